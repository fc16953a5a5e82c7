/-
  Chapter 1, plain: what the decoder tells has no more runes than there were bytes.
-/
import Derived.Test.YtlgffgmfaejmeaaRunes
namespace Go.Proofs.Ytlgffgmfaejmeaa

/-- m codes, one behind the other -/
inductive Codes : Nat → List UInt8 → Prop
  | nil : Codes 0 []
  | one (c : UInt8) (t : List UInt8) (m : Nat) : c.toNat < 128 → Codes m t → Codes (m + 1) (c :: t)
  | more (f : UInt8) (t r : List UInt8) (m : Nat) : needN f.toNat = t.length → t ≠ [] → ext f.toNat 1 t.length t = t.length → Codes m r → Codes (m + 1) (f :: t ++ r)
theorem Codes.append {m k : Nat} {a b : List UInt8} (ha : Codes m a) (hb : Codes k b) : Codes (m + k) (a ++ b) := by
  induction ha with
  | nil => simpa using hb
  | one c t m hc _ ih =>
    rw [show m + 1 + k = m + k + 1 by omega]
    exact .one c _ _ hc ih
  | more f t r m h1 h2 h3 _ ih =>
    rw [show m + 1 + k = m + k + 1 by omega, List.append_assoc]
    exact .more f t _ _ h1 h2 h3 ih
theorem codes_rep : Codes 1 rep := Codes.more 239 [191, 189] [] 0 (by decide) (by simp) (by decide) .nil

theorem ext_snoc (f : Nat) (c : UInt8) (t : List UInt8) : ∀ i m, ext f i m t = t.length → t.length < m → fitsN f (i + t.length) c.toNat = true → ext f i m (t ++ [c]) = t.length + 1 := by
  induction t with
  | nil =>
    intro i m _ hm hf
    obtain ⟨q, rfl⟩ : ∃ q, m = q + 1 := ⟨m - 1, by simp at hm; omega⟩
    simp only [List.length_nil, Nat.add_zero] at hf
    simp [ext, hf]
    cases q <;> rfl
  | cons x t ih =>
    intro i m he hm hf
    obtain ⟨q, rfl⟩ : ∃ q, m = q + 1 := ⟨m - 1, by simp at hm; omega⟩
    rw [ext] at he
    by_cases hx : fitsN f i x.toNat = true
    · rw [if_pos hx] at he
      rw [List.cons_append, ext, if_pos hx, ih (i + 1) q (by simp at he; omega) (by simp at hm; omega) (by rw [show i + 1 + t.length = i + (x :: t).length by simp; omega]; exact hf)]
      rfl
    · rw [if_neg hx] at he
      simp at he

def pend (h : List UInt8) : Nat := match h with | [] => 0 | _ :: _ => 1
theorem fresh_codes (c : UInt8) : ∃ m, Codes m (fresh c).1 ∧ m + pend (fresh c).2 ≤ 1 := by
  unfold fresh
  split
  · rename_i h
    exact ⟨1, .one c [] 0 h .nil, Nat.le_refl _⟩
  · split
    · exact ⟨0, .nil, Nat.le_refl _⟩
    · exact ⟨1, codes_rep, Nat.le_refl _⟩
theorem step_codes {h : List UInt8} (hh : Held h) (c : UInt8) : ∃ m, Codes m (step h c).1 ∧ m + pend (step h c).2 ≤ pend h + 1 := by
  cases h with
  | nil =>
    obtain ⟨m, h1, h2⟩ := fresh_codes c
    exact ⟨m, h1, by rw [show step [] c = fresh c from rfl]; exact h2⟩
  | cons f t =>
    rw [step]
    by_cases hf : fitsN f.toNat (t.length + 1) c.toNat = true
    · rw [if_pos hf]
      by_cases hn : t.length + 1 = needN f.toNat
      · rw [if_pos hn]
        refine ⟨1, ?_, by simp [pend]⟩
        have hb := (held_bgn hh (by simp)).1
        have hl := need_lead (f := f.toNat) (by omega)
        rw [bgn, if_neg (by omega), if_neg (by omega)] at hb
        have he : ext f.toNat 1 (needN f.toNat) t = t.length := by simp at hb; omega
        have h2 := ext_snoc f.toNat c t 1 (needN f.toNat) he (by omega) (by rw [Nat.add_comm 1]; exact hf)
        have := Codes.more f (t ++ [c]) [] 0 (by simp; omega) (by simp) (by rw [show (t ++ [c]).length = needN f.toNat by simp; omega, h2]; omega) .nil
        simpa using this
      · rw [if_neg hn]
        exact ⟨0, .nil, by simp [pend]⟩
    · rw [if_neg hf]
      obtain ⟨m, h1, h2⟩ := fresh_codes c
      refine ⟨1 + m, codes_rep.append h1, ?_⟩
      simp only [pend] at h2 ⊢
      omega
theorem run_codes (l : List UInt8) : ∀ h, Held h → ∃ m, Codes m (dOut h l) ∧ m + pend (dHeld h l) ≤ pend h + l.length := by
  induction l with
  | nil => intro h _; exact ⟨0, .nil, by simp [dHeld]⟩
  | cons c l ih =>
    intro h hh
    obtain ⟨m, h1, h2⟩ := step_codes hh c
    obtain ⟨k, h3, h4⟩ := ih _ (step_fixed hh c).2
    refine ⟨m + k, h1.append h3, ?_⟩
    simp only [dHeld, List.length_cons]
    omega
theorem W_codes (l : List UInt8) : ∃ m, Codes m (W [] l) ∧ m ≤ l.length := by
  obtain ⟨m, h1, h2⟩ := run_codes l [] Held.nil
  rw [W]
  cases hh : dHeld [] l with
  | nil =>
    rw [hh] at h2
    exact ⟨m, by simpa [clo] using h1, by simp only [pend] at h2; omega⟩
  | cons f t =>
    rw [hh] at h2
    exact ⟨m + 1, h1.append codes_rep, by simp only [pend] at h2; omega⟩

theorem get_at (s : ByteArray) (i k : Nat) (x : UInt8) (h : ((bs s).drop i)[k]? = some x) : s.get! (i + k) = x ∧ i + k < s.size := by
  rw [List.getElem?_drop] at h
  obtain ⟨h1, h2⟩ := List.getElem?_eq_some_iff.1 h
  rw [size_bs]
  refine ⟨?_, h1⟩
  cases s with
  | mk d =>
    have h3 : i + k < d.size := by simpa [bs] using h1
    simp only [ByteArray.get!]
    rw [getElem!_pos d (i + k) h3]
    exact h2
theorem width_one (s : ByteArray) (i : Nat) (c : UInt8) (r : List UInt8) (hd : (bs s).drop i = c :: r) (hc : c.toNat < 128) : (Utf8.decode s i).2 = 1 := by
  obtain ⟨h1, _⟩ := get_at s i 0 c (by rw [hd]; rfl)
  unfold Utf8.decode
  simp only [h1, hc, if_true]
theorem width_two (s : ByteArray) (i : Nat) (f a : UInt8) (r : List UInt8) (hd : (bs s).drop i = f :: a :: r) (hn : needN f.toNat = 1) (ha : fitsN f.toNat 1 a.toNat = true) : (Utf8.decode s i).2 = 2 := by
  obtain ⟨h0, _⟩ := get_at s i 0 f (by rw [hd]; rfl)
  obtain ⟨h1, k1⟩ := get_at s i 1 a (by rw [hd]; rfl)
  have hr := fits_range ha
  have hf : 194 ≤ f.toNat ∧ f.toNat ≤ 223 := by
    unfold needN at hn
    split at hn
    · omega
    · split at hn
      · omega
      · split at hn <;> omega
  unfold Utf8.decode
  simp only [h0, h1, k1]
  rw [if_neg (by omega), if_pos (by simp; omega), if_pos (by omega)]
theorem width_three (s : ByteArray) (i : Nat) (f a b : UInt8) (r : List UInt8) (hd : (bs s).drop i = f :: a :: b :: r) (hn : needN f.toNat = 2) (ha : fitsN f.toNat 1 a.toNat = true) (hb : fitsN f.toNat 2 b.toNat = true) : (Utf8.decode s i).2 = 3 := by
  obtain ⟨h0, _⟩ := get_at s i 0 f (by rw [hd]; rfl)
  obtain ⟨h1, k1⟩ := get_at s i 1 a (by rw [hd]; rfl)
  obtain ⟨h2, k2⟩ := get_at s i 2 b (by rw [hd]; rfl)
  have hr := fits_range ha
  have hr2 := fits_range hb
  have hf : 224 ≤ f.toNat ∧ f.toNat ≤ 239 := by
    unfold needN at hn
    split at hn
    · omega
    · split at hn
      · omega
      · split at hn <;> omega
  have hlo : f.toNat = 224 → 160 ≤ a.toNat := by
    intro e
    rw [fitsN, if_pos rfl, if_pos rfl] at ha
    simp [loN, e] at ha
    omega
  have hhi : f.toNat = 237 → a.toNat ≤ 159 := by
    intro e
    rw [fitsN, if_pos rfl, if_pos rfl] at ha
    simp [hiN, e] at ha
    omega
  unfold Utf8.decode
  simp only [h0, h1, h2, k1, k2]
  rw [if_neg (by omega), if_neg (by simp; omega), if_pos (by simp; omega), if_pos]
  simp [Utf8.valid]
  omega
theorem width_four (s : ByteArray) (i : Nat) (f a b c : UInt8) (r : List UInt8) (hd : (bs s).drop i = f :: a :: b :: c :: r) (hn : needN f.toNat = 3) (ha : fitsN f.toNat 1 a.toNat = true) (hb : fitsN f.toNat 2 b.toNat = true) (hc : fitsN f.toNat 3 c.toNat = true) : (Utf8.decode s i).2 = 4 := by
  obtain ⟨h0, _⟩ := get_at s i 0 f (by rw [hd]; rfl)
  obtain ⟨h1, k1⟩ := get_at s i 1 a (by rw [hd]; rfl)
  obtain ⟨h2, k2⟩ := get_at s i 2 b (by rw [hd]; rfl)
  obtain ⟨h3, k3⟩ := get_at s i 3 c (by rw [hd]; rfl)
  have hr := fits_range ha
  have hr2 := fits_range hb
  have hr3 := fits_range hc
  have hf : 240 ≤ f.toNat ∧ f.toNat ≤ 244 := by
    unfold needN at hn
    split at hn
    · omega
    · split at hn
      · omega
      · split at hn <;> omega
  have hlo : f.toNat = 240 → 144 ≤ a.toNat := by
    intro e
    rw [fitsN, if_pos rfl, if_pos rfl] at ha
    simp [loN, e] at ha
    omega
  have hhi : f.toNat = 244 → a.toNat ≤ 143 := by
    intro e
    rw [fitsN, if_pos rfl, if_pos rfl] at ha
    simp [hiN, e] at ha
    omega
  unfold Utf8.decode
  simp only [h0, h1, h2, h3, k1, k2, k3]
  rw [if_neg (by omega), if_neg (by simp; omega), if_neg (by simp; omega), if_pos (by simp; omega), if_pos]
  simp [Utf8.valid]
  omega
theorem width_more (s : ByteArray) (i : Nat) (f : UInt8) (t r : List UInt8) (hd : (bs s).drop i = f :: t ++ r) (hn : needN f.toNat = t.length) (hne : t ≠ []) (he : ext f.toNat 1 t.length t = t.length) : (Utf8.decode s i).2 = t.length + 1 := by
  have h3 := need_le f.toNat
  match t, hn, hne, he, hd with
  | [], _, hne, _, _ => exact (hne rfl).elim
  | [a], hn, _, he, hd =>
    simp only [List.length_cons, List.length_nil, ext] at he
    have ha : fitsN f.toNat 1 a.toNat = true := by
      by_cases h : fitsN f.toNat 1 a.toNat = true
      · exact h
      · rw [if_neg h] at he
        omega
    exact width_two s i f a r hd hn ha
  | [a, b], hn, _, he, hd =>
    simp only [List.length_cons, List.length_nil, ext] at he
    have ha : fitsN f.toNat 1 a.toNat = true := by
      by_cases h : fitsN f.toNat 1 a.toNat = true
      · exact h
      · rw [if_neg h] at he
        omega
    rw [if_pos ha] at he
    have hb : fitsN f.toNat 2 b.toNat = true := by
      by_cases h : fitsN f.toNat 2 b.toNat = true
      · exact h
      · rw [if_neg h] at he
        omega
    exact width_three s i f a b r hd hn ha hb
  | [a, b, c], hn, _, he, hd =>
    simp only [List.length_cons, List.length_nil, ext] at he
    have ha : fitsN f.toNat 1 a.toNat = true := by
      by_cases h : fitsN f.toNat 1 a.toNat = true
      · exact h
      · rw [if_neg h] at he
        omega
    rw [if_pos ha] at he
    have hb : fitsN f.toNat 2 b.toNat = true := by
      by_cases h : fitsN f.toNat 2 b.toNat = true
      · exact h
      · rw [if_neg h] at he
        omega
    rw [if_pos hb] at he
    have hc : fitsN f.toNat 3 c.toNat = true := by
      by_cases h : fitsN f.toNat 3 c.toNat = true
      · exact h
      · rw [if_neg h] at he
        omega
    exact width_four s i f a b c r hd hn ha hb hc
  | a :: b :: c :: d :: t, hn, _, _, _ => simp at hn; omega

theorem runes_codes (s : ByteArray) : ∀ b i m, Codes m ((bs s).drop i) → (runeList s b i).length ≤ m
  | 0, _, _, _ => by simp [runeList]
  | b + 1, i, m, hc => by
    unfold runeList
    split
    · rename_i hi
      generalize hd : (bs s).drop i = L at hc
      cases hc with
      | nil =>
        have := congrArg List.length hd
        rw [List.length_drop, ← size_bs] at this
        simp at this
        omega
      | one c t m h1 h2 =>
        rw [width_one s i c t hd h1]
        have h3 : (bs s).drop (i + 1) = t := by rw [← List.drop_drop, hd]; rfl
        have := runes_codes s b (i + 1) m (by rw [h3]; exact h2)
        simp
        exact this
      | more f t r m h1 h2 h3 h4 =>
        rw [width_more s i f t r hd h1 h2 h3]
        have h5 : (bs s).drop (i + (t.length + 1)) = r := by
          rw [← List.drop_drop, hd]
          simp
        have := runes_codes s b (i + (t.length + 1)) m (by rw [h5]; exact h4)
        simp
        exact this
    · simp
theorem W_runes (l : List UInt8) : (runeList (str (W [] l)) (str (W [] l)).size 0).length ≤ l.length := by
  obtain ⟨m, h1, h2⟩ := W_codes l
  have := runes_codes (str (W [] l)) (str (W [] l)).size 0 m (by simpa [bs_str] using h1)
  omega
end Go.Proofs.Ytlgffgmfaejmeaa
