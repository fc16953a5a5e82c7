/-
  Chapter 1, the plain law: the decoder on lists of bytes, and the reference's way to the same text. No program in sight.
-/
import Derived.Test.YtlgffgmfaejmeaaStr
namespace Go.Proofs.Ytlgffgmfaejmeaa

def needN (c : Nat) : Nat := if 194 ≤ c ∧ c ≤ 223 then 1 else if 224 ≤ c ∧ c ≤ 239 then 2 else if 240 ≤ c ∧ c ≤ 244 then 3 else 0
def loN (c : Nat) : Nat := if c = 224 then 160 else if c = 240 then 144 else 128
def hiN (c : Nat) : Nat := if c = 237 then 159 else if c = 244 then 143 else 191
def fitsN (f i c : Nat) : Bool := decide ((if i = 1 then loN f else 128) ≤ c) && decide (c ≤ (if i = 1 then hiN f else 191))
def rep : List UInt8 := [239, 191, 189]
theorem lo_ge (f : Nat) : 128 ≤ loN f := by unfold loN; split <;> (try split) <;> omega
theorem hi_le (f : Nat) : hiN f ≤ 191 := by unfold hiN; split <;> (try split) <;> omega
theorem need_le (f : Nat) : needN f ≤ 3 := by unfold needN; split <;> (try split) <;> (try split) <;> omega
theorem need_lead {f : Nat} (h : needN f ≠ 0) : 194 ≤ f := by
  unfold needN at h
  split at h
  · omega
  · split at h
    · omega
    · split at h
      · omega
      · exact absurd rfl h
theorem fits_range {f i c : Nat} (h : fitsN f i c = true) : 128 ≤ c ∧ c ≤ 191 := by
  unfold fitsN at h
  have h1 := lo_ge f
  have h2 := hi_le f
  simp only [Bool.and_eq_true, decide_eq_true_eq] at h
  obtain ⟨ha, hb⟩ := h
  constructor
  · split at ha <;> omega
  · split at hb <;> omega

def fresh (c : UInt8) : List UInt8 × List UInt8 := if c.toNat < 128 then ([c], []) else if needN c.toNat ≠ 0 then ([], [c]) else (rep, [])
def step (h : List UInt8) (c : UInt8) : List UInt8 × List UInt8 :=
  match h with
  | [] => fresh c
  | f :: t =>
    if fitsN f.toNat (t.length + 1) c.toNat = true then (if t.length + 1 = needN f.toNat then (f :: t ++ [c], []) else ([], f :: t ++ [c]))
    else (rep ++ (fresh c).1, (fresh c).2)
def dOut (h : List UInt8) : List UInt8 → List UInt8
  | [] => []
  | c :: l => (step h c).1 ++ dOut (step h c).2 l
def dHeld (h : List UInt8) : List UInt8 → List UInt8
  | [] => h
  | c :: l => dHeld (step h c).2 l
def clo (h : List UInt8) : List UInt8 := match h with | [] => [] | _ :: _ => rep
/-- the text of h held back and l behind it, to the end -/
def W (h l : List UInt8) : List UInt8 := dOut h l ++ clo (dHeld h l)

theorem dOut_append (a b : List UInt8) : ∀ h, dOut h (a ++ b) = dOut h a ++ dOut (dHeld h a) b := by
  induction a with
  | nil => intro h; rfl
  | cons c l ih => intro h; simp only [List.cons_append, dOut, dHeld, ih, List.append_assoc]
theorem dHeld_append (a b : List UInt8) : ∀ h, dHeld h (a ++ b) = dHeld (dHeld h a) b := by
  induction a with
  | nil => intro h; rfl
  | cons c l ih => intro h; simp only [List.cons_append, dHeld, ih]
theorem W_cons (h : List UInt8) (c : UInt8) (l : List UInt8) : W h (c :: l) = (step h c).1 ++ W (step h c).2 l := by
  simp only [W, dOut, dHeld, List.append_assoc]
theorem W_append (h a b : List UInt8) : W h (a ++ b) = dOut h a ++ W (dHeld h a) b := by
  simp only [W, dOut_append, dHeld_append, List.append_assoc]

/-- h is what a new decoder holds back when it has seen h and nothing else -/
def Held (h : List UInt8) : Prop := dOut [] h = [] ∧ dHeld [] h = h
/-- l is told as it is, and nothing is held back -/
def Fixed (l : List UInt8) : Prop := dOut [] l = l ∧ dHeld [] l = []
theorem Held.nil : Held [] := ⟨rfl, rfl⟩
theorem Fixed.nil : Fixed [] := ⟨rfl, rfl⟩
theorem Fixed.rep : Fixed rep := by constructor <;> decide
theorem Fixed.append {a b : List UInt8} (ha : Fixed a) (hb : Fixed b) : Fixed (a ++ b) := by
  constructor
  · rw [dOut_append, ha.1, ha.2, hb.1]
  · rw [dHeld_append, ha.2, hb.2]
theorem Fixed.W {a : List UInt8} (h : Fixed a) : W [] a = a := by rw [Ytlgffgmfaejmeaa.W, h.1, h.2]; exact List.append_nil _
theorem fresh_fixed (c : UInt8) : Fixed (fresh c).1 ∧ Held (fresh c).2 := by
  unfold fresh
  split
  · rename_i h
    refine ⟨⟨?_, ?_⟩, Held.nil⟩
    · show (fresh c).1 ++ [] = [c]
      rw [fresh, if_pos h]; rfl
    · show (fresh c).2 = []
      rw [fresh, if_pos h]
  · rename_i h
    split
    · rename_i h2
      refine ⟨Fixed.nil, ⟨?_, ?_⟩⟩
      · show (fresh c).1 ++ [] = []
        rw [fresh, if_neg h, if_pos h2]; rfl
      · show (fresh c).2 = [c]
        rw [fresh, if_neg h, if_pos h2]
    · exact ⟨Fixed.rep, Held.nil⟩
theorem step_fixed {h : List UInt8} (hh : Held h) (c : UInt8) : Fixed (step h c).1 ∧ Held (step h c).2 := by
  cases h with
  | nil => exact fresh_fixed c
  | cons f t =>
    rw [step]
    split
    · rename_i hf
      have e1 : dOut [] (f :: t ++ [c]) = (step (f :: t) c).1 := by
        rw [dOut_append, hh.1, hh.2]
        simp [dOut]
      have e2 : dHeld [] (f :: t ++ [c]) = (step (f :: t) c).2 := by
        rw [dHeld_append, hh.2]
        rfl
      rw [step, if_pos hf] at e1 e2
      split
      · rename_i hn
        rw [if_pos hn] at e1 e2
        exact ⟨⟨e1, e2⟩, Held.nil⟩
      · rename_i hn
        rw [if_neg hn] at e1 e2
        exact ⟨Fixed.nil, ⟨e1, e2⟩⟩
    · exact ⟨Fixed.rep.append (fresh_fixed c).1, (fresh_fixed c).2⟩
theorem held_run (l : List UInt8) : ∀ h, Held h → Held (dHeld h l) := by
  induction l with
  | nil => intro h hh; exact hh
  | cons c l ih => intro h hh; exact ih _ (step_fixed hh c).2
theorem fixed_run (l : List UInt8) : ∀ h, Held h → Fixed (dOut h l) := by
  induction l with
  | nil => intro h hh; exact Fixed.nil
  | cons c l ih => intro h hh; exact (step_fixed hh c).1.append (ih _ (step_fixed hh c).2)
theorem fixed_clo (h : List UInt8) : Fixed (clo h) := by
  cases h with
  | nil => exact Fixed.nil
  | cons => exact Fixed.rep
theorem fixed_W (l : List UInt8) {h : List UInt8} (hh : Held h) : Fixed (W h l) := (fixed_run l h hh).append (fixed_clo _)
theorem valid_fixed {a : List UInt8} (h : W [] a = a) : Fixed a := by
  rw [← h]
  exact fixed_W a Held.nil

/-- what is held back begins a code that needs more bytes yet -/
def Short (h : List UInt8) : Prop := match h with | [] => True | f :: t => t.length < needN f.toNat
theorem fresh_short (c : UInt8) : Short (fresh c).2 := by
  unfold fresh
  split
  · trivial
  · split
    · rename_i h2
      show 0 < needN c.toNat
      omega
    · trivial
theorem step_short {h : List UInt8} (hs : Short h) (c : UInt8) : Short (step h c).2 := by
  cases h with
  | nil => exact fresh_short c
  | cons f t =>
    rw [step]
    split
    · split
      · trivial
      · rename_i hn
        have h1 : t.length < needN f.toNat := hs
        show (t ++ [c]).length < needN f.toNat
        simp
        omega
    · exact fresh_short c
theorem short_run (l : List UInt8) : ∀ h, Short h → Short (dHeld h l) := by
  induction l with
  | nil => intro h hh; exact hh
  | cons c l ih => intro h hh; exact ih _ (step_short hh c)
theorem short_len {h : List UInt8} (hs : Short h) : h.length ≤ 3 := by
  cases h with
  | nil => simp
  | cons f t =>
    have h1 : t.length < needN f.toNat := hs
    have := need_le f.toNat
    simp
    omega
theorem step_len {h : List UInt8} (hs : Short h) (c : UInt8) : (step h c).1.length + 3 * (step h c).2.length ≤ 3 * h.length + 3 := by
  have hf : (fresh c).1.length + 3 * (fresh c).2.length ≤ 3 := by
    unfold fresh
    split
    · simp
    · split
      · simp
      · simp [rep]
  cases h with
  | nil => simpa [step] using hf
  | cons f t =>
    rw [step]
    split
    · split
      · simp; omega
      · simp; omega
    · simp [rep]; omega
theorem run_len (l : List UInt8) : ∀ h, Short h → (dOut h l).length + 3 * (dHeld h l).length ≤ 3 * h.length + 3 * l.length := by
  induction l with
  | nil => intro h hh; simp [dOut, dHeld]
  | cons c l ih =>
    intro h hh
    have h1 := step_len hh c
    have h2 := ih _ (step_short hh c)
    simp only [dOut, dHeld, List.length_append, List.length_cons]
    omega
theorem clo_len (h : List UInt8) : (clo h).length ≤ 3 * h.length := by
  cases h with
  | nil => simp [clo]
  | cons f t => simp [clo, rep]; omega
theorem W_len (h l : List UInt8) (hs : Short h) : (W h l).length ≤ 3 * h.length + 3 * l.length := by
  have h1 := run_len l h hs
  have h2 := clo_len (dHeld h l)
  rw [W, List.length_append]
  omega
theorem fresh_ne (c : UInt8) : (fresh c).1 ≠ [] ∨ (fresh c).2 ≠ [] := by
  unfold fresh
  split
  · left; simp
  · split
    · right; simp
    · left; simp [rep]
theorem step_ne (h : List UInt8) (c : UInt8) : (step h c).1 ≠ [] ∨ (step h c).2 ≠ [] := by
  cases h with
  | nil => exact fresh_ne c
  | cons f t =>
    rw [step]
    split
    · split
      · left; simp
      · right; simp
    · left; simp [rep]
theorem W_ne (l : List UInt8) : ∀ h, h ≠ [] ∨ l ≠ [] → W h l ≠ [] := by
  induction l with
  | nil =>
    intro h hh
    cases h with
    | nil => simp at hh
    | cons f t => simp [W, dOut, dHeld, clo, rep]
  | cons c l ih =>
    intro h _
    rw [W_cons]
    rcases step_ne h c with h1 | h1
    · simp [h1]
    · have := ih _ (.inl h1)
      simp [this]

/-! ### the reference -/
def ext (f : Nat) : Nat → Nat → List UInt8 → Nat
  | _, 0, _ => 0
  | _, _ + 1, [] => 0
  | i, m + 1, c :: l => if fitsN f i c.toNat = true then ext f (i + 1) m l + 1 else 0
theorem ext_le (f : Nat) (l : List UInt8) : ∀ i m, ext f i m l ≤ m ∧ ext f i m l ≤ l.length := by
  induction l with
  | nil => intro i m; cases m <;> simp [ext]
  | cons c l ih =>
    intro i m
    cases m with
    | zero => simp [ext]
    | succ m =>
      rw [ext]
      split
      · have := ih (i + 1) m
        simp
        omega
      · simp
def bgn (l : List UInt8) : Nat × Bool :=
  match l with
  | [] => (0, false)
  | f :: l => if f.toNat < 128 then (1, true) else if needN f.toNat = 0 then (0, false) else (1 + ext f.toNat 1 (needN f.toNat) l, ext f.toNat 1 (needN f.toNat) l == needN f.toNat)
theorem bgn_le (l : List UInt8) : (bgn l).1 ≤ l.length ∧ ((bgn l).2 = true → 0 < (bgn l).1) := by
  cases l with
  | nil => simp [bgn]
  | cons f l =>
    rw [bgn]
    have := ext_le f.toNat l 1 (needN f.toNat)
    split
    · simp
    · split
      · simp
      · simp; omega
theorem drop_len (l : List UInt8) (h : l ≠ []) (n : Nat) : (l.drop (max n 1)).length < l.length := by
  have : 0 < l.length := List.length_pos_iff.2 h
  rw [List.length_drop]
  omega
theorem W_held (f : UInt8) (l : List UInt8) : ∀ t : List UInt8, t.length < needN f.toNat →
    W (f :: t) l = if t.length + ext f.toNat (t.length + 1) (needN f.toNat - t.length) l = needN f.toNat
      then f :: t ++ l.take (ext f.toNat (t.length + 1) (needN f.toNat - t.length) l) ++ W [] (l.drop (ext f.toNat (t.length + 1) (needN f.toNat - t.length) l))
      else rep ++ W [] (l.drop (ext f.toNat (t.length + 1) (needN f.toNat - t.length) l)) := by
  induction l with
  | nil =>
    intro t ht
    obtain ⟨m, hm⟩ : ∃ m, needN f.toNat - t.length = m + 1 := ⟨needN f.toNat - t.length - 1, by omega⟩
    rw [hm, ext, if_neg (by omega)]
    rfl
  | cons c l ih =>
    intro t ht
    obtain ⟨m, hm⟩ : ∃ m, needN f.toNat - t.length = m + 1 := ⟨needN f.toNat - t.length - 1, by omega⟩
    rw [hm, ext, W_cons, step]
    by_cases hf : fitsN f.toNat (t.length + 1) c.toNat = true
    · rw [if_pos hf, if_pos hf]
      by_cases hn : t.length + 1 = needN f.toNat
      · rw [if_pos hn]
        obtain rfl : m = 0 := by omega
        rw [if_pos (by simp [ext]; exact hn)]
        simp [ext]
      · rw [if_neg hn]
        have h1 := ih (t ++ [c]) (by simp; omega)
        rw [List.length_append, List.length_singleton, show needN f.toNat - (t.length + 1) = m by omega] at h1
        dsimp only
        rw [List.nil_append, show f :: t ++ [c] = f :: (t ++ [c]) from rfl, h1]
        generalize ext f.toNat (t.length + 1 + 1) m l = e
        by_cases h2 : t.length + 1 + e = needN f.toNat
        · rw [if_pos h2, if_pos (by omega)]
          simp
        · rw [if_neg h2, if_neg (by omega)]
          simp
    · rw [if_neg hf, if_neg hf, if_neg (by omega)]
      dsimp only
      rw [List.drop_zero, W_cons, List.append_assoc]
      rfl
/-- one pass of the reference's loop -/
theorem W_bgn (l : List UInt8) (h : l ≠ []) : W [] l = (if (bgn l).2 = true then l.take (bgn l).1 else rep) ++ W [] (l.drop (max (bgn l).1 1)) := by
  cases l with
  | nil => exact (h rfl).elim
  | cons f l =>
    rw [W_cons, bgn, step, fresh]
    by_cases h1 : f.toNat < 128
    · rw [if_pos h1, if_pos h1]
      simp
    · rw [if_neg h1, if_neg h1]
      by_cases h2 : needN f.toNat = 0
      · rw [if_neg (by simpa using h2), if_pos h2]
        simp
      · rw [if_pos h2, if_neg h2]
        dsimp only
        rw [List.nil_append, W_held f l [] (by simp; omega)]
        simp only [List.length_nil, Nat.zero_add, Nat.sub_zero]
        generalize ext f.toNat 1 (needN f.toNat) l = e
        rw [show max (1 + e) 1 = e + 1 by omega, List.drop_succ_cons]
        by_cases h3 : e = needN f.toNat
        · rw [if_pos h3, if_pos (by simpa using h3), Nat.add_comm 1 e, List.take_succ_cons]
          simp
        · rw [if_neg h3, if_neg (by simpa using h3)]
/-- the reference's Valid: one pass -/
theorem valid_bgn (l : List UInt8) (h : l ≠ []) : decide (W [] l = l) = ((bgn l).2 && decide (W [] (l.drop (bgn l).1) = l.drop (bgn l).1)) := by
  have h1 := W_bgn l h
  have h2 := bgn_le l
  cases hb : (bgn l).2 with
  | true =>
    have h3 := h2.2 hb
    rw [hb, if_pos rfl, show max (bgn l).1 1 = (bgn l).1 by omega] at h1
    rw [Bool.true_and, h1]
    refine decide_eq_decide.2 ⟨fun e => ?_, fun e => ?_⟩
    · conv at e => rhs; rw [← List.take_append_drop (bgn l).1 l]
      exact List.append_cancel_left e
    · rw [e, List.take_append_drop]
  | false =>
    rw [Bool.false_and]
    rw [decide_eq_false_iff_not]
    intro e
    rw [hb, if_neg (by simp), e] at h1
    rw [h1] at hb
    revert hb
    generalize W [] (l.drop (max (bgn l).1 1)) = z
    intro hb
    have : (bgn (rep ++ z)).2 = true := by
      show (if (239 : UInt8).toNat < 128 then (1, true) else if needN (239 : UInt8).toNat = 0 then (0, false) else (1 + ext (239 : UInt8).toNat 1 (needN (239 : UInt8).toNat) (191 :: 189 :: z), ext (239 : UInt8).toNat 1 (needN (239 : UInt8).toNat) (191 :: 189 :: z) == needN (239 : UInt8).toNat)).2 = true
      rw [show needN (239 : UInt8).toNat = 2 by decide]
      rw [if_neg (by decide), if_neg (by decide)]
      simp only [ext]
      rw [if_pos (by decide), if_pos (by decide)]
      rfl
    rw [this] at hb
    cases hb

/-- the bytes of l all fit behind f :: t, and the code is not whole -/
theorem bgn_held (f : UInt8) (l : List UInt8) : ∀ t : List UInt8, t.length < needN f.toNat → ext f.toNat (t.length + 1) (needN f.toNat - t.length) l = l.length → t.length + l.length < needN f.toNat →
    dOut (f :: t) l = [] ∧ dHeld (f :: t) l = f :: t ++ l := by
  induction l with
  | nil => intro t _ _ _; simp [dOut, dHeld]
  | cons c l ih =>
    intro t ht he hl
    obtain ⟨m, hm⟩ : ∃ m, needN f.toNat - t.length = m + 1 := ⟨needN f.toNat - t.length - 1, by omega⟩
    rw [hm, ext] at he
    simp only [List.length_cons] at he hl
    by_cases hf : fitsN f.toNat (t.length + 1) c.toNat = true
    · rw [if_pos hf] at he
      have h1 := ih (t ++ [c]) (by simp; omega) (by rw [List.length_append, List.length_singleton, show needN f.toNat - (t.length + 1) = m by omega]; omega) (by simp; omega)
      rw [dOut, dHeld, step, if_pos hf, if_neg (by omega)]
      dsimp only
      rw [show f :: t ++ [c] = f :: (t ++ [c]) from rfl, h1.1, h1.2]
      simp
    · rw [if_neg hf] at he
      omega
/-- bytes that begin a code and are none: what is ahead of them is told to the end, and they are held back -/
theorem tail_held (pre tail : List UInt8) (h0 : List UInt8) (hne : tail ≠ []) (hb : (bgn tail).1 = tail.length ∧ (bgn tail).2 = false) :
    dHeld h0 (pre ++ tail) = tail ∧ dOut h0 (pre ++ tail) = W h0 pre := by
  rw [dHeld_append, dOut_append, W]
  generalize dHeld h0 pre = h
  cases tail with
  | nil => exact (hne rfl).elim
  | cons f l =>
    rw [bgn] at hb
    by_cases h1 : f.toNat < 128
    · rw [if_pos h1] at hb
      simp at hb
    · rw [if_neg h1] at hb
      by_cases h2 : needN f.toNat = 0
      · rw [if_pos h2] at hb
        simp at hb
      · rw [if_neg h2] at hb
        obtain ⟨hb1, hb2⟩ := hb
        simp only [List.length_cons, beq_eq_false_iff_ne] at hb1 hb2
        have hle := ext_le f.toNat l 1 (needN f.toNat)
        have key := bgn_held f l [] (by simp; omega) (by simp; omega) (by simp; omega)
        have hfr : fresh f = ([], [f]) := by rw [fresh, if_neg h1, if_pos h2]
        have hst : step h f = (clo h, [f]) := by
          cases h with
          | nil => exact hfr
          | cons g t =>
            have hno : ¬ fitsN g.toNat (t.length + 1) f.toNat = true := fun hf => by
              have := fits_range hf
              have := need_lead h2
              omega
            rw [step, if_neg hno, hfr]
            simp [clo]
        rw [dHeld, dOut, hst]
        dsimp only
        rw [key.1, key.2]
        simp
/-- what is held back: begins a code and is none -/
theorem none_ext (f : UInt8) (l : List UInt8) : ∀ t : List UInt8, t.length < needN f.toNat → dOut (f :: t) l = [] → ext f.toNat (t.length + 1) (needN f.toNat - t.length) l = l.length ∧ t.length + l.length < needN f.toNat := by
  induction l with
  | nil =>
    intro t ht _
    obtain ⟨m, hm⟩ : ∃ m, needN f.toNat - t.length = m + 1 := ⟨needN f.toNat - t.length - 1, by omega⟩
    rw [hm, ext]
    exact ⟨rfl, ht⟩
  | cons c l ih =>
    intro t ht he
    obtain ⟨m, hm⟩ : ∃ m, needN f.toNat - t.length = m + 1 := ⟨needN f.toNat - t.length - 1, by omega⟩
    rw [dOut, step] at he
    rw [hm, ext]
    by_cases hf : fitsN f.toNat (t.length + 1) c.toNat = true
    · rw [if_pos hf] at he ⊢
      by_cases hn : t.length + 1 = needN f.toNat
      · rw [if_pos hn] at he
        simp at he
      · rw [if_neg hn] at he
        have h1 := ih (t ++ [c]) (by simp; omega) (by simpa using he)
        rw [List.length_append, List.length_singleton, show needN f.toNat - (t.length + 1) = m by omega] at h1
        simp only [List.length_cons]
        omega
    · rw [if_neg hf] at he
      simp [rep] at he
theorem held_bgn {h : List UInt8} (hh : Held h) (hne : h ≠ []) : (bgn h).1 = h.length ∧ (bgn h).2 = false := by
  cases h with
  | nil => exact (hne rfl).elim
  | cons f l =>
    have h1 := hh.1
    rw [dOut, show step [] f = fresh f from rfl, fresh] at h1
    rw [bgn]
    by_cases ha : f.toNat < 128
    · rw [if_pos ha] at h1
      simp at h1
    · rw [if_neg ha] at h1 ⊢
      by_cases hb : needN f.toNat = 0
      · rw [if_neg (by simpa using hb)] at h1
        simp [rep] at h1
      · rw [if_pos hb] at h1
        have h2 := none_ext f l [] (by simp; omega) (by simpa using h1)
        simp only [List.length_nil, Nat.zero_add, Nat.sub_zero] at h2
        rw [if_neg hb]
        simp only [List.length_cons, beq_eq_false_iff_ne]
        omega
theorem held_suffix (l : List UInt8) : ∀ h, ∃ pre, h ++ l = pre ++ dHeld h l := by
  induction l with
  | nil => intro h; exact ⟨[], by simp [dHeld]⟩
  | cons c l ih =>
    intro h
    obtain ⟨pre, hp⟩ := ih (step h c).2
    have : ∃ q, h ++ [c] = q ++ (step h c).2 := by
      have hfr : ∃ q, [c] = q ++ (fresh c).2 := by
        unfold fresh
        split
        · exact ⟨[c], by simp⟩
        · split
          · exact ⟨[], rfl⟩
          · exact ⟨[c], by simp⟩
      cases h with
      | nil => exact hfr
      | cons f t =>
        rw [step]
        split
        · split
          · exact ⟨f :: t ++ [c], by simp⟩
          · exact ⟨[], by simp⟩
        · obtain ⟨q, hq⟩ := hfr
          exact ⟨f :: t ++ q, by rw [List.append_assoc, ← hq]⟩
    obtain ⟨q, hq⟩ := this
    refine ⟨q ++ pre, ?_⟩
    rw [dHeld, List.append_assoc, ← hp, ← List.append_assoc, ← hq, List.append_assoc]
    rfl
end Go.Proofs.Ytlgffgmfaejmeaa
