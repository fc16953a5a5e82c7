/-
  A text, escaped: rune by rune, byte by byte, and back: plain.
-/
import Derived.Lib.MapLaws
import Derived.Lib.TrimUEq
import Derived.Lib.Strings
namespace Go.Proofs.YtblbcojkjknfdaaDoor
open Go.Lib

abbrev Bys : Type := List UInt8
def ampB : Bys := [38, 97, 109, 112, 59]
def ltB : Bys := [38, 108, 116, 59]
def gtB : Bys := [38, 103, 116, 59]
def quotB : Bys := [38, 113, 117, 111, 116, 59]
def nbspB : Bys := [38, 110, 98, 115, 112, 59]
/-- a byte, escaped -/
def pieceB (attr : Bool) (c : UInt8) : Bys :=
  if c = 38 then ampB else if c = 60 then ltB else if c = 62 then gtB else if c = 34 ∧ attr = true then quotB else [c]
/-- a text, escaped byte by byte -/
def escB (attr : Bool) : Bys → Bys
  | [] => []
  | [c] => pieceB attr c
  | c :: d :: l => if c = 194 ∧ d = 160 then nbspB ++ escB attr l else pieceB attr c ++ escB attr (d :: l)
theorem escB_nbsp (attr : Bool) (l : Bys) : escB attr (194 :: 160 :: l) = nbspB ++ escB attr l := by
  rw [escB, if_pos ⟨rfl, rfl⟩]
theorem escB_cons (attr : Bool) (c : UInt8) (l : Bys) (h : ¬ (c = 194 ∧ l.head? = some 160)) : escB attr (c :: l) = pieceB attr c ++ escB attr l := by
  cases l with
  | nil => simp [escB]
  | cons d l =>
    rw [escB, if_neg]
    rintro ⟨h1, h2⟩
    exact h ⟨h1, by rw [h2]; rfl⟩
theorem piece_high (attr : Bool) (c : UInt8) (h : 128 ≤ c.toNat) : pieceB attr c = [c] := by
  unfold pieceB
  rw [if_neg (by rintro rfl; exact absurd h (by decide)), if_neg (by rintro rfl; exact absurd h (by decide)), if_neg (by rintro rfl; exact absurd h (by decide)), if_neg (by rintro ⟨rfl, _⟩; exact absurd h (by decide))]
/-- bytes that go on a rune stay -/
theorem escB_cont (attr : Bool) (p t : Bys) (h : ∀ c ∈ p, c.toNat / 64 = 2) : escB attr (p ++ t) = p ++ escB attr t := by
  induction p with
  | nil => rfl
  | cons c p ih =>
    have hc := h c (by simp)
    rw [List.cons_append, escB_cons _ _ _ (by rintro ⟨rfl, _⟩; exact absurd hc (by decide)), piece_high _ _ (by omega), ih fun d hd => h d (by simp [hd])]
    rfl
theorem piece_len (attr : Bool) (c : UInt8) : (pieceB attr c).length ≤ 6 := by
  unfold pieceB
  repeat' split
  all_goals simp [ampB, ltB, gtB, quotB]
theorem escB_len (attr : Bool) (l : Bys) : (escB attr l).length ≤ 6 * l.length := by
  fun_induction escB attr l with
  | case1 => simp
  | case2 c => have := piece_len attr c; simpa using this
  | case3 c d l h ih => simp [nbspB] at *; omega
  | case4 c d l h ih => have := piece_len attr c; simp at *; omega

/-! ### rune by rune -/
def runeErr : Bys := [239, 191, 189]
/-- the bytes of the first rune, where it is U+FFFD, or is none -/
def widthB (l : Bys) : Nat := if runeErr.isPrefixOf l then 3 else 1
/-- what is put for the first rune -/
def pieceD (attr : Bool) (l : Bys) : Bys :=
  if (decodeL l).1 = 38 then ampB else if (decodeL l).1 = 60 then ltB else if (decodeL l).1 = 62 then gtB else if (decodeL l).1 = 160 then nbspB else if (decodeL l).1 = 34 ∧ attr = true then quotB
  else if (decodeL l).1 = 65533 then l.take (widthB l) else encodeRune ((decodeL l).1 : Int)
theorem u8_of {c : UInt8} {n : Nat} (h : c.toNat = n) (hn : n < 256) : c = UInt8.ofNat n := by
  apply UInt8.toNat_inj.1
  rw [h, UInt8.toNat_ofNat_of_lt' (by exact hn)]
theorem piece_at (attr : Bool) (c : UInt8) (h : c.toNat < 128) (l : Bys) (hd : decodeL (c :: l) = (c.toNat, 1)) : pieceD attr (c :: l) = pieceB attr c := by
  have he : encodeRune ((c.toNat : Nat) : Int) = [c] := by
    have := encode_decode (c :: l) (by simp) (by rw [hd]; rintro ⟨h1, _⟩; dsimp only at h1; omega)
    rw [hd] at this
    simpa using this
  have e : ∀ n : Nat, n < 128 → (c.toNat = n ↔ c = UInt8.ofNat n) := fun n hn => ⟨fun h => u8_of h (by omega), fun h => by rw [h, UInt8.toNat_ofNat_of_lt' (by show n < 256; omega)]⟩
  unfold pieceD pieceB
  rw [hd]
  dsimp only
  have e1 : c.toNat = 38 ↔ c = 38 := e 38 (by omega)
  have e2 : c.toNat = 60 ↔ c = 60 := e 60 (by omega)
  have e3 : c.toNat = 62 ↔ c = 62 := e 62 (by omega)
  have e4 : c.toNat = 34 ↔ c = 34 := e 34 (by omega)
  simp only [e1, e2, e3, e4]
  rw [if_neg (show ¬ c.toNat = 160 by omega), if_neg (show ¬ c.toNat = 65533 by omega), he]
theorem pieceD_big {attr : Bool} {l : Bys} {r : Nat} (hr : (decodeL l).1 = r) (h : 160 < r) : pieceD attr l = if r = 65533 then l.take (widthB l) else encodeRune (r : Int) := by
  unfold pieceD
  rw [hr, if_neg (show ¬ r = 38 by omega), if_neg (show ¬ r = 60 by omega), if_neg (show ¬ r = 62 by omega), if_neg (show ¬ r = 160 by omega), if_neg (show ¬ (r = 34 ∧ attr = true) by omega)]
theorem pieceD_err {attr : Bool} {l : Bys} (hr : (decodeL l).1 = 65533) : pieceD attr l = l.take (widthB l) := by
  rw [pieceD_big hr (by decide), if_pos rfl]
theorem pieceD_enc {attr : Bool} {l : Bys} {r : Nat} (hr : (decodeL l).1 = r) (h : 160 < r) (hn : r ≠ 65533) : pieceD attr l = encodeRune (r : Int) := by
  rw [pieceD_big hr h, if_neg hn]
theorem two_of {c : UInt8} : ∀ {t : Bys}, 2 < (c :: t).length → ∃ d f u, t = d :: f :: u
  | [], h => by simp at h
  | [_], h => by simp at h
  | d :: f :: u, _ => ⟨d, f, u, rfl⟩
theorem three_of {c : UInt8} : ∀ {t : Bys}, 3 < (c :: t).length → ∃ d f g u, t = d :: f :: g :: u
  | [], h => by simp at h
  | [_], h => by simp at h
  | [_, _], h => by simp at h
  | d :: f :: g :: u, _ => ⟨d, f, g, u, rfl⟩
set_option maxRecDepth 100000 in
set_option maxHeartbeats 1000000 in
theorem esc_step (attr : Bool) (l : Bys) (hne : l ≠ []) : escB attr l = pieceD attr l ++ escB attr (l.drop (decodeL l).2) ∧ 1 ≤ (decodeL l).2 ∧ (decodeL l).2 ≤ l.length := by
  obtain ⟨c, t, rfl⟩ : ∃ c t, l = c :: t := by
    cases l with
    | nil => exact (hne rfl).elim
    | cons c t => exact ⟨c, t, rfl⟩
  have hN := decodeL_N (c :: t)
  have k0 := c.toNat_lt
  rw [List.getD_cons_zero, List.getD_cons_succ, List.getD_cons_succ, List.getD_cons_succ] at hN
  rcases decodeN_shape (c :: t).length c.toNat (t.getD 0 0).toNat (t.getD 1 0).toNat (t.getD 2 0).toNat with ⟨g, e⟩ | ⟨g1, g2, g3, gv, e⟩ | ⟨g1, g2, g3, g4, gv, gs, e⟩ | ⟨g1, g2, g3, g4, g5, gv, gw, e⟩ | e
  · rw [e] at hN
    rw [piece_at attr c g t hN, hN, escB_cons _ _ _ (by rintro ⟨rfl, _⟩; exact absurd g (by decide))]
    exact ⟨rfl, Nat.le_refl _, by simp⟩
  · rw [e] at hN
    obtain ⟨d, t, rfl⟩ : ∃ d u, t = d :: u := by
      cases t with
      | nil => simp at g2
      | cons d u => exact ⟨d, u, rfl⟩
    rw [List.getD_cons_zero] at g3 gv hN
    have k1 := d.toNat_lt
    have henc := encode_decode (c :: d :: t) (by simp) (by rw [hN]; rintro ⟨h, h2⟩; simp at h2)
    rw [hN] at henc
    unfold pieceD
    rw [hN]
    dsimp only at henc ⊢
    refine ⟨?_, by omega, by simp⟩
    by_cases h160 : c.toNat % 32 * 64 + d.toNat % 64 = 160
    · rw [h160]
      have hc : c = 194 := u8_of (n := 194) (by omega) (by omega)
      have hd : d = 160 := u8_of (n := 160) (by omega) (by omega)
      subst hc
      subst hd
      exact escB_nbsp attr t
    · rw [if_neg (by omega), if_neg (by omega), if_neg (by omega), if_neg h160, if_neg (by omega), if_neg (by omega), henc]
      rw [escB_cons _ _ _ (by
        rintro ⟨rfl, h2⟩
        simp at h2
        subst h2
        exact h160 (by decide)), piece_high _ _ (by omega)]
      have := escB_cont attr [d] t (by simpa using g3)
      rw [List.singleton_append] at this
      rw [this]
      rfl
  · rw [e] at hN
    obtain ⟨d, f, t, rfl⟩ := two_of g2
    rw [List.getD_cons_zero, List.getD_cons_succ, List.getD_cons_zero] at hN
    rw [List.getD_cons_zero] at g3 gv gs
    rw [List.getD_cons_succ, List.getD_cons_zero] at g4 gv gs
    have k1 := d.toNat_lt
    have k2 := f.toNat_lt
    have henc := encode_decode (c :: d :: f :: t) (by simp) (by rw [hN]; rintro ⟨h, h2⟩; simp at h2)
    rw [hN] at henc
    have hr1 : (decodeL (c :: d :: f :: t)).1 = c.toNat % 16 * 4096 + d.toNat % 64 * 64 + f.toNat % 64 := by rw [hN]
    rw [show (decodeL (c :: d :: f :: t)).2 = 3 by rw [hN]]
    dsimp only at henc ⊢
    clear hN e
    refine ⟨?_, by omega, by simp⟩
    have hall : escB attr (c :: d :: f :: t) = [c, d, f] ++ escB attr t := by
      rw [escB_cons _ _ _ (by rintro ⟨rfl, h2⟩; exact absurd g1 (by decide)), piece_high _ _ (by omega)]
      have := escB_cont attr [d, f] t (by
        intro x hx
        simp at hx
        rcases hx with rfl | rfl
        · exact g3
        · exact g4)
      rw [show [d, f] ++ t = d :: f :: t from rfl] at this
      rw [this]
      rfl
    rw [hall]
    by_cases hr : c.toNat % 16 * 4096 + d.toNat % 64 * 64 + f.toNat % 64 = 65533
    · have hc : c = 239 := u8_of (n := 239) (by omega) (by omega)
      have hd : d = 191 := u8_of (n := 191) (by omega) (by omega)
      have hf : f = 189 := u8_of (n := 189) (by omega) (by omega)
      subst hc
      subst hd
      subst hf
      rw [pieceD_err (hr1.trans hr)]
      rfl
    · rw [pieceD_enc hr1 (by omega) hr, henc]
      rfl
  · rw [e] at hN
    obtain ⟨d, f, g, t, rfl⟩ := three_of g2
    rw [List.getD_cons_zero, List.getD_cons_succ, List.getD_cons_zero, List.getD_cons_succ, List.getD_cons_succ, List.getD_cons_zero] at hN
    rw [List.getD_cons_zero] at g3 gv gw
    rw [List.getD_cons_succ, List.getD_cons_zero] at g4 gv gw
    rw [List.getD_cons_succ, List.getD_cons_succ, List.getD_cons_zero] at g5 gv gw
    have k1 := d.toNat_lt
    have k2 := f.toNat_lt
    have henc := encode_decode (c :: d :: f :: g :: t) (by simp) (by rw [hN]; rintro ⟨h, h2⟩; simp at h2)
    rw [hN] at henc
    have hr1 : (decodeL (c :: d :: f :: g :: t)).1 = c.toNat % 8 * 262144 + d.toNat % 64 * 4096 + f.toNat % 64 * 64 + g.toNat % 64 := by rw [hN]
    rw [show (decodeL (c :: d :: f :: g :: t)).2 = 4 by rw [hN]]
    dsimp only at henc ⊢
    clear hN e
    refine ⟨?_, by omega, by simp⟩
    have hall : escB attr (c :: d :: f :: g :: t) = [c, d, f, g] ++ escB attr t := by
      rw [escB_cons _ _ _ (by rintro ⟨rfl, h2⟩; exact absurd g1 (by decide)), piece_high _ _ (by omega)]
      have := escB_cont attr [d, f, g] t (by
        intro x hx
        simp at hx
        rcases hx with rfl | rfl | rfl
        · exact g3
        · exact g4
        · exact g5)
      rw [show [d, f, g] ++ t = d :: f :: g :: t from rfl] at this
      rw [this]
      rfl
    generalize c.toNat % 8 * 262144 + d.toNat % 64 * 4096 + f.toNat % 64 * 64 + g.toNat % 64 = r at *
    rw [hall, pieceD_enc hr1 (by omega) (by omega), henc]
    rfl
  · have hb0 : 128 ≤ c.toNat := by
      apply Classical.byContradiction
      intro h
      rw [decodeN_ascii _ _ _ _ _ (by omega)] at e
      injection e with e1 _
      omega
    rw [e] at hN
    refine ⟨?_, by rw [hN]; exact Nat.le_refl _, by rw [hN]; simp⟩
    have hw : runeErr.isPrefixOf (c :: t) = false := by
      rw [Bool.eq_false_iff]
      intro h
      obtain ⟨u, hu⟩ := List.isPrefixOf_iff_prefix.1 h
      simp [runeErr] at hu
      obtain ⟨rfl, rfl⟩ := hu
      have hx : decodeL (239 :: 191 :: 189 :: u) = (65533, 3) := by
        rw [decodeL_N]
        simp [decodeN]
      rw [hx] at hN
      cases hN
    rw [pieceD_err (by rw [hN]), hN]
    unfold widthB
    rw [hw, escB_cons _ _ _ (by
      rintro ⟨rfl, h2⟩
      cases t with
      | nil => simp at h2
      | cons d u =>
        simp at h2
        subst h2
        have hx : decodeL (194 :: 160 :: u) = (160, 2) := by
          rw [decodeL_N]
          simp [decodeN]
        rw [hx] at hN
        cases hN), piece_high _ _ hb0]
    rfl

/-! ### and back -/
/-- the runes' names told as runes -/
def unesc : Bys → Bys
  | 38 :: 97 :: 109 :: 112 :: 59 :: l => 38 :: unesc l
  | 38 :: 108 :: 116 :: 59 :: l => 60 :: unesc l
  | 38 :: 103 :: 116 :: 59 :: l => 62 :: unesc l
  | 38 :: 113 :: 117 :: 111 :: 116 :: 59 :: l => 34 :: unesc l
  | 38 :: 110 :: 98 :: 115 :: 112 :: 59 :: l => 194 :: 160 :: unesc l
  | c :: l => c :: unesc l
  | [] => []
theorem unesc_cons (c : UInt8) (l : Bys) (h : c ≠ 38) : unesc (c :: l) = c :: unesc l := by
  rw [unesc.eq_def]
  split <;> simp_all
theorem unesc_piece (attr : Bool) (c : UInt8) (l : Bys) : unesc (pieceB attr c ++ l) = c :: unesc l := by
  unfold pieceB
  split
  · subst c; rfl
  · split
    · subst c; rfl
    · split
      · subst c; rfl
      · split
        · rename_i h; rw [h.1]; rfl
        · exact unesc_cons c l (by assumption)
theorem unesc_esc (attr : Bool) (l : Bys) : unesc (escB attr l) = l := by
  fun_induction escB attr l with
  | case1 => rfl
  | case2 c => have := unesc_piece attr c []; rwa [List.append_nil] at this
  | case3 c d l h ih =>
    obtain ⟨rfl, rfl⟩ := h
    show 194 :: 160 :: unesc (escB attr l) = _
    rw [ih]
  | case4 c d l h ih => rw [unesc_piece, ih]
theorem esc_inj {attr : Bool} {a b : Bys} (h : escB attr a = escB attr b) : a = b := by rw [← unesc_esc attr a, h, unesc_esc]
/-- no <, no > and, in an attribute, no quote -/
theorem esc_none (attr : Bool) (l : Bys) : ∀ c ∈ escB attr l, c ≠ 60 ∧ c ≠ 62 ∧ (attr = true → c ≠ 34) := by
  have hp : ∀ c, ∀ x ∈ pieceB attr c, x ≠ 60 ∧ x ≠ 62 ∧ (attr = true → x ≠ 34) := by
    intro c x hx
    unfold pieceB at hx
    split at hx
    · simp [ampB] at hx; rcases hx with rfl | rfl | rfl | rfl | rfl <;> exact ⟨by decide, by decide, fun _ => by decide⟩
    · split at hx
      · simp [ltB] at hx; rcases hx with rfl | rfl | rfl | rfl <;> exact ⟨by decide, by decide, fun _ => by decide⟩
      · split at hx
        · simp [gtB] at hx; rcases hx with rfl | rfl | rfl | rfl <;> exact ⟨by decide, by decide, fun _ => by decide⟩
        · split at hx
          · simp [quotB] at hx; rcases hx with rfl | rfl | rfl | rfl | rfl | rfl <;> exact ⟨by decide, by decide, fun _ => by decide⟩
          · rename_i h1 h2 h3 h4
            rw [List.mem_singleton.1 hx]
            exact ⟨h2, h3, fun ha hc => h4 ⟨hc, ha⟩⟩
  fun_induction escB attr l with
  | case1 => simp
  | case2 c => exact hp c
  | case3 c d l h ih =>
    intro x hx
    rcases List.mem_append.1 hx with hx | hx
    · simp [nbspB] at hx; rcases hx with rfl | rfl | rfl | rfl | rfl | rfl <;> exact ⟨by decide, by decide, fun _ => by decide⟩
    · exact ih x hx
  | case4 c d l h ih =>
    intro x hx
    rcases List.mem_append.1 hx with hx | hx
    · exact hp c x hx
    · exact ih x hx
theorem esc_nil {attr : Bool} {l : Bys} : escB attr l = [] ↔ l = [] := by
  constructor
  · intro h
    have := unesc_esc attr l
    rw [h] at this
    exact this.symm
  · rintro rfl
    rfl
end Go.Proofs.YtblbcojkjknfdaaDoor
