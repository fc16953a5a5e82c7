/-
  A row of bytes that the library's sort turns: words; cmp.isNaN, cmp.Less, insertionSortOrdered at bytes, walked.
-/
import Derived.Test.YthhlpbopbabojaaStr
import Derived.Test.YthhlpbopbabojaaChecked
import Derived.Sort.LotD3
import Derived.Sort.WalkA
import Derived.CellFam
import Derived.BigGuard
import Derived.BigCall
import Derived.BigRegion
namespace Go.Proofs.Ythhlpbopbabojaa
open Go.RowKit Go.Sort

/-- a number as a byte's cell -/
abbrev eb : Int → Value := Value.int .u8
/-- block g: d's numbers as bytes from place o on -/
def RowB (w : World) (g o : Nat) (pre sp : Array Value) (d : Array Int) : Prop := pre.size = o ∧ Blk w g 5 (pre ++ (d.map eb ++ sp))
section
variable {w w' : World} {g o : Nat} {pre sp : Array Value} {d : Array Int} {S : Nat → Prop}
theorem RowB.cell (h : RowB w g o pre sp d) (t : Nat) (ht : t < d.size) : w.cell? ⟨g, o + t, none⟩ = some (.int .u8 d[t]!) := by
  obtain ⟨rfl, h⟩ := h
  rw [h.cell, Array.getElem?_append_right (Nat.le_add_right _ _), Nat.add_sub_cancel_left, Array.getElem?_append_left (by simpa using ht), Array.getElem?_map, Array.getElem?_eq_getElem ht, getElem!_pos d t ht]
  rfl
theorem RowB.frozen (h : RowB w g o pre sp d) (t : Nat) : w.frozen? ⟨g, o + t, none⟩ = false := h.2.frozen _
theorem RowB.drewN (h : RowB w g o pre sp d) (n : Nat) : RowB (w.drewN n) g o pre sp d := ⟨h.1, h.2.drewN n⟩
theorem RowB.fr (h : RowB w g o pre sp d) (hf : Fr S w w') (hg : ¬ S g) : RowB w' g o pre sp d := ⟨h.1, h.2.fr hf hg⟩
theorem map_set (d : Array Int) (i : Nat) (x : Int) : (d.map eb).setIfInBounds i (eb x) = (d.setIfInBounds i x).map eb := by
  apply Array.ext_getElem?
  intro k
  simp only [Array.getElem?_setIfInBounds, Array.getElem?_map, Array.size_map]
  by_cases hk : i = k
  · subst hk
    by_cases hi : i < d.size <;> simp [hi]
  · simp [hk]
theorem RowB.set (h : RowB w g o pre sp d) {i : Nat} (hi : i < d.size) (x : Int) : RowB (w.setCell ⟨g, o + i, none⟩ (eb x)) g o pre sp (d.setIfInBounds i x) := by
  obtain ⟨rfl, h⟩ := h
  refine ⟨rfl, ?_⟩
  have := h.set_ (pre.size + i) (eb x)
  rw [Array.setIfInBounds_append_right (Nat.le_add_right _ _), Nat.add_sub_cancel_left, Array.setIfInBounds_append_left (by simpa using hi), map_set] at this
  exact this
end
/-- how far a sort has come: the row holds d; of the world at its call only the row and what is new has turned -/
structure St (w : World) (g o : Nat) (pre sp : Array Value) (d : Array Int) (wr : World) : Prop where
  row : RowB wr g o pre sp d
  fr : Fr (fun k => k = g) w wr
section
variable {w wr w' : World} {g o : Nat} {pre sp : Array Value} {d d' : Array Int}
theorem St.start (h : RowB w g o pre sp d) : St w g o pre sp d w := ⟨h, Fr.rfl' _ _⟩
theorem St.drewN (h : St w g o pre sp d wr) (n : Nat) : St w g o pre sp d (wr.drewN n) := ⟨h.row.drewN n, h.fr.drewN n⟩
theorem St.drew (h : St w g o pre sp d wr) : St w g o pre sp d wr.drew := ⟨h.row.drewN 1, h.fr.drew⟩
theorem St.cells (h : St w g o pre sp d wr) {n : Nat} (hn : d.size = n) : ∀ t, t < n → wr.cell? ⟨g, o + t, none⟩ = some (.int .u8 d[t]!) := fun t ht => h.row.cell t (by omega)
theorem St.frozens (h : St w g o pre sp d wr) {n : Nat} : ∀ t, t < n → wr.frozen? ⟨g, o + t, none⟩ = false := fun t _ => h.row.frozen t
theorem St.swap (h : St w g o pre sp d wr) {i j : Nat} (hi : i < d.size) (hj : j < d.size) {x y : Int} (hx : x = d[j]!) (hy : y = d[i]!) : St w g o pre sp (swp d i j) ((wr.setCell ⟨g, o + i, none⟩ (.int .u8 x)).setCell ⟨g, o + j, none⟩ (.int .u8 y)) := by
  subst hx hy
  exact ⟨(h.row.set hi _).set (by simpa using hj) _, (h.fr.setCell (fun _ => rfl) _).setCell (fun _ => rfl) _⟩
theorem St.trans (h : St w g o pre sp d wr) (h2 : St wr g o pre sp d' w') : St w g o pre sp d' w' := ⟨h2.row, h.fr.trans h2.fr⟩
end

theorem nan_any (x : Int) (w : World) : Calls Try.prog 54 #[.int .u8 x] w fun e w' => e = .returned (.bool false) ∧ w' = w := by
  go_enter Try.func54, Try.ntmps54
  go_wp2
  go_ret
  exact ⟨by simp, rfl⟩
theorem less_any (x y : Int) (w : World) : Calls Try.prog 44 #[.int .u8 x, .int .u8 y] w fun e w' => e = .returned (.bool (ltInt x y)) ∧ w' = w := by
  go_enter Try.func44, Try.ntmps44
  go_wp2_with (go_at_call 54; refine (nan_any _ _).mono ?_; rintro e w' ⟨rfl, rfl⟩)
  go_ret
  exact ⟨rfl, rfl⟩

set_option maxRecDepth 1000000 in
set_option maxHeartbeats 4000000 in
theorem insertion_any (g o c n a b : Nat) (pre sp : Array Value) (d : Array Int) (w : World) (hR : RowB w g o pre sp d) (hn : d.size = n) (hab : a ≤ b) (hb : b ≤ n) (hn2 : n ≤ 1048576) :
    Calls Try.prog 38 #[.slice (some ⟨g, o, none⟩) n c, .int .i64 a, .int .i64 b] w fun e w' => e = .returned (.tuple #[]) ∧ St w g o pre sp (insertionSort ltInt d a b) w' := by
  go_enter Try.func38, Try.ntmps38
  go_wp2
  go_loopw [6, 7] (fun vi _ wr => ∃ (i : Nat) (dk : Array Int), vi = .int .i64 i ∧ a < i ∧ i ≤ b + 1 ∧ dk.size = n ∧ St w g o pre sp dk wr ∧ insOuter ltInt a b i dk = insOuter ltInt a b (a + 1) d) (fun vi _ _ => b + 1 - (intOf vi).toNat)
  case atStart => exact ⟨a + 1, d, by go_num, by omega, by omega, hn, .start hR, rfl⟩
  case round =>
    obtain ⟨i, dk, rfl, hai, hib, hsk, hS, hO⟩ := hrel
    have HO := Lib.hid hO
    clear hO
    by_cases hlt : i < b
    · go_wp2_with fail
      obtain ⟨wo, rfl⟩ : ∃ wo : World, wo = wr := ⟨_, rfl⟩
      go_loopw [7] (fun vj wr2 => ∃ (j : Nat) (dj : Array Int), vj = .int .i64 j ∧ a ≤ j ∧ j ≤ i ∧ dj.size = n ∧ St w g o pre sp dj wr2 ∧ insInner ltInt a j dj = insInner ltInt a i dk) (fun vj _ => (intOf vj).toNat)
      case atStart => exact ⟨i, dk, rfl, by omega, Nat.le_refl _, hsk, hS, rfl⟩
      case round =>
        obtain ⟨j, dj, rfl, haj, hji, hsj, hS2, hI⟩ := hrel
        have HI := Lib.hid hI
        clear hI
        by_cases hja : a < j
        · obtain ⟨k, rfl⟩ : ∃ k, j = k + 1 := ⟨j - 1, by omega⟩
          have c1 := hS2.row.cell (k + 1) (by omega)
          have c2 := hS2.row.cell k (by omega)
          have z1 := hS2.row.frozen (k + 1)
          have z2 := hS2.row.frozen k
          obtain ⟨x, hx⟩ : ∃ x, dj[k + 1]! = x := ⟨_, rfl⟩
          obtain ⟨y, hy⟩ : ∃ y, dj[k]! = y := ⟨_, rfl⟩
          rw [hx] at c1
          rw [hy] at c2
          have HX := Lib.hid (And.intro hx hy)
          have HS := Lib.hid hS2
          clear hx hy hS2
          cases hl : ltInt x y with
          | true =>
            have HL := Lib.hid hl
            have hq := less_any x y
            rw [hl] at hq
            clear hl
            go_wp2_with fail
            have h1 : (a : Int) < (k : Int) + 1 := by omega
            go_quiet (first | (go_at_call 44; refine Calls.quiet_of_same (hq _)))
            go_wp2_with fail
            have HS2 := Lib.hid (HS.out.drewN nq)
            have d1 : (wr.drewN nq).cell? ⟨g, o + (k + 1), none⟩ = some (.int .u8 x) := c1
            have d2 : (wr.drewN nq).cell? ⟨g, o + k, none⟩ = some (.int .u8 y) := c2
            have y1 : (wr.drewN nq).frozen? ⟨g, o + (k + 1), none⟩ = false := z1
            have y2 : (wr.drewN nq).frozen? ⟨g, o + k, none⟩ = false := z2
            clear c1 c2 z1 z2 HS hS hq
            generalize wr.drewN nq = wq at *
            go_region
            go_wp2_with fail
            go_roundw
            case rel => exact ⟨k, swp dj (k + 1) k, by first | rfl | go_num, by omega, by omega, by rw [size_swp]; exact hsj, (HS2.out.swap (by omega) (by omega) HX.out.2.symm HX.out.1.symm).drew, by rw [← HI.out, insInner_go ltInt a (k + 1) dj hja (by rw [HX.out.1, Nat.add_sub_cancel, HX.out.2]; exact HL.out), Nat.add_sub_cancel]⟩
            case measure => (simp [intOf]; try omega)
          | false =>
            have HL := Lib.hid hl
            have hq := less_any x y
            rw [hl] at hq
            clear hl
            go_wp2_with fail
            have h1 : (a : Int) < (k : Int) + 1 := by omega
            go_quiet (first | (go_at_call 44; refine Calls.quiet_of_same (hq _)))
            go_wp2_with fail
            go_roundw
            case rel => exact ⟨i + 1, dj, by go_num, by omega, by omega, hsj, HS.out.drewN nq, by rw [← HO.out, insOuter_go _ _ _ _ _ hlt, ← HI.out, insInner_stop _ _ _ _ (.inr (by rw [HX.out.1, Nat.add_sub_cancel, HX.out.2]; exact HL.out))]⟩
            case measure => (simp [intOf]; try omega)
        · obtain rfl : j = a := by omega
          have h1 : decide ((j : Int) < (j : Int)) = false := by simp
          have HS := Lib.hid hS2
          clear hS2 hS
          go_wp2_with fail
          go_quiet (fail)
          go_wp2_with fail
          go_roundw
          case rel => exact ⟨i + 1, dj, by go_num, by omega, by omega, hsj, HS.out.drewN nq, by rw [← HO.out, insOuter_go _ _ _ _ _ hlt, ← HI.out, insInner_stop _ _ _ _ (.inl (Nat.le_refl _))]⟩
          case measure => (simp [intOf]; try omega)
    · have hge : ¬ i < b := hlt
      have HE := Lib.hid (show insertionSort ltInt d a b = dk by unfold insertionSort; rw [← HO.out, insOuter_stop _ _ _ _ _ hge])
      go_wp2_with fail
      go_end0
      exact ⟨rfl, by rw [HE.out]; exact hS⟩
end Go.Proofs.Ythhlpbopbabojaa
