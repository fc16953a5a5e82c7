/-
  entity.Called, walked.
-/
import Derived.Test.YtcplmdheoagmcaaDoorDel
import Derived.Test.YtcplmdheoagmcaaDoorMinF
import Derived.Test.YtcplmdheoagmcaaDoorKnown
namespace Go.Proofs.YtcplmdheoagmcaaDoor
open Go.RowKit

/-- the shortest name among some, and whether there is one -/
def shortR (l : List Ent) (q : Pth) : Pth × Bool := (shortest (ofText l q), !decide (shortest (ofText l q) = []))
theorem short_none {l : List Ent} {q : Pth} (h : (ofText l q).length = 0) : shortR l q = ([], false) := by
  have := List.eq_nil_of_length_eq_zero h
  unfold shortR
  rw [this]
  rfl
theorem short_some {l : List Ent} {q : Pth} {x : Ent} {r : List Ent} (hn : Named_ l) (h : ofText l q = x :: r) : shortR l q = ((pickL x r).1, true) := by
  have h1 : shortest (ofText l q) ≠ [] := fun e => by
    have := (shortest_nil (named_text hn q)).1 e
    rw [h] at this
    cases this
  unfold shortR
  rw [decide_eq_false h1, h]
  rfl
def Short (w : World) (g : Nat) (r : Pth × Bool) (e : Ending) (w' : World) : Prop := e = .returned (.tuple #[.string (str r.1), .bool r.2]) ∧ Fr (fun k => k = g) w w'

set_option maxRecDepth 100000 in
set_option maxHeartbeats 4000000 in
theorem called1_any (w : World) (g c n : Nat) (l : List Ent) (hnm : Named_ l) (ho : Own w 37 2 (some ⟨g, 0, none⟩) n c (entCells l)) (hn : n ≤ 100000) (q : Pth) (bx : Nat) (hb : w.cell? ⟨bx, 0, none⟩ = some (.string (str q))) (hbg : bx ≠ g) :
    Calls Tryd.prog 27 #[.slice (some ⟨g, 0, none⟩) n c, .pointer (some ⟨bx, 0, none⟩)] w (Short w g (shortR l q)) := by
  have HD := Lib.hid (del_any w g c n l ho hn q bx hb hbg)
  have hl : (ofText l q).length ≤ n := by
    have h1 := ho.1
    rw [entCells_len] at h1
    have h2 : (ofText l q).length ≤ l.length := List.length_filter_le _ _
    omega
  have HL := Lib.hid hl
  have H0 := Lib.hid (@short_none l q)
  have H1 := Lib.hid (fun x r h => @short_some l q x r hnm h)
  clear hl hnm
  generalize shortR l q = r at H0 H1 ⊢
  generalize ofText l q = l2 at HD HL H0 H1
  go_enter Tryd.func27, Tryd.ntmps27
  go_wp2_with fail
  refine HD.out.mono ?_
  rintro e w1 ⟨m, hm, rfl, ho1, hf1⟩
  by_cases hm0 : m = 0
  · subst hm0
    have HR := Lib.hid (H0.out hm)
    clear hm
    go_wp2_with fail
    go_ret2
    exact ⟨by rw [HR.out]; rfl, hf1⟩
  · obtain ⟨x, t, rfl⟩ : ∃ x t, l2 = x :: t := by
      cases l2 with
      | nil => exact (hm0 (by rw [← hm]; rfl)).elim
      | cons x t => exact ⟨x, t, rfl⟩
    have HR := Lib.hid (H1.out x t rfl)
    have HM := Lib.hid (min_any w1 g c m x t ho1 (by have := HL.out; omega))
    have hm0' : ((m : Int) == 0) = false := by simp; omega
    clear hm
    have HE := Lib.hid (show (.agg (encE (pickL x t)).toArray : Value) = .agg #[.string (str (pickL x t).1), .string (str (pickL x t).2)] from rfl)
    generalize pickL x t = y at *
    go_wp2_with fail
    refine HM.out.mono ?_
    rw [HE.out]
    rintro e w2 ⟨rfl, hf2⟩
    go_wp2_with fail
    go_ret2
    exact ⟨by rw [HR.out]; rfl, (hf1.trans (hf2.mono fun _ _ h => h.elim)).alloc _⟩

/-- what Called tells -/
def calledR (q : Pth) : Pth × Bool := (calledP q, !decide (calledP q = []))
theorem called_yes {q : Pth} (h : (shortR bareL q).2 = true) : calledR q = ((shortR bareL q).1, true) := by
  unfold shortR at h
  have h1 : shortest (ofText bareL q) ≠ [] := by simpa using h
  unfold calledR calledP shortR
  rw [if_neg h1, decide_eq_false h1]
  rfl
theorem called_no {q : Pth} (h : (shortR bareL q).2 = false) : calledR q = shortR (withL closedL) q := by
  unfold shortR at h
  have h1 : shortest (ofText bareL q) = [] := by simpa using h
  unfold calledR calledP shortR
  rw [if_pos h1]

set_option maxRecDepth 100000 in
set_option maxHeartbeats 4000000 in
theorem called_any (w : World) (q : Pth) : Calls Tryd.prog 13 #[.string (str q)] w (RetSB (calledR q) w) := by
  have HB := Lib.hid bare50
  have HC := Lib.hid closed34
  have HW := Lib.hid with34
  have HY := Lib.hid (@called_yes q)
  have HN := Lib.hid (@called_no q)
  have C1 := Lib.hid (fun w g c ho bx hb hbg => called1_any w g c 50 bareL named_bare ho (by decide) q bx hb hbg)
  have C2 := Lib.hid (fun w g c ho bx hb hbg => called1_any w g c 34 (withL closedL) (named_with _) ho (by decide) q bx hb hbg)
  generalize calledR q = r at HY HN ⊢
  generalize shortR bareL q = r1 at HY HN C1
  generalize shortR (withL closedL) q = r2 at HN C2
  obtain ⟨a1, b1⟩ := r1
  generalize withL closedL = l2 at HW C2
  generalize closedL = l3 at HC HW
  generalize bareL = l1 at HB C1
  have hbx : ∀ w', Fr Nil (w.alloc (.cells #[.string (str q)] 9)) w' → w'.cell? ⟨w.heap.size, 0, none⟩ = some (.string (str q)) := fun w' h => by
    rw [h.cell (p := ⟨w.heap.size, 0, none⟩) (by simp) fun x => x]
    simp
  have HBX := Lib.hid hbx
  have hf0 : Fr Nil w (w.alloc (.cells #[.string (str q)] 9)) := (Fr.rfl' _ w).alloc _
  have hz0 : (w.alloc (.cells #[.string (str q)] 9)).heap.size = w.heap.size + 1 := World.size_alloc _ _
  have HZ := Lib.hid hz0
  have HF0 := Lib.hid hf0
  clear hbx hz0 hf0
  go_enter Tryd.func13, Tryd.ntmps13
  go_wp2_with fail
  generalize w.alloc (.cells #[.string (str q)] 9) = w0 at *
  refine (HB.out _).mono ?_
  rintro e w1 ⟨g1, c1, rfl, ho1, hf1, hg1⟩
  go_wp2_with fail
  refine (C1.out w1 g1 c1 ho1 w.heap.size (HBX.out _ hf1) (by have := HZ.out; omega)).mono ?_
  rintro e w2 ⟨rfl, hf2⟩
  have hf12 : Fr Nil w0 w2 := hf1.trans' hf2 fun k hk h => by subst h; omega
  have HF := Lib.hid hf12
  clear hf12
  cases b1 with
  | true =>
    have HR := Lib.hid (HY.out rfl)
    go_wp2_with fail
    go_ret2
    exact ⟨by rw [HR.out]; rfl, HF0.out.trans HF.out⟩
  | false =>
    have HR := Lib.hid (HN.out rfl)
    go_wp2_with fail
    refine (HC.out _).mono ?_
    rintro e w3 ⟨g3, c3, rfl, ho3, hf3, hg3⟩
    go_wp2_with fail
    refine (HW.out _ _ _ ho3).mono ?_
    rintro e w4 ⟨g4, c4, rfl, ho4, hf4, hg4⟩
    go_wp2_with fail
    refine (C2.out w4 g4 c4 ho4 w.heap.size (HBX.out _ ((HF.out.trans hf3).trans hf4)) (by have := HZ.out; have := HF.out.size; have := hf3.size; omega)).mono ?_
    rintro e w5 ⟨rfl, hf5⟩
    go_wp2_with fail
    go_ret2
    exact ⟨by rw [HR.out]; rfl, HF0.out.trans (((HF.out.trans hf3).trans hf4).trans' hf5 fun k hk h => by subst h; have := HF.out.size; have := hf3.size; omega)⟩
end Go.Proofs.YtcplmdheoagmcaaDoor
