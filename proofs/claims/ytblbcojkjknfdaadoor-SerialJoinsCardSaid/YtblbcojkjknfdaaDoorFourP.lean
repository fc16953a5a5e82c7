/-
  The four names of an escaped text are named whole: plain.
-/
import Derived.Test.YtblbcojkjknfdaaDoorNamP
namespace Go.Proofs.YtblbcojkjknfdaaDoor

theorem four_end : ∀ nm ∈ ([[97, 109, 112, 59], [108, 116, 59], [103, 116, 59], [110, 98, 115, 112, 59]] : List Pth), ∀ x ∈ allU, x.1.take nm.length = nm → x.1.length = nm.length := of_decide_eq_true (by kernel_rfl)
theorem four_of : ∀ x ∈ ([([97, 109, 112, 59], [38]), ([108, 116, 59], [60]), ([103, 116, 59], [62]), ([110, 98, 115, 112, 59], [194, 160])] : List (Pth × Pth)), ofName x.1 = some x.2 ∧ x.1 ∈ ([[97, 109, 112, 59], [108, 116, 59], [103, 116, 59], [110, 98, 115, 112, 59]] : List Pth) := of_decide_eq_true (by kernel_rfl)
theorem ofName_some {q t : Pth} (h : ofName q = some t) : ∃ x ∈ allU, x.1 = q := by
  unfold ofName at h
  cases hf : allU.find? fun y => decide (y.1 = q) with
  | none => rw [hf] at h; cases h
  | some y =>
    have h1 := List.find?_some hf
    exact ⟨y, List.mem_of_find?_eq_some hf, of_decide_eq_true h1⟩
theorem named_four {nm ch : Pth} (h : (nm, ch) ∈ ([([97, 109, 112, 59], [38]), ([108, 116, 59], [60]), ([103, 116, 59], [62]), ([110, 98, 115, 112, 59], [194, 160])] : List (Pth × Pth))) (r : Pth) : namedP (nm ++ r) = (ch, nm.length) := by
  obtain ⟨ho, hm⟩ := four_of _ h
  have hpos : 0 < nm.length := by
    have : ∀ z ∈ ([[97, 109, 112, 59], [108, 116, 59], [103, 116, 59], [110, 98, 115, 112, 59]] : List Pth), 0 < z.length := by decide
    exact this _ hm
  have key : ∀ k, nm.length ≤ k → k ≤ (nm ++ r).length → namedTo (nm ++ r) k = (ch, nm.length) := by
    intro k
    induction k with
    | zero => intro h1; omega
    | succ k ih =>
      intro h1 h2
      unfold namedTo
      by_cases he : k + 1 = nm.length
      · rw [he, List.take_left' rfl, ho]
      · have hnone : ofName ((nm ++ r).take (k + 1)) = none := by
          cases hf : ofName ((nm ++ r).take (k + 1)) with
          | none => rfl
          | some t =>
            exfalso
            obtain ⟨x, hx, hx1⟩ := ofName_some hf
            have := four_end _ hm x hx (by rw [hx1, List.take_take, Nat.min_eq_left (by omega), List.take_left' rfl])
            rw [hx1, List.length_take, Nat.min_eq_left h2] at this
            exact he this
        rw [hnone]
        exact ih (by omega) (by omega)
  exact key _ (by simp) (Nat.le_refl _)
end Go.Proofs.YtblbcojkjknfdaaDoor
