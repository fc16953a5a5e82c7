/-
  cmp.Compare[string], walked; the order of texts.
-/
import Derived.Test.YtblbcojkjknfdaaDoorEnt
import Derived.Sort.Walk0
namespace Go.Proofs.YtblbcojkjknfdaaDoor
open Go.RowKit Go.Sort

/-- the order of two texts -/
def cmpP (a b : Pth) : Int := if a < b then -1 else if b < a then 1 else 0
theorem less_str (a b : Pth) : Op.bytesLess (str a).toList (str b).toList = decide (a < b) := by
  rw [bytesLess_eq, Lib.toList_data, Lib.toList_data]
  rfl
theorem cmpP_lt (a b : Pth) : decide (cmpP a b < 0) = ltStr a b := by
  unfold cmpP ltStr
  by_cases h1 : a < b
  · simp [h1]
  · by_cases h2 : b < a <;> simp [h1, h2]
set_option maxHeartbeats 2000000 in
theorem cmp_any (a b : Pth) (w : World) : Calls Tryd.prog 66 #[.string (str a), .string (str b)] w fun e w' => e = .returned (.int .i64 (cmpP a b)) ∧ w' = w := by
  have l1 := less_str a b
  have l2 := less_str b a
  have h3 : cmpP a b = if a < b then -1 else if b < a then 1 else 0 := rfl
  have l3 := str_beq a b
  generalize str a = s at l1 l2 l3 ⊢
  generalize str b = t at l1 l2 l3 ⊢
  by_cases h1 : a < b
  · rw [if_pos h1] at h3
    rw [h3]
    rw [decide_eq_true h1] at l1
    clear h3 l2 l3
    go_enter Tryd.func66, Tryd.ntmps66
    go_wp2
    go_ret
    exact ⟨rfl, rfl⟩
  · rw [if_neg h1] at h3
    rw [decide_eq_false h1] at l1
    by_cases h2 : b < a
    · rw [if_pos h2] at h3
      rw [h3]
      rw [decide_eq_true h2] at l2
      rw [decide_eq_false (show ¬ a = b from fun e => h1 (by rw [e] at h2 ⊢; exact h2))] at l3
      clear h3
      go_enter Tryd.func66, Tryd.ntmps66
      go_wp2
      go_ret
      exact ⟨rfl, rfl⟩
    · rw [if_neg h2] at h3
      rw [h3]
      rw [decide_eq_false h2] at l2
      rw [decide_eq_true (List.le_antisymm (List.not_lt.1 h2) (List.not_lt.1 h1))] at l3
      clear h3
      go_enter Tryd.func66, Tryd.ntmps66
      go_wp2
      go_ret
      exact ⟨rfl, rfl⟩
end Go.Proofs.YtblbcojkjknfdaaDoor
