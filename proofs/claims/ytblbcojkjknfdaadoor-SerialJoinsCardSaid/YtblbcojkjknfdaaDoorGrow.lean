/-
  slices.Grow of nil, walked.
-/
import Derived.Test.YtblbcojkjknfdaaDoorEnt
import Derived.Lib.AppendZerosOnto
import Derived.Lib.SliceRun
namespace Go.Proofs.YtblbcojkjknfdaaDoor
open Go.RowKit

theorem own_grown (w : World) (n : Nat) (hn : n ≤ 100000) (zs : Array Value) (hz : zs.size = grownCap w n 0 79 * 2) :
    Own (w.alloc (.cells zs 79)).drew 79 2 (some ⟨w.heap.size, 0, none⟩) 0 (grownCap w n 0 79) [] := by
  refine ⟨rfl, .inr ⟨w.heap.size, grownCap w n 0 79, zs, rfl, Nat.zero_le _, ?_, Nat.zero_le _, grownCap_le_maxLen w n 0 _ (by unfold maxLen; omega), hz, by simp⟩⟩
  show (w.heap.push _)[w.heap.size]? = _
  exact Array.getElem?_push_size

set_option maxHeartbeats 2000000 in
/-- slices.Grow of nil -/
theorem grow_nil (w : World) (n : Nat) (hn : n ≤ 100000) (hn0 : 0 < n) : Calls Tryd.prog 73 #[.slice none 0 0, .int .i64 n] w fun e w' =>
    ∃ c, e = .returned (.slice (some ⟨w.heap.size, 0, none⟩) 0 c) ∧ Own w' 79 2 (some ⟨w.heap.size, 0, none⟩) 0 c [] ∧ Fr Nil w w' := by
  obtain ⟨i0, hi0, hz0, hs0, hb0⟩ := info_parts infoEnt
  have hn' : (n : Int) > 0 := by omega
  have hn2 : ¬ (n : Int) < 0 := by omega
  have hold : (Builtin.firstCells i0.size 0 (.slice none 0 0)).run Tryd.prog w.drew = .ok #[] w.drew := run_firstCells_none w.drew i0.size 0 0 0
  have hrz := Lib.run_append_grow_zeros (P := Tryd.prog) w 80 3 80 79 i0 (.agg #[.string ⟨#[]⟩, .string ⟨#[]⟩]) .i64 .i64 Tryd.underlying80 Tryd.underlying3 hi0 hz0 none 0 0 [] hold n (by omega) (by rw [hs0]; decide) (by omega) (by omega)
    (by rw [hb0]; omega) (by rw [hb0]; exact growslice_fits (by omega) (by omega))
  rw [Nat.zero_add] at hrz
  have hG63 : grownCap w n 0 79 ≤ 9223372036854775807 := by
    have := grownCap_le_maxLen w n 0 79 (by unfold maxLen; omega)
    unfold maxLen at this
    omega
  have hge : n ≤ grownCap w n 0 79 := grownCap_ge w _ _ _
  have hown : Own (w.alloc (.cells (Builtin.zeroCells #[.string ⟨#[]⟩, .string ⟨#[]⟩] n ++ Builtin.zeroCells #[.string ⟨#[]⟩, .string ⟨#[]⟩] (grownCap w n 0 79 - n)) 79)).drew 79 2 (some ⟨w.heap.size, 0, none⟩) 0 (grownCap w n 0 79) [] :=
    own_grown w n hn _ (by rw [Array.size_append, size_zeroCells, size_zeroCells]; simp; omega)
  have HO := Lib.hid hown
  clear hown hold
  obtain ⟨G, hG⟩ : ∃ G, G = grownCap w n 0 79 := ⟨_, rfl⟩
  rw [← hG] at hrz hG63 hge HO
  clear hG
  go_enter Tryd.func73, Tryd.ntmps73
  go_wp2_with (at_builtin; refine Lib.wpList_append_run _ rfl _ _ _ _ rfl _ _ rfl rfl _ _ hrz ?_)
  all_goals (go_ret; exact ⟨_, rfl, HO.out, ((Fr.rfl' _ w).alloc _).drew⟩)
end Go.Proofs.YtblbcojkjknfdaaDoor
