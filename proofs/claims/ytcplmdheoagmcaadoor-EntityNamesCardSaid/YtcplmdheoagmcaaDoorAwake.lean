/-
  cribblelaw05.awake, walked: true.
-/
import Derived.Test.YtcplmdheoagmcaaDoorCoded
namespace Go.Proofs.YtcplmdheoagmcaaDoor
open Go.RowKit

set_option maxRecDepth 100000 in
set_option maxHeartbeats 2000000 in
theorem awake_any (w : World) (hO : Old w) : Calls Tryd.prog 9 #[] w fun e w' => e = .returned (.bool true) ∧ Fr Nil w w' := by
  have hn : ∀ w : World, Calls Tryd.prog 12 #[.string { data := #[110, 111, 116, 105, 116] }] w (RetSN ([194, 172], 3) w) := fun w => by
    have h := named_any w { data := #[110, 111, 116, 105, 116] } (by decide)
    rw [show bs { data := #[110, 111, 116, 105, 116] } = [110, 111, 116, 105, 116] from rfl, notit] at h
    exact h
  have hc : ∀ w : World, Old w → Calls Tryd.prog 15 #[.int .i64 128] w fun e w' => e = .returned (.int .i32 8364) ∧ w = w' := fun w h => coded_any w 128 h
  have hs : str [194, 172] = { data := #[194, 172] } := rfl
  go_enter Tryd.func9, Tryd.ntmps9
  go_wp2_with (first
    | (go_at_call 12; refine (hn _).mono ?_; rintro e w1 ⟨rfl, hf1⟩)
    | (go_at_call 15; refine (hc w1 (hO.fr hf1)).mono ?_; rintro e w2 ⟨rfl, rfl⟩)
    | (go_at_call 10; refine (names_any w1).mono ?_; rintro e w3 ⟨A, c, rfl, ho, hf3, hA⟩))
  go_ret
  exact ⟨rfl, hf1.trans hf3⟩
end Go.Proofs.YtcplmdheoagmcaaDoor
