/-
  EntityNamed, walked.
-/
import Derived.Test.YtcplmdheoagmcaaDoorRNamed
import Derived.Test.YtcplmdheoagmcaaDoorLaid
namespace Go.Proofs.YtcplmdheoagmcaaDoor
open Go.RowKit

set_option maxRecDepth 100000 in
set_option maxHeartbeats 2000000 in
theorem law_named (w : World) (hO : Old w) (s : ByteArray) : Calls Tryd.prog 4 #[.string s] w fun e w' => e = .returned (.bool true) ∧ Fr Nil w w' := by
  by_cases hz : 500 < s.size
  · have hz' : (500 : Int) < s.size := by omega
    go_enter Tryd.func4, Tryd.ntmps4
    go_wp2_with (go_at_call 9; refine (awake_any w hO).mono ?_; rintro e w1 ⟨rfl, hf1⟩)
    go_ret
    exact ⟨rfl, hf1⟩
  · have hz' : ¬ (500 : Int) < s.size := by omega
    have h1 := fun w => named_any w s (by omega)
    have h2 := fun w => rnamed_any w s (by omega)
    generalize namedP (bs s) = r at h1 h2
    have hq := str_beq_self (str r.1)
    have H1 := Lib.hid h1
    have H2 := Lib.hid h2
    clear h1 h2
    go_enter Tryd.func4, Tryd.ntmps4
    go_wp2_with (first
      | (go_at_call 9; refine (awake_any w hO).mono ?_; rintro e w1 ⟨rfl, hf1⟩)
      | (go_at_call 12; refine (H1.out _).mono ?_; rintro e w2 ⟨rfl, hf2⟩)
      | (go_at_call 14; refine (H2.out _).mono ?_; rintro e w3 ⟨rfl, hf3⟩))
    go_ret
    exact ⟨rfl, (hf1.trans hf2).trans hf3⟩
end Go.Proofs.YtcplmdheoagmcaaDoor
