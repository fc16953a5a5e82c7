/-
  entity.bare, closed, walked.
-/
import Derived.Test.YtcplmdheoagmcaaDoorEnt
namespace Go.Proofs.YtcplmdheoagmcaaDoor
open Go.RowKit

set_option maxRecDepth 100000 in
set_option maxHeartbeats 2000000 in
theorem bare_any (w : World) : Calls Tryd.prog 34 #[] w fun e w' => ∃ v, e = .returned v ∧ MadeE w bareL v w' := by
  go_enter Tryd.func34, Tryd.ntmps34
  go_wp2
  go_ret
  exact ⟨_, rfl, madeE_lit w bareL _ (by decide) rfl⟩
set_option maxRecDepth 100000 in
set_option maxHeartbeats 2000000 in
theorem closed_any (w : World) : Calls Tryd.prog 36 #[] w fun e w' => ∃ v, e = .returned v ∧ MadeE w closedL v w' := by
  go_enter Tryd.func36, Tryd.ntmps36
  go_wp2
  go_ret
  exact ⟨_, rfl, madeE_lit w closedL _ (by decide) rfl⟩
end Go.Proofs.YtcplmdheoagmcaaDoor
