/-
  entity.bare, closed, walked.
-/
import Derived.Test.YtblbcojkjknfdaaDoorEnt
namespace Go.Proofs.YtblbcojkjknfdaaDoor
open Go.RowKit

set_option maxRecDepth 100000 in
set_option maxHeartbeats 2000000 in
theorem bare_any (w : World) : Calls Tryd.prog 61 #[] w fun e w' => ∃ v, e = .returned v ∧ MadeE w bareL v w' := by
  go_enter Tryd.func61, Tryd.ntmps61
  go_wp2
  go_ret
  exact ⟨_, rfl, madeE_lit w bareL _ (by decide) rfl⟩
set_option maxRecDepth 100000 in
set_option maxHeartbeats 2000000 in
theorem closed_any (w : World) : Calls Tryd.prog 63 #[] w fun e w' => ∃ v, e = .returned v ∧ MadeE w closedL v w' := by
  go_enter Tryd.func63, Tryd.ntmps63
  go_wp2
  go_ret
  exact ⟨_, rfl, madeE_lit w closedL _ (by decide) rfl⟩
end Go.Proofs.YtblbcojkjknfdaaDoor
