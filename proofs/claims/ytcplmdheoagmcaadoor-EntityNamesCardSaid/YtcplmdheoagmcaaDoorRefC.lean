/-
  cribbleref05.closed, walked.
-/
import Derived.Test.YtcplmdheoagmcaaDoorRefE
namespace Go.Proofs.YtcplmdheoagmcaaDoor
open Go.RowKit

set_option maxRecDepth 100000 in
set_option maxHeartbeats 2000000 in
theorem rclosed_any (w : World) : Calls Tryd.prog 58 #[] w (MadeR w 34 closedRR) := by
  go_enter Tryd.func58, Tryd.ntmps58
  go_wp2
  go_ret
  exact madeR_lit w closedRR 34 _ rfl (by decide) rfl
end Go.Proofs.YtcplmdheoagmcaaDoor
