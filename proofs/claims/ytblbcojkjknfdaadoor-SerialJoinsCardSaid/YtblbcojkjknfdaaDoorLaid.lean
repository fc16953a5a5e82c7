/-
  The listed variable stands at the door.
-/
import Derived.Test.YtblbcojkjknfdaaDoorArgs
import Derived.Test.YtblbcojkjknfdaaDoorCards
import Derived.Test.YtblbcojkjknfdaaDoorTie
import Derived.ProofKit
import Derived.LaidMore
import Derived.OpenShut
import Derived.Stop.Joined
import Derived.SevenTiedAt
namespace Go.Proofs.YtblbcojkjknfdaaDoor
open Go.ChangeShapes Go.WideShapes Go.ChangeAt Go.RowKit

/-- the listed variables -/
def laid1 : List (String × DataW Unit) := Rows.serialJoinsRow.laid
theorem door_met (os : Os) (args : Array Value) : laidMetH Tryd.prog laid1 ((World.doorLaid Tryd.prog 400 os).forCall (fun _ _ => 0) ⟨#[], args, []⟩).memory :=
  laidMetH_of_parts3 (fuel := 8) (laidMet_of_run' 8 (by kernel_rfl) (by kernel_rfl)) (by kernel_rfl) (by kernel_rfl)
end Go.Proofs.YtblbcojkjknfdaaDoor
