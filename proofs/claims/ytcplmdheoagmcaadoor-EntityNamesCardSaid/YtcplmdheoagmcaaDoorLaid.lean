/-
  What the listed variable gives the walks.
-/
import Derived.Test.YtcplmdheoagmcaaDoorRunes
import Derived.Test.YtcplmdheoagmcaaDoorArgs
import Derived.Test.YtcplmdheoagmcaaDoorCards
import Derived.Test.YtcplmdheoagmcaaDoorTie
import Derived.ProofKit
import Derived.LaidMore
import Derived.OpenShut
import Derived.Stop.Joined
import Derived.SevenTiedAt
namespace Go.Proofs.YtcplmdheoagmcaaDoor
open Go.ChangeShapes Go.WideShapes Go.ChangeAt Go.RowKit

/-- the listed variables -/
def laid1 : List (String × DataW Unit) := Rows.entityCodedRow.laid
def nmOld : String := Rows.entityCodedRow.named.headD default
theorem laid1_tab : laid1 = [(nmOld, Lib.tabData .i32 oldL)] := by kernel_rfl
theorem door_met (os : Os) (args : Array Value) : laidMetH Tryd.prog laid1 ((World.doorLaid Tryd.prog 400 os).forCall (fun _ _ => 0) ⟨#[], args, []⟩).memory :=
  laidMetH_of_parts3 (fuel := 8) (laidMet_of_run' 8 (by kernel_rfl) (by kernel_rfl)) (by kernel_rfl) (by kernel_rfl)
theorem gOld : Tryd.prog.globalNamed nmOld = some 0 := by kernel_rfl
theorem old_of_laid {W : World} (h : laidMetH Tryd.prog laid1 W) : Old W := by
  rw [MakeChecks.laidMetH_plain _ _ _ (by kernel_rfl), laid1_tab] at h
  have hT := Lib.tabIs_of_head gOld (show (Tryd.prog.globals[0]?).map (·.type) = some 60 by kernel_rfl) Tryd.underlying60 Tryd.underlying21 (by kernel_rfl) (by kernel_rfl) h
  refine ⟨?_, fun i hi => hT.cell gOld i hi⟩
  have h0 := hT.cell gOld 0 (by decide)
  apply Classical.byContradiction
  intro hn
  have : W.heap[0]? = none := Array.getElem?_eq_none (by omega)
  unfold World.cell? at h0
  rw [this] at h0
  cases h0
end Go.Proofs.YtcplmdheoagmcaaDoor
