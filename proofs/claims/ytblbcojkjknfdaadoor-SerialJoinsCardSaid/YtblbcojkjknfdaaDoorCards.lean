/-
  DERIVED. GIVEN WITH THE SEED: THE CARDS: each row of YtblbcojkjknfdaaDoorRows.lean that lists a variable, with what it lists TIED to the program's text (the seventh form; the later family's looks); each row that meets fmt, with fmt's text TOLD by the authors' own Lean function (tested against real Go, not proved from fmt's source: count such statements apart). THE CARD IS WHAT COUNTS. Prove the row's statement (the work); the ties are given (YtblbcojkjknfdaaDoorTie.lean); close each card by the builder's one call (the guide's Derived/Test/ToyasCard.lean, 'card_holds'). Laid BY PROGRAM, IN A SANDBOX (cutbox-door.mjs). By AI agents, Wed Nov 11 2026. No macro, syntax, notation, axiom, sorry.
-/
import Derived.Test.YtblbcojkjknfdaaDoorRows
import GoSem.ClaimSeven
namespace Go.Proofs.YtblbcojkjknfdaaDoor
namespace Rows

/-- THE TIED CARD OF 'cribblelaw22.SerialJoins'. -/
def serialJoinsCard : Claim7 := { stood := { row := serialJoinsRow, standIns := [], harness := (true, "9be00a313fa1c1303bd0ca28ecadd2f7490bfd91323e05db9d5114fa7fb6ff1e"), looks := false }, kinds := [], alts := [], laidByText := true, laidKinds := [.data], laidTests := true, laidLooks := .later }
def SerialJoinsCardSaid : Prop := Claim7.holds Tryd.pinned (.plain (OpenSpec.ofChange serialJoinsSpec)) serialJoinsCard

/-- THE SECOND FORM's CARD OF 'cribblelaw22.SerialJoins'. -/
def serialJoinsUptoCard : Claim7 := { stood := { row := serialJoinsUptoRow, standIns := [], harness := (true, "9be00a313fa1c1303bd0ca28ecadd2f7490bfd91323e05db9d5114fa7fb6ff1e"), looks := false }, kinds := [], alts := [], laidByText := true, laidKinds := [.data], laidTests := true, laidLooks := .later }
def SerialJoinsUptoCardSaid : Prop := Claim7.holds Tryd.pinned (.plain (OpenSpec.upto serialJoinsSpec)) serialJoinsUptoCard
end Rows
end Go.Proofs.YtblbcojkjknfdaaDoor
