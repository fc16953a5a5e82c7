/-
  DERIVED. GIVEN WITH THE SEED: THE CARDS: each row of YtcplmdheoagmcaaDoorRows.lean that lists a variable, with what it lists TIED to the program's text (the seventh form; the later family's looks); each row that meets fmt, with fmt's text TOLD by the authors' own Lean function (tested against real Go, not proved from fmt's source: count such statements apart). THE CARD IS WHAT COUNTS. Prove the row's statement (the work); the ties are given (YtcplmdheoagmcaaDoorTie.lean); close each card by the builder's one call (the guide's Derived/Test/ToyasCard.lean, 'card_holds'). Laid BY PROGRAM, IN A SANDBOX (cutbox-door.mjs). By AI agents, Wed Nov 11 2026. No macro, syntax, notation, axiom, sorry.
-/
import Derived.Test.YtcplmdheoagmcaaDoorRows
import GoSem.ClaimSeven
namespace Go.Proofs.YtcplmdheoagmcaaDoor
namespace Rows

/-- THE TIED CARD OF 'cribblelaw05.EntityBoth'. -/
def entityBothCard : Claim7 := { stood := { row := entityBothRow, standIns := [], harness := (true, "01790f21ed143f830625c4936b07bbcf4e9c520e6206c53deb7d90ef0e078e72"), looks := false }, kinds := [], alts := [], laidByText := true, laidKinds := [.data], laidTests := true, laidLooks := .later }
def EntityBothCardSaid : Prop := Claim7.holds Tryd.pinned (.plain (OpenSpec.ofChange entityBothSpec)) entityBothCard

/-- THE TIED CARD OF 'cribblelaw05.EntityNamed'. -/
def entityNamedCard : Claim7 := { stood := { row := entityNamedRow, standIns := [], harness := (true, "01790f21ed143f830625c4936b07bbcf4e9c520e6206c53deb7d90ef0e078e72"), looks := false }, kinds := [], alts := [], laidByText := true, laidKinds := [.data], laidTests := true, laidLooks := .later }
def EntityNamedCardSaid : Prop := Claim7.holds Tryd.pinned (.plain (OpenSpec.ofChange entityNamedSpec)) entityNamedCard

/-- THE TIED CARD OF 'cribblelaw05.EntityCoded'. -/
def entityCodedCard : Claim7 := { stood := { row := entityCodedRow, standIns := [], harness := (true, "01790f21ed143f830625c4936b07bbcf4e9c520e6206c53deb7d90ef0e078e72"), looks := false }, kinds := [], alts := [], laidByText := true, laidKinds := [.data], laidTests := true, laidLooks := .later }
def EntityCodedCardSaid : Prop := Claim7.holds Tryd.pinned (.plain (OpenSpec.ofChange entityCodedSpec)) entityCodedCard

/-- THE TIED CARD OF 'cribblelaw05.EntityRunes'. -/
def entityRunesCard : Claim7 := { stood := { row := entityRunesRow, standIns := [], harness := (true, "01790f21ed143f830625c4936b07bbcf4e9c520e6206c53deb7d90ef0e078e72"), looks := false }, kinds := [], alts := [], laidByText := true, laidKinds := [.data], laidTests := true, laidLooks := .later }
def EntityRunesCardSaid : Prop := Claim7.holds Tryd.pinned (.plain (OpenSpec.ofChange entityRunesSpec)) entityRunesCard

/-- THE TIED CARD OF 'cribblelaw05.EntityEnds'. -/
def entityEndsCard : Claim7 := { stood := { row := entityEndsRow, standIns := [], harness := (true, "01790f21ed143f830625c4936b07bbcf4e9c520e6206c53deb7d90ef0e078e72"), looks := false }, kinds := [], alts := [], laidByText := true, laidKinds := [.data], laidTests := true, laidLooks := .later }
def EntityEndsCardSaid : Prop := Claim7.holds Tryd.pinned (.plain (OpenSpec.ofChange entityEndsSpec)) entityEndsCard

/-- THE TIED CARD OF 'cribblelaw05.EntityNames'. -/
def entityNamesCard : Claim7 := { stood := { row := entityNamesRow, standIns := [], harness := (true, "01790f21ed143f830625c4936b07bbcf4e9c520e6206c53deb7d90ef0e078e72"), looks := false }, kinds := [], alts := [], laidByText := true, laidKinds := [.data], laidTests := true, laidLooks := .later }
def EntityNamesCardSaid : Prop := Claim7.holds Tryd.pinned (.plain (OpenSpec.ofChange entityNamesSpec)) entityNamesCard

/-- THE SECOND FORM's CARD OF 'cribblelaw05.EntityBoth'. -/
def entityBothUptoCard : Claim7 := { stood := { row := entityBothUptoRow, standIns := [], harness := (true, "01790f21ed143f830625c4936b07bbcf4e9c520e6206c53deb7d90ef0e078e72"), looks := false }, kinds := [], alts := [], laidByText := true, laidKinds := [.data], laidTests := true, laidLooks := .later }
def EntityBothUptoCardSaid : Prop := Claim7.holds Tryd.pinned (.plain (OpenSpec.upto entityBothSpec)) entityBothUptoCard

/-- THE SECOND FORM's CARD OF 'cribblelaw05.EntityNamed'. -/
def entityNamedUptoCard : Claim7 := { stood := { row := entityNamedUptoRow, standIns := [], harness := (true, "01790f21ed143f830625c4936b07bbcf4e9c520e6206c53deb7d90ef0e078e72"), looks := false }, kinds := [], alts := [], laidByText := true, laidKinds := [.data], laidTests := true, laidLooks := .later }
def EntityNamedUptoCardSaid : Prop := Claim7.holds Tryd.pinned (.plain (OpenSpec.upto entityNamedSpec)) entityNamedUptoCard

/-- THE SECOND FORM's CARD OF 'cribblelaw05.EntityCoded'. -/
def entityCodedUptoCard : Claim7 := { stood := { row := entityCodedUptoRow, standIns := [], harness := (true, "01790f21ed143f830625c4936b07bbcf4e9c520e6206c53deb7d90ef0e078e72"), looks := false }, kinds := [], alts := [], laidByText := true, laidKinds := [.data], laidTests := true, laidLooks := .later }
def EntityCodedUptoCardSaid : Prop := Claim7.holds Tryd.pinned (.plain (OpenSpec.upto entityCodedSpec)) entityCodedUptoCard

/-- THE SECOND FORM's CARD OF 'cribblelaw05.EntityRunes'. -/
def entityRunesUptoCard : Claim7 := { stood := { row := entityRunesUptoRow, standIns := [], harness := (true, "01790f21ed143f830625c4936b07bbcf4e9c520e6206c53deb7d90ef0e078e72"), looks := false }, kinds := [], alts := [], laidByText := true, laidKinds := [.data], laidTests := true, laidLooks := .later }
def EntityRunesUptoCardSaid : Prop := Claim7.holds Tryd.pinned (.plain (OpenSpec.upto entityRunesSpec)) entityRunesUptoCard

/-- THE SECOND FORM's CARD OF 'cribblelaw05.EntityEnds'. -/
def entityEndsUptoCard : Claim7 := { stood := { row := entityEndsUptoRow, standIns := [], harness := (true, "01790f21ed143f830625c4936b07bbcf4e9c520e6206c53deb7d90ef0e078e72"), looks := false }, kinds := [], alts := [], laidByText := true, laidKinds := [.data], laidTests := true, laidLooks := .later }
def EntityEndsUptoCardSaid : Prop := Claim7.holds Tryd.pinned (.plain (OpenSpec.upto entityEndsSpec)) entityEndsUptoCard

/-- THE SECOND FORM's CARD OF 'cribblelaw05.EntityNames'. -/
def entityNamesUptoCard : Claim7 := { stood := { row := entityNamesUptoRow, standIns := [], harness := (true, "01790f21ed143f830625c4936b07bbcf4e9c520e6206c53deb7d90ef0e078e72"), looks := false }, kinds := [], alts := [], laidByText := true, laidKinds := [.data], laidTests := true, laidLooks := .later }
def EntityNamesUptoCardSaid : Prop := Claim7.holds Tryd.pinned (.plain (OpenSpec.upto entityNamesSpec)) entityNamesUptoCard
end Rows
end Go.Proofs.YtcplmdheoagmcaaDoor
