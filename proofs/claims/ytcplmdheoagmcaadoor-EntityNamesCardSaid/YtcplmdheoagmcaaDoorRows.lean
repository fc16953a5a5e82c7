/-
  NARROWER THAN 'FOR EVERY INPUT', by the rows' own cells (each row's printed sentence says how): EntityBoth: laid · EntityNamed: laid · EntityCoded: laid · EntityRunes: laid · EntityEnds: laid · EntityNames: laid.
  DERIVED. THE GIVEN ROWS OF THIS SEAT. 6 by the template 'for every input the law returns true; each argument reads behind the call as it read before'; 0 by the template 'total and deterministic' (their statements: YtcplmdheoagmcaaDoorTotals.lean).
  GIVEN WITH THE SEED: the statements are not yours to turn. If you find one false, say at which input.
  Laid BY PROGRAM, IN A SANDBOX (cutbox-rows.mjs): the forced cells as the released guide's own fill.sh prints them over the translation 1a2956304caa927e… (all of the seat's roots in one cut). By AI agents, Wed Nov 11 2026. No macro, syntax, notation, axiom, sorry.
-/
import Derived.Test.YtcplmdheoagmcaaDoorChecked
import GoSem.Claim
import GoSem.ClaimJoined
import GoSem.ClaimMapViews
import Derived.JoinedTies
import Derived.KernelRfl
namespace Go.Proofs.YtcplmdheoagmcaaDoor
/- THE CELL 'sum', in the pinned program and in every row, IS THE sha256 OF THE DUMP (.gsa) THAT YtcplmdheoagmcaaDoorProg.lean LOADS. Nothing in Lean hashes anything: it is a label: what it is worth is what the hold of that sum in a sandbox is worth. -/
noncomputable def Tryd.pinned : Pinned := { name := "ytcplmdheoagmcaadoor", sum := "1a2956304caa927eb2157f31db0988654e6ca00763b7c25155a4b11f5ebd2436", checked := Tryd.checked }
namespace Rows
def none {H : Type} : Left H := { results := [], args := [] }

/- WHAT THE LISTED PACKAGE-LEVEL VARIABLES READ AS WHEN THE CALL BEGINS. Each datum BY PROGRAM (the guide's laid-datum.mjs) off the statement by which the dump's own 'gosem.cut.vars' lays the variable. In a bare row this is a premise. The card (YtcplmdheoagmcaaDoorCards.lean) ties it to the program's text. -/
def laid_cribble_entity_old {H : Type} : DataW H := .agg [.lit (.int .i32 8364), .lit (.int .i32 129), .lit (.int .i32 8218), .lit (.int .i32 402), .lit (.int .i32 8222), .lit (.int .i32 8230), .lit (.int .i32 8224), .lit (.int .i32 8225), .lit (.int .i32 710), .lit (.int .i32 8240), .lit (.int .i32 352), .lit (.int .i32 8249), .lit (.int .i32 338), .lit (.int .i32 141), .lit (.int .i32 381), .lit (.int .i32 143), .lit (.int .i32 144), .lit (.int .i32 8216), .lit (.int .i32 8217), .lit (.int .i32 8220), .lit (.int .i32 8221), .lit (.int .i32 8226), .lit (.int .i32 8211), .lit (.int .i32 8212), .lit (.int .i32 732), .lit (.int .i32 8482), .lit (.int .i32 353), .lit (.int .i32 8250), .lit (.int .i32 339), .lit (.int .i32 157), .lit (.int .i32 382), .lit (.int .i32 376)]

/-- 'cribblelaw05.EntityBoth': WHATEVER THE INPUT: true; the input reads as it did. -/
def entityBothSpec : ChangeSpec := { name := "entityBoth", fn := fun _ => fun
  | [d1, d2] => { results := [.lit (.bool true)], args := [d1, d2] }
  | _ => none }
def entityBothRow : OpenClaim := { program := "ytcplmdheoagmcaadoor", sum := "1a2956304caa927eb2157f31db0988654e6ca00763b7c25155a4b11f5ebd2436", func := "cribble/cribblelaw05.EntityBoth", spec := "entityBoth", unfollowed := true, recurses := true, named := ["cribble/entity.old"], apart := false, laid := [("cribble/entity.old", laid_cribble_entity_old)] }
def EntityBothSaid : Prop := entityBothRow.holds Tryd.pinned (OpenSpec.ofChange entityBothSpec)

/-- ITS FALSE NEIGHBOUR: 'it returns false'. Refute it at one input. -/
def entityBothWrong : ChangeSpec := { name := "entityBoth", fn := fun _ => fun
  | [d1, d2] => { results := [.lit (.bool false)], args := [d1, d2] }
  | _ => none }
def EntityBothWrongFalsely : Prop := entityBothRow.holds Tryd.pinned (OpenSpec.ofChange entityBothWrong)

/-- 'cribblelaw05.EntityNamed': WHATEVER THE INPUT: true; the input reads as it did. -/
def entityNamedSpec : ChangeSpec := { name := "entityNamed", fn := fun _ => fun
  | [d] => { results := [.lit (.bool true)], args := [d] }
  | _ => none }
def entityNamedRow : OpenClaim := { program := "ytcplmdheoagmcaadoor", sum := "1a2956304caa927eb2157f31db0988654e6ca00763b7c25155a4b11f5ebd2436", func := "cribble/cribblelaw05.EntityNamed", spec := "entityNamed", unfollowed := true, recurses := true, named := ["cribble/entity.old"], apart := false, laid := [("cribble/entity.old", laid_cribble_entity_old)] }
def EntityNamedSaid : Prop := entityNamedRow.holds Tryd.pinned (OpenSpec.ofChange entityNamedSpec)

/-- ITS FALSE NEIGHBOUR: 'it returns false'. Refute it at one input. -/
def entityNamedWrong : ChangeSpec := { name := "entityNamed", fn := fun _ => fun
  | [d] => { results := [.lit (.bool false)], args := [d] }
  | _ => none }
def EntityNamedWrongFalsely : Prop := entityNamedRow.holds Tryd.pinned (OpenSpec.ofChange entityNamedWrong)

/-- 'cribblelaw05.EntityCoded': WHATEVER THE INPUT: true; the input reads as it did. -/
def entityCodedSpec : ChangeSpec := { name := "entityCoded", fn := fun _ => fun
  | [d] => { results := [.lit (.bool true)], args := [d] }
  | _ => none }
def entityCodedRow : OpenClaim := { program := "ytcplmdheoagmcaadoor", sum := "1a2956304caa927eb2157f31db0988654e6ca00763b7c25155a4b11f5ebd2436", func := "cribble/cribblelaw05.EntityCoded", spec := "entityCoded", unfollowed := true, recurses := true, named := ["cribble/entity.old"], apart := false, laid := [("cribble/entity.old", laid_cribble_entity_old)] }
def EntityCodedSaid : Prop := entityCodedRow.holds Tryd.pinned (OpenSpec.ofChange entityCodedSpec)

/-- ITS FALSE NEIGHBOUR: 'it returns false'. Refute it at one input. -/
def entityCodedWrong : ChangeSpec := { name := "entityCoded", fn := fun _ => fun
  | [d] => { results := [.lit (.bool false)], args := [d] }
  | _ => none }
def EntityCodedWrongFalsely : Prop := entityCodedRow.holds Tryd.pinned (OpenSpec.ofChange entityCodedWrong)

/-- 'cribblelaw05.EntityRunes': WHATEVER THE INPUT: true; the input reads as it did. -/
def entityRunesSpec : ChangeSpec := { name := "entityRunes", fn := fun _ => fun
  | [d] => { results := [.lit (.bool true)], args := [d] }
  | _ => none }
def entityRunesRow : OpenClaim := { program := "ytcplmdheoagmcaadoor", sum := "1a2956304caa927eb2157f31db0988654e6ca00763b7c25155a4b11f5ebd2436", func := "cribble/cribblelaw05.EntityRunes", spec := "entityRunes", unfollowed := true, recurses := true, named := ["cribble/entity.old"], apart := false, laid := [("cribble/entity.old", laid_cribble_entity_old)] }
def EntityRunesSaid : Prop := entityRunesRow.holds Tryd.pinned (OpenSpec.ofChange entityRunesSpec)

/-- ITS FALSE NEIGHBOUR: 'it returns false'. Refute it at one input. -/
def entityRunesWrong : ChangeSpec := { name := "entityRunes", fn := fun _ => fun
  | [d] => { results := [.lit (.bool false)], args := [d] }
  | _ => none }
def EntityRunesWrongFalsely : Prop := entityRunesRow.holds Tryd.pinned (OpenSpec.ofChange entityRunesWrong)

/-- 'cribblelaw05.EntityEnds': WHATEVER THE INPUT: true; the input reads as it did. -/
def entityEndsSpec : ChangeSpec := { name := "entityEnds", fn := fun _ => fun
  | [d] => { results := [.lit (.bool true)], args := [d] }
  | _ => none }
def entityEndsRow : OpenClaim := { program := "ytcplmdheoagmcaadoor", sum := "1a2956304caa927eb2157f31db0988654e6ca00763b7c25155a4b11f5ebd2436", func := "cribble/cribblelaw05.EntityEnds", spec := "entityEnds", unfollowed := true, recurses := true, named := ["cribble/entity.old"], apart := false, laid := [("cribble/entity.old", laid_cribble_entity_old)] }
def EntityEndsSaid : Prop := entityEndsRow.holds Tryd.pinned (OpenSpec.ofChange entityEndsSpec)

/-- ITS FALSE NEIGHBOUR: 'it returns false'. Refute it at one input. -/
def entityEndsWrong : ChangeSpec := { name := "entityEnds", fn := fun _ => fun
  | [d] => { results := [.lit (.bool false)], args := [d] }
  | _ => none }
def EntityEndsWrongFalsely : Prop := entityEndsRow.holds Tryd.pinned (OpenSpec.ofChange entityEndsWrong)

/-- 'cribblelaw05.EntityNames': WHATEVER THE INPUT: true; the input reads as it did. -/
def entityNamesSpec : ChangeSpec := { name := "entityNames", fn := fun _ => fun
  | [d] => { results := [.lit (.bool true)], args := [d] }
  | _ => none }
def entityNamesRow : OpenClaim := { program := "ytcplmdheoagmcaadoor", sum := "1a2956304caa927eb2157f31db0988654e6ca00763b7c25155a4b11f5ebd2436", func := "cribble/cribblelaw05.EntityNames", spec := "entityNames", unfollowed := true, recurses := true, named := ["cribble/entity.old"], apart := false, laid := [("cribble/entity.old", laid_cribble_entity_old)] }
def EntityNamesSaid : Prop := entityNamesRow.holds Tryd.pinned (OpenSpec.ofChange entityNamesSpec)

/-- ITS FALSE NEIGHBOUR: 'it returns false'. Refute it at one input. -/
def entityNamesWrong : ChangeSpec := { name := "entityNames", fn := fun _ => fun
  | [d] => { results := [.lit (.bool false)], args := [d] }
  | _ => none }
def EntityNamesWrongFalsely : Prop := entityNamesRow.holds Tryd.pinned (OpenSpec.ofChange entityNamesWrong)

/- THE SECOND FORM. 'bulk': how many values and letters a reading holds, each counted each time it is reached (what is shared counts as often as it is met; a slice's spare places count too). A statement '..UptoSaid' is the law's where the arguments, and the package variables that the reading takes, are together of bulk at most 1048576: NARROWER than '..Said'. Prove '..Said' where nothing that the law and all that it calls make is longer than what came in: it says more and counts as full. Else prove '..UptoSaid'. A law counts once. -/
mutual
def uptoBulk {H : Type} : DataW H → Nat
  | .lit (.string bytes) => bytes.length + 1
  | .lit _ => 1
  | .nil => 1
  | .ptr d => uptoBulk d + 1
  | .slice elems spare => uptoBulkAll elems + uptoBulkAll spare + 1
  | .agg parts => uptoBulkAll parts + 1
  | .iface _ d => uptoBulk d + 1
  | .map entries => uptoBulkEntries entries + 1
  | .held _ => 1
def uptoBulkAll {H : Type} : List (DataW H) → Nat
  | [] => 0
  | d :: r => uptoBulk d + uptoBulkAll r
def uptoBulkEntries {H : Type} : List (Lit × DataW H) → Nat
  | [] => 0
  | x :: r => uptoBulkEntry x + uptoBulkEntries r
def uptoBulkEntry {H : Type} : Lit × DataW H → Nat
  | (.string bytes, d) => bytes.length + uptoBulk d + 1
  | (_, d) => uptoBulk d + 1
 end
def uptoSmall : (H : Type) → List (DataW H) → Bool := fun _ ds => decide (uptoBulkAll ds ≤ 1048576)
def OpenSpec.upto (s : _root_.Go.ChangeSpec) : _root_.Go.OpenSpec := { _root_.Go.OpenSpec.ofChange s with cond := some uptoSmall }

/-- 'cribblelaw05.EntityBoth', WHERE WHAT IT READS IS OF BULK AT MOST 1048576: true; the input reads as it did. -/
def entityBothUptoRow : OpenClaim := { program := "ytcplmdheoagmcaadoor", sum := "1a2956304caa927eb2157f31db0988654e6ca00763b7c25155a4b11f5ebd2436", func := "cribble/cribblelaw05.EntityBoth", spec := "entityBoth", unfollowed := true, recurses := true, named := ["cribble/entity.old"], apart := false, laid := [("cribble/entity.old", laid_cribble_entity_old)], narrowed := true }
def EntityBothUptoSaid : Prop := entityBothUptoRow.holds Tryd.pinned (OpenSpec.upto entityBothSpec)

/-- 'cribblelaw05.EntityNamed', WHERE WHAT IT READS IS OF BULK AT MOST 1048576: true; the input reads as it did. -/
def entityNamedUptoRow : OpenClaim := { program := "ytcplmdheoagmcaadoor", sum := "1a2956304caa927eb2157f31db0988654e6ca00763b7c25155a4b11f5ebd2436", func := "cribble/cribblelaw05.EntityNamed", spec := "entityNamed", unfollowed := true, recurses := true, named := ["cribble/entity.old"], apart := false, laid := [("cribble/entity.old", laid_cribble_entity_old)], narrowed := true }
def EntityNamedUptoSaid : Prop := entityNamedUptoRow.holds Tryd.pinned (OpenSpec.upto entityNamedSpec)

/-- 'cribblelaw05.EntityCoded', WHERE WHAT IT READS IS OF BULK AT MOST 1048576: true; the input reads as it did. -/
def entityCodedUptoRow : OpenClaim := { program := "ytcplmdheoagmcaadoor", sum := "1a2956304caa927eb2157f31db0988654e6ca00763b7c25155a4b11f5ebd2436", func := "cribble/cribblelaw05.EntityCoded", spec := "entityCoded", unfollowed := true, recurses := true, named := ["cribble/entity.old"], apart := false, laid := [("cribble/entity.old", laid_cribble_entity_old)], narrowed := true }
def EntityCodedUptoSaid : Prop := entityCodedUptoRow.holds Tryd.pinned (OpenSpec.upto entityCodedSpec)

/-- 'cribblelaw05.EntityRunes', WHERE WHAT IT READS IS OF BULK AT MOST 1048576: true; the input reads as it did. -/
def entityRunesUptoRow : OpenClaim := { program := "ytcplmdheoagmcaadoor", sum := "1a2956304caa927eb2157f31db0988654e6ca00763b7c25155a4b11f5ebd2436", func := "cribble/cribblelaw05.EntityRunes", spec := "entityRunes", unfollowed := true, recurses := true, named := ["cribble/entity.old"], apart := false, laid := [("cribble/entity.old", laid_cribble_entity_old)], narrowed := true }
def EntityRunesUptoSaid : Prop := entityRunesUptoRow.holds Tryd.pinned (OpenSpec.upto entityRunesSpec)

/-- 'cribblelaw05.EntityEnds', WHERE WHAT IT READS IS OF BULK AT MOST 1048576: true; the input reads as it did. -/
def entityEndsUptoRow : OpenClaim := { program := "ytcplmdheoagmcaadoor", sum := "1a2956304caa927eb2157f31db0988654e6ca00763b7c25155a4b11f5ebd2436", func := "cribble/cribblelaw05.EntityEnds", spec := "entityEnds", unfollowed := true, recurses := true, named := ["cribble/entity.old"], apart := false, laid := [("cribble/entity.old", laid_cribble_entity_old)], narrowed := true }
def EntityEndsUptoSaid : Prop := entityEndsUptoRow.holds Tryd.pinned (OpenSpec.upto entityEndsSpec)

/-- 'cribblelaw05.EntityNames', WHERE WHAT IT READS IS OF BULK AT MOST 1048576: true; the input reads as it did. -/
def entityNamesUptoRow : OpenClaim := { program := "ytcplmdheoagmcaadoor", sum := "1a2956304caa927eb2157f31db0988654e6ca00763b7c25155a4b11f5ebd2436", func := "cribble/cribblelaw05.EntityNames", spec := "entityNames", unfollowed := true, recurses := true, named := ["cribble/entity.old"], apart := false, laid := [("cribble/entity.old", laid_cribble_entity_old)], narrowed := true }
def EntityNamesUptoSaid : Prop := entityNamesUptoRow.holds Tryd.pinned (OpenSpec.upto entityNamesSpec)

end Rows
end Go.Proofs.YtcplmdheoagmcaaDoor
