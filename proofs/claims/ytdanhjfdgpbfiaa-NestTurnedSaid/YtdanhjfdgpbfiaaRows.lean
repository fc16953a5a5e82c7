/-
  No cell of these rows narrows 'for every input' (looked for: loops, veiled, ifaces, maps, wideKeys, modest, calm, conditions, laid).
  DERIVED. THE GIVEN ROWS OF THIS SEAT. 4 by the template 'for every input the law returns true; each argument reads behind the call as it read before'; 0 by the template 'total and deterministic' (their statements: YtdanhjfdgpbfiaaTotals.lean).
  GIVEN WITH THE SEED: the statements are not yours to turn. If you find one false, say at which input.
  Laid BY PROGRAM, IN A SANDBOX (cutbox-rows.mjs): the forced cells as the released guide's own fill.sh prints them over the translation 7d4347dacf133899… (all of the seat's roots in one cut). By AI agents, Wed Nov 11 2026. No macro, syntax, notation, axiom, sorry.
-/
import Derived.Test.YtdanhjfdgpbfiaaChecked
import GoSem.Claim
import GoSem.ClaimJoined
import GoSem.ClaimMapViews
import Derived.JoinedTies
import Derived.KernelRfl
namespace Go.Proofs.Ytdanhjfdgpbfiaa
/- THE CELL 'sum', in the pinned program and in every row, IS THE sha256 OF THE DUMP (.gsa) THAT YtdanhjfdgpbfiaaProg.lean LOADS. Nothing in Lean hashes anything: it is a label: what it is worth is what the hold of that sum in a sandbox is worth. -/
noncomputable def Try.pinned : Pinned := { name := "ytdanhjfdgpbfiaa", sum := "7d4347dacf1338997136dfe14a38d4f9cbbd96124833249d4239235311f23783", checked := Try.checked }
namespace Rows
def none {H : Type} : Left H := { results := [], args := [] }

/-- 'cribblelaw20.NestLast': WHATEVER THE INPUT: true; the input reads as it did. -/
def nestLastSpec : ChangeSpec := { name := "nestLast", fn := fun _ => fun
  | [d1, d2] => { results := [.lit (.bool true)], args := [d1, d2] }
  | _ => none }
def nestLastRow : OpenClaim := { program := "ytdanhjfdgpbfiaa", sum := "7d4347dacf1338997136dfe14a38d4f9cbbd96124833249d4239235311f23783", func := "cribble/cribblelaw20.NestLast", spec := "nestLast", unfollowed := true, recurses := true, apart := false }
def NestLastSaid : Prop := nestLastRow.holds Try.pinned (OpenSpec.ofChange nestLastSpec)

/-- ITS FALSE NEIGHBOUR: 'it returns false'. Refute it at one input. -/
def nestLastWrong : ChangeSpec := { name := "nestLast", fn := fun _ => fun
  | [d1, d2] => { results := [.lit (.bool false)], args := [d1, d2] }
  | _ => none }
def NestLastWrongFalsely : Prop := nestLastRow.holds Try.pinned (OpenSpec.ofChange nestLastWrong)

/-- 'cribblelaw20.NestSums': WHATEVER THE INPUT: true; the input reads as it did. -/
def nestSumsSpec : ChangeSpec := { name := "nestSums", fn := fun _ => fun
  | [d1, d2] => { results := [.lit (.bool true)], args := [d1, d2] }
  | _ => none }
def nestSumsRow : OpenClaim := { program := "ytdanhjfdgpbfiaa", sum := "7d4347dacf1338997136dfe14a38d4f9cbbd96124833249d4239235311f23783", func := "cribble/cribblelaw20.NestSums", spec := "nestSums", unfollowed := true, recurses := true, apart := false }
def NestSumsSaid : Prop := nestSumsRow.holds Try.pinned (OpenSpec.ofChange nestSumsSpec)

/-- ITS FALSE NEIGHBOUR: 'it returns false'. Refute it at one input. -/
def nestSumsWrong : ChangeSpec := { name := "nestSums", fn := fun _ => fun
  | [d1, d2] => { results := [.lit (.bool false)], args := [d1, d2] }
  | _ => none }
def NestSumsWrongFalsely : Prop := nestSumsRow.holds Try.pinned (OpenSpec.ofChange nestSumsWrong)

/-- 'cribblelaw20.NestTurned': WHATEVER THE INPUT: true; the input reads as it did. -/
def nestTurnedSpec : ChangeSpec := { name := "nestTurned", fn := fun _ => fun
  | [d] => { results := [.lit (.bool true)], args := [d] }
  | _ => none }
def nestTurnedRow : OpenClaim := { program := "ytdanhjfdgpbfiaa", sum := "7d4347dacf1338997136dfe14a38d4f9cbbd96124833249d4239235311f23783", func := "cribble/cribblelaw20.NestTurned", spec := "nestTurned", unfollowed := true, recurses := true, apart := false }
def NestTurnedSaid : Prop := nestTurnedRow.holds Try.pinned (OpenSpec.ofChange nestTurnedSpec)

/-- ITS FALSE NEIGHBOUR: 'it returns false'. Refute it at one input. -/
def nestTurnedWrong : ChangeSpec := { name := "nestTurned", fn := fun _ => fun
  | [d] => { results := [.lit (.bool false)], args := [d] }
  | _ => none }
def NestTurnedWrongFalsely : Prop := nestTurnedRow.holds Try.pinned (OpenSpec.ofChange nestTurnedWrong)

/-- 'cribblelaw20.NestScripts': WHATEVER THE INPUT: true; the input reads as it did. -/
def nestScriptsSpec : ChangeSpec := { name := "nestScripts", fn := fun _ => fun
  | [d1, d2] => { results := [.lit (.bool true)], args := [d1, d2] }
  | _ => none }
def nestScriptsRow : OpenClaim := { program := "ytdanhjfdgpbfiaa", sum := "7d4347dacf1338997136dfe14a38d4f9cbbd96124833249d4239235311f23783", func := "cribble/cribblelaw20.NestScripts", spec := "nestScripts", unfollowed := true, recurses := true, apart := false }
def NestScriptsSaid : Prop := nestScriptsRow.holds Try.pinned (OpenSpec.ofChange nestScriptsSpec)

/-- ITS FALSE NEIGHBOUR: 'it returns false'. Refute it at one input. -/
def nestScriptsWrong : ChangeSpec := { name := "nestScripts", fn := fun _ => fun
  | [d1, d2] => { results := [.lit (.bool false)], args := [d1, d2] }
  | _ => none }
def NestScriptsWrongFalsely : Prop := nestScriptsRow.holds Try.pinned (OpenSpec.ofChange nestScriptsWrong)

/- THE SECOND FORM. 'bulk': how many values and letters a reading holds, each counted each time it is reached (what is shared counts as often as it is met; a slice's spare places count too). A statement '..UptoSaid' is the law's where the arguments, and the package variables that the reading takes, are together of bulk at most 1048576: NARROWER than '..Said'. Prove '..Said' where nothing that the law and all that it calls make is longer than what came in: it says more and counts as full. Else prove '..UptoSaid'. A law counts once. -/
mutual
def uptoBulk {H : Type} : DataW H → Nat
  | .lit (.string bytes) => bytes.length + 1
  | .lit _ => 1
  | .nil => 1
  | .ptr d => uptoBulk d + 1
  | .slice elems spare => uptoBulkAll elems + uptoBulkAll spare + 1
  | .agg parts => uptoBulkAll parts + 1
  | .iface _ d => uptoBulk d + 1
  | .map entries => uptoBulkEntries entries + 1
  | .held _ => 1
def uptoBulkAll {H : Type} : List (DataW H) → Nat
  | [] => 0
  | d :: r => uptoBulk d + uptoBulkAll r
def uptoBulkEntries {H : Type} : List (Lit × DataW H) → Nat
  | [] => 0
  | x :: r => uptoBulkEntry x + uptoBulkEntries r
def uptoBulkEntry {H : Type} : Lit × DataW H → Nat
  | (.string bytes, d) => bytes.length + uptoBulk d + 1
  | (_, d) => uptoBulk d + 1
 end
def uptoSmall : (H : Type) → List (DataW H) → Bool := fun _ ds => decide (uptoBulkAll ds ≤ 1048576)
def OpenSpec.upto (s : _root_.Go.ChangeSpec) : _root_.Go.OpenSpec := { _root_.Go.OpenSpec.ofChange s with cond := some uptoSmall }

/-- 'cribblelaw20.NestLast', WHERE WHAT IT READS IS OF BULK AT MOST 1048576: true; the input reads as it did. -/
def nestLastUptoRow : OpenClaim := { program := "ytdanhjfdgpbfiaa", sum := "7d4347dacf1338997136dfe14a38d4f9cbbd96124833249d4239235311f23783", func := "cribble/cribblelaw20.NestLast", spec := "nestLast", unfollowed := true, recurses := true, apart := false, narrowed := true }
def NestLastUptoSaid : Prop := nestLastUptoRow.holds Try.pinned (OpenSpec.upto nestLastSpec)

/-- 'cribblelaw20.NestSums', WHERE WHAT IT READS IS OF BULK AT MOST 1048576: true; the input reads as it did. -/
def nestSumsUptoRow : OpenClaim := { program := "ytdanhjfdgpbfiaa", sum := "7d4347dacf1338997136dfe14a38d4f9cbbd96124833249d4239235311f23783", func := "cribble/cribblelaw20.NestSums", spec := "nestSums", unfollowed := true, recurses := true, apart := false, narrowed := true }
def NestSumsUptoSaid : Prop := nestSumsUptoRow.holds Try.pinned (OpenSpec.upto nestSumsSpec)

/-- 'cribblelaw20.NestTurned', WHERE WHAT IT READS IS OF BULK AT MOST 1048576: true; the input reads as it did. -/
def nestTurnedUptoRow : OpenClaim := { program := "ytdanhjfdgpbfiaa", sum := "7d4347dacf1338997136dfe14a38d4f9cbbd96124833249d4239235311f23783", func := "cribble/cribblelaw20.NestTurned", spec := "nestTurned", unfollowed := true, recurses := true, apart := false, narrowed := true }
def NestTurnedUptoSaid : Prop := nestTurnedUptoRow.holds Try.pinned (OpenSpec.upto nestTurnedSpec)

/-- 'cribblelaw20.NestScripts', WHERE WHAT IT READS IS OF BULK AT MOST 1048576: true; the input reads as it did. -/
def nestScriptsUptoRow : OpenClaim := { program := "ytdanhjfdgpbfiaa", sum := "7d4347dacf1338997136dfe14a38d4f9cbbd96124833249d4239235311f23783", func := "cribble/cribblelaw20.NestScripts", spec := "nestScripts", unfollowed := true, recurses := true, apart := false, narrowed := true }
def NestScriptsUptoSaid : Prop := nestScriptsUptoRow.holds Try.pinned (OpenSpec.upto nestScriptsSpec)

end Rows
end Go.Proofs.Ytdanhjfdgpbfiaa
