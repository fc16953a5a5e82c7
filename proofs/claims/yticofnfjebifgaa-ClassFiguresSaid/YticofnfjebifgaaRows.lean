/-
  No cell of these rows narrows 'for every input' (looked for: loops, veiled, ifaces, maps, wideKeys, modest, calm, conditions, laid).
  DERIVED. THE GIVEN ROWS OF THIS SEAT. 7 by the template 'for every input the law returns true; each argument reads behind the call as it read before'; 0 by the template 'total and deterministic' (their statements: YticofnfjebifgaaTotals.lean).
  GIVEN WITH THE SEED: the statements are not yours to turn. If you find one false, say at which input.
  Laid BY PROGRAM, IN A SANDBOX (cutbox-rows.mjs): the forced cells as the released guide's own fill.sh prints them over the translation 24d8be6479ab1651… (all of the seat's roots in one cut). By AI agents, Wed Nov 11 2026. No macro, syntax, notation, axiom, sorry.
-/
import Derived.Test.YticofnfjebifgaaChecked
import GoSem.Claim
import GoSem.ClaimJoined
import GoSem.ClaimMapViews
import Derived.JoinedTies
import Derived.KernelRfl
namespace Go.Proofs.Yticofnfjebifgaa
/- THE CELL 'sum', in the pinned program and in every row, IS THE sha256 OF THE DUMP (.gsa) THAT YticofnfjebifgaaProg.lean LOADS. Nothing in Lean hashes anything: it is a label: what it is worth is what the hold of that sum in a sandbox is worth. -/
noncomputable def Try.pinned : Pinned := { name := "yticofnfjebifgaa", sum := "24d8be6479ab1651588bec0868b9f5930798d4b49bde40e11f8577869b23211d", checked := Try.checked }
namespace Rows
def none {H : Type} : Left H := { results := [], args := [] }

/-- 'cribblelaw03.ClassTexts': WHATEVER THE INPUT: true; the input reads as it did. -/
def classTextsSpec : ChangeSpec := { name := "classTexts", fn := fun _ => fun
  | [d] => { results := [.lit (.bool true)], args := [d] }
  | _ => none }
def classTextsRow : OpenClaim := { program := "yticofnfjebifgaa", sum := "24d8be6479ab1651588bec0868b9f5930798d4b49bde40e11f8577869b23211d", func := "cribble/cribblelaw03.ClassTexts", spec := "classTexts", unfollowed := true, recurses := true, apart := false }
def ClassTextsSaid : Prop := classTextsRow.holds Try.pinned (OpenSpec.ofChange classTextsSpec)

/-- ITS FALSE NEIGHBOUR: 'it returns false'. Refute it at one input. -/
def classTextsWrong : ChangeSpec := { name := "classTexts", fn := fun _ => fun
  | [d] => { results := [.lit (.bool false)], args := [d] }
  | _ => none }
def ClassTextsWrongFalsely : Prop := classTextsRow.holds Try.pinned (OpenSpec.ofChange classTextsWrong)

/-- 'cribblelaw03.ClassNumbers': WHATEVER THE INPUT: true; the input reads as it did. -/
def classNumbersSpec : ChangeSpec := { name := "classNumbers", fn := fun _ => fun
  | [d1, d2, d3] => { results := [.lit (.bool true)], args := [d1, d2, d3] }
  | _ => none }
def classNumbersRow : OpenClaim := { program := "yticofnfjebifgaa", sum := "24d8be6479ab1651588bec0868b9f5930798d4b49bde40e11f8577869b23211d", func := "cribble/cribblelaw03.ClassNumbers", spec := "classNumbers", unfollowed := true, recurses := true, apart := false }
def ClassNumbersSaid : Prop := classNumbersRow.holds Try.pinned (OpenSpec.ofChange classNumbersSpec)

/-- ITS FALSE NEIGHBOUR: 'it returns false'. Refute it at one input. -/
def classNumbersWrong : ChangeSpec := { name := "classNumbers", fn := fun _ => fun
  | [d1, d2, d3] => { results := [.lit (.bool false)], args := [d1, d2, d3] }
  | _ => none }
def ClassNumbersWrongFalsely : Prop := classNumbersRow.holds Try.pinned (OpenSpec.ofChange classNumbersWrong)

/-- 'cribblelaw03.ClassStays': WHATEVER THE INPUT: true; the input reads as it did. -/
def classStaysSpec : ChangeSpec := { name := "classStays", fn := fun _ => fun
  | [d] => { results := [.lit (.bool true)], args := [d] }
  | _ => none }
def classStaysRow : OpenClaim := { program := "yticofnfjebifgaa", sum := "24d8be6479ab1651588bec0868b9f5930798d4b49bde40e11f8577869b23211d", func := "cribble/cribblelaw03.ClassStays", spec := "classStays", unfollowed := true, recurses := true, apart := false }
def ClassStaysSaid : Prop := classStaysRow.holds Try.pinned (OpenSpec.ofChange classStaysSpec)

/-- ITS FALSE NEIGHBOUR: 'it returns false'. Refute it at one input. -/
def classStaysWrong : ChangeSpec := { name := "classStays", fn := fun _ => fun
  | [d] => { results := [.lit (.bool false)], args := [d] }
  | _ => none }
def ClassStaysWrongFalsely : Prop := classStaysRow.holds Try.pinned (OpenSpec.ofChange classStaysWrong)

/-- 'cribblelaw03.ClassJoins': WHATEVER THE INPUT: true; the input reads as it did. -/
def classJoinsSpec : ChangeSpec := { name := "classJoins", fn := fun _ => fun
  | [d1, d2] => { results := [.lit (.bool true)], args := [d1, d2] }
  | _ => none }
def classJoinsRow : OpenClaim := { program := "yticofnfjebifgaa", sum := "24d8be6479ab1651588bec0868b9f5930798d4b49bde40e11f8577869b23211d", func := "cribble/cribblelaw03.ClassJoins", spec := "classJoins", unfollowed := true, recurses := true, apart := false }
def ClassJoinsSaid : Prop := classJoinsRow.holds Try.pinned (OpenSpec.ofChange classJoinsSpec)

/-- ITS FALSE NEIGHBOUR: 'it returns false'. Refute it at one input. -/
def classJoinsWrong : ChangeSpec := { name := "classJoins", fn := fun _ => fun
  | [d1, d2] => { results := [.lit (.bool false)], args := [d1, d2] }
  | _ => none }
def ClassJoinsWrongFalsely : Prop := classJoinsRow.holds Try.pinned (OpenSpec.ofChange classJoinsWrong)

/-- 'cribblelaw03.ClassWords': WHATEVER THE INPUT: true; the input reads as it did. -/
def classWordsSpec : ChangeSpec := { name := "classWords", fn := fun _ => fun
  | [d1, d2] => { results := [.lit (.bool true)], args := [d1, d2] }
  | _ => none }
def classWordsRow : OpenClaim := { program := "yticofnfjebifgaa", sum := "24d8be6479ab1651588bec0868b9f5930798d4b49bde40e11f8577869b23211d", func := "cribble/cribblelaw03.ClassWords", spec := "classWords", unfollowed := true, recurses := true, apart := false }
def ClassWordsSaid : Prop := classWordsRow.holds Try.pinned (OpenSpec.ofChange classWordsSpec)

/-- ITS FALSE NEIGHBOUR: 'it returns false'. Refute it at one input. -/
def classWordsWrong : ChangeSpec := { name := "classWords", fn := fun _ => fun
  | [d1, d2] => { results := [.lit (.bool false)], args := [d1, d2] }
  | _ => none }
def ClassWordsWrongFalsely : Prop := classWordsRow.holds Try.pinned (OpenSpec.ofChange classWordsWrong)

/-- 'cribblelaw03.ClassFigures': WHATEVER THE INPUT: true; the input reads as it did. -/
def classFiguresSpec : ChangeSpec := { name := "classFigures", fn := fun _ => fun
  | [d1, d2] => { results := [.lit (.bool true)], args := [d1, d2] }
  | _ => none }
def classFiguresRow : OpenClaim := { program := "yticofnfjebifgaa", sum := "24d8be6479ab1651588bec0868b9f5930798d4b49bde40e11f8577869b23211d", func := "cribble/cribblelaw03.ClassFigures", spec := "classFigures", unfollowed := true, recurses := true, apart := false }
def ClassFiguresSaid : Prop := classFiguresRow.holds Try.pinned (OpenSpec.ofChange classFiguresSpec)

/-- ITS FALSE NEIGHBOUR: 'it returns false'. Refute it at one input. -/
def classFiguresWrong : ChangeSpec := { name := "classFigures", fn := fun _ => fun
  | [d1, d2] => { results := [.lit (.bool false)], args := [d1, d2] }
  | _ => none }
def ClassFiguresWrongFalsely : Prop := classFiguresRow.holds Try.pinned (OpenSpec.ofChange classFiguresWrong)

/-- 'cribblelaw03.ClassBytes': WHATEVER THE INPUT: true; the input reads as it did. -/
def classBytesSpec : ChangeSpec := { name := "classBytes", fn := fun _ => fun
  | [d] => { results := [.lit (.bool true)], args := [d] }
  | _ => none }
def classBytesRow : OpenClaim := { program := "yticofnfjebifgaa", sum := "24d8be6479ab1651588bec0868b9f5930798d4b49bde40e11f8577869b23211d", func := "cribble/cribblelaw03.ClassBytes", spec := "classBytes", unfollowed := true, recurses := true, apart := false }
def ClassBytesSaid : Prop := classBytesRow.holds Try.pinned (OpenSpec.ofChange classBytesSpec)

/-- ITS FALSE NEIGHBOUR: 'it returns false'. Refute it at one input. -/
def classBytesWrong : ChangeSpec := { name := "classBytes", fn := fun _ => fun
  | [d] => { results := [.lit (.bool false)], args := [d] }
  | _ => none }
def ClassBytesWrongFalsely : Prop := classBytesRow.holds Try.pinned (OpenSpec.ofChange classBytesWrong)

/- THE SECOND FORM. 'bulk': how many values and letters a reading holds, each counted each time it is reached (what is shared counts as often as it is met; a slice's spare places count too). A statement '..UptoSaid' is the law's where the arguments, and the package variables that the reading takes, are together of bulk at most 1048576: NARROWER than '..Said'. Prove '..Said' where nothing that the law and all that it calls make is longer than what came in: it says more and counts as full. Else prove '..UptoSaid'. A law counts once. -/
mutual
def uptoBulk {H : Type} : DataW H → Nat
  | .lit (.string bytes) => bytes.length + 1
  | .lit _ => 1
  | .nil => 1
  | .ptr d => uptoBulk d + 1
  | .slice elems spare => uptoBulkAll elems + uptoBulkAll spare + 1
  | .agg parts => uptoBulkAll parts + 1
  | .iface _ d => uptoBulk d + 1
  | .map entries => uptoBulkEntries entries + 1
  | .held _ => 1
def uptoBulkAll {H : Type} : List (DataW H) → Nat
  | [] => 0
  | d :: r => uptoBulk d + uptoBulkAll r
def uptoBulkEntries {H : Type} : List (Lit × DataW H) → Nat
  | [] => 0
  | x :: r => uptoBulkEntry x + uptoBulkEntries r
def uptoBulkEntry {H : Type} : Lit × DataW H → Nat
  | (.string bytes, d) => bytes.length + uptoBulk d + 1
  | (_, d) => uptoBulk d + 1
 end
def uptoSmall : (H : Type) → List (DataW H) → Bool := fun _ ds => decide (uptoBulkAll ds ≤ 1048576)
def OpenSpec.upto (s : _root_.Go.ChangeSpec) : _root_.Go.OpenSpec := { _root_.Go.OpenSpec.ofChange s with cond := some uptoSmall }

/-- 'cribblelaw03.ClassTexts', WHERE WHAT IT READS IS OF BULK AT MOST 1048576: true; the input reads as it did. -/
def classTextsUptoRow : OpenClaim := { program := "yticofnfjebifgaa", sum := "24d8be6479ab1651588bec0868b9f5930798d4b49bde40e11f8577869b23211d", func := "cribble/cribblelaw03.ClassTexts", spec := "classTexts", unfollowed := true, recurses := true, apart := false, narrowed := true }
def ClassTextsUptoSaid : Prop := classTextsUptoRow.holds Try.pinned (OpenSpec.upto classTextsSpec)

/-- 'cribblelaw03.ClassNumbers', WHERE WHAT IT READS IS OF BULK AT MOST 1048576: true; the input reads as it did. -/
def classNumbersUptoRow : OpenClaim := { program := "yticofnfjebifgaa", sum := "24d8be6479ab1651588bec0868b9f5930798d4b49bde40e11f8577869b23211d", func := "cribble/cribblelaw03.ClassNumbers", spec := "classNumbers", unfollowed := true, recurses := true, apart := false, narrowed := true }
def ClassNumbersUptoSaid : Prop := classNumbersUptoRow.holds Try.pinned (OpenSpec.upto classNumbersSpec)

/-- 'cribblelaw03.ClassStays', WHERE WHAT IT READS IS OF BULK AT MOST 1048576: true; the input reads as it did. -/
def classStaysUptoRow : OpenClaim := { program := "yticofnfjebifgaa", sum := "24d8be6479ab1651588bec0868b9f5930798d4b49bde40e11f8577869b23211d", func := "cribble/cribblelaw03.ClassStays", spec := "classStays", unfollowed := true, recurses := true, apart := false, narrowed := true }
def ClassStaysUptoSaid : Prop := classStaysUptoRow.holds Try.pinned (OpenSpec.upto classStaysSpec)

/-- 'cribblelaw03.ClassJoins', WHERE WHAT IT READS IS OF BULK AT MOST 1048576: true; the input reads as it did. -/
def classJoinsUptoRow : OpenClaim := { program := "yticofnfjebifgaa", sum := "24d8be6479ab1651588bec0868b9f5930798d4b49bde40e11f8577869b23211d", func := "cribble/cribblelaw03.ClassJoins", spec := "classJoins", unfollowed := true, recurses := true, apart := false, narrowed := true }
def ClassJoinsUptoSaid : Prop := classJoinsUptoRow.holds Try.pinned (OpenSpec.upto classJoinsSpec)

/-- 'cribblelaw03.ClassWords', WHERE WHAT IT READS IS OF BULK AT MOST 1048576: true; the input reads as it did. -/
def classWordsUptoRow : OpenClaim := { program := "yticofnfjebifgaa", sum := "24d8be6479ab1651588bec0868b9f5930798d4b49bde40e11f8577869b23211d", func := "cribble/cribblelaw03.ClassWords", spec := "classWords", unfollowed := true, recurses := true, apart := false, narrowed := true }
def ClassWordsUptoSaid : Prop := classWordsUptoRow.holds Try.pinned (OpenSpec.upto classWordsSpec)

/-- 'cribblelaw03.ClassFigures', WHERE WHAT IT READS IS OF BULK AT MOST 1048576: true; the input reads as it did. -/
def classFiguresUptoRow : OpenClaim := { program := "yticofnfjebifgaa", sum := "24d8be6479ab1651588bec0868b9f5930798d4b49bde40e11f8577869b23211d", func := "cribble/cribblelaw03.ClassFigures", spec := "classFigures", unfollowed := true, recurses := true, apart := false, narrowed := true }
def ClassFiguresUptoSaid : Prop := classFiguresUptoRow.holds Try.pinned (OpenSpec.upto classFiguresSpec)

/-- 'cribblelaw03.ClassBytes', WHERE WHAT IT READS IS OF BULK AT MOST 1048576: true; the input reads as it did. -/
def classBytesUptoRow : OpenClaim := { program := "yticofnfjebifgaa", sum := "24d8be6479ab1651588bec0868b9f5930798d4b49bde40e11f8577869b23211d", func := "cribble/cribblelaw03.ClassBytes", spec := "classBytes", unfollowed := true, recurses := true, apart := false, narrowed := true }
def ClassBytesUptoSaid : Prop := classBytesUptoRow.holds Try.pinned (OpenSpec.upto classBytesSpec)

end Rows
end Go.Proofs.Yticofnfjebifgaa
