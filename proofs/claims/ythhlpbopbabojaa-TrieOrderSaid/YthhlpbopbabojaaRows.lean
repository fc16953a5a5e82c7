/-
  No cell of these rows narrows 'for every input' (looked for: loops, veiled, ifaces, maps, wideKeys, modest, calm, conditions, laid).
  DERIVED. THE GIVEN ROWS OF THIS SEAT. 5 by the template 'for every input the law returns true; each argument reads behind the call as it read before'; 0 by the template 'total and deterministic' (their statements: YthhlpbopbabojaaTotals.lean).
  GIVEN WITH THE SEED: the statements are not yours to turn. If you find one false, say at which input.
  Laid BY PROGRAM, IN A SANDBOX (cutbox-rows.mjs): the forced cells as the released guide's own fill.sh prints them over the translation 402e7e9f8f9a64bf… (all of the seat's roots in one cut). By AI agents, Wed Nov 11 2026. No macro, syntax, notation, axiom, sorry.
-/
import Derived.Test.YthhlpbopbabojaaChecked
import GoSem.Claim
import GoSem.ClaimJoined
import GoSem.ClaimMapViews
import Derived.JoinedTies
import Derived.KernelRfl
namespace Go.Proofs.Ythhlpbopbabojaa
/- THE CELL 'sum', in the pinned program and in every row, IS THE sha256 OF THE DUMP (.gsa) THAT YthhlpbopbabojaaProg.lean LOADS. Nothing in Lean hashes anything: it is a label: what it is worth is what the hold of that sum in a sandbox is worth. -/
noncomputable def Try.pinned : Pinned := { name := "ythhlpbopbabojaa", sum := "402e7e9f8f9a64bf6a5c08b99e411f195c422aeb05e718336c9cdc633b5c0a88", checked := Try.checked }
namespace Rows
def none {H : Type} : Left H := { results := [], args := [] }

/-- 'cribblelaw04.TrieSteps': WHATEVER THE INPUT: true; the input reads as it did. -/
def trieStepsSpec : ChangeSpec := { name := "trieSteps", fn := fun _ => fun
  | [d1, d2] => { results := [.lit (.bool true)], args := [d1, d2] }
  | _ => none }
def trieStepsRow : OpenClaim := { program := "ythhlpbopbabojaa", sum := "402e7e9f8f9a64bf6a5c08b99e411f195c422aeb05e718336c9cdc633b5c0a88", func := "cribble/cribblelaw04.TrieSteps", spec := "trieSteps", unfollowed := true, recurses := true, apart := false }
def TrieStepsSaid : Prop := trieStepsRow.holds Try.pinned (OpenSpec.ofChange trieStepsSpec)

/-- ITS FALSE NEIGHBOUR: 'it returns false'. Refute it at one input. -/
def trieStepsWrong : ChangeSpec := { name := "trieSteps", fn := fun _ => fun
  | [d1, d2] => { results := [.lit (.bool false)], args := [d1, d2] }
  | _ => none }
def TrieStepsWrongFalsely : Prop := trieStepsRow.holds Try.pinned (OpenSpec.ofChange trieStepsWrong)

/-- 'cribblelaw04.TrieApart': WHATEVER THE INPUT: true; the input reads as it did. -/
def trieApartSpec : ChangeSpec := { name := "trieApart", fn := fun _ => fun
  | [d1, d2, d3] => { results := [.lit (.bool true)], args := [d1, d2, d3] }
  | _ => none }
def trieApartRow : OpenClaim := { program := "ythhlpbopbabojaa", sum := "402e7e9f8f9a64bf6a5c08b99e411f195c422aeb05e718336c9cdc633b5c0a88", func := "cribble/cribblelaw04.TrieApart", spec := "trieApart", unfollowed := true, recurses := true, apart := false }
def TrieApartSaid : Prop := trieApartRow.holds Try.pinned (OpenSpec.ofChange trieApartSpec)

/-- ITS FALSE NEIGHBOUR: 'it returns false'. Refute it at one input. -/
def trieApartWrong : ChangeSpec := { name := "trieApart", fn := fun _ => fun
  | [d1, d2, d3] => { results := [.lit (.bool false)], args := [d1, d2, d3] }
  | _ => none }
def TrieApartWrongFalsely : Prop := trieApartRow.holds Try.pinned (OpenSpec.ofChange trieApartWrong)

/-- 'cribblelaw04.TrieFinds': WHATEVER THE INPUT: true; the input reads as it did. -/
def trieFindsSpec : ChangeSpec := { name := "trieFinds", fn := fun _ => fun
  | [d1, d2] => { results := [.lit (.bool true)], args := [d1, d2] }
  | _ => none }
def trieFindsRow : OpenClaim := { program := "ythhlpbopbabojaa", sum := "402e7e9f8f9a64bf6a5c08b99e411f195c422aeb05e718336c9cdc633b5c0a88", func := "cribble/cribblelaw04.TrieFinds", spec := "trieFinds", unfollowed := true, recurses := true, apart := false }
def TrieFindsSaid : Prop := trieFindsRow.holds Try.pinned (OpenSpec.ofChange trieFindsSpec)

/-- ITS FALSE NEIGHBOUR: 'it returns false'. Refute it at one input. -/
def trieFindsWrong : ChangeSpec := { name := "trieFinds", fn := fun _ => fun
  | [d1, d2] => { results := [.lit (.bool false)], args := [d1, d2] }
  | _ => none }
def TrieFindsWrongFalsely : Prop := trieFindsRow.holds Try.pinned (OpenSpec.ofChange trieFindsWrong)

/-- 'cribblelaw04.TrieAll': WHATEVER THE INPUT: true; the input reads as it did. -/
def trieAllSpec : ChangeSpec := { name := "trieAll", fn := fun _ => fun
  | [d1, d2] => { results := [.lit (.bool true)], args := [d1, d2] }
  | _ => none }
def trieAllRow : OpenClaim := { program := "ythhlpbopbabojaa", sum := "402e7e9f8f9a64bf6a5c08b99e411f195c422aeb05e718336c9cdc633b5c0a88", func := "cribble/cribblelaw04.TrieAll", spec := "trieAll", unfollowed := true, recurses := true, apart := false }
def TrieAllSaid : Prop := trieAllRow.holds Try.pinned (OpenSpec.ofChange trieAllSpec)

/-- ITS FALSE NEIGHBOUR: 'it returns false'. Refute it at one input. -/
def trieAllWrong : ChangeSpec := { name := "trieAll", fn := fun _ => fun
  | [d1, d2] => { results := [.lit (.bool false)], args := [d1, d2] }
  | _ => none }
def TrieAllWrongFalsely : Prop := trieAllRow.holds Try.pinned (OpenSpec.ofChange trieAllWrong)

/-- 'cribblelaw04.TrieOrder': WHATEVER THE INPUT: true; the input reads as it did. -/
def trieOrderSpec : ChangeSpec := { name := "trieOrder", fn := fun _ => fun
  | [d1, d2, d3] => { results := [.lit (.bool true)], args := [d1, d2, d3] }
  | _ => none }
def trieOrderRow : OpenClaim := { program := "ythhlpbopbabojaa", sum := "402e7e9f8f9a64bf6a5c08b99e411f195c422aeb05e718336c9cdc633b5c0a88", func := "cribble/cribblelaw04.TrieOrder", spec := "trieOrder", unfollowed := true, recurses := true, apart := false }
def TrieOrderSaid : Prop := trieOrderRow.holds Try.pinned (OpenSpec.ofChange trieOrderSpec)

/-- ITS FALSE NEIGHBOUR: 'it returns false'. Refute it at one input. -/
def trieOrderWrong : ChangeSpec := { name := "trieOrder", fn := fun _ => fun
  | [d1, d2, d3] => { results := [.lit (.bool false)], args := [d1, d2, d3] }
  | _ => none }
def TrieOrderWrongFalsely : Prop := trieOrderRow.holds Try.pinned (OpenSpec.ofChange trieOrderWrong)

/- THE SECOND FORM. 'bulk': how many values and letters a reading holds, each counted each time it is reached (what is shared counts as often as it is met; a slice's spare places count too). A statement '..UptoSaid' is the law's where the arguments, and the package variables that the reading takes, are together of bulk at most 1048576: NARROWER than '..Said'. Prove '..Said' where nothing that the law and all that it calls make is longer than what came in: it says more and counts as full. Else prove '..UptoSaid'. A law counts once. -/
mutual
def uptoBulk {H : Type} : DataW H → Nat
  | .lit (.string bytes) => bytes.length + 1
  | .lit _ => 1
  | .nil => 1
  | .ptr d => uptoBulk d + 1
  | .slice elems spare => uptoBulkAll elems + uptoBulkAll spare + 1
  | .agg parts => uptoBulkAll parts + 1
  | .iface _ d => uptoBulk d + 1
  | .map entries => uptoBulkEntries entries + 1
  | .held _ => 1
def uptoBulkAll {H : Type} : List (DataW H) → Nat
  | [] => 0
  | d :: r => uptoBulk d + uptoBulkAll r
def uptoBulkEntries {H : Type} : List (Lit × DataW H) → Nat
  | [] => 0
  | x :: r => uptoBulkEntry x + uptoBulkEntries r
def uptoBulkEntry {H : Type} : Lit × DataW H → Nat
  | (.string bytes, d) => bytes.length + uptoBulk d + 1
  | (_, d) => uptoBulk d + 1
 end
def uptoSmall : (H : Type) → List (DataW H) → Bool := fun _ ds => decide (uptoBulkAll ds ≤ 1048576)
def OpenSpec.upto (s : _root_.Go.ChangeSpec) : _root_.Go.OpenSpec := { _root_.Go.OpenSpec.ofChange s with cond := some uptoSmall }

/-- 'cribblelaw04.TrieSteps', WHERE WHAT IT READS IS OF BULK AT MOST 1048576: true; the input reads as it did. -/
def trieStepsUptoRow : OpenClaim := { program := "ythhlpbopbabojaa", sum := "402e7e9f8f9a64bf6a5c08b99e411f195c422aeb05e718336c9cdc633b5c0a88", func := "cribble/cribblelaw04.TrieSteps", spec := "trieSteps", unfollowed := true, recurses := true, apart := false, narrowed := true }
def TrieStepsUptoSaid : Prop := trieStepsUptoRow.holds Try.pinned (OpenSpec.upto trieStepsSpec)

/-- 'cribblelaw04.TrieApart', WHERE WHAT IT READS IS OF BULK AT MOST 1048576: true; the input reads as it did. -/
def trieApartUptoRow : OpenClaim := { program := "ythhlpbopbabojaa", sum := "402e7e9f8f9a64bf6a5c08b99e411f195c422aeb05e718336c9cdc633b5c0a88", func := "cribble/cribblelaw04.TrieApart", spec := "trieApart", unfollowed := true, recurses := true, apart := false, narrowed := true }
def TrieApartUptoSaid : Prop := trieApartUptoRow.holds Try.pinned (OpenSpec.upto trieApartSpec)

/-- 'cribblelaw04.TrieFinds', WHERE WHAT IT READS IS OF BULK AT MOST 1048576: true; the input reads as it did. -/
def trieFindsUptoRow : OpenClaim := { program := "ythhlpbopbabojaa", sum := "402e7e9f8f9a64bf6a5c08b99e411f195c422aeb05e718336c9cdc633b5c0a88", func := "cribble/cribblelaw04.TrieFinds", spec := "trieFinds", unfollowed := true, recurses := true, apart := false, narrowed := true }
def TrieFindsUptoSaid : Prop := trieFindsUptoRow.holds Try.pinned (OpenSpec.upto trieFindsSpec)

/-- 'cribblelaw04.TrieAll', WHERE WHAT IT READS IS OF BULK AT MOST 1048576: true; the input reads as it did. -/
def trieAllUptoRow : OpenClaim := { program := "ythhlpbopbabojaa", sum := "402e7e9f8f9a64bf6a5c08b99e411f195c422aeb05e718336c9cdc633b5c0a88", func := "cribble/cribblelaw04.TrieAll", spec := "trieAll", unfollowed := true, recurses := true, apart := false, narrowed := true }
def TrieAllUptoSaid : Prop := trieAllUptoRow.holds Try.pinned (OpenSpec.upto trieAllSpec)

/-- 'cribblelaw04.TrieOrder', WHERE WHAT IT READS IS OF BULK AT MOST 1048576: true; the input reads as it did. -/
def trieOrderUptoRow : OpenClaim := { program := "ythhlpbopbabojaa", sum := "402e7e9f8f9a64bf6a5c08b99e411f195c422aeb05e718336c9cdc633b5c0a88", func := "cribble/cribblelaw04.TrieOrder", spec := "trieOrder", unfollowed := true, recurses := true, apart := false, narrowed := true }
def TrieOrderUptoSaid : Prop := trieOrderUptoRow.holds Try.pinned (OpenSpec.upto trieOrderSpec)

end Rows
end Go.Proofs.Ythhlpbopbabojaa
