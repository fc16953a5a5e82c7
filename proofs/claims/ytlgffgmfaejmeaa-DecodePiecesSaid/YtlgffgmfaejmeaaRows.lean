/-
  No cell of these rows narrows 'for every input' (looked for: loops, veiled, ifaces, maps, wideKeys, modest, calm, conditions, laid).
  DERIVED. THE GIVEN ROWS OF THIS SEAT. 7 by the template 'for every input the law returns true; each argument reads behind the call as it read before'; 0 by the template 'total and deterministic' (their statements: YtlgffgmfaejmeaaTotals.lean).
  GIVEN WITH THE SEED: the statements are not yours to turn. If you find one false, say at which input.
  Laid BY PROGRAM, IN A SANDBOX (cutbox-rows.mjs): the forced cells as the released guide's own fill.sh prints them over the translation 1ea49b9006ba87fb… (all of the seat's roots in one cut). By AI agents, Wed Nov 11 2026. No macro, syntax, notation, axiom, sorry.
-/
import Derived.Test.YtlgffgmfaejmeaaChecked
import GoSem.Claim
import GoSem.ClaimJoined
import GoSem.ClaimMapViews
import Derived.JoinedTies
import Derived.KernelRfl
namespace Go.Proofs.Ytlgffgmfaejmeaa
/- THE CELL 'sum', in the pinned program and in every row, IS THE sha256 OF THE DUMP (.gsa) THAT YtlgffgmfaejmeaaProg.lean LOADS. Nothing in Lean hashes anything: it is a label: what it is worth is what the hold of that sum in a sandbox is worth. -/
noncomputable def Try.pinned : Pinned := { name := "ytlgffgmfaejmeaa", sum := "1ea49b9006ba87fbbf8840664d72a59265da6bcd8d1bdc493953d2ad1774eebd", checked := Try.checked }
namespace Rows
def none {H : Type} : Left H := { results := [], args := [] }

/-- 'cribblelaw01.DecodeWholes': WHATEVER THE INPUT: true; the input reads as it did. -/
def decodeWholesSpec : ChangeSpec := { name := "decodeWholes", fn := fun _ => fun
  | [d] => { results := [.lit (.bool true)], args := [d] }
  | _ => none }
def decodeWholesRow : OpenClaim := { program := "ytlgffgmfaejmeaa", sum := "1ea49b9006ba87fbbf8840664d72a59265da6bcd8d1bdc493953d2ad1774eebd", func := "cribble/cribblelaw01.DecodeWholes", spec := "decodeWholes", apart := false }
def DecodeWholesSaid : Prop := decodeWholesRow.holds Try.pinned (OpenSpec.ofChange decodeWholesSpec)

/-- ITS FALSE NEIGHBOUR: 'it returns false'. Refute it at one input. -/
def decodeWholesWrong : ChangeSpec := { name := "decodeWholes", fn := fun _ => fun
  | [d] => { results := [.lit (.bool false)], args := [d] }
  | _ => none }
def DecodeWholesWrongFalsely : Prop := decodeWholesRow.holds Try.pinned (OpenSpec.ofChange decodeWholesWrong)

/-- 'cribblelaw01.DecodeBytes': WHATEVER THE INPUT: true; the input reads as it did. -/
def decodeBytesSpec : ChangeSpec := { name := "decodeBytes", fn := fun _ => fun
  | [d] => { results := [.lit (.bool true)], args := [d] }
  | _ => none }
def decodeBytesRow : OpenClaim := { program := "ytlgffgmfaejmeaa", sum := "1ea49b9006ba87fbbf8840664d72a59265da6bcd8d1bdc493953d2ad1774eebd", func := "cribble/cribblelaw01.DecodeBytes", spec := "decodeBytes", apart := false }
def DecodeBytesSaid : Prop := decodeBytesRow.holds Try.pinned (OpenSpec.ofChange decodeBytesSpec)

/-- ITS FALSE NEIGHBOUR: 'it returns false'. Refute it at one input. -/
def decodeBytesWrong : ChangeSpec := { name := "decodeBytes", fn := fun _ => fun
  | [d] => { results := [.lit (.bool false)], args := [d] }
  | _ => none }
def DecodeBytesWrongFalsely : Prop := decodeBytesRow.holds Try.pinned (OpenSpec.ofChange decodeBytesWrong)

/-- 'cribblelaw01.DecodeRunes': WHATEVER THE INPUT: true; the input reads as it did. -/
def decodeRunesSpec : ChangeSpec := { name := "decodeRunes", fn := fun _ => fun
  | [d1, d2] => { results := [.lit (.bool true)], args := [d1, d2] }
  | _ => none }
def decodeRunesRow : OpenClaim := { program := "ytlgffgmfaejmeaa", sum := "1ea49b9006ba87fbbf8840664d72a59265da6bcd8d1bdc493953d2ad1774eebd", func := "cribble/cribblelaw01.DecodeRunes", spec := "decodeRunes", apart := false }
def DecodeRunesSaid : Prop := decodeRunesRow.holds Try.pinned (OpenSpec.ofChange decodeRunesSpec)

/-- ITS FALSE NEIGHBOUR: 'it returns false'. Refute it at one input. -/
def decodeRunesWrong : ChangeSpec := { name := "decodeRunes", fn := fun _ => fun
  | [d1, d2] => { results := [.lit (.bool false)], args := [d1, d2] }
  | _ => none }
def DecodeRunesWrongFalsely : Prop := decodeRunesRow.holds Try.pinned (OpenSpec.ofChange decodeRunesWrong)

/-- 'cribblelaw01.DecodeFew': WHATEVER THE INPUT: true; the input reads as it did. -/
def decodeFewSpec : ChangeSpec := { name := "decodeFew", fn := fun _ => fun
  | [d] => { results := [.lit (.bool true)], args := [d] }
  | _ => none }
def decodeFewRow : OpenClaim := { program := "ytlgffgmfaejmeaa", sum := "1ea49b9006ba87fbbf8840664d72a59265da6bcd8d1bdc493953d2ad1774eebd", func := "cribble/cribblelaw01.DecodeFew", spec := "decodeFew", apart := false }
def DecodeFewSaid : Prop := decodeFewRow.holds Try.pinned (OpenSpec.ofChange decodeFewSpec)

/-- ITS FALSE NEIGHBOUR: 'it returns false'. Refute it at one input. -/
def decodeFewWrong : ChangeSpec := { name := "decodeFew", fn := fun _ => fun
  | [d] => { results := [.lit (.bool false)], args := [d] }
  | _ => none }
def DecodeFewWrongFalsely : Prop := decodeFewRow.holds Try.pinned (OpenSpec.ofChange decodeFewWrong)

/-- 'cribblelaw01.DecodePieces': WHATEVER THE INPUT: true; the input reads as it did. -/
def decodePiecesSpec : ChangeSpec := { name := "decodePieces", fn := fun _ => fun
  | [d] => { results := [.lit (.bool true)], args := [d] }
  | _ => none }
def decodePiecesRow : OpenClaim := { program := "ytlgffgmfaejmeaa", sum := "1ea49b9006ba87fbbf8840664d72a59265da6bcd8d1bdc493953d2ad1774eebd", func := "cribble/cribblelaw01.DecodePieces", spec := "decodePieces", apart := false }
def DecodePiecesSaid : Prop := decodePiecesRow.holds Try.pinned (OpenSpec.ofChange decodePiecesSpec)

/-- ITS FALSE NEIGHBOUR: 'it returns false'. Refute it at one input. -/
def decodePiecesWrong : ChangeSpec := { name := "decodePieces", fn := fun _ => fun
  | [d] => { results := [.lit (.bool false)], args := [d] }
  | _ => none }
def DecodePiecesWrongFalsely : Prop := decodePiecesRow.holds Try.pinned (OpenSpec.ofChange decodePiecesWrong)

/-- 'cribblelaw01.DecodeCuts': WHATEVER THE INPUT: true; the input reads as it did. -/
def decodeCutsSpec : ChangeSpec := { name := "decodeCuts", fn := fun _ => fun
  | [d1, d2] => { results := [.lit (.bool true)], args := [d1, d2] }
  | _ => none }
def decodeCutsRow : OpenClaim := { program := "ytlgffgmfaejmeaa", sum := "1ea49b9006ba87fbbf8840664d72a59265da6bcd8d1bdc493953d2ad1774eebd", func := "cribble/cribblelaw01.DecodeCuts", spec := "decodeCuts", apart := false }
def DecodeCutsSaid : Prop := decodeCutsRow.holds Try.pinned (OpenSpec.ofChange decodeCutsSpec)

/-- ITS FALSE NEIGHBOUR: 'it returns false'. Refute it at one input. -/
def decodeCutsWrong : ChangeSpec := { name := "decodeCuts", fn := fun _ => fun
  | [d1, d2] => { results := [.lit (.bool false)], args := [d1, d2] }
  | _ => none }
def DecodeCutsWrongFalsely : Prop := decodeCutsRow.holds Try.pinned (OpenSpec.ofChange decodeCutsWrong)

/-- 'cribblelaw01.DecodeJoins': WHATEVER THE INPUT: true; the input reads as it did. -/
def decodeJoinsSpec : ChangeSpec := { name := "decodeJoins", fn := fun _ => fun
  | [d1, d2, d3] => { results := [.lit (.bool true)], args := [d1, d2, d3] }
  | _ => none }
def decodeJoinsRow : OpenClaim := { program := "ytlgffgmfaejmeaa", sum := "1ea49b9006ba87fbbf8840664d72a59265da6bcd8d1bdc493953d2ad1774eebd", func := "cribble/cribblelaw01.DecodeJoins", spec := "decodeJoins", apart := false }
def DecodeJoinsSaid : Prop := decodeJoinsRow.holds Try.pinned (OpenSpec.ofChange decodeJoinsSpec)

/-- ITS FALSE NEIGHBOUR: 'it returns false'. Refute it at one input. -/
def decodeJoinsWrong : ChangeSpec := { name := "decodeJoins", fn := fun _ => fun
  | [d1, d2, d3] => { results := [.lit (.bool false)], args := [d1, d2, d3] }
  | _ => none }
def DecodeJoinsWrongFalsely : Prop := decodeJoinsRow.holds Try.pinned (OpenSpec.ofChange decodeJoinsWrong)

/- THE SECOND FORM. 'bulk': how many values and letters a reading holds, each counted each time it is reached (what is shared counts as often as it is met; a slice's spare places count too). A statement '..UptoSaid' is the law's where the arguments, and the package variables that the reading takes, are together of bulk at most 1048576: NARROWER than '..Said'. Prove '..Said' where nothing that the law and all that it calls make is longer than what came in: it says more and counts as full. Else prove '..UptoSaid'. A law counts once. -/
mutual
def uptoBulk {H : Type} : DataW H → Nat
  | .lit (.string bytes) => bytes.length + 1
  | .lit _ => 1
  | .nil => 1
  | .ptr d => uptoBulk d + 1
  | .slice elems spare => uptoBulkAll elems + uptoBulkAll spare + 1
  | .agg parts => uptoBulkAll parts + 1
  | .iface _ d => uptoBulk d + 1
  | .map entries => uptoBulkEntries entries + 1
  | .held _ => 1
def uptoBulkAll {H : Type} : List (DataW H) → Nat
  | [] => 0
  | d :: r => uptoBulk d + uptoBulkAll r
def uptoBulkEntries {H : Type} : List (Lit × DataW H) → Nat
  | [] => 0
  | x :: r => uptoBulkEntry x + uptoBulkEntries r
def uptoBulkEntry {H : Type} : Lit × DataW H → Nat
  | (.string bytes, d) => bytes.length + uptoBulk d + 1
  | (_, d) => uptoBulk d + 1
 end
def uptoSmall : (H : Type) → List (DataW H) → Bool := fun _ ds => decide (uptoBulkAll ds ≤ 1048576)
def OpenSpec.upto (s : _root_.Go.ChangeSpec) : _root_.Go.OpenSpec := { _root_.Go.OpenSpec.ofChange s with cond := some uptoSmall }

/-- 'cribblelaw01.DecodeWholes', WHERE WHAT IT READS IS OF BULK AT MOST 1048576: true; the input reads as it did. -/
def decodeWholesUptoRow : OpenClaim := { program := "ytlgffgmfaejmeaa", sum := "1ea49b9006ba87fbbf8840664d72a59265da6bcd8d1bdc493953d2ad1774eebd", func := "cribble/cribblelaw01.DecodeWholes", spec := "decodeWholes", apart := false, narrowed := true }
def DecodeWholesUptoSaid : Prop := decodeWholesUptoRow.holds Try.pinned (OpenSpec.upto decodeWholesSpec)

/-- 'cribblelaw01.DecodeBytes', WHERE WHAT IT READS IS OF BULK AT MOST 1048576: true; the input reads as it did. -/
def decodeBytesUptoRow : OpenClaim := { program := "ytlgffgmfaejmeaa", sum := "1ea49b9006ba87fbbf8840664d72a59265da6bcd8d1bdc493953d2ad1774eebd", func := "cribble/cribblelaw01.DecodeBytes", spec := "decodeBytes", apart := false, narrowed := true }
def DecodeBytesUptoSaid : Prop := decodeBytesUptoRow.holds Try.pinned (OpenSpec.upto decodeBytesSpec)

/-- 'cribblelaw01.DecodeRunes', WHERE WHAT IT READS IS OF BULK AT MOST 1048576: true; the input reads as it did. -/
def decodeRunesUptoRow : OpenClaim := { program := "ytlgffgmfaejmeaa", sum := "1ea49b9006ba87fbbf8840664d72a59265da6bcd8d1bdc493953d2ad1774eebd", func := "cribble/cribblelaw01.DecodeRunes", spec := "decodeRunes", apart := false, narrowed := true }
def DecodeRunesUptoSaid : Prop := decodeRunesUptoRow.holds Try.pinned (OpenSpec.upto decodeRunesSpec)

/-- 'cribblelaw01.DecodeFew', WHERE WHAT IT READS IS OF BULK AT MOST 1048576: true; the input reads as it did. -/
def decodeFewUptoRow : OpenClaim := { program := "ytlgffgmfaejmeaa", sum := "1ea49b9006ba87fbbf8840664d72a59265da6bcd8d1bdc493953d2ad1774eebd", func := "cribble/cribblelaw01.DecodeFew", spec := "decodeFew", apart := false, narrowed := true }
def DecodeFewUptoSaid : Prop := decodeFewUptoRow.holds Try.pinned (OpenSpec.upto decodeFewSpec)

/-- 'cribblelaw01.DecodePieces', WHERE WHAT IT READS IS OF BULK AT MOST 1048576: true; the input reads as it did. -/
def decodePiecesUptoRow : OpenClaim := { program := "ytlgffgmfaejmeaa", sum := "1ea49b9006ba87fbbf8840664d72a59265da6bcd8d1bdc493953d2ad1774eebd", func := "cribble/cribblelaw01.DecodePieces", spec := "decodePieces", apart := false, narrowed := true }
def DecodePiecesUptoSaid : Prop := decodePiecesUptoRow.holds Try.pinned (OpenSpec.upto decodePiecesSpec)

/-- 'cribblelaw01.DecodeCuts', WHERE WHAT IT READS IS OF BULK AT MOST 1048576: true; the input reads as it did. -/
def decodeCutsUptoRow : OpenClaim := { program := "ytlgffgmfaejmeaa", sum := "1ea49b9006ba87fbbf8840664d72a59265da6bcd8d1bdc493953d2ad1774eebd", func := "cribble/cribblelaw01.DecodeCuts", spec := "decodeCuts", apart := false, narrowed := true }
def DecodeCutsUptoSaid : Prop := decodeCutsUptoRow.holds Try.pinned (OpenSpec.upto decodeCutsSpec)

/-- 'cribblelaw01.DecodeJoins', WHERE WHAT IT READS IS OF BULK AT MOST 1048576: true; the input reads as it did. -/
def decodeJoinsUptoRow : OpenClaim := { program := "ytlgffgmfaejmeaa", sum := "1ea49b9006ba87fbbf8840664d72a59265da6bcd8d1bdc493953d2ad1774eebd", func := "cribble/cribblelaw01.DecodeJoins", spec := "decodeJoins", apart := false, narrowed := true }
def DecodeJoinsUptoSaid : Prop := decodeJoinsUptoRow.holds Try.pinned (OpenSpec.upto decodeJoinsSpec)

end Rows
end Go.Proofs.Ytlgffgmfaejmeaa
