/-
  No cell of these rows narrows 'for every input' (looked for: loops, veiled, ifaces, maps, wideKeys, modest, calm, conditions, laid).
  DERIVED. THE GIVEN ROWS OF THIS SEAT. 6 by the template 'for every input the law returns true; each argument reads behind the call as it read before'; 0 by the template 'total and deterministic' (their statements: YtdngfkcamphoiaaTotals.lean).
  GIVEN WITH THE SEED: the statements are not yours to turn. If you find one false, say at which input.
  Laid BY PROGRAM, IN A SANDBOX (cutbox-rows.mjs): the forced cells as the released guide's own fill.sh prints them over the translation 626dbc06dc36dc5b… (all of the seat's roots in one cut). By AI agents, Wed Nov 11 2026. No macro, syntax, notation, axiom, sorry.
-/
import Derived.Test.YtdngfkcamphoiaaChecked
import GoSem.Claim
import GoSem.ClaimJoined
import GoSem.ClaimMapViews
import Derived.JoinedTies
import Derived.KernelRfl
namespace Go.Proofs.Ytdngfkcamphoiaa
/- THE CELL 'sum', in the pinned program and in every row, IS THE sha256 OF THE DUMP (.gsa) THAT YtdngfkcamphoiaaProg.lean LOADS. Nothing in Lean hashes anything: it is a label: what it is worth is what the hold of that sum in a sandbox is worth. -/
noncomputable def Try.pinned : Pinned := { name := "ytdngfkcamphoiaa", sum := "626dbc06dc36dc5b258718bfadedcad3b5244e40c0a20c0e75a03ce4cd5a88e9", checked := Try.checked }
namespace Rows
def none {H : Type} : Left H := { results := [], args := [] }

/-- 'cribblelaw02.LinesPieces': WHATEVER THE INPUT: true; the input reads as it did. -/
def linesPiecesSpec : ChangeSpec := { name := "linesPieces", fn := fun _ => fun
  | [d] => { results := [.lit (.bool true)], args := [d] }
  | _ => none }
def linesPiecesRow : OpenClaim := { program := "ytdngfkcamphoiaa", sum := "626dbc06dc36dc5b258718bfadedcad3b5244e40c0a20c0e75a03ce4cd5a88e9", func := "cribble/cribblelaw02.LinesPieces", spec := "linesPieces", inPlace := ["internal/abi.NoEscape"], unfollowed := true, recurses := true, apart := false }
def LinesPiecesSaid : Prop := linesPiecesRow.holds Try.pinned (OpenSpec.ofChange linesPiecesSpec)

/-- ITS FALSE NEIGHBOUR: 'it returns false'. Refute it at one input. -/
def linesPiecesWrong : ChangeSpec := { name := "linesPieces", fn := fun _ => fun
  | [d] => { results := [.lit (.bool false)], args := [d] }
  | _ => none }
def LinesPiecesWrongFalsely : Prop := linesPiecesRow.holds Try.pinned (OpenSpec.ofChange linesPiecesWrong)

/-- 'cribblelaw02.LinesPlaces': WHATEVER THE INPUT: true; the input reads as it did. -/
def linesPlacesSpec : ChangeSpec := { name := "linesPlaces", fn := fun _ => fun
  | [d1, d2] => { results := [.lit (.bool true)], args := [d1, d2] }
  | _ => none }
def linesPlacesRow : OpenClaim := { program := "ytdngfkcamphoiaa", sum := "626dbc06dc36dc5b258718bfadedcad3b5244e40c0a20c0e75a03ce4cd5a88e9", func := "cribble/cribblelaw02.LinesPlaces", spec := "linesPlaces", inPlace := ["internal/abi.NoEscape"], unfollowed := true, recurses := true, apart := false }
def LinesPlacesSaid : Prop := linesPlacesRow.holds Try.pinned (OpenSpec.ofChange linesPlacesSpec)

/-- ITS FALSE NEIGHBOUR: 'it returns false'. Refute it at one input. -/
def linesPlacesWrong : ChangeSpec := { name := "linesPlaces", fn := fun _ => fun
  | [d1, d2] => { results := [.lit (.bool false)], args := [d1, d2] }
  | _ => none }
def LinesPlacesWrongFalsely : Prop := linesPlacesRow.holds Try.pinned (OpenSpec.ofChange linesPlacesWrong)

/-- 'cribblelaw02.LinesLast': WHATEVER THE INPUT: true; the input reads as it did. -/
def linesLastSpec : ChangeSpec := { name := "linesLast", fn := fun _ => fun
  | [d1, d2] => { results := [.lit (.bool true)], args := [d1, d2] }
  | _ => none }
def linesLastRow : OpenClaim := { program := "ytdngfkcamphoiaa", sum := "626dbc06dc36dc5b258718bfadedcad3b5244e40c0a20c0e75a03ce4cd5a88e9", func := "cribble/cribblelaw02.LinesLast", spec := "linesLast", inPlace := ["internal/abi.NoEscape"], unfollowed := true, recurses := true, apart := false }
def LinesLastSaid : Prop := linesLastRow.holds Try.pinned (OpenSpec.ofChange linesLastSpec)

/-- ITS FALSE NEIGHBOUR: 'it returns false'. Refute it at one input. -/
def linesLastWrong : ChangeSpec := { name := "linesLast", fn := fun _ => fun
  | [d1, d2] => { results := [.lit (.bool false)], args := [d1, d2] }
  | _ => none }
def LinesLastWrongFalsely : Prop := linesLastRow.holds Try.pinned (OpenSpec.ofChange linesLastWrong)

/-- 'cribblelaw02.LinesWholes': WHATEVER THE INPUT: true; the input reads as it did. -/
def linesWholesSpec : ChangeSpec := { name := "linesWholes", fn := fun _ => fun
  | [d] => { results := [.lit (.bool true)], args := [d] }
  | _ => none }
def linesWholesRow : OpenClaim := { program := "ytdngfkcamphoiaa", sum := "626dbc06dc36dc5b258718bfadedcad3b5244e40c0a20c0e75a03ce4cd5a88e9", func := "cribble/cribblelaw02.LinesWholes", spec := "linesWholes", inPlace := ["internal/abi.NoEscape", "internal/bytealg.CountString", "internal/bytealg.IndexByteString", "internal/bytealg.IndexString"], unfollowed := true, recurses := true, named := ["internal/bytealg.MaxLen"], apart := false }
def LinesWholesSaid : Prop := linesWholesRow.holds Try.pinned (OpenSpec.ofChange linesWholesSpec)

/-- ITS FALSE NEIGHBOUR: 'it returns false'. Refute it at one input. -/
def linesWholesWrong : ChangeSpec := { name := "linesWholes", fn := fun _ => fun
  | [d] => { results := [.lit (.bool false)], args := [d] }
  | _ => none }
def LinesWholesWrongFalsely : Prop := linesWholesRow.holds Try.pinned (OpenSpec.ofChange linesWholesWrong)

/-- 'cribblelaw02.LinesAlike': WHATEVER THE INPUT: true; the input reads as it did. -/
def linesAlikeSpec : ChangeSpec := { name := "linesAlike", fn := fun _ => fun
  | [d] => { results := [.lit (.bool true)], args := [d] }
  | _ => none }
def linesAlikeRow : OpenClaim := { program := "ytdngfkcamphoiaa", sum := "626dbc06dc36dc5b258718bfadedcad3b5244e40c0a20c0e75a03ce4cd5a88e9", func := "cribble/cribblelaw02.LinesAlike", spec := "linesAlike", inPlace := ["internal/abi.NoEscape", "internal/bytealg.CountString", "internal/bytealg.IndexByteString", "internal/bytealg.IndexString"], unfollowed := true, recurses := true, named := ["internal/bytealg.MaxLen"], apart := false }
def LinesAlikeSaid : Prop := linesAlikeRow.holds Try.pinned (OpenSpec.ofChange linesAlikeSpec)

/-- ITS FALSE NEIGHBOUR: 'it returns false'. Refute it at one input. -/
def linesAlikeWrong : ChangeSpec := { name := "linesAlike", fn := fun _ => fun
  | [d] => { results := [.lit (.bool false)], args := [d] }
  | _ => none }
def LinesAlikeWrongFalsely : Prop := linesAlikeRow.holds Try.pinned (OpenSpec.ofChange linesAlikeWrong)

/-- 'cribblelaw02.LinesJoins': WHATEVER THE INPUT: true; the input reads as it did. -/
def linesJoinsSpec : ChangeSpec := { name := "linesJoins", fn := fun _ => fun
  | [d1, d2] => { results := [.lit (.bool true)], args := [d1, d2] }
  | _ => none }
def linesJoinsRow : OpenClaim := { program := "ytdngfkcamphoiaa", sum := "626dbc06dc36dc5b258718bfadedcad3b5244e40c0a20c0e75a03ce4cd5a88e9", func := "cribble/cribblelaw02.LinesJoins", spec := "linesJoins", inPlace := ["internal/abi.NoEscape", "internal/bytealg.CountString", "internal/bytealg.IndexByteString", "internal/bytealg.IndexString"], unfollowed := true, recurses := true, named := ["internal/bytealg.MaxLen"], apart := false }
def LinesJoinsSaid : Prop := linesJoinsRow.holds Try.pinned (OpenSpec.ofChange linesJoinsSpec)

/-- ITS FALSE NEIGHBOUR: 'it returns false'. Refute it at one input. -/
def linesJoinsWrong : ChangeSpec := { name := "linesJoins", fn := fun _ => fun
  | [d1, d2] => { results := [.lit (.bool false)], args := [d1, d2] }
  | _ => none }
def LinesJoinsWrongFalsely : Prop := linesJoinsRow.holds Try.pinned (OpenSpec.ofChange linesJoinsWrong)

/- THE SECOND FORM. 'bulk': how many values and letters a reading holds, each counted each time it is reached (what is shared counts as often as it is met; a slice's spare places count too). A statement '..UptoSaid' is the law's where the arguments, and the package variables that the reading takes, are together of bulk at most 1048576: NARROWER than '..Said'. Prove '..Said' where nothing that the law and all that it calls make is longer than what came in: it says more and counts as full. Else prove '..UptoSaid'. A law counts once. -/
mutual
def uptoBulk {H : Type} : DataW H → Nat
  | .lit (.string bytes) => bytes.length + 1
  | .lit _ => 1
  | .nil => 1
  | .ptr d => uptoBulk d + 1
  | .slice elems spare => uptoBulkAll elems + uptoBulkAll spare + 1
  | .agg parts => uptoBulkAll parts + 1
  | .iface _ d => uptoBulk d + 1
  | .map entries => uptoBulkEntries entries + 1
  | .held _ => 1
def uptoBulkAll {H : Type} : List (DataW H) → Nat
  | [] => 0
  | d :: r => uptoBulk d + uptoBulkAll r
def uptoBulkEntries {H : Type} : List (Lit × DataW H) → Nat
  | [] => 0
  | x :: r => uptoBulkEntry x + uptoBulkEntries r
def uptoBulkEntry {H : Type} : Lit × DataW H → Nat
  | (.string bytes, d) => bytes.length + uptoBulk d + 1
  | (_, d) => uptoBulk d + 1
 end
def uptoSmall : (H : Type) → List (DataW H) → Bool := fun _ ds => decide (uptoBulkAll ds ≤ 1048576)
def OpenSpec.upto (s : _root_.Go.ChangeSpec) : _root_.Go.OpenSpec := { _root_.Go.OpenSpec.ofChange s with cond := some uptoSmall }

/-- 'cribblelaw02.LinesPieces', WHERE WHAT IT READS IS OF BULK AT MOST 1048576: true; the input reads as it did. -/
def linesPiecesUptoRow : OpenClaim := { program := "ytdngfkcamphoiaa", sum := "626dbc06dc36dc5b258718bfadedcad3b5244e40c0a20c0e75a03ce4cd5a88e9", func := "cribble/cribblelaw02.LinesPieces", spec := "linesPieces", inPlace := ["internal/abi.NoEscape"], unfollowed := true, recurses := true, apart := false, narrowed := true }
def LinesPiecesUptoSaid : Prop := linesPiecesUptoRow.holds Try.pinned (OpenSpec.upto linesPiecesSpec)

/-- 'cribblelaw02.LinesPlaces', WHERE WHAT IT READS IS OF BULK AT MOST 1048576: true; the input reads as it did. -/
def linesPlacesUptoRow : OpenClaim := { program := "ytdngfkcamphoiaa", sum := "626dbc06dc36dc5b258718bfadedcad3b5244e40c0a20c0e75a03ce4cd5a88e9", func := "cribble/cribblelaw02.LinesPlaces", spec := "linesPlaces", inPlace := ["internal/abi.NoEscape"], unfollowed := true, recurses := true, apart := false, narrowed := true }
def LinesPlacesUptoSaid : Prop := linesPlacesUptoRow.holds Try.pinned (OpenSpec.upto linesPlacesSpec)

/-- 'cribblelaw02.LinesLast', WHERE WHAT IT READS IS OF BULK AT MOST 1048576: true; the input reads as it did. -/
def linesLastUptoRow : OpenClaim := { program := "ytdngfkcamphoiaa", sum := "626dbc06dc36dc5b258718bfadedcad3b5244e40c0a20c0e75a03ce4cd5a88e9", func := "cribble/cribblelaw02.LinesLast", spec := "linesLast", inPlace := ["internal/abi.NoEscape"], unfollowed := true, recurses := true, apart := false, narrowed := true }
def LinesLastUptoSaid : Prop := linesLastUptoRow.holds Try.pinned (OpenSpec.upto linesLastSpec)

/-- 'cribblelaw02.LinesWholes', WHERE WHAT IT READS IS OF BULK AT MOST 1048576: true; the input reads as it did. -/
def linesWholesUptoRow : OpenClaim := { program := "ytdngfkcamphoiaa", sum := "626dbc06dc36dc5b258718bfadedcad3b5244e40c0a20c0e75a03ce4cd5a88e9", func := "cribble/cribblelaw02.LinesWholes", spec := "linesWholes", inPlace := ["internal/abi.NoEscape", "internal/bytealg.CountString", "internal/bytealg.IndexByteString", "internal/bytealg.IndexString"], unfollowed := true, recurses := true, named := ["internal/bytealg.MaxLen"], apart := false, narrowed := true }
def LinesWholesUptoSaid : Prop := linesWholesUptoRow.holds Try.pinned (OpenSpec.upto linesWholesSpec)

/-- 'cribblelaw02.LinesAlike', WHERE WHAT IT READS IS OF BULK AT MOST 1048576: true; the input reads as it did. -/
def linesAlikeUptoRow : OpenClaim := { program := "ytdngfkcamphoiaa", sum := "626dbc06dc36dc5b258718bfadedcad3b5244e40c0a20c0e75a03ce4cd5a88e9", func := "cribble/cribblelaw02.LinesAlike", spec := "linesAlike", inPlace := ["internal/abi.NoEscape", "internal/bytealg.CountString", "internal/bytealg.IndexByteString", "internal/bytealg.IndexString"], unfollowed := true, recurses := true, named := ["internal/bytealg.MaxLen"], apart := false, narrowed := true }
def LinesAlikeUptoSaid : Prop := linesAlikeUptoRow.holds Try.pinned (OpenSpec.upto linesAlikeSpec)

/-- 'cribblelaw02.LinesJoins', WHERE WHAT IT READS IS OF BULK AT MOST 1048576: true; the input reads as it did. -/
def linesJoinsUptoRow : OpenClaim := { program := "ytdngfkcamphoiaa", sum := "626dbc06dc36dc5b258718bfadedcad3b5244e40c0a20c0e75a03ce4cd5a88e9", func := "cribble/cribblelaw02.LinesJoins", spec := "linesJoins", inPlace := ["internal/abi.NoEscape", "internal/bytealg.CountString", "internal/bytealg.IndexByteString", "internal/bytealg.IndexString"], unfollowed := true, recurses := true, named := ["internal/bytealg.MaxLen"], apart := false, narrowed := true }
def LinesJoinsUptoSaid : Prop := linesJoinsUptoRow.holds Try.pinned (OpenSpec.upto linesJoinsSpec)

end Rows
end Go.Proofs.Ytdngfkcamphoiaa
