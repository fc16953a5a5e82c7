/-
  A list of slices of bytes as it comes in.
-/
import Derived.Test.YtlgffgmfaejmeaaPiecesLaw
import Derived.Test.YtlgffgmfaejmeaaArgs
namespace Go.Proofs.Ytlgffgmfaejmeaa
open Go.RowKit Go.ChangeShapes Go.WideShapes Go.ChangeAt Go.Deep
section
variable {H : Type} {enc : TypeId × Value → H} {P : Program} {W : World} {sp : Nat → Bool} {held : Bool}
theorem open_pieces {T e u : TypeId} (hT : P.underlying T = some (.slice e)) (hc : P.cellsOf e = 1) (he : P.underlying e = some (.slice u)) (hu : P.underlying u = some (.int .u8)) (hcu : P.cellsOf u = 1)
    {a : Option Addr} {len cap : Nat} {d : DataW H} {p : List MemPlace} (h : DataW.Trod enc P W 0 sp held T (.slice a len cap) d p) :
    ∃ L : List Piece, (∀ q ∈ L, q.ok W) ∧ Reads W W.heap.size 1 a len (L.map Piece.v) ∧ len ≤ cap ∧ cap ≤ maxLen := by
  obtain ⟨L, _, hg, hr, h1, h2⟩ := open_list (β := Piece) 1 (by decide) (fun q => [q.v]) (fun _ => rfl) (fun q => q.ok W) hT hc
    (fun n cs x hx => by
      obtain ⟨d1, p1⟩ := x
      have key : ∀ (a1 : Option Addr) (l1 c1 : Nat), cs = [.slice a1 l1 c1] → ∃ q : Piece, cs = [q.v] ∧ q.ok W := by
        rintro a1 l1 c1 rfl
        have h3 : DataW.Trod enc P W 0 sp held e (.slice a1 l1 c1) d1 p1 := ⟨n, by simpa [Value.cells] using hx⟩
        obtain ⟨l, hr, hc, _⟩ := open_bytes he hu hcu h3
        exact ⟨⟨a1, l1, c1, l⟩, rfl, hr, hc⟩
      rcases DataW.trod_slice he hx with h0 | ⟨a1, l1, c1, elems, rest, m, _, hcs, _⟩
      · exact key none 0 0 h0.1
      · exact key (some a1) l1 c1 hcs) h
  rw [flatMap_one] at hr
  exact ⟨L, hg, hr, h1, h2⟩
end
end Go.Proofs.Ytlgffgmfaejmeaa
