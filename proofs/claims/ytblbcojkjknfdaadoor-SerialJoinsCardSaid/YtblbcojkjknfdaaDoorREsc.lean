/-
  What grows behind a frame: small words (the seat of SerialJoins).
-/
import Derived.Test.YtblbcojkjknfdaaDoorEscP
import Derived.Test.YtblbcojkjknfdaaDoorBytes
import Derived.Test.YtblbcojkjknfdaaDoorTrimP
namespace Go.Proofs.YtblbcojkjknfdaaDoor
open Go.RowKit

theorem esc_grow {w wr w2 : World} {A A' : Option Addr} (hA : ∀ j, At A j → w.heap.size ≤ j) (hf : Fr Nil w wr) (hfr2 : Fr (At A) wr w2)
    (hat : A' = A ∨ A' = some ⟨wr.heap.size, 0, none⟩ ∧ wr.heap.size < w2.heap.size) : Fr Nil w w2 ∧ ∀ j, At A' j → w.heap.size ≤ j := by
  refine ⟨hf.trans' hfr2 fun k hk hk' => by have := hA k hk'; omega, fun j hj => ?_⟩
  rcases at_new (w0 := w) hat (by have := hf.size; omega) j hj with h1 | h1
  · exact hA j h1
  · exact h1
theorem esc_one {attr : Bool} {l : Bys} {k : Nat} {c : UInt8} (hx : l[k]? = some c) (h : ¬ (c = 194 ∧ l[k + 1]? = some 160)) : escB attr (l.drop k) = pieceB attr c ++ escB attr (l.drop (k + 1)) := by
  rw [drop_at hx, escB_cons]
  rintro ⟨h1, h2⟩
  exact h ⟨h1, by rwa [List.head?_drop] at h2⟩
theorem esc_two {attr : Bool} {l : Bys} {k : Nat} (hx : l[k]? = some 194) (hy : l[k + 1]? = some 160) : escB attr (l.drop k) = nbspB ++ escB attr (l.drop (k + 2)) := by
  rw [drop_at hx, drop_at hy, escB_nbsp]
end Go.Proofs.YtblbcojkjknfdaaDoor
