/-
  A block of bytes of the call's own, as '[]byte(s)' makes it: read, written, turned back into a string.
-/
import Derived.Test.YthhlpbopbabojaaBytes
namespace Go.Proofs.Ythhlpbopbabojaa
open Go.RowKit

/-- block g holds the bytes l, then some cells; none of l's is frozen -/
def Bts (w : World) (g : Nat) (t : TypeId) (l : List UInt8) : Prop :=
  ∃ (rest : List Value) (m : Nat), w.heap[g]? = some (.cells (cellsOf l ++ rest).toArray t (m, m + 1)) ∧ l.length ≤ m
section
variable {w w' : World} {g : Nat} {t : TypeId} {l : List UInt8} {S : Nat → Prop}
theorem Bts.lt (h : Bts w g t l) : g < w.heap.size := by
  obtain ⟨_, _, h, _⟩ := h
  exact lt_of_block h
theorem Bts.cell (h : Bts w g t l) {j : Nat} {x : UInt8} (hx : l[j]? = some x) : w.cell? ⟨g, j, none⟩ = some (.int .u8 (x.toNat : Int)) := by
  obtain ⟨rest, m, h, _⟩ := h
  have hj := (List.getElem?_eq_some_iff.1 hx).1
  rw [cell_of_row w g j _ t _ h, List.getElem?_toArray, List.getElem?_append_left (by rw [cellsOf_len]; exact hj), cellsOf, List.getElem?_map, hx]
  rfl
theorem Bts.free (h : Bts w g t l) {j : Nat} (hj : j < l.length) : w.frozen? ⟨g, j, none⟩ = false := by
  obtain ⟨rest, m, h, hm⟩ := h
  simp [World.frozen?, h]
  omega
theorem Bts.set_ (h : Bts w g t l) {j : Nat} (hj : j < l.length) (y : UInt8) : Bts (w.setCell ⟨g, j, none⟩ (.int .u8 (y.toNat : Int))) g t (l.set j y) := by
  obtain ⟨rest, m, h, hm⟩ := h
  refine ⟨rest, m, ?_, by rw [List.length_set]; exact hm⟩
  simp only [World.setCell, Array.getElem?_modify, if_true, h]
  simp [cellsOf, List.map_set, List.set_append, hj]
theorem Bts.fr (h : Bts w g t l) (hf : Fr S w w') (hg : ¬ S g) : Bts w' g t l := by
  obtain ⟨rest, m, h1, hm⟩ := h
  exact ⟨rest, m, (hf.block g (lt_of_block h1) hg).trans h1, hm⟩
theorem Bts.reads (h : Bts w g t l) : Reads w w.heap.size 1 (some ⟨g, 0, none⟩) l.length (cellsOf l) := by
  refine ⟨by rw [cellsOf_len, Nat.mul_one], fun _ => ⟨_, rfl, h.lt, fun j u hu => ?_⟩⟩
  rw [cellsOf, List.getElem?_map] at hu
  obtain ⟨b, hb, rfl⟩ := Option.map_eq_some_iff.1 hu
  rw [Addr.add_lit, Nat.zero_add]
  exact h.cell hb
end
theorem bts_new {P : Program} (W : World) (s : ByteArray) (e : TypeId) : Bts (BWorld P W s e) W.heap.size e (bs s) := by
  have hc := bw_cap W s e
  refine ⟨List.replicate (grownCap W s.size 0 e - s.size) (.int .u8 0), (bytesRow s (grownCap W s.size 0 e)).size, ?_, ?_⟩
  · have h := heap_alloc_new W.drew (.cells (bytesRow s (grownCap W s.size 0 e)) e ((bytesRow s (grownCap W s.size 0 e)).size, (bytesRow s (grownCap W s.size 0 e)).size + 1))
    have hb : (cellsOf (bs s) ++ List.replicate (grownCap W s.size 0 e - s.size) (Value.int .u8 0)).toArray = bytesRow s (grownCap W s.size 0 e) := by
      apply Array.toList_inj.1
      simp [bytesRow, cellsOf, bs]
    rw [hb]
    exact h
  · rw [← size_bs]
    have : (bytesRow s (grownCap W s.size 0 e)).size = s.size + (grownCap W s.size 0 e - s.size) := by
      simp [bytesRow]
    omega
end Go.Proofs.Ythhlpbopbabojaa
