/-
  Words for a list of texts into which one is put: slices 's[:k]', texts as cells.
-/
import Derived.Test.YthhlpbopbabojaaBytes
import Derived.Test.YthhlpbopbabojaaInsP
namespace Go.Proofs.Ythhlpbopbabojaa
open Go.RowKit

/-- texts as cells -/
def txt (l : List Pth) : List Value := l.map fun x => .string (str x)
theorem txt_len (l : List Pth) : (txt l).length = l.length := by simp [txt]
theorem txt_at {l : List Pth} {i : Nat} {x : Pth} (h : l[i]? = some x) : (txt l)[i]? = some (.string (str x)) := by rw [txt, List.getElem?_map, h]; rfl
theorem txt_append (a b : List Pth) : txt (a ++ b) = txt a ++ txt b := by simp [txt]
theorem txt_take (l : List Pth) (k : Nat) : (txt l).take (k * 1) = txt (l.take k) := by rw [Nat.mul_one, txt, txt, List.map_take]
theorem txt_drop (l : List Pth) (k : Nat) : (txt l).drop (k * 1) = txt (l.drop k) := by rw [Nat.mul_one, txt, txt, List.map_drop]
theorem txt_one (l : List Pth) : ∀ u ∈ txt l, u.oneCell' = true := by
  intro u hu
  obtain ⟨s, _, rfl⟩ := List.mem_map.1 hu
  rfl
theorem txt_ins {l : List Pth} {x : Pth} {k : Nat} (h1 : ∀ j y, l[j]? = some y → j < k → y < x) (h2 : ∀ y, l[k]? = some y → ¬ y < x) (hk : k ≤ l.length) : txt (l.take k) ++ [.string (str x)] ++ txt (l.drop k) = txt (insP x l) := by
  rw [← ins_eq h1 h2 hk, txt_append, List.append_assoc]
  rfl
theorem own_grow {w wr w2 : World} {A A' : Option Addr} (hA : ∀ j, At A j → w.heap.size ≤ j) (hf : Fr Nil w wr) (hfr2 : Fr (At A) wr w2)
    (hat : A' = A ∨ A' = some ⟨wr.heap.size, 0, none⟩ ∧ wr.heap.size < w2.heap.size) : Fr Nil w w2 ∧ ∀ j, At A' j → w.heap.size ≤ j := by
  refine ⟨hf.trans' hfr2 fun k hk hk' => by have := hA k hk'; omega, fun j hj => ?_⟩
  rcases at_new (w0 := w) hat (by have := hf.size; omega) j hj with h1 | h1
  · exact hA j h1
  · exact h1
theorem at_lit (W : World) : ∀ j, At (some ⟨W.heap.size, 0, none⟩) j → W.heap.size ≤ j := fun j hj => by
  obtain ⟨a, ha, rfl⟩ := hj
  injection ha with ha
  subst ha
  exact Nat.le_refl _
theorem asc_more {l : List Pth} {x y : Pth} {k : Nat} (h1 : ∀ j y, l[j]? = some y → j < k → y < x) (hy : l[k]? = some y) (hlt : y < x) : ∀ j z, l[j]? = some z → j < k + 1 → z < x := fun j z hz hj => by
  by_cases hjk : j = k
  · subst hjk
    rw [hy] at hz
    cases hz
    exact hlt
  · exact h1 j z hz (by omega)
end Go.Proofs.Ythhlpbopbabojaa
