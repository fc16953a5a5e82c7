/-
  What abides an iterator's book-keeping: a turn of a block that holds no cells. For loops that range over a function.
-/
import Derived.Test.YthhlpbopbabojaaUtil
import Derived.RangeFuncNested
import Derived.RangeFuncBound
import Derived.RangeFuncCalls
import Derived.RangeFuncLeaves
import Derived.RangeFuncWrites
import Derived.RangeFuncBox
import Derived.Shelf.Abstract
import Derived.Shelf.RegionOpen
import Derived.OwnWalkIn
import Derived.TacticsInMore
import Derived.LoopNIn
import Derived.LoopIn
namespace Go.Proofs.Ythhlpbopbabojaa
open Go.RowKit

/-- the turn of a block that is no cells and lies at or beyond B -/
def Turn (B : Nat) (w w' : World) : Prop := ∃ row, w.grownBy w' row ∧ ∀ r, row = some r → B ≤ r ∧ ∃ o : Obj, w.heap[r]? = some o ∧ o.isCells = false
theorem ownFrom_of_turn {β : Type} {B : Nat} {I : β → World → Prop} (h : ∀ s w w', I s w → Turn B w w' → I s w') : OwnFrom B I :=
  fun s w w' row hi hg hr => h s w w' hi ⟨row, hg, hr⟩
section
variable {S : Nat → Prop} {B : Nat} {w0 w w' : World}
theorem Turn.cells (h : Turn B w w') {k : Nat} {c : Array Value} {t : TypeId} {f : Nat × Nat} (hk : w.heap[k]? = some (.cells c t f)) : w'.heap[k]? = some (.cells c t f) := by
  obtain ⟨row, hg, hr⟩ := h
  refine (hg.block k (Array.getElem?_eq_some_iff.1 hk).1 fun e => ?_).trans hk
  obtain ⟨_, o, ho, hc⟩ := hr k e.symm
  rw [hk] at ho
  cases ho
  cases hc
theorem Turn.fr (h : Turn B w w') (hf : Fr S w0 w) (hB : w0.heap.size ≤ B) : Fr S w0 w' := by
  obtain ⟨row, hg, hr⟩ := h
  exact hf.grown hg fun k hk hlt => by
    have := (hr k hk).1
    omega
theorem Turn.size (h : Turn B w w') : w.heap.size ≤ w'.heap.size := by
  obtain ⟨row, hg, hr⟩ := h
  exact hg.size
theorem Blk.turn {g : Nat} {t : TypeId} {cs : Array Value} (h : Blk w g t cs) (ht : Turn B w w') : Blk w' g t cs := ht.cells h
theorem Own.turn {e : TypeId} {size n c : Nat} {A : Option Addr} {xs : List Value} (h : Own w e size A n c xs) (ht : Turn B w w') : Own w' e size A n c xs := by
  rcases h.2 with h2 | ⟨g, cap, cur, hv, hg, hh, r⟩
  · exact ⟨h.1, .inl h2⟩
  · exact ⟨h.1, .inr ⟨g, cap, cur, hv, hg, ht.cells hh, r⟩⟩
end

/-- A frame of cells alone: nothing that is no cells has turned, from D on. -/
theorem keepsFrom_fr {S : Nat → Prop} {D : Nat} {w w' : World} (hf : Fr S w w') (hs : ∀ k, D ≤ k → k < w.heap.size → ¬ S k) : KeepsFrom D w w' :=
  ⟨hf.size, fun k _ hD hk _ => (hf.block k (Array.getElem?_eq_some_iff.1 hk).1 (hs k hD (Array.getElem?_eq_some_iff.1 hk).1)).trans hk⟩

end Go.Proofs.Ythhlpbopbabojaa
