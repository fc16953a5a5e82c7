/-
  entity.bare, closed, with, walked.
-/
import Derived.Test.YtblbcojkjknfdaaDoorEntP
import Derived.Test.YtblbcojkjknfdaaDoorNew
namespace Go.Proofs.YtblbcojkjknfdaaDoor
open Go.RowKit

def encE (x : Ent) : List Value := [.string (str x.1), .string (str x.2)]
def entCells (l : List Ent) : List Value := l.flatMap encE
theorem entCells_len (l : List Ent) : (entCells l).length = l.length * 2 := flatMap_len encE 2 (fun _ => rfl) l
theorem ent_at {l : List Ent} {i : Nat} {x : Ent} (h : l[i]? = some x) : (entCells l)[i * 2]? = some (.string (str x.1)) ∧ (entCells l)[i * 2 + 1]? = some (.string (str x.2)) := by
  constructor
  · rw [entCells, flatMap_get encE 2 (by decide) (fun _ => rfl), show i * 2 / 2 = i by omega, h, show i * 2 % 2 = 0 by omega]
    rfl
  · rw [entCells, flatMap_get encE 2 (by decide) (fun _ => rfl), show (i * 2 + 1) / 2 = i by omega, h, show (i * 2 + 1) % 2 = 1 by omega]
    rfl
theorem entCells_snoc (l : List Ent) (x : Ent) : entCells (l ++ [x]) = entCells l ++ encE x := by simp [entCells]
theorem entCells_append (l m : List Ent) : entCells (l ++ m) = entCells l ++ entCells m := by simp [entCells]
theorem ent_one (l : List Ent) : ∀ u ∈ entCells l, u.oneCell' = true := by
  intro u hu
  obtain ⟨x, _, hx⟩ := List.mem_flatMap.1 hu
  simp [encE] at hx
  rcases hx with rfl | rfl <;> rfl
theorem infoEnt : (Tryd.prog.info? 79).map (fun i => (i.zero, i.size, i.bytes)) = some (some (.agg #[.string ⟨#[]⟩, .string ⟨#[]⟩]), 2, 32) := by kernel_rfl

/-- a new slice of names -/
def MadeE (w : World) (l : List Ent) (v : Value) (w' : World) : Prop :=
  ∃ A c, v = .slice A l.length c ∧ Own w' 79 2 A l.length c (entCells l) ∧ Fr Nil w w' ∧ ∀ k, At A k → w.heap.size ≤ k
theorem madeE_lit (w : World) (l : List Ent) (cs : Array Value) (hl : l.length ≤ maxLen) (h : cs.toList = entCells l) : MadeE w l (.slice (some ⟨w.heap.size, 0, none⟩) l.length l.length) (w.alloc (.cells cs 79)) := by
  refine ⟨_, _, rfl, ?_, (Fr.rfl' _ _).alloc _, fun k hk => ?_⟩
  · rw [← h]
    exact Own.lit (size := 2) w cs l.length hl (by rw [← Array.length_toList, h, entCells_len])
  · obtain ⟨a, ha, rfl⟩ := hk
    injection ha with ha
    subst ha
    exact Nat.le_refl _

end Go.Proofs.YtblbcojkjknfdaaDoor
