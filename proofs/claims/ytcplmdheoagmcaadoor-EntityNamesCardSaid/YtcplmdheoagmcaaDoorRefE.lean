/-
  cribbleref05: bare, closed, Rows, walked.
-/
import Derived.Test.YtcplmdheoagmcaaDoorRefP
import Derived.Test.YtcplmdheoagmcaaDoorNew
namespace Go.Proofs.YtcplmdheoagmcaaDoor
open Go.RowKit

def encR (x : RRow) : List Value := [.string (str x.1.1), .string (str x.1.2), .bool x.2]
def rowCells (l : List RRow) : List Value := l.flatMap encR
theorem rowCells_len (l : List RRow) : (rowCells l).length = l.length * 3 := flatMap_len encR 3 (fun _ => rfl) l
theorem row_at {l : List RRow} {i : Nat} {x : RRow} (h : l[i]? = some x) : (rowCells l)[i * 3]? = some (.string (str x.1.1)) ∧ (rowCells l)[i * 3 + 1]? = some (.string (str x.1.2)) ∧ (rowCells l)[i * 3 + 2]? = some (.bool x.2) := by
  refine ⟨?_, ?_, ?_⟩
  · rw [rowCells, flatMap_get encR 3 (by decide) (fun _ => rfl), show i * 3 / 3 = i by omega, h, show i * 3 % 3 = 0 by omega]
    rfl
  · rw [rowCells, flatMap_get encR 3 (by decide) (fun _ => rfl), show (i * 3 + 1) / 3 = i by omega, h, show (i * 3 + 1) % 3 = 1 by omega]
    rfl
  · rw [rowCells, flatMap_get encR 3 (by decide) (fun _ => rfl), show (i * 3 + 2) / 3 = i by omega, h, show (i * 3 + 2) % 3 = 2 by omega]
    rfl
theorem rowCells_append (l m : List RRow) : rowCells (l ++ m) = rowCells l ++ rowCells m := by simp [rowCells]
theorem row_one (l : List RRow) : ∀ u ∈ rowCells l, u.oneCell' = true := by
  intro u hu
  obtain ⟨x, _, hx⟩ := List.mem_flatMap.1 hu
  simp [encR] at hx
  rcases hx with rfl | rfl | rfl <;> rfl
theorem infoRow : (Tryd.prog.info? 59).map (fun i => (i.zero, i.size, i.bytes)) = some (some (.agg #[.string ⟨#[]⟩, .string ⟨#[]⟩, .bool false]), 3, 40) := by kernel_rfl

/-- a slice of n rows in a new block -/
def MadeR (w : World) (n : Nat) (l : List RRow) (e : Ending) (w' : World) : Prop :=
  ∃ g c, e = .returned (.slice (some ⟨g, 0, none⟩) n c) ∧ Own w' 59 3 (some ⟨g, 0, none⟩) n c (rowCells l) ∧ Fr Nil w w' ∧ w.heap.size ≤ g
theorem madeR_lit (w : World) (l : List RRow) (n : Nat) (cs : Array Value) (hl : l.length = n) (hn : n ≤ maxLen) (h : cs.toList = rowCells l) :
    MadeR w n l (.returned (.slice (some ⟨w.heap.size, 0, none⟩) n n)) (w.alloc (.cells cs 59)) := by
  refine ⟨_, _, rfl, ?_, (Fr.rfl' _ _).alloc _, Nat.le_refl _⟩
  rw [← h]
  exact Own.lit (size := 3) w cs n hn (by rw [← Array.length_toList, h, rowCells_len, hl])

/-- a literal of many elements: told by what 'fill' gives -/
theorem run_buildSlice {P : Program} (w : World) (t elem : TypeId) (len size bytes : Nat) (z : Value) (parts : Array (Nat × Value)) (cells : Array Value) (ht : P.underlying t = some (.slice elem))
    (hinfo : (P.info? elem).map (fun i => (i.zero, i.size, i.bytes)) = some (some z, size, bytes)) (h1 : ¬ len * size > 2 ^ 24) (h2 : ¬ len * size = 0)
    (hf : Instr.fill (fun i => some (i * size, size)) ((Array.range (len * size)).map (z.cells[· % z.cells.size]!)) parts.toList = some cells) :
    (Instr.buildSlice t len parts).run P w = .ok (.slice (some ⟨w.heap.size, 0, none⟩) len len) (w.alloc (.cells cells elem)) := by
  obtain ⟨i0, hi0, hz0, hs0, _⟩ := info_parts hinfo
  have hz : (zeroValue elem).run P w = .ok z w := by simp [zeroValue, typeInfo, hi0, hz0]
  have hs : (sizeOf elem).run P w = .ok size w := by simp [sizeOf, typeInfo, hi0, hs0]
  simp [Instr.buildSlice, run_underlying ht, hz, hs, h1, h2, hf, newRow]
theorem wp_buildSlice {P : Program} (w : World) {o : Oper} {a : Act} {K : Act → World → Prop} {Q : Exit → Act → World → Prop} (t : TypeId) (len : Nat) (ps : Array (Nat × Operand)) (ho : o.op = .buildSlice t len ps) (v : Value) (w' : World)
    (hr : (Instr.buildSlice t len (ps.map fun (i, x) => (i, a.eval x))).run P w = .ok v w') (h : K (a.put o.dst v) w') : o.wp P a w K Q := by
  unfold Oper.wp execOp
  simp only [ho, Sem.run_bind, Sem.run_pure, Result.andThen_ok, hr]
  exact h

set_option maxRecDepth 100000 in
set_option maxHeartbeats 2000000 in
theorem rbare_any (w : World) : Calls Tryd.prog 57 #[] w (MadeR w 50 bareRR) := by
  go_enter Tryd.func57, Tryd.ntmps57
  go_wp2
  refine wp_buildSlice w 56 50 _ rfl _ _ (run_buildSlice w 56 59 50 3 40 _ _ (rowCells bareRR).toArray Tryd.underlying56 infoRow (by decide) (by decide) (by kernel_rfl)) ?_
  go_wp2
  go_ret
  exact madeR_lit w bareRR 50 _ rfl (by decide) rfl
end Go.Proofs.YtcplmdheoagmcaaDoor
