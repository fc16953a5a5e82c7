/-
  entity.with, slices.Grow, slices.Concat, walked.
-/
import Derived.Test.YtblbcojkjknfdaaDoorEnt
import Derived.Lib.AppendZerosOnto
import Derived.Lib.SliceRun
namespace Go.Proofs.YtblbcojkjknfdaaDoor
open Go.RowKit

theorem withL_take {l : List Ent} {k : Nat} {x : Ent} (h : l[k]? = some x) : withL (l.take (k + 1)) = withL (l.take k) ++ [(x.1 ++ [59], x.2)] := by
  obtain ⟨hk, rfl⟩ := List.getElem?_eq_some_iff.1 h
  rw [List.take_succ_eq_append_getElem hk, withL, List.map_append]
  rfl
theorem own_step2 {w wr w2 : World} {A A' : Option Addr} {o1 o2 : Obj} (hA : ∀ j, At A j → w.heap.size ≤ j) (hf : Fr Nil w wr) (hfr2 : Fr (At A) ((wr.alloc o1).alloc o2) w2)
    (hat : A' = A ∨ A' = some ⟨((wr.alloc o1).alloc o2).heap.size, 0, none⟩ ∧ ((wr.alloc o1).alloc o2).heap.size < w2.heap.size) : Fr Nil w w2 ∧ ∀ j, At A' j → w.heap.size ≤ j := by
  refine ⟨((hf.alloc _).alloc _).trans' hfr2 fun k hk hk' => by have := hA k hk'; omega, fun j hj => ?_⟩
  rcases at_new (w0 := w) hat (by have := hf.size; simp; omega) j hj with h1 | h1
  · exact hA j h1
  · exact h1
/-- at the head of a round of with: k names are told -/
def WithI (w : World) (l : List Ent) (o i : Value) (wr : World) : Prop :=
  ∃ (k : Nat) (A : Option Addr) (c : Nat), k ≤ l.length ∧ i = .int .i64 k ∧ o = .slice A k c ∧ Own wr 79 2 A k c (entCells (withL (l.take k))) ∧ Fr Nil w wr ∧ ∀ j, At A j → w.heap.size ≤ j
theorem ent_reads2 (w : World) (a b : ByteArray) : Reads (w.alloc (.cells #[.string a, .string b] 79)) (w.heap.size + 1) 2 (some ⟨w.heap.size, 0, none⟩) 1 [.string a, .string b] := by
  have h := (Own.lit (size := 2) (e := 79) w #[.string a, .string b] 1 (by unfold maxLen; omega) rfl).reads
  simp only [World.size_alloc] at h
  exact h
theorem ent_reads3 (w : World) (x : Ent) (a b : ByteArray) : Reads ((w.alloc (.cells #[.string (str x.1), .string (str x.2)] 79)).alloc (.cells #[.string a, .string b] 79)) (w.heap.size + 1 + 1) 2 (some ⟨w.heap.size + 1, 0, none⟩) 1 [.string a, .string b] := by
  have h := ent_reads2 (w.alloc (.cells #[.string (str x.1), .string (str x.2)] 79)) a b
  simp only [World.size_alloc] at h
  exact h
theorem ent_one2 (a b : ByteArray) : ∀ u ∈ [Value.string a, .string b], u.oneCell' = true := by
  intro u hu
  simp at hu
  rcases hu with rfl | rfl <;> rfl
theorem ent_reads (w : World) (x : Ent) : Reads (w.alloc (.cells #[.string (str x.1), .string (str x.2)] 79)) (w.heap.size + 1) 2 (some ⟨w.heap.size, 0, none⟩) 1 [.string (str x.1), .string (str x.2)] := by
  have h := (Own.lit (size := 2) (e := 79) w #[.string (str x.1), .string (str x.2)] 1 (by unfold maxLen; omega) rfl).reads
  simp only [World.size_alloc] at h
  exact h

set_option maxRecDepth 100000 in
set_option maxHeartbeats 2000000 in
theorem with_any (w : World) (g n c : Nat) (l : List Ent) (hr : Own w 79 2 (some ⟨g, 0, none⟩) n c (entCells l)) (hn : n ≤ 1000) (hz : ∀ x ∈ l, x.1.length ≤ 1000) :
    Calls Tryd.prog 62 #[.slice (some ⟨g, 0, none⟩) n c] w fun e w' => ∃ v, e = .returned v ∧ MadeE w (withL l) v w' := by
  have hl : l.length = n := by have := hr.1; rw [entCells_len] at this; omega
  have HL := Lib.hid hl
  clear hl
  go_enter Tryd.func62, Tryd.ntmps62
  go_wp2
  go_loopw [3, 5, 8] (fun o _ i wr => WithI w l o i wr) (fun _ _ i _ => n - (intOf i).toNat)
  case atStart => exact ⟨0, none, 0, Nat.zero_le _, rfl, rfl, Own.nil _ _ _, Fr.rfl' _ _, fun k hk => (not_at_none k hk).elim⟩
  case round =>
    obtain ⟨k, A1, c1, hk, rfl, rfl, ho, hf, hA⟩ := hrel
    rw [HL.out] at hk
    by_cases hlt : k < n
    · obtain ⟨x, hx⟩ : ∃ x, l[k]? = some x := ⟨_, List.getElem?_eq_getElem (by rw [HL.out]; exact hlt)⟩
      have hr2 := hr.fr hf fun _ _ h => h
      have k0 := hr2.cell (k * 2) (by omega)
      have k1 := hr2.cell (k * 2 + 1) (by omega)
      rw [(ent_at hx).1] at k0
      rw [(ent_at hx).2] at k1
      have z1 : (str x.1).size ≤ 1000 := by rw [size_str]; exact hz x (List.mem_of_getElem? hx)
      have HN := Lib.hid (withL_take hx)
      have hsa : str x.1 ++ ({ data := #[59] } : ByteArray) = str (x.1 ++ [59]) := by rw [str_append]; rfl
      have HSA := Lib.hid hsa
      clear hx hr2 hsa
      go_wp2_with (
        at_builtin
        refine wpList_append _ rfl (.tmp 12) (.tmp 19) 80 rfl 79 (.agg #[.string ⟨#[]⟩, .string ⟨#[]⟩]) 2 32 Tryd.underlying80 infoEnt rfl (by decide) A1 k c1 (entCells (withL (l.take k))) rfl ((ho.alloc _).alloc _)
          _ _ 1 1 [.string (str x.1 ++ { data := #[59] }), .string (str x.2)] rfl (ent_reads3 wr x (str x.1 ++ { data := #[59] }) (str x.2)) (ent_one2 _ _) (by unfold maxLen; omega) (by omega) ?_
        intro A' c' w2 hown2 hfr2 hat
        obtain ⟨hf2, hA2⟩ := own_step2 hA hf hfr2 hat)
      go_roundw
      case rel => exact ⟨k + 1, A', c', by rw [HL.out]; omega, by go_num, rfl, by rw [HN.out, entCells_snoc]; rw [HSA.out] at hown2; exact hown2, hf2, hA2⟩
      case measure => simp [intOf]; omega
    · obtain rfl : n = k := by omega
      have hta : l.take n = l := List.take_of_length_le (by rw [HL.out]; exact Nat.le_refl _)
      rw [hta] at ho
      have hwl : (withL l).length = n := by rw [withL, List.length_map, HL.out]
      have HW := Lib.hid hwl
      clear hta hwl
      go_wp2
      go_ret
      exact ⟨_, rfl, A1, c1, by rw [HW.out]; rfl, by rw [HW.out]; exact ho, hf, hA⟩

end Go.Proofs.YtblbcojkjknfdaaDoor
