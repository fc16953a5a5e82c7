/-
  slices.Concat, walked.
-/
import Derived.Test.YtblbcojkjknfdaaDoorGrow
namespace Go.Proofs.YtblbcojkjknfdaaDoor
open Go.RowKit

structure Part where
  A : Option Addr
  n : Nat
  c : Nat
  l : List Ent
def Part.val (p : Part) : Value := .slice p.A p.n p.c
def tot (ps : List Part) (k : Nat) : Nat := ((ps.take k).map Part.n).sum
def catL (ps : List Part) (k : Nat) : List Ent := ((ps.take k).map Part.l).flatten
theorem tot_succ {ps : List Part} {k : Nat} {p : Part} (h : ps[k]? = some p) : tot ps (k + 1) = tot ps k + p.n := by
  obtain ⟨hk, rfl⟩ := List.getElem?_eq_some_iff.1 h
  rw [tot, tot, List.take_succ_eq_append_getElem hk, List.map_append, List.sum_append]
  rfl
theorem catL_succ {ps : List Part} {k : Nat} {p : Part} (h : ps[k]? = some p) : catL ps (k + 1) = catL ps k ++ p.l := by
  obtain ⟨hk, rfl⟩ := List.getElem?_eq_some_iff.1 h
  rw [catL, catL, List.take_succ_eq_append_getElem hk, List.map_append, List.flatten_append, List.map_cons, List.map_nil, List.flatten_cons, List.flatten_nil, List.append_nil]
theorem own_step0 {w wr w2 : World} {A A' : Option Addr} (hA : ∀ j, At A j → w.heap.size ≤ j) (hf : Fr Nil w wr) (hfr2 : Fr (At A) wr w2)
    (hat : A' = A ∨ A' = some ⟨wr.heap.size, 0, none⟩ ∧ wr.heap.size < w2.heap.size) : Fr Nil w w2 ∧ ∀ j, At A' j → w.heap.size ≤ j := by
  refine ⟨hf.trans' hfr2 fun k hk hk' => by have := hA k hk'; omega, fun j hj => ?_⟩
  rcases at_new (w0 := w) hat (by have := hf.size; omega) j hj with h1 | h1
  · exact hA j h1
  · exact h1

def CatI1 (w : World) (ps : List Part) (m : Nat) (z i : Value) (wr : World) : Prop := ∃ k : Nat, k ≤ m ∧ i = .int .i64 k ∧ z = .int .i64 (tot ps k : Nat) ∧ w = wr
def CatI2 (w : World) (ps : List Part) (m : Nat) (o i : Value) (wr : World) : Prop :=
  ∃ (k : Nat) (A : Option Addr) (c : Nat), k ≤ m ∧ i = .int .i64 k ∧ o = .slice A (tot ps k) c ∧ Own wr 79 2 A (tot ps k) c (entCells (catL ps k)) ∧ Fr Nil w wr ∧ ∀ j, At A j → w.heap.size ≤ j

set_option maxRecDepth 100000 in
set_option maxHeartbeats 2000000 in
theorem concat_any (w : World) (g m : Nat) (ps : List Part) (hr : Own w 80 1 (some ⟨g, 0, none⟩) m m (ps.map Part.val)) (hs : ∀ p ∈ ps, Own w 79 2 p.A p.n p.c (entCells p.l))
    (hm : m ≤ 1000) (h0 : 0 < tot ps m) (ht : ∀ k ≤ m, tot ps k ≤ 1000) :
    Calls Tryd.prog 60 #[.slice (some ⟨g, 0, none⟩) m m] w fun e w' => ∃ A c, e = .returned (.slice A (tot ps m) c) ∧ Own w' 79 2 A (tot ps m) c (entCells (catL ps m)) ∧ Fr Nil w w' ∧ ∀ j, At A j → w.heap.size ≤ j := by
  have hl : ps.length = m := by have := hr.1; simpa using this
  have HL := Lib.hid hl
  have HT := Lib.hid ht
  clear hl ht
  go_enter Tryd.func60, Tryd.ntmps60
  go_wp2
  go_loopw [3, 5, 11] (fun z _ i wr => CatI1 w ps m z i wr) (fun _ _ i _ => m - (intOf i).toNat)
  case atStart => exact ⟨0, Nat.zero_le _, rfl, rfl, rfl⟩
  case round =>
    obtain ⟨k, hk, rfl, rfl, rfl⟩ := hrel
    by_cases hlt : k < m
    · obtain ⟨p, hp⟩ : ∃ p, ps[k]? = some p := ⟨_, List.getElem?_eq_getElem (by rw [HL.out]; exact hlt)⟩
      have k0 := hr.cell k (by omega)
      rw [List.getElem?_map, hp] at k0
      change _ = some (Value.slice p.A p.n p.c) at k0
      have b1 := HT.out (k + 1) hlt
      rw [tot_succ hp] at b1
      have b0 : ¬ ((tot ps k : Int) + (p.n : Int) < 0) := by omega
      have HP := Lib.hid (tot_succ hp)
      clear hp
      go_wp2
      go_roundw
      case rel => exact ⟨k + 1, hlt, by go_num, by rw [HP.out]; go_num, rfl⟩
      case measure => simp [intOf]; omega
    · obtain rfl : m = k := by omega
      have b1 := HT.out m (Nat.le_refl _)
      go_wp2_with (
        go_at_call 73
        refine (grow_nil w (tot ps m) (by omega) h0).mono ?_
        rintro e w1 ⟨c1, rfl, ho1, hf1⟩)
      go_loopw [6, 8, 27] (fun o _ i wr => CatI2 w ps m o i wr) (fun _ _ i _ => m - (intOf i).toNat)
      case atStart => exact ⟨0, _, c1, Nat.zero_le _, rfl, rfl, ho1, hf1, fun j hj => by obtain ⟨a, ha, rfl⟩ := hj; injection ha with ha; subst ha; exact Nat.le_refl _⟩
      case round =>
        obtain ⟨k, A1, c2, hk, rfl, rfl, ho, hf, hA⟩ := hrel
        by_cases hlt : k < m
        · obtain ⟨p, hp⟩ : ∃ p, ps[k]? = some p := ⟨_, List.getElem?_eq_getElem (by rw [HL.out]; exact hlt)⟩
          have hr2 := hr.fr hf fun _ _ h => h
          have k0 := hr2.cell k (by omega)
          rw [List.getElem?_map, hp] at k0
          change _ = some (Value.slice p.A p.n p.c) at k0
          have b1 := HT.out (k + 1) hlt
          rw [tot_succ hp] at b1
          have hps := (hs p (List.mem_of_getElem? hp)).fr hf fun _ _ h => h
          have HC := Lib.hid (catL_succ hp)
          have HP := Lib.hid (tot_succ hp)
          clear hp hr2
          go_wp2_with (
            at_builtin
            refine wpList_append _ rfl (.tmp 31) (.tmp 32) 80 rfl 79 (.agg #[.string ⟨#[]⟩, .string ⟨#[]⟩]) 2 32 Tryd.underlying80 infoEnt rfl (by decide) A1 (tot ps k) c2 (entCells (catL ps k)) rfl ho
              _ _ p.n p.c (entCells p.l) rfl hps.reads (ent_one _) (by unfold maxLen; omega) (by omega) ?_
            intro A' c' w2 hown2 hfr2 hat
            obtain ⟨hf2, hA2⟩ := own_step0 hA hf hfr2 hat)
          go_roundw
          case rel => exact ⟨k + 1, A', c', hlt, by go_num, by rw [HP.out], by rw [HP.out, HC.out, entCells_append]; exact hown2, hf2, hA2⟩
          case measure => simp [intOf]; omega
        · obtain rfl : m = k := by omega
          go_wp2
          go_ret
          exact ⟨_, _, rfl, ho, hf, hA⟩
end Go.Proofs.YtblbcojkjknfdaaDoor
