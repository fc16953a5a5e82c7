/-
  entity.Names, walked.
-/
import Derived.Test.YtblbcojkjknfdaaDoorAll
import Derived.Test.YtblbcojkjknfdaaDoorNamP
namespace Go.Proofs.YtblbcojkjknfdaaDoor
open Go.RowKit

def nameCells (l : List Ent) : List Value := l.map fun x => .string (str x.1)
theorem nameCells_take {l : List Ent} {k : Nat} {x : Ent} (h : l[k]? = some x) : nameCells (l.take (k + 1)) = nameCells (l.take k) ++ [.string (str x.1)] := by
  obtain ⟨hk, rfl⟩ := List.getElem?_eq_some_iff.1 h
  rw [List.take_succ_eq_append_getElem hk, nameCells, List.map_append]
  rfl
/-- all names, in the order of their texts -/
theorem all_s (w : World) : Calls Tryd.prog 48 #[] w (MadeN w 134 allS) := (all_any w).mono fun e w' ⟨g, c, l, he, hp, hs, ho, hf, hg⟩ => by
  rw [all_unique hp hs] at ho
  exact ⟨g, c, he, ho, hf, hg⟩
theorem one_reads (w : World) (x : Ent) (s : ByteArray) : Reads ((w.alloc (.cells #[.string (str x.1), .string (str x.2)] 79)).alloc (.cells #[.string s] 9)) (w.heap.size + 1 + 1) 1 (some ⟨w.heap.size + 1, 0, none⟩) 1 [.string s] := by
  have h := (Own.lit (size := 1) (e := 9) (w.alloc (.cells #[.string (str x.1), .string (str x.2)] 79)) #[.string s] 1 (by unfold maxLen; omega) rfl).reads
  simp only [World.size_alloc] at h
  exact h
/-- at the head of a round of Names -/
def NamI (w : World) (l : List Ent) (o i : Value) (wr : World) : Prop :=
  ∃ (k : Nat) (A : Option Addr) (c : Nat), k ≤ l.length ∧ i = .int .i64 k ∧ o = .slice A k c ∧ Own wr 9 1 A k c (nameCells (l.take k)) ∧ Fr Nil w wr ∧ ∀ j, At A j → w.heap.size ≤ j

set_option maxRecDepth 100000 in
set_option maxHeartbeats 2000000 in
theorem names_any (w : World) : Calls Tryd.prog 46 #[] w fun e w' => ∃ A c, e = .returned (.slice A 134 c) ∧ Own w' 9 1 A 134 c (nameCells allS) ∧ Fr Nil w w' ∧ ∀ j, At A j → w.heap.size ≤ j := by
  have HL := Lib.hid allS_len
  have HA := Lib.hid (all_s w)
  generalize allS = l at HL HA ⊢
  go_enter Tryd.func46, Tryd.ntmps46
  go_wp2_with (go_at_call 48; refine HA.out.mono ?_; rintro e w1 ⟨g, c0, rfl, hr, hf1, hg⟩)
  go_loopw [1, 3, 6] (fun o _ i wr => NamI w1 l o i wr) (fun _ _ i _ => 134 - (intOf i).toNat)
  case atStart => exact ⟨0, none, 0, Nat.zero_le _, rfl, rfl, Own.nil _ _ _, Fr.rfl' _ _, fun k hk => (not_at_none k hk).elim⟩
  case round =>
    obtain ⟨k, A1, c1, hk, rfl, rfl, ho, hf, hA⟩ := hrel
    rw [HL.out] at hk
    by_cases hlt : k < 134
    · obtain ⟨x, hx⟩ : ∃ x, l[k]? = some x := ⟨_, List.getElem?_eq_getElem (by rw [HL.out]; exact hlt)⟩
      have hr2 := hr.fr hf fun _ _ h => h
      have k0 := hr2.cell (k * 2) (by omega)
      have k1 := hr2.cell (k * 2 + 1) (by omega)
      rw [(ent_at hx).1] at k0
      rw [(ent_at hx).2] at k1
      have HN := Lib.hid (nameCells_take hx)
      clear hx hr2
      go_wp2_with (
        at_builtin
        refine wpList_append _ rfl (.tmp 10) (.tmp 13) 36 rfl 9 (.string ⟨#[]⟩) 1 16 Tryd.underlying36 infoStr rfl (by decide) A1 k c1 (nameCells (l.take k)) rfl ((ho.alloc _).alloc _)
          _ _ 1 1 [.string (str x.1)] rfl (one_reads wr x (str x.1)) (fun u hu => by simp at hu; subst hu; rfl) (by unfold maxLen; omega) (by omega) ?_
        intro A' c' w2 hown2 hfr2 hat
        obtain ⟨hf2, hA2⟩ := own_step2 hA hf hfr2 hat)
      go_roundw
      case rel => exact ⟨k + 1, A', c', by rw [HL.out]; omega, by go_num, rfl, by rw [HN.out]; exact hown2, hf2, hA2⟩
      case measure => simp [intOf]; omega
    · obtain rfl : 134 = k := by omega
      have hta : l.take 134 = l := List.take_of_length_le (by rw [HL.out]; exact Nat.le_refl _)
      rw [hta] at ho
      clear hta
      go_wp2
      go_ret
      exact ⟨_, _, rfl, ho, hf1.trans hf, fun j hj => Nat.le_trans hf1.size (hA j hj)⟩
end Go.Proofs.YtblbcojkjknfdaaDoor
