/-
  cribbleref03.Fields, walked.
-/
import Derived.Test.YticofnfjebifgaaFieldsW
namespace Go.Proofs.Yticofnfjebifgaa
open Go.RowKit

/-- at the head of a round: k bytes are read, acc are collected, cur is begun -/
def RF (w : World) (s : ByteArray) (o v i : Value) (wr : World) : Prop :=
  ∃ (k : Nat) (A : Option Addr) (c : Nat) (acc : List (List UInt8)) (cur : List UInt8), k ≤ s.size ∧ i = .int .i64 k ∧ o = .slice A acc.length c ∧ v = .string (str cur) ∧
    acc ++ flds cur ((bs s).drop k) = fields (bs s) ∧ cur.length ≤ k ∧ acc.length ≤ k ∧ Own wr 9 1 A acc.length c (strs acc) ∧ Fr Nil w wr ∧ ∀ j, At A j → w.heap.size ≤ j

theorem own_step {w wr w2 : World} {A A' : Option Addr} {o : Obj} (hA : ∀ j, At A j → w.heap.size ≤ j) (hf : Fr Nil w wr) (hfr2 : Fr (At A) (wr.alloc o) w2)
    (hat : A' = A ∨ A' = some ⟨(wr.alloc o).heap.size, 0, none⟩ ∧ (wr.alloc o).heap.size < w2.heap.size) : Fr Nil w w2 ∧ ∀ j, At A' j → w.heap.size ≤ j := by
  refine ⟨(hf.alloc _).trans' hfr2 fun k hk hk' => by have := hA k hk'; omega, fun j hj => ?_⟩
  rcases at_new (w0 := w) hat (by have := hf.size; simp; omega) j hj with h1 | h1
  · exact hA j h1
  · exact h1

set_option maxHeartbeats 2000000 in
theorem rfields_any (w : World) (s : ByteArray) (hs : s.size ≤ 1048576) :
    Calls Try.prog 17 #[.string s] w fun e w' => ∃ v, e = .returned v ∧ MadeL w (fields (bs s)) v w' := by
  have HS := Lib.hid (size_bs s)
  go_enter Try.func17, Try.ntmps17
  go_wp2
  go_loopw [3, 4, 5] (fun o v i wr => RF w s o v i wr) (fun _ _ i _ => s.size - (intOf i).toNat)
  case atStart => exact ⟨0, none, 0, [], [], Nat.zero_le _, rfl, rfl, rfl, rfl, Nat.le_refl _, Nat.le_refl _, Own.nil _ _ _, Fr.rfl' _ _, fun k hk => (not_at_none k hk).elim⟩
  case round =>
    obtain ⟨k, A, c, acc, cur, hk, rfl, rfl, rfl, hp, hcu, hac, ho, hf, hA⟩ := hrel
    have HP := Lib.hid hp
    clear hp
    by_cases hlt : k < s.size
    · obtain ⟨x, hx⟩ := byte_at s hlt
      have hix := run_index_at (P := Try.prog) Try.underlying9 hx
      have hk1 : ((k : Int) + 1).toNat = k + 1 := by omega
      cases hsp : spB x with
      | false =>
        have hnx : acc ++ flds (cur ++ [x]) ((bs s).drop (k + 1)) = fields (bs s) := by rw [← HP.out, drop_at hx, flds_no hsp]
        have hex : s.extract k (k + 1) = str [x] := bs_inj (by rw [bs_extract, take_at hx, List.drop_append_of_le_length (by have := (List.getElem?_eq_some_iff.1 hx).1; simp; omega), List.drop_eq_nil_of_le (by simp; omega)]; rfl)
        have HN := Lib.hid hnx
        have HX := Lib.hid hex
        have hsc : (str cur).size ≤ 1048576 := by rw [size_str]; omega
        clear hx hnx hex
        go_wp2_with (refine (rspace_any _ _).mono ?_; rintro e w1 ⟨rfl, rfl⟩; rw [hsp])
        go_roundw
        case rel => exact ⟨k + 1, A, c, acc, cur ++ [x], by omega, by go_num, rfl, by rw [HX.out, str_append], HN.out, by simp; omega, by omega, ho, hf, hA⟩
        case measure => simp [intOf]; omega
      | true =>
        by_cases hc0 : cur = []
        · obtain ⟨e1, e2, e3⟩ := empty_of (t := str cur) (by rw [size_str, hc0]; rfl)
          have hnx : acc ++ flds [] ((bs s).drop (k + 1)) = fields (bs s) := by rw [← HP.out, drop_at hx, flds_sp hsp, if_pos hc0]
          have HN := Lib.hid hnx
          clear hx hnx hc0
          go_wp2_with (refine (rspace_any _ _).mono ?_; rintro e w1 ⟨rfl, rfl⟩; rw [hsp])
          go_roundw
          case rel => exact ⟨k + 1, A, c, acc, [], by omega, by go_num, rfl, rfl, HN.out, by simp, by omega, ho, hf, hA⟩
          case measure => simp [intOf]; omega
        · obtain ⟨e1, e2, e3⟩ := full_of (t := str cur) (by rw [size_str]; intro h; exact hc0 (List.eq_nil_of_length_eq_zero h))
          have hnx : (acc ++ [cur]) ++ flds [] ((bs s).drop (k + 1)) = fields (bs s) := by rw [← HP.out, drop_at hx, flds_sp hsp, if_neg hc0, List.append_assoc]; rfl
          have HN := Lib.hid hnx
          clear hx hnx hc0
          go_wp2_with (first
            | (go_at_call 23; refine (rspace_any _ _).mono ?_; rintro e w1 ⟨rfl, rfl⟩; rw [hsp])
            | (at_builtin
               refine wpList_append _ rfl (.tmp 26) (.tmp 28) 25 rfl 9 (.string ⟨#[]⟩) 1 16 Try.underlying25 infoStr rfl (by decide) A acc.length c (strs acc) rfl (ho.alloc _)
                 _ _ 1 1 [.string (str cur)] rfl (reads_new _ _ _) (one_one rfl) (by unfold maxLen; omega) (by omega) ?_
               intro A' c' w2 hown2 hfr2 hat
               obtain ⟨hf2, hA2⟩ := own_step hA hf hfr2 hat))
          go_roundw
          case rel => exact ⟨k + 1, A', c', acc ++ [cur], [], by omega, by go_num, by rw [List.length_append]; rfl, rfl, HN.out, by simp, by simp; omega, by rw [List.length_append, strs_snoc]; exact hown2, hf2, hA2⟩
          case measure => simp [intOf]; omega
    · obtain rfl : k = s.size := by omega
      have hd : (bs s).drop s.size = [] := List.drop_eq_nil_of_le (by rw [HS.out]; exact Nat.le_refl _)
      by_cases hc0 : cur = []
      · obtain ⟨e1, e2, e3⟩ := empty_of (t := str cur) (by rw [size_str, hc0]; rfl)
        have HN := Lib.hid (show fields (bs s) = acc by rw [← HP.out, hd, flds, if_pos hc0, List.append_nil])
        clear hd hc0
        go_wp2
        go_ret
        exact ⟨_, rfl, A, c, by rw [HN.out]; rfl, by rw [HN.out]; exact ho, hf, hA⟩
      · obtain ⟨e1, e2, e3⟩ := full_of (t := str cur) (by rw [size_str]; intro h; exact hc0 (List.eq_nil_of_length_eq_zero h))
        have HN := Lib.hid (show fields (bs s) = acc ++ [cur] by rw [← HP.out, hd, flds, if_neg hc0])
        clear hd hc0
        go_wp2_with (
          at_builtin
          refine wpList_append _ rfl (.tmp 32) (.tmp 34) 25 rfl 9 (.string ⟨#[]⟩) 1 16 Try.underlying25 infoStr rfl (by decide) A acc.length c (strs acc) rfl (ho.alloc _)
            _ _ 1 1 [.string (str cur)] rfl (reads_new _ _ _) (one_one rfl) (by unfold maxLen; omega) (by omega) ?_
          intro A' c' w2 hown2 hfr2 hat
          obtain ⟨hf2, hA2⟩ := own_step hA hf hfr2 hat)
        go_ret
        exact ⟨_, rfl, A', c', by rw [HN.out, List.length_append]; rfl, by rw [HN.out, List.length_append, strs_snoc]; exact hown2, hf2, hA2⟩
end Go.Proofs.Yticofnfjebifgaa
