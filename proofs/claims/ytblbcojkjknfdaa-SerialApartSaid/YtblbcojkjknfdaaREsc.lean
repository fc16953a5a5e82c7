/-
  cribbleref06.Escape, walked.
-/
import Derived.Test.YtblbcojkjknfdaaEscP
import Derived.Test.YtblbcojkjknfdaaBytes
import Derived.Test.YtblbcojkjknfdaaTrimP
namespace Go.Proofs.Ytblbcojkjknfdaa
open Go.RowKit

theorem infoByte : (Try.prog.info? 5).map (fun i => (i.zero, i.size, i.bytes)) = some (some (.int .u8 0), 1, 1) := by kernel_rfl
theorem esc_grow {w wr w2 : World} {A A' : Option Addr} (hA : ∀ j, At A j → w.heap.size ≤ j) (hf : Fr Nil w wr) (hfr2 : Fr (At A) wr w2)
    (hat : A' = A ∨ A' = some ⟨wr.heap.size, 0, none⟩ ∧ wr.heap.size < w2.heap.size) : Fr Nil w w2 ∧ ∀ j, At A' j → w.heap.size ≤ j := by
  refine ⟨hf.trans' hfr2 fun k hk hk' => by have := hA k hk'; omega, fun j hj => ?_⟩
  rcases at_new (w0 := w) hat (by have := hf.size; omega) j hj with h1 | h1
  · exact hA j h1
  · exact h1
theorem esc_one {attr : Bool} {l : Bys} {k : Nat} {c : UInt8} (hx : l[k]? = some c) (h : ¬ (c = 194 ∧ l[k + 1]? = some 160)) : escB attr (l.drop k) = pieceB attr c ++ escB attr (l.drop (k + 1)) := by
  rw [drop_at hx, escB_cons]
  rintro ⟨h1, h2⟩
  exact h ⟨h1, by rwa [List.head?_drop] at h2⟩
theorem esc_two {attr : Bool} {l : Bys} {k : Nat} (hx : l[k]? = some 194) (hy : l[k + 1]? = some 160) : escB attr (l.drop k) = nbspB ++ escB attr (l.drop (k + 2)) := by
  rw [drop_at hx, drop_at hy, escB_nbsp]
def REscI (w : World) (s : ByteArray) (attr : Bool) (o i : Value) (wr : World) : Prop :=
  ∃ (k : Nat) (acc : Bys) (A : Option Addr) (c : Nat), k ≤ s.size ∧ i = .int .i64 k ∧ o = .slice A acc.length c ∧ Own wr 5 1 A acc.length c (cellsOf acc) ∧ acc ++ escB attr ((bs s).drop k) = escB attr (bs s) ∧ acc.length ≤ 6 * k ∧ Fr Nil w wr ∧ ∀ j, At A j → w.heap.size ≤ j

set_option maxRecDepth 100000 in
set_option maxHeartbeats 8000000 in
theorem rescape_any (s : ByteArray) (attr : Bool) (w : World) (hs : s.size ≤ 100000) :
    Calls Try.prog 23 #[.string s, .bool attr] w fun e w' => e = .returned (.string (str (escB attr (bs s)))) ∧ Fr Nil w w' := by
  have hsz := size_bs s
  have HSZ := Lib.hid hsz
  clear hsz
  go_enter Try.func23, Try.ntmps23
  go_wp2_with fail
  go_loopw [5, 6] (fun o i wr => REscI w s attr o i wr) (fun _ i _ => s.size - (intOf i).toNat)
  case atStart => exact ⟨0, [], none, 0, Nat.zero_le _, rfl, rfl, Own.nil _ _ _, rfl, by simp, Fr.rfl' _ _, fun k hk => (not_at_none k hk).elim⟩
  case round =>
    obtain ⟨k, acc, A1, c1, hk, rfl, rfl, ho, hacc, hal, hf, hA⟩ := hrel
    have HACC := Lib.hid hacc
    clear hacc
    by_cases hlt : k < s.size
    · obtain ⟨x, hx⟩ := byte_at s hlt
      have hix := run_index_at (P := Try.prog) Try.underlying9 hx
      by_cases h38 : x = 38
      · subst h38
        have HP := Lib.hid (show escB attr ((bs s).drop k) = ampB ++ escB attr ((bs s).drop (k + 1)) by rw [esc_one hx (by rintro ⟨h, _⟩; exact absurd h (by decide))]; rfl)
        clear hx
        go_wp2_with (
          at_builtin
          refine wpList_append_str _ rfl (.tmp 24) (.const (.string { data := #[38, 97, 109, 112, 59] })) 41 9 rfl 5 Try.underlying41 Try.underlying9 infoByte A1 acc.length c1 (cellsOf acc) rfl ho ampB rfl (by show acc.length + 5 ≤ maxLen; unfold maxLen; omega) (by show acc.length + 5 ≤ 140737488355328; omega) ?_
          rw [← List.length_append, ← cellsOf_append]
          intro A' c' w2 hown2 hfr2 hat
          obtain ⟨hf2, hA2⟩ := esc_grow hA hf hfr2 hat)
        go_roundw
        case rel => exact ⟨k + 1, acc ++ ampB, A', c', by omega, by go_num, by rw [List.length_append], hown2, by rw [List.append_assoc, ← HP.out]; exact HACC.out, by rw [List.length_append]; show acc.length + 5 ≤ _; omega, hf2, hA2⟩
        case measure => simp [intOf]; omega
      · have g38 : ((x.toNat : Int) == 38) = false := byte_ne (c := x) (d := 38) h38
        by_cases h60 : x = 60
        · subst h60
          have HP := Lib.hid (show escB attr ((bs s).drop k) = ltB ++ escB attr ((bs s).drop (k + 1)) by rw [esc_one hx (by rintro ⟨h, _⟩; exact absurd h (by decide))]; rfl)
          clear hx
          go_wp2_with (
            at_builtin
            refine wpList_append_str _ rfl (.tmp 31) (.const (.string { data := #[38, 108, 116, 59] })) 41 9 rfl 5 Try.underlying41 Try.underlying9 infoByte A1 acc.length c1 (cellsOf acc) rfl ho ltB rfl (by show acc.length + 4 ≤ maxLen; unfold maxLen; omega) (by show acc.length + 4 ≤ 140737488355328; omega) ?_
            rw [← List.length_append, ← cellsOf_append]
            intro A' c' w2 hown2 hfr2 hat
            obtain ⟨hf2, hA2⟩ := esc_grow hA hf hfr2 hat)
          go_roundw
          case rel => exact ⟨k + 1, acc ++ ltB, A', c', by omega, by go_num, by rw [List.length_append], hown2, by rw [List.append_assoc, ← HP.out]; exact HACC.out, by rw [List.length_append]; show acc.length + 4 ≤ _; omega, hf2, hA2⟩
          case measure => simp [intOf]; omega
        · have g60 : ((x.toNat : Int) == 60) = false := byte_ne (c := x) (d := 60) h60
          by_cases h62 : x = 62
          · subst h62
            have HP := Lib.hid (show escB attr ((bs s).drop k) = gtB ++ escB attr ((bs s).drop (k + 1)) by rw [esc_one hx (by rintro ⟨h, _⟩; exact absurd h (by decide))]; rfl)
            clear hx
            go_wp2_with (
              at_builtin
              refine wpList_append_str _ rfl (.tmp 38) (.const (.string { data := #[38, 103, 116, 59] })) 41 9 rfl 5 Try.underlying41 Try.underlying9 infoByte A1 acc.length c1 (cellsOf acc) rfl ho gtB rfl (by show acc.length + 4 ≤ maxLen; unfold maxLen; omega) (by show acc.length + 4 ≤ 140737488355328; omega) ?_
              rw [← List.length_append, ← cellsOf_append]
              intro A' c' w2 hown2 hfr2 hat
              obtain ⟨hf2, hA2⟩ := esc_grow hA hf hfr2 hat)
            go_roundw
            case rel => exact ⟨k + 1, acc ++ gtB, A', c', by omega, by go_num, by rw [List.length_append], hown2, by rw [List.append_assoc, ← HP.out]; exact HACC.out, by rw [List.length_append]; show acc.length + 4 ≤ _; omega, hf2, hA2⟩
            case measure => simp [intOf]; omega
          · have g62 : ((x.toNat : Int) == 62) = false := byte_ne (c := x) (d := 62) h62
            by_cases h34 : x = 34 ∧ attr = true
            · obtain ⟨rfl, rfl⟩ := h34
              have HP := Lib.hid (show escB true ((bs s).drop k) = quotB ++ escB true ((bs s).drop (k + 1)) by rw [esc_one hx (by rintro ⟨h, _⟩; exact absurd h (by decide))]; rfl)
              clear hx
              go_wp2_with (
                at_builtin
                refine wpList_append_str _ rfl (.tmp 48) (.const (.string { data := #[38, 113, 117, 111, 116, 59] })) 41 9 rfl 5 Try.underlying41 Try.underlying9 infoByte A1 acc.length c1 (cellsOf acc) rfl ho quotB rfl (by show acc.length + 6 ≤ maxLen; unfold maxLen; omega) (by show acc.length + 6 ≤ 140737488355328; omega) ?_
                rw [← List.length_append, ← cellsOf_append]
                intro A' c' w2 hown2 hfr2 hat
                obtain ⟨hf2, hA2⟩ := esc_grow hA hf hfr2 hat)
              go_roundw
              case rel => exact ⟨k + 1, acc ++ quotB, A', c', by omega, by go_num, by rw [List.length_append], hown2, by rw [List.append_assoc, ← HP.out]; exact HACC.out, by rw [List.length_append]; show acc.length + 6 ≤ _; omega, hf2, hA2⟩
              case measure => simp [intOf]; omega
            · obtain ⟨q, hq, hq1⟩ : ∃ q : Bool, q = decide (x = 34) ∧ (attr && q) = false := ⟨_, rfl, by
                cases hd : decide (x = 34) with
                | false => simp
                | true =>
                  cases attr with
                  | false => rfl
                  | true => exact (h34 ⟨of_decide_eq_true hd, rfl⟩).elim⟩
              have g34 : ((x.toNat : Int) == 34) = q := by
                rw [hq]
                by_cases h : x = 34
                · subst h; rfl
                · rw [decide_eq_false h]; exact byte_ne (c := x) (d := 34) h
              have hpc : pieceB attr x = [x] := by
                unfold pieceB
                rw [if_neg h38, if_neg h60, if_neg h62, if_neg h34]
              have HPC := Lib.hid hpc
              clear hq h34 hpc
              by_cases hnb : x = 194 ∧ (bs s)[k + 1]? = some 160
              · obtain ⟨rfl, hy⟩ := hnb
                have hlt2 : k + 1 < s.size := by have := (List.getElem?_eq_some_iff.1 hy).1; rw [← HSZ.out] at this; exact this
                have hiy : ∀ W, (Instr.index 9 (.string s) (.int .i64 ((k : Int) + 1))).run Try.prog W = .ok (.int .u8 160) W := run_index_at (P := Try.prog) (k := k + 1) Try.underlying9 hy
                have HP := Lib.hid (show escB attr ((bs s).drop k) = nbspB ++ escB attr ((bs s).drop (k + 2)) from esc_two hx hy)
                obtain rfl : q = false := by rw [← g34]; rfl
                clear hx hy hq1
                cases attr
                all_goals
                  go_wp2_with (
                    at_builtin
                    refine wpList_append_str _ rfl (.tmp 69) (.const (.string { data := #[38, 110, 98, 115, 112, 59] })) 41 9 rfl 5 Try.underlying41 Try.underlying9 infoByte A1 acc.length c1 (cellsOf acc) rfl ho nbspB rfl (by show acc.length + 6 ≤ maxLen; unfold maxLen; omega) (by show acc.length + 6 ≤ 140737488355328; omega) ?_
                    rw [← List.length_append, ← cellsOf_append]
                    intro A' c' w2 hown2 hfr2 hat
                    obtain ⟨hf2, hA2⟩ := esc_grow hA hf hfr2 hat)
                  go_roundw
                  case rel => exact ⟨k + 2, acc ++ nbspB, A', c', by omega, by go_num, by rw [List.length_append], hown2, by rw [List.append_assoc, ← HP.out]; exact HACC.out, by rw [List.length_append]; show acc.length + 6 ≤ _; omega, hf2, hA2⟩
                  case measure => simp [intOf]; omega
              · have HP := Lib.hid (show escB attr ((bs s).drop k) = [x] ++ escB attr ((bs s).drop (k + 1)) by rw [esc_one hx hnb, HPC.out])
                have q2 := reads_new (w := wr) (.int .u8 (x.toNat : Int)) 5
                have hwalk : ∀ (g194 : ((x.toNat : Int) == 194) = false ∨ (((x.toNat : Int) == 194) = true ∧ (¬ k + 1 < s.size ∨ ∃ y, k + 1 < s.size ∧ (∀ W, (Instr.index 9 (.string s) (.int .i64 ((k : Int) + 1))).run Try.prog W = .ok (.int .u8 y) W) ∧ (y == 160) = false))), True := fun _ => trivial
                have hc : ((x.toNat : Int) == 194) = false ∨ (((x.toNat : Int) == 194) = true ∧ (¬ k + 1 < s.size ∨ ∃ y, k + 1 < s.size ∧ (∀ W, (Instr.index 9 (.string s) (.int .i64 ((k : Int) + 1))).run Try.prog W = .ok (.int .u8 y) W) ∧ (y == 160) = false)) := by
                  by_cases h194 : x = 194
                  · subst h194
                    refine .inr ⟨rfl, ?_⟩
                    by_cases hl2 : k + 1 < s.size
                    · obtain ⟨y, hy⟩ := byte_at s hl2
                      exact .inr ⟨_, hl2, run_index_at (P := Try.prog) (k := k + 1) Try.underlying9 hy, byte_ne (c := y) (d := 160) fun e => hnb ⟨rfl, by rw [hy, e]⟩⟩
                    · exact .inl hl2
                  · exact .inl (byte_ne (c := x) (d := 194) h194)
                clear hx hnb hwalk h38 h60 h62 HPC
                rcases hc with g194 | ⟨g194, hl2 | ⟨y, hl2, hiy, g160⟩⟩
                all_goals
                  cases attr <;> cases q <;> simp at hq1
                  all_goals
                    go_wp2_with (
                      at_builtin
                      refine wpList_append _ rfl (.tmp 13) (.tmp 17) 41 rfl 5 (.int .u8 0) 1 1 Try.underlying41 infoByte rfl (by decide) A1 acc.length c1 (cellsOf acc) rfl (ho.alloc _)
                        _ _ 1 1 [.int .u8 (x.toNat : Int)] rfl q2 (one_one rfl) (by unfold maxLen; omega) (by omega) ?_
                      rw [show cellsOf acc ++ [Value.int .u8 (x.toNat : Int)] = cellsOf (acc ++ [x]) from (cellsOf_append acc [x]).symm, show acc.length + 1 = (acc ++ [x]).length by simp]
                      intro A' c' w2 hown2 hfr2 hat
                      obtain ⟨hf2, hA2⟩ := esc_grow hA (hf.alloc _) hfr2 hat)
                    go_roundw
                    case rel => exact ⟨k + 1, acc ++ [x], A', c', by omega, by go_num, by rw [List.length_append]; rfl, hown2, by rw [List.append_assoc, ← HP.out]; exact HACC.out, by simp; omega, hf2, hA2⟩
                    case measure => simp [intOf]; omega
    · obtain rfl : k = s.size := by omega
      have hfin : acc = escB attr (bs s) := by
        rw [← HACC.out, List.drop_eq_nil_of_le (by rw [HSZ.out]; exact Nat.le_refl _)]
        simp [escB]
      have hcv := run_string_of (P := Try.prog) (src := 41) (dst := 9) (e := 5) (c := c1) Try.underlying41 Try.underlying5 Try.underlying9 ho.reads
      have HF := Lib.hid hfin
      clear hfin
      go_wp2_with fail
      go_ret
      exact ⟨by rw [← HF.out]; rfl, hf⟩
end Go.Proofs.Ytblbcojkjknfdaa
