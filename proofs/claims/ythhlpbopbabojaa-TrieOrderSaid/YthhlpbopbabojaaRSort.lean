/-
  cribbleref04.Sorted, walked.
-/
import Derived.Test.YthhlpbopbabojaaSorted
import Derived.Sort.Walk0
namespace Go.Proofs.Ythhlpbopbabojaa
open Go.RowKit Go.Sort

theorem less_str (a b : Pth) : Op.bytesLess (str a).toList (str b).toList = decide (a < b) := by
  rw [bytesLess_eq, Lib.toList_data, Lib.toList_data]
  rfl
/-- at the head of a round: the first k words are in their places -/
def RInsI (w : World) (L : List Pth) (o i : Value) (wr : World) : Prop :=
  ∃ (k : Nat) (A : Option Addr) (c : Nat), k ≤ L.length ∧ i = .int .i64 k ∧ o = .slice A k c ∧ Own wr 9 1 A k c (txt (insAll (L.take k))) ∧ Fr Nil w wr ∧ ∀ j, At A j → w.heap.size ≤ j
/-- where the next one goes -/
def RPlcI (l : List Pth) (x : Pth) (w : World) (a : Value) (wr : World) : Prop :=
  ∃ k m : Nat, k ≤ l.length ∧ a = .int .i64 k ∧ (∀ j y, l[j]? = some y → j < k → y < x) ∧ wr = w.drewN m

set_option maxRecDepth 100000 in
set_option maxHeartbeats 8000000 in
theorem rsort_any (w : World) (A0 : Option Addr) (n c0 : Nat) (L0 : List ByteArray) (hr0 : Reads w w.heap.size 1 A0 n (L0.map .string)) (hn : n ≤ 100000) :
    Calls Try.prog 21 #[.slice A0 n c0] w (SortedP w n (insAll (L0.map bs))) := by
  obtain ⟨L, hL⟩ : ∃ L : List Pth, L = L0.map bs := ⟨_, rfl⟩
  have hcells : L0.map Value.string = txt L := by
    rw [hL, txt, List.map_map]
    exact List.map_congr_left fun s _ => by simp [str_bs]
  rw [hcells] at hr0
  rw [← hL]
  have hLl : L.length = n := by have := hr0.1; rw [txt_len] at this; omega
  clear hL hcells
  have HLL := Lib.hid hLl
  clear hLl
  go_enter Try.func21, Try.ntmps21
  go_wp2
  go_loopw [3, 4, 5, 6] (fun o i _ _ wr => RInsI w L o i wr) (fun _ i _ _ _ => n - (intOf i).toNat)
  case atStart => exact ⟨0, none, 0, Nat.zero_le _, rfl, rfl, Own.nil _ _ _, Fr.rfl' _ _, fun k hk => (not_at_none k hk).elim⟩
  case round =>
    obtain ⟨k, A1, c1, hk, rfl, rfl, ho, hf, hA⟩ := hrel
    rw [HLL.out] at hk
    by_cases hlt : k < n
    · obtain ⟨x, hx⟩ : ∃ x, L[k]? = some x := ⟨_, List.getElem?_eq_getElem (by rw [HLL.out]; exact hlt)⟩
      have hr2 := hr0.fr hf (Nat.le_refl _) fun _ h => h.elim
      obtain ⟨ad, u, rfl, hbk, hu, k0⟩ := hr2.at_ hlt
      rw [txt_at hx] at hu
      obtain rfl : Value.string (str x) = u := by injection hu
      clear hu
      have HI := Lib.hid (insAll_take hx)
      have hil : (insAll (L.take k)).length = k := by rw [insAll_len, List.length_take, HLL.out]; omega
      have HIL := Lib.hid hil
      clear hx hr2 hil
      generalize insAll (L.take k) = l at *
      obtain ⟨wo, rfl⟩ : ∃ wo : World, wo = wr := ⟨_, rfl⟩
      have hcap := ho.cap
      have hglt : (ad.add k).block < wo.heap.size := by rw [block_of_add]; have h2 := hf.size; omega
      go_wp2_with fail
      go_loopw [5] (fun a wr' => RPlcI l x wo a wr') (fun a _ => k - (intOf a).toNat)
      case atStart => exact ⟨0, 0, Nat.zero_le _, rfl, fun j y _ h => absurd h (Nat.not_lt_zero j), rfl⟩
      case round =>
        obtain ⟨a, m, ha, rfl, hp, rfl⟩ := hrel
        rw [HIL.out] at ha
        have HP := Lib.hid hp
        clear hp
        have hsT := run_slice_to (P := Try.prog) (n := k) (c := c1) (k := a) (A := A1) (size := 1) Try.underlying22 (show (Try.prog.info? 9).map (·.size) = some 1 by kernel_rfl) (by omega) hcap
        have hsF := run_slice_from (P := Try.prog) (n := k) (c := c1) (k := a) (A := A1) (size := 1) Try.underlying22 (show (Try.prog.info? 9).map (·.size) = some 1 by kernel_rfl) (by omega)
        by_cases hal : a < k
        · obtain ⟨y, hy⟩ : ∃ y, l[a]? = some y := ⟨_, List.getElem?_eq_getElem (by rw [HIL.out]; exact hal)⟩
          obtain ⟨ga, rfl, _⟩ := ho.form (by omega)
          have hca := ho.cell a (by omega)
          rw [txt_at hy] at hca
          have hls := less_str y x
          have HY := Lib.hid hy
          clear hy
          by_cases hyx : y < x
          · rw [decide_eq_true hyx] at hls
            have HM := Lib.hid (asc_more HP.out HY.out hyx)
            clear hyx
            go_wp2_with fail
            go_quiet (fail)
            go_wp2_with fail
            go_roundw
            case rel => exact ⟨a + 1, _, by rw [HIL.out]; omega, by go_num, HM.out, rfl⟩
            case measure => (simp [intOf]; try omega)
          · rw [decide_eq_false hyx] at hls
            have HX := Lib.hid (txt_ins HP.out (fun z hz => by rw [HY.out] at hz; cases hz; exact hyx) (by rw [HIL.out]; omega))
            clear hyx
            go_wp2_with fail
            go_quiet (fail)
            have hlit := Own.lit (e := 9) (size := 1) (wo.drewN (m + nq)) #[] 0 (by unfold maxLen; omega) rfl
            have q1 := (((ho.cut (k := a) (by omega)).drewN (m + nq)).alloc (.cells #[] 9)).reads
            rw [txt_take] at q1
            go_wp2_with (
              at_builtin
              first
                | (refine wpList_append _ rfl (.tmp 30) (.tmp 33) 22 rfl 9 (.string ⟨#[]⟩) 1 16 Try.underlying22 infoStr rfl (by decide) (some ⟨wo.heap.size, 0, none⟩) 0 0 [] rfl hlit
                     _ (some ⟨ga, 0, none⟩) a c1 (txt (l.take a)) rfl q1 (txt_one _) (by unfold maxLen; omega) (by omega) ?_
                   rw [List.nil_append, Nat.zero_add]
                   intro A3 c3 w3 hown3 hfr3 hat3
                   obtain ⟨hf3, hA3⟩ := own_grow (w := wo) (at_lit wo) (((Fr.rfl' Nil wo).drewN _).alloc _) hfr3 hat3
                   have q2 := reads_new (w := w3) (.string (str x)) 9
                   have k0' : w3.cell? (ad.add k) = some (.string (str x)) := (hf3.cell (p := ad.add k) hglt fun h => h).trans k0)
                | (refine wpList_append _ rfl (.tmp 35) (.tmp 40) 22 rfl 9 (.string ⟨#[]⟩) 1 16 Try.underlying22 infoStr rfl (by decide) A3 a c3 (txt (l.take a)) rfl (hown3.alloc _)
                     _ _ 1 1 [.string (str x)] rfl q2 (one_one rfl) (by unfold maxLen; omega) (by omega) ?_
                   intro A4 c4 w4 hown4 hfr4 hat4
                   obtain ⟨hf4, hA4⟩ := own_grow hA3 (hf3.alloc _) hfr4 hat4
                   have q3 := (ho.fr hf4 fun _ _ h => h).reads.cutA (c := c1) (k := a) (by omega) hcap
                   rw [txt_drop] at q3)
                | (refine wpList_append _ rfl (.tmp 42) (.tmp 45) 22 rfl 9 (.string ⟨#[]⟩) 1 16 Try.underlying22 infoStr rfl (by decide) A4 (a + 1) c4 (txt (l.take a) ++ [.string (str x)]) rfl hown4
                     _ (CutA (some ⟨ga, 0, none⟩) c1 a 1) (k - a) (c1 - a) (txt (l.drop a)) rfl q3 (txt_one _) (by unfold maxLen; omega) (by omega) ?_
                   rw [show a + 1 + (k - a) = k + 1 by omega, HX.out]
                   intro A5 c5 w5 hown5 hfr5 hat5
                   obtain ⟨hf5, hA5⟩ := own_grow hA4 hf4 hfr5 hat5))
            go_roundw
            case rel => exact ⟨k + 1, A5, c5, by rw [HLL.out]; omega, by go_num, rfl, by rw [HI.out]; exact hown5, hf.trans hf5, fun j hj => Nat.le_trans hf.size (hA5 j hj)⟩
            case measure => (simp [intOf]; try omega)
        · obtain rfl : a = k := by omega
          have HX := Lib.hid (txt_ins HP.out (fun z hz => by have := (List.getElem?_eq_some_iff.1 hz).1; rw [HIL.out] at this; omega) (by rw [HIL.out]; omega))
          go_wp2_with fail
          go_quiet (fail)
          have hlit := Own.lit (e := 9) (size := 1) (wo.drewN (m + nq)) #[] 0 (by unfold maxLen; omega) rfl
          have q1 := (((ho.cut (k := a) (by omega)).drewN (m + nq)).alloc (.cells #[] 9)).reads
          rw [txt_take] at q1
          go_wp2_with (
            at_builtin
            first
              | (refine wpList_append _ rfl (.tmp 30) (.tmp 33) 22 rfl 9 (.string ⟨#[]⟩) 1 16 Try.underlying22 infoStr rfl (by decide) (some ⟨wo.heap.size, 0, none⟩) 0 0 [] rfl hlit
                   _ A1 a c1 (txt (l.take a)) rfl q1 (txt_one _) (by unfold maxLen; omega) (by omega) ?_
                 rw [List.nil_append, Nat.zero_add]
                 intro A3 c3 w3 hown3 hfr3 hat3
                 obtain ⟨hf3, hA3⟩ := own_grow (w := wo) (at_lit wo) (((Fr.rfl' Nil wo).drewN _).alloc _) hfr3 hat3
                 have q2 := reads_new (w := w3) (.string (str x)) 9
                 have k0' : w3.cell? (ad.add a) = some (.string (str x)) := (hf3.cell (p := ad.add a) hglt fun h => h).trans k0)
              | (refine wpList_append _ rfl (.tmp 35) (.tmp 40) 22 rfl 9 (.string ⟨#[]⟩) 1 16 Try.underlying22 infoStr rfl (by decide) A3 a c3 (txt (l.take a)) rfl (hown3.alloc _)
                   _ _ 1 1 [.string (str x)] rfl q2 (one_one rfl) (by unfold maxLen; omega) (by omega) ?_
                 intro A4 c4 w4 hown4 hfr4 hat4
                 obtain ⟨hf4, hA4⟩ := own_grow hA3 (hf3.alloc _) hfr4 hat4
                 have q3 := (ho.fr hf4 fun _ _ h => h).reads.cutA (c := c1) (k := a) (by omega) hcap
                 rw [txt_drop, Nat.sub_self] at q3)
              | (refine wpList_append _ rfl (.tmp 42) (.tmp 45) 22 rfl 9 (.string ⟨#[]⟩) 1 16 Try.underlying22 infoStr rfl (by decide) A4 (a + 1) c4 (txt (l.take a) ++ [.string (str x)]) rfl hown4
                   _ (CutA A1 c1 a 1) 0 (c1 - a) (txt (l.drop a)) rfl q3 (txt_one _) (by unfold maxLen; omega) (by omega) ?_
                 rw [Nat.add_zero, HX.out]
                 intro A5 c5 w5 hown5 hfr5 hat5
                 obtain ⟨hf5, hA5⟩ := own_grow hA4 hf4 hfr5 hat5))
          go_roundw
          case rel => exact ⟨a + 1, A5, c5, by rw [HLL.out]; omega, by go_num, rfl, by rw [HI.out]; exact hown5, hf.trans hf5, fun j hj => Nat.le_trans hf.size (hA5 j hj)⟩
          case measure => (simp [intOf]; try omega)
    · obtain rfl : k = n := by omega
      have hta : L.take k = L := List.take_of_length_le (by rw [HLL.out]; exact Nat.le_refl _)
      rw [hta] at ho
      clear hta
      go_wp2
      go_ret
      exact ⟨A1, c1, rfl, ho, hf, hA⟩
end Go.Proofs.Ythhlpbopbabojaa
