/-
  cribbleref05.Names, walked.
-/
import Derived.Test.YtcplmdheoagmcaaDoorRefN
import Derived.Test.YtcplmdheoagmcaaDoorCmpS
import Derived.Test.YtcplmdheoagmcaaDoorInsK
namespace Go.Proofs.YtcplmdheoagmcaaDoor
open Go.RowKit

/-- at the head of a round: the first k names are in their places -/
def RInsI (w : World) (L : List Pth) (o i : Value) (wr : World) : Prop :=
  ∃ (k : Nat) (A : Option Addr) (c : Nat), k ≤ L.length ∧ i = .int .i64 k ∧ o = .slice A k c ∧ Own wr 9 1 A k c (txt (insAll (L.take k))) ∧ Fr Nil w wr ∧ ∀ j, At A j → w.heap.size ≤ j
/-- where the next one goes -/
def RPlcI (l : List Pth) (x : Pth) (w : World) (a : Value) (wr : World) : Prop :=
  ∃ k m : Nat, k ≤ l.length ∧ a = .int .i64 k ∧ (∀ j y, l[j]? = some y → j < k → y < x) ∧ wr = w.drewN m

set_option maxRecDepth 100000 in
set_option maxHeartbeats 8000000 in
theorem rnm_any (w : World) (rs : List RRow) (L : List Pth) (hL : L = rs.map fun x => x.1.1) (hn : rs.length = 134)
    (hnames : ∀ w, Calls Tryd.prog 37 #[] w fun e w' => ∃ A c, e = .returned (.slice A 134 c) ∧ Own w' 59 3 A 134 c (rowCells rs) ∧ Fr Nil w w' ∧ ∀ j, At A j → w.heap.size ≤ j) :
    Calls Tryd.prog 20 #[] w fun e w' => ∃ A c, e = .returned (.slice A 134 c) ∧ Own w' 9 1 A 134 c (txt (insAll L)) ∧ Fr Nil w w' := by
  have hLl : L.length = 134 := by rw [hL, List.length_map, hn]
  have HN := Lib.hid hnames
  have HLL := Lib.hid hLl
  have HRow : ∀ i x, L[i]? = some x → ∃ r : RRow, rs[i]? = some r ∧ r.1.1 = x := fun i x h => by
    rw [hL, List.getElem?_map, Option.map_eq_some_iff] at h
    exact h
  have HR := Lib.hid HRow
  clear hnames hLl HRow hL hn
  go_enter Tryd.func20, Tryd.ntmps20
  go_wp2_with (go_at_call 37; refine (HN.out _).mono ?_; rintro e w1 ⟨A0, c0, rfl, hr0, hf1, hA0⟩)
  obtain ⟨g, rfl, _⟩ := hr0.form (by decide)
  go_loopw [1, 3, 4, 5] (fun o i _ _ wr => RInsI w1 L o i wr) (fun _ i _ _ _ => 134 - (intOf i).toNat)
  case atStart => exact ⟨0, none, 0, Nat.zero_le _, rfl, rfl, Own.nil _ _ _, Fr.rfl' _ _, fun k hk => (not_at_none k hk).elim⟩
  case round =>
    obtain ⟨k, A1, c1, hk, rfl, rfl, ho, hf, hA⟩ := hrel
    rw [HLL.out] at hk
    by_cases hlt : k < 134
    · obtain ⟨x, hx⟩ : ∃ x, L[k]? = some x := ⟨_, List.getElem?_eq_getElem (by rw [HLL.out]; exact hlt)⟩
      obtain ⟨r, hrx, rfl⟩ := HR.out k x hx
      have hr2 := hr0.fr hf fun _ _ h => h
      have k0 := hr2.cell (k * 3) (by omega)
      rw [(row_at hrx).1] at k0
      have HI := Lib.hid (insAll_take hx)
      have hil : (insAll (L.take k)).length = k := by rw [insAll_len, List.length_take, HLL.out]; omega
      have HIL := Lib.hid hil
      clear hx hrx hr2 hil
      generalize r.1.1 = x at *
      generalize insAll (L.take k) = l at *
      obtain ⟨wo, rfl⟩ : ∃ wo : World, wo = wr := ⟨_, rfl⟩
      have hcap := ho.cap
      have hglt : g < wo.heap.size := by have h1 := hr0.lt (k := g) ⟨_, rfl, rfl⟩; have h2 := hf.size; omega
      go_wp2_with fail
      go_loopw [4] (fun a wr' => RPlcI l x wo a wr') (fun a _ => k - (intOf a).toNat)
      case atStart => exact ⟨0, 0, Nat.zero_le _, rfl, fun j y _ h => absurd h (Nat.not_lt_zero j), rfl⟩
      case round =>
        obtain ⟨a, m, ha, rfl, hp, rfl⟩ := hrel
        rw [HIL.out] at ha
        have HP := Lib.hid hp
        clear hp
        have hsT := run_slice_to (P := Tryd.prog) (n := k) (c := c1) (k := a) (A := A1) (size := 1) Tryd.underlying23 (show (Tryd.prog.info? 9).map (·.size) = some 1 by kernel_rfl) (by omega) hcap
        have hsF := run_slice_from (P := Tryd.prog) (n := k) (c := c1) (k := a) (A := A1) (size := 1) Tryd.underlying23 (show (Tryd.prog.info? 9).map (·.size) = some 1 by kernel_rfl) (by omega)
        by_cases hal : a < k
        · obtain ⟨y, hy⟩ : ∃ y, l[a]? = some y := ⟨_, List.getElem?_eq_getElem (by rw [HIL.out]; exact hal)⟩
          obtain ⟨ga, rfl, _⟩ := ho.form (by omega)
          have hca := ho.cell a (by omega)
          rw [txt_at hy] at hca
          have hls := less_str y x
          have HY := Lib.hid hy
          clear hy
          by_cases hyx : y < x
          · rw [decide_eq_true hyx] at hls
            have HM := Lib.hid (asc_more HP.out HY.out hyx)
            clear hyx
            go_wp2_with fail
            go_quiet (fail)
            go_wp2_with fail
            go_roundw
            case rel => exact ⟨a + 1, _, by rw [HIL.out]; omega, by go_num, HM.out, rfl⟩
            case measure => simp [intOf]; omega
          · rw [decide_eq_false hyx] at hls
            have HX := Lib.hid (txt_ins HP.out (fun z hz => by rw [HY.out] at hz; cases hz; exact hyx) (by rw [HIL.out]; omega))
            clear hyx
            go_wp2_with fail
            go_quiet (fail)
            have hlit := Own.lit (e := 9) (size := 1) (wo.drewN (m + nq)) #[] 0 (by unfold maxLen; omega) rfl
            have q1 := (((ho.cut (k := a) (by omega)).drewN (m + nq)).alloc (.cells #[] 9)).reads
            rw [txt_take] at q1
            go_wp2_with (
              at_builtin
              first
                | (refine wpList_append _ rfl (.tmp 31) (.tmp 34) 23 rfl 9 (.string ⟨#[]⟩) 1 16 Tryd.underlying23 infoStr rfl (by decide) (some ⟨wo.heap.size, 0, none⟩) 0 0 [] rfl hlit
                     _ (some ⟨ga, 0, none⟩) a c1 (txt (l.take a)) rfl q1 (txt_one _) (by unfold maxLen; omega) (by omega) ?_
                   rw [List.nil_append, Nat.zero_add]
                   intro A3 c3 w3 hown3 hfr3 hat3
                   obtain ⟨hf3, hA3⟩ := own_grow (w := wo) (at_lit wo) (((Fr.rfl' Nil wo).drewN _).alloc _) hfr3 hat3
                   have q2 := reads_new (w := w3) (.string (str x)) 9
                   have k0' : w3.cell? ⟨g, k * 3, none⟩ = some (.string (str x)) := (hf3.cell (p := ⟨g, k * 3, none⟩) hglt fun h => h).trans k0)
                | (refine wpList_append _ rfl (.tmp 36) (.tmp 42) 23 rfl 9 (.string ⟨#[]⟩) 1 16 Tryd.underlying23 infoStr rfl (by decide) A3 a c3 (txt (l.take a)) rfl (hown3.alloc _)
                     _ _ 1 1 [.string (str x)] rfl q2 (one_one rfl) (by unfold maxLen; omega) (by omega) ?_
                   intro A4 c4 w4 hown4 hfr4 hat4
                   obtain ⟨hf4, hA4⟩ := own_grow hA3 (hf3.alloc _) hfr4 hat4
                   have q3 := (ho.fr hf4 fun _ _ h => h).reads.cutA (c := c1) (k := a) (by omega) hcap
                   rw [txt_drop] at q3)
                | (refine wpList_append _ rfl (.tmp 44) (.tmp 47) 23 rfl 9 (.string ⟨#[]⟩) 1 16 Tryd.underlying23 infoStr rfl (by decide) A4 (a + 1) c4 (txt (l.take a) ++ [.string (str x)]) rfl hown4
                     _ (CutA (some ⟨ga, 0, none⟩) c1 a 1) (k - a) (c1 - a) (txt (l.drop a)) rfl q3 (txt_one _) (by unfold maxLen; omega) (by omega) ?_
                   rw [show a + 1 + (k - a) = k + 1 by omega, HX.out]
                   intro A5 c5 w5 hown5 hfr5 hat5
                   obtain ⟨hf5, hA5⟩ := own_grow hA4 hf4 hfr5 hat5))
            go_roundw
            case rel => exact ⟨k + 1, A5, c5, by rw [HLL.out]; omega, by go_num, rfl, by rw [HI.out]; exact hown5, hf.trans hf5, fun j hj => Nat.le_trans hf.size (hA5 j hj)⟩
            case measure => simp [intOf]; omega
        · obtain rfl : a = k := by omega
          have HX := Lib.hid (txt_ins HP.out (fun z hz => by have := (List.getElem?_eq_some_iff.1 hz).1; rw [HIL.out] at this; omega) (by rw [HIL.out]; omega))
          go_wp2_with fail
          go_quiet (fail)
          have hlit := Own.lit (e := 9) (size := 1) (wo.drewN (m + nq)) #[] 0 (by unfold maxLen; omega) rfl
          have q1 := (((ho.cut (k := a) (by omega)).drewN (m + nq)).alloc (.cells #[] 9)).reads
          rw [txt_take] at q1
          go_wp2_with (
            at_builtin
            first
              | (refine wpList_append _ rfl (.tmp 31) (.tmp 34) 23 rfl 9 (.string ⟨#[]⟩) 1 16 Tryd.underlying23 infoStr rfl (by decide) (some ⟨wo.heap.size, 0, none⟩) 0 0 [] rfl hlit
                   _ A1 a c1 (txt (l.take a)) rfl q1 (txt_one _) (by unfold maxLen; omega) (by omega) ?_
                 rw [List.nil_append, Nat.zero_add]
                 intro A3 c3 w3 hown3 hfr3 hat3
                 obtain ⟨hf3, hA3⟩ := own_grow (w := wo) (at_lit wo) (((Fr.rfl' Nil wo).drewN _).alloc _) hfr3 hat3
                 have q2 := reads_new (w := w3) (.string (str x)) 9
                 have k0' : w3.cell? ⟨g, a * 3, none⟩ = some (.string (str x)) := (hf3.cell (p := ⟨g, a * 3, none⟩) hglt fun h => h).trans k0)
              | (refine wpList_append _ rfl (.tmp 36) (.tmp 42) 23 rfl 9 (.string ⟨#[]⟩) 1 16 Tryd.underlying23 infoStr rfl (by decide) A3 a c3 (txt (l.take a)) rfl (hown3.alloc _)
                   _ _ 1 1 [.string (str x)] rfl q2 (one_one rfl) (by unfold maxLen; omega) (by omega) ?_
                 intro A4 c4 w4 hown4 hfr4 hat4
                 obtain ⟨hf4, hA4⟩ := own_grow hA3 (hf3.alloc _) hfr4 hat4
                 have q3 := (ho.fr hf4 fun _ _ h => h).reads.cutA (c := c1) (k := a) (by omega) hcap
                 rw [txt_drop, Nat.sub_self] at q3)
              | (refine wpList_append _ rfl (.tmp 44) (.tmp 47) 23 rfl 9 (.string ⟨#[]⟩) 1 16 Tryd.underlying23 infoStr rfl (by decide) A4 (a + 1) c4 (txt (l.take a) ++ [.string (str x)]) rfl hown4
                   _ (CutA A1 c1 a 1) 0 (c1 - a) (txt (l.drop a)) rfl q3 (txt_one _) (by unfold maxLen; omega) (by omega) ?_
                 rw [Nat.add_zero, HX.out]
                 intro A5 c5 w5 hown5 hfr5 hat5
                 obtain ⟨hf5, hA5⟩ := own_grow hA4 hf4 hfr5 hat5))
          go_roundw
          case rel => exact ⟨a + 1, A5, c5, by rw [HLL.out]; omega, by go_num, rfl, by rw [HI.out]; exact hown5, hf.trans hf5, fun j hj => Nat.le_trans hf.size (hA5 j hj)⟩
          case measure => simp [intOf]; omega
    · obtain rfl : k = 134 := by omega
      have hta : L.take 134 = L := List.take_of_length_le (by rw [HLL.out]; exact Nat.le_refl _)
      rw [hta] at ho
      clear hta
      go_wp2
      go_ret
      exact ⟨A1, c1, rfl, ho, hf1.trans hf⟩
end Go.Proofs.YtcplmdheoagmcaaDoor
