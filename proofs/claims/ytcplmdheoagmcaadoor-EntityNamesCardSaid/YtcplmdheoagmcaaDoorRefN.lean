/-
  cribbleref05: Rows, names, walked.
-/
import Derived.Test.YtcplmdheoagmcaaDoorRefE
import Derived.Test.YtcplmdheoagmcaaDoorRefC
import Derived.Test.YtcplmdheoagmcaaDoorCat
import Derived.Deep.RegionLaw
namespace Go.Proofs.YtcplmdheoagmcaaDoor
open Go.RowKit

set_option maxRecDepth 100000 in
set_option maxHeartbeats 2000000 in
theorem rrows_any (w : World) : Calls Tryd.prog 49 #[] w (MadeR w 84 rowsR) := by
  have HB := Lib.hid rbare_any
  have HC := Lib.hid rclosed_any
  have HA := Lib.hid (rowCells_append bareRR closedRR)
  show Calls Tryd.prog 49 #[] w (MadeR w 84 (bareRR ++ closedRR))
  generalize bareRR = l1 at HB HA ⊢
  generalize closedRR = l2 at HC HA ⊢
  go_enter Tryd.func49, Tryd.ntmps49
  go_wp2_with (first
    | (go_at_call 57; refine (HB.out _).mono ?_; rintro e w1 ⟨g1, c1, rfl, ho1, hf1, hg1⟩)
    | (go_at_call 58; refine (HC.out _).mono ?_; rintro e w2 ⟨g2, c2, rfl, ho2, hf2, hg2⟩)
    | (at_builtin
       refine wpList_append _ rfl (.tmp 1) (.tmp 2) 56 rfl 59 (.agg #[.string ⟨#[]⟩, .string ⟨#[]⟩, .bool false]) 3 40 Tryd.underlying56 infoRow rfl (by decide) (some ⟨g1, 0, none⟩) 50 c1 (rowCells l1) rfl (ho1.fr hf2 fun _ _ h => h)
         _ _ 34 c2 (rowCells l2) rfl ho2.reads (row_one _) (by unfold maxLen; omega) (by omega) ?_
       intro A' c' w3 hown3 hfr3 hat))
  go_ret
  obtain ⟨g, rfl, hg'⟩ := hown3.form (by decide)
  have hz := (hf1.trans hf2).size
  have hf12 := hf1.trans hf2
  refine ⟨g, c', rfl, by rw [HA.out]; exact hown3, hf12.trans' hfr3 fun k hk ⟨a, ha, hb⟩ => ?_, ?_⟩
  · injection ha with ha
    subst ha
    change g1 = k at hb
    omega
  · rcases hat with h | ⟨h, _⟩
    · injection h with h
      injection h with h
      omega
    · injection h with h
      injection h with h
      omega

theorem row_reads1 (w : World) (a b : ByteArray) (c : Bool) : Reads ((w.alloc (.cells #[.string a, .string b, .bool c] 59)).drew) (w.heap.size + 1) 3 (some ⟨w.heap.size, 0, none⟩) 1 [.string a, .string b, .bool c] := by
  have h := ((Own.lit (size := 3) (e := 59) w #[.string a, .string b, .bool c] 1 (by unfold maxLen; omega) rfl).drew).reads
  rw [show (w.alloc (.cells #[.string a, .string b, .bool c] 59)).drew.heap.size = w.heap.size + 1 from World.size_alloc _ _] at h
  exact h
theorem row_one1 (a b : ByteArray) (c : Bool) : ∀ u ∈ [Value.string a, .string b, .bool c], u.oneCell' = true := by
  intro u hu
  simp at hu
  rcases hu with rfl | rfl | rfl <;> rfl
theorem names_false {l : List RRow} {k : Nat} {x : RRow} (h : l[k]? = some x) (hb : x.2 = false) : namesOf (l.take (k + 1)) = namesOf (l.take k) ++ [((x.1.1 ++ [59], x.1.2), false)] := by
  rw [namesOf_take h, hb]
  rfl
theorem names_true {l : List RRow} {k : Nat} {x : RRow} (h : l[k]? = some x) (hb : x.2 = true) : namesOf (l.take (k + 1)) = namesOf (l.take k) ++ [((x.1.1 ++ [59], x.1.2), false)] ++ [(x.1, true)] := by
  rw [namesOf_take h, hb, List.append_assoc]
  rfl
theorem rowCells_snoc (l : List RRow) (x : RRow) : rowCells (l ++ [x]) = rowCells l ++ encR x := by simp [rowCells]
theorem own_step1 {w wr w2 : World} {A A' : Option Addr} {o : Obj} (hA : ∀ j, At A j → w.heap.size ≤ j) (hf : Fr Nil w wr) (hfr2 : Fr (At A) (wr.alloc o).drew w2)
    (hat : A' = A ∨ A' = some ⟨(wr.alloc o).drew.heap.size, 0, none⟩ ∧ (wr.alloc o).drew.heap.size < w2.heap.size) : Fr Nil w w2 ∧ ∀ j, At A' j → w.heap.size ≤ j :=
  own_step0 hA ((hf.alloc o).drew) hfr2 hat
def RNamI (w : World) (l : List RRow) (o i : Value) (wr : World) : Prop :=
  ∃ (k : Nat) (A : Option Addr) (c : Nat), k ≤ l.length ∧ i = .int .i64 k ∧ o = .slice A (namesOf (l.take k)).length c ∧ Own wr 59 3 A (namesOf (l.take k)).length c (rowCells (namesOf (l.take k))) ∧ Fr Nil w wr ∧ ∀ j, At A j → w.heap.size ≤ j

set_option maxRecDepth 100000 in
set_option maxHeartbeats 4000000 in
theorem rnames_any (w : World) : Calls Tryd.prog 37 #[] w fun e w' => ∃ A c, e = .returned (.slice A 134 c) ∧ Own w' 59 3 A 134 c (rowCells (namesOf rowsR)) ∧ Fr Nil w w' ∧ ∀ j, At A j → w.heap.size ≤ j := by
  have HL := Lib.hid (show rowsR.length = 84 from rfl)
  have HE := Lib.hid refE_len
  have HZ := Lib.hid (show ∀ x ∈ rowsR, x.1.1.length ≤ 1000 from of_decide_eq_true (by kernel_rfl))
  have HR := Lib.hid rrows_any
  generalize rowsR = l at HL HE HZ HR ⊢
  go_enter Tryd.func37, Tryd.ntmps37
  go_wp2_with (go_at_call 49; refine (HR.out _).mono ?_; rintro e w1 ⟨g, c0, rfl, hr, hf1, hg⟩)
  go_loopw [1, 3] (fun o i wr => RNamI w1 l o i wr) (fun _ i _ => 84 - (intOf i).toNat)
  case atStart => exact ⟨0, none, 0, Nat.zero_le _, rfl, rfl, Own.nil _ _ _, Fr.rfl' _ _, fun k hk => (not_at_none k hk).elim⟩
  case round =>
    obtain ⟨k, A1, c1, hk, rfl, rfl, ho, hf, hA⟩ := hrel
    rw [HL.out] at hk
    by_cases hlt : k < 84
    · obtain ⟨x, hx⟩ : ∃ x, l[k]? = some x := ⟨_, List.getElem?_eq_getElem (by rw [HL.out]; exact hlt)⟩
      have hr2 := hr.fr hf fun _ _ h => h
      have k0 := hr2.cell (k * 3) (by omega)
      have k1 := hr2.cell (k * 3 + 1) (by omega)
      have k2 := hr2.cell (k * 3 + 2) (by omega)
      rw [(row_at hx).1] at k0
      rw [(row_at hx).2.1] at k1
      rw [(row_at hx).2.2] at k2
      have z1 : (str x.1.1).size ≤ 1000 := by rw [size_str]; exact HZ.out x (List.mem_of_getElem? hx)
      have hsa : str x.1.1 ++ ({ data := #[59] } : ByteArray) = str (x.1.1 ++ [59]) := by rw [str_append]; rfl
      have HSA := Lib.hid hsa
      have hnl := (namesOf_len l k (by rw [HL.out]; omega)).2
      have HX := Lib.hid hx
      clear hx hr2 hsa
      have hsl : (str x.1.1 ++ ({ data := #[59] } : ByteArray)).size ≤ 1001 := by rw [HSA.out, size_str, List.length_append]; rw [size_str] at z1; simp; omega
      have hbig : ¬ 9223372036854775807 < (str x.1.1).size + 1 := by omega
      generalize hN : (namesOf (l.take k)).length = N at ho hnl ⊢
      have HN := Lib.hid hN
      clear hN
      go_wp2
      go_region_law (
        refine step_append _ rfl (.tmp 11) (.tmp 24) 56 rfl 59 (.agg #[.string ⟨#[]⟩, .string ⟨#[]⟩, .bool false]) 3 40 Tryd.underlying56 infoRow rfl (by decide) A1 N c1 (rowCells (namesOf (l.take k))) rfl ((ho.alloc _).drew)
          _ _ 1 1 [.string (str x.1.1 ++ { data := #[59] }), .string (str x.1.2), .bool false] rfl (row_reads1 wr (str x.1.1 ++ { data := #[59] }) (str x.1.2) false) (row_one1 _ _ _) (by unfold maxLen; omega) (by omega) ?_
        intro A' c' w2 hown2 hfr2 hat)
      all_goals
        obtain ⟨hf2, hA2⟩ := own_step1 hA hf hfr2 hat
        have hr3 := hr.fr hf2 fun _ _ h => h
        have j0 := hr3.cell (k * 3) (by omega)
        have j1 := hr3.cell (k * 3 + 1) (by omega)
        have j2 := hr3.cell (k * 3 + 2) (by omega)
        rw [(row_at HX.out).1] at j0
        rw [(row_at HX.out).2.1] at j1
        rw [(row_at HX.out).2.2] at j2
        rw [HSA.out] at hown2
        clear hr3 hfr2 hat k0 k1 k2
        cases hb : x.2 with
        | false =>
          rw [hb] at j2
          have HF := Lib.hid (names_false HX.out hb)
          clear hb
          go_wp2
          go_roundw
          case rel => exact ⟨k + 1, A', c', by rw [HL.out]; omega, by go_num, by rw [HF.out, List.length_append, HN.out]; rfl, by rw [HF.out, List.length_append, HN.out, rowCells_snoc]; exact hown2, hf2, hA2⟩
          case measure => simp [intOf]; omega
        | true =>
          rw [hb] at j2
          have HF := Lib.hid (names_true HX.out hb)
          clear hb
          go_wp2
          go_region_law (
            refine step_append _ rfl (.tmp 31) (.tmp 43) 56 rfl 59 (.agg #[.string ⟨#[]⟩, .string ⟨#[]⟩, .bool false]) 3 40 Tryd.underlying56 infoRow rfl (by decide) A' (N + 1) c' _ rfl ((hown2.alloc _).drew)
              _ _ 1 1 [.string (str x.1.1), .string (str x.1.2), .bool true] rfl (row_reads1 w2 (str x.1.1) (str x.1.2) true) (row_one1 _ _ _) (by unfold maxLen; omega) (by omega) ?_
            intro A3 c3 w3 hown3 hfr3 hat3)
          all_goals
            obtain ⟨hf3, hA3⟩ := own_step1 hA2 hf2 hfr3 hat3
            go_wp2
            go_roundw
            case rel => exact ⟨k + 1, A3, c3, by rw [HL.out]; omega, by go_num, by rw [HF.out, List.length_append, List.length_append, HN.out]; rfl, by rw [HF.out, List.length_append, List.length_append, HN.out, rowCells_snoc, rowCells_snoc]; exact hown3, hf3, hA3⟩
            case measure => simp [intOf]; omega
    · obtain rfl : 84 = k := by omega
      have hta : l.take 84 = l := List.take_of_length_le (by rw [HL.out]; exact Nat.le_refl _)
      rw [hta, HE.out] at ho ⊢
      clear hta
      go_wp2
      go_ret
      exact ⟨_, _, rfl, ho, hf1.trans hf, fun j hj => Nat.le_trans hf1.size (hA j hj)⟩
end Go.Proofs.YtcplmdheoagmcaaDoor
