/-
  cribbleref05.Known, Called, walked.
-/
import Derived.Test.YtcplmdheoagmcaaDoorRefN
import Derived.Test.YtcplmdheoagmcaaDoorCmpS
import Derived.Test.YtcplmdheoagmcaaDoorCalP
import Derived.Test.YtcplmdheoagmcaaDoorCalled
import Derived.Test.YtcplmdheoagmcaaDoorEnds
namespace Go.Proofs.YtcplmdheoagmcaaDoor
open Go.RowKit

def RKnI (w : World) (l : List RRow) (q : Pth) (i : Value) (wr : World) : Prop := ∃ k : Nat, k ≤ 134 ∧ i = .int .i64 k ∧ (∀ x ∈ l.take k, x.1.1 ≠ q) ∧ Fr Nil w wr
theorem not_snoc {l : List RRow} {q : Pth} {k : Nat} {x : RRow} (hx : l[k]? = some x) (h : ∀ y ∈ l.take k, y.1.1 ≠ q) (hq : x.1.1 ≠ q) : ∀ y ∈ l.take (k + 1), y.1.1 ≠ q := by
  obtain ⟨hk, rfl⟩ := List.getElem?_eq_some_iff.1 hx
  rw [List.take_succ_eq_append_getElem hk]
  intro y hy
  rcases List.mem_append.1 hy with hy | hy
  · exact h y hy
  · rw [List.mem_singleton.1 hy]
    exact hq
theorem ref_mem {x : RRow} (h : x ∈ namesOf rowsR) : x.1 ∈ allU := refE_mem.1 _ (List.mem_map.2 ⟨x, h, rfl⟩)
theorem ref_none {q : Pth} (h : ∀ x ∈ namesOf rowsR, x.1.1 ≠ q) : knownP q = ([], false) := by
  unfold knownP
  rw [ofName_none]
  intro hm
  obtain ⟨x, hx, he⟩ := List.mem_map.1 hm
  obtain ⟨r, hr, hrx⟩ := List.mem_map.1 (refE_mem.2 x (allS_perm.mem_iff.1 hx))
  exact h r hr (by rw [hrx, he])

set_option maxRecDepth 100000 in
set_option maxHeartbeats 4000000 in
theorem rknown_any (w : World) (q : Pth) : Calls Tryd.prog 17 #[.string (str q)] w (RetSB (knownP q) w) := by
  have HN := Lib.hid rnames_any
  have HL := Lib.hid refE_len
  have HY := Lib.hid (fun (x : RRow) (hx : x ∈ namesOf rowsR) (h : x.1.1 = q) => show knownP q = (x.1.2, true) by rw [← h]; exact known_self (ref_mem hx))
  have HO := Lib.hid (@ref_none q)
  generalize knownP q = r at HY HO ⊢
  generalize namesOf rowsR = rs at HN HL HY HO
  go_enter Tryd.func17, Tryd.ntmps17
  go_wp2_with (go_at_call 37; refine (HN.out _).mono ?_; rintro e w1 ⟨A0, c0, rfl, hr0, hf1, _⟩)
  obtain ⟨g, rfl, _⟩ := hr0.form (by decide)
  go_loopw [5] (fun i wr => RKnI w1 rs q i wr) (fun i _ => 134 - (intOf i).toNat)
  case atStart => exact ⟨0, Nat.zero_le _, rfl, fun x hx => by simp at hx, Fr.rfl' _ _⟩
  case round =>
    obtain ⟨k, hk, rfl, hp, hf⟩ := hrel
    have HP := Lib.hid hp
    clear hp
    by_cases hlt : k < 134
    · obtain ⟨x, hx⟩ : ∃ x, rs[k]? = some x := ⟨_, List.getElem?_eq_getElem (by rw [HL.out]; exact hlt)⟩
      have hr2 := hr0.fr hf fun _ _ h => h
      have k0 := hr2.cell (k * 3) (by omega)
      have k1 := hr2.cell (k * 3 + 1) (by omega)
      rw [(row_at hx).1] at k0
      rw [(row_at hx).2.1] at k1
      by_cases he : x.1.1 = q
      · have HR := Lib.hid (HY.out x (List.mem_of_getElem? hx) he)
        have hq : ((str x.1.1).toList == (str q).toList) = true := by rw [he]; exact str_beq_self _
        clear hx he hr2
        obtain ⟨⟨x1, x2⟩, x3⟩ := x
        dsimp only at *
        go_wp2
        go_ret2
        exact ⟨by rw [HR.out]; rfl, hf1.trans hf⟩
      · have HP2 := Lib.hid (not_snoc hx HP.out he)
        have hq : ((str x.1.1).toList == (str q).toList) = false := str_beq_ne fun e => he (str_inj e)
        clear hx he hr2
        go_wp2
        go_roundw
        case rel => exact ⟨k + 1, hlt, by go_num, HP2.out, hf⟩
        case measure => simp [intOf]; omega
    · obtain rfl : k = 134 := by omega
      have HR := Lib.hid (HO.out (by have := HP.out; rwa [List.take_of_length_le (by rw [HL.out]; exact Nat.le_refl _)] at this))
      go_wp2
      go_ret2
      exact ⟨by rw [HR.out]; rfl, hf1.trans hf⟩

/-! ### Called -/
def RcO (w : World) (R0 R1 : Pth) (t p : Value) (wr : World) : Prop :=
  ∃ b : Pth, t = .string (str b) ∧ Fr Nil w wr ∧ ((p = .int .i64 0 ∧ b = []) ∨ (p = .int .i64 1 ∧ b = R0) ∨ (p = .int .i64 2 ∧ b = R1 ∧ R0 = []))
def RcI (w : World) (rs : List RRow) (q : Pth) (d : Bool) (t i : Value) (wr : World) : Prop := ∃ k : Nat, k ≤ 134 ∧ i = .int .i64 k ∧ t = .string (str (rcalled (rs.take k) q d [])) ∧ Fr Nil w wr
theorem empty_nil (b : Pth) : (str b).toList.isEmpty = decide (b = []) := by
  rw [Lib.toList_data]
  cases b with
  | nil => rfl
  | cons x t => rfl

set_option maxRecDepth 100000 in
set_option maxHeartbeats 8000000 in
theorem rcalled_any (w : World) (q : Pth) : Calls Tryd.prog 18 #[.string (str q)] w (RetSB (calledR q) w) := by
  have HN := Lib.hid rnames_any
  have HL := Lib.hid refE_len
  have H1 := Lib.hid (called_first q)
  have H2 := Lib.hid (called_second q)
  have HC := Lib.hid (show calledP q = if shortest (ofText bareL q) = [] then shortest (ofText (withL closedL) q) else shortest (ofText bareL q) from rfl)
  unfold calledR
  generalize shortest (ofText bareL q) = R0 at H1 H2 HC
  generalize shortest (ofText (withL closedL) q) = R1 at H2 HC
  generalize namesOf rowsR = rs at HN HL H1 H2
  go_enter Tryd.func18, Tryd.ntmps18
  go_wp2_with (go_at_call 37; refine (HN.out _).mono ?_; rintro e w1 ⟨A0, c0, rfl, hr0, hf1, _⟩)
  obtain ⟨g, rfl, _⟩ := hr0.form (by decide)
  go_loopw [4, 6, 7, 8] (fun t p _ _ wr => RcO w1 R0 R1 t p wr) (fun _ p _ _ _ => 2 - (intOf p).toNat)
  case atStart => exact ⟨[], rfl, Fr.rfl' _ _, .inl ⟨rfl, rfl⟩⟩
  case round =>
    obtain ⟨b, rfl, hf, hcase⟩ := hrel
    rcases hcase with ⟨rfl, rfl⟩ | ⟨rfl, rfl⟩ | ⟨rfl, rfl, hR0⟩
    · have hem : (str []).toList.isEmpty = true := by rw [empty_nil]; rfl
      obtain ⟨wo, rfl⟩ : ∃ wo : World, wo = wr := ⟨_, rfl⟩
      go_wp2_with fail
      go_loopw [4, 7, 8] (fun t i _ wr => RcI w1 rs q true t i wr) (fun _ i _ _ => 134 - (intOf i).toNat)
      case atStart => exact ⟨0, Nat.zero_le _, rfl, rfl, hf⟩
      case round =>
        obtain ⟨k, hk, rfl, rfl, hf2⟩ := hrel
        by_cases hlt : k < 134
        · obtain ⟨x, hx⟩ : ∃ x, rs[k]? = some x := ⟨_, List.getElem?_eq_getElem (by rw [HL.out]; exact hlt)⟩
          have hr2 := hr0.fr hf2 fun _ _ h => h
          have k0 := hr2.cell (k * 3) (by omega)
          have k1 := hr2.cell (k * 3 + 1) (by omega)
          have k2 := hr2.cell (k * 3 + 2) (by omega)
          rw [(row_at hx).1] at k0
          rw [(row_at hx).2.1] at k1
          rw [(row_at hx).2.2] at k2
          have HT := Lib.hid (rcalled_take hx q true [])
          clear hx hr2
          generalize rcalled (rs.take k) q true [] = b' at *
          obtain ⟨⟨nm, tx⟩, br⟩ := x
          dsimp only at k0 k1 k2
          by_cases ht : tx = q
          · have hq : ((str tx).toList == (str q).toList) = true := by rw [ht]; exact str_beq_self _
            by_cases hd : br = true
            · subst hd
              have HQ := Lib.hid ht
              clear ht
              have hem2 := empty_nil b'
              have z1 : (str nm).size = nm.length := size_str _
              have z2 : (str b').size = b'.length := size_str _
              by_cases hb : b' = []
              · rw [decide_eq_true hb] at hem2
                have HBB := Lib.hid hb
                clear hb
                go_wp2
                go_roundw
                case rel => exact ⟨k + 1, hlt, by go_num, by rw [HT.out, betterC, if_pos ⟨HQ.out, rfl, .inl HBB.out⟩], hf2⟩
                case measure => simp [intOf]; omega
              · rw [decide_eq_false hb] at hem2
                have HBB := Lib.hid hb
                clear hb
                by_cases c1 : nm.length < b'.length
                · go_wp2
                  go_roundw
                  case rel => exact ⟨k + 1, hlt, by go_num, by rw [HT.out, betterC, if_pos ⟨HQ.out, rfl, .inr (.inl c1)⟩], hf2⟩
                  case measure => simp [intOf]; omega
                · have c1' : ¬ (nm.length : Int) < b'.length := by omega
                  by_cases c2 : nm.length = b'.length
                  · have c2' : ((nm.length : Int) == (b'.length : Int)) = true := by simp; omega
                    have c2'' : (nm.length == b'.length) = true := by simp; omega
                    have hls := less_str nm b'
                    have C2 := Lib.hid c2
                    clear c2
                    by_cases c3 : nm < b'
                    · rw [decide_eq_true c3] at hls
                      have C3 := Lib.hid c3
                      clear c3
                      go_wp2
                      go_roundw
                      case rel => exact ⟨k + 1, hlt, by go_num, by rw [HT.out, betterC, if_pos ⟨HQ.out, rfl, .inr (.inr ⟨C2.out, C3.out⟩)⟩], hf2⟩
                      case measure => simp [intOf]; omega
                    · rw [decide_eq_false c3] at hls
                      have C3 := Lib.hid c3
                      clear c3
                      go_wp2
                      go_roundw
                      case rel => exact ⟨k + 1, hlt, by go_num, by rw [HT.out, betterC, if_neg (fun e => e.2.2.elim HBB.out fun h => h.elim (fun h => c1 h) fun h => C3.out h.2)], hf2⟩
                      case measure => simp [intOf]; omega
                  · have c2' : ((nm.length : Int) == (b'.length : Int)) = false := by simp; omega
                    have c2'' : (nm.length == b'.length) = false := by simp; omega
                    go_wp2
                    go_roundw
                    case rel => exact ⟨k + 1, hlt, by go_num, by rw [HT.out, betterC, if_neg (fun e => e.2.2.elim HBB.out fun h => h.elim (fun h => c1 h) fun h => c2 h.1)], hf2⟩
                    case measure => simp [intOf]; omega
            · obtain rfl : br = false := by cases br <;> simp_all
              clear hd ht
              go_wp2
              go_roundw
              case rel => exact ⟨k + 1, hlt, by go_num, by rw [HT.out, betterC, if_neg (fun e => by cases e.2.1)], hf2⟩
              case measure => simp [intOf]; omega
          · have hq : ((str tx).toList == (str q).toList) = false := str_beq_ne fun e => ht (str_inj e)
            have HQ := Lib.hid ht
            clear ht
            go_wp2
            go_roundw
            case rel => exact ⟨k + 1, hlt, by go_num, by rw [HT.out, betterC, if_neg (fun e => HQ.out e.1)], hf2⟩
            case measure => simp [intOf]; omega
        · obtain rfl : k = 134 := by omega
          have hta : rs.take 134 = rs := List.take_of_length_le (by rw [HL.out]; exact Nat.le_refl _)
          rw [hta, H1.out]
          clear hta
          go_wp2
          go_roundw
          case rel => exact ⟨R0, rfl, hf2, .inr (.inl ⟨by go_num, rfl⟩)⟩
          case measure => simp [intOf]
    · have hem := empty_nil b
      by_cases hb : b = []
      · subst hb
        rw [decide_eq_true rfl] at hem
        have H2' := Lib.hid (H2.out rfl)
        obtain ⟨wo, rfl⟩ : ∃ wo : World, wo = wr := ⟨_, rfl⟩
        go_wp2_with fail
        go_loopw [4, 7, 8] (fun t i _ wr => RcI w1 rs q false t i wr) (fun _ i _ _ => 134 - (intOf i).toNat)
        case atStart => exact ⟨0, Nat.zero_le _, rfl, rfl, hf⟩
        case round =>
          obtain ⟨k, hk, rfl, rfl, hf2⟩ := hrel
          by_cases hlt : k < 134
          · obtain ⟨x, hx⟩ : ∃ x, rs[k]? = some x := ⟨_, List.getElem?_eq_getElem (by rw [HL.out]; exact hlt)⟩
            have hr2 := hr0.fr hf2 fun _ _ h => h
            have k0 := hr2.cell (k * 3) (by omega)
            have k1 := hr2.cell (k * 3 + 1) (by omega)
            have k2 := hr2.cell (k * 3 + 2) (by omega)
            rw [(row_at hx).1] at k0
            rw [(row_at hx).2.1] at k1
            rw [(row_at hx).2.2] at k2
            have HT := Lib.hid (rcalled_take hx q false [])
            clear hx hr2
            generalize rcalled (rs.take k) q false [] = b' at *
            obtain ⟨⟨nm, tx⟩, br⟩ := x
            dsimp only at k0 k1 k2
            by_cases ht : tx = q
            · have hq : ((str tx).toList == (str q).toList) = true := by rw [ht]; exact str_beq_self _
              by_cases hd : br = false
              · subst hd
                have HQ := Lib.hid ht
                clear ht
                have hem2 := empty_nil b'
                have z1 : (str nm).size = nm.length := size_str _
                have z2 : (str b').size = b'.length := size_str _
                by_cases hb : b' = []
                · rw [decide_eq_true hb] at hem2
                  have HBB := Lib.hid hb
                  clear hb
                  go_wp2
                  go_roundw
                  case rel => exact ⟨k + 1, hlt, by go_num, by rw [HT.out, betterC, if_pos ⟨HQ.out, rfl, .inl HBB.out⟩], hf2⟩
                  case measure => simp [intOf]; omega
                · rw [decide_eq_false hb] at hem2
                  have HBB := Lib.hid hb
                  clear hb
                  by_cases c1 : nm.length < b'.length
                  · go_wp2
                    go_roundw
                    case rel => exact ⟨k + 1, hlt, by go_num, by rw [HT.out, betterC, if_pos ⟨HQ.out, rfl, .inr (.inl c1)⟩], hf2⟩
                    case measure => simp [intOf]; omega
                  · have c1' : ¬ (nm.length : Int) < b'.length := by omega
                    by_cases c2 : nm.length = b'.length
                    · have c2' : ((nm.length : Int) == (b'.length : Int)) = true := by simp; omega
                      have c2'' : (nm.length == b'.length) = true := by simp; omega
                      have hls := less_str nm b'
                      have C2 := Lib.hid c2
                      clear c2
                      by_cases c3 : nm < b'
                      · rw [decide_eq_true c3] at hls
                        have C3 := Lib.hid c3
                        clear c3
                        go_wp2
                        go_roundw
                        case rel => exact ⟨k + 1, hlt, by go_num, by rw [HT.out, betterC, if_pos ⟨HQ.out, rfl, .inr (.inr ⟨C2.out, C3.out⟩)⟩], hf2⟩
                        case measure => simp [intOf]; omega
                      · rw [decide_eq_false c3] at hls
                        have C3 := Lib.hid c3
                        clear c3
                        go_wp2
                        go_roundw
                        case rel => exact ⟨k + 1, hlt, by go_num, by rw [HT.out, betterC, if_neg (fun e => e.2.2.elim HBB.out fun h => h.elim (fun h => c1 h) fun h => C3.out h.2)], hf2⟩
                        case measure => simp [intOf]; omega
                    · have c2' : ((nm.length : Int) == (b'.length : Int)) = false := by simp; omega
                      have c2'' : (nm.length == b'.length) = false := by simp; omega
                      go_wp2
                      go_roundw
                      case rel => exact ⟨k + 1, hlt, by go_num, by rw [HT.out, betterC, if_neg (fun e => e.2.2.elim HBB.out fun h => h.elim (fun h => c1 h) fun h => c2 h.1)], hf2⟩
                      case measure => simp [intOf]; omega
              · obtain rfl : br = true := by cases br <;> simp_all
                clear hd ht
                go_wp2
                go_roundw
                case rel => exact ⟨k + 1, hlt, by go_num, by rw [HT.out, betterC, if_neg (fun e => by cases e.2.1)], hf2⟩
                case measure => simp [intOf]; omega
            · have hq : ((str tx).toList == (str q).toList) = false := str_beq_ne fun e => ht (str_inj e)
              have HQ := Lib.hid ht
              clear ht
              go_wp2
              go_roundw
              case rel => exact ⟨k + 1, hlt, by go_num, by rw [HT.out, betterC, if_neg (fun e => HQ.out e.1)], hf2⟩
              case measure => simp [intOf]; omega
          · obtain rfl : k = 134 := by omega
            have hta : rs.take 134 = rs := List.take_of_length_le (by rw [HL.out]; exact Nat.le_refl _)
            rw [hta, H2'.out]
            clear hta
            go_wp2
            go_roundw
            case rel => exact ⟨R1, rfl, hf2, .inr (.inr ⟨by go_num, rfl, rfl⟩)⟩
            case measure => simp [intOf]
      · rw [decide_eq_false hb] at hem
        have HR := Lib.hid (show calledP q = b by rw [HC.out, if_neg hb])
        go_wp2
        go_ret2
        exact ⟨by show _ = Ending.returned (.tuple #[.string (str (calledP q)), .bool (!decide (calledP q = []))]); rw [HR.out, decide_eq_false hb]; rfl, hf1.trans hf⟩
    · have hem := empty_nil b
      have HR := Lib.hid (show calledP q = b by rw [HC.out, if_pos hR0])
      cases hd : decide (b = []) with
      | true =>
        rw [hd] at hem
        have HD := Lib.hid hd
        clear hd
        go_wp2
        go_ret2
        exact ⟨by show _ = Ending.returned (.tuple #[.string (str (calledP q)), .bool (!decide (calledP q = []))]); rw [HR.out, HD.out]; rfl, hf1.trans hf⟩
      | false =>
        rw [hd] at hem
        have HD := Lib.hid hd
        clear hd
        go_wp2
        go_ret2
        exact ⟨by show _ = Ending.returned (.tuple #[.string (str (calledP q)), .bool (!decide (calledP q = []))]); rw [HR.out, HD.out]; rfl, hf1.trans hf⟩
end Go.Proofs.YtcplmdheoagmcaaDoor
