/-
  The law ClassStays, walked.
-/
import Derived.Test.YticofnfjebifgaaLaw
import Derived.Test.YticofnfjebifgaaStayP
namespace Go.Proofs.Yticofnfjebifgaa
open Go.RowKit

theorem strs_at {L : List (List UInt8)} {k : Nat} {x : List UInt8} (h : L[k]? = some x) : (strs L)[k]? = some (.string (str x)) := by
  rw [strs, List.getElem?_map, h]
  rfl
theorem own_str_cell {w : World} {g n c : Nat} {L : List (List UInt8)} (h : Own w 9 1 (some ⟨g, 0, none⟩) n c (strs L)) {k : Nat} {x : List UInt8} (hx : L[k]? = some x) : w.cell? ⟨g, k, none⟩ = some (.string (str x)) := by
  have hl := h.len
  rw [strs_len] at hl
  have hk := (List.getElem?_eq_some_iff.1 hx).1
  rw [h.cell k (by omega), strs_at hx]
/-- the bytes ahead of k that are no spaces -/
def bareTo (l : List UInt8) (k : Nat) : List UInt8 := (l.take k).filter fun c => !spB c
theorem bareTo_len (l : List UInt8) (k : Nat) : (bareTo l k).length ≤ k := by
  unfold bareTo
  have := List.length_filter_le (fun c => !spB c) (l.take k)
  have := List.length_take_le k l
  omega
theorem flat_len (L : List (List UInt8)) (k : Nat) : (L.take k).flatten.length ≤ L.flatten.length := by
  conv => rhs; rw [← List.take_append_drop k L]
  rw [List.flatten_append, List.length_append]
  omega
theorem flat_snoc {L : List (List UInt8)} {k : Nat} {x : List UInt8} (h : L[k]? = some x) : (L.take (k + 1)).flatten = (L.take k).flatten ++ x := by
  obtain ⟨hk, rfl⟩ := List.getElem?_eq_some_iff.1 h
  rw [List.take_succ_eq_append_getElem hk, List.flatten_append]
  simp

set_option maxRecDepth 100000 in
set_option maxHeartbeats 4000000 in
theorem stays_any (w : World) (s : ByteArray) : Calls Try.prog 5 #[.string s] w fun e w' => e = .returned (.bool true) ∧ Fr Nil w w' := by
  by_cases hb : 2000 < s.size
  · have hb' : (2000 : Int) < s.size := by omega
    go_enter Try.func5, Try.ntmps5
    go_wp2_with fail
    refine (awake_any _).mono ?_
    rintro e w1 ⟨rfl, f1⟩
    go_wp2_with fail
    go_ret
    exact ⟨rfl, f1⟩
  · have hb' : ¬ (2000 : Int) < s.size := by omega
    have hs : s.size ≤ 1048576 := by omega
    have hs2 : s.size ≤ 2000 := by omega
    have HS := Lib.hid (size_bs s)
    have hfl : (fields (bs s)).length ≤ 2000 := by have := fields_len (bs s); rw [← size_bs] at this; omega
    have HFL := Lib.hid (show (fields (bs s)).flatten.length ≤ 2000 by
      rw [fields_flat]
      have := List.length_filter_le (fun c => !spB c) (bs s)
      rw [← size_bs] at this
      omega)
    clear hb hb'
    have hb' : ¬ (2000 : Int) < s.size := by omega
    go_enter Try.func5, Try.ntmps5
    go_wp2_with fail
    refine (awake_any _).mono ?_
    rintro e w1 ⟨rfl, f1⟩
    go_wp2_with fail
    refine (lower_any _ s hs).mono ?_
    rintro e w2 ⟨rfl, f2⟩
    go_wp2_with fail
    refine (trim_any _ s hs).mono ?_
    rintro e w4 ⟨rfl, rfl⟩
    go_wp2_with fail
    refine (fieldsw_any _ s hs).mono ?_
    rintro e w6 ⟨v, rfl, A, c, rfl, o6, f6, _⟩
    go_wp2_with fail
    generalize hL : fields (bs s) = L at *
    have HL := Lib.hid hL
    clear hL
    go_loop [7, 9] (fun j i => ∃ k : Nat, k ≤ L.length ∧ i = .int .i64 k ∧ j = .string (str (L.take k).flatten)) (fun _ i => L.length - (intOf i).toNat)
    case atStart => exact ⟨0, Nat.zero_le _, rfl, rfl⟩
    case round =>
      obtain ⟨k, hk, rfl, rfl⟩ := hrel
      by_cases hlt : k < L.length
      · obtain ⟨x, hx⟩ : ∃ x, L[k]? = some x := ⟨_, List.getElem?_eq_getElem hlt⟩
        obtain ⟨g, rfl, hg⟩ := o6.form (by omega)
        have hc := own_str_cell o6 hx
        obtain ⟨e1, e2, e3⟩ := full_of (t := str x) (by rw [size_str]; intro h; exact fields_ne (l := bs s) (x := x) (by rw [HL.out]; exact List.mem_of_getElem? hx) (List.eq_nil_of_length_eq_zero h))
        have HN := Lib.hid (flat_snoc hx)
        have hz1 : (str (L.take k).flatten).size ≤ 2000 := by rw [size_str]; have := flat_len L k; have := HFL.out; omega
        have hz2 : (str x).size ≤ 2000 := by
          have h1 := flat_len L (k + 1)
          rw [flat_snoc hx, List.length_append] at h1
          have := HFL.out
          rw [size_str]
          omega
        clear hx
        go_wp2_with fail
        go_round
        case rel => exact ⟨k + 1, by omega, by go_num, by rw [HN.out, str_append]⟩
        case measure => simp [intOf]; omega
      · obtain rfl : k = L.length := by omega
        go_wp2_with fail
        go_loop [8, 10] (fun j i => ∃ k : Nat, k ≤ s.size ∧ i = .int .i64 k ∧ j = .string (str (bareTo (bs s) k))) (fun _ i => s.size - (intOf i).toNat)
        case atStart => exact ⟨0, Nat.zero_le _, rfl, rfl⟩
        case round =>
          obtain ⟨k, hk2, rfl, rfl⟩ := hrel
          by_cases hlt2 : k < s.size
          · obtain ⟨x, hx⟩ := byte_at s hlt2
            have hix := run_index_at (P := Try.prog) Try.underlying9 hx
            have hk1 : ((k : Int) + 1).toNat = k + 1 := by omega
            have hz1 : (str (bareTo (bs s) k)).size ≤ 2000 := by rw [size_str]; have := bareTo_len (bs s) k; omega
            cases hsp : spB x with
            | true =>
              have HN := Lib.hid (show bareTo (bs s) (k + 1) = bareTo (bs s) k by unfold bareTo; rw [take_at hx, List.filter_append]; simp [hsp])
              clear hx
              go_wp2_with (refine (space_any _ _).mono ?_; rintro e w7 ⟨rfl, rfl⟩; rw [hsp])
              go_round
              case rel => exact ⟨k + 1, by omega, by go_num, by rw [HN.out]⟩
              case measure => simp [intOf]; omega
            | false =>
              have HN := Lib.hid (show bareTo (bs s) (k + 1) = bareTo (bs s) k ++ [x] by unfold bareTo; rw [take_at hx, List.filter_append]; simp [hsp])
              have HX := Lib.hid (show s.extract k (k + 1) = str [x] from bs_inj (by rw [bs_extract, take_at hx, List.drop_append_of_le_length (by have := (List.getElem?_eq_some_iff.1 hx).1; simp; omega), List.drop_eq_nil_of_le (by simp; omega)]; rfl))
              clear hx
              go_wp2_with (refine (space_any _ _).mono ?_; rintro e w7 ⟨rfl, rfl⟩; rw [hsp])
              go_round
              case rel => exact ⟨k + 1, by omega, by go_num, by rw [HN.out, HX.out, str_append]⟩
              case measure => simp [intOf]; omega
          · obtain rfl : k = s.size := by omega
            have HB := Lib.hid (show str (bareTo (bs s) s.size) = str L.flatten by
              unfold bareTo
              rw [List.take_of_length_le (by rw [HS.out]; exact Nat.le_refl _), ← HL.out, fields_flat])
            have hll : lower (bs (str (lower (bs s)))) = lower (bs s) := by rw [bs_str, lower_lower]
            have htt : trim (bs (str (trim (bs s)))) = trim (bs s) := by rw [bs_str, trim_trim]
            have hft : fields (bs (str (trim (bs s)))) = L := by rw [bs_str, fields_trim, HL.out]
            have hzl : (str (lower (bs s))).size = s.size := by rw [size_str, lower_len, HS.out]
            have hzt : (str (trim (bs s))).size ≤ s.size := by rw [size_str]; have := trim_len (bs s); have := HS.out; omega
            have c1 := Lib.hid (fun W => lower_any W (str (lower (bs s))) (by omega))
            have c2 := Lib.hid (fun W => trim_any W (str (trim (bs s))) (by omega))
            have c3 := Lib.hid (fun W => fieldsw_any W (str (trim (bs s))) (by omega))
            rw [hll] at c1
            rw [htt] at c2
            rw [hft] at c3
            rw [HB.out]
            clear hll htt hft
            have q1 := str_beq_self (str (lower (bs s)))
            have q2 := str_beq_self (str (trim (bs s)))
            have q3 := str_beq_self (str L.flatten)
            go_wp2_with fail
            refine (c1.out _).mono ?_
            rintro e w8 ⟨rfl, f8⟩
            go_wp2_with fail
            refine (c2.out _).mono ?_
            rintro e w9 ⟨rfl, rfl⟩
            go_wp2_with fail
            refine (c3.out _).mono ?_
            rintro e w10 ⟨v, rfl, A2, c2, rfl, o10, f10, _⟩
            have o6b := (o6.fr f8 fun _ _ x => x).fr f10 fun _ _ x => x
            go_wp2_with fail
            refine (same_yes _ _ _ _ _ _ _ _ _ (made_reads o10) (made_reads o6b) (by omega)).mono ?_
            rintro e w11 ⟨rfl, m, rfl⟩
            go_wp2_with fail
            go_ret
            exact ⟨rfl, ((((f1.trans f2).trans f6).trans f8).trans f10).drewN m⟩
end Go.Proofs.Yticofnfjebifgaa
