/-
  class.Trim, walked.
-/
import Derived.Test.YticofnfjebifgaaTrimP
namespace Go.Proofs.Yticofnfjebifgaa
open Go.RowKit

set_option maxHeartbeats 1000000 in
theorem trim_any (w : World) (s : ByteArray) (hn : s.size ≤ 1048576) :
    Calls Try.prog 13 #[.string s] w fun e w' => e = .returned (.string (str (trim (bs s)))) ∧ w = w' := by
  have hsz := size_bs s
  have HS := Lib.hid hsz
  clear hsz
  go_enter Try.func13, Try.ntmps13
  go_wp2
  go_loop [3] (fun i => ∃ k : Nat, k ≤ s.size ∧ i = .int .i64 k ∧ trimL (bs s) = trimL ((bs s).drop k)) (fun i => s.size - (intOf i).toNat)
  case atStart => exact ⟨0, Nat.zero_le _, rfl, rfl⟩
  case round =>
    obtain ⟨k, hk, rfl, ht⟩ := hrel
    have HT := Lib.hid ht
    clear ht
    have key : ¬ (∃ c, (bs s)[k]? = some c ∧ spB c = true) → trimL (bs s) = (bs s).drop k := by
      intro hno
      rw [HT.out]
      by_cases hlt : k < s.size
      · obtain ⟨c, hc⟩ := byte_at s hlt
        rw [drop_at hc, trimL_no]
        cases hsp : spB c with
        | false => rfl
        | true => exact (hno ⟨c, hc, hsp⟩).elim
      · have := HS.out
        rw [List.drop_eq_nil_of_le (by omega)]
        rfl
    by_cases hc : ∃ c, (bs s)[k]? = some c ∧ spB c = true
    · clear key
      obtain ⟨c, hc, hsp⟩ := hc
      have hlt : k < s.size := by rw [HS.out]; exact (List.getElem?_eq_some_iff.1 hc).1
      have hx := run_index_at (P := Try.prog) Try.underlying9 hc
      have hnx : trimL (bs s) = trimL ((bs s).drop (k + 1)) := by rw [HT.out, drop_at hc, trimL_sp _ _ hsp]
      have HN := Lib.hid hnx
      clear hnx hc
      go_wp2_with (refine (space_any _ _).mono ?_; rintro e w1 ⟨rfl, rfl⟩; rw [hsp])
      go_round
      case rel => exact ⟨k + 1, by omega, by go_num, HN.out⟩
      case measure => simp [intOf]; omega
    · replace key := key hc
      have KEY := Lib.hid key
      clear key
      have hwalk : (¬ k < s.size) ∨ (k < s.size ∧ ∃ c, (∀ W, (Instr.index 9 (.string s) (.int .i64 (k : Int))).run Try.prog W = .ok (.int .u8 (c.toNat : Int)) W) ∧ spB c = false) := by
        by_cases hlt : k < s.size
        · obtain ⟨c, hc'⟩ := byte_at s hlt
          refine .inr ⟨hlt, c, run_index_at (P := Try.prog) Try.underlying9 hc', ?_⟩
          cases hsp : spB c with
          | false => rfl
          | true => exact (hc ⟨c, hc', hsp⟩).elim
        · exact .inl hlt
      clear hc
      rcases hwalk with hlt | ⟨hlt, c, hx, hsp⟩
      all_goals
        go_wp2_with (refine (space_any _ _).mono ?_; rintro e w1 ⟨rfl, rfl⟩; rw [hsp])
        go_loop [4] (fun j => ∃ h : Nat, k ≤ h ∧ h ≤ s.size ∧ j = .int .i64 h ∧ trim (bs s) = trimR (mid (bs s) k h)) (fun j => (intOf j).toNat)
        case atStart => exact ⟨s.size, hk, Nat.le_refl _, rfl, by rw [trim, KEY.out, HS.out, mid_all]⟩
        case round =>
          obtain ⟨h, hkh, hhn, rfl, ht⟩ := hrel
          have HT2 := Lib.hid ht
          clear ht
          by_cases hlt2 : k < h
          · try (exfalso; omega)
            all_goals
              obtain ⟨m, rfl⟩ : ∃ m, h = m + 1 := ⟨h - 1, by omega⟩
              obtain ⟨d, hd⟩ := byte_at s (show m < s.size by omega)
              have hx2 := run_index_at (P := Try.prog) Try.underlying9 hd
              have hm := mid_snoc hd (show k ≤ m by omega)
              have HM := Lib.hid hm
              clear hm hd
              have hcast : ((m + 1 : Nat) : Int) - 1 = (m : Int) := by omega
              have HC := Lib.hid hcast
              clear hcast
              have hcast2 : ((m : Int) + 1) - 1 = (m : Int) := by omega
              cases hsp2 : spB d with
              | true =>
                have HR := Lib.hid (show trim (bs s) = trimR (mid (bs s) k m) by rw [HT2.out, HM.out, trimR_sp _ _ hsp2])
                go_wp2_with (refine (space_any _ _).mono ?_; rintro e w1 ⟨rfl, rfl⟩; rw [hsp2])
                go_round
                case rel => exact ⟨m, by omega, by omega, by go_num, HR.out⟩
                case measure => simp [intOf]
              | false =>
                have HR := Lib.hid (show trim (bs s) = mid (bs s) k (m + 1) by rw [HT2.out, HM.out, trimR_no _ _ hsp2])
                go_wp2_with (refine (space_any _ _).mono ?_; rintro e w1 ⟨rfl, rfl⟩; rw [hsp2])
                go_ret
                exact ⟨ret_str (by rw [HR.out, str_mid]), rfl⟩
          · obtain rfl : h = k := by omega
            go_wp2
            go_ret
            exact ⟨ret_str (by rw [HT2.out, mid_none]; rfl), rfl⟩
end Go.Proofs.Yticofnfjebifgaa
