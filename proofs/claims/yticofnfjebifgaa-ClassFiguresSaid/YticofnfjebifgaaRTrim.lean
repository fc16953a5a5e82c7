/-
  cribbleref03.Trim, walked.
-/
import Derived.Test.YticofnfjebifgaaTrimP
namespace Go.Proofs.Yticofnfjebifgaa
open Go.RowKit

def strLen : Value → Nat
  | .string s => s.size
  | _ => 0
theorem bs_cons {s : ByteArray} {c : UInt8} (h : (bs s)[0]? = some c) : bs s = c :: bs (s.extract 1 s.size) := by
  rw [bs_extract, List.take_of_length_le (by rw [size_bs]; exact Nat.le_refl _)]
  have := drop_at h
  simpa using this
theorem bs_snoc {s : ByteArray} {c : UInt8} (h : (bs s)[s.size - 1]? = some c) : bs s = bs (s.extract 0 (s.size - 1)) ++ [c] := by
  have hk := (List.getElem?_eq_some_iff.1 h).1
  have hs := size_bs s
  have := take_at h
  rw [show s.size - 1 + 1 = s.size by omega, List.take_of_length_le (by omega)] at this
  rw [bs_extract]
  simpa using this

set_option maxHeartbeats 1000000 in
theorem rtrim_any (w : World) (s : ByteArray) (hn : s.size ≤ 1048576) :
    Calls Try.prog 14 #[.string s] w fun e w' => e = .returned (.string (str (trim (bs s)))) ∧ w = w' := by
  go_enter Try.func14, Try.ntmps14
  go_wp2
  go_loop [0] (fun v => ∃ t : ByteArray, v = .string t ∧ t.size ≤ s.size ∧ trimL (bs s) = trimL (bs t)) (fun v => strLen v)
  case atStart => exact ⟨s, rfl, Nat.le_refl _, rfl⟩
  case round =>
    obtain ⟨t, rfl, hts, ht⟩ := hrel
    have HT := Lib.hid ht
    clear ht
    by_cases hc : ∃ c, (bs t)[0]? = some c ∧ spB c = true
    · obtain ⟨c, hc, hsp⟩ := hc
      have hlt : 0 < t.size := by rw [size_bs]; exact (List.getElem?_eq_some_iff.1 hc).1
      have hx : ∀ W, (Instr.index 9 (.string t) (.int .i64 0)).run Try.prog W = .ok (.int .u8 (c.toNat : Int)) W := run_index_at (P := Try.prog) (k := 0) Try.underlying9 hc
      have HN := Lib.hid (show trimL (bs s) = trimL (bs (t.extract 1 t.size)) by rw [HT.out, bs_cons hc, trimL_sp _ _ hsp])
      have hes : (t.extract 1 t.size).size = t.size - 1 := by simp [ByteArray.size_extract]
      have HE := Lib.hid hes
      clear hc hes
      go_wp2_with (refine (rspace_any _ _).mono ?_; rintro e w1 ⟨rfl, rfl⟩; rw [hsp])
      go_round
      case rel => exact ⟨_, rfl, by rw [HE.out]; omega, HN.out⟩
      case measure => simp only [strLen]; rw [HE.out]; omega
    · have hwalk : (¬ 0 < t.size) ∨ (0 < t.size ∧ ∃ c, (∀ W, (Instr.index 9 (.string t) (.int .i64 0)).run Try.prog W = .ok (.int .u8 (c.toNat : Int)) W) ∧ spB c = false) := by
        by_cases hlt : 0 < t.size
        · obtain ⟨c, hc'⟩ := byte_at t hlt
          refine .inr ⟨hlt, c, run_index_at (P := Try.prog) (k := 0) Try.underlying9 hc', ?_⟩
          cases hsp : spB c with
          | false => rfl
          | true => exact (hc ⟨c, hc', hsp⟩).elim
        · exact .inl hlt
      have hk : trimL (bs s) = bs t := by
        rw [HT.out]
        by_cases hlt : 0 < t.size
        · obtain ⟨c, hc'⟩ := byte_at t hlt
          rw [bs_cons hc', trimL_no]
          cases hsp : spB c with
          | false => rfl
          | true => exact (hc ⟨c, hc', hsp⟩).elim
        · have h0 : bs t = [] := List.eq_nil_of_length_eq_zero (by rw [← size_bs]; omega)
          rw [h0]
          rfl
      have KEY := Lib.hid hk
      clear hk hc
      rcases hwalk with hlt | ⟨hlt, c, hx, hsp⟩
      all_goals
        go_wp2_with (refine (rspace_any _ _).mono ?_; rintro e w1 ⟨rfl, rfl⟩; rw [hsp])
        go_loop [0] (fun v => ∃ u : ByteArray, v = .string u ∧ u.size ≤ s.size ∧ trim (bs s) = trimR (bs u)) (fun v => strLen v)
        case atStart => exact ⟨t, rfl, hts, by rw [trim, KEY.out]⟩
        case round =>
          obtain ⟨u, rfl, hus, ht⟩ := hrel
          have HT2 := Lib.hid ht
          clear ht
          by_cases hlt2 : 0 < u.size
          · obtain ⟨d, hd⟩ := byte_at u (show u.size - 1 < u.size by omega)
            have hx2 : ∀ W, (Instr.index 9 (.string u) (.int .i64 ((u.size : Int) - 1))).run Try.prog W = .ok (.int .u8 (d.toNat : Int)) W := fun W => by
              have := run_index_at (P := Try.prog) Try.underlying9 hd W
              rwa [show ((u.size - 1 : Nat) : Int) = (u.size : Int) - 1 by omega] at this
            have hm := bs_snoc hd
            have HM := Lib.hid hm
            clear hm hd
            have hes : (u.extract 0 (u.size - 1)).size = u.size - 1 := by simp [ByteArray.size_extract]
            have HE := Lib.hid hes
            clear hes
            cases hsp2 : spB d with
            | true =>
              have HR := Lib.hid (show trim (bs s) = trimR (bs (u.extract 0 (u.size - 1))) by rw [HT2.out, HM.out, trimR_sp _ _ hsp2])
              go_wp2_with (refine (rspace_any _ _).mono ?_; rintro e w1 ⟨rfl, rfl⟩; rw [hsp2])
              go_round
              case rel => exact ⟨u.extract 0 (u.size - 1), rfl, by rw [HE.out]; omega, HR.out⟩
              case measure => simp only [strLen]; rw [HE.out]; omega
            | false =>
              have HR := Lib.hid (show trim (bs s) = bs u by rw [HT2.out, HM.out, trimR_no _ _ hsp2])
              go_wp2_with (refine (rspace_any _ _).mono ?_; rintro e w1 ⟨rfl, rfl⟩; rw [hsp2])
              go_ret
              exact ⟨ret_str (by rw [HR.out, str_bs]), rfl⟩
          · have h0 : bs u = [] := List.eq_nil_of_length_eq_zero (by rw [← size_bs]; omega)
            have H0 := Lib.hid h0
            clear h0
            go_wp2
            go_ret
            exact ⟨ret_str (by rw [HT2.out, H0.out, ← str_bs u, H0.out]; rfl), rfl⟩
end Go.Proofs.Yticofnfjebifgaa
