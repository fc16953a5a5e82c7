/-
  cribbleref03.Number, walked.
-/
import Derived.Test.YticofnfjebifgaaNum
namespace Go.Proofs.Yticofnfjebifgaa
open Go.RowKit

def figN (c : UInt8) : Nat := if dgB c then c.toNat - 48 else (c ||| 32).toNat - 87
theorem fig_lt (c : UInt8) (h : dgB c = true ∨ hxB c = true) : figN c ≤ 15 := by
  have hx := all_bytes (fun c => !(dgB c || hxB c) || decide (figN c ≤ 15)) (by decide +kernel) c
  rcases h with h | h <;> simpa [h] using hx
theorem fig_small (c : UInt8) (hx : hxB c = true) (hd : dgB c = false) (h : 97 ≤ c.toNat) : (c.toNat : Int) - 97 + 10 = (figN c : Int) ∧ c.toNat ≤ 102 := by
  have hx := all_bytes (fun c => !hxB c || dgB c || decide (c.toNat < 97) || decide (c.toNat - 97 + 10 = figN c ∧ c.toNat ≤ 102)) (by decide +kernel) c
  simp [*] at hx
  omega
theorem fig_cap (c : UInt8) (hx : hxB c = true) (hd : dgB c = false) (h : ¬ 97 ≤ c.toNat) : (c.toNat : Int) - 65 + 10 = (figN c : Int) ∧ 65 ≤ c.toNat := by
  have hx := all_bytes (fun c => !hxB c || dgB c || decide (97 ≤ c.toNat) || decide (65 ≤ c.toNat ∧ c.toNat - 65 + 10 = figN c)) (by decide +kernel) c
  simp [*] at hx
  omega

theorem figure_any (w : World) (c : UInt8) (h : dgB c = true ∨ hxB c = true) :
    Calls Try.prog 34 #[.int .u8 (c.toNat : Int)] w fun e w' => e = .returned (.int .i64 (figN c : Int)) ∧ w = w' := by
  cases hd : dgB c with
  | true =>
    obtain ⟨d1, d2⟩ := dg_low c hd
    have d1' : (48 : Int) ≤ c.toNat := by omega
    have d2' : (c.toNat : Int) ≤ 57 := by omega
    have HF := Lib.hid (show (c.toNat : Int) - 48 = (figN c : Int) by unfold figN; rw [if_pos hd]; omega)
    clear h
    go_enter Try.func34, Try.ntmps34
    go_wp2_with (refine (rdigit_any _ _).mono ?_; rintro e w1 ⟨rfl, rfl⟩; rw [hd])
    go_ret
    exact ⟨congrArg Ending.returned (intv HF.out), rfl⟩
  | false =>
    have hx : hxB c = true := by
      rcases h with h | h
      · rw [hd] at h; cases h
      · exact h
    clear h
    by_cases h97 : 97 ≤ c.toNat
    · obtain ⟨hf, d2⟩ := fig_small c hx hd h97
      have d1' : (97 : Int) ≤ c.toNat := by omega
      have d2' : (c.toNat : Int) ≤ 102 := by omega
      have HF := Lib.hid hf
      clear hf
      go_enter Try.func34, Try.ntmps34
      go_wp2_with (refine (rdigit_any _ _).mono ?_; rintro e w1 ⟨rfl, rfl⟩; rw [hd])
      go_ret
      exact ⟨congrArg Ending.returned (intv HF.out), rfl⟩
    · obtain ⟨hf, d2⟩ := fig_cap c hx hd h97
      have d1' : (65 : Int) ≤ c.toNat := by omega
      have d2' : ¬ (97 : Int) ≤ c.toNat := by omega
      have HF := Lib.hid hf
      clear hf
      go_enter Try.func34, Try.ntmps34
      go_wp2_with (refine (rdigit_any _ _).mono ?_; rintro e w1 ⟨rfl, rfl⟩; rw [hd])
      go_ret
      exact ⟨congrArg Ending.returned (intv HF.out), rfl⟩

/-- the saturated number -/
def satB : Nat := 288230376151711744
def SatN (m v : Nat) : Prop := m < 4611686018427387920 ∧ m ≤ v ∧ (m < 288230376151711744 → m = v)
theorem sat_go {m v d b : Nat} (h : SatN m v) (hb : b = 10 ∨ b = 16) (hd : d ≤ 15) (hm : m < 288230376151711744) : SatN (m * b + d) (v * b + d) := by
  obtain ⟨h1, h2, h3⟩ := h
  obtain rfl := h3 hm
  exact ⟨by rcases hb with rfl | rfl <;> omega, Nat.le_refl _, fun _ => rfl⟩
theorem sat_stay {m v d b : Nat} (h : SatN m v) (hb : b = 10 ∨ b = 16) (hm : ¬ m < 288230376151711744) : SatN m (v * b + d) := by
  obtain ⟨h1, h2, h3⟩ := h
  exact ⟨h1, by rcases hb with rfl | rfl <;> omega, fun h => absurd h hm⟩

set_option maxHeartbeats 1000000 in
theorem rnumber_bad (w : World) (s : ByteArray) (base most : Int) (h : bs s = [] ∨ ¬ (base = 10 ∨ base = 16) ∨ big < most) :
    Calls Try.prog 21 #[.string s, .int .i64 base, .int .i64 most] w (RetNum w (numR (bs s) base most)) := by
  have HR := Lib.hid (numR_bad h)
  by_cases h0 : s.size = 0
  · obtain ⟨e1, e2, e3⟩ := empty_of h0
    clear h h0
    go_enter Try.func21, Try.ntmps21
    go_wp2
    go_ret2
    exact retNum_mk HR.out (Fr.rfl' _ _)
  · obtain ⟨e1, e2, e3⟩ := full_of h0
    by_cases hb : base = 10 ∨ base = 16
    · have hm : 1125899906842624 < most := by
        rcases h with h | h | h
        · exact (h0 (by rw [size_bs, h]; rfl)).elim
        · exact (h hb).elim
        · exact h
      clear h h0
      rcases hb with rfl | rfl
      all_goals
        go_enter Try.func21, Try.ntmps21
        go_wp2
        go_ret2
        exact retNum_mk HR.out (Fr.rfl' _ _)
    · have hb1 : ¬ base = 10 := fun e => hb (.inl e)
      have hb2 : ¬ base = 16 := fun e => hb (.inr e)
      clear h h0 hb
      go_enter Try.func21, Try.ntmps21
      go_wp2
      go_ret2
      exact retNum_mk HR.out (Fr.rfl' _ _)

set_option maxRecDepth 100000 in
set_option maxHeartbeats 2000000 in
theorem rnumber_pos10 (w : World) (s : ByteArray) (M : Nat) (hs : s.size ≤ 1048576) (h0 : ¬ s.size = 0) (hM : M ≤ 1125899906842624) :
    Calls Try.prog 21 #[.string s, .int .i64 10, .int .i64 (M : Int)] w (RetNum w (numR (bs s) 10 M)) := by
  obtain ⟨e1, e2, e3⟩ := full_of h0
  have hne : bs s ≠ [] := fun e => h0 (by rw [size_bs, e]; rfl)
  have HS := Lib.hid (size_bs s)
  have hneg : ¬ (M : Int) < 0 := by omega
  have hbig : ¬ (1125899906842624 : Int) < M := by omega
  have HNE := Lib.hid hne
  clear hne
  go_enter Try.func21, Try.ntmps21
  go_wp2
  go_loop [8, 9, 10] (fun n i _ => ∃ k v m : Nat, k ≤ s.size ∧ i = .int .i64 k ∧ val 10 ((bs s).take k) = some v ∧ n = .int .u64 (m : Int) ∧ SatN m v) (fun _ i _ => s.size - (intOf i).toNat)
  case atStart => exact ⟨0, 0, 0, Nat.zero_le _, rfl, rfl, rfl, by simp [SatN]⟩
  case round =>
    obtain ⟨k, v, m, hk, rfl, hv, rfl, hsat⟩ := hrel
    have HV := Lib.hid hv
    have hm62 : (m : Int) < 4611686018427387920 := by have := hsat.1; omega
    by_cases hlt : k < s.size
    · obtain ⟨c, hc⟩ := byte_at s hlt
      have hix := run_index_at (P := Try.prog) Try.underlying9 hc
      clear hv
      cases hd : dgB c with
      | true =>
        have hdx : dgB c = true ∨ hxB c = true := .inl hd
        have HV2 := Lib.hid (show val 10 ((bs s).take (k + 1)) = some (v * 10 + figN c) by rw [val_take hc]; exact vstep_some HV.out (by rw [dv_digit hd]; unfold figN; rw [if_pos hd]))
        have hfl := fig_lt c hdx
        have hfl' : (figN c : Int) ≤ 15 := by omega
        clear hc
        by_cases hmb : m < 288230376151711744
        · have hmb' : (m : Int) < 288230376151711744 := by omega
          have HSAT := Lib.hid (sat_go hsat (b := 10) (.inl rfl) hfl hmb)
          clear hsat hmb
          go_wp2_with (first | (go_at_call 27; refine (rdigit_any _ _).mono ?_; rintro e w1 ⟨rfl, rfl⟩; rw [hd]) | (go_at_call 29; refine (rhex_any _ _).mono ?_; rintro e w1 ⟨rfl, rfl⟩; rw [hx]) | (go_at_call 34; refine (figure_any _ _ hdx).mono ?_; rintro e w1 ⟨rfl, rfl⟩))
          go_round
          case rel => exact ⟨k + 1, _, _, by omega, by go_num, HV2.out, by first | rfl | (congr 1; omega) | (congr 1; rw [Int.natCast_add, Int.natCast_mul]; rfl), HSAT.out⟩
          case measure => simp [intOf]; omega
        · have hmb' : decide ((m : Int) < 288230376151711744) = false := by rw [decide_eq_false_iff_not]; omega
          have HSAT := Lib.hid (sat_stay hsat (d := figN c) (b := 10) (.inl rfl) hmb)
          clear hsat hmb
          go_wp2_with (first | (go_at_call 27; refine (rdigit_any _ _).mono ?_; rintro e w1 ⟨rfl, rfl⟩; rw [hd]) | (go_at_call 29; refine (rhex_any _ _).mono ?_; rintro e w1 ⟨rfl, rfl⟩; rw [hx]) | (go_at_call 34; refine (figure_any _ _ hdx).mono ?_; rintro e w1 ⟨rfl, rfl⟩))
          go_round
          case rel => exact ⟨k + 1, _, m, by omega, by go_num, HV2.out, rfl, HSAT.out⟩
          case measure => simp [intOf]; omega
      | false =>
        have HR := Lib.hid (numR_none (most := M) (val_none hc (dv_bad10 hd)))
        clear hc hsat
        go_wp2_with (refine (rdigit_any _ _).mono ?_; rintro e w1 ⟨rfl, rfl⟩; rw [hd])
        go_ret2
        exact retNum_mk HR.out (Fr.rfl' _ _)
    · obtain rfl : k = s.size := by omega
      have hva : val 10 (bs s) = some v := by have := HV.out; rwa [List.take_of_length_le (by rw [HS.out]; exact Nat.le_refl _)] at this
      have HR := Lib.hid (numR_some (b := 10) (most := M) (.inl rfl) HNE.out (by unfold big; omega) hva)
      obtain ⟨s1, s2, s3⟩ := hsat
      clear hv hva
      have H3 := Lib.hid s3
      clear s3
      by_cases hmb : m < 288230376151711744
      · have hmb' : (m : Int) < 288230376151711744 := by omega
        have HMB := Lib.hid hmb
        clear hmb
        by_cases hmm : M < m
        · have hmm' : (M : Int) < (m : Int) := by omega
          go_wp2
          go_ret2
          exact retNum_mk (HR.out.trans (by have := H3.out HMB.out; congr 1; omega)) (Fr.rfl' _ _)
        · have hmm' : ¬ (M : Int) < (m : Int) := by omega
          have hge : decide ((288230376151711744 : Int) ≤ (m : Int)) = false := by rw [decide_eq_false_iff_not]; omega
          clear hmb'
          go_wp2
          go_ret2
          exact retNum_mk (HR.out.trans (by have := H3.out HMB.out; congr 1; omega)) (Fr.rfl' _ _)
      · have hmb' : decide ((m : Int) < 288230376151711744) = false := by rw [decide_eq_false_iff_not]; omega
        have hmm : M < m := by omega
        have hmm' : (M : Int) < (m : Int) := by omega
        clear hmb
        go_wp2
        go_ret2
        clear hmb'
        exact retNum_mk (HR.out.trans (by congr 1; omega)) (Fr.rfl' _ _)

set_option maxRecDepth 100000 in
set_option maxHeartbeats 2000000 in
theorem rnumber_neg10 (w : World) (s : ByteArray) (mo : Int) (hs : s.size ≤ 1048576) (h0 : ¬ s.size = 0) (hneg : mo < 0) :
    Calls Try.prog 21 #[.string s, .int .i64 10, .int .i64 mo] w (RetNum w (numR (bs s) 10 mo)) := by
  obtain ⟨e1, e2, e3⟩ := full_of h0
  have hne : bs s ≠ [] := fun e => h0 (by rw [size_bs, e]; rfl)
  have HS := Lib.hid (size_bs s)
  have hbig : ¬ (1125899906842624 : Int) < mo := by omega
  have HNE := Lib.hid hne
  clear hne
  go_enter Try.func21, Try.ntmps21
  go_wp2
  go_loop [8, 9, 10] (fun n i _ => ∃ k v m : Nat, k ≤ s.size ∧ i = .int .i64 k ∧ val 10 ((bs s).take k) = some v ∧ n = .int .u64 (m : Int) ∧ SatN m v) (fun _ i _ => s.size - (intOf i).toNat)
  case atStart => exact ⟨0, 0, 0, Nat.zero_le _, rfl, rfl, rfl, by simp [SatN]⟩
  case round =>
    obtain ⟨k, v, m, hk, rfl, hv, rfl, hsat⟩ := hrel
    have HV := Lib.hid hv
    have hm62 : (m : Int) < 4611686018427387920 := by have := hsat.1; omega
    by_cases hlt : k < s.size
    · obtain ⟨c, hc⟩ := byte_at s hlt
      have hix := run_index_at (P := Try.prog) Try.underlying9 hc
      clear hv
      cases hd : dgB c with
      | true =>
        have hdx : dgB c = true ∨ hxB c = true := .inl hd
        have HV2 := Lib.hid (show val 10 ((bs s).take (k + 1)) = some (v * 10 + figN c) by rw [val_take hc]; exact vstep_some HV.out (by rw [dv_digit hd]; unfold figN; rw [if_pos hd]))
        have hfl := fig_lt c hdx
        have hfl' : (figN c : Int) ≤ 15 := by omega
        clear hc
        by_cases hmb : m < 288230376151711744
        · have hmb' : (m : Int) < 288230376151711744 := by omega
          have HSAT := Lib.hid (sat_go hsat (b := 10) (.inl rfl) hfl hmb)
          clear hsat hmb
          go_wp2_with (first | (go_at_call 27; refine (rdigit_any _ _).mono ?_; rintro e w1 ⟨rfl, rfl⟩; rw [hd]) | (go_at_call 29; refine (rhex_any _ _).mono ?_; rintro e w1 ⟨rfl, rfl⟩; rw [hx]) | (go_at_call 34; refine (figure_any _ _ hdx).mono ?_; rintro e w1 ⟨rfl, rfl⟩))
          go_round
          case rel => exact ⟨k + 1, _, _, by omega, by go_num, HV2.out, by first | rfl | (congr 1; omega) | (congr 1; rw [Int.natCast_add, Int.natCast_mul]; rfl), HSAT.out⟩
          case measure => simp [intOf]; omega
        · have hmb' : decide ((m : Int) < 288230376151711744) = false := by rw [decide_eq_false_iff_not]; omega
          have HSAT := Lib.hid (sat_stay hsat (d := figN c) (b := 10) (.inl rfl) hmb)
          clear hsat hmb
          go_wp2_with (first | (go_at_call 27; refine (rdigit_any _ _).mono ?_; rintro e w1 ⟨rfl, rfl⟩; rw [hd]) | (go_at_call 29; refine (rhex_any _ _).mono ?_; rintro e w1 ⟨rfl, rfl⟩; rw [hx]) | (go_at_call 34; refine (figure_any _ _ hdx).mono ?_; rintro e w1 ⟨rfl, rfl⟩))
          go_round
          case rel => exact ⟨k + 1, _, m, by omega, by go_num, HV2.out, rfl, HSAT.out⟩
          case measure => simp [intOf]; omega
      | false =>
        have HR := Lib.hid (numR_none (most := mo) (val_none hc (dv_bad10 hd)))
        clear hc hsat
        go_wp2_with (refine (rdigit_any _ _).mono ?_; rintro e w1 ⟨rfl, rfl⟩; rw [hd])
        go_ret2
        exact retNum_mk HR.out (Fr.rfl' _ _)
    · obtain rfl : k = s.size := by omega
      have hva : val 10 (bs s) = some v := by have := HV.out; rwa [List.take_of_length_le (by rw [HS.out]; exact Nat.le_refl _)] at this
      have HR := Lib.hid (numR_some (b := 10) (most := mo) (.inl rfl) HNE.out (by unfold big; omega) hva)
      obtain ⟨s1, s2, s3⟩ := hsat
      clear hv hva
      have H3 := Lib.hid s3
      clear s3
      by_cases hmb : m < 288230376151711744
      · have hmb' : (m : Int) < 288230376151711744 := by omega
        have HMB := Lib.hid hmb
        clear hmb
        by_cases hmm : 0 < m
        · have hmm' : (0 : Int) < (m : Int) := by omega
          go_wp2
          go_ret2
          exact retNum_mk (HR.out.trans (by have := H3.out HMB.out; congr 1; omega)) (Fr.rfl' _ _)
        · have hmm' : ¬ (0 : Int) < (m : Int) := by omega
          have hge : decide ((288230376151711744 : Int) ≤ (m : Int)) = false := by rw [decide_eq_false_iff_not]; omega
          clear hmb'
          go_wp2
          go_ret2
          exact retNum_mk (HR.out.trans (by have := H3.out HMB.out; congr 1; omega)) (Fr.rfl' _ _)
      · have hmb' : decide ((m : Int) < 288230376151711744) = false := by rw [decide_eq_false_iff_not]; omega
        have hmm : 0 < m := by omega
        have hmm' : (0 : Int) < (m : Int) := by omega
        clear hmb
        go_wp2
        go_ret2
        clear hmb'
        exact retNum_mk (HR.out.trans (by congr 1; omega)) (Fr.rfl' _ _)

set_option maxRecDepth 100000 in
set_option maxHeartbeats 2000000 in
theorem rnumber_pos16 (w : World) (s : ByteArray) (M : Nat) (hs : s.size ≤ 1048576) (h0 : ¬ s.size = 0) (hM : M ≤ 1125899906842624) :
    Calls Try.prog 21 #[.string s, .int .i64 16, .int .i64 (M : Int)] w (RetNum w (numR (bs s) 16 M)) := by
  obtain ⟨e1, e2, e3⟩ := full_of h0
  have hne : bs s ≠ [] := fun e => h0 (by rw [size_bs, e]; rfl)
  have HS := Lib.hid (size_bs s)
  have hneg : ¬ (M : Int) < 0 := by omega
  have hbig : ¬ (1125899906842624 : Int) < M := by omega
  have HNE := Lib.hid hne
  clear hne
  go_enter Try.func21, Try.ntmps21
  go_wp2
  go_loop [8, 9, 10] (fun n i _ => ∃ k v m : Nat, k ≤ s.size ∧ i = .int .i64 k ∧ val 16 ((bs s).take k) = some v ∧ n = .int .u64 (m : Int) ∧ SatN m v) (fun _ i _ => s.size - (intOf i).toNat)
  case atStart => exact ⟨0, 0, 0, Nat.zero_le _, rfl, rfl, rfl, by simp [SatN]⟩
  case round =>
    obtain ⟨k, v, m, hk, rfl, hv, rfl, hsat⟩ := hrel
    have HV := Lib.hid hv
    have hm62 : (m : Int) < 4611686018427387920 := by have := hsat.1; omega
    by_cases hlt : k < s.size
    · obtain ⟨c, hc⟩ := byte_at s hlt
      have hix := run_index_at (P := Try.prog) Try.underlying9 hc
      clear hv
      cases hd : dgB c with
      | true =>
        have hdx : dgB c = true ∨ hxB c = true := .inl hd
        have HV2 := Lib.hid (show val 16 ((bs s).take (k + 1)) = some (v * 16 + figN c) by rw [val_take hc]; exact vstep_some HV.out (by rw [dv_digit hd]; unfold figN; rw [if_pos hd]))
        have hfl := fig_lt c hdx
        have hfl' : (figN c : Int) ≤ 15 := by omega
        clear hc
        by_cases hmb : m < 288230376151711744
        · have hmb' : (m : Int) < 288230376151711744 := by omega
          have HSAT := Lib.hid (sat_go hsat (b := 16) (.inr rfl) hfl hmb)
          clear hsat hmb
          go_wp2_with (first | (go_at_call 27; refine (rdigit_any _ _).mono ?_; rintro e w1 ⟨rfl, rfl⟩; rw [hd]) | (go_at_call 29; refine (rhex_any _ _).mono ?_; rintro e w1 ⟨rfl, rfl⟩; rw [hx]) | (go_at_call 34; refine (figure_any _ _ hdx).mono ?_; rintro e w1 ⟨rfl, rfl⟩))
          go_round
          case rel => exact ⟨k + 1, _, _, by omega, by go_num, HV2.out, by first | rfl | (congr 1; omega) | (congr 1; rw [Int.natCast_add, Int.natCast_mul]; rfl), HSAT.out⟩
          case measure => simp [intOf]; omega
        · have hmb' : decide ((m : Int) < 288230376151711744) = false := by rw [decide_eq_false_iff_not]; omega
          have HSAT := Lib.hid (sat_stay hsat (d := figN c) (b := 16) (.inr rfl) hmb)
          clear hsat hmb
          go_wp2_with (first | (go_at_call 27; refine (rdigit_any _ _).mono ?_; rintro e w1 ⟨rfl, rfl⟩; rw [hd]) | (go_at_call 29; refine (rhex_any _ _).mono ?_; rintro e w1 ⟨rfl, rfl⟩; rw [hx]) | (go_at_call 34; refine (figure_any _ _ hdx).mono ?_; rintro e w1 ⟨rfl, rfl⟩))
          go_round
          case rel => exact ⟨k + 1, _, m, by omega, by go_num, HV2.out, rfl, HSAT.out⟩
          case measure => simp [intOf]; omega
      | false =>
        cases hx : hxB c with
        | false =>
          have HR := Lib.hid (numR_none (most := M) (val_none hc (dv_bad hd hx 16)))
          clear hc hsat
          go_wp2_with (first | (go_at_call 27; refine (rdigit_any _ _).mono ?_; rintro e w1 ⟨rfl, rfl⟩; rw [hd]) | (go_at_call 29; refine (rhex_any _ _).mono ?_; rintro e w1 ⟨rfl, rfl⟩; rw [hx]))
          go_ret2
          exact retNum_mk HR.out (Fr.rfl' _ _)
        | true =>
          have hdx : dgB c = true ∨ hxB c = true := .inr hx
          have HV2 := Lib.hid (show val 16 ((bs s).take (k + 1)) = some (v * 16 + figN c) by rw [val_take hc]; exact vstep_some HV.out (by rw [dv_letter hd hx]; unfold figN; rw [hd]; rfl))
          have hfl := fig_lt c hdx
          have hfl' : (figN c : Int) ≤ 15 := by omega
          clear hc
          by_cases hmb : m < 288230376151711744
          · have hmb' : (m : Int) < 288230376151711744 := by omega
            have HSAT := Lib.hid (sat_go hsat (b := 16) (.inr rfl) hfl hmb)
            clear hsat hmb
            go_wp2_with (first | (go_at_call 27; refine (rdigit_any _ _).mono ?_; rintro e w1 ⟨rfl, rfl⟩; rw [hd]) | (go_at_call 29; refine (rhex_any _ _).mono ?_; rintro e w1 ⟨rfl, rfl⟩; rw [hx]) | (go_at_call 34; refine (figure_any _ _ hdx).mono ?_; rintro e w1 ⟨rfl, rfl⟩))
            go_round
            case rel => exact ⟨k + 1, _, _, by omega, by go_num, HV2.out, by first | rfl | (congr 1; omega) | (congr 1; rw [Int.natCast_add, Int.natCast_mul]; rfl), HSAT.out⟩
            case measure => simp [intOf]; omega
          · have hmb' : decide ((m : Int) < 288230376151711744) = false := by rw [decide_eq_false_iff_not]; omega
            have HSAT := Lib.hid (sat_stay hsat (d := figN c) (b := 16) (.inr rfl) hmb)
            clear hsat hmb
            go_wp2_with (first | (go_at_call 27; refine (rdigit_any _ _).mono ?_; rintro e w1 ⟨rfl, rfl⟩; rw [hd]) | (go_at_call 29; refine (rhex_any _ _).mono ?_; rintro e w1 ⟨rfl, rfl⟩; rw [hx]) | (go_at_call 34; refine (figure_any _ _ hdx).mono ?_; rintro e w1 ⟨rfl, rfl⟩))
            go_round
            case rel => exact ⟨k + 1, _, m, by omega, by go_num, HV2.out, rfl, HSAT.out⟩
            case measure => simp [intOf]; omega
    · obtain rfl : k = s.size := by omega
      have hva : val 16 (bs s) = some v := by have := HV.out; rwa [List.take_of_length_le (by rw [HS.out]; exact Nat.le_refl _)] at this
      have HR := Lib.hid (numR_some (b := 16) (most := M) (.inr rfl) HNE.out (by unfold big; omega) hva)
      obtain ⟨s1, s2, s3⟩ := hsat
      clear hv hva
      have H3 := Lib.hid s3
      clear s3
      by_cases hmb : m < 288230376151711744
      · have hmb' : (m : Int) < 288230376151711744 := by omega
        have HMB := Lib.hid hmb
        clear hmb
        by_cases hmm : M < m
        · have hmm' : (M : Int) < (m : Int) := by omega
          go_wp2
          go_ret2
          exact retNum_mk (HR.out.trans (by have := H3.out HMB.out; congr 1; omega)) (Fr.rfl' _ _)
        · have hmm' : ¬ (M : Int) < (m : Int) := by omega
          have hge : decide ((288230376151711744 : Int) ≤ (m : Int)) = false := by rw [decide_eq_false_iff_not]; omega
          clear hmb'
          go_wp2
          go_ret2
          exact retNum_mk (HR.out.trans (by have := H3.out HMB.out; congr 1; omega)) (Fr.rfl' _ _)
      · have hmb' : decide ((m : Int) < 288230376151711744) = false := by rw [decide_eq_false_iff_not]; omega
        have hmm : M < m := by omega
        have hmm' : (M : Int) < (m : Int) := by omega
        clear hmb
        go_wp2
        go_ret2
        clear hmb'
        exact retNum_mk (HR.out.trans (by congr 1; omega)) (Fr.rfl' _ _)

set_option maxRecDepth 100000 in
set_option maxHeartbeats 2000000 in
theorem rnumber_neg16 (w : World) (s : ByteArray) (mo : Int) (hs : s.size ≤ 1048576) (h0 : ¬ s.size = 0) (hneg : mo < 0) :
    Calls Try.prog 21 #[.string s, .int .i64 16, .int .i64 mo] w (RetNum w (numR (bs s) 16 mo)) := by
  obtain ⟨e1, e2, e3⟩ := full_of h0
  have hne : bs s ≠ [] := fun e => h0 (by rw [size_bs, e]; rfl)
  have HS := Lib.hid (size_bs s)
  have hbig : ¬ (1125899906842624 : Int) < mo := by omega
  have HNE := Lib.hid hne
  clear hne
  go_enter Try.func21, Try.ntmps21
  go_wp2
  go_loop [8, 9, 10] (fun n i _ => ∃ k v m : Nat, k ≤ s.size ∧ i = .int .i64 k ∧ val 16 ((bs s).take k) = some v ∧ n = .int .u64 (m : Int) ∧ SatN m v) (fun _ i _ => s.size - (intOf i).toNat)
  case atStart => exact ⟨0, 0, 0, Nat.zero_le _, rfl, rfl, rfl, by simp [SatN]⟩
  case round =>
    obtain ⟨k, v, m, hk, rfl, hv, rfl, hsat⟩ := hrel
    have HV := Lib.hid hv
    have hm62 : (m : Int) < 4611686018427387920 := by have := hsat.1; omega
    by_cases hlt : k < s.size
    · obtain ⟨c, hc⟩ := byte_at s hlt
      have hix := run_index_at (P := Try.prog) Try.underlying9 hc
      clear hv
      cases hd : dgB c with
      | true =>
        have hdx : dgB c = true ∨ hxB c = true := .inl hd
        have HV2 := Lib.hid (show val 16 ((bs s).take (k + 1)) = some (v * 16 + figN c) by rw [val_take hc]; exact vstep_some HV.out (by rw [dv_digit hd]; unfold figN; rw [if_pos hd]))
        have hfl := fig_lt c hdx
        have hfl' : (figN c : Int) ≤ 15 := by omega
        clear hc
        by_cases hmb : m < 288230376151711744
        · have hmb' : (m : Int) < 288230376151711744 := by omega
          have HSAT := Lib.hid (sat_go hsat (b := 16) (.inr rfl) hfl hmb)
          clear hsat hmb
          go_wp2_with (first | (go_at_call 27; refine (rdigit_any _ _).mono ?_; rintro e w1 ⟨rfl, rfl⟩; rw [hd]) | (go_at_call 29; refine (rhex_any _ _).mono ?_; rintro e w1 ⟨rfl, rfl⟩; rw [hx]) | (go_at_call 34; refine (figure_any _ _ hdx).mono ?_; rintro e w1 ⟨rfl, rfl⟩))
          go_round
          case rel => exact ⟨k + 1, _, _, by omega, by go_num, HV2.out, by first | rfl | (congr 1; omega) | (congr 1; rw [Int.natCast_add, Int.natCast_mul]; rfl), HSAT.out⟩
          case measure => simp [intOf]; omega
        · have hmb' : decide ((m : Int) < 288230376151711744) = false := by rw [decide_eq_false_iff_not]; omega
          have HSAT := Lib.hid (sat_stay hsat (d := figN c) (b := 16) (.inr rfl) hmb)
          clear hsat hmb
          go_wp2_with (first | (go_at_call 27; refine (rdigit_any _ _).mono ?_; rintro e w1 ⟨rfl, rfl⟩; rw [hd]) | (go_at_call 29; refine (rhex_any _ _).mono ?_; rintro e w1 ⟨rfl, rfl⟩; rw [hx]) | (go_at_call 34; refine (figure_any _ _ hdx).mono ?_; rintro e w1 ⟨rfl, rfl⟩))
          go_round
          case rel => exact ⟨k + 1, _, m, by omega, by go_num, HV2.out, rfl, HSAT.out⟩
          case measure => simp [intOf]; omega
      | false =>
        cases hx : hxB c with
        | false =>
          have HR := Lib.hid (numR_none (most := mo) (val_none hc (dv_bad hd hx 16)))
          clear hc hsat
          go_wp2_with (first | (go_at_call 27; refine (rdigit_any _ _).mono ?_; rintro e w1 ⟨rfl, rfl⟩; rw [hd]) | (go_at_call 29; refine (rhex_any _ _).mono ?_; rintro e w1 ⟨rfl, rfl⟩; rw [hx]))
          go_ret2
          exact retNum_mk HR.out (Fr.rfl' _ _)
        | true =>
          have hdx : dgB c = true ∨ hxB c = true := .inr hx
          have HV2 := Lib.hid (show val 16 ((bs s).take (k + 1)) = some (v * 16 + figN c) by rw [val_take hc]; exact vstep_some HV.out (by rw [dv_letter hd hx]; unfold figN; rw [hd]; rfl))
          have hfl := fig_lt c hdx
          have hfl' : (figN c : Int) ≤ 15 := by omega
          clear hc
          by_cases hmb : m < 288230376151711744
          · have hmb' : (m : Int) < 288230376151711744 := by omega
            have HSAT := Lib.hid (sat_go hsat (b := 16) (.inr rfl) hfl hmb)
            clear hsat hmb
            go_wp2_with (first | (go_at_call 27; refine (rdigit_any _ _).mono ?_; rintro e w1 ⟨rfl, rfl⟩; rw [hd]) | (go_at_call 29; refine (rhex_any _ _).mono ?_; rintro e w1 ⟨rfl, rfl⟩; rw [hx]) | (go_at_call 34; refine (figure_any _ _ hdx).mono ?_; rintro e w1 ⟨rfl, rfl⟩))
            go_round
            case rel => exact ⟨k + 1, _, _, by omega, by go_num, HV2.out, by first | rfl | (congr 1; omega) | (congr 1; rw [Int.natCast_add, Int.natCast_mul]; rfl), HSAT.out⟩
            case measure => simp [intOf]; omega
          · have hmb' : decide ((m : Int) < 288230376151711744) = false := by rw [decide_eq_false_iff_not]; omega
            have HSAT := Lib.hid (sat_stay hsat (d := figN c) (b := 16) (.inr rfl) hmb)
            clear hsat hmb
            go_wp2_with (first | (go_at_call 27; refine (rdigit_any _ _).mono ?_; rintro e w1 ⟨rfl, rfl⟩; rw [hd]) | (go_at_call 29; refine (rhex_any _ _).mono ?_; rintro e w1 ⟨rfl, rfl⟩; rw [hx]) | (go_at_call 34; refine (figure_any _ _ hdx).mono ?_; rintro e w1 ⟨rfl, rfl⟩))
            go_round
            case rel => exact ⟨k + 1, _, m, by omega, by go_num, HV2.out, rfl, HSAT.out⟩
            case measure => simp [intOf]; omega
    · obtain rfl : k = s.size := by omega
      have hva : val 16 (bs s) = some v := by have := HV.out; rwa [List.take_of_length_le (by rw [HS.out]; exact Nat.le_refl _)] at this
      have HR := Lib.hid (numR_some (b := 16) (most := mo) (.inr rfl) HNE.out (by unfold big; omega) hva)
      obtain ⟨s1, s2, s3⟩ := hsat
      clear hv hva
      have H3 := Lib.hid s3
      clear s3
      by_cases hmb : m < 288230376151711744
      · have hmb' : (m : Int) < 288230376151711744 := by omega
        have HMB := Lib.hid hmb
        clear hmb
        by_cases hmm : 0 < m
        · have hmm' : (0 : Int) < (m : Int) := by omega
          go_wp2
          go_ret2
          exact retNum_mk (HR.out.trans (by have := H3.out HMB.out; congr 1; omega)) (Fr.rfl' _ _)
        · have hmm' : ¬ (0 : Int) < (m : Int) := by omega
          have hge : decide ((288230376151711744 : Int) ≤ (m : Int)) = false := by rw [decide_eq_false_iff_not]; omega
          clear hmb'
          go_wp2
          go_ret2
          exact retNum_mk (HR.out.trans (by have := H3.out HMB.out; congr 1; omega)) (Fr.rfl' _ _)
      · have hmb' : decide ((m : Int) < 288230376151711744) = false := by rw [decide_eq_false_iff_not]; omega
        have hmm : 0 < m := by omega
        have hmm' : (0 : Int) < (m : Int) := by omega
        clear hmb
        go_wp2
        go_ret2
        clear hmb'
        exact retNum_mk (HR.out.trans (by congr 1; omega)) (Fr.rfl' _ _)

theorem rnumber_any (w : World) (s : ByteArray) (base most : Int) (hs : s.size ≤ 1048576) :
    Calls Try.prog 21 #[.string s, .int .i64 base, .int .i64 most] w (RetNum w (numR (bs s) base most)) := by
  by_cases h : bs s = [] ∨ ¬ (base = 10 ∨ base = 16) ∨ big < most
  · exact rnumber_bad w s base most h
  · have h0 : ¬ s.size = 0 := fun e => h (.inl (empty_bs e))
    have hm : most ≤ 1125899906842624 := by
      have : ¬ big < most := fun e => h (.inr (.inr e))
      unfold big at this
      omega
    have hb : base = 10 ∨ base = 16 := Classical.byContradiction fun e => h (.inr (.inl e))
    by_cases hneg : most < 0
    · rcases hb with rfl | rfl
      · exact rnumber_neg10 w s most hs h0 hneg
      · exact rnumber_neg16 w s most hs h0 hneg
    · obtain ⟨M, rfl⟩ : ∃ M : Nat, most = M := ⟨most.toNat, by omega⟩
      rcases hb with rfl | rfl
      · exact rnumber_pos10 w s M hs h0 (by omega)
      · exact rnumber_pos16 w s M hs h0 (by omega)
end Go.Proofs.Yticofnfjebifgaa
