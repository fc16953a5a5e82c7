/-
  class.Number, walked; what a number's figures come to.
-/
import Derived.Test.YticofnfjebifgaaWord
namespace Go.Proofs.Yticofnfjebifgaa
open Go.RowKit

/-- the figure that a byte is to a base; a text's number -/
def dv (b : Nat) (c : UInt8) : Option Nat := if dgB c then some (c.toNat - 48) else if b = 16 ∧ hxB c = true then some ((c ||| 32).toNat - 87) else none
def vstep (b : Nat) (o : Option Nat) (c : UInt8) : Option Nat := o.bind fun n => (dv b c).map fun d => n * b + d
def val (b : Nat) (l : List UInt8) : Option Nat := l.foldl (vstep b) (some 0)
def big : Int := 1125899906842624
/-- what Number tells -/
def numR (l : List UInt8) (base most : Int) : Int × Bool :=
  if l = [] ∨ ¬ (base = 10 ∨ base = 16) ∨ big < most then (0, false) else
  match val base.toNat l with
  | none => (0, false)
  | some v => (min (v : Int) (max most 0), true)
def RetNum (w : World) (r : Int × Bool) (e : Ending) (w' : World) : Prop := e = .returned (.tuple #[.int .i64 r.1, .bool r.2]) ∧ Fr Nil w w'
theorem retNum_mk {w w' : World} {r : Int × Bool} {z : Int} {k : Bool} (h : r = (z, k)) (hf : Fr Nil w w') : RetNum w r (.returned (.tuple #[.int .i64 z, .bool k])) w' := by
  subst h
  exact ⟨rfl, hf⟩

theorem val_take {b k : Nat} {l : List UInt8} {c : UInt8} (h : l[k]? = some c) : val b (l.take (k + 1)) = vstep b (val b (l.take k)) c := by
  unfold val
  rw [take_at h, List.foldl_append]
  rfl
theorem foldl_none (b : Nat) (l : List UInt8) : l.foldl (vstep b) none = none := by
  induction l with
  | nil => rfl
  | cons c l ih => rw [List.foldl_cons]; exact ih
theorem val_none {b k : Nat} {l : List UInt8} {c : UInt8} (h : l[k]? = some c) (hd : dv b c = none) : val b l = none := by
  have h1 : val b l = (l.drop (k + 1)).foldl (vstep b) (val b (l.take (k + 1))) := by
    conv => lhs; rw [← List.take_append_drop (k + 1) l]
    unfold val
    rw [List.foldl_append]
  rw [h1, val_take h]
  have h2 : vstep b (val b (l.take k)) c = none := by
    unfold vstep
    rw [hd]
    cases val b (l.take k) <;> rfl
  rw [h2, foldl_none]
theorem numR_bad {l : List UInt8} {base most : Int} (h : l = [] ∨ ¬ (base = 10 ∨ base = 16) ∨ big < most) : numR l base most = (0, false) := by
  unfold numR
  rw [if_pos h]
theorem numR_none {l : List UInt8} {b : Nat} {most : Int} (h : val b l = none) : numR l (b : Int) most = (0, false) := by
  unfold numR
  split
  · rfl
  · rw [show ((b : Int)).toNat = b from rfl, h]
theorem numR_some {l : List UInt8} {b v : Nat} {most : Int} (hb : b = 10 ∨ b = 16) (hl : l ≠ []) (hm : most ≤ big) (h : val b l = some v) : numR l (b : Int) most = (min (v : Int) (max most 0), true) := by
  unfold numR
  rw [if_neg (by rintro (h1 | h1 | h1) <;> first | exact hl h1 | omega), show ((b : Int)).toNat = b from rfl, h]
/-- hexadecimal letters -/
theorem hx_low (c : UInt8) (h : hxB c = true) (hd : dgB c = false) : 97 ≤ (c ||| 32).toNat ∧ (c ||| 32).toNat ≤ 102 := by
  have hx := all_bytes (fun c => !hxB c || dgB c || decide (97 ≤ (c ||| 32).toNat ∧ (c ||| 32).toNat ≤ 102)) (by decide +kernel) c
  simpa [h, hd] using hx
theorem dg_low (c : UInt8) (h : dgB c = true) : 48 ≤ c.toNat ∧ c.toNat ≤ 57 := by unfold dgB at h; simpa using h
theorem sat {b n m d v : Nat} (hb : b = 10 ∨ b = 16) (h : n = min v m) : min (n * b + d) m = min (v * b + d) m := by
  subst h
  rcases hb with rfl | rfl <;> omega

set_option maxHeartbeats 1000000 in
theorem number_bad (w : World) (s : ByteArray) (base most : Int) (h : bs s = [] ∨ ¬ (base = 10 ∨ base = 16) ∨ big < most) :
    Calls Try.prog 20 #[.string s, .int .i64 base, .int .i64 most] w (RetNum w (numR (bs s) base most)) := by
  have HR := Lib.hid (numR_bad h)
  by_cases h0 : s.size = 0
  · obtain ⟨e1, e2, e3⟩ := empty_of h0
    clear h h0
    by_cases hneg : most < 0
    all_goals
      go_enter Try.func20, Try.ntmps20
      go_wp2
      go_ret2
      exact retNum_mk HR.out (Fr.rfl' _ _)
  · obtain ⟨e1, e2, e3⟩ := full_of h0
    by_cases hb : base = 10 ∨ base = 16
    · have hm : 1125899906842624 < most := by
        rcases h with h | h | h
        · exact (h0 (by rw [size_bs, h]; rfl)).elim
        · exact (h hb).elim
        · exact h
      have hneg : ¬ most < 0 := by omega
      clear h h0
      rcases hb with rfl | rfl
      all_goals
        go_enter Try.func20, Try.ntmps20
        go_wp2
        go_ret2
        exact retNum_mk HR.out (Fr.rfl' _ _)
    · have hb1 : ¬ base = 10 := fun e => hb (.inl e)
      have hb2 : ¬ base = 16 := fun e => hb (.inr e)
      clear h h0 hb
      by_cases hneg : most < 0
      all_goals
        go_enter Try.func20, Try.ntmps20
        go_wp2
        go_ret2
        exact retNum_mk HR.out (Fr.rfl' _ _)

theorem vstep_some {b v d : Nat} {o : Option Nat} {c : UInt8} (h : o = some v) (hd : dv b c = some d) : vstep b o c = some (v * b + d) := by
  subst h
  simp [vstep, hd]
theorem dv_digit {b : Nat} {c : UInt8} (h : dgB c = true) : dv b c = some (c.toNat - 48) := by simp [dv, h]
theorem dv_letter {c : UInt8} (h : dgB c = false) (hx : hxB c = true) : dv 16 c = some ((c ||| 32).toNat - 87) := by simp [dv, h, hx]
theorem dv_bad {c : UInt8} (h : dgB c = false) (hx : hxB c = false) (b : Nat) : dv b c = none := by simp [dv, h, hx]
theorem dv_bad10 {c : UInt8} (h : dgB c = false) : dv 10 c = none := by simp [dv, h]
theorem intv {a b : Int} (h : a = b) : Value.int .i64 a = .int .i64 b := by rw [h]

set_option maxRecDepth 100000 in
set_option maxHeartbeats 2000000 in
theorem number_pos10 (w : World) (s : ByteArray) (M : Nat) (hs : s.size ≤ 1048576) (h0 : ¬ s.size = 0) (hM : M ≤ 1125899906842624) :
    Calls Try.prog 20 #[.string s, .int .i64 10, .int .i64 (M : Int)] w (RetNum w (numR (bs s) 10 M)) := by
  obtain ⟨e1, e2, e3⟩ := full_of h0
  have hne : bs s ≠ [] := fun e => h0 (by rw [size_bs, e]; rfl)
  have HS := Lib.hid (size_bs s)
  have hcv := run_bytes_of (P := Try.prog) s Try.underlying9 Try.underlying32 Try.underlying5 w
  have hB := bw_reads (P := Try.prog) w s 5
  have hF := bw_fr (P := Try.prog) w s 5
  generalize BWorld Try.prog w s 5 = W0 at *
  generalize grownCap w s.size 0 5 = cp at *
  have hneg : ¬ (M : Int) < 0 := by omega
  have hbig : ¬ (1125899906842624 : Int) < M := by omega
  have HNE := Lib.hid hne
  clear hne
  go_enter Try.func20, Try.ntmps20
  go_wp2
  go_loop [8, 10, 30] (fun n _ i => ∃ k v : Nat, k ≤ s.size ∧ i = .int .i64 k ∧ val 10 ((bs s).take k) = some v ∧ n = .int .i64 ((min v M : Nat) : Int)) (fun _ _ i => s.size - (intOf i).toNat)
  case atStart => exact ⟨0, 0, Nat.zero_le _, rfl, rfl, by simp⟩
  case round =>
    obtain ⟨k, v, hk, rfl, hv, rfl⟩ := hrel
    have HV := Lib.hid hv
    clear hv
    by_cases hlt : k < s.size
    · obtain ⟨c, hc⟩ := byte_at s hlt
      have hcell := reads_byte_at hB hc
      rw [Addr.add_lit, Nat.zero_add] at hcell
      obtain ⟨n, hn⟩ : ∃ n, min v M = n := ⟨_, rfl⟩
      have hnM : n ≤ M := by omega
      have HN := Lib.hid hn
      rw [hn]
      clear hn
      cases hd : dgB c with
      | true =>
        obtain ⟨d1, d2⟩ := dg_low c hd
        have d1' : (48 : Int) ≤ c.toNat := by omega
        have d2' : (c.toNat : Int) ≤ 57 := by omega
        have HV2 := Lib.hid (show val 10 ((bs s).take (k + 1)) = some (v * 10 + (c.toNat - 48)) by rw [val_take hc]; exact vstep_some HV.out (dv_digit hd))
        have HSAT := Lib.hid (sat (b := 10) (d := c.toNat - 48) (.inl rfl) HN.out.symm)
        clear hc
        go_wp2_with (refine (digit_any _ _).mono ?_; rintro e w1 ⟨rfl, rfl⟩; rw [hd])
        all_goals
          go_round
          case rel => exact ⟨k + 1, _, by omega, by go_num, HV2.out, intv (by rw [← HSAT.out]; split <;> omega)⟩
          case measure => simp [intOf]; omega
      | false =>
        have HR := Lib.hid (numR_none (most := M) (val_none hc (dv_bad10 hd)))
        clear hc
        go_wp2_with (first | (go_at_call 26; refine (digit_any _ _).mono ?_; rintro e w1 ⟨rfl, rfl⟩; rw [hd]) | (go_at_call 28; refine (hex_any _ _).mono ?_; rintro e w1 ⟨rfl, rfl⟩))
        go_ret2
        exact retNum_mk HR.out hF
    · obtain rfl : k = s.size := by omega
      have HR := Lib.hid (numR_some (b := 10) (most := M) (.inl rfl) HNE.out (by unfold big; omega) (show val 10 (bs s) = some v by have := HV.out; rwa [List.take_of_length_le (by rw [HS.out]; exact Nat.le_refl _)] at this))
      go_wp2
      go_ret2
      exact retNum_mk (HR.out.trans (by congr 1; omega)) hF

set_option maxRecDepth 100000 in
set_option maxHeartbeats 2000000 in
theorem number_neg10 (w : World) (s : ByteArray) (mo : Int) (hs : s.size ≤ 1048576) (h0 : ¬ s.size = 0) (hneg : mo < 0) :
    Calls Try.prog 20 #[.string s, .int .i64 10, .int .i64 mo] w (RetNum w (numR (bs s) 10 mo)) := by
  obtain ⟨e1, e2, e3⟩ := full_of h0
  have hne : bs s ≠ [] := fun e => h0 (by rw [size_bs, e]; rfl)
  have HS := Lib.hid (size_bs s)
  have hcv := run_bytes_of (P := Try.prog) s Try.underlying9 Try.underlying32 Try.underlying5 w
  have hB := bw_reads (P := Try.prog) w s 5
  have hF := bw_fr (P := Try.prog) w s 5
  generalize BWorld Try.prog w s 5 = W0 at *
  generalize grownCap w s.size 0 5 = cp at *
  have HNE := Lib.hid hne
  clear hne
  go_enter Try.func20, Try.ntmps20
  go_wp2
  go_loop [8, 10, 30] (fun n _ i => ∃ k v : Nat, k ≤ s.size ∧ i = .int .i64 k ∧ val 10 ((bs s).take k) = some v ∧ n = .int .i64 0) (fun _ _ i => s.size - (intOf i).toNat)
  case atStart => exact ⟨0, 0, Nat.zero_le _, rfl, rfl, rfl⟩
  case round =>
    obtain ⟨k, v, hk, rfl, hv, rfl⟩ := hrel
    have HV := Lib.hid hv
    clear hv
    by_cases hlt : k < s.size
    · obtain ⟨c, hc⟩ := byte_at s hlt
      have hcell := reads_byte_at hB hc
      rw [Addr.add_lit, Nat.zero_add] at hcell
      cases hd : dgB c with
      | true =>
        obtain ⟨d1, d2⟩ := dg_low c hd
        have d1' : (48 : Int) ≤ c.toNat := by omega
        have d2' : (c.toNat : Int) ≤ 57 := by omega
        have HV2 := Lib.hid (show val 10 ((bs s).take (k + 1)) = some (v * 10 + (c.toNat - 48)) by rw [val_take hc]; exact vstep_some HV.out (dv_digit hd))
        clear hc
        go_wp2_with (refine (digit_any _ _).mono ?_; rintro e w1 ⟨rfl, rfl⟩; rw [hd])
        all_goals
          go_round
          case rel => exact ⟨k + 1, _, by omega, by go_num, HV2.out, intv (by first | rfl | (split <;> omega) | omega)⟩
          case measure => simp [intOf]; omega
      | false =>
        have HR := Lib.hid (numR_none (most := mo) (val_none hc (dv_bad10 hd)))
        clear hc
        go_wp2_with (first | (go_at_call 26; refine (digit_any _ _).mono ?_; rintro e w1 ⟨rfl, rfl⟩; rw [hd]) | (go_at_call 28; refine (hex_any _ _).mono ?_; rintro e w1 ⟨rfl, rfl⟩))
        go_ret2
        exact retNum_mk HR.out hF
    · obtain rfl : k = s.size := by omega
      have HR := Lib.hid (numR_some (b := 10) (most := mo) (.inl rfl) HNE.out (by unfold big; omega) (show val 10 (bs s) = some v by have := HV.out; rwa [List.take_of_length_le (by rw [HS.out]; exact Nat.le_refl _)] at this))
      go_wp2
      go_ret2
      exact retNum_mk (HR.out.trans (by congr 1; omega)) hF

set_option maxRecDepth 100000 in
set_option maxHeartbeats 2000000 in
theorem number_pos16 (w : World) (s : ByteArray) (M : Nat) (hs : s.size ≤ 1048576) (h0 : ¬ s.size = 0) (hM : M ≤ 1125899906842624) :
    Calls Try.prog 20 #[.string s, .int .i64 16, .int .i64 (M : Int)] w (RetNum w (numR (bs s) 16 M)) := by
  obtain ⟨e1, e2, e3⟩ := full_of h0
  have hne : bs s ≠ [] := fun e => h0 (by rw [size_bs, e]; rfl)
  have HS := Lib.hid (size_bs s)
  have hcv := run_bytes_of (P := Try.prog) s Try.underlying9 Try.underlying32 Try.underlying5 w
  have hB := bw_reads (P := Try.prog) w s 5
  have hF := bw_fr (P := Try.prog) w s 5
  generalize BWorld Try.prog w s 5 = W0 at *
  generalize grownCap w s.size 0 5 = cp at *
  have hneg : ¬ (M : Int) < 0 := by omega
  have hbig : ¬ (1125899906842624 : Int) < M := by omega
  have HNE := Lib.hid hne
  clear hne
  go_enter Try.func20, Try.ntmps20
  go_wp2
  go_loop [8, 10, 30] (fun n _ i => ∃ k v : Nat, k ≤ s.size ∧ i = .int .i64 k ∧ val 16 ((bs s).take k) = some v ∧ n = .int .i64 ((min v M : Nat) : Int)) (fun _ _ i => s.size - (intOf i).toNat)
  case atStart => exact ⟨0, 0, Nat.zero_le _, rfl, rfl, by simp⟩
  case round =>
    obtain ⟨k, v, hk, rfl, hv, rfl⟩ := hrel
    have HV := Lib.hid hv
    clear hv
    by_cases hlt : k < s.size
    · obtain ⟨c, hc⟩ := byte_at s hlt
      have hcell := reads_byte_at hB hc
      rw [Addr.add_lit, Nat.zero_add] at hcell
      obtain ⟨n, hn⟩ : ∃ n, min v M = n := ⟨_, rfl⟩
      have hnM : n ≤ M := by omega
      have HN := Lib.hid hn
      rw [hn]
      clear hn
      cases hd : dgB c with
      | true =>
        obtain ⟨d1, d2⟩ := dg_low c hd
        have d1' : (48 : Int) ≤ c.toNat := by omega
        have d2' : (c.toNat : Int) ≤ 57 := by omega
        have HV2 := Lib.hid (show val 16 ((bs s).take (k + 1)) = some (v * 16 + (c.toNat - 48)) by rw [val_take hc]; exact vstep_some HV.out (dv_digit hd))
        have HSAT := Lib.hid (sat (b := 16) (d := c.toNat - 48) (.inr rfl) HN.out.symm)
        clear hc
        go_wp2_with (refine (digit_any _ _).mono ?_; rintro e w1 ⟨rfl, rfl⟩; rw [hd])
        all_goals
          go_round
          case rel => exact ⟨k + 1, _, by omega, by go_num, HV2.out, intv (by rw [← HSAT.out]; split <;> omega)⟩
          case measure => simp [intOf]; omega
      | false =>
        cases hx : hxB c with
        | false =>
          have HR := Lib.hid (numR_none (most := M) (val_none hc (dv_bad hd hx 16)))
          clear hc
          go_wp2_with (first | (go_at_call 26; refine (digit_any _ _).mono ?_; rintro e w1 ⟨rfl, rfl⟩; rw [hd]) | (go_at_call 28; refine (hex_any _ _).mono ?_; rintro e w1 ⟨rfl, rfl⟩; rw [hx]))
          go_ret2
          exact retNum_mk HR.out hF
        | true =>
          have hor := or32 c
          obtain ⟨d1, d2⟩ := hx_low c hx hd
          have HV2 := Lib.hid (show val 16 ((bs s).take (k + 1)) = some (v * 16 + ((c ||| 32).toNat - 87)) by rw [val_take hc]; exact vstep_some HV.out (dv_letter hd hx))
          have HSAT := Lib.hid (sat (b := 16) (d := (c ||| 32).toNat - 87) (.inr rfl) HN.out.symm)
          generalize (c ||| 32) = u at *
          have d1' : (97 : Int) ≤ u.toNat := by omega
          have d2' : (u.toNat : Int) ≤ 102 := by omega
          clear hc
          go_wp2_with (first | (go_at_call 26; refine (digit_any _ _).mono ?_; rintro e w1 ⟨rfl, rfl⟩; rw [hd]) | (go_at_call 28; refine (hex_any _ _).mono ?_; rintro e w1 ⟨rfl, rfl⟩; rw [hx]))
          all_goals
            go_round
            case rel => exact ⟨k + 1, _, by omega, by go_num, HV2.out, intv (by rw [← HSAT.out]; split <;> omega)⟩
            case measure => simp [intOf]; omega
    · obtain rfl : k = s.size := by omega
      have HR := Lib.hid (numR_some (b := 16) (most := M) (.inr rfl) HNE.out (by unfold big; omega) (show val 16 (bs s) = some v by have := HV.out; rwa [List.take_of_length_le (by rw [HS.out]; exact Nat.le_refl _)] at this))
      go_wp2
      go_ret2
      exact retNum_mk (HR.out.trans (by congr 1; omega)) hF

set_option maxRecDepth 100000 in
set_option maxHeartbeats 2000000 in
theorem number_neg16 (w : World) (s : ByteArray) (mo : Int) (hs : s.size ≤ 1048576) (h0 : ¬ s.size = 0) (hneg : mo < 0) :
    Calls Try.prog 20 #[.string s, .int .i64 16, .int .i64 mo] w (RetNum w (numR (bs s) 16 mo)) := by
  obtain ⟨e1, e2, e3⟩ := full_of h0
  have hne : bs s ≠ [] := fun e => h0 (by rw [size_bs, e]; rfl)
  have HS := Lib.hid (size_bs s)
  have hcv := run_bytes_of (P := Try.prog) s Try.underlying9 Try.underlying32 Try.underlying5 w
  have hB := bw_reads (P := Try.prog) w s 5
  have hF := bw_fr (P := Try.prog) w s 5
  generalize BWorld Try.prog w s 5 = W0 at *
  generalize grownCap w s.size 0 5 = cp at *
  have HNE := Lib.hid hne
  clear hne
  go_enter Try.func20, Try.ntmps20
  go_wp2
  go_loop [8, 10, 30] (fun n _ i => ∃ k v : Nat, k ≤ s.size ∧ i = .int .i64 k ∧ val 16 ((bs s).take k) = some v ∧ n = .int .i64 0) (fun _ _ i => s.size - (intOf i).toNat)
  case atStart => exact ⟨0, 0, Nat.zero_le _, rfl, rfl, rfl⟩
  case round =>
    obtain ⟨k, v, hk, rfl, hv, rfl⟩ := hrel
    have HV := Lib.hid hv
    clear hv
    by_cases hlt : k < s.size
    · obtain ⟨c, hc⟩ := byte_at s hlt
      have hcell := reads_byte_at hB hc
      rw [Addr.add_lit, Nat.zero_add] at hcell
      cases hd : dgB c with
      | true =>
        obtain ⟨d1, d2⟩ := dg_low c hd
        have d1' : (48 : Int) ≤ c.toNat := by omega
        have d2' : (c.toNat : Int) ≤ 57 := by omega
        have HV2 := Lib.hid (show val 16 ((bs s).take (k + 1)) = some (v * 16 + (c.toNat - 48)) by rw [val_take hc]; exact vstep_some HV.out (dv_digit hd))
        clear hc
        go_wp2_with (refine (digit_any _ _).mono ?_; rintro e w1 ⟨rfl, rfl⟩; rw [hd])
        all_goals
          go_round
          case rel => exact ⟨k + 1, _, by omega, by go_num, HV2.out, intv (by first | rfl | (split <;> omega) | omega)⟩
          case measure => simp [intOf]; omega
      | false =>
        cases hx : hxB c with
        | false =>
          have HR := Lib.hid (numR_none (most := mo) (val_none hc (dv_bad hd hx 16)))
          clear hc
          go_wp2_with (first | (go_at_call 26; refine (digit_any _ _).mono ?_; rintro e w1 ⟨rfl, rfl⟩; rw [hd]) | (go_at_call 28; refine (hex_any _ _).mono ?_; rintro e w1 ⟨rfl, rfl⟩; rw [hx]))
          go_ret2
          exact retNum_mk HR.out hF
        | true =>
          have hor := or32 c
          obtain ⟨d1, d2⟩ := hx_low c hx hd
          have HV2 := Lib.hid (show val 16 ((bs s).take (k + 1)) = some (v * 16 + ((c ||| 32).toNat - 87)) by rw [val_take hc]; exact vstep_some HV.out (dv_letter hd hx))
          generalize (c ||| 32) = u at *
          have d1' : (97 : Int) ≤ u.toNat := by omega
          have d2' : (u.toNat : Int) ≤ 102 := by omega
          clear hc
          go_wp2_with (first | (go_at_call 26; refine (digit_any _ _).mono ?_; rintro e w1 ⟨rfl, rfl⟩; rw [hd]) | (go_at_call 28; refine (hex_any _ _).mono ?_; rintro e w1 ⟨rfl, rfl⟩; rw [hx]))
          all_goals
            go_round
            case rel => exact ⟨k + 1, _, by omega, by go_num, HV2.out, intv (by first | rfl | (split <;> omega) | omega)⟩
            case measure => simp [intOf]; omega
    · obtain rfl : k = s.size := by omega
      have HR := Lib.hid (numR_some (b := 16) (most := mo) (.inr rfl) HNE.out (by unfold big; omega) (show val 16 (bs s) = some v by have := HV.out; rwa [List.take_of_length_le (by rw [HS.out]; exact Nat.le_refl _)] at this))
      go_wp2
      go_ret2
      exact retNum_mk (HR.out.trans (by congr 1; omega)) hF

theorem number_any (w : World) (s : ByteArray) (base most : Int) (hs : s.size ≤ 1048576) :
    Calls Try.prog 20 #[.string s, .int .i64 base, .int .i64 most] w (RetNum w (numR (bs s) base most)) := by
  by_cases h : bs s = [] ∨ ¬ (base = 10 ∨ base = 16) ∨ big < most
  · exact number_bad w s base most h
  · have h0 : ¬ s.size = 0 := fun e => h (.inl (empty_bs e))
    have hm : most ≤ 1125899906842624 := by
      have : ¬ big < most := fun e => h (.inr (.inr e))
      unfold big at this
      omega
    have hb : base = 10 ∨ base = 16 := Classical.byContradiction fun e => h (.inr (.inl e))
    by_cases hneg : most < 0
    · rcases hb with rfl | rfl
      · exact number_neg10 w s most hs h0 hneg
      · exact number_neg16 w s most hs h0 hneg
    · obtain ⟨M, rfl⟩ : ∃ M : Nat, most = M := ⟨most.toNat, by omega⟩
      rcases hb with rfl | rfl
      · exact number_pos10 w s M hs h0 (by omega)
      · exact number_pos16 w s M hs h0 (by omega)
end Go.Proofs.Yticofnfjebifgaa
