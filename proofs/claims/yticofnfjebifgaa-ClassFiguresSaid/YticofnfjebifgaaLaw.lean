/-
  The laws of chapter 3, walked: awake, ClassBytes, ClassTexts, ClassNumbers.
-/
import Derived.Test.YticofnfjebifgaaLower
import Derived.Test.YticofnfjebifgaaRTrim
import Derived.Test.YticofnfjebifgaaRFields
import Derived.Test.YticofnfjebifgaaRNum
import Derived.Test.YticofnfjebifgaaSame
namespace Go.Proofs.Yticofnfjebifgaa
open Go.RowKit

theorem strs_map (L : List (List UInt8)) : strs L = (L.map str).map .string := by simp [strs]
theorem made_reads {w' : World} {L : List (List UInt8)} {A : Option Addr} {c : Nat} (h : Own w' 9 1 A L.length c (strs L)) : Reads w' w'.heap.size 1 A L.length ((L.map str).map .string) := by
  have := h.reads
  rwa [strs_map] at this

set_option maxRecDepth 100000 in
set_option maxHeartbeats 1000000 in
theorem awake_any (w : World) : Calls Try.prog 10 #[] w fun e w' => e = .returned (.bool true) ∧ Fr Nil w w' := by
  have h1 := Lib.hid (fun (W : World) => fieldsw_any W ⟨#[32, 97, 32, 32, 98, 32]⟩ (by decide))
  have h2 := Lib.hid (fun (W : World) => number_any W ⟨#[102, 102, 102, 102, 102, 102, 102, 102, 102, 102, 102, 102, 102, 102, 102, 102, 102, 102]⟩ 16 1114112 (by decide))
  have h3 := Lib.hid (fun (W : World) => word_any W ⟨#[97, 45, 49]⟩)
  have h4 := Lib.hid (fun (W : World) => lower_any W ⟨#[65, 195, 132]⟩ (by decide))
  have f1 : fields (bs ⟨#[32, 97, 32, 32, 98, 32]⟩) = [[97], [98]] := by decide +kernel
  have f2 : numR (bs ⟨#[102, 102, 102, 102, 102, 102, 102, 102, 102, 102, 102, 102, 102, 102, 102, 102, 102, 102]⟩) 16 1114112 = (1114112, true) := by decide +kernel
  have f3 : wordB (bs ⟨#[97, 45, 49]⟩) = true := by decide +kernel
  have f4 : lower (bs ⟨#[65, 195, 132]⟩) = [97, 195, 132] := by decide +kernel
  rw [f1] at h1
  rw [f2] at h2
  rw [f3] at h3
  rw [f4] at h4
  have e4 : ((str [97, 195, 132]).toList == [97, 195, 132]) = true := by rw [Lib.toList_data]; rfl
  clear f1 f2 f3 f4
  go_enter Try.func10, Try.ntmps10
  go_wp2_with fail
  refine (h1.out _).mono ?_
  rintro e w1 ⟨v, rfl, A, c, rfl, _, f1, _⟩
  go_wp2_with fail
  refine (h2.out _).mono ?_
  rintro e w2 ⟨rfl, f2⟩
  go_wp2_with fail
  refine (h3.out _).mono ?_
  rintro e w3 ⟨rfl, f3⟩
  go_wp2_with fail
  refine (h4.out _).mono ?_
  rintro e w4 ⟨rfl, f4⟩
  go_wp2_with fail
  go_ret
  exact ⟨rfl, ((f1.trans f2).trans f3).trans f4⟩

set_option maxHeartbeats 1000000 in
theorem bytes_any (w : World) (c : UInt8) : Calls Try.prog 9 #[.int .u8 (c.toNat : Int)] w fun e w' => e = .returned (.bool true) ∧ Fr Nil w w' := by
  go_enter Try.func9, Try.ntmps9
  go_wp2_with fail
  refine (awake_any _).mono ?_
  rintro e w1 ⟨rfl, f1⟩
  go_wp2_with (first
    | (go_at_call 22; refine (space_any _ _).mono ?_; rintro e w2 ⟨rfl, rfl⟩)
    | (go_at_call 23; refine (rspace_any _ _).mono ?_; rintro e w2 ⟨rfl, rfl⟩)
    | (go_at_call 24; refine (letter_any _ _).mono ?_; rintro e w2 ⟨rfl, rfl⟩)
    | (go_at_call 25; refine (rletter_any _ _).mono ?_; rintro e w2 ⟨rfl, rfl⟩)
    | (go_at_call 26; refine (digit_any _ _).mono ?_; rintro e w2 ⟨rfl, rfl⟩)
    | (go_at_call 27; refine (rdigit_any _ _).mono ?_; rintro e w2 ⟨rfl, rfl⟩)
    | (go_at_call 28; refine (hex_any _ _).mono ?_; rintro e w2 ⟨rfl, rfl⟩)
    | (go_at_call 29; refine (rhex_any _ _).mono ?_; rintro e w2 ⟨rfl, rfl⟩))
  all_goals
    go_ret
    exact ⟨rfl, f1⟩

theorem bytes_int (w : World) (x : Int) (h : 0 ≤ x ∧ x ≤ 255) : Calls Try.prog 9 #[.int .u8 x] w fun e w' => e = .returned (.bool true) ∧ Fr Nil w w' := by
  have hx : ((UInt8.ofNat x.toNat).toNat : Int) = x := by
    rw [UInt8.toNat_ofNat_of_lt' (by show x.toNat < 256; omega)]
    omega
  have := bytes_any w (UInt8.ofNat x.toNat)
  rwa [hx] at this

set_option maxHeartbeats 1000000 in
theorem texts_any (w : World) (s : ByteArray) : Calls Try.prog 3 #[.string s] w fun e w' => e = .returned (.bool true) ∧ Fr Nil w w' := by
  by_cases hb : 3000 < s.size
  · have hb' : (3000 : Int) < s.size := by omega
    go_enter Try.func3, Try.ntmps3
    go_wp2_with fail
    refine (awake_any _).mono ?_
    rintro e w1 ⟨rfl, f1⟩
    go_wp2_with fail
    go_ret
    exact ⟨rfl, f1⟩
  · have hb' : ¬ (3000 : Int) < s.size := by omega
    have hs : s.size ≤ 1048576 := by omega
    have e1 := str_beq_self (str (lower (bs s)))
    have e2 := str_beq_self (str (trim (bs s)))
    have hfl : (fields (bs s)).length ≤ 1048576 := by have := fields_len (bs s); rw [← size_bs] at this; omega
    go_enter Try.func3, Try.ntmps3
    go_wp2_with fail
    refine (awake_any _).mono ?_
    rintro e w1 ⟨rfl, f1⟩
    go_wp2_with fail
    refine (lower_any _ s hs).mono ?_
    rintro e w2 ⟨rfl, f2⟩
    go_wp2_with fail
    refine (rlower_any _ s hs).mono ?_
    rintro e w3 ⟨rfl, f3⟩
    go_wp2_with fail
    refine (trim_any _ s hs).mono ?_
    rintro e w4 ⟨rfl, rfl⟩
    go_wp2_with fail
    refine (rtrim_any _ s hs).mono ?_
    rintro e w5 ⟨rfl, rfl⟩
    go_wp2_with fail
    refine (fieldsw_any _ s hs).mono ?_
    rintro e w6 ⟨v, rfl, A, c, rfl, o6, f6, _⟩
    go_wp2_with fail
    refine (rfields_any _ s hs).mono ?_
    rintro e w7 ⟨v, rfl, A2, c2, rfl, o7, f7, _⟩
    have o6b := o6.fr f7 fun _ _ x => x
    go_wp2_with fail
    refine (same_yes _ _ _ _ _ _ _ _ _ (made_reads o6b) (made_reads o7) hfl).mono ?_
    rintro e w8 ⟨rfl, m, rfl⟩
    go_wp2_with fail
    refine (word_any _ s).mono ?_
    rintro e w9 ⟨rfl, f9⟩
    go_wp2_with fail
    refine (rword_any _ s).mono ?_
    rintro e w10 ⟨rfl, rfl⟩
    go_wp2_with fail
    all_goals
      go_ret
      exact ⟨rfl, ((((f1.trans f2).trans f3).trans f6).trans f7).drewN m |>.trans f9⟩

set_option maxHeartbeats 1000000 in
theorem numbers_any (w : World) (s : ByteArray) (base most : Int) : Calls Try.prog 4 #[.string s, .int .i64 base, .int .i64 most] w fun e w' => e = .returned (.bool true) ∧ Fr Nil w w' := by
  by_cases hb : 3000 < s.size
  · have hb' : (3000 : Int) < s.size := by omega
    go_enter Try.func4, Try.ntmps4
    go_wp2_with fail
    refine (awake_any _).mono ?_
    rintro e w1 ⟨rfl, f1⟩
    go_wp2_with fail
    go_ret
    exact ⟨rfl, f1⟩
  · have hb' : ¬ (3000 : Int) < s.size := by omega
    have hs : s.size ≤ 1048576 := by omega
    go_enter Try.func4, Try.ntmps4
    go_wp2_with fail
    refine (awake_any _).mono ?_
    rintro e w1 ⟨rfl, f1⟩
    go_wp2_with fail
    refine (number_any _ s base most hs).mono ?_
    rintro e w2 ⟨rfl, f2⟩
    go_wp2_with fail
    refine (rnumber_any _ s base most hs).mono ?_
    rintro e w3 ⟨rfl, f3⟩
    go_wp2_with fail
    all_goals
      go_ret
      exact ⟨rfl, (f1.trans f2).trans f3⟩
end Go.Proofs.Yticofnfjebifgaa
