/-
  What bytes are: class.Space, Letter, Digit, Hex and the references' own, walked.
-/
import Derived.Test.YticofnfjebifgaaStr
import Derived.Test.YticofnfjebifgaaChecked
namespace Go.Proofs.Yticofnfjebifgaa
open Go.RowKit

def btw (x lo hi : Int) : Bool := decide (lo ≤ x ∧ x ≤ hi)
/-- a space; a letter; a digit; a figure to the base 16 -/
def spB (c : UInt8) : Bool := decide (c.toNat = 9 ∨ c.toNat = 10 ∨ c.toNat = 12 ∨ c.toNat = 13 ∨ c.toNat = 32)
def ltB (c : UInt8) : Bool := decide ((65 ≤ c.toNat ∧ c.toNat ≤ 90) ∨ (97 ≤ c.toNat ∧ c.toNat ≤ 122))
def dgB (c : UInt8) : Bool := decide (48 ≤ c.toNat ∧ c.toNat ≤ 57)
def hxB (c : UInt8) : Bool := decide ((48 ≤ c.toNat ∧ c.toNat ≤ 57) ∨ (65 ≤ c.toNat ∧ c.toNat ≤ 70) ∨ (97 ≤ c.toNat ∧ c.toNat ≤ 102))

theorem all_bytes (p : UInt8 → Bool) (h : ∀ n : Fin 256, p (UInt8.ofNat n.val) = true) (c : UInt8) : p c = true := by
  have := h ⟨c.toNat, c.toNat_lt⟩
  simpa using this
theorem eq_bytes (f g : UInt8 → Bool) (h : ∀ n : Fin 256, (f (UInt8.ofNat n.val) == g (UInt8.ofNat n.val)) = true) (c : UInt8) : f c = g c := by
  simpa using all_bytes (fun c => f c == g c) h c
theorem or_byte (c : UInt8) (n : Nat) (hn : n < 256) : bits .or .u8 (c.toNat : Int) (n : Int) = ((c ||| UInt8.ofNat n).toNat : Int) := by
  have h1 : BitVec.ofInt 8 (c.toNat : Int) = BitVec.ofNat 8 c.toNat := BitVec.eq_of_toNat_eq (by simp)
  have h2 : BitVec.ofInt 8 (n : Int) = BitVec.ofNat 8 n := BitVec.eq_of_toNat_eq (by simp)
  have h3 : (BitVec.ofInt 8 (c.toNat : Int) ||| BitVec.ofInt 8 (n : Int)).toNat = (c ||| UInt8.ofNat n).toNat := by
    rw [h1, h2]
    simp
  have h4 : (c ||| UInt8.ofNat n).toNat < 256 := UInt8.toNat_lt _
  show IntKind.u8.wrap ((BitVec.ofInt 8 (c.toNat : Int) ||| BitVec.ofInt 8 (n : Int)).toNat : Int) = _
  rw [h3, IntKind.wrap_u8']
  omega

theorem between_any (w : World) (x lo hi : Int) :
    Calls Try.prog 30 #[.int .u8 x, .int .u8 lo, .int .u8 hi] w fun e w' => e = .returned (.bool (btw x lo hi)) ∧ w = w' := by
  unfold btw
  go_enter Try.func30, Try.ntmps30
  by_cases h1 : lo ≤ x <;> by_cases h2 : x ≤ hi <;> (go_wp2; go_ret; exact ⟨by simp [h1, h2], rfl⟩)

theorem ret_bool {a b : Bool} (h : a = b) : Ending.returned (.bool a) = .returned (.bool b) := by rw [h]

theorem rspace_any (w : World) (c : UInt8) :
    Calls Try.prog 23 #[.int .u8 (c.toNat : Int)] w fun e w' => e = .returned (.bool (spB c)) ∧ w = w' := by
  go_enter Try.func23, Try.ntmps23
  go_wp2
  all_goals
    go_ret
    refine ⟨ret_bool ?_, rfl⟩
    unfold spB
    rw [Bool.eq_iff_iff]
    simp
    try omega

theorem rletter_any (w : World) (c : UInt8) :
    Calls Try.prog 25 #[.int .u8 (c.toNat : Int)] w fun e w' => e = .returned (.bool (ltB c)) ∧ w = w' := by
  go_enter Try.func25, Try.ntmps25
  go_wp2
  all_goals
    go_ret
    refine ⟨ret_bool ?_, rfl⟩
    unfold ltB
    rw [Bool.eq_iff_iff]
    simp
    try omega

theorem rdigit_any (w : World) (c : UInt8) :
    Calls Try.prog 27 #[.int .u8 (c.toNat : Int)] w fun e w' => e = .returned (.bool (dgB c)) ∧ w = w' := by
  go_enter Try.func27, Try.ntmps27
  go_wp2
  all_goals
    go_ret
    refine ⟨ret_bool ?_, rfl⟩
    unfold dgB
    rw [Bool.eq_iff_iff]
    simp
    try omega

theorem digit_any (w : World) (c : UInt8) :
    Calls Try.prog 26 #[.int .u8 (c.toNat : Int)] w fun e w' => e = .returned (.bool (dgB c)) ∧ w = w' := by
  go_enter Try.func26, Try.ntmps26
  go_wp2_with (refine (between_any _ _ _ _).mono ?_; rintro e w1 ⟨rfl, rfl⟩)
  all_goals
    go_ret
    refine ⟨ret_bool ?_, rfl⟩
    unfold dgB btw
    rw [Bool.eq_iff_iff]
    simp
    try omega

theorem or32_lt (c : UInt8) : btw ((c ||| 32).toNat : Int) 97 122 = ltB c := by
  have h := eq_bytes (fun c => btw ((c ||| 32).toNat : Int) 97 122) ltB (by decide +kernel) c
  exact h
theorem or32_hx (c : UInt8) : (dgB c || btw ((c ||| 32).toNat : Int) 97 102) = hxB c := by
  have h := eq_bytes (fun c => dgB c || btw ((c ||| 32).toNat : Int) 97 102) hxB (by decide +kernel) c
  exact h
theorem or32 (c : UInt8) : bits .or .u8 (c.toNat : Int) 32 = ((c ||| 32).toNat : Int) := or_byte c 32 (by decide)
theorem letter_any (w : World) (c : UInt8) :
    Calls Try.prog 24 #[.int .u8 (c.toNat : Int)] w fun e w' => e = .returned (.bool (ltB c)) ∧ w = w' := by
  have h32 := or32 c
  go_enter Try.func24, Try.ntmps24
  go_wp2_with (refine (between_any _ _ _ _).mono ?_; rintro e w1 ⟨rfl, rfl⟩)
  go_ret
  exact ⟨ret_bool (or32_lt c), rfl⟩

theorem space_any (w : World) (c : UInt8) :
    Calls Try.prog 22 #[.int .u8 (c.toNat : Int)] w fun e w' => e = .returned (.bool (spB c)) ∧ w = w' := by
  go_enter Try.func22, Try.ntmps22
  go_wp2_with (refine (between_any _ _ _ _).mono ?_; rintro e w1 ⟨rfl, rfl⟩)
  all_goals
    go_ret
    refine ⟨ret_bool ?_, rfl⟩
    unfold spB
    try simp only [btw] at *
    rw [Bool.eq_iff_iff]
    simp at *
    try omega

theorem hex_any (w : World) (c : UInt8) :
    Calls Try.prog 28 #[.int .u8 (c.toNat : Int)] w fun e w' => e = .returned (.bool (hxB c)) ∧ w = w' := by
  have h32 := or32 c
  have hr := or32_hx c
  by_cases hd : dgB c = true
  · rw [hd, Bool.true_or] at hr
    go_enter Try.func28, Try.ntmps28
    go_wp2_with (refine (digit_any _ _).mono ?_; rintro e w1 ⟨rfl, rfl⟩)
    go_ret
    exact ⟨rfl, rfl⟩
  · replace hd : dgB c = false := by simpa using hd
    rw [hd, Bool.false_or] at hr
    go_enter Try.func28, Try.ntmps28
    go_wp2_with (first | (go_at_call 26; refine (digit_any _ _).mono ?_; rintro e w1 ⟨rfl, rfl⟩) | (go_at_call 30; refine (between_any _ _ _ _).mono ?_; rintro e w1 ⟨rfl, rfl⟩))
    go_ret
    exact ⟨ret_bool hr, rfl⟩

theorem rhex_any (w : World) (c : UInt8) :
    Calls Try.prog 29 #[.int .u8 (c.toNat : Int)] w fun e w' => e = .returned (.bool (hxB c)) ∧ w = w' := by
  go_enter Try.func29, Try.ntmps29
  go_wp2_with (refine (rdigit_any _ _).mono ?_; rintro e w1 ⟨rfl, rfl⟩)
  all_goals
    go_ret
    refine ⟨ret_bool ?_, rfl⟩
    unfold hxB
    try simp only [dgB] at *
    rw [Bool.eq_iff_iff]
    simp at *
    try omega

end Go.Proofs.Yticofnfjebifgaa
