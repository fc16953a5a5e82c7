/-
  What bytes are: class.between, Digit, the reference's Digit, walked.
-/
import Derived.Test.YtblbcojkjknfdaaStr
import Derived.Test.YtblbcojkjknfdaaChecked
namespace Go.Proofs.Ytblbcojkjknfdaa
open Go.RowKit

def btw (x lo hi : Int) : Bool := decide (lo ≤ x ∧ x ≤ hi)
def dgB (c : UInt8) : Bool := decide (48 ≤ c.toNat ∧ c.toNat ≤ 57)

theorem between_any (w : World) (x lo hi : Int) :
    Calls Try.prog 27 #[.int .u8 x, .int .u8 lo, .int .u8 hi] w fun e w' => e = .returned (.bool (btw x lo hi)) ∧ w = w' := by
  unfold btw
  go_enter Try.func27, Try.ntmps27
  by_cases h1 : lo ≤ x <;> by_cases h2 : x ≤ hi <;> (go_wp2; go_ret; exact ⟨by simp [h1, h2], rfl⟩)

theorem ret_bool {a b : Bool} (h : a = b) : Ending.returned (.bool a) = .returned (.bool b) := by rw [h]

theorem rdigit_any (w : World) (c : UInt8) :
    Calls Try.prog 34 #[.int .u8 (c.toNat : Int)] w fun e w' => e = .returned (.bool (dgB c)) ∧ w = w' := by
  go_enter Try.func34, Try.ntmps34
  go_wp2
  all_goals
    go_ret
    refine ⟨ret_bool ?_, rfl⟩
    unfold dgB
    rw [Bool.eq_iff_iff]
    simp
    try omega

theorem digit_any (w : World) (c : UInt8) :
    Calls Try.prog 29 #[.int .u8 (c.toNat : Int)] w fun e w' => e = .returned (.bool (dgB c)) ∧ w = w' := by
  go_enter Try.func29, Try.ntmps29
  go_wp2_with (refine (between_any _ _ _ _).mono ?_; rintro e w1 ⟨rfl, rfl⟩)
  all_goals
    go_ret
    refine ⟨ret_bool ?_, rfl⟩
    unfold dgB btw
    rw [Bool.eq_iff_iff]
    simp
    try omega
end Go.Proofs.Ytblbcojkjknfdaa
