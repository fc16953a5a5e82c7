/-
  What bytes are: class.between, Digit, walked. Small words on texts, plain.
-/
import Derived.Test.YtblbcojkjknfdaaDoorStr
import Derived.Test.YtblbcojkjknfdaaDoorChecked
import Derived.Lib.Strings
namespace Go.Proofs.YtblbcojkjknfdaaDoor
open Go.RowKit

def btw (x lo hi : Int) : Bool := decide (lo ≤ x ∧ x ≤ hi)
def dgB (c : UInt8) : Bool := decide (48 ≤ c.toNat ∧ c.toNat ≤ 57)

theorem between_any (w : World) (x lo hi : Int) :
    Calls Tryd.prog 29 #[.int .u8 x, .int .u8 lo, .int .u8 hi] w fun e w' => e = .returned (.bool (btw x lo hi)) ∧ w = w' := by
  unfold btw
  go_enter Tryd.func29, Tryd.ntmps29
  by_cases h1 : lo ≤ x <;> by_cases h2 : x ≤ hi <;> (go_wp2; go_ret; exact ⟨by simp [h1, h2], rfl⟩)

theorem ret_bool {a b : Bool} (h : a = b) : Ending.returned (.bool a) = .returned (.bool b) := by rw [h]

theorem digit_any (w : World) (c : UInt8) :
    Calls Tryd.prog 31 #[.int .u8 (c.toNat : Int)] w fun e w' => e = .returned (.bool (dgB c)) ∧ w = w' := by
  go_enter Tryd.func31, Tryd.ntmps31
  go_wp2_with (refine (between_any _ _ _ _).mono ?_; rintro e w1 ⟨rfl, rfl⟩)
  all_goals
    go_ret
    refine ⟨ret_bool ?_, rfl⟩
    unfold dgB btw
    rw [Bool.eq_iff_iff]
    simp
    try omega
end Go.Proofs.YtblbcojkjknfdaaDoor

namespace Go.Proofs.YtblbcojkjknfdaaDoor

theorem drop_at {l : List UInt8} {k : Nat} {c : UInt8} (h : l[k]? = some c) : l.drop k = c :: l.drop (k + 1) := by
  obtain ⟨hk, rfl⟩ := List.getElem?_eq_some_iff.1 h
  exact List.drop_eq_getElem_cons hk
theorem take_at {l : List UInt8} {k : Nat} {c : UInt8} (h : l[k]? = some c) : l.take (k + 1) = l.take k ++ [c] := by
  obtain ⟨hk, rfl⟩ := List.getElem?_eq_some_iff.1 h
  rw [List.take_succ_eq_append_getElem hk]
theorem byte_at (s : ByteArray) {k : Nat} (h : k < s.size) : ∃ c, (bs s)[k]? = some c := ⟨_, List.getElem?_eq_getElem (by rw [← size_bs]; exact h)⟩
theorem ret_str {a b : ByteArray} (h : a = b) : Ending.returned (.string a) = .returned (.string b) := by rw [h]

theorem empty_of {t : ByteArray} (h : t.size = 0) : t.toList = [] ∧ t.toList.isEmpty = true ∧ (!t.toList.isEmpty) = false := by
  have h1 : t.toList = [] := by
    rw [Lib.toList_data]
    exact List.eq_nil_of_length_eq_zero (by simpa using h)
  simp [h1]
theorem full_of {t : ByteArray} (h : ¬ t.size = 0) : ¬ t.toList = [] ∧ t.toList.isEmpty = false ∧ (!t.toList.isEmpty) = true := by
  have h1 : ¬ t.toList = [] := by
    rw [Lib.toList_data]
    intro h2
    apply h
    have := congrArg List.length h2
    simpa using this
  simp [h1]
theorem empty_bs {t : ByteArray} (h : t.size = 0) : bs t = [] := List.eq_nil_of_length_eq_zero (by rw [← size_bs]; exact h)
end Go.Proofs.YtblbcojkjknfdaaDoor
