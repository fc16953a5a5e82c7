/-
  cribbleref03.Same on two lists that are the same.
-/
import Derived.Test.YthhlpbopbabojaaUtil
import Derived.Test.YthhlpbopbabojaaChecked
namespace Go.Proofs.Ythhlpbopbabojaa
open Go.RowKit

set_option maxHeartbeats 400000 in
theorem same_yes (w : World) (B1 B2 : Nat) (A1 A2 : Option Addr) (n c1 c2 : Nat) (L : List ByteArray) (h1 : Reads w B1 1 A1 n (L.map .string)) (h2 : Reads w B2 1 A2 n (L.map .string)) (hn : n ≤ 1048576) :
    Calls Try.prog 19 #[.slice A1 n c1, .slice A2 n c2] w fun e w' => e = .returned (.bool true) ∧ ∃ m, w' = w.drewN m := by
  have hlen : L.length = n := by simpa using h1.1
  go_enter Try.func19, Try.ntmps19
  go_wp2
  go_loopw [5] (fun i wr => ∃ (k m : Nat), i = .int .i64 k ∧ k ≤ n ∧ wr = w.drewN m) (fun i _ => (n - intOf i).toNat)
  case atStart => exact ⟨0, 0, rfl, Nat.zero_le _, rfl⟩
  case round =>
    obtain ⟨k, m, rfl, hk, rfl⟩ := hrel
    by_cases hlt : k < n
    · obtain ⟨a1, u1, rfl, _, hu1, hc1⟩ := h1.at_ hlt
      obtain ⟨a2, u2, rfl, _, hu2, hc2⟩ := h2.at_ hlt
      obtain ⟨s, hs⟩ : ∃ s, L[k]? = some s := ⟨L[k]'(by omega), List.getElem?_eq_getElem _⟩
      rw [List.getElem?_map, hs] at hu1 hu2
      obtain rfl : Value.string s = u1 := by simpa using hu1
      obtain rfl : Value.string s = u2 := by simpa using hu2
      clear hu1 hu2 hs
      have hL := Lib.hid hlen
      clear hlen
      go_wp2_with fail
      go_quiet (fail)
      go_wp2_with fail
      go_roundw
      case rel => exact ⟨k + 1, _, by go_num, by omega, rfl⟩
      case measure => simp [intOf]; omega
    · go_wp2
      go_ret
      exact ⟨rfl, m, rfl⟩

end Go.Proofs.Ythhlpbopbabojaa
