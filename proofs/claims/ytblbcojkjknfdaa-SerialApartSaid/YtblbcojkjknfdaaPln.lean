/-
  scan.Raw, cribbleref18.Raw, cribbleref22.nul, serial.fine, walked.
-/
import Derived.Test.YtblbcojkjknfdaaPlnP
import Derived.Test.YtblbcojkjknfdaaLay
import Derived.Maps.Own
import Derived.Deep.QuietTactic
import Derived.BigQuiet
namespace Go.Proofs.Ytblbcojkjknfdaa
open Go.RowKit

theorem ret_z {a b : Int} (h : a = b) : Ending.returned (.int .i64 a) = .returned (.int .i64 b) := by rw [h]
set_option maxRecDepth 100000 in
set_option maxHeartbeats 4000000 in
theorem raw_any (s : ByteArray) (w : World) : Calls Try.prog 16 #[.string s] w fun e w' => e = .returned (.int .i64 (rawZ s)) ∧ w = w' := by
  go_enter Try.func16, Try.ntmps16
  go_wp2
  all_goals
    go_ret
    exact ⟨ret_z (by unfold rawZ; first | (simp only [*, if_true, if_false, Bool.false_eq_true]; done) | (simp_all; done)), rfl⟩
set_option maxRecDepth 100000 in
set_option maxHeartbeats 4000000 in
theorem rraw_any (s : ByteArray) (w : World) : Calls Try.prog 20 #[.string s] w fun e w' => e = .returned (.int .i64 (rawZ s)) ∧ w = w' := by
  go_enter Try.func20, Try.ntmps20
  go_wp2
  all_goals
    go_ret
    exact ⟨ret_z (by unfold rawZ; first | (simp only [*, if_true, if_false, Bool.false_eq_true]; done) | (simp_all; done)), rfl⟩

set_option maxHeartbeats 1000000 in
theorem nul_any (s : ByteArray) (w : World) (hs : s.size ≤ 9223372036854775807) : Calls Try.prog 19 #[.string s] w fun e w' => e = .returned (.bool (nulB (bs s))) ∧ w = w' := by
  have hsz := size_bs s
  have HS := Lib.hid hsz
  clear hsz
  go_enter Try.func19, Try.ntmps19
  go_wp2
  go_loop [3] (fun i => ∃ k : Nat, k ≤ s.size ∧ i = .int .i64 k ∧ ∀ j, j < k → (bs s)[j]? ≠ some 0) (fun i => s.size - (intOf i).toNat)
  case atStart => exact ⟨0, Nat.zero_le _, rfl, fun j hj => absurd hj (Nat.not_lt_zero j)⟩
  case round =>
    obtain ⟨k, hk, rfl, hp⟩ := hrel
    have HP := Lib.hid hp
    clear hp
    by_cases hlt : k < s.size
    · obtain ⟨x, hx⟩ := byte_at s hlt
      have hix := run_index_at (P := Try.prog) Try.underlying9 hx
      by_cases h0 : x = 0
      · subst h0
        have HR := Lib.hid (show nulB (bs s) = true from decide_eq_true (List.mem_of_getElem? hx))
        clear hx
        go_wp2
        go_ret
        exact ⟨ret_bool HR.out.symm, rfl⟩
      · have g0 : ((x.toNat : Int) == 0) = false := byte_ne (c := x) (d := 0) h0
        have HN := Lib.hid (show ∀ j, j < k + 1 → (bs s)[j]? ≠ some 0 from fun j hj e => by
          by_cases hjk : j = k
          · subst hjk
            rw [hx] at e
            injection e with e
            exact h0 e
          · exact HP.out j (by omega) e)
        clear hx h0
        go_wp2
        go_round
        case rel => exact ⟨k + 1, by omega, by go_num, HN.out⟩
        case measure => simp [intOf]; omega
    · obtain rfl : k = s.size := by omega
      have HR := Lib.hid (show nulB (bs s) = false from decide_eq_false fun h => by
        obtain ⟨j, hj⟩ := List.getElem?_of_mem h
        exact HP.out j (by have := (List.getElem?_eq_some_iff.1 hj).1; rw [← HS.out] at this; exact this) hj)
      go_wp2
      go_ret
      exact ⟨ret_bool HR.out.symm, rfl⟩
end Go.Proofs.Ytblbcojkjknfdaa
