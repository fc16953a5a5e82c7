/-
  The law DecodeFew, walked.
-/
import Derived.Test.YtlgffgmfaejmeaaRunesLaw
import Derived.Test.YtlgffgmfaejmeaaFew
namespace Go.Proofs.Ytlgffgmfaejmeaa
open Go.RowKit

set_option maxHeartbeats 800000 in
set_option maxRecDepth 100000 in
theorem few_any (w : World) (A : Option Addr) (n c : Nat) (l : List UInt8) (hr : Reads w w.heap.size 1 A n (cellsOf l)) :
    Calls Try.prog 6 #[.slice A n c] w fun e w' => e = .returned (.bool true) ∧ Fr Nil w w' := by
  by_cases hb : 3000 < n
  · have hb' : (3000 : Int) < n := by omega
    go_enter Try.func6, Try.ntmps6
    go_wp2_with fail
    refine (awake_any _).mono ?_
    rintro e w1 ⟨rfl, f1⟩
    go_wp2_with fail
    go_ret
    exact ⟨rfl, f1⟩
  · have hb' : ¬ (3000 : Int) < n := by omega
    have hl := reads_len hr
    have hwl := W_len [] l trivial
    have hrn := W_runes l
    have hne : l = [] ∨ W [] l ≠ [] := by
      by_cases h : l = []
      · exact .inl h
      · exact .inr (W_ne l [] (.inr h))
    have hss : (str (W [] l)).size = (W [] l).length := size_str _
    have hs9 : (str (W [] l)).size ≤ 3 * n := by rw [hss]; simp at hwl; omega
    have hrr := run_runes (str (W [] l)) (by omega)
    have hrn' : (rl (str (W [] l))).length ≤ n := by rw [← hl]; exact hrn
    have hemp : ((str (W [] l)).toList.isEmpty = (W [] l).isEmpty) := by rw [Lib.toList_data]; rfl
    have hz : n = 0 ∨ (n ≠ 0 ∧ (str (W [] l)).toList.isEmpty = false) := by
      rcases hne with h | h
      · left; rw [← hl, h]; rfl
      · by_cases hn : n = 0
        · exact .inl hn
        · refine .inr ⟨hn, ?_⟩
          rw [hemp]
          cases hW : W [] l with
          | nil => exact (h hW).elim
          | cons a t => rfl
    have HZ := Lib.hid hz
    clear hwl hrn hne hss hemp hz
    have d1 : decide (((rl (str (W [] l))).length : Int) ≤ (n : Int)) = true := by simp; omega
    have d2 : decide (((str (W [] l)).size : Int) ≤ 3 * (n : Int)) = true := by simp; omega
    rcases HZ.out with h0 | ⟨h0, h1⟩
    · have hn0 : ((n : Int) == 0) = true := by simp; omega
      clear h0
      go_enter Try.func6, Try.ntmps6
      go_wp2_with fail
      refine (awake_any _).mono ?_
      rintro e w1 ⟨rfl, f1⟩
      go_wp2_with fail
      refine (dwhole_any _ w.heap.size A n c l (hr.frAt (Nat.le_refl _) f1 (fun _ _ h => h)) f1.size (by omega)).mono ?_
      rintro e w2 ⟨rfl, f2⟩
      go_wp2_with fail
      go_ret
      exact ⟨rfl, (f1.trans f2).trans (rw_fr _ _)⟩
    · have hn0 : ((n : Int) == 0) = false := by simp; omega
      go_enter Try.func6, Try.ntmps6
      go_wp2_with fail
      refine (awake_any _).mono ?_
      rintro e w1 ⟨rfl, f1⟩
      go_wp2_with fail
      refine (dwhole_any _ w.heap.size A n c l (hr.frAt (Nat.le_refl _) f1 (fun _ _ h => h)) f1.size (by omega)).mono ?_
      rintro e w2 ⟨rfl, f2⟩
      go_wp2_with fail
      go_ret
      exact ⟨rfl, (f1.trans f2).trans (rw_fr _ _)⟩
end Go.Proofs.Ytlgffgmfaejmeaa
