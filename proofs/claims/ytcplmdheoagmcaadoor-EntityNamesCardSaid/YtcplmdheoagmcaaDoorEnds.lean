/-
  EntityEnds, walked.
-/
import Derived.Test.YtcplmdheoagmcaaDoorKnown
import Derived.Test.YtcplmdheoagmcaaDoorRefP
import Derived.Test.YtcplmdheoagmcaaDoorLaid
namespace Go.Proofs.YtcplmdheoagmcaaDoor
open Go.RowKit

theorem ext_take (s : ByteArray) (n : Nat) : s.extract 0 n = str ((bs s).take n) := by
  rw [← str_bs (s.extract 0 n), bs_extract]
  rfl
/-- a name is the longest that it begins with -/
theorem named_self {x : Ent} (hx : x ∈ allU) : namedP x.1 = (x.2, x.1.length) := by
  refine best_same (best_named x.1) ⟨fun y _ hp => hp.length_le, .inr ⟨x, hx, List.prefix_refl _, ?_, rfl⟩⟩
  have := (allU_small x hx).1
  omega
theorem known_self {x : Ent} (hx : x ∈ allU) : knownP x.1 = (x.2, true) := by
  unfold knownP
  rw [ofName_mem hx]
theorem named_cases (s : Pth) : namedP s = ([], 0) ∨ ∃ x ∈ allU, 0 < x.1.length ∧ x.1.length ≤ s.length ∧ s.take x.1.length = x.1 ∧ namedP s = (x.2, x.1.length) := by
  rcases (best_named s).2 with h | ⟨x, hx, hp, h0, h⟩
  · exact .inl h
  · exact .inr ⟨x, hx, h0, hp.length_le, (List.prefix_iff_eq_take.1 hp).symm, h⟩

set_option maxRecDepth 100000 in
set_option maxHeartbeats 2000000 in
theorem law_ends (w : World) (hO : Old w) (s : ByteArray) : Calls Tryd.prog 7 #[.string s] w fun e w' => e = .returned (.bool true) ∧ Fr Nil w w' := by
  by_cases hz : 300 < s.size
  · have hz' : (300 : Int) < s.size := by omega
    go_enter Tryd.func7, Tryd.ntmps7
    go_wp2_with (go_at_call 9; refine (awake_any w hO).mono ?_; rintro e w1 ⟨rfl, hf1⟩)
    go_ret
    exact ⟨rfl, hf1⟩
  · have hz' : ¬ (300 : Int) < s.size := by omega
    have h1 := fun w => named_any w s (by omega)
    rcases named_cases (bs s) with h | ⟨x, hx, h0, hle, ht, h⟩
    · rw [h] at h1
      have H1 := Lib.hid h1
      have hem : (str []).toList.isEmpty = true := by decide +kernel
      clear h1 h
      go_enter Tryd.func7, Tryd.ntmps7
      go_wp2_with (first
        | (go_at_call 9; refine (awake_any w hO).mono ?_; rintro e w1 ⟨rfl, hf1⟩)
        | (go_at_call 12; refine (H1.out _).mono ?_; rintro e w2 ⟨rfl, hf2⟩))
      go_ret
      exact ⟨rfl, hf1.trans hf2⟩
    · rw [h] at h1
      rw [← size_bs] at hle
      have he : s.extract 0 x.1.length = str x.1 := by rw [ext_take, ht]
      have h2 := fun w => named_any w (str x.1) (by rw [size_str]; omega)
      rw [bs_str, named_self hx] at h2
      have h3 := fun w => known_any w x.1
      rw [known_self hx] at h3
      rw [← he] at h2 h3
      have H1 := Lib.hid h1
      have H2 := Lib.hid h2
      have H3 := Lib.hid h3
      have hq := str_beq_self (str x.2)
      have h0' : ¬ (x.1.length : Int) = 0 := by omega
      clear h1 h2 h3 h he ht hx
      obtain ⟨y, t⟩ := x
      dsimp only at *
      go_enter Tryd.func7, Tryd.ntmps7
      go_wp2_with fail
      refine (awake_any w hO).mono ?_
      rintro e w1 ⟨rfl, hf1⟩
      go_wp2_with fail
      refine (H1.out _).mono ?_
      rintro e w2 ⟨rfl, hf2⟩
      go_wp2_with fail
      refine (H3.out _).mono ?_
      rintro e w3 ⟨rfl, hf3⟩
      go_wp2_with fail
      refine (H2.out _).mono ?_
      rintro e w4 ⟨rfl, hf4⟩
      go_wp2_with fail
      go_ret
      exact ⟨rfl, ((hf1.trans hf2).trans hf3).trans hf4⟩
end Go.Proofs.YtcplmdheoagmcaaDoor
