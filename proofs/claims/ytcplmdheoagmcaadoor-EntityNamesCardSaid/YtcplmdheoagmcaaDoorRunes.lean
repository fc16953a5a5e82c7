/-
  EntityCoded, EntityRunes, walked.
-/
import Derived.Test.YtcplmdheoagmcaaDoorAwake
namespace Go.Proofs.YtcplmdheoagmcaaDoor
open Go.RowKit

theorem old_range : ∀ i < 32, 0 < oldL.getD i 0 ∧ oldL.getD i 0 < 55296 := by decide
theorem codedP_range (x : Int) : 0 < codedP x ∧ codedP x ≤ 1114111 ∧ ¬ (55296 ≤ codedP x ∧ codedP x ≤ 57343) := by
  unfold codedP
  by_cases h1 : x ≤ 0 ∨ 1114111 < x ∨ (55296 ≤ x ∧ x ≤ 57343)
  · rw [if_pos h1]; decide
  · rw [if_neg h1]
    by_cases h2 : 128 ≤ x ∧ x ≤ 159
    · rw [if_pos h2]
      have := old_range (x - 128).toNat (by omega)
      omega
    · rw [if_neg h2]
      omega
theorem codedP_again {r : Int} (h : 0 < r ∧ r ≤ 1114111 ∧ ¬ (55296 ≤ r ∧ r ≤ 57343)) (h2 : ¬ (128 ≤ r ∧ r ≤ 159)) : codedP r = r := by
  unfold codedP
  rw [if_neg (by omega), if_neg h2]

set_option maxRecDepth 100000 in
set_option maxHeartbeats 2000000 in
theorem law_coded (w : World) (hO : Old w) (x : Int) : Calls Tryd.prog 5 #[.int .i64 x] w fun e w' => e = .returned (.bool true) ∧ Fr Nil w w' := by
  have h1 := fun w h => coded_any w x h
  have h2 := fun w => rcoded_any w x
  generalize codedP x = r at h1 h2
  go_enter Tryd.func5, Tryd.ntmps5
  go_wp2_with (first
    | (go_at_call 9; refine (awake_any w hO).mono ?_; rintro e w1 ⟨rfl, hf1⟩)
    | (go_at_call 15; refine (h1 w1 (hO.fr hf1)).mono ?_; rintro e w2 ⟨rfl, rfl⟩)
    | (go_at_call 16; refine (h2 w1).mono ?_; rintro e w2 ⟨rfl, rfl⟩))
  go_ret
  exact ⟨rfl, hf1⟩

set_option maxRecDepth 100000 in
set_option maxHeartbeats 2000000 in
theorem runes_0 (w : World) (hO : Old w) (x r : Int) (hx : codedP x = r) (hr : 0 < r ∧ r < 128) : Calls Tryd.prog 6 #[.int .i64 x] w fun e w' => e = .returned (.bool true) ∧ Fr Nil w w' := by
  have h1 := fun w h => coded_any w x h
  rw [hx] at h1
  have h2 := fun w h => coded_any w r h
  rw [codedP_again (by omega) (by omega)] at h2
  have p0 : decide (0 < r) = true := decide_eq_true (by omega)
  have p1 : decide (r ≤ 1114111) = true := decide_eq_true (by omega)
  have p2 : decide (55296 ≤ r) = false := decide_eq_false (by omega)
  have p3 : decide (r ≤ 57343) = true := decide_eq_true (by omega)
  have p4 : decide (128 ≤ r) = false := decide_eq_false (by omega)
  have p5 : decide (r ≤ 159) = true := decide_eq_true (by omega)
  have hw : wrap64 r = r := by unfold wrap64; omega
  clear hr hx
  go_enter Tryd.func6, Tryd.ntmps6
  go_wp2_with (first
    | (go_at_call 9; refine (awake_any w hO).mono ?_; rintro e w1 ⟨rfl, hf1⟩)
    | (go_at_call 15; have hq := mk; clear hq; refine (h2 w1 (hO.fr hf1)).mono ?_; rintro e w2 ⟨rfl, rfl⟩)
    | (go_at_call 15; refine (h1 w1 (hO.fr hf1)).mono ?_; rintro e w2 ⟨rfl, rfl⟩; have mk := Lib.hid (Eq.refl x)))
  go_ret
  exact ⟨rfl, hf1⟩
set_option maxRecDepth 100000 in
set_option maxHeartbeats 2000000 in
theorem runes_1 (w : World) (hO : Old w) (x r : Int) (hx : codedP x = r) (hr : 128 ≤ r ∧ r ≤ 159) : Calls Tryd.prog 6 #[.int .i64 x] w fun e w' => e = .returned (.bool true) ∧ Fr Nil w w' := by
  have h1 := fun w h => coded_any w x h
  rw [hx] at h1
  have h2 := fun w h => coded_any w r h
  generalize codedP r = r2 at h2
  have p0 : decide (0 < r) = true := decide_eq_true (by omega)
  have p1 : decide (r ≤ 1114111) = true := decide_eq_true (by omega)
  have p2 : decide (55296 ≤ r) = false := decide_eq_false (by omega)
  have p3 : decide (r ≤ 57343) = true := decide_eq_true (by omega)
  have p4 : decide (128 ≤ r) = true := decide_eq_true (by omega)
  have p5 : decide (r ≤ 159) = true := decide_eq_true (by omega)
  have hw : wrap64 r = r := by unfold wrap64; omega
  clear hr hx
  go_enter Tryd.func6, Tryd.ntmps6
  go_wp2_with (first
    | (go_at_call 9; refine (awake_any w hO).mono ?_; rintro e w1 ⟨rfl, hf1⟩)
    | (go_at_call 15; have hq := mk; clear hq; refine (h2 w1 (hO.fr hf1)).mono ?_; rintro e w2 ⟨rfl, rfl⟩)
    | (go_at_call 15; refine (h1 w1 (hO.fr hf1)).mono ?_; rintro e w2 ⟨rfl, rfl⟩; have mk := Lib.hid (Eq.refl x)))
  go_ret
  exact ⟨rfl, hf1⟩
set_option maxRecDepth 100000 in
set_option maxHeartbeats 2000000 in
theorem runes_2 (w : World) (hO : Old w) (x r : Int) (hx : codedP x = r) (hr : 159 < r ∧ r < 55296) : Calls Tryd.prog 6 #[.int .i64 x] w fun e w' => e = .returned (.bool true) ∧ Fr Nil w w' := by
  have h1 := fun w h => coded_any w x h
  rw [hx] at h1
  have h2 := fun w h => coded_any w r h
  rw [codedP_again (by omega) (by omega)] at h2
  have p0 : decide (0 < r) = true := decide_eq_true (by omega)
  have p1 : decide (r ≤ 1114111) = true := decide_eq_true (by omega)
  have p2 : decide (55296 ≤ r) = false := decide_eq_false (by omega)
  have p3 : decide (r ≤ 57343) = true := decide_eq_true (by omega)
  have p4 : decide (128 ≤ r) = true := decide_eq_true (by omega)
  have p5 : decide (r ≤ 159) = false := decide_eq_false (by omega)
  have hw : wrap64 r = r := by unfold wrap64; omega
  clear hr hx
  go_enter Tryd.func6, Tryd.ntmps6
  go_wp2_with (first
    | (go_at_call 9; refine (awake_any w hO).mono ?_; rintro e w1 ⟨rfl, hf1⟩)
    | (go_at_call 15; have hq := mk; clear hq; refine (h2 w1 (hO.fr hf1)).mono ?_; rintro e w2 ⟨rfl, rfl⟩)
    | (go_at_call 15; refine (h1 w1 (hO.fr hf1)).mono ?_; rintro e w2 ⟨rfl, rfl⟩; have mk := Lib.hid (Eq.refl x)))
  go_ret
  exact ⟨rfl, hf1⟩
set_option maxRecDepth 100000 in
set_option maxHeartbeats 2000000 in
theorem runes_3 (w : World) (hO : Old w) (x r : Int) (hx : codedP x = r) (hr : 57343 < r ∧ r ≤ 1114111) : Calls Tryd.prog 6 #[.int .i64 x] w fun e w' => e = .returned (.bool true) ∧ Fr Nil w w' := by
  have h1 := fun w h => coded_any w x h
  rw [hx] at h1
  have h2 := fun w h => coded_any w r h
  rw [codedP_again (by omega) (by omega)] at h2
  have p0 : decide (0 < r) = true := decide_eq_true (by omega)
  have p1 : decide (r ≤ 1114111) = true := decide_eq_true (by omega)
  have p2 : decide (55296 ≤ r) = true := decide_eq_true (by omega)
  have p3 : decide (r ≤ 57343) = false := decide_eq_false (by omega)
  have p4 : decide (128 ≤ r) = true := decide_eq_true (by omega)
  have p5 : decide (r ≤ 159) = false := decide_eq_false (by omega)
  have hw : wrap64 r = r := by unfold wrap64; omega
  clear hr hx
  go_enter Tryd.func6, Tryd.ntmps6
  go_wp2_with (first
    | (go_at_call 9; refine (awake_any w hO).mono ?_; rintro e w1 ⟨rfl, hf1⟩)
    | (go_at_call 15; have hq := mk; clear hq; refine (h2 w1 (hO.fr hf1)).mono ?_; rintro e w2 ⟨rfl, rfl⟩)
    | (go_at_call 15; refine (h1 w1 (hO.fr hf1)).mono ?_; rintro e w2 ⟨rfl, rfl⟩; have mk := Lib.hid (Eq.refl x)))
  go_ret
  exact ⟨rfl, hf1⟩
theorem law_runes (w : World) (hO : Old w) (x : Int) : Calls Tryd.prog 6 #[.int .i64 x] w fun e w' => e = .returned (.bool true) ∧ Fr Nil w w' := by
  have h := codedP_range x
  rcases (show (0 < codedP x ∧ codedP x < 128) ∨ (128 ≤ codedP x ∧ codedP x ≤ 159) ∨ (159 < codedP x ∧ codedP x < 55296) ∨ (57343 < codedP x ∧ codedP x ≤ 1114111) by omega) with h | h | h | h
  · exact runes_0 w hO x _ rfl h
  · exact runes_1 w hO x _ rfl h
  · exact runes_2 w hO x _ rfl h
  · exact runes_3 w hO x _ rfl h
end Go.Proofs.YtcplmdheoagmcaaDoor
