/-
  siftDownOrdered, reverseRangeOrdered at bytes, walked. (Printed by gen_srt.py.)
-/
import Derived.Test.YthhlpbopbabojaaSrtU
import Derived.Sort.WalkB2
namespace Go.Proofs.Ythhlpbopbabojaa
open Go.RowKit Go.Sort

set_option maxRecDepth 1000000 in
set_option maxHeartbeats 8000000 in
theorem sift_any (g o c n lo hi first : Nat) (pre sp : Array Value) (d : Array Int) (w : World) (hR : RowB w g o pre sp d) (hn : d.size = n) (hlo : lo ≤ hi) (hb : first + hi ≤ n) (hn2 : n ≤ 1048576) :
    Calls Try.prog 49 #[.slice (some ⟨g, o, none⟩) n c, .int .i64 lo, .int .i64 hi, .int .i64 first] w fun e w' => e = .returned (.tuple #[]) ∧ St w g o pre sp (siftDown ltInt hi first lo d) w' := by
  go_enter Try.func49, Try.ntmps49
  go_wp2
  go_loopw [8, 9] (fun vr _ wr => ∃ (r : Nat) (dk : Array Int), vr = .int .i64 r ∧ r ≤ hi ∧ dk.size = n ∧ St w g o pre sp dk wr ∧ siftDown ltInt hi first r dk = siftDown ltInt hi first lo d) (fun vr _ _ => hi - (intOf vr).toNat)
  case atStart => exact ⟨lo, d, rfl, hlo, hn, .start hR, rfl⟩
  case round =>
    obtain ⟨r, dk, rfl, hr, hsk, hS, hE⟩ := hrel
    have HE := Lib.hid hE
    clear hE
    by_cases h0 : hi ≤ 2 * r + 1
    · have h0z : (hi : Int) ≤ 2 * (r : Int) + 1 := by omega
      have HZ := Lib.hid (show siftDown ltInt hi first lo d = dk by rw [← HE.out, sd_end ltInt dk h0])
      go_wp2_with fail
      go_end0
      exact ⟨rfl, by rw [HZ.out]; exact hS⟩
    · have h0z : ¬ ((hi : Int) ≤ 2 * (r : Int) + 1) := by omega
      obtain ⟨G, hG⟩ : ∃ G : Nat → Int, ∀ t, G t = dk[t]! := ⟨fun t => dk[t]!, fun _ => rfl⟩
      have hcw : ∀ t, t < n → wr.cell? ⟨g, o + t, none⟩ = some (.int .u8 (G t)) := fun t ht => by rw [hG]; exact hS.row.cell t (by omega)
      have hfw : ∀ t, t < n → wr.frozen? ⟨g, o + t, none⟩ = false := fun t _ => hS.row.frozen t
      have HS := Lib.hid hS
      have HG := Lib.hid hG
      clear hS hG
      by_cases h1 : 2 * r + 2 < hi
      · have h1z : 2 * (r : Int) + 1 + 1 < (hi : Int) := by omega
        go_wp2_with fail
        go_quiet (first | (go_at_call 44; refine Calls.quiet_of_same (less_any _ _ _)))
        go_wp2_with fail
        · have hL : ltInt (G (first + 2 * r + 1)) (G (first + 2 * r + 2)) = true := by assumption
          have hcw1 : ∀ t, t < n → (wr.drewN nq).cell? ⟨g, o + t, none⟩ = some (.int .u8 (G t)) := hcw
          have hfw1 : ∀ t, t < n → (wr.drewN nq).frozen? ⟨g, o + t, none⟩ = false := hfw
          have HS1 := Lib.hid (HS.out.drewN nq)
          clear hcw hfw HS
          generalize wr.drewN nq = wr1 at *
          clear nq
          go_quiet (first | (go_at_call 44; refine Calls.quiet_of_same (less_any _ _ _)))
          go_wp2_with fail
          · have hS : ltInt (G (first + r)) (G (first + 2 * r + 2)) = false := by
              have : (!ltInt (G (first + r)) (G (first + 2 * r + 2))) = true := by assumption
              simpa using this
            (try simp only [Exit.inBlock, Exit.then])
            refine bodyPost_ret (results_none rfl _ _ _) rfl ?_
            exact ⟨rfl, by rw [← HE.out, sd_right_stop ltInt dk h1 (by rw [← HG.out, ← HG.out]; exact hL) (by rw [← HG.out, ← HG.out]; exact hS)]; exact HS1.out.drewN nq⟩
          · have hY : ltInt (G (first + r)) (G (first + 2 * r + 2)) = true := by
              have : (!ltInt (G (first + r)) (G (first + 2 * r + 2))) = false := by assumption
              simpa using this
            have hcw2 : ∀ t, t < n → (wr1.drewN nq).cell? ⟨g, o + t, none⟩ = some (.int .u8 (G t)) := hcw1
            have hfw2 : ∀ t, t < n → (wr1.drewN nq).frozen? ⟨g, o + t, none⟩ = false := hfw1
            have HS2 := Lib.hid (HS1.out.drewN nq)
            clear hcw1 hfw1 HS1
            generalize wr1.drewN nq = wr2 at *
            clear nq
            go_region
            go_wp2_with fail
            go_roundw
            case rel => exact ⟨2 * r + 2, swp dk (first + r) (first + (2 * r + 2)), by first | rfl | go_num, by omega, by rw [size_swp]; exact hsk, (by
              have := HS2.out.swap (i := first + r) (j := first + (2 * r + 2)) (by omega) (by omega) (HG.out _) (HG.out _)
              first | exact this.drew | exact this), by rw [← HE.out, sd_right_go ltInt dk h1 (by rw [← HG.out, ← HG.out]; exact hL) (by rw [← HG.out, ← HG.out]; exact hY)]⟩
            case measure => (simp [intOf]; try omega)
        · have hL : ltInt (G (first + 2 * r + 1)) (G (first + 2 * r + 2)) = false := by assumption
          have hcw1 : ∀ t, t < n → (wr.drewN nq).cell? ⟨g, o + t, none⟩ = some (.int .u8 (G t)) := hcw
          have hfw1 : ∀ t, t < n → (wr.drewN nq).frozen? ⟨g, o + t, none⟩ = false := hfw
          have HS1 := Lib.hid (HS.out.drewN nq)
          clear hcw hfw HS
          generalize wr.drewN nq = wr1 at *
          clear nq
          go_quiet (first | (go_at_call 44; refine Calls.quiet_of_same (less_any _ _ _)))
          go_wp2_with fail
          · have hS : ltInt (G (first + r)) (G (first + 2 * r + 1)) = false := by
              have : (!ltInt (G (first + r)) (G (first + 2 * r + 1))) = true := by assumption
              simpa using this
            (try simp only [Exit.inBlock, Exit.then])
            refine bodyPost_ret (results_none rfl _ _ _) rfl ?_
            exact ⟨rfl, by rw [← HE.out, sd_left_stop ltInt dk (by omega) (fun _ => by rw [← HG.out, ← HG.out]; exact hL) (by rw [← HG.out, ← HG.out]; exact hS)]; exact HS1.out.drewN nq⟩
          · have hY : ltInt (G (first + r)) (G (first + 2 * r + 1)) = true := by
              have : (!ltInt (G (first + r)) (G (first + 2 * r + 1))) = false := by assumption
              simpa using this
            have hcw2 : ∀ t, t < n → (wr1.drewN nq).cell? ⟨g, o + t, none⟩ = some (.int .u8 (G t)) := hcw1
            have hfw2 : ∀ t, t < n → (wr1.drewN nq).frozen? ⟨g, o + t, none⟩ = false := hfw1
            have HS2 := Lib.hid (HS1.out.drewN nq)
            clear hcw1 hfw1 HS1
            generalize wr1.drewN nq = wr2 at *
            clear nq
            go_region
            go_wp2_with fail
            go_roundw
            case rel => exact ⟨2 * r + 1, swp dk (first + r) (first + (2 * r + 1)), by first | rfl | go_num, by omega, by rw [size_swp]; exact hsk, (by
              have := HS2.out.swap (i := first + r) (j := first + (2 * r + 1)) (by omega) (by omega) (HG.out _) (HG.out _)
              first | exact this.drew | exact this), by rw [← HE.out, sd_left_go ltInt dk (by omega) (fun _ => by rw [← HG.out, ← HG.out]; exact hL) (by rw [← HG.out, ← HG.out]; exact hY)]⟩
            case measure => (simp [intOf]; try omega)
      · have h1z : decide (2 * (r : Int) + 1 + 1 < (hi : Int)) = false := decide_eq_false (by omega)
        go_wp2_with fail
        go_quiet (fail)
        go_wp2_with fail
        have hcw1 : ∀ t, t < n → (wr.drewN nq).cell? ⟨g, o + t, none⟩ = some (.int .u8 (G t)) := hcw
        have hfw1 : ∀ t, t < n → (wr.drewN nq).frozen? ⟨g, o + t, none⟩ = false := hfw
        have HS1 := Lib.hid (HS.out.drewN nq)
        clear hcw hfw HS
        generalize wr.drewN nq = wr1 at *
        clear nq
        go_quiet (first | (go_at_call 44; refine Calls.quiet_of_same (less_any _ _ _)))
        go_wp2_with fail
        · have hS : ltInt (G (first + r)) (G (first + 2 * r + 1)) = false := by
            have : (!ltInt (G (first + r)) (G (first + 2 * r + 1))) = true := by assumption
            simpa using this
          (try simp only [Exit.inBlock, Exit.then])
          refine bodyPost_ret (results_none rfl _ _ _) rfl ?_
          exact ⟨rfl, by rw [← HE.out, sd_left_stop ltInt dk (by omega) (fun h => absurd h h1) (by rw [← HG.out, ← HG.out]; exact hS)]; exact HS1.out.drewN nq⟩
        · have hY : ltInt (G (first + r)) (G (first + 2 * r + 1)) = true := by
            have : (!ltInt (G (first + r)) (G (first + 2 * r + 1))) = false := by assumption
            simpa using this
          have hcw2 : ∀ t, t < n → (wr1.drewN nq).cell? ⟨g, o + t, none⟩ = some (.int .u8 (G t)) := hcw1
          have hfw2 : ∀ t, t < n → (wr1.drewN nq).frozen? ⟨g, o + t, none⟩ = false := hfw1
          have HS2 := Lib.hid (HS1.out.drewN nq)
          clear hcw1 hfw1 HS1
          generalize wr1.drewN nq = wr2 at *
          clear nq
          go_region
          go_wp2_with fail
          go_roundw
          case rel => exact ⟨2 * r + 1, swp dk (first + r) (first + (2 * r + 1)), by first | rfl | go_num, by omega, by rw [size_swp]; exact hsk, (by
            have := HS2.out.swap (i := first + r) (j := first + (2 * r + 1)) (by omega) (by omega) (HG.out _) (HG.out _)
            first | exact this.drew | exact this), by rw [← HE.out, sd_left_go ltInt dk (by omega) (fun h => absurd h h1) (by rw [← HG.out, ← HG.out]; exact hY)]⟩
          case measure => (simp [intOf]; try omega)
set_option maxRecDepth 1000000 in
set_option maxHeartbeats 8000000 in
theorem reverse_any (g o c n a b : Nat) (pre sp : Array Value) (d : Array Int) (w : World) (hR : RowB w g o pre sp d) (hn : d.size = n) (hab : a < b) (hb : b ≤ n) (hn2 : n ≤ 1048576) :
    Calls Try.prog 42 #[.slice (some ⟨g, o, none⟩) n c, .int .i64 a, .int .i64 b] w fun e w' => e = .returned (.tuple #[]) ∧ St w g o pre sp (reverseRange d a b) w' := by
  go_enter Try.func42, Try.ntmps42
  go_wp2
  go_loopw [6, 7] (fun vi vj wr => ∃ (i j : Nat) (dk : Array Int), vi = .int .i64 i ∧ vj = .int .i64 j ∧ i ≤ b ∧ j < b ∧ dk.size = n ∧ St w g o pre sp dk wr ∧ reverseLoop i j dk = reverseLoop a (b - 1) d) (fun vi _ _ => b - (intOf vi).toNat)
  case atStart => exact ⟨a, b - 1, d, rfl, by go_num, by omega, by omega, hn, .start hR, rfl⟩
  case round =>
    obtain ⟨i, j, dk, rfl, rfl, hi, hj, hsk, hS, hE⟩ := hrel
    have HE := Lib.hid hE
    clear hE
    by_cases h : i < j
    · have HN := Lib.hid (show reverseLoop (i + 1) (j - 1) (swp dk i j) = reverseLoop a (b - 1) d by rw [← HE.out]; conv => rhs; rw [reverseLoop, if_pos h])
      obtain ⟨G, hG⟩ : ∃ G : Nat → Int, ∀ t, G t = dk[t]! := ⟨fun t => dk[t]!, fun _ => rfl⟩
      have hcw : ∀ t, t < n → wr.cell? ⟨g, o + t, none⟩ = some (.int .u8 (G t)) := fun t ht => by rw [hG]; exact hS.row.cell t (by omega)
      have hfw : ∀ t, t < n → wr.frozen? ⟨g, o + t, none⟩ = false := fun t _ => hS.row.frozen t
      have HS := Lib.hid hS
      have HG := Lib.hid hG
      clear hS hG
      go_wp2_with fail
      go_region
      go_wp2_with fail
      go_roundw
      case rel => exact ⟨i + 1, j - 1, swp dk i j, by first | rfl | go_num, by first | rfl | go_num, by omega, by omega, by rw [size_swp]; exact hsk, (by
        have := HS.out.swap (i := i) (j := j) (by omega) (by omega) (HG.out _) (HG.out _)
        first | exact this.drew | exact this), HN.out⟩
      case measure => (simp [intOf]; try omega)
    · have HZ := Lib.hid (show reverseRange d a b = dk by unfold reverseRange; rw [← HE.out, reverseLoop, if_neg h])
      go_wp2_with fail
      go_end0
      exact ⟨rfl, by rw [HZ.out]; exact hS⟩
end Go.Proofs.Ythhlpbopbabojaa
