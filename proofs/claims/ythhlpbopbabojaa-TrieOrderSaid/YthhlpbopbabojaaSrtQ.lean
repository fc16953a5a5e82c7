/-
  partialInsertionSortOrdered at bytes, walked. (Printed by gen_pin.py.)
-/
import Derived.Test.YthhlpbopbabojaaSrtU
import Derived.Sort.WalkA6
namespace Go.Proofs.Ythhlpbopbabojaa
open Go.RowKit Go.Sort

set_option maxRecDepth 1000000 in
set_option maxHeartbeats 4000000 in
theorem pins_any (g o c n a b : Nat) (pre sp : Array Value) (d : Array Int) (w : World) (hR : RowB w g o pre sp d) (hn : d.size = n) (hab : a < b) (hb : b ≤ n) (hn2 : n ≤ 1048576) :
    Calls Try.prog 43 #[.slice (some ⟨g, o, none⟩) n c, .int .i64 a, .int .i64 b] w fun e w' =>
      e = .returned (.bool (partialInsertionSort ltInt d a b).2) ∧ St w g o pre sp (partialInsertionSort ltInt d a b).1 w' := by
  have HPI := Lib.hid (show partialInsertionSort ltInt d a b = partialIns ltInt a b (5 - 0) (a + 1) d from rfl)
  go_enter Try.func43, Try.ntmps43
  go_wp2_with fail
  go_loopw [7, 8, 9, 10] (fun vi vt _ _ wr => ∃ (t i : Nat) (dk : Array Int), vt = .int .i64 t ∧ vi = .int .i64 i ∧ t ≤ 5 ∧ a < i ∧ i ≤ b ∧ dk.size = n ∧ St w g o pre sp dk wr ∧ partialIns ltInt a b (5 - t) i dk = partialIns ltInt a b (5 - 0) (a + 1) d) (fun _ vt _ _ _ => 5 - (intOf vt).toNat)
  case atStart => exact ⟨0, a + 1, d, by first | rfl | go_num, by first | rfl | go_num, by omega, by omega, by omega, hn, .start hR, rfl⟩
  case round =>
    clear hR
    obtain ⟨t, i0, dk, rfl, rfl, ht5, hai0, hib0, hsk, hS0, hE⟩ := hrel
    have HE := Lib.hid hE
    have HS0 := Lib.hid hS0
    clear hE hS0
    by_cases t5 : t < 5
    · have t5z : (t : Int) < 5 := by omega
      obtain ⟨wo, rfl⟩ : ∃ wo : World, wo = wr := ⟨_, rfl⟩
      go_wp2_with fail
      go_loopw [7] (fun vi wr => ∃ i : Nat, vi = .int .i64 i ∧ i0 ≤ i ∧ i ≤ b ∧ St w g o pre sp dk wr ∧ scanSorted ltInt dk b i0 = scanSorted ltInt dk b i) (fun vi _ => b - (intOf vi).toNat)
      case atStart => exact ⟨i0, rfl, Nat.le_refl _, hib0, HS0.out, rfl⟩
      case round =>
        obtain ⟨i, rfl, hi0, hib, hS, hE⟩ := hrel
        have HEI := Lib.hid hE
        clear hE HS0
        by_cases hi : i < b
        · obtain ⟨m, rfl⟩ : ∃ m, i = m + 1 := ⟨i - 1, by omega⟩
          have hiz : (m : Int) + 1 < (b : Int) := by omega
          obtain ⟨G, hG⟩ : ∃ G : Nat → Int, ∀ t, G t = dk[t]! := ⟨fun t => dk[t]!, fun _ => rfl⟩
          have hcw : ∀ t, t < n → wr.cell? ⟨g, o + t, none⟩ = some (.int .u8 (G t)) := fun t ht => by rw [hG]; exact hS.row.cell t (by omega)
          have hfw : ∀ t, t < n → wr.frozen? ⟨g, o + t, none⟩ = false := fun t _ => hS.row.frozen t
          have HS := Lib.hid hS
          have HG := Lib.hid hG
          clear hS hG
          cases hl : ltInt (G (m + 1)) (G m)
          · have HK := Lib.hid (scanSorted_go ltInt dk b (m + 1) hi (by rw [← HG.out, Nat.add_sub_cancel, ← HG.out]; exact hl))
            have hq := less_any (G (m + 1)) (G (m))
            rw [hl] at hq
            have HL := Lib.hid hl
            clear hl
            go_wp2_with fail
            go_quiet (first | (go_at_call 44; refine Calls.quiet_of_same (hq _)))
            go_wp2_with fail
            have hcw2 : ∀ t, t < n → (wr.drewN nq).cell? ⟨g, o + t, none⟩ = some (.int .u8 (G t)) := hcw
            have hfw2 : ∀ t, t < n → (wr.drewN nq).frozen? ⟨g, o + t, none⟩ = false := hfw
            have HS2 := Lib.hid (HS.out.drewN nq)
            clear hcw hfw HS hq
            generalize wr.drewN nq = w4 at *
            clear nq
            go_roundw
            case rel => exact ⟨m + 1 + 1, by first | rfl | go_num, by omega, by omega, HS2.out, HEI.out.trans HK.out⟩
            case measure => (simp [intOf]; try omega)
          · have HK := Lib.hid (HEI.out.trans (scanSorted_stop ltInt dk b (m + 1) (.inr (by rw [← HG.out, Nat.add_sub_cancel, ← HG.out]; exact hl))))
            have hne : ((m : Int) + 1 == (b : Int)) = false := by simp; omega
            by_cases h50 : b - a < 50
            · have h50z : (b : Int) - (a : Int) < 50 := by omega
              have HF := Lib.hid (show partialInsertionSort ltInt d a b = (dk, false) by rw [HPI.out, ← HE.out, pi_short ltInt a b t i0 dk t5 (by rw [HK.out]; omega) h50])
              have hq := less_any (G (m + 1)) (G (m))
              rw [hl] at hq
              have HL := Lib.hid hl
              clear hl
              go_wp2_with fail
              go_quiet (first | (go_at_call 44; refine Calls.quiet_of_same (hq _)))
              go_wp2_with fail
              have hcw2 : ∀ t, t < n → (wr.drewN nq).cell? ⟨g, o + t, none⟩ = some (.int .u8 (G t)) := hcw
              have hfw2 : ∀ t, t < n → (wr.drewN nq).frozen? ⟨g, o + t, none⟩ = false := hfw
              have HS2 := Lib.hid (HS.out.drewN nq)
              clear hcw hfw HS hq
              generalize wr.drewN nq = w4 at *
              clear nq
              go_ret
              exact ⟨by (rw [HF.out]; try rfl), by rw [HF.out]; exact HS2.out⟩
            · have h50z : ¬ (b : Int) - (a : Int) < 50 := by omega
              have hq := less_any (G (m + 1)) (G (m))
              rw [hl] at hq
              have HL := Lib.hid hl
              clear hl
              go_wp2_with fail
              go_quiet (first | (go_at_call 44; refine Calls.quiet_of_same (hq _)))
              go_wp2_with fail
              have hcw2 : ∀ t, t < n → (wr.drewN nq).cell? ⟨g, o + t, none⟩ = some (.int .u8 (G t)) := hcw
              have hfw2 : ∀ t, t < n → (wr.drewN nq).frozen? ⟨g, o + t, none⟩ = false := hfw
              have HS2 := Lib.hid (HS.out.drewN nq)
              clear hcw hfw HS hq
              generalize wr.drewN nq = w4 at *
              clear nq
              go_region
              have HS3 := Lib.hid (HS2.out.swap (i := m + 1) (j := m) (by omega) (by omega) (HG.out _) (HG.out _)).drew
              have hs1 : (swp dk (m + 1) m).size = n := by rw [size_swp]; exact hsk
              clear hcw2 hfw2 HS2 HG HL
              obtain ⟨d1, hd1⟩ : ∃ d1, d1 = swp dk (m + 1) m := ⟨_, rfl⟩
              rw [← hd1] at HS3 hs1
              have HD1 := Lib.hid hd1
              clear hd1
              by_cases hd : m + 1 - a ≥ 2
              · have hdz : 2 ≤ (m : Int) + 1 - (a : Int) := by omega
                go_wp2_with fail
                go_loopw [9] (fun vj wr => ∃ (j : Nat) (dj : Array Int), vj = .int .i64 j ∧ j ≤ m ∧ dj.size = n ∧ St w g o pre sp dj wr ∧ shiftDown ltInt j dj = shiftDown ltInt m d1) (fun vj _ => (intOf vj).toNat)
                case atStart => exact ⟨m, d1, by first | rfl | go_num, Nat.le_refl _, hs1, HS3.out, rfl⟩
                case round =>
                  clear HS3
                  obtain ⟨j, dx, rfl, hjm, hsx, hSj, hEj⟩ := hrel
                  have HEJ := Lib.hid hEj
                  clear hEj
                  cases j with
                  | zero =>
                    have HDX := Lib.hid (show fixDown ltInt a (m + 1) (swp dk (m + 1) m) = dx by unfold fixDown; rw [if_pos hd, Nat.add_sub_cancel, ← HD1.out, ← HEJ.out, shiftDown_stop ltInt 0 dx (.inl rfl)])
                    have HSX := Lib.hid hSj
                    clear hSj
                    by_cases h2 : b - (m + 1) ≥ 2
                    · have h2z : 2 ≤ (b : Int) - ((m : Int) + 1) := by omega
                      go_wp2_with fail
                      go_loopw [10] (fun vj wr => ∃ (j : Nat) (dj : Array Int), vj = .int .i64 j ∧ m + 2 ≤ j ∧ j ≤ b ∧ dj.size = n ∧ St w g o pre sp dj wr ∧ shiftUp ltInt b j dj = shiftUp ltInt b (m + 1 + 1) dx) (fun vj _ => b - (intOf vj).toNat)
                      case atStart => exact ⟨m + 1 + 1, dx, by first | rfl | go_num, by omega, by omega, hsx, HSX.out, rfl⟩
                      case round =>
                        obtain ⟨j, dj, rfl, hj2, hjb, hsj, hSj, hEj⟩ := hrel
                        have HEJ := Lib.hid hEj
                        clear hEj
                        by_cases hj : j < b
                        · obtain ⟨q, rfl⟩ : ∃ q, j = q + 1 := ⟨j - 1, by omega⟩
                          have hjz : (q : Int) + 1 < (b : Int) := by omega
                          obtain ⟨G, hG⟩ : ∃ G : Nat → Int, ∀ t, G t = dj[t]! := ⟨fun t => dj[t]!, fun _ => rfl⟩
                          have hcw : ∀ t, t < n → wr.cell? ⟨g, o + t, none⟩ = some (.int .u8 (G t)) := fun t ht => by rw [hG]; exact hSj.row.cell t (by omega)
                          have hfw : ∀ t, t < n → wr.frozen? ⟨g, o + t, none⟩ = false := fun t _ => hSj.row.frozen t
                          have HS := Lib.hid hSj
                          have HG := Lib.hid hG
                          clear hSj hG
                          cases hl : ltInt (G (q + 1)) (G q)
                          · have HU := Lib.hid (show dj = shiftUp ltInt b (m + 1 + 1) dx by rw [← HEJ.out, shiftUp_stop ltInt b (q + 1) dj (.inr (by rw [← HG.out, Nat.add_sub_cancel, ← HG.out]; exact hl))])
                            have hq := less_any (G (q + 1)) (G (q))
                            rw [hl] at hq
                            have HL := Lib.hid hl
                            clear hl
                            go_wp2_with fail
                            go_quiet (first | (go_at_call 44; refine Calls.quiet_of_same (hq _)))
                            go_wp2_with fail
                            have hcw2 : ∀ t, t < n → (wr.drewN nq).cell? ⟨g, o + t, none⟩ = some (.int .u8 (G t)) := hcw
                            have hfw2 : ∀ t, t < n → (wr.drewN nq).frozen? ⟨g, o + t, none⟩ = false := hfw
                            have HS2 := Lib.hid (HS.out.drewN nq)
                            clear hcw hfw HS hq
                            generalize wr.drewN nq = w5 at *
                            clear nq
                            go_roundw
                            case rel => exact ⟨t + 1, m + 1, dj, by first | rfl | go_num, by first | rfl | go_num, by omega, by omega, by omega, hsj, HS2.out, by
                              rw [← HE.out, pi_go ltInt a b t i0 (m + 1) dk t5 HK.out (by omega) h50, Nat.add_sub_cancel]
                              congr 1
                              unfold fixUp; rw [if_pos h2, HU.out, HDX.out]⟩
                            case measure => (simp [intOf]; try omega)
                          · have HU := Lib.hid (show shiftUp ltInt b (q + 1 + 1) (swp dj (q + 1) q) = shiftUp ltInt b (m + 1 + 1) dx by rw [← HEJ.out, shiftUp_go ltInt b (q + 1) dj hj (by rw [← HG.out, Nat.add_sub_cancel, ← HG.out]; exact hl), Nat.add_sub_cancel])
                            have hq := less_any (G (q + 1)) (G (q))
                            rw [hl] at hq
                            have HL := Lib.hid hl
                            clear hl
                            go_wp2_with fail
                            go_quiet (first | (go_at_call 44; refine Calls.quiet_of_same (hq _)))
                            go_wp2_with fail
                            have hcw2 : ∀ t, t < n → (wr.drewN nq).cell? ⟨g, o + t, none⟩ = some (.int .u8 (G t)) := hcw
                            have hfw2 : ∀ t, t < n → (wr.drewN nq).frozen? ⟨g, o + t, none⟩ = false := hfw
                            have HS2 := Lib.hid (HS.out.drewN nq)
                            clear hcw hfw HS hq
                            generalize wr.drewN nq = w5 at *
                            clear nq
                            go_region
                            go_wp2_with fail
                            go_roundw
                            case rel => exact ⟨q + 1 + 1, swp dj (q + 1) q, by first | rfl | go_num, by omega, by omega, by rw [size_swp]; exact hsj, (HS2.out.swap (i := q + 1) (j := q) (by omega) (by omega) (HG.out _) (HG.out _)).drew, HU.out⟩
                            case measure => (simp [intOf]; try omega)
                        · have hjz : ¬ (j : Int) < (b : Int) := by omega
                          have HU := Lib.hid (show dj = shiftUp ltInt b (m + 1 + 1) dx by rw [← HEJ.out, shiftUp_stop ltInt b j dj (.inl hj)])
                          have HS2 := Lib.hid hSj
                          clear hSj
                          go_wp2_with fail
                          go_roundw
                          case rel => exact ⟨t + 1, m + 1, dj, by first | rfl | go_num, by first | rfl | go_num, by omega, by omega, by omega, hsj, HS2.out, by
                            rw [← HE.out, pi_go ltInt a b t i0 (m + 1) dk t5 HK.out (by omega) h50, Nat.add_sub_cancel]
                            congr 1
                            unfold fixUp; rw [if_pos h2, HU.out, HDX.out]⟩
                          case measure => (simp [intOf]; try omega)
                    · have h2z : ¬ 2 ≤ (b : Int) - ((m : Int) + 1) := by omega
                      go_wp2_with fail
                      go_roundw
                      case rel => exact ⟨t + 1, m + 1, dx, by first | rfl | go_num, by first | rfl | go_num, by omega, by omega, by omega, hsx, HSX.out, by
                        rw [← HE.out, pi_go ltInt a b t i0 (m + 1) dk t5 HK.out (by omega) h50, Nat.add_sub_cancel]
                        congr 1
                        unfold fixUp; rw [if_neg h2, HDX.out]⟩
                      case measure => (simp [intOf]; try omega)
                  | succ q =>
                    have hjz : (1 : Int) ≤ (q : Int) + 1 := by omega
                    obtain ⟨G, hG⟩ : ∃ G : Nat → Int, ∀ t, G t = dx[t]! := ⟨fun t => dx[t]!, fun _ => rfl⟩
                    have hcw : ∀ t, t < n → wr.cell? ⟨g, o + t, none⟩ = some (.int .u8 (G t)) := fun t ht => by rw [hG]; exact hSj.row.cell t (by omega)
                    have hfw : ∀ t, t < n → wr.frozen? ⟨g, o + t, none⟩ = false := fun t _ => hSj.row.frozen t
                    have HS := Lib.hid hSj
                    have HG := Lib.hid hG
                    clear hSj hG
                    cases hl : ltInt (G (q + 1)) (G q)
                    · have HDX := Lib.hid (show fixDown ltInt a (m + 1) (swp dk (m + 1) m) = dx by unfold fixDown; rw [if_pos hd, Nat.add_sub_cancel, ← HD1.out, ← HEJ.out, shiftDown_stop ltInt (q + 1) dx (.inr (by rw [← HG.out, Nat.add_sub_cancel, ← HG.out]; exact hl))])
                      by_cases h2 : b - (m + 1) ≥ 2
                      · have h2z : 2 ≤ (b : Int) - ((m : Int) + 1) := by omega
                        have hq := less_any (G (q + 1)) (G (q))
                        rw [hl] at hq
                        have HL := Lib.hid hl
                        clear hl
                        go_wp2_with fail
                        go_quiet (first | (go_at_call 44; refine Calls.quiet_of_same (hq _)))
                        go_wp2_with fail
                        have hcw2 : ∀ t, t < n → (wr.drewN nq).cell? ⟨g, o + t, none⟩ = some (.int .u8 (G t)) := hcw
                        have hfw2 : ∀ t, t < n → (wr.drewN nq).frozen? ⟨g, o + t, none⟩ = false := hfw
                        have HSX := Lib.hid (HS.out.drewN nq)
                        clear hcw hfw HS hq
                        generalize wr.drewN nq = w5 at *
                        clear nq
                        clear hcw2 hfw2 HL
                        go_wp2_with fail
                        go_loopw [10] (fun vj wr => ∃ (j : Nat) (dj : Array Int), vj = .int .i64 j ∧ m + 2 ≤ j ∧ j ≤ b ∧ dj.size = n ∧ St w g o pre sp dj wr ∧ shiftUp ltInt b j dj = shiftUp ltInt b (m + 1 + 1) dx) (fun vj _ => b - (intOf vj).toNat)
                        case atStart => exact ⟨m + 1 + 1, dx, by first | rfl | go_num, by omega, by omega, hsx, HSX.out, rfl⟩
                        case round =>
                          obtain ⟨j, dj, rfl, hj2, hjb, hsj, hSj, hEj⟩ := hrel
                          have HEJ := Lib.hid hEj
                          clear hEj
                          by_cases hj : j < b
                          · obtain ⟨q, rfl⟩ : ∃ q, j = q + 1 := ⟨j - 1, by omega⟩
                            have hjz : (q : Int) + 1 < (b : Int) := by omega
                            obtain ⟨G, hG⟩ : ∃ G : Nat → Int, ∀ t, G t = dj[t]! := ⟨fun t => dj[t]!, fun _ => rfl⟩
                            have hcw : ∀ t, t < n → wr.cell? ⟨g, o + t, none⟩ = some (.int .u8 (G t)) := fun t ht => by rw [hG]; exact hSj.row.cell t (by omega)
                            have hfw : ∀ t, t < n → wr.frozen? ⟨g, o + t, none⟩ = false := fun t _ => hSj.row.frozen t
                            have HS := Lib.hid hSj
                            have HG := Lib.hid hG
                            clear hSj hG
                            cases hl : ltInt (G (q + 1)) (G q)
                            · have HU := Lib.hid (show dj = shiftUp ltInt b (m + 1 + 1) dx by rw [← HEJ.out, shiftUp_stop ltInt b (q + 1) dj (.inr (by rw [← HG.out, Nat.add_sub_cancel, ← HG.out]; exact hl))])
                              have hq := less_any (G (q + 1)) (G (q))
                              rw [hl] at hq
                              have HL := Lib.hid hl
                              clear hl
                              go_wp2_with fail
                              go_quiet (first | (go_at_call 44; refine Calls.quiet_of_same (hq _)))
                              go_wp2_with fail
                              have hcw2 : ∀ t, t < n → (wr.drewN nq).cell? ⟨g, o + t, none⟩ = some (.int .u8 (G t)) := hcw
                              have hfw2 : ∀ t, t < n → (wr.drewN nq).frozen? ⟨g, o + t, none⟩ = false := hfw
                              have HS2 := Lib.hid (HS.out.drewN nq)
                              clear hcw hfw HS hq
                              generalize wr.drewN nq = w5 at *
                              clear nq
                              go_roundw
                              case rel => exact ⟨t + 1, m + 1, dj, by first | rfl | go_num, by first | rfl | go_num, by omega, by omega, by omega, hsj, HS2.out, by
                                rw [← HE.out, pi_go ltInt a b t i0 (m + 1) dk t5 HK.out (by omega) h50, Nat.add_sub_cancel]
                                congr 1
                                unfold fixUp; rw [if_pos h2, HU.out, HDX.out]⟩
                              case measure => (simp [intOf]; try omega)
                            · have HU := Lib.hid (show shiftUp ltInt b (q + 1 + 1) (swp dj (q + 1) q) = shiftUp ltInt b (m + 1 + 1) dx by rw [← HEJ.out, shiftUp_go ltInt b (q + 1) dj hj (by rw [← HG.out, Nat.add_sub_cancel, ← HG.out]; exact hl), Nat.add_sub_cancel])
                              have hq := less_any (G (q + 1)) (G (q))
                              rw [hl] at hq
                              have HL := Lib.hid hl
                              clear hl
                              go_wp2_with fail
                              go_quiet (first | (go_at_call 44; refine Calls.quiet_of_same (hq _)))
                              go_wp2_with fail
                              have hcw2 : ∀ t, t < n → (wr.drewN nq).cell? ⟨g, o + t, none⟩ = some (.int .u8 (G t)) := hcw
                              have hfw2 : ∀ t, t < n → (wr.drewN nq).frozen? ⟨g, o + t, none⟩ = false := hfw
                              have HS2 := Lib.hid (HS.out.drewN nq)
                              clear hcw hfw HS hq
                              generalize wr.drewN nq = w5 at *
                              clear nq
                              go_region
                              go_wp2_with fail
                              go_roundw
                              case rel => exact ⟨q + 1 + 1, swp dj (q + 1) q, by first | rfl | go_num, by omega, by omega, by rw [size_swp]; exact hsj, (HS2.out.swap (i := q + 1) (j := q) (by omega) (by omega) (HG.out _) (HG.out _)).drew, HU.out⟩
                              case measure => (simp [intOf]; try omega)
                          · have hjz : ¬ (j : Int) < (b : Int) := by omega
                            have HU := Lib.hid (show dj = shiftUp ltInt b (m + 1 + 1) dx by rw [← HEJ.out, shiftUp_stop ltInt b j dj (.inl hj)])
                            have HS2 := Lib.hid hSj
                            clear hSj
                            go_wp2_with fail
                            go_roundw
                            case rel => exact ⟨t + 1, m + 1, dj, by first | rfl | go_num, by first | rfl | go_num, by omega, by omega, by omega, hsj, HS2.out, by
                              rw [← HE.out, pi_go ltInt a b t i0 (m + 1) dk t5 HK.out (by omega) h50, Nat.add_sub_cancel]
                              congr 1
                              unfold fixUp; rw [if_pos h2, HU.out, HDX.out]⟩
                            case measure => (simp [intOf]; try omega)
                      · have h2z : ¬ 2 ≤ (b : Int) - ((m : Int) + 1) := by omega
                        have hq := less_any (G (q + 1)) (G (q))
                        rw [hl] at hq
                        have HL := Lib.hid hl
                        clear hl
                        go_wp2_with fail
                        go_quiet (first | (go_at_call 44; refine Calls.quiet_of_same (hq _)))
                        go_wp2_with fail
                        have hcw2 : ∀ t, t < n → (wr.drewN nq).cell? ⟨g, o + t, none⟩ = some (.int .u8 (G t)) := hcw
                        have hfw2 : ∀ t, t < n → (wr.drewN nq).frozen? ⟨g, o + t, none⟩ = false := hfw
                        have HSX := Lib.hid (HS.out.drewN nq)
                        clear hcw hfw HS hq
                        generalize wr.drewN nq = w5 at *
                        clear nq
                        clear hcw2 hfw2 HL
                        go_wp2_with fail
                        go_roundw
                        case rel => exact ⟨t + 1, m + 1, dx, by first | rfl | go_num, by first | rfl | go_num, by omega, by omega, by omega, hsx, HSX.out, by
                          rw [← HE.out, pi_go ltInt a b t i0 (m + 1) dk t5 HK.out (by omega) h50, Nat.add_sub_cancel]
                          congr 1
                          unfold fixUp; rw [if_neg h2, HDX.out]⟩
                        case measure => (simp [intOf]; try omega)
                    · have HU := Lib.hid (show shiftDown ltInt q (swp dx (q + 1) q) = shiftDown ltInt m d1 by rw [← HEJ.out, shiftDown_go ltInt (q + 1) dx (by omega) (by rw [← HG.out, Nat.add_sub_cancel, ← HG.out]; exact hl), Nat.add_sub_cancel])
                      have hq := less_any (G (q + 1)) (G (q))
                      rw [hl] at hq
                      have HL := Lib.hid hl
                      clear hl
                      go_wp2_with fail
                      go_quiet (first | (go_at_call 44; refine Calls.quiet_of_same (hq _)))
                      go_wp2_with fail
                      have hcw2 : ∀ t, t < n → (wr.drewN nq).cell? ⟨g, o + t, none⟩ = some (.int .u8 (G t)) := hcw
                      have hfw2 : ∀ t, t < n → (wr.drewN nq).frozen? ⟨g, o + t, none⟩ = false := hfw
                      have HS2 := Lib.hid (HS.out.drewN nq)
                      clear hcw hfw HS hq
                      generalize wr.drewN nq = w5 at *
                      clear nq
                      go_region
                      go_wp2_with fail
                      go_roundw
                      case rel => exact ⟨q, swp dx (q + 1) q, by first | rfl | go_num, by omega, by rw [size_swp]; exact hsx, (HS2.out.swap (i := q + 1) (j := q) (by omega) (by omega) (HG.out _) (HG.out _)).drew, HU.out⟩
                      case measure => (simp [intOf]; try omega)
              · have hdz : ¬ 2 ≤ (m : Int) + 1 - (a : Int) := by omega
                have HDX := Lib.hid (show fixDown ltInt a (m + 1) (swp dk (m + 1) m) = d1 by unfold fixDown; rw [if_neg hd, HD1.out])
                by_cases h2 : b - (m + 1) ≥ 2
                · have h2z : 2 ≤ (b : Int) - ((m : Int) + 1) := by omega
                  go_wp2_with fail
                  go_loopw [10] (fun vj wr => ∃ (j : Nat) (dj : Array Int), vj = .int .i64 j ∧ m + 2 ≤ j ∧ j ≤ b ∧ dj.size = n ∧ St w g o pre sp dj wr ∧ shiftUp ltInt b j dj = shiftUp ltInt b (m + 1 + 1) d1) (fun vj _ => b - (intOf vj).toNat)
                  case atStart => exact ⟨m + 1 + 1, d1, by first | rfl | go_num, by omega, by omega, hs1, HS3.out, rfl⟩
                  case round =>
                    obtain ⟨j, dj, rfl, hj2, hjb, hsj, hSj, hEj⟩ := hrel
                    have HEJ := Lib.hid hEj
                    clear hEj
                    by_cases hj : j < b
                    · obtain ⟨q, rfl⟩ : ∃ q, j = q + 1 := ⟨j - 1, by omega⟩
                      have hjz : (q : Int) + 1 < (b : Int) := by omega
                      obtain ⟨G, hG⟩ : ∃ G : Nat → Int, ∀ t, G t = dj[t]! := ⟨fun t => dj[t]!, fun _ => rfl⟩
                      have hcw : ∀ t, t < n → wr.cell? ⟨g, o + t, none⟩ = some (.int .u8 (G t)) := fun t ht => by rw [hG]; exact hSj.row.cell t (by omega)
                      have hfw : ∀ t, t < n → wr.frozen? ⟨g, o + t, none⟩ = false := fun t _ => hSj.row.frozen t
                      have HS := Lib.hid hSj
                      have HG := Lib.hid hG
                      clear hSj hG
                      cases hl : ltInt (G (q + 1)) (G q)
                      · have HU := Lib.hid (show dj = shiftUp ltInt b (m + 1 + 1) d1 by rw [← HEJ.out, shiftUp_stop ltInt b (q + 1) dj (.inr (by rw [← HG.out, Nat.add_sub_cancel, ← HG.out]; exact hl))])
                        have hq := less_any (G (q + 1)) (G (q))
                        rw [hl] at hq
                        have HL := Lib.hid hl
                        clear hl
                        go_wp2_with fail
                        go_quiet (first | (go_at_call 44; refine Calls.quiet_of_same (hq _)))
                        go_wp2_with fail
                        have hcw2 : ∀ t, t < n → (wr.drewN nq).cell? ⟨g, o + t, none⟩ = some (.int .u8 (G t)) := hcw
                        have hfw2 : ∀ t, t < n → (wr.drewN nq).frozen? ⟨g, o + t, none⟩ = false := hfw
                        have HS2 := Lib.hid (HS.out.drewN nq)
                        clear hcw hfw HS hq
                        generalize wr.drewN nq = w5 at *
                        clear nq
                        go_roundw
                        case rel => exact ⟨t + 1, m + 1, dj, by first | rfl | go_num, by first | rfl | go_num, by omega, by omega, by omega, hsj, HS2.out, by
                          rw [← HE.out, pi_go ltInt a b t i0 (m + 1) dk t5 HK.out (by omega) h50, Nat.add_sub_cancel]
                          congr 1
                          unfold fixUp; rw [if_pos h2, HU.out, HDX.out]⟩
                        case measure => (simp [intOf]; try omega)
                      · have HU := Lib.hid (show shiftUp ltInt b (q + 1 + 1) (swp dj (q + 1) q) = shiftUp ltInt b (m + 1 + 1) d1 by rw [← HEJ.out, shiftUp_go ltInt b (q + 1) dj hj (by rw [← HG.out, Nat.add_sub_cancel, ← HG.out]; exact hl), Nat.add_sub_cancel])
                        have hq := less_any (G (q + 1)) (G (q))
                        rw [hl] at hq
                        have HL := Lib.hid hl
                        clear hl
                        go_wp2_with fail
                        go_quiet (first | (go_at_call 44; refine Calls.quiet_of_same (hq _)))
                        go_wp2_with fail
                        have hcw2 : ∀ t, t < n → (wr.drewN nq).cell? ⟨g, o + t, none⟩ = some (.int .u8 (G t)) := hcw
                        have hfw2 : ∀ t, t < n → (wr.drewN nq).frozen? ⟨g, o + t, none⟩ = false := hfw
                        have HS2 := Lib.hid (HS.out.drewN nq)
                        clear hcw hfw HS hq
                        generalize wr.drewN nq = w5 at *
                        clear nq
                        go_region
                        go_wp2_with fail
                        go_roundw
                        case rel => exact ⟨q + 1 + 1, swp dj (q + 1) q, by first | rfl | go_num, by omega, by omega, by rw [size_swp]; exact hsj, (HS2.out.swap (i := q + 1) (j := q) (by omega) (by omega) (HG.out _) (HG.out _)).drew, HU.out⟩
                        case measure => (simp [intOf]; try omega)
                    · have hjz : ¬ (j : Int) < (b : Int) := by omega
                      have HU := Lib.hid (show dj = shiftUp ltInt b (m + 1 + 1) d1 by rw [← HEJ.out, shiftUp_stop ltInt b j dj (.inl hj)])
                      have HS2 := Lib.hid hSj
                      clear hSj
                      go_wp2_with fail
                      go_roundw
                      case rel => exact ⟨t + 1, m + 1, dj, by first | rfl | go_num, by first | rfl | go_num, by omega, by omega, by omega, hsj, HS2.out, by
                        rw [← HE.out, pi_go ltInt a b t i0 (m + 1) dk t5 HK.out (by omega) h50, Nat.add_sub_cancel]
                        congr 1
                        unfold fixUp; rw [if_pos h2, HU.out, HDX.out]⟩
                      case measure => (simp [intOf]; try omega)
                · have h2z : ¬ 2 ≤ (b : Int) - ((m : Int) + 1) := by omega
                  go_wp2_with fail
                  go_roundw
                  case rel => exact ⟨t + 1, m + 1, d1, by first | rfl | go_num, by first | rfl | go_num, by omega, by omega, by omega, hs1, HS3.out, by
                    rw [← HE.out, pi_go ltInt a b t i0 (m + 1) dk t5 HK.out (by omega) h50, Nat.add_sub_cancel]
                    congr 1
                    unfold fixUp; rw [if_neg h2, HDX.out]⟩
                  case measure => (simp [intOf]; try omega)
        · have hie : i = b := by omega
          subst hie
          have HF := Lib.hid (show partialInsertionSort ltInt d a i = (dk, true) by
            rw [HPI.out, ← HE.out, pi_true ltInt a i t i0 dk t5 (HEI.out.trans (scanSorted_stop ltInt dk i i (.inl hi)))])
          have hiz : decide ((i : Int) < (i : Int)) = false := by simp
          have HS := Lib.hid hS
          clear hS
          go_wp2_with fail
          go_quiet (fail)
          go_wp2_with fail
          go_ret
          exact ⟨by (rw [HF.out]; try rfl), by rw [HF.out]; exact HS.out.drewN nq⟩
    · obtain rfl : t = 5 := by omega
      have HF := Lib.hid (show partialInsertionSort ltInt d a b = (dk, false) by rw [HPI.out, ← HE.out]; rfl)
      go_wp2_with fail
      go_ret
      exact ⟨by (rw [HF.out]; try rfl), by rw [HF.out]; exact HS0.out⟩
end Go.Proofs.Ythhlpbopbabojaa
