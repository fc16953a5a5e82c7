/-
  partitionOrdered at bytes, walked. (Printed by gen_prt.py.)
-/
import Derived.Test.YthhlpbopbabojaaSrtE
namespace Go.Proofs.Ythhlpbopbabojaa
open Go.RowKit Go.Sort

set_option maxRecDepth 1000000 in
set_option maxHeartbeats 4000000 in
theorem part_any (g o c n a b p : Nat) (pre sp : Array Value) (d : Array Int) (w : World) (hR : RowB w g o pre sp d) (hn : d.size = n) (hap : a ≤ p) (hpb : p < b) (hb : b ≤ n) (hn2 : n ≤ 1048576) :
    Calls Try.prog 46 #[.slice (some ⟨g, o, none⟩) n c, .int .i64 a, .int .i64 b, .int .i64 p] w fun e w' =>
      e = .returned (.tuple #[.int .i64 (partition ltInt d a b p).1, .bool (partition ltInt d a b p).2.1]) ∧ St w g o pre sp (partition ltInt d a b p).2.2 w' := by
  have hS0 := St.start hR
  clear hR
  obtain ⟨i0, hi0e⟩ : ∃ i0 : Nat, i0 = a + 1 := ⟨_, rfl⟩
  obtain ⟨j0, hj0e⟩ : ∃ j0 : Nat, j0 = b - 1 := ⟨_, rfl⟩
  have HD := Lib.hid (show partition ltInt d a b p = if scanUp (fun x => ltInt x (swp d a p)[a]!) (swp d a p) j0 i0 > scanDown (fun x => !ltInt x (swp d a p)[a]!) (swp d a p) (scanUp (fun x => ltInt x (swp d a p)[a]!) (swp d a p) j0 i0) j0 then (scanDown (fun x => !ltInt x (swp d a p)[a]!) (swp d a p) (scanUp (fun x => ltInt x (swp d a p)[a]!) (swp d a p) j0 i0) j0, true, swp (swp d a p) (scanDown (fun x => !ltInt x (swp d a p)[a]!) (swp d a p) (scanUp (fun x => ltInt x (swp d a p)[a]!) (swp d a p) j0 i0) j0) a)
    else ((partLoop ltInt a (scanUp (fun x => ltInt x (swp d a p)[a]!) (swp d a p) j0 i0 + 1) (scanDown (fun x => !ltInt x (swp d a p)[a]!) (swp d a p) (scanUp (fun x => ltInt x (swp d a p)[a]!) (swp d a p) j0 i0) j0 - 1) (swp (swp d a p) (scanUp (fun x => ltInt x (swp d a p)[a]!) (swp d a p) j0 i0) (scanDown (fun x => !ltInt x (swp d a p)[a]!) (swp d a p) (scanUp (fun x => ltInt x (swp d a p)[a]!) (swp d a p) j0 i0) j0))).1, false,
      swp (partLoop ltInt a (scanUp (fun x => ltInt x (swp d a p)[a]!) (swp d a p) j0 i0 + 1) (scanDown (fun x => !ltInt x (swp d a p)[a]!) (swp d a p) (scanUp (fun x => ltInt x (swp d a p)[a]!) (swp d a p) j0 i0) j0 - 1) (swp (swp d a p) (scanUp (fun x => ltInt x (swp d a p)[a]!) (swp d a p) j0 i0) (scanDown (fun x => !ltInt x (swp d a p)[a]!) (swp d a p) (scanUp (fun x => ltInt x (swp d a p)[a]!) (swp d a p) j0 i0) j0))).2
        (partLoop ltInt a (scanUp (fun x => ltInt x (swp d a p)[a]!) (swp d a p) j0 i0 + 1) (scanDown (fun x => !ltInt x (swp d a p)[a]!) (swp d a p) (scanUp (fun x => ltInt x (swp d a p)[a]!) (swp d a p) j0 i0) j0 - 1) (swp (swp d a p) (scanUp (fun x => ltInt x (swp d a p)[a]!) (swp d a p) j0 i0) (scanDown (fun x => !ltInt x (swp d a p)[a]!) (swp d a p) (scanUp (fun x => ltInt x (swp d a p)[a]!) (swp d a p) j0 i0) j0))).1 a) by
    unfold partition
    rw [hi0e, hj0e])
  have hbz : (b : Int) - 1 = (j0 : Int) := by omega
  have hbn : b - 1 = j0 := hj0e.symm
  have haz : (a : Int) + 1 = (i0 : Int) := by omega
  have hai : a < i0 := by omega
  have hij0 : i0 ≤ j0 + 1 := by omega
  have hjb : j0 < b := by omega
  obtain ⟨G, hG⟩ : ∃ G : Nat → Int, ∀ t, G t = d[t]! := ⟨fun t => d[t]!, fun _ => rfl⟩
  have hcw : ∀ t, t < n → w.cell? ⟨g, o + t, none⟩ = some (.int .u8 (G t)) := fun t ht => by rw [hG]; exact hS0.row.cell t (by omega)
  have hfw : ∀ t, t < n → w.frozen? ⟨g, o + t, none⟩ = false := fun t _ => hS0.row.frozen t
  obtain ⟨G2, hG2⟩ : ∃ G2 : Nat → Int, ∀ t, t < n → (w.setCell ⟨g, o + a, none⟩ (.int .u8 (G (p)))).cell? ⟨g, o + t, none⟩ = some (.int .u8 (G2 t)) :=
    ⟨fun t => (d.setIfInBounds (a) (G (p)))[t]!, fun t ht => (hS0.row.set (by omega) _).cell t (by rw [Array.size_setIfInBounds]; omega)⟩
  have HS := Lib.hid hS0
  have HG := Lib.hid hG
  clear hS0 hG
  clear hj0e hi0e
  go_enter Try.func46, Try.ntmps46
  go_wp2_with fail
  go_region
  go_wp2_with fail
  have HS0 := Lib.hid (show St w g o pre sp (swp d a p) _ from (HS.out.swap (i := a) (j := p) (by omega) (by omega) (HG.out _) (HG.out _)).drew)
  clear hcw hfw hG2 HS HG
  obtain ⟨dk, hdk⟩ : ∃ dk, dk = swp d a p := ⟨_, rfl⟩
  rw [← hdk] at HS0 HD
  have hsk : dk.size = n := by rw [hdk, size_swp]; exact hn
  clear hdk
  go_loopw [10] (fun vi wr => ∃ i : Nat, vi = .int .i64 i ∧ i0 ≤ i ∧ i ≤ j0 + 1 ∧ St w g o pre sp dk wr ∧ scanUp (fun x => ltInt x dk[a]!) dk j0 i = scanUp (fun x => ltInt x dk[a]!) dk j0 i0) (fun vi _ => j0 + 1 - (intOf vi).toNat)
  case atStart => exact ⟨i0, by first | rfl | go_num, Nat.le_refl _, by omega, HS0.out, rfl⟩
  case round =>
    obtain ⟨i, rfl, hi0, hij, hS, hE⟩ := hrel
    have HE := Lib.hid hE
    clear hE
    by_cases hg : i ≤ j0
    · have hgz : (i : Int) ≤ (j0 : Int) := by omega
      obtain ⟨G, hG⟩ : ∃ G : Nat → Int, ∀ t, G t = dk[t]! := ⟨fun t => dk[t]!, fun _ => rfl⟩
      have hcw : ∀ t, t < n → wr.cell? ⟨g, o + t, none⟩ = some (.int .u8 (G t)) := fun t ht => by rw [hG]; exact hS.row.cell t (by omega)
      have hfw : ∀ t, t < n → wr.frozen? ⟨g, o + t, none⟩ = false := fun t _ => hS.row.frozen t
      cases hl : ltInt (G (i)) (G (a))
      · have hq := less_any (G (i)) (G (a))
        rw [hl] at hq
        have hp : (fun x => ltInt x dk[a]!) dk[i]! = false := by simp only [← hG]; rw [hl]
        have HS := Lib.hid hS
        have HP := Lib.hid hp
        clear hS hl hp hG
        go_wp2_with fail
        go_quiet (first | (go_at_call 44; refine Calls.quiet_of_same (hq _)))
        go_wp2_with fail
        have HX1 := Lib.hid (su_stop (i := i) (j := j0) (.inr HP.out) |>.symm.trans HE.out)
        have HS1 := Lib.hid (HS.out.drewN nq)
        clear HS HE HP hq hcw hfw
        generalize wr.drewN nq = w1 at *
        clear nq
        clear hgz
        obtain ⟨i1, rfl⟩ : ∃ i1 : Nat, i1 = i := ⟨_, rfl⟩
        go_loopw [11] (fun vi wr => ∃ j : Nat, vi = .int .i64 j ∧ i1 ≤ j + 1 ∧ j ≤ j0 ∧ St w g o pre sp dk wr ∧ scanDown (fun x => !ltInt x dk[a]!) dk i1 j = scanDown (fun x => !ltInt x dk[a]!) dk i1 j0) (fun vi _ => (intOf vi).toNat)
        case atStart => exact ⟨j0, by first | rfl | go_num, by omega, Nat.le_refl _, HS1.out, rfl⟩
        case round =>
          obtain ⟨j, rfl, hij, hj0, hS, hE⟩ := hrel
          have HE := Lib.hid hE
          clear hE
          by_cases hg : i1 ≤ j
          · have hgz : (i1 : Int) ≤ (j : Int) := by omega
            obtain ⟨m, rfl⟩ : ∃ m, j = m + 1 := ⟨j - 1, by omega⟩
            have hgz2 : (i1 : Int) ≤ (m : Int) + 1 := by omega
            obtain ⟨G, hG⟩ : ∃ G : Nat → Int, ∀ t, G t = dk[t]! := ⟨fun t => dk[t]!, fun _ => rfl⟩
            have hcw : ∀ t, t < n → wr.cell? ⟨g, o + t, none⟩ = some (.int .u8 (G t)) := fun t ht => by rw [hG]; exact hS.row.cell t (by omega)
            have hfw : ∀ t, t < n → wr.frozen? ⟨g, o + t, none⟩ = false := fun t _ => hS.row.frozen t
            cases hl : ltInt (G (m + 1)) (G (a))
            · have hq := less_any (G (m + 1)) (G (a))
              rw [hl] at hq
              have hp : (fun x => !ltInt x dk[a]!) dk[m + 1]! = true := by simp only [← hG]; rw [hl]; rfl
              have HS := Lib.hid hS
              have HP := Lib.hid hp
              clear hS hl hp hG
              go_wp2_with fail
              go_quiet (first | (go_at_call 44; refine Calls.quiet_of_same (hq _)))
              go_wp2_with fail
              go_roundw
              case rel => exact ⟨m, by first | rfl | go_num, by omega, by omega, HS.out.drewN nq, (sd_go hg HP.out).trans HE.out⟩
              case measure => (simp [intOf]; try omega)
            · have hq := less_any (G (m + 1)) (G (a))
              rw [hl] at hq
              have hp : (fun x => !ltInt x dk[a]!) dk[m + 1]! = false := by simp only [← hG]; rw [hl]; rfl
              have HS := Lib.hid hS
              have HP := Lib.hid hp
              clear hS hl hp hG
              go_wp2_with fail
              go_quiet (first | (go_at_call 44; refine Calls.quiet_of_same (hq _)))
              go_wp2_with fail
              have HX2 := Lib.hid (sd_stop (i := i1) (j := m + 1) (.inr HP.out) |>.symm.trans HE.out)
              have HS2 := Lib.hid (HS.out.drewN nq)
              clear HS HE HP hq hcw hfw
              generalize wr.drewN nq = w2 at *
              clear nq
              have hgt : ¬ (m + 1) < i1 := by omega
              have hgtz : ¬ ((m + 1) : Int) < (i1 : Int) := by omega
              have hlt := scan_lt (fun x => by simp) HX1.out HX2.out (by omega) (by omega)
              obtain ⟨R, hR⟩ : ∃ R, R = partLoop ltInt a (i1 + 1) ((m + 1) - 1) (swp dk i1 ((m + 1))) := ⟨_, rfl⟩
              have HR := Lib.hid (show partition ltInt d a b p = (R.1, false, swp R.2 R.1 a) by
                rw [HD.out, ← HX1.out, ← HX2.out, if_neg hgt, hR])
              have HR2 := Lib.hid hR.symm
              clear hR HX1 HX2 HD
              have hS2 := HS2.out
              clear HS2
              obtain ⟨G, hG⟩ : ∃ G : Nat → Int, ∀ t, G t = dk[t]! := ⟨fun t => dk[t]!, fun _ => rfl⟩
              have hcw : ∀ t, t < n → w2.cell? ⟨g, o + t, none⟩ = some (.int .u8 (G t)) := fun t ht => by rw [hG]; exact hS2.row.cell t (by omega)
              have hfw : ∀ t, t < n → w2.frozen? ⟨g, o + t, none⟩ = false := fun t _ => hS2.row.frozen t
              obtain ⟨G2, hG2⟩ : ∃ G2 : Nat → Int, ∀ t, t < n → (w2.setCell ⟨g, o + i1, none⟩ (.int .u8 (G ((m + 1))))).cell? ⟨g, o + t, none⟩ = some (.int .u8 (G2 t)) :=
                ⟨fun t => (dk.setIfInBounds (i1) (G ((m + 1))))[t]!, fun t ht => (hS2.row.set (by omega) _).cell t (by rw [Array.size_setIfInBounds]; omega)⟩
              have HS := Lib.hid hS2
              have HG := Lib.hid hG
              clear hS2 hG
              go_wp2_with fail
              go_region
              go_wp2_with fail
              have HSL := Lib.hid (HS.out.swap (i := i1) (j := (m + 1)) (by omega) (by omega) (HG.out _) (HG.out _)).drew
              clear hcw hfw hG2 HS HG
              go_loopw [10, 11] (fun vi vj wr => ∃ (i j : Nat) (dk : Array Int), vi = .int .i64 i ∧ vj = .int .i64 j ∧ a < i ∧ i ≤ j + 1 ∧ j < b ∧ dk.size = n ∧ St w g o pre sp dk wr ∧ partLoop ltInt a i j dk = R) (fun vi _ _ => b - (intOf vi).toNat)
              case atStart => exact ⟨i1 + 1, (m + 1) - 1, swp dk i1 ((m + 1)), by first | rfl | go_num, by first | rfl | go_num, by omega, by omega, by omega, by rw [size_swp]; exact hsk, HSL.out, HR2.out⟩
              case round =>
                clear HSL HR2
                obtain ⟨i0, j0, dk, rfl, rfl, hai, hij0, hjb, hsk, hS0, hE⟩ := hrel
                have HO := Lib.hid hE
                have HS0 := Lib.hid hS0
                clear hE hS0
                obtain ⟨wo, rfl⟩ : ∃ wo : World, wo = wr := ⟨_, rfl⟩
                go_wp2_with fail
                go_loopw [10] (fun vi wr => ∃ i : Nat, vi = .int .i64 i ∧ i0 ≤ i ∧ i ≤ j0 + 1 ∧ St w g o pre sp dk wr ∧ scanUp (fun x => ltInt x dk[a]!) dk j0 i = scanUp (fun x => ltInt x dk[a]!) dk j0 i0) (fun vi _ => j0 + 1 - (intOf vi).toNat)
                case atStart => exact ⟨i0, by first | rfl | go_num, Nat.le_refl _, by omega, HS0.out, rfl⟩
                case round =>
                  obtain ⟨i, rfl, hi0, hij, hS, hE⟩ := hrel
                  have HE := Lib.hid hE
                  clear hE
                  by_cases hg : i ≤ j0
                  · have hgz : (i : Int) ≤ (j0 : Int) := by omega
                    obtain ⟨G, hG⟩ : ∃ G : Nat → Int, ∀ t, G t = dk[t]! := ⟨fun t => dk[t]!, fun _ => rfl⟩
                    have hcw : ∀ t, t < n → wr.cell? ⟨g, o + t, none⟩ = some (.int .u8 (G t)) := fun t ht => by rw [hG]; exact hS.row.cell t (by omega)
                    have hfw : ∀ t, t < n → wr.frozen? ⟨g, o + t, none⟩ = false := fun t _ => hS.row.frozen t
                    cases hl : ltInt (G (i)) (G (a))
                    · have hq := less_any (G (i)) (G (a))
                      rw [hl] at hq
                      have hp : (fun x => ltInt x dk[a]!) dk[i]! = false := by simp only [← hG]; rw [hl]
                      have HS := Lib.hid hS
                      have HP := Lib.hid hp
                      clear hS hl hp hG
                      go_wp2_with fail
                      go_quiet (first | (go_at_call 44; refine Calls.quiet_of_same (hq _)))
                      go_wp2_with fail
                      have HX1 := Lib.hid (su_stop (i := i) (j := j0) (.inr HP.out) |>.symm.trans HE.out)
                      have HS1 := Lib.hid (HS.out.drewN nq)
                      clear HS HE HP hq hcw hfw
                      generalize wr.drewN nq = w1 at *
                      clear nq
                      clear hgz
                      obtain ⟨i1, rfl⟩ : ∃ i1 : Nat, i1 = i := ⟨_, rfl⟩
                      go_loopw [11] (fun vi wr => ∃ j : Nat, vi = .int .i64 j ∧ i1 ≤ j + 1 ∧ j ≤ j0 ∧ St w g o pre sp dk wr ∧ scanDown (fun x => !ltInt x dk[a]!) dk i1 j = scanDown (fun x => !ltInt x dk[a]!) dk i1 j0) (fun vi _ => (intOf vi).toNat)
                      case atStart => exact ⟨j0, by first | rfl | go_num, by omega, Nat.le_refl _, HS1.out, rfl⟩
                      case round =>
                        obtain ⟨j, rfl, hij, hj0, hS, hE⟩ := hrel
                        have HE := Lib.hid hE
                        clear hE
                        by_cases hg : i1 ≤ j
                        · have hgz : (i1 : Int) ≤ (j : Int) := by omega
                          obtain ⟨m, rfl⟩ : ∃ m, j = m + 1 := ⟨j - 1, by omega⟩
                          have hgz2 : (i1 : Int) ≤ (m : Int) + 1 := by omega
                          obtain ⟨G, hG⟩ : ∃ G : Nat → Int, ∀ t, G t = dk[t]! := ⟨fun t => dk[t]!, fun _ => rfl⟩
                          have hcw : ∀ t, t < n → wr.cell? ⟨g, o + t, none⟩ = some (.int .u8 (G t)) := fun t ht => by rw [hG]; exact hS.row.cell t (by omega)
                          have hfw : ∀ t, t < n → wr.frozen? ⟨g, o + t, none⟩ = false := fun t _ => hS.row.frozen t
                          cases hl : ltInt (G (m + 1)) (G (a))
                          · have hq := less_any (G (m + 1)) (G (a))
                            rw [hl] at hq
                            have hp : (fun x => !ltInt x dk[a]!) dk[m + 1]! = true := by simp only [← hG]; rw [hl]; rfl
                            have HS := Lib.hid hS
                            have HP := Lib.hid hp
                            clear hS hl hp hG
                            go_wp2_with fail
                            go_quiet (first | (go_at_call 44; refine Calls.quiet_of_same (hq _)))
                            go_wp2_with fail
                            go_roundw
                            case rel => exact ⟨m, by first | rfl | go_num, by omega, by omega, HS.out.drewN nq, (sd_go hg HP.out).trans HE.out⟩
                            case measure => (simp [intOf]; try omega)
                          · have hq := less_any (G (m + 1)) (G (a))
                            rw [hl] at hq
                            have hp : (fun x => !ltInt x dk[a]!) dk[m + 1]! = false := by simp only [← hG]; rw [hl]; rfl
                            have HS := Lib.hid hS
                            have HP := Lib.hid hp
                            clear hS hl hp hG
                            go_wp2_with fail
                            go_quiet (first | (go_at_call 44; refine Calls.quiet_of_same (hq _)))
                            go_wp2_with fail
                            have HX2 := Lib.hid (sd_stop (i := i1) (j := m + 1) (.inr HP.out) |>.symm.trans HE.out)
                            have HS2 := Lib.hid (HS.out.drewN nq)
                            clear HS HE HP hq hcw hfw
                            generalize wr.drewN nq = w2 at *
                            clear nq
                            have HP2 := Lib.hid (partLoop_eq ltInt a i0 j0 dk)
                            have hgt : ¬ (m + 1) < i1 := by omega
                            have hgtz : ¬ ((m + 1) : Int) < (i1 : Int) := by omega
                            have hlt := scan_lt (fun x => by simp) HX1.out HX2.out (by omega) (by omega)
                            have HF := Lib.hid (show partLoop ltInt a (i1 + 1) ((m + 1) - 1) (swp dk i1 ((m + 1))) = R by
                              rw [← HO.out, HP2.out, ← HX1.out, ← HX2.out, if_neg hgt])
                            have hS2 := HS2.out
                            clear HS2 HX1 HX2 HP2
                            obtain ⟨G, hG⟩ : ∃ G : Nat → Int, ∀ t, G t = dk[t]! := ⟨fun t => dk[t]!, fun _ => rfl⟩
                            have hcw : ∀ t, t < n → w2.cell? ⟨g, o + t, none⟩ = some (.int .u8 (G t)) := fun t ht => by rw [hG]; exact hS2.row.cell t (by omega)
                            have hfw : ∀ t, t < n → w2.frozen? ⟨g, o + t, none⟩ = false := fun t _ => hS2.row.frozen t
                            obtain ⟨G2, hG2⟩ : ∃ G2 : Nat → Int, ∀ t, t < n → (w2.setCell ⟨g, o + i1, none⟩ (.int .u8 (G ((m + 1))))).cell? ⟨g, o + t, none⟩ = some (.int .u8 (G2 t)) :=
                              ⟨fun t => (dk.setIfInBounds (i1) (G ((m + 1))))[t]!, fun t ht => (hS2.row.set (by omega) _).cell t (by rw [Array.size_setIfInBounds]; omega)⟩
                            have HS := Lib.hid hS2
                            have HG := Lib.hid hG
                            clear hS2 hG
                            go_wp2_with fail
                            go_region
                            go_wp2_with fail
                            go_roundw
                            case rel => exact ⟨i1 + 1, (m + 1) - 1, swp dk i1 ((m + 1)), by first | rfl | go_num, by first | rfl | go_num, by omega, by omega, by omega, by rw [size_swp]; exact hsk, (HS.out.swap (i := i1) (j := (m + 1)) (by omega) (by omega) (HG.out _) (HG.out _)).drew, HF.out⟩
                            case measure => (simp [intOf]; try omega)
                        · have hgz : decide ((i1 : Int) ≤ (j : Int)) = false := decide_eq_false (by omega)
                          have HX2 := Lib.hid (sd_stop (p := fun x => !ltInt x dk[a]!) (d := dk) (i := i1) (j := j) (.inl hg) |>.symm.trans HE.out)
                          have HS := Lib.hid hS
                          clear hS HE
                          go_wp2_with fail
                          go_quiet (fail)
                          go_wp2_with fail
                          have HS2 := Lib.hid (HS.out.drewN nq)
                          clear HS
                          generalize wr.drewN nq = w2 at *
                          clear nq
                          have HP2 := Lib.hid (partLoop_eq ltInt a i0 j0 dk)
                          have hgt : j < i1 := by omega
                          have hgtz : (j : Int) < (i1 : Int) := by omega
                          have HF := Lib.hid (show partition ltInt d a b p = (j, false, swp dk j a) by
                            have h : R = (j, dk) := by rw [← HO.out, HP2.out, ← HX1.out, ← HX2.out, if_pos hgt]
                            rw [HR.out, h])
                          clear HX1 HX2 HP2
                          go_wp2_with fail
                          have hS2 := HS2.out
                          clear HS2
                          obtain ⟨G, hG⟩ : ∃ G : Nat → Int, ∀ t, G t = dk[t]! := ⟨fun t => dk[t]!, fun _ => rfl⟩
                          have hcw : ∀ t, t < n → w2.cell? ⟨g, o + t, none⟩ = some (.int .u8 (G t)) := fun t ht => by rw [hG]; exact hS2.row.cell t (by omega)
                          have hfw : ∀ t, t < n → w2.frozen? ⟨g, o + t, none⟩ = false := fun t _ => hS2.row.frozen t
                          obtain ⟨G2, hG2⟩ : ∃ G2 : Nat → Int, ∀ t, t < n → (w2.setCell ⟨g, o + j, none⟩ (.int .u8 (G (a)))).cell? ⟨g, o + t, none⟩ = some (.int .u8 (G2 t)) :=
                            ⟨fun t => (dk.setIfInBounds (j) (G (a)))[t]!, fun t ht => (hS2.row.set (by omega) _).cell t (by rw [Array.size_setIfInBounds]; omega)⟩
                          have HS := Lib.hid hS2
                          have HG := Lib.hid hG
                          clear hS2 hG
                          go_wp2_with fail
                          go_region
                          go_wp2_with fail
                          go_ret2
                          exact ⟨by (rw [HF.out]; try rfl), by
                            rw [HF.out]
                            exact (HS.out.swap (i := j) (j := a) (by omega) (by omega) (HG.out _) (HG.out _)).drew⟩
                    · have hq := less_any (G (i)) (G (a))
                      rw [hl] at hq
                      have hp : (fun x => ltInt x dk[a]!) dk[i]! = true := by simp only [← hG]; rw [hl]
                      have HS := Lib.hid hS
                      have HP := Lib.hid hp
                      clear hS hl hp hG
                      go_wp2_with fail
                      go_quiet (first | (go_at_call 44; refine Calls.quiet_of_same (hq _)))
                      go_wp2_with fail
                      go_roundw
                      case rel => exact ⟨i + 1, by first | rfl | go_num, by omega, by omega, HS.out.drewN nq, (su_go hg HP.out).trans HE.out⟩
                      case measure => (simp [intOf]; try omega)
                  · have hgz : decide ((i : Int) ≤ (j0 : Int)) = false := decide_eq_false (by omega)
                    have HX1 := Lib.hid (su_stop (p := fun x => ltInt x dk[a]!) (d := dk) (i := i) (j := j0) (.inl hg) |>.symm.trans HE.out)
                    have HS := Lib.hid hS
                    clear hS HE
                    go_wp2_with fail
                    go_quiet (fail)
                    go_wp2_with fail
                    have HS1 := Lib.hid (HS.out.drewN nq)
                    clear HS
                    generalize wr.drewN nq = w1 at *
                    clear nq
                    clear hgz
                    obtain ⟨i1, rfl⟩ : ∃ i1 : Nat, i1 = i := ⟨_, rfl⟩
                    go_loopw [11] (fun vi wr => ∃ j : Nat, vi = .int .i64 j ∧ i1 ≤ j + 1 ∧ j ≤ j0 ∧ St w g o pre sp dk wr ∧ scanDown (fun x => !ltInt x dk[a]!) dk i1 j = scanDown (fun x => !ltInt x dk[a]!) dk i1 j0) (fun vi _ => (intOf vi).toNat)
                    case atStart => exact ⟨j0, by first | rfl | go_num, by omega, Nat.le_refl _, HS1.out, rfl⟩
                    case round =>
                      obtain ⟨j, rfl, hij, hj0, hS, hE⟩ := hrel
                      have HE := Lib.hid hE
                      clear hE
                      by_cases hg : i1 ≤ j
                      · exfalso; omega
                      · have hgz : decide ((i1 : Int) ≤ (j : Int)) = false := decide_eq_false (by omega)
                        have HX2 := Lib.hid (sd_stop (p := fun x => !ltInt x dk[a]!) (d := dk) (i := i1) (j := j) (.inl hg) |>.symm.trans HE.out)
                        have HS := Lib.hid hS
                        clear hS HE
                        go_wp2_with fail
                        go_quiet (fail)
                        go_wp2_with fail
                        have HS2 := Lib.hid (HS.out.drewN nq)
                        clear HS
                        generalize wr.drewN nq = w2 at *
                        clear nq
                        have HP2 := Lib.hid (partLoop_eq ltInt a i0 j0 dk)
                        have hgt : j < i1 := by omega
                        have hgtz : (j : Int) < (i1 : Int) := by omega
                        have HF := Lib.hid (show partition ltInt d a b p = (j, false, swp dk j a) by
                          have h : R = (j, dk) := by rw [← HO.out, HP2.out, ← HX1.out, ← HX2.out, if_pos hgt]
                          rw [HR.out, h])
                        clear HX1 HX2 HP2
                        go_wp2_with fail
                        have hS2 := HS2.out
                        clear HS2
                        obtain ⟨G, hG⟩ : ∃ G : Nat → Int, ∀ t, G t = dk[t]! := ⟨fun t => dk[t]!, fun _ => rfl⟩
                        have hcw : ∀ t, t < n → w2.cell? ⟨g, o + t, none⟩ = some (.int .u8 (G t)) := fun t ht => by rw [hG]; exact hS2.row.cell t (by omega)
                        have hfw : ∀ t, t < n → w2.frozen? ⟨g, o + t, none⟩ = false := fun t _ => hS2.row.frozen t
                        obtain ⟨G2, hG2⟩ : ∃ G2 : Nat → Int, ∀ t, t < n → (w2.setCell ⟨g, o + j, none⟩ (.int .u8 (G (a)))).cell? ⟨g, o + t, none⟩ = some (.int .u8 (G2 t)) :=
                          ⟨fun t => (dk.setIfInBounds (j) (G (a)))[t]!, fun t ht => (hS2.row.set (by omega) _).cell t (by rw [Array.size_setIfInBounds]; omega)⟩
                        have HS := Lib.hid hS2
                        have HG := Lib.hid hG
                        clear hS2 hG
                        go_wp2_with fail
                        go_region
                        go_wp2_with fail
                        go_ret2
                        exact ⟨by (rw [HF.out]; try rfl), by
                          rw [HF.out]
                          exact (HS.out.swap (i := j) (j := a) (by omega) (by omega) (HG.out _) (HG.out _)).drew⟩
          · have hgz : decide ((i1 : Int) ≤ (j : Int)) = false := decide_eq_false (by omega)
            have HX2 := Lib.hid (sd_stop (p := fun x => !ltInt x dk[a]!) (d := dk) (i := i1) (j := j) (.inl hg) |>.symm.trans HE.out)
            have HS := Lib.hid hS
            clear hS HE
            go_wp2_with fail
            go_quiet (fail)
            go_wp2_with fail
            have HS2 := Lib.hid (HS.out.drewN nq)
            clear HS
            generalize wr.drewN nq = w2 at *
            clear nq
            have hgt : j < i1 := by omega
            have hgtz : (j : Int) < (i1 : Int) := by omega
            have HF := Lib.hid (show partition ltInt d a b p = (j, true, swp dk j a) by
              rw [HD.out, ← HX1.out, ← HX2.out, if_pos hgt])
            clear HX1 HX2
            go_wp2_with fail
            have hS2 := HS2.out
            clear HS2
            obtain ⟨G, hG⟩ : ∃ G : Nat → Int, ∀ t, G t = dk[t]! := ⟨fun t => dk[t]!, fun _ => rfl⟩
            have hcw : ∀ t, t < n → w2.cell? ⟨g, o + t, none⟩ = some (.int .u8 (G t)) := fun t ht => by rw [hG]; exact hS2.row.cell t (by omega)
            have hfw : ∀ t, t < n → w2.frozen? ⟨g, o + t, none⟩ = false := fun t _ => hS2.row.frozen t
            obtain ⟨G2, hG2⟩ : ∃ G2 : Nat → Int, ∀ t, t < n → (w2.setCell ⟨g, o + j, none⟩ (.int .u8 (G (a)))).cell? ⟨g, o + t, none⟩ = some (.int .u8 (G2 t)) :=
              ⟨fun t => (dk.setIfInBounds (j) (G (a)))[t]!, fun t ht => (hS2.row.set (by omega) _).cell t (by rw [Array.size_setIfInBounds]; omega)⟩
            have HS := Lib.hid hS2
            have HG := Lib.hid hG
            clear hS2 hG
            go_wp2_with fail
            go_region
            go_wp2_with fail
            go_ret2
            exact ⟨by (rw [HF.out]; try rfl), by
              rw [HF.out]
              exact (HS.out.swap (i := j) (j := a) (by omega) (by omega) (HG.out _) (HG.out _)).drew⟩
      · have hq := less_any (G (i)) (G (a))
        rw [hl] at hq
        have hp : (fun x => ltInt x dk[a]!) dk[i]! = true := by simp only [← hG]; rw [hl]
        have HS := Lib.hid hS
        have HP := Lib.hid hp
        clear hS hl hp hG
        go_wp2_with fail
        go_quiet (first | (go_at_call 44; refine Calls.quiet_of_same (hq _)))
        go_wp2_with fail
        go_roundw
        case rel => exact ⟨i + 1, by first | rfl | go_num, by omega, by omega, HS.out.drewN nq, (su_go hg HP.out).trans HE.out⟩
        case measure => (simp [intOf]; try omega)
    · have hgz : decide ((i : Int) ≤ (j0 : Int)) = false := decide_eq_false (by omega)
      have HX1 := Lib.hid (su_stop (p := fun x => ltInt x dk[a]!) (d := dk) (i := i) (j := j0) (.inl hg) |>.symm.trans HE.out)
      have HS := Lib.hid hS
      clear hS HE
      go_wp2_with fail
      go_quiet (fail)
      go_wp2_with fail
      have HS1 := Lib.hid (HS.out.drewN nq)
      clear HS
      generalize wr.drewN nq = w1 at *
      clear nq
      clear hgz
      obtain ⟨i1, rfl⟩ : ∃ i1 : Nat, i1 = i := ⟨_, rfl⟩
      go_loopw [11] (fun vi wr => ∃ j : Nat, vi = .int .i64 j ∧ i1 ≤ j + 1 ∧ j ≤ j0 ∧ St w g o pre sp dk wr ∧ scanDown (fun x => !ltInt x dk[a]!) dk i1 j = scanDown (fun x => !ltInt x dk[a]!) dk i1 j0) (fun vi _ => (intOf vi).toNat)
      case atStart => exact ⟨j0, by first | rfl | go_num, by omega, Nat.le_refl _, HS1.out, rfl⟩
      case round =>
        obtain ⟨j, rfl, hij, hj0, hS, hE⟩ := hrel
        have HE := Lib.hid hE
        clear hE
        by_cases hg : i1 ≤ j
        · exfalso; omega
        · have hgz : decide ((i1 : Int) ≤ (j : Int)) = false := decide_eq_false (by omega)
          have HX2 := Lib.hid (sd_stop (p := fun x => !ltInt x dk[a]!) (d := dk) (i := i1) (j := j) (.inl hg) |>.symm.trans HE.out)
          have HS := Lib.hid hS
          clear hS HE
          go_wp2_with fail
          go_quiet (fail)
          go_wp2_with fail
          have HS2 := Lib.hid (HS.out.drewN nq)
          clear HS
          generalize wr.drewN nq = w2 at *
          clear nq
          have hgt : j < i1 := by omega
          have hgtz : (j : Int) < (i1 : Int) := by omega
          have HF := Lib.hid (show partition ltInt d a b p = (j, true, swp dk j a) by
            rw [HD.out, ← HX1.out, ← HX2.out, if_pos hgt])
          clear HX1 HX2
          go_wp2_with fail
          have hS2 := HS2.out
          clear HS2
          obtain ⟨G, hG⟩ : ∃ G : Nat → Int, ∀ t, G t = dk[t]! := ⟨fun t => dk[t]!, fun _ => rfl⟩
          have hcw : ∀ t, t < n → w2.cell? ⟨g, o + t, none⟩ = some (.int .u8 (G t)) := fun t ht => by rw [hG]; exact hS2.row.cell t (by omega)
          have hfw : ∀ t, t < n → w2.frozen? ⟨g, o + t, none⟩ = false := fun t _ => hS2.row.frozen t
          obtain ⟨G2, hG2⟩ : ∃ G2 : Nat → Int, ∀ t, t < n → (w2.setCell ⟨g, o + j, none⟩ (.int .u8 (G (a)))).cell? ⟨g, o + t, none⟩ = some (.int .u8 (G2 t)) :=
            ⟨fun t => (dk.setIfInBounds (j) (G (a)))[t]!, fun t ht => (hS2.row.set (by omega) _).cell t (by rw [Array.size_setIfInBounds]; omega)⟩
          have HS := Lib.hid hS2
          have HG := Lib.hid hG
          clear hS2 hG
          go_wp2_with fail
          go_region
          go_wp2_with fail
          go_ret2
          exact ⟨by (rw [HF.out]; try rfl), by
            rw [HF.out]
            exact (HS.out.swap (i := j) (j := a) (by omega) (by omega) (HG.out _) (HG.out _)).drew⟩
end Go.Proofs.Ythhlpbopbabojaa
