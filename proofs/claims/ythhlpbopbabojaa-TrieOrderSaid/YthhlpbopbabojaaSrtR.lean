/-
  pdqsortOrdered at bytes, walked. (Printed by gen_pdq.py.)
-/
import Derived.Test.YthhlpbopbabojaaSrtR0
namespace Go.Proofs.Ythhlpbopbabojaa
open Go.RowKit Go.Sort

set_option maxRecDepth 1000000 in
set_option maxHeartbeats 8000000 in
theorem pdq_any (g o c n : Nat) (pre sp : Array Value) (hn2 : n ≤ 1048576) : ∀ (N a b limit : Nat) (d : Array Int) (w : World), RowB w g o pre sp d → d.size = n → a ≤ b → b ≤ n → Sort.Below ltInt a b d → b - a = N → limit ≤ 100 →
    Calls Try.prog 36 #[.slice (some ⟨g, o, none⟩) n c, .int .i64 a, .int .i64 b, .int .i64 limit] w (Srt w g o pre sp d a b) := by
  intro N
  induction N using Nat.strongRecOn with
  | ind N IH0 =>
  have IH : ∀ m, m < N → ∀ (a b limit : Nat) (d : Array Int) (w : World), RowB w g o pre sp d → d.size = n → a ≤ b → b ≤ n → Sort.Below ltInt a b d → b - a = m → limit ≤ 100 →
      Calls Try.prog 36 #[.slice (some ⟨g, o, none⟩) n c, .int .i64 a, .int .i64 b, .int .i64 limit] w (Srt w g o pre sp d a b) := IH0
  have HIH := Lib.hid IH
  clear IH IH0
  intro a b limit d w hR hn hab hb hB hN hlm
  have HQ0 := Lib.hid (show PQ w g o pre sp d a b n a b d w from ⟨St.start hR, hn, hB, fun R h1 h2 => ⟨h1, h2⟩⟩)
  clear hR hB hn
  go_enter Try.func36, Try.ntmps36
  go_wp2_with fail
  go_loopw [1, 2, 3, 8, 9, 10, 11, 12, 13, 14, 15, 16, 17, 18] (fun va vb vl vwb vwp _ _ _ _ _ _ _ _ _ wr => ∃ (i j lim : Nat) (wb wp : Bool) (dc : Array Int), va = .int .i64 i ∧ vb = .int .i64 j ∧ vl = .int .i64 lim ∧ vwb = .bool wb ∧ vwp = .bool wp ∧ (a ≤ i ∧ i ≤ j ∧ j ≤ b) ∧ lim ≤ 100 ∧ PQ w g o pre sp d a b n i j dc wr) (fun va vb _ _ _ _ _ _ _ _ _ _ _ _ _ => (intOf vb - intOf va).toNat)
  case atStart => exact ⟨a, b, limit, true, true, d, rfl, rfl, rfl, rfl, rfl, by omega, hlm, HQ0.out⟩
  case round =>
    clear HQ0 hlm
    obtain ⟨i, j, lim, wb, wp, dc, rfl, rfl, rfl, rfl, rfl, ⟨ai, ij, jb⟩, hlim, hQ⟩ := hrel
    have IH := HIH.out
    have HIH2 := Lib.hid IH
    clear IH HIH
    have HQ := Lib.hid hQ
    clear hQ
    by_cases h12 : j - i ≤ 12
    · have h12z : (j : Int) - (i : Int) ≤ 12 := by omega
      go_wp2_with fail
      refine (insertion_any g o c n i j pre sp dc wr HQ.out.st.row HQ.out.sz ij (by omega) hn2).mono ?_
      rintro e w1 ⟨rfl, hS⟩
      go_wp2_with fail
      (try simp only [Exit.inBlock, Exit.then])
      refine bodyPost_ret (results_none rfl _ _ _) rfl ?_
      exact HQ.out.done (insertionSort_holds swo_ltInt dc i j ij (by rw [HQ.out.sz]; omega)) hS
    · have h12z : ¬ (j : Int) - (i : Int) ≤ 12 := by omega
      by_cases hl0 : lim = 0
      · subst hl0
        go_wp2_with fail
        refine (heap_any g o c n i j pre sp dc wr HQ.out.st.row HQ.out.sz (by omega) (by omega) hn2).mono ?_
        rintro e w1 ⟨rfl, hS⟩
        go_wp2_with fail
        (try simp only [Exit.inBlock, Exit.then])
        refine bodyPost_ret (results_none rfl _ _ _) rfl ?_
        exact HQ.out.done (heapSort_holds swo_ltInt dc i j ij (by rw [HQ.out.sz]; omega)) hS
      · obtain ⟨lm, rfl⟩ : ∃ lm, lim = lm + 1 := ⟨lim - 1, by omega⟩
        have hlz : ((lm : Int) + 1 == 0) = false := by simp; omega
        cases wb
        · go_wp2_with fail
          refine (break_any g o c n i j pre sp dc wr HQ.out.st.row HQ.out.sz (by omega) (by omega) hn2).mono ?_
          rintro e w1 ⟨rfl, d1, hq1, hS1⟩
          have hQ1 := HQ.out.perm hq1 hS1 (by omega)
          clear HQ hq1 hS1
          have HQ := Lib.hid hQ1
          clear hQ1
          go_wp2_with fail
          refine (choose_any g o c n i j pre sp d1 w1 HQ.out.st.row HQ.out.sz (by omega) (by omega) hn2).mono ?_
          rintro e w2 ⟨p0, h, rfl, q1, q2, q3, f2⟩
          have hQ2 := HQ.out.fr f2
          clear f2 HQ
          have HQ := Lib.hid hQ2
          clear hQ2
          by_cases hh : h = 2
          · subst hh
            go_wp2_with fail
            refine (reverse_any g o c n i j pre sp d1 w2 HQ.out.st.row HQ.out.sz (by omega) (by omega) hn2).mono ?_
            rintro e w3 ⟨rfl, hS3⟩
            have hQ3 := HQ.out.perm (reverseRange_holds d1 i j ij (by rw [HQ.out.sz]; omega)) hS3 (by omega)
            clear HQ hS3
            have HQ := Lib.hid hQ3
            clear hQ3
            generalize reverseRange d1 i j = d3 at *
            obtain ⟨p, hp⟩ : ∃ p, p = j - 1 - (p0 - i) := ⟨_, rfl⟩
            have hp1 : i ≤ p := by omega
            have hp2 : p < j := by omega
            have hpz : (j : Int) - 1 - ((p0 : Int) - (i : Int)) = (p : Int) := by omega
            clear hp
            by_cases hi0 : 0 < i
            · have hi0z : (0 : Int) < (i : Int) := by omega
              have hsz := HQ.out.sz
              obtain ⟨G, hG⟩ : ∃ G : Nat → Int, ∀ t, G t = d3[t]! := ⟨fun t => d3[t]!, fun _ => rfl⟩
              have hcw : ∀ t, t < n → w3.cell? ⟨g, o + t, none⟩ = some (.int .u8 (G t)) := fun t ht => by rw [hG]; exact HQ.out.st.row.cell t (by omega)
              have hfw : ∀ t, t < n → w3.frozen? ⟨g, o + t, none⟩ = false := fun t _ => HQ.out.st.row.frozen t
              have HG := Lib.hid hG
              clear hG
              cases hl : ltInt (G (i - 1)) (G p)
              · have hq := less_any (G (i - 1)) (G p)
                rw [hl] at hq
                have HL := Lib.hid hl
                clear hl
                go_wp2_with fail
                go_quiet (first | (go_at_call 44; refine Calls.quiet_of_same (hq _)))
                go_wp2_with fail
                have HQ2 := Lib.hid (HQ.out.fr ((Fr.rfl' Nil w3).drewN nq))
                clear hcw hfw hq HQ
                generalize w3.drewN nq = w7 at *
                clear nq
                obtain ⟨mid, d4, hx⟩ : ∃ mid d4, partitionEqual ltInt d3 i j p = (mid, d4) := ⟨_, _, rfl⟩
                have hPE := parteq_any g o c n i j p pre sp d3 w7 HQ2.out.st.row hsz hp1 hp2 (by omega) hn2
                rw [hx] at hPE
                have HPE := Lib.hid hPE
                have HX := Lib.hid hx
                clear hPE hx
                refine HPE.out.mono ?_
                rintro e w8 ⟨rfl, hS8⟩
                obtain ⟨m1, m2, hQ8⟩ := HQ2.out.eq_ hi0 hp1 hp2 (by omega) (by rw [← HG.out, ← HG.out]; exact HL.out) HX.out hS8
                have HQ8 := Lib.hid hQ8
                clear hQ8 hS8 HQ2 HPE HX HL HG
                go_wp2_with fail
                go_roundw
                case rel => exact ⟨mid, j, lm, _, _, _, by first | rfl | go_num, by first | rfl | go_num, by first | rfl | go_num, rfl, rfl, by omega, by omega, HQ8.out⟩
                case measure => (simp [intOf]; try omega)
              · have hq := less_any (G (i - 1)) (G p)
                rw [hl] at hq
                have HL := Lib.hid hl
                clear hl
                go_wp2_with fail
                go_quiet (first | (go_at_call 44; refine Calls.quiet_of_same (hq _)))
                go_wp2_with fail
                have HQ2 := Lib.hid (HQ.out.fr ((Fr.rfl' Nil w3).drewN nq))
                clear hcw hfw hq HQ
                generalize w3.drewN nq = w7 at *
                clear nq
                clear HL HG
                obtain ⟨mid, ap, d4, hx⟩ : ∃ mid ap d4, partition ltInt d3 i j p = (mid, ap, d4) := ⟨_, _, _, rfl⟩
                have hPE := part_any g o c n i j p pre sp d3 w7 HQ2.out.st.row hsz hp1 hp2 (by omega) hn2
                rw [hx] at hPE
                have HPE := Lib.hid hPE
                have HX := Lib.hid hx
                clear hPE hx
                refine HPE.out.mono ?_
                rintro e w8 ⟨rfl, hS8⟩
                obtain ⟨m1, m2, hs4, hb1, hb2, hS9, hL, hRt⟩ := HQ2.out.part_ hp1 hp2 (by omega) HX.out hS8
                have HB1 := Lib.hid hb1
                have HB2 := Lib.hid hb2
                have HS9 := Lib.hid hS9
                have HLF := Lib.hid hL
                have HRT := Lib.hid hRt
                clear hS8 HQ2 HPE HX hb1 hb2 hS9 hL hRt
                by_cases hlr : mid - i < j - mid
                · have hlrz : (mid : Int) - (i : Int) < (j : Int) - (mid : Int) := by omega
                  go_wp2_with fail
                  refine (HIH2.out (mid - i) (by omega) i mid lm d4 w8 HS9.out.row hs4 (by omega) (by omega) HB1.out rfl (by omega)).mono ?_
                  rintro e w9 ⟨rfl, L, l1, l2, l3⟩
                  have HQ9 := Lib.hid (HLF.out L w9 l1 l2 l3)
                  clear l1 l2 l3 HLF HRT HB1 HB2
                  go_wp2_with fail
                  go_roundw
                  case rel => exact ⟨mid + 1, j, lm, _, _, _, by first | rfl | go_num, by first | rfl | go_num, by first | rfl | go_num, rfl, rfl, by omega, by omega, HQ9.out⟩
                  case measure => (simp [intOf]; try omega)
                · have hlrz : ¬ (mid : Int) - (i : Int) < (j : Int) - (mid : Int) := by omega
                  go_wp2_with fail
                  have hIH := HIH2.out (j - (mid + 1)) (by omega) (mid + 1) j lm d4 w8 HS9.out.row hs4 (by omega) (by omega) HB2.out rfl (by omega)
                  rw [show (((mid + 1 : Nat)) : Int) = (mid : Int) + 1 from rfl] at hIH
                  refine hIH.mono ?_
                  rintro e w9 ⟨rfl, L, l1, l2, l3⟩
                  have HQ9 := Lib.hid (HRT.out L w9 l1 l2 l3)
                  clear l1 l2 l3 HLF HRT HB1 HB2 hIH
                  go_wp2_with fail
                  go_roundw
                  case rel => exact ⟨i, mid, lm, _, _, _, by first | rfl | go_num, by first | rfl | go_num, by first | rfl | go_num, rfl, rfl, by omega, by omega, HQ9.out⟩
                  case measure => (simp [intOf]; try omega)
            · obtain rfl : i = 0 := by omega
              have hi0z : decide ((0 : Int) < ((0 : Nat) : Int)) = false := by decide
              have hi0y : decide ((0 : Int) < 0) = false := by decide
              try have hpz2 : (j : Int) - 1 - (p0 : Int) = (p : Int) := by omega
              have hsz := HQ.out.sz
              go_wp2_with fail
              go_quiet (fail)
              go_wp2_with fail
              have HQ2 := Lib.hid (HQ.out.fr ((Fr.rfl' Nil w3).drewN nq))
              clear HQ
              generalize w3.drewN nq = w7 at *
              clear nq
              obtain ⟨mid, ap, d4, hx⟩ : ∃ mid ap d4, partition ltInt d3 0 j p = (mid, ap, d4) := ⟨_, _, _, rfl⟩
              have hPE := part_any g o c n 0 j p pre sp d3 w7 HQ2.out.st.row hsz hp1 hp2 (by omega) hn2
              rw [hx] at hPE
              have HPE := Lib.hid hPE
              have HX := Lib.hid hx
              clear hPE hx
              refine HPE.out.mono ?_
              rintro e w8 ⟨rfl, hS8⟩
              obtain ⟨m1, m2, hs4, hb1, hb2, hS9, hL, hRt⟩ := HQ2.out.part_ hp1 hp2 (by omega) HX.out hS8
              have HB1 := Lib.hid hb1
              have HB2 := Lib.hid hb2
              have HS9 := Lib.hid hS9
              have HLF := Lib.hid hL
              have HRT := Lib.hid hRt
              clear hS8 HQ2 HPE HX hb1 hb2 hS9 hL hRt
              by_cases hlr : mid - 0 < j - mid
              · have hlrz : (mid : Int) - (0 : Int) < (j : Int) - (mid : Int) := by omega
                go_wp2_with fail
                refine (HIH2.out (mid - 0) (by omega) 0 mid lm d4 w8 HS9.out.row hs4 (by omega) (by omega) HB1.out rfl (by omega)).mono ?_
                rintro e w9 ⟨rfl, L, l1, l2, l3⟩
                have HQ9 := Lib.hid (HLF.out L w9 l1 l2 l3)
                clear l1 l2 l3 HLF HRT HB1 HB2
                go_wp2_with fail
                go_roundw
                case rel => exact ⟨mid + 1, j, lm, _, _, _, by first | rfl | go_num, by first | rfl | go_num, by first | rfl | go_num, rfl, rfl, by omega, by omega, HQ9.out⟩
                case measure => (simp [intOf]; try omega)
              · have hlrz : ¬ (mid : Int) - (0 : Int) < (j : Int) - (mid : Int) := by omega
                go_wp2_with fail
                have hIH := HIH2.out (j - (mid + 1)) (by omega) (mid + 1) j lm d4 w8 HS9.out.row hs4 (by omega) (by omega) HB2.out rfl (by omega)
                rw [show (((mid + 1 : Nat)) : Int) = (mid : Int) + 1 from rfl] at hIH
                refine hIH.mono ?_
                rintro e w9 ⟨rfl, L, l1, l2, l3⟩
                have HQ9 := Lib.hid (HRT.out L w9 l1 l2 l3)
                clear l1 l2 l3 HLF HRT HB1 HB2 hIH
                go_wp2_with fail
                go_roundw
                case rel => exact ⟨0, mid, lm, _, _, _, by first | rfl | go_num, by first | rfl | go_num, by first | rfl | go_num, rfl, rfl, by omega, by omega, HQ9.out⟩
                case measure => (simp [intOf]; try omega)
          · have hhz : ((h : Int) == 2) = false := by simp; omega
            have hhy : ¬ (h : Int) = 2 := by omega
            obtain ⟨p, rfl⟩ : ∃ p, p = p0 := ⟨_, rfl⟩
            have hp1 := q1
            have hp2 := q2
            by_cases hi0 : 0 < i
            · have hi0z : (0 : Int) < (i : Int) := by omega
              have hsz := HQ.out.sz
              obtain ⟨G, hG⟩ : ∃ G : Nat → Int, ∀ t, G t = d1[t]! := ⟨fun t => d1[t]!, fun _ => rfl⟩
              have hcw : ∀ t, t < n → w2.cell? ⟨g, o + t, none⟩ = some (.int .u8 (G t)) := fun t ht => by rw [hG]; exact HQ.out.st.row.cell t (by omega)
              have hfw : ∀ t, t < n → w2.frozen? ⟨g, o + t, none⟩ = false := fun t _ => HQ.out.st.row.frozen t
              have HG := Lib.hid hG
              clear hG
              cases hl : ltInt (G (i - 1)) (G p)
              · have hq := less_any (G (i - 1)) (G p)
                rw [hl] at hq
                have HL := Lib.hid hl
                clear hl
                go_wp2_with fail
                go_quiet (first | (go_at_call 44; refine Calls.quiet_of_same (hq _)))
                go_wp2_with fail
                have HQ2 := Lib.hid (HQ.out.fr ((Fr.rfl' Nil w2).drewN nq))
                clear hcw hfw hq HQ
                generalize w2.drewN nq = w7 at *
                clear nq
                obtain ⟨mid, d4, hx⟩ : ∃ mid d4, partitionEqual ltInt d1 i j p = (mid, d4) := ⟨_, _, rfl⟩
                have hPE := parteq_any g o c n i j p pre sp d1 w7 HQ2.out.st.row hsz hp1 hp2 (by omega) hn2
                rw [hx] at hPE
                have HPE := Lib.hid hPE
                have HX := Lib.hid hx
                clear hPE hx
                refine HPE.out.mono ?_
                rintro e w8 ⟨rfl, hS8⟩
                obtain ⟨m1, m2, hQ8⟩ := HQ2.out.eq_ hi0 hp1 hp2 (by omega) (by rw [← HG.out, ← HG.out]; exact HL.out) HX.out hS8
                have HQ8 := Lib.hid hQ8
                clear hQ8 hS8 HQ2 HPE HX HL HG
                go_wp2_with fail
                go_roundw
                case rel => exact ⟨mid, j, lm, _, _, _, by first | rfl | go_num, by first | rfl | go_num, by first | rfl | go_num, rfl, rfl, by omega, by omega, HQ8.out⟩
                case measure => (simp [intOf]; try omega)
              · have hq := less_any (G (i - 1)) (G p)
                rw [hl] at hq
                have HL := Lib.hid hl
                clear hl
                go_wp2_with fail
                go_quiet (first | (go_at_call 44; refine Calls.quiet_of_same (hq _)))
                go_wp2_with fail
                have HQ2 := Lib.hid (HQ.out.fr ((Fr.rfl' Nil w2).drewN nq))
                clear hcw hfw hq HQ
                generalize w2.drewN nq = w7 at *
                clear nq
                clear HL HG
                obtain ⟨mid, ap, d4, hx⟩ : ∃ mid ap d4, partition ltInt d1 i j p = (mid, ap, d4) := ⟨_, _, _, rfl⟩
                have hPE := part_any g o c n i j p pre sp d1 w7 HQ2.out.st.row hsz hp1 hp2 (by omega) hn2
                rw [hx] at hPE
                have HPE := Lib.hid hPE
                have HX := Lib.hid hx
                clear hPE hx
                refine HPE.out.mono ?_
                rintro e w8 ⟨rfl, hS8⟩
                obtain ⟨m1, m2, hs4, hb1, hb2, hS9, hL, hRt⟩ := HQ2.out.part_ hp1 hp2 (by omega) HX.out hS8
                have HB1 := Lib.hid hb1
                have HB2 := Lib.hid hb2
                have HS9 := Lib.hid hS9
                have HLF := Lib.hid hL
                have HRT := Lib.hid hRt
                clear hS8 HQ2 HPE HX hb1 hb2 hS9 hL hRt
                by_cases hlr : mid - i < j - mid
                · have hlrz : (mid : Int) - (i : Int) < (j : Int) - (mid : Int) := by omega
                  go_wp2_with fail
                  refine (HIH2.out (mid - i) (by omega) i mid lm d4 w8 HS9.out.row hs4 (by omega) (by omega) HB1.out rfl (by omega)).mono ?_
                  rintro e w9 ⟨rfl, L, l1, l2, l3⟩
                  have HQ9 := Lib.hid (HLF.out L w9 l1 l2 l3)
                  clear l1 l2 l3 HLF HRT HB1 HB2
                  go_wp2_with fail
                  go_roundw
                  case rel => exact ⟨mid + 1, j, lm, _, _, _, by first | rfl | go_num, by first | rfl | go_num, by first | rfl | go_num, rfl, rfl, by omega, by omega, HQ9.out⟩
                  case measure => (simp [intOf]; try omega)
                · have hlrz : ¬ (mid : Int) - (i : Int) < (j : Int) - (mid : Int) := by omega
                  go_wp2_with fail
                  have hIH := HIH2.out (j - (mid + 1)) (by omega) (mid + 1) j lm d4 w8 HS9.out.row hs4 (by omega) (by omega) HB2.out rfl (by omega)
                  rw [show (((mid + 1 : Nat)) : Int) = (mid : Int) + 1 from rfl] at hIH
                  refine hIH.mono ?_
                  rintro e w9 ⟨rfl, L, l1, l2, l3⟩
                  have HQ9 := Lib.hid (HRT.out L w9 l1 l2 l3)
                  clear l1 l2 l3 HLF HRT HB1 HB2 hIH
                  go_wp2_with fail
                  go_roundw
                  case rel => exact ⟨i, mid, lm, _, _, _, by first | rfl | go_num, by first | rfl | go_num, by first | rfl | go_num, rfl, rfl, by omega, by omega, HQ9.out⟩
                  case measure => (simp [intOf]; try omega)
            · obtain rfl : i = 0 := by omega
              have hi0z : decide ((0 : Int) < ((0 : Nat) : Int)) = false := by decide
              have hi0y : decide ((0 : Int) < 0) = false := by decide
              try have hpz2 : (j : Int) - 1 - (p0 : Int) = (p : Int) := by omega
              have hsz := HQ.out.sz
              go_wp2_with fail
              go_quiet (fail)
              go_wp2_with fail
              have HQ2 := Lib.hid (HQ.out.fr ((Fr.rfl' Nil w2).drewN nq))
              clear HQ
              generalize w2.drewN nq = w7 at *
              clear nq
              obtain ⟨mid, ap, d4, hx⟩ : ∃ mid ap d4, partition ltInt d1 0 j p = (mid, ap, d4) := ⟨_, _, _, rfl⟩
              have hPE := part_any g o c n 0 j p pre sp d1 w7 HQ2.out.st.row hsz hp1 hp2 (by omega) hn2
              rw [hx] at hPE
              have HPE := Lib.hid hPE
              have HX := Lib.hid hx
              clear hPE hx
              refine HPE.out.mono ?_
              rintro e w8 ⟨rfl, hS8⟩
              obtain ⟨m1, m2, hs4, hb1, hb2, hS9, hL, hRt⟩ := HQ2.out.part_ hp1 hp2 (by omega) HX.out hS8
              have HB1 := Lib.hid hb1
              have HB2 := Lib.hid hb2
              have HS9 := Lib.hid hS9
              have HLF := Lib.hid hL
              have HRT := Lib.hid hRt
              clear hS8 HQ2 HPE HX hb1 hb2 hS9 hL hRt
              by_cases hlr : mid - 0 < j - mid
              · have hlrz : (mid : Int) - (0 : Int) < (j : Int) - (mid : Int) := by omega
                go_wp2_with fail
                refine (HIH2.out (mid - 0) (by omega) 0 mid lm d4 w8 HS9.out.row hs4 (by omega) (by omega) HB1.out rfl (by omega)).mono ?_
                rintro e w9 ⟨rfl, L, l1, l2, l3⟩
                have HQ9 := Lib.hid (HLF.out L w9 l1 l2 l3)
                clear l1 l2 l3 HLF HRT HB1 HB2
                go_wp2_with fail
                go_roundw
                case rel => exact ⟨mid + 1, j, lm, _, _, _, by first | rfl | go_num, by first | rfl | go_num, by first | rfl | go_num, rfl, rfl, by omega, by omega, HQ9.out⟩
                case measure => (simp [intOf]; try omega)
              · have hlrz : ¬ (mid : Int) - (0 : Int) < (j : Int) - (mid : Int) := by omega
                go_wp2_with fail
                have hIH := HIH2.out (j - (mid + 1)) (by omega) (mid + 1) j lm d4 w8 HS9.out.row hs4 (by omega) (by omega) HB2.out rfl (by omega)
                rw [show (((mid + 1 : Nat)) : Int) = (mid : Int) + 1 from rfl] at hIH
                refine hIH.mono ?_
                rintro e w9 ⟨rfl, L, l1, l2, l3⟩
                have HQ9 := Lib.hid (HRT.out L w9 l1 l2 l3)
                clear l1 l2 l3 HLF HRT HB1 HB2 hIH
                go_wp2_with fail
                go_roundw
                case rel => exact ⟨0, mid, lm, _, _, _, by first | rfl | go_num, by first | rfl | go_num, by first | rfl | go_num, rfl, rfl, by omega, by omega, HQ9.out⟩
                case measure => (simp [intOf]; try omega)
        · go_wp2_with fail
          refine (choose_any g o c n i j pre sp dc wr HQ.out.st.row HQ.out.sz (by omega) (by omega) hn2).mono ?_
          rintro e w2 ⟨p0, h, rfl, q1, q2, q3, f2⟩
          have hQ2 := HQ.out.fr f2
          clear f2 HQ
          have HQ := Lib.hid hQ2
          clear hQ2
          cases wp
          · by_cases hh : h = 2
            · subst hh
              go_wp2_with fail
              refine (reverse_any g o c n i j pre sp dc w2 HQ.out.st.row HQ.out.sz (by omega) (by omega) hn2).mono ?_
              rintro e w3 ⟨rfl, hS3⟩
              have hQ3 := HQ.out.perm (reverseRange_holds dc i j ij (by rw [HQ.out.sz]; omega)) hS3 (by omega)
              clear HQ hS3
              have HQ := Lib.hid hQ3
              clear hQ3
              generalize reverseRange dc i j = d3 at *
              obtain ⟨p, hp⟩ : ∃ p, p = j - 1 - (p0 - i) := ⟨_, rfl⟩
              have hp1 : i ≤ p := by omega
              have hp2 : p < j := by omega
              have hpz : (j : Int) - 1 - ((p0 : Int) - (i : Int)) = (p : Int) := by omega
              clear hp
              by_cases hi0 : 0 < i
              · have hi0z : (0 : Int) < (i : Int) := by omega
                have hsz := HQ.out.sz
                obtain ⟨G, hG⟩ : ∃ G : Nat → Int, ∀ t, G t = d3[t]! := ⟨fun t => d3[t]!, fun _ => rfl⟩
                have hcw : ∀ t, t < n → w3.cell? ⟨g, o + t, none⟩ = some (.int .u8 (G t)) := fun t ht => by rw [hG]; exact HQ.out.st.row.cell t (by omega)
                have hfw : ∀ t, t < n → w3.frozen? ⟨g, o + t, none⟩ = false := fun t _ => HQ.out.st.row.frozen t
                have HG := Lib.hid hG
                clear hG
                cases hl : ltInt (G (i - 1)) (G p)
                · have hq := less_any (G (i - 1)) (G p)
                  rw [hl] at hq
                  have HL := Lib.hid hl
                  clear hl
                  go_wp2_with fail
                  go_quiet (first | (go_at_call 44; refine Calls.quiet_of_same (hq _)))
                  go_wp2_with fail
                  have HQ2 := Lib.hid (HQ.out.fr ((Fr.rfl' Nil w3).drewN nq))
                  clear hcw hfw hq HQ
                  generalize w3.drewN nq = w7 at *
                  clear nq
                  obtain ⟨mid, d4, hx⟩ : ∃ mid d4, partitionEqual ltInt d3 i j p = (mid, d4) := ⟨_, _, rfl⟩
                  have hPE := parteq_any g o c n i j p pre sp d3 w7 HQ2.out.st.row hsz hp1 hp2 (by omega) hn2
                  rw [hx] at hPE
                  have HPE := Lib.hid hPE
                  have HX := Lib.hid hx
                  clear hPE hx
                  refine HPE.out.mono ?_
                  rintro e w8 ⟨rfl, hS8⟩
                  obtain ⟨m1, m2, hQ8⟩ := HQ2.out.eq_ hi0 hp1 hp2 (by omega) (by rw [← HG.out, ← HG.out]; exact HL.out) HX.out hS8
                  have HQ8 := Lib.hid hQ8
                  clear hQ8 hS8 HQ2 HPE HX HL HG
                  go_wp2_with fail
                  go_roundw
                  case rel => exact ⟨mid, j, (lm + 1), _, _, _, by first | rfl | go_num, by first | rfl | go_num, by first | rfl | go_num, rfl, rfl, by omega, by omega, HQ8.out⟩
                  case measure => (simp [intOf]; try omega)
                · have hq := less_any (G (i - 1)) (G p)
                  rw [hl] at hq
                  have HL := Lib.hid hl
                  clear hl
                  go_wp2_with fail
                  go_quiet (first | (go_at_call 44; refine Calls.quiet_of_same (hq _)))
                  go_wp2_with fail
                  have HQ2 := Lib.hid (HQ.out.fr ((Fr.rfl' Nil w3).drewN nq))
                  clear hcw hfw hq HQ
                  generalize w3.drewN nq = w7 at *
                  clear nq
                  clear HL HG
                  obtain ⟨mid, ap, d4, hx⟩ : ∃ mid ap d4, partition ltInt d3 i j p = (mid, ap, d4) := ⟨_, _, _, rfl⟩
                  have hPE := part_any g o c n i j p pre sp d3 w7 HQ2.out.st.row hsz hp1 hp2 (by omega) hn2
                  rw [hx] at hPE
                  have HPE := Lib.hid hPE
                  have HX := Lib.hid hx
                  clear hPE hx
                  refine HPE.out.mono ?_
                  rintro e w8 ⟨rfl, hS8⟩
                  obtain ⟨m1, m2, hs4, hb1, hb2, hS9, hL, hRt⟩ := HQ2.out.part_ hp1 hp2 (by omega) HX.out hS8
                  have HB1 := Lib.hid hb1
                  have HB2 := Lib.hid hb2
                  have HS9 := Lib.hid hS9
                  have HLF := Lib.hid hL
                  have HRT := Lib.hid hRt
                  clear hS8 HQ2 HPE HX hb1 hb2 hS9 hL hRt
                  by_cases hlr : mid - i < j - mid
                  · have hlrz : (mid : Int) - (i : Int) < (j : Int) - (mid : Int) := by omega
                    go_wp2_with fail
                    refine (HIH2.out (mid - i) (by omega) i mid (lm + 1) d4 w8 HS9.out.row hs4 (by omega) (by omega) HB1.out rfl (by omega)).mono ?_
                    rintro e w9 ⟨rfl, L, l1, l2, l3⟩
                    have HQ9 := Lib.hid (HLF.out L w9 l1 l2 l3)
                    clear l1 l2 l3 HLF HRT HB1 HB2
                    go_wp2_with fail
                    go_roundw
                    case rel => exact ⟨mid + 1, j, (lm + 1), _, _, _, by first | rfl | go_num, by first | rfl | go_num, by first | rfl | go_num, rfl, rfl, by omega, by omega, HQ9.out⟩
                    case measure => (simp [intOf]; try omega)
                  · have hlrz : ¬ (mid : Int) - (i : Int) < (j : Int) - (mid : Int) := by omega
                    go_wp2_with fail
                    have hIH := HIH2.out (j - (mid + 1)) (by omega) (mid + 1) j (lm + 1) d4 w8 HS9.out.row hs4 (by omega) (by omega) HB2.out rfl (by omega)
                    rw [show (((mid + 1 : Nat)) : Int) = (mid : Int) + 1 from rfl] at hIH
                    refine hIH.mono ?_
                    rintro e w9 ⟨rfl, L, l1, l2, l3⟩
                    have HQ9 := Lib.hid (HRT.out L w9 l1 l2 l3)
                    clear l1 l2 l3 HLF HRT HB1 HB2 hIH
                    go_wp2_with fail
                    go_roundw
                    case rel => exact ⟨i, mid, (lm + 1), _, _, _, by first | rfl | go_num, by first | rfl | go_num, by first | rfl | go_num, rfl, rfl, by omega, by omega, HQ9.out⟩
                    case measure => (simp [intOf]; try omega)
              · obtain rfl : i = 0 := by omega
                have hi0z : decide ((0 : Int) < ((0 : Nat) : Int)) = false := by decide
                have hi0y : decide ((0 : Int) < 0) = false := by decide
                try have hpz2 : (j : Int) - 1 - (p0 : Int) = (p : Int) := by omega
                have hsz := HQ.out.sz
                go_wp2_with fail
                go_quiet (fail)
                go_wp2_with fail
                have HQ2 := Lib.hid (HQ.out.fr ((Fr.rfl' Nil w3).drewN nq))
                clear HQ
                generalize w3.drewN nq = w7 at *
                clear nq
                obtain ⟨mid, ap, d4, hx⟩ : ∃ mid ap d4, partition ltInt d3 0 j p = (mid, ap, d4) := ⟨_, _, _, rfl⟩
                have hPE := part_any g o c n 0 j p pre sp d3 w7 HQ2.out.st.row hsz hp1 hp2 (by omega) hn2
                rw [hx] at hPE
                have HPE := Lib.hid hPE
                have HX := Lib.hid hx
                clear hPE hx
                refine HPE.out.mono ?_
                rintro e w8 ⟨rfl, hS8⟩
                obtain ⟨m1, m2, hs4, hb1, hb2, hS9, hL, hRt⟩ := HQ2.out.part_ hp1 hp2 (by omega) HX.out hS8
                have HB1 := Lib.hid hb1
                have HB2 := Lib.hid hb2
                have HS9 := Lib.hid hS9
                have HLF := Lib.hid hL
                have HRT := Lib.hid hRt
                clear hS8 HQ2 HPE HX hb1 hb2 hS9 hL hRt
                by_cases hlr : mid - 0 < j - mid
                · have hlrz : (mid : Int) - (0 : Int) < (j : Int) - (mid : Int) := by omega
                  go_wp2_with fail
                  refine (HIH2.out (mid - 0) (by omega) 0 mid (lm + 1) d4 w8 HS9.out.row hs4 (by omega) (by omega) HB1.out rfl (by omega)).mono ?_
                  rintro e w9 ⟨rfl, L, l1, l2, l3⟩
                  have HQ9 := Lib.hid (HLF.out L w9 l1 l2 l3)
                  clear l1 l2 l3 HLF HRT HB1 HB2
                  go_wp2_with fail
                  go_roundw
                  case rel => exact ⟨mid + 1, j, (lm + 1), _, _, _, by first | rfl | go_num, by first | rfl | go_num, by first | rfl | go_num, rfl, rfl, by omega, by omega, HQ9.out⟩
                  case measure => (simp [intOf]; try omega)
                · have hlrz : ¬ (mid : Int) - (0 : Int) < (j : Int) - (mid : Int) := by omega
                  go_wp2_with fail
                  have hIH := HIH2.out (j - (mid + 1)) (by omega) (mid + 1) j (lm + 1) d4 w8 HS9.out.row hs4 (by omega) (by omega) HB2.out rfl (by omega)
                  rw [show (((mid + 1 : Nat)) : Int) = (mid : Int) + 1 from rfl] at hIH
                  refine hIH.mono ?_
                  rintro e w9 ⟨rfl, L, l1, l2, l3⟩
                  have HQ9 := Lib.hid (HRT.out L w9 l1 l2 l3)
                  clear l1 l2 l3 HLF HRT HB1 HB2 hIH
                  go_wp2_with fail
                  go_roundw
                  case rel => exact ⟨0, mid, (lm + 1), _, _, _, by first | rfl | go_num, by first | rfl | go_num, by first | rfl | go_num, rfl, rfl, by omega, by omega, HQ9.out⟩
                  case measure => (simp [intOf]; try omega)
            · have hhz : ((h : Int) == 2) = false := by simp; omega
              have hhy : ¬ (h : Int) = 2 := by omega
              obtain ⟨p, rfl⟩ : ∃ p, p = p0 := ⟨_, rfl⟩
              have hp1 := q1
              have hp2 := q2
              by_cases hi0 : 0 < i
              · have hi0z : (0 : Int) < (i : Int) := by omega
                have hsz := HQ.out.sz
                obtain ⟨G, hG⟩ : ∃ G : Nat → Int, ∀ t, G t = dc[t]! := ⟨fun t => dc[t]!, fun _ => rfl⟩
                have hcw : ∀ t, t < n → w2.cell? ⟨g, o + t, none⟩ = some (.int .u8 (G t)) := fun t ht => by rw [hG]; exact HQ.out.st.row.cell t (by omega)
                have hfw : ∀ t, t < n → w2.frozen? ⟨g, o + t, none⟩ = false := fun t _ => HQ.out.st.row.frozen t
                have HG := Lib.hid hG
                clear hG
                cases hl : ltInt (G (i - 1)) (G p)
                · have hq := less_any (G (i - 1)) (G p)
                  rw [hl] at hq
                  have HL := Lib.hid hl
                  clear hl
                  go_wp2_with fail
                  go_quiet (first | (go_at_call 44; refine Calls.quiet_of_same (hq _)))
                  go_wp2_with fail
                  have HQ2 := Lib.hid (HQ.out.fr ((Fr.rfl' Nil w2).drewN nq))
                  clear hcw hfw hq HQ
                  generalize w2.drewN nq = w7 at *
                  clear nq
                  obtain ⟨mid, d4, hx⟩ : ∃ mid d4, partitionEqual ltInt dc i j p = (mid, d4) := ⟨_, _, rfl⟩
                  have hPE := parteq_any g o c n i j p pre sp dc w7 HQ2.out.st.row hsz hp1 hp2 (by omega) hn2
                  rw [hx] at hPE
                  have HPE := Lib.hid hPE
                  have HX := Lib.hid hx
                  clear hPE hx
                  refine HPE.out.mono ?_
                  rintro e w8 ⟨rfl, hS8⟩
                  obtain ⟨m1, m2, hQ8⟩ := HQ2.out.eq_ hi0 hp1 hp2 (by omega) (by rw [← HG.out, ← HG.out]; exact HL.out) HX.out hS8
                  have HQ8 := Lib.hid hQ8
                  clear hQ8 hS8 HQ2 HPE HX HL HG
                  go_wp2_with fail
                  go_roundw
                  case rel => exact ⟨mid, j, (lm + 1), _, _, _, by first | rfl | go_num, by first | rfl | go_num, by first | rfl | go_num, rfl, rfl, by omega, by omega, HQ8.out⟩
                  case measure => (simp [intOf]; try omega)
                · have hq := less_any (G (i - 1)) (G p)
                  rw [hl] at hq
                  have HL := Lib.hid hl
                  clear hl
                  go_wp2_with fail
                  go_quiet (first | (go_at_call 44; refine Calls.quiet_of_same (hq _)))
                  go_wp2_with fail
                  have HQ2 := Lib.hid (HQ.out.fr ((Fr.rfl' Nil w2).drewN nq))
                  clear hcw hfw hq HQ
                  generalize w2.drewN nq = w7 at *
                  clear nq
                  clear HL HG
                  obtain ⟨mid, ap, d4, hx⟩ : ∃ mid ap d4, partition ltInt dc i j p = (mid, ap, d4) := ⟨_, _, _, rfl⟩
                  have hPE := part_any g o c n i j p pre sp dc w7 HQ2.out.st.row hsz hp1 hp2 (by omega) hn2
                  rw [hx] at hPE
                  have HPE := Lib.hid hPE
                  have HX := Lib.hid hx
                  clear hPE hx
                  refine HPE.out.mono ?_
                  rintro e w8 ⟨rfl, hS8⟩
                  obtain ⟨m1, m2, hs4, hb1, hb2, hS9, hL, hRt⟩ := HQ2.out.part_ hp1 hp2 (by omega) HX.out hS8
                  have HB1 := Lib.hid hb1
                  have HB2 := Lib.hid hb2
                  have HS9 := Lib.hid hS9
                  have HLF := Lib.hid hL
                  have HRT := Lib.hid hRt
                  clear hS8 HQ2 HPE HX hb1 hb2 hS9 hL hRt
                  by_cases hlr : mid - i < j - mid
                  · have hlrz : (mid : Int) - (i : Int) < (j : Int) - (mid : Int) := by omega
                    go_wp2_with fail
                    refine (HIH2.out (mid - i) (by omega) i mid (lm + 1) d4 w8 HS9.out.row hs4 (by omega) (by omega) HB1.out rfl (by omega)).mono ?_
                    rintro e w9 ⟨rfl, L, l1, l2, l3⟩
                    have HQ9 := Lib.hid (HLF.out L w9 l1 l2 l3)
                    clear l1 l2 l3 HLF HRT HB1 HB2
                    go_wp2_with fail
                    go_roundw
                    case rel => exact ⟨mid + 1, j, (lm + 1), _, _, _, by first | rfl | go_num, by first | rfl | go_num, by first | rfl | go_num, rfl, rfl, by omega, by omega, HQ9.out⟩
                    case measure => (simp [intOf]; try omega)
                  · have hlrz : ¬ (mid : Int) - (i : Int) < (j : Int) - (mid : Int) := by omega
                    go_wp2_with fail
                    have hIH := HIH2.out (j - (mid + 1)) (by omega) (mid + 1) j (lm + 1) d4 w8 HS9.out.row hs4 (by omega) (by omega) HB2.out rfl (by omega)
                    rw [show (((mid + 1 : Nat)) : Int) = (mid : Int) + 1 from rfl] at hIH
                    refine hIH.mono ?_
                    rintro e w9 ⟨rfl, L, l1, l2, l3⟩
                    have HQ9 := Lib.hid (HRT.out L w9 l1 l2 l3)
                    clear l1 l2 l3 HLF HRT HB1 HB2 hIH
                    go_wp2_with fail
                    go_roundw
                    case rel => exact ⟨i, mid, (lm + 1), _, _, _, by first | rfl | go_num, by first | rfl | go_num, by first | rfl | go_num, rfl, rfl, by omega, by omega, HQ9.out⟩
                    case measure => (simp [intOf]; try omega)
              · obtain rfl : i = 0 := by omega
                have hi0z : decide ((0 : Int) < ((0 : Nat) : Int)) = false := by decide
                have hi0y : decide ((0 : Int) < 0) = false := by decide
                try have hpz2 : (j : Int) - 1 - (p0 : Int) = (p : Int) := by omega
                have hsz := HQ.out.sz
                go_wp2_with fail
                go_quiet (fail)
                go_wp2_with fail
                have HQ2 := Lib.hid (HQ.out.fr ((Fr.rfl' Nil w2).drewN nq))
                clear HQ
                generalize w2.drewN nq = w7 at *
                clear nq
                obtain ⟨mid, ap, d4, hx⟩ : ∃ mid ap d4, partition ltInt dc 0 j p = (mid, ap, d4) := ⟨_, _, _, rfl⟩
                have hPE := part_any g o c n 0 j p pre sp dc w7 HQ2.out.st.row hsz hp1 hp2 (by omega) hn2
                rw [hx] at hPE
                have HPE := Lib.hid hPE
                have HX := Lib.hid hx
                clear hPE hx
                refine HPE.out.mono ?_
                rintro e w8 ⟨rfl, hS8⟩
                obtain ⟨m1, m2, hs4, hb1, hb2, hS9, hL, hRt⟩ := HQ2.out.part_ hp1 hp2 (by omega) HX.out hS8
                have HB1 := Lib.hid hb1
                have HB2 := Lib.hid hb2
                have HS9 := Lib.hid hS9
                have HLF := Lib.hid hL
                have HRT := Lib.hid hRt
                clear hS8 HQ2 HPE HX hb1 hb2 hS9 hL hRt
                by_cases hlr : mid - 0 < j - mid
                · have hlrz : (mid : Int) - (0 : Int) < (j : Int) - (mid : Int) := by omega
                  go_wp2_with fail
                  refine (HIH2.out (mid - 0) (by omega) 0 mid (lm + 1) d4 w8 HS9.out.row hs4 (by omega) (by omega) HB1.out rfl (by omega)).mono ?_
                  rintro e w9 ⟨rfl, L, l1, l2, l3⟩
                  have HQ9 := Lib.hid (HLF.out L w9 l1 l2 l3)
                  clear l1 l2 l3 HLF HRT HB1 HB2
                  go_wp2_with fail
                  go_roundw
                  case rel => exact ⟨mid + 1, j, (lm + 1), _, _, _, by first | rfl | go_num, by first | rfl | go_num, by first | rfl | go_num, rfl, rfl, by omega, by omega, HQ9.out⟩
                  case measure => (simp [intOf]; try omega)
                · have hlrz : ¬ (mid : Int) - (0 : Int) < (j : Int) - (mid : Int) := by omega
                  go_wp2_with fail
                  have hIH := HIH2.out (j - (mid + 1)) (by omega) (mid + 1) j (lm + 1) d4 w8 HS9.out.row hs4 (by omega) (by omega) HB2.out rfl (by omega)
                  rw [show (((mid + 1 : Nat)) : Int) = (mid : Int) + 1 from rfl] at hIH
                  refine hIH.mono ?_
                  rintro e w9 ⟨rfl, L, l1, l2, l3⟩
                  have HQ9 := Lib.hid (HRT.out L w9 l1 l2 l3)
                  clear l1 l2 l3 HLF HRT HB1 HB2 hIH
                  go_wp2_with fail
                  go_roundw
                  case rel => exact ⟨0, mid, (lm + 1), _, _, _, by first | rfl | go_num, by first | rfl | go_num, by first | rfl | go_num, rfl, rfl, by omega, by omega, HQ9.out⟩
                  case measure => (simp [intOf]; try omega)
          · obtain rfl | rfl | rfl : h = 0 ∨ h = 1 ∨ h = 2 := by omega
            · obtain ⟨p, rfl⟩ : ∃ p, p = p0 := ⟨_, rfl⟩
              have hp1 := q1
              have hp2 := q2
              by_cases hi0 : 0 < i
              · have hi0z : (0 : Int) < (i : Int) := by omega
                have hsz := HQ.out.sz
                obtain ⟨G, hG⟩ : ∃ G : Nat → Int, ∀ t, G t = dc[t]! := ⟨fun t => dc[t]!, fun _ => rfl⟩
                have hcw : ∀ t, t < n → w2.cell? ⟨g, o + t, none⟩ = some (.int .u8 (G t)) := fun t ht => by rw [hG]; exact HQ.out.st.row.cell t (by omega)
                have hfw : ∀ t, t < n → w2.frozen? ⟨g, o + t, none⟩ = false := fun t _ => HQ.out.st.row.frozen t
                have HG := Lib.hid hG
                clear hG
                cases hl : ltInt (G (i - 1)) (G p)
                · have hq := less_any (G (i - 1)) (G p)
                  rw [hl] at hq
                  have HL := Lib.hid hl
                  clear hl
                  go_wp2_with fail
                  go_quiet (first | (go_at_call 44; refine Calls.quiet_of_same (hq _)))
                  go_wp2_with fail
                  have HQ2 := Lib.hid (HQ.out.fr ((Fr.rfl' Nil w2).drewN nq))
                  clear hcw hfw hq HQ
                  generalize w2.drewN nq = w7 at *
                  clear nq
                  obtain ⟨mid, d4, hx⟩ : ∃ mid d4, partitionEqual ltInt dc i j p = (mid, d4) := ⟨_, _, rfl⟩
                  have hPE := parteq_any g o c n i j p pre sp dc w7 HQ2.out.st.row hsz hp1 hp2 (by omega) hn2
                  rw [hx] at hPE
                  have HPE := Lib.hid hPE
                  have HX := Lib.hid hx
                  clear hPE hx
                  refine HPE.out.mono ?_
                  rintro e w8 ⟨rfl, hS8⟩
                  obtain ⟨m1, m2, hQ8⟩ := HQ2.out.eq_ hi0 hp1 hp2 (by omega) (by rw [← HG.out, ← HG.out]; exact HL.out) HX.out hS8
                  have HQ8 := Lib.hid hQ8
                  clear hQ8 hS8 HQ2 HPE HX HL HG
                  go_wp2_with fail
                  go_roundw
                  case rel => exact ⟨mid, j, (lm + 1), _, _, _, by first | rfl | go_num, by first | rfl | go_num, by first | rfl | go_num, rfl, rfl, by omega, by omega, HQ8.out⟩
                  case measure => (simp [intOf]; try omega)
                · have hq := less_any (G (i - 1)) (G p)
                  rw [hl] at hq
                  have HL := Lib.hid hl
                  clear hl
                  go_wp2_with fail
                  go_quiet (first | (go_at_call 44; refine Calls.quiet_of_same (hq _)))
                  go_wp2_with fail
                  have HQ2 := Lib.hid (HQ.out.fr ((Fr.rfl' Nil w2).drewN nq))
                  clear hcw hfw hq HQ
                  generalize w2.drewN nq = w7 at *
                  clear nq
                  clear HL HG
                  obtain ⟨mid, ap, d4, hx⟩ : ∃ mid ap d4, partition ltInt dc i j p = (mid, ap, d4) := ⟨_, _, _, rfl⟩
                  have hPE := part_any g o c n i j p pre sp dc w7 HQ2.out.st.row hsz hp1 hp2 (by omega) hn2
                  rw [hx] at hPE
                  have HPE := Lib.hid hPE
                  have HX := Lib.hid hx
                  clear hPE hx
                  refine HPE.out.mono ?_
                  rintro e w8 ⟨rfl, hS8⟩
                  obtain ⟨m1, m2, hs4, hb1, hb2, hS9, hL, hRt⟩ := HQ2.out.part_ hp1 hp2 (by omega) HX.out hS8
                  have HB1 := Lib.hid hb1
                  have HB2 := Lib.hid hb2
                  have HS9 := Lib.hid hS9
                  have HLF := Lib.hid hL
                  have HRT := Lib.hid hRt
                  clear hS8 HQ2 HPE HX hb1 hb2 hS9 hL hRt
                  by_cases hlr : mid - i < j - mid
                  · have hlrz : (mid : Int) - (i : Int) < (j : Int) - (mid : Int) := by omega
                    go_wp2_with fail
                    refine (HIH2.out (mid - i) (by omega) i mid (lm + 1) d4 w8 HS9.out.row hs4 (by omega) (by omega) HB1.out rfl (by omega)).mono ?_
                    rintro e w9 ⟨rfl, L, l1, l2, l3⟩
                    have HQ9 := Lib.hid (HLF.out L w9 l1 l2 l3)
                    clear l1 l2 l3 HLF HRT HB1 HB2
                    go_wp2_with fail
                    go_roundw
                    case rel => exact ⟨mid + 1, j, (lm + 1), _, _, _, by first | rfl | go_num, by first | rfl | go_num, by first | rfl | go_num, rfl, rfl, by omega, by omega, HQ9.out⟩
                    case measure => (simp [intOf]; try omega)
                  · have hlrz : ¬ (mid : Int) - (i : Int) < (j : Int) - (mid : Int) := by omega
                    go_wp2_with fail
                    have hIH := HIH2.out (j - (mid + 1)) (by omega) (mid + 1) j (lm + 1) d4 w8 HS9.out.row hs4 (by omega) (by omega) HB2.out rfl (by omega)
                    rw [show (((mid + 1 : Nat)) : Int) = (mid : Int) + 1 from rfl] at hIH
                    refine hIH.mono ?_
                    rintro e w9 ⟨rfl, L, l1, l2, l3⟩
                    have HQ9 := Lib.hid (HRT.out L w9 l1 l2 l3)
                    clear l1 l2 l3 HLF HRT HB1 HB2 hIH
                    go_wp2_with fail
                    go_roundw
                    case rel => exact ⟨i, mid, (lm + 1), _, _, _, by first | rfl | go_num, by first | rfl | go_num, by first | rfl | go_num, rfl, rfl, by omega, by omega, HQ9.out⟩
                    case measure => (simp [intOf]; try omega)
              · obtain rfl : i = 0 := by omega
                have hi0z : decide ((0 : Int) < ((0 : Nat) : Int)) = false := by decide
                have hi0y : decide ((0 : Int) < 0) = false := by decide
                try have hpz2 : (j : Int) - 1 - (p0 : Int) = (p : Int) := by omega
                have hsz := HQ.out.sz
                go_wp2_with fail
                go_quiet (fail)
                go_wp2_with fail
                have HQ2 := Lib.hid (HQ.out.fr ((Fr.rfl' Nil w2).drewN nq))
                clear HQ
                generalize w2.drewN nq = w7 at *
                clear nq
                obtain ⟨mid, ap, d4, hx⟩ : ∃ mid ap d4, partition ltInt dc 0 j p = (mid, ap, d4) := ⟨_, _, _, rfl⟩
                have hPE := part_any g o c n 0 j p pre sp dc w7 HQ2.out.st.row hsz hp1 hp2 (by omega) hn2
                rw [hx] at hPE
                have HPE := Lib.hid hPE
                have HX := Lib.hid hx
                clear hPE hx
                refine HPE.out.mono ?_
                rintro e w8 ⟨rfl, hS8⟩
                obtain ⟨m1, m2, hs4, hb1, hb2, hS9, hL, hRt⟩ := HQ2.out.part_ hp1 hp2 (by omega) HX.out hS8
                have HB1 := Lib.hid hb1
                have HB2 := Lib.hid hb2
                have HS9 := Lib.hid hS9
                have HLF := Lib.hid hL
                have HRT := Lib.hid hRt
                clear hS8 HQ2 HPE HX hb1 hb2 hS9 hL hRt
                by_cases hlr : mid - 0 < j - mid
                · have hlrz : (mid : Int) - (0 : Int) < (j : Int) - (mid : Int) := by omega
                  go_wp2_with fail
                  refine (HIH2.out (mid - 0) (by omega) 0 mid (lm + 1) d4 w8 HS9.out.row hs4 (by omega) (by omega) HB1.out rfl (by omega)).mono ?_
                  rintro e w9 ⟨rfl, L, l1, l2, l3⟩
                  have HQ9 := Lib.hid (HLF.out L w9 l1 l2 l3)
                  clear l1 l2 l3 HLF HRT HB1 HB2
                  go_wp2_with fail
                  go_roundw
                  case rel => exact ⟨mid + 1, j, (lm + 1), _, _, _, by first | rfl | go_num, by first | rfl | go_num, by first | rfl | go_num, rfl, rfl, by omega, by omega, HQ9.out⟩
                  case measure => (simp [intOf]; try omega)
                · have hlrz : ¬ (mid : Int) - (0 : Int) < (j : Int) - (mid : Int) := by omega
                  go_wp2_with fail
                  have hIH := HIH2.out (j - (mid + 1)) (by omega) (mid + 1) j (lm + 1) d4 w8 HS9.out.row hs4 (by omega) (by omega) HB2.out rfl (by omega)
                  rw [show (((mid + 1 : Nat)) : Int) = (mid : Int) + 1 from rfl] at hIH
                  refine hIH.mono ?_
                  rintro e w9 ⟨rfl, L, l1, l2, l3⟩
                  have HQ9 := Lib.hid (HRT.out L w9 l1 l2 l3)
                  clear l1 l2 l3 HLF HRT HB1 HB2 hIH
                  go_wp2_with fail
                  go_roundw
                  case rel => exact ⟨0, mid, (lm + 1), _, _, _, by first | rfl | go_num, by first | rfl | go_num, by first | rfl | go_num, rfl, rfl, by omega, by omega, HQ9.out⟩
                  case measure => (simp [intOf]; try omega)
            · obtain ⟨p, rfl⟩ : ∃ p, p = p0 := ⟨_, rfl⟩
              have hp1 := q1
              have hp2 := q2
              obtain ⟨d5, r, hx⟩ : ∃ d5 r, partialInsertionSort ltInt dc i j = (d5, r) := ⟨_, _, rfl⟩
              have hPI := pins_any g o c n i j pre sp dc w2 HQ.out.st.row HQ.out.sz (by omega) (by omega) hn2
              have hPH := partialInsertionSort_holds swo_ltInt dc i j (by omega) (by rw [HQ.out.sz]; omega) HQ.out.bel
              rw [hx] at hPI hPH
              have HPI := Lib.hid hPI
              have HPH := Lib.hid hPH
              clear hPI hPH hx
              go_wp2_with fail
              refine HPI.out.mono ?_
              rintro e w6 ⟨rfl, hS6⟩
              cases r
              · have hQ6 := HQ.out.perm HPH.out.1 hS6 (by omega)
                clear HQ HPI HPH hS6
                have HQ := Lib.hid hQ6
                clear hQ6
                by_cases hi0 : 0 < i
                · have hi0z : (0 : Int) < (i : Int) := by omega
                  have hsz := HQ.out.sz
                  obtain ⟨G, hG⟩ : ∃ G : Nat → Int, ∀ t, G t = d5[t]! := ⟨fun t => d5[t]!, fun _ => rfl⟩
                  have hcw : ∀ t, t < n → w6.cell? ⟨g, o + t, none⟩ = some (.int .u8 (G t)) := fun t ht => by rw [hG]; exact HQ.out.st.row.cell t (by omega)
                  have hfw : ∀ t, t < n → w6.frozen? ⟨g, o + t, none⟩ = false := fun t _ => HQ.out.st.row.frozen t
                  have HG := Lib.hid hG
                  clear hG
                  cases hl : ltInt (G (i - 1)) (G p)
                  · have hq := less_any (G (i - 1)) (G p)
                    rw [hl] at hq
                    have HL := Lib.hid hl
                    clear hl
                    go_wp2_with fail
                    go_quiet (first | (go_at_call 44; refine Calls.quiet_of_same (hq _)))
                    go_wp2_with fail
                    have HQ2 := Lib.hid (HQ.out.fr ((Fr.rfl' Nil w6).drewN nq))
                    clear hcw hfw hq HQ
                    generalize w6.drewN nq = w7 at *
                    clear nq
                    obtain ⟨mid, d4, hx⟩ : ∃ mid d4, partitionEqual ltInt d5 i j p = (mid, d4) := ⟨_, _, rfl⟩
                    have hPE := parteq_any g o c n i j p pre sp d5 w7 HQ2.out.st.row hsz hp1 hp2 (by omega) hn2
                    rw [hx] at hPE
                    have HPE := Lib.hid hPE
                    have HX := Lib.hid hx
                    clear hPE hx
                    refine HPE.out.mono ?_
                    rintro e w8 ⟨rfl, hS8⟩
                    obtain ⟨m1, m2, hQ8⟩ := HQ2.out.eq_ hi0 hp1 hp2 (by omega) (by rw [← HG.out, ← HG.out]; exact HL.out) HX.out hS8
                    have HQ8 := Lib.hid hQ8
                    clear hQ8 hS8 HQ2 HPE HX HL HG
                    go_wp2_with fail
                    go_roundw
                    case rel => exact ⟨mid, j, (lm + 1), _, _, _, by first | rfl | go_num, by first | rfl | go_num, by first | rfl | go_num, rfl, rfl, by omega, by omega, HQ8.out⟩
                    case measure => (simp [intOf]; try omega)
                  · have hq := less_any (G (i - 1)) (G p)
                    rw [hl] at hq
                    have HL := Lib.hid hl
                    clear hl
                    go_wp2_with fail
                    go_quiet (first | (go_at_call 44; refine Calls.quiet_of_same (hq _)))
                    go_wp2_with fail
                    have HQ2 := Lib.hid (HQ.out.fr ((Fr.rfl' Nil w6).drewN nq))
                    clear hcw hfw hq HQ
                    generalize w6.drewN nq = w7 at *
                    clear nq
                    clear HL HG
                    obtain ⟨mid, ap, d4, hx⟩ : ∃ mid ap d4, partition ltInt d5 i j p = (mid, ap, d4) := ⟨_, _, _, rfl⟩
                    have hPE := part_any g o c n i j p pre sp d5 w7 HQ2.out.st.row hsz hp1 hp2 (by omega) hn2
                    rw [hx] at hPE
                    have HPE := Lib.hid hPE
                    have HX := Lib.hid hx
                    clear hPE hx
                    refine HPE.out.mono ?_
                    rintro e w8 ⟨rfl, hS8⟩
                    obtain ⟨m1, m2, hs4, hb1, hb2, hS9, hL, hRt⟩ := HQ2.out.part_ hp1 hp2 (by omega) HX.out hS8
                    have HB1 := Lib.hid hb1
                    have HB2 := Lib.hid hb2
                    have HS9 := Lib.hid hS9
                    have HLF := Lib.hid hL
                    have HRT := Lib.hid hRt
                    clear hS8 HQ2 HPE HX hb1 hb2 hS9 hL hRt
                    by_cases hlr : mid - i < j - mid
                    · have hlrz : (mid : Int) - (i : Int) < (j : Int) - (mid : Int) := by omega
                      go_wp2_with fail
                      refine (HIH2.out (mid - i) (by omega) i mid (lm + 1) d4 w8 HS9.out.row hs4 (by omega) (by omega) HB1.out rfl (by omega)).mono ?_
                      rintro e w9 ⟨rfl, L, l1, l2, l3⟩
                      have HQ9 := Lib.hid (HLF.out L w9 l1 l2 l3)
                      clear l1 l2 l3 HLF HRT HB1 HB2
                      go_wp2_with fail
                      go_roundw
                      case rel => exact ⟨mid + 1, j, (lm + 1), _, _, _, by first | rfl | go_num, by first | rfl | go_num, by first | rfl | go_num, rfl, rfl, by omega, by omega, HQ9.out⟩
                      case measure => (simp [intOf]; try omega)
                    · have hlrz : ¬ (mid : Int) - (i : Int) < (j : Int) - (mid : Int) := by omega
                      go_wp2_with fail
                      have hIH := HIH2.out (j - (mid + 1)) (by omega) (mid + 1) j (lm + 1) d4 w8 HS9.out.row hs4 (by omega) (by omega) HB2.out rfl (by omega)
                      rw [show (((mid + 1 : Nat)) : Int) = (mid : Int) + 1 from rfl] at hIH
                      refine hIH.mono ?_
                      rintro e w9 ⟨rfl, L, l1, l2, l3⟩
                      have HQ9 := Lib.hid (HRT.out L w9 l1 l2 l3)
                      clear l1 l2 l3 HLF HRT HB1 HB2 hIH
                      go_wp2_with fail
                      go_roundw
                      case rel => exact ⟨i, mid, (lm + 1), _, _, _, by first | rfl | go_num, by first | rfl | go_num, by first | rfl | go_num, rfl, rfl, by omega, by omega, HQ9.out⟩
                      case measure => (simp [intOf]; try omega)
                · obtain rfl : i = 0 := by omega
                  have hi0z : decide ((0 : Int) < ((0 : Nat) : Int)) = false := by decide
                  have hi0y : decide ((0 : Int) < 0) = false := by decide
                  try have hpz2 : (j : Int) - 1 - (p0 : Int) = (p : Int) := by omega
                  have hsz := HQ.out.sz
                  go_wp2_with fail
                  go_quiet (fail)
                  go_wp2_with fail
                  have HQ2 := Lib.hid (HQ.out.fr ((Fr.rfl' Nil w6).drewN nq))
                  clear HQ
                  generalize w6.drewN nq = w7 at *
                  clear nq
                  obtain ⟨mid, ap, d4, hx⟩ : ∃ mid ap d4, partition ltInt d5 0 j p = (mid, ap, d4) := ⟨_, _, _, rfl⟩
                  have hPE := part_any g o c n 0 j p pre sp d5 w7 HQ2.out.st.row hsz hp1 hp2 (by omega) hn2
                  rw [hx] at hPE
                  have HPE := Lib.hid hPE
                  have HX := Lib.hid hx
                  clear hPE hx
                  refine HPE.out.mono ?_
                  rintro e w8 ⟨rfl, hS8⟩
                  obtain ⟨m1, m2, hs4, hb1, hb2, hS9, hL, hRt⟩ := HQ2.out.part_ hp1 hp2 (by omega) HX.out hS8
                  have HB1 := Lib.hid hb1
                  have HB2 := Lib.hid hb2
                  have HS9 := Lib.hid hS9
                  have HLF := Lib.hid hL
                  have HRT := Lib.hid hRt
                  clear hS8 HQ2 HPE HX hb1 hb2 hS9 hL hRt
                  by_cases hlr : mid - 0 < j - mid
                  · have hlrz : (mid : Int) - (0 : Int) < (j : Int) - (mid : Int) := by omega
                    go_wp2_with fail
                    refine (HIH2.out (mid - 0) (by omega) 0 mid (lm + 1) d4 w8 HS9.out.row hs4 (by omega) (by omega) HB1.out rfl (by omega)).mono ?_
                    rintro e w9 ⟨rfl, L, l1, l2, l3⟩
                    have HQ9 := Lib.hid (HLF.out L w9 l1 l2 l3)
                    clear l1 l2 l3 HLF HRT HB1 HB2
                    go_wp2_with fail
                    go_roundw
                    case rel => exact ⟨mid + 1, j, (lm + 1), _, _, _, by first | rfl | go_num, by first | rfl | go_num, by first | rfl | go_num, rfl, rfl, by omega, by omega, HQ9.out⟩
                    case measure => (simp [intOf]; try omega)
                  · have hlrz : ¬ (mid : Int) - (0 : Int) < (j : Int) - (mid : Int) := by omega
                    go_wp2_with fail
                    have hIH := HIH2.out (j - (mid + 1)) (by omega) (mid + 1) j (lm + 1) d4 w8 HS9.out.row hs4 (by omega) (by omega) HB2.out rfl (by omega)
                    rw [show (((mid + 1 : Nat)) : Int) = (mid : Int) + 1 from rfl] at hIH
                    refine hIH.mono ?_
                    rintro e w9 ⟨rfl, L, l1, l2, l3⟩
                    have HQ9 := Lib.hid (HRT.out L w9 l1 l2 l3)
                    clear l1 l2 l3 HLF HRT HB1 HB2 hIH
                    go_wp2_with fail
                    go_roundw
                    case rel => exact ⟨0, mid, (lm + 1), _, _, _, by first | rfl | go_num, by first | rfl | go_num, by first | rfl | go_num, rfl, rfl, by omega, by omega, HQ9.out⟩
                    case measure => (simp [intOf]; try omega)
              · go_wp2_with fail
                (try simp only [Exit.inBlock, Exit.then])
                refine bodyPost_ret (results_none rfl _ _ _) rfl ?_
                exact HQ.out.done ⟨HPH.out.1, HPH.out.2 (by first | rfl | trivial)⟩ hS6
            · go_wp2_with fail
              refine (reverse_any g o c n i j pre sp dc w2 HQ.out.st.row HQ.out.sz (by omega) (by omega) hn2).mono ?_
              rintro e w3 ⟨rfl, hS3⟩
              have hQ3 := HQ.out.perm (reverseRange_holds dc i j ij (by rw [HQ.out.sz]; omega)) hS3 (by omega)
              clear HQ hS3
              have HQ := Lib.hid hQ3
              clear hQ3
              generalize reverseRange dc i j = d3 at *
              obtain ⟨p, hp⟩ : ∃ p, p = j - 1 - (p0 - i) := ⟨_, rfl⟩
              have hp1 : i ≤ p := by omega
              have hp2 : p < j := by omega
              have hpz : (j : Int) - 1 - ((p0 : Int) - (i : Int)) = (p : Int) := by omega
              clear hp
              obtain ⟨d5, r, hx⟩ : ∃ d5 r, partialInsertionSort ltInt d3 i j = (d5, r) := ⟨_, _, rfl⟩
              have hPI := pins_any g o c n i j pre sp d3 w3 HQ.out.st.row HQ.out.sz (by omega) (by omega) hn2
              have hPH := partialInsertionSort_holds swo_ltInt d3 i j (by omega) (by rw [HQ.out.sz]; omega) HQ.out.bel
              rw [hx] at hPI hPH
              have HPI := Lib.hid hPI
              have HPH := Lib.hid hPH
              clear hPI hPH hx
              go_wp2_with fail
              refine HPI.out.mono ?_
              rintro e w6 ⟨rfl, hS6⟩
              cases r
              · have hQ6 := HQ.out.perm HPH.out.1 hS6 (by omega)
                clear HQ HPI HPH hS6
                have HQ := Lib.hid hQ6
                clear hQ6
                by_cases hi0 : 0 < i
                · have hi0z : (0 : Int) < (i : Int) := by omega
                  have hsz := HQ.out.sz
                  obtain ⟨G, hG⟩ : ∃ G : Nat → Int, ∀ t, G t = d5[t]! := ⟨fun t => d5[t]!, fun _ => rfl⟩
                  have hcw : ∀ t, t < n → w6.cell? ⟨g, o + t, none⟩ = some (.int .u8 (G t)) := fun t ht => by rw [hG]; exact HQ.out.st.row.cell t (by omega)
                  have hfw : ∀ t, t < n → w6.frozen? ⟨g, o + t, none⟩ = false := fun t _ => HQ.out.st.row.frozen t
                  have HG := Lib.hid hG
                  clear hG
                  cases hl : ltInt (G (i - 1)) (G p)
                  · have hq := less_any (G (i - 1)) (G p)
                    rw [hl] at hq
                    have HL := Lib.hid hl
                    clear hl
                    go_wp2_with fail
                    go_quiet (first | (go_at_call 44; refine Calls.quiet_of_same (hq _)))
                    go_wp2_with fail
                    have HQ2 := Lib.hid (HQ.out.fr ((Fr.rfl' Nil w6).drewN nq))
                    clear hcw hfw hq HQ
                    generalize w6.drewN nq = w7 at *
                    clear nq
                    obtain ⟨mid, d4, hx⟩ : ∃ mid d4, partitionEqual ltInt d5 i j p = (mid, d4) := ⟨_, _, rfl⟩
                    have hPE := parteq_any g o c n i j p pre sp d5 w7 HQ2.out.st.row hsz hp1 hp2 (by omega) hn2
                    rw [hx] at hPE
                    have HPE := Lib.hid hPE
                    have HX := Lib.hid hx
                    clear hPE hx
                    refine HPE.out.mono ?_
                    rintro e w8 ⟨rfl, hS8⟩
                    obtain ⟨m1, m2, hQ8⟩ := HQ2.out.eq_ hi0 hp1 hp2 (by omega) (by rw [← HG.out, ← HG.out]; exact HL.out) HX.out hS8
                    have HQ8 := Lib.hid hQ8
                    clear hQ8 hS8 HQ2 HPE HX HL HG
                    go_wp2_with fail
                    go_roundw
                    case rel => exact ⟨mid, j, (lm + 1), _, _, _, by first | rfl | go_num, by first | rfl | go_num, by first | rfl | go_num, rfl, rfl, by omega, by omega, HQ8.out⟩
                    case measure => (simp [intOf]; try omega)
                  · have hq := less_any (G (i - 1)) (G p)
                    rw [hl] at hq
                    have HL := Lib.hid hl
                    clear hl
                    go_wp2_with fail
                    go_quiet (first | (go_at_call 44; refine Calls.quiet_of_same (hq _)))
                    go_wp2_with fail
                    have HQ2 := Lib.hid (HQ.out.fr ((Fr.rfl' Nil w6).drewN nq))
                    clear hcw hfw hq HQ
                    generalize w6.drewN nq = w7 at *
                    clear nq
                    clear HL HG
                    obtain ⟨mid, ap, d4, hx⟩ : ∃ mid ap d4, partition ltInt d5 i j p = (mid, ap, d4) := ⟨_, _, _, rfl⟩
                    have hPE := part_any g o c n i j p pre sp d5 w7 HQ2.out.st.row hsz hp1 hp2 (by omega) hn2
                    rw [hx] at hPE
                    have HPE := Lib.hid hPE
                    have HX := Lib.hid hx
                    clear hPE hx
                    refine HPE.out.mono ?_
                    rintro e w8 ⟨rfl, hS8⟩
                    obtain ⟨m1, m2, hs4, hb1, hb2, hS9, hL, hRt⟩ := HQ2.out.part_ hp1 hp2 (by omega) HX.out hS8
                    have HB1 := Lib.hid hb1
                    have HB2 := Lib.hid hb2
                    have HS9 := Lib.hid hS9
                    have HLF := Lib.hid hL
                    have HRT := Lib.hid hRt
                    clear hS8 HQ2 HPE HX hb1 hb2 hS9 hL hRt
                    by_cases hlr : mid - i < j - mid
                    · have hlrz : (mid : Int) - (i : Int) < (j : Int) - (mid : Int) := by omega
                      go_wp2_with fail
                      refine (HIH2.out (mid - i) (by omega) i mid (lm + 1) d4 w8 HS9.out.row hs4 (by omega) (by omega) HB1.out rfl (by omega)).mono ?_
                      rintro e w9 ⟨rfl, L, l1, l2, l3⟩
                      have HQ9 := Lib.hid (HLF.out L w9 l1 l2 l3)
                      clear l1 l2 l3 HLF HRT HB1 HB2
                      go_wp2_with fail
                      go_roundw
                      case rel => exact ⟨mid + 1, j, (lm + 1), _, _, _, by first | rfl | go_num, by first | rfl | go_num, by first | rfl | go_num, rfl, rfl, by omega, by omega, HQ9.out⟩
                      case measure => (simp [intOf]; try omega)
                    · have hlrz : ¬ (mid : Int) - (i : Int) < (j : Int) - (mid : Int) := by omega
                      go_wp2_with fail
                      have hIH := HIH2.out (j - (mid + 1)) (by omega) (mid + 1) j (lm + 1) d4 w8 HS9.out.row hs4 (by omega) (by omega) HB2.out rfl (by omega)
                      rw [show (((mid + 1 : Nat)) : Int) = (mid : Int) + 1 from rfl] at hIH
                      refine hIH.mono ?_
                      rintro e w9 ⟨rfl, L, l1, l2, l3⟩
                      have HQ9 := Lib.hid (HRT.out L w9 l1 l2 l3)
                      clear l1 l2 l3 HLF HRT HB1 HB2 hIH
                      go_wp2_with fail
                      go_roundw
                      case rel => exact ⟨i, mid, (lm + 1), _, _, _, by first | rfl | go_num, by first | rfl | go_num, by first | rfl | go_num, rfl, rfl, by omega, by omega, HQ9.out⟩
                      case measure => (simp [intOf]; try omega)
                · obtain rfl : i = 0 := by omega
                  have hi0z : decide ((0 : Int) < ((0 : Nat) : Int)) = false := by decide
                  have hi0y : decide ((0 : Int) < 0) = false := by decide
                  try have hpz2 : (j : Int) - 1 - (p0 : Int) = (p : Int) := by omega
                  have hsz := HQ.out.sz
                  go_wp2_with fail
                  go_quiet (fail)
                  go_wp2_with fail
                  have HQ2 := Lib.hid (HQ.out.fr ((Fr.rfl' Nil w6).drewN nq))
                  clear HQ
                  generalize w6.drewN nq = w7 at *
                  clear nq
                  obtain ⟨mid, ap, d4, hx⟩ : ∃ mid ap d4, partition ltInt d5 0 j p = (mid, ap, d4) := ⟨_, _, _, rfl⟩
                  have hPE := part_any g o c n 0 j p pre sp d5 w7 HQ2.out.st.row hsz hp1 hp2 (by omega) hn2
                  rw [hx] at hPE
                  have HPE := Lib.hid hPE
                  have HX := Lib.hid hx
                  clear hPE hx
                  refine HPE.out.mono ?_
                  rintro e w8 ⟨rfl, hS8⟩
                  obtain ⟨m1, m2, hs4, hb1, hb2, hS9, hL, hRt⟩ := HQ2.out.part_ hp1 hp2 (by omega) HX.out hS8
                  have HB1 := Lib.hid hb1
                  have HB2 := Lib.hid hb2
                  have HS9 := Lib.hid hS9
                  have HLF := Lib.hid hL
                  have HRT := Lib.hid hRt
                  clear hS8 HQ2 HPE HX hb1 hb2 hS9 hL hRt
                  by_cases hlr : mid - 0 < j - mid
                  · have hlrz : (mid : Int) - (0 : Int) < (j : Int) - (mid : Int) := by omega
                    go_wp2_with fail
                    refine (HIH2.out (mid - 0) (by omega) 0 mid (lm + 1) d4 w8 HS9.out.row hs4 (by omega) (by omega) HB1.out rfl (by omega)).mono ?_
                    rintro e w9 ⟨rfl, L, l1, l2, l3⟩
                    have HQ9 := Lib.hid (HLF.out L w9 l1 l2 l3)
                    clear l1 l2 l3 HLF HRT HB1 HB2
                    go_wp2_with fail
                    go_roundw
                    case rel => exact ⟨mid + 1, j, (lm + 1), _, _, _, by first | rfl | go_num, by first | rfl | go_num, by first | rfl | go_num, rfl, rfl, by omega, by omega, HQ9.out⟩
                    case measure => (simp [intOf]; try omega)
                  · have hlrz : ¬ (mid : Int) - (0 : Int) < (j : Int) - (mid : Int) := by omega
                    go_wp2_with fail
                    have hIH := HIH2.out (j - (mid + 1)) (by omega) (mid + 1) j (lm + 1) d4 w8 HS9.out.row hs4 (by omega) (by omega) HB2.out rfl (by omega)
                    rw [show (((mid + 1 : Nat)) : Int) = (mid : Int) + 1 from rfl] at hIH
                    refine hIH.mono ?_
                    rintro e w9 ⟨rfl, L, l1, l2, l3⟩
                    have HQ9 := Lib.hid (HRT.out L w9 l1 l2 l3)
                    clear l1 l2 l3 HLF HRT HB1 HB2 hIH
                    go_wp2_with fail
                    go_roundw
                    case rel => exact ⟨0, mid, (lm + 1), _, _, _, by first | rfl | go_num, by first | rfl | go_num, by first | rfl | go_num, rfl, rfl, by omega, by omega, HQ9.out⟩
                    case measure => (simp [intOf]; try omega)
              · go_wp2_with fail
                (try simp only [Exit.inBlock, Exit.then])
                refine bodyPost_ret (results_none rfl _ _ _) rfl ?_
                exact HQ.out.done ⟨HPH.out.1, HPH.out.2 (by first | rfl | trivial)⟩ hS6
end Go.Proofs.Ythhlpbopbabojaa
