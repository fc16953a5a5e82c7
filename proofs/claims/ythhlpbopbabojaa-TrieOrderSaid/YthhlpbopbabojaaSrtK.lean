/-
  breakPatternsOrdered at bytes, walked: how it scatters is left open.
-/
import Derived.Test.YthhlpbopbabojaaSrtJ
namespace Go.Proofs.Ythhlpbopbabojaa
open Go.RowKit Go.Sort

/-- only the places from a to b have changed theirs -/
def Scat (w : World) (g o : Nat) (pre sp : Array Value) (d : Array Int) (a b : Nat) (w' : World) : Prop := ∃ d', PermIn a b d d' ∧ St w g o pre sp d' w'
theorem St.far {w wr w' : World} {g o s : Nat} {pre sp : Array Value} {d : Array Int} (h : St w g o pre sp d wr) (hf : Fr (fun k => k = s) wr w') (hs : w.heap.size ≤ s) (hg : g < w.heap.size) : St w g o pre sp d w' :=
  ⟨h.row.fr hf (by omega), h.fr.trans' hf fun k hk e => by omega⟩

set_option maxRecDepth 1000000 in
set_option maxHeartbeats 4000000 in
theorem break_any (g o c n a b : Nat) (pre sp : Array Value) (d : Array Int) (w : World) (hR : RowB w g o pre sp d) (hn : d.size = n) (hab : a + 12 < b) (hb : b ≤ n) (hn2 : n ≤ 1048576) :
    Calls Try.prog 40 #[.slice (some ⟨g, o, none⟩) n c, .int .i64 a, .int .i64 b] w fun e w' => e = .returned (.tuple #[]) ∧ Scat w g o pre sp d a b w' := by
  obtain ⟨l, rfl⟩ : ∃ l, b = a + l := ⟨b - a, by omega⟩
  have hg : g < w.heap.size := hR.2.lt
  have H0 := Lib.hid (show NumB (w.alloc (.cells #[.int .u64 l] 82)) w.heap.size 82 (.int .u64 l) from Blk.new w _ _)
  have HS0 := Lib.hid (show St w g o pre sp d (w.alloc (.cells #[.int .u64 l] 82)) from ⟨hR.fr ((Fr.rfl' Nil w).alloc _) fun x => x, (Fr.rfl' _ w).alloc _⟩)
  clear hR
  have e1 : (a : Int) + (l : Int) - (a : Int) = (l : Int) := by omega
  obtain ⟨M, hM⟩ : ∃ M : Nat, M = 1 <<< bitsLen l := ⟨_, rfl⟩
  have hN := AnyF.nextPowerOfTwo Try.nptL l (by omega)
  rw [← hM] at hN
  have hM2 : M ≤ 2 * l := by rw [hM, Nat.one_shiftLeft]; exact two_pow_bitsLen_le (by omega)
  have hM1 : 1 ≤ M := by rw [hM, Nat.one_shiftLeft]; exact Nat.one_le_two_pow
  have HN := Lib.hid hN
  obtain ⟨q, hq⟩ : ∃ q, q = l / 4 := ⟨_, rfl⟩
  have e2 : (l : Int) / 4 = (q : Int) := by omega
  have e3 : q * 4 ≤ l ∧ l < q * 4 + 4 := by omega
  clear hq hN hM
  go_enter Try.func40, Try.ntmps40
  go_wp2_with fail
  refine (HN.out _).mono ?_
  rintro e w1 ⟨rfl, rfl⟩
  go_wp2_with fail
  go_loopw [9, 10] (fun vi _ wr => ∃ (i X : Nat) (dk : Array Int), vi = .int .i64 i ∧ a + q * 2 ≤ i + 1 ∧ i ≤ a + q * 2 + 2 ∧ X < 18446744073709551616 ∧ NumB wr w.heap.size 82 (.int .u64 X) ∧ PermIn a (a + l) d dk ∧ St w g o pre sp dk wr) (fun vi _ _ => a + q * 2 + 2 - (intOf vi).toNat)
  case atStart => exact ⟨a + q * 2 - 1, l, d, by first | rfl | go_num, by omega, by omega, by omega, H0.out, permIn_refl _ _ _, HS0.out⟩
  case round =>
    obtain ⟨i, X, dk, rfl, hi1, hi2, hX, hnum, hperm, hS⟩ := hrel
    by_cases hle : i ≤ a + q * 2 + 1
    · have hsk : dk.size = n := by rw [hperm.1]; exact hn
      have hNx := AnyF.xorshift_Next Try.xorL w.heap.size 0 X hX wr hnum.cell hnum.frozen
      obtain ⟨X', hX'⟩ : ∃ X', X' = xorNextN X := ⟨_, rfl⟩
      have hX2 : X' < 18446744073709551616 := by rw [hX']; exact xorNextN_lt X hX
      rw [← hX'] at hNx
      obtain ⟨O, hO⟩ : ∃ O : Nat, O = X' &&& (M - 1) := ⟨_, rfl⟩
      have hO2 : O ≤ M - 1 := by rw [hO]; exact Nat.and_le_right
      have eAnd : bits .and .u64 (X' : Int) ((M : Int) - 1) = (O : Int) := by
        rw [show ((M : Int) - 1) = ((M - 1 : Nat) : Int) by omega, bits_and_u64_nat _ _ hX2 (by omega), hO]
      have HNX := Lib.hid hNx
      have HNUM := Lib.hid hnum
      have HP := Lib.hid hperm
      have HS := Lib.hid hS
      clear hNx hnum hperm hS hX' hO
      go_wp2_with fail
      refine HNX.out.mono ?_
      rintro e w1 ⟨rfl, hw1⟩
      have f1 : Fr (fun k => k = w.heap.size) wr w1 := by rw [hw1]; exact ((Fr.rfl' (fun k => k = w.heap.size) wr).setCell (p := ⟨w.heap.size, 0, none⟩) (fun _ => rfl) _).drewN 3
      have g1 : NumB w1 w.heap.size 82 (.int .u64 X') := by rw [hw1]; exact NumB.set HNUM.out _
      have HG1 := Lib.hid g1
      have HS1 := Lib.hid (HS.out.far f1 (Nat.le_refl _) hg)
      clear hw1 f1 g1 HNUM HNX HS
      by_cases hge : l ≤ O
      · have hge2 : (l : Int) ≤ (O : Int) := by omega
        obtain ⟨r, rfl⟩ : ∃ r, O = l + r := ⟨O - l, by omega⟩
        have e4 : ((l + r : Nat) : Int) - (l : Int) = (r : Int) := by omega
        have e5 : (l : Int) + (r : Int) - (l : Int) = (r : Int) := by omega
        have hr : r < l := by omega
        go_wp2_with fail
        obtain ⟨G, hG⟩ : ∃ G : Nat → Int, ∀ t, G t = dk[t]! := ⟨fun t => dk[t]!, fun _ => rfl⟩
        have hcw : ∀ t, t < n → w1.cell? ⟨g, o + t, none⟩ = some (.int .u8 (G t)) := fun t ht => by rw [hG]; exact HS1.out.row.cell t (by omega)
        have hfw : ∀ t, t < n → w1.frozen? ⟨g, o + t, none⟩ = false := fun t _ => HS1.out.row.frozen t
        have HG := Lib.hid hG
        clear hG
        by_cases hir : i = a + r
        · subst hir
          go_region
          go_wp2_with fail
          go_roundw
          case rel => exact ⟨(a + r) + 1, X', swp dk (a + r) (a + r), by first | rfl | go_num, by omega, by omega, hX2, (by
            have := HG1.out
            exact Blk.drewN (n := 1) (Blk.far (Blk.far this (show w.heap.size ≠ g by omega) _) (show w.heap.size ≠ g by omega) _)), permIn_trans _ _ _ _ _ HP.out (swp_permIn dk a (a + l) (a + r) (a + r) (by omega) (by omega) (by omega) (by omega) (by omega)), (by
            have := HS1.out.swap (i := (a + r)) (j := a + r) (by omega) (by omega) (HG.out _) (HG.out _)
            first | exact this.drew | exact this)⟩
          case measure => (simp [intOf]; try omega)
        · have hir2 : ¬ (i : Int) = (a : Int) + (r : Int) := by omega
          go_region
          go_wp2_with fail
          go_roundw
          case rel => exact ⟨i + 1, X', swp dk i (a + r), by first | rfl | go_num, by omega, by omega, hX2, (by
            have := HG1.out
            exact Blk.drewN (n := 1) (Blk.far (Blk.far this (show w.heap.size ≠ g by omega) _) (show w.heap.size ≠ g by omega) _)), permIn_trans _ _ _ _ _ HP.out (swp_permIn dk a (a + l) i (a + r) (by omega) (by omega) (by omega) (by omega) (by omega)), (by
            have := HS1.out.swap (i := i) (j := a + r) (by omega) (by omega) (HG.out _) (HG.out _)
            first | exact this.drew | exact this)⟩
          case measure => (simp [intOf]; try omega)
      · have hge2 : ¬ (l : Int) ≤ (O : Int) := by omega
        have hr : O < l := by omega
        go_wp2_with fail
        obtain ⟨G, hG⟩ : ∃ G : Nat → Int, ∀ t, G t = dk[t]! := ⟨fun t => dk[t]!, fun _ => rfl⟩
        have hcw : ∀ t, t < n → w1.cell? ⟨g, o + t, none⟩ = some (.int .u8 (G t)) := fun t ht => by rw [hG]; exact HS1.out.row.cell t (by omega)
        have hfw : ∀ t, t < n → w1.frozen? ⟨g, o + t, none⟩ = false := fun t _ => HS1.out.row.frozen t
        have HG := Lib.hid hG
        clear hG
        by_cases hir : i = a + O
        · subst hir
          go_region
          go_wp2_with fail
          go_roundw
          case rel => exact ⟨(a + O) + 1, X', swp dk (a + O) (a + O), by first | rfl | go_num, by omega, by omega, hX2, (by
            have := HG1.out
            exact Blk.drewN (n := 1) (Blk.far (Blk.far this (show w.heap.size ≠ g by omega) _) (show w.heap.size ≠ g by omega) _)), permIn_trans _ _ _ _ _ HP.out (swp_permIn dk a (a + l) (a + O) (a + O) (by omega) (by omega) (by omega) (by omega) (by omega)), (by
            have := HS1.out.swap (i := (a + O)) (j := a + O) (by omega) (by omega) (HG.out _) (HG.out _)
            first | exact this.drew | exact this)⟩
          case measure => (simp [intOf]; try omega)
        · have hir2 : ¬ (i : Int) = (a : Int) + (O : Int) := by omega
          go_region
          go_wp2_with fail
          go_roundw
          case rel => exact ⟨i + 1, X', swp dk i (a + O), by first | rfl | go_num, by omega, by omega, hX2, (by
            have := HG1.out
            exact Blk.drewN (n := 1) (Blk.far (Blk.far this (show w.heap.size ≠ g by omega) _) (show w.heap.size ≠ g by omega) _)), permIn_trans _ _ _ _ _ HP.out (swp_permIn dk a (a + l) i (a + O) (by omega) (by omega) (by omega) (by omega) (by omega)), (by
            have := HS1.out.swap (i := i) (j := a + O) (by omega) (by omega) (HG.out _) (HG.out _)
            first | exact this.drew | exact this)⟩
          case measure => (simp [intOf]; try omega)
    · go_wp2_with fail
      go_end0
      exact ⟨rfl, dk, hperm, hS⟩
end Go.Proofs.Ythhlpbopbabojaa
