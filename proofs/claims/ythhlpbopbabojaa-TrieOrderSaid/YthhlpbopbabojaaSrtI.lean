/-
  heapSortOrdered at bytes, walked. (Printed by gen_srt.py.)
-/
import Derived.Test.YthhlpbopbabojaaSrtH
namespace Go.Proofs.Ythhlpbopbabojaa
open Go.RowKit Go.Sort

theorem sift_size (lt : Int → Int → Bool) (hi first r : Nat) (d : Array Int) : (siftDown lt hi first r d).size = d.size := by
  fun_induction siftDown lt hi first r d with
  | case1 | case2 | case4 | case5 => rfl
  | case3 _ _ _ _ _ _ ih | case6 _ _ _ _ _ ih => rw [ih, size_swp]
set_option maxRecDepth 1000000 in
set_option maxHeartbeats 800000 in
theorem heap_any (g o c n a b : Nat) (pre sp : Array Value) (d : Array Int) (w : World) (hR : RowB w g o pre sp d) (hn : d.size = n) (hab : a < b) (hb : b ≤ n) (hn2 : n ≤ 1048576) :
    Calls Try.prog 39 #[.slice (some ⟨g, o, none⟩) n c, .int .i64 a, .int .i64 b] w fun e w' => e = .returned (.tuple #[]) ∧ St w g o pre sp (heapSort ltInt d a b) w' := by
  obtain ⟨hi, hhi⟩ : ∃ hi, hi = b - a := ⟨_, rfl⟩
  have hbi : b - a = hi := hhi.symm
  have hbj : (b : Int) - (a : Int) = (hi : Int) := by omega
  have HH := Lib.hid (show heapSort ltInt d a b = heapPop ltInt a hi (heapBuild ltInt hi a ((hi - 1) / 2 + 1) d) by unfold heapSort; rw [← hhi])
  go_enter Try.func39, Try.ntmps39
  clear hhi
  go_wp2_with fail
  go_loopw [9] (fun vi wr => ∃ (k : Nat) (dk : Array Int), vi = .int .i64 ((k : Int) - 1) ∧ k ≤ (hi - 1) / 2 + 1 ∧ dk.size = n ∧ St w g o pre sp dk wr ∧ heapBuild ltInt hi a k dk = heapBuild ltInt hi a ((hi - 1) / 2 + 1) d) (fun vi _ => (intOf vi + 1).toNat)
  case atStart => exact ⟨(hi - 1) / 2 + 1, d, by first | rfl | go_num, Nat.le_refl _, hn, .start hR, rfl⟩
  case round =>
    obtain ⟨k, dk, rfl, hk, hsk, hS, hE⟩ := hrel
    have HE := Lib.hid hE
    clear hE
    cases k with
    | succ m =>
      rw [show (((m + 1 : Nat) : Int) - 1) = (m : Int) by omega]
      have HC := Lib.hid (sift_any g o c n m hi a pre sp dk wr hS.row hsk (by omega) (by omega) hn2)
      have HS := Lib.hid hS
      clear hS
      go_wp2_with fail
      refine HC.out.mono ?_
      rintro e w1 ⟨rfl, hS1⟩
      go_wp2_with fail
      go_roundw
      case rel => exact ⟨m, _, by first | rfl | go_num, by omega, by rw [← hsk]; exact sift_size _ _ _ _ _, HS.out.trans hS1, by rw [← HE.out]; rfl⟩
      case measure => (simp [intOf]; try omega)
    | zero =>
      rw [show (((0 : Nat) : Int) - 1) = -1 by omega]
      have HB := Lib.hid (show heapBuild ltInt hi a ((hi - 1) / 2 + 1) d = dk by rw [← HE.out]; rfl)
      go_wp2_with fail
      go_loopw [10] (fun vi wr => ∃ (k : Nat) (dj : Array Int), vi = .int .i64 ((k : Int) - 1) ∧ k ≤ hi ∧ dj.size = n ∧ St w g o pre sp dj wr ∧ heapPop ltInt a k dj = heapPop ltInt a hi dk) (fun vi _ => (intOf vi + 1).toNat)
      case atStart => exact ⟨hi, dk, by first | rfl | go_num, Nat.le_refl _, hsk, hS, rfl⟩
      case round =>
        clear hS
        obtain ⟨k, dj, rfl, hk2, hsj, hS, hE⟩ := hrel
        have HE2 := Lib.hid hE
        clear hE
        cases k with
        | succ m =>
          rw [show (((m + 1 : Nat) : Int) - 1) = (m : Int) by omega]
          obtain ⟨G, hG⟩ : ∃ G : Nat → Int, ∀ t, G t = dj[t]! := ⟨fun t => dj[t]!, fun _ => rfl⟩
          have hcw : ∀ t, t < n → wr.cell? ⟨g, o + t, none⟩ = some (.int .u8 (G t)) := fun t ht => by rw [hG]; exact hS.row.cell t (by omega)
          have hfw : ∀ t, t < n → wr.frozen? ⟨g, o + t, none⟩ = false := fun t _ => hS.row.frozen t
          have HS := Lib.hid hS
          have HG := Lib.hid hG
          clear hS hG
          rcases Nat.eq_zero_or_pos m with rfl | hm
          · go_wp2_with fail
            go_region
            go_wp2_with (
              have hS2 := HS.out.swap (i := a) (j := a) (by omega) (by omega) (HG.out _) (HG.out _)
              have HS3 := Lib.hid hS2.drew
              refine (sift_any g o c n 0 0 a pre sp (swp dj a (a)) _ HS3.out.row (by rw [size_swp]; exact hsj) (by omega) (by omega) hn2).mono ?_
              rintro e w1 ⟨rfl, hS4⟩)
            go_roundw
            case rel => exact ⟨0, _, by first | rfl | go_num, by omega, by rw [← hsj, ← size_swp dj a (a)]; exact sift_size _ _ _ _ _, HS3.out.trans hS4, by rw [← HE2.out]; rfl⟩
            case measure => (simp [intOf]; try omega)
          · go_wp2_with fail
            go_region
            go_wp2_with (
              have hS2 := HS.out.swap (i := a) (j := a + m) (by omega) (by omega) (HG.out _) (HG.out _)
              have HS3 := Lib.hid hS2.drew
              refine (sift_any g o c n 0 m a pre sp (swp dj a (a + m)) _ HS3.out.row (by rw [size_swp]; exact hsj) (by omega) (by omega) hn2).mono ?_
              rintro e w1 ⟨rfl, hS4⟩)
            go_roundw
            case rel => exact ⟨m, _, by first | rfl | go_num, by omega, by rw [← hsj, ← size_swp dj a (a + m)]; exact sift_size _ _ _ _ _, HS3.out.trans hS4, by rw [← HE2.out]; rfl⟩
            case measure => (simp [intOf]; try omega)
        | zero =>
          rw [show (((0 : Nat) : Int) - 1) = -1 by omega]
          have HZ := Lib.hid (show heapSort ltInt d a b = dj by rw [HH.out, HB.out, ← HE2.out]; rfl)
          go_wp2_with fail
          go_end0
          exact ⟨rfl, by rw [HZ.out]; exact hS⟩
end Go.Proofs.Ythhlpbopbabojaa
