/-
  The law DecodeBytes, walked.
-/
import Derived.Test.YtlgffgmfaejmeaaSes
namespace Go.Proofs.Ytlgffgmfaejmeaa
open Go.RowKit

theorem run_slice_mid {P : Program} {size n c i j : Nat} {A : Option Addr} {t e : TypeId} (ht : P.underlying t = some (.slice e)) (hs : (P.info? e).map (·.size) = some size) (hij : i ≤ j) (hj : j ≤ n) (hc : n ≤ c) (W : World) :
    (Instr.slice t (.slice A n c) (some (.int .i64 (i : Int))) (some (.int .i64 (j : Int))) none).run P W = .ok (.slice (CutA A c i size) (j - i) (c - i)) W := by
  obtain ⟨inf, hi, rfl⟩ := Option.map_eq_some_iff.1 hs
  have h1 : ((i : Int)).toNat = i := Int.toNat_natCast i
  have h2 : ((j : Int)).toNat = j := Int.toNat_natCast j
  have h3 : j ≤ c := by omega
  simp [Instr.slice, Instr.sliceBounds, Instr.sliceBound, asIntOf, run_underlying ht, sizeOf, typeInfo, hi, h3, hij, CutA]
theorem bs_of_str (l : List UInt8) : bs (str l) = l := rfl

set_option maxHeartbeats 800000 in
set_option maxRecDepth 100000 in
theorem bytes_any (w : World) (A : Option Addr) (n c : Nat) (l : List UInt8) (hr : Reads w w.heap.size 1 A n (cellsOf l)) (hc : n ≤ c) :
    Calls Try.prog 4 #[.slice A n c] w fun e w' => e = .returned (.bool true) ∧ Fr Nil w w' := by
  by_cases hb : 2000 < n
  · have hb' : (2000 : Int) < n := by omega
    go_enter Try.func4, Try.ntmps4
    go_wp2_with fail
    refine (awake_any _).mono ?_
    rintro e w1 ⟨rfl, f1⟩
    go_wp2_with fail
    refine (new_ses w _ f1).mono ?_
    rintro e w2 ⟨b, rfl, s2⟩
    go_wp2_with fail
    go_ret
    exact ⟨rfl, s2.frame⟩
  · have hb' : ¬ (2000 : Int) < n := by omega
    have hl := reads_len hr
    go_enter Try.func4, Try.ntmps4
    go_wp2_with fail
    refine (awake_any _).mono ?_
    rintro e w1 ⟨rfl, f1⟩
    go_wp2_with fail
    refine (new_ses w _ f1).mono ?_
    rintro e w2 ⟨b, rfl, s2⟩
    go_wp2_with fail
    go_loopw [5, 6] (fun s i wr => ∃ k : Nat, i = .int .i64 k ∧ k ≤ n ∧ s = .string (str (dOut [] (l.take k))) ∧ Ses w wr b (dHeld [] (l.take k))) (fun _ i _ => n - (intOf i).toNat)
    case atStart => exact ⟨0, rfl, Nat.zero_le _, rfl, s2⟩
    case round =>
      obtain ⟨k, rfl, hk, rfl, hs⟩ := hrel
      have hz1 := out_size [] (l.take k) trivial
      rw [List.length_take] at hz1
      have hz1' : (str (dOut [] (l.take k))).size ≤ 6009 := by omega
      by_cases hlt : k < n
      · obtain ⟨x, hx⟩ : ∃ x, l[k]? = some x := ⟨l[k]'(by omega), List.getElem?_eq_getElem _⟩
        obtain ⟨e1, e2⟩ := take_step l [] hx
        have hone : (l.take (k + 1)).drop k = [x] := by
          have h3 := List.getElem?_eq_some_iff.1 hx
          rw [List.take_add_one, hx, List.drop_append_of_le_length (by rw [List.length_take]; omega), List.drop_of_length_le (by rw [List.length_take]; omega)]
          rfl
        have hrd := reads_drop (c := c) (k := k) (reads_take hr (k := k + 1) (by omega)) (by omega) (by omega)
        rw [hone, show k + 1 - k = 1 by omega] at hrd
        have hsm := fun W => run_slice_mid (P := Try.prog) (t := 22) (e := 5) (A := A) (n := n) (c := c) (i := k) (j := k + 1) Try.underlying22 (size := 1) (by kernel_rfl) (by omega) (by omega) hc W
        have hsh := hs.short
        have hz2 := out_size (dHeld [] (l.take k)) [x] hsh
        have hz2' : (str (dOut (dHeld [] (l.take k)) [x])).size ≤ 6009 := by simp at hz2; omega
        have hd1 : dOut (dHeld [] (l.take k)) [x] = (step (dHeld [] (l.take k)) x).1 := by simp [dOut]
        have hd2 : dHeld (dHeld [] (l.take k)) [x] = (step (dHeld [] (l.take k)) x).2 := by simp [dHeld]
        have HE := Lib.hid (And.intro e1 (And.intro e2 (And.intro hd1 hd2)))
        clear e1 e2 hd1 hd2 hone hx
        rw [show ((k + 1 : Nat) : Int) = (k : Int) + 1 by omega, show k + 1 - k = 1 by omega] at hsm
        go_wp2_with fail
        refine (write_ses w _ b _ hs (CutA A c k 1) 1 (c - k) [x] hrd (by omega)).mono ?_
        rintro e w3 ⟨rfl, s3⟩
        go_wp2_with fail
        go_roundw
        case rel =>
          refine ⟨k + 1, by go_num, by omega, ?_, ?_⟩
          · rw [HE.out.1, HE.out.2.2.1, str_append]
          · rw [HE.out.2.1, ← HE.out.2.2.2]
            exact s3
        case measure => simp [intOf]; omega
      · obtain rfl : k = n := by omega
        rw [List.take_of_length_le (by omega)] at hs hz1' ⊢
        have hz3 := clo_size (dHeld [] l)
        have hW : str (dOut [] l) ++ str (clo (dHeld [] l)) = str (W [] l) := by rw [W, str_append]
        have hfix := fixed_W l Held.nil
        have hww := hfix.W
        have hbv := fun (W : World) => run_bytes_of (P := Try.prog) (src := 9) (dst := 22) (e := 5) (str (Ytlgffgmfaejmeaa.W [] l)) Try.underlying9 Try.underlying22 Try.underlying5 W
        have hwl := W_len [] l trivial
        have hsz : (str (W [] l)).size = (W [] l).length := size_str _
        have hcmp := str_beq_self (str (W [] l))
        have hdw : decide (W [] (W [] l) = W [] l) = true := decide_eq_true hww
        have HD := Lib.hid (And.intro hww hdw)
        have hszb : (str (W [] l)).size ≤ 100000 := by rw [hsz]; simp at hwl; omega
        clear hww hdw hwl hsz
        have hcv : ∀ (W' : World), Fr Nil w W' → (convert 22 9 (.slice A k c)).run Try.prog W' = .ok (.string (str l)) W' := fun W' hf =>
          run_string_of (P := Try.prog) (src := 22) (dst := 9) (e := 5) (c := c) Try.underlying22 Try.underlying5 Try.underlying9 (hr.frAt (Nat.le_refl _) hf (fun _ _ h => h))
        have HCV := Lib.hid hcv
        clear hcv
        go_wp2_with fail
        refine (close_ses w _ b _ hs).mono ?_
        rintro e w3 ⟨rfl, s3⟩
        go_wp2_with fail
        refine (dwhole_any _ (w3.heap.size + 1) _ _ _ (W [] l) (bw_reads w3 (str (W [] l)) 5) (by rw [bw_size]; exact Nat.le_refl _) (by omega)).mono ?_
        rw [HD.out.1]
        rintro e w4 ⟨rfl, f4⟩
        have g4 := (s3.frame.trans (bw_fr w3 (str (W [] l)) 5)).trans f4
        go_wp2_with fail
        refine (dwhole_any _ w.heap.size A k c l (hr.frAt (Nat.le_refl _) g4 (fun _ _ h => h)) g4.size (by omega)).mono ?_
        rintro e w5 ⟨rfl, f5⟩
        have g5 := g4.trans f5
        go_wp2_with fail
        refine (dvalid_any _ (w5.heap.size + 1) _ _ _ (W [] l) (bw_reads w5 (str (W [] l)) 5) (by rw [bw_size]; exact Nat.le_refl _) (by omega)).mono ?_
        rw [HD.out.2]
        rintro e w6 ⟨rfl, f6⟩
        have g6 := (g5.trans (bw_fr w5 (str (W [] l)) 5)).trans f6
        go_wp2_with fail
        refine (dvalid_any _ w.heap.size A k c l (hr.frAt (Nat.le_refl _) g6 (fun _ _ h => h)) g6.size (by omega)).mono ?_
        rintro e w7 ⟨rfl, f7⟩
        have g7 := g6.trans f7
        have hcvx := HCV.out _ g7
        by_cases hv : W [] l = l
        · rw [decide_eq_true hv]
          have hcm2 : ((str (W [] l)).toList == (str l).toList) = true := by rw [hv]; exact str_beq_self _
          clear hv
          go_wp2_with fail
          go_ret
          exact ⟨rfl, g7⟩
        · rw [decide_eq_false hv]
          go_wp2_with fail
          go_ret
          exact ⟨rfl, g7⟩
end Go.Proofs.Ytlgffgmfaejmeaa
