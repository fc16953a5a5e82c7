/-
  The law ClassFigures, walked.
-/
import Derived.Test.YticofnfjebifgaaLaw
namespace Go.Proofs.Yticofnfjebifgaa
open Go.RowKit

theorem foldl_val (b a : Nat) (l : List UInt8) : l.foldl (vstep b) (some a) = (val b l).map fun v => a * b ^ l.length + v := by
  generalize hn : l.length = n
  induction n generalizing l with
  | zero =>
    obtain rfl : l = [] := List.eq_nil_of_length_eq_zero hn
    simp [val]
  | succ n ih =>
    rcases snoc_cases l with rfl | ⟨m, c, rfl⟩
    · simp at hn
    · have hm : m.length = n := by simpa using hn
      rw [val, List.foldl_append, List.foldl_append, ih m hm, List.foldl_cons, List.foldl_nil, List.foldl_cons, List.foldl_nil]
      show vstep b _ c = (vstep b (val b m) c).map _
      cases val b m with
      | none => rfl
      | some v =>
        cases hd : dv b c with
        | none => simp [vstep, hd]
        | some d =>
          simp [vstep, hd]
          rw [Nat.pow_succ, Nat.add_mul, Nat.mul_assoc, Nat.add_assoc]
theorem val_cons {b d v : Nat} {c : UInt8} {l : List UInt8} (hd : dv b c = some d) (h : val b l = some v) : val b (c :: l) = some (d * b ^ l.length + v) := by
  rw [val, List.foldl_cons, show vstep b (some 0) c = some d by simp [vstep, hd], foldl_val, h]
  rfl
theorem val_zeros {v : Nat} {l : List UInt8} (h : val 10 l = some v) : val 10 ([48, 48, 48] ++ l) = some v := by
  have h0 : dv 10 48 = some 0 := by decide +kernel
  have h1 := val_cons h0 h
  have h2 := val_cons h0 h1
  have h3 := val_cons h0 h2
  simpa using h3
theorem val_x (l : List UInt8) : val 16 (l ++ [120]) = none := val_none (k := l.length) (c := 120) (by simp) (by decide +kernel)
/-- the figure of a number below 10 -/
def figB (k : Nat) : UInt8 := UInt8.ofNat (48 + k % 10)
theorem figB_nat (k : Nat) : ((figB k).toNat : Int) = 48 + (k : Int) % 10 := by
  unfold figB
  rw [UInt8.toNat_ofNat_of_lt' (by show 48 + k % 10 < 256; omega)]
  omega
theorem figB_dv (k : Nat) : dv 10 (figB k) = some (k % 10) := by
  have h := figB_nat k
  have hd : dgB (figB k) = true := by unfold dgB; simp; omega
  rw [dv_digit hd]
  congr 1
  omega

/-- at the head of a round: l are the last figures of n, k is what is ahead of them -/
def Figs (n k : Nat) (l : List UInt8) : Prop := ∃ v, val 10 l = some v ∧ n = k * 10 ^ l.length + v ∧ k < 10 ^ (20 - l.length) ∧ l.length ≤ 20
theorem figs_start (n : Nat) (h : n ≤ 1099511627776) : Figs n n [] := ⟨0, rfl, by simp, by simp; omega, by simp⟩
theorem figs_step {n k : Nat} {l : List UInt8} (h : Figs n k l) (hk : 0 < k ∨ l = []) : Figs n (k / 10) (figB k :: l) := by
  obtain ⟨v, h1, h2, h3, h4⟩ := h
  have hlen : l.length < 20 := by
    rcases hk with hk | rfl
    · rcases Nat.lt_or_ge l.length 20 with h | h
      · exact h
      · rw [show 20 - l.length = 0 by omega] at h3
        simp at h3
        omega
    · simp
  refine ⟨_, val_cons (figB_dv k) h1, ?_, ?_, by simp; omega⟩
  · rw [List.length_cons, Nat.pow_succ, h2]
    have h5 := Nat.div_add_mod k 10
    have h6 : k * 10 ^ l.length = (10 * (k / 10) + k % 10) * 10 ^ l.length := by rw [h5]
    rw [h6, Nat.add_mul]
    rw [Nat.mul_comm 10 (k / 10), Nat.mul_assoc, Nat.mul_comm 10 (10 ^ l.length), Nat.add_assoc]
  · rw [List.length_cons]
    have h7 : 20 - l.length = (20 - (l.length + 1)) + 1 := by omega
    rw [h7, Nat.pow_succ] at h3
    omega

theorem run_figB (k : Nat) (W : World) : (convert 32 9 (.slice (some ⟨W.heap.size, 0, none⟩) 1 1)).run Try.prog (W.alloc (.cells #[.int .u8 (48 + (k : Int) % 10)] 5)) = .ok (.string (str [figB k])) (W.alloc (.cells #[.int .u8 (48 + (k : Int) % 10)] 5)) := by
  have h := run_string_of (P := Try.prog) (c := 1) Try.underlying32 Try.underlying5 Try.underlying9 (W := W.alloc (.cells #[.int .u8 ((figB k).toNat : Int)] 5)) (l := [figB k]) (A := some ⟨W.heap.size, 0, none⟩) (n := 1) (reads_new W (.int .u8 ((figB k).toNat : Int)) 5)
  rwa [figB_nat] at h

theorem app_size (a b : ByteArray) : (a ++ b).size = a.size + b.size := by simp
def noStr : Value → Nat
  | .string s => if s.size = 0 then 1 else 0
  | _ => 0
theorem noStr_app (c : UInt8) (l : List UInt8) : noStr (.string (str [c] ++ str l)) = 0 := by
  rw [← str_append]
  have h : ¬ (str ([c] ++ l)).size = 0 := by rw [size_str]; simp
  show (if (str ([c] ++ l)).size = 0 then 1 else 0) = 0
  rw [if_neg h]
theorem figs_end {N : Nat} {l : List UInt8} (h : Figs N 0 l) : val 10 l = some N := by
  obtain ⟨v, h1, h2, _⟩ := h
  rw [h1, h2]
  simp

set_option maxRecDepth 100000 in
set_option maxHeartbeats 4000000 in
theorem figures_any (w : World) (n most : Int) : Calls Try.prog 8 #[.int .i64 n, .int .i64 most] w fun e w' => e = .returned (.bool true) ∧ Fr Nil w w' := by
  by_cases hb : n < 0 ∨ 1099511627776 < n ∨ most < 0 ∨ 1125899906842624 < most
  · go_enter Try.func8, Try.ntmps8
    go_wp2_with fail
    refine (awake_any _).mono ?_
    rintro e w1 ⟨rfl, f1⟩
    rcases hb with hb | hb | hb | hb
    all_goals
      go_wp2_with fail
      all_goals first
        | (go_ret; exact ⟨rfl, f1⟩)
        | (exfalso; omega)
  · obtain ⟨N, rfl⟩ : ∃ N : Nat, n = N := ⟨n.toNat, by omega⟩
    obtain ⟨M, rfl⟩ : ∃ M : Nat, most = M := ⟨most.toNat, by omega⟩
    have n1 : ¬ (N : Int) < 0 := by omega
    have n2 : ¬ (1099511627776 : Int) < N := by omega
    have n3 : ¬ (M : Int) < 0 := by omega
    have n4 : ¬ (1125899906842624 : Int) < M := by omega
    have HN := Lib.hid (show N ≤ 1099511627776 by omega)
    have HM := Lib.hid (show M ≤ 1125899906842624 by omega)
    clear hb
    go_enter Try.func8, Try.ntmps8
    go_wp2_with fail
    refine (awake_any _).mono ?_
    rintro e w1 ⟨rfl, f1⟩
    go_wp2_with fail
    go_loopw [6, 7] (fun t i wr => ∃ (k : Nat) (l : List UInt8), i = .int .i64 k ∧ t = .string (str l) ∧ Figs N k l ∧ k ≤ N ∧ Fr Nil w wr) (fun t i _ => (intOf i).toNat + noStr t)
    case atStart => exact ⟨N, [], rfl, rfl, figs_start N HN.out, Nat.le_refl _, f1⟩
    case round =>
      obtain ⟨k, l, rfl, rfl, hf, hkN, hfr⟩ := hrel
      have HF := Lib.hid hf
      have hll : (str l).size ≤ 20 := by obtain ⟨v, _, _, _, h4⟩ := hf; rw [size_str]; exact h4
      have hkk : k ≤ 1099511627776 := Nat.le_trans hkN HN.out
      clear hf
      by_cases hgo : 0 < k ∨ l = []
      · have HS := Lib.hid (figs_step HF.out hgo)
        have h1 := run_figB k
        have hz1 : (str [figB k]).size ≤ 1 := by rw [size_str]; simp
        have HMs := Lib.hid (show k / 10 + 0 < k + noStr (.string (str l)) by
          rcases hgo with h | rfl
          · omega
          · show k / 10 + 0 < k + 1
            omega)
        have hwalk : ((0 : Int) < k) ∨ (¬ (0 : Int) < k ∧ (str l).size = 0) := by
          by_cases hk0 : 0 < k
          · exact .inl (by omega)
          · refine .inr ⟨by omega, ?_⟩
            rcases hgo with h | rfl
            · omega
            · rfl
        clear hgo
        rcases hwalk with hk0 | ⟨hk0, hs0⟩
        · go_wp2_with fail
          go_roundw
          case rel => exact ⟨k / 10, figB k :: l, intv (by omega), by rw [← str_append]; rfl, HS.out, by omega, hfr.alloc _⟩
          case measure =>
            rw [noStr_app]
            have := HMs.out
            simp only [intOf] at *
            omega
        · obtain ⟨e1, e2, e3⟩ := empty_of hs0
          obtain rfl : k = 0 := by omega
          have h2 : ∀ W : World, (convert 32 9 (.slice (some ⟨W.heap.size, 0, none⟩) 1 1)).run Try.prog (W.alloc (.cells #[.int .u8 48] 5)) = .ok (.string (str [figB 0])) (W.alloc (.cells #[.int .u8 48] 5)) := fun W => run_figB 0 W
          clear hs0 h1
          go_wp2_with fail
          go_roundw
          case rel => exact ⟨0 / 10, figB 0 :: l, intv (by omega), by rw [← str_append]; rfl, HS.out, by omega, hfr.alloc _⟩
          case measure =>
            rw [noStr_app]
            have := HMs.out
            simp only [intOf] at *
            omega
      · have hk0 : ¬ (0 : Int) < k := by omega
        have hne : l ≠ [] := fun e => hgo (.inr e)
        obtain rfl : k = 0 := by omega
        obtain ⟨e1, e2, e3⟩ := full_of (t := str l) (by rw [size_str]; intro h; exact hne (List.eq_nil_of_length_eq_zero h))
        have hv := figs_end HF.out
        have hm : max (M : Int) 0 = M := by omega
        have b1 : numR (bs (str l)) 10 M = (min (N : Int) M, true) := by
          rw [bs_str]
          exact (numR_some (b := 10) (.inl rfl) hne (by unfold big; have := HM.out; omega) hv).trans (by rw [hm])
        have b2 : numR (bs ((⟨#[48, 48, 48]⟩ : ByteArray) ++ str l)) 10 M = (min (N : Int) M, true) := by
          rw [bs_append, bs_str]
          exact (numR_some (b := 10) (l := [48, 48, 48] ++ l) (.inl rfl) (by simp) (by unfold big; have := HM.out; omega) (val_zeros hv)).trans (by rw [hm])
        have b3 : numR (bs (str l ++ (⟨#[120]⟩ : ByteArray))) 16 M = (0, false) := by
          rw [bs_append, bs_str]
          exact numR_none (b := 16) (val_x l)
        have c1 := fun W => number_any W (str l) 10 M (by omega)
        have c2 := fun W => number_any W ((⟨#[48, 48, 48]⟩ : ByteArray) ++ str l) 10 M (by rw [app_size]; show 3 + _ ≤ _; omega)
        have c3 := fun W => number_any W (str l ++ (⟨#[120]⟩ : ByteArray)) 16 M (by rw [app_size]; show _ + 1 ≤ _; omega)
        rw [b1] at c1
        rw [b2] at c2
        rw [b3] at c3
        clear b1 b2 b3 hm hv hne hgo
        by_cases hcmp : M < N
        · have hcmp' : (M : Int) < N := by omega
          rw [show min (N : Int) M = M by omega] at c1 c2
          have C1 := Lib.hid c1
          have C2 := Lib.hid c2
          have C3 := Lib.hid c3
          clear c1 c2 c3
          go_wp2_with fail
          refine (C1.out _).mono ?_
          rintro e w2 ⟨rfl, f2⟩
          go_wp2_with fail
          refine (C2.out _).mono ?_
          rintro e w3 ⟨rfl, f3⟩
          go_wp2_with fail
          refine (C3.out _).mono ?_
          rintro e w4 ⟨rfl, f4⟩
          go_wp2_with fail
          go_ret
          exact ⟨rfl, ((hfr.trans f2).trans f3).trans f4⟩
        · have hcmp' : ¬ (M : Int) < N := by omega
          rw [show min (N : Int) M = N by omega] at c1 c2
          have C1 := Lib.hid c1
          have C2 := Lib.hid c2
          have C3 := Lib.hid c3
          clear c1 c2 c3
          go_wp2_with fail
          refine (C1.out _).mono ?_
          rintro e w2 ⟨rfl, f2⟩
          go_wp2_with fail
          refine (C2.out _).mono ?_
          rintro e w3 ⟨rfl, f3⟩
          go_wp2_with fail
          refine (C3.out _).mono ?_
          rintro e w4 ⟨rfl, f4⟩
          go_wp2_with fail
          go_ret
          exact ⟨rfl, ((hfr.trans f2).trans f3).trans f4⟩
end Go.Proofs.Yticofnfjebifgaa
