/-
  The laws of chapter 1, walked: awake, DecodeWholes.
-/
import Derived.Test.YtlgffgmfaejmeaaRefW
import Derived.Lib.SlBytesConst
namespace Go.Proofs.Ytlgffgmfaejmeaa
open Go.RowKit

theorem w_a : W [] [255, 65] = [239, 191, 189, 65] := by decide
theorem w_b : W [] [195, 164] = [195, 164] := by decide
theorem w_c : W [] [226, 130] = [239, 191, 189] := by decide
theorem lit_reads (w : World) (a b : UInt8) : Reads (w.alloc (.cells #[.int .u8 (a.toNat : Int), .int .u8 (b.toNat : Int)] 5)) (w.heap.size + 1) 1 (some ⟨w.heap.size, 0, none⟩) 2 (cellsOf [a, b]) := by
  have := (Own.lit (size := 1) (e := 5) w #[.int .u8 (a.toNat : Int), .int .u8 (b.toNat : Int)] 2 (by unfold maxLen; omega) rfl).reads
  have := this.more (B' := w.heap.size + 1) (by simp)
  exact this

theorem lit_reads_mark (w : World) (a b : UInt8) : Reads (w.alloc (.cells #[.int .u8 (a.toNat : Int), .int .u8 (b.toNat : Int)] 5 (2, 3))) (w.heap.size + 1) 1 (some ⟨w.heap.size, 0, none⟩) 2 (cellsOf [a, b]) := by
  refine ⟨rfl, fun _ => ⟨_, rfl, by simp, fun j u hu => ?_⟩⟩
  rw [Addr.add_lit, Nat.zero_add, World.cell?_alloc_mark]
  rw [← hu]
  rcases j with _ | _ | j <;> rfl

set_option maxHeartbeats 800000 in
theorem awake_any (w : World) : Calls Try.prog 10 #[] w fun e w' => e = .returned (.bool true) ∧ Fr Nil w w' := by
  have h1 := Lib.hid (fun (W : World) => dwhole_any (W.alloc (.cells #[.int .u8 255, .int .u8 65] 5)) (W.heap.size + 1) (some ⟨W.heap.size, 0, none⟩) 2 2 [255, 65] (lit_reads W 255 65) (by simp) (by omega))
  have h2 := Lib.hid (fun (W : World) => dvalid_any (W.alloc (.cells #[.int .u8 195, .int .u8 164] 5 (2, 3))) (W.heap.size + 1) (some ⟨W.heap.size, 0, none⟩) 2 2 [195, 164] (lit_reads_mark W 195 164) (by simp) (by omega))
  have h3 := Lib.hid (fun (W : World) => dwhole_any (W.alloc (.cells #[.int .u8 226, .int .u8 130] 5)) (W.heap.size + 1) (some ⟨W.heap.size, 0, none⟩) 2 2 [226, 130] (lit_reads W 226 130) (by simp) (by omega))
  have hb : decide (W [] [195, 164] = [195, 164]) = true := decide_eq_true w_b
  rw [hb] at h2
  rw [w_a] at h1
  rw [w_c] at h3
  have e1 := str_beq_self (str [239, 191, 189, 65])
  have e2 := str_beq_self (str [239, 191, 189])
  have hcc : ∀ W : World, (convert 22 22 (.slice (some ⟨W.heap.size, 0, none⟩) 2 2)).run Try.prog (W.alloc (.cells #[.int .u8 195, .int .u8 164] 5)) = .ok (.slice (some ⟨W.heap.size, 0, none⟩) 2 2) (W.alloc (.cells #[.int .u8 195, .int .u8 164] 5 (2, 3))) := fun W => Lib.run_convert_bytes_const W 22 5 _ 2 2 Try.underlying22 Try.underlying5
  have e3 : ((str [239, 191, 189]).toList == [239, 191, 189]) = true := by rw [Lib.toList_data]; rfl
  have e4 : ((str [239, 191, 189, 65]).toList == [239, 191, 189, 65]) = true := by rw [Lib.toList_data]; rfl
  go_enter Try.func10, Try.ntmps10
  go_wp2_with fail
  refine (h1.out _).mono ?_
  rintro e w1 ⟨rfl, f1⟩
  go_wp2_with fail
  refine (h2.out _).mono ?_
  rintro e w2 ⟨rfl, f2⟩
  go_wp2_with fail
  refine (h3.out _).mono ?_
  rintro e w3 ⟨rfl, f3⟩
  go_wp2_with fail
  go_ret
  exact ⟨rfl, ((((((Fr.rfl' Nil w).alloc _).trans f1).alloc _).trans f2).alloc _).trans f3⟩

theorem wholes_any (w : World) (A : Option Addr) (n c : Nat) (l : List UInt8) (hr : Reads w w.heap.size 1 A n (cellsOf l)) (hc : n ≤ c) :
    Calls Try.prog 3 #[.slice A n c] w fun e w' => e = .returned (.bool true) ∧ Fr Nil w w' := by
  by_cases hb : 5000 < n
  · have hb' : (5000 : Int) < n := by omega
    go_enter Try.func3, Try.ntmps3
    go_wp2_with fail
    refine (awake_any _).mono ?_
    rintro e w1 ⟨rfl, f1⟩
    go_wp2_with fail
    go_ret
    exact ⟨rfl, f1⟩
  · have hb' : ¬ (5000 : Int) < n := by omega
    have he := str_beq_self (str (W [] l))
    go_enter Try.func3, Try.ntmps3
    go_wp2_with fail
    refine (awake_any _).mono ?_
    rintro e w1 ⟨rfl, f1⟩
    have g1 := hr.frAt (Nat.le_refl _) f1 (fun _ _ h => h)
    go_wp2_with fail
    refine (dwhole_any _ _ A n c l g1 f1.size (by omega)).mono ?_
    rintro e w2 ⟨rfl, f2⟩
    have h2 := f1.trans f2
    have g2 := hr.frAt (Nat.le_refl _) h2 (fun _ _ h => h)
    go_wp2_with fail
    refine (rwhole_any _ _ A n c l g2 h2.size hc (by omega)).mono ?_
    rintro e w3 ⟨rfl, f3⟩
    have h3 := h2.trans f3
    have g3 := hr.frAt (Nat.le_refl _) h3 (fun _ _ h => h)
    go_wp2_with fail
    refine (dvalid_any _ _ A n c l g3 h3.size (by omega)).mono ?_
    rintro e w4 ⟨rfl, f4⟩
    have h4 := h3.trans f4
    have g4 := hr.frAt (Nat.le_refl _) h4 (fun _ _ h => h)
    go_wp2_with fail
    refine (rvalid_any _ _ A n c l g4 hc (by omega)).mono ?_
    rintro e w5 ⟨rfl, m, rfl⟩
    go_wp2_with fail
    go_ret
    exact ⟨rfl, h4.drewN m⟩
end Go.Proofs.Ytlgffgmfaejmeaa
