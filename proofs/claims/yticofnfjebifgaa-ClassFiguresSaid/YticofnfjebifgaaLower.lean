/-
  class.Lower, cribbleref03.Lower, walked.
-/
import Derived.Test.YticofnfjebifgaaBts
import Derived.Test.YticofnfjebifgaaTrimP
namespace Go.Proofs.Yticofnfjebifgaa
open Go.RowKit

def upB (c : UInt8) : Bool := btw (c.toNat : Int) 65 90
def lwB (c : UInt8) : UInt8 := if upB c then c ||| 32 else c
def lower (l : List UInt8) : List UInt8 := l.map lwB
theorem lower_len (l : List UInt8) : (lower l).length = l.length := by simp [lower]
/-- the first k bytes are lowered -/
def lowK (l : List UInt8) (k : Nat) : List UInt8 := lower (l.take k) ++ l.drop k
theorem lowK_len (l : List UInt8) (k : Nat) : (lowK l k).length = l.length := by simp [lowK, lower_len]; omega
theorem lowK_zero (l : List UInt8) : lowK l 0 = l := by simp [lowK, lower]
theorem lowK_all (l : List UInt8) : lowK l l.length = lower l := by simp [lowK]
theorem lowK_at {l : List UInt8} {k : Nat} {c : UInt8} (h : l[k]? = some c) : (lowK l k)[k]? = some c := by
  have hk := (List.getElem?_eq_some_iff.1 h).1
  unfold lowK
  rw [List.getElem?_append_right (by rw [lower_len, List.length_take]; omega), lower_len, List.length_take, Nat.min_eq_left (by omega), Nat.sub_self, drop_at h]
  rfl
theorem lowK_set {l : List UInt8} {k : Nat} {c : UInt8} (h : l[k]? = some c) : (lowK l k).set k (lwB c) = lowK l (k + 1) := by
  have hk := (List.getElem?_eq_some_iff.1 h).1
  unfold lowK
  rw [List.set_append_right _ _ (by rw [lower_len, List.length_take]; omega), lower_len, List.length_take, Nat.min_eq_left (by omega), Nat.sub_self, drop_at h, take_at h]
  simp [lower]
theorem set_same {α : Type} {l : List α} {k : Nat} {c : α} (h : l[k]? = some c) : l.set k c = l := by
  obtain ⟨hk, rfl⟩ := List.getElem?_eq_some_iff.1 h
  exact List.set_getElem_self hk
theorem lowK_same {l : List UInt8} {k : Nat} {c : UInt8} (h : l[k]? = some c) (hu : upB c = false) : lowK l k = lowK l (k + 1) := by
  rw [← lowK_set h, lwB, hu, if_neg (by simp), set_same (lowK_at h)]

set_option maxHeartbeats 1000000 in
theorem lower_any (w : World) (s : ByteArray) (hn : s.size ≤ 1048576) :
    Calls Try.prog 11 #[.string s] w fun e w' => e = .returned (.string (str (lower (bs s)))) ∧ Fr Nil w w' := by
  have hcv := run_bytes_of (P := Try.prog) s Try.underlying9 Try.underlying32 Try.underlying5
  have hB := bts_new (P := Try.prog) w s 5
  have hF := bw_fr (P := Try.prog) w s 5
  have hsz := bw_size (P := Try.prog) w s 5
  have HS := Lib.hid (size_bs s)
  obtain ⟨W0, hW0⟩ : ∃ W0, BWorld Try.prog w s 5 = W0 := ⟨_, rfl⟩
  obtain ⟨cp, hcp⟩ : ∃ cp, grownCap w s.size 0 5 = cp := ⟨_, rfl⟩
  have hcv0 := hcv w
  rw [hW0, hcp] at hcv0
  rw [hW0] at hB hF hsz
  clear hcv hW0 hcp
  have HZ := Lib.hid hsz
  clear hsz
  go_enter Try.func11, Try.ntmps11
  go_wp2
  go_loopw [4, 5, 10] (fun _ _ i wr => ∃ k : Nat, k ≤ s.size ∧ i = .int .i64 k ∧ Bts wr w.heap.size 5 (lowK (bs s) k) ∧ Fr Nil w wr) (fun _ _ i _ => s.size - (intOf i).toNat)
  case atStart => exact ⟨0, Nat.zero_le _, rfl, by rw [lowK_zero]; exact hB, hF⟩
  case round =>
    obtain ⟨k, hk, rfl, hb, hf⟩ := hrel
    by_cases hlt : k < s.size
    · obtain ⟨c, hc⟩ := byte_at s hlt
      have hcell := hb.cell (lowK_at hc)
      have hfree := hb.free (j := k) (by rw [lowK_len, ← HS.out]; exact hlt)
      have hor := or32 c
      cases hu : upB c with
      | true =>
        have hb2 := hb.set_ (j := k) (by rw [lowK_len, ← HS.out]; exact hlt) (lwB c)
        rw [lowK_set hc, lwB, hu, if_pos rfl] at hb2
        unfold upB at hu
        clear hc
        go_wp2_with (refine (between_any _ _ _ _).mono ?_; rintro e w1 ⟨rfl, rfl⟩; rw [hu])
        go_roundw
        case rel => exact ⟨k + 1, by omega, by go_num, hb2, hf.setCell (p := ⟨w.heap.size, k, none⟩) (fun h => absurd h (Nat.lt_irrefl _)) _⟩
        case measure => simp [intOf]; omega
      | false =>
        rw [lowK_same hc hu] at hb
        unfold upB at hu
        clear hc
        go_wp2_with (refine (between_any _ _ _ _).mono ?_; rintro e w1 ⟨rfl, rfl⟩; rw [hu])
        go_roundw
        case rel => exact ⟨k + 1, by omega, by go_num, hb, hf⟩
        case measure => simp [intOf]; omega
    · obtain rfl : k = s.size := by omega
      have hrd := hb.reads
      rw [lowK_len, ← HS.out] at hrd
      have hst := run_string_of (P := Try.prog) (c := cp) Try.underlying32 Try.underlying5 Try.underlying9 hrd
      have HL := Lib.hid (show lowK (bs s) s.size = lower (bs s) by rw [HS.out, lowK_all])
      clear hrd
      go_wp2
      go_ret
      exact ⟨ret_str (by rw [HL.out]), hf⟩

theorem add32 (c : UInt8) (h : upB c = true) : (c.toNat : Int) + 32 = ((lwB c).toNat : Int) := by
  have hx := all_bytes (fun c => !upB c || decide (c.toNat + 32 = (lwB c).toNat)) (by decide +kernel) c
  simp only [h, Bool.not_true, Bool.false_or, decide_eq_true_eq] at hx
  omega

set_option maxHeartbeats 1000000 in
theorem rlower_any (w : World) (s : ByteArray) (hn : s.size ≤ 1048576) :
    Calls Try.prog 12 #[.string s] w fun e w' => e = .returned (.string (str (lower (bs s)))) ∧ Fr Nil w w' := by
  have hcv := run_bytes_of (P := Try.prog) s Try.underlying9 Try.underlying32 Try.underlying5
  have hB := bts_new (P := Try.prog) w s 5
  have hF := bw_fr (P := Try.prog) w s 5
  have hsz := bw_size (P := Try.prog) w s 5
  have HS := Lib.hid (size_bs s)
  obtain ⟨W0, hW0⟩ : ∃ W0, BWorld Try.prog w s 5 = W0 := ⟨_, rfl⟩
  obtain ⟨cp, hcp⟩ : ∃ cp, grownCap w s.size 0 5 = cp := ⟨_, rfl⟩
  have hcv0 := hcv w
  rw [hW0, hcp] at hcv0
  rw [hW0] at hB hF hsz
  clear hcv hW0 hcp
  have HZ := Lib.hid hsz
  clear hsz
  go_enter Try.func12, Try.ntmps12
  go_wp2
  go_loopw [4] (fun i wr => ∃ k : Nat, k ≤ s.size ∧ i = .int .i64 k ∧ Bts wr w.heap.size 5 (lowK (bs s) k) ∧ Fr Nil w wr) (fun i _ => s.size - (intOf i).toNat)
  case atStart => exact ⟨0, Nat.zero_le _, rfl, by rw [lowK_zero]; exact hB, hF⟩
  case round =>
    obtain ⟨k, hk, rfl, hb, hf⟩ := hrel
    by_cases hlt : k < s.size
    · obtain ⟨c, hc⟩ := byte_at s hlt
      have hcell := hb.cell (lowK_at hc)
      have hfree := hb.free (j := k) (by rw [lowK_len, ← HS.out]; exact hlt)
      cases hu : upB c with
      | true =>
        have hadd := add32 c hu
        have hb2 := hb.set_ (j := k) (by rw [lowK_len, ← HS.out]; exact hlt) (lwB c)
        rw [lowK_set hc] at hb2
        have hu' : (65 : Int) ≤ c.toNat ∧ (c.toNat : Int) ≤ 90 := by unfold upB btw at hu; simpa using hu
        obtain ⟨h65, h90⟩ := hu'
        have HA := Lib.hid hadd
        clear hc hu hadd
        go_wp2
        rw [HA.out]
        go_roundw
        case rel => exact ⟨k + 1, by omega, by go_num, hb2, hf.setCell (p := ⟨w.heap.size, k, none⟩) (fun h => absurd h (Nat.lt_irrefl _)) _⟩
        case measure => simp [intOf]; omega
      | false =>
        rw [lowK_same hc hu] at hb
        have hu' : ¬ ((65 : Int) ≤ c.toNat ∧ (c.toNat : Int) ≤ 90) := by unfold upB btw at hu; simpa using hu
        have HU := Lib.hid hu'
        clear hc hu hu'
        go_wp2
        all_goals first
          | (exact absurd ⟨by assumption, by assumption⟩ HU.out)
          | (go_roundw
             case rel => exact ⟨k + 1, by omega, by go_num, hb, hf⟩
             case measure => simp [intOf]; omega)
    · obtain rfl : k = s.size := by omega
      have hrd := hb.reads
      rw [lowK_len, ← HS.out] at hrd
      have hst := run_string_of (P := Try.prog) (c := cp) Try.underlying32 Try.underlying5 Try.underlying9 hrd
      have HL := Lib.hid (show lowK (bs s) s.size = lower (bs s) by rw [HS.out, lowK_all])
      clear hrd
      go_wp2
      go_ret
      exact ⟨ret_str (by rw [HL.out]), hf⟩
end Go.Proofs.Yticofnfjebifgaa
