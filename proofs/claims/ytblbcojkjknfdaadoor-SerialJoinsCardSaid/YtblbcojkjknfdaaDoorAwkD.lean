/-
  The laws of chapter 22: awake, SerialAlls, walked.
-/
import Derived.Test.YtblbcojkjknfdaaDoorSAll
import Derived.Test.YtblbcojkjknfdaaDoorPlain
import Derived.Deep.RegionLaw
namespace Go.Proofs.YtblbcojkjknfdaaDoor
open Go.RowKit

def awakeTok (g : Nat) : Tok := ⟨2, ⟨#[97]⟩, ⟨#[]⟩, some ⟨g, 0, none⟩, 1, 1, [(⟨#[104, 114, 101, 102]⟩, ⟨#[120, 34]⟩)], false⟩
theorem awake_ok (w : World) : TokOk (w.alloc (.cells #[.string ⟨#[104, 114, 101, 102]⟩, .string ⟨#[120, 34]⟩] 33)) (w.heap.size + 1) (awakeTok w.heap.size) := by
  have h := (Own.lit (size := 2) (e := 33) w #[.string ⟨#[104, 114, 101, 102]⟩, .string ⟨#[120, 34]⟩] 1 (by unfold maxLen; omega) rfl).reads
  rw [World.size_alloc] at h
  exact ⟨rfl, ⟨Nat.le_refl _, by show 1 ≤ maxLen; unfold maxLen; omega⟩, h, ⟨(by decide : (-9223372036854775808 : Int) ≤ 2), (by decide : (2 : Int) ≤ 9223372036854775807)⟩, (by decide : (1 : Nat) ≤ 140737488351232), (by decide : (0 : Nat) ≤ 140737488351232), by
    intro a ha
    rw [List.mem_singleton.1 ha]
    exact ⟨by decide, by decide⟩⟩
theorem awake_small (g : Nat) : SmallTok (awakeTok g) := ⟨by show (1 : Nat) ≤ 3000; decide, by show (0 : Nat) ≤ 3000; decide, by
  intro a ha
  rw [List.mem_singleton.1 ha]
  exact ⟨by decide, by decide⟩, by show (1 : Nat) ≤ 101; decide⟩
theorem awake_one (g : Nat) : str (oneB (awakeTok g)) = ⟨#[60, 97, 32, 104, 114, 101, 102, 61, 34, 120, 38, 113, 117, 111, 116, 59, 34, 62]⟩ := by
  show str (oneB ⟨2, ⟨#[97]⟩, ⟨#[]⟩, none, 1, 1, [(⟨#[104, 114, 101, 102]⟩, ⟨#[120, 34]⟩)], false⟩) = _
  decide +kernel
theorem end_ok (W : World) (B : Nat) : TokOk W B ⟨3, ⟨#[97]⟩, ⟨#[]⟩, none, 0, 0, [], false⟩ := ⟨rfl, ⟨Nat.le_refl _, Nat.zero_le _⟩, Reads.none_, ⟨by decide, by decide⟩, by decide, by decide, by simp⟩
theorem end_plain : plainB ⟨3, ⟨#[97]⟩, ⟨#[]⟩, none, 0, 0, [], false⟩ = true := by decide +kernel

set_option maxRecDepth 100000 in
set_option maxHeartbeats 2000000 in
theorem awake_any (w : World) : Calls Tryd.prog 4 #[] w fun e w' => e = .returned (.bool true) ∧ Fr Nil w w' := by
  have h1 := one_any (w.alloc (.cells #[.string ⟨#[104, 114, 101, 102]⟩, .string ⟨#[120, 34]⟩] 33)) (w.heap.size + 1) (awakeTok w.heap.size) (awake_ok w) (by rw [World.size_alloc]; exact Nat.le_refl _) (awake_small _)
  rw [awake_one] at h1
  change Calls Tryd.prog 6 #[.agg #[.int .i64 2, .string ⟨#[97]⟩, .string ⟨#[]⟩, .slice (some ⟨w.heap.size, 0, none⟩) 1 1, .bool false]] _ _ at h1
  have h2 : ∀ W, Calls Tryd.prog 9 #[.agg #[.int .i64 3, .string ⟨#[97]⟩, .string ⟨#[]⟩, .slice none 0 0, .bool false]] W fun e w' => e = .returned (.bool true) ∧ Fr Nil W w' := fun W => by
    have := plain_any W 0 ⟨3, ⟨#[97]⟩, ⟨#[]⟩, none, 0, 0, [], false⟩ (end_ok W 0) (Nat.zero_le _) (by decide)
    rw [end_plain] at this
    exact this
  have H1 := Lib.hid h1
  have H2 := Lib.hid h2
  clear h1 h2
  go_enter Tryd.func4, Tryd.ntmps4
  go_wp2_with fail
  refine H1.out.mono ?_
  rintro e w1 ⟨rfl, f1⟩
  go_wp2_with fail
  refine (H2.out _).mono ?_
  rintro e w2 ⟨rfl, f2⟩
  go_wp2_with fail
  go_ret
  exact ⟨rfl, (((Fr.rfl' _ w).alloc _).trans f1).trans f2⟩

end Go.Proofs.YtblbcojkjknfdaaDoor
