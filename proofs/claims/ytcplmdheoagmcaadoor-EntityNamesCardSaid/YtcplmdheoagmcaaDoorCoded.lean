/-
  entity.Coded and its reference, walked.
-/
import Derived.Test.YtcplmdheoagmcaaDoorNamed
import Derived.Lib.LaidTab
namespace Go.Proofs.YtcplmdheoagmcaaDoor
open Go.RowKit

def oldL : List Int := [8364, 129, 8218, 402, 8222, 8230, 8224, 8225, 710, 8240, 352, 8249, 338, 141, 381, 143, 144, 8216, 8217, 8220, 8221, 8226, 8211, 8212, 732, 8482, 353, 8250, 339, 157, 382, 376]
/-- the rune of a number -/
def codedP (x : Int) : Int :=
  if x ≤ 0 ∨ 1114111 < x ∨ (55296 ≤ x ∧ x ≤ 57343) then 65533 else if 128 ≤ x ∧ x ≤ 159 then oldL.getD (x - 128).toNat 0 else x
/-- the table as it was laid -/
def Old (w : World) : Prop := 0 < w.heap.size ∧ ∀ i, i < 32 → w.cell? ⟨0, i, none⟩ = some (.int .i32 (oldL.getD i 0))
theorem Old.fr {w w' : World} (h : Old w) (hf : Fr Nil w w') : Old w' := ⟨Nat.lt_of_lt_of_le h.1 hf.size, fun i hi => by
  rw [hf.cell h.1 fun x => x.elim]
  exact h.2 i hi⟩

set_option maxRecDepth 100000 in
theorem run_old (w : World) (m : Nat) (hm : m < 32) : (Instr.index 60 (.agg #[.int .i32 8364, .int .i32 129, .int .i32 8218, .int .i32 402, .int .i32 8222, .int .i32 8230, .int .i32 8224, .int .i32 8225, .int .i32 710, .int .i32 8240, .int .i32 352, .int .i32 8249, .int .i32 338, .int .i32 141, .int .i32 381, .int .i32 143, .int .i32 144, .int .i32 8216, .int .i32 8217, .int .i32 8220, .int .i32 8221, .int .i32 8226, .int .i32 8211, .int .i32 8212, .int .i32 732, .int .i32 8482, .int .i32 353, .int .i32 8250, .int .i32 339, .int .i32 157, .int .i32 382, .int .i32 376]) (.int .i64 m)).run Tryd.prog w = .ok (.int .i32 (oldL.getD m 0)) w := by
  have h0 : (#[.int .i32 8364, .int .i32 129, .int .i32 8218, .int .i32 402, .int .i32 8222, .int .i32 8230, .int .i32 8224, .int .i32 8225, .int .i32 710, .int .i32 8240, .int .i32 352, .int .i32 8249, .int .i32 338, .int .i32 141, .int .i32 381, .int .i32 143, .int .i32 144, .int .i32 8216, .int .i32 8217, .int .i32 8220, .int .i32 8221, .int .i32 8226, .int .i32 8211, .int .i32 8212, .int .i32 732, .int .i32 8482, .int .i32 353, .int .i32 8250, .int .i32 339, .int .i32 157, .int .i32 382, .int .i32 376] : Array Value) = (oldL.map fun z => Value.int .i32 z).toArray := rfl
  have hz : (Go.sizeOf 21).run Tryd.prog w = .ok 1 w := Tryd.sizeOf21 w
  have ha : (Go.isAgg 21).run Tryd.prog w = .ok false w := Tryd.isAgg21 w
  rw [h0]
  have hn : 0 ≤ (m : Int) ∧ (m : Int) < 32 := by omega
  simp [Instr.index, run_underlying Tryd.underlying60, asIntOf, hn, hz, ha, hm, go_sem]
  rw [List.getElem?_eq_getElem (show m < oldL.length from hm)]
  rfl
set_option maxRecDepth 100000 in
set_option maxHeartbeats 2000000 in
theorem coded_0 (w : World) (x : Int) (hx : x ≤ 0) : Calls Tryd.prog 15 #[.int .i64 x] w fun e w' => e = .returned (.int .i32 (codedP x)) ∧ w = w' := by
  have p0 : decide (x ≤ 0) = true := decide_eq_true (by omega)
  have p1 : decide (1114111 < x) = false := decide_eq_false (by omega)
  have p2 : decide (55296 ≤ x) = false := decide_eq_false (by omega)
  have p3 : decide (x ≤ 57343) = true := decide_eq_true (by omega)
  have p4 : decide (128 ≤ x) = false := decide_eq_false (by omega)
  have p5 : decide (x ≤ 159) = true := decide_eq_true (by omega)
  have hc : codedP x = 65533 := by
    unfold codedP
    rw [if_pos (by omega)]
  rw [hc]
  clear hc hx
  go_enter Tryd.func15, Tryd.ntmps15
  go_wp2
  go_ret
  exact ⟨rfl, rfl⟩
set_option maxRecDepth 100000 in
set_option maxHeartbeats 2000000 in
theorem coded_1 (w : World) (x : Int) (hx : 0 < x ∧ x < 128) : Calls Tryd.prog 15 #[.int .i64 x] w fun e w' => e = .returned (.int .i32 (codedP x)) ∧ w = w' := by
  have p0 : decide (x ≤ 0) = false := decide_eq_false (by omega)
  have p1 : decide (1114111 < x) = false := decide_eq_false (by omega)
  have p2 : decide (55296 ≤ x) = false := decide_eq_false (by omega)
  have p3 : decide (x ≤ 57343) = true := decide_eq_true (by omega)
  have p4 : decide (128 ≤ x) = false := decide_eq_false (by omega)
  have p5 : decide (x ≤ 159) = true := decide_eq_true (by omega)
  have hc : codedP x = x := by
    unfold codedP
    rw [if_neg (by omega), if_neg (by omega)]
  have hw : IntKind.i32.wrap x = x := by simp [IntKind.wrap, IntKind.bits, IntKind.signed]; omega
  rw [hc]
  clear hc hx
  go_enter Tryd.func15, Tryd.ntmps15
  go_wp2
  go_ret
  exact ⟨rfl, rfl⟩
set_option maxRecDepth 100000 in
set_option maxHeartbeats 2000000 in
theorem coded_2 (w : World) (x : Int) (hx : 128 ≤ x ∧ x ≤ 159) (ho : Old w) : Calls Tryd.prog 15 #[.int .i64 x] w fun e w' => e = .returned (.int .i32 (codedP x)) ∧ w = w' := by
  have p0 : decide (x ≤ 0) = false := decide_eq_false (by omega)
  have p1 : decide (1114111 < x) = false := decide_eq_false (by omega)
  have p2 : decide (55296 ≤ x) = false := decide_eq_false (by omega)
  have p3 : decide (x ≤ 57343) = true := decide_eq_true (by omega)
  have p4 : decide (128 ≤ x) = true := decide_eq_true (by omega)
  have p5 : decide (x ≤ 159) = true := decide_eq_true (by omega)
  obtain ⟨m, rfl⟩ : ∃ m : Nat, x = 128 + m := ⟨(x - 128).toNat, by omega⟩
  have hm : m < 32 := by omega
  have e0 : (128 + (m : Int)) - 128 = m := by omega
  have hc : codedP (128 + m) = oldL.getD m 0 := by
    unfold codedP
    rw [if_neg (by omega), if_pos (by omega), e0]
    rfl
  have k0 := ho.2 m hm
  rw [hc]
  generalize oldL.getD m 0 = r at k0
  clear hc ho
  have hw : wrap64 (128 + (m : Int) - 128) = m := by rw [e0]; unfold wrap64; omega
  clear hx
  go_enter Tryd.func15, Tryd.ntmps15
  go_wp2
  go_ret
  exact ⟨rfl, rfl⟩
set_option maxRecDepth 100000 in
set_option maxHeartbeats 2000000 in
theorem coded_3 (w : World) (x : Int) (hx : 159 < x ∧ x < 55296) : Calls Tryd.prog 15 #[.int .i64 x] w fun e w' => e = .returned (.int .i32 (codedP x)) ∧ w = w' := by
  have p0 : decide (x ≤ 0) = false := decide_eq_false (by omega)
  have p1 : decide (1114111 < x) = false := decide_eq_false (by omega)
  have p2 : decide (55296 ≤ x) = false := decide_eq_false (by omega)
  have p3 : decide (x ≤ 57343) = true := decide_eq_true (by omega)
  have p4 : decide (128 ≤ x) = true := decide_eq_true (by omega)
  have p5 : decide (x ≤ 159) = false := decide_eq_false (by omega)
  have hc : codedP x = x := by
    unfold codedP
    rw [if_neg (by omega), if_neg (by omega)]
  have hw : IntKind.i32.wrap x = x := by simp [IntKind.wrap, IntKind.bits, IntKind.signed]; omega
  rw [hc]
  clear hc hx
  go_enter Tryd.func15, Tryd.ntmps15
  go_wp2
  go_ret
  exact ⟨rfl, rfl⟩
set_option maxRecDepth 100000 in
set_option maxHeartbeats 2000000 in
theorem coded_4 (w : World) (x : Int) (hx : 55296 ≤ x ∧ x ≤ 57343) : Calls Tryd.prog 15 #[.int .i64 x] w fun e w' => e = .returned (.int .i32 (codedP x)) ∧ w = w' := by
  have p0 : decide (x ≤ 0) = false := decide_eq_false (by omega)
  have p1 : decide (1114111 < x) = false := decide_eq_false (by omega)
  have p2 : decide (55296 ≤ x) = true := decide_eq_true (by omega)
  have p3 : decide (x ≤ 57343) = true := decide_eq_true (by omega)
  have p4 : decide (128 ≤ x) = true := decide_eq_true (by omega)
  have p5 : decide (x ≤ 159) = false := decide_eq_false (by omega)
  have hc : codedP x = 65533 := by
    unfold codedP
    rw [if_pos (by omega)]
  rw [hc]
  clear hc hx
  go_enter Tryd.func15, Tryd.ntmps15
  go_wp2
  go_ret
  exact ⟨rfl, rfl⟩
set_option maxRecDepth 100000 in
set_option maxHeartbeats 2000000 in
theorem coded_5 (w : World) (x : Int) (hx : 57343 < x ∧ x ≤ 1114111) : Calls Tryd.prog 15 #[.int .i64 x] w fun e w' => e = .returned (.int .i32 (codedP x)) ∧ w = w' := by
  have p0 : decide (x ≤ 0) = false := decide_eq_false (by omega)
  have p1 : decide (1114111 < x) = false := decide_eq_false (by omega)
  have p2 : decide (55296 ≤ x) = true := decide_eq_true (by omega)
  have p3 : decide (x ≤ 57343) = false := decide_eq_false (by omega)
  have p4 : decide (128 ≤ x) = true := decide_eq_true (by omega)
  have p5 : decide (x ≤ 159) = false := decide_eq_false (by omega)
  have hc : codedP x = x := by
    unfold codedP
    rw [if_neg (by omega), if_neg (by omega)]
  have hw : IntKind.i32.wrap x = x := by simp [IntKind.wrap, IntKind.bits, IntKind.signed]; omega
  rw [hc]
  clear hc hx
  go_enter Tryd.func15, Tryd.ntmps15
  go_wp2
  go_ret
  exact ⟨rfl, rfl⟩
set_option maxRecDepth 100000 in
set_option maxHeartbeats 2000000 in
theorem coded_6 (w : World) (x : Int) (hx : 1114111 < x) : Calls Tryd.prog 15 #[.int .i64 x] w fun e w' => e = .returned (.int .i32 (codedP x)) ∧ w = w' := by
  have p0 : decide (x ≤ 0) = false := decide_eq_false (by omega)
  have p1 : decide (1114111 < x) = true := decide_eq_true (by omega)
  have p2 : decide (55296 ≤ x) = true := decide_eq_true (by omega)
  have p3 : decide (x ≤ 57343) = false := decide_eq_false (by omega)
  have p4 : decide (128 ≤ x) = true := decide_eq_true (by omega)
  have p5 : decide (x ≤ 159) = false := decide_eq_false (by omega)
  have hc : codedP x = 65533 := by
    unfold codedP
    rw [if_pos (by omega)]
  rw [hc]
  clear hc hx
  go_enter Tryd.func15, Tryd.ntmps15
  go_wp2
  go_ret
  exact ⟨rfl, rfl⟩
theorem coded_any (w : World) (x : Int) (ho : Old w) : Calls Tryd.prog 15 #[.int .i64 x] w fun e w' => e = .returned (.int .i32 (codedP x)) ∧ w = w' := by
  rcases (show ((x ≤ 0) ∨ (0 < x ∧ x < 128) ∨ (128 ≤ x ∧ x ≤ 159) ∨ (159 < x ∧ x < 55296) ∨ (55296 ≤ x ∧ x ≤ 57343) ∨ (57343 < x ∧ x ≤ 1114111) ∨ (1114111 < x)) by omega) with h | h | h | h | h | h | h
  · exact coded_0 w x h
  · exact coded_1 w x h
  · exact coded_2 w x h ho
  · exact coded_3 w x h
  · exact coded_4 w x h
  · exact coded_5 w x h
  · exact coded_6 w x h
set_option maxRecDepth 100000 in
set_option maxHeartbeats 2000000 in
theorem rcoded_0 (w : World) (x : Int) (hx : x ≤ 0) : Calls Tryd.prog 16 #[.int .i64 x] w fun e w' => e = .returned (.int .i32 (codedP x)) ∧ w = w' := by
  have p0 : decide (x ≤ 0) = true := decide_eq_true (by omega)
  have p1 : decide (1114111 < x) = false := decide_eq_false (by omega)
  have p2 : decide (55296 ≤ x) = false := decide_eq_false (by omega)
  have p3 : decide (x ≤ 57343) = true := decide_eq_true (by omega)
  have p4 : decide (128 ≤ x) = false := decide_eq_false (by omega)
  have p5 : decide (x ≤ 159) = true := decide_eq_true (by omega)
  have hc : codedP x = 65533 := by
    unfold codedP
    rw [if_pos (by omega)]
  rw [hc]
  clear hc hx
  go_enter Tryd.func16, Tryd.ntmps16
  go_wp2
  go_ret
  exact ⟨rfl, rfl⟩
set_option maxRecDepth 100000 in
set_option maxHeartbeats 2000000 in
theorem rcoded_1 (w : World) (x : Int) (hx : 0 < x ∧ x < 128) : Calls Tryd.prog 16 #[.int .i64 x] w fun e w' => e = .returned (.int .i32 (codedP x)) ∧ w = w' := by
  have p0 : decide (x ≤ 0) = false := decide_eq_false (by omega)
  have p1 : decide (1114111 < x) = false := decide_eq_false (by omega)
  have p2 : decide (55296 ≤ x) = false := decide_eq_false (by omega)
  have p3 : decide (x ≤ 57343) = true := decide_eq_true (by omega)
  have p4 : decide (128 ≤ x) = false := decide_eq_false (by omega)
  have p5 : decide (x ≤ 159) = true := decide_eq_true (by omega)
  have hc : codedP x = x := by
    unfold codedP
    rw [if_neg (by omega), if_neg (by omega)]
  have hw : IntKind.i32.wrap x = x := by simp [IntKind.wrap, IntKind.bits, IntKind.signed]; omega
  rw [hc]
  clear hc hx
  go_enter Tryd.func16, Tryd.ntmps16
  go_wp2
  go_ret
  exact ⟨rfl, rfl⟩
set_option maxRecDepth 100000 in
set_option maxHeartbeats 2000000 in
theorem rcoded_2 (w : World) (x : Int) (hx : 128 ≤ x ∧ x ≤ 159) : Calls Tryd.prog 16 #[.int .i64 x] w fun e w' => e = .returned (.int .i32 (codedP x)) ∧ w = w' := by
  have p0 : decide (x ≤ 0) = false := decide_eq_false (by omega)
  have p1 : decide (1114111 < x) = false := decide_eq_false (by omega)
  have p2 : decide (55296 ≤ x) = false := decide_eq_false (by omega)
  have p3 : decide (x ≤ 57343) = true := decide_eq_true (by omega)
  have p4 : decide (128 ≤ x) = true := decide_eq_true (by omega)
  have p5 : decide (x ≤ 159) = true := decide_eq_true (by omega)
  obtain ⟨m, rfl⟩ : ∃ m : Nat, x = 128 + m := ⟨(x - 128).toNat, by omega⟩
  have hm : m < 32 := by omega
  have e0 : (128 + (m : Int)) - 128 = m := by omega
  have hc : codedP (128 + m) = oldL.getD m 0 := by
    unfold codedP
    rw [if_neg (by omega), if_pos (by omega), e0]
    rfl
  have k0 := fun W => run_old W m hm
  rw [hc]
  generalize oldL.getD m 0 = r at k0
  clear hc
  have hw : wrap64 (128 + (m : Int) - 128) = m := by rw [e0]; unfold wrap64; omega
  clear hx
  go_enter Tryd.func16, Tryd.ntmps16
  go_wp2
  go_ret
  exact ⟨rfl, rfl⟩
set_option maxRecDepth 100000 in
set_option maxHeartbeats 2000000 in
theorem rcoded_3 (w : World) (x : Int) (hx : 159 < x ∧ x < 55296) : Calls Tryd.prog 16 #[.int .i64 x] w fun e w' => e = .returned (.int .i32 (codedP x)) ∧ w = w' := by
  have p0 : decide (x ≤ 0) = false := decide_eq_false (by omega)
  have p1 : decide (1114111 < x) = false := decide_eq_false (by omega)
  have p2 : decide (55296 ≤ x) = false := decide_eq_false (by omega)
  have p3 : decide (x ≤ 57343) = true := decide_eq_true (by omega)
  have p4 : decide (128 ≤ x) = true := decide_eq_true (by omega)
  have p5 : decide (x ≤ 159) = false := decide_eq_false (by omega)
  have hc : codedP x = x := by
    unfold codedP
    rw [if_neg (by omega), if_neg (by omega)]
  have hw : IntKind.i32.wrap x = x := by simp [IntKind.wrap, IntKind.bits, IntKind.signed]; omega
  rw [hc]
  clear hc hx
  go_enter Tryd.func16, Tryd.ntmps16
  go_wp2
  go_ret
  exact ⟨rfl, rfl⟩
set_option maxRecDepth 100000 in
set_option maxHeartbeats 2000000 in
theorem rcoded_4 (w : World) (x : Int) (hx : 55296 ≤ x ∧ x ≤ 57343) : Calls Tryd.prog 16 #[.int .i64 x] w fun e w' => e = .returned (.int .i32 (codedP x)) ∧ w = w' := by
  have p0 : decide (x ≤ 0) = false := decide_eq_false (by omega)
  have p1 : decide (1114111 < x) = false := decide_eq_false (by omega)
  have p2 : decide (55296 ≤ x) = true := decide_eq_true (by omega)
  have p3 : decide (x ≤ 57343) = true := decide_eq_true (by omega)
  have p4 : decide (128 ≤ x) = true := decide_eq_true (by omega)
  have p5 : decide (x ≤ 159) = false := decide_eq_false (by omega)
  have hc : codedP x = 65533 := by
    unfold codedP
    rw [if_pos (by omega)]
  rw [hc]
  clear hc hx
  go_enter Tryd.func16, Tryd.ntmps16
  go_wp2
  go_ret
  exact ⟨rfl, rfl⟩
set_option maxRecDepth 100000 in
set_option maxHeartbeats 2000000 in
theorem rcoded_5 (w : World) (x : Int) (hx : 57343 < x ∧ x ≤ 1114111) : Calls Tryd.prog 16 #[.int .i64 x] w fun e w' => e = .returned (.int .i32 (codedP x)) ∧ w = w' := by
  have p0 : decide (x ≤ 0) = false := decide_eq_false (by omega)
  have p1 : decide (1114111 < x) = false := decide_eq_false (by omega)
  have p2 : decide (55296 ≤ x) = true := decide_eq_true (by omega)
  have p3 : decide (x ≤ 57343) = false := decide_eq_false (by omega)
  have p4 : decide (128 ≤ x) = true := decide_eq_true (by omega)
  have p5 : decide (x ≤ 159) = false := decide_eq_false (by omega)
  have hc : codedP x = x := by
    unfold codedP
    rw [if_neg (by omega), if_neg (by omega)]
  have hw : IntKind.i32.wrap x = x := by simp [IntKind.wrap, IntKind.bits, IntKind.signed]; omega
  rw [hc]
  clear hc hx
  go_enter Tryd.func16, Tryd.ntmps16
  go_wp2
  go_ret
  exact ⟨rfl, rfl⟩
set_option maxRecDepth 100000 in
set_option maxHeartbeats 2000000 in
theorem rcoded_6 (w : World) (x : Int) (hx : 1114111 < x) : Calls Tryd.prog 16 #[.int .i64 x] w fun e w' => e = .returned (.int .i32 (codedP x)) ∧ w = w' := by
  have p0 : decide (x ≤ 0) = false := decide_eq_false (by omega)
  have p1 : decide (1114111 < x) = true := decide_eq_true (by omega)
  have p2 : decide (55296 ≤ x) = true := decide_eq_true (by omega)
  have p3 : decide (x ≤ 57343) = false := decide_eq_false (by omega)
  have p4 : decide (128 ≤ x) = true := decide_eq_true (by omega)
  have p5 : decide (x ≤ 159) = false := decide_eq_false (by omega)
  have hc : codedP x = 65533 := by
    unfold codedP
    rw [if_pos (by omega)]
  rw [hc]
  clear hc hx
  go_enter Tryd.func16, Tryd.ntmps16
  go_wp2
  go_ret
  exact ⟨rfl, rfl⟩
theorem rcoded_any (w : World) (x : Int) : Calls Tryd.prog 16 #[.int .i64 x] w fun e w' => e = .returned (.int .i32 (codedP x)) ∧ w = w' := by
  rcases (show ((x ≤ 0) ∨ (0 < x ∧ x < 128) ∨ (128 ≤ x ∧ x ≤ 159) ∨ (159 < x ∧ x < 55296) ∨ (55296 ≤ x ∧ x ≤ 57343) ∨ (57343 < x ∧ x ≤ 1114111) ∨ (1114111 < x)) by omega) with h | h | h | h | h | h | h
  · exact rcoded_0 w x h
  · exact rcoded_1 w x h
  · exact rcoded_2 w x h
  · exact rcoded_3 w x h
  · exact rcoded_4 w x h
  · exact rcoded_5 w x h
  · exact rcoded_6 w x h
end Go.Proofs.YtcplmdheoagmcaaDoor
