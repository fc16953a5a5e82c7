/-
  The walks of lines.Place and the reference's Place.
-/
import Derived.Test.YtdngfkcamphoiaaRef
namespace Go.Proofs.Ytdngfkcamphoiaa
open Go.RowKit

theorem and_tab : ∀ n : Fin 256, (bits BinOp.and IntKind.u8 (n.1 : Int) 192 != 128) = (decide (n.1 < 128) || decide (191 < n.1)) := by decide +kernel
theorem and_isB (c : UInt8) : (bits BinOp.and IntKind.u8 (c.toNat : Int) 192 != 128) = isB c := and_tab ⟨c.toNat, c.toNat_lt⟩

theorem begins_any (w : World) (s : ByteArray) (j : Nat) (hj : j ≤ s.size) (hs : s.size ≤ 1048576) :
    Calls Try.prog 22 #[.string s, .int .i64 (j : Int)] w fun e w' => e = .returned (.bool (beg (bs s) j)) ∧ w = w' := by
  have hlen : s.size = (bs s).length := size_bs s
  by_cases hlt : j < s.size
  · obtain ⟨c, hc⟩ : ∃ c, (bs s)[j]? = some c := ⟨(bs s)[j]'(by omega), List.getElem?_eq_getElem _⟩
    have hidx := run_index_at (P := Try.prog) Try.underlying9 hc
    have hb : beg (bs s) j = isB c := by rw [beg, hc]
    have hne : ((j : Int) == (s.size : Int)) = false := by simp; omega
    have ha := and_isB c
    rw [hb]
    clear hb hc hlen
    go_enter Try.func22, Try.ntmps22
    go_wp2_with fail
    go_ret
    exact ⟨rfl, rfl⟩
  · have hb : beg (bs s) j = true := by rw [beg, List.getElem?_eq_none (by omega)]
    have hne : ((j : Int) == (s.size : Int)) = true := by simp; omega
    rw [hb]
    clear hb hlen
    go_enter Try.func22, Try.ntmps22
    go_wp2_with fail
    go_ret
    exact ⟨rfl, rfl⟩

set_option maxHeartbeats 800000 in
theorem place_any (w : World) (s : ByteArray) (at_ : Int) (m : Nat) (hm : (m : Int) = min (max at_ 0) (s.size : Int)) (hs : s.size ≤ 1048576) :
    Calls Try.prog 14 #[.string s, .int .i64 at_] w fun e w' => e = .returned (.tuple #[.int .i64 (pl (bs s) m).1, .int .i64 (pl (bs s) m).2]) ∧ w = w' := by
  have hlen : s.size = (bs s).length := size_bs s
  have hml : m ≤ s.size := by omega
  have HM := Lib.hid hm
  have HL := Lib.hid hlen
  clear hm hlen
  go_enter Try.func14, Try.ntmps14
  go_wp2_with fail
  rw [← HM.out]
  go_loop [6, 7, 8, 14] (fun a b _ i => ∃ k : Nat, i = .int .i64 k ∧ k ≤ m ∧ a = .int .i64 (pl (bs s) k).1 ∧ b = .int .i64 (pl (bs s) k).2) (fun _ _ _ i => m - (intOf i).toNat)
  case atStart => exact ⟨0, rfl, Nat.zero_le _, rfl, rfl⟩
  case round =>
    obtain ⟨k, rfl, hk, rfl, rfl⟩ := hrel
    by_cases hlt : k < m
    · obtain ⟨c, hc⟩ : ∃ c, (bs s)[k]? = some c := ⟨(bs s)[k]'(by have := HL.out; omega), List.getElem?_eq_getElem _⟩
      have hidx := run_index_at (P := Try.prog) Try.underlying9 hc
      obtain ⟨p1, p2, p3, p4⟩ := pl_le (bs s) k
      have hpl : pl (bs s) (k + 1) = if c = 10 then ((pl (bs s) k).1 + 1, 1) else if beg (bs s) (k + 1) then ((pl (bs s) k).1, (pl (bs s) k).2 + 1) else pl (bs s) k := by
        rw [pl, plStep, hc]
        simp
      have HP := Lib.hid hpl
      have hbg := begins_any w s (k + 1) (by omega) hs
      rw [Int.natCast_add] at hbg
      have HB := Lib.hid hbg
      generalize pl (bs s) k = q at p1 p2 p3 p4 HP ⊢
      obtain ⟨a, b⟩ := q
      dsimp only at p1 p2 p3 p4 ⊢
      clear hc hpl hbg
      by_cases h10 : c = 10
      · subst h10
        go_wp2_with fail
        go_round
        case rel =>
          refine ⟨k + 1, by go_num, by omega, ?_, ?_⟩
          · rw [HP.out, if_pos rfl]; go_num
          · rw [HP.out, if_pos rfl]; go_num
        case measure => simp [intOf]; omega
      · have n10 : ((c.toNat : Int) == 10) = false := byte_ne (d := 10) h10
        cases hbv : beg (bs s) (k + 1) with
        | true =>
          have HV := Lib.hid hbv
          clear hbv
          go_wp2_with fail
          refine HB.out.mono ?_
          rw [HV.out]
          rintro e w2 ⟨rfl, rfl⟩
          go_wp2_with fail
          go_round
          case rel =>
            refine ⟨k + 1, by go_num, by omega, ?_, ?_⟩
            · rw [HP.out, if_neg h10, if_pos HV.out]
            · rw [HP.out, if_neg h10, if_pos HV.out]; go_num
          case measure => simp [intOf]; omega
        | false =>
          have HV := Lib.hid hbv
          clear hbv
          go_wp2_with fail
          refine HB.out.mono ?_
          rw [HV.out]
          rintro e w2 ⟨rfl, rfl⟩
          go_wp2_with fail
          go_round
          case rel =>
            refine ⟨k + 1, by go_num, by omega, ?_, ?_⟩
            · rw [HP.out, if_neg h10, if_neg (by rw [HV.out]; decide)]
            · rw [HP.out, if_neg h10, if_neg (by rw [HV.out]; decide)]
          case measure => simp [intOf]; omega
    · obtain rfl : k = m := by omega
      go_wp2_with fail
      go_ret2
      exact ⟨rfl, rfl⟩

set_option maxHeartbeats 800000 in
set_option maxRecDepth 100000 in
theorem rplace_any (w : World) (s : ByteArray) (at_ : Int) (m : Nat) (hm : (m : Int) = min (max at_ 0) (s.size : Int)) (hs : s.size ≤ 1048576) :
    Calls Try.prog 15 #[.string s, .int .i64 at_] w fun e w' => e = .returned (.tuple #[.int .i64 (pl (bs s) m).1, .int .i64 (pl (bs s) m).2]) ∧ w = w' := by
  have hlen : s.size = (bs s).length := size_bs s
  have hml : m ≤ s.size := by omega
  have HM := Lib.hid hm
  have HL := Lib.hid hlen
  clear hm hlen
  go_enter Try.func15, Try.ntmps15
  go_wp2_with fail
  rw [← HM.out]
  go_loop [6, 7, 8, 9, 10] (fun a b i _ _ => ∃ k : Nat, i = .int .i64 k ∧ k ≤ m ∧ a = .int .i64 (pl (bs s) k).1 ∧ b = .int .i64 (pl (bs s) k).2) (fun _ _ i _ _ => m - (intOf i).toNat)
  case atStart => exact ⟨0, rfl, Nat.zero_le _, rfl, rfl⟩
  case round =>
    obtain ⟨k, rfl, hk, rfl, rfl⟩ := hrel
    by_cases hlt : k < m
    · obtain ⟨c, hc⟩ : ∃ c, (bs s)[k]? = some c := ⟨(bs s)[k]'(by have := HL.out; omega), List.getElem?_eq_getElem _⟩
      have hidx := run_index_at (P := Try.prog) Try.underlying9 hc
      obtain ⟨p1, p2, p3, p4⟩ := pl_le (bs s) k
      have hpl : pl (bs s) (k + 1) = if c = 10 then ((pl (bs s) k).1 + 1, 1) else if beg (bs s) (k + 1) then ((pl (bs s) k).1, (pl (bs s) k).2 + 1) else pl (bs s) k := by
        rw [pl, plStep, hc]
        simp
      have HP := Lib.hid hpl
      generalize pl (bs s) k = q at p1 p2 p3 p4 HP ⊢
      obtain ⟨a, b⟩ := q
      dsimp only at p1 p2 p3 p4 ⊢
      clear hc hpl
      by_cases h10 : c = 10
      · subst h10
        go_wp2_with fail
        go_round
        case rel =>
          refine ⟨k + 1, by go_num, by omega, ?_, ?_⟩
          · rw [HP.out, if_pos rfl]; go_num
          · rw [HP.out, if_pos rfl]; go_num
        case measure => simp [intOf]; omega
      · have n10 : ((c.toNat : Int) == 10) = false := byte_ne (d := 10) h10
        by_cases hend : k + 1 < s.size
        · obtain ⟨c2, hc2⟩ : ∃ c2, (bs s)[k + 1]? = some c2 := ⟨(bs s)[k + 1]'(by have := HL.out; omega), List.getElem?_eq_getElem _⟩
          have hidx2 := run_index_at (P := Try.prog) Try.underlying9 hc2
          simp only [Int.natCast_add, Int.cast_ofNat_Int] at hidx2
          have hV : beg (bs s) (k + 1) = isB c2 := by rw [beg, hc2]
          have hne : ((k : Int) + 1 == (s.size : Int)) = false := by simp; omega
          have HV := Lib.hid hV
          clear hV hc2
          by_cases hlo : c2.toNat < 128
          · have hyes : isB c2 = true := by simp [isB, hlo]
            have hlo' : decide ((c2.toNat : Int) < 128) = true := by simp; omega
            have HY := Lib.hid hyes
            clear hyes
            go_wp2_with fail
            go_round
            case rel =>
              refine ⟨k + 1, by go_num, by omega, ?_, ?_⟩
              · rw [HP.out, if_neg h10, if_pos (by rw [HV.out, HY.out])]
              · rw [HP.out, if_neg h10, if_pos (by rw [HV.out, HY.out])]; go_num
            case measure => simp [intOf]; omega
          · have hlo' : decide ((c2.toNat : Int) < 128) = false := by simp; omega
            by_cases hhi : 191 < c2.toNat
            · have hyes : isB c2 = true := by simp [isB, hhi]
              have hhi' : decide (191 < (c2.toNat : Int)) = true := by simp; omega
              have HY := Lib.hid hyes
              clear hyes
              go_wp2_with fail
              go_round
              case rel =>
                refine ⟨k + 1, by go_num, by omega, ?_, ?_⟩
                · rw [HP.out, if_neg h10, if_pos (by rw [HV.out, HY.out])]
                · rw [HP.out, if_neg h10, if_pos (by rw [HV.out, HY.out])]; go_num
              case measure => simp [intOf]; omega
            · have hyes : isB c2 = false := by simp [isB]; omega
              have hhi' : decide (191 < (c2.toNat : Int)) = false := by simp; omega
              have HY := Lib.hid hyes
              clear hyes
              go_wp2_with fail
              go_round
              case rel =>
                refine ⟨k + 1, by go_num, by omega, ?_, ?_⟩
                · rw [HP.out, if_neg h10, if_neg (by rw [HV.out, HY.out]; decide)]
                · rw [HP.out, if_neg h10, if_neg (by rw [HV.out, HY.out]; decide)]
              case measure => simp [intOf]; omega
        · have hV : beg (bs s) (k + 1) = true := by rw [beg, List.getElem?_eq_none (by have := HL.out; omega)]
          have hne : ((k : Int) + 1 == (s.size : Int)) = true := by simp; omega
          have hlt2 : decide ((k : Int) + 1 < (s.size : Int)) = false := by simp; omega
          have HV := Lib.hid hV
          clear hV
          go_wp2_with fail
          go_round
          case rel =>
            refine ⟨k + 1, by go_num, by omega, ?_, ?_⟩
            · rw [HP.out, if_neg h10, if_pos HV.out]
            · rw [HP.out, if_neg h10, if_pos HV.out]; go_num
          case measure => simp [intOf]; omega
    · obtain rfl : k = m := by omega
      go_wp2_with fail
      go_ret2
      exact ⟨rfl, rfl⟩
end Go.Proofs.Ytdngfkcamphoiaa
