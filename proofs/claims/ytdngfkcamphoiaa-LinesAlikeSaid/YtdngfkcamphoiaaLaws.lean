/-
  The laws LinesPlaces, LinesLast, LinesWholes, LinesAlike, LinesPieces, walked: for every input each returns true and writes nothing that was there.
-/
import Derived.Test.YtdngfkcamphoiaaCount
namespace Go.Proofs.Ytdngfkcamphoiaa
open Go.RowKit

theorem places_any (w : World) (s : ByteArray) (at_ : Int) :
    Calls Try.prog 4 #[.string s, .int .i64 at_] w fun e w' => e = .returned (.bool true) ∧ Fr Nil w w' := by
  by_cases hs : 2000 < s.size
  · have hs' : (2000 : Int) < s.size := by omega
    go_enter Try.func4, Try.ntmps4
    go_wp2_with fail
    refine (awake_any w).mono ?_
    rintro e w1 ⟨rfl, f1⟩
    go_wp2_with fail
    go_ret
    exact ⟨rfl, f1⟩
  · have hs' : ¬ (2000 : Int) < s.size := by omega
    obtain ⟨m, hm⟩ : ∃ m : Nat, (m : Int) = min (max at_ 0) (s.size : Int) := ⟨(min (max at_ 0) (s.size : Int)).toNat, by omega⟩
    have HM := Lib.hid hm
    clear hm
    go_enter Try.func4, Try.ntmps4
    go_wp2_with fail
    refine (awake_any w).mono ?_
    rintro e w1 ⟨rfl, f1⟩
    go_wp2_with fail
    refine (place_any _ s at_ m HM.out (by omega)).mono ?_
    rintro e w2 ⟨rfl, rfl⟩
    go_wp2_with fail
    refine (rplace_any _ s at_ m HM.out (by omega)).mono ?_
    rintro e w2 ⟨rfl, rfl⟩
    go_wp2_with fail
    go_ret
    exact ⟨rfl, f1⟩

set_option maxHeartbeats 800000 in
set_option maxRecDepth 100000 in
theorem last_any (w : World) (s : ByteArray) (at_ : Int) :
    Calls Try.prog 5 #[.string s, .int .i64 at_] w fun e w' => e = .returned (.bool true) ∧ Fr Nil w w' := by
  have hlen : s.size = (bs s).length := size_bs s
  have HL := Lib.hid hlen
  clear hlen
  by_cases hs : 2000 < s.size
  · have hs' : (2000 : Int) < s.size := by omega
    go_enter Try.func5, Try.ntmps5
    go_wp2_with fail
    refine (awake_any w).mono ?_
    rintro e w1 ⟨rfl, f1⟩
    go_wp2_with fail
    go_ret
    exact ⟨rfl, f1⟩
  · have hs' : ¬ (2000 : Int) < s.size := by omega
    by_cases h0 : at_ < 0
    · go_enter Try.func5, Try.ntmps5
      go_wp2_with fail
      refine (awake_any w).mono ?_
      rintro e w1 ⟨rfl, f1⟩
      go_wp2_with fail
      go_ret
      exact ⟨rfl, f1⟩
    · by_cases h1 : (s.size : Int) ≤ at_
      · go_enter Try.func5, Try.ntmps5
        go_wp2_with fail
        refine (awake_any w).mono ?_
        rintro e w1 ⟨rfl, f1⟩
        go_wp2_with fail
        go_ret
        exact ⟨rfl, f1⟩
      · obtain ⟨k, rfl⟩ : ∃ k : Nat, at_ = k := ⟨at_.toNat, by omega⟩
        have hk : k < s.size := by omega
        have hP0 := Lib.hid (fun (W : World) => place_any W s (k : Int) k (by omega) (by omega))
        have hP1 := Lib.hid (fun (W : World) => place_any W s ((k : Int) + 1) (k + 1) (by omega) (by omega))
        have hP2 := Lib.hid (fun (W : World) => place_any W s (s.size : Int) s.size (by omega) (by omega))
        obtain ⟨p1, p2, p3, p4⟩ := pl_le (bs s) k
        have hl2 := pl_line (bs s) s.size (by rw [HL.out]; exact Nat.le_refl _)
        have hl3 := (pl_le (bs s) s.size).2.2.1
        have HL2 := Lib.hid hl2
        have hstep : (pl (bs s) (k + 1) = ((pl (bs s) k).1 + 1, 1)) ∨ ((pl (bs s) (k + 1)).1 = (pl (bs s) k).1 ∧ (pl (bs s) k).2 ≤ (pl (bs s) (k + 1)).2 ∧ (pl (bs s) (k + 1)).2 ≤ (pl (bs s) k).2 + 1) := by
          rw [pl, plStep]
          split
          · exact .inl rfl
          · split
            · right; dsimp only; omega
            · right; omega
        go_enter Try.func5, Try.ntmps5
        go_wp2_with fail
        refine (awake_any w).mono ?_
        rintro e w1 ⟨rfl, f1⟩
        go_wp2_with fail
        refine (hP0.out _).mono ?_
        rintro e w2 ⟨rfl, rfl⟩
        go_wp2_with fail
        refine (hP1.out _).mono ?_
        rintro e w2 ⟨rfl, rfl⟩
        go_wp2_with fail
        refine (hP2.out _).mono ?_
        rintro e w2 ⟨rfl, rfl⟩
        generalize pl (bs s) k = q at p1 p2 p3 p4 hstep ⊢
        generalize pl (bs s) (k + 1) = r at hstep ⊢
        generalize (pl (bs s) s.size).1 = ln at hl3 HL2 ⊢
        obtain ⟨a, b⟩ := q
        obtain ⟨c, d⟩ := r
        dsimp only at p1 p2 p3 p4 hstep ⊢
        have HS := Lib.hid hstep
        clear hP0 hP1 hP2 hstep hl2
        go_wp2_with fail
        go_loop [12, 13] (fun n i => ∃ j : Nat, i = .int .i64 j ∧ j ≤ s.size ∧ n = .int .i64 ((1 + ((bs s).take j).count 10 : Nat) : Int)) (fun _ i => s.size - (intOf i).toNat)
        case atStart => exact ⟨0, rfl, Nat.zero_le _, rfl⟩
        case round =>
          obtain ⟨j, rfl, hj, rfl⟩ := hrel
          by_cases hlt : j < s.size
          · obtain ⟨c0, hc0⟩ : ∃ c, (bs s)[j]? = some c := ⟨(bs s)[j]'(by have := HL.out; omega), List.getElem?_eq_getElem _⟩
            have hidx := run_index_at (P := Try.prog) Try.underlying9 hc0
            have hts : ((bs s).take (j + 1)).count 10 = ((bs s).take j).count 10 + if c0 = 10 then 1 else 0 := by
              rw [List.take_add_one, hc0, List.count_append]
              by_cases h : c0 = 10 <;> simp [h]
            have hle : ((bs s).take j).count 10 ≤ j := Nat.le_trans List.count_le_length (List.length_take_le _ _)
            have HT := Lib.hid hts
            generalize ((bs s).take j).count 10 = q at hle HT ⊢
            clear hts hc0
            by_cases h10 : c0 = 10
            · subst h10
              go_wp2_with fail
              go_round
              case rel => exact ⟨j + 1, by go_num, by omega, by rw [HT.out, if_pos rfl]; push_cast; congr 1⟩
              case measure => simp [intOf]; omega
            · have n10 : ((c0.toNat : Int) == 10) = false := byte_ne (d := 10) h10
              go_wp2_with fail
              go_round
              case rel => exact ⟨j + 1, by go_num, by omega, by rw [HT.out, if_neg h10, Nat.add_zero]⟩
              case measure => simp [intOf]; omega
          · obtain rfl : j = s.size := by omega
            rw [← HL2.out]
            have e1 : decide ((1 : Int) ≤ a) = true := by simp; omega
            have e2 : decide ((1 : Int) ≤ b) = true := by simp; omega
            rcases HS.out with hst | ⟨h1', h2', h3'⟩
            · injection hst with hst1 hst2
              subst hst1 hst2
              have e3 : decide ((a : Int) < (a : Int) + 1) = true := by simp; omega
              go_wp2_with fail
              go_ret
              exact ⟨rfl, f1⟩
            · subst h1'
              have e3 : decide ((b : Int) ≤ d) = true := by simp; omega
              have e4 : decide ((d : Int) ≤ (b : Int) + 1) = true := by simp; omega
              go_wp2_with fail
              go_ret
              exact ⟨rfl, f1⟩

/-- what any call of Whole does to a chain of worlds -/
theorem wholes_any (w : World) (s : ByteArray) :
    Calls Try.prog 6 #[.string s] w fun e w' => e = .returned (.bool true) ∧ Fr Nil w w' := by
  by_cases hs : 5000 < s.size
  · have hs' : (5000 : Int) < s.size := by omega
    go_enter Try.func6, Try.ntmps6
    go_wp2_with fail
    refine (awake_any w).mono ?_
    rintro e w1 ⟨rfl, f1⟩
    go_wp2_with fail
    go_ret
    exact ⟨rfl, f1⟩
  · have hs' : ¬ (5000 : Int) < s.size := by omega
    have he := str_beq_self (str (wrl false (bs s)))
    go_enter Try.func6, Try.ntmps6
    go_wp2_with fail
    refine (awake_any w).mono ?_
    rintro e w1 ⟨rfl, f1⟩
    go_wp2_with fail
    refine (whole_any _ s (by omega)).mono ?_
    rintro e w2 ⟨rfl, f2⟩
    go_wp2_with fail
    refine (rwhole_any _ s (by omega)).mono ?_
    rintro e w3 ⟨rfl, f3⟩
    go_wp2_with fail
    refine (count_any _ s (by omega)).mono ?_
    rintro e w4 ⟨rfl, f4⟩
    go_wp2_with fail
    refine (rcount_any _ s (by omega)).mono ?_
    rintro e w5 ⟨rfl, f5⟩
    go_wp2_with fail
    go_ret
    exact ⟨rfl, (((f1.trans f2).trans f3).trans f4).trans f5⟩

set_option maxHeartbeats 400000 in
theorem alike_any (w : World) (s : ByteArray) :
    Calls Try.prog 7 #[.string s] w fun e w' => e = .returned (.bool true) ∧ Fr Nil w w' := by
  by_cases hs : 5000 < s.size
  · have hs' : (5000 : Int) < s.size := by omega
    go_enter Try.func7, Try.ntmps7
    go_wp2_with fail
    refine (awake_any w).mono ?_
    rintro e w1 ⟨rfl, f1⟩
    go_wp2_with fail
    go_ret
    exact ⟨rfl, f1⟩
  · have hs' : ¬ (5000 : Int) < s.size := by omega
    have hno := wrl_noCr (bs s) false
    have hlen := wrl_len (bs s) false
    rw [← size_bs] at hlen
    have hcnt : cnt (bs s) = cnt (bs (str (wrl false (bs s)))) := by
      rw [bs_str, cnt, cnt, wrl_same _ hno]
    have hsame : str (wrl false (bs (str (wrl false (bs s))))) = str (wrl false (bs s)) := by rw [bs_str, wrl_same _ hno]
    have hts : (str (wrl false (bs s))).size ≤ s.size := by rw [size_str]; exact hlen
    have hno' : (13 : UInt8) ∉ bs (str (wrl false (bs s))) := hno
    have hW := Lib.hid (fun (W : World) => whole_any W s (by omega))
    clear hlen hno
    generalize str (wrl false (bs s)) = t at hcnt hsame hts hno' hW
    have HC := Lib.hid hcnt
    have HS := Lib.hid hsame
    have HL := Lib.hid (size_bs t)
    clear hcnt hsame
    go_enter Try.func7, Try.ntmps7
    go_wp2_with fail
    refine (awake_any w).mono ?_
    rintro e w1 ⟨rfl, f1⟩
    go_wp2_with fail
    refine (hW.out _).mono ?_
    rintro e w2 ⟨rfl, f2⟩
    go_wp2_with fail
    go_loop [5] (fun i => ∃ j : Nat, i = .int .i64 j ∧ j ≤ t.size) (fun i => t.size - (intOf i).toNat)
    case atStart => exact ⟨0, rfl, Nat.zero_le _⟩
    case round =>
      obtain ⟨j, rfl, hj⟩ := hrel
      by_cases hlt : j < t.size
      · obtain ⟨c0, hc0⟩ : ∃ c, (bs t)[j]? = some c := ⟨(bs t)[j]'(by have := HL.out; omega), List.getElem?_eq_getElem _⟩
        have hidx := run_index_at (P := Try.prog) Try.underlying9 hc0
        have n13 : ((c0.toNat : Int) == 13) = false := byte_ne (d := 13) (fun e => hno' (by rw [← e]; exact List.mem_of_getElem? hc0))
        clear hc0
        go_wp2_with fail
        go_round
        case rel => exact ⟨j + 1, by go_num, by omega⟩
        case measure => simp [intOf]; omega
      · have he := str_beq_self t
        have hts' : decide ((t.size : Int) ≤ s.size) = true := by simp; omega
        go_wp2_with fail
        refine (whole_any _ t (by omega)).mono ?_
        rw [HS.out]
        rintro e w3 ⟨rfl, f3⟩
        go_wp2_with fail
        refine (count_any _ t (by omega)).mono ?_
        rintro e w4 ⟨rfl, f4⟩
        go_wp2_with fail
        refine (count_any _ s (by omega)).mono ?_
        rw [HC.out]
        rintro e w5 ⟨rfl, f5⟩
        go_wp2_with fail
        go_ret
        exact ⟨rfl, (((f1.trans f2).trans f3).trans f4).trans f5⟩

def cat (L : List ByteArray) : List UInt8 := (L.map bs).flatten
theorem cat_snoc (L : List ByteArray) (s : ByteArray) : cat (L ++ [s]) = cat L ++ bs s := by simp [cat]

set_option maxHeartbeats 800000 in
theorem pieces_any (w : World) (A0 : Option Addr) (n c0 : Nat) (L : List ByteArray) (hr : Reads w w.heap.size 1 A0 n (L.map .string)) :
    Calls Try.prog 3 #[.slice A0 n c0] w fun e w' => e = .returned (.bool true) ∧ Fr Nil w w' := by
  have hlen : L.length = n := by simpa using hr.1
  by_cases hbig : 200 < n
  · have hb' : (200 : Int) < n := by omega
    go_enter Try.func3, Try.ntmps3
    go_wp2_with fail
    refine (awake_any w).mono ?_
    rintro e w1 ⟨rfl, f1⟩
    go_wp2_with fail
    refine (lnew_any _).mono ?_
    rintro e w2 ⟨rfl, rfl⟩
    go_wp2_with fail
    go_ret
    exact ⟨rfl, (f1.alloc _).alloc _⟩
  · have hb' : ¬ (200 : Int) < n := by omega
    have HL := Lib.hid hlen
    clear hlen
    go_enter Try.func3, Try.ntmps3
    go_wp2_with fail
    refine (awake_any w).mono ?_
    rintro e w1 ⟨rfl, f1⟩
    go_wp2_with fail
    refine (lnew_any _).mono ?_
    rintro e w2 ⟨rfl, rfl⟩
    go_wp2_with fail
    go_loopw [6, 7, 8, 9] (fun a b i _ wr => ∃ k : Nat, i = .int .i64 k ∧ k ≤ n ∧ a = .string (str (cat (L.take k))) ∧ b = .string (str (wrl false (cat (L.take k)))) ∧ (cat (L.take k)).length ≤ 1000 * k ∧
        Blk wr w1.heap.size 38 #[.bool (crOf false (cat (L.take k)))] ∧ Blk wr (w1.heap.size + 1) 28 #[.bool (crOf false (cat (L.take k)))] ∧ Fr Nil w wr) (fun _ _ i _ _ => n - (intOf i).toNat)
    case atStart =>
      refine ⟨0, rfl, Nat.zero_le _, rfl, rfl, Nat.le_refl _, (Blk.new _ _ _).alloc _, ?_, (f1.alloc _).alloc _⟩
      have := Blk.new (w1.alloc (.cells #[.bool false] 38)) 28 #[.bool false]
      rw [World.size_alloc] at this
      exact this
    case round =>
      obtain ⟨k, rfl, hk, rfl, rfl, hcl, hx, hy, hfr⟩ := hrel
      have hsz := f1.size
      by_cases hlt : k < n
      · obtain ⟨ad, s, rfl, hab, hs, hc⟩ := reads_str (hr.below hfr.below) hlt
        have hts : cat (L.take (k + 1)) = cat (L.take k) ++ bs s := by rw [List.take_add_one, hs, ← cat_snoc]; rfl
        have hw := wrl_append (cat (L.take k)) (bs s) false
        have hcr := crOf_append (cat (L.take k)) (bs s) false
        rw [← hts] at hw hcr
        have HT := Lib.hid hts
        have HW := Lib.hid hw
        have HC := Lib.hid hcr
        have HS := Lib.hid hs
        clear hts hw hcr hs
        by_cases h1000 : 1000 < s.size
        · have h1' : (1000 : Int) < s.size := by omega
          go_wp2_with fail
          go_ret
          exact ⟨rfl, hfr⟩
        · have h1' : ¬ (1000 : Int) < s.size := by omega
          have hsa : (str (cat (L.take k))).size ≤ 200000 := by rw [size_str]; omega
          have hsb : (str (wrl false (cat (L.take k)))).size ≤ 200000 := by rw [size_str]; have := wrl_len (cat (L.take k)) false; omega
          have hsc : (str (wrl (crOf false (cat (L.take k))) (bs s))).size ≤ 200000 := by rw [size_str]; have := wrl_len (bs s) (crOf false (cat (L.take k))); have := size_bs s; omega
          go_wp2_with fail
          refine (write_any _ w1.heap.size _ s hx (by omega)).mono ?_
          rintro e w3 ⟨rfl, hx3, f3⟩
          have g3 := hfr.trans' f3 (fun i h1 h2 => by omega)
          have hc3 := reads_str_at (hr.below g3.below) HS.out
          have hy3 := hy.fr f3 (by omega)
          go_wp2_with fail
          refine (rwrite_any _ (w1.heap.size + 1) _ s hy3 (by omega)).mono ?_
          rintro e w4 ⟨rfl, hy4, f4⟩
          have g4 := g3.trans' f4 (fun i h1 h2 => by omega)
          have hc4 := reads_str_at (hr.below g4.below) HS.out
          have hx4 := hx3.fr f4 (by omega)
          go_wp2_with fail
          go_roundw
          case rel =>
            refine ⟨k + 1, by go_num, by omega, ?_, ?_, ?_, ?_, ?_, g4⟩
            · rw [HT.out, str_append, str_bs]
            · rw [HW.out, str_append]
            · rw [HT.out, List.length_append, ← size_bs]; omega
            · rw [HC.out]; exact hx4
            · rw [HC.out]; exact hy4
          case measure => simp [intOf]; omega
      · obtain rfl : k = n := by omega
        have he := str_beq_self (str (wrl false (cat (L.take k))))
        go_wp2_with fail
        refine (whole_any _ (str (cat (L.take k))) (by rw [size_str]; omega)).mono ?_
        rw [bs_str]
        rintro e w3 ⟨rfl, f3⟩
        go_wp2_with fail
        go_ret
        exact ⟨rfl, hfr.trans f3⟩

end Go.Proofs.Ytdngfkcamphoiaa
