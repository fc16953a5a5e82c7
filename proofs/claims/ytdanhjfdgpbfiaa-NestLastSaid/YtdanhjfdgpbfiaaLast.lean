import Derived.Test.YtdanhjfdgpbfiaaAwake
namespace Go.Proofs.Ytdanhjfdgpbfiaa
open Go.RowKit

/-- the last place below k of x, or -1 -/
def behind (L : List ByteArray) (x : ByteArray) : Nat → Int
  | 0 => -1
  | k + 1 => if L[k]? = some x then k else behind L x k
theorem behind_lt (L : List ByteArray) (x : ByteArray) (k : Nat) : -1 ≤ behind L x k ∧ behind L x k < k := by
  induction k with
  | zero => exact ⟨by simp [behind], by simp [behind]⟩
  | succ k ih =>
    unfold behind
    split <;> omega
theorem behind_no (L : List ByteArray) (x : ByteArray) (h : x ∉ L) (k : Nat) : behind L x k = -1 := by
  induction k with
  | zero => rfl
  | succ k ih =>
    unfold behind
    rw [if_neg (fun e => h (List.mem_of_getElem? e))]
    exact ih
theorem behind_at (L : List ByteArray) (x : ByteArray) (j : Nat) (h : LastAt L x j) (k : Nat) (hk : j < k) : behind L x k = j := by
  induction k with
  | zero => omega
  | succ k ih =>
    unfold behind
    by_cases e : j = k
    · subst e
      rw [if_pos h.1]
    · rw [if_neg (h.2 k (by omega))]
      exact ih (by omega)

set_option maxHeartbeats 1600000 in
set_option maxRecDepth 100000 in
theorem last_any (w : World) (A0 : Option Addr) (n c0 : Nat) (L : List ByteArray) (x : ByteArray) (hr : Reads w w.heap.size 1 A0 n (L.map .string)) :
    Calls Try.prog 3 #[.slice A0 n c0, .string x] w fun e w' => e = .returned (.bool true) ∧ Fr Nil w w' := by
  have hlen : L.length = n := by simpa using hr.1
  by_cases hbig : 250 < n
  · go_enter Try.func3, Try.ntmps3
    go_wp2_with fail
    refine (awake_any w).mono ?_
    rintro e w1 ⟨rfl, f1⟩
    go_wp2_with fail
    refine (new_ok 256 _ (by decide) (by decide)).mono ?_
    rintro e w2 ⟨rfl, rfl⟩
    go_wp2_with fail
    go_ret
    exact ⟨rfl, f1.alloc _⟩
  · go_enter Try.func3, Try.ntmps3
    go_wp2_with fail
    refine (awake_any w).mono ?_
    rintro e w1 ⟨rfl, f1⟩
    go_wp2_with fail
    refine (new_ok 256 _ (by decide) (by decide)).mono ?_
    rintro e w2 ⟨rfl, rfl⟩
    go_wp2_with fail
    go_loopw [8, 9] (fun bh i wr => ∃ (k : Nat) (A : Option Addr) (c : Nat), bh = .int .i64 (behind L x k) ∧ i = .int .i64 k ∧ k ≤ n ∧ Stk 47 wr w1.heap.size 256 A c (L.take k) ∧ Fr Nil w wr ∧ ∀ i, At A i → w.heap.size ≤ i)
      (fun _ i _ => (n - intOf i).toNat)
    case atStart => exact ⟨0, none, 0, rfl, rfl, Nat.zero_le _, stk_new _ _ _, f1.alloc _, fun k hk => (not_at_none _ hk).elim⟩
    case round =>
      obtain ⟨k, A, c, rfl, rfl, hk, hst, hfr, hA⟩ := hrel
      have hw1 := f1.size
      by_cases hlt : k < n
      · obtain ⟨ad, s, rfl, hab, hs, hc⟩ := reads_str (hr.below hfr.below) hlt
        have hopen := open_ok wr w1.heap.size 256 A c (L.take k) s hst (by rw [List.length_take]; omega) (by rw [List.length_take]; omega)
        have HO := Lib.hid hopen
        have HL := Lib.hid hlen
        have HS := Lib.hid hs
        clear hopen hlen hs
        go_wp2_with fail
        refine HO.out.mono ?_
        rintro e w3 ⟨rfl, A3, c3, hst3, f3, n3⟩
        have g3 := hfr.trans' f3 fun i hi h => by
          rcases h with rfl | h
          · omega
          · have := hA i h; omega
        have hc4 := reads_str_at (hr.below g3.below) HS.out
        have hA3 : ∀ i, At A3 i → w.heap.size ≤ i := fun i hi => by
          rcases n3 i hi with h | h
          · exact hA i h
          · have := hfr.size; omega
        have hts : L.take (k + 1) = L.take k ++ [s] := by rw [List.take_add_one, HS.out]; rfl
        by_cases e : s = x
        · have e1 : (s.toList == x.toList) = true := by rw [e]; exact str_beq_self x
          have hb1 : behind L x (k + 1) = k := by rw [behind, HS.out, e, if_pos rfl]
          have HB := Lib.hid hb1
          have HT := Lib.hid hts
          clear hb1 hts
          go_wp2_with fail
          go_roundw
          case rel => exact ⟨k + 1, A3, c3, by rw [HB.out], by go_num, by omega, by rw [HT.out]; exact hst3, g3, hA3⟩
          case measure => simp [intOf]; omega
        · have e1 := str_beq_ne e
          have hb1 : behind L x (k + 1) = behind L x k := by rw [behind, HS.out, if_neg (fun h => e (by injection h))]
          have HB := Lib.hid hb1
          have HT := Lib.hid hts
          clear hb1 hts
          go_wp2_with fail
          go_roundw
          case rel => exact ⟨k + 1, A3, c3, by rw [HB.out], by go_num, by omega, by rw [HT.out]; exact hst3, g3, hA3⟩
          case measure => simp [intOf]; omega
      · obtain rfl : k = n := by omega
        have htk : L.take k = L := List.take_of_length_le (by omega)
        rw [htk] at hst
        have HC := Lib.hid (close_any wr w1.heap.size 256 A c L x hst (by omega))
        have HL := Lib.hid hlen
        clear htk hlen
        go_wp2_with fail
        refine HC.out.mono ?_
        rintro e w3 ⟨v, rfl, ⟨hx, rfl, f3⟩ | ⟨j, hj, A4, c4, rfl, hown, hst3, f3, n3⟩⟩
        · have hb1 := behind_no L x hx k
          rw [hb1]
          clear hb1
          have hd := depth_any w3 w1.heap.size 256 A c L (hst.fr f3 fun _ _ x => x)
          rw [HL.out] at hd
          have HD := Lib.hid hd
          clear hd
          go_wp2_with (go_at_call 11; refine HD.out.mono ?_; rintro e w' ⟨rfl, rfl⟩)
          go_ret
          exact ⟨by simp, hfr.trans f3⟩
        · have hjl := (List.getElem?_eq_some_iff.1 hj.1).1
          have hb1 := behind_at L x j hj k (by have := HL.out; omega)
          rw [hb1]
          have hd := depth_any w3 w1.heap.size 256 A c _ hst3
          rw [List.length_take, Nat.min_eq_left (by omega)] at hd
          have HD := Lib.hid hd
          have hjk : j < k := by have := HL.out; omega
          have hml : L.length - j = k - j := by rw [HL.out]
          have HJ := Lib.hid hj
          rw [hml] at hown ⊢
          have g3 : Fr Nil w w3 := hfr.trans' f3 fun i hi h => by omega
          obtain ⟨g, rfl, _⟩ := hown.form (by omega)
          have q0 := hown.cell (k - j - 1) (by omega)
          have hq : ((L.drop j).reverse.map Value.string)[k - j - 1]? = some (Value.string x) := by
            have h1 := HL.out
            rw [List.getElem?_map, List.getElem?_reverse (by rw [List.length_drop]; omega), List.length_drop, List.getElem?_drop, show j + (L.length - j - 1 - (k - j - 1)) = j by omega, HJ.out.1]
            rfl
          rw [hq] at q0
          have e1 := str_beq_self x
          have ei : IntKind.i64.wrap ((k - j : Nat) - 1 : Int) = (k - j - 1 : Nat) := by rw [IntKind.wrap_i64]; omega
          have ek : IntKind.i64.wrap ((k : Int) - j) = (k - j : Nat) := by rw [IntKind.wrap_i64]; omega
          have HM := Lib.hid hml
          have HQ := Lib.hid hq
          clear hml hd hb1 hj hq
          go_wp2_with (go_at_call 11; refine HD.out.mono ?_; rintro e w' ⟨rfl, rfl⟩)
          go_loopw [11] (fun i wr2 => ∃ (p q : Nat), i = .int .i64 p ∧ p ≤ k - j ∧ wr2 = w'.drewN q) (fun i _ => (k - j - intOf i).toNat)
          case atStart => exact ⟨0, 0, rfl, Nat.zero_le _, rfl⟩
          case round =>
            obtain ⟨p, q, rfl, hp, rfl⟩ := hrel
            by_cases hpl : p < k - j
            · obtain ⟨ad, s, rfl, _, hs, hc⟩ := reads_str (hr.below g3.below) (show k - 1 - p < k by omega)
              have q1 := hown.cell p (by omega)
              have hq : ((L.drop j).reverse.map Value.string)[p]? = some (Value.string s) := by
                have h1 := HL.out
                rw [List.getElem?_map, List.getElem?_reverse (by rw [List.length_drop]; omega), List.length_drop, List.getElem?_drop, show j + (L.length - j - 1 - p) = k - 1 - p by omega, hs]
                rfl
              rw [hq] at q1
              have e2 := str_beq_self s
              have i1 : IntKind.i64.wrap ((k : Int) - 1) = (k : Int) - 1 := by rw [IntKind.wrap_i64]; omega
              have i2 : IntKind.i64.wrap ((k : Int) - 1 - p) = (k : Int) - 1 - p := by rw [IntKind.wrap_i64]; omega
              have i3 : ((k : Int) - 1 - p).toNat = k - 1 - p := by omega
              have i4 : (0 : Int) ≤ (k : Int) - 1 - p := by omega
              have i5 : (k : Int) - 1 - p < k := by omega
              clear hq hs
              go_wp2_with fail
              go_quiet (fail)
              go_wp2_with fail
              go_roundw
              case rel => exact ⟨p + 1, _, by go_num, by omega, rfl⟩
              case measure => simp [intOf]; omega
            · go_wp2_with fail
              go_ret
              exact ⟨rfl, g3.drewN _⟩
end Go.Proofs.Ytdanhjfdgpbfiaa
