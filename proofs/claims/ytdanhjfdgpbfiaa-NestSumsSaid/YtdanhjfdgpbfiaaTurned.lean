/-
  A stack of the call's own, and NestTurned, walked: for every list the law returns true and writes nothing that was there.
-/
import Derived.Test.YtdanhjfdgpbfiaaAwake
namespace Go.Proofs.Ytdanhjfdgpbfiaa
open Go.RowKit

/-- a stack that the call made, and nothing else has turned since w0 -/
def Ours (w0 w : World) (b : Nat) (d : Int) (L : List ByteArray) : Prop :=
  ∃ A c, Stk 47 w b d A c L ∧ Fr Nil w0 w ∧ w0.heap.size ≤ b ∧ ∀ i, At A i → w0.heap.size ≤ i
section
variable {w0 w : World} {b : Nat} {d : Int} {L : List ByteArray} {x : ByteArray}
theorem ours_fr (h : Ours w0 w b d L) : Fr Nil w0 w := by
  obtain ⟨_, _, _, hf, _⟩ := h
  exact hf
theorem ours_new (f : Fr Nil w0 w) : Ours w0 (w.alloc (.cells #[.int .i64 d, .slice none 0 0] 47)) w.heap.size d [] :=
  ⟨none, 0, stk_new _ _ _, f.alloc _, f.size, fun i hi => (not_at_none i hi).elim⟩
theorem ours_drewN (h : Ours w0 w b d L) (n : Nat) : Ours w0 (w.drewN n) b d L := by
  obtain ⟨A, c, hs, hf, hb, hA⟩ := h
  exact ⟨A, c, hs.fr ((Fr.rfl' Nil w).drewN n) (fun _ _ x => x), hf.drewN n, hb, hA⟩
theorem ours_open (h : Ours w0 w b d L) (hd : L.length < d) (hL : L.length ≤ 65536) :
    Calls Try.prog 9 #[.pointer (some ⟨b, 0, none⟩), .string x] w (Ret fun v w' => v = .bool true ∧ Ours w0 w' b d (L ++ [x])) := by
  obtain ⟨A, c, hs, hf, hb, hA⟩ := h
  refine (open_ok w b d A c L x hs hd hL).mono ?_
  rintro e w' ⟨rfl, A', c', hs', hf', hn⟩
  refine ⟨_, rfl, rfl, A', c', hs', hf.trans' hf' fun i hi h => ?_, hb, fun i hi => ?_⟩
  · rcases h with rfl | h
    · omega
    · have := hA i h; omega
  · rcases hn i hi with h | h
    · exact hA i h
    · have := hf.size; omega
theorem ours_full (h : Ours w0 w b d L) (hd : d ≤ L.length) :
    Calls Try.prog 9 #[.pointer (some ⟨b, 0, none⟩), .string x] w (Ret fun v w' => v = .bool false ∧ Ours w0 w' b d L) := by
  obtain ⟨A, c, hs, hf, hb, hA⟩ := h
  refine (open_full w b d A c L x hs hd).mono ?_
  rintro e w' ⟨rfl, hf'⟩
  exact ⟨_, rfl, rfl, A, c, hs.fr hf' (fun _ _ x => x), hf.trans hf', hb, hA⟩
def Shut (w0 w' : World) (b : Nat) (d : Int) (L : List ByteArray) (k : Nat) (v : Value) : Prop :=
  ∃ A' c', v = .slice A' (L.length - k) c' ∧ Own w' 9 1 A' (L.length - k) c' ((L.drop k).reverse.map .string) ∧ Ours w0 w' b d (L.take k)
theorem ours_close (h : Ours w0 w b d L) (hL : L.length ≤ 65536) :
    Calls Try.prog 10 #[.pointer (some ⟨b, 0, none⟩), .string x] w (Ret fun v w' => (x ∉ L ∧ v = .slice none 0 0 ∧ Ours w0 w' b d L) ∨ ∃ k, LastAt L x k ∧ Shut w0 w' b d L k v) := by
  obtain ⟨A, c, hs, hf, hb, hA⟩ := h
  refine (close_any w b d A c L x hs hL).mono ?_
  rintro e w' ⟨v, rfl, ⟨hx, rfl, hf'⟩ | ⟨k, hk, A4, c4, rfl, hown, hst3, f3, n3⟩⟩
  · exact ⟨_, rfl, .inl ⟨hx, rfl, A, c, hs.fr hf' (fun _ _ x => x), hf.trans hf', hb, hA⟩⟩
  · exact ⟨_, rfl, .inr ⟨k, hk, A4, c4, rfl, hown, A, c, hst3, hf.trans' f3 (fun i hi h => by omega), hb, hA⟩⟩
theorem ours_all (h : Ours w0 w b d L) (hL : L.length ≤ 65536) :
    Calls Try.prog 12 #[.pointer (some ⟨b, 0, none⟩)] w (Ret fun v w' => ∃ A' c', v = .slice A' L.length c' ∧ Own w' 9 1 A' L.length c' (L.reverse.map .string) ∧ Ours w0 w' b d []) := by
  obtain ⟨A, c, hs, hf, hb, hA⟩ := h
  refine (all_any w b d A c L hs hL).mono ?_
  rintro e w' ⟨A4, c4, rfl, hown, hst3, f3, n3⟩
  exact ⟨_, rfl, A4, c4, rfl, hown, A, c, hst3, hf.trans' f3 (fun i hi h => by omega), hb, hA⟩
theorem ours_depth (h : Ours w0 w b d L) : Calls Try.prog 11 #[.pointer (some ⟨b, 0, none⟩)] w fun e w' => e = .returned (.int .i64 L.length) ∧ w = w' := by
  obtain ⟨A, c, hs, hf, hb, hA⟩ := h
  exact (depth_any w b d A c L hs).mono fun e w' ⟨he, hw⟩ => ⟨he, hw.symm⟩
theorem ours_top (h : Ours w0 w b d (L ++ [x])) (hL : L.length ≤ 65536) :
    Calls Try.prog 13 #[.pointer (some ⟨b, 0, none⟩)] w (Ret fun v w' => v = .tuple #[.string x, .bool true] ∧ Ours w0 w' b d (L ++ [x])) := by
  have h' := h
  obtain ⟨A, c, hs, hf, hb, hA⟩ := h
  refine (top_one w b d A c L x hs hL).mono ?_
  rintro e w' ⟨rfl, n, rfl⟩
  exact ⟨_, rfl, rfl, ours_drewN h' n⟩
end
theorem lastAt_snoc (L : List ByteArray) (x : ByteArray) : LastAt (L ++ [x]) x L.length := by
  refine ⟨by simp, fun j hj hx => ?_⟩
  have := (List.getElem?_eq_some_iff.1 hx).1
  simp at this
  omega
theorem lastAt_one {L : List ByteArray} {x : ByteArray} {j k : Nat} (h : LastAt L x j) (h' : LastAt L x k) : j = k := by
  rcases Nat.lt_trichotomy j k with h1 | h1 | h1
  · exact (h.2 k h1 h'.1).elim
  · exact h1
  · exact (h'.2 j h1 h.1).elim

set_option maxHeartbeats 1600000 in
set_option maxRecDepth 100000 in
theorem turned_any (w : World) (A0 : Option Addr) (n c0 : Nat) (L : List ByteArray) (hr : Reads w w.heap.size 1 A0 n (L.map .string)) :
    Calls Try.prog 5 #[.slice A0 n c0] w fun e w' => e = .returned (.bool true) ∧ Fr Nil w w' := by
  have hlen : L.length = n := by simpa using hr.1
  by_cases hbig : 256 < n
  · go_enter Try.func5, Try.ntmps5
    go_wp2_with fail
    refine (awake_any w).mono ?_
    rintro e w1 ⟨rfl, f1⟩
    go_wp2_with fail
    refine (new_ok 256 _ (by decide) (by decide)).mono ?_
    rintro e w2 ⟨rfl, rfl⟩
    go_wp2_with fail
    go_ret
    exact ⟨rfl, f1.alloc _⟩
  · go_enter Try.func5, Try.ntmps5
    go_wp2_with fail
    refine (awake_any w).mono ?_
    rintro e w1 ⟨rfl, f1⟩
    go_wp2_with fail
    refine (new_ok 256 _ (by decide) (by decide)).mono ?_
    rintro e w2 ⟨rfl, rfl⟩
    go_wp2_with fail
    go_loopw [6] (fun i wr => ∃ (k : Nat), i = .int .i64 k ∧ k ≤ n ∧ Ours w wr w1.heap.size 256 (L.take k)) (fun i _ => (n - intOf i).toNat)
    case atStart => exact ⟨0, rfl, Nat.zero_le _, ours_new f1⟩
    case round =>
      obtain ⟨k, rfl, hk, ho⟩ := hrel
      by_cases hlt : k < n
      · obtain ⟨ad, s, rfl, hab, hs, hc⟩ := reads_str (hr.below (ours_fr ho).below) hlt
        have HO := Lib.hid (ours_open (x := s) ho (by rw [List.length_take]; omega) (by rw [List.length_take]; omega))
        have hts : L.take (k + 1) = L.take k ++ [s] := by rw [List.take_add_one, hs]; rfl
        have HT := Lib.hid hts
        have HL := Lib.hid hlen
        clear hs hts hlen
        go_wp2_with fail
        refine HO.out.mono ?_
        rintro e w3 ⟨_, rfl, rfl, ho3⟩
        go_wp2_with fail
        go_roundw
        case rel => exact ⟨k + 1, by go_num, by omega, by rw [HT.out]; exact ho3⟩
        case measure => simp [intOf]; omega
      · obtain rfl : k = n := by omega
        rw [List.take_of_length_le (by omega)] at ho
        have HL := Lib.hid hlen
        clear hlen
        go_wp2_with fail
        go_loopw [7, 8, 9, 10] (fun i _ _ _ wr => ∃ (q : Int) (m : Nat), i = .int .i64 q ∧ q = (m : Int) - 1 ∧ m ≤ k ∧ Ours w wr w1.heap.size 256 (L.take m)) (fun i _ _ _ _ => (intOf i + 1).toNat)
        case atStart => exact ⟨_, k, rfl, rfl, Nat.le_refl _, by rw [List.take_of_length_le (Nat.le_of_eq HL.out)]; exact ho⟩
        case round =>
          obtain ⟨q, m, rfl, hq, hm, ho1⟩ := hrel
          by_cases hge : 0 ≤ q
          · obtain ⟨p, rfl⟩ : ∃ p : Nat, q = p := ⟨q.toNat, by omega⟩
            obtain rfl : m = p + 1 := by omega
            have hpk : p < k := by omega
            obtain ⟨ad, s, rfl, hab, hs, hc⟩ := reads_str (hr.below (ours_fr ho1).below) hpk
            have hts : L.take (p + 1) = L.take p ++ [s] := by rw [List.take_add_one, hs]; rfl
            rw [hts] at ho1
            have HT := Lib.hid hts
            have HS := Lib.hid hs
            have hlp : (L.take p).length = p := by rw [List.length_take, HL.out]; omega
            have HP := Lib.hid hlp
            clear hq hs hts hlp
            go_wp2_with fail
            refine (ours_top ho1 (by rw [HP.out]; omega)).mono ?_
            rintro e w3 ⟨_, rfl, rfl, ho3⟩
            have hc3 := reads_str_at (hr.below (ours_fr ho3).below) HS.out
            go_wp2_with fail
            refine (ours_close (x := s) ho3 (by simp [HP.out]; omega)).mono ?_
            rintro e w4 ⟨v, rfl, ⟨hx, _⟩ | ⟨j, hj, A', c', rfl, hown, ho4⟩⟩
            · exact (hx (by simp)).elim
            · obtain rfl := lastAt_one hj (lastAt_snoc _ _)
              have e1 : (L.take p ++ [s]).length - (L.take p).length = 1 := by simp
              have e2 : ((L.take p ++ [s]).drop (L.take p).length).reverse = [s] := by simp
              have e3 : (L.take p ++ [s]).take (L.take p).length = L.take p := by simp
              rw [e1, e2] at hown
              rw [e3] at ho4
              rw [e1]
              obtain ⟨g, rfl, _⟩ := hown.form (by decide)
              have q0 := hown.cell 0 (by decide)
              simp at q0
              have hc4 := reads_str_at (hr.below (ours_fr ho4).below) HS.out
              have es := str_beq_self s
              clear e1 e2 e3 hj
              go_wp2_with fail
              go_quiet (fail)
              go_wp2_with fail
              go_roundw
              case rel => exact ⟨_, p, rfl, by omega, by omega, ours_drewN ho4 _⟩
              case measure => simp [intOf]
          · obtain rfl : m = 0 := by omega
            rw [List.take_zero] at ho1
            clear hq
            go_wp2_with fail
            refine (ours_depth ho1).mono ?_
            rintro e w3 ⟨rfl, rfl⟩
            go_wp2_with fail
            refine (ours_close (x := ⟨#[97]⟩) ho1 (by simp)).mono ?_
            rintro e w4 ⟨v, rfl, ⟨_, rfl, ho4⟩ | ⟨j, hj, _⟩⟩
            · go_wp2_with fail
              go_ret
              exact ⟨rfl, ours_fr ho4⟩
            · have := hj.1
              simp at this
end Go.Proofs.Ytdanhjfdgpbfiaa
