/-
  The laws ClassWords, ClassJoins, walked.
-/
import Derived.Test.YticofnfjebifgaaStays
import Derived.Deep.RegionWith
import Derived.RegionTactic
import Derived.BigRegion
namespace Go.Proofs.Yticofnfjebifgaa
open Go.RowKit

theorem size_app (a b : ByteArray) : (a ++ b).size = a.size + b.size := by simp

set_option maxRecDepth 100000 in
set_option maxHeartbeats 4000000 in
theorem words_any (w : World) (s t : ByteArray) : Calls Try.prog 7 #[.string s, .string t] w fun e w' => e = .returned (.bool true) ∧ Fr Nil w w' := by
  by_cases hb : 200 < s.size
  · have hb' : (200 : Int) < s.size := by omega
    go_enter Try.func7, Try.ntmps7
    go_wp2_with fail
    refine (awake_any _).mono ?_
    rintro e w1 ⟨rfl, f1⟩
    go_wp2_with fail
    go_ret
    exact ⟨rfl, f1⟩
  · have hb' : ¬ (200 : Int) < s.size := by omega
    have hs : s.size ≤ 1048576 := by omega
    by_cases hc : 200 < t.size
    · have hc' : (200 : Int) < t.size := by omega
      go_enter Try.func7, Try.ntmps7
      go_wp2_with fail
      refine (awake_any _).mono ?_
      rintro e w1 ⟨rfl, f1⟩
      go_wp2_with fail
      go_ret
      exact ⟨rfl, f1⟩
    · have hc' : ¬ (200 : Int) < t.size := by omega
      have ht : t.size ≤ 1048576 := by omega
      cases hw : wordB (bs s) with
      | false =>
        go_enter Try.func7, Try.ntmps7
        go_wp2_with fail
        refine (awake_any _).mono ?_
        rintro e w1 ⟨rfl, f1⟩
        go_wp2_with fail
        refine (word_any _ s).mono ?_
        rintro e w2 ⟨rfl, f2⟩
        rw [hw]
        go_wp2_with fail
        go_ret
        exact ⟨rfl, f1.trans f2⟩
      | true =>
        cases hv : wordB (bs t) with
        | false =>
          go_enter Try.func7, Try.ntmps7
          go_wp2_with fail
          refine (awake_any _).mono ?_
          rintro e w1 ⟨rfl, f1⟩
          go_wp2_with fail
          refine (word_any _ s).mono ?_
          rintro e w2 ⟨rfl, f2⟩
          rw [hw]
          go_wp2_with fail
          refine (word_any _ t).mono ?_
          rintro e w3 ⟨rfl, f3⟩
          rw [hv]
          go_wp2_with fail
          go_ret
          exact ⟨rfl, (f1.trans f2).trans f3⟩
        | true =>
          have c1 := fun W => lower_any W s hs
          have c2 := fun W => trim_any W s hs
          have c3 := fun W => fieldsw_any W s hs
          rw [word_lower hw, str_bs] at c1
          rw [word_trim hw, str_bs] at c2
          rw [word_fields hw] at c3
          have C1 := Lib.hid c1
          have C2 := Lib.hid c2
          have C3 := Lib.hid c3
          have hz : (s ++ (⟨#[45]⟩ : ByteArray) ++ t).size = s.size + 1 + t.size := by rw [size_app, size_app]; rfl
          have hz1 : ((⟨#[45]⟩ : ByteArray) ++ s).size = 1 + s.size := by rw [size_app]; rfl
          have hz2 : ((⟨#[55]⟩ : ByteArray) ++ s).size = 1 + s.size := by rw [size_app]; rfl
          have c4 := fun W => word_any W (s ++ (⟨#[45]⟩ : ByteArray) ++ t)
          have c5 := fun W => word_any W ((⟨#[45]⟩ : ByteArray) ++ s)
          have c6 := fun W => word_any W ((⟨#[55]⟩ : ByteArray) ++ s)
          have e4 : wordB (bs (s ++ (⟨#[45]⟩ : ByteArray) ++ t)) = decide ((s ++ (⟨#[45]⟩ : ByteArray) ++ t).size ≤ 64) := by
            rw [bs_append, bs_append, size_bs, bs_append, bs_append]
            exact word_both hw hv
          have e5 : wordB (bs ((⟨#[45]⟩ : ByteArray) ++ s)) = false := by rw [bs_append]; exact word_hyphen _
          have e6 : wordB (bs ((⟨#[55]⟩ : ByteArray) ++ s)) = false := by rw [bs_append]; exact word_seven _
          rw [e4] at c4
          rw [e5] at c5
          rw [e6] at c6
          have C4 := Lib.hid c4
          have C5 := Lib.hid c5
          have C6 := Lib.hid c6
          have HZ := Lib.hid hz
          clear c1 c2 c3 c4 c5 c6 e4 e5 e6 hz1 hz2 hz
          have q1 := str_beq_self s
          go_enter Try.func7, Try.ntmps7
          go_wp2_with fail
          refine (awake_any _).mono ?_
          rintro e w1 ⟨rfl, f1⟩
          go_wp2_with fail
          refine (word_any _ s).mono ?_
          rintro e w2 ⟨rfl, f2⟩
          rw [hw]
          go_wp2_with fail
          refine (word_any _ t).mono ?_
          rintro e w3 ⟨rfl, f3⟩
          rw [hv]
          go_wp2_with fail
          refine (C3.out _).mono ?_
          rintro e w4 ⟨v, rfl, A, c, rfl, o4, f4, _⟩
          go_wp2_with fail
          refine (C1.out _).mono ?_
          rintro e w5 ⟨rfl, f5⟩
          go_wp2_with fail
          refine (C2.out _).mono ?_
          rintro e w6 ⟨rfl, rfl⟩
          obtain ⟨g, rfl, hg⟩ := o4.form (by simp)
          have hcell := own_str_cell (o4.fr f5 fun _ _ x => x) (k := 0) rfl
          rw [str_bs] at hcell
          go_wp2_with fail
          generalize hbz : s ++ (⟨#[45]⟩ : ByteArray) ++ t = both at *
          by_cases h64 : both.size ≤ 64
          · have h64' : (both.size : Int) ≤ 64 := by omega
            refine (C4.out _).mono ?_
            rintro e w7 ⟨rfl, f7⟩
            rw [decide_eq_true h64]
            clear h64 hbz
            go_wp2_with fail
            refine (C5.out _).mono ?_
            rintro e w8 ⟨rfl, f8⟩
            go_wp2_with fail
            refine (C6.out _).mono ?_
            rintro e w9 ⟨rfl, f9⟩
            go_wp2_with fail
            go_ret
            exact ⟨rfl, ((((((f1.trans f2).trans f3).trans f4).trans f5).trans f7).trans f8).trans f9⟩
          · have h64' : ¬ (both.size : Int) ≤ 64 := by omega
            refine (C4.out _).mono ?_
            rintro e w7 ⟨rfl, f7⟩
            rw [decide_eq_false h64]
            clear h64 hbz
            go_wp2_with fail
            refine (C5.out _).mono ?_
            rintro e w8 ⟨rfl, f8⟩
            go_wp2_with fail
            refine (C6.out _).mono ?_
            rintro e w9 ⟨rfl, f9⟩
            go_wp2_with fail
            go_ret
            exact ⟨ret_bool (by simp; omega), ((((((f1.trans f2).trans f3).trans f4).trans f5).trans f7).trans f8).trans f9⟩

/-- the one byte of '[]byte{c}' -/
theorem one_byte (w : World) (c : UInt8) : Reads (w.alloc (.cells #[.int .u8 (c.toNat : Int)] 5)) (w.heap.size + 1) 1 (some ⟨w.heap.size, 0, none⟩) 1 (cellsOf [c]) := reads_new _ _ _
theorem run_one (c : UInt8) (W : World) : (convert 32 9 (.slice (some ⟨W.heap.size, 0, none⟩) 1 1)).run Try.prog (W.alloc (.cells #[.int .u8 (c.toNat : Int)] 5)) = .ok (.string (str [c])) (W.alloc (.cells #[.int .u8 (c.toNat : Int)] 5)) :=
  run_string_of (P := Try.prog) Try.underlying32 Try.underlying5 Try.underlying9 (one_byte W c)

theorem run_one_drew (c : UInt8) (W : World) : (convert 32 9 (.slice (some ⟨W.heap.size, 0, none⟩) 1 1)).run Try.prog (W.alloc (.cells #[.int .u8 (c.toNat : Int)] 5)).drew = .ok (.string (str [c])) (W.alloc (.cells #[.int .u8 (c.toNat : Int)] 5)).drew :=
  run_string_of (P := Try.prog) Try.underlying32 Try.underlying5 Try.underlying9 (one_byte W c).drew
theorem rowOf_take {L : List (List UInt8)} {k : Nat} {x : List UInt8} (h : L[k]? = some x) (c : UInt8) : rowOf (L.take (k + 1)) c = rowOf (L.take k) c ++ x ++ [c] := by
  obtain ⟨hk, rfl⟩ := List.getElem?_eq_some_iff.1 h
  rw [List.take_succ_eq_append_getElem hk, rowOf_snoc]
theorem rowOf_len (L : List (List UInt8)) (c : UInt8) (h : ∀ x ∈ L, wordB x = true) : (rowOf L c).length ≤ 65 * L.length := by
  induction L with
  | nil => simp [rowOf]
  | cons x L ih =>
    have := (word_len (h x (by simp))).2
    have := ih fun y hy => h y (by simp [hy])
    simp [rowOf] at *
    omega

set_option maxRecDepth 100000 in
set_option maxHeartbeats 4000000 in
theorem joins_any (w : World) (A : Option Addr) (n cp : Nat) (L : List (List UInt8)) (c : UInt8) (hr : Reads w w.heap.size 1 A n (strs L)) (hz : ∀ x ∈ L, x.length ≤ maxLen) :
    Calls Try.prog 6 #[.slice A n cp, .int .u8 (c.toNat : Int)] w fun e w' => e = .returned (.bool true) ∧ Fr Nil w w' := by
  have hl : L.length = n := by have := hr.1; rw [strs_len] at this; omega
  by_cases hb : 100 < n
  · have hb' : (100 : Int) < n := by omega
    go_enter Try.func6, Try.ntmps6
    go_wp2_with fail
    refine (awake_any _).mono ?_
    rintro e w1 ⟨rfl, f1⟩
    go_wp2_with fail
    go_ret
    exact ⟨rfl, f1⟩
  · have hb' : ¬ (100 : Int) < n := by omega
    cases hsp : spB c with
    | false =>
      clear hl
      go_enter Try.func6, Try.ntmps6
      go_wp2_with fail
      refine (awake_any _).mono ?_
      rintro e w1 ⟨rfl, f1⟩
      go_wp2_with fail
      refine (space_any _ _).mono ?_
      rintro e w2 ⟨rfl, rfl⟩
      rw [hsp]
      go_wp2_with fail
      go_ret
      exact ⟨rfl, f1⟩
    | true =>
      have HL := Lib.hid hl
      have hn : n ≤ 100 := by omega
      clear hl
      go_enter Try.func6, Try.ntmps6
      go_wp2_with fail
      refine (awake_any _).mono ?_
      rintro e w1 ⟨rfl, f1⟩
      go_wp2_with fail
      refine (space_any _ _).mono ?_
      rintro e w2 ⟨rfl, rfl⟩
      rw [hsp]
      go_wp2_with fail
      go_loopw [6, 7] (fun j i wr => ∃ k : Nat, k ≤ n ∧ i = .int .i64 k ∧ j = .string (str (rowOf (L.take k) c)) ∧ (∀ x ∈ L.take k, wordB x = true) ∧ Fr Nil w wr) (fun _ i _ => n - (intOf i).toNat)
      case atStart => exact ⟨0, Nat.zero_le _, rfl, rfl, by simp, f1⟩
      case round =>
        obtain ⟨k, hk, rfl, rfl, hw, hf⟩ := hrel
        have HW := Lib.hid hw
        clear hw
        by_cases hlt : k < n
        · obtain ⟨x, hx⟩ : ∃ x, L[k]? = some x := ⟨_, List.getElem?_eq_getElem (by rw [HL.out]; exact hlt)⟩
          have hr2 := hr.fr hf (Nat.le_refl _) fun _ h => h.elim
          have hr3 := hr2
          obtain ⟨ad, u, rfl, hab, hu, hcell⟩ := hr3.at_ hlt
          rw [strs_at hx] at hu
          injection hu with hu
          subst hu
          cases hwx : wordB x with
          | false =>
            clear hx
            go_wp2_with (refine (word_any _ _).mono ?_; rintro e w3 ⟨rfl, f3⟩; rw [bs_str, hwx])
            go_ret
            exact ⟨rfl, hf.trans f3⟩
          | true =>
            have HW2 := Lib.hid (show ∀ y ∈ L.take (k + 1), wordB y = true by
              obtain ⟨hk', rfl⟩ := List.getElem?_eq_some_iff.1 hx
              rw [List.take_succ_eq_append_getElem hk']
              intro y hy
              rcases List.mem_append.1 hy with hy | hy
              · exact HW.out y hy
              · rw [List.mem_singleton.1 hy]; exact hwx)
            have HR := Lib.hid (rowOf_take hx c)
            have hzr : (str (rowOf (L.take k) c)).size ≤ 6500 := by
              rw [size_str]
              have := rowOf_len (L.take k) c HW.out
              rw [List.length_take] at this
              omega
            have hzx : (str x).size ≤ 64 := by rw [size_str]; exact (word_len hwx).2
            clear hx
            go_wp2_with (refine (word_any _ _).mono ?_; rintro e w3 ⟨rfl, f3⟩; rw [bs_str, hwx])
            have hcell3 := (f3.cell (p := ad.add k) (by rw [block_of_add]; have := hf.size; omega) (fun h => h)).trans hcell
            have hidx := run_index_addr (P := Try.prog) (n := n) (c := cp) (ad := ad) Try.underlying25 (by kernel_rfl : (Try.prog.info? 9).map (·.size) = some 1) hlt
            have h1 := run_one_drew c w3
            have hz1 : (str [c]).size ≤ 1 := by rw [size_str]; simp
            have hzs : (str (rowOf (L.take k) c) ++ str x).size ≤ 6564 := by rw [size_app]; omega
            clear hcell hr2 hr3
            go_region_with (fail)
            all_goals first
              | (exfalso; omega)
              | (go_wp2_with fail
                 go_roundw
                 case rel => exact ⟨k + 1, by omega, by go_num, by rw [HR.out, str_append, str_append], HW2.out, (((hf.trans f3).alloc _).drew)⟩
                 case measure => simp [intOf]; omega)
        · obtain rfl : n = k := by omega
          have HF := Lib.hid (show fields (rowOf (L.take n) c) = L by
            rw [List.take_of_length_le (by rw [HL.out]; exact Nat.le_refl _)]
            exact rowOf_fields L c hsp (by have := HW.out; rwa [List.take_of_length_le (by rw [HL.out]; exact Nat.le_refl _)] at this))
          have hzr : (str (rowOf (L.take n) c)).size ≤ 1048576 := by
            rw [size_str]
            have := rowOf_len (L.take n) c HW.out
            rw [List.length_take] at this
            omega
          have hr2 := hr.fr hf (Nat.le_refl _) fun _ h => h.elim
          have c1 := fun W => fieldsw_any W (str (rowOf (L.take n) c)) hzr
          rw [bs_str, HF.out] at c1
          have C1 := Lib.hid c1
          clear c1
          go_wp2_with fail
          refine (C1.out _).mono ?_
          rintro e w3 ⟨v, rfl, A2, c2, rfl, o3, f3, _⟩
          have hr3 := hr2.fr f3 hf.size fun _ h => h.elim
          have m3 := made_reads o3
          rw [strs_map] at hr3
          rw [HL.out] at m3 ⊢
          go_wp2_with fail
          refine (same_yes _ _ _ _ _ _ _ _ _ m3 hr3 (by omega)).mono ?_
          rintro e w4 ⟨rfl, m, rfl⟩
          go_wp2_with fail
          go_ret
          exact ⟨rfl, (hf.trans f3).drewN m⟩

theorem joins_row (w : World) (A : Option Addr) (n cp : Nat) (L : List ByteArray) (x : Int) (h : 0 ≤ x ∧ x ≤ 255) (hr : Reads w w.heap.size 1 A n (L.map .string)) (hz : ∀ s ∈ L, s.size ≤ maxLen) :
    Calls Try.prog 6 #[.slice A n cp, .int .u8 x] w fun e w' => e = .returned (.bool true) ∧ Fr Nil w w' := by
  have hx : ((UInt8.ofNat x.toNat).toNat : Int) = x := by
    rw [UInt8.toNat_ofNat_of_lt' (by show x.toNat < 256; omega)]
    omega
  have hs : strs (L.map bs) = L.map .string := by
    rw [strs, List.map_map]
    exact List.map_congr_left fun s _ => by simp [str_bs]
  have := joins_any w A n cp (L.map bs) (UInt8.ofNat x.toNat) (by rw [hs]; exact hr) (fun y hy => by
    obtain ⟨s, hs, rfl⟩ := List.mem_map.1 hy
    rw [← size_bs]
    exact hz s hs)
  rwa [hx] at this
end Go.Proofs.Yticofnfjebifgaa
