/-
  (*Trie).Find; cribbleref04.Few, Begins, Find, walked.
-/
import Derived.Test.YthhlpbopbabojaaLongest
namespace Go.Proofs.Ythhlpbopbabojaa
open Go.RowKit

theorem retIB2 {w w' : World} {r : Int × Bool} {z : Int} {k : Bool} (h : r = (z, k)) (hf : Fr Nil w w') : Ending.returned (.tuple #[.int .i64 z, .bool k]) = .returned (.tuple #[.int .i64 r.1, .bool r.2]) ∧ Fr Nil w w' := by
  subst h
  exact ⟨rfl, hf⟩
set_option maxHeartbeats 1000000 in
theorem tfind_any (w : World) (base b : Nat) (s : ByteArray) (hs : s.size ≤ 1048576) (L : List ByteArray) (P : List Pth) (ns : List (Nat × Int)) (ht : TrieAt w base b L P ns) (hfu : Full (L.map bs) P ns) (h0 : [] ∉ L.map bs) :
    Calls Try.prog 16 #[.pointer (some ⟨b, 0, none⟩), .string s] w fun e w' => e = .returned (.tuple #[.int .i64 (findR (L.map bs) (bs s)).1, .bool (findR (L.map bs) (bs s)).2]) ∧ Fr Nil w w' := by
  have hlf := long_find h0 (bs s)
  rw [← size_bs] at hlf
  have hlo := longest_any w base b s hs L P ns ht hfu
  have hn : (longR (L.map bs) (bs s)).2 ≤ (s.size : Int) := by rw [size_bs]; exact lastOf_le
  generalize longR (L.map bs) (bs s) = r at *
  obtain ⟨z, n⟩ := r
  have HLO := Lib.hid hlo
  clear hlo
  by_cases h1 : 0 < n
  · by_cases h2 : n = (s.size : Int)
    · have HR := Lib.hid (show findR (L.map bs) (bs s) = (z, true) by rw [← hlf, if_pos ⟨h1, h2⟩])
      have h2' : (n == (s.size : Int)) = true := by simpa using h2
      subst h2
      clear hlf hn h2'
      go_enter Try.func16, Try.ntmps16
      go_wp2_with fail
      refine HLO.out.mono ?_
      rintro e w1 ⟨rfl, f1⟩
      go_wp2_with fail
      go_ret2
      exact retIB2 HR.out f1
    · have HR := Lib.hid (show findR (L.map bs) (bs s) = (0, false) by rw [← hlf, if_neg (fun e => h2 e.2)])
      have h2' : (n == (s.size : Int)) = false := by simpa using h2
      clear hlf hn h2
      go_enter Try.func16, Try.ntmps16
      go_wp2_with fail
      refine HLO.out.mono ?_
      rintro e w1 ⟨rfl, f1⟩
      go_wp2_with fail
      go_ret2
      exact retIB2 HR.out f1
  · have HR := Lib.hid (show findR (L.map bs) (bs s) = (0, false) by rw [← hlf, if_neg (fun e => h1 e.1)])
    clear hlf hn
    go_enter Try.func16, Try.ntmps16
    go_wp2_with fail
    refine HLO.out.mono ?_
    rintro e w1 ⟨rfl, f1⟩
    go_wp2_with fail
    go_ret2
    exact retIB2 HR.out f1

def fewB (L : List ByteArray) : Bool := L.all (fun s => decide (s.size ≤ 200)) && decide (L.length ≤ 120)
theorem few_any (w : World) (A : Option Addr) (n c : Nat) (L : List ByteArray) (B : Nat) (hr : Reads w B 1 A n (L.map .string)) (hn : n ≤ maxLen) :
    Calls Try.prog 9 #[.slice A n c] w fun e w' => e = .returned (.bool (fewB L)) ∧ w = w' := by
  have hl : L.length = n := by simpa using hr.1
  have HL := Lib.hid hl
  unfold maxLen at hn
  clear hl
  go_enter Try.func9, Try.ntmps9
  go_wp2
  go_loop [3] (fun i => ∃ k : Nat, k ≤ n ∧ i = .int .i64 k ∧ (L.take k).all (fun s => decide (s.size ≤ 200)) = true) (fun i => n - (intOf i).toNat)
  case atStart => exact ⟨0, Nat.zero_le _, rfl, rfl⟩
  case round =>
    obtain ⟨k, hk, rfl, hp⟩ := hrel
    have HP := Lib.hid hp
    clear hp
    by_cases hlt : k < n
    · obtain ⟨ad, s, rfl, _, hx, hc⟩ := reads_str hr hlt
      by_cases h2 : 200 < s.size
      · have h2' : (200 : Int) < s.size := by omega
        have HN := Lib.hid (show fewB L = false by
          unfold fewB
          have : L.all (fun s => decide (s.size ≤ 200)) = false := by
            rw [List.all_eq_false]
            exact ⟨s, List.mem_of_getElem? hx, by simp; omega⟩
          rw [this]
          rfl)
        clear hx
        go_wp2
        go_ret
        exact ⟨ret_b HN.out.symm, rfl⟩
      · have h2' : ¬ (200 : Int) < s.size := by omega
        have HN := Lib.hid (show (L.take (k + 1)).all (fun s => decide (s.size ≤ 200)) = true by
          obtain ⟨hk', rfl⟩ := List.getElem?_eq_some_iff.1 hx
          rw [List.take_succ_eq_append_getElem hk', List.all_append, HP.out]
          simp
          omega)
        clear hx
        go_wp2
        go_round
        case rel => exact ⟨k + 1, by omega, by go_num, HN.out⟩
        case measure => simp [intOf]; omega
    · obtain rfl : k = n := by omega
      have hall : L.all (fun s => decide (s.size ≤ 200)) = true := by have := HP.out; rwa [List.take_of_length_le (by rw [HL.out]; exact Nat.le_refl _)] at this
      have HN := Lib.hid (show fewB L = decide (k ≤ 120) by unfold fewB; rw [hall, HL.out]; rfl)
      clear hall
      by_cases h2 : k ≤ 120
      · have h2' : (k : Int) ≤ 120 := by omega
        go_wp2
        go_ret
        exact ⟨ret_b (by rw [HN.out]; simp [h2]; try omega), rfl⟩
      · have h2' : ¬ (k : Int) ≤ 120 := by omega
        go_wp2
        go_ret
        exact ⟨ret_b (by rw [HN.out]; simp [h2]; try omega), rfl⟩

theorem idx_take {L : List Pth} {k : Nat} {s x : Pth} (hx : L[k]? = some x) (h : s ∉ L.take k) (he : x = s) : idx L s = some k := by
  induction L generalizing k with
  | nil => simp at hx
  | cons p L ih =>
    rw [idx]
    cases k with
    | zero =>
      simp at hx
      rw [if_pos (by rw [hx, he])]
    | succ k =>
      simp at hx h
      rw [if_neg (fun e => h.1 e.symm), ih hx h.2]
      rfl
set_option maxHeartbeats 1000000 in
theorem rfind_any (w : World) (A : Option Addr) (n c : Nat) (L : List ByteArray) (B : Nat) (s : ByteArray) (hr : Reads w B 1 A n (L.map .string)) (hn : n ≤ 1048576) :
    Calls Try.prog 14 #[.slice A n c, .string s] w fun e w' => e = .returned (.tuple #[.int .i64 (findR (L.map bs) (bs s)).1, .bool (findR (L.map bs) (bs s)).2]) ∧ w = w' := by
  have hl : L.length = n := by simpa using hr.1
  have HL := Lib.hid hl
  clear hl
  go_enter Try.func14, Try.ntmps14
  go_wp2
  go_loop [6] (fun i => ∃ k : Nat, k ≤ n ∧ i = .int .i64 k ∧ bs s ∉ (L.map bs).take k) (fun i => n - (intOf i).toNat)
  case atStart => exact ⟨0, Nat.zero_le _, rfl, by simp⟩
  case round =>
    obtain ⟨k, hk, rfl, hp⟩ := hrel
    have HP := Lib.hid hp
    clear hp
    by_cases hlt : k < n
    · obtain ⟨ad, x, rfl, _, hx, hc⟩ := reads_str hr hlt
      have hxb : (L.map bs)[k]? = some (bs x) := by rw [List.getElem?_map, hx]; rfl
      by_cases he : x = s
      · have HR := Lib.hid (show findR (L.map bs) (bs s) = ((k : Int), true) by unfold findR; rw [idx_take hxb HP.out (by rw [he])])
        subst he
        have hq := str_beq_self x
        clear hx hxb
        go_wp2
        go_ret2
        exact retIB HR.out rfl
      · have hq := str_beq_ne he
        have HN := Lib.hid (show bs s ∉ (L.map bs).take (k + 1) by
          rw [take_succ_at' hxb]
          intro hm
          rcases List.mem_append.1 hm with hm | hm
          · exact HP.out hm
          · exact he (bs_inj (List.mem_singleton.1 hm).symm))
        clear hx hxb
        go_wp2
        go_round
        case rel => exact ⟨k + 1, by omega, by go_num, HN.out⟩
        case measure => simp [intOf]; omega
    · obtain rfl : k = n := by omega
      have HR := Lib.hid (show findR (L.map bs) (bs s) = (0, false) by
        have := HP.out
        rw [List.take_of_length_le (by rw [List.length_map, HL.out]; exact Nat.le_refl _)] at this
        unfold findR
        rw [idx_none.2 this])
      go_wp2
      go_ret2
      exact retIB HR.out rfl

set_option maxHeartbeats 1000000 in
theorem begins_any (w : World) (A : Option Addr) (n c : Nat) (L : List ByteArray) (B : Nat) (s : ByteArray) (hs : s.size ≤ 1048576) (hr : Reads w B 1 A n (L.map .string)) (hn : n ≤ 1048576) :
    Calls Try.prog 12 #[.slice A n c, .string s] w fun e w' => e = .returned (.bool (beginsB (L.map bs) (bs s))) ∧ w = w' := by
  have hl : L.length = n := by simpa using hr.1
  have HL := Lib.hid hl
  clear hl
  go_enter Try.func12, Try.ntmps12
  go_wp2
  go_loop [5] (fun i => ∃ k : Nat, k ≤ n ∧ i = .int .i64 k ∧ beginsB ((L.map bs).take k) (bs s) = false) (fun i => n - (intOf i).toNat)
  case atStart => exact ⟨0, Nat.zero_le _, rfl, rfl⟩
  case round =>
    obtain ⟨k, hk, rfl, hp⟩ := hrel
    have HP := Lib.hid hp
    clear hp
    by_cases hlt : k < n
    · obtain ⟨ad, x, rfl, _, hx, hc⟩ := reads_str hr hlt
      have hxb : (L.map bs)[k]? = some (bs x) := by rw [List.getElem?_map, hx]; rfl
      have hno : ¬ bs s <+: bs x → beginsB ((L.map bs).take (k + 1)) (bs s) = false := fun hnp => by
        have := HP.out
        unfold beginsB at this ⊢
        rw [take_succ_at' hxb, List.any_append, this, List.any_cons, List.any_nil, Bool.or_false, Bool.false_or, Bool.eq_false_iff]
        exact fun e => hnp (List.isPrefixOf_iff_prefix.1 e)
      by_cases hle : s.size ≤ x.size
      · have hle' : (s.size : Int) ≤ x.size := by omega
        have hxe : bs (x.extract 0 s.size) = (bs x).take s.size := by rw [bs_extract]; rfl
        by_cases he : x.extract 0 s.size = s
        · have HR := Lib.hid (show beginsB (L.map bs) (bs s) = true from begins_iff.2 ⟨bs x, List.mem_of_getElem? hxb, by rw [← he, hxe]; exact List.take_prefix _ _⟩)
          have hq : ((x.extract 0 s.size).toList == s.toList) = true := by rw [he]; exact str_beq_self s
          clear hx hxb he hno hxe
          go_wp2
          go_ret
          exact ⟨ret_b HR.out.symm, rfl⟩
        · have hq := str_beq_ne he
          have HN := Lib.hid (hno fun hpx => he (bs_inj (by rw [hxe, size_bs]; rw [List.prefix_iff_eq_take] at hpx; exact hpx.symm)))
          clear hx hxb he hno hxe
          go_wp2
          go_round
          case rel => exact ⟨k + 1, by omega, by go_num, HN.out⟩
          case measure => simp [intOf]; omega
      · have hle' : ¬ (s.size : Int) ≤ x.size := by omega
        have HN := Lib.hid (hno fun hpx => by have := hpx.length_le; rw [← size_bs, ← size_bs] at this; omega)
        clear hx hxb hno
        go_wp2
        go_round
        case rel => exact ⟨k + 1, by omega, by go_num, HN.out⟩
        case measure => simp [intOf]; omega
    · obtain rfl : k = n := by omega
      have HR := Lib.hid (show beginsB (L.map bs) (bs s) = false by
        have := HP.out
        rwa [List.take_of_length_le (by rw [List.length_map, HL.out]; exact Nat.le_refl _)] at this)
      go_wp2
      go_ret
      exact ⟨ret_b HR.out.symm, rfl⟩
end Go.Proofs.Ythhlpbopbabojaa
