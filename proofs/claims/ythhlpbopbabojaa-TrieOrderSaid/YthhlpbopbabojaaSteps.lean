/-
  The laws of chapter 4 that need no sorting, walked: awake, TrieSteps, TrieApart.
-/
import Derived.Test.YthhlpbopbabojaaTRef
namespace Go.Proofs.Ythhlpbopbabojaa
open Go.RowKit

theorem str_reads (w : World) (a b : ByteArray) : Reads (w.alloc (.cells #[.string a, .string b] 9)) (w.alloc (.cells #[.string a, .string b] 9)).heap.size 1 (some ⟨w.heap.size, 0, none⟩) 2 ([a, b].map .string) :=
  (Own.lit (size := 1) (e := 9) w #[.string a, .string b] 2 (by unfold maxLen; omega) rfl).reads

set_option maxRecDepth 100000 in
set_option maxHeartbeats 1000000 in
theorem awake_any (w : World) : Calls Try.prog 8 #[] w fun e w' => e = .returned (.bool true) ∧ Fr Nil w w' := by
  have h1 := Lib.hid (fun (W : World) => new_any (W.alloc (.cells #[.string ⟨#[110, 111, 116]⟩, .string ⟨#[110, 111, 116, 105, 110, 59]⟩] 9)) (some ⟨W.heap.size, 0, none⟩) 2 2 [⟨#[110, 111, 116]⟩, ⟨#[110, 111, 116, 105, 110, 59]⟩] (str_reads W _ _))
  have hodd : ([⟨#[110, 111, 116]⟩, ⟨#[110, 111, 116, 105, 110, 59]⟩] : List ByteArray).any oddS = false := by decide +kernel
  have hnd : (([⟨#[110, 111, 116]⟩, ⟨#[110, 111, 116, 105, 110, 59]⟩] : List ByteArray).map bs).Nodup := by decide +kernel
  have hl : longR (([⟨#[110, 111, 116]⟩, ⟨#[110, 111, 116, 105, 110, 59]⟩] : List ByteArray).map bs) (bs ⟨#[110, 111, 116, 105, 110, 103]⟩) = (0, 3) := by decide +kernel
  have hf : findR (([⟨#[110, 111, 116]⟩, ⟨#[110, 111, 116, 105, 110, 59]⟩] : List ByteArray).map bs) (bs ⟨#[110, 111, 116, 105, 110, 59]⟩) = (1, true) := by decide +kernel
  have h0 : [] ∉ (([⟨#[110, 111, 116]⟩, ⟨#[110, 111, 116, 105, 110, 59]⟩] : List ByteArray).map bs) := by decide +kernel
  have HO := Lib.hid hodd
  have HD := Lib.hid hnd
  have HL := Lib.hid hl
  have HF := Lib.hid hf
  have H0 := Lib.hid h0
  clear hodd hnd hl hf h0
  go_enter Try.func8, Try.ntmps8
  go_wp2_with fail
  refine (h1.out _).mono ?_
  rintro e w1 ⟨f1, hcase⟩
  rcases hcase with ⟨hc, _⟩ | ⟨_, hc, _⟩ | ⟨_, _, hc, _⟩ | ⟨_, _, _, b, P, ns, rfl, ht, hfu, _⟩
  · simp at hc
  · rw [HO.out] at hc; cases hc
  · exact (hc HD.out).elim
  · have c1 := longest_any w1 _ b ⟨#[110, 111, 116, 105, 110, 103]⟩ (by decide) _ P ns ht hfu
    rw [HL.out] at c1
    have c2 := fun w2 (h : Fr Nil w1 w2) => tfind_any w2 _ b ⟨#[110, 111, 116, 105, 110, 59]⟩ (by decide) _ P ns (ht.fr h fun _ _ _ x => x) hfu H0.out
    rw [HF.out] at c2
    have C1 := Lib.hid c1
    have C2 := Lib.hid c2
    have F1 := Lib.hid (show Fr Nil w w1 from ((Fr.rfl' Nil w).alloc _).trans f1)
    clear c1 c2 ht hfu f1
    go_wp2_with fail
    refine C1.out.mono ?_
    rintro e w2 ⟨rfl, f2⟩
    go_wp2_with fail
    refine (C2.out w2 f2).mono ?_
    rintro e w3 ⟨rfl, f3⟩
    go_wp2_with fail
    go_ret
    exact ⟨rfl, (F1.out.trans f2).trans f3⟩

theorem fewB_len {L : List ByteArray} (h : fewB L = true) : L.length ≤ 120 := by
  unfold fewB at h
  simp at h
  exact h.2
theorem not_odd_nil {L : List ByteArray} (h : L.any oddS = false) : [] ∉ L.map bs := by
  intro hm
  obtain ⟨s, hs, he⟩ := List.mem_map.1 hm
  rw [List.any_eq_false] at h
  have := h s hs
  unfold oddS at this
  rw [size_bs, he] at this
  simp at this
theorem step_kid {P : List Pth} {j : Nat} (hj : j < P.length) (c : UInt8) : stepR P j c = ((((kid P j c).getD 0 : Nat) : Int), (kid P j c).isSome) := by
  unfold stepR
  rw [if_pos ⟨by omega, by omega⟩]
  rfl
theorem bne_self' (z : Int) : (z != z) = false := by simp
theorem bne_selfb (z : Bool) : (z != z) = false := by simp

set_option maxRecDepth 100000 in
set_option maxHeartbeats 4000000 in
theorem steps_any (w : World) (A : Option Addr) (n c : Nat) (L : List ByteArray) (s : ByteArray) (hr : Reads w w.heap.size 1 A n (L.map .string)) (hn : n ≤ maxLen) :
    Calls Try.prog 3 #[.slice A n c, .string s] w fun e w' => e = .returned (.bool true) ∧ Fr Nil w w' := by
  have hl : L.length = n := by simpa using hr.1
  have HL := Lib.hid hl
  have HFW := Lib.hid (fun (w1 : World) (h : Fr Nil w w1) => few_any w1 A n c L w.heap.size (hr.fr h (Nat.le_refl _) fun _ x => x.elim) hn)
  clear hl
  cases hfew : fewB L with
  | false =>
    have HF := Lib.hid hfew
    clear hfew
    go_enter Try.func3, Try.ntmps3
    go_wp2_with fail
    refine (awake_any w).mono ?_
    rintro e w1 ⟨rfl, f1⟩
    go_wp2_with fail
    refine (HFW.out w1 f1).mono ?_
    rintro e w2 ⟨rfl, rfl⟩
    rw [HF.out]
    go_wp2_with fail
    go_ret
    exact ⟨rfl, f1⟩
  | true =>
    have hn120 := fewB_len hfew
    rw [HL.out] at hn120
    have HF := Lib.hid hfew
    clear hfew
    by_cases hb : 200 < s.size
    · have hb' : (200 : Int) < s.size := by omega
      go_enter Try.func3, Try.ntmps3
      go_wp2_with fail
      refine (awake_any w).mono ?_
      rintro e w1 ⟨rfl, f1⟩
      go_wp2_with fail
      refine (HFW.out w1 f1).mono ?_
      rintro e w2 ⟨rfl, rfl⟩
      rw [HF.out]
      go_wp2_with fail
      go_ret
      exact ⟨rfl, f1⟩
    · have hb' : ¬ (200 : Int) < s.size := by omega
      have HS := Lib.hid (size_bs s)
      go_enter Try.func3, Try.ntmps3
      go_wp2_with fail
      refine (awake_any w).mono ?_
      rintro e w1 ⟨rfl, f1⟩
      go_wp2_with fail
      refine (HFW.out w1 f1).mono ?_
      rintro e w2 ⟨rfl, rfl⟩
      rw [HF.out]
      have hr1 := (hr.fr f1 (Nat.le_refl _) fun _ x => x.elim).more f1.size
      go_wp2_with fail
      refine (new_any w1 A n c L hr1).mono ?_
      rintro e w2 ⟨f2, hcase⟩
      rcases hcase with ⟨_, rfl⟩ | ⟨_, _, rfl⟩ | ⟨_, _, _, rfl⟩ | ⟨_, hodd, hnd, b, P, ns, rfl, ht, hfu, hpl⟩
      · go_wp2_with fail
        go_ret
        exact ⟨rfl, f1.trans f2⟩
      · go_wp2_with fail
        go_ret
        exact ⟨rfl, f1.trans f2⟩
      · go_wp2_with fail
        go_ret
        exact ⟨rfl, f1.trans f2⟩
      · have hr2 := hr1.fr f2 (Nat.le_refl _) fun _ x => x.elim
        have H0 := Lib.hid hodd
        have HND := Lib.hid hnd
        clear hodd hnd
        go_wp2_with fail
        go_loop [9, 10, 11, 12, 13, 14, 15, 16] (fun a i _ _ _ _ _ _ => ∃ k j : Nat, k ≤ s.size ∧ i = .int .i64 k ∧ a = .int .i64 j ∧ P[j]? = some ((bs s).take k)) (fun _ i _ _ _ _ _ _ => s.size - (intOf i).toNat)
        case atStart => exact ⟨0, 0, Nat.zero_le _, rfl, rfl, hfu.good.root⟩
        case round =>
          obtain ⟨k, j, hk, rfl, rfl, hp⟩ := hrel
          by_cases hlt : k < s.size
          · obtain ⟨x, hx⟩ : ∃ x, (bs s)[k]? = some x := ⟨_, List.getElem?_eq_getElem (by rw [← HS.out]; exact hlt)⟩
            have hix := run_index_at (P := Try.prog) Try.underlying9 hx
            have hjl : j < P.length := (List.getElem?_eq_some_iff.1 hp).1
            have hst := step_any w2 _ b L P ns ht j x
            rw [step_kid hjl] at hst
            have hk1 : ((k : Int) + 1).toNat = k + 1 := by omega
            have hbe : bs (s.extract 0 (k + 1)) = (bs s).take (k + 1) := by rw [bs_extract]; rfl
            have hes : (s.extract 0 (k + 1)).size ≤ 1048576 := by rw [size_bs, hbe, List.length_take, ← HS.out]; omega
            have hne : (bs s).take (k + 1) ≠ [] := by
              intro e
              have := congrArg List.length e
              rw [List.length_take, ← HS.out, List.length_nil] at this
              omega
            have hbg := begins_any w2 A n c L _ (s.extract 0 (k + 1)) hes hr2 (by omega)
            rw [hbe, begins_mem hfu hne] at hbg
            have hrf := rfind_any w2 A n c L _ (s.extract 0 (k + 1)) hr2 (by omega)
            rw [hbe] at hrf
            have hkd : kid P j x = idx P ((bs s).take (k + 1)) := by rw [kid_at hp, ← take_succ_at hx]
            rw [hkd] at hst
            cases hi : idx P ((bs s).take (k + 1)) with
            | none =>
              rw [decide_eq_false (idx_none.1 hi)] at hbg
              rw [hi] at hst
              have HST := Lib.hid hst
              have HBG := Lib.hid hbg
              clear hi hkd hst hbg hrf hbe hx hp
              go_wp2_with fail
              refine HST.out.mono ?_
              rintro e w3 ⟨rfl, rfl⟩
              go_wp2_with fail
              refine HBG.out.mono ?_
              rintro e w3 ⟨rfl, rfl⟩
              go_wp2_with fail
              go_ret
              exact ⟨rfl, f1.trans f2⟩
            | some j' =>
              have hp' := idx_get hi
              have hjl' : j' < P.length := (List.getElem?_eq_some_iff.1 hp').1
              rw [decide_eq_true (List.mem_of_getElem? hp')] at hbg
              rw [hi] at hst
              have hwd := twrd_any w2 _ b L P ns ht j'
              have hwr : wordR P ns j' = findR (L.map bs) ((bs s).take (k + 1)) := wordR_find hfu (len_of_trie ht) hp'
              rw [hwr] at hwd
              have HST := Lib.hid hst
              have HBG := Lib.hid hbg
              have HP' := Lib.hid hp'
              generalize hgr : findR (L.map bs) ((bs s).take (k + 1)) = r at *
              have HWD := Lib.hid hwd
              have HRF := Lib.hid hrf
              have q1 := bne_self' r.1
              have q2 := bne_selfb r.2
              clear hi hkd hst hbg hrf hbe hx hp hwd hwr hp' hgr
              go_wp2_with fail
              refine HST.out.mono ?_
              rintro e w3 ⟨rfl, rfl⟩
              go_wp2_with fail
              refine HBG.out.mono ?_
              rintro e w3 ⟨rfl, rfl⟩
              go_wp2_with fail
              refine HWD.out.mono ?_
              rintro e w3 ⟨rfl, rfl⟩
              go_wp2_with fail
              refine HRF.out.mono ?_
              rintro e w3 ⟨rfl, rfl⟩
              go_wp2_with fail
              go_round
              case rel => exact ⟨k + 1, j', by omega, by go_num, rfl, HP'.out⟩
              case measure => simp [intOf]; omega
          · go_wp2_with fail
            go_ret
            exact ⟨rfl, f1.trans f2⟩
end Go.Proofs.Ythhlpbopbabojaa
