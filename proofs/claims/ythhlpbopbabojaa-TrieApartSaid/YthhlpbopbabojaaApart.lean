/-
  The law TrieApart, walked.
-/
import Derived.Test.YthhlpbopbabojaaSteps
namespace Go.Proofs.Ythhlpbopbabojaa
open Go.RowKit

theorem begins_path {Lb P : List Pth} {ns : List (Nat × Int)} (h : Full Lb P ns) {s : Pth} (hb : beginsB Lb s = true) (k : Nat) : s.take k ∈ P := by
  obtain ⟨x, hx, hp⟩ := begins_iff.1 hb
  exact (h.mem _).2 (.inr ⟨x, hx, (List.take_prefix _ _).trans hp⟩)

set_option maxRecDepth 100000 in
set_option maxHeartbeats 8000000 in
theorem apart_any (w : World) (A : Option Addr) (n c : Nat) (L : List ByteArray) (s t : ByteArray) (hr : Reads w w.heap.size 1 A n (L.map .string)) (hn : n ≤ maxLen) :
    Calls Try.prog 4 #[.slice A n c, .string s, .string t] w fun e w' => e = .returned (.bool true) ∧ Fr Nil w w' := by
  have hl : L.length = n := by simpa using hr.1
  have HL := Lib.hid hl
  have HFW := Lib.hid (fun (w1 : World) (h : Fr Nil w w1) => few_any w1 A n c L w.heap.size (hr.fr h (Nat.le_refl _) fun _ x => x.elim) hn)
  clear hl
  cases hfew : fewB L with
  | false =>
    have HF := Lib.hid hfew
    clear hfew
    go_enter Try.func4, Try.ntmps4
    go_wp2_with fail
    refine (awake_any w).mono ?_
    rintro e w1 ⟨rfl, f1⟩
    go_wp2_with fail
    refine (HFW.out w1 f1).mono ?_
    rintro e w2 ⟨rfl, rfl⟩
    rw [HF.out]
    go_wp2_with fail
    go_ret
    exact ⟨rfl, f1⟩
  | true =>
    have hn120 := fewB_len hfew
    rw [HL.out] at hn120
    have HF := Lib.hid hfew
    clear hfew
    by_cases hb : 100 < s.size
    · have hb' : (100 : Int) < s.size := by omega
      go_enter Try.func4, Try.ntmps4
      go_wp2_with fail
      refine (awake_any w).mono ?_
      rintro e w1 ⟨rfl, f1⟩
      go_wp2_with fail
      refine (HFW.out w1 f1).mono ?_
      rintro e w2 ⟨rfl, rfl⟩
      rw [HF.out]
      go_wp2_with fail
      go_ret
      exact ⟨rfl, f1⟩
    · have hb' : ¬ (100 : Int) < s.size := by omega
      by_cases hc : 100 < t.size
      · have hc' : (100 : Int) < t.size := by omega
        go_enter Try.func4, Try.ntmps4
        go_wp2_with fail
        refine (awake_any w).mono ?_
        rintro e w1 ⟨rfl, f1⟩
        go_wp2_with fail
        refine (HFW.out w1 f1).mono ?_
        rintro e w2 ⟨rfl, rfl⟩
        rw [HF.out]
        go_wp2_with fail
        go_ret
        exact ⟨rfl, f1⟩
      · have hc' : ¬ (100 : Int) < t.size := by omega
        have HS := Lib.hid (size_bs s)
        have HT := Lib.hid (size_bs t)
        go_enter Try.func4, Try.ntmps4
        go_wp2_with fail
        refine (awake_any w).mono ?_
        rintro e w1 ⟨rfl, f1⟩
        go_wp2_with fail
        refine (HFW.out w1 f1).mono ?_
        rintro e w2 ⟨rfl, rfl⟩
        rw [HF.out]
        have hr1 := (hr.fr f1 (Nat.le_refl _) fun _ x => x.elim).more f1.size
        go_wp2_with fail
        refine (new_any w1 A n c L hr1).mono ?_
        rintro e w2 ⟨f2, hcase⟩
        rcases hcase with ⟨_, rfl⟩ | ⟨_, _, rfl⟩ | ⟨_, _, _, rfl⟩ | ⟨_, hodd, hnd, b, P, ns, rfl, ht, hfu, hpl⟩
        · go_wp2_with fail
          go_ret
          exact ⟨rfl, f1.trans f2⟩
        · go_wp2_with fail
          go_ret
          exact ⟨rfl, f1.trans f2⟩
        · go_wp2_with fail
          go_ret
          exact ⟨rfl, f1.trans f2⟩
        · have hr2 := hr1.fr f2 (Nat.le_refl _) fun _ x => x.elim
          have H0 := Lib.hid hodd
          have HND := Lib.hid hnd
          have B1 := Lib.hid (begins_any w2 A n c L _ s (by omega) hr2 (by omega))
          have B2 := Lib.hid (begins_any w2 A n c L _ t (by omega) hr2 (by omega))
          clear hodd hnd
          cases hba : beginsB (L.map bs) (bs s) with
          | false =>
            have HBA := Lib.hid hba
            clear hba
            go_wp2_with fail
            refine B1.out.mono ?_
            rintro e w3 ⟨rfl, rfl⟩
            rw [HBA.out]
            go_wp2_with fail
            go_ret
            exact ⟨rfl, f1.trans f2⟩
          | true =>
            cases hbb : beginsB (L.map bs) (bs t) with
            | false =>
              have HBA := Lib.hid hba
              have HBB := Lib.hid hbb
              clear hba hbb
              go_wp2_with fail
              refine B1.out.mono ?_
              rintro e w3 ⟨rfl, rfl⟩
              rw [HBA.out]
              go_wp2_with fail
              refine B2.out.mono ?_
              rintro e w3 ⟨rfl, rfl⟩
              rw [HBB.out]
              go_wp2_with fail
              go_ret
              exact ⟨rfl, f1.trans f2⟩
            | true =>
              have HPA := Lib.hid (begins_path hfu hba)
              have HPB := Lib.hid (begins_path hfu hbb)
              have HBA := Lib.hid hba
              have HBB := Lib.hid hbb
              clear hba hbb
              go_wp2_with fail
              refine B1.out.mono ?_
              rintro e w3 ⟨rfl, rfl⟩
              rw [HBA.out]
              go_wp2_with fail
              refine B2.out.mono ?_
              rintro e w3 ⟨rfl, rfl⟩
              rw [HBB.out]
              go_wp2_with fail
              go_loop [11, 13] (fun a i => ∃ k j : Nat, k ≤ s.size ∧ i = .int .i64 k ∧ a = .int .i64 j ∧ P[j]? = some ((bs s).take k)) (fun _ i => s.size - (intOf i).toNat)
              case atStart => exact ⟨0, 0, Nat.zero_le _, rfl, rfl, hfu.good.root⟩
              case round =>
                obtain ⟨k, j, hk, rfl, rfl, hp⟩ := hrel
                by_cases hlt : k < s.size
                · obtain ⟨x, hx⟩ : ∃ x, (bs s)[k]? = some x := ⟨_, List.getElem?_eq_getElem (by rw [← HS.out]; exact hlt)⟩
                  have hix := run_index_at (P := Try.prog) Try.underlying9 hx
                  have hjl : j < P.length := (List.getElem?_eq_some_iff.1 hp).1
                  have hst := step_any w2 _ b L P ns ht j x
                  rw [step_kid hjl, kid_at hp, ← take_succ_at hx] at hst
                  obtain ⟨j', hj'⟩ := List.getElem?_of_mem (HPA.out (k + 1))
                  rw [idx_of hfu.good.nodup hj'] at hst
                  have HST := Lib.hid hst
                  have HJ := Lib.hid hj'
                  clear hst hj' hx hp
                  go_wp2_with fail
                  refine HST.out.mono ?_
                  rintro e w3 ⟨rfl, rfl⟩
                  go_wp2_with fail
                  go_round
                  case rel => exact ⟨k + 1, j', by omega, by go_num, rfl, HJ.out⟩
                  case measure => simp [intOf]; omega
                · obtain rfl : k = s.size := by omega
                  have HJA := Lib.hid (show P[j]? = some (bs s) by rw [hp, List.take_of_length_le (by rw [HS.out]; exact Nat.le_refl _)])
                  clear hp
                  go_wp2_with fail
                  go_loop [12, 14] (fun a i => ∃ k j : Nat, k ≤ t.size ∧ i = .int .i64 k ∧ a = .int .i64 j ∧ P[j]? = some ((bs t).take k)) (fun _ i => t.size - (intOf i).toNat)
                  case atStart => exact ⟨0, 0, Nat.zero_le _, rfl, rfl, hfu.good.root⟩
                  case round =>
                    obtain ⟨k, i, hk2, rfl, rfl, hp⟩ := hrel
                    by_cases hlt2 : k < t.size
                    · obtain ⟨x, hx⟩ : ∃ x, (bs t)[k]? = some x := ⟨_, List.getElem?_eq_getElem (by rw [← HT.out]; exact hlt2)⟩
                      have hix := run_index_at (P := Try.prog) Try.underlying9 hx
                      have hjl : i < P.length := (List.getElem?_eq_some_iff.1 hp).1
                      have hst := step_any w2 _ b L P ns ht i x
                      rw [step_kid hjl, kid_at hp, ← take_succ_at hx] at hst
                      obtain ⟨j', hj'⟩ := List.getElem?_of_mem (HPB.out (k + 1))
                      rw [idx_of hfu.good.nodup hj'] at hst
                      have HST := Lib.hid hst
                      have HJ := Lib.hid hj'
                      clear hst hj' hx hp
                      go_wp2_with fail
                      refine HST.out.mono ?_
                      rintro e w3 ⟨rfl, rfl⟩
                      go_wp2_with fail
                      go_round
                      case rel => exact ⟨k + 1, j', by omega, by go_num, rfl, HJ.out⟩
                      case measure => simp [intOf]; omega
                    · obtain rfl : k = t.size := by omega
                      have hJB : P[i]? = some (bs t) := by rw [hp, List.take_of_length_le (by rw [HT.out]; exact Nat.le_refl _)]
                      clear hp
                      have hs1 : stepR P (-1) 97 = (0, false) := by unfold stepR; rw [if_neg (by omega)]
                      have hw1 : wordR P ns (-1) = (0, false) := by unfold wordR; rw [if_neg (by omega)]
                      have hw0 : wordR P ns 0 = (0, false) := by
                        have h1 : wordR P ns ((0 : Nat) : Int) = findR (L.map bs) [] := wordR_find hfu (len_of_trie ht) hfu.good.root
                        have h2 : findR (L.map bs) [] = (0, false) := by unfold findR; rw [idx_none.2 (not_odd_nil H0.out)]
                        rw [← h2, ← h1]
                        rfl
                      have e1 := step_any w2 _ b L P ns ht (-1) 97
                      have e2 := twrd_any w2 _ b L P ns ht (-1)
                      have e3 := twrd_any w2 _ b L P ns ht 0
                      rw [hs1] at e1
                      rw [hw1] at e2
                      rw [hw0] at e3
                      have E1 := Lib.hid e1
                      have E2 := Lib.hid e2
                      have E3 := Lib.hid e3
                      clear hs1 hw1 hw0 e1 e2 e3
                      by_cases he : s = t
                      · have hij : j = i := by
                          have a1 := idx_of hfu.good.nodup HJA.out
                          have a2 := idx_of hfu.good.nodup hJB
                          rw [he, a2] at a1
                          injection a1 with a1
                          exact a1.symm
                        subst hij
                        subst he
                        have q1 := str_beq_self s
                        clear hJB
                        go_wp2_with fail
                        refine E1.out.mono ?_
                        rintro e w3 ⟨rfl, rfl⟩
                        go_wp2_with fail
                        refine E2.out.mono ?_
                        rintro e w3 ⟨rfl, rfl⟩
                        go_wp2_with fail
                        refine E3.out.mono ?_
                        rintro e w3 ⟨rfl, rfl⟩
                        go_wp2_with fail
                        go_ret
                        exact ⟨rfl, f1.trans f2⟩
                      · have hij : ¬ j = i := by
                          intro h
                          have a1 := HJA.out
                          rw [h, hJB] at a1
                          injection a1 with a1
                          exact he (bs_inj a1.symm)
                        have q0 : ((j : Int) == (i : Int)) = false := by simp; omega
                        have q1 := str_beq_ne he
                        clear hJB hij he
                        go_wp2_with fail
                        refine E1.out.mono ?_
                        rintro e w3 ⟨rfl, rfl⟩
                        go_wp2_with fail
                        refine E2.out.mono ?_
                        rintro e w3 ⟨rfl, rfl⟩
                        go_wp2_with fail
                        refine E3.out.mono ?_
                        rintro e w3 ⟨rfl, rfl⟩
                        go_wp2_with fail
                        go_ret
                        exact ⟨rfl, f1.trans f2⟩
end Go.Proofs.Ythhlpbopbabojaa
