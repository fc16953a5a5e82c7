/-
  (*Trie).ends as an iterator; Longest, Find, walked.
-/
import Derived.Test.YthhlpbopbabojaaRange2
import Derived.Test.YthhlpbopbabojaaNew
import Derived.Test.YthhlpbopbabojaaLongP
import Derived.Sort.QuietIn
namespace Go.Proofs.Ythhlpbopbabojaa
open Go.RowKit Go.Shelf
attribute [local go_sem] Oper.semAt_some
theorem wide_fn (f : FuncId) : Fence.wide.fn f = True := rfl
attribute [local go_sem] wide_fn

theorem TrieAt.kept {w w' : World} {base b : Nat} {L : List ByteArray} {P : List Pth} {ns : List (Nat × Int)} (h : TrieAt w base b L P ns) (hk : ∀ k, base ≤ k → k < w.heap.size → w'.heap[k]? = w.heap[k]?) : TrieAt w' base b L P ns := by
  obtain ⟨A, c, B, d, hb, ho, hn, hl, hm, hi, h1, h2, h3⟩ := h
  exact ⟨A, c, B, d, (hk b h1 hb.lt).trans hb, ho.keep fun k hk' => hk k (h2 k hk') (ho.lt hk'), hn.keep fun k hk' => hk k (h3 k hk') (hn.lt hk'), hl,
    fun i x hx => ⟨(hm i x hx).1, (hm i x hx).2.kept (hk _ (hm i x hx).1 (hm i x hx).2.lt)⟩, hi, h1, h2, h3⟩

/-- what the rounds must leave alone: the trie's blocks (of w0), and the two captured ones -/
def KE (base n0 b1 b2 : Nat) (k : Nat) : Prop := (base ≤ k ∧ k < n0) ∨ k = b1 ∨ k = b2

set_option maxRecDepth 100000 in
set_option maxHeartbeats 4000000 in
theorem ends_in (n : Nat) (hn : 1 ≤ n) (l b1 b2 base b : Nat) (s : ByteArray) (hs : s.size ≤ 1048576) (w0 : World) (L : List ByteArray) (P : List Pth) (ns : List (Nat × Int)) (ht0 : TrieAt w0 base b L P ns) (hfu : Full (L.map bs) P ns) (J : List (Nat × Nat) → World → Prop)
    (hJ : ∀ q A B, J q A → Fr Nil A B → J q B)
    (hY : ∀ pre x A, J pre A → YieldAt Fence.wide (n - 1) Try.prog l #[.int .i64 ((x : Nat × Nat).1 : Int), .int .i64 (x.2 : Int)] A fun e B => e = .returned (.bool true) ∧ J (pre ++ [x]) B ∧ Kept (KE base w0.heap.size b1 b2) A B)
    (W : World) (hk0 : ∀ k, base ≤ k → k < w0.heap.size → W.heap[k]? = w0.heap[k]?) (hB1 : Blk W b1 9 #[.string s]) (hB2 : Blk W b2 25 #[.pointer (some ⟨b, 0, none⟩)]) (h0 : J [] W) :
    CallsIn Fence.wide n Try.prog 29 #[.func (.yield l) #[] #[], .pointer (some ⟨b1, 0, none⟩), .pointer (some ⟨b2, 0, none⟩)] W fun e B => (∃ v, e = .returned v) ∧ ∃ xs, xs = endsTo (L.map bs) (bs s) s.size ∧ J xs B := by
  have hro : Fence.wide.round = none := rfl
  have HS := Lib.hid (size_bs s)
  refine callsIn_of_wp Try.func29 rfl trivial ?_ hro
  simp only [Try.ntmps29, List.size_toArray, List.length_cons, List.length_nil, Nat.reduceAdd, Nat.reduceSub, Array.replicate_succ, Array.replicate_zero, List.push_toArray, List.append_toArray, List.nil_append, List.cons_append]
  have hc1 := hB1.cell 0
  simp at hc1
  gi_wp2
  gi_loopw [4, 5, 6, 7, 8, 9, 12] (fun a _ _ _ _ _ i wr => ∃ k j : Nat, i = .int .i64 k ∧ k ≤ s.size ∧ a = .int .i64 j ∧ P[j]? = some ((bs s).take k) ∧ Kept (KE base w0.heap.size b1 b2) W wr ∧ J (endsTo (L.map bs) (bs s) k) wr)
    (fun _ _ _ _ _ _ i _ => s.size - (intOf i).toNat)
  case atStart => exact ⟨0, 0, rfl, Nat.zero_le _, rfl, hfu.good.root, Kept.refl _ _, h0⟩
  case round =>
    clear hc1
    obtain ⟨k, j, rfl, hk, rfl, hp, hkp, hj⟩ := hrel
    have c1 : Blk wr b1 9 #[.string s] := (hkp b1 (.inr (.inl rfl))).trans hB1
    have c2 : Blk wr b2 25 #[.pointer (some ⟨b, 0, none⟩)] := (hkp b2 (.inr (.inr rfl))).trans hB2
    have ht : TrieAt wr base b L P ns := ht0.kept fun i h1 h2 => (hkp i (.inl ⟨h1, h2⟩)).trans (hk0 i h1 h2)
    have d1 := c1.cell 0
    have d2 := c2.cell 0
    simp at d1 d2
    have hjl : j < P.length := (List.getElem?_eq_some_iff.1 hp).1
    by_cases hlt : k < s.size
    · obtain ⟨c, hc⟩ : ∃ c, (bs s)[k]? = some c := ⟨_, List.getElem?_eq_getElem (by rw [← HS.out]; exact hlt)⟩
      have hix := run_index_at (P := Try.prog) Try.underlying9 hc
      have hst : ∀ w, TrieAt w base b L P ns → Calls Try.prog 11 #[.pointer (some ⟨b, 0, none⟩), .int .i64 j, .int .u8 (c.toNat : Int)] w fun e w' => e = .returned (.tuple #[.int .i64 (((kid P j c).getD 0 : Nat) : Int), .bool (kid P j c).isSome]) ∧ w = w' := fun w h => by
        have h1 := step_any w base b L P ns h j c
        have h2 : stepR P j c = ((((kid P j c).getD 0 : Nat) : Int), (kid P j c).isSome) := by unfold stepR; rw [if_pos ⟨by omega, by omega⟩]; rfl
        rw [h2] at h1
        exact h1
      cases hkd : kid P j c with
      | none =>
        rw [hkd] at hst
        have HE := Lib.hid (show endsTo (L.map bs) (bs s) s.size = endsTo (L.map bs) (bs s) k by
          have h1 : (bs s).take (k + 1) ∉ P := by
            rw [take_succ_at hc]
            rw [kid_at hp] at hkd
            exact idx_none.1 hkd
          have := endsTo_stop hfu h1 (s.size - k) (by rw [← HS.out]; omega)
          rwa [show k + (s.size - k) = s.size by omega] at this)
        clear hc hkd hp
        gi_wp2
        gi_quiet ((gi_at_call 11; exact CallsIn.mono (callsIn_wide.2 (hst (wr.drewN _) (ht.fr ((Fr.rfl' Nil wr).drewN _) fun _ _ _ x => x))) fun e w' h => ⟨h.1, _, h.2.symm⟩))
        gi_wp2
        refine bodyPost_ret (results_none rfl _ _ _) rfl ?_
        exact ⟨⟨_, rfl⟩, _, HE.out.symm, hJ _ _ _ hj ((Fr.rfl' Nil wr).drewN _)⟩
      | some j' =>
        rw [hkd] at hst
        have hp' : P[j']? = some ((bs s).take (k + 1)) := by
          rw [kid_at hp, ← take_succ_at hc] at hkd
          exact idx_get hkd
        have hjl' : j' < P.length := (List.getElem?_eq_some_iff.1 hp').1
        obtain ⟨x, hx⟩ : ∃ x, ns[j']? = some x := ⟨_, List.getElem?_eq_getElem (by rw [len_of_trie ht]; exact hjl')⟩
        have hgd : ns.getD j' (0, -1) = x := by rw [List.getD_eq_getElem?_getD, hx]; rfl
        have HP' := Lib.hid hp'
        have hwd := ends_word hfu hp' hx
        have hwr : wordR P ns j' = if x.2 = -1 then (0, false) else (x.2, true) := by
          unfold wordR
          rw [show ((j' : Int)).toNat = j' from rfl, hgd]
          by_cases h : x.2 = -1
          · rw [if_neg (fun e => e.2.2 h), if_pos h]
          · rw [if_pos ⟨by omega, by omega, h⟩, if_neg h]
        have hwc : ∀ w, TrieAt w base b L P ns → Calls Try.prog 13 #[.pointer (some ⟨b, 0, none⟩), .int .i64 j'] w fun e w' => e = .returned (.tuple #[.int .i64 (wordR P ns j').1, .bool (wordR P ns j').2]) ∧ w = w' := fun w h => twrd_any w base b L P ns h j'
        have htq : ∀ q, TrieAt (wr.drewN q) base b L P ns := fun q => ht.fr ((Fr.rfl' Nil wr).drewN _) fun _ _ _ x => x
        rcases hwd with ⟨hx2, hin⟩ | ⟨m, hx2, hin⟩
        · have HE := Lib.hid (show endsTo (L.map bs) (bs s) (k + 1) = endsTo (L.map bs) (bs s) k by rw [endsTo, hin]; simp)
          rw [if_pos hx2] at hwr
          rw [hwr] at hwc
          have HST := Lib.hid hst
          have HWC := Lib.hid hwc
          clear hc hkd hp hp' hx hgd hx2 hin hwr hst hwc
          gi_wp2
          gi_quiet ((gi_at_call 11; exact CallsIn.mono (callsIn_wide.2 (HST.out (wr.drewN _) (ht.fr ((Fr.rfl' Nil wr).drewN _) fun _ _ _ x => x))) fun e w' h => ⟨h.1, _, h.2.symm⟩))
          gi_wp2
          refine (callsIn_wide.2 (HWC.out _ (htq _))).mono ?_
          rintro e w' ⟨rfl, rfl⟩
          gi_wp2
          go_roundw
          case rel => exact ⟨k + 1, j', by go_num, by omega, rfl, HP'.out, hkp, by rw [HE.out]; exact hJ _ _ _ hj ((Fr.rfl' Nil wr).drewN _)⟩
          case measure => simp [intOf]; omega
        · have HE := Lib.hid (show endsTo (L.map bs) (bs s) (k + 1) = endsTo (L.map bs) (bs s) k ++ [(m, k + 1)] by rw [endsTo, hin])
          rw [if_neg (by omega), hx2] at hwr
          rw [hwr] at hwc
          have HST := Lib.hid hst
          have HWC := Lib.hid hwc
          clear hc hkd hp hp' hx hgd hx2 hin hwr hst hwc
          gi_wp2
          gi_quiet ((gi_at_call 11; exact CallsIn.mono (callsIn_wide.2 (HST.out (wr.drewN _) (ht.fr ((Fr.rfl' Nil wr).drewN _) fun _ _ _ x => x))) fun e w' h => ⟨h.1, _, h.2.symm⟩))
          have hjq := hJ _ _ _ hj ((Fr.rfl' Nil wr).drewN nq)
          obtain ⟨fn, tmps, assign, body, hy, hR⟩ := hY (endsTo (L.map bs) (bs s) k) (m, k + 1) (wr.drewN nq) hjq
          dsimp only at hy
          rw [show (((k + 1 : Nat)) : Int) = (k : Int) + 1 by omega] at hy
          gi_wp2
          refine (callsIn_wide.2 (HWC.out _ (htq _))).mono ?_
          rintro e w' ⟨rfl, rfl⟩
          gi_wp2
          refine hR.mono ?_
          rintro e W3 ⟨rfl, hJ3, hk3⟩
          gi_wp2
          go_roundw
          case rel => exact ⟨k + 1, j', by go_num, by omega, rfl, HP'.out, hkp.trans hk3, by rw [HE.out]; exact hJ3⟩
          case measure => simp [intOf]; omega
    · obtain rfl : k = s.size := by omega
      gi_wp2
      go_end0
      exact ⟨⟨_, rfl⟩, _, rfl, hj⟩
end Go.Proofs.Ythhlpbopbabojaa
