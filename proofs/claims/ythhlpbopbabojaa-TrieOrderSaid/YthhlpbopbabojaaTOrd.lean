/-
  TrieOrder, walked. (Printed by gen_tord.py.)
-/
import Derived.Test.YthhlpbopbabojaaTAll
namespace Go.Proofs.Ythhlpbopbabojaa
open Go.RowKit

/-! ### plain -/
theorem lastOf_mem {Lb : List Pth} {s : Pth} : ∀ k, 0 < (lastOf (endsTo Lb s k)).2 → ∃ j : Nat, (lastOf (endsTo Lb s k)).2 = j ∧ 0 < j ∧ j ≤ k ∧ s.take j ∈ Lb := by
  intro k
  induction k with
  | zero => intro h; exact absurd h (by simp [endsTo, lastOf])
  | succ k ih =>
    rw [endsTo]
    cases hi : idx Lb (s.take (k + 1)) with
    | some m =>
      intro _
      rw [lastOf_snoc]
      exact ⟨k + 1, rfl, by omega, Nat.le_refl _, List.mem_of_getElem? (idx_get hi)⟩
    | none =>
      simp only [List.append_nil]
      intro h
      obtain ⟨j, h1, h2, h3, h4⟩ := ih h
      exact ⟨j, h1, h2, by omega, h4⟩
theorem lastOf_nonneg (Lb : List Pth) (s : Pth) (k : Nat) : 0 ≤ (lastOf (endsTo Lb s k)).2 := by
  unfold lastOf
  split
  · simp
  · simp
/-- of more words the longest one is no shorter -/
theorem long_sub {Lb M : List Pth} (h : ∀ x ∈ M, x ∈ Lb) (s : Pth) : (longR M s).2 ≤ (longR Lb s).2 := by
  unfold longR
  by_cases h0 : 0 < (lastOf (endsTo M s s.length)).2
  · obtain ⟨j, h1, h2, h3, h4⟩ := lastOf_mem _ h0
    rw [h1]
    exact lastOf_ge (h _ h4) h2 _ h3
  · have := lastOf_nonneg Lb s s.length
    omega
theorem newE_rev (L : List ByteArray) : newE L.reverse L.reverse.length = newE L L.length := by
  have h1 : L.reverse.any oddS = L.any oddS := List.any_reverse
  have h2 : (L.reverse.map bs).Nodup ↔ (L.map bs).Nodup := by rw [List.map_reverse]; exact (List.reverse_perm _).nodup_iff
  unfold newE
  rw [h1, List.length_reverse]
  by_cases h : (L.map bs).Nodup
  · rw [if_pos h, if_pos (h2.2 h)]
  · rw [if_neg h, if_neg fun e => h (h2.1 e)]
theorem newE_zero {L : List ByteArray} {k : Nat} (h : newE L k = 0) : L.any oddS = false ∧ (L.map bs).Nodup := by
  unfold newE at h
  split at h
  · exact absurd h (by decide)
  · split at h
    · exact absurd h (by decide)
    · next h2 =>
      split at h
      · next h3 => exact ⟨by simpa using h2, h3⟩
      · exact absurd h (by decide)
theorem newbad_any (w : World) (A : Option Addr) (n c : Nat) (L : List ByteArray) (E : Int) (hE : newE L L.length = E) (h0 : E ≠ 0) (hr : Reads w w.heap.size 1 A n (L.map .string)) :
    Calls Try.prog 10 #[.slice A n c] w fun e w' => e = .returned (.tuple #[.pointer none, .int .i64 E]) ∧ Fr Nil w w' := by
  subst hE
  refine (new_any w A n c L hr).mono ?_
  rintro e w' ⟨f, h⟩
  rcases h with ⟨h1, rfl⟩ | ⟨h1, h2, rfl⟩ | ⟨h1, h2, h3, rfl⟩ | ⟨h1, h2, h3, b, P, ns, rfl, h4, h5, _⟩
  · rw [show newE L L.length = 3 by unfold newE; rw [if_pos h1]]; exact ⟨rfl, f⟩
  · rw [newE_odd (L := L) (n := L.length) (by omega) h2]; exact ⟨rfl, f⟩
  · rw [newE_there (L := L) (n := L.length) (by omega) h2 h3]; exact ⟨rfl, f⟩
  · exact (h0 (newE_ok (L := L) (n := L.length) (by omega) h2 h3)).elim
def MadeP (w : World) (L : List ByteArray) (e : Ending) (w' : World) : Prop :=
  ∃ b P ns, e = .returned (.tuple #[.pointer (some ⟨b, 0, none⟩), .int .i64 0]) ∧ Fr Nil w w' ∧ TrieAt w' w.heap.size b L P ns ∧ Full (L.map bs) P ns
theorem newgood_any (w : World) (A : Option Addr) (n c : Nat) (L : List ByteArray) (hE : newE L L.length = 0) (hr : Reads w w.heap.size 1 A n (L.map .string)) :
    Calls Try.prog 10 #[.slice A n c] w (MadeP w L) := by
  refine (new_any w A n c L hr).mono ?_
  rintro e w' ⟨f, h⟩
  rcases h with ⟨h1, rfl⟩ | ⟨h1, h2, rfl⟩ | ⟨h1, h2, h3, rfl⟩ | ⟨h1, h2, h3, b, P, ns, rfl, h4, h5, _⟩
  · rw [show newE L L.length = 3 by unfold newE; rw [if_pos h1]] at hE; exact absurd hE (by decide)
  · rw [newE_odd (L := L) (n := L.length) (by omega) h2] at hE; exact absurd hE (by decide)
  · rw [newE_there (L := L) (n := L.length) (by omega) h2 h3] at hE; exact absurd hE (by decide)
  · exact ⟨b, P, ns, rfl, f, h4, h5⟩
/-- what New comes to is a pointer and its number -/
theorem newsome_any (w : World) (A : Option Addr) (n c : Nat) (L : List ByteArray) (hr : Reads w w.heap.size 1 A n (L.map .string)) :
    Calls Try.prog 10 #[.slice A n c] w fun e w' => ∃ p, e = .returned (.tuple #[.pointer p, .int .i64 (newE L L.length)]) ∧ Fr Nil w w' := by
  by_cases h : newE L L.length = 0
  · refine (newgood_any w A n c L h hr).mono ?_
    rintro e w' ⟨b, P, ns, rfl, f, _, _⟩
    exact ⟨_, by rw [h], f⟩
  · refine (newbad_any w A n c L _ rfl h hr).mono ?_
    rintro e w' ⟨rfl, f⟩
    exact ⟨_, rfl, f⟩
theorem insAll_rev (l : List Pth) : insAll l.reverse = insAll l :=
  asc_unique (((insAll_spec _).1.trans (List.reverse_perm _)).trans (insAll_spec _).1.symm) (insAll_spec _).2 (insAll_spec _).2
theorem drop_rev {L : List ByteArray} {j : Nat} {x : ByteArray} (h : L[j]? = some x) : (L.drop (j + 1)).reverse ++ [x] = (L.drop j).reverse := by
  obtain ⟨hj, rfl⟩ := List.getElem?_eq_some_iff.1 h
  rw [List.drop_eq_getElem_cons hj, List.reverse_cons]
/-- all but the one at place z -/
def But (L : List ByteArray) (z : Nat) (M : List ByteArray) : Prop := ∀ x ∈ M, ∃ i, i ≠ z ∧ L[i]? = some x
theorem But.mem {L M : List ByteArray} {z : Nat} (h : But L z M) : ∀ x ∈ M.map bs, x ∈ L.map bs := by
  intro x hx
  obtain ⟨y, hy, rfl⟩ := List.mem_map.1 hx
  obtain ⟨i, _, hi⟩ := h y hy
  exact List.mem_map.2 ⟨y, List.mem_of_getElem? hi, rfl⟩
theorem But.gone {L M : List ByteArray} {z : Nat} {x : ByteArray} (h : But L z M) (hnd : (L.map bs).Nodup) (hx : L[z]? = some x) : findR (M.map bs) (bs x) = (0, false) := by
  have hno : bs x ∉ M.map bs := by
    intro hm
    obtain ⟨y, hy, he⟩ := List.mem_map.1 hm
    obtain ⟨i, hiz, hi⟩ := h y hy
    have hil : i < (L.map bs).length := by rw [List.length_map]; exact (List.getElem?_eq_some_iff.1 hi).1
    exact hiz ((List.getElem?_inj hil hnd).1 (by rw [List.getElem?_map, List.getElem?_map, hi, hx, Option.map_some, Option.map_some, he]))
  unfold findR
  rw [idx_none.2 hno]
theorem long_r (w : World) (base b : Nat) (s : ByteArray) (hs : s.size ≤ 1048576) (L : List ByteArray) (P : List Pth) (ns : List (Nat × Int)) (ht : TrieAt w base b L P ns) (hfu : Full (L.map bs) P ns) {g1 g2 : Int} (hg : longR (L.map bs) (bs s) = (g1, g2)) :
    Calls Try.prog 17 #[.pointer (some ⟨b, 0, none⟩), .string s] w fun e w' => e = .returned (.tuple #[.int .i64 g1, .int .i64 g2]) ∧ Fr Nil w w' := by
  have h := longest_any w base b s hs L P ns ht hfu
  rw [hg] at h
  exact h
theorem sorted_r (w : World) (base b : Nat) (L : List ByteArray) (P : List Pth) (ns : List (Nat × Int)) (ht : TrieAt w base b L P ns) (hfu : Full (L.map bs) P ns) (hnd : (L.map bs).Nodup) (hsz : ∀ s ∈ L, s.size ≤ 64) (n : Nat) (hn : L.length = n) (h1 : n ≤ 1000) (l : List Pth) (hl : insAll (L.map bs) = l) :
    Calls Try.prog 20 #[.pointer (some ⟨b, 0, none⟩)] w (SortedP w n l) := by
  subst hn hl
  exact tsorted_any w base b L P ns ht hfu hnd hsz h1
theorem gone_r (w : World) (base b : Nat) (x : ByteArray) (hs : x.size ≤ 1048576) (L : List ByteArray) (P : List Pth) (ns : List (Nat × Int)) (ht : TrieAt w base b L P ns) (hfu : Full (L.map bs) P ns) (h0 : [] ∉ L.map bs) (hg : findR (L.map bs) (bs x) = (0, false)) :
    Calls Try.prog 16 #[.pointer (some ⟨b, 0, none⟩), .string x] w fun e w' => e = .returned (.tuple #[.int .i64 0, .bool false]) ∧ Fr Nil w w' := by
  have h := tfind_any w base b x hs L P ns ht hfu h0
  rw [hg] at h
  exact h
/-- at the head of a round: the words behind place j, turned; without the one at place z -/
def OrdI (w : World) (L : List ByteArray) (z : Nat) (s9 s10 s11 : Value) (wr : World) : Prop :=
  ∃ (j : Nat) (A1 A2 : Option Addr) (c1 n2 c2 : Nat) (M : List ByteArray), j ≤ L.length ∧ s11 = .int .i64 ((j : Int) - 1) ∧ s9 = .slice A1 (L.length - j) c1 ∧ s10 = .slice A2 n2 c2 ∧ n2 = M.length ∧ n2 ≤ L.length - j ∧
    Own wr 9 1 A1 (L.length - j) c1 (((L.drop j).reverse).map .string) ∧ Own wr 9 1 A2 n2 c2 (M.map .string) ∧ But L z M ∧ (∀ q, At A1 q → At A2 q → False) ∧ Fr Nil w wr ∧ (∀ q, At A1 q → w.heap.size ≤ q) ∧ (∀ q, At A2 q → w.heap.size ≤ q)

set_option maxRecDepth 100000 in
set_option maxHeartbeats 4000000 in
theorem order_any (w : World) (A : Option Addr) (n c : Nat) (L : List ByteArray) (s : ByteArray) (z : Int) (hr : Reads w w.heap.size 1 A n (L.map .string)) (hn : n ≤ maxLen) :
    Calls Try.prog 7 #[.slice A n c, .string s, .int .i64 z] w fun e w' => e = .returned (.bool true) ∧ Fr Nil w w' := by
  have hl : L.length = n := by simpa using hr.1
  have HL := Lib.hid hl
  have HFW := Lib.hid (fun (w1 : World) (h : Fr Nil w w1) => few_any w1 A n c L w.heap.size (hr.fr h (Nat.le_refl _) fun _ x => x.elim) hn)
  clear hl
  cases hfew : fewB L with
  | false =>
    have HF := Lib.hid hfew
    clear hfew
    go_enter Try.func7, Try.ntmps7
    go_wp2_with fail
    refine (awake_any w).mono ?_
    rintro e w1 ⟨rfl, f1⟩
    go_wp2_with fail
    refine (HFW.out w1 f1).mono ?_
    rintro e w2 ⟨rfl, rfl⟩
    rw [HF.out]
    go_wp2_with fail
    go_ret
    exact ⟨rfl, f1⟩
  | true =>
    have hn120 := fewB_len hfew
    rw [HL.out] at hn120
    have HF := Lib.hid hfew
    clear hfew
    by_cases hb : 200 < s.size
    · have hb' : (200 : Int) < s.size := by omega
      go_enter Try.func7, Try.ntmps7
      go_wp2_with fail
      refine (awake_any w).mono ?_
      rintro e w1 ⟨rfl, f1⟩
      go_wp2_with fail
      refine (HFW.out w1 f1).mono ?_
      rintro e w2 ⟨rfl, rfl⟩
      rw [HF.out]
      go_wp2_with fail
      go_ret
      exact ⟨rfl, f1⟩
    · have hb' : ¬ (200 : Int) < s.size := by omega
      by_cases hz0 : z < 0
      · go_enter Try.func7, Try.ntmps7
        go_wp2_with fail
        refine (awake_any w).mono ?_
        rintro e w1 ⟨rfl, f1⟩
        go_wp2_with fail
        refine (HFW.out w1 f1).mono ?_
        rintro e w2 ⟨rfl, rfl⟩
        rw [HF.out]
        go_wp2_with fail
        go_ret
        exact ⟨rfl, f1⟩
      · by_cases hz1 : (n : Int) ≤ z
        · go_enter Try.func7, Try.ntmps7
          go_wp2_with fail
          refine (awake_any w).mono ?_
          rintro e w1 ⟨rfl, f1⟩
          go_wp2_with fail
          refine (HFW.out w1 f1).mono ?_
          rintro e w2 ⟨rfl, rfl⟩
          rw [HF.out]
          go_wp2_with fail
          go_ret
          exact ⟨rfl, f1⟩
        · obtain ⟨at_, rfl⟩ : ∃ a : Nat, z = a := ⟨z.toNat, by omega⟩
          have hat : at_ < n := by omega
          have hnz : ¬ (at_ : Int) < 0 := by omega
          have hz2 : ¬ n ≤ at_ := by omega
          have HRW := Lib.hid (fun W (f : Fr Nil w W) => (show Reads W W.heap.size 1 A n (L.map .string) from (hr.fr f (Nat.le_refl _) fun _ x => x.elim).more f.size))
          go_enter Try.func7, Try.ntmps7
          go_wp2_with fail
          refine (awake_any w).mono ?_
          rintro e w1 ⟨rfl, f1⟩
          go_wp2_with fail
          refine (HFW.out w1 f1).mono ?_
          rintro e w2 ⟨rfl, rfl⟩
          rw [HF.out]
          go_wp2_with fail
          go_loopw [9, 10, 11] (fun s9 s10 s11 wr => OrdI w1 L at_ s9 s10 s11 wr) (fun _ _ s11 _ => (intOf s11 + 1).toNat)
          case atStart => exact ⟨n, none, none, 0, 0, 0, [], by rw [HL.out]; exact Nat.le_refl _, rfl, by rw [HL.out, Nat.sub_self], rfl, rfl, Nat.zero_le _, by rw [HL.out, Nat.sub_self, List.drop_of_length_le (by rw [HL.out]; exact Nat.le_refl _)]; exact Own.nil _ _ _, Own.nil _ _ _, (fun x hx => by cases hx), fun q h => (not_at_none q h).elim, Fr.rfl' _ _, fun q h => (not_at_none q h).elim, fun q h => (not_at_none q h).elim⟩
          case round =>
            obtain ⟨j, A1, A2, c1, n2, c2, M, hj, rfl, rfl, rfl, hn2, hle, o1, o2, hM, hdis, g1, a1, a2⟩ := hrel
            rw [HL.out] at hj hle o1 ⊢
            have HN2 := Lib.hid hn2
            have HM := Lib.hid hM
            clear hn2 hM
            cases j with
            | succ i =>
              rw [show (((i + 1 : Nat) : Int) - 1) = (i : Int) by omega]
              obtain ⟨ad, x, rfl, hbx, hx, hc⟩ := reads_str (hr.fr (f1.trans g1) (Nat.le_refl _) fun _ x => x.elim) (show i < n by omega)
              have hbx1 := Nat.lt_of_lt_of_le hbx f1.size; have hbw := Nat.lt_of_lt_of_le hbx (f1.trans g1).size
              have HX := Lib.hid hx
              have HO2 := Lib.hid o2
              have hq1 := reads_new (w := wr) (.string x) 9
              clear hx o2
              obtain ⟨m, hm⟩ : ∃ m, m = n - (i + 1) := ⟨_, rfl⟩
              rw [← hm] at o1 hle ⊢
              have hm1 : m + 1 = n - i := by omega
              have hm2 : m + 1 ≤ 120 := by omega
              have HMm := Lib.hid hm1
              clear hm hm1
              by_cases hia : i = at_
              · have hiz : ((i : Int) != (at_ : Int)) = false := by simp [hia]
                clear hia
                go_wp2_with (
                  at_builtin
                  refine wpList_append _ rfl (.tmp 58) (.tmp 63) 22 rfl 9 (.string ⟨#[]⟩) 1 16 Try.underlying22 infoStr rfl (by decide) A1 m c1 (((L.drop (i + 1)).reverse).map .string) rfl (o1.alloc _)
                    _ _ 1 1 [.string x] rfl hq1 (one_one rfl) (by unfold maxLen; omega) (by omega) ?_
                  intro A3 c3 w3 hown3 hfr3 hat3)
                have F3 : Fr (At A1) wr w3 := ((Fr.rfl' (At A1) wr).alloc _).trans hfr3
                have at3 : ∀ q, At A3 q → At A1 q ∨ wr.heap.size ≤ q := fun q h => at_new (w0 := wr) hat3 (by simp) q h
                go_roundw
                case rel => exact ⟨i, A3, A2, c3, n2, c2, M, by rw [HL.out]; omega, rfl, by rw [HL.out, show n - i = m + 1 from HMm.out.symm], rfl, HN2.out, by rw [HL.out]; have := HMm.out; omega, by
                  rw [HL.out, show n - i = m + 1 from HMm.out.symm, ← drop_rev HX.out, List.map_append]; exact hown3, HO2.out.fr F3 fun q h h2 => hdis q h2 h, HM.out, fun q h h2 => by
                    rcases at3 q h with h3 | h3
                    · exact hdis q h3 h2
                    · have := HO2.out.lt h2; omega, g1.trans' F3 fun q hq h => by have := a1 q h; omega, fun q h => by
                    rcases at3 q h with h3 | h3
                    · exact a1 q h3
                    · exact Nat.le_trans g1.size h3, a2⟩
                case measure => (simp [intOf]; try omega)
              · have hiz : ((i : Int) != (at_ : Int)) = true := by simp; omega
                go_wp2_with (
                  at_builtin
                  first
                    | (refine wpList_append _ rfl (.tmp 58) (.tmp 63) 22 rfl 9 (.string ⟨#[]⟩) 1 16 Try.underlying22 infoStr rfl (by decide) A1 m c1 (((L.drop (i + 1)).reverse).map .string) rfl (o1.alloc _) _ _ 1 1 [.string x] rfl hq1 (one_one rfl) (by unfold maxLen; omega) (by omega) ?_
                       intro A3 c3 w3 hown3 hfr3 hat3
                       have F3 : Fr (At A1) wr w3 := ((Fr.rfl' (At A1) wr).alloc _).trans hfr3
                       have at3 : ∀ q, At A3 q → At A1 q ∨ wr.heap.size ≤ q := fun q h => at_new (w0 := wr) hat3 (by simp) q h
                       have hc3 : w3.cell? (ad.add i) = some (.string x) := (F3.cell (p := ad.add i) (by rw [block_of_add]; exact hbw) fun h => by rw [block_of_add] at h; have := a1 _ h; omega).trans hc
                       have o3 := HO2.out.fr F3 fun q h h2 => hdis q h2 h
                       have hq3 := reads_new (w := w3) (.string x) 9)
                    | (refine wpList_append _ rfl (.tmp 68) (.tmp 73) 22 rfl 9 (.string ⟨#[]⟩) 1 16 Try.underlying22 infoStr rfl (by decide) A2 n2 c2 (M.map .string) rfl (o3.alloc _) _ _ 1 1 [.string x] rfl hq3 (one_one rfl) (by unfold maxLen; omega) (by omega) ?_
                       intro A4 c4 w4 hown4 hfr4 hat4
                       have F4 : Fr (At A2) w3 w4 := ((Fr.rfl' (At A2) w3).alloc _).trans hfr4
                       have at4 : ∀ q, At A4 q → At A2 q ∨ w3.heap.size ≤ q := fun q h => at_new (w0 := w3) hat4 (by simp) q h))
                go_roundw
                case rel => exact ⟨i, A3, A4, c3, n2 + 1, c4, M ++ [x], by rw [HL.out]; omega, rfl, by rw [HL.out, show n - i = m + 1 from HMm.out.symm], rfl, by rw [List.length_append, List.length_singleton, HN2.out], by rw [HL.out]; have := HMm.out; omega, by
                  rw [HL.out, show n - i = m + 1 from HMm.out.symm, ← drop_rev HX.out, List.map_append]
                  exact hown3.fr F4 fun q h h2 => by
                    rcases at3 q h with h3 | h3
                    · exact hdis q h3 h2
                    · have := HO2.out.lt h2; omega, by rw [List.map_append]; exact hown4, fun y hy => by
                    rcases List.mem_append.1 hy with hy | hy
                    · exact HM.out y hy
                    · exact ⟨i, hia, by rw [List.mem_singleton.1 hy]; exact HX.out⟩, fun q h h2 => by
                    rcases at4 q h2 with h4 | h4
                    · rcases at3 q h with h3 | h3
                      · exact hdis q h3 h4
                      · have := HO2.out.lt h4; omega
                    · have := hown3.lt h; omega, (g1.trans' F3 fun q hq h => by have := a1 q h; omega).trans' F4 fun q hq h => by have := a2 q h; omega, fun q h => by
                    rcases at3 q h with h3 | h3
                    · exact a1 q h3
                    · exact Nat.le_trans g1.size h3, fun q h => by
                    rcases at4 q h with h3 | h3
                    · exact a2 q h3
                    · exact Nat.le_trans g1.size (Nat.le_trans F3.size h3)⟩
                case measure => (simp [intOf]; try omega)
            | zero =>
              rw [show (((0 : Nat) : Int) - 1) = -1 by omega]
              rw [Nat.sub_zero] at o1 hle ⊢
              rw [List.drop_zero] at o1
              have HO1 := Lib.hid o1
              have HO2 := Lib.hid o2
              have HQ := Lib.hid (And.intro hdis (And.intro a1 a2))
              have f := f1.trans g1
              clear o1 o2 hdis a1 a2 g1
              have hlr : newE L.reverse L.reverse.length = newE L L.length := newE_rev L
              have HRd := Lib.hid (fun W (g : Fr Nil wr W) => ((HO1.out.fr g fun _ _ h => h).reads : Reads W W.heap.size 1 A1 n (L.reverse.map .string)))
              have HRl := Lib.hid (fun W (g : Fr Nil wr W) => ((HO2.out.fr g fun _ _ h => h).reads : Reads W W.heap.size 1 A2 n2 (M.map .string)))
              by_cases hE : newE L L.length = 0
              · have hER := hlr.trans hE
                have HNB := Lib.hid (fun W (g : Fr Nil wr W) => newgood_any W A1 n c1 L.reverse hER (HRd.out W g))
                have HNA := Lib.hid (newgood_any wr A n c L hE (HRW.out _ f))
                have q0 : ((0 : Int) != 0) = false := by decide
                have q00 : ((0 : Int) == 0) = true := by decide
                by_cases hG : newE M M.length = 0
                · have HNC := Lib.hid (fun W (g : Fr Nil wr W) => newgood_any W A2 n2 c2 M hG (HRl.out W g))
                  obtain ⟨hodd, hnd⟩ := newE_zero hE
                  obtain ⟨hoddM, hndM⟩ := newE_zero hG
                  obtain ⟨hoddR, hndR⟩ := newE_zero hER
                  have hsz := odd_size hodd
                  have hszR := odd_size hoddR
                  have hsm : s.size ≤ 1048576 := by omega
                  obtain ⟨ad, x, rfl, hbx, hx, hc0⟩ := reads_str hr hat
                  have hxs := hsz x (List.mem_of_getElem? hx)
                  have HC := Lib.hid (fun W (g : Fr Nil w W) => reads_str_at (HRW.out W g) hx)
                  have hgone := HM.out.gone hnd hx
                  have hmem := HM.out.mem
                  have hL1 : (longR (L.reverse.map bs) (bs s)).2 = (longR (L.map bs) (bs s)).2 := Int.le_antisymm (long_sub (fun x hx => by rw [List.map_reverse] at hx; exact List.mem_reverse.1 hx) _) (long_sub (fun x hx => by rw [List.map_reverse]; exact List.mem_reverse.2 hx) _)
                  have hL2 : (longR (M.map bs) (bs s)).2 ≤ (longR (L.map bs) (bs s)).2 := long_sub hmem _
                  have hS : insAll (L.reverse.map bs) = insAll (L.map bs) := by rw [List.map_reverse]; exact insAll_rev _
                  have hRl : L.reverse.length = n := by rw [List.length_reverse, HL.out]
                  have hxm : x.size ≤ 1048576 := by omega
                  obtain ⟨⟨ga, g⟩, hga⟩ : ∃ r : Int × Int, longR (L.map bs) (bs s) = r := ⟨_, rfl⟩
                  obtain ⟨⟨gb, g'⟩, hgb⟩ : ∃ r : Int × Int, longR (L.reverse.map bs) (bs s) = r := ⟨_, rfl⟩
                  obtain ⟨⟨gc, k⟩, hgc⟩ : ∃ r : Int × Int, longR (M.map bs) (bs s) = r := ⟨_, rfl⟩
                  rw [hga, hgb] at hL1
                  rw [hga, hgc] at hL2
                  obtain rfl : g' = g := hL1
                  have hkg : k ≤ g' := hL2
                  obtain ⟨l, hl⟩ : ∃ l, insAll (L.map bs) = l := ⟨_, rfl⟩
                  rw [hl] at hS
                  have HX := Lib.hid (And.intro hga (And.intro hgb (And.intro hgc (And.intro hl (And.intro hS hRl)))))
                  have HY := Lib.hid (And.intro hnd (And.intro hndR (And.intro hsz (And.intro hszR (And.intro (not_odd_nil hoddM) hgone)))))
                  have qg : (g' == g') = true := by simp
                  clear hE hER hG hlr hodd hnd hoddM hndM hoddR hndR hsz hszR hx hc0 hgone hmem hL2 hS hRl hga hgb hgc hl
                  go_wp2_with fail
                  refine HNA.out.mono ?_
                  rintro e w4 ⟨b4, P4, n4, rfl, f4, t4, u4⟩
                  go_wp2_with fail
                  refine (HNB.out _ f4).mono ?_
                  rintro e w5 ⟨b5, P5, n5, rfl, f5, t5, u5⟩
                  go_wp2_with fail
                  refine (HNC.out _ (f4.trans f5)).mono ?_
                  rintro e w6 ⟨b6, P6, n6, rfl, f6, t6, u6⟩
                  have HT := Lib.hid (And.intro (fun W (h : Fr Nil w4 W) => t4.fr h fun _ _ _ x => x) (And.intro (fun W (h : Fr Nil w5 W) => t5.fr h fun _ _ _ x => x) (fun W (h : Fr Nil w6 W) => t6.fr h fun _ _ _ x => x)))
                  have HU := Lib.hid (And.intro u4 (And.intro u5 u6))
                  have fw := ((f.trans f4).trans f5).trans f6
                  have fa := f5.trans f6
                  have fb := f6
                  have fc := Fr.rfl' Nil w6
                  clear t4 t5 t6 u4 u5 u6
                  go_wp2_with fail
                  refine (long_r _ _ _ _ hsm L _ _ (HT.out.1 _ fa) HU.out.1 HX.out.1).mono ?_
                  rintro e w7 ⟨rfl, h7⟩
                  have fw := fw.trans h7
                  have fa := fa.trans h7
                  have fb := fb.trans h7
                  have fc := fc.trans h7
                  go_wp2_with fail
                  refine (long_r _ _ _ _ hsm L.reverse _ _ (HT.out.2.1 _ fb) HU.out.2.1 HX.out.2.1).mono ?_
                  rintro e w8 ⟨rfl, h8⟩
                  have fw := fw.trans h8
                  have fa := fa.trans h8
                  have fb := fb.trans h8
                  have fc := fc.trans h8
                  go_wp2_with fail
                  refine (long_r _ _ _ _ hsm M _ _ (HT.out.2.2 _ fc) HU.out.2.2 HX.out.2.2.1).mono ?_
                  rintro e w9 ⟨rfl, h9⟩
                  have fw := fw.trans h9
                  have fa := fa.trans h9
                  have fb := fb.trans h9
                  have fc := fc.trans h9
                  have hc := HC.out _ fw
                  go_wp2_with fail
                  refine (gone_r _ _ _ _ hxm M _ _ (HT.out.2.2 _ fc) HU.out.2.2 HY.out.2.2.2.2.1 HY.out.2.2.2.2.2).mono ?_
                  rintro e w10 ⟨rfl, h10⟩
                  have fw := fw.trans h10
                  have fa := fa.trans h10
                  have fb := fb.trans h10
                  go_wp2_with fail
                  refine (sorted_r _ _ _ L _ _ (HT.out.1 _ fa) HU.out.1 HY.out.1 HY.out.2.2.1 n HL.out (by omega) l HX.out.2.2.2.1).mono ?_
                  rintro e w11 ⟨A3, c3, rfl, o3, f11, _⟩
                  have fw := fw.trans f11
                  have fb := fb.trans f11
                  go_wp2_with fail
                  refine (sorted_r _ _ _ L.reverse _ _ (HT.out.2.1 _ fb) HU.out.2.1 HY.out.2.1 HY.out.2.2.2.1 n HX.out.2.2.2.2.2 (by omega) l HX.out.2.2.2.2.1).mono ?_
                  rintro e w12 ⟨A4, c4, rfl, o4, f12, _⟩
                  have fw := fw.trans f12
                  have hs := same_yes w12 _ _ A3 A4 n c3 c4 (l.map str) (by rw [← txt_strs]; exact (o3.fr f12 fun _ _ h => h).reads) (by rw [← txt_strs]; exact o4.reads) (by omega)
                  have HS := Lib.hid hs
                  clear hs o3 o4
                  go_wp2_with fail
                  refine HS.out.mono ?_
                  rintro e w13 ⟨rfl, m2, rfl⟩
                  go_wp2_with fail
                  go_ret
                  exact ⟨rfl, fw.drewN m2⟩
                · obtain ⟨G, hGG⟩ : ∃ G, G = newE M M.length := ⟨_, rfl⟩
                  have HNC := Lib.hid (fun W (g : Fr Nil wr W) => newbad_any W A2 n2 c2 M G hGG.symm (by rw [hGG]; exact hG) (HRl.out W g))
                  have qG : (G != 0) = true := by rw [bne_iff_ne]; rw [hGG]; exact hG
                  clear hE hER hG hGG hlr
                  go_wp2_with fail
                  refine HNA.out.mono ?_
                  rintro e w4 ⟨b, P, ns, rfl, f4, _, _⟩
                  go_wp2_with fail
                  refine (HNB.out _ f4).mono ?_
                  rintro e w5 ⟨b5, P5, ns5, rfl, f5, _, _⟩
                  go_wp2_with fail
                  refine (HNC.out _ (f4.trans f5)).mono ?_
                  rintro e w6 ⟨rfl, f6⟩
                  go_wp2_with fail
                  go_ret
                  exact ⟨rfl, ((f.trans f4).trans f5).trans f6⟩
              · obtain ⟨E, hEE⟩ : ∃ E, E = newE L L.length := ⟨_, rfl⟩
                have HNA := Lib.hid (newbad_any wr A n c L E hEE.symm (by rw [hEE]; exact hE) (HRW.out _ f))
                have HNB := Lib.hid (fun W (g : Fr Nil wr W) => newbad_any W A1 n c1 L.reverse E (hlr.trans hEE.symm) (by rw [hEE]; exact hE) (HRd.out W g))
                have HNC := Lib.hid (fun W (g : Fr Nil wr W) => newsome_any W A2 n2 c2 M (HRl.out W g))
                have qE : (E != 0) = true := by rw [bne_iff_ne]; rw [hEE]; exact hE
                have qEE : (E == E) = true := by simp
                generalize newE M M.length = G at HNC
                clear hE hEE hlr
                go_wp2_with fail
                refine HNA.out.mono ?_
                rintro e w4 ⟨rfl, f4⟩
                go_wp2_with fail
                refine (HNB.out _ f4).mono ?_
                rintro e w5 ⟨rfl, f5⟩
                go_wp2_with fail
                refine (HNC.out _ (f4.trans f5)).mono ?_
                rintro e w6 ⟨p, rfl, f6⟩
                go_wp2_with fail
                go_ret
                exact ⟨rfl, ((f.trans f4).trans f5).trans f6⟩
end Go.Proofs.Ythhlpbopbabojaa
