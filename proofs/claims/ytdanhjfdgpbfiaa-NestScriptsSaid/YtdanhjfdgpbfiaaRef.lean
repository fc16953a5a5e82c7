/-
  The walks of the reference's Open, cut, All, Close.
-/
import Derived.Test.YtdanhjfdgpbfiaaStk
namespace Go.Proofs.Ytdanhjfdgpbfiaa
open Go.RowKit

set_option maxHeartbeats 400000 in
theorem ropen_full (w : World) (b : Nat) (d : Int) (A : Option Addr) (c : Nat) (L : List ByteArray) (x : ByteArray) (h : Stk 45 w b d A c L) (hd : d ≤ L.length) :
    Calls Try.prog 15 #[.pointer (some ⟨b, 0, none⟩), .string x] w fun e w' => e = .returned (.bool false) ∧ Fr Nil w w' := by
  have h0 := h.c0
  have h1 := h.c1
  go_enter Try.func15, Try.ntmps15
  go_wp2_with fail
  go_quiet (fail)
  go_wp2_with fail
  go_ret
  exact ⟨rfl, (Fr.rfl' _ _).drewN _⟩

set_option maxHeartbeats 400000 in
theorem ropen_ok (w : World) (b : Nat) (d : Int) (A : Option Addr) (c : Nat) (L : List ByteArray) (x : ByteArray) (h : Stk 45 w b d A c L) (hd : L.length < d) (hL : L.length ≤ 65536) :
    Calls Try.prog 15 #[.pointer (some ⟨b, 0, none⟩), .string x] w fun e w' => e = .returned (.bool true) ∧
      ∃ A' c', Stk 45 w' b d A' c' (L ++ [x]) ∧ Fr (fun k => k = b) w w' ∧ (∀ k, At A' k → w.heap.size ≤ k) := by
  have h0 := h.c0
  have h1 := h.c1
  have hd' : decide (d ≤ (L.length : Int)) = false := by simp; omega
  go_enter Try.func15, Try.ntmps15
  go_wp2_with fail
  go_quiet (fail)
  rename_i nq
  have hlt := h.blk.lt
  have hl := Own.lit (e := 9) (size := 1) (w.drewN nq) #[] 0 (by unfold maxLen; omega) rfl
  have hbb := (h.blk.drewN nq).alloc (.cells #[] 9)
  have hr := (h.own.reads.drewN nq).alloc (Nat.le_refl _) (.cells #[] 9)
  go_wp2_with (first
    | (at_builtin
       refine wpList_append _ rfl (.tmp 16) (.tmp 20) 22 rfl 9 (.string ByteArray.empty) 1 16 Try.underlying22 infoStr rfl (by decide) _ 0 0 [] rfl hl
         _ _ L.length c (L.map .string) rfl hr (strs_one L) (by unfold maxLen; omega) (by omega) ?_
       intro A1 c1 w1 hown1 hfr hat
       have hb1 := (hbb.fr hfr (fun hk => by obtain ⟨g, hg, hg'⟩ := hk; injection hg with hg; subst hg; simp at hg'; omega))
       have hc1 := hb1.cell 1
       have hf1 := hb1.frozen 1
       rw [Nat.zero_add, List.nil_append] at hown1
       have hown2 := hown1.alloc (.cells #[.string x] 9))
    | (at_builtin
       refine wpList_append _ rfl (.tmp 21) (.tmp 23) 22 rfl 9 (.string ByteArray.empty) 1 16 Try.underlying22 infoStr rfl (by decide) A1 L.length c1 (L.map .string) rfl hown2
         _ _ 1 1 [.string x] rfl (reads_new _ _ _) (one_one rfl) (by unfold maxLen; omega) (by omega) ?_
       intro A2 c2 w2 hown3 hfr2 hat2
       have hA1 : ∀ k, At A1 k → w.heap.size ≤ k := fun k hk => by
         rcases at_new (w0 := w) hat (by simp) k hk with ⟨g, hg, rfl⟩ | h2
         · injection hg with hg
           subst hg
           simp
         · omega
       have hb2 := (hb1.alloc (.cells #[.string x] 9)).fr hfr2 (fun hk => by have := hA1 b hk; omega)
       have hc2 := hb2.cell 1
       have hf2 := hb2.frozen 1))
  go_ret
  have hA2 : ∀ k, At A2 k → w.heap.size ≤ k := fun k hk => by
    rcases at_new (w0 := w) hat2 (by have := hfr.size; simp at this ⊢; omega) k hk with h1 | h1
    · exact hA1 k h1
    · exact h1
  have hnb : ¬ At A2 b := fun hk => by have := hA2 b hk; omega
  refine ⟨rfl, A2, ⟨c2, ⟨by simpa using hb2.set_ 1 (.slice A2 (L.length + 1) c2), by simpa using hown3.setFar (p := ⟨b, 1, none⟩) hnb _, hnb⟩⟩, ?_, hA2⟩
  refine Fr.setCell (S := fun k => k = b) (p := ⟨b, 1, none⟩) ((((((Fr.rfl' _ _).drewN nq).alloc _).trans' hfr fun k hk hk' => ?_).alloc _).trans' hfr2 fun k hk hk' => ?_) (fun _ => rfl) _
  · obtain ⟨g, hg, rfl⟩ := hk'
    injection hg with hg
    subst hg
    simp at hk
  · have := hA1 k hk'
    omega

theorem drop_cons' {L : List ByteArray} {k : Nat} {s : ByteArray} (hs : L[k]? = some s) : L.drop k = s :: L.drop (k + 1) := by
  obtain ⟨h, rfl⟩ := List.getElem?_eq_some_iff.1 hs
  exact List.drop_eq_getElem_cons h

def RClosed (w : World) (b : Nat) (d : Int) (L : List ByteArray) (k : Nat) (v : Value) (w' : World) : Prop :=
  ∃ A' c' A2 c2, v = .slice A' (L.length - k) c' ∧ Own w' 9 1 A' (L.length - k) c' ((L.drop k).reverse.map .string) ∧
    Stk 45 w' b d A2 c2 (L.take k) ∧ Fr (fun i => i = b) w w' ∧ (∀ k, At A' k → w.heap.size ≤ k) ∧ (∀ k, At A2 k → w.heap.size ≤ k ∧ ¬ At A' k)

set_option maxHeartbeats 800000 in
theorem rcut_any (w : World) (b : Nat) (d : Int) (A : Option Addr) (c : Nat) (L : List ByteArray) (k : Nat) (h : Stk 45 w b d A c L) (hk : k ≤ L.length) (hL : L.length ≤ 65536) :
    Calls Try.prog 21 #[.pointer (some ⟨b, 0, none⟩), .int .i64 k] w (Ret fun v w' => RClosed w b d L k v w') := by
  have h1 := h.c1
  have hlt := h.blk.lt
  go_enter Try.func21, Try.ntmps21
  go_wp2_with fail
  go_loopw [5, 6] (fun v i wr => ∃ (q : Int) (m : Nat) (A' : Option Addr) (c' : Nat), i = .int .i64 q ∧ q = (m : Int) - 1 ∧ k ≤ m ∧ m ≤ L.length ∧ v = .slice A' (L.length - m) c' ∧ Own wr 9 1 A' (L.length - m) c' ((L.drop m).reverse.map .string) ∧
      Fr Nil w wr ∧ ∀ k, At A' k → w.heap.size ≤ k) (fun _ i _ => (intOf i + 1).toNat)
  case atStart => exact ⟨_, L.length, none, 0, rfl, rfl, hk, Nat.le_refl _, by simp, by simpa using Own.nil _ _ _, Fr.rfl' _ _, fun k hk => (not_at_none k hk).elim⟩
  case round =>
    obtain ⟨q, m, A', c', rfl, hq, hkm, hm, rfl, hown, hfr, hnew⟩ := hrel
    have hst := h.fr hfr fun _ _ x => x
    have h1 := hst.c1
    by_cases hge : (k : Int) ≤ q
    · obtain ⟨p, rfl⟩ : ∃ p : Nat, q = p := ⟨q.toNat, by omega⟩
      obtain rfl : m = p + 1 := by omega
      obtain ⟨ad, u, rfl, _, hu, hc⟩ := hst.own.reads.at_ (show p < L.length by omega)
      obtain ⟨s, hs⟩ : ∃ s, L[p]? = some s := ⟨L[p]'(by omega), List.getElem?_eq_getElem _⟩
      rw [List.getElem?_map, hs] at hu
      obtain rfl : Value.string s = u := by simpa using hu
      have hpl : p < L.length := by omega
      have HS := Lib.hid hs
      clear hs hu hq
      have hown1 := hown.alloc (.cells #[.string s] 9)
      go_wp2_with (
        at_builtin
        refine wpList_append _ rfl (.tmp 18) (.tmp 26) 22 rfl 9 (.string ByteArray.empty) 1 16 Try.underlying22 infoStr rfl (by decide) A' (L.length - (p + 1)) c' ((L.drop (p + 1)).reverse.map .string) rfl hown1
          _ _ 1 1 [.string s] rfl (reads_new _ _ _) (one_one rfl) (by unfold maxLen; omega) (by omega) ?_
        intro A1 c1 w1 hown2 hfr2 hat)
      go_roundw
      case rel =>
        have e : L.length - (p + 1) + 1 = L.length - p := by omega
        refine ⟨_, p, A1, c1, rfl, rfl, by omega, by omega, by rw [e], ?_, ?_, ?_⟩
        · rw [e] at hown2
          rw [drop_cons' HS.out]
          simpa using hown2
        · refine (hfr.alloc _).trans' hfr2 fun i hi hi' => ?_
          have := hnew i hi'
          omega
        · intro i hi
          rcases at_new (w0 := w) hat (by have := hfr.size; simp; omega) i hi with h1 | h1
          · exact hnew i h1
          · exact h1
      case measure => simp [intOf]
    · obtain rfl : k = m := by omega
      have hl := Own.lit (e := 9) (size := 1) wr #[] 0 (by unfold maxLen; omega) rfl
      have hcap := hst.own.cap
      have hbb := hst.blk.alloc (.cells #[] 9)
      have hr := (hst.own.cut hm).reads.alloc (Nat.le_refl _) (.cells #[] 9)
      rw [Nat.mul_one, ← List.map_take] at hr
      have hkc : k ≤ c := by omega
      clear hq
      go_wp2_with (
        at_builtin
        refine wpList_append _ rfl (.tmp 29) (.tmp 35) 22 rfl 9 (.string ByteArray.empty) 1 16 Try.underlying22 infoStr rfl (by decide) _ 0 0 [] rfl hl
          _ _ k c ((L.take k).map .string) rfl hr (strs_one _) (by unfold maxLen; omega) (by omega) ?_
        intro A2 c2 w2 hown3 hfr3 hat
        have hb2 := hbb.fr hfr3 (fun hk => by
          obtain ⟨g, hg, hg'⟩ := hk
          injection hg with hg
          subst hg
          have := hst.blk.lt
          simp at hg'
          omega)
        have hc2 := hb2.cell 1
        have hf2 := hb2.frozen 1)
      go_ret
      have hb := hst.blk.lt
      have hA2 : ∀ i, At A2 i → wr.heap.size ≤ i := fun i hi => by
        rcases at_new (w0 := wr) hat (by simp) i hi with ⟨g, hg, rfl⟩ | h2
        · injection hg with hg
          subst hg
          exact Nat.le_refl _
        · exact h2
      have hnb : ¬ At A2 b := fun hk => by have := hA2 b hk; omega
      have hfr4 : Fr (fun i => i = b) w (w2.setCell ⟨b, 1, none⟩ (.slice A2 k c2)) := by
        refine Fr.setCell (S := fun i => i = b) (p := ⟨b, 1, none⟩) (((hfr.alloc _).mono fun _ _ x => x.elim).trans' hfr3 fun i hi hi' => ?_) (fun _ => rfl) _
        obtain ⟨g, hg, rfl⟩ := hi'
        injection hg with hg
        subst hg
        have := hfr.size
        simp at hi
        omega
      have hfr5 : Fr (At (some ⟨wr.heap.size, 0, none⟩)) wr w2 := ((Fr.rfl' _ _).alloc _).trans hfr3
      have hownf : Own (w2.setCell ⟨b, 1, none⟩ (.slice A2 k c2)) 9 1 A' (L.length - k) c' ((L.drop k).reverse.map .string) := by
        refine Own.setFar (hown.fr hfr5 fun i hi hi' => ?_) (p := ⟨b, 1, none⟩) (fun hk => by have := hnew b hk; omega) _
        obtain ⟨g, hg, rfl⟩ := hi'
        injection hg with hg
        subst hg
        have := hown.lt hi
        simp at this
      rw [Nat.zero_add, List.nil_append] at hown3
      refine ⟨_, rfl, A', c', A2, c2, rfl, hownf, ⟨?_, ?_, hnb⟩, hfr4, hnew, fun i hi => ⟨by have := hA2 i hi; have := hfr.size; omega, fun hi' => by have := hA2 i hi; have := hown.lt hi'; omega⟩⟩
      · have := hb2.set_ 1 (.slice A2 k c2)
        rw [List.length_take, Nat.min_eq_left hm]
        simpa using this
      · rw [List.length_take, Nat.min_eq_left hm]
        exact hown3.setFar (p := ⟨b, 1, none⟩) hnb _

theorem rall_any (w : World) (b : Nat) (d : Int) (A : Option Addr) (c : Nat) (L : List ByteArray) (h : Stk 45 w b d A c L) (hL : L.length ≤ 65536) :
    Calls Try.prog 17 #[.pointer (some ⟨b, 0, none⟩)] w (Ret fun v w' => RClosed w b d L 0 v w') := by
  go_enter Try.func17, Try.ntmps17
  go_wp2_with fail
  refine (rcut_any w b d A c L 0 h (Nat.zero_le _) hL).mono ?_
  rintro e w1 ⟨v, rfl, r⟩
  go_wp2_with fail
  go_ret
  exact ⟨_, rfl, r⟩

/-- where the name is open -/
theorem rclose_at (w : World) (b : Nat) (d : Int) (A : Option Addr) (c : Nat) (L : List ByteArray) (x : ByteArray) (k : Nat) (h : Stk 45 w b d A c L) (hL : L.length ≤ 65536)
    (hk : L[k]? = some x) (hlast : ∀ j, k < j → L[j]? ≠ some x) :
    Calls Try.prog 16 #[.pointer (some ⟨b, 0, none⟩), .string x] w (Ret fun v w' => RClosed w b d L k v w') := by
  have h1 := h.c1
  have hkl := (List.getElem?_eq_some_iff.1 hk).1
  go_enter Try.func16, Try.ntmps16
  go_wp2_with fail
  go_loop [5] (fun i => ∃ (q : Int), i = .int .i64 q ∧ (k : Int) ≤ q ∧ q < L.length) (fun i => (intOf i + 1).toNat)
  case atStart => exact ⟨_, rfl, by omega, by omega⟩
  case round =>
    obtain ⟨q, rfl, hkq, hq⟩ := hrel
    obtain ⟨m, rfl⟩ : ∃ m : Nat, q = m := ⟨q.toNat, by omega⟩
    have hm : m < L.length := by omega
    have hkm : k ≤ m := by omega
    obtain ⟨ad, u, rfl, _, hu, hc⟩ := h.own.reads.at_ hm
    obtain ⟨s, hs⟩ : ∃ s, L[m]? = some s := ⟨L[m]'(by omega), List.getElem?_eq_getElem _⟩
    rw [List.getElem?_map, hs] at hu
    obtain rfl : Value.string s = u := by simpa using hu
    have HS := Lib.hid hs
    have HK := Lib.hid hk
    by_cases e : s = x
    · have e1 : (s.toList == x.toList) = true := by rw [e]; exact str_beq_self x
      have e2 : m = k := by
        rcases Nat.lt_or_ge k m with hlt | hge
        · exact (hlast m hlt (by rw [hs, e])).elim
        · omega
      subst e2
      clear hs hu hk
      go_wp2_with fail
      refine (rcut_any w b d _ c L m h (by omega) hL).mono ?_
      rintro e' w1 ⟨v, rfl, r⟩
      go_wp2_with fail
      go_ret
      exact ⟨_, rfl, r⟩
    · have e1 := str_beq_ne e
      have hkm' : k < m := by
        rcases Nat.lt_or_ge k m with hlt | hge
        · exact hlt
        · obtain rfl : k = m := by omega
          rw [hs] at hk
          injection hk with hk
          exact (e hk).elim
      clear hs hu hk
      go_wp2_with fail
      go_round
      case rel => exact ⟨_, rfl, by omega, by omega⟩
      case measure => simp [intOf]

theorem rclose_no (w : World) (b : Nat) (d : Int) (A : Option Addr) (c : Nat) (L : List ByteArray) (x : ByteArray) (h : Stk 45 w b d A c L) (hL : L.length ≤ 65536) (hx : x ∉ L) :
    Calls Try.prog 16 #[.pointer (some ⟨b, 0, none⟩), .string x] w fun e w' => e = .returned (.slice none 0 0) ∧ w' = w := by
  have h1 := h.c1
  go_enter Try.func16, Try.ntmps16
  go_wp2_with fail
  go_loop [5] (fun i => ∃ (q : Int), i = .int .i64 q ∧ -1 ≤ q ∧ q < L.length) (fun i => (intOf i + 1).toNat)
  case atStart => exact ⟨_, rfl, by omega, by omega⟩
  case round =>
    obtain ⟨q, rfl, hq0, hq⟩ := hrel
    by_cases hge : 0 ≤ q
    · obtain ⟨m, rfl⟩ : ∃ m : Nat, q = m := ⟨q.toNat, by omega⟩
      have hm : m < L.length := by omega
      obtain ⟨ad, u, rfl, _, hu, hc⟩ := h.own.reads.at_ hm
      obtain ⟨s, hs⟩ : ∃ s, L[m]? = some s := ⟨L[m]'(by omega), List.getElem?_eq_getElem _⟩
      rw [List.getElem?_map, hs] at hu
      obtain rfl : Value.string s = u := by simpa using hu
      have e1 := str_beq_ne (s := s) (x := x) (fun e => hx (by subst e; exact List.mem_of_getElem? hs))
      clear hs hu
      go_wp2_with fail
      go_round
      case rel => exact ⟨_, rfl, by omega, by omega⟩
      case measure => simp [intOf]
    · go_wp2_with fail
      go_ret
      exact ⟨rfl, rfl⟩
end Go.Proofs.Ytdanhjfdgpbfiaa
