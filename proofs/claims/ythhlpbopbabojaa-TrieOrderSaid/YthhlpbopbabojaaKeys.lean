/-
  maps.Keys at maps from bytes, its iterator, slices.AppendSeq, Collect, walked.
-/
import Derived.Test.YthhlpbopbabojaaRangeM
import Derived.Test.YthhlpbopbabojaaRange
import Derived.Test.YthhlpbopbabojaaTrie
import Derived.Sort.MapsRangeIn
import Derived.Sort.QuietIn
namespace Go.Proofs.Ythhlpbopbabojaa
open Go.RowKit Go.Maps Go.Shelf
attribute [local go_sem] Oper.semAt_some
theorem wide_fnM (f : FuncId) : Fence.wide.fn f = True := rfl
attribute [local go_sem] wide_fnM

/-- the bytes that have come: each once, just those of f that are not left -/
def Col (f : UInt8 → Option Nat) (left : Lit → Bool) (ss : List UInt8) : Prop := ss.Nodup ∧ ∀ c, c ∈ ss ↔ ((f c).isSome = true ∧ left (kb c) = false)
/-- the bytes of f, each once -/
def KeysOf (f : UInt8 → Option Nat) (ss : List UInt8) : Prop := ss.Nodup ∧ ∀ c, c ∈ ss ↔ (f c).isSome = true
theorem kb_same (c d : UInt8) : (kb c).sameKey (kb d) = decide (c = d) := by
  by_cases h : c = d
  · subst h; simp [kb, Lit.sameKey]
  · have : c.toNat ≠ d.toNat := fun e => h (UInt8.toNat_inj.1 e)
    simp [kb, Lit.sameKey, h]
    omega
theorem Col.step {f : UInt8 → Option Nat} {left : Lit → Bool} {ss : List UInt8} (h : Col f left ss) {c : UInt8} (hl : left (kb c) = true) (hc : (f c).isSome = true) : Col f (fun z => left z && !z.sameKey (kb c)) (ss ++ [c]) := by
  have hnew : c ∉ ss := fun hx => by have := ((h.2 c).1 hx).2; rw [hl] at this; cases this
  refine ⟨List.nodup_append.2 ⟨h.1, by simp, fun a ha b hb => ?_⟩, fun d => ?_⟩
  · simp at hb
    subst hb
    exact fun e => hnew (e ▸ ha)
  · show _ ↔ _ ∧ (left (kb d) && !(kb d).sameKey (kb c)) = false
    rw [List.mem_append, List.mem_singleton, h.2 d, kb_same]
    by_cases hd : d = c
    · subst hd; simp [hc]
    · simp [hd]
theorem ranges_keep {H : Type} {w w' : World} {P : Program} {k : TypeId} {R : Value → Option (DataW H × List MemPlace)} {b r n : Nat} {D : DataW H} {left : Lit → Bool} {cnt : Nat} (h : w.ranges P k R b r n D left cnt)
    (hb : w'.heap[b]? = w.heap[b]?) (hr : w'.heap[r]? = w.heap[r]?) : w'.ranges P k R b r n D left cnt := by
  obtain ⟨es, clock, since, seen, c0, h1, h2, h3, h4, h5, h6⟩ := h
  exact ⟨es, clock, since, seen, c0, hb.trans h1, h2, h3, h4, hr.trans h5, h6⟩
theorem ranges_iter {H : Type} {w : World} {P : Program} {k : TypeId} {R : Value → Option (DataW H × List MemPlace)} {b r n : Nat} {D : DataW H} {left : Lit → Bool} {cnt : Nat} (h : w.ranges P k R b r n D left cnt) : IsIter w r := by
  obtain ⟨es, clock, since, seen, c0, h1, h2, h3, h4, h5, h6⟩ := h
  exact ⟨_, _, _, _, h5⟩
theorem key_u8 {key : Value} {kl : Lit} (h : keyOf Try.prog 5 key = some kl) : ∃ c : UInt8, key = .int .u8 (c.toNat : Int) ∧ kl = kb c := by
  obtain ⟨x, rfl, rfl, hw⟩ := Maps.keyOf_int_inv Try.underlying5 h
  simp [Lit.wf, IntKind.min, IntKind.max, IntKind.signed, IntKind.bits] at hw
  have h1 : (UInt8.ofNat x.toNat).toNat = x.toNat := UInt8.toNat_ofNat_of_lt' (by show x.toNat < 256; omega)
  have h2 : ((UInt8.ofNat x.toNat).toNat : Int) = x := by rw [h1]; omega
  exact ⟨UInt8.ofNat x.toNat, by rw [h2], by unfold kb; rw [h2]⟩
def encU (c : UInt8) : Value := .int .u8 (c.toNat : Int)

set_option maxRecDepth 100000 in
set_option maxHeartbeats 1000000 in
theorem keys1_in (n : Nat) (hn : 1 ≤ n) (l Bm b nn n0 : Nat) (f : UInt8 → Option Nat) (J : List UInt8 → World → Prop) (W : World) (hW : n0 ≤ W.heap.size)
    (hJ : ∀ s A B, J s A → Fr (ItFrom n0 A) A B → J s B)
    (hY : ∀ pre x A, J pre A → (pre ++ [x]).Nodup → YieldAt Fence.wide (n - 1) Try.prog l #[.int .u8 ((x : UInt8).toNat : Int)] A fun e B => e = .returned (.bool true) ∧ J (pre ++ [x]) B ∧ Kept (fun k => k = b) A B ∧ Kept (ItFrom n0 A) A B)
    (hm : W.cell? ⟨Bm, 0, none⟩ = some (.map (some b))) (hown : MapB W b nn f) (h0 : J [] W) :
    CallsIn Fence.wide n Try.prog 34 #[.func (.yield l) #[] #[], .pointer (some ⟨Bm, 0, none⟩)] W fun e B => (∃ v, e = .returned v) ∧ ∃ xs, KeysOf f xs ∧ J xs B := by
  have hro : Fence.wide.round = none := rfl
  obtain ⟨D, hown, _, hf⟩ := hown
  have HF := Lib.hid hf
  clear hf
  refine callsIn_of_wp Try.func34 rfl trivial ?_ hro
  simp only [Try.ntmps34, List.size_toArray, List.length_cons, List.length_nil, Nat.reduceAdd, Nat.reduceSub, Array.replicate_succ, Array.replicate_zero, List.push_toArray, List.append_toArray, List.nil_append, List.cons_append]
  gi_wp2_with (first
    | (gi_at_range; refine wpListIn_range_own _ rfl _ 46 rfl 5 3 keyed8 Try.underlying46 _ b nn _ rfl hown ?_; intro w0 hrg0 hg0 hs0)
    | gi_in)
  go_frame
  gi_loopw [3] (fun _ wr => ∃ (left : Lit → Bool) (cnt : Nat) (ss : List UInt8), wr.ranges Try.prog 5 (plainElem Try.prog 3) b W.heap.size nn D left cnt ∧ Col f left ss ∧ J ss wr)
    (fun _ wr => wr.rangeLeft b W.heap.size)
  case atStart =>
    refine ⟨_, _, [], hrg0, ⟨List.nodup_nil, fun c => ?_⟩, hJ _ _ _ h0 (Fr.of_grown hg0 fun k hk _ => by cases hk)⟩
    have := HF.out c
    cases hc : f c with
    | none => simp
    | some j => simp [(this.2 j hc).2.1]
  case round =>
    obtain ⟨left, cnt, ss, hrg, hC, hJs⟩ := hrel
    gi_wp2_with (first
      | (gi_at_next; refine wpListIn_next_ranges _ rfl _ rfl 5 keyed8 (plainElem Try.prog 3) encU id (fun key kl hk => by obtain ⟨c, h, _⟩ := key_u8 hk; exact ⟨c, h⟩) (fun v _ _ => ⟨v, rfl⟩) b W.heap.size nn _ _ _ rfl hrg ?_ ?_)
      | gi_in)
    · intro hc0 hl0
      gi_wp2
      go_end0
      exact ⟨⟨_, rfl⟩, ss, ⟨hC.1, fun c => by rw [hC.2 c, hl0]; simp⟩, hJs⟩
    · intro x cv kl yd yp w2 cnt2 hkey hlk hv hat hrg2 hlt hg2 hs2 hen
      obtain ⟨x', ex, rfl⟩ := key_u8 hkey
      obtain rfl : x = x' := by
        unfold encU at ex
        injection ex with _ ex
        exact UInt8.toNat_inj.1 (by omega)
      have hfx : (f x).isSome = true := by
        cases hc : f x with
        | some j => rfl
        | none =>
          have h1 := (HF.out x).1 hc
          have h2 := has_true_of_atKey hat
          rw [h1] at h2
          cases h2
      have hJ2 : J ss w2 := hJ _ _ _ hJs (Fr.of_grown hg2 fun k hk _ => by cases hk; exact ⟨hW, ranges_iter hrg⟩)
      obtain ⟨fn, tmps, assign, body, hy, hR⟩ := hY ss x w2 hJ2 (hC.step hlk hfx).1
      clear hs2
      unfold encU at hen
      rw [show encU x = Value.int .u8 (x.toNat : Int) from rfl]
      gi_wp2
      refine hR.mono ?_
      rintro e W3 ⟨rfl, hJ3, hk3, hk4⟩
      gi_wp2
      have hrg3 := ranges_keep hrg2 (hk3 b rfl) (hk4 _ ⟨hW, ranges_iter hrg2⟩)
      go_roundw
      case rel => exact ⟨_, cnt2, ss ++ [x], hrg3, hC.step hlk hfx, hJ3⟩
      case measure => rw [hrg3.left_eq, hrg.left_eq]; exact hlt

theorem nodup_sub : ∀ (l m : List Nat), l.Nodup → (∀ x ∈ l, x ∈ m) → l.length ≤ m.length
  | [], _, _, _ => Nat.zero_le _
  | x :: l, m, hn, hs => by
    rw [List.nodup_cons] at hn
    have hx := hs x (by simp)
    have h1 := nodup_sub l (m.erase x) hn.2 fun y hy => (List.mem_erase_of_ne (fun e => by subst e; exact hn.1 hy)).2 (hs y (by simp [hy]))
    have h2 := List.length_erase_of_mem hx
    have h3 := List.length_pos_of_mem hx
    rw [List.length_cons]
    omega
theorem nodup_u8 {l : List UInt8} (h : l.Nodup) : l.length ≤ 256 := by
  have hm : (l.map UInt8.toNat).Nodup := List.pairwise_map.2 (h.imp fun {a b} hne e => hne (UInt8.toNat_inj.1 e))
  have := nodup_sub _ (List.range 256) hm fun x hx => by
    obtain ⟨c, _, rfl⟩ := List.mem_map.1 hx
    exact List.mem_range.2 c.toNat_lt
  rwa [List.length_map, List.length_range] at this
theorem keys_any (n : Nat) (mb : Option Nat) (w : World) : CallsIn Fence.wide n Try.prog 31 #[.map mb] w fun e w' =>
    e = .returned (.func (.func 34) #[] #[.pointer (some ⟨w.heap.size, 0, none⟩)]) ∧ w' = w.alloc (.cells #[.map mb] 46) := by
  have hro : Fence.wide.round = none := rfl
  refine callsIn_of_wp Try.func31 rfl trivial ?_ hro
  simp only [Try.ntmps31, List.size_toArray, List.length_cons, List.length_nil, Nat.reduceAdd, Nat.reduceSub, Array.replicate_succ, Array.replicate_zero, List.push_toArray, List.append_toArray, List.nil_append, List.cons_append]
  gi_wp2
  go_ret
  exact ⟨rfl, rfl⟩
theorem Own.is_cells {w : World} {e : TypeId} {size n c : Nat} {A : Option Addr} {xs : List Value} (h : Own w e size A n c xs) {k : Nat} (hk : At A k) : ∃ cs t f, w.heap[k]? = some (.cells cs t f) := by
  obtain ⟨ad, rfl, rfl⟩ := hk
  rcases h.2 with ⟨hv, _⟩ | ⟨g, cap, cur, hv, _, hh, _⟩
  · cases hv
  · injection hv with h1
    injection h1 with h1
    subst h1
    exact ⟨_, _, _, hh⟩
theorem keepsFrom_cells {S : Nat → Prop} {D : Nat} {w w' : World} (hf : Fr S w w') (hs : ∀ k, S k → ∃ cs t f, w.heap[k]? = some (.cells cs t f)) : KeepsFrom D w w' :=
  ⟨hf.size, fun k o hD hk ho => (hf.block k (Array.getElem?_eq_some_iff.1 hk).1 fun h => by
    obtain ⟨cs, t, f, h⟩ := hs k h
    rw [hk] at h
    cases h
    cases ho).trans hk⟩
theorem cellsOf_snoc (l : List UInt8) (c : UInt8) : cellsOf (l ++ [c]) = cellsOf l ++ [.int .u8 (c.toNat : Int)] := by simp [cellsOf]
theorem infoU8 : (Try.prog.info? 5).map (fun i => (i.zero, i.size, i.bytes)) = some (some (.int .u8 0), 1, 1) := by kernel_rfl
/-- between two rounds of AppendSeq: the bytes that have come, in a row of its own -/
def ApI (w : World) (b D : Nat) (pre : List UInt8) (W : World) : Prop :=
  ∃ A c, Blk W w.heap.size 58 #[.slice A pre.length c] ∧ Own W 5 1 A pre.length c (cellsOf pre) ∧ (∀ k, At A k → w.heap.size < k) ∧ Fr Nil w W ∧ D ≤ W.heap.size
/-- a row of the call's own with the bytes of f, each once -/
def Got (w : World) (f : UInt8 → Option Nat) (e : Ending) (w' : World) : Prop :=
  ∃ A c ss, e = .returned (.slice A ss.length c) ∧ KeysOf f ss ∧ Own w' 5 1 A ss.length c (cellsOf ss) ∧ Fr Nil w w' ∧ ∀ k, At A k → w.heap.size ≤ k

set_option maxRecDepth 100000 in
set_option maxHeartbeats 4000000 in
theorem appendseq_in (w : World) (Bm b nn : Nat) (f : UInt8 → Option Nat) (hm : w.cell? ⟨Bm, 0, none⟩ = some (.map (some b))) (hown : MapB w b nn f) :
    CallsIn Fence.wide 4 Try.prog 35 #[.slice none 0 0, .func (.func 34) #[] #[.pointer (some ⟨Bm, 0, none⟩)]] w (Got w f) := by
  have hro : Fence.wide.round = none := rfl
  refine callsIn_of_wp_marks Try.func35 rfl trivial ?_ hro
  simp only [Try.ntmps35, List.size_toArray, List.length_cons, List.length_nil, Nat.reduceAdd, Nat.reduceSub, Array.replicate_succ, Array.replicate_zero, List.push_toArray, List.append_toArray, List.nil_append, List.cons_append]
  gi_wp2
  have hBm := block_lt_of_cell hm
  have hbl := hown.lt
  have b0 := Blk.new w 58 #[.slice none 0 0]
  have hfr : Fr Nil w (w.alloc (.cells #[.slice none 0 0] 58)) := (Fr.rfl' _ _).alloc _
  have hsz : (w.alloc (.cells #[.slice none 0 0] 58)).heap.size = w.heap.size + 1 := by simp
  generalize hW0 : w.alloc (.cells #[.slice none 0 0] 58) = W0 at *
  clear hW0
  refine wpIn_range_it (Kp := fun k => k = b) (S := KeysOf f) (Pr := List.Nodup) (encs := fun x : UInt8 => #[.int .u8 (x.toNat : Int)])
    (lb := #[.pointer (some ⟨Bm, 0, none⟩)]) (gf := 34) hro (by decide) rfl trivial
    (enters_of Try.func34 (by kernel_rfl) rfl)
    (fun l J W hWf hJ hY h0 => keys1_in _ (by decide) l Bm b nn W0.heap.size f J W hWf.size hJ hY (((hfr.trans hWf).cell hBm fun x => x).trans hm) (hown.fr (hfr.trans hWf) fun x => x) h0) (fun _ => rfl)
    (fun k h => by have := hfr.size; omega)
    (fun pre W => ApI w b W0.heap.size pre W)
    (ownFrom_of_turn ?turn) ?own ⟨none, 0, b0, Own.nil _ _ _, fun k hk => (not_at_none k hk).elim, hfr, Nat.le_refl _⟩
    (fun x => { tmps := #[.slice none 0 0, .func (.func 34) #[] #[.pointer (some ⟨Bm, 0, none⟩)], .pointer (some ⟨w.heap.size, 0, none⟩), undef, .slice none 0 0, .int .u8 (x.toNat : Int),
      .func (.func 34) #[] #[.pointer (some ⟨Bm, 0, none⟩)], .int .u8 (x.toNat : Int), undef, undef, undef, undef, undef], defers := [] })
    ?assign ?body ?done
  case turn =>
    rintro pre W W' ⟨A, c, c0, ho, hA, hf, hl⟩ ht
    exact ⟨A, c, c0.turn ht, ho.turn ht, hA, ht.fr hf (by omega), Nat.le_trans hl ht.size⟩
  case own =>
    rintro pre W W' ⟨A, c, c0, ho, hA, hf, hl⟩ ht
    refine ⟨A, c, c0.fr ht fun h => by have := h.1; omega, ho.fr ht fun k hk h => ?_, hA, hf.trans' ht fun k hk h => by have := h.1; omega, Nat.le_trans hl ht.size⟩
    obtain ⟨cs, t, fz, hc⟩ := ho.is_cells hk
    exact h.2.ne hc (fun _ _ _ _ e => by cases e) rfl
  case assign =>
    intro l x W K hK
    gi_wp2
    exact hK
  case body =>
    rintro l pre x W ⟨A, c, c0, ho, hA, hf, hl⟩ hnd
    have hlen := nodup_u8 hnd
    rw [List.length_append, List.length_singleton] at hlen
    have k0 := c0.cell 0
    have z0 := c0.frozen 0
    simp at k0
    clear b0
    have q1 := (Own.lit (size := 1) (e := 5) W #[.int .u8 (x.toNat : Int)] 1 (by unfold maxLen; omega) rfl).reads
    gi_wp2_with (first
      | (gi_at_builtin
         refine wpListIn_append _ rfl (.tmp 8) (.tmp 10) 58 rfl 5 (.int .u8 0) 1 1 Try.underlying58 infoU8 rfl (by decide) A pre.length c (cellsOf pre) rfl (ho.alloc _)
           _ _ 1 1 [.int .u8 (x.toNat : Int)] rfl q1 (fun u hu => by simp at hu; subst hu; rfl) (by unfold maxLen; omega) (by omega) ?_
         intro A' c' w2 hown2 hfr2 hat
         have k2 : w2.cell? ⟨w.heap.size, 0, none⟩ = some (.slice A pre.length c) := (hfr2.cell (p := ⟨w.heap.size, 0, none⟩) (by have := c0.lt; rw [World.size_alloc]; show w.heap.size < _; omega) (fun h => by have := hA _ h; exact absurd this (Nat.lt_irrefl _))).trans ((World.cell?_alloc_lt W _ ⟨w.heap.size, 0, none⟩ c0.lt).trans k0)
         have z2 : w2.frozen? ⟨w.heap.size, 0, none⟩ = false := ((c0.alloc _).fr hfr2 (fun h => by have := hA _ h; exact absurd this (Nat.lt_irrefl _))).frozen 0)
      | gi_in)
    have hA' : ∀ k, At A' k → w.heap.size < k := fun k hk => by
      have := c0.lt
      rcases at_new (w0 := W) hat (by simp) k hk with h1 | h1
      · exact hA k h1
      · omega
    have hF : Fr (fun k => At A k ∨ k = w.heap.size) W (w2.setCell ⟨w.heap.size, 0, none⟩ (.slice A' (pre.length + 1) c')) :=
      (((Fr.rfl' (fun k => At A k ∨ k = w.heap.size) W).alloc _).trans' hfr2 fun k _ h => .inl h).setCell (p := ⟨w.heap.size, 0, none⟩) (fun _ => .inr rfl) _
    have c2 : Blk w2 w.heap.size 58 #[.slice A pre.length c] := (c0.alloc _).fr hfr2 fun h => by have := hA _ h; omega
    have c3 := c2.set_ 0 (.slice A' (pre.length + 1) c')
    have f3 : Fr (fun k => k = w.heap.size) w2 (w2.setCell ⟨w.heap.size, 0, none⟩ (.slice A' (pre.length + 1) c')) := (Fr.rfl' (fun k => k = w.heap.size) w2).setCell (p := ⟨w.heap.size, 0, none⟩) (fun _ => rfl) _
    refine ⟨keepsFrom_cells hF ?_, ?_, A', c', ?_, ?_, hA', hf.trans' hF ?_, Nat.le_trans (by rw [← hsz]; exact hl) hF.size⟩
    · rintro k (h | rfl)
      · exact ho.is_cells h
      · exact ⟨_, _, _, c0⟩
    · rintro k rfl
      exact hF.block k (Nat.lt_of_lt_of_le hbl hf.size) fun h => by
        rcases h with h | h
        · have := hA _ h; omega
        · omega
    · rw [List.length_append, List.length_singleton]
      simpa using c3
    · rw [List.length_append, List.length_singleton, cellsOf_snoc]
      exact hown2.fr f3 fun k hk => by have := hA' k hk; omega
    · rintro k hk (h | h)
      · have := hA k h; omega
      · omega
  case done =>
    rintro D ys W hD hK ⟨A, c, c0, ho, hA, hf, hl⟩ hdf
    have k0 := c0.cell 0
    simp at k0
    clear b0
    gi_wp2
    have ht2 : Turn D W (W.putObj D (.deferred none)) :=
      ⟨some D, grownBy_putObj' _ _ _, fun r e => by cases e; exact ⟨Nat.le_refl _, _, hdf, rfl⟩⟩
    refine ⟨by simp, .inl ⟨_, _, rfl, run_takeDeferred hdf, ?_⟩⟩
    refine ⟨_, results_tmp rfl _ _ _, A, c, ys, rfl, hK, ho.turn ht2, ht2.fr hf (by omega), fun k hk => Nat.le_of_lt (hA k hk)⟩

theorem collect_in (w : World) (Bm b nn : Nat) (f : UInt8 → Option Nat) (hm : w.cell? ⟨Bm, 0, none⟩ = some (.map (some b))) (hown : MapB w b nn f) :
    CallsIn Fence.wide 5 Try.prog 32 #[.func (.func 34) #[] #[.pointer (some ⟨Bm, 0, none⟩)]] w (Got w f) := by
  have hro : Fence.wide.round = none := rfl
  refine callsIn_of_wp Try.func32 rfl trivial ?_ hro
  simp only [Try.ntmps32, List.size_toArray, List.length_cons, List.length_nil, Nat.reduceAdd, Nat.reduceSub, Array.replicate_succ, Array.replicate_zero, List.push_toArray, List.append_toArray, List.nil_append, List.cons_append]
  gi_wp2
  refine (appendseq_in w Bm b nn f hm hown).mono ?_
  rintro e w' ⟨A, c, ss, rfl, h1, h2, h3, h4⟩
  gi_wp2
  go_ret
  exact ⟨A, c, ss, rfl, h1, h2, h3, h4⟩
end Go.Proofs.Ythhlpbopbabojaa
