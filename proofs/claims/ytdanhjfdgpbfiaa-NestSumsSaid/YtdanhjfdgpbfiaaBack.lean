/-
  slices.Backward on strings as an iterator, and the walk of nest.Close (a range over a function).
-/
import Derived.Test.YtdanhjfdgpbfiaaStk
import Derived.Test.YtdanhjfdgpbfiaaTurn
namespace Go.Proofs.Ytdanhjfdgpbfiaa
open Go.RowKit Go.Shelf
attribute [local go_sem] Oper.semAt_some

/-- a place of a list, and what stands there -/
abbrev Spot (L : List ByteArray) : Type := { x : Nat × ByteArray // L[x.1]? = some x.2 }
/-- what has come behind k rounds, from the end on -/
def bk (L : List ByteArray) : Nat → List (Spot L)
  | 0 => []
  | k + 1 => if h : k < L.length then bk L k ++ [⟨(L.length - 1 - k, L[L.length - 1 - k]), List.getElem?_eq_getElem _⟩] else bk L k
theorem bk_len (L : List ByteArray) (k : Nat) (hk : k ≤ L.length) : (bk L k).length = k := by
  induction k with
  | zero => rfl
  | succ k ih => rw [bk, dif_pos (by omega)]; simp [ih (by omega)]
theorem bk_prefix (L : List ByteArray) (k m : Nat) : bk L k <+: bk L (k + m) := by
  induction m with
  | zero => exact List.prefix_refl _
  | succ m ih =>
    refine ih.trans ?_
    rw [← Nat.add_assoc, bk]
    split
    · exact List.prefix_append _ _
    · exact List.prefix_refl _
theorem bk_at (L : List ByteArray) (k j : Nat) (hk : k ≤ L.length) (x : Spot L) (h : (bk L k)[j]? = some x) : x.1.1 = L.length - 1 - j ∧ j < k := by
  induction k with
  | zero => simp [bk] at h
  | succ k ih =>
    rw [bk, dif_pos (by omega)] at h
    have hl := bk_len L k (by omega)
    by_cases hj : j < k
    · rw [List.getElem?_append_left (by omega)] at h
      obtain ⟨a, b⟩ := ih (by omega) h
      exact ⟨a, by omega⟩
    · by_cases hjk : j = k
      · subst hjk
        rw [List.getElem?_append_right (by omega)] at h
        simp [hl] at h
        subst h
        exact ⟨rfl, by omega⟩
      · rw [List.getElem?_eq_none (by simp; omega)] at h
        cases h

set_option maxRecDepth 100000 in
set_option maxHeartbeats 2000000 in
theorem back_in (F : Fence) (n : Nat) (h22 : F.fn 22) (hro : F.round = none) (hn : 1 ≤ n) (l Bn n₀ : Nat) (A : Option Addr) (c : Nat) (L : List ByteArray) (hL : L.length ≤ 65536) (J Jx : List (Spot L) → World → Prop)
    (hY : ∀ pre x W, J pre W → pre.length < L.length → YieldAt F (n - 1) Try.prog l #[.int .i64 (x.1.1 : Int), .string x.1.2] W fun e W' =>
      (e = .returned (.bool true) ∧ J (pre ++ [x]) W' ∧ Below n₀ W W') ∨ (e = .returned (.bool false) ∧ Jx (pre ++ [x]) W'))
    (W : World) (hBn : W.cell? ⟨Bn, 0, none⟩ = some (.slice A L.length c)) (hlt : Bn < n₀) (hR : Reads W n₀ 1 A L.length (L.map .string)) (h0 : J [] W) :
    CallsIn F n Try.prog 22 #[.func (.yield l) #[] #[], .pointer (some ⟨Bn, 0, none⟩)] W fun e W' => (∃ v, e = .returned v) ∧
      (J (bk L L.length) W' ∨ (∃ pre, pre <+: bk L L.length ∧ Jx pre W')) := by
  refine callsIn_of_wp Try.func22 rfl h22 ?_ hro
  simp only [Try.ntmps22, List.size_toArray, List.length_cons, List.length_nil, Nat.reduceAdd, Nat.reduceSub, Array.replicate_succ, Array.replicate_zero, List.push_toArray, List.append_toArray, List.nil_append, List.cons_append]
  gi_wp2
  gi_loopw [3] (fun i wr => ∃ (k : Nat) (q : Int), k ≤ L.length ∧ i = .int .i64 q ∧ q = (L.length : Int) - 1 - k ∧ J (bk L k) wr ∧ Below n₀ W wr)
    (fun i _ => (intOf i + 1).toNat)
  case atStart => exact ⟨0, _, Nat.zero_le _, rfl, by simp, h0, Below.refl _ _⟩
  case round =>
    obtain ⟨k, q, hk, rfl, hq, hJs, hnx⟩ := hrel
    have hcx := (hnx.cell (p := ⟨Bn, 0, none⟩) hlt).trans hBn
    by_cases hlt' : 0 ≤ q
    · obtain ⟨m, rfl⟩ : ∃ m : Nat, q = m := ⟨q.toNat, by omega⟩
      have hm : L.length - 1 - k = m := by omega
      have hml : m < L.length := by omega
      obtain ⟨ad, u, rfl, hab, hu, hc⟩ := (hR.below hnx).at_ hml
      obtain ⟨s, hus⟩ : ∃ s, L[m]? = some s := ⟨L[m], List.getElem?_eq_getElem hml⟩
      rw [List.getElem?_map, hus] at hu
      obtain rfl : Value.string s = u := by simpa using hu
      obtain ⟨x, hx1, hx2, hb1⟩ : ∃ x : Spot L, (x.1.1 : Int) = (m : Int) ∧ x.1.2 = s ∧ bk L (k + 1) = bk L k ++ [x] := by
        refine ⟨⟨(m, s), hus⟩, rfl, rfl, ?_⟩
        rw [bk, dif_pos (by omega)]
        refine congrArg (fun y => bk L k ++ [y]) (Subtype.ext ?_)
        have hg := List.getElem?_eq_getElem hml
        rw [hus] at hg
        injection hg with hg
        simp only [hm, hg]
      obtain ⟨fn, tmps, assign, body, hy, hRd⟩ := hY _ x wr hJs (by rw [bk_len L k hk]; omega)
      rw [hx1, hx2] at hy
      have HQ := Lib.hid hq
      have HB := Lib.hid hb1
      clear hq hm hb1 hu hus hx1 hx2
      gi_wp2
      refine hRd.mono ?_
      rintro e W3 (⟨rfl, hJ3, hk3⟩ | ⟨rfl, hJx3⟩)
      · gi_wp2
        go_roundw
        case rel =>
          have := HQ.out
          exact ⟨k + 1, _, by omega, rfl, by omega, by rw [HB.out]; exact hJ3, hnx.trans hk3⟩
        case measure => simp [intOf]
      · gi_wp2
        refine bodyPost_ret (results_none rfl _ _ _) rfl ?_
        refine ⟨⟨_, rfl⟩, .inr ⟨_, ?_, hJx3⟩⟩
        have := HQ.out
        rw [← HB.out]
        have h := bk_prefix L (k + 1) (L.length - (k + 1))
        rwa [show k + 1 + (L.length - (k + 1)) = L.length by omega] at h
    · obtain rfl : k = L.length := by omega
      gi_wp2
      go_end0
      exact ⟨⟨_, rfl⟩, .inl hJs⟩

theorem back_stops (F : Fence) (n : Nat) (h22 : F.fn 22) (hro : F.round = none) (hn : 1 ≤ n) (Bn n₀ : Nat) (A : Option Addr) (c : Nat) (L : List ByteArray) (hL : L.length ≤ 65536) (w : World) (hn₀ : n₀ ≤ w.heap.size)
    (hBn : w.cell? ⟨Bn, 0, none⟩ = some (.slice A L.length c)) (hlt : Bn < n₀) (hR : Reads w n₀ 1 A L.length (L.map .string)) :
    SeqStopsK F n Try.prog 22 #[.pointer (some ⟨Bn, 0, none⟩)] (fun x : Spot L => #[.int .i64 (x.1.1 : Int), .string x.1.2]) (Below n₀) (fun ys => ys = bk L L.length) (fun pre => pre <+: bk L L.length) L.length w := fun l J Jx W hW _ _ hY h0 => by
  have hW' := hW.mono hn₀
  refine (back_in F n h22 hro hn l Bn n₀ A c L hL J Jx hY W ((hW'.cell (p := ⟨Bn, 0, none⟩) hlt).trans hBn) hlt (hR.below hW') h0).mono ?_
  rintro e W' ⟨he, h | h⟩
  · exact ⟨he, .inl ⟨_, rfl, h⟩⟩
  · exact ⟨he, .inr h⟩

theorem backward_in (F : Fence) (n : Nat) (h19 : F.fn 19) (hro : F.round = none) (A : Option Addr) (m c : Nat) (w : World) :
    CallsIn F n Try.prog 19 #[.slice A m c] w fun e w' => e = .returned (.func (.func 22) #[] #[.pointer (some ⟨w.heap.size, 0, none⟩)]) ∧ w' = w.alloc (.cells #[.slice A m c] 22) := by
  refine callsIn_of_wp Try.func19 rfl h19 ?_ hro
  simp only [Try.ntmps19, List.size_toArray, List.length_cons, List.length_nil, Nat.reduceAdd, Nat.reduceSub, Array.replicate_succ, Array.replicate_zero, List.push_toArray, List.append_toArray, List.nil_append, List.cons_append]
  gi_wp2
  go_ret
  exact ⟨rfl, rfl⟩

/-- the last place of x -/
def LastAt (L : List ByteArray) (x : ByteArray) (k : Nat) : Prop := L[k]? = some x ∧ ∀ j, k < j → L[j]? ≠ some x

/-- what Close has done, where the name was at place k -/
def Closed (w : World) (b : Nat) (d : Int) (A : Option Addr) (c : Nat) (L : List ByteArray) (k : Nat) (v : Value) (w' : World) : Prop :=
  ∃ A' c', v = .slice A' (L.length - k) c' ∧ Own w' 9 1 A' (L.length - k) c' ((L.drop k).reverse.map .string) ∧
    Stk 47 w' b d A c (L.take k) ∧ Fr (fun i => i = b) w w' ∧ (∀ k, At A' k → w.heap.size ≤ k)

section
variable {w w' w0 : World} {b : Nat} {d : Int} {A : Option Addr} {c : Nat} {L : List ByteArray} {B k : Nat} {v : Value} {T : TypeId}
theorem Stk.turn (h : Stk T w b d A c L) (ht : Turn B w w') : Stk T w' b d A c L := ⟨h.blk.turn ht, h.own.turn ht, h.nb⟩
theorem Closed.turn (h : Closed w0 b d A c L k v w) (ht : Turn B w w') (hB : w0.heap.size ≤ B) : Closed w0 b d A c L k v w' := by
  obtain ⟨A', c', hv, ho, hs, hf, hn⟩ := h
  exact ⟨A', c', hv, ho.turn ht, hs.turn ht, ht.fr hf hB, hn⟩
end

set_option maxRecDepth 100000 in
set_option maxHeartbeats 2000000 in
theorem close_any (w : World) (b : Nat) (d : Int) (A : Option Addr) (c : Nat) (L : List ByteArray) (x : ByteArray) (h : Stk 47 w b d A c L) (hL : L.length ≤ 65536) :
    Calls Try.prog 10 #[.pointer (some ⟨b, 0, none⟩), .string x] w fun e w' => ∃ v, e = .returned v ∧
      ((x ∉ L ∧ v = .slice none 0 0 ∧ Fr Nil w w') ∨ (∃ k, LastAt L x k ∧ Closed w b d A c L k v w')) := by
  refine (callsIn_wide (n := 6)).1 ?_
  have hro : Fence.wide.round = none := rfl
  refine callsIn_of_wp_marks Try.func10 rfl trivial ?_ hro
  simp only [Try.ntmps10, List.size_toArray, List.length_cons, List.length_nil, Nat.reduceAdd, Nat.reduceSub, Array.replicate_succ, Array.replicate_zero, List.push_toArray, List.append_toArray, List.nil_append, List.cons_append]
  have h1 := h.c1
  have hb := h.blk.lt
  gi_wp2
  refine ⟨trivial, (backward_in Fence.wide _ trivial hro _ _ _ _).mono ?_⟩
  rintro e w' ⟨rfl, rfl⟩
  gi_wp2
  have b0 := (((Blk.new w 24 #[.pointer (some ⟨b, 0, none⟩)]).alloc (.cells #[.string x] 9)).alloc (.cells #[.slice none 0 0] 22)).alloc (.cells #[.slice A L.length c] 22)
  have b1 := ((Blk.new (w.alloc (.cells #[.pointer (some ⟨b, 0, none⟩)] 24)) 9 #[.string x]).alloc (.cells #[.slice none 0 0] 22)).alloc (.cells #[.slice A L.length c] 22)
  have b2 := (Blk.new ((w.alloc (.cells #[.pointer (some ⟨b, 0, none⟩)] 24)).alloc (.cells #[.string x] 9)) 22 #[.slice none 0 0]).alloc (.cells #[.slice A L.length c] 22)
  have b3 := Blk.new (((w.alloc (.cells #[.pointer (some ⟨b, 0, none⟩)] 24)).alloc (.cells #[.string x] 9)).alloc (.cells #[.slice none 0 0] 22)) 22 #[.slice A L.length c]
  have hfr : Fr Nil w ((((w.alloc (.cells #[.pointer (some ⟨b, 0, none⟩)] 24)).alloc (.cells #[.string x] 9)).alloc (.cells #[.slice none 0 0] 22)).alloc (.cells #[.slice A L.length c] 22)) := ((((Fr.rfl' _ _).alloc _).alloc _).alloc _).alloc _
  have hsz : ((((w.alloc (.cells #[.pointer (some ⟨b, 0, none⟩)] 24)).alloc (.cells #[.string x] 9)).alloc (.cells #[.slice none 0 0] 22)).alloc (.cells #[.slice A L.length c] 22)).heap.size = w.heap.size + 4 := by simp
  simp only [World.size_alloc] at b0 b1 b2 b3 ⊢
  generalize ((((w.alloc (.cells #[.pointer (some ⟨b, 0, none⟩)] 24)).alloc (.cells #[.string x] 9)).alloc (.cells #[.slice none 0 0] 22)).alloc (.cells #[.slice A L.length c] 22)) = W0 at *
  have hst := h.fr hfr fun _ _ x => x
  refine wpIn_rangeFunc_ownG hro (by decide) (gf := 22) (lb := #[.pointer (some ⟨w.heap.size + 1 + 1 + 1, 0, none⟩)]) rfl trivial (enters_of Try.func22 (by kernel_rfl) rfl)
    (back_stops Fence.wide _ trivial hro (by decide) (w.heap.size + 1 + 1 + 1) W0.heap.size A c L hL W0 (Nat.le_refl _) (b3.cell 0) b3.lt hst.own.reads) belowK_t (belowK_b (Nat.le_refl _)) (Below.refl _ _) (fun _ => rfl)
    (fun pre W => (∀ y ∈ pre, y.1.2 ≠ x) ∧ Blk W w.heap.size 24 #[.pointer (some ⟨b, 0, none⟩)] ∧ Blk W (w.heap.size + 1) 9 #[.string x] ∧ Blk W (w.heap.size + 1 + 1) 22 #[.slice none 0 0] ∧ Stk 47 W b d A c L ∧ Fr Nil w W ∧ W0.heap.size ≤ W.heap.size)
    (fun cd pre W => cd = .ret ∧ ∃ q y, pre = q ++ [y] ∧ y.1.2 = x ∧ (∀ z ∈ q, z.1.2 ≠ x) ∧ ∃ v, Blk W (w.heap.size + 1 + 1) 22 #[v] ∧ Closed w b d A c L y.1.1 v W)
    (ownFrom_of_turn fun s W W' hi ht => ⟨hi.1, hi.2.1.turn ht, hi.2.2.1.turn ht, hi.2.2.2.1.turn ht, hi.2.2.2.2.1.turn ht, ht.fr hi.2.2.2.2.2.1 (by omega), Nat.le_trans hi.2.2.2.2.2.2 ht.size⟩)
    (fun cd => ownFrom_of_turn fun s W W' hi ht => by
      obtain ⟨hc, q, y, hp, hy, hq, v, hv, hcl⟩ := hi
      exact ⟨hc, q, y, hp, hy, hq, v, hv.turn ht, hcl.turn ht (by omega)⟩)
    ⟨by simp, b0, b1, b2, hst, hfr, Nat.le_refl _⟩
    (fun y => { tmps := #[.pointer (some ⟨b, 0, none⟩), .string x, .pointer (some ⟨w.heap.size, 0, none⟩), .pointer (some ⟨w.heap.size + 1, 0, none⟩), .pointer (some ⟨w.heap.size + 1 + 1, 0, none⟩), .int .i64 y.1.1, .string y.1.2,
      .pointer (some ⟨b, 0, none⟩), .pointer (some ⟨b, 0, none⟩), .pointer (some ⟨b, 1, none⟩), .slice A L.length c, .func (.func 22) #[] #[.pointer (some ⟨w.heap.size + 1 + 1 + 1, 0, none⟩)], .int .i64 y.1.1, .string y.1.2, undef, undef, undef, undef, undef, undef], defers := [] }) ?assign ?body ?done ?stop
  case assign =>
    intro l y W K hK
    gi_wp2
    exact hK
  case body =>
    rintro l pre ⟨⟨i, s⟩, hy⟩ W ⟨hpre, c0, c1, c2, hs, hf, hsz2⟩ _
    have k0 := c0.cell 0
    have k1 := c1.cell 0
    simp at k0 k1
    dsimp only
    have hil : i < L.length := (List.getElem?_eq_some_iff.1 hy).1
    by_cases e : s = x
    · have e1 : (s.toList == x.toList) = true := by rw [e]; exact str_beq_self x
      have hr : w.heap.size + 1 + 1 < W.heap.size := c2.lt
      gi_wp2
      refine ⟨trivial, (CallsIn.inRound l (callsIn_wide.2 (cut_any W b d A c L i hs (by omega) hL))).mono ?_⟩
      rintro e' w1 ⟨A', c', rfl, hown, hst1, hf1, hnew⟩
      have d2 := c2.fr hf1 (by omega)
      have k2 := d2.cell 0
      have f2 := d2.frozen 0
      gi_wp2
      have hnb : ¬ At A' (w.heap.size + 1 + 1) := fun hk => by
        have := hnew _ hk
        omega
      refine ⟨?_, rfl, pre, ⟨(i, s), hy⟩, rfl, e, hpre, .slice A' (L.length - i) c', ?_, A', c', rfl, ?_, ?_, ?_, ?_⟩
      · exact (keepsFrom_fr hf1 (fun k hk hk' => by omega)).trans ((KeepsOthers.setCell _ _ _).from _)
      · simpa using d2.set_ 0 (.slice A' (L.length - i) c')
      · exact hown.setFar (p := ⟨w.heap.size + 1 + 1, 0, none⟩) hnb _
      · have hfoot : ∀ k, Foot b A k → ¬ k = w.heap.size + 1 + 1 := by
          rintro k (rfl | hk) hk'
          · omega
          · have := h.own.lt hk
            omega
        exact hst1.fr (Fr.setCell (S := fun i => i = w.heap.size + 1 + 1) (p := ⟨w.heap.size + 1 + 1, 0, none⟩) (Fr.rfl' _ _) (fun _ => rfl) _) hfoot
      · exact Fr.setCell (p := ⟨w.heap.size + 1 + 1, 0, none⟩) ((hf.mono fun _ _ x => x.elim).trans hf1) (fun hk => by simp at hk; omega) _
      · intro k hk
        have := hnew k hk
        have := hf.size
        omega
    · have e1 := str_beq_ne e
      gi_wp2
      refine ⟨KeepsFrom.refl _ _, Below.refl _ _, ?_, c0, c1, c2, hs, hf, hsz2⟩
      intro y hy'
      rcases List.mem_append.1 hy' with hy' | hy'
      · exact hpre y hy'
      · rw [List.mem_singleton.1 hy']
        exact e
  case done =>
    rintro D ys W hD rfl ⟨hpre, c0, c1, c2, hs, hf, hsz2⟩ hK
    have k2 := c2.cell 0
    have f2 := c2.frozen 0
    gi_wp2
    have hK2 := (KeepsOthers.setCell W ⟨w.heap.size + 1 + 1, 0, none⟩ (.slice none 0 0)).same D _ hK rfl
    have ht : Turn D (W.setCell ⟨w.heap.size + 1 + 1, 0, none⟩ (.slice none 0 0)) ((W.setCell ⟨w.heap.size + 1 + 1, 0, none⟩ (.slice none 0 0)).putObj D (.deferred none)) :=
      ⟨some D, grownBy_putObj' _ _ _, fun r e => by cases e; exact ⟨Nat.le_refl _, _, hK2, rfl⟩⟩
    have k3 := ((c2.set_ 0 (.slice none 0 0)).turn ht).cell 0
    simp at k3
    refine ⟨by simp, .inl ⟨_, _, rfl, run_takeDeferred hK2, ?_⟩⟩
    refine ⟨.slice none 0 0, by simp [results, Try.f10, go_sem, k3], _, rfl, .inl ⟨?_, rfl, ?_⟩⟩
    · intro hx
      obtain ⟨i, hi⟩ := List.getElem?_of_mem hx
      have hlt := (List.getElem?_eq_some_iff.1 hi).1
      have hlen := bk_len L L.length (Nat.le_refl _)
      obtain ⟨y, hy⟩ : ∃ y, (bk L L.length)[L.length - 1 - i]? = some y := ⟨_, List.getElem?_eq_getElem (by omega)⟩
      have h1 := bk_at L L.length _ (Nat.le_refl _) y hy
      have h2 := y.2
      rw [h1.1, show L.length - 1 - (L.length - 1 - i) = i by omega, hi] at h2
      injection h2 with h2
      exact hpre y (List.mem_of_getElem? hy) h2.symm
    · exact ht.fr (Fr.setCell (p := ⟨w.heap.size + 1 + 1, 0, none⟩) hf (fun hk => by simp at hk; omega) _) (by omega)
  case stop =>
    rintro D cd pre W hD hpf ⟨rfl, q, y, rfl, hy, hq, v, hv, hcl⟩ hK
    gi_wp2
    have ht : Turn D W (W.putObj D (.deferred none)) := ⟨some D, grownBy_putObj' _ _ _, fun r e => by cases e; exact ⟨Nat.le_refl _, _, hK, rfl⟩⟩
    have k3 := (hv.turn ht).cell 0
    simp at k3
    obtain ⟨A', c', rfl, hr⟩ := hcl
    refine ⟨by simp, .inl ⟨_, _, rfl, run_takeDeferred hK, ?_⟩⟩
    refine ⟨.slice A' (L.length - y.1.1) c', by simp [results, Try.f10, go_sem, k3], _, rfl, .inr ⟨y.1.1, ⟨by rw [← hy]; exact y.2, ?_⟩, Closed.turn ⟨A', c', rfl, hr⟩ ht (by omega)⟩⟩
    intro j hj hx
    have hjl := (List.getElem?_eq_some_iff.1 hx).1
    have hyl := (List.getElem?_eq_some_iff.1 y.2).1
    have hle := hpf.length_le
    have hlen := bk_len L L.length (Nat.le_refl _)
    have e1 : (bk L L.length)[q.length]? = some y := by
      obtain ⟨r, hr⟩ := hpf
      rw [← hr]
      simp
    have h1 := bk_at L L.length _ (Nat.le_refl _) y e1
    have hlq : L.length - 1 - j < q.length := by omega
    obtain ⟨z, hz⟩ : ∃ z, q[L.length - 1 - j]? = some z := ⟨_, List.getElem?_eq_getElem hlq⟩
    have e2 : (bk L L.length)[L.length - 1 - j]? = some z := by
      obtain ⟨r, hr⟩ := hpf
      rw [← hr, List.append_assoc, List.getElem?_append_left hlq]
      exact hz
    have h2 := bk_at L L.length _ (Nat.le_refl _) z e2
    have h3 := z.2
    rw [h2.1, show L.length - 1 - (L.length - 1 - j) = j by omega, hx] at h3
    injection h3 with h3
    exact hq z (List.mem_of_getElem? hz) h3.symm
end Go.Proofs.Ytdanhjfdgpbfiaa
