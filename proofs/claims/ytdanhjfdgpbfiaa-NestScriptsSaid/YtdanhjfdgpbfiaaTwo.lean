/-
  Two stacks side by side: nest's and the reference's.
-/
import Derived.Test.YtdanhjfdgpbfiaaSums
namespace Go.Proofs.Ytdanhjfdgpbfiaa
open Go.RowKit

/-- both stacks, apart from one another; nothing else has turned since w0 -/
def Two (w0 w : World) (b1 b2 : Nat) (d : Int) (K1 K2 : List ByteArray) : Prop :=
  ∃ A1 c1 A2 c2, Stk 47 w b1 d A1 c1 K1 ∧ Stk 45 w b2 d A2 c2 K2 ∧ Fr Nil w0 w ∧ w0.heap.size ≤ b1 ∧ w0.heap.size ≤ b2 ∧
    (∀ i, At A1 i → w0.heap.size ≤ i) ∧ (∀ i, At A2 i → w0.heap.size ≤ i) ∧ (∀ i, Foot b1 A1 i → ¬ Foot b2 A2 i)
section
variable {w0 w w' : World} {b1 b2 : Nat} {d : Int} {K1 K2 : List ByteArray} {x : ByteArray}
theorem foot_lt {T : TypeId} {b : Nat} {A : Option Addr} {c : Nat} {L : List ByteArray} (h : Stk T w b d A c L) {i : Nat} (hi : Foot b A i) : i < w.heap.size := by
  rcases hi with rfl | hi
  · exact h.blk.lt
  · exact h.own.lt hi
/-- boxes of a step lie on -/
def Kept (w w' : World) : Prop := ∀ g cs, Blk w g 34 cs → Blk w' g 34 cs
theorem kept_fr {T : TypeId} {b : Nat} {A : Option Addr} {c : Nat} {L : List ByteArray} (h : Stk T w b d A c L) (hT : T ≠ 34) (f : Fr (Foot b A) w w') : Kept w w' := by
  intro g cs hg
  refine hg.fr f ?_
  rintro (rfl | hi)
  · exact Blk.ne_ h.blk hg hT rfl
  · rcases h.own.2 with ⟨hv, _⟩ | ⟨g', cap, cur, hv, _, hh, _⟩
    · injection hv with hA
      rw [hA] at hi
      exact not_at_none _ hi
    · injection hv with hA
      obtain ⟨a, ha, rfl⟩ := hi
      rw [hA] at ha
      injection ha with ha
      subst ha
      exact Blk.ne_ (t := 9) hh hg (by decide) rfl
theorem kept_fr1 {T : TypeId} {b : Nat} {A : Option Addr} {c : Nat} {L : List ByteArray} (h : Stk T w b d A c L) (hT : T ≠ 34) (f : Fr (fun i => i = b) w w') : Kept w w' := kept_fr h hT (f.mono fun _ _ e => .inl e)
theorem kept_nil (f : Fr Nil w w') : Kept w w' := fun g cs hg => hg.fr f (fun x => x)
theorem two_fr (h : Two w0 w b1 b2 d K1 K2) : Fr Nil w0 w := by
  obtain ⟨_, _, _, _, _, _, hf, _⟩ := h
  exact hf
theorem two_lt (h : Two w0 w b1 b2 d K1 K2) : b2 < w.heap.size := by
  obtain ⟨A1, c1, A2, c2, h1, h2, _⟩ := h
  exact h2.blk.lt
theorem two_keep (h : Two w0 w b1 b2 d K1 K2) (f : Fr Nil w w') : Two w0 w' b1 b2 d K1 K2 := by
  obtain ⟨A1, c1, A2, c2, h1, h2, hf, r⟩ := h
  exact ⟨A1, c1, A2, c2, h1.fr f (fun _ _ x => x), h2.fr f (fun _ _ x => x), hf.trans f, r⟩
theorem two_new (f : Fr Nil w0 w) : Two w0 ((w.alloc (.cells #[.int .i64 d, .slice none 0 0] 47)).alloc (.cells #[.int .i64 d, .slice none 0 0] 45)) w.heap.size (w.heap.size + 1) d [] [] := by
  have h2 := stk_new 45 (w.alloc (.cells #[.int .i64 d, .slice none 0 0] 47)) d
  rw [World.size_alloc] at h2
  refine ⟨none, 0, none, 0, (stk_new 47 w d).fr ((Fr.rfl' Nil _).alloc _) (fun _ _ x => x), h2, (f.alloc _).alloc _, f.size, by have := f.size; omega, fun i hi => (not_at_none i hi).elim, fun i hi => (not_at_none i hi).elim, ?_⟩
  rintro i (rfl | hi) (h | h)
  · omega
  · exact not_at_none _ h
  · exact not_at_none _ hi
  · exact not_at_none _ hi
theorem two_open1 (h : Two w0 w b1 b2 d K1 K2) (hd : K1.length < d) (hL : K1.length ≤ 65536) :
    Calls Try.prog 9 #[.pointer (some ⟨b1, 0, none⟩), .string x] w (Ret fun v w' => v = .bool true ∧ Two w0 w' b1 b2 d (K1 ++ [x]) K2 ∧ Kept w w') := by
  obtain ⟨A1, c1, A2, c2, h1, h2, hf, hb1, hb2, hA1, hA2, hdis⟩ := h
  refine (open_ok w b1 d A1 c1 K1 x h1 hd hL).mono ?_
  rintro e w' ⟨rfl, A', c', hs', hf', hn⟩
  refine ⟨_, rfl, rfl, ⟨A', c', A2, c2, hs', h2.fr hf' (fun i hi hi' => hdis i hi' hi), hf.trans' hf' (fun i hi h => ?_), hb1, hb2, fun i hi => ?_, hA2, fun i hi hi' => ?_⟩, kept_fr h1 (by decide) hf'⟩
  · rcases h with rfl | h
    · omega
    · have := hA1 i h; omega
  · rcases hn i hi with h | h
    · exact hA1 i h
    · have := hf.size; omega
  · have hlt := foot_lt h2 hi'
    rcases hi with rfl | hi
    · exact hdis _ (.inl rfl) hi'
    · rcases hn i hi with h | h
      · exact hdis i (.inr h) hi'
      · omega
theorem two_full1 (h : Two w0 w b1 b2 d K1 K2) (hd : d ≤ K1.length) :
    Calls Try.prog 9 #[.pointer (some ⟨b1, 0, none⟩), .string x] w (Ret fun v w' => v = .bool false ∧ Two w0 w' b1 b2 d K1 K2 ∧ Kept w w') := by
  have h' := h
  obtain ⟨A1, c1, A2, c2, h1, h2, hf, hb1, hb2, hA1, hA2, hdis⟩ := h
  refine (open_full w b1 d A1 c1 K1 x h1 hd).mono ?_
  rintro e w' ⟨rfl, hf'⟩
  exact ⟨_, rfl, rfl, two_keep h' hf', kept_nil hf'⟩
theorem two_open2 (h : Two w0 w b1 b2 d K1 K2) (hd : K2.length < d) (hL : K2.length ≤ 65536) :
    Calls Try.prog 15 #[.pointer (some ⟨b2, 0, none⟩), .string x] w (Ret fun v w' => v = .bool true ∧ Two w0 w' b1 b2 d K1 (K2 ++ [x]) ∧ Kept w w') := by
  obtain ⟨A1, c1, A2, c2, h1, h2, hf, hb1, hb2, hA1, hA2, hdis⟩ := h
  refine (ropen_ok w b2 d A2 c2 K2 x h2 hd hL).mono ?_
  rintro e w' ⟨rfl, A', c', hs', hf', hn⟩
  refine ⟨_, rfl, rfl, ⟨A1, c1, A', c', h1.fr hf' (fun i hi hi' => hdis i hi (.inl hi')), hs', hf.trans' hf' (fun i hi h => by omega), hb1, hb2, hA1, fun i hi => by have := hn i hi; have := hf.size; omega, fun i hi hi' => ?_⟩, kept_fr1 h2 (by decide) hf'⟩
  have hlt := foot_lt h1 hi
  rcases hi' with rfl | hi'
  · exact hdis _ hi (.inl rfl)
  · have := hn i hi'
    omega
theorem two_full2 (h : Two w0 w b1 b2 d K1 K2) (hd : d ≤ K2.length) :
    Calls Try.prog 15 #[.pointer (some ⟨b2, 0, none⟩), .string x] w (Ret fun v w' => v = .bool false ∧ Two w0 w' b1 b2 d K1 K2 ∧ Kept w w') := by
  have h' := h
  obtain ⟨A1, c1, A2, c2, h1, h2, hf, hb1, hb2, hA1, hA2, hdis⟩ := h
  refine (ropen_full w b2 d A2 c2 K2 x h2 hd).mono ?_
  rintro e w' ⟨rfl, hf'⟩
  exact ⟨_, rfl, rfl, two_keep h' hf', kept_nil hf'⟩
/-- a list that a call has handed back, in a row that is newer than D -/
def Handed (D : Nat) (w : World) (v : Value) (M : List ByteArray) : Prop := ∃ A n c, v = .slice A n c ∧ n = M.length ∧ Own w 9 1 A n c (M.map .string) ∧ ∀ i, At A i → D ≤ i
theorem handed_fr {D : Nat} {v : Value} {M : List ByteArray} {S : Nat → Prop} (h : Handed D w v M) (f : Fr S w w') (hs : ∀ i, D ≤ i → ¬ S i) : Handed D w' v M := by
  obtain ⟨A, n, c, hv, hn, ho, hA⟩ := h
  exact ⟨A, n, c, hv, hn, ho.fr f (fun i hi => hs i (hA i hi)), hA⟩
theorem handed_nil (D : Nat) (w : World) : Handed D w (.slice none 0 0) [] := ⟨none, 0, 0, rfl, rfl, Own.nil _ _ _, fun i hi => (not_at_none i hi).elim⟩
theorem two_close1 (h : Two w0 w b1 b2 d K1 K2) (hL : K1.length ≤ 65536) :
    Calls Try.prog 10 #[.pointer (some ⟨b1, 0, none⟩), .string x] w (Ret fun v w' => (x ∉ K1 ∧ v = .slice none 0 0 ∧ Two w0 w' b1 b2 d K1 K2 ∧ Kept w w') ∨
      ∃ k, LastAt K1 x k ∧ Handed w.heap.size w' v (K1.drop k).reverse ∧ Two w0 w' b1 b2 d (K1.take k) K2 ∧ Kept w w' ∧ w.heap.size ≤ w'.heap.size) := by
  have h' := h
  obtain ⟨A1, c1, A2, c2, h1, h2, hf, hb1, hb2, hA1, hA2, hdis⟩ := h
  refine (close_any w b1 d A1 c1 K1 x h1 hL).mono ?_
  rintro e w' ⟨v, rfl, ⟨hx, rfl, hf'⟩ | ⟨k, hk, A4, c4, rfl, hown, hst3, f3, n3⟩⟩
  · exact ⟨_, rfl, .inl ⟨hx, rfl, two_keep h' hf', kept_nil hf'⟩⟩
  · exact ⟨_, rfl, .inr ⟨k, hk, ⟨A4, _, c4, rfl, by simp, hown, n3⟩, ⟨A1, c1, A2, c2, hst3, h2.fr f3 (fun i hi hi' => hdis b1 (.inl rfl) (hi' ▸ hi)), hf.trans' f3 (fun i hi h => by omega), hb1, hb2, hA1, hA2, hdis⟩, kept_fr1 h1 (by decide) f3, f3.size⟩⟩
theorem two_all1 (h : Two w0 w b1 b2 d K1 K2) (hL : K1.length ≤ 65536) :
    Calls Try.prog 12 #[.pointer (some ⟨b1, 0, none⟩)] w (Ret fun v w' => Handed w.heap.size w' v K1.reverse ∧ Two w0 w' b1 b2 d [] K2 ∧ w.heap.size ≤ w'.heap.size) := by
  obtain ⟨A1, c1, A2, c2, h1, h2, hf, hb1, hb2, hA1, hA2, hdis⟩ := h
  refine (all_any w b1 d A1 c1 K1 h1 hL).mono ?_
  rintro e w' ⟨A4, c4, rfl, hown, hst3, f3, n3⟩
  exact ⟨_, rfl, ⟨A4, _, c4, rfl, by simp, hown, n3⟩, ⟨A1, c1, A2, c2, hst3, h2.fr f3 (fun i hi hi' => hdis b1 (.inl rfl) (hi' ▸ hi)), hf.trans' f3 (fun i hi h => by omega), hb1, hb2, hA1, hA2, hdis⟩, f3.size⟩
theorem two_rclosed (h : Two w0 w b1 b2 d K1 K2) {k : Nat} {v : Value} (hr : RClosed w b2 d K2 k v w') : Handed w.heap.size w' v (K2.drop k).reverse ∧ Fr (fun i => i = b2) w w' ∧ Two w0 w' b1 b2 d K1 (K2.take k) := by
  obtain ⟨A1, c1, A2, c2, h1, h2, hf, hb1, hb2, hA1, hA2, hdis⟩ := h
  obtain ⟨A4, c4, A5, c5, rfl, hown, hst, f3, n3, n4⟩ := hr
  refine ⟨⟨A4, _, c4, rfl, by simp, hown, n3⟩, f3, A1, c1, A5, c5, h1.fr f3 (fun i hi hi' => hdis i hi (.inl hi')), hst, hf.trans' f3 (fun i hi h => by omega), hb1, hb2, hA1, fun i hi => by have := (n4 i hi).1; have := hf.size; omega, fun i hi hi' => ?_⟩
  have hlt := foot_lt h1 hi
  rcases hi' with rfl | hi'
  · exact hdis _ hi (.inl rfl)
  · have := (n4 i hi').1
    omega
theorem two_close2 {D : Nat} {u : Value} {M : List ByteArray} (h : Two w0 w b1 b2 d K1 K2) (hu : Handed D w u M) (hD : b2 < D) (hDw : D ≤ w.heap.size) {k : Nat} (hk : LastAt K2 x k) (hL : K2.length ≤ 65536) :
    Calls Try.prog 16 #[.pointer (some ⟨b2, 0, none⟩), .string x] w (Ret fun v w' => Handed D w' u M ∧ Handed D w' v (K2.drop k).reverse ∧ Two w0 w' b1 b2 d K1 (K2.take k)) := by
  have h' := h
  obtain ⟨A1, c1, A2, c2, h1, h2, hf, hb1, hb2, hA1, hA2, hdis⟩ := h
  refine (rclose_at w b2 d A2 c2 K2 x k h2 hL hk.1 hk.2).mono ?_
  rintro e w' ⟨v, rfl, hr⟩
  obtain ⟨⟨A, n, c, hv, hn, ho, hA⟩, f3, ht⟩ := two_rclosed h' hr
  exact ⟨_, rfl, handed_fr hu f3 (fun i hi hi' => by omega), ⟨A, n, c, hv, hn, ho, fun i hi => Nat.le_trans hDw (hA i hi)⟩, ht⟩
theorem two_no2 (h : Two w0 w b1 b2 d K1 K2) (hx : x ∉ K2) (hL : K2.length ≤ 65536) :
    Calls Try.prog 16 #[.pointer (some ⟨b2, 0, none⟩), .string x] w fun e w' => e = .returned (.slice none 0 0) ∧ w = w' := by
  obtain ⟨A1, c1, A2, c2, h1, h2, hf, hb1, hb2, hA1, hA2, hdis⟩ := h
  exact (rclose_no w b2 d A2 c2 K2 x h2 hL hx).mono fun e w' ⟨he, hw⟩ => ⟨he, hw.symm⟩
theorem two_all2 {D : Nat} {u : Value} {M : List ByteArray} (h : Two w0 w b1 b2 d K1 K2) (hu : Handed D w u M) (hD : b2 < D) (hDw : D ≤ w.heap.size) (hL : K2.length ≤ 65536) :
    Calls Try.prog 17 #[.pointer (some ⟨b2, 0, none⟩)] w (Ret fun v w' => Handed D w' u M ∧ Handed D w' v K2.reverse ∧ Two w0 w' b1 b2 d K1 []) := by
  have h' := h
  obtain ⟨A1, c1, A2, c2, h1, h2, hf, hb1, hb2, hA1, hA2, hdis⟩ := h
  refine (rall_any w b2 d A2 c2 K2 h2 hL).mono ?_
  rintro e w' ⟨v, rfl, hr⟩
  obtain ⟨⟨A, n, c, hv, hn, ho, hA⟩, f3, ht⟩ := two_rclosed h' hr
  exact ⟨_, rfl, handed_fr hu f3 (fun i hi hi' => by omega), ⟨A, n, c, hv, hn, ho, fun i hi => Nat.le_trans hDw (hA i hi)⟩, ht⟩
theorem two_depth (h : Two w0 w b1 b2 d K1 K2) : Calls Try.prog 11 #[.pointer (some ⟨b1, 0, none⟩)] w fun e w' => e = .returned (.int .i64 K1.length) ∧ w' = w := by
  obtain ⟨A1, c1, A2, c2, h1, _⟩ := h
  exact depth_any w b1 d A1 c1 K1 h1
theorem two_top (h : Two w0 w b1 b2 d (K1 ++ [x]) K2) (hL : K1.length ≤ 65536) :
    Calls Try.prog 13 #[.pointer (some ⟨b1, 0, none⟩)] w fun e w' => e = .returned (.tuple #[.string x, .bool true]) ∧ ∃ n, w' = w.drewN n := by
  obtain ⟨A1, c1, A2, c2, h1, _⟩ := h
  exact top_one w b1 d A1 c1 K1 x h1 hL
theorem two_topnil (h : Two w0 w b1 b2 d [] K2) :
    Calls Try.prog 13 #[.pointer (some ⟨b1, 0, none⟩)] w fun e w' => e = .returned (.tuple #[.string ByteArray.empty, .bool false]) ∧ w' = w := by
  obtain ⟨A1, c1, A2, c2, h1, _⟩ := h
  exact top_nil w b1 d A1 c1 h1
/-- what the law reads of the reference's stack -/
theorem two_len2 (h : Two w0 w b1 b2 d K1 K2) : ∃ A c, w.cell? ⟨b2, 1, none⟩ = some (.slice A K2.length c) := by
  obtain ⟨A1, c1, A2, c2, h1, h2, _⟩ := h
  exact ⟨_, _, h2.c1⟩
theorem two_last2 (h : Two w0 w b1 b2 d K1 (K2 ++ [x])) : ∃ g c, w.cell? ⟨b2, 1, none⟩ = some (.slice (some ⟨g, 0, none⟩) (K2.length + 1) c) ∧ w.cell? ⟨g, K2.length, none⟩ = some (.string x) := by
  obtain ⟨A1, c1, A2, c2, h1, h2, _⟩ := h
  have ho := h2.own
  have hc := h2.c1
  have hl : (K2 ++ [x]).length = K2.length + 1 := by simp
  rw [hl] at ho hc
  obtain ⟨g, rfl, _⟩ := ho.form (by omega)
  have hx := ho.cell K2.length (by omega)
  simp at hx
  exact ⟨g, _, hc, hx⟩
end
end Go.Proofs.Ytdanhjfdgpbfiaa
