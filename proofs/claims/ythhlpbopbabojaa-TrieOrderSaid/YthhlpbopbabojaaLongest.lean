/-
  (*Trie).Longest, Find, walked.
-/
import Derived.Test.YthhlpbopbabojaaLong
namespace Go.Proofs.Ythhlpbopbabojaa
open Go.RowKit Go.Shelf
attribute [local go_sem] Oper.semAt_some

theorem endsv_any (F : Fence) (n : Nat) (hF : F.fn 26) (hro : F.round = none) (w : World) (b : Nat) (s : ByteArray) :
    CallsIn F n Try.prog 26 #[.pointer (some ⟨b, 0, none⟩), .string s] w fun e w' =>
      e = .returned (.func (.func 29) #[] #[.pointer (some ⟨w.heap.size + 1, 0, none⟩), .pointer (some ⟨w.heap.size, 0, none⟩)]) ∧ w' = (w.alloc (.cells #[.pointer (some ⟨b, 0, none⟩)] 25)).alloc (.cells #[.string s] 9) := by
  refine callsIn_of_wp Try.func26 rfl hF ?_ hro
  simp only [Try.ntmps26, List.size_toArray, List.length_cons, List.length_nil, Nat.reduceAdd, Nat.reduceSub, Array.replicate_succ, Array.replicate_zero, List.push_toArray, List.append_toArray, List.nil_append, List.cons_append]
  gi_wp2
  go_ret
  exact ⟨rfl, rfl⟩

/-- between two rounds: the last word that has come -/
def LastI (w : World) (D : Nat) (pre : List (Nat × Nat)) (W : World) : Prop :=
  Blk W w.heap.size 3 #[.int .i64 (lastOf pre).1] ∧ Blk W (w.heap.size + 1) 3 #[.int .i64 (lastOf pre).2] ∧ Fr Nil w W ∧ D ≤ W.heap.size
def RetTwo (r : Int × Int) (w : World) (e : Ending) (w' : World) : Prop := e = .returned (.tuple #[.int .i64 r.1, .int .i64 r.2]) ∧ Fr Nil w w'

set_option maxRecDepth 100000 in
set_option maxHeartbeats 4000000 in
theorem longest_any (w : World) (base b : Nat) (s : ByteArray) (hs : s.size ≤ 1048576) (L : List ByteArray) (P : List Pth) (ns : List (Nat × Int)) (ht : TrieAt w base b L P ns) (hfu : Full (L.map bs) P ns) :
    Calls Try.prog 17 #[.pointer (some ⟨b, 0, none⟩), .string s] w (RetTwo (longR (L.map bs) (bs s)) w) := by
  refine (callsIn_wide (n := 6)).1 ?_
  have hro : Fence.wide.round = none := rfl
  have HS := Lib.hid (size_bs s)
  refine callsIn_of_wp_marks Try.func17 rfl trivial ?_ hro
  simp only [Try.ntmps17, List.size_toArray, List.length_cons, List.length_nil, Nat.reduceAdd, Nat.reduceSub, Array.replicate_succ, Array.replicate_zero, List.push_toArray, List.append_toArray, List.nil_append, List.cons_append]
  gi_wp2
  refine ⟨trivial, (endsv_any Fence.wide _ trivial hro _ _ _).mono ?_⟩
  rintro e w' ⟨rfl, rfl⟩
  gi_wp2
  have b0 := (((Blk.new w 3 #[.int .i64 (-1)]).alloc (.cells #[.int .i64 0] 3)).alloc (.cells #[.pointer (some ⟨b, 0, none⟩)] 25)).alloc (.cells #[.string s] 9)
  have b1 := ((Blk.new (w.alloc (.cells #[.int .i64 (-1)] 3)) 3 #[.int .i64 0]).alloc (.cells #[.pointer (some ⟨b, 0, none⟩)] 25)).alloc (.cells #[.string s] 9)
  have b2 := (Blk.new ((w.alloc (.cells #[.int .i64 (-1)] 3)).alloc (.cells #[.int .i64 0] 3)) 25 #[.pointer (some ⟨b, 0, none⟩)]).alloc (.cells #[.string s] 9)
  have b3 := Blk.new (((w.alloc (.cells #[.int .i64 (-1)] 3)).alloc (.cells #[.int .i64 0] 3)).alloc (.cells #[.pointer (some ⟨b, 0, none⟩)] 25)) 9 #[.string s]
  have hfr : Fr Nil w ((((w.alloc (.cells #[.int .i64 (-1)] 3)).alloc (.cells #[.int .i64 0] 3)).alloc (.cells #[.pointer (some ⟨b, 0, none⟩)] 25)).alloc (.cells #[.string s] 9)) := ((((Fr.rfl' _ _).alloc _).alloc _).alloc _).alloc _
  have hsz : ((((w.alloc (.cells #[.int .i64 (-1)] 3)).alloc (.cells #[.int .i64 0] 3)).alloc (.cells #[.pointer (some ⟨b, 0, none⟩)] 25)).alloc (.cells #[.string s] 9)).heap.size = w.heap.size + 4 := by simp
  simp only [World.size_alloc] at b1 b2 b3
  generalize hW0 : ((((w.alloc (.cells #[.int .i64 (-1)] 3)).alloc (.cells #[.int .i64 0] 3)).alloc (.cells #[.pointer (some ⟨b, 0, none⟩)] 25)).alloc (.cells #[.string s] 9)) = W0 at *
  clear hW0
  have HSZ := Lib.hid hsz
  have hbl := ht.lt
  refine wpIn_range_on (T := Nil) (Kp := KE base w.heap.size (w.heap.size + 1 + 1 + 1) (w.heap.size + 1 + 1)) (S := fun xs => xs = endsTo (L.map bs) (bs s) s.size) (encs := fun x : Nat × Nat => #[.int .i64 (x.1 : Int), .int .i64 (x.2 : Int)])
    (lb := #[.pointer (some ⟨w.heap.size + 1 + 1 + 1, 0, none⟩), .pointer (some ⟨w.heap.size + 1 + 1, 0, none⟩)]) (gf := 29) hro (by decide) rfl trivial
    (enters_of Try.func29 (by kernel_rfl) rfl)
    (fun l J W hWf hJ hY h0 => ends_in _ (by decide) l (w.heap.size + 1 + 1 + 1) (w.heap.size + 1 + 1) base b s hs w L P ns ht hfu J hJ hY W (fun k h1 h2 => (hWf.block k (by omega) fun x => x).trans (hfr.block k h2 fun x => x)) (b3.fr hWf fun x => x) (b2.fr hWf fun x => x) h0) (fun _ => rfl)
    (fun k h => h.elim) ?kn
    (fun pre W => LastI w W0.heap.size pre W)
    (ownFrom_of_turn ?turn) ?own ⟨b0, b1, hfr, Nat.le_refl _⟩
    (fun x => { tmps := #[.pointer (some ⟨b, 0, none⟩), .string s, undef, undef, .int .i64 0, .int .i64 0, .pointer (some ⟨w.heap.size, 0, none⟩), .pointer (some ⟨w.heap.size + 1, 0, none⟩), .int .i64 (x.1 : Int), .int .i64 (x.2 : Int), .pointer (some ⟨b, 0, none⟩), .string s,
      .func (.func 29) #[] #[.pointer (some ⟨w.heap.size + 1 + 1 + 1, 0, none⟩), .pointer (some ⟨w.heap.size + 1 + 1, 0, none⟩)], .int .i64 (x.1 : Int), .int .i64 (x.2 : Int), undef, undef, undef, undef], defers := [] })
    ?assign ?body ?done
  case kn =>
    rintro k (⟨h1, h2⟩ | rfl | rfl) <;> omega
  case turn =>
    rintro pre W W' ⟨c0, c1, hf, hl⟩ ht
    exact ⟨c0.turn ht, c1.turn ht, ht.fr hf (by omega), Nat.le_trans hl ht.size⟩
  case own =>
    rintro pre W W' ⟨c0, c1, hf, hl⟩ ht
    exact ⟨c0.fr ht fun x => x, c1.fr ht fun x => x, hf.trans ht, Nat.le_trans hl ht.size⟩
  case assign =>
    intro l x W K hK
    gi_wp2
    exact hK
  case body =>
    rintro l pre x W ⟨c0, c1, hf, hl⟩
    have k0 := c0.cell 0
    have k1 := c1.cell 0
    have z0 := c0.frozen 0
    have z1 := c1.frozen 0
    simp at k0 k1
    have c0' := c0.set_ 0 (.int .i64 (x.1 : Int))
    have c1' := c1.far (p := ⟨w.heap.size, 0, none⟩) (by simp) (.int .i64 (x.1 : Int))
    have k1' := c1'.cell 0
    have z1' := c1'.frozen 0
    simp at k1'
    clear b0 b1 b2 b3 hfr
    gi_wp2
    refine ⟨((KeepsOthers.setCell _ _ _).trans (KeepsOthers.setCell _ _ _)).from _, ?_, ?_, ?_, ?_, ?_⟩
    · intro k hk
      have h1 : k ≠ w.heap.size ∧ k ≠ w.heap.size + 1 := by rcases hk with ⟨_, h2⟩ | rfl | rfl <;> omega
      exact (Below.heap_setCell _ _ _ _ h1.2).trans (Below.heap_setCell _ _ _ _ h1.1)
    · rw [lastOf_snoc]
      have := (c0'.far (p := ⟨w.heap.size + 1, 0, none⟩) (by simp) (.int .i64 (x.2 : Int)))
      simpa using this
    · rw [lastOf_snoc]
      simpa using c1'.set_ 0 (.int .i64 (x.2 : Int))
    · exact (hf.setCell (p := ⟨w.heap.size, 0, none⟩) (fun h => absurd h (Nat.lt_irrefl _)) _).setCell (p := ⟨w.heap.size + 1, 0, none⟩) (fun h => by simp at h; omega) _
    · simp [World.setCell]
      exact hl
  case done =>
    rintro D ys W hD rfl ⟨c0, c1, hf, hl⟩ hK
    have k0 := c0.cell 0
    have k1 := c1.cell 0
    simp at k0 k1
    clear b0 b1 b2 b3 hfr
    gi_wp2
    gi_quiet (fail)
    gi_wp2
    have hK2 : (W.drewN nq).heap[D]? = some (.deferred (some [])) := hK
    have ht2 : Turn D (W.drewN nq) ((W.drewN nq).putObj D (.deferred none)) :=
      ⟨some D, grownBy_putObj' _ _ _, fun r e => by cases e; exact ⟨Nat.le_refl _, _, hK2, rfl⟩⟩
    refine ⟨by simp, .inl ⟨_, _, rfl, run_takeDeferred hK2, ?_⟩⟩
    refine ⟨_, results_tmp2 rfl _ _ _, ?_, ?_⟩
    · unfold longR
      rw [← HS.out]
      rfl
    · exact ht2.fr (hf.drewN nq) (by omega)
end Go.Proofs.Ythhlpbopbabojaa
