/-
  class.Fields, walked: a range over the iterator.
-/
import Derived.Test.YticofnfjebifgaaFields
namespace Go.Proofs.Yticofnfjebifgaa
open Go.RowKit Go.Shelf
attribute [local go_sem] Oper.semAt_some

theorem infoStr : (Try.prog.info? 9).map (fun i => (i.zero, i.size, i.bytes)) = some (some (.string ⟨#[]⟩), 1, 16) := by kernel_rfl

def strs (L : List (List UInt8)) : List Value := L.map fun x => .string (str x)
theorem strs_len (L : List (List UInt8)) : (strs L).length = L.length := by simp [strs]
theorem strs_snoc (L : List (List UInt8)) (x : List UInt8) : strs (L ++ [x]) = strs L ++ [.string (str x)] := by simp [strs]
/-- a new slice of the texts L -/
def MadeL (w : World) (L : List (List UInt8)) (v : Value) (w' : World) : Prop :=
  ∃ A c, v = .slice A L.length c ∧ Own w' 9 1 A L.length c (strs L) ∧ Fr Nil w w' ∧ ∀ k, At A k → w.heap.size ≤ k

theorem fieldsv_any (F : Fence) (n : Nat) (hF : F.fn 31) (hro : F.round = none) (w : World) (s : ByteArray) :
    CallsIn F n Try.prog 31 #[.string s] w fun e w' => e = .returned (.func (.func 35) #[] #[.pointer (some ⟨w.heap.size, 0, none⟩)]) ∧ w' = w.alloc (.cells #[.string s] 9) := by
  refine callsIn_of_wp Try.func31 rfl hF ?_ hro
  simp only [Try.ntmps31, List.size_toArray, List.length_cons, List.length_nil, Nat.reduceAdd, Nat.reduceSub, Array.replicate_succ, Array.replicate_zero, List.push_toArray, List.append_toArray, List.nil_append, List.cons_append]
  gi_wp2
  go_ret
  exact ⟨rfl, rfl⟩

/-- between two rounds: the collected words -/
def Coll (w : World) (D : Nat) (pre : List (List UInt8)) (W : World) : Prop :=
  ∃ A c, Blk W w.heap.size 25 #[.slice A pre.length c] ∧ Own W 9 1 A pre.length c (strs pre) ∧ Fr Nil w W ∧ (∀ k, At A k → D ≤ k) ∧ D ≤ W.heap.size

set_option maxRecDepth 100000 in
set_option maxHeartbeats 2000000 in
theorem fieldsw_any (w : World) (s : ByteArray) (hs : s.size ≤ 1048576) :
    Calls Try.prog 16 #[.string s] w fun e w' => ∃ v, e = .returned v ∧ MadeL w (fields (bs s)) v w' := by
  refine (callsIn_wide (n := 6)).1 ?_
  have hro : Fence.wide.round = none := rfl
  refine callsIn_of_wp_marks Try.func16 rfl trivial ?_ hro
  simp only [Try.ntmps16, List.size_toArray, List.length_cons, List.length_nil, Nat.reduceAdd, Nat.reduceSub, Array.replicate_succ, Array.replicate_zero, List.push_toArray, List.append_toArray, List.nil_append, List.cons_append]
  gi_wp2
  refine ⟨trivial, (fieldsv_any Fence.wide _ trivial hro _ _).mono ?_⟩
  rintro e w' ⟨rfl, rfl⟩
  gi_wp2
  have b0 := (Blk.new w 25 #[.slice none 0 0]).alloc (.cells #[.string s] 9)
  have b1 := Blk.new (w.alloc (.cells #[.slice none 0 0] 25)) 9 #[.string s]
  have hfr : Fr Nil w ((w.alloc (.cells #[.slice none 0 0] 25)).alloc (.cells #[.string s] 9)) := ((Fr.rfl' _ _).alloc _).alloc _
  have hsz : ((w.alloc (.cells #[.slice none 0 0] 25)).alloc (.cells #[.string s] 9)).heap.size = w.heap.size + 2 := by simp
  simp only [World.size_alloc] at b1
  generalize hW0 : ((w.alloc (.cells #[.slice none 0 0] 25)).alloc (.cells #[.string s] 9)) = W0 at *
  clear hW0
  have HSZ := Lib.hid hsz
  have hbs := size_bs s
  refine wpIn_range_all (Bn := w.heap.size + 1) (S := fun xs => xs = fields (bs s)) (N := s.size) (encs := fun x : List UInt8 => #[.string (str x)]) (lb := #[.pointer (some ⟨w.heap.size + 1, 0, none⟩)]) (gf := 35) hro (by decide) rfl trivial
    (enters_of Try.func35 (by kernel_rfl) rfl)
    (fun l J W hWf hJ hY h0 => fields_in _ (by decide) l (w.heap.size + 1) s hs J hJ hY W (b1.fr hWf fun x => x) h0) (fun _ => rfl) (by omega)
    (fun pre W => Coll w W0.heap.size pre W)
    (ownFrom_of_turn ?turn) ?own ⟨none, 0, b0, Own.nil _ _ _, hfr, fun k hk => (not_at_none k hk).elim, Nat.le_refl _⟩
    (fun x => { tmps := #[.string s, undef, .slice none 0 0, .pointer (some ⟨w.heap.size, 0, none⟩), .string (str x), .string s, .func (.func 35) #[] #[.pointer (some ⟨w.heap.size + 1, 0, none⟩)], .string (str x), undef, undef, undef, undef, undef], defers := [] })
    ?assign ?body ?done
  case turn =>
    rintro pre W W' ⟨A, c, hb, ho, hf, hA, hl⟩ ht
    exact ⟨A, c, hb.turn ht, ho.turn ht, ht.fr hf (by omega), hA, Nat.le_trans hl ht.size⟩
  case own =>
    rintro pre W W' ⟨A, c, hb, ho, hf, hA, hl⟩ ht
    exact ⟨A, c, hb.fr ht (by omega), ho.fr ht (fun k hk e => by have := hA k hk; omega), hf.trans' ht (fun k hk e => by omega), hA, Nat.le_trans hl ht.size⟩
  case assign =>
    intro l x W K hK
    gi_wp2
    exact hK
  case body =>
    rintro l pre x W ⟨A, c, hb, ho, hf, hA, hl⟩ hlen
    have k0 := hb.cell 0
    simp at k0
    have hnb : ¬ At A w.heap.size := fun hk => by have := hA _ hk; omega
    have hba := hb.alloc (.cells #[.string (str x)] 9)
    clear b0 b1 hfr
    gi_wp2_with (
      gi_at_builtin
      refine wpListIn_append _ rfl (.tmp 8) (.tmp 10) 25 rfl 9 (.string ⟨#[]⟩) 1 16 Try.underlying25 infoStr rfl (by decide) A pre.length c (strs pre) rfl (ho.alloc _)
        _ _ 1 1 [.string (str x)] rfl (reads_new _ _ _) (one_one rfl) (by unfold maxLen; omega) (by omega) ?_
      intro A' c' w2 hown2 hfr2 hat
      have hb2 := hba.fr hfr2 hnb
      have hc2 := hb2.cell 0
      have hf2 := hb2.frozen 0)
    have hnew := at_new (w0 := W) hat (by simp)
    have hA' : ∀ k, At A' k → W0.heap.size ≤ k := fun k hk => by
      rcases hnew k hk with h1 | h1
      · exact hA k h1
      · omega
    have hkf : KeepsFrom W0.heap.size W (w2.setCell ⟨w.heap.size, 0, none⟩ (.slice A' (pre.length + 1) c')) := by
      refine ⟨?_, fun k o hk ho1 hoc => ?_⟩
      · have h1 := hfr2.size
        simp at h1
        have h2 : (w2.setCell ⟨w.heap.size, 0, none⟩ (.slice A' (pre.length + 1) c')).heap.size = w2.heap.size := by simp [World.setCell]
        omega
      · have hne : ¬ At A k := fun hk' => by
          rcases ho.2 with ⟨hv, _⟩ | ⟨g, cap, cur, hv, _, hh, _⟩
          · injection hv with hv
            subst hv
            exact not_at_none _ hk'
          · injection hv with hv
            subst hv
            obtain ⟨g', hg', rfl⟩ := hk'
            injection hg' with hg'
            subst hg'
            rw [hh] at ho1
            cases ho1
            cases hoc
        have hlt := (Array.getElem?_eq_some_iff.1 ho1).1
        refine (Below.heap_setCell _ _ _ k (fun e => ?_)).trans ((hfr2.block k (by simp; omega) hne).trans ((Below.heap_alloc _ _ k hlt).trans ho1))
        simp at e
        omega
    refine ⟨hkf, ?_, A', c', ?_, ?_, ?_, hA', ?_⟩
    · refine (Below.heap_setCell _ _ _ _ (by simp)).trans ((hfr2.block _ (by simp; omega) (fun hk => by have := hA _ hk; omega)).trans (Below.heap_alloc _ _ _ (by omega)))
    · rw [List.length_append]
      simpa using hb2.set_ 0 (.slice A' (pre.length + 1) c')
    · rw [List.length_append, strs_snoc]
      exact hown2.setFar (p := ⟨w.heap.size, 0, none⟩) (fun hk => by have := hA' _ hk; simp at this; omega) _
    · exact Fr.setCell (p := ⟨w.heap.size, 0, none⟩) ((hf.alloc _).trans' hfr2 fun k hk hk' => by have := hA k hk'; omega) (fun h => absurd h (Nat.lt_irrefl _)) _
    · have h1 := hkf.size
      omega
  case done =>
    rintro D ys W hD rfl ⟨A, c, hb, ho, hf, hA, hl⟩ hK
    have k2 := hb.cell 0
    simp at k2
    gi_wp2
    have ht : Turn D W (W.putObj D (.deferred none)) :=
      ⟨some D, grownBy_putObj' _ _ _, fun r e => by cases e; exact ⟨Nat.le_refl _, _, hK, rfl⟩⟩
    refine ⟨by simp, .inl ⟨_, _, rfl, run_takeDeferred hK, ?_⟩⟩
    refine ⟨_, results_tmp rfl _ _ _, _, rfl, A, c, rfl, ho.turn ht, ht.fr hf (by omega), fun k hk => ?_⟩
    have := hA k hk
    omega
end Go.Proofs.Yticofnfjebifgaa
