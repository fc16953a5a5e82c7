/-
  A trie grows by one place: what lies where, before and behind.
-/
import Derived.Test.YthhlpbopbabojaaTrie
import Derived.Test.YthhlpbopbabojaaBts
namespace Go.Proofs.Ythhlpbopbabojaa
open Go.RowKit

theorem own_blk {w : World} {e : TypeId} {size n c : Nat} {A : Option Addr} {xs : List Value} (h : Own w e size A n c xs) {k : Nat} (hk : At A k) : ∃ cs fz, w.heap[k]? = some (.cells cs e fz) := by
  rcases h.2 with ⟨hv, _⟩ | ⟨g, cap, cur, hv, _, hh, _⟩
  · injection hv with hv
    subst hv
    exact (not_at_none k hk).elim
  · injection hv with hv
    subst hv
    obtain ⟨a, ha, rfl⟩ := hk
    injection ha with ha
    subst ha
    exact ⟨_, _, hh⟩
theorem own_not {w : World} {e t : TypeId} {size n c : Nat} {A : Option Addr} {xs : List Value} (h : Own w e size A n c xs) {k : Nat} {cs : Array Value} {fz : Nat × Nat} (hk : w.heap[k]? = some (.cells cs t fz)) (hne : e ≠ t) : ¬ At A k := by
  intro ha
  obtain ⟨cs', fz', h'⟩ := own_blk h ha
  rw [hk] at h'
  injection h' with h'
  injection h' with _ h'
  exact hne h'.symm
theorem own_not_map {w : World} {e : TypeId} {size n c m : Nat} {A : Option Addr} {xs : List Value} {f : UInt8 → Option Nat} {k : Nat} (h : Own w e size A n c xs) (hm : MapB w k m f) : ¬ At A k := by
  intro ha
  obtain ⟨cs', fz', h'⟩ := own_blk h ha
  exact hm.no_cells h'
theorem own_apart {w : World} {e e' : TypeId} {s s' n n' c c' : Nat} {A A' : Option Addr} {xs xs' : List Value} (h : Own w e s A n c xs) (h' : Own w e' s' A' n' c' xs') (hne : e ≠ e') {k : Nat} (hk : At A k) : ¬ At A' k := by
  obtain ⟨cs, fz, hb⟩ := own_blk h hk
  exact own_not h' hb (Ne.symm hne)

/-- more places; what is new has no word -/
def Ext (ns ns' : List (Nat × Int)) : Prop := (∀ (i : Nat) (x : Nat × Int), ns[i]? = some x → ns'[i]? = some x) ∧ ∀ (i : Nat) (x : Nat × Int), ns.length ≤ i → ns'[i]? = some x → x.2 = -1
theorem ext_refl (ns : List (Nat × Int)) : Ext ns ns := ⟨fun _ _ h => h, fun i x hi h => by
  have := (List.getElem?_eq_some_iff.1 h).1
  omega⟩
theorem ext_snoc {ns ns' : List (Nat × Int)} (h : Ext ns ns') (m : Nat) : Ext ns (ns' ++ [(m, -1)]) := by
  refine ⟨fun i x hx => ?_, fun i x hi hx => ?_⟩
  · have h1 := h.1 i x hx
    rw [List.getElem?_append_left (List.getElem?_eq_some_iff.1 h1).1]
    exact h1
  · by_cases hl : i < ns'.length
    · rw [List.getElem?_append_left hl] at hx
      exact h.2 i x hi hx
    · have hi2 := (List.getElem?_eq_some_iff.1 hx).1
      simp at hi2
      obtain rfl : i = ns'.length := by omega
      simp at hx
      rw [← hx]

/-- the walk's step: a new map, a new node, the row grown, the row's slice stored, the map written -/
theorem trie_grow {wr w2 w4 : World} {base b : Nat} {L : List ByteArray} {P : List Pth} {ns : List (Nat × Int)} {A : Option Addr} {cw : Nat} {g d : Nat} (gd : Good P)
    (hb : Blk wr b 51 #[.slice A L.length cw, .slice (some ⟨g, 0, none⟩) P.length d]) (ho : Own wr 9 1 A L.length cw (L.map .string)) (hn : Own wr 48 2 (some ⟨g, 0, none⟩) P.length d (ns.flatMap nodeCells))
    (hl : ns.length = P.length) (hm : ∀ (i : Nat) (x : Nat × Int), ns[i]? = some x → base ≤ x.1 ∧ MapB wr x.1 P.length (kid P i)) (hi : ∀ (i j : Nat) (x y : Nat × Int), ns[i]? = some x → ns[j]? = some y → x.1 = y.1 → i = j)
    (h1 : base ≤ b) (h2 : ∀ k, At A k → base ≤ k) (h3 : ∀ k, At (some ⟨g, 0, none⟩) k → base ≤ k)
    {j : Nat} {x : Nat × Int} {p : Pth} {c : UInt8} (hp : P[j]? = some p) (hx : ns[j]? = some x) (hc : p ++ [c] ∉ P)
    {g' d' : Nat} {cs : Array Value} (hown : Own w2 48 2 (some ⟨g', 0, none⟩) (P.length + 1) d' (ns.flatMap nodeCells ++ [.map (some wr.heap.size), .int .i64 (-1)]))
    (hf2 : Fr (At (some ⟨g, 0, none⟩)) ((wr.alloc (.map #[] 0)).alloc (.cells cs 48)) w2) (hat : (some (⟨g', 0, none⟩ : Addr)) = some ⟨g, 0, none⟩ ∨ (some (⟨g', 0, none⟩ : Addr)) = some ⟨wr.heap.size + 1 + 1, 0, none⟩)
    (hf4 : Fr (fun k => k = x.1) (w2.setCell ⟨b, 1, none⟩ (.slice (some ⟨g', 0, none⟩) (P.length + 1) d')) w4) (hm4 : MapB w4 x.1 (P.length + 1) (fun e => if e = c then some P.length else kid P j e)) :
    TrieAt w4 base b L (P ++ [p ++ [c]]) (ns ++ [(wr.heap.size, -1)]) ∧ Fr (fun k => base ≤ k) wr w4 ∧ ∀ (k : Nat) (cs : Array Value) (fz : Nat × Nat), wr.heap[k]? = some (.cells cs 5 fz) → w4.heap[k]? = some (.cells cs 5 fz) := by
  have hbn : ¬ At (some ⟨g, 0, none⟩) b := own_not hn hb (by decide)
  have hmx := hm j x hx
  have hbx : ¬ b = x.1 := fun e => hmx.2.no_cells (e ▸ hb)
  have b2 := ((hb.alloc (.map #[] 0)).alloc (.cells cs 48)).fr hf2 hbn
  have b3 : Blk (w2.setCell ⟨b, 1, none⟩ (.slice (some ⟨g', 0, none⟩) (P.length + 1) d')) b 51 #[.slice A L.length cw, .slice (some ⟨g', 0, none⟩) (P.length + 1) d'] := by
    simpa using b2.set_ 1 (.slice (some ⟨g', 0, none⟩) (P.length + 1) d')
  -- one block that lay, through all steps
  have keep : ∀ k o, wr.heap[k]? = some o → ¬ At (some ⟨g, 0, none⟩) k → k ≠ b → k ≠ x.1 → w4.heap[k]? = some o := by
    intro k o hk n1 n2 n3
    have hlt := (Array.getElem?_eq_some_iff.1 hk).1
    have s1 : ((wr.alloc (.map #[] 0)).alloc (.cells cs 48)).heap[k]? = some o := (Below.heap_alloc _ _ k (by simp; omega)).trans ((Below.heap_alloc _ _ k hlt).trans hk)
    have s2 := (hf2.block k (by simp; omega) n1).trans s1
    have s3 := (Below.heap_setCell w2 ⟨b, 1, none⟩ (.slice (some ⟨g', 0, none⟩) (P.length + 1) d') k n2).trans s2
    exact (hf4.block k (Array.getElem?_eq_some_iff.1 s3).1 n3).trans s3
  have hsz2 := hf2.size
  simp at hsz2
  have hsz3 : (w2.setCell ⟨b, 1, none⟩ (.slice (some ⟨g', 0, none⟩) (P.length + 1) d')).heap.size = w2.heap.size := by simp [World.setCell]
  have hsz4 := hf4.size
  have hnew4 : MapB w4 wr.heap.size 0 fun _ => none := by
    have m1 := (MapB.made wr).kept (w' := (wr.alloc (.map #[] 0)).alloc (.cells cs 48)) (Below.heap_alloc _ _ _ (by simp))
    have m2 := m1.fr hf2 fun hk => by have := hn.lt hk; omega
    have m3 := m2.kept (w' := w2.setCell ⟨b, 1, none⟩ (.slice (some ⟨g', 0, none⟩) (P.length + 1) d')) (Below.heap_setCell _ _ _ _ (by have := hb.lt; simp; omega))
    exact m3.fr hf4 (by have := hmx.2.lt; omega)
  have hbase : base ≤ wr.heap.size := by have := hb.lt; omega
  refine ⟨⟨A, cw, some ⟨g', 0, none⟩, d', ?_, ?_, ?_, by simp [hl], ?_, ?_, h1, h2, ?_⟩, ?_, ?_⟩
  · rw [List.length_append]
    exact b3.fr hf4 hbx
  · refine ((((ho.alloc (.map #[] 0)).alloc (.cells cs 48)).fr hf2 fun k hk => own_apart ho hn (by decide) hk).setFar (p := ⟨b, 1, none⟩) (own_not ho hb (by decide)) _).fr hf4 fun k hk e => ?_
    subst e
    exact own_not_map ho hmx.2 hk
  · rw [List.length_append, List.flatMap_append]
    have n3 := hown.setFar (p := ⟨b, 1, none⟩) (own_not hown b2 (by decide)) (.slice (some ⟨g', 0, none⟩) (P.length + 1) d')
    refine n3.fr hf4 fun k hk e => ?_
    subst e
    obtain ⟨cs', fz', hb'⟩ := own_blk n3 hk
    have hx3 : MapB (w2.setCell ⟨b, 1, none⟩ (.slice (some ⟨g', 0, none⟩) (P.length + 1) d')) x.1 P.length (kid P j) := by
      have m1 := hmx.2.kept (w' := (wr.alloc (.map #[] 0)).alloc (.cells cs 48)) ((Below.heap_alloc _ _ _ (by have := hmx.2.lt; simp; omega)).trans (Below.heap_alloc _ _ _ hmx.2.lt))
      have m2 := m1.fr hf2 (own_not_map hn hmx.2)
      exact m2.kept (Below.heap_setCell _ _ _ _ (fun e => hbx e.symm))
    exact hx3.no_cells hb'
  · intro i y hy
    by_cases hil : i < ns.length
    · rw [List.getElem?_append_left hil] at hy
      have hmi := hm i y hy
      refine ⟨hmi.1, ?_⟩
      rw [List.length_append]
      by_cases hij : i = j
      · subst hij
        rw [hx] at hy
        injection hy with hy
        subst hy
        exact hm4.same fun e => by rw [kid_grown gd hp hc i (by omega)]; simp
      · have hne : y.1 ≠ x.1 := fun e => hij (hi i j y x hy hx e)
        have k4 : w4.heap[y.1]? = wr.heap[y.1]? := by
          obtain ⟨o, ho'⟩ : ∃ o, wr.heap[y.1]? = some o := ⟨_, Array.getElem?_eq_getElem hmi.2.lt⟩
          rw [ho']
          exact keep _ _ ho' (own_not_map hn hmi.2) (fun e => hmi.2.no_cells (e ▸ hb)) hne
        exact ((hmi.2.kept k4).mono (Nat.le_succ _)).same fun e => by rw [kid_grown gd hp hc i (by omega), if_neg (fun h => hij h.1)]
    · have hi2 := (List.getElem?_eq_some_iff.1 hy).1
      simp at hi2
      obtain rfl : i = ns.length := by omega
      simp at hy
      subst hy
      refine ⟨hbase, ?_⟩
      rw [hl]
      exact (hnew4.mono (Nat.zero_le _)).same fun e => kid_new gd hc e
  · intro i k y z hy hz hyz
    have aux : ∀ (i : Nat) (y : Nat × Int), (ns ++ [(wr.heap.size, (-1 : Int))])[i]? = some y → (i < ns.length ∧ ns[i]? = some y ∧ y.1 < wr.heap.size) ∨ (i = ns.length ∧ y.1 = wr.heap.size) := by
      intro i y hy
      by_cases hil : i < ns.length
      · rw [List.getElem?_append_left hil] at hy
        exact .inl ⟨hil, hy, (hm i y hy).2.lt⟩
      · have hi2 := (List.getElem?_eq_some_iff.1 hy).1
        simp at hi2
        obtain rfl : i = ns.length := by omega
        simp at hy
        rw [← hy]
        exact .inr ⟨rfl, rfl⟩
    rcases aux i y hy with ⟨a1, a2, a3⟩ | ⟨a1, a2⟩ <;> rcases aux k z hz with ⟨c1, c2, c3⟩ | ⟨c1, c2⟩
    · exact hi i k y z a2 c2 hyz
    · omega
    · omega
    · omega
  · rintro k ⟨a, ha, rfl⟩
    injection ha with ha
    subst ha
    rcases hat with e | e
    · injection e with e
      injection e with e
      subst e
      exact h3 _ ⟨_, rfl, rfl⟩
    · injection e with e
      injection e with e
      subst e
      show base ≤ wr.heap.size + 1 + 1
      omega
  · have f1 : Fr (fun k => base ≤ k) wr w2 := (((Fr.rfl' (fun k => base ≤ k) wr).alloc _).alloc _).trans' hf2 fun k _ hk => h3 k hk
    have f2 := f1.setCell (p := ⟨b, 1, none⟩) (fun _ => h1) (.slice (some ⟨g', 0, none⟩) (P.length + 1) d')
    exact f2.trans' hf4 fun k _ hk => by rw [hk]; exact hmx.1
  · intro k cs' fz hk
    refine keep k _ hk (own_not hn hk (by decide)) ?_ ?_
    · rintro rfl
      unfold Blk at hb
      rw [hk] at hb
      injection hb with hb
      injection hb with _ hb
      exact absurd hb (by decide)
    · rintro rfl
      exact hmx.2.no_cells hk
end Go.Proofs.Ythhlpbopbabojaa
