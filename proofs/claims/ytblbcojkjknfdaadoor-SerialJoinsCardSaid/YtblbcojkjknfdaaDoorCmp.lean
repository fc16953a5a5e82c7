/-
  all$1, walked; slices.SortFunc at names.
-/
import Derived.Test.YtblbcojkjknfdaaDoorCmpS
import Derived.Test.YtblbcojkjknfdaaDoorSortLay
namespace Go.Proofs.YtblbcojkjknfdaaDoor
open Go.RowKit Go.Sort Go.Shelf

theorem swo_ent : SWO (ltOf fun x y : Ent => cmpP x.1 y.1) where
  irrefl x := by
    show decide (cmpP x.1 x.1 < 0) = false
    rw [cmpP_lt]
    exact swo_ltStr.irrefl _
  trans x y z h1 h2 := by
    change decide (cmpP x.1 y.1 < 0) = true at h1
    change decide (cmpP y.1 z.1 < 0) = true at h2
    show decide (cmpP x.1 z.1 < 0) = true
    rw [cmpP_lt] at *
    exact swo_ltStr.trans _ _ _ h1 h2
  ntrans x y z h1 h2 := by
    change decide (cmpP x.1 y.1 < 0) = false at h1
    change decide (cmpP y.1 z.1 < 0) = false at h2
    show decide (cmpP x.1 z.1 < 0) = false
    rw [cmpP_lt] at *
    exact swo_ltStr.ntrans _ _ _ h1 h2

set_option maxHeartbeats 2000000 in
theorem order_any (x y : Ent) (w : World) : Calls Tryd.prog 65 #[.agg (encE x).toArray, .agg (encE y).toArray] w fun e w' => e = .returned (.int .i64 (cmpP x.1 y.1)) ∧ ∃ q os', w' = grow (w.drewN q) os' := by
  have hcon := cmp_any x.1 y.1
  show Calls Tryd.prog 65 #[.agg #[.string (str x.1), .string (str x.2)], .agg #[.string (str y.1), .string (str y.2)]] w _
  generalize cmpP x.1 y.1 = r at hcon ⊢
  generalize str x.1 = s at hcon ⊢
  generalize str y.1 = t at hcon ⊢
  go_enter Tryd.func65, Tryd.ntmps65
  go_wp2_with (go_at_call 66; refine (hcon _).mono ?_; rintro e w' ⟨rfl, rfl⟩)
  go_ret
  exact ⟨rfl, 0, _, by rw [alloc_eq_grow, alloc_eq_grow, grow_grow]; rfl⟩

/-! ### between the two vocabularies -/
theorem flat_ent (l : List Ent) : flatK encE 2 l.toArray = (entCells l).toArray := by
  refine ext_get! (by simp [entCells_len]) fun t ht => ?_
  have ht' : t < l.length * 2 := by simpa using ht
  rw [get_flatK _ _ _ t (by simpa using ht')]
  have h2 : t / 2 < l.length := by omega
  have hc : (entCells l)[t]? = (encE (l[t / 2]'h2))[t % 2]? := by
    rw [entCells, flatMap_get encE 2 (by decide) (fun _ => rfl), List.getElem?_eq_getElem h2]
    rfl
  have hm : t % 2 < (encE (l[t / 2]'h2)).length := by show _ < 2; omega
  have e1 : l.toArray[t / 2]! = l[t / 2]'h2 := by simp [h2]
  rw [e1, getElem!_pos (encE (l[t / 2]'h2)) (t % 2) hm, getElem!_pos (entCells l).toArray t (by rw [List.size_toArray, entCells_len]; omega), List.getElem_toArray]
  rw [List.getElem?_eq_getElem hm, List.getElem?_eq_getElem (by rw [entCells_len]; omega)] at hc
  exact (Option.some.inj hc).symm
theorem holds_own {w : World} {g n c : Nat} {l : List Ent} (h : Own w 79 2 (some ⟨g, 0, none⟩) n c (entCells l)) : HoldsK encE 2 w g 0 l.toArray := by
  unfold HoldsK
  rw [flat_ent]
  intro j hj
  have hj' : j < (entCells l).length := by simpa using hj
  rw [Nat.zero_add]
  refine ⟨?_, h.free j⟩
  rw [h.cell j (by rw [← h.1]; exact hj'), List.getElem?_eq_getElem hj', getElem!_pos _ j hj]
  rfl
theorem heap_sortedK {w : World} {g n : Nat} {os : Array Obj} {cur : Array Value} {e : TypeId} {fr : Nat × Nat} (F : Array Value) (hb : w.heap[g]? = some (.cells cur e fr)) :
    (grow (putRow id (Sort.ahead w n) g 0 F) os).heap[g]? = some (.cells (putCells id 0 F cur) e fr) := by
  have hg : g < w.heap.size := (Array.getElem?_eq_some_iff.1 hb).1
  rw [heap_grow_old _ _ (by simpa using hg)]
  simp [putRow, mapBlock, Sort.ahead, Array.getElem?_modify, hb, onCells]
theorem grownBy_sortedK {w : World} {g n : Nat} {os : Array Obj} (F : Array Value) : w.grownBy (grow (putRow id (Sort.ahead w n) g 0 F) os) (some g) := by
  refine ⟨rfl, rfl, rfl, by simp, fun k hk hne => ?_⟩
  rw [heap_grow_old _ _ (by simpa using hk)]
  have : g ≠ k := fun e => hne (by rw [e])
  simp [putRow, mapBlock, Sort.ahead, Array.getElem?_modify, this]
theorem take_putCellsK (cur : Array Value) (ts : List Value) (h : ts.length ≤ cur.size) : (putCells id 0 ts.toArray cur).toList.take ts.length = ts := by
  apply List.ext_getElem?
  intro j
  by_cases hj : j < ts.length
  · rw [List.getElem?_take_of_lt hj, Array.getElem?_toList]
    simp [putCells, hj, show j < cur.size by omega]
  · rw [List.getElem?_take_eq_none (by omega), List.getElem?_eq_none (by omega)]
theorem own_sorted {w : World} {g n c m : Nat} {l l' : List Ent} {os : Array Obj} (h : Own w 79 2 (some ⟨g, 0, none⟩) n c (entCells l)) (hl : l'.length = l.length) :
    Own (sortWorldK encE 2 w g 0 m l'.toArray os) 79 2 (some ⟨g, 0, none⟩) n c (entCells l') ∧ Fr (fun k => k = g) w (sortWorldK encE 2 w g 0 m l'.toArray os) := by
  have hlen := h.1
  have hlen' : (entCells l').length = n * 2 := by rw [entCells_len, hl, ← entCells_len, hlen]
  unfold sortWorldK putRowK
  rw [flat_ent]
  constructor
  · rcases h.2 with ⟨h0, _⟩ | ⟨g', cap, cur, hv, hb, hg, h1, h2, h3, h4⟩
    · cases h0
    · cases hv
      exact ⟨hlen', .inr ⟨g, c, _, rfl, hb, heap_sortedK _ hg, h1, h2, by simp [putCells, h3], by rw [← hlen']; exact take_putCellsK cur _ (by rw [hlen', h3]; exact Nat.mul_le_mul_right _ h1)⟩⟩
  · exact Fr.of_grown (grownBy_sortedK _) fun k hk _ => (Option.some.inj hk).symm

theorem sort_any (w : World) (g n c : Nat) (l : List Ent) (h : Own w 79 2 (some ⟨g, 0, none⟩) n c (entCells l)) (hn : n ≤ 100000) :
    Calls Tryd.prog 64 #[.slice (some ⟨g, 0, none⟩) n c, .func (.func 65) #[] #[]] w fun e w' => e = .returned (.tuple #[]) ∧
      ∃ l', l'.Perm l ∧ (l'.Pairwise fun x y => ¬ y.1 < x.1) ∧ Own w' 79 2 (some ⟨g, 0, none⟩) n c (entCells l') ∧ Fr (fun k => k = g) w w' := by
  have hll : l.length = n := by have := h.1; rw [entCells_len] at this; omega
  have eg : ∀ args w, (callFunc 65 args).run Tryd.prog w = .ok (.enter 65 args) w := enters_of Tryd.func65 (by kernel_rfl) rfl
  have hcon := AnyQ.slices_SortFunc Tryd.sortE 2 Tryd.isAgg79 Tryd.sizeOf79 encE (fun _ => rfl) (fun x v hv => by simp [encE] at hv; rcases hv with rfl | rfl <;> rfl) (fun x y => cmpP x.1 y.1) swo_ent 65 #[] g 0 c l.toArray w eg
    (fun _ _ _ _ x y => order_any x y _) (holds_own h) (h.lt ⟨_, rfl, rfl⟩) (by rw [List.size_toArray]; omega)
  change Calls Tryd.prog 64 _ _ _ at hcon
  rw [List.size_toArray, hll] at hcon
  refine hcon.mono ?_
  rintro e w' ⟨rfl, d', m, os, hp, hs, rfl⟩
  have hsz : d'.toList.length = l.length := by have := hp.1; simpa using this
  obtain ⟨ho, hf⟩ := own_sorted (m := m) (os := os) h hsz
  rw [Array.toArray_toList] at ho hf
  refine ⟨rfl, d'.toList, ?_, ?_, ho, hf⟩
  · have := hp.2.2
    rw [show n = d'.size by rw [← Array.length_toList, hsz, hll], Array.extract_size] at this
    rw [show d'.size = l.toArray.size by rw [List.size_toArray, ← Array.length_toList, hsz], Array.extract_size] at this
    exact this
  · rw [List.pairwise_iff_getElem]
    intro i j hi hj hij
    have := hs i j (Nat.zero_le _) hij (by rw [Array.length_toList] at hj; rw [← hll, ← hsz, Array.length_toList]; exact hj)
    change decide (cmpP d'[j]!.1 d'[i]!.1 < 0) = false at this
    rw [cmpP_lt] at this
    rw [Array.length_toList] at hi hj
    rw [getElem!_pos d' i hi, getElem!_pos d' j hj] at this
    rw [Array.getElem_toList, Array.getElem_toList]
    exact of_decide_eq_false this
end Go.Proofs.YtblbcojkjknfdaaDoor
