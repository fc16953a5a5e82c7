/-
  The names, sorted; the longest name that a text begins with: plain.
-/
import Derived.Test.YtblbcojkjknfdaaDoorEntP
import Derived.Test.YtblbcojkjknfdaaDoorLongP
namespace Go.Proofs.YtblbcojkjknfdaaDoor

theorem allU_nodup : (allU.map Prod.fst).Nodup := of_decide_eq_true (by kernel_rfl)
theorem allU_small : ∀ x ∈ allU, x.1.length ≠ 0 ∧ x.1.length ≤ 64 := of_decide_eq_true (by kernel_rfl)
/-- all names, in the order of their texts -/
def allS : List Ent := allU.mergeSort fun x y => decide (¬ y.1 < x.1)
theorem allS_perm : allS.Perm allU := List.mergeSort_perm _ _
theorem allS_sorted : allS.Pairwise fun x y => ¬ y.1 < x.1 := by
  have h := List.pairwise_mergeSort (le := fun x y : Ent => decide (¬ y.1 < x.1))
    (fun a b c h1 h2 => by
      simp only [decide_eq_true_eq, List.not_lt] at *
      exact List.le_trans h1 h2)
    (fun a b => by
      by_cases h1 : b.1 < a.1
      · have h2 : ¬ a.1 < b.1 := fun h2 => List.lt_irrefl _ (List.lt_trans h1 h2)
        simp [h1, h2]
      · simp [h1]) allU
  exact h.imp fun h => of_decide_eq_true h
theorem nodup_fst {l : List Ent} (hn : (l.map Prod.fst).Nodup) {x y : Ent} (hx : x ∈ l) (hy : y ∈ l) (h : x.1 = y.1) : x = y := by
  induction l with
  | nil => cases hx
  | cons a l ih =>
    rw [List.map_cons, List.nodup_cons] at hn
    rcases List.mem_cons.1 hx with rfl | hxl
    · rcases List.mem_cons.1 hy with rfl | hy
      · rfl
      · exact (hn.1 (List.mem_map.2 ⟨y, hy, h.symm⟩)).elim
    · rcases List.mem_cons.1 hy with rfl | hy
      · exact (hn.1 (List.mem_map.2 ⟨x, hxl, h⟩)).elim
      · exact ih hn.2 hxl hy
theorem same_fst {x y : Ent} (hx : x ∈ allU) (hy : y ∈ allU) (h : x.1 = y.1) : x = y := nodup_fst allU_nodup hx hy h
theorem all_unique {l : List Ent} (hp : l.Perm allU) (hs : l.Pairwise fun x y => ¬ y.1 < x.1) : l = allS :=
  (hp.trans allS_perm.symm).eq_of_pairwise (fun a b ha hb h1 h2 => same_fst (hp.mem_iff.1 ha) (allS_perm.mem_iff.1 hb) (List.le_antisymm (List.not_lt.1 h1) (List.not_lt.1 h2))) hs allS_sorted
theorem allS_len : allS.length = 134 := by rw [allS_perm.length_eq]; rfl
def namS : List Pth := allS.map Prod.fst
theorem namS_nodup : namS.Nodup := ((allS_perm.map Prod.fst).nodup_iff).2 allU_nodup
theorem namS_len : namS.length = 134 := by rw [namS, List.length_map, allS_len]

/-- what a name stands for -/
def ofName (q : Pth) : Option Pth := (allU.find? fun x => decide (x.1 = q)).map Prod.snd
theorem ofName_mem {x : Ent} (h : x ∈ allU) : ofName x.1 = some x.2 := by
  unfold ofName
  cases hf : allU.find? fun y => decide (y.1 = x.1) with
  | none =>
    have := List.find?_eq_none.1 hf x h
    simp at this
  | some y =>
    have h1 := List.find?_some hf
    have h2 := List.mem_of_find?_eq_some hf
    rw [same_fst h2 h (of_decide_eq_true h1)]
    rfl
theorem ofName_none {q : Pth} (h : q ∉ namS) : ofName q = none := by
  unfold ofName
  cases hf : allU.find? fun y => decide (y.1 = q) with
  | none => rfl
  | some y =>
    have h1 := List.find?_some hf
    have h2 := List.mem_of_find?_eq_some hf
    exact (h (List.mem_map.2 ⟨y, allS_perm.mem_iff.2 h2, of_decide_eq_true h1⟩)).elim
/-- the longest name among the first k beginnings -/
def namedTo (s : Pth) : Nat → Pth × Nat
  | 0 => ([], 0)
  | k + 1 => match ofName (s.take (k + 1)) with
    | some t => (t, k + 1)
    | none => namedTo s k
/-- the longest name that s begins with -/
def namedP (s : Pth) : Pth × Nat := namedTo s s.length
theorem namedTo_ends (s : Pth) (k : Nat) : ((lastOf (endsTo namS s k)).2 = 0 ∧ namedTo s k = ([], 0)) ∨
    ∃ m n : Nat, ∃ x, lastOf (endsTo namS s k) = ((m : Int), (n : Int)) ∧ 0 < n ∧ n ≤ k ∧ allS[m]? = some x ∧ x.1 = s.take n ∧ namedTo s k = (x.2, n) := by
  induction k with
  | zero => exact .inl ⟨rfl, rfl⟩
  | succ k ih =>
    unfold endsTo namedTo
    cases hi : idx namS (s.take (k + 1)) with
    | none =>
      rw [ofName_none (idx_none.1 hi), List.append_nil]
      rcases ih with h | ⟨m, n, x, h1, h2, h3, h4⟩
      · exact .inl h
      · exact .inr ⟨m, n, x, h1, h2, by omega, h4⟩
    | some m =>
      have hg := idx_get hi
      rw [namS, List.getElem?_map, Option.map_eq_some_iff] at hg
      obtain ⟨x, hx, hx1⟩ := hg
      refine .inr ⟨m, k + 1, x, lastOf_snoc _ _, by omega, Nat.le_refl _, hx, hx1, ?_⟩
      rw [← hx1, ofName_mem (allS_perm.mem_iff.1 (List.mem_of_getElem? hx))]
theorem longR_named (s : Pth) : ((longR namS s).2 = 0 ∧ namedP s = ([], 0)) ∨ ∃ m n : Nat, ∃ x, longR namS s = ((m : Int), (n : Int)) ∧ 0 < n ∧ n ≤ s.length ∧ allS[m]? = some x ∧ x.1 = s.take n ∧ namedP s = (x.2, n) := namedTo_ends s s.length
theorem notit : namedP [110, 111, 116, 105, 116] = ([194, 172], 3) := by kernel_rfl
end Go.Proofs.YtblbcojkjknfdaaDoor
