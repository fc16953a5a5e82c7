/-
  The reference's list of names; its longest name: plain.
-/
import Derived.Test.YtcplmdheoagmcaaDoorNamP
namespace Go.Proofs.YtcplmdheoagmcaaDoor

/-- a name, what it stands for, and whether it may stand bare -/
abbrev RRow : Type := Ent × Bool
def bareRR : List RRow := bareL.map fun x => (x, true)
def closedRR : List RRow := closedL.map fun x => (x, false)
def namesOf (l : List RRow) : List RRow := l.flatMap fun r => ((r.1.1 ++ [59], r.1.2), false) :: (if r.2 then [(r.1, true)] else [])
def rowsR : List RRow := bareRR ++ closedRR
def refE : List Ent := (namesOf rowsR).map Prod.fst
theorem refE_mem : (∀ x ∈ refE, x ∈ allU) ∧ ∀ x ∈ allU, x ∈ refE := of_decide_eq_true (by kernel_rfl)
theorem refE_len : (namesOf rowsR).length = 134 := by kernel_rfl
theorem namesOf_take {l : List RRow} {k : Nat} {x : RRow} (h : l[k]? = some x) : namesOf (l.take (k + 1)) = namesOf (l.take k) ++ ((x.1.1 ++ [59], x.1.2), false) :: (if x.2 then [(x.1, true)] else []) := by
  obtain ⟨hk, rfl⟩ := List.getElem?_eq_some_iff.1 h
  rw [List.take_succ_eq_append_getElem hk, namesOf, List.flatMap_append, List.flatMap_singleton]
  rfl
theorem namesOf_len (l : List RRow) (k : Nat) (h : k ≤ l.length) : k ≤ (namesOf (l.take k)).length ∧ (namesOf (l.take k)).length ≤ 2 * k := by
  induction k with
  | zero => exact ⟨Nat.le_refl _, Nat.le_refl _⟩
  | succ k ih =>
    have := ih (by omega)
    rw [namesOf_take (List.getElem?_eq_getElem (by omega)), List.length_append, List.length_cons]
    split
    · simp only [List.length_cons, List.length_nil]; omega
    · simp only [List.length_nil]; omega

/-- a longer name that s begins with is better -/
def betterR (s : Pth) (st : Pth × Nat) (x : Ent) : Pth × Nat := if st.2 < x.1.length ∧ x.1.length ≤ s.length ∧ s.take x.1.length = x.1 then (x.2, x.1.length) else st
def rnamed (l : List Ent) (s : Pth) : Pth × Nat := l.foldl (betterR s) ([], 0)
theorem rnamed_take {l : List Ent} {k : Nat} {x : Ent} (h : l[k]? = some x) (s : Pth) : rnamed (l.take (k + 1)) s = betterR s (rnamed (l.take k) s) x := by
  obtain ⟨hk, rfl⟩ := List.getElem?_eq_some_iff.1 h
  rw [List.take_succ_eq_append_getElem hk, rnamed, List.foldl_append]
  rfl
def Best (l : List Ent) (s : Pth) (r : Pth × Nat) : Prop := (∀ y ∈ l, y.1 <+: s → y.1.length ≤ r.2) ∧ (r = ([], 0) ∨ ∃ x ∈ l, x.1 <+: s ∧ 0 < x.1.length ∧ r = (x.2, x.1.length))
theorem best_snoc {l : List Ent} {s : Pth} {r : Pth × Nat} (h : Best l s r) (x : Ent) : Best (l ++ [x]) s (betterR s r x) := by
  unfold betterR
  by_cases hc : r.2 < x.1.length ∧ x.1.length ≤ s.length ∧ s.take x.1.length = x.1
  · rw [if_pos hc]
    refine ⟨fun y hy hp => ?_, .inr ⟨x, by simp, List.prefix_iff_eq_take.2 hc.2.2.symm, by omega, rfl⟩⟩
    rcases List.mem_append.1 hy with hy | hy
    · have := h.1 y hy hp
      show y.1.length ≤ x.1.length
      omega
    · rw [List.mem_singleton.1 hy]
      exact Nat.le_refl _
  · rw [if_neg hc]
    refine ⟨fun y hy hp => ?_, h.2.imp id fun ⟨z, hz, h1⟩ => ⟨z, by simp [hz], h1⟩⟩
    rcases List.mem_append.1 hy with hy | hy
    · exact h.1 y hy hp
    · rw [List.mem_singleton.1 hy] at hp ⊢
      have h1 := hp.length_le
      have h2 := (List.prefix_iff_eq_take.1 hp).symm
      apply Classical.byContradiction
      intro hn
      exact hc ⟨by omega, h1, h2⟩
theorem best_rnamed (l : List Ent) (s : Pth) : Best l s (rnamed l s) := by
  have h : ∀ k, k ≤ l.length → Best (l.take k) s (rnamed (l.take k) s) := by
    intro k
    induction k with
    | zero => exact fun _ => ⟨fun y hy => by simp at hy, .inl rfl⟩
    | succ k ih =>
      intro hk
      have hx : l[k]? = some (l[k]'(by omega)) := List.getElem?_eq_getElem (by omega)
      rw [rnamed_take hx, List.take_succ_eq_append_getElem (by omega)]
      exact best_snoc (ih (by omega)) _
  have := h l.length (Nat.le_refl _)
  rwa [List.take_length] at this
theorem best_named (s : Pth) : Best allU s (namedP s) := by
  have h : ∀ k, k ≤ s.length → (∀ y ∈ allU, y.1 <+: s → y.1.length ≤ k → y.1.length ≤ (namedTo s k).2) ∧ (namedTo s k = ([], 0) ∨ ∃ x ∈ allU, x.1 <+: s ∧ 0 < x.1.length ∧ namedTo s k = (x.2, x.1.length)) := by
    intro k
    induction k with
    | zero => exact fun _ => ⟨fun y _ _ h => h, .inl rfl⟩
    | succ k ih =>
      intro hk
      obtain ⟨h1, h2⟩ := ih (by omega)
      unfold namedTo
      cases ho : ofName (s.take (k + 1)) with
      | none =>
        refine ⟨fun y hy hp hl => ?_, h2⟩
        by_cases he : y.1.length = k + 1
        · have := List.prefix_iff_eq_take.1 hp
          rw [he] at this
          rw [← this, ofName_mem hy] at ho
          cases ho
        · exact h1 y hy hp (by omega)
      | some t =>
        refine ⟨fun y hy hp hl => hl, .inr ?_⟩
        unfold ofName at ho
        obtain ⟨x, hx, rfl⟩ := Option.map_eq_some_iff.1 ho
        have hm := List.mem_of_find?_eq_some hx
        have he0 := List.find?_some hx
        have he : x.1 = s.take (k + 1) := of_decide_eq_true he0
        have hlen : x.1.length = k + 1 := by rw [he, List.length_take]; omega
        exact ⟨x, hm, by rw [he]; exact List.take_prefix _ _, by omega, by rw [hlen]⟩
  obtain ⟨h1, h2⟩ := h s.length (Nat.le_refl _)
  exact ⟨fun y hy hp => h1 y hy hp hp.length_le, h2⟩
theorem best_same {s : Pth} {r r' : Pth × Nat} (h : Best allU s r) (h' : Best allU s r') : r = r' := by
  rcases h.2 with rfl | ⟨x, hx, hp, h0, rfl⟩ <;> rcases h'.2 with rfl | ⟨y, hy, hq, h1, rfl⟩
  · rfl
  · have := h.1 y hy hq
    change _ ≤ 0 at this
    omega
  · have := h'.1 x hx hp
    change _ ≤ 0 at this
    omega
  · have e1 : y.1.length ≤ x.1.length := h.1 y hy hq
    have e2 : x.1.length ≤ y.1.length := h'.1 x hx hp
    have e : x.1 = y.1 := by rw [List.prefix_iff_eq_take.1 hp, List.prefix_iff_eq_take.1 hq, Nat.le_antisymm e2 e1]
    rw [same_fst hx hy e]
theorem rnamed_named (s : Pth) : rnamed refE s = namedP s := by
  refine best_same ?_ (best_named s)
  have h := best_rnamed refE s
  refine ⟨fun y hy => h.1 y (refE_mem.2 y hy), h.2.imp id fun ⟨x, hx, h1⟩ => ⟨x, refE_mem.1 x hx, h1⟩⟩
end Go.Proofs.YtcplmdheoagmcaaDoor
