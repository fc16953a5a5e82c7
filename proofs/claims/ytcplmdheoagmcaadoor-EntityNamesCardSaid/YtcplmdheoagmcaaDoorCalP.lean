/-
  The shortest name of a text: plain, as the program and as the reference find it.
-/
import Derived.Test.YtcplmdheoagmcaaDoorRefP
namespace Go.Proofs.YtcplmdheoagmcaaDoor

/-- a shorter name, or of two as long the first by its bytes -/
def Shorter (a b : Pth) : Prop := a.length < b.length ∨ a.length = b.length ∧ a < b
instance (a b : Pth) : Decidable (Shorter a b) := by unfold Shorter; exact inferInstance
def pickStep (b x : Ent) : Ent := if Shorter x.1 b.1 then x else b
/-- the shortest of some names, the first of them where there are several -/
def pickL (b : Ent) (l : List Ent) : Ent := l.foldl pickStep b
theorem pickL_take {l : List Ent} {k : Nat} {x : Ent} (h : l[k]? = some x) (b : Ent) : pickL b (l.take (k + 1)) = pickStep (pickL b (l.take k)) x := by
  obtain ⟨hk, rfl⟩ := List.getElem?_eq_some_iff.1 h
  rw [List.take_succ_eq_append_getElem hk, pickL, List.foldl_append]
  rfl
theorem pickL_mem (b : Ent) (l : List Ent) : pickL b l = b ∨ pickL b l ∈ l := by
  induction l generalizing b with
  | nil => exact .inl rfl
  | cons x l ih =>
    show pickL (pickStep b x) l = b ∨ _
    have hs : pickStep b x = b ∨ pickStep b x = x := by
      unfold pickStep
      split
      · exact .inr rfl
      · exact .inl rfl
    rcases ih (pickStep b x) with h | h
    · rcases hs with h2 | h2
      · exact .inl (h.trans h2)
      · exact .inr (by rw [show pickL b (x :: l) = x from h.trans h2]; simp)
    · exact .inr (List.mem_cons_of_mem _ h)
/-- those that stand for a text -/
def ofText (l : List Ent) (s : Pth) : List Ent := l.filter fun x => decide (x.2 = s)
def shortest (l : List Ent) : Pth := match l with
  | [] => []
  | x :: l => (pickL x l).1
/-- the shortest name of a text; none: no bytes -/
def calledP (s : Pth) : Pth := if shortest (ofText bareL s) = [] then shortest (ofText (withL closedL) s) else shortest (ofText bareL s)
def Named_ (l : List Ent) : Prop := ∀ x ∈ l, x.1 ≠ []
theorem shortest_nil {l : List Ent} (hn : Named_ l) : shortest l = [] ↔ l = [] := by
  cases l with
  | nil => simp [shortest]
  | cons x l =>
    simp only [shortest, reduceCtorEq, iff_false]
    rcases pickL_mem x l with h | h
    · rw [h]; exact hn x (by simp)
    · exact hn _ (List.mem_cons_of_mem _ h)
theorem named_text {l : List Ent} (hn : Named_ l) (s : Pth) : Named_ (ofText l s) := fun x hx => hn x (List.mem_filter.1 hx).1

/-! ### the reference -/
def betterC (s : Pth) (p : Bool) (b : Pth) (x : RRow) : Pth := if x.1.2 = s ∧ x.2 = p ∧ (b = [] ∨ Shorter x.1.1 b) then x.1.1 else b
def rcalled (l : List RRow) (s : Pth) (p : Bool) (b : Pth) : Pth := l.foldl (betterC s p) b
theorem rcalled_take {l : List RRow} {k : Nat} {x : RRow} (h : l[k]? = some x) (s : Pth) (p : Bool) (b : Pth) : rcalled (l.take (k + 1)) s p b = betterC s p (rcalled (l.take k) s p b) x := by
  obtain ⟨hk, rfl⟩ := List.getElem?_eq_some_iff.1 h
  rw [List.take_succ_eq_append_getElem hk, rcalled, List.foldl_append]
  rfl
theorem rcalled_filter (l : List RRow) (s : Pth) (p : Bool) (b : Pth) : rcalled l s p b = rcalled (l.filter fun x => x.2 == p) s p b := by
  induction l generalizing b with
  | nil => rfl
  | cons x l ih =>
    rw [List.filter_cons]
    split
    · exact ih _
    · rename_i h
      have : betterC s p b x = b := by
        unfold betterC
        rw [if_neg]
        rintro ⟨_, h2, _⟩
        exact h (by simp [h2])
      show rcalled l s p (betterC s p b x) = _
      rw [this]
      exact ih _
theorem rcalled_map (l : List Ent) (s : Pth) (p : Bool) (b : Pth) (hn : Named_ l) (hb : b ≠ []) (x : Ent) (hx : x.1 = b) : rcalled (l.map fun x => (x, p)) s p b = (pickL x (ofText l s)).1 := by
  induction l generalizing b x with
  | nil => exact hx.symm
  | cons y l ih =>
    have hn' : Named_ l := fun z hz => hn z (List.mem_cons_of_mem _ hz)
    show rcalled (l.map fun x => (x, p)) s p (betterC s p b (y, p)) = _
    unfold ofText
    rw [List.filter_cons]
    by_cases h : y.2 = s
    · rw [if_pos (by simp [h])]
      show _ = (pickL (pickStep x y) (ofText l s)).1
      unfold betterC pickStep
      by_cases h2 : Shorter y.1 b
      · rw [if_pos ⟨h, rfl, .inr h2⟩, if_pos (by rw [hx]; exact h2)]
        exact ih y.1 hn' (hn y (by simp)) y rfl
      · rw [if_neg (fun e => e.2.2.elim hb h2), if_neg (by rw [hx]; exact h2)]
        exact ih b hn' hb x hx
    · rw [if_neg (by simp [h])]
      unfold betterC
      rw [if_neg (fun e => h e.1)]
      exact ih b hn' hb x hx
theorem rcalled_nil (l : List Ent) (s : Pth) (p : Bool) (hn : Named_ l) : rcalled (l.map fun x => (x, p)) s p [] = shortest (ofText l s) := by
  induction l with
  | nil => rfl
  | cons y l ih =>
    have hn' : Named_ l := fun z hz => hn z (List.mem_cons_of_mem _ hz)
    show rcalled (l.map fun x => (x, p)) s p (betterC s p [] (y, p)) = _
    unfold ofText
    rw [List.filter_cons]
    by_cases h : y.2 = s
    · rw [if_pos (decide_eq_true h), show betterC s p [] (y, p) = y.1 from if_pos ⟨h, rfl, .inl rfl⟩]
      exact rcalled_map l s p y.1 hn' (hn y (by simp)) y rfl
    · rw [if_neg (by simp [h]), show betterC s p [] (y, p) = [] from if_neg (fun e => h e.1)]
      exact ih hn'
theorem refT : ((namesOf rowsR).filter fun x => x.2 == true) = bareL.map fun x => (x, true) := by kernel_rfl
theorem refF : ((namesOf rowsR).filter fun x => x.2 == false) = (withL bareL ++ withL closedL).map fun x => (x, false) := by kernel_rfl
theorem named_bare : Named_ bareL := of_decide_eq_true (p := ∀ x ∈ bareL, x.1 ≠ []) (by kernel_rfl)
theorem named_with (l : List Ent) : Named_ (withL l) := fun x hx => by
  obtain ⟨y, _, rfl⟩ := List.mem_map.1 hx
  simp
theorem called_first (s : Pth) : rcalled (namesOf rowsR) s true [] = shortest (ofText bareL s) := by
  rw [rcalled_filter, refT, rcalled_nil _ _ _ named_bare]
theorem called_second (s : Pth) (h : shortest (ofText bareL s) = []) : rcalled (namesOf rowsR) s false [] = shortest (ofText (withL closedL) s) := by
  have hb := (shortest_nil (named_text named_bare s)).1 h
  rw [rcalled_filter, refF, rcalled_nil _ _ _ (fun x hx => (List.mem_append.1 hx).elim (named_with _ x) (named_with _ x))]
  have : ofText (withL bareL) s = [] := by
    unfold ofText withL at *
    rw [List.filter_map]
    rw [show ((fun x : Ent => decide (x.2 = s)) ∘ fun x : Ent => (x.1 ++ [59], x.2)) = fun x : Ent => decide (x.2 = s) from rfl, hb]
    rfl
  unfold ofText at *
  rw [List.filter_append, this, List.nil_append]
end Go.Proofs.YtcplmdheoagmcaaDoor
