/-
  Texts put in one by one, by their bytes: plain.
-/
import Derived.Test.YthhlpbopbabojaaMapB
import Derived.Test.YthhlpbopbabojaaTrieP
namespace Go.Proofs.Ythhlpbopbabojaa

/-- one more text, behind all that are less -/
def insP (x : Pth) : List Pth → List Pth
  | [] => [x]
  | y :: l => if y < x then y :: insP x l else x :: y :: l
def insAll (l : List Pth) : List Pth := l.foldl (fun o x => insP x o) []
abbrev Asc (l : List Pth) : Prop := l.Pairwise fun a b => ¬ b < a
theorem ins_eq {x : Pth} {l : List Pth} {k : Nat} (h1 : ∀ j y, l[j]? = some y → j < k → y < x) (h2 : ∀ y, l[k]? = some y → ¬ y < x) (hk : k ≤ l.length) : l.take k ++ x :: l.drop k = insP x l := by
  induction l generalizing k with
  | nil =>
    obtain rfl : k = 0 := by simpa using hk
    rfl
  | cons y l ih =>
    cases k with
    | zero => rw [insP, if_neg (h2 y rfl)]; rfl
    | succ k =>
      rw [insP, if_pos (h1 0 y rfl (by omega)), List.take_succ_cons, List.drop_succ_cons, List.cons_append, ih (fun j z hz hj => h1 (j + 1) z hz (by omega)) (fun z hz => h2 z hz) (by simpa using hk)]
theorem insP_perm (x : Pth) (l : List Pth) : (insP x l).Perm (x :: l) := by
  induction l with
  | nil => exact List.Perm.refl _
  | cons y l ih =>
    rw [insP]
    split
    · exact (ih.cons y).trans (List.Perm.swap x y l)
    · exact List.Perm.refl _
theorem insP_len (x : Pth) (l : List Pth) : (insP x l).length = l.length + 1 := (insP_perm x l).length_eq
theorem insP_asc {x : Pth} {l : List Pth} (h : Asc l) : Asc (insP x l) := by
  induction l with
  | nil => simp [insP, Asc]
  | cons y l ih =>
    obtain ⟨h1, h2⟩ := List.pairwise_cons.1 h
    rw [insP]
    split
    · rename_i hlt
      refine List.pairwise_cons.2 ⟨fun z hz => ?_, ih h2⟩
      rcases List.mem_cons.1 ((insP_perm x l).mem_iff.1 hz) with rfl | hz
      · exact fun h3 => List.lt_irrefl _ (List.lt_trans hlt h3)
      · exact h1 z hz
    · rename_i hnl
      refine List.pairwise_cons.2 ⟨fun z hz => ?_, h⟩
      rcases List.mem_cons.1 hz with rfl | hz
      · exact hnl
      · intro h3
        have := h1 z hz
        rw [List.not_lt] at this hnl
        exact (List.not_lt.2 (List.le_trans hnl this)) h3
theorem take_sn {L : List Pth} {k : Nat} {c : Pth} (h : L[k]? = some c) : L.take (k + 1) = L.take k ++ [c] := by
  obtain ⟨hk, rfl⟩ := List.getElem?_eq_some_iff.1 h
  rw [List.take_succ_eq_append_getElem hk]
theorem insAll_take {l : List Pth} {k : Nat} {x : Pth} (h : l[k]? = some x) : insAll (l.take (k + 1)) = insP x (insAll (l.take k)) := by
  obtain ⟨hk, rfl⟩ := List.getElem?_eq_some_iff.1 h
  rw [List.take_succ_eq_append_getElem hk, insAll, List.foldl_append]
  rfl
theorem insAll_spec (l : List Pth) : (insAll l).Perm l ∧ Asc (insAll l) := by
  have h : ∀ k, k ≤ l.length → (insAll (l.take k)).Perm (l.take k) ∧ Asc (insAll (l.take k)) := by
    intro k
    induction k with
    | zero => exact fun _ => ⟨List.Perm.refl _, List.Pairwise.nil⟩
    | succ k ih =>
      intro hk
      obtain ⟨h1, h2⟩ := ih (by omega)
      have hx := List.getElem?_eq_getElem (l := l) (i := k) (by omega)
      rw [insAll_take hx, take_sn hx]
      refine ⟨(insP_perm _ _).trans ?_, insP_asc h2⟩
      exact (h1.cons _).trans (List.perm_append_comm (l₁ := [_]))
  have := h l.length (Nat.le_refl _)
  rwa [List.take_length] at this
theorem insAll_len (l : List Pth) : (insAll l).length = l.length := (insAll_spec l).1.length_eq
/-- two rows of the same texts in order are one -/
theorem asc_unique {l m : List Pth} (hp : l.Perm m) (h1 : Asc l) (h2 : Asc m) : l = m :=
  hp.eq_of_pairwise (fun _ _ _ _ a b => List.le_antisymm (List.not_lt.1 a) (List.not_lt.1 b)) h1 h2
end Go.Proofs.Ythhlpbopbabojaa
