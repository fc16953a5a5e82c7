/-
  A trie's places, plain: paths from the root, each once; what follows on a place.
-/
import Derived.Test.YthhlpbopbabojaaMapB
namespace Go.Proofs.Ythhlpbopbabojaa

abbrev Pth : Type := List UInt8
/-- the place of a path -/
def idx : List Pth → Pth → Option Nat
  | [], _ => none
  | p :: P, q => if p = q then some 0 else (idx P q).map (· + 1)
theorem idx_get {P : List Pth} {q : Pth} {j : Nat} (h : idx P q = some j) : P[j]? = some q := by
  induction P generalizing j with
  | nil => cases h
  | cons p P ih =>
    rw [idx] at h
    split at h
    · injection h with h
      subst h
      simp [*]
    · obtain ⟨i, hi, rfl⟩ := Option.map_eq_some_iff.1 h
      simpa using ih hi
theorem idx_none {P : List Pth} {q : Pth} : idx P q = none ↔ q ∉ P := by
  induction P with
  | nil => simp [idx]
  | cons p P ih =>
    rw [idx]
    split
    · simp [*]
    · rename_i hne
      simp [ih, Ne.symm hne]
theorem idx_of {P : List Pth} (hn : P.Nodup) {q : Pth} {j : Nat} (h : P[j]? = some q) : idx P q = some j := by
  induction P generalizing j with
  | nil => simp at h
  | cons p P ih =>
    rw [List.nodup_cons] at hn
    rw [idx]
    cases j with
    | zero =>
      simp at h
      rw [if_pos h]
    | succ j =>
      simp at h
      rw [if_neg (by rintro rfl; exact hn.1 (List.mem_of_getElem? h)), ih hn.2 h]
      rfl
theorem idx_lt {P : List Pth} {q : Pth} {j : Nat} (h : idx P q = some j) : j < P.length := (List.getElem?_eq_some_iff.1 (idx_get h)).1
theorem idx_snoc {P : List Pth} {r : Pth} (hr : r ∉ P) (q : Pth) : idx (P ++ [r]) q = if q = r then some P.length else idx P q := by
  induction P with
  | nil => simp [idx, eq_comm]
  | cons p P ih =>
    simp at hr
    rw [List.cons_append, idx, idx, ih hr.2]
    by_cases h : p = q
    · rw [if_pos h, if_pos h, if_neg]
      rintro rfl
      exact hr.1 h.symm
    · rw [if_neg h, if_neg h]
      split <;> simp
/-- what follows on place i -/
def kid (P : List Pth) (i : Nat) (c : UInt8) : Option Nat := idx P (P.getD i [] ++ [c])
/-- good places: each once, the root first, each with all that is ahead of it -/
structure Good (P : List Pth) : Prop where
  nodup : P.Nodup
  root : P[0]? = some []
  up : ∀ p c, p ++ [c] ∈ P → p ∈ P
theorem good_root : Good [[]] := ⟨by simp, rfl, fun p c h => by simp at h⟩
theorem Good.pos {P : List Pth} (h : Good P) : 0 < P.length := (List.getElem?_eq_some_iff.1 h.root).1
theorem snoc_inj {p q : Pth} {c d : UInt8} (h : p ++ [c] = q ++ [d]) : p = q ∧ c = d := by
  have h1 := List.append_inj' h rfl
  exact ⟨h1.1, by simpa using h1.2⟩
theorem kid_at {P : List Pth} {i : Nat} {p : Pth} (h : P[i]? = some p) (c : UInt8) : kid P i c = idx P (p ++ [c]) := by
  unfold kid
  rw [List.getD_eq_getElem?_getD, h]
  rfl
section
variable {P : List Pth} (g : Good P) {i : Nat} {p : Pth} {c : UInt8} (hi : P[i]? = some p) (hc : p ++ [c] ∉ P)
include g hi hc
theorem Good.add : Good (P ++ [p ++ [c]]) := by
  refine ⟨?_, ?_, fun q d h => ?_⟩
  · rw [List.nodup_append]
    refine ⟨g.nodup, by simp, fun a ha b hb => ?_⟩
    rw [List.mem_singleton.1 hb]
    rintro rfl
    exact hc ha
  · rw [List.getElem?_append_left g.pos]
    exact g.root
  · rcases List.mem_append.1 h with h | h
    · exact List.mem_append_left _ (g.up q d h)
    · rw [(snoc_inj (List.mem_singleton.1 h)).1]
      exact List.mem_append_left _ (List.mem_of_getElem? hi)
theorem kid_grown (j : Nat) (hj : j < P.length) (d : UInt8) : kid (P ++ [p ++ [c]]) j d = if j = i ∧ d = c then some P.length else kid P j d := by
  obtain ⟨q, hq⟩ : ∃ q, P[j]? = some q := ⟨_, List.getElem?_eq_getElem hj⟩
  have hq2 : (P ++ [p ++ [c]])[j]? = some q := by rw [List.getElem?_append_left hj]; exact hq
  rw [kid_at hq2, kid_at hq, idx_snoc hc]
  by_cases h : j = i ∧ d = c
  · obtain ⟨rfl, rfl⟩ := h
    rw [hi] at hq
    injection hq with hq
    rw [if_pos (by rw [hq]), if_pos ⟨rfl, rfl⟩]
  · rw [if_neg h, if_neg]
    intro e
    obtain ⟨rfl, rfl⟩ := snoc_inj e
    have h1 := idx_of g.nodup hq
    have h2 := idx_of g.nodup hi
    rw [h1] at h2
    injection h2 with h2
    exact h ⟨h2, rfl⟩
omit hi in
theorem kid_new (d : UInt8) : kid (P ++ [p ++ [c]]) P.length d = none := by
  have h1 : (P ++ [p ++ [c]])[P.length]? = some (p ++ [c]) := by simp
  rw [kid_at h1, idx_none]
  intro h
  rcases List.mem_append.1 h with h | h
  · exact hc (g.up _ _ h)
  · have := congrArg List.length (List.mem_singleton.1 h)
    simp at this
end

/-- the places behind k bytes of a word -/
def growTo (P : List Pth) (s : Pth) : Nat → List Pth
  | 0 => P
  | k + 1 => if s.take (k + 1) ∈ growTo P s k then growTo P s k else growTo P s k ++ [s.take (k + 1)]
theorem growTo_sub (P : List Pth) (s : Pth) (k : Nat) : ∀ p ∈ P, p ∈ growTo P s k := by
  induction k with
  | zero => exact fun p h => h
  | succ k ih =>
    intro p hp
    rw [growTo]
    split
    · exact ih p hp
    · exact List.mem_append_left _ (ih p hp)
theorem growTo_mem {P : List Pth} (g : Good P) (s : Pth) (k : Nat) : s.take k ∈ growTo P s k := by
  induction k with
  | zero => rw [List.take_zero]; exact List.mem_of_getElem? g.root
  | succ k ih =>
    rw [growTo]
    split
    · assumption
    · simp
theorem growTo_iff (P : List Pth) (s : Pth) (k : Nat) (q : Pth) : q ∈ growTo P s k ↔ q ∈ P ∨ ∃ j, 0 < j ∧ j ≤ k ∧ q = s.take j := by
  induction k with
  | zero => simp [growTo]; intro j h1 h2; omega
  | succ k ih =>
    rw [growTo]
    split
    · rename_i hm
      rw [ih]
      constructor
      · rintro (h | ⟨j, h1, h2, h3⟩)
        · exact .inl h
        · exact .inr ⟨j, h1, by omega, h3⟩
      · rintro (h | ⟨j, h1, h2, h3⟩)
        · exact .inl h
        · by_cases hj : j = k + 1
          · subst hj
            exact ih.1 (by rw [h3]; exact hm)
          · exact .inr ⟨j, h1, by omega, h3⟩
    · rw [List.mem_append, ih, List.mem_singleton]
      constructor
      · rintro ((h | ⟨j, h1, h2, h3⟩) | h)
        · exact .inl h
        · exact .inr ⟨j, h1, by omega, h3⟩
        · exact .inr ⟨k + 1, by omega, by omega, h⟩
      · rintro (h | ⟨j, h1, h2, h3⟩)
        · exact .inl (.inl h)
        · by_cases hj : j = k + 1
          · subst hj
            exact .inr h3
          · exact .inl (.inr ⟨j, h1, by omega, h3⟩)
theorem take_succ_at {s : Pth} {k : Nat} {c : UInt8} (h : s[k]? = some c) : s.take (k + 1) = s.take k ++ [c] := by
  obtain ⟨hk, rfl⟩ := List.getElem?_eq_some_iff.1 h
  rw [List.take_succ_eq_append_getElem hk]
theorem growTo_good {P : List Pth} (g : Good P) (s : Pth) (k : Nat) (hk : k ≤ s.length) : Good (growTo P s k) := by
  induction k with
  | zero => exact g
  | succ k ih =>
    have hg := ih (by omega)
    rw [growTo]
    split
    · exact hg
    · rename_i hn
      have hs := take_succ_at (List.getElem?_eq_getElem (l := s) (i := k) (by omega))
      rw [hs] at hn ⊢
      obtain ⟨i, hi⟩ := List.getElem?_of_mem (growTo_mem g s k)
      exact hg.add hi hn
theorem growTo_len (P : List Pth) (s : Pth) (k : Nat) : (growTo P s k).length ≤ P.length + k := by
  induction k with
  | zero => exact Nat.le_refl _
  | succ k ih =>
    rw [growTo]
    split
    · omega
    · simp; omega
theorem growTo_ge (P : List Pth) (s : Pth) (k : Nat) : P.length ≤ (growTo P s k).length := by
  induction k with
  | zero => exact Nat.le_refl _
  | succ k ih =>
    rw [growTo]
    split
    · omega
    · simp; omega
theorem growTo_get {P : List Pth} {s : Pth} {k i : Nat} {p : Pth} (h : P[i]? = some p) : (growTo P s k)[i]? = some p := by
  induction k with
  | zero => exact h
  | succ k ih =>
    rw [growTo]
    split
    · exact ih
    · rw [List.getElem?_append_left (List.getElem?_eq_some_iff.1 ih).1]
      exact ih
end Go.Proofs.Ythhlpbopbabojaa
