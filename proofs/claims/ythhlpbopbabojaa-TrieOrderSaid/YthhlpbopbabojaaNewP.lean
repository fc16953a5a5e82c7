/-
  The places of a trie of some words, plain.
-/
import Derived.Test.YthhlpbopbabojaaTrieP
namespace Go.Proofs.Ythhlpbopbabojaa

def wdI : Option Nat → Int
  | some m => m
  | none => -1
theorem wdI_none {o : Option Nat} : wdI o = -1 ↔ o = none := by
  cases o with
  | none => simp [wdI]
  | some m => simp [wdI]
/-- P are the places of the words Lb, ns what each has for a word -/
structure Full (Lb P : List Pth) (ns : List (Nat × Int)) : Prop where
  good : Good P
  mem : ∀ q, q ∈ P ↔ q = [] ∨ ∃ x ∈ Lb, q <+: x
  word : ∀ (i : Nat) (p : Pth) (x : Nat × Int), P[i]? = some p → ns[i]? = some x → x.2 = wdI (idx Lb p)
theorem full_start (m : Nat) : Full [] [[]] [(m, -1)] := by
  refine ⟨good_root, fun q => by simp, fun i p x hp hx => ?_⟩
  cases i with
  | zero => simp at hx; subst hx; rfl
  | succ i => simp at hx
theorem full_word {Lb P : List Pth} {ns : List (Nat × Int)} (h : Full Lb P ns) {x : Pth} (hx : x ∈ Lb) : x ∈ P := (h.mem x).2 (.inr ⟨x, hx, List.prefix_refl x⟩)
theorem prefix_take {q x : Pth} : q <+: x ↔ ∃ j, j ≤ x.length ∧ q = x.take j := by
  constructor
  · intro h
    exact ⟨q.length, h.length_le, by rw [List.prefix_iff_eq_take] at h; exact h⟩
  · rintro ⟨j, _, rfl⟩
    exact List.take_prefix _ _
theorem full_step {Lb P : List Pth} {ns ns' : List (Nat × Int)} (h : Full Lb P ns) (hl : ns.length = P.length) {s : Pth} {j : Nat} {x : Nat × Int} (hj : (growTo P s s.length)[j]? = some s)
    (he1 : ∀ (i : Nat) (x : Nat × Int), ns[i]? = some x → ns'[i]? = some x) (he2 : ∀ (i : Nat) (x : Nat × Int), ns.length ≤ i → ns'[i]? = some x → x.2 = -1) (hx : ns'[j]? = some x) :
    (x.2 = -1 → s ∉ Lb ∧ Full (Lb ++ [s]) (growTo P s s.length) (ns'.set j (x.1, (Lb.length : Int)))) ∧ (x.2 ≠ -1 → s ∈ Lb) := by
  have g := growTo_good h.good s s.length (Nat.le_refl _)
  have key : ∀ (i : Nat) (p : Pth) (y : Nat × Int), (growTo P s s.length)[i]? = some p → ns'[i]? = some y → y.2 = wdI (idx Lb p) := by
    intro i p y hp hy
    by_cases hi : i < P.length
    · obtain ⟨p', hp'⟩ : ∃ p', P[i]? = some p' := ⟨_, List.getElem?_eq_getElem hi⟩
      have e1 := growTo_get (s := s) (k := s.length) hp'
      rw [hp] at e1
      injection e1 with e1
      subst e1
      obtain ⟨y', hy'⟩ : ∃ y', ns[i]? = some y' := ⟨_, List.getElem?_eq_getElem (by omega)⟩
      have e2 := he1 i y' hy'
      rw [hy] at e2
      injection e2 with e2
      subst e2
      exact h.word i p y hp' hy'
    · rw [he2 i y (by omega) hy]
      have hno : p ∉ Lb := fun hm => by
        obtain ⟨i', hi'⟩ := List.getElem?_of_mem (full_word h hm)
        have e1 := growTo_get (s := s) (k := s.length) hi'
        have a1 := idx_of g.nodup e1
        have a2 := idx_of g.nodup hp
        rw [a1] at a2
        injection a2 with a2
        have := (List.getElem?_eq_some_iff.1 hi').1
        omega
      rw [idx_none.2 hno]
      rfl
  have hxw := key j s x hj hx
  refine ⟨fun hm => ?_, fun hm => ?_⟩
  · have hs : s ∉ Lb := by
      rw [hm] at hxw
      exact idx_none.1 (wdI_none.1 hxw.symm)
    refine ⟨hs, g, fun q => ?_, fun i p y hp hy => ?_⟩
    · rw [growTo_iff, h.mem]
      constructor
      · rintro ((h1 | ⟨x, h1, h2⟩) | ⟨i, h1, h2, h3⟩)
        · exact .inl h1
        · exact .inr ⟨x, by simp [h1], h2⟩
        · exact .inr ⟨s, by simp, prefix_take.2 ⟨i, h2, h3⟩⟩
      · rintro (h1 | ⟨x, h1, h2⟩)
        · exact .inl (.inl h1)
        · rcases List.mem_append.1 h1 with h1 | h1
          · exact .inl (.inr ⟨x, h1, h2⟩)
          · rw [List.mem_singleton.1 h1] at h2
            obtain ⟨i, h3, h4⟩ := prefix_take.1 h2
            rcases Nat.eq_zero_or_pos i with h5 | h5
            · subst h5
              exact .inl (.inl (by simpa using h4))
            · exact .inr ⟨i, h5, h3, h4⟩
    · rw [idx_snoc hs]
      by_cases hij : j = i
      · subst hij
        rw [hj] at hp
        injection hp with hp
        rw [List.getElem?_set_self', hx] at hy
        simp at hy
        rw [if_pos hp.symm, ← hy]
        rfl
      · rw [List.getElem?_set_ne hij] at hy
        have hne : p ≠ s := by
          rintro rfl
          have a1 := idx_of g.nodup hj
          have a2 := idx_of g.nodup hp
          rw [a1] at a2
          injection a2 with a2
          exact hij a2
        rw [if_neg hne]
        exact key i p y hp hy
  · refine Classical.byContradiction fun hs => hm ?_
    rw [hxw, idx_none.2 hs]
    rfl
theorem nodup_take_succ {Lb : List Pth} {k : Nat} {s : Pth} (hs : Lb[k]? = some s) (hn : (Lb.take k).Nodup) (hm : s ∉ Lb.take k) : (Lb.take (k + 1)).Nodup := by
  obtain ⟨hk, rfl⟩ := List.getElem?_eq_some_iff.1 hs
  rw [List.take_succ_eq_append_getElem hk, List.nodup_append]
  refine ⟨hn, by simp, fun a ha b hb => ?_⟩
  rw [List.mem_singleton.1 hb]
  rintro rfl
  exact hm ha
theorem not_nodup {Lb : List Pth} {k : Nat} {s : Pth} (hs : Lb[k]? = some s) (hm : s ∈ Lb.take k) : ¬ Lb.Nodup := by
  intro hn
  obtain ⟨hk, rfl⟩ := List.getElem?_eq_some_iff.1 hs
  have h1 : (Lb.take (k + 1)).Nodup := List.Sublist.nodup (List.take_sublist _ _) hn
  rw [List.take_succ_eq_append_getElem hk, List.nodup_append] at h1
  exact h1.2.2 _ hm _ (by simp) rfl
end Go.Proofs.Ythhlpbopbabojaa
