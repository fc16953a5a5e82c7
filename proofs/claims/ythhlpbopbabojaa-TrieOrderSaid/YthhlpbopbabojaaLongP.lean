/-
  Words that a text begins with, plain.
-/
import Derived.Test.YthhlpbopbabojaaNewP
namespace Go.Proofs.Ythhlpbopbabojaa

/-- the words that s begins with, of at most k bytes: the place of each, and its bytes -/
def endsTo (Lb : List Pth) (s : Pth) : Nat → List (Nat × Nat)
  | 0 => []
  | k + 1 => endsTo Lb s k ++ (match idx Lb (s.take (k + 1)) with | some m => [(m, k + 1)] | none => [])
/-- the last one of some -/
def lastOf (l : List (Nat × Nat)) : Int × Int := match l.getLast? with
  | some x => ((x.1 : Int), (x.2 : Int))
  | none => (-1, 0)
theorem lastOf_snoc (l : List (Nat × Nat)) (x : Nat × Nat) : lastOf (l ++ [x]) = ((x.1 : Int), (x.2 : Int)) := by simp [lastOf]
theorem lastOf_nil : lastOf [] = (-1, 0) := rfl
/-- the longest word that s begins with -/
def longR (Lb : List Pth) (s : Pth) : Int × Int := lastOf (endsTo Lb s s.length)
section
variable {Lb P : List Pth} {ns : List (Nat × Int)} (h : Full Lb P ns)
include h
theorem endsTo_stop {s : Pth} {k : Nat} (hk : s.take (k + 1) ∉ P) (m : Nat) (hm : k + m ≤ s.length) : endsTo Lb s (k + m) = endsTo Lb s k := by
  induction m with
  | zero => rfl
  | succ m ih =>
    rw [← Nat.add_assoc, endsTo, ih (by omega)]
    have hno : s.take (k + m + 1) ∉ Lb := fun hi => hk <| (h.mem _).2 <| .inr ⟨_, hi, prefix_take.2 ⟨k + 1, by rw [List.length_take]; omega, by rw [List.take_take, Nat.min_eq_left (by omega)]⟩⟩
    rw [idx_none.2 hno]
    simp
theorem ends_word {i : Nat} {p : Pth} {x : Nat × Int} (hp : P[i]? = some p) (hx : ns[i]? = some x) : (x.2 = -1 ∧ idx Lb p = none) ∨ ∃ m : Nat, x.2 = m ∧ idx Lb p = some m := by
  have hw := h.word i p x hp hx
  cases hi : idx Lb p with
  | none => rw [hi] at hw; exact .inl ⟨hw, rfl⟩
  | some m => rw [hi] at hw; exact .inr ⟨m, hw, rfl⟩
end

/-- what Find tells -/
def findR (Lb : List Pth) (s : Pth) : Int × Bool := match idx Lb s with
  | some m => ((m : Int), true)
  | none => (0, false)
theorem endsTo_le {Lb : List Pth} {s : Pth} {k : Nat} : ∀ x ∈ endsTo Lb s k, x.2 ≤ k := by
  induction k with
  | zero => simp [endsTo]
  | succ k ih =>
    intro x hx
    rw [endsTo] at hx
    rcases List.mem_append.1 hx with h | h
    · have := ih x h
      omega
    · cases hi : idx Lb (s.take (k + 1)) with
      | none => rw [hi] at h; cases h
      | some m => rw [hi] at h; rw [List.mem_singleton.1 h]; exact Nat.le_refl _
theorem lastOf_le {Lb : List Pth} {s : Pth} {k : Nat} : (lastOf (endsTo Lb s k)).2 ≤ k := by
  unfold lastOf
  cases h : (endsTo Lb s k).getLast? with
  | none => simp
  | some x =>
    have := endsTo_le x (List.mem_of_getLast? h)
    simp
    omega
theorem long_find {Lb : List Pth} (h0 : [] ∉ Lb) (s : Pth) : (if 0 < (longR Lb s).2 ∧ (longR Lb s).2 = (s.length : Int) then ((longR Lb s).1, true) else (0, false)) = findR Lb s := by
  unfold longR findR
  cases s with
  | nil =>
    rw [idx_none.2 h0]
    simp [endsTo, lastOf]
  | cons c s =>
    rw [List.length_cons, endsTo, show (c :: s).take (s.length + 1) = c :: s by rw [List.take_of_length_le (by simp)]]
    cases hi : idx Lb (c :: s) with
    | some m =>
      simp only
      rw [lastOf_snoc, if_pos ⟨by simp, by simp⟩]
    | none =>
      simp only [List.append_nil]
      rw [if_neg]
      rintro ⟨_, h⟩
      have := lastOf_le (Lb := Lb) (s := c :: s) (k := s.length)
      omega
/-- does some word begin so? -/
def beginsB (Lb : List Pth) (s : Pth) : Bool := Lb.any fun x => s.isPrefixOf x
theorem begins_iff {Lb : List Pth} {s : Pth} : beginsB Lb s = true ↔ ∃ x ∈ Lb, s <+: x := by
  unfold beginsB
  simp
theorem begins_mem {Lb P : List Pth} {ns : List (Nat × Int)} (h : Full Lb P ns) {s : Pth} (hs : s ≠ []) : beginsB Lb s = decide (s ∈ P) := by
  rw [Bool.eq_iff_iff, begins_iff, decide_eq_true_iff, h.mem]
  simp [hs]
theorem idx_isSome {P : List Pth} {q : Pth} : (idx P q).isSome = decide (q ∈ P) := by
  cases h : idx P q with
  | none => simp [idx_none.1 h]
  | some j => simp [List.mem_of_getElem? (idx_get h)]
theorem wordR_find {Lb P : List Pth} {ns : List (Nat × Int)} (h : Full Lb P ns) (hl : ns.length = P.length) {j : Nat} {p : Pth} (hp : P[j]? = some p) :
    (if 0 ≤ (j : Int) ∧ (j : Int) < P.length ∧ (ns.getD ((j : Int)).toNat (0, -1)).2 ≠ -1 then ((ns.getD ((j : Int)).toNat (0, -1)).2, true) else ((0 : Int), false)) = findR Lb p := by
  have hj := (List.getElem?_eq_some_iff.1 hp).1
  obtain ⟨x, hx⟩ : ∃ x, ns[j]? = some x := ⟨_, List.getElem?_eq_getElem (by omega)⟩
  have hgd : ns.getD ((j : Int)).toNat (0, -1) = x := by rw [show ((j : Int)).toNat = j from rfl, List.getD_eq_getElem?_getD, hx]; rfl
  rw [hgd]
  unfold findR
  rcases ends_word h hp hx with ⟨h1, h2⟩ | ⟨m, h1, h2⟩
  · rw [h2, if_neg (fun e => e.2.2 h1)]
  · rw [h2, if_pos ⟨by omega, by omega, by omega⟩, h1]
end Go.Proofs.Ythhlpbopbabojaa
