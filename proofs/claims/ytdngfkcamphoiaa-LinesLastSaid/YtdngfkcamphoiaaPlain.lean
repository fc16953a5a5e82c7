/-
  What the lines of a text are, in plain Lean: wrl (what more text makes), crOf (was the last byte a CR?), place.
-/
import Derived.Test.YtdngfkcamphoiaaStr
namespace Go.Proofs.Ytdngfkcamphoiaa

def put1 (cr : Bool) (c : UInt8) : List UInt8 := if c = 10 ∧ cr = true then [] else [if c = 13 then 10 else c]
def wrl (cr : Bool) : List UInt8 → List UInt8
  | [] => []
  | c :: t => put1 cr c ++ wrl (c == 13) t
def crOf (cr : Bool) : List UInt8 → Bool
  | [] => cr
  | c :: t => crOf (c == 13) t
theorem wrl_append (a b : List UInt8) : ∀ cr, wrl cr (a ++ b) = wrl cr a ++ wrl (crOf cr a) b := by
  induction a with
  | nil => intro cr; rfl
  | cons c t ih =>
    intro cr
    rw [List.cons_append, wrl, wrl, ih, crOf, List.append_assoc]
theorem crOf_append (a b : List UInt8) : ∀ cr, crOf cr (a ++ b) = crOf (crOf cr a) b := by
  induction a with
  | nil => intro cr; rfl
  | cons c t ih =>
    intro cr
    rw [List.cons_append, crOf, crOf, ih]
theorem wrl_snoc (cr : Bool) (a : List UInt8) (c : UInt8) : wrl cr (a ++ [c]) = wrl cr a ++ put1 (crOf cr a) c := by
  rw [wrl_append]
  simp [wrl]
theorem crOf_snoc (cr : Bool) (a : List UInt8) (c : UInt8) : crOf cr (a ++ [c]) = (c == 13) := by
  rw [crOf_append]
  rfl
theorem put1_len (cr : Bool) (c : UInt8) : (put1 cr c).length ≤ 1 := by
  unfold put1
  split <;> simp
theorem wrl_len (l : List UInt8) : ∀ cr, (wrl cr l).length ≤ l.length := by
  induction l with
  | nil => intro cr; simp [wrl]
  | cons c t ih =>
    intro cr
    rw [wrl, List.length_append, List.length_cons]
    have := ih (c == 13)
    have := put1_len cr c
    omega
/-- no CR is told -/
theorem wrl_noCr (l : List UInt8) : ∀ cr, (13 : UInt8) ∉ wrl cr l := by
  induction l with
  | nil => intro cr; simp [wrl]
  | cons c t ih =>
    intro cr
    rw [wrl, List.mem_append]
    rintro (h | h)
    · unfold put1 at h
      split at h
      · simp at h
      · by_cases hc : c = 13
        · rw [if_pos hc] at h
          simp at h
        · rw [if_neg hc] at h
          simp at h
          exact hc h.symm
    · exact ih _ h
/-- what has no CR is told as it is -/
theorem wrl_same (l : List UInt8) (h : (13 : UInt8) ∉ l) : wrl false l = l := by
  induction l with
  | nil => rfl
  | cons c t ih =>
    have hc : c ≠ 13 := fun e => h (by rw [e]; exact List.mem_cons_self)
    have h1 : (c == 13) = false := by simpa using hc
    rw [wrl, put1, if_neg (by simp), if_neg hc, h1, ih (fun e => h (List.mem_cons_of_mem _ e))]
    rfl
theorem wrl_not10 (l : List UInt8) (cr : Bool) (h : l.head? ≠ some 10) : wrl cr l = wrl false l := by
  cases l with
  | nil => rfl
  | cons c t =>
    have hc : c ≠ 10 := fun e => h (by rw [e]; rfl)
    rw [wrl, wrl]
    simp [put1, hc]
theorem crOf_last (l : List UInt8) (cr : Bool) (c : UInt8) (h : l.getLast? = some c) : crOf cr l = (c == 13) := by
  rcases List.eq_nil_or_concat l with rfl | ⟨a, d, rfl⟩
  · simp at h
  · simp at h
    subst h
    rw [List.concat_eq_append, crOf_snoc]

/-! ### places -/
def isB (c : UInt8) : Bool := decide (c.toNat < 128) || decide (191 < c.toNat)
/-- does a rune begin at a place, or the text end? -/
def beg (l : List UInt8) (j : Nat) : Bool := match l[j]? with
  | none => true
  | some c => isB c
def plStep (l : List UInt8) (k : Nat) (p : Nat × Nat) : Nat × Nat :=
  if l[k]? = some 10 then (p.1 + 1, 1) else if beg l (k + 1) then (p.1, p.2 + 1) else p
def pl (l : List UInt8) : Nat → Nat × Nat
  | 0 => (1, 1)
  | k + 1 => plStep l k (pl l k)
theorem pl_le (l : List UInt8) (k : Nat) : 1 ≤ (pl l k).1 ∧ 1 ≤ (pl l k).2 ∧ (pl l k).1 ≤ k + 1 ∧ (pl l k).2 ≤ k + 1 := by
  induction k with
  | zero => exact ⟨Nat.le_refl _, Nat.le_refl _, Nat.le_refl _, Nat.le_refl _⟩
  | succ k ih =>
    rw [pl, plStep]
    split
    · dsimp only; omega
    · split
      · dsimp only; omega
      · omega
theorem pl_line (l : List UInt8) (k : Nat) (hk : k ≤ l.length) : (pl l k).1 = 1 + (l.take k).count 10 := by
  induction k with
  | zero => rfl
  | succ k ih =>
    have ih := ih (by omega)
    obtain ⟨c, hc⟩ : ∃ c, l[k]? = some c := ⟨l[k]'(by omega), List.getElem?_eq_getElem _⟩
    have e : (l.take (k + 1)).count 10 = (l.take k).count 10 + if c = 10 then 1 else 0 := by
      rw [List.take_add_one, hc, List.count_append]
      by_cases h : c = 10 <;> simp [h]
    rw [pl, plStep, hc, e]
    by_cases h : c = 10
    · rw [if_pos (by rw [h]), if_pos h]
      dsimp only
      omega
    · rw [if_neg (fun e => h (by injection e)), if_neg h]
      split
      · dsimp only; omega
      · omega
end Go.Proofs.Ytdngfkcamphoiaa
