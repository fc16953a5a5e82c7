/-
  What stays: plain facts on lowered and trimmed texts, and words.
-/
import Derived.Test.YticofnfjebifgaaFldP
import Derived.Test.YticofnfjebifgaaLower
import Derived.Test.YticofnfjebifgaaWord
namespace Go.Proofs.Yticofnfjebifgaa

theorem lower_lower (l : List UInt8) : lower (lower l) = lower l := by
  unfold lower
  rw [List.map_map]
  refine List.map_congr_left fun c _ => ?_
  have := all_bytes (fun c => lwB (lwB c) == lwB c) (by decide +kernel) c
  simpa using this
theorem trimL_of_head {l : List UInt8} (h : ∀ c, l[0]? = some c → spB c = false) : trimL l = l := by
  cases l with
  | nil => rfl
  | cons c l => exact trimL_no _ _ (h c rfl)
theorem trimR_trimR (l : List UInt8) : trimR (trimR l) = trimR l := by
  generalize hn : l.length = n
  induction n generalizing l with
  | zero =>
    obtain rfl : l = [] := List.eq_nil_of_length_eq_zero hn
    rfl
  | succ n ih =>
    rcases snoc_cases l with rfl | ⟨m, c, rfl⟩
    · rfl
    · cases h : spB c with
      | true => rw [trimR_sp _ _ h, ih m (by simpa using hn)]
      | false => rw [trimR_no _ _ h, trimR_no _ _ h]
theorem trim_trim (l : List UInt8) : trim (trim l) = trim l := by
  have h1 : trimL (trim l) = trim l := trimL_of_head (trim_head l)
  rw [trim, h1]
  unfold trim
  exact trimR_trimR _
theorem flds_flat (cur l : List UInt8) : (flds cur l).flatten = cur ++ l.filter fun c => !spB c := by
  induction l generalizing cur with
  | nil =>
    rw [flds]
    split
    · simp [*]
    · simp
  | cons c l ih =>
    cases h : spB c with
    | true =>
      rw [flds_sp h]
      split
      · rw [ih]; simp [*]
      · rw [List.flatten_cons, ih]; simp [h]
    | false => rw [flds_no h, ih]; simp [h]
theorem fields_flat (l : List UInt8) : (fields l).flatten = l.filter fun c => !spB c := by unfold fields; rw [flds_flat]; rfl
theorem flds_ne (cur l x : List UInt8) (h : x ∈ flds cur l) : x ≠ [] := by
  induction l generalizing cur with
  | nil =>
    rw [flds] at h
    split at h
    · cases h
    · rw [List.mem_singleton] at h
      subst h
      assumption
  | cons c l ih =>
    cases hc : spB c with
    | true =>
      rw [flds_sp hc] at h
      split at h
      · exact ih _ h
      · rcases List.mem_cons.1 h with rfl | h
        · assumption
        · exact ih _ h
    | false => rw [flds_no hc] at h; exact ih _ h
theorem fields_ne {l x : List UInt8} (h : x ∈ fields l) : x ≠ [] := flds_ne [] l x h

/-! ### words -/
theorem wc_sp {c : UInt8} (h : wcB c = true) : spB c = false := by
  have := all_bytes (fun c => !wcB c || !spB c) (by decide +kernel) c
  simpa [h] using this
theorem wc_lw {c : UInt8} (h : wcB c = true) : lwB c = c := by
  have := all_bytes (fun c => !wcB c || (lwB c == c)) (by decide +kernel) c
  simpa [h] using this
theorem word_all {l : List UInt8} (h : wordB l = true) : ∀ c ∈ l, wcB c = true := by
  unfold wordB at h
  simp at h
  intro c hc
  exact h.2 c hc
theorem word_len {l : List UInt8} (h : wordB l = true) : 1 ≤ l.length ∧ l.length ≤ 64 := by
  unfold wordB at h
  simp at h
  omega
theorem word_ne {l : List UInt8} (h : wordB l = true) : l ≠ [] := by
  have := (word_len h).1
  intro e
  subst e
  simp at this
theorem word_lower {l : List UInt8} (h : wordB l = true) : lower l = l := by
  unfold lower
  have := List.map_congr_left (f := lwB) (g := id) (l := l) fun c hc => wc_lw (word_all h c hc)
  rw [this, List.map_id]
theorem word_fields {l : List UInt8} (h : wordB l = true) : fields l = [l] := by
  have := fields_word l [] (fun c hc => wc_sp (word_all h c hc)) (word_ne h) (by simp)
  rw [List.append_nil] at this
  rw [this]
  rfl
theorem trimR_of_last {l : List UInt8} (h : ∀ c ∈ l, spB c = false) : trimR l = l := by
  rcases snoc_cases l with rfl | ⟨m, c, rfl⟩
  · rfl
  · exact trimR_no _ _ (h c (by simp))
theorem word_trim {l : List UInt8} (h : wordB l = true) : trim l = l := by
  have h1 : ∀ c ∈ l, spB c = false := fun c hc => wc_sp (word_all h c hc)
  have h2 : trimL l = l := trimL_of_head fun c hc => h1 c (List.mem_of_getElem? hc)
  rw [trim, h2, trimR_of_last h1]
theorem word_both {a b : List UInt8} (ha : wordB a = true) (hb : wordB b = true) : wordB (a ++ [45] ++ b) = decide ((a ++ [45] ++ b).length ≤ 64) := by
  have h1 := word_all ha
  have h2 := word_all hb
  have h45 : wcB 45 = true := by decide +kernel
  have hall : (a ++ [45] ++ b).all wcB = true := by
    rw [List.all_eq_true]
    intro c hc
    simp at hc
    rcases hc with hc | rfl | hc
    · exact h1 c hc
    · exact h45
    · exact h2 c hc
  have hhd : (a ++ [45] ++ b).head?.any smB = true := by
    have := word_ne ha
    cases a with
    | nil => exact (this rfl).elim
    | cons c a =>
      unfold wordB at ha
      simp at ha
      simp [ha]
  unfold wordB
  rw [hall, hhd]
  simp
  omega
theorem word_hyphen (l : List UInt8) : wordB ([45] ++ l) = false := by
  have : smB 45 = false := by decide +kernel
  simp [wordB, this]
theorem word_seven (l : List UInt8) : wordB ([55] ++ l) = false := by
  have : smB 55 = false := by decide +kernel
  simp [wordB, this]
/-- words, a space behind each -/
def rowOf (L : List (List UInt8)) (c : UInt8) : List UInt8 := (L.map fun x => x ++ [c]).flatten
theorem rowOf_fields (L : List (List UInt8)) (c : UInt8) (hc : spB c = true) (h : ∀ x ∈ L, wordB x = true) : fields (rowOf L c) = L := by
  induction L with
  | nil => rfl
  | cons x L ih =>
    have hx := h x (by simp)
    have e1 : rowOf (x :: L) c = x ++ (c :: rowOf L c) := by simp [rowOf]
    rw [e1, fields_word _ _ (fun d hd => wc_sp (word_all hx d hd)) (word_ne hx) (by intro d hd; simp at hd; rw [← hd]; exact hc)]
    rw [fields, flds_sp hc, if_pos rfl]
    exact congrArg _ (ih fun y hy => h y (by simp [hy]))
theorem rowOf_snoc (L : List (List UInt8)) (x : List UInt8) (c : UInt8) : rowOf (L ++ [x]) c = rowOf L c ++ x ++ [c] := by simp [rowOf]
end Go.Proofs.Yticofnfjebifgaa
