/-
  The words of a text, plain.
-/
import Derived.Test.YticofnfjebifgaaTrimP
namespace Go.Proofs.Yticofnfjebifgaa

/-- the words of l, behind cur, that is begun -/
def flds : List UInt8 → List UInt8 → List (List UInt8)
  | cur, [] => if cur = [] then [] else [cur]
  | cur, c :: l => if spB c then (if cur = [] then flds [] l else cur :: flds [] l) else flds (cur ++ [c]) l
def fields (l : List UInt8) : List (List UInt8) := flds [] l

theorem flds_sp {c : UInt8} (h : spB c = true) (cur l : List UInt8) : flds cur (c :: l) = if cur = [] then flds [] l else cur :: flds [] l := by rw [flds, if_pos h]
theorem flds_no {c : UInt8} (h : spB c = false) (cur l : List UInt8) : flds cur (c :: l) = flds (cur ++ [c]) l := by rw [flds, if_neg (by simp [h])]
theorem flds_trimL (l : List UInt8) : flds [] (trimL l) = flds [] l := by
  induction l with
  | nil => rfl
  | cons c l ih =>
    cases h : spB c with
    | true => rw [trimL_sp _ _ h, ih, flds_sp h, if_pos rfl]
    | false => rw [trimL_no _ _ h]
theorem flds_end {c : UInt8} (h : spB c = true) (cur l : List UInt8) : flds cur (l ++ [c]) = flds cur l := by
  induction l generalizing cur with
  | nil => rw [List.nil_append, flds_sp h]; rfl
  | cons d l ih =>
    rw [List.cons_append]
    cases hd : spB d with
    | true => rw [flds_sp hd, flds_sp hd, ih]
    | false => rw [flds_no hd, flds_no hd, ih]
theorem snoc_cases (l : List UInt8) : l = [] ∨ ∃ m c, l = m ++ [c] := by
  rcases List.eq_nil_or_concat l with h | ⟨m, c, h⟩
  · exact .inl h
  · exact .inr ⟨m, c, by simpa using h⟩
theorem flds_trimR (cur l : List UInt8) : flds cur (trimR l) = flds cur l := by
  generalize hn : l.length = n
  induction n generalizing l with
  | zero =>
    obtain rfl : l = [] := List.eq_nil_of_length_eq_zero hn
    rfl
  | succ n ih =>
    rcases snoc_cases l with rfl | ⟨m, c, rfl⟩
    · rfl
    · cases h : spB c with
      | true => rw [trimR_sp _ _ h, flds_end h, ih m (by simpa using hn)]
      | false => rw [trimR_no _ _ h]
theorem fields_trim (l : List UInt8) : fields (trim l) = fields l := by unfold fields trim; rw [flds_trimR, flds_trimL]
theorem flds_word (w cur l : List UInt8) (hw : ∀ c ∈ w, spB c = false) : flds cur (w ++ l) = flds (cur ++ w) l := by
  induction w generalizing cur with
  | nil => simp
  | cons c w ih =>
    rw [List.cons_append, flds_no (hw c (by simp)), ih _ (fun d hd => hw d (by simp [hd])), List.append_assoc]
    rfl
/-- a word, then nothing or a space -/
theorem fields_word (w l : List UInt8) (hw : ∀ c ∈ w, spB c = false) (hn : w ≠ []) (hl : ∀ c, l[0]? = some c → spB c = true) : fields (w ++ l) = w :: fields l := by
  unfold fields
  rw [flds_word _ _ _ hw, List.nil_append]
  cases l with
  | nil => simp [flds, hn]
  | cons c l =>
    have hc := hl c rfl
    rw [flds_sp hc, if_neg hn, flds_sp hc, if_pos rfl]
theorem flds_len (cur l : List UInt8) : (flds cur l).length ≤ cur.length + l.length := by
  induction l generalizing cur with
  | nil =>
    rw [flds]
    split
    · simp
    · have : 0 < cur.length := List.length_pos_iff.2 (by assumption)
      simp; omega
  | cons c l ih =>
    cases h : spB c with
    | true =>
      rw [flds_sp h]
      have := ih []
      split
      · simp at this ⊢; omega
      · have : 0 < cur.length := List.length_pos_iff.2 (by assumption)
        simp at *; omega
    | false =>
      rw [flds_no h]
      have := ih (cur ++ [c])
      simp at *; omega
theorem fields_len (l : List UInt8) : (fields l).length ≤ l.length := by have := flds_len [] l; unfold fields; simpa using this
/-- what is trimmed begins with no space -/
theorem trim_head (l : List UInt8) (c : UInt8) (h : (trim l)[0]? = some c) : spB c = false := by
  have hL : ∀ m : List UInt8, ∀ d, (trimL m)[0]? = some d → spB d = false := by
    intro m d hd
    induction m with
    | nil => simp [trimL] at hd
    | cons e m ih =>
      cases he : spB e with
      | true => rw [trimL_sp _ _ he] at hd; exact ih hd
      | false => rw [trimL_no _ _ he] at hd; simp at hd; rw [← hd, he]
  have hR : ∀ (n : Nat) (m : List UInt8), m.length = n → ∀ d, (trimR m)[0]? = some d → m[0]? = some d := by
    intro n
    induction n with
    | zero => intro m hm d hd; obtain rfl := List.eq_nil_of_length_eq_zero hm; simp [trimR] at hd
    | succ n ih =>
      intro m hm d hd
      rcases snoc_cases m with rfl | ⟨q, e, rfl⟩
      · simp at hm
      · cases he : spB e with
        | true =>
          rw [trimR_sp _ _ he] at hd
          have := ih q (by simpa using hm) d hd
          rw [List.getElem?_append_left (List.getElem?_eq_some_iff.1 this).1]
          exact this
        | false => rwa [trimR_no _ _ he] at hd
  exact hL l c (hR _ _ rfl c h)
theorem trim_len (l : List UInt8) : (trim l).length ≤ l.length := by
  unfold trim trimR trimL
  have h1 := (List.dropWhile_sublist (p := spB) (l := (l.dropWhile spB).reverse)).length_le
  have h2 := (List.dropWhile_sublist (p := spB) (l := l)).length_le
  simp at *
  omega
end Go.Proofs.Yticofnfjebifgaa
