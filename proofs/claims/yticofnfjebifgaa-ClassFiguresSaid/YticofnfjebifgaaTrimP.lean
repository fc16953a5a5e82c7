/-
  Trimmed texts, plain.
-/
import Derived.Test.YticofnfjebifgaaByte
import Derived.Lib.Strings
namespace Go.Proofs.Yticofnfjebifgaa

def trimL (l : List UInt8) : List UInt8 := l.dropWhile spB
def trimR (l : List UInt8) : List UInt8 := (l.reverse.dropWhile spB).reverse
def trim (l : List UInt8) : List UInt8 := trimR (trimL l)

theorem trimL_nil : trimL [] = [] := rfl
theorem trimL_sp (c : UInt8) (l : List UInt8) (h : spB c = true) : trimL (c :: l) = trimL l := by simp [trimL, h]
theorem trimL_no (c : UInt8) (l : List UInt8) (h : spB c = false) : trimL (c :: l) = c :: l := by simp [trimL, h]
theorem trimR_nil : trimR [] = [] := rfl
theorem trimR_sp (c : UInt8) (l : List UInt8) (h : spB c = true) : trimR (l ++ [c]) = trimR l := by simp [trimR, h]
theorem trimR_no (c : UInt8) (l : List UInt8) (h : spB c = false) : trimR (l ++ [c]) = l ++ [c] := by simp [trimR, h]
theorem drop_at {l : List UInt8} {k : Nat} {c : UInt8} (h : l[k]? = some c) : l.drop k = c :: l.drop (k + 1) := by
  obtain ⟨hk, rfl⟩ := List.getElem?_eq_some_iff.1 h
  exact List.drop_eq_getElem_cons hk
theorem take_at {l : List UInt8} {k : Nat} {c : UInt8} (h : l[k]? = some c) : l.take (k + 1) = l.take k ++ [c] := by
  obtain ⟨hk, rfl⟩ := List.getElem?_eq_some_iff.1 h
  rw [List.take_succ_eq_append_getElem hk]
/-- l without what is ahead of i and behind j -/
def mid (l : List UInt8) (i j : Nat) : List UInt8 := (l.take j).drop i
theorem mid_snoc {l : List UInt8} {i j : Nat} {c : UInt8} (h : l[j]? = some c) (hij : i ≤ j) : mid l i (j + 1) = mid l i j ++ [c] := by
  have hj := (List.getElem?_eq_some_iff.1 h).1
  unfold mid
  rw [take_at h, List.drop_append_of_le_length (by rw [List.length_take]; omega)]
theorem mid_none (l : List UInt8) (i : Nat) : mid l i i = [] := by
  unfold mid
  rw [List.drop_eq_nil_of_le]
  rw [List.length_take]
  omega
theorem mid_all (l : List UInt8) (i : Nat) : mid l i l.length = l.drop i := by
  unfold mid
  rw [List.take_length]
theorem str_mid (s : ByteArray) (i j : Nat) : s.extract i j = str (mid (bs s) i j) := bs_inj (by rw [bs_extract, bs_str]; rfl)
theorem byte_at (s : ByteArray) {k : Nat} (h : k < s.size) : ∃ c, (bs s)[k]? = some c := ⟨_, List.getElem?_eq_getElem (by rw [← size_bs]; exact h)⟩
theorem ret_str {a b : ByteArray} (h : a = b) : Ending.returned (.string a) = .returned (.string b) := by rw [h]

theorem empty_of {t : ByteArray} (h : t.size = 0) : t.toList = [] ∧ t.toList.isEmpty = true ∧ (!t.toList.isEmpty) = false := by
  have h1 : t.toList = [] := by
    rw [Lib.toList_data]
    exact List.eq_nil_of_length_eq_zero (by simpa using h)
  simp [h1]
theorem full_of {t : ByteArray} (h : ¬ t.size = 0) : ¬ t.toList = [] ∧ t.toList.isEmpty = false ∧ (!t.toList.isEmpty) = true := by
  have h1 : ¬ t.toList = [] := by
    rw [Lib.toList_data]
    intro h2
    apply h
    have := congrArg List.length h2
    simpa using this
  simp [h1]
theorem empty_bs {t : ByteArray} (h : t.size = 0) : bs t = [] := List.eq_nil_of_length_eq_zero (by rw [← size_bs]; exact h)
end Go.Proofs.Yticofnfjebifgaa
