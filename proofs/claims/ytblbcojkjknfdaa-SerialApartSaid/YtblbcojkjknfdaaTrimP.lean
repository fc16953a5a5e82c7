/-
  Small words on texts, plain.
-/
import Derived.Test.YtblbcojkjknfdaaByte
import Derived.Lib.Strings
namespace Go.Proofs.Ytblbcojkjknfdaa

theorem drop_at {l : List UInt8} {k : Nat} {c : UInt8} (h : l[k]? = some c) : l.drop k = c :: l.drop (k + 1) := by
  obtain ⟨hk, rfl⟩ := List.getElem?_eq_some_iff.1 h
  exact List.drop_eq_getElem_cons hk
theorem take_at {l : List UInt8} {k : Nat} {c : UInt8} (h : l[k]? = some c) : l.take (k + 1) = l.take k ++ [c] := by
  obtain ⟨hk, rfl⟩ := List.getElem?_eq_some_iff.1 h
  rw [List.take_succ_eq_append_getElem hk]
theorem byte_at (s : ByteArray) {k : Nat} (h : k < s.size) : ∃ c, (bs s)[k]? = some c := ⟨_, List.getElem?_eq_getElem (by rw [← size_bs]; exact h)⟩
theorem ret_str {a b : ByteArray} (h : a = b) : Ending.returned (.string a) = .returned (.string b) := by rw [h]

theorem empty_of {t : ByteArray} (h : t.size = 0) : t.toList = [] ∧ t.toList.isEmpty = true ∧ (!t.toList.isEmpty) = false := by
  have h1 : t.toList = [] := by
    rw [Lib.toList_data]
    exact List.eq_nil_of_length_eq_zero (by simpa using h)
  simp [h1]
theorem full_of {t : ByteArray} (h : ¬ t.size = 0) : ¬ t.toList = [] ∧ t.toList.isEmpty = false ∧ (!t.toList.isEmpty) = true := by
  have h1 : ¬ t.toList = [] := by
    rw [Lib.toList_data]
    intro h2
    apply h
    have := congrArg List.length h2
    simpa using this
  simp [h1]
theorem empty_bs {t : ByteArray} (h : t.size = 0) : bs t = [] := List.eq_nil_of_length_eq_zero (by rw [← size_bs]; exact h)
end Go.Proofs.Ytblbcojkjknfdaa
