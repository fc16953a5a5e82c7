/-
  Strings and bytes in a walk: what is read of a string, what '==' on strings comes to, bytes as cells.
-/
import Derived.Test.YthhlpbopbabojaaUtil
import Derived.Laws.BytesString
import Derived.Laws.IdiomStrings
import Derived.Lib.UnsafeStr
namespace Go.Proofs.Ythhlpbopbabojaa
open Go.RowKit

/-- the bytes of a string; the string of some bytes -/
def bs (s : ByteArray) : List UInt8 := s.data.toList
def str (l : List UInt8) : ByteArray := ⟨l.toArray⟩
theorem bs_str (l : List UInt8) : bs (str l) = l := rfl
theorem str_bs (s : ByteArray) : str (bs s) = s := by cases s; simp [str, bs]
theorem str_inj {a b : List UInt8} (h : str a = str b) : a = b := by
  have := congrArg bs h
  rwa [bs_str, bs_str] at this
theorem bs_inj {a b : ByteArray} (h : bs a = bs b) : a = b := by rw [← str_bs a, ← str_bs b, h]
theorem size_bs (s : ByteArray) : s.size = (bs s).length := by cases s; simp [bs, ByteArray.size]
theorem size_str (l : List UInt8) : (str l).size = l.length := by simp [str, ByteArray.size]
theorem bs_append (a b : ByteArray) : bs (a ++ b) = bs a ++ bs b := by simp [bs]
theorem str_append (a b : List UInt8) : str (a ++ b) = str a ++ str b := bs_inj (by rw [bs_append, bs_str, bs_str, bs_str])
theorem bs_extract (s : ByteArray) (i j : Nat) : bs (s.extract i j) = ((bs s).take j).drop i := by
  simp [bs, ByteArray.data_extract, Array.toList_extract, List.extract_eq_take_drop, List.drop_take]
theorem str_beq (a b : List UInt8) : ((str a).toList == (str b).toList) = decide (a = b) := by
  by_cases h : a = b
  · rw [h]; simp
  · rw [str_beq_ne (fun e => h (str_inj e))]; simp [h]

section
variable {P : Program}
/-- 's[k]' -/
theorem run_index_at {t : TypeId} {s : ByteArray} {k : Nat} {c : UInt8} (ht : P.underlying t = some .string) (h : (bs s)[k]? = some c) (W : World) :
    (Instr.index t (.string s) (.int .i64 (k : Int))).run P W = .ok (.int .u8 (c.toNat : Int)) W := by
  have hk : k < s.size := by rw [size_bs]; exact (List.getElem?_eq_some_iff.1 h).1
  rw [run_index_string W t s .i64 k ht, dif_pos ⟨by omega, by omega⟩]
  have hc : s[((k : Int)).toNat]'(by omega) = c := by
    have h1 := (List.getElem?_eq_some_iff.1 h).2
    rw [← h1]
    rfl
  rw [hc]
end

theorem byte_ne {c d : UInt8} (h : c ≠ d) : ((c.toNat : Int) == (d.toNat : Int)) = false := by
  have : c.toNat ≠ d.toNat := fun e => h (UInt8.toNat_inj.1 e)
  simp
  omega
theorem byte_bne {c d : UInt8} (h : c ≠ d) : ((c.toNat : Int) != (d.toNat : Int)) = true := by
  have : c.toNat ≠ d.toNat := fun e => h (UInt8.toNat_inj.1 e)
  simp
  omega
theorem byte_lt (c : UInt8) : (c.toNat : Int) < 256 := by have := c.toNat_lt; omega

/-- bytes as cells -/
def cellsOf (l : List UInt8) : List Value := l.map fun b => Value.int .u8 (b.toNat : Int)
theorem cellsOf_one (l : List UInt8) : ∀ u ∈ cellsOf l, u.oneCell' = true := by
  intro u hu
  obtain ⟨b, _, rfl⟩ := List.mem_map.1 hu
  rfl
theorem cellsOf_append (a b : List UInt8) : cellsOf (a ++ b) = cellsOf a ++ cellsOf b := by simp [cellsOf]
theorem cellsOf_len (l : List UInt8) : (cellsOf l).length = l.length := by simp [cellsOf]

/-- 'string(b)', b whatever slice of bytes -/
theorem run_string_of {P : Program} {src dst e : TypeId} {A : Option Addr} {B n c : Nat} {l : List UInt8} (hs : P.underlying src = some (.slice e)) (he : P.underlying e = some (.int .u8)) (hd : P.underlying dst = some .string)
    {W : World} (hr : Reads W B 1 A n (cellsOf l)) : (convert src dst (.slice A n c)).run P W = .ok (.string (str l)) W := by
  have hl : l.length = n := by have := hr.1; rw [cellsOf_len] at this; omega
  subst hl
  rcases A with _ | a
  · have h0 : l = [] := by
      rcases Nat.eq_zero_or_pos l.length with h | h
      · exact List.eq_nil_of_length_eq_zero h
      · obtain ⟨ad, h, _⟩ := hr.2 h
        cases h
    subst h0
    rw [run_convert_bytes_string W src dst e none _ c hs he hd]
    rfl
  · refine run_convert_bytes_back W src dst e a c l hs he hd fun j hj => ?_
    obtain ⟨ad, h, _, hc⟩ := hr.2 (by omega)
    injection h with h
    subst h
    exact hc j _ (by rw [cellsOf, List.getElem?_map, List.getElem?_eq_getElem hj]; rfl)
end Go.Proofs.Ythhlpbopbabojaa
