/-
  A token as text: plain.
-/
import Derived.Test.YtblbcojkjknfdaaDoorEscP
import Derived.Test.YtblbcojkjknfdaaDoorFew
import Derived.Test.YtblbcojkjknfdaaDoorStr
namespace Go.Proofs.YtblbcojkjknfdaaDoor

/-- an attribute, attributes, a token as text -/
def atS (a : Atr) : Bys := [32] ++ bs a.1 ++ [61, 34] ++ escB true (bs a.2) ++ [34]
def atsS (l : List Atr) : Bys := l.flatMap atS
def oneB (t : Tok) : Bys := if t.kind = 1 then escB false (bs t.data) else if t.kind = 3 then [60, 47] ++ bs t.name ++ [62] else if t.kind = 2 then [60] ++ bs t.name ++ atsS t.ats ++ [62] else []
/-- tokens as text -/
def allB (l : List Tok) : Bys := l.flatMap oneB
/-- the pieces of an attribute, of a tag -/
def attrP (a : Atr) : List ByteArray := [⟨#[32]⟩, a.1, ⟨#[61, 34]⟩, str (escB true (bs a.2)), ⟨#[34]⟩]
def onePs (nm : ByteArray) (l : List Atr) : List ByteArray := [⟨#[60]⟩, nm] ++ l.flatMap attrP
theorem onePs_len (nm : ByteArray) (l : List Atr) : (onePs nm l).length = 2 + 5 * l.length := by
  unfold onePs
  rw [List.length_append]
  have : (l.flatMap attrP).length = 5 * l.length := by
    induction l with
    | nil => rfl
    | cons a l ih => rw [List.flatMap_cons, List.length_append, ih, List.length_cons]; simp [attrP]; omega
  rw [this]
  rfl
theorem onePs_take (nm : ByteArray) {l : List Atr} {k : Nat} {a : Atr} (h : l[k]? = some a) : onePs nm (l.take (k + 1)) = onePs nm (l.take k) ++ attrP a := by
  obtain ⟨hk, rfl⟩ := List.getElem?_eq_some_iff.1 h
  unfold onePs
  rw [List.take_succ_eq_append_getElem hk, List.flatMap_append, List.flatMap_singleton, List.append_assoc]
def flat (l : List ByteArray) : Bys := (l.map bs).flatten
theorem flat_append (a b : List ByteArray) : flat (a ++ b) = flat a ++ flat b := by simp [flat]
theorem flat_attr (a : Atr) : flat (attrP a) = atS a := by simp [flat, attrP, atS, bs_str]; rfl
theorem flat_one (nm : ByteArray) (l : List Atr) : flat (onePs nm l ++ [⟨#[62]⟩]) = [60] ++ bs nm ++ atsS l ++ [62] := by
  have h : flat (l.flatMap attrP) = atsS l := by
    induction l with
    | nil => rfl
    | cons a l ih =>
      rw [List.flatMap_cons, flat_append, ih, flat_attr]
      rfl
  unfold onePs
  rw [flat_append, flat_append, h]
  simp [flat]
  rfl
theorem flat_end (nm : ByteArray) : flat [⟨#[60, 47]⟩, nm, ⟨#[62]⟩] = [60, 47] ++ bs nm ++ [62] := by simp [flat]; rfl
theorem atS_len {a : Atr} (h : a.1.size ≤ 3000 ∧ a.2.size ≤ 3000) : (atS a).length ≤ 22000 := by
  have h1 := escB_len true (bs a.2)
  rw [← size_bs] at h1
  have h2 := size_bs a.1
  unfold atS
  simp
  omega
theorem atsS_len {l : List Atr} (h : ∀ a ∈ l, a.1.size ≤ 3000 ∧ a.2.size ≤ 3000) : (atsS l).length ≤ 22000 * l.length := by
  induction l with
  | nil => simp [atsS]
  | cons a l ih =>
    have h1 := atS_len (h a (by simp))
    have h2 := ih fun b hb => h b (by simp [hb])
    unfold atsS at *
    rw [List.flatMap_cons, List.length_append, List.length_cons]
    omega
theorem atsS_take {l : List Atr} {k : Nat} {a : Atr} (h : l[k]? = some a) : atsS (l.take (k + 1)) = atsS (l.take k) ++ atS a := by
  obtain ⟨hk, rfl⟩ := List.getElem?_eq_some_iff.1 h
  unfold atsS
  rw [List.take_succ_eq_append_getElem hk, List.flatMap_append, List.flatMap_singleton]
theorem oneB_len {t : Tok} (h : SmallTok t) (hl : t.ats.length = t.n) : (oneB t).length ≤ 3000000 := by
  have h1 := escB_len false (bs t.data)
  rw [← size_bs] at h1
  have h2 := atsS_len h.ats
  have h3 := h.name
  have h4 := h.data
  have h5 := h.n
  have h6 := size_bs t.name
  unfold oneB
  split
  · omega
  split
  · simp; omega
  split
  · simp; omega
  · simp
theorem allB_take {l : List Tok} {k : Nat} {t : Tok} (h : l[k]? = some t) : allB (l.take (k + 1)) = allB (l.take k) ++ oneB t := by
  obtain ⟨hk, rfl⟩ := List.getElem?_eq_some_iff.1 h
  unfold allB
  rw [List.take_succ_eq_append_getElem hk, List.flatMap_append, List.flatMap_singleton]
end Go.Proofs.YtblbcojkjknfdaaDoor
