/-
  Plain tokens: plain. scan.Raw, walked.
-/
import Derived.Test.YtblbcojkjknfdaaDoorOneP
import Derived.Test.YtblbcojkjknfdaaDoorWord
import Derived.Lib.IndexLaws
import Derived.Maps.OwnSet
import Derived.Test.YtblbcojkjknfdaaDoorLay
import Derived.Maps.Own
import Derived.Deep.QuietTactic
import Derived.BigQuiet
namespace Go.Proofs.YtblbcojkjknfdaaDoor

def nulB (l : Bys) : Bool := decide ((0 : UInt8) ∈ l)
theorem nul_index (l : Bys) : decide (0 ≤ Lib.indexByte l 0) = nulB l := by
  unfold nulB
  apply decide_eq_decide.2
  constructor
  · intro h
    obtain ⟨o, ho⟩ := Int.eq_ofNat_of_zero_le h
    exact List.mem_of_getElem? (Lib.indexByte_some (by rw [ho])).1
  · intro h
    apply Classical.byContradiction
    intro hn
    have h1 := Lib.indexByte_ge l 0
    obtain ⟨k, hk⟩ := List.getElem?_of_mem h
    exact Lib.indexByte_none (by omega) k hk
/-- an attribute that may not be -/
def oddA (a : Atr) : Bool := !wordB (bs a.1) || nulB (bs a.2)
def namesA (l : List Atr) : List Bys := l.map fun a => bs a.1
def fineB (l : List Atr) : Bool := decide ((namesA l).Nodup) && !l.any oddA
/-- what a tag's name says of what is behind it -/
def rawZ (s : ByteArray) : Int :=
  if (s.toList == [116, 105, 116, 108, 101]) = true then 1 else if (s.toList == [116, 101, 120, 116, 97, 114, 101, 97]) = true then 1 else if (s.toList == [115, 99, 114, 105, 112, 116]) = true then 2 else if (s.toList == [115, 116, 121, 108, 101]) = true then 2
  else if (s.toList == [120, 109, 112]) = true then 2 else if (s.toList == [105, 102, 114, 97, 109, 101]) = true then 2 else if (s.toList == [110, 111, 101, 109, 98, 101, 100]) = true then 2 else if (s.toList == [110, 111, 102, 114, 97, 109, 101, 115]) = true then 2
  else if (s.toList == [112, 108, 97, 105, 110, 116, 101, 120, 116]) = true then 3 else 0
def noB (s : ByteArray) : Bool := decide (s.size = 0)
def plainB (t : Tok) : Bool :=
  if t.kind = 1 then !noB t.data && noB t.name && decide (t.n = 0) && !t.self
  else if t.kind = 2 then wordB (bs t.name) && decide (rawZ t.name = 0) && noB t.data && !t.self && fineB t.ats
  else if t.kind = 3 then wordB (bs t.name) && noB t.data && decide (t.n = 0) && !t.self else false
theorem namesA_take {l : List Atr} {k : Nat} {a : Atr} (h : l[k]? = some a) : namesA (l.take (k + 1)) = namesA (l.take k) ++ [bs a.1] := by
  obtain ⟨hk, rfl⟩ := List.getElem?_eq_some_iff.1 h
  unfold namesA
  rw [List.take_succ_eq_append_getElem hk, List.map_append]
  rfl
theorem nodup_snoc {l : List Bys} {x : Bys} : (l ++ [x]).Nodup ↔ l.Nodup ∧ x ∉ l := by
  rw [List.nodup_append]
  constructor
  · rintro ⟨h1, _, h2⟩
    exact ⟨h1, fun h => h2 x h x (by simp) rfl⟩
  · rintro ⟨h1, h2⟩
    refine ⟨h1, by simp, fun a ha b hb => ?_⟩
    rw [List.mem_singleton.1 hb]
    rintro rfl
    exact h2 ha
theorem pany_take {l : List Atr} {k : Nat} {a : Atr} (h : l[k]? = some a) : (l.take (k + 1)).any oddA = ((l.take k).any oddA || oddA a) := by
  obtain ⟨hk, rfl⟩ := List.getElem?_eq_some_iff.1 h
  rw [List.take_succ_eq_append_getElem hk, List.any_append]
  simp
theorem any_yes {l : List Atr} {k : Nat} {a : Atr} (h : l[k]? = some a) (ho : oddA a = true) : l.any oddA = true := List.any_eq_true.2 ⟨a, List.mem_of_getElem? h, ho⟩

/-! ### names noted in a map -/
open Go.Maps in
/-- the map D holds the names xs, one by one -/
structure Noted (D : DataW Unit) (xs : List Bys) : Prop where
  has : ∀ x : Bys, Maps.has D (.string x) = decide (x ∈ xs)
  le : Maps.size D ≤ xs.length
  eq : Maps.size D = xs.length ↔ xs.Nodup
theorem noted_nil : Noted (.map []) [] := ⟨fun x => by rw [Maps.has_eq]; simp, Nat.le_refl _, by simp [Maps.size_eq]⟩
theorem Noted.put {D : DataW Unit} {xs : List Bys} (h : Noted D xs) (hT : Maps.Tidy D) (x : Bys) (d : DataW Unit) : Noted (D.put (.string x) d) (xs ++ [x]) := by
  have hs := Maps.size_put (k := Lit.string x) hT d
  rw [h.has x] at hs
  refine ⟨fun y => ?_, ?_, ?_⟩
  · by_cases hy : y = x
    · subst hy
      rw [Maps.has_put_same (k := Lit.string y) hT.isMap trivial]
      simp
    · rw [Maps.has_put_other (by intro e; injection e with e; exact hy e), h.has y]
      simp [hy]
  · rw [hs, List.length_append]
    have := h.le
    split <;> simp <;> omega
  · rw [hs, List.length_append, nodup_snoc, ← h.eq]
    have := h.le
    by_cases hx : x ∈ xs
    · simp [hx]
      omega
    · simp [hx]
end Go.Proofs.YtblbcojkjknfdaaDoor

namespace Go.Proofs.YtblbcojkjknfdaaDoor
open Go.RowKit

theorem ret_z {a b : Int} (h : a = b) : Ending.returned (.int .i64 a) = .returned (.int .i64 b) := by rw [h]
set_option maxRecDepth 100000 in
set_option maxHeartbeats 4000000 in
theorem raw_any (s : ByteArray) (w : World) : Calls Tryd.prog 17 #[.string s] w fun e w' => e = .returned (.int .i64 (rawZ s)) ∧ w = w' := by
  go_enter Tryd.func17, Tryd.ntmps17
  go_wp2
  all_goals
    go_ret
    exact ⟨ret_z (by unfold rawZ; first | (simp only [*, if_true, if_false, Bool.false_eq_true]; done) | (simp_all; done)), rfl⟩
end Go.Proofs.YtblbcojkjknfdaaDoor
