/-
  pdqsortOrdered: words.
-/
import Derived.Test.YthhlpbopbabojaaSrtP
import Derived.Test.YthhlpbopbabojaaSrtI
import Derived.Test.YthhlpbopbabojaaSrtK
import Derived.Test.YthhlpbopbabojaaSrtQ
import Derived.Sort.LotD3
import Derived.Sort.LotB
namespace Go.Proofs.Ythhlpbopbabojaa
open Go.RowKit Go.Sort

/-- where a sort of the places a to b stands: the places i to j are to be sorted, the rest is in its place -/
structure PQ (w : World) (g o : Nat) (pre sp : Array Value) (d : Array Int) (a b n i j : Nat) (dc : Array Int) (wr : World) : Prop where
  st : St w g o pre sp dc wr
  sz : dc.size = n
  bel : Sort.Below ltInt i j dc
  fin : ∀ R, PermIn i j dc R → SortedIn ltInt i j R → PermIn a b d R ∧ SortedIn ltInt a b R
/-- the sort's contract -/
def Srt (w : World) (g o : Nat) (pre sp : Array Value) (d : Array Int) (a b : Nat) (e : Ending) (w' : World) : Prop :=
  e = .returned (.tuple #[]) ∧ ∃ R, PermIn a b d R ∧ SortedIn ltInt a b R ∧ St w g o pre sp R w'
section
variable {w wr w' : World} {g o a b n i j : Nat} {pre sp : Array Value} {d dc dc' R : Array Int}
theorem PQ.perm (h : PQ w g o pre sp d a b n i j dc wr) (hp : PermIn i j dc dc') (hs : St wr g o pre sp dc' w') (hj : j ≤ n) : PQ w g o pre sp d a b n i j dc' w' :=
  ⟨h.st.trans hs, hp.1.trans h.sz, h.bel.perm (by rw [h.sz]; exact hj) hp, fun R h1 h2 => h.fin R (permIn_trans _ _ _ _ _ hp h1) h2⟩
theorem PQ.fr (h : PQ w g o pre sp d a b n i j dc wr) (hf : Fr Nil wr w') : PQ w g o pre sp d a b n i j dc w' :=
  ⟨⟨h.st.row.fr hf fun x => x, h.st.fr.trans' hf fun _ _ x => x.elim⟩, h.sz, h.bel, h.fin⟩
theorem PQ.done (h : PQ w g o pre sp d a b n i j dc wr) (hp : PermIn i j dc R ∧ SortedIn ltInt i j R) (hs : St wr g o pre sp R w') : Srt w g o pre sp d a b (.returned (.tuple #[])) w' :=
  ⟨rfl, R, (h.fin R hp.1 hp.2).1, (h.fin R hp.1 hp.2).2, h.st.trans hs⟩
theorem PQ.eq_ (h : PQ w g o pre sp d a b n i j dc wr) {p mid : Nat} {d4 : Array Int} (hi : 0 < i) (hp1 : i ≤ p) (hp2 : p < j) (hj : j ≤ n) (hl : ltInt dc[i - 1]! dc[p]! = false) (hx : partitionEqual ltInt dc i j p = (mid, d4)) (hs : St wr g o pre sp d4 w') :
    i < mid ∧ mid ≤ j ∧ PQ w g o pre sp d a b n mid j d4 w' := by
  obtain ⟨h1, h2, h3, h4, h5⟩ := round_eq swo_ltInt (partitionEqual_holds _) hi hp1 hp2 (by rw [h.sz]; exact hj) h.bel hl hx
  exact ⟨h1, h2, h.st.trans hs, h3.trans h.sz, h4, fun R r1 r2 => h.fin R (h5 R r1 r2).1 (h5 R r1 r2).2⟩
theorem PQ.part_ (h : PQ w g o pre sp d a b n i j dc wr) {p mid : Nat} {ap : Bool} {d4 : Array Int} (hp1 : i ≤ p) (hp2 : p < j) (hj : j ≤ n) (hx : partition ltInt dc i j p = (mid, ap, d4)) (hs : St wr g o pre sp d4 w') :
    i ≤ mid ∧ mid < j ∧ d4.size = n ∧ Sort.Below ltInt i mid d4 ∧ Sort.Below ltInt (mid + 1) j d4 ∧ St w g o pre sp d4 w' ∧
      (∀ L w2, PermIn i mid d4 L → SortedIn ltInt i mid L → St w' g o pre sp L w2 → PQ w g o pre sp d a b n (mid + 1) j L w2) ∧
      (∀ L w2, PermIn (mid + 1) j d4 L → SortedIn ltInt (mid + 1) j L → St w' g o pre sp L w2 → PQ w g o pre sp d a b n i mid L w2) := by
  obtain ⟨h1, h2, h3, h4, h5, h6, h7⟩ := round_part swo_ltInt (partition_holds _) hp1 hp2 (by rw [h.sz]; exact hj) h.bel hx
  refine ⟨h1, h2, h3.trans h.sz, h4, h5, h.st.trans hs, fun L w2 l1 l2 l3 => ?_, fun L w2 l1 l2 l3 => ?_⟩
  · obtain ⟨k1, k2⟩ := h6 L l1 l2
    exact ⟨(h.st.trans hs).trans l3, l1.1.trans (h3.trans h.sz), k1, fun R r1 r2 => h.fin R (k2 R r1 r2).1 (k2 R r1 r2).2⟩
  · obtain ⟨k1, k2⟩ := h7 L l1 l2
    exact ⟨(h.st.trans hs).trans l3, l1.1.trans (h3.trans h.sz), k1, fun R r1 r2 => h.fin R (k2 R r1 r2).1 (k2 R r1 r2).2⟩
end

end Go.Proofs.Ythhlpbopbabojaa
