/-
  choosePivotOrdered, breakPatternsOrdered at bytes, walked: which place is chosen is left open.
-/
import Derived.Test.YthhlpbopbabojaaSrtU
import Derived.Test.YthhlpbopbabojaaSrtLay
import Derived.Sort.Walk7
namespace Go.Proofs.Ythhlpbopbabojaa
open Go.RowKit Go.Sort

theorem len_any (x : Int) (w : World) (h0 : 0 ≤ x) (h1 : x ≤ 18446744073709551615) : Calls Try.prog 37 #[.int .u64 x] w fun e w' => e = .returned (.int .i64 (Lib.bitLen x.toNat)) ∧ w' = w :=
  Any.bits_Len (SlLaysF0.n15.bits Try.lenL) x w h0 h1
/-- a number's cell in a block of its own -/
def NumB (w : World) (s : Nat) (t : TypeId) (v : Value) : Prop := Blk w s t #[v]
theorem NumB.cell {w : World} {s : Nat} {t : TypeId} {v : Value} (h : NumB w s t v) : w.cell? ⟨s, 0, none⟩ = some v := by
  have := Blk.cell h 0
  simpa using this
theorem NumB.frozen {w : World} {s : Nat} {t : TypeId} {v : Value} (h : NumB w s t v) : w.frozen? ⟨s, 0, none⟩ = false := Blk.frozen h 0
theorem NumB.set {w : World} {s : Nat} {t : TypeId} {v : Value} (h : NumB w s t v) (u : Value) : NumB (w.setCell ⟨s, 0, none⟩ u) s t u := by
  have := Blk.set_ h 0 u
  simpa [NumB] using this
/-- one of the two, the other: -/
def Two (w : World) (s : Nat) (a b z : Nat) (e : Ending) (w' : World) : Prop :=
  ∃ x y z' : Nat, e = .returned (.tuple #[.int .i64 x, .int .i64 y]) ∧ (x = a ∧ y = b ∨ x = b ∧ y = a) ∧ NumB w' s 3 (.int .i64 z') ∧ z' ≤ z + 1 ∧ Fr (fun k => k = s) w w'

set_option maxRecDepth 1000000 in
set_option maxHeartbeats 4000000 in
theorem order2_any (g o c n a b s z : Nat) (pre sp : Array Value) (d : Array Int) (w : World) (hR : RowB w g o pre sp d) (hn : d.size = n) (ha : a < n) (hb : b < n) (hs : NumB w s 3 (.int .i64 z)) (hz : z ≤ 1000) :
    Calls Try.prog 55 #[.slice (some ⟨g, o, none⟩) n c, .int .i64 a, .int .i64 b, .pointer (some ⟨s, 0, none⟩)] w (Two w s a b z) := by
  have c1 := hR.cell b (by omega)
  have c2 := hR.cell a (by omega)
  generalize d[b]! = x at c1
  generalize d[a]! = y at c2
  have s1 := hs.cell
  have s2 := hs.frozen
  have HS := Lib.hid hs
  clear hs hR
  cases hl : ltInt x y
  all_goals
    have hq := less_any x y
    rw [hl] at hq
    clear hl
    go_enter Try.func55, Try.ntmps55
    go_wp2_with fail
    go_quiet (first | (go_at_call 44; refine Calls.quiet_of_same (hq _)))
    go_wp2
    go_ret2
  · exact ⟨a, b, z, rfl, .inl ⟨rfl, rfl⟩, HS.out, by omega, (Fr.rfl' _ w).drewN nq⟩
  · exact ⟨b, a, z + 1, rfl, .inr ⟨rfl, rfl⟩, NumB.set (w := w) HS.out _, Nat.le_refl _, ((Fr.rfl' (fun k => k = s) w).drewN nq).setCell (p := ⟨s, 0, none⟩) (fun _ => rfl) _⟩
/-- one of the three -/
def OneOf (w : World) (s : Nat) (a b c z : Nat) (e : Ending) (w' : World) : Prop :=
  ∃ x z' : Nat, e = .returned (.int .i64 x) ∧ (x = a ∨ x = b ∨ x = c) ∧ NumB w' s 3 (.int .i64 z') ∧ z' ≤ z + 3 ∧ Fr (fun k => k = s) w w'

set_option maxRecDepth 1000000 in
set_option maxHeartbeats 4000000 in
theorem median_any (g o c n a b k s z : Nat) (pre sp : Array Value) (d : Array Int) (w : World) (hR : RowB w g o pre sp d) (hn : d.size = n) (ha : a < n) (hb : b < n) (hk : k < n) (hs : NumB w s 3 (.int .i64 z)) (hz : z ≤ 900) (hg : g ≠ s) :
    Calls Try.prog 53 #[.slice (some ⟨g, o, none⟩) n c, .int .i64 a, .int .i64 b, .int .i64 k, .pointer (some ⟨s, 0, none⟩)] w (OneOf w s a b k z) := by
  have H1 := Lib.hid (order2_any g o c n a b s z pre sp d w hR hn ha hb hs (by omega))
  have HR := Lib.hid hR
  clear hR hs
  go_enter Try.func53, Try.ntmps53
  go_wp2_with fail
  refine H1.out.mono ?_
  rintro e w1 ⟨x1, y1, z1, rfl, h1, g1, l1, f1⟩
  have HR1 := Lib.hid (HR.out.fr f1 hg)
  have H2 := Lib.hid (order2_any g o c n y1 k s z1 pre sp d w1 HR1.out hn (by omega) hk g1 (by omega))
  clear g1 HR H1
  go_wp2_with fail
  refine H2.out.mono ?_
  rintro e w2 ⟨x2, y2, z2, rfl, h2, g2, l2, f2⟩
  have HR2 := Lib.hid (HR1.out.fr f2 hg)
  have H3 := Lib.hid (order2_any g o c n x1 x2 s z2 pre sp d w2 HR2.out hn (by omega) (by omega) g2 (by omega))
  clear g2 HR1 H2
  go_wp2_with fail
  refine H3.out.mono ?_
  rintro e w3 ⟨x3, y3, z3, rfl, h3, g3, l3, f3⟩
  go_wp2_with fail
  go_ret
  exact ⟨y3, z3, rfl, by omega, g3, by omega, (f1.trans f2).trans f3⟩

set_option maxRecDepth 1000000 in
set_option maxHeartbeats 4000000 in
theorem adjacent_any (g o c n a s z : Nat) (pre sp : Array Value) (d : Array Int) (w : World) (hR : RowB w g o pre sp d) (hn : d.size = n) (ha0 : 1 ≤ a) (ha : a + 1 < n) (hs : NumB w s 3 (.int .i64 z)) (hz : z ≤ 900) (hg : g ≠ s) (hn2 : n ≤ 1048576) :
    Calls Try.prog 52 #[.slice (some ⟨g, o, none⟩) n c, .int .i64 a, .pointer (some ⟨s, 0, none⟩)] w (OneOf w s (a - 1) a (a + 1) z) := by
  obtain ⟨m, rfl⟩ : ∃ m, a = m + 1 := ⟨a - 1, by omega⟩
  rw [Nat.add_sub_cancel]
  have h1 := median_any g o c n m (m + 1) (m + 1 + 1) s z pre sp d w hR hn (by omega) (by omega) ha hs hz hg
  rw [show (((m + 1 + 1 : Nat)) : Int) = (m : Int) + 1 + 1 from rfl, show (((m + 1 : Nat)) : Int) = (m : Int) + 1 from rfl] at h1
  have H1 := Lib.hid h1
  clear h1
  clear hR hs
  go_enter Try.func52, Try.ntmps52
  go_wp2_with fail
  refine H1.out.mono ?_
  rintro e w1 ⟨x, z1, rfl, h1, g1, l1, f1⟩
  go_wp2_with fail
  go_ret
  exact ⟨x, z1, rfl, h1, g1, l1, f1⟩

/-- a place within, and some hint -/
def Chosen (w : World) (a b : Nat) (e : Ending) (w' : World) : Prop :=
  ∃ p h : Nat, e = .returned (.tuple #[.int .i64 p, .int .i64 h]) ∧ a ≤ p ∧ p < b ∧ h ≤ 2 ∧ Fr Nil w w'
theorem fr_new {w w1 w2 : World} {s : Nat} (h : Fr Nil w w1) (h2 : Fr (fun k => k = s) w1 w2) (hs : w.heap.size ≤ s) : Fr Nil w w2 :=
  h.trans' h2 fun k hk e => by omega
theorem adjacent_at (g o c n a s z : Nat) (pre sp : Array Value) (d : Array Int) (w : World) (hR : RowB w g o pre sp d) (hn : d.size = n) (ha0 : 1 ≤ a) (ha : a + 1 < n) (hs : NumB w s 3 (.int .i64 z)) (hz : z ≤ 900) (hg : g ≠ s) (hn2 : n ≤ 1048576) {ai : Int} (hai : ai = (a : Int)) :
    Calls Try.prog 52 #[.slice (some ⟨g, o, none⟩) n c, .int .i64 ai, .pointer (some ⟨s, 0, none⟩)] w (OneOf w s (a - 1) a (a + 1) z) := by
  subst hai
  exact adjacent_any g o c n a s z pre sp d w hR hn ha0 ha hs hz hg hn2
theorem median_at (g o c n a b k s z : Nat) (pre sp : Array Value) (d : Array Int) (w : World) (hR : RowB w g o pre sp d) (hn : d.size = n) (ha : a < n) (hb : b < n) (hk : k < n) (hs : NumB w s 3 (.int .i64 z)) (hz : z ≤ 900) (hg : g ≠ s)
    {ai bi ki : Int} (hai : ai = (a : Int)) (hbi : bi = (b : Int)) (hki : ki = (k : Int)) :
    Calls Try.prog 53 #[.slice (some ⟨g, o, none⟩) n c, .int .i64 ai, .int .i64 bi, .int .i64 ki, .pointer (some ⟨s, 0, none⟩)] w (OneOf w s a b k z) := by
  subst hai hbi hki
  exact median_any g o c n a b k s z pre sp d w hR hn ha hb hk hs hz hg

set_option maxRecDepth 1000000 in
set_option maxHeartbeats 4000000 in
theorem choose_any (g o c n a b : Nat) (pre sp : Array Value) (d : Array Int) (w : World) (hR : RowB w g o pre sp d) (hn : d.size = n) (hab : a + 12 < b) (hb : b ≤ n) (hn2 : n ≤ 1048576) :
    Calls Try.prog 41 #[.slice (some ⟨g, o, none⟩) n c, .int .i64 a, .int .i64 b] w (Chosen w a b) := by
  obtain ⟨l, rfl⟩ : ∃ l, b = a + l := ⟨b - a, by omega⟩
  have hg : g < w.heap.size := hR.2.lt
  have H0 : NumB (w.alloc (.cells #[.int .i64 0] 3)) w.heap.size 3 (.int .i64 (0 : Nat)) := Blk.new w _ _
  have HR := Lib.hid (hR.fr ((Fr.rfl' Nil w).alloc (.cells #[.int .i64 0] 3)) fun x => x)
  have HN := Lib.hid H0
  clear hR H0
  have F0 := Lib.hid ((Fr.rfl' Nil w).alloc (.cells #[.int .i64 0] 3))
  have e1 : (a : Int) + (l : Int) - (a : Int) = (l : Int) := by omega
  go_enter Try.func41, Try.ntmps41
  obtain ⟨q, hq⟩ : ∃ q, q = l / 4 := ⟨_, rfl⟩
  have e2 : (l : Int) / 4 = (q : Int) := by omega
  have e3 : q * 4 ≤ l ∧ l < q * 4 + 4 := by omega
  clear hq
  by_cases h50 : 50 ≤ l
  · go_wp2_with fail
    refine (adjacent_at g o c n (a + q) w.heap.size 0 pre sp d _ HR.out hn (by omega) (by omega) HN.out (by omega) (by omega) hn2 (by omega)).mono ?_
    rintro e w1 ⟨x1, z1, rfl, h1, g1, l1, f1⟩
    have HR1 := Lib.hid (HR.out.fr f1 (by omega))
    have G1 := Lib.hid g1
    clear g1
    go_wp2_with fail
    refine (adjacent_at g o c n (a + q * 2) w.heap.size z1 pre sp d _ HR1.out hn (by omega) (by omega) G1.out (by omega) (by omega) hn2 (by omega)).mono ?_
    rintro e w2 ⟨x2, z2, rfl, h2, g2, l2, f2⟩
    have HR2 := Lib.hid (HR1.out.fr f2 (by omega))
    have G2 := Lib.hid g2
    clear g2
    go_wp2_with fail
    refine (adjacent_at g o c n (a + q * 3) w.heap.size z2 pre sp d _ HR2.out hn (by omega) (by omega) G2.out (by omega) (by omega) hn2 (by omega)).mono ?_
    rintro e w3 ⟨x3, z3, rfl, h3, g3, l3, f3⟩
    have HR3 := Lib.hid (HR2.out.fr f3 (by omega))
    have G3 := Lib.hid g3
    clear g3
    go_wp2_with fail
    refine (median_at g o c n x1 x2 x3 w.heap.size z3 pre sp d _ HR3.out hn (by omega) (by omega) (by omega) G3.out (by omega) (by omega) rfl rfl rfl).mono ?_
    rintro e w4 ⟨x4, z4, rfl, h4, g4, l4, f4⟩
    have c4 := g4.cell
    have F := Lib.hid (fr_new F0.out (((f1.trans f2).trans f3).trans f4) (Nat.le_refl _))
    have hx : a ≤ x4 ∧ x4 < a + l := by omega
    have HX := Lib.hid hx
    clear g4 hx h1 h2 h3 h4
    go_wp2
    all_goals
      go_ret2
      first
        | exact ⟨x4, 1, rfl, HX.out.1, HX.out.2, by omega, F.out⟩
        | exact ⟨x4, 2, rfl, HX.out.1, HX.out.2, by omega, F.out⟩
        | exact ⟨x4, 0, rfl, HX.out.1, HX.out.2, by omega, F.out⟩
  · go_wp2_with fail
    refine (median_at g o c n (a + q) (a + q * 2) (a + q * 3) w.heap.size 0 pre sp d _ HR.out hn (by omega) (by omega) (by omega) HN.out (by omega) (by omega) (by omega) (by omega) (by omega)).mono ?_
    rintro e w4 ⟨x4, z4, rfl, h4, g4, l4, f4⟩
    have c4 := g4.cell
    have F := Lib.hid (fr_new F0.out f4 (Nat.le_refl _))
    have hx : a ≤ x4 ∧ x4 < a + l := by omega
    have HX := Lib.hid hx
    clear g4 hx h4
    go_wp2
    all_goals
      go_ret2
      first
        | exact ⟨x4, 1, rfl, HX.out.1, HX.out.2, by omega, F.out⟩
        | exact ⟨x4, 2, rfl, HX.out.1, HX.out.2, by omega, F.out⟩
        | exact ⟨x4, 0, rfl, HX.out.1, HX.out.2, by omega, F.out⟩
end Go.Proofs.Ythhlpbopbabojaa
