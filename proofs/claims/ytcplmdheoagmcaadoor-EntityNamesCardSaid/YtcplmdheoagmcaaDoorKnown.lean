/-
  slices.BinarySearchFunc among the names, entity.Known, walked.
-/
import Derived.Test.YtcplmdheoagmcaaDoorNamed
namespace Go.Proofs.YtcplmdheoagmcaaDoor
open Go.RowKit Go.Sort Go.Shelf

/-- what a whole name stands for -/
def knownP (q : Pth) : Pth × Bool := match ofName q with
  | some t => (t, true)
  | none => ([], false)
theorem cmpP_neg (a b : Pth) : decide (cmpP a b < 0) = decide (a < b) := cmpP_lt a b
theorem cmpP_zero (a b : Pth) : decide (cmpP a b = 0) = decide (a = b) := by
  unfold cmpP
  by_cases h1 : a < b
  · have : a ≠ b := fun e => List.lt_irrefl b (e ▸ h1)
    simp [h1, this]
  · by_cases h2 : b < a
    · have : a ≠ b := fun e => List.lt_irrefl b (e ▸ h2)
      simp [h1, h2, this]
    · have h3 := List.le_antisymm (List.not_lt.1 h2) (List.not_lt.1 h1)
      subst h3
      simp [h1]

set_option maxHeartbeats 2000000 in
theorem order1_any (x : Ent) (q : Pth) (w : World) : Calls Tryd.prog 23 #[.agg (encE x).toArray, .string (str q)] w fun e w' => e = .returned (.int .i64 (cmpP x.1 q)) ∧ Fr Nil w w' := by
  have hcon := cmp_any x.1 q
  show Calls Tryd.prog 23 #[.agg #[.string (str x.1), .string (str x.2)], .string (str q)] w _
  generalize cmpP x.1 q = r at hcon ⊢
  generalize str x.1 = s at hcon ⊢
  generalize str q = t at hcon ⊢
  go_enter Tryd.func23, Tryd.ntmps23
  go_wp2_with (go_at_call 24; refine (hcon _).mono ?_; rintro e w' ⟨rfl, rfl⟩)
  go_ret
  exact ⟨rfl, (Fr.rfl' _ _).alloc _⟩

theorem order1_any' (a b q : Pth) (w : World) : Calls Tryd.prog 23 #[.agg #[.string (str a), .string (str b)], .string (str q)] w fun e w' => e = .returned (.int .i64 (cmpP a q)) ∧ Fr Nil w w' := order1_any (a, b) q w
theorem cmpP_lt_iff (a b : Pth) : cmpP a b < 0 ↔ a < b := by simpa using cmpP_neg a b
theorem cmpP_eq_iff (a b : Pth) : cmpP a b = 0 ↔ a = b := by simpa using cmpP_zero a b

/-- at the head of a round of the search -/
def BinI (w : World) (l : List Ent) (q : Pth) (n : Nat) (i j : Value) (wr : World) : Prop :=
  ∃ a b : Nat, i = .int .i64 a ∧ j = .int .i64 b ∧ a ≤ b ∧ b ≤ n ∧ (∀ k x, l[k]? = some x → k < a → x.1 < q) ∧ (∀ k x, l[k]? = some x → b ≤ k → ¬ x.1 < q) ∧ Fr Nil w wr
theorem sorted_at {l : List Ent} (hs : l.Pairwise fun x y => ¬ y.1 < x.1) {i j : Nat} {x y : Ent} (hi : l[i]? = some x) (hj : l[j]? = some y) (hij : i ≤ j) : ¬ y.1 < x.1 := by
  rcases Nat.lt_or_ge i j with h | h
  · obtain ⟨h1, rfl⟩ := List.getElem?_eq_some_iff.1 hi
    obtain ⟨h2, rfl⟩ := List.getElem?_eq_some_iff.1 hj
    exact List.pairwise_iff_getElem.1 hs i j h1 h2 h
  · obtain rfl : i = j := by omega
    rw [hi] at hj
    cases hj
    exact List.lt_irrefl _
theorem bin_lo {l : List Ent} {q : Pth} (hs : l.Pairwise fun x y => ¬ y.1 < x.1) {m : Nat} {x : Ent} (hx : l[m]? = some x) (h : x.1 < q) : ∀ k y, l[k]? = some y → k < m + 1 → y.1 < q := fun k y hy hk => by
  have := sorted_at hs hy hx (by omega)
  exact List.lt_of_le_of_lt (List.not_lt.1 this) h
theorem bin_hi {l : List Ent} {q : Pth} (hs : l.Pairwise fun x y => ¬ y.1 < x.1) {m : Nat} {x : Ent} (hx : l[m]? = some x) (h : ¬ x.1 < q) : ∀ k y, l[k]? = some y → m ≤ k → ¬ y.1 < q := fun k y hy hk h2 => by
  have := sorted_at hs hx hy hk
  exact h (List.lt_of_le_of_lt (List.not_lt.1 this) h2)

/-- what the search tells -/
def SearchR (w : World) (l : List Ent) (q : Pth) (e : Ending) (w' : World) : Prop :=
  Fr Nil w w' ∧ ∃ p : Nat, ((∃ x, l[p]? = some x ∧ x.1 = q ∧ e = .returned (.tuple #[.int .i64 p, .bool true])) ∨ (q ∉ l.map Prod.fst ∧ e = .returned (.tuple #[.int .i64 p, .bool false])))
theorem search_none {l : List Ent} {q : Pth} {a : Nat} (h1 : ∀ k x, l[k]? = some x → k < a → x.1 < q) (h2 : ∀ k x, l[k]? = some x → a ≤ k → ¬ x.1 < q) (h3 : ∀ x, l[a]? = some x → x.1 ≠ q) (hs : l.Pairwise fun x y => ¬ y.1 < x.1) : q ∉ l.map Prod.fst := by
  intro hm
  obtain ⟨y, hy, rfl⟩ := List.mem_map.1 hm
  obtain ⟨k, hk⟩ := List.getElem?_of_mem hy
  rcases Nat.lt_or_ge k a with h | h
  · exact List.lt_irrefl _ (h1 k y hk h)
  · obtain ⟨x, hx⟩ : ∃ x, l[a]? = some x := ⟨_, List.getElem?_eq_getElem (by have := (List.getElem?_eq_some_iff.1 hk).1; omega)⟩
    have e1 := sorted_at hs hx hk h
    have e2 := h2 a x hx (Nat.le_refl _)
    exact h3 x hx (List.le_antisymm (List.not_lt.1 e1) (List.not_lt.1 e2))

set_option maxRecDepth 100000 in
set_option maxHeartbeats 4000000 in
theorem search_any (w : World) (g c n : Nat) (l : List Ent) (hs : l.Pairwise fun x y => ¬ y.1 < x.1) (ho : Own w 37 2 (some ⟨g, 0, none⟩) n c (entCells l)) (hn : n ≤ 100000) (q : Pth) :
    Calls Tryd.prog 22 #[.slice (some ⟨g, 0, none⟩) n c, .string (str q), .func (.func 23) #[] #[]] w (SearchR w l q) := by
  have hl : l.length = n := by have := ho.1; rw [entCells_len] at this; omega
  have HL := Lib.hid hl
  have HS := Lib.hid hs
  clear hl hs
  go_enter Tryd.func22, Tryd.ntmps22
  go_wp2
  go_loopw [9, 10, 11] (fun i j _ wr => BinI w l q n i j wr) (fun i j _ _ => (intOf j).toNat - (intOf i).toNat)
  case atStart => exact ⟨0, n, rfl, rfl, Nat.zero_le _, Nat.le_refl _, fun k x _ h => absurd h (Nat.not_lt_zero k), fun k x hk h => by have := (List.getElem?_eq_some_iff.1 hk).1; rw [HL.out] at this; omega, Fr.rfl' _ _⟩
  case round =>
    obtain ⟨a, b, rfl, rfl, hab, hb, h1, h2, hf⟩ := hrel
    have H1 := Lib.hid h1
    have H2 := Lib.hid h2
    clear h1 h2
    by_cases hlt : a < b
    · obtain ⟨x, hx⟩ : ∃ x, l[(a + b) / 2]? = some x := ⟨_, List.getElem?_eq_getElem (by rw [HL.out]; omega)⟩
      have hr2 := ho.fr hf fun _ _ h => h
      have k0 := hr2.cell ((a + b) / 2 * 2) (by omega)
      have k1 := hr2.cell ((a + b) / 2 * 2 + 1) (by omega)
      rw [(ent_at hx).1] at k0
      rw [(ent_at hx).2] at k1
      have hc := order1_any' x.1 x.2 q
      have HX := Lib.hid hx
      have hsgn := cmpP_lt_iff x.1 q
      generalize cmpP x.1 q = r at hc hsgn
      clear hr2 hx
      by_cases hlq : x.1 < q
      · have hr0 : r < 0 := hsgn.2 hlq
        have HLO := Lib.hid (bin_lo HS.out HX.out hlq)
        clear hsgn hlq
        go_wp2_with (refine (hc _).mono ?_; rintro e w5 ⟨rfl, f5⟩)
        go_roundw
        case rel => exact ⟨(a + b) / 2 + 1, b, by go_num, rfl, by omega, hb, HLO.out, H2.out, hf.trans f5⟩
        case measure => simp [intOf]; omega
      · have hr0 : ¬ r < 0 := fun h => hlq (hsgn.1 h)
        have HHI := Lib.hid (bin_hi HS.out HX.out hlq)
        clear hsgn hlq
        go_wp2_with (refine (hc _).mono ?_; rintro e w5 ⟨rfl, f5⟩)
        go_roundw
        case rel => exact ⟨a, (a + b) / 2, rfl, by go_num, by omega, by omega, H1.out, HHI.out, hf.trans f5⟩
        case measure => simp [intOf]; omega
    · obtain rfl : a = b := by omega
      by_cases han : a < n
      · obtain ⟨x, hx⟩ : ∃ x, l[a]? = some x := ⟨_, List.getElem?_eq_getElem (by rw [HL.out]; omega)⟩
        have hr2 := ho.fr hf fun _ _ h => h
        have k0 := hr2.cell (a * 2) (by omega)
        have k1 := hr2.cell (a * 2 + 1) (by omega)
        rw [(ent_at hx).1] at k0
        rw [(ent_at hx).2] at k1
        have hc := order1_any' x.1 x.2 q
        have HX := Lib.hid hx
        have hsgn := cmpP_eq_iff x.1 q
        generalize cmpP x.1 q = r at hc hsgn
        clear hr2 hx
        by_cases he : x.1 = q
        · have hr0 : r = 0 := hsgn.2 he
          subst hr0
          have HE := Lib.hid he
          clear hsgn he
          go_wp2_with (refine (hc _).mono ?_; rintro e w5 ⟨rfl, f5⟩)
          go_ret2
          exact ⟨hf.trans f5, a, .inl ⟨x, HX.out, HE.out, rfl⟩⟩
        · have hr0 : (r == 0) = false := by simpa using fun h => he (hsgn.1 h)
          have HE := Lib.hid (search_none H1.out H2.out (fun y hy => by rw [HX.out] at hy; cases hy; exact he) HS.out)
          clear hsgn he
          go_wp2_with (refine (hc _).mono ?_; rintro e w5 ⟨rfl, f5⟩)
          go_ret2
          exact ⟨hf.trans f5, a, .inr ⟨HE.out, rfl⟩⟩
      · have HE := Lib.hid (search_none H1.out H2.out (fun y hy => by have := (List.getElem?_eq_some_iff.1 hy).1; rw [HL.out] at this; omega) HS.out)
        have han' : ¬ (a : Int) < n := by omega
        go_wp2
        go_ret2
        exact ⟨hf, a, .inr ⟨HE.out, rfl⟩⟩

/-- a text, and whether there is one -/
def RetSB (r : Pth × Bool) (w : World) (e : Ending) (w' : World) : Prop := e = .returned (.tuple #[.string (str r.1), .bool r.2]) ∧ Fr Nil w w'
theorem known_yes {p : Nat} {x : Ent} {q : Pth} (hx : allS[p]? = some x) (h : x.1 = q) : knownP q = (x.2, true) := by
  unfold knownP
  rw [← h, ofName_mem (allS_perm.mem_iff.1 (List.mem_of_getElem? hx))]
theorem known_no {q : Pth} (h : q ∉ allS.map Prod.fst) : knownP q = ([], false) := by
  unfold knownP
  rw [ofName_none h]

set_option maxRecDepth 100000 in
set_option maxHeartbeats 2000000 in
theorem known_any (w : World) (q : Pth) : Calls Tryd.prog 11 #[.string (str q)] w (RetSB (knownP q) w) := by
  have HL := Lib.hid allS_len
  have HA := Lib.hid (all_s w)
  have HS := Lib.hid allS_sorted
  have HY := Lib.hid (fun p x h1 h2 => @known_yes p x q h1 h2)
  have HN := Lib.hid (@known_no q)
  generalize knownP q = r at HY HN ⊢
  generalize allS = l at HL HA HS HY HN
  go_enter Tryd.func11, Tryd.ntmps11
  go_wp2_with fail
  refine HA.out.mono ?_
  rintro e w1 ⟨g, c0, rfl, hr, hf1, hg⟩
  go_wp2_with fail
  refine (search_any w1 g c0 134 l HS.out hr (by decide) q).mono ?_
  rintro e w2 ⟨hf2, p, ⟨x, hx, hq, rfl⟩ | ⟨hq, rfl⟩⟩
  · have hp : p < 134 := by have := (List.getElem?_eq_some_iff.1 hx).1; rw [HL.out] at this; exact this
    have hr2 := hr.fr hf2 fun _ _ h => h
    have k1 := hr2.cell (p * 2 + 1) (by omega)
    rw [(ent_at hx).2] at k1
    have HR := Lib.hid (HY.out p x hx hq)
    clear hx hq hr2
    go_wp2_with fail
    go_ret2
    exact ⟨by rw [HR.out]; rfl, hf1.trans hf2⟩
  · have HR := Lib.hid (HN.out hq)
    clear hq
    go_wp2_with fail
    go_ret2
    exact ⟨by rw [HR.out]; rfl, hf1.trans hf2⟩
end Go.Proofs.YtcplmdheoagmcaaDoor
