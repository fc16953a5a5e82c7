/-
  entity.all, walked: all names, in the order of their texts.
-/
import Derived.Test.YtblbcojkjknfdaaDoorEntL
import Derived.Test.YtblbcojkjknfdaaDoorWith
import Derived.Test.YtblbcojkjknfdaaDoorCat
import Derived.Test.YtblbcojkjknfdaaDoorCmp
namespace Go.Proofs.YtblbcojkjknfdaaDoor
open Go.RowKit

/-- a slice of n names in a new block -/
def MadeN (w : World) (n : Nat) (l : List Ent) (e : Ending) (w' : World) : Prop :=
  ∃ g c, e = .returned (.slice (some ⟨g, 0, none⟩) n c) ∧ Own w' 79 2 (some ⟨g, 0, none⟩) n c (entCells l) ∧ Fr Nil w w' ∧ w.heap.size ≤ g
theorem madeN_of {w w' : World} {n : Nat} {l : List Ent} {v : Value} (h : MadeE w l v w') (hl : l.length = n) (hn : 0 < n) : MadeN w n l (.returned v) w' := by
  obtain ⟨A, c, rfl, ho, hf, hA⟩ := h
  rw [hl] at ho ⊢
  obtain ⟨g, rfl, _⟩ := ho.form hn
  exact ⟨g, c, rfl, ho, hf, hA g ⟨_, rfl, rfl⟩⟩
theorem bare50 (w : World) : Calls Tryd.prog 61 #[] w (MadeN w 50 bareL) :=
  (bare_any w).mono fun e w' ⟨v, he, h⟩ => he ▸ madeN_of h rfl (by decide)
theorem closed34 (w : World) : Calls Tryd.prog 63 #[] w (MadeN w 34 closedL) :=
  (closed_any w).mono fun e w' ⟨v, he, h⟩ => he ▸ madeN_of h rfl (by decide)
theorem with50 (w : World) (g c : Nat) (ho : Own w 79 2 (some ⟨g, 0, none⟩) 50 c (entCells bareL)) : Calls Tryd.prog 62 #[.slice (some ⟨g, 0, none⟩) 50 c] w (MadeN w 50 (withL bareL)) :=
  (with_any w g 50 c bareL ho (by decide) (by decide)).mono fun e w' ⟨v, he, h⟩ => he ▸ madeN_of h rfl (by decide)
theorem with34 (w : World) (g c : Nat) (ho : Own w 79 2 (some ⟨g, 0, none⟩) 34 c (entCells closedL)) : Calls Tryd.prog 62 #[.slice (some ⟨g, 0, none⟩) 34 c] w (MadeN w 34 (withL closedL)) :=
  (with_any w g 34 c closedL ho (by decide) (by decide)).mono fun e w' ⟨v, he, h⟩ => he ▸ madeN_of h rfl (by decide)

theorem cat3 (w : World) (g1 c1 g2 c2 g3 c3 : Nat) (h1 : Own w 79 2 (some ⟨g1, 0, none⟩) 50 c1 (entCells bareL)) (h2 : Own w 79 2 (some ⟨g2, 0, none⟩) 50 c2 (entCells (withL bareL)))
    (h3 : Own w 79 2 (some ⟨g3, 0, none⟩) 34 c3 (entCells (withL closedL))) :
    Calls Tryd.prog 60 #[.slice (some ⟨w.heap.size, 0, none⟩) 3 3]
      (w.alloc (.cells #[.slice (some ⟨g1, 0, none⟩) 50 c1, .slice (some ⟨g2, 0, none⟩) 50 c2, .slice (some ⟨g3, 0, none⟩) 34 c3] 80)) (MadeN w 134 allU) := by
  have hps := concat_any (w.alloc (.cells #[.slice (some ⟨g1, 0, none⟩) 50 c1, .slice (some ⟨g2, 0, none⟩) 50 c2, .slice (some ⟨g3, 0, none⟩) 34 c3] 80)) w.heap.size 3
    [⟨some ⟨g1, 0, none⟩, 50, c1, bareL⟩, ⟨some ⟨g2, 0, none⟩, 50, c2, withL bareL⟩, ⟨some ⟨g3, 0, none⟩, 34, c3, withL closedL⟩]
    (Own.lit w _ 3 (by decide) rfl)
    (fun p hp => by
      simp only [List.mem_cons, List.not_mem_nil, or_false] at hp
      rcases hp with rfl | rfl | rfl
      · exact h1.alloc _
      · exact h2.alloc _
      · exact h3.alloc _)
    (by decide) (by show 0 < 50 + (50 + (34 + 0)); decide)
    (fun k hk => by
      rcases k with _ | _ | _ | _ | k
      · show 0 ≤ 1000; decide
      · show 50 + 0 ≤ 1000; decide
      · show 50 + (50 + 0) ≤ 1000; decide
      · show 50 + (50 + (34 + 0)) ≤ 1000; decide
      · omega)
  refine hps.mono ?_
  rintro e w' ⟨A, c, rfl, ho, hf, hA⟩
  have hc : catL [⟨some ⟨g1, 0, none⟩, 50, c1, bareL⟩, ⟨some ⟨g2, 0, none⟩, 50, c2, withL bareL⟩, ⟨some ⟨g3, 0, none⟩, 34, c3, withL closedL⟩] 3 = allU := by
    show bareL ++ (withL bareL ++ (withL closedL ++ [])) = bareL ++ withL bareL ++ withL closedL
    rw [List.append_nil, List.append_assoc]
  rw [hc] at ho
  change Own w' 79 2 A 134 c (entCells allU) at ho
  obtain ⟨g, rfl, _⟩ := ho.form (by decide)
  refine ⟨g, c, rfl, ho, ((Fr.rfl' _ w).alloc _).trans hf, ?_⟩
  have := hA g ⟨_, rfl, rfl⟩
  rw [World.size_alloc] at this
  omega

/-- all names, in the order of their texts -/
def AllE (w : World) (e : Ending) (w' : World) : Prop :=
  ∃ g c l, e = .returned (.slice (some ⟨g, 0, none⟩) 134 c) ∧ l.Perm allU ∧ (l.Pairwise fun x y => ¬ y.1 < x.1) ∧ Own w' 79 2 (some ⟨g, 0, none⟩) 134 c (entCells l) ∧ Fr Nil w w' ∧ w.heap.size ≤ g

set_option maxRecDepth 100000 in
set_option maxHeartbeats 2000000 in
theorem all_any (w : World) : Calls Tryd.prog 48 #[] w (AllE w) := by
  go_enter Tryd.func48, Tryd.ntmps48
  go_wp2_with (first
    | (go_at_call 61; have hq := hob1; clear hq; refine (bare50 _).mono ?_; rintro e w2 ⟨gb2, cb2, rfl, hob2, hfb2, hgb2⟩)
    | (go_at_call 61; refine (bare50 _).mono ?_; rintro e w1 ⟨gb1, cb1, rfl, hob1, hfb1, hgb1⟩)
    | (go_at_call 63; refine (closed34 _).mono ?_; rintro e w4 ⟨gc, cc, rfl, hoc, hfc, hgc⟩)
    | (go_at_call 62; have hq := how1; clear hq; refine (with34 w4 gc cc hoc).mono ?_; rintro e w5 ⟨gw2, cw2, rfl, how2, hfw2, hgw2⟩)
    | (go_at_call 62; refine (with50 w2 gb2 cb2 hob2).mono ?_; rintro e w3 ⟨gw1, cw1, rfl, how1, hfw1, hgw1⟩)
    | (go_at_call 60
       refine (cat3 w5 gb1 cb1 gw1 cw1 gw2 cw2 (hob1.fr (((hfb2.trans hfw1).trans hfc).trans hfw2) fun _ _ h => h) (how1.fr (hfc.trans hfw2) fun _ _ h => h) how2).mono ?_
       rintro e w6 ⟨g, c, rfl, ho, hf, hg⟩)
    | (go_at_call 64
       refine (sort_any w6 g 134 c allU ho (by decide)).mono ?_
       rintro e w7 ⟨rfl, l, hp, hs, ho7, hf7⟩))
  go_ret
  have hall := ((((hfb1.trans hfb2).trans hfw1).trans hfc).trans hfw2).trans hf
  have hsz := (((((hfb1.trans hfb2).trans hfw1).trans hfc).trans hfw2)).size
  exact ⟨g, c, l, rfl, hp, hs, ho7, hall.trans' hf7 fun k hk e => by subst e; omega, by omega⟩
end Go.Proofs.YtblbcojkjknfdaaDoor
