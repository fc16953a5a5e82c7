/-
  EntityBoth, walked.
-/
import Derived.Test.YtcplmdheoagmcaaDoorCalled
import Derived.Test.YtcplmdheoagmcaaDoorEnds
namespace Go.Proofs.YtcplmdheoagmcaaDoor
open Go.RowKit

/-- what the names are to each other -/
def bothB (x : Ent) : Bool := decide (x.2 ≠ []) && (calledR x.2).2 && decide (0 < x.1.length) && (decide (x.1[x.1.length - 1]? = some 59) || (decide (ofName (x.1 ++ [59]) = some x.2) && decide (ofName (calledP x.2) = some x.2) && decide ((calledP x.2).length ≤ x.1.length)))
theorem both_all : (allU.all bothB) = true := by kernel_rfl
theorem both_at {x : Ent} (hx : x ∈ allU) : (x.2 ≠ [] ∧ (calledR x.2).2 = true ∧ 0 < x.1.length) ∧ (x.1[x.1.length - 1]? = some 59 ∨ ofName (x.1 ++ [59]) = some x.2 ∧ ofName (calledP x.2) = some x.2 ∧ (calledP x.2).length ≤ x.1.length) := by
  have h := List.all_eq_true.1 both_all x hx
  simp only [bothB, Bool.and_eq_true, Bool.or_eq_true, decide_eq_true_eq] at h
  obtain ⟨⟨⟨h1, h2⟩, h3⟩, h4⟩ := h
  exact ⟨⟨h1, h2, h3⟩, h4.imp id fun h => ⟨h.1.1, h.1.2, h.2⟩⟩
theorem known_of {q t : Pth} (h : ofName q = some t) : knownP q = (t, true) := by
  unfold knownP
  rw [h]
theorem named_more {x : Ent} (hx : x ∈ allU) (m : Pth) : x.1.length ≤ (namedP (x.1 ++ m)).2 := (best_named _).1 x hx (List.prefix_append _ _)

set_option maxRecDepth 100000 in
set_option maxHeartbeats 4000000 in
theorem law_both (w : World) (hO : Old w) (z : Int) (more : ByteArray) : Calls Tryd.prog 3 #[.int .i64 z, .string more] w fun e w' => e = .returned (.bool true) ∧ Fr Nil w w' := by
  have HA := Lib.hid (awake_any w hO)
  by_cases hbad : z < 0 ∨ 134 ≤ z ∨ 100 < more.size
  · rcases hbad with h | h | h
    · go_enter Tryd.func3, Tryd.ntmps3
      go_wp2_with (first
        | (go_at_call 9; refine (awake_any w hO).mono ?_; rintro e w1 ⟨rfl, hf1⟩)
        | (go_at_call 10; refine (names_any w1).mono ?_; rintro e w2 ⟨A, c, rfl, ho, hf2, hA⟩))
      go_ret
      exact ⟨rfl, hf1.trans hf2⟩
    · by_cases h0 : z < 0
      · omega
      · go_enter Tryd.func3, Tryd.ntmps3
        go_wp2_with (first
          | (go_at_call 9; refine (awake_any w hO).mono ?_; rintro e w1 ⟨rfl, hf1⟩)
          | (go_at_call 10; refine (names_any w1).mono ?_; rintro e w2 ⟨A, c, rfl, ho, hf2, hA⟩))
        go_ret
        exact ⟨rfl, hf1.trans hf2⟩
    · have h' : (100 : Int) < more.size := by omega
      go_enter Tryd.func3, Tryd.ntmps3
      go_wp2_with (first
        | (go_at_call 9; refine (awake_any w hO).mono ?_; rintro e w1 ⟨rfl, hf1⟩)
        | (go_at_call 10; refine (names_any w1).mono ?_; rintro e w2 ⟨A, c, rfl, ho, hf2, hA⟩))
      all_goals
        go_ret
        exact ⟨rfl, hf1.trans hf2⟩
  · have h0 : ¬ z < 0 := fun h => hbad (.inl h)
    have h1 : ¬ 134 ≤ z := fun h => hbad (.inr (.inl h))
    have h2 : ¬ 100 < more.size := fun h => hbad (.inr (.inr h))
    have h2' : ¬ (100 : Int) < more.size := by omega
    clear hbad
    obtain ⟨k, rfl⟩ : ∃ k : Nat, z = k := ⟨z.toNat, by omega⟩
    obtain ⟨x, hx⟩ : ∃ x, allS[k]? = some x := ⟨_, List.getElem?_eq_getElem (by rw [allS_len]; omega)⟩
    have hm := allS_perm.mem_iff.1 (List.mem_of_getElem? hx)
    have hcx : (nameCells allS)[k]? = some (.string (str x.1)) := by rw [nameCells, List.getElem?_map, hx]; rfl
    have hK := fun w => known_any w x.1
    rw [known_self hm] at hK
    have hsz : (str x.1).size = x.1.length := size_str _
    have h64 := (allU_small x hm).2
    have hNm := fun w => named_any w (str x.1 ++ more) (by rw [size_bs, bs_append, bs_str, List.length_append, ← size_bs]; omega)
    rw [bs_append, bs_str] at hNm
    have hlen := named_more hm (bs more)
    obtain ⟨⟨ht, hcal, hlen0⟩, hb⟩ := both_at hm
    have hC := fun w => called_any w x.2
    have hte : (str x.2).toList.isEmpty = false := by
      rw [Lib.toList_data]
      show x.2.isEmpty = false
      cases hxx : x.2 with
      | nil => exact (ht hxx).elim
      | cons a b => rfl
    have hix : ∀ c, x.1[x.1.length - 1]? = some c → ∀ W, (Instr.index 9 (.string (str x.1)) (.int .i64 ((x.1.length : Int) - 1))).run Tryd.prog W = .ok (.int .u8 (c.toNat : Int)) W := fun c h W => by
      have := run_index_at (P := Tryd.prog) (s := str x.1) (k := x.1.length - 1) (c := c) Tryd.underlying9 (by rw [bs_str]; exact h) W
      rwa [show (((x.1.length - 1 : Nat)) : Int) = (x.1.length : Int) - 1 by omega] at this
    generalize namedP (x.1 ++ bs more) = r at hNm hlen
    obtain ⟨r1, r2⟩ := r
    have HK := Lib.hid hK
    have HN := Lib.hid hNm
    have HC := Lib.hid hC
    have HCX := Lib.hid hcx
    have HCAL := Lib.hid hcal
    have hlen' : ¬ (r2 : Int) < x.1.length := by
      change x.1.length ≤ r2 at hlen
      omega
    have hqq := str_beq_self (str x.2)
    by_cases hsemi : x.1[x.1.length - 1]? = some 59
    · have hi := hix 59 hsemi
      clear hix hb hsemi hx hm hK hNm hC hcx ht hcal
      obtain ⟨y, t⟩ := x
      dsimp only at *
      go_enter Tryd.func3, Tryd.ntmps3
      go_wp2_with fail
      refine HA.out.mono ?_
      rintro e w1 ⟨rfl, hf1⟩
      go_wp2_with fail
      refine (names_any w1).mono ?_
      rintro e w2 ⟨A, c, rfl, ho, hf2, hA⟩
      obtain ⟨g, rfl, _⟩ := ho.form (by decide)
      have hcell := ho.cell k (by omega)
      rw [HCX.out] at hcell
      go_wp2_with fail
      refine (HK.out _).mono ?_
      rintro e w3 ⟨rfl, hf3⟩
      go_wp2_with fail
      refine (HN.out _).mono ?_
      rintro e w4 ⟨rfl, hf4⟩
      go_wp2_with fail
      refine (HC.out _).mono ?_
      rintro e w5 ⟨rfl, hf5⟩
      rw [HCAL.out]
      go_wp2_with fail
      go_ret
      exact ⟨rfl, (((hf1.trans hf2).trans hf3).trans hf4).trans hf5⟩
    · obtain ⟨hb1, hb2, hb3⟩ := hb.resolve_left hsemi
      obtain ⟨d, hd⟩ : ∃ d, x.1[x.1.length - 1]? = some d := ⟨_, List.getElem?_eq_getElem (by omega)⟩
      have hi := hix d hd
      have hd59 : ((d.toNat : Int) == 59) = false := byte_ne (c := d) (d := 59) (fun e => hsemi (by rw [hd, e]))
      have hK2 := fun w => known_any w (x.1 ++ [59])
      rw [known_of hb1] at hK2
      have hK3 := fun w => known_any w (calledP x.2)
      rw [known_of hb2] at hK3
      have hse : str (x.1 ++ [59]) = str x.1 ++ { data := #[59] } := by rw [str_append]; rfl
      rw [hse] at hK2
      have HK2 := Lib.hid hK2
      have HK3 := Lib.hid hK3
      have hC1 : (calledR x.2).1 = calledP x.2 := rfl
      have HC1 := Lib.hid hC1
      have hsz2 : (str (calledP x.2)).size = (calledP x.2).length := size_str _
      clear hix hb hsemi hx hm hK hNm hC hcx ht hcal hd hb1 hb2 hK2 hK3 hse hC1
      generalize calledP x.2 = cp at *
      obtain ⟨y, t⟩ := x
      dsimp only at *
      go_enter Tryd.func3, Tryd.ntmps3
      go_wp2_with fail
      refine HA.out.mono ?_
      rintro e w1 ⟨rfl, hf1⟩
      go_wp2_with fail
      refine (names_any w1).mono ?_
      rintro e w2 ⟨A, c, rfl, ho, hf2, hA⟩
      obtain ⟨g, rfl, _⟩ := ho.form (by decide)
      have hcell := ho.cell k (by omega)
      rw [HCX.out] at hcell
      go_wp2_with fail
      refine (HK.out _).mono ?_
      rintro e w3 ⟨rfl, hf3⟩
      go_wp2_with fail
      refine (HN.out _).mono ?_
      rintro e w4 ⟨rfl, hf4⟩
      go_wp2_with fail
      refine (HK2.out _).mono ?_
      rintro e w5 ⟨rfl, hf5⟩
      go_wp2_with fail
      refine (HC.out _).mono ?_
      rintro e w6 ⟨rfl, hf6⟩
      rw [HC1.out, HCAL.out]
      go_wp2_with fail
      refine (HK3.out _).mono ?_
      rintro e w7 ⟨rfl, hf7⟩
      go_wp2_with fail
      go_ret
      exact ⟨rfl, (((((hf1.trans hf2).trans hf3).trans hf4).trans hf5).trans hf6).trans hf7⟩
end Go.Proofs.YtcplmdheoagmcaaDoor
