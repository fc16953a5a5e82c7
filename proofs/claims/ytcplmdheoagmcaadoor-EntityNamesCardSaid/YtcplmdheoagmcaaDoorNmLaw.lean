/-
  EntityNames, walked.
-/
import Derived.Test.YtcplmdheoagmcaaDoorRCalled
import Derived.Test.YtcplmdheoagmcaaDoorRNames
import Derived.Test.YtcplmdheoagmcaaDoorSame
import Derived.Test.YtcplmdheoagmcaaDoorLaid
namespace Go.Proofs.YtcplmdheoagmcaaDoor
open Go.RowKit

def refN : List Pth := (namesOf rowsR).map fun x => x.1.1
theorem refN_nodup : refN.Nodup := of_decide_eq_true (by kernel_rfl)
theorem refN_perm : refN.Perm namS := (List.perm_ext_iff_of_nodup refN_nodup namS_nodup).2 fun q => by
  constructor
  · intro h
    obtain ⟨x, hx, rfl⟩ := List.mem_map.1 h
    exact List.mem_map.2 ⟨x.1, allS_perm.mem_iff.2 (ref_mem hx), rfl⟩
  · intro h
    obtain ⟨x, hx, rfl⟩ := List.mem_map.1 h
    obtain ⟨r, hr, hrx⟩ := List.mem_map.1 (refE_mem.2 x (allS_perm.mem_iff.1 hx))
    exact List.mem_map.2 ⟨r, hr, by rw [hrx]⟩
theorem namS_asc : Asc namS := List.pairwise_map.2 allS_sorted
theorem refN_sorted : insAll refN = namS := asc_unique ((insAll_spec refN).1.trans refN_perm) (insAll_spec refN).2 namS_asc
theorem txt_names : txt namS = namL.map .string := by rw [txt, namS, namL, List.map_map, List.map_map]; rfl
theorem rnm_names (w : World) : Calls Tryd.prog 20 #[] w fun e w' => ∃ A c, e = .returned (.slice A 134 c) ∧ Own w' 9 1 A 134 c (namL.map .string) ∧ Fr Nil w w' := by
  have h := rnm_any w (namesOf rowsR) refN rfl refE_len rnames_any
  rw [refN_sorted, txt_names] at h
  exact h
theorem nm_names (w : World) : Calls Tryd.prog 10 #[] w fun e w' => ∃ A c, e = .returned (.slice A 134 c) ∧ Own w' 9 1 A 134 c (namL.map .string) ∧ Fr Nil w w' := by
  refine (names_any w).mono ?_
  rintro e w' ⟨A, c, he, ho, hf, _⟩
  rw [← namL_cells] at ho
  exact ⟨A, c, he, ho, hf⟩

set_option maxRecDepth 100000 in
set_option maxHeartbeats 4000000 in
theorem law_names (w : World) (hO : Old w) (s : ByteArray) : Calls Tryd.prog 8 #[.string s] w fun e w' => e = .returned (.bool true) ∧ Fr Nil w w' := by
  by_cases hz : 500 < s.size
  · have hz' : (500 : Int) < s.size := by omega
    go_enter Tryd.func8, Tryd.ntmps8
    go_wp2_with (go_at_call 9; refine (awake_any w hO).mono ?_; rintro e w1 ⟨rfl, hf1⟩)
    go_ret
    exact ⟨rfl, hf1⟩
  · have hz' : ¬ (500 : Int) < s.size := by omega
    have h1 := fun w => known_any w (bs s)
    have h2 := fun w => rknown_any w (bs s)
    have h3 := fun w => called_any w (bs s)
    have h4 := fun w => rcalled_any w (bs s)
    rw [str_bs] at h1 h2 h3 h4
    generalize knownP (bs s) = r at h1 h2
    generalize calledR (bs s) = t at h3 h4
    obtain ⟨r1, r2⟩ := r
    obtain ⟨t1, t2⟩ := t
    have q1 := str_beq_self (str r1)
    have q2 := str_beq_self (str t1)
    have b1 : (r2 == r2) = true := by simp
    have b2 : (t2 == t2) = true := by simp
    have H1 := Lib.hid h1
    have H2 := Lib.hid h2
    have H3 := Lib.hid h3
    have H4 := Lib.hid h4
    have H5 := Lib.hid nm_names
    have H6 := Lib.hid rnm_names
    have H7 := Lib.hid same_yes
    clear h1 h2 h3 h4
    generalize namL = l at H5 H6
    go_enter Tryd.func8, Tryd.ntmps8
    go_wp2_with fail
    refine (awake_any w hO).mono ?_
    rintro e w1 ⟨rfl, hf1⟩
    go_wp2_with fail
    refine (H1.out _).mono ?_
    rintro e w2 ⟨rfl, hf2⟩
    go_wp2_with fail
    refine (H2.out _).mono ?_
    rintro e w3 ⟨rfl, hf3⟩
    go_wp2_with fail
    refine (H3.out _).mono ?_
    rintro e w4 ⟨rfl, hf4⟩
    go_wp2_with fail
    refine (H4.out _).mono ?_
    rintro e w5 ⟨rfl, hf5⟩
    go_wp2_with fail
    refine (H5.out _).mono ?_
    rintro e w6 ⟨A6, c6, rfl, ho6, hf6⟩
    go_wp2_with fail
    refine (H6.out _).mono ?_
    rintro e w7 ⟨A7, c7, rfl, ho7, hf7⟩
    go_wp2_with fail
    refine (H7.out _ _ _ _ _ _ _ _ l (ho6.fr hf7 fun _ _ h => h).reads ho7.reads (by decide)).mono ?_
    rintro e w8 ⟨rfl, m, rfl⟩
    go_wp2_with fail
    go_ret
    exact ⟨rfl, ((((((hf1.trans hf2).trans hf3).trans hf4).trans hf5).trans hf6).trans hf7).drewN m⟩
end Go.Proofs.YtcplmdheoagmcaaDoor
