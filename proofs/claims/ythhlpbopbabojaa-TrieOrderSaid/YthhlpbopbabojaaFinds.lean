/-
  TrieFinds, walked.
-/
import Derived.Test.YthhlpbopbabojaaRSort
import Derived.Test.YthhlpbopbabojaaRNew
import Derived.Test.YthhlpbopbabojaaSteps
import Derived.Test.YthhlpbopbabojaaSame
namespace Go.Proofs.Ythhlpbopbabojaa
open Go.RowKit

theorem txt_strs (l : List Pth) : txt l = (l.map str).map .string := by rw [txt, List.map_map]; rfl
theorem odd_size {L : List ByteArray} (h : L.any oddS = false) : ∀ s ∈ L, s.size ≤ 64 := fun s hs => by
  rw [List.any_eq_false] at h
  have := h s hs
  unfold oddS at this
  simp at this
  omega
theorem newE_odd {L : List ByteArray} {n : Nat} (h : ¬ 1000 < n) (ho : L.any oddS = true) : newE L n = 1 := by unfold newE; rw [if_neg h, if_pos ho]
theorem newE_there {L : List ByteArray} {n : Nat} (h : ¬ 1000 < n) (ho : L.any oddS = false) (hd : ¬ (L.map bs).Nodup) : newE L n = 5 := by unfold newE; rw [if_neg h, if_neg (by simp [ho]), if_neg hd]
theorem newE_ok {L : List ByteArray} {n : Nat} (h : ¬ 1000 < n) (ho : L.any oddS = false) (hd : (L.map bs).Nodup) : newE L n = 0 := by unfold newE; rw [if_neg h, if_neg (by simp [ho]), if_pos hd]

set_option maxRecDepth 100000 in
set_option maxHeartbeats 4000000 in
theorem finds_any (w : World) (A : Option Addr) (n c : Nat) (L : List ByteArray) (s : ByteArray) (hr : Reads w w.heap.size 1 A n (L.map .string)) (hn : n ≤ maxLen) :
    Calls Try.prog 5 #[.slice A n c, .string s] w fun e w' => e = .returned (.bool true) ∧ Fr Nil w w' := by
  have hl : L.length = n := by simpa using hr.1
  have HL := Lib.hid hl
  have HFW := Lib.hid (fun (w1 : World) (h : Fr Nil w w1) => few_any w1 A n c L w.heap.size (hr.fr h (Nat.le_refl _) fun _ x => x.elim) hn)
  clear hl
  cases hfew : fewB L with
  | false =>
    have HF := Lib.hid hfew
    clear hfew
    go_enter Try.func5, Try.ntmps5
    go_wp2_with fail
    refine (awake_any w).mono ?_
    rintro e w1 ⟨rfl, f1⟩
    go_wp2_with fail
    refine (HFW.out w1 f1).mono ?_
    rintro e w2 ⟨rfl, rfl⟩
    rw [HF.out]
    go_wp2_with fail
    go_ret
    exact ⟨rfl, f1⟩
  | true =>
    have hn120 := fewB_len hfew
    rw [HL.out] at hn120
    have HF := Lib.hid hfew
    clear hfew
    by_cases hb : 500 < s.size
    · have hb' : (500 : Int) < s.size := by omega
      go_enter Try.func5, Try.ntmps5
      go_wp2_with fail
      refine (awake_any w).mono ?_
      rintro e w1 ⟨rfl, f1⟩
      go_wp2_with fail
      refine (HFW.out w1 f1).mono ?_
      rintro e w2 ⟨rfl, rfl⟩
      rw [HF.out]
      go_wp2_with fail
      go_ret
      exact ⟨rfl, f1⟩
    · have hb' : ¬ (500 : Int) < s.size := by omega
      go_enter Try.func5, Try.ntmps5
      go_wp2_with fail
      refine (awake_any w).mono ?_
      rintro e w1 ⟨rfl, f1⟩
      go_wp2_with fail
      refine (HFW.out w1 f1).mono ?_
      rintro e w2 ⟨rfl, rfl⟩
      rw [HF.out]
      have hrW : ∀ W, Fr Nil w W → Reads W W.heap.size 1 A n (L.map .string) := fun W f => (hr.fr f (Nat.le_refl _) fun _ x => x.elim).more f.size
      have HRW := Lib.hid hrW
      clear hrW
      go_wp2_with fail
      refine (new_any w1 A n c L (HRW.out _ f1)).mono ?_
      rintro e w2 ⟨f2, hcase⟩
      have f := f1.trans f2
      have hrn := rnew_any w2 A n c L _ (HRW.out _ f) hn
      rcases hcase with ⟨hbig, _⟩ | ⟨_, hodd, rfl⟩ | ⟨_, hodd, hnd, rfl⟩ | ⟨_, hodd, hnd, b, P, ns, rfl, ht, hfu, hpl⟩
      · rw [HL.out] at hbig; omega
      · rw [newE_odd (by omega) hodd] at hrn
        have HRN := Lib.hid hrn
        clear hrn hodd
        go_wp2_with fail
        refine HRN.out.mono ?_
        rintro e w3 ⟨rfl, m, rfl⟩
        go_wp2_with fail
        go_ret
        exact ⟨rfl, f.drewN m⟩
      · rw [newE_there (by omega) hodd hnd] at hrn
        have HRN := Lib.hid hrn
        clear hrn hodd hnd
        go_wp2_with fail
        refine HRN.out.mono ?_
        rintro e w3 ⟨rfl, m, rfl⟩
        go_wp2_with fail
        go_ret
        exact ⟨rfl, f.drewN m⟩
      · rw [newE_ok (by omega) hodd hnd] at hrn
        have HRN := Lib.hid hrn
        have hsz := odd_size hodd
        have hsm : s.size ≤ 1048576 := by omega
        have htW : ∀ W, Fr Nil w2 W → TrieAt W w1.heap.size b L P ns := fun W g => ht.fr g fun _ _ _ x => x
        have HTF := Lib.hid (fun W (g : Fr Nil w2 W) => tfind_any W _ b s hsm L P ns (htW W g) hfu (not_odd_nil hodd))
        have HRF := Lib.hid (fun W (g : Fr Nil w W) => rfind_any W A n c L _ s (HRW.out W g) (by omega))
        have HTL := Lib.hid (fun W (g : Fr Nil w2 W) => longest_any W _ b s hsm L P ns (htW W g) hfu)
        have HRL := Lib.hid (fun W (g : Fr Nil w W) => rlong_any W A n c L _ s (HRW.out W g) (by omega) hsm (fun x hx => by have := hsz x hx; omega) hnd)
        have HTS := Lib.hid (fun W (g : Fr Nil w2 W) => tsorted_any W _ b L P ns (htW W g) hfu hnd hsz (by rw [HL.out]; omega))
        have HRS := Lib.hid (fun W (g : Fr Nil w W) => rsort_any W A n c L (HRW.out W g) (by omega))
        rw [HL.out] at HTS
        obtain ⟨l, hl⟩ : ∃ l, l = insAll (L.map bs) := ⟨_, rfl⟩
        rw [← hl] at HTS HRS
        generalize findR (L.map bs) (bs s) = F at HTF HRF
        generalize longR (L.map bs) (bs s) = G at HTL HRL
        obtain ⟨F1, F2⟩ := F
        obtain ⟨G1, G2⟩ := G
        clear hrn hodd hnd hsz htW ht hfu hpl hl
        have g0 := Fr.rfl' Nil w2
        go_wp2_with fail
        refine HRN.out.mono ?_
        rintro e w3 ⟨rfl, m, rfl⟩
        have f := f.drewN m
        have g := g0.drewN m
        generalize w2.drewN m = w3 at *
        go_wp2_with fail
        refine (HTF.out _ g).mono ?_
        rintro e w4 ⟨rfl, h4⟩
        have f := f.trans h4
        have g := g.trans h4
        go_wp2_with fail
        refine (HRF.out _ f).mono ?_
        rintro e w5 ⟨rfl, rfl⟩
        go_wp2_with fail
        refine (HTL.out _ g).mono ?_
        rintro e w6 ⟨rfl, h6⟩
        have f := f.trans h6
        have g := g.trans h6
        go_wp2_with fail
        refine (HRL.out _ f).mono ?_
        rintro e w7 ⟨rfl, rfl⟩
        have q1 : (F1 == F1) = true := by simp
        have q2 : (F2 == F2) = true := by simp
        have q3 : (G1 == G1) = true := by simp
        have q4 : (G2 == G2) = true := by simp
        go_wp2_with fail
        refine (HTS.out _ g).mono ?_
        rintro e w8 ⟨A1, c1, rfl, o1, f8, _⟩
        have f := f.trans f8
        go_wp2_with fail
        refine (HRS.out _ f).mono ?_
        rintro e w9 ⟨A2, c2, rfl, o2, f9, _⟩
        have f := f.trans f9
        have hs := same_yes w9 _ _ A1 A2 n c1 c2 (l.map str) (by rw [← txt_strs]; exact (o1.fr f9 fun _ _ h => h).reads) (by rw [← txt_strs]; exact o2.reads) (by omega)
        have HS := Lib.hid hs
        clear hs o1 o2
        go_wp2_with fail
        refine HS.out.mono ?_
        rintro e w10 ⟨rfl, m2, rfl⟩
        go_wp2_with fail
        go_ret
        exact ⟨rfl, f.drewN m2⟩
end Go.Proofs.Ythhlpbopbabojaa
