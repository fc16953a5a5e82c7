/-
  The law of chapter 22 at two lists, SerialApart, walked.
-/
import Derived.Test.YtblbcojkjknfdaaAwk
import Derived.Test.YtblbcojkjknfdaaApartP
namespace Go.Proofs.Ytblbcojkjknfdaa
open Go.RowKit

set_option maxRecDepth 100000 in
set_option maxHeartbeats 4000000 in
theorem law_apart (w : World) (A A2 : Option Addr) (n c n2 c2 : Nat) (l l2 : List Tok) (h : Toks w w.heap.size A n l) (h2 : Toks w w.heap.size A2 n2 l2) (hn : n ≤ maxLen) (hn2 : n2 ≤ maxLen)
    (hs : ∀ W, Toks W W.heap.size A n l → Toks W W.heap.size A2 n2 l2 → Calls Try.prog 14 #[.slice A n c, .slice A2 n2 c2] W fun e w' => e = .returned (.bool (decide (l.map key = l2.map key))) ∧ Fr Nil W w') :
    Calls Try.prog 4 #[.slice A n c, .slice A2 n2 c2] w fun e w' => e = .returned (.bool true) ∧ Fr Nil w w' := by
  have HAW := Lib.hid (awake_any w)
  have hT : ∀ W, Fr Nil w W → Toks W W.heap.size A n l := fun W g => by
    have := h.fr g (Nat.le_refl _) fun _ x => x.elim
    exact ⟨this.len, this.reads.more g.size, fun t ht => (this.ok t ht).more g.size⟩
  have hT2 : ∀ W, Fr Nil w W → Toks W W.heap.size A2 n2 l2 := fun W g => by
    have := h2.fr g (Nat.le_refl _) fun _ x => x.elim
    exact ⟨this.len, this.reads.more g.size, fun t ht => (this.ok t ht).more g.size⟩
  have HF1 := Lib.hid (fun W (g : Fr Nil w W) => few_any W A n c l (hT W g) hn)
  have HF2 := Lib.hid (fun W (g : Fr Nil w W) => few_any W A2 n2 c2 l2 (hT2 W g) hn2)
  have HS := Lib.hid (fun W (g : Fr Nil w W) => hs W (hT W g) (hT2 W g))
  have HT := Lib.hid (And.intro hT hT2)
  have HL := Lib.hid (And.intro h.len h2.len)
  have HO := Lib.hid (show (∀ t ∈ l, t.ats.length = t.n) ∧ (∀ t ∈ l2, t.ats.length = t.n) from ⟨fun t ht => (h.ok t ht).len, fun t ht => (h2.ok t ht).len⟩)
  clear hT hT2 h h2 hn hn2 hs
  go_enter Try.func4, Try.ntmps4
  go_wp2_with fail
  refine HAW.out.mono ?_
  rintro e w1 ⟨rfl, f1⟩
  go_wp2_with fail
  refine (HF1.out _ f1).mono ?_
  rintro e w2 ⟨f2, b1, rfl, hb1⟩
  go_wp2_with fail
  refine (HF2.out _ (f1.trans f2)).mono ?_
  rintro e w3 ⟨f3, b2, rfl, hb2⟩
  have f := (f1.trans f2).trans f3
  clear f1 f2 f3
  cases b1 with
  | false =>
    clear hb1 hb2
    cases b2 <;> (go_wp2_with fail; go_ret; exact ⟨rfl, f⟩)
  | true =>
    cases b2 with
    | false => clear hb1 hb2; go_wp2_with fail; go_ret; exact ⟨rfl, f⟩
    | true =>
      have few1 := hb1 rfl
      have few2 := hb2 rfl
      have HP1 := Lib.hid (fun W (g : Fr Nil w W) => apart_any W A n c l (HT.out.1 W g) (by rw [← HL.out.1]; exact few1.1) (fun t ht => by have := (few1.2 t ht).n; omega))
      have HP2 := Lib.hid (fun W (g : Fr Nil w W) => apart_any W A2 n2 c2 l2 (HT.out.2 W g) (by rw [← HL.out.2]; exact few2.1) (fun t ht => by have := (few2.2 t ht).n; omega))
      have HA1 := Lib.hid (fun W (g : Fr Nil w W) => all_any W A n c l (HT.out.1 W g) few1)
      have HA2 := Lib.hid (fun W (g : Fr Nil w W) => all_any W A2 n2 c2 l2 (HT.out.2 W g) few2)
      clear hb1 hb2 few1 few2 HF1 HF2 HAW HT
      have HI := Lib.hid (fun h1 h2 => all_iff HO.out.1 HO.out.2 h1 h2)
      generalize hp : apartB false l = p at HP1 HI
      generalize hq : apartB false l2 = q at HP2 HI
      clear hp hq
      go_wp2_with fail
      refine (HP1.out _ f).mono ?_
      rintro e w4 ⟨rfl, f4⟩
      have f := f.trans f4
      go_wp2_with fail
      refine (HP2.out _ f).mono ?_
      rintro e w5 ⟨rfl, f5⟩
      have f := f.trans f5
      cases p with
      | false => clear HI; cases q <;> (go_wp2_with fail; go_ret; exact ⟨rfl, f⟩)
      | true =>
        cases q with
        | false => clear HI; go_wp2_with fail; go_ret; exact ⟨rfl, f⟩
        | true =>
          have hi := HI.out rfl rfl
          clear HI
          by_cases hk : l.map key = l2.map key
          · have ha := hi.2 hk
            rw [decide_eq_true hk] at HS
            rw [← ha] at HA2
            have q2 := str_beq_self (str (allB l))
            generalize str (allB l) = s at HA1 HA2 q2
            clear hi hk ha
            go_wp2_with fail
            refine (HA1.out _ f).mono ?_
            rintro e w6 ⟨rfl, f6⟩
            have f := f.trans f6
            go_wp2_with fail
            refine (HA2.out _ f).mono ?_
            rintro e w7 ⟨rfl, f7⟩
            have f := f.trans f7
            go_wp2_with fail
            refine (HS.out _ f).mono ?_
            rintro e w8 ⟨rfl, f8⟩
            have f := f.trans f8
            go_wp2_with fail
            go_ret
            exact ⟨rfl, f⟩
          · have ha : str (allB l) ≠ str (allB l2) := fun h => hk (hi.1 (str_inj h))
            rw [decide_eq_false hk] at HS
            have q2 := str_beq_ne ha
            generalize str (allB l) = s at HA1 q2
            generalize str (allB l2) = s2 at HA2 q2
            clear hi hk ha
            go_wp2_with fail
            refine (HA1.out _ f).mono ?_
            rintro e w6 ⟨rfl, f6⟩
            have f := f.trans f6
            go_wp2_with fail
            refine (HA2.out _ f).mono ?_
            rintro e w7 ⟨rfl, f7⟩
            have f := f.trans f7
            go_wp2_with fail
            refine (HS.out _ f).mono ?_
            rintro e w8 ⟨rfl, f8⟩
            have f := f.trans f8
            go_wp2_with fail
            go_ret
            exact ⟨rfl, f⟩
end Go.Proofs.Ytblbcojkjknfdaa
