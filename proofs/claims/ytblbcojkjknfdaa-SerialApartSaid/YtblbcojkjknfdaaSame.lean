/-
  cribbleref18.Same, walked.
-/
import Derived.Test.YtblbcojkjknfdaaSameA
import Derived.Test.YtblbcojkjknfdaaKeyP
import Derived.Deep.RegionHeld3
import Derived.BigQuiet
namespace Go.Proofs.Ytblbcojkjknfdaa
open Go.RowKit

def SmI (w : World) (l1 l2 : List Tok) (n : Nat) (s5 : Value) (wr : World) : Prop := ∃ k : Nat, k ≤ n ∧ s5 = .int .i64 k ∧ (l1.map key).take k = (l2.map key).take k ∧ Fr Nil w wr
theorem fr_drewN (w : World) (m : Nat) : Fr Nil w (w.drewN m) := by
  induction m with
  | zero => exact Fr.rfl' Nil w
  | succ m ih => exact ih.drew
theorem cells_fr {wr W : World} {ad : Addr} {k : Nat} {a b c d e : Value} (g : Fr Nil wr W) (hbl : ad.block < wr.heap.size)
    (h : wr.cell? (ad.add (k * 5)) = some a ∧ wr.cell? ⟨(ad.add (k * 5)).block, (ad.add (k * 5)).off + 1, none⟩ = some b ∧ wr.cell? ⟨(ad.add (k * 5)).block, (ad.add (k * 5)).off + 2, none⟩ = some c ∧ wr.cell? ⟨(ad.add (k * 5)).block, (ad.add (k * 5)).off + 3, none⟩ = some d ∧ wr.cell? ⟨(ad.add (k * 5)).block, (ad.add (k * 5)).off + 4, none⟩ = some e) :
    W.cell? (ad.add (k * 5)) = some a ∧ W.cell? ⟨(ad.add (k * 5)).block, (ad.add (k * 5)).off + 1, none⟩ = some b ∧ W.cell? ⟨(ad.add (k * 5)).block, (ad.add (k * 5)).off + 2, none⟩ = some c ∧ W.cell? ⟨(ad.add (k * 5)).block, (ad.add (k * 5)).off + 3, none⟩ = some d ∧ W.cell? ⟨(ad.add (k * 5)).block, (ad.add (k * 5)).off + 4, none⟩ = some e := by
  have hb2 : (ad.add (k * 5)).block < wr.heap.size := by rw [block_of_add]; exact hbl
  obtain ⟨k0, k1, k2, k3, k4⟩ := h
  exact ⟨(g.cell (p := ad.add (k * 5)) hb2 fun h => h).trans k0, (g.cell (p := ⟨_, _, none⟩) hb2 fun h => h).trans k1, (g.cell (p := ⟨_, _, none⟩) hb2 fun h => h).trans k2, (g.cell (p := ⟨_, _, none⟩) hb2 fun h => h).trans k3, (g.cell (p := ⟨_, _, none⟩) hb2 fun h => h).trans k4⟩

set_option maxRecDepth 100000 in
set_option maxHeartbeats 16000000 in
theorem same_any (w : World) (A1 A2 : Option Addr) (n1 n2 c1 c2 : Nat) (l1 l2 : List Tok) (h1 : Toks w w.heap.size A1 n1 l1) (h2 : Toks w w.heap.size A2 n2 l2) (hn : n1 ≤ maxLen) (hn2 : n2 ≤ maxLen) :
    Calls Try.prog 14 #[.slice A1 n1 c1, .slice A2 n2 c2] w fun e w' => e = .returned (.bool (decide (l1.map key = l2.map key))) ∧ Fr Nil w w' := by
  unfold maxLen at hn hn2
  have e1 : (l1.map key).length = n1 := by rw [List.length_map, h1.len]
  have e2 : (l2.map key).length = n2 := by rw [List.length_map, h2.len]
  have E := Lib.hid (And.intro e1 e2)
  clear e1 e2
  go_enter Try.func14, Try.ntmps14
  by_cases hne : n1 = n2
  · subst hne
    go_wp2_with fail
    go_loopw [5] (fun s5 wr => SmI w l1 l2 n1 s5 wr) (fun i _ => n1 - (intOf i).toNat)
    case atStart => exact ⟨0, Nat.zero_le _, rfl, rfl, Fr.rfl' _ w⟩
    case round =>
      obtain ⟨k, hk, rfl, htk, hf⟩ := hrel
      by_cases hlt : k < n1
      · obtain ⟨ad, t, rfl, hab, ht, hok, k0, k1, k2, k3, k4⟩ := tok_at (h1.fr hf (Nat.le_refl _) fun _ x => x.elim) hlt
        obtain ⟨bd, u, rfl, hbb, hu, huk, j0, j1, j2, j3, j4⟩ := tok_at (h2.fr hf (Nat.le_refl _) fun _ x => x.elim) hlt
        have hbl : ad.block < wr.heap.size := by have := hf.size; omega
        have hbl2 : bd.block < wr.heap.size := by have := hf.size; omega
        have KK := Lib.hid (fun W (g : Fr Nil wr W) => And.intro (cells_fr g hbl ⟨k0, k1, k2, k3, k4⟩) (cells_fr g hbl2 ⟨j0, j1, j2, j3, j4⟩))
        have hA0 : ∀ W, Fr Nil wr W → Calls Try.prog 26 #[.slice t.A t.n t.c, .slice u.A u.n u.c] W fun e w' => e = .returned (.bool (decide (t.ats = u.ats))) ∧ Fr Nil W w' := fun W g => by
          have o1 := hok.fr g hf.size fun _ x => x.elim
          have o2 := huk.fr g hf.size fun _ x => x.elim
          refine (attrs_any W _ _ t.A u.A t.n u.n t.c u.c t.ats u.ats o1.reads o1.len o2.reads o2.len (Nat.le_trans o1.cap.1 o1.cap.2) (Nat.le_trans o2.cap.1 o2.cap.2)).mono ?_
          rintro e w' ⟨rfl, m, rfl⟩
          exact ⟨rfl, fr_drewN W m⟩
        have HA := Lib.hid hA0
        clear hA0
        have hX0 : (l1.map key)[k]? = some (key t) ∧ (l2.map key)[k]? = some (key u) := ⟨by rw [List.getElem?_map, ht]; rfl, by rw [List.getElem?_map, hu]; rfl⟩
        have HX := Lib.hid hX0
        clear hX0
        have HT := Lib.hid htk
        clear ht hu hok huk hab hbb htk
        obtain ⟨kd, nm, dt, tA, tn, tc, ats, sf⟩ := t
        obtain ⟨kd', nm', dt', uA, un, uc, ats', sf'⟩ := u
        dsimp only at k0 k1 k2 k3 k4 j0 j1 j2 j3 j4 KK HA
        generalize hb : decide (ats = ats') = b at HA
        have H12 := Lib.hid (And.intro h1 h2)
        clear h1 h2
        by_cases ee0 : kd = kd'
        · subst ee0
          by_cases ee1 : nm = nm'
          · subst ee1
            have q1 := str_beq_self nm
            by_cases ee2 : dt = dt'
            · subst ee2
              have q2 := str_beq_self dt
              by_cases ee3 : sf = sf'
              · subst ee3
                have q3 : (sf != sf) = false := by simp
                have hb := Lib.hid hb
                clear k0 k1 k2 k3 k4 j0 j1 j2 j3 j4
                have KP := Lib.hid (fun W (g : Fr Nil wr W) => (show (W.cell? (ad.add (k * 5)) = some (.int .i64 kd) ∧ W.cell? ⟨(ad.add (k * 5)).block, (ad.add (k * 5)).off + 1, none⟩ = some (.string nm) ∧ W.cell? ⟨(ad.add (k * 5)).block, (ad.add (k * 5)).off + 2, none⟩ = some (.string dt) ∧ W.cell? ⟨(ad.add (k * 5)).block, (ad.add (k * 5)).off + 3, none⟩ = some (.slice tA tn tc) ∧ W.cell? ⟨(ad.add (k * 5)).block, (ad.add (k * 5)).off + 4, none⟩ = some (.bool sf)) ∧ (W.cell? (bd.add (k * 5)) = some (.int .i64 kd) ∧ W.cell? ⟨(bd.add (k * 5)).block, (bd.add (k * 5)).off + 1, none⟩ = some (.string nm) ∧ W.cell? ⟨(bd.add (k * 5)).block, (bd.add (k * 5)).off + 2, none⟩ = some (.string dt) ∧ W.cell? ⟨(bd.add (k * 5)).block, (bd.add (k * 5)).off + 3, none⟩ = some (.slice uA un uc) ∧ W.cell? ⟨(bd.add (k * 5)).block, (bd.add (k * 5)).off + 4, none⟩ = some (.bool sf)) from ⟨⟨(KK.out W g).1.1, (KK.out W g).1.2.1, (KK.out W g).1.2.2.1, (KK.out W g).1.2.2.2.1, (KK.out W g).1.2.2.2.2⟩, ⟨(KK.out W g).2.1, (KK.out W g).2.2.1, (KK.out W g).2.2.2.1, (KK.out W g).2.2.2.2.1, (KK.out W g).2.2.2.2.2⟩⟩))
                clear KK
                go_wp2_with fail
                go_region_held3 (fun W => (W.cell? (ad.add (k * 5)) = some (.int .i64 kd) ∧ W.cell? ⟨(ad.add (k * 5)).block, (ad.add (k * 5)).off + 1, none⟩ = some (.string nm) ∧ W.cell? ⟨(ad.add (k * 5)).block, (ad.add (k * 5)).off + 2, none⟩ = some (.string dt) ∧ W.cell? ⟨(ad.add (k * 5)).block, (ad.add (k * 5)).off + 3, none⟩ = some (.slice tA tn tc) ∧ W.cell? ⟨(ad.add (k * 5)).block, (ad.add (k * 5)).off + 4, none⟩ = some (.bool sf)) ∧ (W.cell? (bd.add (k * 5)) = some (.int .i64 kd) ∧ W.cell? ⟨(bd.add (k * 5)).block, (bd.add (k * 5)).off + 1, none⟩ = some (.string nm) ∧ W.cell? ⟨(bd.add (k * 5)).block, (bd.add (k * 5)).off + 2, none⟩ = some (.string dt) ∧ W.cell? ⟨(bd.add (k * 5)).block, (bd.add (k * 5)).off + 3, none⟩ = some (.slice uA un uc) ∧ W.cell? ⟨(bd.add (k * 5)).block, (bd.add (k * 5)).off + 4, none⟩ = some (.bool sf)))
                  (first | exact KP.out _ g2 | exact KP.out _ (Fr.rfl' Nil wr).drew)
                  (first
                  | (go_at_call 26; refine (HA.out _ (Fr.rfl' Nil wr).drew).mono ?_; rintro e u2 ⟨rfl, g2⟩; have g2 := (Fr.rfl' Nil wr).drew.trans g2))
                all_goals
                  cases b with
                  | true =>
                    have hy := of_decide_eq_true hb.out
                    have HT := Lib.hid (take_eq HT.out HX.out.1 HX.out.2 (by unfold key; dsimp only; rw [hy]))
                    clear hy
                    go_wp2_with fail
                    go_roundw
                    case rel => exact ⟨k + 1, by omega, by go_num, HT.out, hf.trans g2⟩
                    case measure => simp [intOf]; omega
                  | false =>
                    have hd := Lib.hid (list_ne HX.out.1 HX.out.2 (by intro h; exact of_decide_eq_false hb.out (by injection h with _ h; injection h with _ h; injection h with _ h; injection h)))
                    go_wp2_with fail
                    go_ret
                    exact ⟨by rw [hd.out]; rfl, hf.trans g2⟩
              · have hd := Lib.hid (list_ne HX.out.1 HX.out.2 (by intro h; exact ee3 (by injection h with _ h; injection h with _ h; injection h with _ h; injection h)))
                have q3 : (sf != sf') = true := by simpa using ee3
                have q3b : (sf == sf') = false := by simpa using ee3
                have q3c : decide (sf = sf') = false := decide_eq_false ee3
                have q3d : (!decide (sf = sf')) = true := by rw [q3c]; rfl
                clear hb
                clear KK HA
                go_wp2_with fail
                go_quiet (fail)
                all_goals
                  go_wp2_with fail
                  go_ret
                  exact ⟨by rw [hd.out]; rfl, hf.trans (fr_drewN wr _)⟩
            · have hd := Lib.hid (list_ne HX.out.1 HX.out.2 (by intro h; exact ee2 (by injection h with _ h; injection h with _ h; injection h)))
              have q2 := str_beq_ne ee2
              have q2b : decide (dt.toList = dt'.toList) = false := decide_eq_false (by intro h; rw [h] at q2; simp at q2)
              have q2c : ¬ dt.toList = dt'.toList := of_decide_eq_false q2b
              clear hb ee2
              clear KK HA
              go_wp2_with fail
              go_quiet (fail)
              all_goals
                go_wp2_with fail
                go_ret
                exact ⟨by rw [hd.out]; rfl, hf.trans (fr_drewN wr _)⟩
          · have hd := Lib.hid (list_ne HX.out.1 HX.out.2 (by intro h; exact ee1 (by injection h with _ h; injection h)))
            have q1 := str_beq_ne ee1
            have q1b : decide (nm.toList = nm'.toList) = false := decide_eq_false (by intro h; rw [h] at q1; simp at q1)
            have q1c : ¬ nm.toList = nm'.toList := of_decide_eq_false q1b
            clear hb ee1
            clear KK HA
            go_wp2_with fail
            go_quiet (fail)
            all_goals
              go_wp2_with fail
              go_ret
              exact ⟨by rw [hd.out]; rfl, hf.trans (fr_drewN wr _)⟩
        · have hd := Lib.hid (list_ne HX.out.1 HX.out.2 (by intro h; exact ee0 (by injection h)))
          have q0 : (kd == kd') = false := by simpa using ee0
          have q0b : decide (kd = kd') = false := decide_eq_false ee0
          have q0c : (kd != kd') = true := by simpa using ee0
          have q0d : decide (¬ kd = kd') = true := decide_eq_true ee0
          have q0e : (!decide (kd = kd')) = true := by rw [q0b]; rfl
          have q0f : decide (kd ≠ kd') = true := decide_eq_true ee0
          clear hb
          clear KK HA
          go_wp2_with fail
          go_quiet (fail)
          all_goals
            go_wp2_with fail
            go_ret
            exact ⟨by rw [hd.out]; rfl, hf.trans (fr_drewN wr _)⟩
      · obtain rfl : k = n1 := by omega
        go_wp2_with fail
        go_ret
        exact ⟨by rw [List.take_of_length_le (by rw [E.out.1]; exact Nat.le_refl _), List.take_of_length_le (by rw [E.out.2]; exact Nat.le_refl _)] at htk; simp [htk], hf⟩
  · have hd : decide (l1.map key = l2.map key) = false := decide_eq_false (by intro h; have := congrArg List.length h; rw [E.out.1, E.out.2] at this; exact hne this)
    rw [hd]
    have hz : ¬ (n1 : Int) = n2 := by omega
    go_wp2_with fail
    go_ret
    exact ⟨rfl, Fr.rfl' _ w⟩
end Go.Proofs.Ytblbcojkjknfdaa
