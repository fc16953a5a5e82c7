/-
  The law DecodeJoins, walked.
-/
import Derived.Test.YtlgffgmfaejmeaaSes
import Derived.Deep.CutRange
namespace Go.Proofs.Ytlgffgmfaejmeaa
open Go.RowKit

theorem low_step (h : List UInt8) (y : UInt8) (hy : y.toNat < 128) : dOut h [y] = clo h ++ [y] ∧ dHeld h [y] = [] := by
  have hf : fresh y = ([y], []) := by rw [fresh, if_pos hy]
  cases h with
  | nil => simp [dOut, dHeld, step, hf, clo]
  | cons f t =>
    have hn : ¬ fitsN f.toNat (t.length + 1) y.toNat = true := fun hh => by have := fits_range hh; omega
    simp [dOut, dHeld, step, hf, clo, hn]

theorem joins_big (w : World) (A1 A2 : Option Addr) (n1 c1 n2 c2 : Nat) (x : UInt8) (hb : 1000 < n1 ∨ 1000 < n2) :
    Calls Try.prog 9 #[.slice A1 n1 c1, .slice A2 n2 c2, .int .u8 (x.toNat : Int)] w fun e w' => e = .returned (.bool true) ∧ Fr Nil w w' := by
  have hno : (1000 : Int) < n1 ∨ ¬ (1000 : Int) < n1 ∧ (1000 : Int) < n2 := by omega
  have HNO := Lib.hid hno
  clear hno hb
  rcases HNO.out with h1 | ⟨h1, h2⟩
  all_goals
    go_enter Try.func9, Try.ntmps9
    go_wp2_with fail
    refine (awake_any _).mono ?_
    rintro e w1 ⟨rfl, f1⟩
    go_wp2_with fail
    refine (new_ses w _ f1).mono ?_
    rintro e w2 ⟨b, rfl, s2⟩
    go_wp2_with fail
    go_ret
    exact ⟨rfl, s2.frame⟩

set_option maxHeartbeats 1600000 in
set_option maxRecDepth 100000 in
theorem joins_any (w : World) (A1 A2 : Option Addr) (n1 c1 n2 c2 : Nat) (la lb : List UInt8) (x : UInt8)
    (hr1 : Reads w w.heap.size 1 A1 n1 (cellsOf la)) (hr2 : Reads w w.heap.size 1 A2 n2 (cellsOf lb)) :
    Calls Try.prog 9 #[.slice A1 n1 c1, .slice A2 n2 c2, .int .u8 (x.toNat : Int)] w fun e w' => e = .returned (.bool true) ∧ Fr Nil w w' := by
  by_cases hb : 1000 < n1 ∨ 1000 < n2
  · exact joins_big w A1 A2 n1 c1 n2 c2 x hb
  · have hn1 : ¬ (1000 : Int) < n1 := by omega
    have hn2 : ¬ (1000 : Int) < n2 := by omega
    have hl1 := reads_len hr1
    have hl2 := reads_len hr2
    obtain ⟨y, hy⟩ : ∃ y : UInt8, y.toNat = x.toNat % 128 := ⟨UInt8.ofNat (x.toNat % 128), by rw [UInt8.toNat_ofNat_of_lt' (by show x.toNat % 128 < 256; omega)]⟩
    have hy1 : y.toNat < 128 := by omega
    have hrem : (x.toNat : Int).tmod 128 = (y.toNat : Int) := by rw [Int.tmod_eq_emod_of_nonneg (by omega)]; omega
    have hrem2 : (x.toNat : Int) % 128 = (y.toNat : Int) := by omega
    clear hy
    obtain ⟨e1, e2⟩ := low_step (dHeld [] la) y hy1
    have HY := Lib.hid (And.intro e1 e2)
    clear e1 e2
    have hcv : ∀ (W' : World), Fr Nil w W' → (convert 22 9 (.slice A1 n1 c1)).run Try.prog W' = .ok (.string (str la)) W' := fun W' hf =>
      run_string_of (P := Try.prog) (src := 22) (dst := 9) (e := 5) (c := c1) Try.underlying22 Try.underlying5 Try.underlying9 (hr1.frAt (Nat.le_refl _) hf (fun _ _ h => h))
    have HCV := Lib.hid hcv
    clear hcv
    go_enter Try.func9, Try.ntmps9
    go_wp2_with fail
    refine (awake_any _).mono ?_
    rintro e w1 ⟨rfl, f1⟩
    go_wp2_with fail
    refine (new_ses w _ f1).mono ?_
    rintro e w2 ⟨b, rfl, s2⟩
    have hlit := Own.lit (e := 5) (size := 1) w2 #[] 0 (by unfold maxLen; omega) rfl
    have q1 := hr1.frAt (Nat.le_refl _) (s2.frame.alloc (.cells #[] 5)) (fun _ _ h => h)
    go_wp2_with (
      at_builtin
      first
        | (refine wpList_append _ rfl (.tmp 32) (.tmp 33) 22 rfl 5 (.int .u8 0) 1 1 Try.underlying22 infoByte rfl (by decide) (some ⟨w2.heap.size, 0, none⟩) 0 0 [] rfl hlit
             w.heap.size A1 n1 c1 (cellsOf la) rfl q1 (cellsOf_one la) (by unfold maxLen; omega) (by omega) ?_
           rw [List.nil_append, Nat.zero_add]
           intro A3 c3 w3 hown3 hfr3 hat3
           have g3 : Fr Nil w w3 := (s2.frame.alloc (.cells #[] 5)).trans' hfr3 (fun k hk hA => by
             obtain ⟨g, hg, rfl⟩ := hA
             injection hg with hg
             subst hg
             have := s2.frame.size
             simp at hk
             omega)
           have k3 : Fr Nil w2 w3 := ((Fr.rfl' Nil w2).alloc (.cells #[] 5)).trans' hfr3 (fun k hk hA => by
             obtain ⟨g, hg, rfl⟩ := hA
             injection hg with hg
             subst hg
             simp at hk)
           have q2 := hr2.frAt (Nat.le_refl _) g3 (fun _ _ h => h))
        | (refine wpList_append _ rfl (.tmp 34) (.tmp 35) 22 rfl 5 (.int .u8 0) 1 1 Try.underlying22 infoByte rfl (by decide) A3 n1 c3 (cellsOf la) rfl hown3
             w.heap.size A2 n2 c2 (cellsOf lb) rfl q2 (cellsOf_one lb) (by unfold maxLen; omega) (by omega) ?_
           rw [← cellsOf_append]
           intro A4 c4 w4 hown4 hfr4 hat4))
    have k4 : Fr Nil w2 w4 := k3.trans' hfr4 (fun k hk hA => by
      rcases at_new (w0 := w2) hat3 (by simp) k hA with ⟨g, hg, hgk⟩ | h4
      · injection hg with hg
        subst hg
        subst hgk
        simp at hk
      · omega)
    have s4 := s2.fr k4
    have g4 := s4.frame
    have rb4 := hown4.reads
    have cv4 := HCV.out _ g4.drew
    have g4d := g4.drew
    clear hlit q1 hown3 hfr3 hat3 g3 k3 q2 hfr4 hat4 k4 hown4
    go_upto_region 6 with fail
    go_cut [48] from 37 to 48 (fun s48 wx => s48 = .bool false ∧ Ses w wx b [])
    case first =>
      by_cases hv : W [] la = la
      · have hfx := valid_fixed hv
        have hboth : W [] (la ++ lb) = la ++ W [] lb := by rw [W_append, hfx.1, hfx.2]
        have hwl := W_len [] lb trivial
        have hza : (str la).size ≤ 1000 := by rw [size_str]; omega
        have hzb : (str (W [] lb)).size ≤ 3000 := by rw [size_str]; simp at hwl; omega
        have hne : ((str (la ++ W [] lb)).toList == (str la ++ str (W [] lb)).toList) = true := by rw [str_append]; exact str_beq_self _
        have HV := Lib.hid (And.intro hv hboth)
        clear hv hboth hwl hfx
        go_region_with (first
          | (go_at_call 13
             refine (dvalid_any _ w.heap.size A1 n1 c1 la (hr1.frAt (Nat.le_refl _) g4d (fun _ _ h => h)) g4d.size (by omega)).mono ?_
             rw [decide_eq_true HV.out.1]
             rintro e w5 ⟨rfl, f5⟩
             have g5 := g4d.trans f5
             have cv5 := HCV.out _ g5)
          | (go_at_call 11
             refine (dwhole_any _ _ A2 n2 c2 lb (hr2.frAt (Nat.le_refl _) g6 (fun _ _ h => h)) g6.size (by omega)).mono ?_
             rintro e w7 ⟨rfl, f7⟩
             have g7 := g6.trans f7
             have cv7 := HCV.out _ g7)
          | (go_at_call 11
             refine (dwhole_any _ _ A4 (n1 + n2) c4 (la ++ lb) (rb4.frAt (Nat.le_refl _) ((Fr.rfl' Nil w4).drew.trans f5) (fun _ _ h => h)) ((Fr.rfl' Nil w4).drew.trans f5).size (by omega)).mono ?_
             rw [HV.out.2]
             rintro e w6 ⟨rfl, f6⟩
             have g6 := g5.trans f6
             have cv6 := HCV.out _ g6))
        all_goals
          have sx := (((s4.fr (Fr.rfl' Nil w4).drew).fr f5).fr f6).fr f7
          go_wp2_with fail
          go_meet
          exact ⟨rfl, sx⟩
      · have hvd : decide (W [] la = la) = false := decide_eq_false hv
        clear hv
        first
          | go_region_with ((go_at_call 13; refine (dvalid_any _ w.heap.size A1 n1 c1 la (hr1.frAt (Nat.le_refl _) g4d (fun _ _ h => h)) g4d.size (by omega)).mono ?_; rw [hvd]; rintro e w5 ⟨rfl, f5⟩))
          | fail
        all_goals
          have sx := (s4.fr (Fr.rfl' Nil w4).drew).fr f5
          go_wp2_with fail
          go_meet
          exact ⟨rfl, sx⟩
    case rest =>
      obtain ⟨rfl, sx⟩ := hcut
      have hyz : (str [y]).size ≤ 1 := by rw [size_str]; simp
      go_wp2_with fail
      refine (write_ses w _ b [] sx A1 n1 c1 la hr1 (by omega)).mono ?_
      rintro e wa ⟨rfl, sa⟩
      go_wp2_with fail
      refine (left_ses w _ b _ sa).mono ?_
      rintro e wb ⟨rfl, rfl⟩
      go_wp2_with fail
      refine (write_ses' w wb _ b _ sa ((Fr.rfl' Nil wb).alloc _) (wb.heap.size + 1) (some ⟨wb.heap.size, 0, none⟩) 1 1 [y] (reads_new wb (.int .u8 (y.toNat : Int)) 5) (by simp) (fun k hk => by
        obtain ⟨g, hg, rfl⟩ := hk
        injection hg with hg
        subst hg
        exact Nat.le_refl _) (by omega)).mono ?_
      rw [HY.out.1, HY.out.2]
      rintro e wd ⟨rfl, sd⟩
      have hcw := run_string_of (P := Try.prog) (src := 22) (dst := 9) (e := 5) (c := 1) (l := [y]) Try.underlying22 Try.underlying5 Try.underlying9 (reads_new wd (.int .u8 (y.toNat : Int)) 5)
      have se := sd.fr ((Fr.rfl' Nil wd).alloc (.cells #[.int .u8 (y.toNat : Int)] 5))
      by_cases hh : dHeld [] la = []
      · have hlen : ((dHeld [] la).length : Int) = 0 := by rw [hh]; rfl
        have hcmp : ((str (clo (dHeld [] la) ++ [y])).toList == (str [y]).toList) = true := by rw [hh]; exact str_beq_self _
        clear hh
        go_wp2_with fail
        refine (left_ses w _ b _ se).mono ?_
        rintro e wf ⟨rfl, rfl⟩
        go_wp2_with fail
        go_ret
        exact ⟨rfl, se.frame⟩
      · have hlen : (0 : Int) < ((dHeld [] la).length : Int) := by have := List.length_pos_iff.2 hh; omega
        have hcat := rep_app [y]
        have hcl : clo (dHeld [] la) = rep := by
          cases hx : dHeld [] la with
          | nil => exact (hh hx).elim
          | cons f t => rfl
        have hcmp : ((str (clo (dHeld [] la) ++ [y])).toList == (str (rep ++ [y])).toList) = true := by rw [hcl]; exact str_beq_self _
        clear hh hcl
        go_wp2_with fail
        refine (left_ses w _ b _ se).mono ?_
        rintro e wf ⟨rfl, rfl⟩
        go_wp2_with fail
        go_ret
        exact ⟨rfl, se.frame⟩
end Go.Proofs.Ytlgffgmfaejmeaa
