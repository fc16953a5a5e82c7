/-
  The reference's decoder: Write, Close.
-/
import Derived.Test.YtlgffgmfaejmeaaSes
namespace Go.Proofs.Ytlgffgmfaejmeaa
open Go.RowKit

theorem held_W {h : List UInt8} (hh : Held h) : W [] h = clo h := by rw [W, hh.1, hh.2]; rfl

theorem rdclose_any (w : World) (br : Nat) (B : Nat) (A : Option Addr) (n c : Nat) (h : List UInt8) (hb : Blk w br 34 #[.slice A n c]) (hr : Reads w B 1 A n (cellsOf h)) (hB : B ≤ w.heap.size) (hc : n ≤ c) (hh : Held h) (hs : Short h) :
    Calls Try.prog 20 #[.pointer (some ⟨br, 0, none⟩)] w fun e w' => e = .returned (.string (str (clo h))) ∧ Blk w' br 34 #[.slice none 0 0] ∧ Fr (fun k => k = br) w w' := by
  have h0 := hb.cell 0
  have hl := reads_len hr
  have h3 := short_len hs
  have HW := Lib.hid (rwhole_any w B A n c h hr hB hc (by omega))
  rw [held_W hh] at HW
  go_enter Try.func20, Try.ntmps20
  go_wp2_with fail
  refine HW.out.mono ?_
  rintro e w1 ⟨rfl, f1⟩
  have hb1 := hb.fr f1 (fun h => h)
  have h01 := hb1.cell 0
  have f01 := hb1.frozen 0
  go_wp2_with fail
  go_ret
  exact ⟨rfl, by simpa using hb1.set_ 0 (.slice none 0 0), Fr.setCell (S := fun k => k = br) (p := ⟨br, 0, none⟩) (f1.mono (fun _ _ h => h.elim)) (fun _ => rfl) _⟩

/-- what the reference's Write leaves -/
def RTurned (w w' : World) (br : Nat) (h' : List UInt8) : Prop :=
  ∃ A n c, Blk w' br 34 #[.slice A n c] ∧ Reads w' w'.heap.size 1 A n (cellsOf h') ∧ n ≤ c ∧ Fr (fun k => k = br) w w' ∧ ∀ k, At A k → w.heap.size ≤ k ∧ k < w'.heap.size

set_option maxHeartbeats 1600000 in
set_option maxRecDepth 100000 in
theorem rdwrite_any (w : World) (br : Nat) (A : Option Addr) (n c : Nat) (hx : List UInt8) (hb : Blk w br 34 #[.slice A n c]) (hr : Reads w w.heap.size 1 A n (cellsOf hx)) (hh : Held hx) (hs : Short hx)
    (A2 : Option Addr) (n2 c2 : Nat) (l : List UInt8) (hr2 : Reads w w.heap.size 1 A2 n2 (cellsOf l)) (hn : n2 ≤ 1000) :
    Calls Try.prog 18 #[.pointer (some ⟨br, 0, none⟩), .slice A2 n2 c2] w fun e w' => e = .returned (.string (str (dOut hx l))) ∧ RTurned w w' br (dHeld hx l) := by
  have hl := reads_len hr
  have hl2 := reads_len hr2
  have h3 := short_len hs
  have h0 := hb.cell 0
  have f0 := hb.frozen 0
  have hlt := hb.lt
  -- the plain law
  have hall1 : dOut [] (hx ++ l) = dOut hx l := by rw [dOut_append, hh.1, hh.2]; rfl
  have hall2 : dHeld [] (hx ++ l) = dHeld hx l := by rw [dHeld_append, hh.2]
  have hhd : Held (dHeld hx l) := held_run l hx hh
  have hhl := short_len (short_run l hx hs)
  obtain ⟨pre, hpre⟩ := held_suffix l hx
  have hlit := Own.lit (e := 5) (size := 1) w #[] 0 (by unfold maxLen; omega) rfl
  have q1 := hr.frAt (Nat.le_refl _) ((Fr.rfl' Nil w).alloc (.cells #[] 5)) (fun _ _ h => h)
  go_enter Try.func18, Try.ntmps18
  go_wp2_with (
    at_builtin
    first
      | (refine wpList_append _ rfl (.tmp 10) (.tmp 14) 22 rfl 5 (.int .u8 0) 1 1 Try.underlying22 infoByte rfl (by decide) (some ⟨w.heap.size, 0, none⟩) 0 0 [] rfl hlit
           w.heap.size A n c (cellsOf hx) rfl q1 (cellsOf_one hx) (by unfold maxLen; omega) (by omega) ?_
         rw [List.nil_append, Nat.zero_add]
         intro A3 c3 w3 hown3 hfr3 hat3
         have g3 : Fr Nil w w3 := ((Fr.rfl' Nil w).alloc (.cells #[] 5)).trans' hfr3 (fun k hk hA => by
           obtain ⟨g, hg, rfl⟩ := hA
           injection hg with hg
           subst hg
           simp at hk)
         have q2 := hr2.frAt (Nat.le_refl _) g3 (fun _ _ h => h))
      | (refine wpList_append _ rfl (.tmp 15) (.tmp 16) 22 rfl 5 (.int .u8 0) 1 1 Try.underlying22 infoByte rfl (by decide) A3 n c3 (cellsOf hx) rfl hown3
           w.heap.size A2 n2 c2 (cellsOf l) rfl q2 (cellsOf_one l) (by unfold maxLen; omega) (by omega) ?_
         rw [← cellsOf_append]
         intro A4 c4 w4 hown4 hfr4 hat4))
  all_goals
    have hat4' := at_new (w0 := w) hat4 (by have := hfr3.size; simp at this; omega)
    have hA4 : ∀ k, At A4 k → w.heap.size ≤ k := fun k hk => by
      rcases hat4' k hk with h5 | h5
      · rcases at_new (w0 := w) hat3 (by simp) k h5 with ⟨g, hg, hgk⟩ | h6
        · injection hg with hg
          subst hg
          subst hgk
          exact Nat.le_refl _
        · exact h6
      · exact h5
    have g4 : Fr Nil w w4 := g3.trans' hfr4 (fun k hk hA => by
      rcases at_new (w0 := w) hat3 (by simp) k hA with ⟨g, hg, hgk⟩ | h4
      · injection hg with hg
        subst hg
        subst hgk
        simp at hk
      · omega)
    have hb4 := hb.fr g4 (fun h => h)
    have h04 := hb4.cell 0
    have f04 := hb4.frozen 0
    have hr4 := hown4.reads
    have hc4 := hown4.cap
    clear hat4 hat4' hfr4 hat3 hfr3 hown3 g3 q2 q1 hlit
    go_loopw [6] (fun i wr => ∃ k m : Nat, i = .int .i64 k ∧ wr = w4.drewN m ∧ k ≤ 3 ∧ k ≤ n + n2 ∧ (dHeld hx l).length ≤ k) (fun i _ => (intOf i).toNat)
    case atStart =>
      have hle : (dHeld hx l).length ≤ n + n2 := by
        have := congrArg List.length hpre
        rw [List.length_append, List.length_append] at this
        omega
      first
        | exact ⟨3, 0, rfl, rfl, by omega, by omega, by omega⟩
        | exact ⟨n + n2, 0, by go_num, rfl, by omega, by omega, by omega⟩
    case round =>
      obtain ⟨k, m, rfl, rfl, hk3, hkn, hkl⟩ := hrel
      by_cases hk0 : k = 0
      · subst hk0
        have hnil : dHeld hx l = [] := List.eq_nil_of_length_eq_zero (by omega)
        have hWall : W [] (hx ++ l) = dOut hx l := by rw [W, hall1, hall2, hnil]; exact List.append_nil _
        have h04m : (w4.drewN m).cell? ⟨br, 0, none⟩ = some (.slice A n c) := h04
        have f04m : (w4.drewN m).frozen? ⟨br, 0, none⟩ = false := f04
        have hfs : Fr (fun k => k = br) w4 ((w4.drewN m).setCell ⟨br, 0, none⟩ (.slice none 0 0)) := Fr.setCell (S := fun k => k = br) (p := ⟨br, 0, none⟩) ((Fr.rfl' _ w4).drewN m) (fun _ => rfl) _
        have hrW := hr4.frAt (Nat.le_refl _) hfs (fun k hk e => by have := hA4 k hk; omega)
        have HW := Lib.hid (rwhole_any _ w4.heap.size A4 (n + n2) c4 (hx ++ l) hrW hfs.size hc4 (by omega))
        rw [hWall] at HW
        have HN := Lib.hid hnil
        clear hWall hnil hall1 hall2 hhd hpre
        go_wp2_with fail
        refine HW.out.mono ?_
        rintro e w5 ⟨rfl, f5⟩
        go_wp2_with fail
        go_ret
        refine ⟨rfl, ?_⟩
        rw [HN.out]
        refine ⟨none, 0, 0, ?_, Reads.none_, Nat.le_refl _, (g4.mono (fun _ _ h => h.elim)).trans (hfs.trans (f5.mono (fun _ _ h => h.elim))), fun k hk => (not_at_none k hk).elim⟩
        exact Blk.fr (by simpa using (hb4.drewN m).set_ 0 (.slice none 0 0)) f5 (fun h => h)
      · have hkp : (1 : Int) ≤ k := by omega
        obtain ⟨j, hj⟩ : ∃ j, j = n + n2 - k := ⟨_, rfl⟩
        have hjc : (n : Int) + (n2 : Int) - (k : Int) = (j : Int) := by omega
        have hjn : j ≤ n + n2 := by omega
        have hjk : n + n2 - j = k := by omega
        have hsl := fun W => run_slice_from (P := Try.prog) (t := 22) (e := 5) (A := A4) (n := n + n2) (c := c4) (k := j) Try.underlying22 (size := 1) (by kernel_rfl) hjn W
        rw [hjk] at hsl
        have hrt := reads_drop (hr4.drewN m) hjn hc4
        rw [hjk] at hrt
        have htl : ((hx ++ l).drop j).length = k := reads_len hrt
        have hBg := Lib.hid (begin_any (w4.drewN m) w4.heap.size (CutA A4 c4 j 1) k (c4 - j) ((hx ++ l).drop j) hrt (by omega))
        have hta := List.take_append_drop j (hx ++ l)
        have hplain : (bgn ((hx ++ l).drop j)).1 = k ∧ (bgn ((hx ++ l).drop j)).2 = false → dHeld hx l = (hx ++ l).drop j ∧ dOut hx l = W [] ((hx ++ l).take j) := by
          rintro ⟨e1, e2⟩
          have := tail_held ((hx ++ l).take j) ((hx ++ l).drop j) [] (by intro e; rw [e] at htl; simp at htl; omega) ⟨by rw [e1, htl], e2⟩
          rw [hta, hall1, hall2] at this
          exact this
        have hnext : ¬ ((bgn ((hx ++ l).drop j)).1 = k ∧ (bgn ((hx ++ l).drop j)).2 = false) → (dHeld hx l).length ≤ k - 1 := by
          intro hno
          by_cases hek : (dHeld hx l).length = k
          · exfalso
            apply hno
            have htd : (hx ++ l).drop j = dHeld hx l := by
              have hpl : pre.length = j := by
                have := congrArg List.length hpre
                rw [List.length_append, List.length_append] at this
                omega
              rw [hpre, ← hpl, List.drop_left]
            have := held_bgn hhd (by intro e; rw [e] at hek; simp at hek; omega)
            rw [htd]
            exact ⟨by rw [this.1, hek], this.2⟩
          · omega
        have hrt0 := reads_drop hr4 hjn hc4
        rw [hjk] at hrt0
        have hlit5 : ∀ m', Own ((w4.drewN m').alloc (.cells #[] 5)) 5 1 (some ⟨w4.heap.size, 0, none⟩) 0 0 [] := fun m' => Own.lit (e := 5) (size := 1) (w4.drewN m') #[] 0 (by unfold maxLen; omega) rfl
        have hst := fun W => run_slice_to (P := Try.prog) (t := 22) (e := 5) (A := A4) (n := n + n2) (c := c4) (k := j) Try.underlying22 (size := 1) (by kernel_rfl) hjn hc4 W
        have hrt2 := reads_take hr4 hjn
        have hone := cellsOf_one ((hx ++ l).drop j)
        generalize (hx ++ l).drop j = tail at *
        generalize hgx : bgn tail = gx at *
        obtain ⟨g, is⟩ := gx
        dsimp only at hplain hnext hBg
        have HP := Lib.hid hplain
        have HX := Lib.hid hnext
        have HJ := Lib.hid hj
        clear hplain hnext hgx hj hta hpre hall1 hall2 hhd
        by_cases hm : g = k ∧ is = false
        · obtain ⟨rfl, rfl⟩ := hm
          have h04m : ∀ q, (w4.drewN q).cell? ⟨br, 0, none⟩ = some (.slice A n c) := fun q => h04
          have f04m : ∀ q, (w4.drewN q).frozen? ⟨br, 0, none⟩ = false := fun q => f04
          have hbq : ∀ q, Blk ((w4.drewN q).alloc (.cells #[] 5)) br 34 #[.slice A n c] := fun q => (hb4.drewN q).alloc _
          obtain ⟨p1, p2⟩ := HP.out ⟨rfl, rfl⟩
          have HPP := Lib.hid (And.intro p1 p2)
          clear p1 p2
          go_wp2_with fail
          refine hBg.out.mono ?_
          rintro e w5 ⟨rfl, m2, rfl⟩
          go_wp2_with (
            at_builtin
            refine wpList_append _ rfl (.tmp 44) (.tmp 45) 22 rfl 5 (.int .u8 0) 1 1 Try.underlying22 infoByte rfl (by decide) (some ⟨w4.heap.size, 0, none⟩) 0 0 [] rfl (hlit5 _)
              w4.heap.size (CutA A4 c4 j 1) g (c4 - j) (cellsOf tail) rfl ((hrt0.drewN _).alloc (Nat.le_refl _) _) hone (by unfold maxLen; omega) (by omega) ?_
            rw [List.nil_append, Nat.zero_add]
            intro A6 c6 w6 hown6 hfr6 hat6
            have g6 : Fr Nil w4 w6 := (((Fr.rfl' Nil w4).drewN _).alloc _).trans' hfr6 (fun k hk hA => by
              obtain ⟨q, hq, rfl⟩ := hA
              injection hq with hq
              subst hq
              simp at hk)
            have hb6 := hb4.fr g6 (fun h => h)
            have h06 := hb6.cell 0
            have f06 := hb6.frozen 0)
          have hA6 : ∀ k, At A6 k → w4.heap.size ≤ k := fun k hk => by
            rcases at_new (w0 := w4) hat6 (by simp) k hk with ⟨q, hq, hqk⟩ | h6
            · injection hq with hq
              subst hq
              subst hqk
              exact Nat.le_refl _
            · exact h6
          have hw4 := g4.size
          have hfs : Fr (fun k => k = br) w4 (w6.setCell ⟨br, 0, none⟩ (.slice A6 g c6)) := Fr.setCell (S := fun k => k = br) (p := ⟨br, 0, none⟩) (g6.mono (fun _ _ h => h.elim)) (fun _ => rfl) _
          refine (rwhole_any _ w4.heap.size A4 j c4 _ (hrt2.frAt (Nat.le_refl _) hfs (fun k hk e => by have := hA4 k hk; omega)) hfs.size (by omega) (by omega)).mono ?_
          rintro e w7 ⟨rfl, f7⟩
          go_wp2_with fail
          go_ret
          rw [HPP.out.1, HPP.out.2]
          have hnb : ¬ At A6 br := fun h6 => by have := hA6 br h6; omega
          have ho6 := (hown6.setFar (p := ⟨br, 0, none⟩) hnb (.slice A6 g c6)).reads
          refine ⟨rfl, A6, g, c6, ?_, ?_, hown6.cap, (g4.mono (fun _ _ h => h.elim)).trans (hfs.trans (f7.mono (fun _ _ h => h.elim))), fun k hk => ⟨by have := hA6 k hk; omega, by have h8 := (hown6.setFar (p := ⟨br, 0, none⟩) hnb (.slice A6 g c6)).lt hk; have := f7.size; omega⟩⟩
          · exact Blk.fr (by simpa using hb6.set_ 0 (.slice A6 g c6)) f7 (fun h => h)
          · exact (ho6.frAt (Nat.le_refl _) f7 (fun _ _ h => h)).more f7.size
        · have hk1 : ((k - 1 : Nat) : Int) = (k : Int) - 1 := by omega
          have hle1 := HX.out hm
          have hcase : (g ≠ k) ∨ (g = k ∧ is = true) := by
            by_cases hg : g = k
            · right
              refine ⟨hg, ?_⟩
              cases is with
              | true => rfl
              | false => exact (hm ⟨hg, rfl⟩).elim
            · exact .inl hg
          have HC := Lib.hid hcase
          clear hcase hm
          rcases HC.out with hg | ⟨rfl, rfl⟩
          · have hgk : ((g : Int) == (k : Int)) = false := by simp; omega
            go_wp2_with fail
            refine hBg.out.mono ?_
            rintro e w5 ⟨rfl, m2, rfl⟩
            go_wp2_with fail
            go_roundw
            case rel => exact ⟨k - 1, _, by rw [hk1], rfl, by omega, by omega, hle1⟩
            case measure => simp [intOf]; omega
          · go_wp2_with fail
            refine hBg.out.mono ?_
            rintro e w5 ⟨rfl, m2, rfl⟩
            go_wp2_with fail
            go_roundw
            case rel => exact ⟨g - 1, _, by rw [hk1], rfl, by omega, by omega, hle1⟩
            case measure => simp [intOf]; omega
end Go.Proofs.Ytlgffgmfaejmeaa
