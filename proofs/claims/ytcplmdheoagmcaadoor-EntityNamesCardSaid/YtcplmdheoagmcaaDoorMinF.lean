/-
  slices.MinFunc among names, walked.
-/
import Derived.Test.YtcplmdheoagmcaaDoorMin
import Derived.Deep.CutRange
import Derived.Deep.RegionWith
namespace Go.Proofs.YtcplmdheoagmcaaDoor
open Go.RowKit

/-- at the head of a round: the block bm is the best of the first k names -/
def MinI (w : World) (l : List Ent) (x : Ent) (br bm : Nat) (i : Value) (wr : World) : Prop :=
  ∃ k : Nat, k ≤ l.length ∧ i = .int .i64 ((k : Int) + 1) ∧ Blk wr bm 37 (encE (pickL x (l.take k))).toArray ∧ Blk wr br 37 #[.string ⟨#[]⟩, .string ⟨#[]⟩] ∧ Fr Nil w wr
theorem blk_set2 {w : World} {g : Nat} {t : TypeId} {a b c d : Value} (h : Blk w g t #[a, b]) : Blk ((w.setCell ⟨g, 0, none⟩ c).setCell ⟨g, 1, none⟩ d) g t #[c, d] := by
  have := (h.set_ 0 c).set_ 1 d
  exact this

theorem shorter_any' (a b c d : Pth) (w : World) : Calls Tryd.prog 31 #[.agg #[.string (str a), .string (str b)], .agg #[.string (str c), .string (str d)]] w fun e w' => e = .returned (.int .i64 (cmpN a c)) ∧ Fr Nil w w' := shorter_any (a, b) (c, d) w
theorem pick_yes {l : List Ent} {k : Nat} {x y : Ent} (hy : l[k]? = some y) (h : Shorter y.1 (pickL x (l.take k)).1) : pickL x (l.take (k + 1)) = y := by
  rw [pickL_take hy, pickStep, if_pos h]
theorem pick_no {l : List Ent} {k : Nat} {x y : Ent} (hy : l[k]? = some y) (h : ¬ Shorter y.1 (pickL x (l.take k)).1) : pickL x (l.take (k + 1)) = pickL x (l.take k) := by
  rw [pickL_take hy, pickStep, if_neg h]

set_option maxRecDepth 100000 in
set_option maxHeartbeats 4000000 in
theorem min_any (w : World) (g c n : Nat) (x : Ent) (l : List Ent) (ho : Own w 37 2 (some ⟨g, 0, none⟩) n c (entCells (x :: l))) (hn : n ≤ 100000) :
    Calls Tryd.prog 30 #[.slice (some ⟨g, 0, none⟩) n c, .func (.func 31) #[] #[]] w fun e w' =>
      e = .returned (.agg (encE (pickL x l)).toArray) ∧ Fr Nil w w' := by
  have hl : l.length + 1 = n := by have := ho.1; rw [entCells_len] at this; simp at this; omega
  have hlt : g < w.heap.size := ho.lt ⟨_, rfl, rfl⟩
  have k0 := ho.cell 0 (by omega)
  have k1 := ho.cell 1 (by omega)
  rw [show (entCells (x :: l))[0]? = some (.string (str x.1)) from rfl] at k0
  rw [show (entCells (x :: l))[1]? = some (.string (str x.2)) from rfl] at k1
  have HL := Lib.hid hl
  have hn1 : ¬ n < 1 := by omega
  have hn0 : 0 < n := by omega
  clear hl
  go_enter Tryd.func30, Tryd.ntmps30
  go_wp2_with fail
  have hblk : Blk ((w.alloc (.cells #[.string ⟨#[]⟩, .string ⟨#[]⟩] 37)).alloc (.cells #[.string (str x.1), .string (str x.2)] 37)) (w.heap.size + 1) 37 (encE (pickL x (l.take 0))).toArray := by
    have := Blk.new (w.alloc (.cells #[.string ⟨#[]⟩, .string ⟨#[]⟩] 37)) 37 #[.string (str x.1), .string (str x.2)]
    rw [World.size_alloc] at this
    exact this
  have hblk0 := (Blk.new w 37 #[.string ⟨#[]⟩, .string ⟨#[]⟩]).alloc (.cells #[.string (str x.1), .string (str x.2)] 37)
  have HB := Lib.hid hblk
  have HB0 := Lib.hid hblk0
  clear hblk hblk0
  obtain ⟨br, hbr⟩ : ∃ br, br = w.heap.size := ⟨_, rfl⟩
  rw [← hbr] at HB HB0 ⊢
  have HBR := Lib.hid hbr
  clear hbr
  go_loopw [6] (fun i wr => MinI w l x br (br + 1) i wr) (fun i _ => n - (intOf i).toNat)
  case atStart => exact ⟨0, Nat.zero_le _, rfl, HB.out, HB0.out, ((Fr.rfl' _ w).alloc _).alloc _⟩
  case round =>
    obtain ⟨k, hk, rfl, hb, hb0, hf⟩ := hrel
    have hbc0 : wr.cell? ⟨br + 1, 0, none⟩ = some (.string (str (pickL x (l.take k)).1)) := hb.cell 0
    have hbc1 : wr.cell? ⟨br + 1, 1, none⟩ = some (.string (str (pickL x (l.take k)).2)) := hb.cell 1
    have hbf0 : wr.frozen? ⟨br + 1, 0, none⟩ = false := hb.frozen 0
    have hbf1 : wr.frozen? ⟨br + 1, 1, none⟩ = false := hb.frozen 1
    have hrc0 : wr.cell? ⟨br, 0, none⟩ = some (.string ⟨#[]⟩) := hb0.cell 0
    have hrc1 : wr.cell? ⟨br, 1, none⟩ = some (.string ⟨#[]⟩) := hb0.cell 1
    have hrf0 : wr.frozen? ⟨br, 0, none⟩ = false := hb0.frozen 0
    have hrf1 : wr.frozen? ⟨br, 1, none⟩ = false := hb0.frozen 1
    by_cases hlt : k + 1 < n
    · obtain ⟨y, hy⟩ : ∃ y, l[k]? = some y := ⟨_, List.getElem?_eq_getElem (by have := HL.out; omega)⟩
      have hr2 := ho.fr hf fun _ _ h => h
      have k0 := hr2.cell ((k + 1) * 2) (by omega)
      have k1 := hr2.cell ((k + 1) * 2 + 1) (by omega)
      rw [(ent_at (l := x :: l) (i := k + 1) (x := y) (by simpa using hy)).1] at k0
      rw [(ent_at (l := x :: l) (i := k + 1) (x := y) (by simpa using hy)).2] at k1
      have hcl := cmpN_lt y.1 (pickL x (l.take k)).1
      have HY := Lib.hid (@pick_yes l k x y hy)
      have HN := Lib.hid (@pick_no l k x y hy)
      clear hy hr2
      generalize hbest : pickL x (l.take k) = best at *
      have HBE := Lib.hid hbest
      clear hbest
      obtain ⟨d, hd⟩ : ∃ d, d = decide (Shorter y.1 best.1) := ⟨_, rfl⟩
      rw [← hd] at hcl
      have HD := Lib.hid hd
      have HCL := Lib.hid hcl
      clear hd hcl
      have hfr : ∀ wx, Fr Nil wr wx → (wx.cell? ⟨g, (k + 1) * 2, none⟩ = some (.string (str y.1)) ∧ wx.cell? ⟨g, (k + 1) * 2 + 1, none⟩ = some (.string (str y.2))) ∧ Blk wx (br + 1) 37 #[.string (str best.1), .string (str best.2)] ∧ Blk wx br 37 #[.string ⟨#[]⟩, .string ⟨#[]⟩] :=
        fun wx fx => by
          have hg : g < wr.heap.size := by have := hf.size; omega
          exact ⟨⟨(fx.cell (p := ⟨g, _, none⟩) hg fun h => h).trans k0, (fx.cell (p := ⟨g, _, none⟩) hg fun h => h).trans k1⟩, hb.fr fx (fun h => h), hb0.fr fx fun h => h⟩
      have HFR := Lib.hid hfr
      clear hfr
      go_upto_region 7 with fail
      go_cut [27] from 17 to 28 (fun s27 wx => s27 = .bool d ∧ Fr Nil wr wx)
      case first =>
        go_region_with (go_at_call 31
                        refine (shorter_any' y.1 y.2 best.1 best.2 _).mono ?_
                        rintro e w5 ⟨rfl, f5⟩)
        all_goals
          go_wp2_with fail
          go_meet
          exact ⟨by rw [← HCL.out], (Fr.rfl' Nil wr).drew.trans f5⟩
      case rest =>
        obtain ⟨rfl, fx⟩ := hcut
        obtain ⟨⟨kk0, kk1⟩, hbx, hbx0⟩ := HFR.out _ fx
        have hbc0 : wc.cell? ⟨br + 1, 0, none⟩ = some (.string (str best.1)) := hbx.cell 0
        have hbc1 : wc.cell? ⟨br + 1, 1, none⟩ = some (.string (str best.2)) := hbx.cell 1
        have hbf0 : wc.frozen? ⟨br + 1, 0, none⟩ = false := hbx.frozen 0
        have hbf1 : wc.frozen? ⟨br + 1, 1, none⟩ = false := hbx.frozen 1
        cases d with
        | true =>
          go_wp2_with fail
          have hp := HY.out (of_decide_eq_true HD.out.symm)
          go_roundw
          case rel => exact ⟨k + 1, by have := HL.out; omega, by go_num, by rw [hp]; exact blk_set2 hbx, (hbx0.far (p := ⟨br + 1, 0, none⟩) (by simp) _).far (p := ⟨br + 1, 1, none⟩) (by simp) _,
            ((hf.trans fx).setCell (fun h => by have := HBR.out; change br + 1 < w.heap.size at h; omega) _).setCell (fun h => by have := HBR.out; change br + 1 < w.heap.size at h; omega) _⟩
          case measure => simp [intOf]; omega
        | false =>
          go_wp2_with fail
          have hp := HN.out (of_decide_eq_false HD.out.symm)
          go_roundw
          case rel => exact ⟨k + 1, by have := HL.out; omega, by go_num, by rw [hp]; exact hbx, hbx0, hf.trans fx⟩
          case measure => simp [intOf]; omega
    · obtain rfl : n = k + 1 := by have := HL.out; omega
      go_wp2_with fail
      have hta : l.take k = l := List.take_of_length_le (by have := HL.out; omega)
      rw [hta]
      have hbb := blk_set2 (c := .string (str (pickL x l).1)) (d := .string (str (pickL x l).2)) hb0
      have hff : Fr Nil w ((wr.setCell ⟨br, 0, none⟩ (.string (str (pickL x l).1))).setCell ⟨br, 1, none⟩ (.string (str (pickL x l).2))) :=
        (hf.setCell (fun h => by have := HBR.out; change br < w.heap.size at h; omega) _).setCell (fun h => by have := HBR.out; change br < w.heap.size at h; omega) _
      generalize (wr.setCell ⟨br, 0, none⟩ (.string (str (pickL x l).1))).setCell ⟨br, 1, none⟩ (.string (str (pickL x l).2)) = W2 at hbb hff ⊢
      have c0 := hbb.cell 0
      have c1 := hbb.cell 1
      simp at c0 c1
      exact bodyPost_ret (v := .agg #[.string (str (pickL x l).1), .string (str (pickL x l).2)]) (by simp [results, Tryd.results30, go_sem, c0, c1]) rfl ⟨rfl, hff⟩
end Go.Proofs.YtcplmdheoagmcaaDoor
