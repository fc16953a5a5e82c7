/-
  The law of chapter 22 at all lists, SerialAlls, walked.
-/
import Derived.Test.YtblbcojkjknfdaaAwk
import Derived.Deep.RegionHeld3
namespace Go.Proofs.Ytblbcojkjknfdaa
open Go.RowKit

def AlI (w : World) (n : Nat) (s5 : Value) (wr : World) : Prop := ∃ k : Nat, k ≤ n ∧ s5 = .int .i64 k ∧ Fr Nil w wr
theorem bne_refl (b : Bool) : (b != b) = false := by simp

set_option maxRecDepth 100000 in
set_option maxHeartbeats 8000000 in
theorem law_alls (w : World) (A : Option Addr) (n c : Nat) (l : List Tok) (h : Toks w w.heap.size A n l) (hn : n ≤ maxLen) :
    Calls Try.prog 3 #[.slice A n c] w fun e w' => e = .returned (.bool true) ∧ Fr Nil w w' := by
  have HAW := Lib.hid (awake_any w)
  have hF : ∀ w1, Fr Nil w w1 → Calls Try.prog 6 #[.slice A n c] w1 (FewR l w1) := fun w1 g => few_any w1 A n c l (by
    have := h.fr g (Nat.le_refl _) fun _ x => x.elim
    exact ⟨this.len, this.reads.more g.size, fun t ht => (this.ok t ht).more g.size⟩) hn
  have HF := Lib.hid hF
  clear hF
  go_enter Try.func3, Try.ntmps3
  go_wp2_with fail
  refine HAW.out.mono ?_
  rintro e w1 ⟨rfl, f1⟩
  go_wp2_with fail
  refine (HF.out _ f1).mono ?_
  rintro e w2 ⟨f2, b, rfl, hb⟩
  cases b with
  | false =>
    go_wp2_with fail
    go_ret
    exact ⟨rfl, f1.trans f2⟩
  | true =>
    have hfew := hb rfl
    have hn100 : n ≤ 100 := by rw [← h.len]; exact hfew.1
    have HFEW := Lib.hid hfew
    clear hb hfew
    have f12 := f1.trans f2
    go_wp2_with fail
    go_loopw [5] (fun s5 wr => AlI w n s5 wr) (fun i _ => n - (intOf i).toNat)
    case atStart => exact ⟨0, Nat.zero_le _, rfl, f12⟩
    case round =>
      obtain ⟨k, hk, rfl, hf⟩ := hrel
      by_cases hlt : k < n
      · obtain ⟨ad, t, rfl, hab, ht, hok, k0, k1, k2, k3, k4⟩ := tok_at (h.fr hf (Nat.le_refl _) fun _ x => x.elim) hlt
        have hsm := HFEW.out.2 t (List.mem_of_getElem? ht)
        have hbl : ad.block < wr.heap.size := by have := hf.size; omega
        have kk : ∀ W, Fr Nil wr W → W.cell? (ad.add (k * 5)) = some (.int .i64 t.kind) ∧ W.cell? ⟨(ad.add (k * 5)).block, (ad.add (k * 5)).off + 1, none⟩ = some (.string t.name) ∧
            W.cell? ⟨(ad.add (k * 5)).block, (ad.add (k * 5)).off + 2, none⟩ = some (.string t.data) ∧ W.cell? ⟨(ad.add (k * 5)).block, (ad.add (k * 5)).off + 3, none⟩ = some (.slice t.A t.n t.c) ∧ W.cell? ⟨(ad.add (k * 5)).block, (ad.add (k * 5)).off + 4, none⟩ = some (.bool t.self) := fun W g => by
          have hb2 : (ad.add (k * 5)).block < wr.heap.size := by rw [block_of_add]; exact hbl
          exact ⟨(g.cell (p := ad.add (k * 5)) hb2 fun h => h).trans k0, (g.cell (p := ⟨_, _, none⟩) hb2 fun h => h).trans k1, (g.cell (p := ⟨_, _, none⟩) hb2 fun h => h).trans k2, (g.cell (p := ⟨_, _, none⟩) hb2 fun h => h).trans k3, (g.cell (p := ⟨_, _, none⟩) hb2 fun h => h).trans k4⟩
        have HP1 := Lib.hid (fun W (g : Fr Nil wr W) => agg_tok t ▸ plain_any W w.heap.size t (hok.fr g hf.size fun _ x => x.elim) (Nat.le_trans hf.size g.size) (by have := hsm.n; omega))
        have HP2 := Lib.hid (fun W (g : Fr Nil wr W) => agg_tok t ▸ rplain_any W w.heap.size t (hok.fr g hf.size fun _ x => x.elim) (Nat.le_trans hf.size g.size) (by have := hsm.n; omega))
        have HO1 := Lib.hid (fun W (g : Fr Nil wr W) => agg_tok t ▸ one_any W w.heap.size t (hok.fr g hf.size fun _ x => x.elim) (Nat.le_trans hf.size g.size) hsm)
        have HO2 := Lib.hid (fun W (g : Fr Nil wr W) => agg_tok t ▸ rone_any W w.heap.size t (hok.fr g hf.size fun _ x => x.elim) (Nat.le_trans hf.size g.size) hsm)
        have KK := Lib.hid kk
        generalize plainB t = pb at HP1 HP2
        generalize oneB t = ob at HO1 HO2
        have q1 := bne_refl pb
        have q2 := str_beq_self (str ob)
        clear ht hok hsm kk
        go_wp2_with fail
        go_region_held3 (fun W => W.cell? (ad.add (k * 5)) = some (.int .i64 t.kind) ∧ W.cell? ⟨(ad.add (k * 5)).block, (ad.add (k * 5)).off + 1, none⟩ = some (.string t.name) ∧
            W.cell? ⟨(ad.add (k * 5)).block, (ad.add (k * 5)).off + 2, none⟩ = some (.string t.data) ∧ W.cell? ⟨(ad.add (k * 5)).block, (ad.add (k * 5)).off + 3, none⟩ = some (.slice t.A t.n t.c) ∧ W.cell? ⟨(ad.add (k * 5)).block, (ad.add (k * 5)).off + 4, none⟩ = some (.bool t.self))
          (first | exact KK.out _ g4 | exact KK.out _ g3 | exact KK.out _ g2 | exact KK.out _ g1 | exact KK.out _ (Fr.rfl' Nil wr).drew)
          (first
          | (go_at_call 7; refine (HP1.out _ (Fr.rfl' Nil wr).drew).mono ?_; rintro e u1 ⟨rfl, g1⟩; have g1 := (Fr.rfl' Nil wr).drew.trans g1)
          | (go_at_call 8; refine (HP2.out _ g1).mono ?_; rintro e u2 ⟨rfl, g2⟩; have g2 := g1.trans g2)
          | (go_at_call 9; refine (HO1.out _ g2).mono ?_; rintro e u3 ⟨rfl, g3⟩; have g3 := g2.trans g3)
          | (go_at_call 10; refine (HO2.out _ g3).mono ?_; rintro e u4 ⟨rfl, g4⟩; have g4 := g3.trans g4))
        all_goals
          go_wp2_with fail
          go_roundw
          case rel => exact ⟨k + 1, by omega, by go_num, hf.trans g4⟩
          case measure => simp [intOf]; omega
      · obtain rfl : k = n := by omega
        have hT : ∀ W, Fr Nil w W → Toks W W.heap.size A k l := fun W g => by
          have := h.fr g (Nat.le_refl _) fun _ x => x.elim
          exact ⟨this.len, this.reads.more g.size, fun t ht => (this.ok t ht).more g.size⟩
        have HA1 := Lib.hid (fun W (g : Fr Nil w W) => all_any W A k c l (hT W g) HFEW.out)
        have HA2 := Lib.hid (fun W (g : Fr Nil w W) => rall_any W A k c l (hT W g) HFEW.out)
        generalize allB l = o at HA1 HA2
        have q2 := str_beq_self (str o)
        go_wp2_with fail
        refine (HA1.out _ hf).mono ?_
        rintro e w3 ⟨rfl, f3⟩
        go_wp2_with fail
        refine (HA2.out _ (hf.trans f3)).mono ?_
        rintro e w4 ⟨rfl, f4⟩
        go_wp2_with fail
        go_ret
        exact ⟨rfl, (hf.trans f3).trans f4⟩
end Go.Proofs.Ytblbcojkjknfdaa
