/-
  charref.Decode at escaped texts, walked.
-/
import Derived.Test.YtblbcojkjknfdaaDoorChOne
import Derived.Test.YtblbcojkjknfdaaDoorDecP
import Derived.Test.YtblbcojkjknfdaaDoorSAll
namespace Go.Proofs.YtblbcojkjknfdaaDoor
open Go.RowKit

theorem piece_ne (c : UInt8) : pieceB false c ≠ [] := by
  unfold pieceB
  repeat' split
  all_goals simp [ampB, ltB, gtB, quotB]
theorem esc_ne {q : Bys} (h : q ≠ []) : escB false q ≠ [] := by
  cases q with
  | nil => exact (h rfl).elim
  | cons c l =>
    by_cases hb : c = 194 ∧ l.head? = some 160
    · obtain ⟨rfl, hh⟩ := hb
      obtain ⟨t, rfl⟩ : ∃ t, l = 160 :: t := by
        cases l with
        | nil => cases hh
        | cons d t => exact ⟨t, by injection hh with h; rw [h]⟩
      rw [escB_nbsp]
      simp [nbspB]
    · rw [escB_cons false c l hb]
      intro e
      exact piece_ne c (List.append_eq_nil_iff.1 e).1
theorem str_nil_beq {l : Bys} (h : l ≠ []) : ((str l).toList == (⟨#[]⟩ : ByteArray).toList) = false := str_beq_ne fun e => h (str_inj (a := l) (b := []) e)
theorem ext_head (a b : Bys) : (str (a ++ b)).extract 0 a.length = str a := bs_inj (by rw [bs_extract, bs_str, List.drop_zero, List.take_left' rfl, bs_str])
theorem ext_tail (a b : Bys) : (str (a ++ b)).extract a.length (str (a ++ b)).size = str b := bs_inj (by rw [bs_from, bs_str, List.drop_left' rfl, bs_str])
def szOf : Value → Nat
  | .string s => s.size
  | _ => 0
def DcI (w : World) (l : Bys) (s0 : Value) (wr : World) : Prop := ∃ p q : Bys, p ++ q = l ∧ s0 = .string (str (escB false q)) ∧ Bld w.heap.size p wr ∧ Below w.heap.size w wr
/-- a text is put -/
theorem put_str (b : Nat) (acc t : Bys) (w : World) (h : Bld b acc w) (hlen : acc.length + t.length ≤ 100000000) (hB : b ≤ w.heap.size) :
    Calls Tryd.prog 12 #[.pointer (some ⟨b, 0, none⟩), .string (str t)] w fun e w' => e = .returned (.tuple #[.int .i64 (t.length : Int), .nilIface]) ∧ Bld b (acc ++ t) w' ∧ Below b w w' := by
  have h1 := Tryd.Builder_WriteString_k b b (Lib.byteCells acc) (str t) w h (by rw [Lib.byteCells_length, size_str]; omega) hB
  rw [show Lib.strCells (str t) = Lib.byteCells t from rfl, ← Lib.byteCells_append, size_str] at h1
  exact h1.mono fun e w' ⟨h2, h3, h4, _⟩ => ⟨h2, .inr h3, h4⟩

/-- a round: what is put, and what stays -/
structure DcRun (s : ByteArray) (p1 : Bys) (k : Nat) (s1 : ByteArray) : Prop where
  head : s.extract 0 k = str p1
  tail : s.extract k s.size = s1
  le : k ≤ s.size
theorem dc_run {s : ByteArray} {a b : Bys} (h : bs s = a ++ b) : DcRun s a a.length (str b) := by
  have hs : s = str (a ++ b) := bs_inj (by rw [h, bs_str])
  subst hs
  exact ⟨ext_head a b, ext_tail a b, by rw [size_str, List.length_append]; omega⟩

set_option maxRecDepth 100000 in
set_option maxHeartbeats 4000000 in
theorem decode_any (w : World) (l : Bys) (hl : l.length ≤ 10000) :
    Calls Tryd.prog 8 #[.string (str (escB false l)), .bool false] w fun e w' => e = .returned (.string (str l)) ∧ Fr Nil w w' := by
  go_enter Tryd.func8, Tryd.ntmps8
  go_wp2_with fail
  go_loopw [0, 6, 7, 8] (fun s _ _ _ wr => DcI w l s wr) (fun s _ _ _ _ => szOf s)
  case atStart => exact ⟨[], l, rfl, rfl, Lib.IsBuilderF.of (Lib.fresh_isBuilder 40 5 w), (Below.refl _ w).alloc (Nat.le_refl _) _⟩
  case round =>
    obtain ⟨p, q, hpq, rfl, hI, hbw⟩ := hrel
    have hpl : p.length + q.length ≤ 10000 := by rw [← List.length_append, hpq]; exact hl
    by_cases hq : q = []
    · subst hq
      rw [List.append_nil] at hpq
      subst hpq
      obtain ⟨e1, e2, e3⟩ := empty_of (show (str (escB false [])).size = 0 from rfl)
      have HS := Lib.hid (Tryd.Builder_String_any_k w.heap.size w.heap.size p wr hI hbw.size)
      generalize str (escB false []) = s at e1 e2 e3 ⊢
      clear hI
      go_wp2_with fail
      refine HS.out.mono ?_
      rintro e w1 ⟨rfl, _, b1, _⟩
      go_wp2_with fail
      go_ret
      exact ⟨rfl, Fr.of_below (hbw.trans b1)⟩
    · have hel := escB_len false q
      obtain ⟨p1, q1, hq1, hes, hp1, hr⟩ := esc_run q
      have hql : p1.length + q1.length = q.length := by rw [hq1, List.length_append]
      have hne := List.length_pos_iff.2 (esc_ne hq)
      have hrun := dc_run (s := str (escB false q)) (by rw [bs_str]; exact hes)
      have hsz : (str (escB false q)).size = p1.length + (escB false q1).length := by rw [size_str, hes, List.length_append]
      have hpos : ¬ (str (escB false q)).size = 0 := by rw [size_str]; omega
      have hmx : (str (escB false q)).size ≤ 100000 := by rw [size_str]; omega
      have hW1 := put_str w.heap.size p p1 wr hI (by omega) hbw.size
      rcases hr with rfl | ⟨nm, ch, r, hm, rfl, her⟩
      · have hI1 := fun W => Tryd.strings_IndexByte (str (escB false q)) 38 W
        rw [show (str (escB false q)).data.toList = escB false q from rfl, hes, show escB false [] = [] from rfl, List.append_nil, show (38 : Int).toNat.toUInt8 = 38 from rfl, index_miss hp1, show p1 = escB false q by rw [hes]; exact (List.append_nil p1).symm] at hI1
        rw [show (escB false ([] : Bys)) = [] from rfl, List.length_nil, Nat.add_zero] at hsz
        obtain ⟨e1, e2, e3⟩ := full_of hpos
        have HI1 := Lib.hid hI1
        have HW1 := Lib.hid hW1
        have HO := Lib.hid chone_none
        have HB := Lib.hid hbw
        rw [show str (escB false []) = (⟨#[]⟩ : ByteArray) from rfl, ← hsz] at hrun
        have HQ := Lib.hid (show (p ++ p1) ++ [] = l by rw [← hpq, hq1]; simp)
        have HL := Lib.hid hpl
        have HP := Lib.hid (show p.length + p1.length ≤ 10000 by omega)
        generalize str (escB false q) = s at *
        obtain ⟨x1, x2, -⟩ := hrun
        clear hI hI1 hW1 hes hq1 hq hp1 hel hbw hpq hpl hne hl hql hsz
        have hs0 : 0 < s.size := by omega
        go_wp2_with fail
        refine (HI1.out _).mono ?_
        rintro e w1 ⟨rfl, rfl⟩
        go_wp2_with fail
        refine HW1.out.mono ?_
        rintro e w2 ⟨rfl, hb2, f2⟩
        go_wp2_with fail
        refine (HO.out _).mono ?_
        rintro e w3 ⟨rfl, f3⟩
        go_wp2_with fail
        have HZ := HB.out.size
        have z2 := f2.size
        have z3 := f3.size
        refine (put_str w.heap.size (p ++ p1) [] w3 (Bld.fr hb2 f3) (by have := HP.out; rw [List.length_append, List.length_nil]; omega) (by omega)).mono ?_
        rintro e w4 ⟨rfl, hb4, f4⟩
        rw [List.append_nil] at hb4
        go_wp2_with fail
        go_roundw
        case rel => exact ⟨p ++ p1, [], HQ.out, rfl, hb4, ((HB.out.trans f2).trans (f3.to_below (by omega) fun _ x => x.elim)).trans f4⟩
        case measure => simp [szOf]; omega
      · have hI1 := fun W => Tryd.strings_IndexByte (str (escB false q)) 38 W
        rw [show (str (escB false q)).data.toList = escB false q from rfl, hes, her, show (38 : Int).toNat.toUInt8 = 38 from rfl, index_hit _ hp1] at hI1
        rw [← her, ← hes] at hI1
        have hrun2 := dc_run (s := str (escB false (ch ++ r))) (a := 38 :: nm) (b := escB false r) (by rw [bs_str, her]; rfl)
        have hl2 : (str (escB false (ch ++ r))).size = nm.length + 1 + (escB false r).length := by rw [size_str, her]; simp; omega
        rw [← size_str (escB false (ch ++ r))] at hsz
        have hm2 : (str (escB false (ch ++ r))).size ≤ 100000 := by omega
        have hO := fun W => chone_four W (str (escB false (ch ++ r))) nm ch (escB false r) hm (by rw [bs_str, her]) (by omega)
        obtain ⟨n0, n1⟩ := four_pos _ hm
        dsimp only at n0 n1
        have hch : 1 ≤ ch.length := by
          have : ∀ x ∈ four, 1 ≤ x.2.length := by decide
          exact this _ hm
        rw [List.length_cons] at hrun2
        obtain ⟨e1, e2, e3⟩ := full_of hpos
        have HI1 := Lib.hid hI1
        have HW1 := Lib.hid hW1
        have HO := Lib.hid hO
        have HB := Lib.hid hbw
        have HQ := Lib.hid (show (p ++ p1 ++ ch) ++ r = l by rw [← hpq, hq1]; simp)
        have HP := Lib.hid (show p.length + p1.length + ch.length ≤ 10000 by rw [List.length_append] at hql; omega)
        have HK := Lib.hid (show (str (escB false r)).size < (str (escB false q)).size by rw [hsz, hl2, size_str]; omega)
        generalize str (escB false q) = s at *
        generalize str (escB false (ch ++ r)) = s1 at *
        generalize hs2 : str (escB false r) = s2 at *
        generalize hkl : p1.length = k at *
        have HKL := Lib.hid hkl
        clear hkl
        generalize nm.length = n at *
        obtain ⟨x1, x2, x3⟩ := hrun
        obtain ⟨-, x4, x5⟩ := hrun2
        clear hI hI1 hW1 hes hq1 hq hp1 hel hbw hpq hpl hne hl hql hsz hO hm her hch hl2
        have HS2 := Lib.hid hs2
        clear hs2
        go_wp2_with fail
        refine (HI1.out _).mono ?_
        rintro e w1 ⟨rfl, rfl⟩
        go_wp2_with fail
        refine HW1.out.mono ?_
        rintro e w2 ⟨rfl, hb2, f2⟩
        go_wp2_with fail
        refine (HO.out _).mono ?_
        rintro e w3 ⟨rfl, f3⟩
        go_wp2_with fail
        have HZ := HB.out.size
        have z2 := f2.size
        have z3 := f3.size
        refine (put_str w.heap.size (p ++ p1) ch w3 (Bld.fr hb2 f3) (by have := HP.out; have := HKL.out; rw [List.length_append]; omega) (by omega)).mono ?_
        rintro e w4 ⟨rfl, hb4, f4⟩
        go_wp2_with fail
        go_roundw
        case rel => exact ⟨p ++ p1 ++ ch, r, HQ.out, by rw [HS2.out], hb4, ((HB.out.trans f2).trans (f3.to_below (by omega) fun _ x => x.elim)).trans f4⟩
        case measure => have := HK.out; simp [szOf]; omega
end Go.Proofs.YtblbcojkjknfdaaDoor
