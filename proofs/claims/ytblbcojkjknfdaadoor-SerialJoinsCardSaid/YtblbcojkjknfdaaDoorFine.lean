/-
  serial.fine, walked.
-/
import Derived.Test.YtblbcojkjknfdaaDoorPlnP
import Derived.StringKeys
import Derived.Maps.OwnSet
namespace Go.Proofs.YtblbcojkjknfdaaDoor
open Go.RowKit Go.Maps

theorem agg_atr (a : Atr) : (.agg (atrCells a).toArray : Value) = .agg #[.string a.1, .string a.2] := rfl
theorem contains_nul (s : ByteArray) (w : World) : Calls Tryd.prog 34 #[.string s, .string ⟨#[0]⟩] w fun e w' => e = .returned (.bool (nulB (bs s))) ∧ w' = w := by
  have h := Tryd.strings_Contains_one s 0 w
  rw [show decide (0 ≤ Lib.indexByte s.data.toList 0) = nulB (bs s) from nul_index (bs s)] at h
  exact h

set_option maxHeartbeats 2000000 in
theorem fodd_any (a : Atr) (w : World) : Calls Tryd.prog 33 #[.agg #[.string a.1, .string a.2]] w fun e w' => e = .returned (.bool (oddA a)) ∧ Fr Nil w w' := by
  have hw := fun w => word_any w a.1
  have hn := fun w => contains_nul a.2 w
  have ho : oddA a = (!wordB (bs a.1) || nulB (bs a.2)) := rfl
  generalize oddA a = r at ho ⊢
  generalize wordB (bs a.1) = b1 at hw ho
  generalize nulB (bs a.2) = b2 at hn ho
  have HW := Lib.hid hw
  have HN := Lib.hid hn
  have HO := Lib.hid ho
  clear hw hn ho
  cases b1 with
  | false =>
    go_enter Tryd.func33, Tryd.ntmps33
    go_wp2_with fail
    refine (HW.out _).mono ?_
    rintro e w1 ⟨rfl, f1⟩
    go_wp2_with fail
    go_ret
    exact ⟨ret_bool (by rw [HO.out]; rfl), ((Fr.rfl' _ w).alloc _).trans f1⟩
  | true =>
    go_enter Tryd.func33, Tryd.ntmps33
    go_wp2_with fail
    refine (HW.out _).mono ?_
    rintro e w1 ⟨rfl, f1⟩
    have k1 : w1.cell? ⟨w.heap.size, 1, none⟩ = some (.string a.2) := (f1.cell (p := ⟨w.heap.size, 1, none⟩) (by simp) fun h => h).trans (by simp)
    go_wp2_with fail
    refine (HN.out _).mono ?_
    rintro e w2 ⟨rfl, rfl⟩
    go_wp2_with fail
    go_ret
    exact ⟨ret_bool (by rw [HO.out]; simp), ((Fr.rfl' _ w).alloc _).trans f1⟩

def IdxA (w : World) (l : List Atr) (e : Ending) (w' : World) : Prop := Fr Nil w w' ∧ ∃ z : Int, e = .returned (.int .i64 z) ∧ (if l.any oddA then 0 ≤ z else z = -1)
def IdxI (w : World) (l : List Atr) (n : Nat) (i : Value) (wr : World) : Prop := ∃ k : Nat, k ≤ n ∧ i = .int .i64 k ∧ (l.take k).any oddA = false ∧ Fr Nil w wr

set_option maxRecDepth 100000 in
set_option maxHeartbeats 4000000 in
theorem indexA_any (w : World) (B : Nat) (t : Tok) (hok : TokOk w B t) (hB : B ≤ w.heap.size) :
    Calls Tryd.prog 52 #[.slice t.A t.n t.c, .func (.func 33) #[] #[]] w (IdxA w t.ats) := by
  obtain ⟨hc1, hc2⟩ := hok.cap
  unfold maxLen at hc2
  have HL := Lib.hid hok.len
  go_enter Tryd.func52, Tryd.ntmps52
  go_wp2
  go_loopw [5, 8] (fun _ i wr => IdxI w t.ats t.n i wr) (fun _ i _ => t.n - (intOf i).toNat)
  case atStart => exact ⟨0, Nat.zero_le _, rfl, rfl, Fr.rfl' _ _⟩
  case round =>
    obtain ⟨k, hk, rfl, hp, hf⟩ := hrel
    have HP := Lib.hid hp
    clear hp
    by_cases hlt : k < t.n
    · obtain ⟨ad, a, hA, hab, ha, hsa, c0, c1⟩ := atr_at (hok.fr hf hB fun _ x => x.elim) hlt
      rw [hA]
      have hc := fodd_any a wr
      cases hod : oddA a with
      | false =>
        rw [hod] at hc
        have HN := Lib.hid (show (t.ats.take (k + 1)).any oddA = false by rw [pany_take ha, HP.out, hod]; rfl)
        clear ha hsa hA
        go_wp2_with (refine hc.mono ?_; rintro e w5 ⟨rfl, f5⟩)
        go_roundw
        case rel => exact ⟨k + 1, by omega, by go_num, HN.out, hf.trans f5⟩
        case measure => simp [intOf]; omega
      | true =>
        rw [hod] at hc
        have HN := Lib.hid (any_yes ha hod)
        clear ha hsa hA
        go_wp2_with (refine hc.mono ?_; rintro e w5 ⟨rfl, f5⟩)
        go_ret
        exact ⟨hf.trans f5, _, rfl, by rw [HN.out, if_pos rfl]; omega⟩
    · obtain rfl : k = t.n := by omega
      have HN := Lib.hid (show t.ats.any oddA = false by have := HP.out; rwa [List.take_of_length_le (by rw [HL.out]; exact Nat.le_refl _)] at this)
      go_wp2
      go_ret
      exact ⟨hf, _, rfl, by rw [HN.out]; rfl⟩

theorem containsA_any (w : World) (B : Nat) (t : Tok) (hok : TokOk w B t) (hB : B ≤ w.heap.size) :
    Calls Tryd.prog 35 #[.slice t.A t.n t.c, .func (.func 33) #[] #[]] w fun e w' => e = .returned (.bool (t.ats.any oddA)) ∧ Fr Nil w w' := by
  have hi := indexA_any w B t hok hB
  generalize t.ats = l at hi ⊢
  have HI := Lib.hid hi
  clear hi hok
  go_enter Tryd.func35, Tryd.ntmps35
  go_wp2_with fail
  refine HI.out.mono ?_
  rintro e w1 ⟨f1, z, rfl, hz⟩
  cases h : l.any oddA with
  | true =>
    rw [h, if_pos rfl] at hz
    have H := Lib.hid h
    clear h
    go_wp2_with fail
    go_ret
    exact ⟨ret_bool (by rw [H.out]), f1⟩
  | false =>
    rw [h] at hz
    obtain rfl : z = -1 := hz
    have H := Lib.hid h
    clear h
    go_wp2_with fail
    go_ret
    exact ⟨ret_bool (by rw [H.out]), f1⟩

theorem lawStr : Keyed Tryd.prog 9 := string_keyed Tryd.underlying9
def FineI (w : World) (l : List Atr) (n : Nat) (i : Value) (wr : World) : Prop :=
  ∃ (k : Nat) (D : DataW Unit), k ≤ n ∧ i = .int .i64 k ∧ wr.ownsMap Tryd.prog 9 (plainElem Tryd.prog 3) w.heap.size k D ∧ Noted D (namesA (l.take k)) ∧ Below w.heap.size w wr ∧ w.heap.size < wr.heap.size

set_option maxRecDepth 100000 in
set_option maxHeartbeats 8000000 in
theorem fine_any (w : World) (t : Tok) (hok : TokOk w w.heap.size t) (hn : t.n ≤ 1000000) :
    Calls Tryd.prog 18 #[.slice t.A t.n t.c] w fun e w' => e = .returned (.bool (fineB t.ats)) ∧ Fr Nil w w' := by
  have HL := Lib.hid hok.len
  have hmm := @run_makeMap Tryd.prog
  go_enter Tryd.func18, Tryd.ntmps18
  go_wp2_with fail
  go_loopw [4, 5, 10] (fun _ _ i wr => FineI w t.ats t.n i wr) (fun _ _ i _ => t.n - (intOf i).toNat)
  case atStart => exact ⟨0, _, Nat.zero_le _, rfl, World.ownsMap_made _ _ _ _, noted_nil, (Below.refl _ _).alloc (Nat.le_refl _) _, by simp⟩
  case round =>
    obtain ⟨k, D, hk, rfl, hown, hD, hb, hsz⟩ := hrel
    have HD := Lib.hid hD
    clear hD
    by_cases hlt : k < t.n
    · obtain ⟨ad, a, hA, hab, ha, hsa, c0, c1⟩ := atr_at (hok.below hb) hlt
      rw [hA]
      have hkey : keyOf Tryd.prog 9 (.string a.1) = some (.string a.1.data.toList) := Go.WideMaps.keyOf_string_mk Tryd.underlying9 (by have := hsa.1; unfold maxLen; omega)
      have HN := Lib.hid (HD.out.put (hown.tidy lawStr) (bs a.1) (.lit (.int .i64 (k : Int))))
      rw [← namesA_take ha] at HN
      have hwf : (Lit.int .i64 (k : Int)).wf = true := by simp [Lit.wf, IntKind.min, IntKind.max, IntKind.signed, IntKind.bits]; omega
      have hown0 := hown
      clear ha hA
      go_wp2_with (
        at_mapUpdate
        refine wpList_mapUpdate_own _ rfl _ _ _ 61 rfl 9 3 lawStr Tryd.underlying61 _ w.heap.size k D rfl (hown0.alloc _) (by unfold maxLen; omega) _ _ _ rfl rfl hkey _ [] (plainElem_int Tryd.underlying3 hwf) ?_
        intro w1 hown1 hgrow1)
      have hgb : Below w.heap.size w w1 := (hb.alloc hb.size (.cells #[.string a.1, .string a.2] 33)).grown hgrow1 (by rw [World.size_alloc]; omega) (fun j hj => by cases hj; exact Nat.le_refl _)
      have hsz1 := hgrow1.size
      rw [World.size_alloc] at hsz1
      go_roundw
      case rel => exact ⟨k + 1, _, by omega, by go_num, hown1, HN.out, hgb, by omega⟩
      case measure => simp [intOf]; omega
    · obtain rfl : k = t.n := by omega
      have hta : t.ats.take t.n = t.ats := List.take_of_length_le (by rw [HL.out]; exact Nat.le_refl _)
      have hD2 := HD.out
      rw [hta] at hD2
      have hnl : (namesA t.ats).length = t.n := by rw [namesA, List.length_map, HL.out]
      have hle := hD2.le
      have heq := hD2.eq
      rw [hnl] at hle heq
      have hcn := containsA_any wr w.heap.size t (hok.below hb) hb.size
      have HCN := Lib.hid hcn
      clear hcn hD2 hta HD
      generalize hsize : Maps.size D = z at *
      have hlen : ∀ ty, (Builtin.len_ #[61] ty #[.map (some w.heap.size)]).run Tryd.prog wr = .ok (.int .i64 (z : Int)) wr := fun ty => by
        rw [← hsize]
        exact hown.len Tryd.underlying61 ty
      clear hsize
      by_cases hz : z = t.n
      · have HND := Lib.hid (heq.1 hz)
        have q1 : ((z : Int) == (t.n : Int)) = true := by simp; omega
        subst hz
        clear heq
        go_wp2_with fail
        refine HCN.out.mono ?_
        rintro e w2 ⟨rfl, f2⟩
        go_wp2_with fail
        go_ret
        exact ⟨ret_bool (by unfold fineB; rw [decide_eq_true HND.out]; simp), Fr.of_below (hb.trans (f2.to_below hb.size fun _ x => x.elim))⟩
      · have HND := Lib.hid (fun h => hz (heq.2 h))
        have q1 : ((z : Int) == (t.n : Int)) = false := by simp; omega
        clear heq
        go_wp2_with fail
        go_ret
        exact ⟨ret_bool (by unfold fineB; rw [decide_eq_false HND.out]; rfl), Fr.of_below hb⟩
end Go.Proofs.YtblbcojkjknfdaaDoor
