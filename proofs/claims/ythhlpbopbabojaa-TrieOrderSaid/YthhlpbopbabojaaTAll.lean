/-
  TrieAll, walked. (Printed by gen_tall.py.)
-/
import Derived.Test.YthhlpbopbabojaaFinds
namespace Go.Proofs.Ythhlpbopbabojaa
open Go.RowKit

/-! ### plain -/
theorem find_word {Lb : List Pth} {x : Pth} {k : Nat} (hn : Lb.Nodup) (hx : Lb[k]? = some x) : findR Lb x = ((k : Int), true) := by
  unfold findR
  rw [idx_of hn hx]
theorem long_word {Lb : List Pth} {x : Pth} {k : Nat} (hn : Lb.Nodup) (hx : Lb[k]? = some x) (h0 : x ≠ []) : longR Lb x = ((k : Int), (x.length : Int)) := by
  obtain ⟨m, hm⟩ : ∃ m, x.length = m + 1 := ⟨x.length - 1, by have := List.length_pos_iff.2 h0; omega⟩
  unfold longR
  rw [hm, endsTo, ← hm, List.take_length, idx_of hn hx]
  exact lastOf_snoc _ _
theorem lastOf_ge {Lb : List Pth} {s : Pth} {j : Nat} (h : s.take j ∈ Lb) (h0 : 0 < j) : ∀ k, j ≤ k → (j : Int) ≤ (lastOf (endsTo Lb s k)).2 := by
  intro k
  induction k with
  | zero => intro h1; omega
  | succ k ih =>
    intro h1
    rw [endsTo]
    cases hi : idx Lb (s.take (k + 1)) with
    | some m => rw [lastOf_snoc]; show (j : Int) ≤ ((k + 1 : Nat) : Int); omega
    | none =>
      simp only [List.append_nil]
      by_cases he : j = k + 1
      · subst he
        exact absurd h (idx_none.1 hi)
      · exact ih (by omega)
theorem long_more {Lb : List Pth} {x : Pth} (r : Pth) (h : x ∈ Lb) (h0 : x ≠ []) : (x.length : Int) ≤ (longR Lb (x ++ r)).2 :=
  lastOf_ge (by rw [List.take_left' rfl]; exact h) (List.length_pos_iff.2 h0) _ (by rw [List.length_append]; omega)
theorem insAll_asc {Lb : List Pth} (hn : Lb.Nodup) : (insAll Lb).Pairwise fun a b => a < b := by
  obtain ⟨hp, ha⟩ := insAll_spec Lb
  exact (ha.and (hp.nodup_iff.2 hn)).imp fun {a b} h => by
    rcases List.le_iff_lt_or_eq.1 (List.not_lt.1 h.1) with h1 | h1
    · exact h1
    · exact (h.2 h1).elim
theorem asc_at {l : List Pth} (h : l.Pairwise fun a b => a < b) {q : Nat} {x y : Pth} (hx : l[q]? = some x) (hy : l[q + 1]? = some y) : x < y := by
  obtain ⟨h1, rfl⟩ := List.getElem?_eq_some_iff.1 hx
  obtain ⟨h2, rfl⟩ := List.getElem?_eq_some_iff.1 hy
  exact List.pairwise_iff_getElem.1 h q (q + 1) h1 h2 (by omega)

set_option maxRecDepth 100000 in
set_option maxHeartbeats 4000000 in
theorem tall_any (w : World) (A : Option Addr) (n c : Nat) (L : List ByteArray) (s : ByteArray) (hr : Reads w w.heap.size 1 A n (L.map .string)) (hn : n ≤ maxLen) :
    Calls Try.prog 6 #[.slice A n c, .string s] w fun e w' => e = .returned (.bool true) ∧ Fr Nil w w' := by
  have hl : L.length = n := by simpa using hr.1
  have HL := Lib.hid hl
  have HFW := Lib.hid (fun (w1 : World) (h : Fr Nil w w1) => few_any w1 A n c L w.heap.size (hr.fr h (Nat.le_refl _) fun _ x => x.elim) hn)
  clear hl
  cases hfew : fewB L with
  | false =>
    have HF := Lib.hid hfew
    clear hfew
    go_enter Try.func6, Try.ntmps6
    go_wp2_with fail
    refine (awake_any w).mono ?_
    rintro e w1 ⟨rfl, f1⟩
    go_wp2_with fail
    refine (HFW.out w1 f1).mono ?_
    rintro e w2 ⟨rfl, rfl⟩
    rw [HF.out]
    go_wp2_with fail
    go_ret
    exact ⟨rfl, f1⟩
  | true =>
    have hn120 := fewB_len hfew
    rw [HL.out] at hn120
    have HF := Lib.hid hfew
    clear hfew
    by_cases hb : 100 < s.size
    · have hb' : (100 : Int) < s.size := by omega
      go_enter Try.func6, Try.ntmps6
      go_wp2_with fail
      refine (awake_any w).mono ?_
      rintro e w1 ⟨rfl, f1⟩
      go_wp2_with fail
      refine (HFW.out w1 f1).mono ?_
      rintro e w2 ⟨rfl, rfl⟩
      rw [HF.out]
      go_wp2_with fail
      go_ret
      exact ⟨rfl, f1⟩
    · have hb' : ¬ (100 : Int) < s.size := by omega
      go_enter Try.func6, Try.ntmps6
      go_wp2_with fail
      refine (awake_any w).mono ?_
      rintro e w1 ⟨rfl, f1⟩
      go_wp2_with fail
      refine (HFW.out w1 f1).mono ?_
      rintro e w2 ⟨rfl, rfl⟩
      rw [HF.out]
      have hrW : ∀ W, Fr Nil w W → Reads W W.heap.size 1 A n (L.map .string) := fun W f => (hr.fr f (Nat.le_refl _) fun _ x => x.elim).more f.size
      have HRW := Lib.hid hrW
      clear hrW
      go_wp2_with fail
      refine (new_any w1 A n c L (HRW.out _ f1)).mono ?_
      rintro e w2 ⟨f2, hcase⟩
      have f := f1.trans f2
      rcases hcase with ⟨hbig, _⟩ | ⟨_, hodd, rfl⟩ | ⟨_, hodd, hnd, rfl⟩ | ⟨_, hodd, hnd, b, P, ns, rfl, ht, hfu, hpl⟩
      · rw [HL.out] at hbig; omega
      · clear hodd
        go_wp2_with fail
        go_ret
        exact ⟨rfl, f⟩
      · clear hodd hnd
        go_wp2_with fail
        go_ret
        exact ⟨rfl, f⟩
      · have hsz := odd_size hodd
        have hnil := not_odd_nil hodd
        have htW : ∀ W, Fr Nil w2 W → TrieAt W w1.heap.size b L P ns := fun W g => ht.fr g fun _ _ _ x => x
        have HTF := Lib.hid (fun W (g : Fr Nil w2 W) (s : ByteArray) (hsm : s.size ≤ 1048576) => tfind_any W _ b s hsm L P ns (htW W g) hfu hnil)
        have HTL := Lib.hid (fun W (g : Fr Nil w2 W) (s : ByteArray) (hsm : s.size ≤ 1048576) => longest_any W _ b s hsm L P ns (htW W g) hfu)
        have HTS := Lib.hid (tsorted_any w2 _ b L P ns ht hfu hnd hsz (by rw [HL.out]; omega))
        rw [HL.out] at HTS
        have HSZ := Lib.hid hsz
        have HND := Lib.hid hnd
        have HNIL := Lib.hid hnil
        have HIN := Lib.hid (insAll_asc hnd)
        have HILn := Lib.hid (show (insAll (L.map bs)).length = n by rw [insAll_len, List.length_map, HL.out])
        generalize insAll (L.map bs) = l at HTS HIN HILn
        have HSM := Lib.hid hb
        have hsm : s.size ≤ 100 := by omega
        clear hodd hnd hsz hnil htW ht hfu hpl
        go_wp2_with fail
        refine HTS.out.mono ?_
        rintro e w3 ⟨A1, c1, rfl, o1, f3, _⟩
        have HO1 := Lib.hid o1
        have HF3 := Lib.hid (f.trans f3)
        have HG3 := Lib.hid f3
        clear o1
        go_wp2_with fail
        go_loopw [10, 11, 12, 13, 14, 15, 16] (fun i _ _ _ _ _ _ wr => ∃ k : Nat, k ≤ n ∧ i = .int .i64 k ∧ Fr Nil w3 wr) (fun i _ _ _ _ _ _ _ => n - (intOf i).toNat)
        case atStart => exact ⟨0, Nat.zero_le _, rfl, Fr.rfl' _ _⟩
        case round =>
          obtain ⟨k, hk, rfl, g3⟩ := hrel
          by_cases hlt : k < n
          · have fw := HF3.out.trans g3
            obtain ⟨ad, x, rfl, hbx, hx, hc⟩ := reads_str (HRW.out _ fw) hlt
            have hxb : (L.map bs)[k]? = some (bs x) := by rw [List.getElem?_map, hx]; rfl
            have hxz := HSZ.out x (List.mem_of_getElem? hx)
            have hx0 : bs x ≠ [] := fun e => HNIL.out (by rw [← e]; exact List.mem_of_getElem? hxb)
            have hF := HTF.out wr (HG3.out.trans g3) x (by omega)
            have hE := HTL.out wr
            rw [find_word HND.out hxb] at hF
            have HFd := Lib.hid hF
            have HL1 := Lib.hid (fun W (g : Fr Nil w2 W) => by
              have := HTL.out W g x (by omega)
              rw [long_word HND.out hxb hx0, ← size_bs] at this
              exact this)
            have HL2 := Lib.hid (fun W (g : Fr Nil w2 W) => HTL.out W g (x ++ s) (by rw [size_bs, bs_append, List.length_append, ← size_bs, ← size_bs]; omega))
            have hge := long_more (Lb := L.map bs) (bs s) (List.mem_of_getElem? hxb) hx0
            rw [← bs_append, ← size_bs] at hge
            generalize hR : longR (L.map bs) (bs (x ++ s)) = R at HL2 hge
            obtain ⟨R1, R2⟩ := R
            clear hR
            dsimp only at hge
            have HC := Lib.hid hc
            clear hx hxb hx0 hF hE
            go_wp2_with fail
            refine HFd.out.mono ?_
            rintro e w4 ⟨rfl, f4⟩
            have hc4 := (f4.cell (p := ad.add k) (by rw [block_of_add]; exact hbx) fun h => h).trans HC.out
            have hz4 := f4.size
            clear hc
            go_wp2_with fail
            refine (HL1.out _ ((HG3.out.trans g3).trans f4)).mono ?_
            rintro e w5 ⟨rfl, f5⟩
            have hc5 := (f5.cell (p := ad.add k) (by rw [block_of_add]; omega) fun h => h).trans hc4
            have hz5 := f5.size
            clear hc4
            go_wp2_with fail
            refine (HL2.out _ (((HG3.out.trans g3).trans f4).trans f5)).mono ?_
            rintro e w6 ⟨rfl, f6⟩
            have hc6 := (f6.cell (p := ad.add k) (by rw [block_of_add]; omega) fun h => h).trans hc5
            clear hc5
            have hge2 : ¬ R2 < (x.size : Int) := by omega
            go_wp2_with fail
            go_roundw
            case rel => exact ⟨k + 1, by omega, by go_num, ((g3.trans f4).trans f5).trans f6⟩
            case measure => (simp [intOf]; try omega)
          · obtain rfl : k = n := by omega
            have HO2 := Lib.hid (HO1.out.fr g3 fun _ _ h => h)
            have HFX := Lib.hid (HF3.out.trans g3)
            go_wp2_with fail
            go_loopw [17] (fun i wr2 => ∃ j m : Nat, 1 ≤ j ∧ (j ≤ k ∨ j = 1) ∧ i = .int .i64 j ∧ wr2 = wr.drewN m) (fun i _ => k + 1 - (intOf i).toNat)
            case atStart => exact ⟨1, 0, Nat.le_refl _, .inr rfl, rfl, rfl⟩
            case round =>
              obtain ⟨j, m, hj1, hj, rfl, rfl⟩ := hrel
              by_cases hjk : j < k
              · obtain ⟨q, rfl⟩ : ∃ q, j = q + 1 := ⟨j - 1, by omega⟩
                obtain ⟨x, hx⟩ : ∃ x, l[q]? = some x := ⟨_, List.getElem?_eq_getElem (by rw [HILn.out]; omega)⟩
                obtain ⟨y, hy⟩ : ∃ y, l[q + 1]? = some y := ⟨_, List.getElem?_eq_getElem (by rw [HILn.out]; omega)⟩
                obtain ⟨g, rfl, _⟩ := HO2.out.form (by omega)
                have d1 := HO2.out.cell q (by omega)
                have d2 := HO2.out.cell (q + 1) (by omega)
                rw [txt_at hx] at d1
                rw [txt_at hy] at d2
                have hls := less_str x y
                rw [decide_eq_true (asc_at HIN.out hx hy)] at hls
                clear hx hy
                go_wp2_with fail
                go_quiet (fail)
                go_wp2_with fail
                go_roundw
                case rel => exact ⟨q + 1 + 1, _, by omega, by omega, by go_num, rfl⟩
                case measure => (simp [intOf]; try omega)
              · go_wp2_with fail
                go_ret
                exact ⟨by simp, HFX.out.drewN m⟩
end Go.Proofs.Ythhlpbopbabojaa
