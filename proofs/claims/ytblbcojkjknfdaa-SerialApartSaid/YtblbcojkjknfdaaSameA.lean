/-
  cribbleref10.SameAttrs, walked.
-/
import Derived.Test.YtblbcojkjknfdaaTok
import Derived.Test.YtblbcojkjknfdaaUtil
import Derived.Deep.RegionWith
import Derived.Laws.StructEq
namespace Go.Proofs.Ytblbcojkjknfdaa
open Go.RowKit

theorem toList_iff : ∀ x y : ByteArray, x.toList = y.toList ↔ x = y := by
    rintro ⟨⟨x⟩⟩ ⟨⟨y⟩⟩
    have h := beq_toListBytes ⟨⟨x⟩⟩ ⟨⟨y⟩⟩
    have h2 : ((⟨⟨x⟩⟩ : ByteArray) == ⟨⟨y⟩⟩) = (x == y) := by
      show ((⟨x⟩ : Array UInt8) == ⟨y⟩) = _
      simp
    rw [h2] at h
    have h3 := congrArg (· = true) h
    simp only [beq_iff_eq, eq_iff_iff] at h3
    rw [← h3]
    simp
theorem take_eq {α : Type} {l1 l2 : List α} {k : Nat} {x y : α} (h : l1.take k = l2.take k) (hx : l1[k]? = some x) (hy : l2[k]? = some y) (he : x = y) : l1.take (k + 1) = l2.take (k + 1) := by
  obtain ⟨h1, rfl⟩ := List.getElem?_eq_some_iff.1 hx
  obtain ⟨h2, rfl⟩ := List.getElem?_eq_some_iff.1 hy
  rw [List.take_succ_eq_append_getElem h1, List.take_succ_eq_append_getElem h2, h, he]
theorem list_ne {α : Type} [DecidableEq α] {l1 l2 : List α} {k : Nat} {x y : α} (hx : l1[k]? = some x) (hy : l2[k]? = some y) (he : x ≠ y) : decide (l1 = l2) = false := decide_eq_false (by
  rintro rfl
  rw [hx] at hy
  exact he (Option.some.inj hy))
@[go_sem] theorem guard_attr (op : BinOp) (x y : Operand) (xs ys : Array Value) (w : World) : (eqGuard op 33 x y (.agg xs) (.agg ys)).run Try.prog w = .ok () w := run_eqGuard_agg w op _ x y xs ys (by kernel_rfl)

theorem atr_read {w : World} {B n : Nat} {A : Option Addr} {l : List Atr} (h : Reads w B 2 A n (l.flatMap atrCells)) (hl : l.length = n) {k : Nat} (hk : k < n) : ∃ ad a, A = some ad ∧ l[k]? = some a ∧ w.cell? (ad.add (k * 2)) = some (.string a.1) ∧ w.cell? ⟨(ad.add (k * 2)).block, (ad.add (k * 2)).off + 1, none⟩ = some (.string a.2) := by
  obtain ⟨ad, hA, hb, hc⟩ := h.2 (by omega)
  have hkl : k < l.length := by rw [hl]; exact hk
  have ht : l[k]? = some l[k] := List.getElem?_eq_getElem hkl
  have hcell : ∀ i u, i < 2 → (atrCells l[k])[i]? = some u → w.cell? (ad.add (k * 2 + i)) = some u := fun i u hi hu => hc _ _ (by
    rw [flatMap_get atrCells 2 (by decide) (fun _ => rfl), show (k * 2 + i) / 2 = k by omega, show (k * 2 + i) % 2 = i by omega, ht]
    exact hu)
  exact ⟨ad, l[k], hA, ht, hcell 0 _ (by omega) rfl, by rw [← add_spell ad _ 1 (by omega)]; exact hcell 1 _ (by omega) rfl⟩

def SaI (w : World) (l1 l2 : List Atr) (n : Nat) (s5 : Value) (wr : World) : Prop := ∃ k m : Nat, k ≤ n ∧ s5 = .int .i64 k ∧ l1.take k = l2.take k ∧ wr = w.drewN m

set_option maxRecDepth 100000 in
set_option maxHeartbeats 2000000 in
theorem attrs_any (w : World) (B1 B2 : Nat) (A1 A2 : Option Addr) (n1 n2 c1 c2 : Nat) (l1 l2 : List Atr) (h1 : Reads w B1 2 A1 n1 (l1.flatMap atrCells)) (e1 : l1.length = n1) (h2 : Reads w B2 2 A2 n2 (l2.flatMap atrCells)) (e2 : l2.length = n2) (hn : n1 ≤ maxLen) (hn2 : n2 ≤ maxLen) :
    Calls Try.prog 26 #[.slice A1 n1 c1, .slice A2 n2 c2] w fun e w' => e = .returned (.bool (decide (l1 = l2))) ∧ ∃ m, w' = w.drewN m := by
  unfold maxLen at hn hn2
  go_enter Try.func26, Try.ntmps26
  by_cases hne : n1 = n2
  · subst hne
    go_wp2_with fail
    go_loopw [5] (fun s5 wr => SaI w l1 l2 n1 s5 wr) (fun i _ => n1 - (intOf i).toNat)
    case atStart => exact ⟨0, 0, Nat.zero_le _, rfl, rfl, rfl⟩
    case round =>
      obtain ⟨k, m, hk, rfl, ht, rfl⟩ := hrel
      by_cases hlt : k < n1
      · obtain ⟨a1, x, rfl, hx, x0, x1⟩ := atr_read h1 e1 hlt
        obtain ⟨a2, y, rfl, hy, y0, y1⟩ := atr_read h2 e2 hlt
        have HX := Lib.hid (And.intro hx hy)
        have HT := Lib.hid ht
        have E := Lib.hid (And.intro e1 e2)
        clear hx hy ht e1 e2
        by_cases hxy : x = y
        · have u : x.fst.toList = y.fst.toList := by rw [hxy]
          have v : x.snd.toList = y.snd.toList := by rw [hxy]
          have HT := Lib.hid (take_eq HT.out HX.out.1 HX.out.2 hxy)
          clear HX hxy
          go_wp2_with fail
          go_region_with (fail)
          all_goals
            go_wp2_with fail
            go_roundw
            case rel => exact ⟨k + 1, _, by omega, by go_num, HT.out, rfl⟩
            case measure => simp [intOf]; omega
        · have hd := Lib.hid (list_ne HX.out.1 HX.out.2 hxy)
          have huv : ¬ (x.fst.toList = y.fst.toList ∧ x.snd.toList = y.snd.toList) := fun h => hxy (Prod.ext ((toList_iff _ _).1 h.1) ((toList_iff _ _).1 h.2))
          clear HX HT hxy
          by_cases u : x.fst.toList = y.fst.toList
          · have v : ¬ x.snd.toList = y.snd.toList := fun h => huv ⟨u, h⟩
            clear huv
            go_wp2_with fail
            go_region_with (fail)
            all_goals
              go_wp2_with fail
              go_ret
              exact ⟨by rw [hd.out]; rfl, _, rfl⟩
          · clear huv
            go_wp2_with fail
            go_region_with (fail)
            all_goals
              go_wp2_with fail
              go_ret
              exact ⟨by rw [hd.out]; rfl, _, rfl⟩
      · obtain rfl : k = n1 := by omega
        go_wp2_with fail
        go_ret
        exact ⟨by rw [List.take_of_length_le (by omega), List.take_of_length_le (by omega)] at ht; simp [ht], m, rfl⟩
  · have hd : decide (l1 = l2) = false := decide_eq_false (by rintro rfl; omega)
    rw [hd]
    have hz : ¬ (n1 : Int) = n2 := by omega
    go_wp2_with fail
    go_ret
    exact ⟨rfl, 0, rfl⟩
end Go.Proofs.Ytblbcojkjknfdaa
