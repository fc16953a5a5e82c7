/-
  cribbleref05.Named, walked.
-/
import Derived.Test.YtcplmdheoagmcaaDoorRefN
import Derived.Test.YtcplmdheoagmcaaDoorNamed
namespace Go.Proofs.YtcplmdheoagmcaaDoor
open Go.RowKit

def RNI (w : World) (l : List Ent) (s : Pth) (t n i : Value) (wr : World) : Prop :=
  ∃ k : Nat, k ≤ 134 ∧ i = .int .i64 k ∧ t = .string (str (rnamed (l.take k) s).1) ∧ n = .int .i64 (rnamed (l.take k) s).2 ∧ Fr Nil w wr
theorem rnamed_le (l : List Ent) (s : Pth) : (rnamed l s).2 ≤ s.length := by
  rcases (best_rnamed l s).2 with h | ⟨x, _, hp, _, h⟩
  · rw [h]; exact Nat.zero_le _
  · rw [h]; exact hp.length_le

set_option maxRecDepth 100000 in
set_option maxHeartbeats 4000000 in
theorem rnamed_any (w : World) (s : ByteArray) (hs : s.size ≤ 1048576) : Calls Tryd.prog 14 #[.string s] w (RetSN (namedP (bs s)) w) := by
  rw [← rnamed_named]
  have HE := Lib.hid (show refE.length = 134 by rw [refE, List.length_map, refE_len])
  have HM : ∀ i x, refE[i]? = some x → ∃ b, (namesOf rowsR)[i]? = some (x, b) := fun i x h => by
    rw [refE, List.getElem?_map, Option.map_eq_some_iff] at h
    obtain ⟨⟨y, b⟩, h1, h2⟩ := h
    exact ⟨b, by rw [h1, ← h2]⟩
  have HM2 := Lib.hid HM
  have HZ := Lib.hid (show ∀ x ∈ refE, x.1.length ≤ 64 from fun x hx => (allU_small x (refE_mem.1 x hx)).2)
  have HN := Lib.hid rnames_any
  clear HM
  generalize refE = l at HE HM2 HZ ⊢
  generalize namesOf rowsR = rs at HM2 HN
  go_enter Tryd.func14, Tryd.ntmps14
  go_wp2_with (go_at_call 37; refine (HN.out _).mono ?_; rintro e w1 ⟨A0, c0, rfl, hr0, hf1, _⟩)
  obtain ⟨g, rfl, _⟩ := hr0.form (by decide)
  have hr := hr0
  clear hr0
  go_loopw [4, 5, 7, 8] (fun t n i _ wr => RNI w1 l (bs s) t n i wr) (fun _ _ i _ _ => 134 - (intOf i).toNat)
  case atStart => exact ⟨0, Nat.zero_le _, rfl, rfl, rfl, Fr.rfl' _ _⟩
  case round =>
    obtain ⟨k, hk, rfl, rfl, rfl, hf⟩ := hrel
    by_cases hlt : k < 134
    · obtain ⟨x, hx⟩ : ∃ x, l[k]? = some x := ⟨_, List.getElem?_eq_getElem (by rw [HE.out]; exact hlt)⟩
      obtain ⟨bb, hxr⟩ := HM2.out k x hx
      have hr2 := hr.fr hf fun _ _ h => h
      have k0 := hr2.cell (k * 3) (by omega)
      have k1 := hr2.cell (k * 3 + 1) (by omega)
      rw [(row_at hxr).1] at k0
      rw [(row_at hxr).2.1] at k1
      have hzx : x.1.length ≤ 64 := HZ.out x (List.mem_of_getElem? hx)
      have hszx : (str x.1).size = x.1.length := size_str _
      have hT := rnamed_take hx (bs s)
      have hle := rnamed_le (l.take k) (bs s)
      rw [← size_bs] at hle
      generalize rnamed (l.take k) (bs s) = r at hT hle
      obtain ⟨t, n⟩ := r
      have hxe : bs (s.extract 0 x.1.length) = (bs s).take x.1.length := by rw [bs_extract]; rfl
      by_cases h1 : n < x.1.length
      · by_cases h2 : x.1.length ≤ s.size
        · by_cases h3 : (bs s).take x.1.length = x.1
          · have hq : ((s.extract 0 x.1.length).toList == (str x.1).toList) = true := by
              rw [show s.extract 0 x.1.length = str x.1 from by rw [← str_bs (s.extract 0 x.1.length), hxe, h3]]
              exact str_beq_self _
            have HT := Lib.hid (show rnamed (l.take (k + 1)) (bs s) = (x.2, x.1.length) by
              rw [hT, betterR, if_pos ⟨h1, by rw [← size_bs]; exact h2, h3⟩])
            clear hT hx hxr hr2 hxe h3
            go_wp2
            go_roundw
            case rel => exact ⟨k + 1, hlt, by go_num, by rw [HT.out], by rw [HT.out], hf⟩
            case measure => simp [intOf]; omega
          · have hq : ((s.extract 0 x.1.length).toList == (str x.1).toList) = false := str_beq_ne fun e => h3 (by rw [← hxe, e, bs_str])
            have HT := Lib.hid (show rnamed (l.take (k + 1)) (bs s) = (t, n) by
              rw [hT, betterR, if_neg (fun h => h3 h.2.2)])
            clear h3 hT hx hxr hr2 hxe
            go_wp2
            go_roundw
            case rel => exact ⟨k + 1, hlt, by go_num, by rw [HT.out], by rw [HT.out], hf⟩
            case measure => simp [intOf]; omega
        · have h2' : ¬ (x.1.length : Int) ≤ s.size := by omega
          have HT := Lib.hid (show rnamed (l.take (k + 1)) (bs s) = (t, n) by
            rw [hT, betterR, if_neg (fun h => h2 (by rw [size_bs]; exact h.2.1))])
          clear hT hx hxr hr2 hxe
          go_wp2
          go_roundw
          case rel => exact ⟨k + 1, hlt, by go_num, by rw [HT.out], by rw [HT.out], hf⟩
          case measure => simp [intOf]; omega
      · have h1' : ¬ (n : Int) < x.1.length := by omega
        have HT := Lib.hid (show rnamed (l.take (k + 1)) (bs s) = (t, n) by
          rw [hT, betterR, if_neg (fun h => h1 h.1)])
        clear hT hx hxr hr2 hxe
        go_wp2
        go_roundw
        case rel => exact ⟨k + 1, hlt, by go_num, by rw [HT.out], by rw [HT.out], hf⟩
        case measure => simp [intOf]; omega
    · obtain rfl : 134 = k := by omega
      have hta : l.take 134 = l := List.take_of_length_le (by rw [HE.out]; exact Nat.le_refl _)
      rw [hta]
      clear hta
      go_wp2
      go_ret2
      exact ⟨rfl, hf1.trans hf⟩
end Go.Proofs.YtcplmdheoagmcaaDoor
