/-
  cribbleref04.Longest, New, walked.
-/
import Derived.Test.YthhlpbopbabojaaTRef
namespace Go.Proofs.Ythhlpbopbabojaa
open Go.RowKit

/-! ### the longest word: plain -/
structure RLong (Lb : List Pth) (s : Pth) (k : Nat) (best : Int) (n : Nat) : Prop where
  le : n ≤ s.length
  no : n = 0 → best = -1
  some_ : 0 < n → ∃ i : Nat, i < k ∧ best = i ∧ Lb[i]? = some (s.take n)
  max_ : ∀ (i : Nat) x, i < k → Lb[i]? = some x → x <+: s → x.length ≤ n
theorem RLong.start (Lb : List Pth) (s : Pth) : RLong Lb s 0 (-1) 0 := ⟨Nat.zero_le _, fun _ => rfl, fun h => absurd h (Nat.lt_irrefl _), fun i x h => absurd h (Nat.not_lt_zero i)⟩
section
variable {Lb : List Pth} {s x : Pth} {k n : Nat} {best : Int} (h : RLong Lb s k best n) (hx : Lb[k]? = some x)
include h hx
theorem RLong.take_ (h1 : n < x.length) (h2 : x.length ≤ s.length) (h3 : s.take x.length = x) : RLong Lb s (k + 1) (k : Int) x.length := by
  refine ⟨h2, fun h => by omega, fun _ => ⟨k, by omega, rfl, by rw [h3]; exact hx⟩, fun i y hi hy hp => ?_⟩
  by_cases hik : i = k
  · subst hik
    rw [hx] at hy
    injection hy with hy
    rw [hy]
    exact Nat.le_refl _
  · have := h.max_ i y (by omega) hy hp
    omega
theorem RLong.leave (hno : ¬ (n < x.length ∧ x.length ≤ s.length ∧ s.take x.length = x)) : RLong Lb s (k + 1) best n := by
  refine ⟨h.le, h.no, fun h0 => ?_, fun i y hi hy hp => ?_⟩
  · obtain ⟨i, h1, h2, h3⟩ := h.some_ h0
    exact ⟨i, by omega, h2, h3⟩
  · by_cases hik : i = k
    · subst hik
      rw [hx] at hy
      injection hy with hy
      subst hy
      refine Classical.byContradiction fun hlt => hno ⟨by omega, hp.length_le, ?_⟩
      exact (List.prefix_iff_eq_take.1 hp).symm
    · exact h.max_ i y (by omega) hy hp
end
theorem endsTo_none {Lb : List Pth} {s : Pth} {n : Nat} (t : Nat) (h : ∀ j, n < j → j ≤ n + t → s.take j ∉ Lb) : endsTo Lb s (n + t) = endsTo Lb s n := by
  induction t with
  | zero => rfl
  | succ t ih =>
    rw [← Nat.add_assoc, endsTo, ih fun j h1 h2 => h j h1 (by omega), idx_none.2 (h (n + t + 1) (by omega) (by omega))]
    simp
theorem RLong.end_ {Lb : List Pth} {s : Pth} {n : Nat} {best : Int} (h : RLong Lb s Lb.length best n) (hn : Lb.Nodup) : longR Lb s = (best, (n : Int)) := by
  have hno : ∀ j, n < j → j ≤ n + (s.length - n) → s.take j ∉ Lb := fun j h1 h2 hm => by
    obtain ⟨i, hi⟩ := List.getElem?_of_mem hm
    have h3 := h.max_ i _ (List.getElem?_eq_some_iff.1 hi).1 hi (List.take_prefix _ _)
    rw [List.length_take] at h3
    have := h.le
    omega
  have he := endsTo_none (s.length - n) hno
  rw [show n + (s.length - n) = s.length by have := h.le; omega] at he
  unfold longR
  rw [he]
  rcases Nat.eq_zero_or_pos n with h0 | h0
  · subst h0
    rw [h.no rfl]
    rfl
  · obtain ⟨i, _, rfl, hi⟩ := h.some_ h0
    obtain ⟨m, rfl⟩ : ∃ m, n = m + 1 := ⟨n - 1, by omega⟩
    rw [endsTo, idx_of hn hi]
    exact lastOf_snoc _ _

/-! ### walked -/
theorem ext_take (s : ByteArray) (k : Nat) : bs (s.extract 0 k) = (bs s).take k := by rw [bs_extract, List.drop_zero]
set_option maxRecDepth 100000 in
set_option maxHeartbeats 4000000 in
theorem rlong_any (w : World) (A : Option Addr) (n c : Nat) (L : List ByteArray) (B : Nat) (s : ByteArray) (hr : Reads w B 1 A n (L.map .string)) (hn : n ≤ 1048576) (hs : s.size ≤ 1048576) (hz : ∀ x ∈ L, x.size ≤ 1048576) (hnd : (L.map bs).Nodup) :
    Calls Try.prog 18 #[.slice A n c, .string s] w fun e w' => e = .returned (.tuple #[.int .i64 (longR (L.map bs) (bs s)).1, .int .i64 (longR (L.map bs) (bs s)).2]) ∧ w = w' := by
  have hl : L.length = n := by simpa using hr.1
  have HL := Lib.hid hl
  have HND := Lib.hid hnd
  have HZ := Lib.hid hz
  clear hl hnd hz
  go_enter Try.func18, Try.ntmps18
  go_wp2
  go_loop [6, 7, 8, 9] (fun b6 b7 i _ => ∃ (k m : Nat) (z : Int), k ≤ n ∧ i = .int .i64 k ∧ b6 = .int .i64 z ∧ b7 = .int .i64 m ∧ RLong (L.map bs) (bs s) k z m) (fun _ _ i _ => n - (intOf i).toNat)
  case atStart => exact ⟨0, 0, -1, Nat.zero_le _, rfl, rfl, rfl, RLong.start _ _⟩
  case round =>
    obtain ⟨k, m, z, hk, rfl, rfl, rfl, hp⟩ := hrel
    have HP := Lib.hid hp
    clear hp
    by_cases hlt : k < n
    · obtain ⟨ad, x, rfl, _, hx, hc⟩ := reads_str hr hlt
      have hxb : (L.map bs)[k]? = some (bs x) := by rw [List.getElem?_map, hx]; rfl
      have hxz := HZ.out x (List.mem_of_getElem? hx)
      have HXB := Lib.hid hxb
      have hmz : m ≤ 1048576 := by have := HP.out.le; rw [← size_bs] at this; omega
      clear hx hxb
      by_cases h1 : m < x.size
      · have h1z : (m : Int) < (x.size : Int) := by omega
        by_cases h2 : x.size ≤ s.size
        · have h2z : (x.size : Int) ≤ (s.size : Int) := by omega
          by_cases h3 : s.extract 0 x.size = x
          · have q := str_beq_self x
            have HN := Lib.hid (show RLong (L.map bs) (bs s) (k + 1) (k : Int) x.size by
              have := HP.out.take_ HXB.out (by rw [← size_bs]; exact h1) (by rw [← size_bs, ← size_bs]; exact h2) (by rw [← size_bs, ← ext_take, h3])
              rwa [← size_bs] at this)
            go_wp2
            go_round
            case rel => exact ⟨k + 1, x.size, k, by omega, by go_num, rfl, rfl, HN.out⟩
            case measure => (simp [intOf]; try omega)
          · have q := str_beq_ne h3
            have HN := Lib.hid (HP.out.leave HXB.out fun h => h3 (bs_inj (by rw [ext_take, size_bs]; exact h.2.2)))
            clear h3
            go_wp2
            go_round
            case rel => exact ⟨k + 1, m, z, by omega, by go_num, rfl, rfl, HN.out⟩
            case measure => (simp [intOf]; try omega)
        · have h2z : ¬ (x.size : Int) ≤ (s.size : Int) := by omega
          have HN := Lib.hid (HP.out.leave HXB.out fun h => h2 (by rw [size_bs, size_bs]; exact h.2.1))
          go_wp2
          go_round
          case rel => exact ⟨k + 1, m, z, by omega, by go_num, rfl, rfl, HN.out⟩
          case measure => (simp [intOf]; try omega)
      · have h1z : ¬ (m : Int) < (x.size : Int) := by omega
        have HN := Lib.hid (HP.out.leave HXB.out fun h => h1 (by rw [size_bs]; exact h.1))
        go_wp2
        go_round
        case rel => exact ⟨k + 1, m, z, by omega, by go_num, rfl, rfl, HN.out⟩
        case measure => (simp [intOf]; try omega)
    · obtain rfl : k = n := by omega
      have hp := HP.out
      rw [← HL.out, ← List.length_map (f := bs)] at hp
      have HR := Lib.hid (hp.end_ HND.out)
      clear hp
      go_wp2
      go_ret2
      exact ⟨by (rw [HR.out]; rfl), rfl⟩
/-- what the reference's New tells -/
def newE (L : List ByteArray) (n : Nat) : Int := if 1000 < n then 3 else if L.any oddS then 1 else if (L.map bs).Nodup then 0 else 5
theorem ret_i {a b : Int} (h : a = b) : Ending.returned (.int .i64 a) = .returned (.int .i64 b) := by rw [h]

set_option maxRecDepth 100000 in
set_option maxHeartbeats 4000000 in
theorem rnew_any (w : World) (A : Option Addr) (n c : Nat) (L : List ByteArray) (B : Nat) (hr : Reads w B 1 A n (L.map .string)) (hn : n ≤ maxLen) :
    Calls Try.prog 15 #[.slice A n c] w fun e w' => e = .returned (.int .i64 (newE L n)) ∧ ∃ m, w' = w.drewN m := by
  have hl : L.length = n := by simpa using hr.1
  have HL := Lib.hid hl
  have HN := Lib.hid (show newE L n = if 1000 < n then 3 else if L.any oddS then 1 else if (L.map bs).Nodup then 0 else 5 from rfl)
  clear hl
  unfold maxLen at hn
  by_cases h1000 : 1000 < n
  · have h1z : (1000 : Int) < (n : Int) := by omega
    have HR := Lib.hid (show newE L n = 3 by rw [HN.out, if_pos h1000])
    go_enter Try.func15, Try.ntmps15
    go_wp2
    go_ret
    exact ⟨ret_i HR.out.symm, 0, rfl⟩
  · have h1z : ¬ (1000 : Int) < (n : Int) := by omega
    have HN2 := Lib.hid (show newE L n = if L.any oddS then 1 else if (L.map bs).Nodup then 0 else 5 by rw [HN.out, if_neg h1000])
    go_enter Try.func15, Try.ntmps15
    go_wp2
    go_loop [3] (fun i => ∃ k : Nat, k ≤ n ∧ i = .int .i64 k ∧ (L.take k).any oddS = false) (fun i => n - (intOf i).toNat)
    case atStart => exact ⟨0, Nat.zero_le _, rfl, rfl⟩
    case round =>
      obtain ⟨k, hk, rfl, hp⟩ := hrel
      have HP := Lib.hid hp
      clear hp
      by_cases hlt : k < n
      · obtain ⟨ad, x, rfl, _, hx, hc⟩ := reads_str hr hlt
        cases hw : oddS x with
        | true =>
          have HR := Lib.hid (show newE L n = 1 by rw [HN2.out, if_pos (List.any_eq_true.2 ⟨x, List.mem_of_getElem? hx, hw⟩)])
          clear hx
          by_cases h0 : x.size = 0
          · obtain ⟨e1, e2, e3⟩ := emp_of h0
            clear h0 hw
            go_wp2
            go_ret
            exact ⟨ret_i HR.out.symm, 0, rfl⟩
          · have h64 : (64 : Int) < (x.size : Int) := by
              unfold oddS at hw
              have := of_decide_eq_true hw
              omega
            obtain ⟨e1, e2, e3⟩ := ful_of h0
            clear h0 hw
            go_wp2
            go_ret
            exact ⟨ret_i HR.out.symm, 0, rfl⟩
        | false =>
          have HT := Lib.hid (show (L.take (k + 1)).any oddS = false by rw [any_take hx, HP.out, hw]; rfl)
          have h2 : x.size ≠ 0 ∧ ¬ (64 : Int) < (x.size : Int) := by
            unfold oddS at hw
            have := of_decide_eq_false hw
            omega
          obtain ⟨e1, e2, e3⟩ := ful_of h2.1
          have h64 := h2.2
          clear hx hw h2
          go_wp2
          go_round
          case rel => exact ⟨k + 1, by omega, by go_num, HT.out⟩
          case measure => (simp [intOf]; try omega)
      · obtain rfl : k = n := by omega
        have HN3 := Lib.hid (show newE L k = if (L.map bs).Nodup then 0 else 5 by
          have := HP.out
          rw [List.take_of_length_le (by rw [HL.out]; exact Nat.le_refl _)] at this
          rw [HN2.out, if_neg (by rw [this]; simp)])
        go_wp2
        go_loopw [4, 5] (fun i _ wr => ∃ k2 m : Nat, k2 ≤ k ∧ i = .int .i64 k2 ∧ ((L.map bs).take k2).Nodup ∧ wr = w.drewN m) (fun i _ _ => k - (intOf i).toNat)
        case atStart => exact ⟨0, 0, Nat.zero_le _, rfl, by simp, rfl⟩
        case round =>
          obtain ⟨i, m, hi, rfl, hnd, rfl⟩ := hrel
          have HND := Lib.hid hnd
          clear hnd
          by_cases hik : i < k
          · obtain ⟨ad, x, rfl, _, hx, hc⟩ := reads_str hr hik
            have hxb : (L.map bs)[i]? = some (bs x) := by rw [List.getElem?_map, hx]; rfl
            have HXB := Lib.hid hxb
            clear hx hxb
            go_wp2
            go_loopw [5] (fun j wr => ∃ j2 m : Nat, j2 ≤ i ∧ j = .int .i64 j2 ∧ bs x ∉ (L.map bs).take j2 ∧ wr = w.drewN m) (fun j _ => i - (intOf j).toNat)
            case atStart => exact ⟨0, m, Nat.zero_le _, rfl, by simp, rfl⟩
            case round =>
              obtain ⟨j, m2, hj, rfl, hno, rfl⟩ := hrel
              have HNO := Lib.hid hno
              clear hno
              by_cases hji : j < i
              · obtain ⟨ad2, y, had, _, hy, hc2⟩ := reads_str hr (show j < k by omega)
                injection had with had
                subst had
                have hyb : (L.map bs)[j]? = some (bs y) := by rw [List.getElem?_map, hy]; rfl
                have HYB := Lib.hid hyb
                clear hy hyb
                by_cases hxy : x = y
                · have q := str_beq_self x
                  have HR := Lib.hid (show newE L k = 5 by
                    rw [HN3.out, if_neg]
                    exact not_nodup HXB.out (by
                      rw [hxy]
                      refine List.mem_of_getElem? (i := j) ?_
                      rw [List.getElem?_take, if_pos hji]
                      exact HYB.out))
                  subst hxy
                  go_wp2_with fail
                  go_quiet (fail)
                  go_wp2_with fail
                  go_ret
                  exact ⟨ret_i HR.out.symm, m2 + nq, by simp⟩
                · have q := str_beq_ne hxy
                  have HT := Lib.hid (show bs x ∉ (L.map bs).take (j + 1) by
                    rw [take_succ_at' HYB.out]
                    intro hm
                    rcases List.mem_append.1 hm with hm | hm
                    · exact HNO.out hm
                    · exact hxy (bs_inj (List.mem_singleton.1 hm)))
                  clear hxy
                  go_wp2_with fail
                  go_quiet (fail)
                  go_wp2_with fail
                  go_roundw
                  case rel => exact ⟨j + 1, _, by omega, by go_num, HT.out, rfl⟩
                  case measure => (simp [intOf]; try omega)
              · obtain rfl : j = i := by omega
                have HT := Lib.hid (nodup_take_succ HXB.out HND.out HNO.out)
                go_wp2_with fail
                go_roundw
                case rel => exact ⟨j + 1, m2, by omega, by go_num, HT.out, rfl⟩
                case measure => (simp [intOf]; try omega)
          · obtain rfl : i = k := by omega
            have HR := Lib.hid (show newE L i = 0 by
              have := HND.out
              rw [List.take_of_length_le (by rw [List.length_map, HL.out]; exact Nat.le_refl _)] at this
              rw [HN3.out, if_pos this])
            go_wp2_with fail
            go_ret
            exact ⟨ret_i HR.out.symm, m, rfl⟩
end Go.Proofs.Ythhlpbopbabojaa
