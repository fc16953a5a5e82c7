/-
  class.Word, cribbleref03.Word, walked.
-/
import Derived.Test.YtblbcojkjknfdaaBts
import Derived.Test.YtblbcojkjknfdaaTrimP
namespace Go.Proofs.Ytblbcojkjknfdaa
open Go.RowKit

def smB (c : UInt8) : Bool := btw (c.toNat : Int) 97 122
/-- a byte of a word -/
def wcB (c : UInt8) : Bool := smB c || dgB c || decide (c.toNat = 45)
def wordB (l : List UInt8) : Bool := decide (1 ≤ l.length ∧ l.length ≤ 64) && l.head?.any smB && l.all wcB


theorem odd_any (w : World) (c : UInt8) : Calls Try.prog 28 #[.int .u8 (c.toNat : Int)] w fun e w' => e = .returned (.bool (!wcB c)) ∧ w = w' := by
  have h45 : ((c.toNat : Int) != 45) = !decide (c.toNat = 45) := by
    rw [Bool.eq_iff_iff]
    simp
    omega
  have H45 := Lib.hid h45
  clear h45
  cases hs : smB c <;> cases hd : dgB c
  all_goals
    have HR := Lib.hid (show (!wcB c) = (!smB c && !dgB c && !decide (c.toNat = 45)) by unfold wcB; cases smB c <;> cases dgB c <;> simp)
    have hs2 : btw (c.toNat : Int) 97 122 = smB c := rfl
    rw [hs] at hs2
    go_enter Try.func28, Try.ntmps28
    go_wp2_with (first
      | (go_at_call 27; refine (between_any _ _ _ _).mono ?_; rintro e w1 ⟨rfl, rfl⟩; rw [hs2])
      | (go_at_call 29; refine (digit_any _ _).mono ?_; rintro e w1 ⟨rfl, rfl⟩; rw [hd]))
    all_goals
      go_ret
      exact ⟨ret_bool (by rw [HR.out, hs, hd]; try rw [← H45.out]; try simp_all), rfl⟩

/-- the first place of a byte that is none of a word's; -1: there is none -/
def oddAt (l : List UInt8) : Bool := !l.all wcB
theorem all_take {l : List UInt8} {k : Nat} {c : UInt8} (h : l[k]? = some c) : (l.take (k + 1)).all wcB = ((l.take k).all wcB && wcB c) := by
  rw [take_at h, List.all_append]
  simp
theorem all_no {l : List UInt8} {k : Nat} {c : UInt8} (h : l[k]? = some c) (hc : wcB c = false) : l.all wcB = false := by
  rw [← List.take_append_drop k l, List.all_append, drop_at h, List.all_cons, hc]
  simp

def IdxPost (l : List UInt8) (w : World) (e : Ending) (w' : World) : Prop := w = w' ∧ ∃ z : Int, e = .returned (.int .i64 z) ∧ (if l.all wcB then z = -1 else 0 ≤ z)
theorem index_odd (w : World) (B : Nat) (A : Option Addr) (n c : Nat) (l : List UInt8) (hr : Reads w B 1 A n (cellsOf l)) (hn : n ≤ 1048576) :
    Calls Try.prog 40 #[.slice A n c, .func (.func 28) #[] #[]] w (IdxPost l w) := by
  have hl := reads_len hr
  have HL := Lib.hid hl
  clear hl
  go_enter Try.func40, Try.ntmps40
  go_wp2
  go_loop [8] (fun i => ∃ k : Nat, k ≤ n ∧ i = .int .i64 k ∧ (l.take k).all wcB = true) (fun i => n - (intOf i).toNat)
  case atStart => exact ⟨0, Nat.zero_le _, rfl, rfl⟩
  case round =>
    obtain ⟨k, hk, rfl, hp⟩ := hrel
    have HP := Lib.hid hp
    clear hp
    by_cases hlt : k < n
    · obtain ⟨x, hx⟩ : ∃ x, l[k]? = some x := ⟨_, List.getElem?_eq_getElem (by rw [HL.out]; exact hlt)⟩
      obtain ⟨ad, rfl, _, hc⟩ := reads_byte hr hx
      cases hw : wcB x with
      | true =>
        have HN := Lib.hid (show (l.take (k + 1)).all wcB = true by rw [all_take hx, HP.out, hw]; rfl)
        clear hx
        go_wp2_with (refine (odd_any _ _).mono ?_; rintro e w1 ⟨rfl, rfl⟩; rw [hw])
        go_round
        case rel => exact ⟨k + 1, by omega, by go_num, HN.out⟩
        case measure => simp [intOf]; omega
      | false =>
        have HN := Lib.hid (all_no hx hw)
        clear hx
        go_wp2_with (refine (odd_any _ _).mono ?_; rintro e w1 ⟨rfl, rfl⟩; rw [hw])
        go_ret
        exact ⟨rfl, _, rfl, by rw [HN.out]; simp; try omega⟩
    · obtain rfl : k = n := by omega
      have HN := Lib.hid (show l.all wcB = true by have := HP.out; rwa [List.take_of_length_le (by rw [HL.out]; exact Nat.le_refl _)] at this)
      go_wp2
      go_ret
      exact ⟨rfl, _, rfl, by rw [HN.out]; simp⟩

theorem contains_odd (w : World) (B : Nat) (A : Option Addr) (n c : Nat) (l : List UInt8) (hr : Reads w B 1 A n (cellsOf l)) (hn : n ≤ 1048576) :
    Calls Try.prog 30 #[.slice A n c, .func (.func 28) #[] #[]] w fun e w' => e = .returned (.bool (!l.all wcB)) ∧ w = w' := by
  go_enter Try.func30, Try.ntmps30
  go_wp2_with fail
  refine (index_odd w B A n c l hr hn).mono ?_
  rintro e w' ⟨rfl, z, rfl, hz⟩
  cases h : l.all wcB with
  | true =>
    rw [h, if_pos rfl] at hz
    subst hz
    go_wp2
    go_ret
    exact ⟨ret_bool (by rw [h]; rfl), rfl⟩
  | false =>
    rw [h, if_neg (by simp)] at hz
    go_wp2
    go_ret
    exact ⟨ret_bool (by rw [h]; rfl), rfl⟩

theorem word_short {l : List UInt8} (h : ¬ (1 ≤ l.length ∧ l.length ≤ 64)) : wordB l = false := by
  unfold wordB
  rw [decide_eq_false h]
  rfl
theorem word_eq {l : List UInt8} {c : UInt8} (h : 1 ≤ l.length ∧ l.length ≤ 64) (hc : l[0]? = some c) : wordB l = (smB c && l.all wcB) := by
  unfold wordB
  rw [decide_eq_true h, List.head?_eq_getElem?, hc]
  rfl

set_option maxHeartbeats 1000000 in
theorem word_any (w : World) (s : ByteArray) :
    Calls Try.prog 15 #[.string s] w fun e w' => e = .returned (.bool (wordB (bs s))) ∧ Fr Nil w w' := by
  have hsz := size_bs s
  by_cases h0 : s.size = 0
  · obtain ⟨e1, e2, e3⟩ := empty_of h0
    have HR := Lib.hid (word_short (l := bs s) (by omega))
    clear h0 hsz
    go_enter Try.func15, Try.ntmps15
    go_wp2
    repeat (first | (refine ⟨trivial, ?_⟩; go_wp2) | go_ret)
    exact ⟨ret_bool HR.out.symm, Fr.rfl' _ _⟩
  · obtain ⟨e1, e2, e3⟩ := full_of h0
    by_cases h64 : 64 < s.size
    · have h64' : (64 : Int) < s.size := by omega
      have HR := Lib.hid (word_short (l := bs s) (by omega))
      clear hsz
      go_enter Try.func15, Try.ntmps15
      go_wp2
      go_ret
      exact ⟨ret_bool HR.out.symm, Fr.rfl' _ _⟩
    · have h64' : ¬ (64 : Int) < s.size := by omega
      obtain ⟨c, hc⟩ := byte_at s (show 0 < s.size by omega)
      have HW := Lib.hid (word_eq (l := bs s) (by omega) hc)
      have hx : ∀ W, (Instr.index 9 (.string s) (.int .i64 0)).run Try.prog W = .ok (.int .u8 (c.toNat : Int)) W := run_index_at (P := Try.prog) (k := 0) Try.underlying9 hc
      have h0' : 0 < s.size := by omega
      have hsm2 : btw (c.toNat : Int) 97 122 = smB c := rfl
      clear hc
      cases hsm : smB c with
      | false =>
        rw [hsm] at hsm2
        clear hsz
        go_enter Try.func15, Try.ntmps15
        go_wp2_with (refine (between_any _ _ _ _).mono ?_; rintro e w1 ⟨rfl, rfl⟩; rw [hsm2])
        go_ret
        exact ⟨ret_bool (by rw [HW.out, hsm]; rfl), Fr.rfl' _ _⟩
      | true =>
        rw [hsm] at hsm2
        have hcv := run_bytes_of (P := Try.prog) s Try.underlying9 Try.underlying41 Try.underlying5 w
        have hB := bw_reads (P := Try.prog) w s 5
        have hF := bw_fr (P := Try.prog) w s 5
        generalize BWorld Try.prog w s 5 = W0 at *
        clear hsz
        go_enter Try.func15, Try.ntmps15
        go_wp2_with (first
          | (go_at_call 27; refine (between_any _ _ _ _).mono ?_; rintro e w1 ⟨rfl, rfl⟩; rw [hsm2])
          | (go_at_call 30; refine (contains_odd _ _ _ _ _ _ hB (by omega)).mono ?_; rintro e w1 ⟨rfl, rfl⟩))
        go_ret
        exact ⟨ret_bool (by rw [HW.out, hsm]; simp), hF⟩

/-- the bytes ahead of k are those of a word -/
def okTo (l : List UInt8) (k : Nat) : Bool := (l.take k).all wcB && (decide (k = 0) || l.head?.any smB)
theorem smB_wcB {c : UInt8} (h : smB c = true) : wcB c = true := by simp [wcB, h]
theorem okTo_next {l : List UInt8} {k : Nat} {c : UInt8} (hc : l[k]? = some c) (h : okTo l k = true) (hw : wcB c = true) (h0 : k = 0 → smB c = true) : okTo l (k + 1) = true := by
  unfold okTo at h ⊢
  rw [Bool.and_eq_true] at h
  rw [all_take hc, h.1, hw]
  by_cases hk : k = 0
  · subst hk
    rw [List.head?_eq_getElem?, hc]
    simp [h0 rfl]
  · have := h.2
    simp [hk] at this
    simp [this]
theorem okTo_all {l : List UInt8} (h : okTo l l.length = true) (hn : 1 ≤ l.length ∧ l.length ≤ 64) : wordB l = true := by
  unfold okTo at h
  unfold wordB
  rw [List.take_length, Bool.and_eq_true] at h
  have h2 := h.2
  have hne : ¬ l = [] := by
    intro e
    subst e
    simp at hn
  simp [hne] at h2
  simp [h.1, h2]
  omega
theorem word_head {l : List UInt8} {c : UInt8} (hc : l[0]? = some c) (h : smB c = false) : wordB l = false := by
  unfold wordB
  rw [List.head?_eq_getElem?, hc]
  simp [h]
theorem word_odd {l : List UInt8} {k : Nat} {c : UInt8} (hc : l[k]? = some c) (h : wcB c = false) : wordB l = false := by
  unfold wordB
  rw [all_no hc h]
  simp

theorem not_both {x : Int} (h : ¬ (97 ≤ x ∧ x ≤ 122)) (h1 : 97 ≤ x) (_ : 122 < x) (h2 : (!decide (x ≤ 122)) = false) : False := h ⟨h1, by simpa using h2⟩
theorem not_both2 {x : Int} (h : ¬ (97 ≤ x ∧ x ≤ 122)) (h1 : 97 ≤ x) (h2 : ¬ 122 < x) : False := h ⟨h1, by omega⟩

set_option maxRecDepth 100000 in
set_option maxHeartbeats 1000000 in
theorem rword_any (w : World) (s : ByteArray) :
    Calls Try.prog 18 #[.string s] w fun e w' => e = .returned (.bool (wordB (bs s))) ∧ w = w' := by
  have hsz := size_bs s
  by_cases h1 : 1 ≤ s.size ∧ s.size ≤ 64
  · have i1 : ¬ (s.size : Int) < 1 := by omega
    have i2 : ¬ (64 : Int) < s.size := by omega
    have i3 : ¬ s.size = 0 := by omega
    have HN := Lib.hid (show 1 ≤ (bs s).length ∧ (bs s).length ≤ 64 by omega)
    have HS := Lib.hid hsz
    have n1 := h1.1
    have n2 := h1.2
    clear hsz h1
    go_enter Try.func18, Try.ntmps18
    go_wp2
    go_loop [3, 4] (fun i _ => ∃ k : Nat, k ≤ s.size ∧ i = .int .i64 k ∧ okTo (bs s) k = true) (fun i _ => s.size - (intOf i).toNat)
    case atStart => exact ⟨0, Nat.zero_le _, rfl, by simp [okTo]⟩
    case round =>
      obtain ⟨k, hk, rfl, hp⟩ := hrel
      have HP := Lib.hid hp
      clear hp
      by_cases hlt : k < s.size
      · obtain ⟨x, hx⟩ := byte_at s hlt
        have hix := run_index_at (P := Try.prog) Try.underlying9 hx
        cases hsm : smB x with
        | true =>
          have HO := Lib.hid (okTo_next hx HP.out (smB_wcB hsm) fun _ => hsm)
          unfold smB btw at hsm
          simp only [decide_eq_true_eq] at hsm
          obtain ⟨a1, a2⟩ := hsm
          clear hx
          go_wp2
          go_round
          case rel => exact ⟨k + 1, by omega, by go_num, HO.out⟩
          case measure => simp [intOf]; omega
        | false =>
          have hbt := hsm
          unfold smB btw at hbt
          simp only [decide_eq_false_iff_not] at hbt
          have HB := Lib.hid hbt
          by_cases hk0 : k = 0
          · subst hk0
            have HO := Lib.hid (word_head hx hsm)
            have hix0 : ∀ W, (Instr.index 9 (.string s) (.int .i64 0)).run Try.prog W = .ok (.int .u8 (x.toNat : Int)) W := hix
            clear hx hbt
            go_wp2
            all_goals first
              | (exfalso; first | exact not_both HB.out (by assumption) (by assumption) (by assumption) | exact not_both2 HB.out (by assumption) (by assumption))
              | (go_ret; exact ⟨ret_bool HO.out.symm, rfl⟩)
          · have k1 : ((k : Int) == 0) = false := by simp; omega
            have k2 : ((k : Nat) == 0) = false := by simp; omega
            cases hw : wcB x with
            | false =>
              have HO := Lib.hid (word_odd hx hw)
              have hd : dgB x = false := by unfold wcB at hw; simp at hw; exact hw.1.2
              have h45 : ((x.toNat : Int) != 45) = true := by
                unfold wcB at hw
                simp at hw
                simp
                omega
              clear hx hbt
              go_wp2_with (refine (rdigit_any _ _).mono ?_; rintro e w1 ⟨rfl, rfl⟩; rw [hd])
              all_goals first
                | (exfalso; first | exact not_both HB.out (by assumption) (by assumption) (by assumption) | exact not_both2 HB.out (by assumption) (by assumption))
                | (go_ret; exact ⟨ret_bool HO.out.symm, rfl⟩)
            | true =>
              have HO := Lib.hid (okTo_next hx HP.out hw fun h => absurd h hk0)
              have h45 : dgB x = false → ((x.toNat : Int) != 45) = false := by
                intro hd
                unfold wcB at hw
                simp [hsm, hd] at hw
                simp
                omega
              clear hx hbt
              cases hd : dgB x with
              | true =>
                clear h45
                go_wp2_with (refine (rdigit_any _ _).mono ?_; rintro e w1 ⟨rfl, rfl⟩; rw [hd])
                all_goals first
                  | (exfalso; first | exact not_both HB.out (by assumption) (by assumption) (by assumption) | exact not_both2 HB.out (by assumption) (by assumption))
                  | (go_round
                     case rel => exact ⟨k + 1, by omega, by go_num, HO.out⟩
                     case measure => simp [intOf]; omega)
              | false =>
                replace h45 := h45 hd
                go_wp2_with (refine (rdigit_any _ _).mono ?_; rintro e w1 ⟨rfl, rfl⟩; rw [hd])
                all_goals first
                  | (exfalso; first | exact not_both HB.out (by assumption) (by assumption) (by assumption) | exact not_both2 HB.out (by assumption) (by assumption))
                  | (go_round
                     case rel => exact ⟨k + 1, by omega, by go_num, HO.out⟩
                     case measure => simp [intOf]; omega)
      · obtain rfl : k = s.size := by omega
        have HO := Lib.hid (show wordB (bs s) = true from okTo_all (by rw [← HS.out]; exact HP.out) HN.out)
        go_wp2
        go_ret
        exact ⟨ret_bool HO.out.symm, rfl⟩
  · have HR := Lib.hid (word_short (l := bs s) (by omega))
    by_cases h0 : s.size = 0
    · have i1 : (s.size : Int) < 1 := by omega
      clear hsz h1
      go_enter Try.func18, Try.ntmps18
      go_wp2
      go_ret
      exact ⟨ret_bool HR.out.symm, rfl⟩
    · have i1 : ¬ (s.size : Int) < 1 := by omega
      have i2 : (64 : Int) < s.size := by omega
      have i3 : 64 < s.size := by omega
      clear hsz h1
      go_enter Try.func18, Try.ntmps18
      go_wp2
      go_ret
      exact ⟨ret_bool HR.out.symm, rfl⟩
end Go.Proofs.Ytblbcojkjknfdaa
