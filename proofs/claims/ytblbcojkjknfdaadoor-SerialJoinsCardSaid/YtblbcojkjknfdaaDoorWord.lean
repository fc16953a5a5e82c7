/-
  class.Word, walked.
-/
import Derived.Test.YtblbcojkjknfdaaDoorBts
import Derived.Test.YtblbcojkjknfdaaDoorTrimP
namespace Go.Proofs.YtblbcojkjknfdaaDoor
open Go.RowKit

def smB (c : UInt8) : Bool := btw (c.toNat : Int) 97 122
/-- a byte of a word -/
def wcB (c : UInt8) : Bool := smB c || dgB c || decide (c.toNat = 45)
def wordB (l : List UInt8) : Bool := decide (1 ≤ l.length ∧ l.length ≤ 64) && l.head?.any smB && l.all wcB


theorem odd_any (w : World) (c : UInt8) : Calls Tryd.prog 30 #[.int .u8 (c.toNat : Int)] w fun e w' => e = .returned (.bool (!wcB c)) ∧ w = w' := by
  have h45 : ((c.toNat : Int) != 45) = !decide (c.toNat = 45) := by
    rw [Bool.eq_iff_iff]
    simp
    omega
  have H45 := Lib.hid h45
  clear h45
  cases hs : smB c <;> cases hd : dgB c
  all_goals
    have HR := Lib.hid (show (!wcB c) = (!smB c && !dgB c && !decide (c.toNat = 45)) by unfold wcB; cases smB c <;> cases dgB c <;> simp)
    have hs2 : btw (c.toNat : Int) 97 122 = smB c := rfl
    rw [hs] at hs2
    go_enter Tryd.func30, Tryd.ntmps30
    go_wp2_with (first
      | (go_at_call 29; refine (between_any _ _ _ _).mono ?_; rintro e w1 ⟨rfl, rfl⟩; rw [hs2])
      | (go_at_call 31; refine (digit_any _ _).mono ?_; rintro e w1 ⟨rfl, rfl⟩; rw [hd]))
    all_goals
      go_ret
      exact ⟨ret_bool (by rw [HR.out, hs, hd]; try rw [← H45.out]; try simp_all), rfl⟩

/-- the first place of a byte that is none of a word's; -1: there is none -/
def oddAt (l : List UInt8) : Bool := !l.all wcB
theorem all_take {l : List UInt8} {k : Nat} {c : UInt8} (h : l[k]? = some c) : (l.take (k + 1)).all wcB = ((l.take k).all wcB && wcB c) := by
  rw [take_at h, List.all_append]
  simp
theorem all_no {l : List UInt8} {k : Nat} {c : UInt8} (h : l[k]? = some c) (hc : wcB c = false) : l.all wcB = false := by
  rw [← List.take_append_drop k l, List.all_append, drop_at h, List.all_cons, hc]
  simp

def IdxPost (l : List UInt8) (w : World) (e : Ending) (w' : World) : Prop := w = w' ∧ ∃ z : Int, e = .returned (.int .i64 z) ∧ (if l.all wcB then z = -1 else 0 ≤ z)
theorem index_odd (w : World) (B : Nat) (A : Option Addr) (n c : Nat) (l : List UInt8) (hr : Reads w B 1 A n (cellsOf l)) (hn : n ≤ 1048576) :
    Calls Tryd.prog 50 #[.slice A n c, .func (.func 30) #[] #[]] w (IdxPost l w) := by
  have hl := reads_len hr
  have HL := Lib.hid hl
  clear hl
  go_enter Tryd.func50, Tryd.ntmps50
  go_wp2
  go_loop [8] (fun i => ∃ k : Nat, k ≤ n ∧ i = .int .i64 k ∧ (l.take k).all wcB = true) (fun i => n - (intOf i).toNat)
  case atStart => exact ⟨0, Nat.zero_le _, rfl, rfl⟩
  case round =>
    obtain ⟨k, hk, rfl, hp⟩ := hrel
    have HP := Lib.hid hp
    clear hp
    by_cases hlt : k < n
    · obtain ⟨x, hx⟩ : ∃ x, l[k]? = some x := ⟨_, List.getElem?_eq_getElem (by rw [HL.out]; exact hlt)⟩
      obtain ⟨ad, rfl, _, hc⟩ := reads_byte hr hx
      cases hw : wcB x with
      | true =>
        have HN := Lib.hid (show (l.take (k + 1)).all wcB = true by rw [all_take hx, HP.out, hw]; rfl)
        clear hx
        go_wp2_with (refine (odd_any _ _).mono ?_; rintro e w1 ⟨rfl, rfl⟩; rw [hw])
        go_round
        case rel => exact ⟨k + 1, by omega, by go_num, HN.out⟩
        case measure => simp [intOf]; omega
      | false =>
        have HN := Lib.hid (all_no hx hw)
        clear hx
        go_wp2_with (refine (odd_any _ _).mono ?_; rintro e w1 ⟨rfl, rfl⟩; rw [hw])
        go_ret
        exact ⟨rfl, _, rfl, by rw [HN.out]; simp; try omega⟩
    · obtain rfl : k = n := by omega
      have HN := Lib.hid (show l.all wcB = true by have := HP.out; rwa [List.take_of_length_le (by rw [HL.out]; exact Nat.le_refl _)] at this)
      go_wp2
      go_ret
      exact ⟨rfl, _, rfl, by rw [HN.out]; simp⟩

theorem contains_odd (w : World) (B : Nat) (A : Option Addr) (n c : Nat) (l : List UInt8) (hr : Reads w B 1 A n (cellsOf l)) (hn : n ≤ 1048576) :
    Calls Tryd.prog 32 #[.slice A n c, .func (.func 30) #[] #[]] w fun e w' => e = .returned (.bool (!l.all wcB)) ∧ w = w' := by
  go_enter Tryd.func32, Tryd.ntmps32
  go_wp2_with fail
  refine (index_odd w B A n c l hr hn).mono ?_
  rintro e w' ⟨rfl, z, rfl, hz⟩
  cases h : l.all wcB with
  | true =>
    rw [h, if_pos rfl] at hz
    subst hz
    go_wp2
    go_ret
    exact ⟨ret_bool (by rw [h]; rfl), rfl⟩
  | false =>
    rw [h, if_neg (by simp)] at hz
    go_wp2
    go_ret
    exact ⟨ret_bool (by rw [h]; rfl), rfl⟩

theorem word_short {l : List UInt8} (h : ¬ (1 ≤ l.length ∧ l.length ≤ 64)) : wordB l = false := by
  unfold wordB
  rw [decide_eq_false h]
  rfl
theorem word_eq {l : List UInt8} {c : UInt8} (h : 1 ≤ l.length ∧ l.length ≤ 64) (hc : l[0]? = some c) : wordB l = (smB c && l.all wcB) := by
  unfold wordB
  rw [decide_eq_true h, List.head?_eq_getElem?, hc]
  rfl

set_option maxHeartbeats 1000000 in
theorem word_any (w : World) (s : ByteArray) :
    Calls Tryd.prog 16 #[.string s] w fun e w' => e = .returned (.bool (wordB (bs s))) ∧ Fr Nil w w' := by
  have hsz := size_bs s
  by_cases h0 : s.size = 0
  · obtain ⟨e1, e2, e3⟩ := empty_of h0
    have HR := Lib.hid (word_short (l := bs s) (by omega))
    clear h0 hsz
    go_enter Tryd.func16, Tryd.ntmps16
    go_wp2
    repeat (first | (refine ⟨trivial, ?_⟩; go_wp2) | go_ret)
    exact ⟨ret_bool HR.out.symm, Fr.rfl' _ _⟩
  · obtain ⟨e1, e2, e3⟩ := full_of h0
    by_cases h64 : 64 < s.size
    · have h64' : (64 : Int) < s.size := by omega
      have HR := Lib.hid (word_short (l := bs s) (by omega))
      clear hsz
      go_enter Tryd.func16, Tryd.ntmps16
      go_wp2
      go_ret
      exact ⟨ret_bool HR.out.symm, Fr.rfl' _ _⟩
    · have h64' : ¬ (64 : Int) < s.size := by omega
      obtain ⟨c, hc⟩ := byte_at s (show 0 < s.size by omega)
      have HW := Lib.hid (word_eq (l := bs s) (by omega) hc)
      have hx : ∀ W, (Instr.index 9 (.string s) (.int .i64 0)).run Tryd.prog W = .ok (.int .u8 (c.toNat : Int)) W := run_index_at (P := Tryd.prog) (k := 0) Tryd.underlying9 hc
      have h0' : 0 < s.size := by omega
      have hsm2 : btw (c.toNat : Int) 97 122 = smB c := rfl
      clear hc
      cases hsm : smB c with
      | false =>
        rw [hsm] at hsm2
        clear hsz
        go_enter Tryd.func16, Tryd.ntmps16
        go_wp2_with (refine (between_any _ _ _ _).mono ?_; rintro e w1 ⟨rfl, rfl⟩; rw [hsm2])
        go_ret
        exact ⟨ret_bool (by rw [HW.out, hsm]; rfl), Fr.rfl' _ _⟩
      | true =>
        rw [hsm] at hsm2
        have hcv := run_bytes_of (P := Tryd.prog) s Tryd.underlying9 Tryd.underlying38 Tryd.underlying5 w
        have hB := bw_reads (P := Tryd.prog) w s 5
        have hF := bw_fr (P := Tryd.prog) w s 5
        generalize BWorld Tryd.prog w s 5 = W0 at *
        clear hsz
        go_enter Tryd.func16, Tryd.ntmps16
        go_wp2_with (first
          | (go_at_call 29; refine (between_any _ _ _ _).mono ?_; rintro e w1 ⟨rfl, rfl⟩; rw [hsm2])
          | (go_at_call 32; refine (contains_odd _ _ _ _ _ _ hB (by omega)).mono ?_; rintro e w1 ⟨rfl, rfl⟩))
        go_ret
        exact ⟨ret_bool (by rw [HW.out, hsm]; simp), hF⟩

/-- the bytes ahead of k are those of a word -/
def okTo (l : List UInt8) (k : Nat) : Bool := (l.take k).all wcB && (decide (k = 0) || l.head?.any smB)
theorem smB_wcB {c : UInt8} (h : smB c = true) : wcB c = true := by simp [wcB, h]
theorem okTo_next {l : List UInt8} {k : Nat} {c : UInt8} (hc : l[k]? = some c) (h : okTo l k = true) (hw : wcB c = true) (h0 : k = 0 → smB c = true) : okTo l (k + 1) = true := by
  unfold okTo at h ⊢
  rw [Bool.and_eq_true] at h
  rw [all_take hc, h.1, hw]
  by_cases hk : k = 0
  · subst hk
    rw [List.head?_eq_getElem?, hc]
    simp [h0 rfl]
  · have := h.2
    simp [hk] at this
    simp [this]
theorem okTo_all {l : List UInt8} (h : okTo l l.length = true) (hn : 1 ≤ l.length ∧ l.length ≤ 64) : wordB l = true := by
  unfold okTo at h
  unfold wordB
  rw [List.take_length, Bool.and_eq_true] at h
  have h2 := h.2
  have hne : ¬ l = [] := by
    intro e
    subst e
    simp at hn
  simp [hne] at h2
  simp [h.1, h2]
  omega
theorem word_head {l : List UInt8} {c : UInt8} (hc : l[0]? = some c) (h : smB c = false) : wordB l = false := by
  unfold wordB
  rw [List.head?_eq_getElem?, hc]
  simp [h]
theorem word_odd {l : List UInt8} {k : Nat} {c : UInt8} (hc : l[k]? = some c) (h : wcB c = false) : wordB l = false := by
  unfold wordB
  rw [all_no hc h]
  simp

end Go.Proofs.YtblbcojkjknfdaaDoor
