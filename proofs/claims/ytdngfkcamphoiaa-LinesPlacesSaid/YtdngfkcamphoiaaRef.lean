/-
  The walks of lines.Whole, and of the reference's Whole and Write.
-/
import Derived.Test.YtdngfkcamphoiaaLines
namespace Go.Proofs.Ytdngfkcamphoiaa
open Go.RowKit

theorem whole_any (w : World) (s : ByteArray) (hs : s.size ≤ 1048576) :
    Calls Try.prog 13 #[.string s] w fun e w' => e = .returned (.string (str (wrl false (bs s)))) ∧ Fr Nil w w' := by
  go_enter Try.func13, Try.ntmps13
  go_wp2_with fail
  refine (lnew_any w).mono ?_
  rintro e w1 ⟨rfl, rfl⟩
  go_wp2_with fail
  refine (write_any _ w.heap.size false s (Blk.new _ _ _) hs).mono ?_
  rintro e w2 ⟨rfl, _, f2⟩
  go_wp2_with fail
  go_ret
  exact ⟨rfl, ((Fr.rfl' _ _).alloc _).trans' f2 (fun i h1 h2 => by omega)⟩

theorem drop_cons' {α : Type} {L : List α} {k : Nat} {s : α} (hs : L[k]? = some s) : L.drop k = s :: L.drop (k + 1) := by
  obtain ⟨h, rfl⟩ := List.getElem?_eq_some_iff.1 hs
  exact List.drop_eq_getElem_cons h
theorem wrl_plain {l : List UInt8} {k : Nat} {c : UInt8} (h : l[k]? = some c) (hc : c ≠ 13) : wrl false (l.drop k) = c :: wrl false (l.drop (k + 1)) := by
  have e : (c == 13) = false := by simpa using hc
  rw [drop_cons' h, wrl, put1, if_neg (by simp), if_neg hc, e]
  rfl
theorem wrl_cr {l : List UInt8} {k : Nat} (h : l[k]? = some 13) (h2 : l[k + 1]? ≠ some 10) : wrl false (l.drop k) = 10 :: wrl false (l.drop (k + 1)) := by
  rw [drop_cons' h, wrl]
  have e : put1 false 13 = [10] := rfl
  rw [e, wrl_not10 _ ((13 : UInt8) == 13) (by rw [List.head?_drop]; exact h2)]
  rfl
theorem wrl_crlf {l : List UInt8} {k : Nat} (h : l[k]? = some 13) (h2 : l[k + 1]? = some 10) : wrl false (l.drop k) = 10 :: wrl false (l.drop (k + 2)) := by
  rw [drop_cons' h, drop_cons' h2, wrl, wrl]
  rfl

set_option maxHeartbeats 800000 in
theorem rwhole_any (w : World) (s : ByteArray) (hs : s.size ≤ 1048576) :
    Calls Try.prog 16 #[.string s] w fun e w' => e = .returned (.string (str (wrl false (bs s)))) ∧ Fr Nil w w' := by
  have hlen : s.size = (bs s).length := size_bs s
  go_enter Try.func16, Try.ntmps16
  go_wp2_with fail
  go_loopw [3, 4] (fun v i wr => ∃ (k n c : Nat) (A : Option Addr) (xs : List UInt8), i = .int .i64 k ∧ k ≤ s.size ∧ n ≤ k ∧ v = .slice A n c ∧ Own wr 5 1 A n c (cellsOf xs) ∧ xs ++ wrl false ((bs s).drop k) = wrl false (bs s) ∧
      Fr Nil w wr ∧ ∀ i, At A i → w.heap.size ≤ i) (fun _ i _ => s.size - (intOf i).toNat)
  case atStart => exact ⟨0, 0, 0, none, [], rfl, Nat.zero_le _, Nat.le_refl _, rfl, Own.nil _ _ _, rfl, Fr.rfl' _ _, fun i hi => (not_at_none i hi).elim⟩
  case round =>
    obtain ⟨k, n, cp, A, xs, rfl, hk, hnk, rfl, hown, hx, hfr, hA⟩ := hrel
    by_cases hlt : k < s.size
    · obtain ⟨c, hc⟩ : ∃ c, (bs s)[k]? = some c := ⟨(bs s)[k]'(by omega), List.getElem?_eq_getElem _⟩
      have hidx := run_index_at (P := Try.prog) Try.underlying9 hc
      have HC := Lib.hid hc
      have HX := Lib.hid hx
      have HL := Lib.hid hlen
      clear hc hx
      by_cases h13 : c = 13
      · subst h13
        have hown1 := hown.alloc (.cells #[.int .u8 10] 5)
        have fin : ∀ (A1 : Option Addr) (w1 : World), Fr (At A) (wr.alloc (.cells #[.int .u8 10] 5)) w1 → (A1 = A ∨ A1 = some ⟨(wr.alloc (.cells #[.int .u8 10] 5)).heap.size, 0, none⟩ ∧ (wr.alloc (.cells #[.int .u8 10] 5)).heap.size < w1.heap.size) →
            Fr Nil w w1 ∧ ∀ i, At A1 i → w.heap.size ≤ i := fun A1 w1 hfr2 hat => by
          refine ⟨(hfr.alloc _).trans' hfr2 fun i h1 h2 => by have := hA i h2; omega, fun i hi => ?_⟩
          rcases at_new (w0 := w) hat (by have := hfr.size; simp; omega) i hi with h1 | h1
          · exact hA i h1
          · exact h1
        by_cases hk2 : k + 1 < s.size
        · obtain ⟨c2, hc2⟩ : ∃ c2, (bs s)[k + 1]? = some c2 := ⟨(bs s)[k + 1]'(by omega), List.getElem?_eq_getElem _⟩
          have hidx2 := run_index_at (P := Try.prog) Try.underlying9 hc2
          have HC2 := Lib.hid hc2
          simp only [Int.natCast_add, Int.cast_ofNat_Int] at hidx2
          clear hc2 hlen
          by_cases h10 : c2 = 10
          · subst h10
            go_wp2_with (
              at_builtin
              refine wpList_append _ rfl (.tmp 15) (.tmp 16) 40 rfl 5 (.int .u8 0) 1 1 Try.underlying40 infoByte rfl (by decide) A n cp (cellsOf xs) rfl hown1
                _ _ 1 1 [.int .u8 10] rfl (reads_new _ _ _) (one_one rfl) (by unfold maxLen; omega) (by omega) ?_
              intro A1 c1 w1 hown2 hfr2 hat)
            obtain ⟨f9, hA9⟩ := fin A1 w1 hfr2 hat
            go_roundw
            case rel =>
              refine ⟨k + 2, n + 1, c1, A1, xs ++ [10], by go_num, by omega, by omega, rfl, by rw [cellsOf_append]; exact hown2, ?_, f9, hA9⟩
              rw [← HX.out, wrl_crlf HC.out HC2.out]
              simp
            case measure => simp [intOf]; omega
          · have n10 : ((c2.toNat : Int) == 10) = false := byte_ne (d := 10) h10
            go_wp2_with (
              at_builtin
              refine wpList_append _ rfl (.tmp 15) (.tmp 16) 40 rfl 5 (.int .u8 0) 1 1 Try.underlying40 infoByte rfl (by decide) A n cp (cellsOf xs) rfl hown1
                _ _ 1 1 [.int .u8 10] rfl (reads_new _ _ _) (one_one rfl) (by unfold maxLen; omega) (by omega) ?_
              intro A1 c1 w1 hown2 hfr2 hat)
            obtain ⟨f9, hA9⟩ := fin A1 w1 hfr2 hat
            go_roundw
            case rel =>
              refine ⟨k + 1, n + 1, c1, A1, xs ++ [10], by go_num, by omega, by omega, rfl, by rw [cellsOf_append]; exact hown2, ?_, f9, hA9⟩
              rw [← HX.out, wrl_cr HC.out (by rw [HC2.out]; exact fun e => h10 (by injection e))]
              simp
            case measure => simp [intOf]; omega
        · have hk3 : ¬ (k : Int) + 1 < s.size := by omega
          have HN := Lib.hid (show (bs s)[k + 1]? ≠ some 10 from fun e => hk2 (by rw [hlen]; exact (List.getElem?_eq_some_iff.1 e).1))
          clear hlen
          go_wp2_with (
            at_builtin
            refine wpList_append _ rfl (.tmp 15) (.tmp 16) 40 rfl 5 (.int .u8 0) 1 1 Try.underlying40 infoByte rfl (by decide) A n cp (cellsOf xs) rfl hown1
              _ _ 1 1 [.int .u8 10] rfl (reads_new _ _ _) (one_one rfl) (by unfold maxLen; omega) (by omega) ?_
            intro A1 c1 w1 hown2 hfr2 hat)
          obtain ⟨f9, hA9⟩ := fin A1 w1 hfr2 hat
          go_roundw
          case rel =>
            refine ⟨k + 1, n + 1, c1, A1, xs ++ [10], by go_num, by omega, by omega, rfl, by rw [cellsOf_append]; exact hown2, ?_, f9, hA9⟩
            rw [← HX.out, wrl_cr HC.out HN.out]
            simp
          case measure => simp [intOf]; omega
      · have hown1 := hown.alloc (.cells #[.int .u8 (c.toNat : Int)] 5)
        have n13 : ((c.toNat : Int) == 13) = false := byte_ne (d := 13) h13
        have fin : ∀ (A1 : Option Addr) (w1 : World), Fr (At A) (wr.alloc (.cells #[.int .u8 (c.toNat : Int)] 5)) w1 → (A1 = A ∨ A1 = some ⟨(wr.alloc (.cells #[.int .u8 (c.toNat : Int)] 5)).heap.size, 0, none⟩ ∧ (wr.alloc (.cells #[.int .u8 (c.toNat : Int)] 5)).heap.size < w1.heap.size) →
            Fr Nil w w1 ∧ ∀ i, At A1 i → w.heap.size ≤ i := fun A1 w1 hfr2 hat => by
          refine ⟨(hfr.alloc _).trans' hfr2 fun i h1 h2 => by have := hA i h2; omega, fun i hi => ?_⟩
          rcases at_new (w0 := w) hat (by have := hfr.size; simp; omega) i hi with h1 | h1
          · exact hA i h1
          · exact h1
        clear hlen
        go_wp2_with (
          at_builtin
          refine wpList_append _ rfl (.tmp 32) (.tmp 36) 40 rfl 5 (.int .u8 0) 1 1 Try.underlying40 infoByte rfl (by decide) A n cp (cellsOf xs) rfl hown1
            _ _ 1 1 [.int .u8 (c.toNat : Int)] rfl (reads_new _ _ _) (one_one rfl) (by unfold maxLen; omega) (by omega) ?_
          intro A1 c1 w1 hown2 hfr2 hat)
        obtain ⟨f9, hA9⟩ := fin A1 w1 hfr2 hat
        go_roundw
        case rel =>
          refine ⟨k + 1, n + 1, c1, A1, xs ++ [c], by go_num, by omega, by omega, rfl, by rw [cellsOf_append]; exact hown2, ?_, f9, hA9⟩
          rw [← HX.out, wrl_plain HC.out h13]
          simp
        case measure => simp [intOf]; omega
    · have hxs : xs = wrl false (bs s) := by
        rw [← hx, List.drop_of_length_le (by omega)]
        simp [wrl]
      subst hxs
      have hconv := run_string_of (P := Try.prog) (src := 40) (dst := 9) (c := cp) Try.underlying40 Try.underlying5 Try.underlying9 hown.reads
      clear hlen hx
      go_wp2_with fail
      go_ret
      exact ⟨rfl, hfr⟩

def rwrite (cr : Bool) (l : List UInt8) : List UInt8 := wrl cr l
/-- what the reference's Write makes where no LF is to be swallowed -/
theorem rwrite_plain (w : World) (b0 : Nat) (cr : Bool) (s : ByteArray) (h : Blk w b0 28 #[.bool cr]) (hs : s.size ≤ 1048576) (hne : s.size ≠ 0) (hn : cr = true → (bs s).head? ≠ some 10) :
    Calls Try.prog 12 #[.pointer (some ⟨b0, 0, none⟩), .string s] w fun e w' => e = .returned (.string (str (wrl cr (bs s)))) ∧ Blk w' b0 28 #[.bool (crOf cr (bs s))] ∧ Fr (fun k => k = b0) w w' := by
  have hlen : s.size = (bs s).length := size_bs s
  have hb0 := h.lt
  obtain ⟨c0, hc0⟩ : ∃ c, (bs s)[0]? = some c := ⟨(bs s)[0]'(by omega), List.getElem?_eq_getElem _⟩
  obtain ⟨c1, hc1⟩ : ∃ c, (bs s)[s.size - 1]? = some c := ⟨(bs s)[s.size - 1]'(by omega), List.getElem?_eq_getElem _⟩
  have hi0 := run_index_at (P := Try.prog) Try.underlying9 hc0
  have hi1 := run_index_at (P := Try.prog) Try.underlying9 hc1
  have hsz : ((s.size - 1 : Nat) : Int) = (s.size : Int) - 1 := by omega
  rw [hsz] at hi1
  simp only [Int.cast_ofNat_Int] at hi0
  have hwr : wrl cr (bs s) = wrl false (bs s) := by
    cases cr with
    | false => rfl
    | true => exact wrl_not10 _ _ (hn rfl)
  have hcr : crOf cr (bs s) = (c1 == 13) := crOf_last _ _ _ (by rw [List.getLast?_eq_getElem?, ← hlen]; exact hc1)
  have hemp : s.toList.isEmpty = false := by
    rw [Lib.toList_data]
    cases h1 : s.data.toList with
    | nil => exact absurd (by rw [hlen, bs, h1]; rfl) hne
    | cons a t => rfl
  rw [hwr, hcr]
  have h0 := h.cell 0
  have f0 := h.frozen 0
  simp at h0
  clear hwr hcr hsz hlen hc1
  have e10 : cr = true → c0 ≠ 10 := fun e1 e2 => hn e1 (by rw [List.head?_eq_getElem?, hc0, e2])
  clear hn hc0
  have tail : ∀ (v : Bool), (c1 == 13) = v → ((c1.toNat : Int) == 13) = v → Calls Try.prog 12 #[.pointer (some ⟨b0, 0, none⟩), .string s] w fun e w' => e = .returned (.string (str (wrl false (bs s)))) ∧ Blk w' b0 28 #[.bool v] ∧ Fr (fun k => k = b0) w w' := by
    intro v hv1 hv2
    clear hv1
    cases cr with
    | false =>
      clear e10
      go_enter Try.func12, Try.ntmps12
      go_wp2_with fail
      refine (rwhole_any _ s hs).mono ?_
      rintro e w2 ⟨rfl, f2⟩
      go_wp2_with fail
      go_ret
      exact ⟨rfl, Blk.fr (by simpa using h.set_ 0 (.bool v)) f2 (fun x => x), (Fr.setCell (S := fun k => k = b0) (p := ⟨b0, 0, none⟩) (Fr.rfl' _ _) (fun _ => rfl) _).trans' f2 (fun _ _ x => x.elim)⟩
    | true =>
      have n10 : ((c0.toNat : Int) == 10) = false := byte_ne (d := 10) (e10 rfl)
      clear e10
      go_enter Try.func12, Try.ntmps12
      go_wp2_with fail
      refine (rwhole_any _ s hs).mono ?_
      rintro e w2 ⟨rfl, f2⟩
      go_wp2_with fail
      go_ret
      exact ⟨rfl, Blk.fr (by simpa using h.set_ 0 (.bool v)) f2 (fun x => x), (Fr.setCell (S := fun k => k = b0) (p := ⟨b0, 0, none⟩) (Fr.rfl' _ _) (fun _ => rfl) _).trans' f2 (fun _ _ x => x.elim)⟩
  by_cases h13 : c1 = 13
  · have h1 : (c1 == 13) = true := by simpa using h13
    rw [h1]
    exact tail true h1 (by rw [h13]; rfl)
  · have h1 : (c1 == 13) = false := by simpa using h13
    rw [h1]
    exact tail false h1 (byte_ne (d := 13) h13)

theorem rwrite_empty (w : World) (b0 : Nat) (s : ByteArray) (hs : s.size = 0) :
    Calls Try.prog 12 #[.pointer (some ⟨b0, 0, none⟩), .string s] w fun e w' => e = .returned (.string (str [])) ∧ w' = w := by
  have hemp : s.toList.isEmpty = true := by
    rw [Lib.toList_data]
    have := size_bs s
    rw [hs] at this
    rw [show s.data.toList = [] from List.eq_nil_of_length_eq_zero this.symm]
    rfl
  go_enter Try.func12, Try.ntmps12
  go_wp2_with fail
  go_ret
  exact ⟨rfl, rfl⟩

theorem bs_tail (s : ByteArray) (h : s.size ≠ 0) : bs (s.extract 1 s.size) = (bs s).tail := by
  rw [bs_extract, List.take_of_length_le (by rw [size_bs]; exact Nat.le_refl _), List.drop_one]

set_option maxHeartbeats 400000 in
theorem rwrite_any (w : World) (b0 : Nat) (cr : Bool) (s : ByteArray) (h : Blk w b0 28 #[.bool cr]) (hs : s.size ≤ 1048576) :
    Calls Try.prog 12 #[.pointer (some ⟨b0, 0, none⟩), .string s] w fun e w' => e = .returned (.string (str (wrl cr (bs s)))) ∧ Blk w' b0 28 #[.bool (crOf cr (bs s))] ∧ Fr (fun k => k = b0) w w' := by
  have hlen : s.size = (bs s).length := size_bs s
  by_cases h0 : s.size = 0
  · have hb : bs s = [] := List.eq_nil_of_length_eq_zero (by omega)
    refine (rwrite_empty w b0 s h0).mono ?_
    rintro e w' ⟨rfl, rfl⟩
    rw [hb]
    exact ⟨rfl, h, Fr.rfl' _ _⟩
  · by_cases hn : cr = true → (bs s).head? ≠ some 10
    · exact rwrite_plain w b0 cr s h hs h0 hn
    · obtain rfl : cr = true := by
        cases cr with
        | true => rfl
        | false => exact absurd (fun e => by cases e) hn
      have hd : (bs s).head? = some 10 := by
        rcases Classical.em ((bs s).head? = some 10) with h1 | h1
        · exact h1
        · exact absurd (fun _ => h1) hn
      obtain ⟨t, ht⟩ : ∃ t, bs s = 10 :: t := by
        cases hb : bs s with
        | nil => rw [hb] at hd; simp at hd
        | cons a t => rw [hb] at hd; injection hd with hd; subst hd; exact ⟨t, rfl⟩
      have hc0 : (bs s)[0]? = some 10 := by rw [ht]; rfl
      have hi0 := run_index_at (P := Try.prog) Try.underlying9 hc0
      simp only [Int.cast_ofNat_Int] at hi0
      have hemp : s.toList.isEmpty = false := by
        rw [Lib.toList_data, show s.data.toList = 10 :: t from ht]
        rfl
      have hz1 : (1 : Int) ≤ s.size := by omega
      have l0 := h.cell 0
      have f0 := h.frozen 0
      simp at l0
      have hb1 : Blk (w.setCell ⟨b0, 0, none⟩ (.bool false)) b0 28 #[.bool false] := by simpa using h.set_ 0 (.bool false)
      have hf1 : Fr (fun k => k = b0) w (w.setCell ⟨b0, 0, none⟩ (.bool false)) := Fr.setCell (S := fun k => k = b0) (p := ⟨b0, 0, none⟩) (Fr.rfl' _ _) (fun _ => rfl) _
      have hbt : bs (s.extract 1 s.size) = t := by rw [bs_tail s h0, ht]; rfl
      have hst : (s.extract 1 s.size).size ≤ 1048576 := by
        rw [size_bs, hbt]
        rw [ht] at hlen
        simp at hlen
        omega
      have hw1 : wrl true (bs s) = wrl false t := by rw [ht]; rfl
      have hw2 : crOf true (bs s) = crOf false t := by rw [ht]; rfl
      rw [hw1, hw2]
      have key : Calls Try.prog 12 #[.pointer (some ⟨b0, 0, none⟩), .string (s.extract 1 s.size)] (w.setCell ⟨b0, 0, none⟩ (.bool false)) fun e w' => e = .returned (.string (str (wrl false t))) ∧ Blk w' b0 28 #[.bool (crOf false t)] ∧ Fr (fun k => k = b0) (w.setCell ⟨b0, 0, none⟩ (.bool false)) w' := by
        by_cases ht0 : (s.extract 1 s.size).size = 0
        · have hb : t = [] := by
            rw [← hbt]
            exact List.eq_nil_of_length_eq_zero (by rw [← size_bs]; exact ht0)
          refine (rwrite_empty _ b0 _ ht0).mono ?_
          rintro e w' ⟨rfl, rfl⟩
          rw [hb]
          exact ⟨rfl, hb1, Fr.rfl' _ _⟩
        · have := rwrite_plain _ b0 false (s.extract 1 s.size) hb1 hst ht0 (fun e => by cases e)
          rw [hbt] at this
          exact this
      have HK := Lib.hid key
      clear key hw1 hw2 hbt ht hc0 hd hn hlen
      go_enter Try.func12, Try.ntmps12
      go_wp2_with fail
      refine HK.out.mono ?_
      rintro e w' ⟨rfl, hB, hF⟩
      go_wp2_with fail
      go_ret
      exact ⟨rfl, hB, hf1.trans hF⟩
end Go.Proofs.Ytdngfkcamphoiaa
