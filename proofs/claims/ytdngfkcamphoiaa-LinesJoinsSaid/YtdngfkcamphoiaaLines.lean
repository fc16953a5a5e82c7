/-
  The walks of lines.New, Write, Whole.
-/
import Derived.Test.YtdngfkcamphoiaaPlain
import Derived.Test.YtdngfkcamphoiaaBuild
namespace Go.Proofs.Ytdngfkcamphoiaa
open Go.RowKit

theorem lnew_any (w : World) : Calls Try.prog 10 #[] w fun e w' => e = .returned (.pointer (some ⟨w.heap.size, 0, none⟩)) ∧ w' = w.alloc (.cells #[.bool false] 38) := by
  go_enter Try.func10, Try.ntmps10
  go_wp2
  go_ret
  exact ⟨rfl, rfl⟩

theorem put_any (w : World) (b : Nat) (l : List UInt8) (c : UInt8) (h : Bld w b l) (hl : l.length ≤ 16777216) :
    Calls Try.prog 19 #[.int .u8 (c.toNat : Int), .pointer (some ⟨b, 0, none⟩)] w fun e w' => e = .returned (.tuple #[]) ∧ Bld w' b (l ++ [if c = 13 then 10 else c]) ∧ Fr (fun k => b ≤ k) w w' := by
  by_cases hc : c = 13
  · subst hc
    go_enter Try.func19, Try.ntmps19
    go_wp2_with fail
    refine (writeByte_any w b l 10 h hl).mono ?_
    rintro e w' ⟨rfl, hb, hf⟩
    go_wp2_with fail
    go_end0
    exact ⟨rfl, hb, hf⟩
  · have e1 : ((c.toNat : Int) == 13) = false := byte_ne (d := 13) hc
    go_enter Try.func19, Try.ntmps19
    go_wp2_with fail
    refine (writeByte_any w b l c h hl).mono ?_
    rintro e w' ⟨rfl, hb, hf⟩
    go_wp2_with fail
    go_end0
    exact ⟨rfl, hb, hf⟩

set_option maxHeartbeats 800000 in
theorem write_any (w : World) (b0 : Nat) (cr : Bool) (s : ByteArray) (h : Blk w b0 38 #[.bool cr]) (hs : s.size ≤ 1048576) :
    Calls Try.prog 11 #[.pointer (some ⟨b0, 0, none⟩), .string s] w fun e w' => e = .returned (.string (str (wrl cr (bs s)))) ∧ Blk w' b0 38 #[.bool (crOf cr (bs s))] ∧ Fr (fun k => k = b0) w w' := by
  have hlen : s.size = (bs s).length := size_bs s
  have hb0 := h.lt
  go_enter Try.func11, Try.ntmps11
  go_wp2_with fail
  go_loopw [7, 8, 12] (fun _ _ i wr => ∃ k : Nat, i = .int .i64 k ∧ k ≤ s.size ∧ Bld wr w.heap.size (wrl cr ((bs s).take k)) ∧ Blk wr b0 38 #[.bool (crOf cr ((bs s).take k))] ∧ Fr (fun k => k = b0) w wr)
    (fun _ _ i _ => s.size - (intOf i).toNat)
  case atStart => exact ⟨0, rfl, Nat.zero_le _, bld_new w, h.alloc _, (Fr.rfl' _ _).alloc _⟩
  case round =>
    obtain ⟨k, rfl, hk, hB, hL, hfr⟩ := hrel
    by_cases hlt : k < s.size
    · obtain ⟨c, hc⟩ : ∃ c, (bs s)[k]? = some c := ⟨(bs s)[k]'(by omega), List.getElem?_eq_getElem _⟩
      have hidx := run_index_at (P := Try.prog) Try.underlying9 hc
      have hts : (bs s).take (k + 1) = (bs s).take k ++ [c] := by rw [List.take_add_one, hc]; rfl
      have hw1 := wrl_snoc cr ((bs s).take k) c
      have hw2 := crOf_snoc cr ((bs s).take k) c
      rw [← hts] at hw1 hw2
      have hwl := wrl_len ((bs s).take k) cr
      have htl : ((bs s).take k).length ≤ k := List.length_take_le _ _
      have HW1 := Lib.hid hw1
      have HW2 := Lib.hid hw2
      have HL := Lib.hid hlen
      have l0 := hL.cell 0
      have f0 := hL.frozen 0
      simp at l0
      clear hw1 hw2 hlen hts hc
      by_cases hn : c = 10 ∧ crOf cr ((bs s).take k) = true
      · obtain ⟨rfl, hcr⟩ := hn
        rw [hcr] at l0
        have HC := Lib.hid hcr
        clear hcr
        go_wp2_with fail
        go_roundw
        case rel =>
          refine ⟨k + 1, by go_num, by omega, ?_, ?_, ?_⟩
          · rw [HW1.out, put1, if_pos ⟨rfl, HC.out⟩, List.append_nil]
            exact bld_fr hB (Fr.setCell (S := fun k => k = b0) (p := ⟨b0, 0, none⟩) (Fr.rfl' _ _) (fun _ => rfl) _) (fun i h1 h2 h3 => by omega)
          · rw [HW2.out]
            simpa using hL.set_ 0 (.bool false)
          · exact Fr.setCell (S := fun k => k = b0) (p := ⟨b0, 0, none⟩) hfr (fun _ => rfl) _
        case measure => simp [intOf]; omega
      · have HW3 := Lib.hid (HW1.out.trans (by rw [put1, if_neg hn]))
        by_cases hc10 : c = 10
        · subst hc10
          have hcr : crOf cr ((bs s).take k) = false := by simpa using hn
          rw [hcr] at l0
          clear hcr hn
          go_wp2_with fail
          refine (put_any wr w.heap.size _ 10 hB (by omega)).mono ?_
          rintro e w3 ⟨rfl, hb3, f3⟩
          have hL3 := hL.fr f3 (by omega)
          have l3 := hL3.cell 0
          have f03 := hL3.frozen 0
          simp only [List.getElem?_toArray, List.getElem?_cons_zero] at l3
          go_wp2_with fail
          go_roundw
          case rel =>
            refine ⟨k + 1, by go_num, by omega, ?_, ?_, ?_⟩
            · rw [HW3.out]
              exact bld_fr hb3 (Fr.setCell (S := fun k => k = b0) (p := ⟨b0, 0, none⟩) (Fr.rfl' _ _) (fun _ => rfl) _) (fun i h1 h2 h3 => by omega)
            · rw [HW2.out]
              simpa using hL3.set_ 0 (.bool false)
            · exact Fr.setCell (S := fun k => k = b0) (p := ⟨b0, 0, none⟩) (hfr.trans' f3 (fun i h1 h2 => by omega)) (fun _ => rfl) _
          case measure => simp [intOf]; omega
        · have n10 : ((c.toNat : Int) != 10) = true := byte_bne (d := 10) hc10
          clear hn
          by_cases hc13 : c = 13
          · subst hc13
            go_wp2_with fail
            refine (put_any wr w.heap.size _ 13 hB (by omega)).mono ?_
            rintro e w3 ⟨rfl, hb3, f3⟩
            have hL3 := hL.fr f3 (by omega)
            have l3 := hL3.cell 0
            have f03 := hL3.frozen 0
            simp only [List.getElem?_toArray, List.getElem?_cons_zero] at l3
            go_wp2_with fail
            go_roundw
            case rel =>
              refine ⟨k + 1, by go_num, by omega, ?_, ?_, ?_⟩
              · rw [HW3.out]
                exact bld_fr hb3 (Fr.setCell (S := fun k => k = b0) (p := ⟨b0, 0, none⟩) (Fr.rfl' _ _) (fun _ => rfl) _) (fun i h1 h2 h3 => by omega)
              · rw [HW2.out]
                simpa using hL3.set_ 0 (.bool true)
              · exact Fr.setCell (S := fun k => k = b0) (p := ⟨b0, 0, none⟩) (hfr.trans' f3 (fun i h1 h2 => by omega)) (fun _ => rfl) _
            case measure => simp [intOf]; omega
          · have n13 : ((c.toNat : Int) == 13) = false := byte_ne (d := 13) hc13
            go_wp2_with fail
            refine (put_any wr w.heap.size _ c hB (by omega)).mono ?_
            rintro e w3 ⟨rfl, hb3, f3⟩
            have hL3 := hL.fr f3 (by omega)
            have l3 := hL3.cell 0
            have f03 := hL3.frozen 0
            simp only [List.getElem?_toArray, List.getElem?_cons_zero] at l3
            go_wp2_with fail
            go_roundw
            case rel =>
              refine ⟨k + 1, by go_num, by omega, ?_, ?_, ?_⟩
              · rw [HW3.out]
                exact bld_fr hb3 (Fr.setCell (S := fun k => k = b0) (p := ⟨b0, 0, none⟩) (Fr.rfl' _ _) (fun _ => rfl) _) (fun i h1 h2 h3 => by omega)
              · rw [HW2.out]
                have e13 : (c == 13) = false := by simpa using hc13
                rw [e13]
                simpa using hL3.set_ 0 (.bool false)
              · exact Fr.setCell (S := fun k => k = b0) (p := ⟨b0, 0, none⟩) (hfr.trans' f3 (fun i h1 h2 => by omega)) (fun _ => rfl) _
            case measure => simp [intOf]; omega
    · go_wp2_with fail
      refine (string_any _ _ _ hB).mono ?_
      rintro e w3 ⟨rfl, f3⟩
      go_wp2_with fail
      go_ret
      have : (bs s).take k = bs s := List.take_of_length_le (by omega)
      rw [this] at hL ⊢
      exact ⟨rfl, hL.fr f3 (by omega), hfr.trans' f3 (fun i h1 h2 => by omega)⟩
end Go.Proofs.Ytdngfkcamphoiaa
