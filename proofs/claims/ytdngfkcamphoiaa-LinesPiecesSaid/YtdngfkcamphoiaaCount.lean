/-
  The walks of lines.Count, the reference's Count, and awake of chapter 2.
-/
import Derived.Test.YtdngfkcamphoiaaPlace
namespace Go.Proofs.Ytdngfkcamphoiaa
open Go.RowKit

def cnt (l : List UInt8) : Nat := (wrl false l).count 10
theorem cnt_le (l : List UInt8) : cnt l ≤ l.length := Nat.le_trans List.count_le_length (wrl_len l false)
theorem count_any (w : World) (s : ByteArray) (hs : s.size ≤ 1048576) :
    Calls Try.prog 17 #[.string s] w fun e w' => e = .returned (.int .i64 (cnt (bs s))) ∧ Fr Nil w w' := by
  go_enter Try.func17, Try.ntmps17
  go_wp2_with fail
  refine (whole_any w s hs).mono ?_
  rintro e w2 ⟨rfl, f2⟩
  go_wp2_with fail
  refine (Try.strings_Count_one (str (wrl false (bs s))) 10 w2).mono ?_
  rintro e w3 ⟨rfl, rfl⟩
  go_wp2_with fail
  go_ret
  exact ⟨rfl, f2⟩

theorem rcount_any (w : World) (s : ByteArray) (hs : s.size ≤ 1048576) :
    Calls Try.prog 18 #[.string s] w fun e w' => e = .returned (.int .i64 (cnt (bs s))) ∧ Fr Nil w w' := by
  have hlen : s.size = (bs s).length := size_bs s
  have hwl := wrl_len (bs s) false
  have hcn : cnt (bs s) = (bs (str (wrl false (bs s)))).count 10 := rfl
  have HC := Lib.hid hcn
  have htl : (str (wrl false (bs s))).size ≤ 1048576 := by rw [size_str]; omega
  clear hcn
  go_enter Try.func18, Try.ntmps18
  go_wp2_with fail
  refine (rwhole_any w s hs).mono ?_
  rintro e w2 ⟨rfl, f2⟩
  generalize str (wrl false (bs s)) = t at HC htl
  have hlt : t.size = (bs t).length := size_bs t
  have HL := Lib.hid hlt
  clear hlt hlen
  go_wp2_with fail
  go_loop [3, 5] (fun a i => ∃ k : Nat, i = .int .i64 k ∧ k ≤ t.size ∧ a = .int .i64 (((bs t).take k).count 10)) (fun _ i => t.size - (intOf i).toNat)
  case atStart => exact ⟨0, rfl, Nat.zero_le _, rfl⟩
  case round =>
    obtain ⟨k, rfl, hk, rfl⟩ := hrel
    by_cases hlt : k < t.size
    · obtain ⟨c, hc⟩ : ∃ c, (bs t)[k]? = some c := ⟨(bs t)[k]'(by have := HL.out; omega), List.getElem?_eq_getElem _⟩
      have hidx := run_index_at (P := Try.prog) Try.underlying9 hc
      have hts : ((bs t).take (k + 1)).count 10 = ((bs t).take k).count 10 + if c = 10 then 1 else 0 := by
        rw [List.take_add_one, hc, List.count_append]
        by_cases h : c = 10 <;> simp [h]
      have hle : ((bs t).take k).count 10 ≤ k := Nat.le_trans List.count_le_length (List.length_take_le _ _)
      have HT := Lib.hid hts
      generalize ((bs t).take k).count 10 = q at hle HT ⊢
      clear hts hc
      by_cases h10 : c = 10
      · subst h10
        go_wp2_with fail
        go_round
        case rel => exact ⟨k + 1, by go_num, by omega, by rw [HT.out, if_pos rfl]; go_num⟩
        case measure => simp [intOf]; omega
      · have n10 : ((c.toNat : Int) == 10) = false := byte_ne (d := 10) h10
        go_wp2_with fail
        go_round
        case rel => exact ⟨k + 1, by go_num, by omega, by rw [HT.out, if_neg h10]; go_num⟩
        case measure => simp [intOf]; omega
    · go_wp2_with fail
      go_ret
      refine ⟨?_, f2⟩
      rw [HC.out, List.take_of_length_le (by have := HL.out; omega)]
      rfl

theorem awake_any (w : World) : Calls Try.prog 9 #[] w fun e w' => e = .returned (.bool true) ∧ Fr Nil w w' := by
  go_enter Try.func9, Try.ntmps9
  go_wp2_with fail
  refine (place_any w ⟨#[97, 195, 164, 10, 98]⟩ 4 4 (by decide) (by decide)).mono ?_
  rintro e w2 ⟨rfl, rfl⟩
  have hp : pl (bs ⟨#[97, 195, 164, 10, 98]⟩) 4 = (2, 1) := by decide
  rw [hp]
  clear hp
  go_wp2_with fail
  refine (whole_any _ ⟨#[97, 13, 10, 98, 13, 99]⟩ (by decide)).mono ?_
  rintro e w3 ⟨rfl, f3⟩
  have h : str (wrl false (bs ⟨#[97, 13, 10, 98, 13, 99]⟩)) = ⟨#[97, 10, 98, 10, 99]⟩ := rfl
  rw [h]
  clear h
  go_wp2_with fail
  go_ret
  exact ⟨rfl, f3⟩
end Go.Proofs.Ytdngfkcamphoiaa
