/-
  The law LinesJoins, walked: for every input it returns true and writes nothing that was there.
-/
import Derived.Test.YtdngfkcamphoiaaCount
import Derived.Deep.RegionWith
namespace Go.Proofs.Ytdngfkcamphoiaa
open Go.RowKit

/-! ### LinesJoins -/
theorem joins_cut (a b : ByteArray) (ha : (bs a).getLast? = some 13) (hb : (bs b).head? = some 10) : wrl false (bs (a ++ b)) = wrl false (bs a) ++ wrl false (bs b).tail := by
  rw [bs_append, wrl_append, crOf_last _ _ _ ha]
  cases h : bs b with
  | nil => rw [h] at hb; simp at hb
  | cons c t =>
    rw [h] at hb
    injection hb with hb
    subst hb
    rfl
theorem joins_plain (a b : ByteArray) (h : (bs a).getLast? ≠ some 13 ∨ (bs b).head? ≠ some 10) : wrl false (bs (a ++ b)) = wrl false (bs a) ++ wrl false (bs b) := by
  rw [bs_append, wrl_append]
  rcases h with h | h
  · cases ha : (bs a).getLast? with
    | none =>
      have : bs a = [] := by simpa using ha
      rw [this]
      rfl
    | some c =>
      rw [ha] at h
      have : (c == 13) = false := by
        have hc : c ≠ 13 := fun e => h (by rw [e])
        simpa using hc
      rw [crOf_last _ _ _ ha, this]
  · rw [wrl_not10 _ _ h]
theorem wrl_cnt_plain (a b : ByteArray) (h : wrl false (bs (a ++ b)) = wrl false (bs a) ++ wrl false (bs b)) : cnt (bs (a ++ b)) = cnt (bs a) + cnt (bs b) := by
  rw [cnt, cnt, cnt, h, List.count_append]
def emp : ByteArray := { data := #[] }
theorem last_of (a : ByteArray) (h : a ≠ { data := #[] }) : ∃ c, (bs a)[a.size - 1]? = some c ∧ (bs a).getLast? = some c ∧ a.size ≠ 0 := by
  have hs : a.size ≠ 0 := by
    intro h0
    apply h
    rcases a with ⟨⟨l⟩⟩
    cases l with
    | nil => rfl
    | cons c t => simp [ByteArray.size] at h0
  have hl := size_bs a
  have hlt : a.size - 1 < (bs a).length := by omega
  refine ⟨(bs a)[a.size - 1], List.getElem?_eq_getElem hlt, ?_, hs⟩
  rw [List.getLast?_eq_getElem?, ← hl]
  exact List.getElem?_eq_getElem hlt
theorem head_of (a : ByteArray) (h : a ≠ { data := #[] }) : ∃ c, (bs a)[0]? = some c ∧ (bs a).head? = some c ∧ a.size ≠ 0 := by
  obtain ⟨c, _, _, hs⟩ := last_of a h
  have hl := size_bs a
  have hlt : 0 < (bs a).length := by omega
  refine ⟨(bs a)[0], List.getElem?_eq_getElem hlt, ?_, hs⟩
  rw [List.head?_eq_getElem?]
  exact List.getElem?_eq_getElem hlt
theorem empty_last (a : ByteArray) (h : a = { data := #[] }) : (bs a).getLast? ≠ some 13 := by subst h; simp [bs]
theorem empty_head (a : ByteArray) (h : a = { data := #[] }) : (bs a).head? ≠ some 10 := by subst h; simp [bs]

set_option maxHeartbeats 4000000 in
set_option maxRecDepth 100000 in
theorem joins_crlf (w : World) (a b : ByteArray) (hba : ¬ 2000 < a.size) (hba' : ¬ (2000 : Int) < a.size) (hbb : ¬ 2000 < b.size) (hbb' : ¬ (2000 : Int) < b.size)
    (hsz : (a ++ b).size = a.size + b.size) (hsz2 : (a ++ b).size ≤ 4000) (hz1 : (str (wrl false (bs a))).size ≤ 2000)
    (hn : a.size ≠ 0) (hae' : a.toList.isEmpty = false) (hm : b.size ≠ 0) (hbe' : b.toList.isEmpty = false)
    (hidx : ∀ (W : World), Sem.run Try.prog (Instr.index 9 (Value.string a) (Value.int IntKind.i64 (↑a.size - 1))) W = Result.ok (Value.int IntKind.u8 ↑(UInt8.toNat 13)) W)
    (hidb : ∀ (W : World), Sem.run Try.prog (Instr.index 9 (Value.string b) (Value.int IntKind.i64 0)) W = Result.ok (Value.int IntKind.u8 ↑(UInt8.toNat 10)) W)
    (hcl : (bs a).getLast? = some 13) (hdl : (bs b).head? = some 10) :
    Calls Try.prog 8 #[.string a, .string b] w fun e w' => e = .returned (.bool true) ∧ Fr Nil w w' := by
  have PL := Lib.hid (joins_cut a b hcl hdl)
  clear hcl hdl
  go_enter Try.func8, Try.ntmps8
  go_wp2_with fail
  refine (awake_any w).mono ?_
  rintro e w1 ⟨rfl, f1⟩
  go_wp2_with fail
  have hbt := bs_tail b hm
  have hxs : (b.extract 1 b.size).size ≤ 2000 := by rw [size_bs, hbt, List.length_tail, ← size_bs]; omega
  have hbt2 : str (wrl false (bs (b.extract 1 b.size))) = str (wrl false (bs b).tail) := by rw [hbt]
  have he := str_beq_self (str (wrl false (bs a)) ++ str (wrl false (bs b).tail))
  have hz3 : (str (wrl false (bs b).tail)).size ≤ 2000 := by rw [size_str]; have := wrl_len (bs b).tail false; have := size_bs b; rw [List.length_tail] at *; omega
  go_region_with (go_at_call 13; first
    | (refine (whole_any _ (a ++ b) (by omega)).mono ?_
       rw [PL.out, str_append]
       rintro e w3 ⟨rfl, f3⟩)
    | (refine (whole_any _ a (by omega)).mono ?_
       rintro e w4 ⟨rfl, f4⟩)
    | (refine (whole_any _ (b.extract 1 b.size) (by omega)).mono ?_
       rw [hbt2]
       rintro e w5 ⟨rfl, f5⟩))
  all_goals first
    | (exfalso; omega)
    | (go_wp2_with fail
       go_ret
       exact ⟨rfl, ((f1.drew.trans f3).trans f4).trans f5⟩)


set_option maxHeartbeats 800000 in
set_option maxRecDepth 100000 in
theorem joins_any (w : World) (a b : ByteArray) :
    Calls Try.prog 8 #[.string a, .string b] w fun e w' => e = .returned (.bool true) ∧ Fr Nil w w' := by
  by_cases hba : 2000 < a.size
  · have hba' : (2000 : Int) < a.size := by omega
    go_enter Try.func8, Try.ntmps8
    go_wp2_with fail
    refine (awake_any w).mono ?_
    rintro e w1 ⟨rfl, f1⟩
    go_wp2_with fail
    go_ret
    exact ⟨rfl, f1⟩
  · have hba' : ¬ (2000 : Int) < a.size := by omega
    by_cases hbb : 2000 < b.size
    · have hbb' : (2000 : Int) < b.size := by omega
      go_enter Try.func8, Try.ntmps8
      go_wp2_with fail
      refine (awake_any w).mono ?_
      rintro e w1 ⟨rfl, f1⟩
      go_wp2_with fail
      go_ret
      exact ⟨rfl, f1⟩
    · have hbb' : ¬ (2000 : Int) < b.size := by omega
      have hsz : (a ++ b).size = a.size + b.size := by simp
      have hsz2 : (a ++ b).size ≤ 4000 := by omega
      have hl1 := wrl_len (bs a) false
      have hl2 := wrl_len (bs b) false
      rw [← size_bs] at hl1 hl2
      have hc1 := cnt_le (bs a)
      have hc2 := cnt_le (bs b)
      rw [← size_bs] at hc1 hc2
      have hz1 : (str (wrl false (bs a))).size ≤ 2000 := by rw [size_str]; omega
      have hz2 : (str (wrl false (bs b))).size ≤ 2000 := by rw [size_str]; omega
      have plainly : ∀ (hno : (bs a).getLast? ≠ some 13 ∨ (bs b).head? ≠ some 10), Hid (wrl false (bs (a ++ b)) = wrl false (bs a) ++ wrl false (bs b) ∧ cnt (bs (a ++ b)) = cnt (bs a) + cnt (bs b)) :=
        fun hno => Lib.hid ⟨joins_plain a b hno, wrl_cnt_plain a b (joins_plain a b hno)⟩
      by_cases hae : a = { data := #[] }
      · have PL := plainly (.inl (empty_last a hae))
        have hae' : a.toList.isEmpty = true := by rw [hae, Lib.toList_data]; rfl
        clear hae plainly
        go_enter Try.func8, Try.ntmps8
        go_wp2_with fail
        refine (awake_any w).mono ?_
        rintro e w1 ⟨rfl, f1⟩
        go_wp2_with fail
        refine (whole_any _ (a ++ b) (by omega)).mono ?_
        rw [PL.out.1, str_append]
        rintro e w2 ⟨rfl, f2⟩
        go_wp2_with fail
        refine (whole_any _ a (by omega)).mono ?_
        rintro e w3 ⟨rfl, f3⟩
        go_wp2_with fail
        refine (whole_any _ b (by omega)).mono ?_
        rintro e w4 ⟨rfl, f4⟩
        have he := str_beq_self (str (wrl false (bs a)) ++ str (wrl false (bs b)))
        go_wp2_with fail
        refine (count_any _ (a ++ b) (by omega)).mono ?_
        rw [PL.out.2]
        rintro e w5 ⟨rfl, f5⟩
        go_wp2_with fail
        refine (count_any _ a (by omega)).mono ?_
        rintro e w6 ⟨rfl, f6⟩
        go_wp2_with fail
        refine (count_any _ b (by omega)).mono ?_
        rintro e w7 ⟨rfl, f7⟩
        go_wp2_with fail
        go_ret
        exact ⟨rfl, (((((f1.trans f2).trans f3).trans f4).trans f5).trans f6).trans f7⟩
      · obtain ⟨c, hc, hcl, hn⟩ := last_of a hae
        have hae' : a.toList.isEmpty = false := by rw [Lib.toList_data]; rcases a with ⟨⟨l⟩⟩; cases l with | nil => exact (hae rfl).elim | cons c t => rfl
        have hk : (a.size : Int) - 1 = ((a.size - 1 : Nat) : Int) := by omega
        have hidx := run_index_at (P := Try.prog) Try.underlying9 hc
        rw [← hk] at hidx
        clear hk hae hc
        by_cases h13 : c = 13
        · subst h13
          by_cases hbe : b = { data := #[] }
          · have PL := plainly (.inr (empty_head b hbe))
            have hbe' : b.toList.isEmpty = true := by rw [hbe, Lib.toList_data]; rfl
            clear hbe plainly
            go_enter Try.func8, Try.ntmps8
            go_wp2_with fail
            refine (awake_any w).mono ?_
            rintro e w1 ⟨rfl, f1⟩
            go_wp2_with fail
            refine (whole_any _ (a ++ b) (by omega)).mono ?_
            rw [PL.out.1, str_append]
            rintro e w2 ⟨rfl, f2⟩
            go_wp2_with fail
            refine (whole_any _ a (by omega)).mono ?_
            rintro e w3 ⟨rfl, f3⟩
            go_wp2_with fail
            refine (whole_any _ b (by omega)).mono ?_
            rintro e w4 ⟨rfl, f4⟩
            have he := str_beq_self (str (wrl false (bs a)) ++ str (wrl false (bs b)))
            go_wp2_with fail
            refine (count_any _ (a ++ b) (by omega)).mono ?_
            rw [PL.out.2]
            rintro e w5 ⟨rfl, f5⟩
            go_wp2_with fail
            refine (count_any _ a (by omega)).mono ?_
            rintro e w6 ⟨rfl, f6⟩
            go_wp2_with fail
            refine (count_any _ b (by omega)).mono ?_
            rintro e w7 ⟨rfl, f7⟩
            go_wp2_with fail
            go_ret
            exact ⟨rfl, (((((f1.trans f2).trans f3).trans f4).trans f5).trans f6).trans f7⟩
          · obtain ⟨d, hd, hdl, hm⟩ := head_of b hbe
            have hbe' : b.toList.isEmpty = false := by rw [Lib.toList_data]; rcases b with ⟨⟨l⟩⟩; cases l with | nil => exact (hbe rfl).elim | cons c t => rfl
            have hidb := run_index_at (P := Try.prog) Try.underlying9 hd
            rw [show ((0 : Nat) : Int) = 0 from rfl] at hidb
            clear hbe hd
            by_cases h10 : d = 10
            · subst h10
              exact joins_crlf w a b hba hba' hbb hbb' hsz hsz2 hz1 hn hae' hm hbe' hidx hidb hcl hdl
            · have PL := plainly (.inr (by rw [hdl]; simpa using h10))
              have n10 : ((d.toNat : Int) == 10) = false := byte_ne (d := 10) h10
              clear plainly hcl hdl
              go_enter Try.func8, Try.ntmps8
              go_wp2_with fail
              refine (awake_any w).mono ?_
              rintro e w1 ⟨rfl, f1⟩
              go_wp2_with fail
              refine (whole_any _ (a ++ b) (by omega)).mono ?_
              rw [PL.out.1, str_append]
              rintro e w2 ⟨rfl, f2⟩
              go_wp2_with fail
              refine (whole_any _ a (by omega)).mono ?_
              rintro e w3 ⟨rfl, f3⟩
              go_wp2_with fail
              refine (whole_any _ b (by omega)).mono ?_
              rintro e w4 ⟨rfl, f4⟩
              have he := str_beq_self (str (wrl false (bs a)) ++ str (wrl false (bs b)))
              go_wp2_with fail
              refine (count_any _ (a ++ b) (by omega)).mono ?_
              rw [PL.out.2]
              rintro e w5 ⟨rfl, f5⟩
              go_wp2_with fail
              refine (count_any _ a (by omega)).mono ?_
              rintro e w6 ⟨rfl, f6⟩
              go_wp2_with fail
              refine (count_any _ b (by omega)).mono ?_
              rintro e w7 ⟨rfl, f7⟩
              go_wp2_with fail
              go_ret
              exact ⟨rfl, (((((f1.trans f2).trans f3).trans f4).trans f5).trans f6).trans f7⟩
        · have PL := plainly (.inl (by rw [hcl]; simpa using h13))
          have n13 : ((c.toNat : Int) == 13) = false := byte_ne (d := 13) h13
          clear plainly hcl
          go_enter Try.func8, Try.ntmps8
          go_wp2_with fail
          refine (awake_any w).mono ?_
          rintro e w1 ⟨rfl, f1⟩
          go_wp2_with fail
          refine (whole_any _ (a ++ b) (by omega)).mono ?_
          rw [PL.out.1, str_append]
          rintro e w2 ⟨rfl, f2⟩
          go_wp2_with fail
          refine (whole_any _ a (by omega)).mono ?_
          rintro e w3 ⟨rfl, f3⟩
          go_wp2_with fail
          refine (whole_any _ b (by omega)).mono ?_
          rintro e w4 ⟨rfl, f4⟩
          have he := str_beq_self (str (wrl false (bs a)) ++ str (wrl false (bs b)))
          go_wp2_with fail
          refine (count_any _ (a ++ b) (by omega)).mono ?_
          rw [PL.out.2]
          rintro e w5 ⟨rfl, f5⟩
          go_wp2_with fail
          refine (count_any _ a (by omega)).mono ?_
          rintro e w6 ⟨rfl, f6⟩
          go_wp2_with fail
          refine (count_any _ b (by omega)).mono ?_
          rintro e w7 ⟨rfl, f7⟩
          go_wp2_with fail
          go_ret
          exact ⟨rfl, (((((f1.trans f2).trans f3).trans f4).trans f5).trans f6).trans f7⟩
end Go.Proofs.Ytdngfkcamphoiaa
