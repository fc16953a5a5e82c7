/-
  The reference of chapter 1: Whole, Valid.
-/
import Derived.Test.YtlgffgmfaejmeaaRef
namespace Go.Proofs.Ytlgffgmfaejmeaa
open Go.RowKit

def lenOfV : Value → Nat | .slice _ n _ => n | _ => 0

/-- in the midst of the reference's Whole: k bytes are told by out -/
def RInv (w : World) (B : Nat) (l : List UInt8) (wr : World) (b out : Value) : Prop :=
  ∃ k Ab nb cb Ao no co O, b = .slice Ab nb cb ∧ out = .slice Ao no co ∧ Reads w B 1 Ab nb (cellsOf (l.drop k)) ∧ nb ≤ cb ∧ no = O.length ∧ Own wr 5 1 Ao no co (cellsOf O) ∧
    O ++ W [] (l.drop k) = W [] l ∧ Fr Nil w wr ∧ (∀ q, At Ao q → w.heap.size ≤ q)

set_option maxHeartbeats 800000 in
theorem rwhole_any (w : World) (B : Nat) (A : Option Addr) (n c : Nat) (l : List UInt8) (hr : Reads w B 1 A n (cellsOf l)) (hB : B ≤ w.heap.size) (hc : n ≤ c) (hn : n ≤ 100000) :
    Calls Try.prog 12 #[.slice A n c] w fun e w' => e = .returned (.string (str (W [] l))) ∧ Fr Nil w w' := by
  have hl := reads_len hr
  have hwl := W_len [] l trivial
  simp only [List.length_nil, Nat.mul_zero, Nat.zero_add] at hwl
  go_enter Try.func12, Try.ntmps12
  go_wp2_with fail
  go_loopw [0, 3] (fun b out wr => RInv w B l wr b out) (fun b _ _ => lenOfV b)
  case atStart => exact ⟨0, A, n, c, none, 0, 0, [], rfl, rfl, hr, hc, rfl, Own.nil _ _ _, rfl, Fr.rfl' _ _, fun q hq => (not_at_none q hq).elim⟩
  case round =>
    obtain ⟨k, Ab, nb, cb, Ao, no, co, O, rfl, rfl, hrb, hcb, hno, hown, hO, hfr, hAo⟩ := hrel
    have hlb := reads_len hrb
    have hOl : O.length ≤ 3 * l.length := by
      have := congrArg List.length hO
      rw [List.length_append] at this
      omega
    have hle := bgn_le (l.drop k)
    have hwb := fun h => W_bgn (l.drop k) h
    rw [List.drop_drop] at hwb
    have hlk : nb ≤ 100000 := by rw [← hlb, List.length_drop]; omega
    by_cases hz : nb = 0
    · subst hz
      have hnil : l.drop k = [] := List.eq_nil_of_length_eq_zero hlb
      rw [hnil, show W [] [] = ([] : List UInt8) from rfl, List.append_nil] at hO
      subst hO
      have hcv := run_string_of (P := Try.prog) (src := 22) (dst := 9) (e := 5) (c := co) Try.underlying22 Try.underlying5 Try.underlying9 hown.reads
      clear hno hwb hle
      go_wp2_with fail
      go_ret
      exact ⟨rfl, hfr⟩
    · have hpos : (0 : Int) < nb := by omega
      have hBg := Lib.hid (fun (W : World) (hW : Reads W B 1 Ab nb (cellsOf (l.drop k))) => begin_any W B Ab nb cb (l.drop k) hW (by omega))
      have hwb1 := hwb (fun e => hz (by rw [← hlb, e]; rfl))
      have hr1 := hrb.frAt hB hfr (fun _ _ h => h)
      have HN := Lib.hid hno
      have HO := Lib.hid hO
      clear hwb hno hO
      generalize hgx : bgn (l.drop k) = gx at hle hwb1 hBg
      obtain ⟨g, is⟩ := gx
      have HW := Lib.hid hwb1
      clear hwb1
      dsimp only at hle hBg
      obtain ⟨hg1, hg2⟩ := hle
      rw [hlb] at hg1
      have HG := Lib.hid hg2
      clear hg2 hgx
      cases is with
      | true =>
        have hg0 := HG.out rfl
        go_wp2_with fail
        refine (hBg.out _ hr1).mono ?_
        rintro e w1 ⟨rfl, m, rfl⟩
        have hst := fun W => run_slice_to (P := Try.prog) (t := 22) (e := 5) (A := Ab) (n := nb) (c := cb) (k := g) Try.underlying22 (size := 1) (by kernel_rfl) hg1 hcb W
        have hcells := cellsOf_one ((l.drop k).take g)
        have hln : ((l.drop k).take g).length = g := by rw [List.length_take]; omega
        have hcut := fun W => run_slice_from (P := Try.prog) (t := 22) (e := 5) (A := Ab) (n := nb) (c := cb) (k := g) Try.underlying22 (size := 1) (by kernel_rfl) hg1 W
        have hno4 : no + g ≤ 1000000 := by have := HN.out; omega
        have hmx : max (g : Int) 1 = g := by omega
        go_wp2_with (
          at_builtin
          refine wpList_append _ rfl (.tmp 15) (.tmp 18) 22 rfl 5 (.int .u8 0) 1 1 Try.underlying22 infoByte rfl (by decide) Ao no co (cellsOf O) rfl (hown.drewN m)
            B Ab g cb (cellsOf ((l.drop k).take g)) rfl (reads_take hr1 hg1) hcells (by unfold maxLen; omega) (by omega) ?_
          intro A4 c4 w2 hown4 hfr4 hat4)
        refine ⟨⟨k + g, _, nb - g, cb - g, A4, no + g, c4, O ++ (l.drop k).take g, rfl, rfl, ?_, by omega, ?_, ?_, ?_, ?_, ?_⟩, ?_⟩
        · have := reads_drop hrb hg1 hcb
          rw [List.drop_drop] at this
          exact this
        · rw [List.length_append, hln, HN.out]
        · rw [cellsOf_append]
          exact hown4
        · have h1 := HO.out
          have h2 := HW.out
          rw [if_pos trivial, show max g 1 = g by omega] at h2
          rw [List.append_assoc, ← h2, h1]
        · exact (hfr.drewN m).trans' hfr4 fun q hq hA => by have := hAo q hA; omega
        · intro q hq
          rcases at_new (w0 := w) hat4 hfr.size q hq with h1 | h1
          · exact hAo q h1
          · exact h1
        · simp [lenOfV]
          omega
      | false =>
        go_wp2_with fail
        refine (hBg.out _ hr1).mono ?_
        rintro e w1 ⟨rfl, m, rfl⟩
        obtain ⟨mx, hmx0⟩ : ∃ mx, mx = max g 1 := ⟨_, rfl⟩
        have hmx : (if (g : Int) < 1 then (1 : Int) else (g : Int)) = (mx : Int) := by split <;> omega
        have hm1 : mx ≤ nb := by omega
        have hm2 : 0 < mx := by omega
        have hcut := fun W => run_slice_from (P := Try.prog) (t := 22) (e := 5) (A := Ab) (n := nb) (c := cb) (k := mx) Try.underlying22 (size := 1) (by kernel_rfl) hm1 W
        have hno4 : no + 3 ≤ 1000000 := by have := HN.out; omega
        have hown1 := (hown.drewN m).alloc (.cells #[.int .u8 239, .int .u8 191, .int .u8 189] 5)
        have hlit : Reads ((wr.drewN m).alloc (.cells #[.int .u8 239, .int .u8 191, .int .u8 189] 5)) (wr.heap.size + 1) 1 (some ⟨wr.heap.size, 0, none⟩) 3 (cellsOf rep) := by
          have := (Own.lit (size := 1) (e := 5) (wr.drewN m) #[.int .u8 239, .int .u8 191, .int .u8 189] 3 (by unfold maxLen; omega) rfl).reads
          have := this.more (B' := wr.heap.size + 1) (by simp)
          exact this
        have HM := Lib.hid hmx0
        clear hmx0
        go_wp2_with (
          at_builtin
          refine wpList_append _ rfl (.tmp 20) (.tmp 21) 22 rfl 5 (.int .u8 0) 1 1 Try.underlying22 infoByte rfl (by decide) Ao no co (cellsOf O) rfl hown1
            _ _ 3 3 (cellsOf rep) rfl hlit (cellsOf_one rep) (by unfold maxLen; omega) (by omega) ?_
          intro A4 c4 w2 hown4 hfr4 hat4)
        refine ⟨⟨k + mx, _, nb - mx, cb - mx, A4, no + 3, c4, O ++ rep, rfl, rfl, ?_, by omega, ?_, ?_, ?_, ?_, ?_⟩, ?_⟩
        · have := reads_drop hrb hm1 hcb
          rw [List.drop_drop] at this
          exact this
        · rw [List.length_append, HN.out]
          rfl
        · rw [cellsOf_append]
          exact hown4
        · have h1 := HO.out
          have h2 := HW.out
          rw [if_neg (by simp), ← HM.out] at h2
          rw [List.append_assoc, ← h2, h1]
        · exact ((hfr.drewN m).alloc _).trans' hfr4 fun q hq hA => by have := hAo q hA; omega
        · intro q hq
          rcases at_new (w0 := w) hat4 (by have := hfr.size; simp; omega) q hq with h1 | h1
          · exact hAo q h1
          · exact h1
        · simp [lenOfV]
          omega

def VInv (w : World) (B : Nat) (l : List UInt8) (wr : World) (b : Value) : Prop :=
  ∃ k Ab nb cb m, b = .slice Ab nb cb ∧ Reads w B 1 Ab nb (cellsOf (l.drop k)) ∧ nb ≤ cb ∧ decide (W [] (l.drop k) = l.drop k) = decide (W [] l = l) ∧ wr = w.drewN m

set_option maxHeartbeats 800000 in
theorem rvalid_any (w : World) (B : Nat) (A : Option Addr) (n c : Nat) (l : List UInt8) (hr : Reads w B 1 A n (cellsOf l)) (hc : n ≤ c) (hn : n ≤ 100000) :
    Calls Try.prog 14 #[.slice A n c] w fun e w' => e = .returned (.bool (decide (W [] l = l))) ∧ ∃ m, w' = w.drewN m := by
  have hl := reads_len hr
  go_enter Try.func14, Try.ntmps14
  go_wp2_with fail
  go_loopw [0] (fun b wr => VInv w B l wr b) (fun b _ => lenOfV b)
  case atStart => exact ⟨0, A, n, c, 0, rfl, hr, hc, rfl, rfl⟩
  case round =>
    obtain ⟨k, Ab, nb, cb, m, rfl, hrb, hcb, hV, rfl⟩ := hrel
    have hlb := reads_len hrb
    have hle := bgn_le (l.drop k)
    have hvb := fun h => valid_bgn (l.drop k) h
    rw [List.drop_drop] at hvb
    have hlk : nb ≤ 100000 := by rw [← hlb, List.length_drop]; omega
    by_cases hz : nb = 0
    · subst hz
      have hnil : l.drop k = [] := List.eq_nil_of_length_eq_zero hlb
      rw [hnil, decide_eq_true (show W [] [] = ([] : List UInt8) from rfl)] at hV
      have HV := Lib.hid hV
      clear hvb hle hV
      go_wp2_with fail
      go_ret
      exact ⟨by rw [← HV.out]; rfl, m, rfl⟩
    · have hpos : (0 : Int) < nb := by omega
      have hBg := Lib.hid (fun (W : World) (hW : Reads W B 1 Ab nb (cellsOf (l.drop k))) => begin_any W B Ab nb cb (l.drop k) hW (by omega))
      have hvb1 := hvb (fun e => hz (by rw [← hlb, e]; rfl))
      have hr1 := hrb.drewN m
      clear hvb
      rw [hvb1] at hV
      generalize hgx : bgn (l.drop k) = gx at hle hV hBg
      obtain ⟨g, is⟩ := gx
      dsimp only at hle hBg hV
      obtain ⟨hg1, hg2⟩ := hle
      rw [hlb] at hg1
      clear hgx hvb1
      cases is with
      | true =>
        have hg0 := hg2 rfl
        rw [Bool.true_and] at hV
        have HV := Lib.hid hV
        clear hg2 hV
        have hcut := fun W => run_slice_from (P := Try.prog) (t := 22) (e := 5) (A := Ab) (n := nb) (c := cb) (k := g) Try.underlying22 (size := 1) (by kernel_rfl) hg1 W
        go_wp2_with fail
        refine (hBg.out _ hr1).mono ?_
        rintro e w1 ⟨rfl, m2, rfl⟩
        go_wp2_with fail
        refine ⟨⟨k + g, _, nb - g, cb - g, m + m2, rfl, ?_, by omega, HV.out, ?_⟩, ?_⟩
        · have := reads_drop hrb hg1 hcb
          rw [List.drop_drop] at this
          exact this
        · first | rfl | rw [World.drewN_drewN]
        · simp [lenOfV]
          omega
      | false =>
        rw [Bool.false_and] at hV
        have HV := Lib.hid hV
        clear hg2 hV
        go_wp2_with fail
        refine (hBg.out _ hr1).mono ?_
        rintro e w1 ⟨rfl, m2, rfl⟩
        go_wp2_with fail
        go_ret
        refine ⟨by rw [← HV.out]; rfl, m + m2, ?_⟩
        first | rfl | rw [World.drewN_drewN]
end Go.Proofs.Ytlgffgmfaejmeaa
