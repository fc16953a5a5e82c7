/-
  decode: Write, Whole, Valid.
-/
import Derived.Test.YtlgffgmfaejmeaaTake
import Derived.Test.YtlgffgmfaejmeaaBytes
import Derived.Deep.RegionWith
namespace Go.Proofs.Ytlgffgmfaejmeaa
open Go.RowKit

theorem take_step (l : List UInt8) {k : Nat} {x : UInt8} (h : List UInt8) (hx : l[k]? = some x) :
    dOut h (l.take (k + 1)) = dOut h (l.take k) ++ (step (dHeld h (l.take k)) x).1 ∧ dHeld h (l.take (k + 1)) = (step (dHeld h (l.take k)) x).2 := by
  rw [List.take_add_one, hx, dOut_append, dHeld_append]
  simp [dOut, dHeld]

/-- in the midst of Write: k bytes are taken, out is their text -/
def WInv (w : World) (b : Nat) (A : Option Addr) (h l : List UInt8) (wr : World) (k : Nat) (out : Value) : Prop :=
  ∃ Ao no co A' c' n' lo' hi', out = .slice Ao no co ∧ no = (dOut h (l.take k)).length ∧ Own wr 5 1 Ao no co (cellsOf (dOut h (l.take k))) ∧
    Dec wr b A' c' n' lo' hi' (dHeld h (l.take k)) ∧ Fr (Foot b A) w wr ∧ (∀ q, At A' q → At A q ∨ w.heap.size ≤ q) ∧ (∀ q, At Ao q → w.heap.size ≤ q ∧ ¬ At A' q)

set_option maxHeartbeats 800000 in
theorem write_any (w : World) (b : Nat) (A : Option Addr) (c n lo hi : Nat) (h : List UInt8) (hd : Dec w b A c n lo hi h) (B : Nat) (A2 : Option Addr) (n2 c2 : Nat) (l : List UInt8)
    (hr : Reads w B 1 A2 n2 (cellsOf l)) (hB : B ≤ w.heap.size) (hsep : 0 < n2 → ∀ k, At A2 k → ¬ Foot b A k) (hn : n2 ≤ 100000) :
    Calls Try.prog 16 #[.pointer (some ⟨b, 0, none⟩), .slice A2 n2 c2] w fun e w' => e = .returned (.string (str (dOut h l))) ∧ Turned w w' b A (dHeld h l) := by
  have hl := reads_len hr
  have hsh := hd.st.short
  have hbl := hd.blk.lt
  go_enter Try.func16, Try.ntmps16
  go_wp2_with fail
  go_loopw [5, 10] (fun out i wr => ∃ k : Nat, i = .int .i64 k ∧ k ≤ n2 ∧ WInv w b A h l wr k out) (fun _ i _ => n2 - (intOf i).toNat)
  case atStart => exact ⟨0, rfl, Nat.zero_le _, none, 0, 0, A, c, n, lo, hi, rfl, rfl, Own.nil _ _ _, hd, Fr.rfl' _ _, fun _ h => .inl h, fun q hq => (not_at_none q hq).elim⟩
  case round =>
    obtain ⟨k, rfl, hk, Ao, no, co, A', c', n', lo', hi', rfl, hno, hown, hdec, hfr, hA', hAo⟩ := hrel
    by_cases hlt : k < n2
    · obtain ⟨x, hx⟩ : ∃ x, l[k]? = some x := ⟨l[k]'(by omega), List.getElem?_eq_getElem _⟩
      obtain ⟨e1, e2⟩ := take_step l h hx
      have hlen := run_len (l.take k) h hsh
      have hlen1 := run_len (l.take (k + 1)) h hsh
      have hsl := short_len hsh
      rw [List.length_take] at hlen hlen1
      have hr1 : Reads _ B 1 A2 n2 (cellsOf l) := hr.frAt hB hfr (hsep (by omega))
      obtain ⟨ad, rfl, hab, hc⟩ := reads_byte hr1 hx
      have HT := Lib.hid (fun (W : World) (hW : Dec W b A' c' n' lo' hi' (dHeld h (l.take k))) => take_any W b A' c' n' lo' hi' (dHeld h (l.take k)) x hW)
      have hlo := step_len (short_run (l.take k) h hsh) x
      rw [e1, List.length_append] at hlen1
      have HE := Lib.hid (And.intro e1 e2)
      have HN := Lib.hid hno
      have hno3 : no + (step (dHeld h (l.take k)) x).1.length ≤ 400000 := by omega
      clear e1 e2 hno hlen hlen1
      go_wp2_with fail
      refine (HT.out _ hdec).mono ?_
      rintro e w1 ⟨rfl, A3, c3, n3, lo3, hi3, hd3, hf3, ha3⟩
      have hownt := hown.fr hf3 (fun q hq hfo => by
        rcases hfo with rfl | hq2
        · have := (hAo q hq).1
          omega
        · exact (hAo q hq).2 hq2)
      have hdis : ∀ q, At Ao q → ¬ At A3 q := fun q hq h3 => by
        rcases ha3 q h3 with h4 | h4
        · exact (hAo q hq).2 h4
        · have := hown.lt hq
          omega
      go_wp2_with (
        at_builtin
        refine wpList_append_str _ rfl (.tmp 14) (.tmp 17) 22 9 rfl 5 Try.underlying22 Try.underlying9 infoByte Ao no co _ rfl hownt _ rfl (by unfold maxLen; omega) (by omega) ?_
        intro A4 c4 w2 hown4 hfr4 hat4)
      go_roundw
      case rel =>
        refine ⟨k + 1, by go_num, by omega, A4, no + (step (dHeld h (l.take k)) x).1.length, c4, A3, c3, n3, lo3, hi3, rfl, ?_, ?_, ?_, ?_, ?_, ?_⟩
        · rw [HE.out.1, List.length_append, HN.out]
        · rw [HE.out.1, cellsOf_append]
          exact hown4
        · rw [HE.out.2]
          exact hd3.fr hfr4 fun q hq h4 => by
            rcases hq with rfl | hq
            · have := (hAo q h4).1
              omega
            · exact hdis q h4 hq
        · refine (hfr.trans' hf3 ?_).trans' hfr4 ?_
          · intro q hq hf
            rcases hf with rfl | hf
            · exact .inl rfl
            · rcases hA' q hf with h5 | h5
              · exact .inr h5
              · omega
          · intro q hq hf
            have := (hAo q hf).1
            omega
        · intro q hq
          rcases ha3 q hq with h5 | h5
          · exact hA' q h5
          · have := hfr.size
            exact .inr (by omega)
        · intro q hq
          have h1 := hf3.size
          have h2 := hfr.size
          rcases hat4 with rfl | ⟨rfl, _⟩
          · exact ⟨(hAo q hq).1, hdis q hq⟩
          · obtain ⟨g, hg, rfl⟩ := hq
            injection hg with hg
            subst hg
            refine ⟨by simp; omega, fun h6 => ?_⟩
            have := hd3.own.lt h6
            simp at this
      case measure => simp [intOf]; omega
    · obtain rfl : k = n2 := by omega
      rw [List.take_of_length_le (by omega)] at hown hdec
      clear hno
      have hcv := run_string_of (P := Try.prog) (src := 22) (dst := 9) (e := 5) (c := co) Try.underlying22 Try.underlying5 Try.underlying9 hown.reads
      go_wp2_with fail
      go_ret
      exact ⟨rfl, A', c', n', lo', hi', hdec, hfr, hA'⟩

theorem foot_new {w : World} {b : Nat} {A : Option Addr} (hb : b = w.heap.size) : ∀ k, k < w.heap.size → ¬ Foot b none k := by
  intro k hk hf
  rcases hf with rfl | hf
  · omega
  · exact not_at_none k hf

theorem dwhole_any (w : World) (B : Nat) (A : Option Addr) (n c : Nat) (l : List UInt8) (hr : Reads w B 1 A n (cellsOf l)) (hB : B ≤ w.heap.size) (hn : n ≤ 100000) :
    Calls Try.prog 11 #[.slice A n c] w fun e w' => e = .returned (.string (str (W [] l))) ∧ Fr Nil w w' := by
  have hl := reads_len hr
  have hwl := run_len l [] trivial
  have hz1 : (str (dOut [] l)).size ≤ 400000 := by rw [size_str]; simp at hwl; omega
  have hz2 : (str (clo (dHeld [] l))).size ≤ 10 := by rw [size_str]; cases dHeld [] l <;> simp [clo, rep]
  have hcat : str (dOut [] l) ++ str (clo (dHeld [] l)) = str (W [] l) := by rw [W, str_append]
  go_enter Try.func11, Try.ntmps11
  go_wp2_with fail
  refine (new_any w).mono ?_
  rintro e w1 ⟨b, rfl, hb0, hd, f1⟩
  have HB := Lib.hid hb0
  clear hb0
  go_wp2_with fail
  have hb := HB.out
  refine (write_any w1 b none 0 0 128 191 [] hd B A n c l (hr.frAt hB f1 (fun _ _ h => h)) (by have := f1.size; omega) (fun h0 k hk => foot_new (A := none) hb k (by have := hr.at_lt h0 hk; omega)) hn).mono ?_
  rintro e w2 ⟨rfl, A2, c2, n2, lo2, hi2, hd2, f2, ha2⟩
  clear hb
  go_wp2_with fail
  refine (close_any w2 b A2 c2 n2 lo2 hi2 _ hd2).mono ?_
  rintro e w3 ⟨rfl, A3, c3, n3, lo3, hi3, hd3, f3, ha3⟩
  go_wp2_with fail
  go_ret
  have hb := HB.out
  refine ⟨rfl, (f1.trans' f2 ?_).trans' f3 ?_⟩
  · intro k hk hf
    exact foot_new (A := none) hb k hk hf
  · intro k hk hf
    have := f1.size
    rcases hf with rfl | hf
    · omega
    · rcases ha2 k hf with h4 | h4
      · exact not_at_none k h4
      · omega

theorem dvalid_any (w : World) (B : Nat) (A : Option Addr) (n c : Nat) (l : List UInt8) (hr : Reads w B 1 A n (cellsOf l)) (hB : B ≤ w.heap.size) (hn : n ≤ 100000) :
    Calls Try.prog 13 #[.slice A n c] w fun e w' => e = .returned (.bool (decide (W [] l = l))) ∧ Fr Nil w w' := by
  have hsb := str_beq (W [] l) l
  have HW := Lib.hid (dwhole_any w.drew B A n c l hr hB hn)
  have hcv0 := run_string_of (P := Try.prog) (src := 22) (dst := 9) (e := 5) (c := c) Try.underlying22 Try.underlying5 Try.underlying9 (W := w.drew) hr
  go_enter Try.func13, Try.ntmps13
  go_wp2_with fail
  go_region_with (go_at_call 11; refine HW.out.mono ?_; rintro e w1 ⟨rfl, f1⟩; have hcv1 := run_string_of (P := Try.prog) (src := 22) (dst := 9) (e := 5) (c := c) Try.underlying22 Try.underlying5 Try.underlying9 (W := w1) (Reads.frAt (w := w.drew) hr hB f1 (fun _ _ h => h)))
  all_goals
    go_wp2_with fail
    go_ret
    exact ⟨rfl, (Fr.rfl' Nil w).drew.trans f1⟩
end Go.Proofs.Ytlgffgmfaejmeaa
