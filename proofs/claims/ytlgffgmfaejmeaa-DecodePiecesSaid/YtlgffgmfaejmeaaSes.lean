/-
  A decoder that a law has made: its calls, and the laws DecodeCuts, DecodeJoins.
-/
import Derived.Test.YtlgffgmfaejmeaaLaw
namespace Go.Proofs.Ytlgffgmfaejmeaa
open Go.RowKit

/-- wr: behind w0; a decoder at b, made since, holds back h; nothing of w0 has turned -/
def Ses (w0 wr : World) (b : Nat) (h : List UInt8) : Prop :=
  ∃ A c n lo hi, Dec wr b A c n lo hi h ∧ Fr Nil w0 wr ∧ w0.heap.size ≤ b ∧ (∀ k, At A k → w0.heap.size ≤ k)
section
variable {w0 w w' : World} {b : Nat} {h : List UInt8}
theorem Ses.frame (hs : Ses w0 w b h) : Fr Nil w0 w := by obtain ⟨A, c, n, lo, hi, hd, hf, _⟩ := hs; exact hf
theorem Ses.fr (hs : Ses w0 w b h) (hf : Fr Nil w w') : Ses w0 w' b h := by
  obtain ⟨A, c, n, lo, hi, hd, hf0, hb, hA⟩ := hs
  exact ⟨A, c, n, lo, hi, hd.fr hf (fun _ _ h => h), hf0.trans hf, hb, hA⟩
theorem Ses.short (hs : Ses w0 w b h) : Short h := by obtain ⟨A, c, n, lo, hi, hd, _⟩ := hs; exact hd.st.short
theorem Ses.turn (hs : Ses w0 w b h) {A : Option Addr} {h' : List UInt8} (hA : ∀ k, At A k → w0.heap.size ≤ k) (hb : w0.heap.size ≤ b) (ht : Turned w w' b A h') : Ses w0 w' b h' := by
  have hf0 := hs.frame
  obtain ⟨A', c', n', lo', hi', hd', hf, ha⟩ := ht
  refine ⟨A', c', n', lo', hi', hd', hf0.trans' hf ?_, hb, ?_⟩
  · intro k hk hfo
    rcases hfo with rfl | hfo
    · omega
    · have := hA k hfo
      omega
  · intro k hk
    rcases ha k hk with h1 | h1
    · exact hA k h1
    · have := hf0.size
      omega
end
/-- the decoder that New makes -/
def Made (w0 w' : World) (e : Ending) : Prop := ∃ b, e = .returned (.pointer (some ⟨b, 0, none⟩)) ∧ Ses w0 w' b []
theorem new_ses (w0 w : World) (hf : Fr Nil w0 w) : Calls Try.prog 15 #[] w fun e w' => Made w0 w' e := by
  refine (new_any w).mono ?_
  rintro e w' ⟨b, rfl, hb, hd, hfr⟩
  exact ⟨b, rfl, none, 0, 0, 128, 191, hd, hf.trans hfr, by have := hf.size; omega, fun k hk => (not_at_none k hk).elim⟩
theorem left_ses (w0 w : World) (b : Nat) (h : List UInt8) (hs : Ses w0 w b h) :
    Calls Try.prog 19 #[.pointer (some ⟨b, 0, none⟩)] w fun e w' => e = .returned (.int .i64 (h.length : Nat)) ∧ w' = w := by
  obtain ⟨A, c, n, lo, hi, hd, hf0, hb, hA⟩ := hs
  exact left_any w b A c n lo hi h hd
theorem close_ses (w0 w : World) (b : Nat) (h : List UInt8) (hs : Ses w0 w b h) :
    Calls Try.prog 17 #[.pointer (some ⟨b, 0, none⟩)] w fun e w' => e = .returned (.string (str (clo h))) ∧ Ses w0 w' b [] := by
  obtain ⟨A, c, n, lo, hi, hd, hf0, hb, hA⟩ := id hs
  exact (close_any w b A c n lo hi h hd).mono fun e w' h => ⟨h.1, hs.turn hA hb h.2⟩
/-- bytes that were there before the decoder -/
theorem write_ses (w0 w : World) (b : Nat) (h : List UInt8) (hs : Ses w0 w b h) (A2 : Option Addr) (n2 c2 : Nat) (l : List UInt8) (hr : Reads w0 w0.heap.size 1 A2 n2 (cellsOf l)) (hn : n2 ≤ 100000) :
    Calls Try.prog 16 #[.pointer (some ⟨b, 0, none⟩), .slice A2 n2 c2] w fun e w' => e = .returned (.string (str (dOut h l))) ∧ Ses w0 w' b (dHeld h l) := by
  obtain ⟨A, c, n, lo, hi, hd, hf0, hb, hA⟩ := id hs
  refine (write_any w b A c n lo hi h hd w0.heap.size A2 n2 c2 l (hr.frAt (Nat.le_refl _) hf0 (fun _ _ h => h)) hf0.size ?_ hn).mono fun e w' h => ⟨h.1, hs.turn hA hb h.2⟩
  intro h0 k hk hfo
  have := hr.at_lt h0 hk
  rcases hfo with rfl | hfo
  · omega
  · have := hA k hfo
    omega
/-- bytes that lie in blocks made since the decoder was last used -/
theorem write_ses' (w0 wp w : World) (b : Nat) (h : List UInt8) (hs : Ses w0 wp b h) (hf : Fr Nil wp w) (B : Nat) (A2 : Option Addr) (n2 c2 : Nat) (l : List UInt8) (hr : Reads w B 1 A2 n2 (cellsOf l)) (hB : B ≤ w.heap.size)
    (hnew : ∀ k, At A2 k → wp.heap.size ≤ k) (hn : n2 ≤ 100000) :
    Calls Try.prog 16 #[.pointer (some ⟨b, 0, none⟩), .slice A2 n2 c2] w fun e w' => e = .returned (.string (str (dOut h l))) ∧ Ses w0 w' b (dHeld h l) := by
  obtain ⟨A, c, n, lo, hi, hd, hf0, hb, hA⟩ := id hs
  have hd1 := hd.fr hf (fun _ _ h => h)
  refine (write_any w b A c n lo hi h hd1 B A2 n2 c2 l hr hB ?_ hn).mono fun e w' h => ⟨h.1, (hs.fr hf).turn hA hb h.2⟩
  intro h0 k hk hfo
  have h1 := hnew k hk
  rcases hfo with rfl | hfo
  · have := hd.blk.lt
    omega
  · have := hd.own.lt hfo
    omega

theorem out_size (h l : List UInt8) (hs : Short h) : (str (dOut h l)).size ≤ 9 + 3 * l.length := by
  have h1 := run_len l h hs
  have h2 := short_len hs
  rw [size_str]
  omega
theorem clo_size (h : List UInt8) : (str (clo h)).size ≤ 3 := by
  rw [size_str]
  cases h <;> simp [clo, rep]

set_option maxHeartbeats 800000 in
set_option maxRecDepth 100000 in
theorem cuts_any (w : World) (A : Option Addr) (n c : Nat) (l : List UInt8) (at_ : Int) (hr : Reads w w.heap.size 1 A n (cellsOf l)) (hc : n ≤ c) :
    Calls Try.prog 8 #[.slice A n c, .int .i64 at_] w fun e w' => e = .returned (.bool true) ∧ Fr Nil w w' := by
  by_cases hok : n ≤ 2000 ∧ 0 ≤ at_ ∧ at_ ≤ n
  · obtain ⟨h1, h2, h3⟩ := hok
    obtain ⟨k, rfl⟩ : ∃ k : Nat, at_ = k := ⟨at_.toNat, by omega⟩
    have hk : k ≤ n := by omega
    have hb1 : ¬ (2000 : Int) < n := by omega
    have hb2 : ¬ (k : Int) < 0 := by omega
    have hb3 : ¬ (n : Int) < k := by omega
    have hl := reads_len hr
    have hsh : Short (dHeld [] (l.take k)) := short_run _ _ trivial
    have hz1 := out_size [] (l.take k) trivial
    have hz2 := out_size (dHeld [] (l.take k)) (l.drop k) hsh
    have hz3 := clo_size (dHeld (dHeld [] (l.take k)) (l.drop k))
    rw [List.length_take] at hz1
    rw [List.length_drop] at hz2
    have hz1' : (str (dOut [] (l.take k))).size ≤ 6009 := by omega
    have hz2' : (str (dOut (dHeld [] (l.take k)) (l.drop k))).size ≤ 6009 := by omega
    have hz4 : (str (dOut [] (l.take k)) ++ str (dOut (dHeld [] (l.take k)) (l.drop k))).size ≤ 12018 := by simp only [ByteArray.size_append]; omega
    have hall : str (dOut [] (l.take k)) ++ str (dOut (dHeld [] (l.take k)) (l.drop k)) ++ str (clo (dHeld (dHeld [] (l.take k)) (l.drop k))) = str (W [] l) := by
      rw [← str_append, ← str_append, List.append_assoc]
      have := W_append [] (l.take k) (l.drop k)
      rw [List.take_append_drop] at this
      rw [this, W]
    have hcmp := str_beq_self (str (W [] l))
    have hs3 := short_len hsh
    have hs3' : decide (((dHeld [] (l.take k)).length : Int) ≤ 3) = true := by simp; omega
    have hst := fun W => run_slice_to (P := Try.prog) (t := 22) (e := 5) (A := A) (n := n) (c := c) (k := k) Try.underlying22 (size := 1) (by kernel_rfl) hk hc W
    have hsf := fun W => run_slice_from (P := Try.prog) (t := 22) (e := 5) (A := A) (n := n) (c := c) (k := k) Try.underlying22 (size := 1) (by kernel_rfl) hk W
    have hrt := reads_take hr hk
    have hrd := reads_drop hr hk hc
    go_enter Try.func8, Try.ntmps8
    go_wp2_with fail
    refine (awake_any _).mono ?_
    rintro e w1 ⟨rfl, f1⟩
    go_wp2_with fail
    refine (new_ses w _ f1).mono ?_
    rintro e w2 ⟨b, rfl, s2⟩
    go_wp2_with fail
    refine (write_ses w _ b [] s2 A k c _ hrt (by omega)).mono ?_
    rintro e w3 ⟨rfl, s3⟩
    go_wp2_with fail
    refine (left_ses w _ b _ s3).mono ?_
    rintro e w4 ⟨rfl, rfl⟩
    go_wp2_with fail
    refine (write_ses w _ b _ s3 _ _ _ _ hrd (by omega)).mono ?_
    rintro e w5 ⟨rfl, s5⟩
    go_wp2_with fail
    refine (close_ses w _ b _ s5).mono ?_
    rintro e w6 ⟨rfl, s6⟩
    go_wp2_with fail
    refine (dwhole_any _ w.heap.size A n c l (hr.frAt (Nat.le_refl _) s6.frame (fun _ _ h => h)) s6.frame.size (by omega)).mono ?_
    rintro e w7 ⟨rfl, f7⟩
    go_wp2_with fail
    go_ret
    exact ⟨rfl, s6.frame.trans f7⟩
  · have hno : (2000 : Int) < n ∨ ¬ (2000 : Int) < n ∧ at_ < 0 ∨ ¬ (2000 : Int) < n ∧ ¬ at_ < 0 ∧ (n : Int) < at_ := by omega
    have HNO := Lib.hid hno
    clear hno hok
    rcases HNO.out with h1 | ⟨h1, h2⟩ | ⟨h1, h2, h3⟩
    all_goals
      go_enter Try.func8, Try.ntmps8
      go_wp2_with fail
      refine (awake_any _).mono ?_
      rintro e w1 ⟨rfl, f1⟩
      go_wp2_with fail
      refine (new_ses w _ f1).mono ?_
      rintro e w2 ⟨b, rfl, s2⟩
      go_wp2_with fail
      go_ret
      exact ⟨rfl, s2.frame⟩
end Go.Proofs.Ytlgffgmfaejmeaa
