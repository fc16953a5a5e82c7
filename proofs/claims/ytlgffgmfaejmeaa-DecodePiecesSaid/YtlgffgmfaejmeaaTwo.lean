/-
  The two decoders side by side.
-/
import Derived.Test.YtlgffgmfaejmeaaRDec
namespace Go.Proofs.Ytlgffgmfaejmeaa
open Go.RowKit

/-- the decoder at b and the reference's at br, both made since w0, apart from each other, hold back h and h2 -/
def Both (w0 wr : World) (b br : Nat) (h h2 : List UInt8) : Prop :=
  ∃ A c n lo hi A2 n2 c2, Dec wr b A c n lo hi h ∧ Blk wr br 34 #[.slice A2 n2 c2] ∧ Reads wr wr.heap.size 1 A2 n2 (cellsOf h2) ∧ n2 ≤ c2 ∧ Fr Nil w0 wr ∧ w0.heap.size ≤ b ∧ w0.heap.size ≤ br ∧
    (∀ k, At A k → w0.heap.size ≤ k) ∧ b ≠ br ∧ ¬ At A br ∧ (∀ k, At A2 k → ¬ Foot b A k ∧ k < wr.heap.size) ∧ Held h2 ∧ Short h2
section
variable {w0 w w' : World} {b br : Nat} {h h2 : List UInt8}
theorem Both.frame (hs : Both w0 w b br h h2) : Fr Nil w0 w := by obtain ⟨A, c, n, lo, hi, A2, n2, c2, _, _, _, _, hf, _⟩ := hs; exact hf
theorem Both.drew (hs : Both w0 w b br h h2) (m : Nat) : Both w0 (w.drewN m) b br h h2 := by
  obtain ⟨A, c, n, lo, hi, A2, n2, c2, hd, hb, hr, hc, hf, r⟩ := hs
  exact ⟨A, c, n, lo, hi, A2, n2, c2, hd.fr ((Fr.rfl' Nil w).drewN m) (fun _ _ h => h), hb.drewN m, hr.drewN m, hc, hf.drewN m, r⟩
end
theorem both_write (w0 w : World) (b br : Nat) (h h2 : List UInt8) (hs : Both w0 w b br h h2) (A3 : Option Addr) (n3 c3 : Nat) (l : List UInt8) (hr3 : Reads w0 w0.heap.size 1 A3 n3 (cellsOf l)) (hn : n3 ≤ 1000) :
    Calls Try.prog 16 #[.pointer (some ⟨b, 0, none⟩), .slice A3 n3 c3] w fun e w' => e = .returned (.string (str (dOut h l))) ∧ Both w0 w' b br (dHeld h l) h2 := by
  obtain ⟨A, c, n, lo, hi, A2, n2, c2, hd, hb, hr, hc, hf, hb0, hbr0, hA, hne, hAb, hsep, hh, hsh⟩ := hs
  refine (write_any w b A c n lo hi h hd w0.heap.size A3 n3 c3 l (hr3.frAt (Nat.le_refl _) hf (fun _ _ h => h)) hf.size ?_ (by omega)).mono ?_
  · intro h0 k hk hfo
    have := hr3.at_lt h0 hk
    rcases hfo with rfl | hfo
    · omega
    · have := hA k hfo
      omega
  · rintro e w' ⟨rfl, A', c', n', lo', hi', hd', hf', ha'⟩
    have hsz := hf.size
    refine ⟨rfl, A', c', n', lo', hi', A2, n2, c2, hd', hb.fr hf' (fun hk => ?_), (hr.frAt (Nat.le_refl _) hf' (fun k hk => (hsep k hk).1)).more hf'.size, hc, hf.trans' hf' (fun k hk hfo => ?_), hb0, hbr0, fun k hk => ?_, hne, fun hk => ?_, fun k hk => ⟨fun hfo => ?_, by have := (hsep k hk).2; have := hf'.size; omega⟩, hh, hsh⟩
    · rcases hk with hk | hk
      · exact hne hk.symm
      · exact hAb hk
    · rcases hfo with rfl | hfo
      · omega
      · have := hA k hfo
        omega
    · rcases ha' k hk with h5 | h5
      · exact hA k h5
      · omega
    · rcases ha' br hk with h5 | h5
      · exact hAb h5
      · have := hb.lt
        omega
    · rcases hfo with rfl | hfo
      · exact (hsep k hk).1 (.inl rfl)
      · rcases ha' k hfo with h5 | h5
        · exact (hsep k hk).1 (.inr h5)
        · have := (hsep k hk).2
          omega
theorem both_rwrite (w0 w : World) (b br : Nat) (h h2 : List UInt8) (hs : Both w0 w b br h h2) (A3 : Option Addr) (n3 c3 : Nat) (l : List UInt8) (hr3 : Reads w0 w0.heap.size 1 A3 n3 (cellsOf l)) (hn : n3 ≤ 1000) :
    Calls Try.prog 18 #[.pointer (some ⟨br, 0, none⟩), .slice A3 n3 c3] w fun e w' => e = .returned (.string (str (dOut h2 l))) ∧ Both w0 w' b br h (dHeld h2 l) := by
  obtain ⟨A, c, n, lo, hi, A2, n2, c2, hd, hb, hr, hc, hf, hb0, hbr0, hA, hne, hAb, hsep, hh, hsh⟩ := hs
  have hsz := hf.size
  have hr3' := (hr3.frAt (Nat.le_refl _) hf (fun _ _ h => h)).more hsz
  refine (rdwrite_any w br A2 n2 c2 h2 hb hr hh hsh A3 n3 c3 l hr3' hn).mono ?_
  rintro e w' ⟨rfl, A', n', c', hb', hr', hc', hf', ha'⟩
  have hfd : ∀ k, Foot b A k → ¬ k = br := fun k hk e => by
    rcases hk with hk | hk
    · exact hne (hk.symm.trans e)
    · exact hAb (e ▸ hk)
  refine ⟨rfl, A, c, n, lo, hi, A', n', c', hd.fr hf' hfd, hb', hr', hc', hf.trans' hf' (fun k hk e => by omega), hb0, hbr0, hA, hne, hAb, fun k hk => ⟨fun hfo => ?_, (ha' k hk).2⟩, held_run l h2 hh, short_run l h2 hsh⟩
  have h5 := (ha' k hk).1
  rcases hfo with rfl | hfo
  · have := hd.blk.lt
    omega
  · have := hd.own.lt hfo
    omega
theorem both_left (w0 w : World) (b br : Nat) (h h2 : List UInt8) (hs : Both w0 w b br h h2) :
    Calls Try.prog 19 #[.pointer (some ⟨b, 0, none⟩)] w fun e w' => e = .returned (.int .i64 (h.length : Nat)) ∧ w' = w := by
  obtain ⟨A, c, n, lo, hi, A2, n2, c2, hd, _⟩ := hs
  exact left_any w b A c n lo hi h hd
theorem both_close (w0 w : World) (b br : Nat) (h h2 : List UInt8) (hs : Both w0 w b br h h2) :
    Calls Try.prog 17 #[.pointer (some ⟨b, 0, none⟩)] w fun e w' => e = .returned (.string (str (clo h))) ∧ Both w0 w' b br [] h2 := by
  obtain ⟨A, c, n, lo, hi, A2, n2, c2, hd, hb, hr, hc, hf, hb0, hbr0, hA, hne, hAb, hsep, hh, hsh⟩ := hs
  refine (close_any w b A c n lo hi h hd).mono ?_
  rintro e w' ⟨rfl, A', c', n', lo', hi', hd', hf', ha'⟩
  have hsz := hf.size
  refine ⟨rfl, A', c', n', lo', hi', A2, n2, c2, hd', hb.fr hf' (fun hk => ?_), (hr.frAt (Nat.le_refl _) hf' (fun k hk => (hsep k hk).1)).more hf'.size, hc, hf.trans' hf' (fun k hk hfo => ?_), hb0, hbr0, fun k hk => ?_, hne, fun hk => ?_, fun k hk => ⟨fun hfo => ?_, by have := (hsep k hk).2; have := hf'.size; omega⟩, hh, hsh⟩
  · rcases hk with hk | hk
    · exact hne hk.symm
    · exact hAb hk
  · rcases hfo with rfl | hfo
    · omega
    · have := hA k hfo
      omega
  · rcases ha' k hk with h5 | h5
    · exact hA k h5
    · omega
  · rcases ha' br hk with h5 | h5
    · exact hAb h5
    · have := hb.lt
      omega
  · rcases hfo with rfl | hfo
    · exact (hsep k hk).1 (.inl rfl)
    · rcases ha' k hfo with h5 | h5
      · exact (hsep k hk).1 (.inr h5)
      · have := (hsep k hk).2
        omega
theorem both_rclose (w0 w : World) (b br : Nat) (h h2 : List UInt8) (hs : Both w0 w b br h h2) :
    Calls Try.prog 20 #[.pointer (some ⟨br, 0, none⟩)] w fun e w' => e = .returned (.string (str (clo h2))) ∧ Both w0 w' b br h [] := by
  obtain ⟨A, c, n, lo, hi, A2, n2, c2, hd, hb, hr, hc, hf, hb0, hbr0, hA, hne, hAb, hsep, hh, hsh⟩ := hs
  refine (rdclose_any w br _ A2 n2 c2 h2 hb hr (Nat.le_refl _) hc hh hsh).mono ?_
  rintro e w' ⟨rfl, hb', hf'⟩
  have hfd : ∀ k, Foot b A k → ¬ k = br := fun k hk e => by
    rcases hk with hk | hk
    · exact hne (hk.symm.trans e)
    · exact hAb (e ▸ hk)
  exact ⟨rfl, A, c, n, lo, hi, none, 0, 0, hd.fr hf' hfd, hb', Reads.none_, Nat.le_refl _, hf.trans' hf' (fun k hk e => by omega), hb0, hbr0, hA, hne, hAb, fun k hk => (not_at_none k hk).elim, Held.nil, trivial⟩
/-- the length of what the reference holds back -/
theorem both_cell (w0 w : World) (b br : Nat) (h h2 : List UInt8) (hs : Both w0 w b br h h2) : ∃ A2 c2, w.cell? ⟨br, 0, none⟩ = some (.slice A2 h2.length c2) ∧ w.frozen? ⟨br, 0, none⟩ = false := by
  obtain ⟨A, c, n, lo, hi, A2, n2, c2, hd, hb, hr, _⟩ := hs
  have := reads_len hr
  exact ⟨A2, c2, by rw [this]; exact hb.cell 0, hb.frozen 0⟩
end Go.Proofs.Ytlgffgmfaejmeaa
