/-
  The law DecodePieces, walked.
-/
import Derived.Test.YtlgffgmfaejmeaaTwo
import Derived.Deep.CutRange
namespace Go.Proofs.Ytlgffgmfaejmeaa
open Go.RowKit

/-- a slice of bytes as it comes in a list -/
structure Piece where
  a : Option Addr
  n : Nat
  c : Nat
  l : List UInt8
instance : Inhabited Piece := ⟨⟨none, 0, 0, []⟩⟩
def Piece.v (p : Piece) : Value := .slice p.a p.n p.c
def Piece.ok (w : World) (p : Piece) : Prop := Reads w w.heap.size 1 p.a p.n (cellsOf p.l) ∧ p.n ≤ p.c
def told (L : List Piece) : List UInt8 := (L.map Piece.l).flatten

theorem Both.drew1 {w0 w : World} {b br : Nat} {h h2 : List UInt8} (hs : Both w0 w b br h h2) : Both w0 w.drew b br h h2 := by
  obtain ⟨A, c, n, lo, hi, A2, n2, c2, hd, hb, hr, hc, hf, r⟩ := hs
  exact ⟨A, c, n, lo, hi, A2, n2, c2, hd.fr ((Fr.rfl' Nil w).drew) (fun _ _ h => h), hb.drew, hr.drew, hc, hf.drew, r⟩

set_option maxHeartbeats 1600000 in
set_option maxRecDepth 100000 in
theorem pieces_any (w : World) (A : Option Addr) (n c : Nat) (L : List Piece) (hr : Reads w w.heap.size 1 A n (L.map Piece.v)) (hg : ∀ p ∈ L, p.ok w) :
    Calls Try.prog 7 #[.slice A n c] w fun e w' => e = .returned (.bool true) ∧ Fr Nil w w' := by
  by_cases hb : 200 < n
  · have hb' : (200 : Int) < n := by omega
    go_enter Try.func7, Try.ntmps7
    go_wp2_with fail
    refine (awake_any _).mono ?_
    rintro e w1 ⟨rfl, f1⟩
    go_wp2_with fail
    refine (new_ses w _ f1).mono ?_
    rintro e w2 ⟨b, rfl, s2⟩
    go_wp2_with fail
    go_ret
    exact ⟨rfl, s2.frame.alloc _⟩
  · have hb' : ¬ (200 : Int) < n := by omega
    go_enter Try.func7, Try.ntmps7
    go_wp2_with fail
    refine (awake_any _).mono ?_
    rintro e w1 ⟨rfl, f1⟩
    go_wp2_with fail
    refine (new_ses w _ f1).mono ?_
    rintro e w2 ⟨b, rfl, s2⟩
    have s3 : Both w (w2.alloc (.cells #[.slice none 0 0] 34)) b w2.heap.size [] [] := by
      obtain ⟨A1, c1, n1, lo, hi, hd, hf, hb0, hA⟩ := s2
      have h1 := hd.blk.lt
      have hsz := hf.size
      exact ⟨A1, c1, n1, lo, hi, none, 0, 0, hd.fr ((Fr.rfl' Nil w2).alloc _) (fun _ _ h => h), Blk.new _ _ _, Reads.none_, Nat.le_refl _, hf.alloc _, hb0, hsz, hA, by omega, fun h => by have := hd.own.lt h; omega, fun k hk => (not_at_none k hk).elim, Held.nil, trivial⟩
    go_wp2_with fail
    go_loopw [6] (fun i wr => ∃ k : Nat, i = .int .i64 k ∧ k ≤ n ∧ Both w wr b w2.heap.size (dHeld [] (told (L.take k))) (dHeld [] (told (L.take k)))) (fun i _ => n - (intOf i).toNat)
    case atStart => exact ⟨0, rfl, Nat.zero_le _, s3⟩
    case round =>
      obtain ⟨k, rfl, hk, hs⟩ := hrel
      have hlen : L.length = n := by have := hr.1; simpa using this
      have hfr := hs.frame
      by_cases hlt : k < n
      · obtain ⟨p, hp⟩ : ∃ p, L[k]? = some p := ⟨L[k]'(by omega), List.getElem?_eq_getElem _⟩
        obtain ⟨hpr, hpc⟩ := hg p (List.mem_of_getElem? hp)
        obtain ⟨ad, hAd, hab, hc⟩ := (hr.frAt (Nat.le_refl _) hfr (fun _ _ h => h)).2 (by omega)
        subst hAd
        have hcw : ∀ W' : World, Fr Nil w W' → W'.cell? (ad.add k) = some (.slice p.a p.n p.c) := fun W' hf => by
          obtain ⟨ad', e, _, hc'⟩ := (hr.frAt (Nat.le_refl _) hf (fun _ _ h => h)).2 (by omega)
          injection e with e
          subst e
          exact hc' k _ (by rw [List.getElem?_map, hp]; rfl)
        have hts : told (L.take (k + 1)) = told (L.take k) ++ p.l := by
          rw [List.take_add_one, hp]
          simp [told]
        have HT := Lib.hid hts
        have HC := Lib.hid hcw
        have hia := fun W => run_index_addr (P := Try.prog) (t := 31) (e := 22) (c := c) (ad := ad) (k := k) Try.underlying31 (by kernel_rfl) hlt W
        have hcr := hcw _ hfr
        clear hts hcw hp hc
        by_cases h1000 : 1000 < p.n
        · have h1' : (1000 : Int) < p.n := by omega
          go_wp2_with fail
          go_ret
          exact ⟨rfl, hfr⟩
        · have h1' : ¬ (1000 : Int) < p.n := by omega
          go_wp2_with fail
          refine (both_write w _ b _ _ _ hs p.a p.n p.c p.l hpr (by omega)).mono ?_
          rintro e w3 ⟨rfl, s3'⟩
          have s3d := s3'.drew1
          have hcd := HC.out _ s3d.frame
          have hcmp := str_beq_self (str (dOut (dHeld [] (told (L.take k))) p.l))
          have hdr := s3d.frame
          go_wp2_with fail
          go_region_with (first
            | (go_at_call 19
               refine (both_left w _ b _ _ _ s4).mono ?_
               rintro e w5 ⟨rfl, rfl⟩)
            | (go_at_call 18
               refine (both_rwrite w _ b _ _ _ s3d p.a p.n p.c p.l hpr (by omega)).mono ?_
               rintro e w4 ⟨rfl, s4⟩
               obtain ⟨A5, c5, hc5, hf5⟩ := both_cell w _ b _ _ _ s4))
          all_goals
            go_wp2_with fail
            go_roundw
            case rel => exact ⟨k + 1, by go_num, by omega, by rw [HT.out, dHeld_append]; exact s4⟩
            case measure => simp [intOf]; omega
      · obtain rfl : k = n := by omega
        have hcmp := str_beq_self (str (clo (dHeld [] (told (L.take k)))))
        go_wp2_with fail
        refine (both_close w _ b _ _ _ hs).mono ?_
        rintro e w3 ⟨rfl, s3'⟩
        go_wp2_with fail
        refine (both_rclose w _ b _ _ _ s3').mono ?_
        rintro e w4 ⟨rfl, s4⟩
        go_wp2_with fail
        refine (both_left w _ b _ _ _ s4).mono ?_
        rintro e w5 ⟨rfl, rfl⟩
        go_wp2_with fail
        go_ret
        exact ⟨rfl, s4.frame⟩
end Go.Proofs.Ytlgffgmfaejmeaa
