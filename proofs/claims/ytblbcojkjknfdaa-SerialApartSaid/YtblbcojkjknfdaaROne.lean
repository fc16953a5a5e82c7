/-
  cribbleref22.One, walked.
-/
import Derived.Test.YtblbcojkjknfdaaOneP
import Derived.Test.YtblbcojkjknfdaaREsc
import Derived.Deep.RegionLaw
namespace Go.Proofs.Ytblbcojkjknfdaa
open Go.RowKit

def ROneI (w : World) (nm : ByteArray) (l : List Atr) (n : Nat) (s3 s4 : Value) (wr : World) : Prop :=
  ∃ k : Nat, k ≤ n ∧ s4 = .int .i64 k ∧ s3 = .string (str ([60] ++ bs nm ++ atsS (l.take k))) ∧ Fr Nil w wr
theorem rone_step (acc : Bys) (a : Atr) : str acc ++ { data := #[32] } ++ a.1 ++ { data := #[61, 34] } ++ str (escB true (bs a.2)) ++ { data := #[34] } = str (acc ++ atS a) := by
  apply bs_inj
  simp only [bs_append, bs_str, atS, List.append_assoc]
  rfl
theorem rone_end (acc : Bys) : str acc ++ { data := #[62] } = str (acc ++ [62]) := by
  apply bs_inj
  simp only [bs_append, bs_str]
  rfl
theorem rone_start (nm : ByteArray) : ({ data := #[60] } : ByteArray) ++ nm = str ([60] ++ bs nm ++ atsS (([] : List Atr))) := by
  apply bs_inj
  simp only [bs_append, bs_str, atsS, List.flatMap_nil, List.append_nil]
  rfl
theorem rone_close (nm : ByteArray) : ({ data := #[60, 47] } : ByteArray) ++ nm ++ { data := #[62] } = str ([60, 47] ++ bs nm ++ [62]) := by
  apply bs_inj
  simp only [bs_append, bs_str]
  rfl
theorem atsS_take_len {l : List Atr} (h : ∀ a ∈ l, a.1.size ≤ 3000 ∧ a.2.size ≤ 3000) (k : Nat) (hk : k ≤ 101) : (atsS (l.take k)).length ≤ 2300000 := by
  have := atsS_len (l := l.take k) fun a ha => h a (List.mem_of_mem_take ha)
  rw [List.length_take] at this
  omega

set_option maxRecDepth 100000 in
set_option maxHeartbeats 8000000 in
theorem rone_any (w : World) (B : Nat) (t : Tok) (hok : TokOk w B t) (hB : B ≤ w.heap.size) (hsm : SmallTok t) :
    Calls Try.prog 10 #[.agg (tokCells t).toArray] w fun e w' => e = .returned (.string (str (oneB t))) ∧ Fr Nil w w' := by
  obtain ⟨kind, nm, data, A, n, c, ats, self⟩ := t
  show Calls Try.prog 10 #[.agg #[.int .i64 kind, .string nm, .string data, .slice A n c, .bool self]] w _
  have hone : oneB ⟨kind, nm, data, A, n, c, ats, self⟩ = if kind = 1 then escB false (bs data) else if kind = 3 then [60, 47] ++ bs nm ++ [62] else if kind = 2 then [60] ++ bs nm ++ atsS ats ++ [62] else [] := rfl
  generalize oneB ⟨kind, nm, data, A, n, c, ats, self⟩ = r at hone ⊢
  have hnm : nm.size ≤ 3000 := hsm.name
  have hdt : data.size ≤ 3000 := hsm.data
  have hn : n ≤ 101 := hsm.n
  have hlen : ats.length = n := hok.len
  have hats : ∀ a ∈ ats, a.1.size ≤ 3000 ∧ a.2.size ≤ 3000 := hsm.ats
  have HLEN := Lib.hid hlen
  have HATS := Lib.hid hats
  have HOK := Lib.hid hok
  clear hsm hok hats hlen
  by_cases h1 : kind = 1
  · subst h1
    rw [if_pos rfl] at hone
    have hE := fun w => rescape_any data false w (by omega)
    rw [← hone] at hE
    have HE := Lib.hid hE
    clear hE hone
    go_enter Try.func10, Try.ntmps10
    go_wp2_with fail
    refine (HE.out _).mono ?_
    rintro e w1 ⟨rfl, hf⟩
    go_wp2_with fail
    go_ret
    exact ⟨rfl, ((Fr.rfl' _ w).alloc _).trans hf⟩
  · rw [if_neg h1] at hone
    have g1 : (kind == 1) = false := by simpa using h1
    by_cases h3 : kind = 3
    · subst h3
      rw [if_pos rfl, ← bs_str ([60, 47] ++ bs nm ++ [62]), ← rone_close] at hone
      have HR := Lib.hid (show ({ data := #[60, 47] } : ByteArray) ++ nm ++ { data := #[62] } = str r by rw [hone, str_bs])
      clear hone
      go_enter Try.func10, Try.ntmps10
      go_wp2_with fail
      go_ret
      exact ⟨by rw [← HR.out]; rfl, (Fr.rfl' _ w).alloc _⟩
    · rw [if_neg h3] at hone
      have g3 : (kind == 3) = false := by simpa using h3
      by_cases h2 : kind = 2
      · subst h2
        rw [if_pos rfl] at hone
        have HONE := Lib.hid hone
        have HS := Lib.hid (rone_start nm)
        clear hone
        go_enter Try.func10, Try.ntmps10
        go_wp2_with fail
        go_loopw [3, 4] (fun s3 s4 wr => ROneI (w.alloc (.cells #[.int .i64 2, .string nm, .string data, .slice A n c, .bool self] 28)) nm ats n s3 s4 wr) (fun _ i _ => n - (intOf i).toNat)
        case atStart => exact ⟨0, Nat.zero_le _, rfl, by rw [HS.out]; rfl, Fr.rfl' _ _⟩
        case round =>
          obtain ⟨k, hk, rfl, rfl, hf⟩ := hrel
          have hacc := atsS_take_len HATS.out k (by omega)
          have b3 : wr.cell? ⟨w.heap.size, 3, none⟩ = some (.slice A n c) := (hf.cell (p := ⟨w.heap.size, 3, none⟩) (by simp) fun h => h).trans (by simp)
          by_cases hlt : k < n
          · obtain ⟨ad, a, hAd, hab, ha, hsa, c0, c1'⟩ := atr_at ((HOK.out.fr ((Fr.rfl' Nil w).alloc _) hB fun _ x => x.elim).fr hf (by simp; omega) fun _ x => x.elim) (k := k) hlt
            obtain rfl : A = some ad := hAd
            have hsm := HATS.out a (List.mem_of_getElem? ha)
            have hsm1 := hsm.1
            have hsm2 := hsm.2
            have HP := Lib.hid (atsS_take ha)
            have HE := Lib.hid (fun w => rescape_any a.2 true w (by omega))
            have hel := escB_len true (bs a.2)
            rw [← size_bs] at hel
            have hes : (str (escB true (bs a.2))).size ≤ 18000 := by rw [size_str]; omega
            have HST := Lib.hid (rone_step ([60] ++ bs nm ++ atsS (ats.take k)) a)
            have has : (str ([60] ++ bs nm ++ atsS (ats.take k))).size ≤ 2304000 := by
              have := size_bs nm
              rw [size_str]
              simp
              omega
            have hd : ad.block < wr.heap.size := by have := hf.size; simp at this; omega
            clear ha hsa hsm hacc hel
            generalize str ([60] ++ bs nm ++ atsS (ats.take k)) = o at *
            go_wp2_with fail
            have e1 : ¬ 9223372036854775807 < o.size + 1 := by omega
            have e2 : ¬ 9223372036854775807 < o.size + 1 + a.1.size := by omega
            have e3 : ¬ 9223372036854775807 < o.size + 1 + a.1.size + 2 := by omega
            have e4 : ¬ 9223372036854775807 < o.size + 1 + a.1.size + 2 + (str (escB true (bs a.2))).size := by omega
            have e5 : ¬ 9223372036854775807 < o.size + 1 + a.1.size + 2 + (str (escB true (bs a.2))).size + 1 := by omega
            generalize str (escB true (bs a.2)) = es at *
            go_region_law (
              go_simp
              go_at_call 23
              refine (HE.out _).mono ?_
              rintro e w5 ⟨rfl, f5⟩
              have d3 : w5.cell? ⟨w.heap.size, 3, none⟩ = some (.slice (some ad) n c) := (f5.cell (p := ⟨w.heap.size, 3, none⟩) (by have := hf.size; simp at this; show w.heap.size < wr.heap.size; omega) fun h => h).trans b3
              have d0 : w5.cell? (ad.add (k * 2)) = some (.string a.1) := (f5.cell (p := ad.add (k * 2)) (by rw [block_of_add]; exact hd) fun h => h).trans c0)
            all_goals
              have hf2 := (hf.drew).trans f5
              go_wp2_with fail
              rw [HST.out]
              go_roundw
              case rel => exact ⟨k + 1, by omega, by go_num, by rw [HP.out, List.append_assoc ([60] ++ bs nm)], hf2⟩
              case measure => simp [intOf]; omega
          · obtain rfl : k = n := by omega
            have hta : ats.take k = ats := List.take_of_length_le (by rw [HLEN.out]; exact Nat.le_refl _)
            have HEND := Lib.hid (rone_end ([60] ++ bs nm ++ atsS (ats.take k)))
            have has : (str ([60] ++ bs nm ++ atsS (ats.take k))).size ≤ 2304000 := by
              have := size_bs nm
              rw [size_str]
              simp
              omega
            have HR := Lib.hid (show [60] ++ bs nm ++ atsS (ats.take k) ++ [62] = r by rw [hta, HONE.out])
            clear hta hacc
            generalize str ([60] ++ bs nm ++ atsS (ats.take k)) = o at *
            go_wp2_with fail
            go_ret
            exact ⟨by rw [← HR.out, ← HEND.out]; rfl, ((Fr.rfl' _ w).alloc _).trans hf⟩
      · rw [if_neg h2] at hone
        subst hone
        have g2 : (kind == 2) = false := by simpa using h2
        go_enter Try.func10, Try.ntmps10
        go_wp2_with fail
        go_ret
        exact ⟨rfl, (Fr.rfl' _ w).alloc _⟩
end Go.Proofs.Ytblbcojkjknfdaa
