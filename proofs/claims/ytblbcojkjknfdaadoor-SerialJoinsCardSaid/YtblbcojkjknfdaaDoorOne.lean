/-
  serial.row, One, walked.
-/
import Derived.Test.YtblbcojkjknfdaaDoorOneP
import Derived.Test.YtblbcojkjknfdaaDoorEsc
import Derived.Test.YtblbcojkjknfdaaDoorREsc
import Derived.Deep.RegionLaw
import Derived.Deep.CutRange
namespace Go.Proofs.YtblbcojkjknfdaaDoor
open Go.RowKit

theorem infoStrS : (Tryd.prog.info? 9).map (fun i => (i.zero, i.size, i.bytes)) = some (some (.string ⟨#[]⟩), 1, 16) := by kernel_rfl
theorem join_flat (l : List Bys) : Lib.join l [] = l.flatten := by
  cases l with
  | nil => rfl
  | cons x r => rw [Lib.join_cons, Lib.joinTail]; simp
theorem row_any (w : World) (g c n : Nat) (l : List ByteArray) (ho : Own w 9 1 (some ⟨g, 0, none⟩) n c (l.map .string)) (hn : n ≤ 1000000) (hlen : (flat l).length ≤ 140737488355328) :
    Calls Tryd.prog 11 #[.slice (some ⟨g, 0, none⟩) n c] w fun e w' => e = .returned (.string (str (flat l))) ∧ Fr Nil w w' := by
  have hl : l.length = n := by have := ho.1; simpa using this
  have hj := Tryd.strings_Join g 0 c l ⟨#[]⟩ w (fun j x hx => by
    have hj := (List.getElem?_eq_some_iff.1 hx).1
    have h1 := ho.cell j (by omega)
    rw [List.getElem?_map, hx] at h1
    rw [Nat.zero_add]
    exact h1) (ho.lt ⟨_, rfl, rfl⟩) (by omega) (by rw [hl]; exact ho.cap) (by
      rw [show ({ data := #[] } : ByteArray).data.toList = ([] : Bys) from rfl, join_flat]
      exact hlen)
  rw [show ({ data := #[] } : ByteArray).data.toList = ([] : Bys) from rfl, join_flat, hl] at hj
  have HJ := Lib.hid hj
  clear hj hl
  go_enter Tryd.func11, Tryd.ntmps11
  go_wp2_with fail
  refine HJ.out.mono ?_
  rintro e w1 ⟨rfl, h1⟩
  go_wp2_with fail
  go_ret
  exact ⟨rfl, Fr.of_below h1⟩

def OneI (w : World) (nm : ByteArray) (l : List Atr) (n : Nat) (s3 s27 : Value) (wr : World) : Prop :=
  ∃ (k : Nat) (A : Option Addr) (c : Nat), k ≤ n ∧ s27 = .int .i64 k ∧ s3 = .slice A (2 + 5 * k) c ∧ Own wr 9 1 A (2 + 5 * k) c ((onePs nm (l.take k)).map .string) ∧ Fr Nil w wr ∧ ∀ j, At A j → w.heap.size ≤ j

def OneC (w : World) (nm : ByteArray) (l : List Atr) (k : Nat) (s3 : Value) (wr : World) : Prop :=
  ∃ (A : Option Addr) (c : Nat), s3 = .slice A (2 + 5 * k) c ∧ Own wr 9 1 A (2 + 5 * k) c ((onePs nm (l.take k)).map .string) ∧ Fr Nil w wr ∧ ∀ j, At A j → w.heap.size ≤ j
theorem strs_lit (w : World) (l : List ByteArray) (n : Nat) (cs : Array Value) (hcs : cs.toList = l.map .string) (hn : n ≤ 1000) (hl : l.length = n) : Own (w.alloc (.cells cs 9)) 9 1 (some ⟨w.heap.size, 0, none⟩) n n (l.map .string) := by
  rw [← hcs]
  exact Own.lit (size := 1) w cs n (by unfold maxLen; omega) (by rw [← Array.length_toList, hcs, List.length_map, hl, Nat.mul_one])

set_option maxRecDepth 100000 in
set_option maxHeartbeats 8000000 in
theorem one_any (w : World) (B : Nat) (t : Tok) (hok : TokOk w B t) (hB : B ≤ w.heap.size) (hsm : SmallTok t) :
    Calls Tryd.prog 6 #[.agg (tokCells t).toArray] w fun e w' => e = .returned (.string (str (oneB t))) ∧ Fr Nil w w' := by
  obtain ⟨kind, nm, data, A, n, c, ats, self⟩ := t
  show Calls Tryd.prog 6 #[.agg #[.int .i64 kind, .string nm, .string data, .slice A n c, .bool self]] w _
  have hone : oneB ⟨kind, nm, data, A, n, c, ats, self⟩ = if kind = 1 then escB false (bs data) else if kind = 3 then [60, 47] ++ bs nm ++ [62] else if kind = 2 then [60] ++ bs nm ++ atsS ats ++ [62] else [] := rfl
  generalize oneB ⟨kind, nm, data, A, n, c, ats, self⟩ = r at hone ⊢
  have hnm : nm.size ≤ 3000 := hsm.name
  have hdt : data.size ≤ 3000 := hsm.data
  have hn : n ≤ 101 := hsm.n
  have hlen : ats.length = n := hok.len
  have hats : ∀ a ∈ ats, a.1.size ≤ 3000 ∧ a.2.size ≤ 3000 := hsm.ats
  have HLEN := Lib.hid hlen
  have HATS := Lib.hid hats
  have HOK := Lib.hid hok
  clear hsm hok hats hlen
  by_cases h1 : kind = 1
  · subst h1
    rw [if_pos rfl] at hone
    have hE := fun w => escape_any data false w (by omega)
    rw [← hone] at hE
    have HE := Lib.hid hE
    clear hE hone
    go_enter Tryd.func6, Tryd.ntmps6
    go_wp2_with fail
    refine (HE.out _).mono ?_
    rintro e w1 ⟨rfl, hf⟩
    go_wp2_with fail
    go_ret
    exact ⟨rfl, ((Fr.rfl' _ w).alloc _).trans hf⟩
  · rw [if_neg h1] at hone
    have g1 : (kind == 1) = false := by simpa using h1
    by_cases h3 : kind = 3
    · subst h3
      rw [if_pos rfl, ← flat_end] at hone
      have hR : ∀ w g, Own w 9 1 (some ⟨g, 0, none⟩) 3 3 ([⟨#[60, 47]⟩, nm, ⟨#[62]⟩].map .string) → Calls Tryd.prog 11 #[.slice (some ⟨g, 0, none⟩) 3 3] w fun e w' => e = .returned (.string (str r)) ∧ Fr Nil w w' := fun w g ho => by
        rw [hone]
        refine row_any w g 3 3 _ ho (by decide) ?_
        rw [flat_end]
        have := size_bs nm
        simp
        omega
      have HR := Lib.hid hR
      clear hR hone
      go_enter Tryd.func6, Tryd.ntmps6
      go_wp2_with fail
      have hlit := Own.lit (e := 9) (size := 1) (w.alloc (.cells #[.int .i64 3, .string nm, .string data, .slice A n c, .bool self] 28)) #[.string ⟨#[60, 47]⟩, .string nm, .string ⟨#[62]⟩] 3 (by unfold maxLen; omega) rfl
      rw [World.size_alloc] at hlit
      refine (HR.out _ _ hlit).mono ?_
      rintro e w1 ⟨rfl, hf⟩
      go_wp2_with fail
      go_ret
      exact ⟨rfl, (((Fr.rfl' _ w).alloc _).alloc _).trans hf⟩
    · rw [if_neg h3] at hone
      have g3 : (kind == 3) = false := by simpa using h3
      by_cases h2 : kind = 2
      · subst h2
        rw [if_pos rfl, ← flat_one] at hone
        have HONE := Lib.hid hone
        clear hone
        go_enter Tryd.func6, Tryd.ntmps6
        go_wp2_with fail
        have hlit := strs_lit (w.alloc (.cells #[.int .i64 2, .string nm, .string data, .slice A n c, .bool self] 28)) [⟨#[60]⟩, nm] 2 #[.string ⟨#[60]⟩, .string nm] rfl (by decide) rfl
        rw [World.size_alloc] at hlit
        go_loopw [3, 5, 27] (fun s3 _ s27 wr => OneI w nm ats n s3 s27 wr) (fun _ _ i _ => n - (intOf i).toNat)
        case atStart => exact ⟨0, _, _, Nat.zero_le _, rfl, rfl, hlit, ((Fr.rfl' _ w).alloc _).alloc _, fun j hj => by
          obtain ⟨a, ha, rfl⟩ := hj
          injection ha with ha
          subst ha
          show w.heap.size ≤ w.heap.size + 1
          omega⟩
        case round =>
          obtain ⟨k, A1, c1, hk, rfl, rfl, ho, hf, hA⟩ := hrel
          by_cases hlt : k < n
          · obtain ⟨ad, a, hAd, hab, ha, hsa, c0, c1'⟩ := atr_at (HOK.out.fr hf hB fun _ x => x.elim) (k := k) hlt
            obtain rfl : A = some ad := hAd
            have hsm := HATS.out a (List.mem_of_getElem? ha)
            have hsm2 := hsm.2
            have HP := Lib.hid (onePs_take nm ha)
            have HE := Lib.hid (fun w => escape_any a.2 true w (by omega))
            clear ha hsa hsm hlit
            go_upto_region 11 with fail
            go_region_law (first
              | (refine step_append _ rfl (.tmp 31) (.tmp 37) 36 rfl 9 (.string ⟨#[]⟩) 1 16 Tryd.underlying36 infoStrS rfl (by decide) A1 (2 + 5 * k) c1 ((onePs nm (ats.take k)).map .string) rfl (ho5.alloc _)
                   _ (some ⟨w5.heap.size, 0, none⟩) 5 5 ((attrP a).map .string) rfl
                   (strs_lit w5 (attrP a) 5 #[.string ⟨#[32]⟩, .string a.1, .string ⟨#[61, 34]⟩, .string (str (escB true (bs a.2))), .string ⟨#[34]⟩] rfl (by decide) rfl).reads (strs_one _) (by unfold maxLen; omega) (by omega) ?_
                 intro A' c' w2 hown2 hfr2 hat)
              | (go_simp
                 go_at_call 10
                 refine (HE.out _).mono ?_
                 rintro e w5 ⟨rfl, f5⟩
                 have d0 : w5.cell? ⟨wr.heap.size, 0, none⟩ = some (.string a.1) := (f5.cell (p := ⟨wr.heap.size, 0, none⟩) (by simp) (fun h => h)).trans (by simp)
                 have ho5 := ((ho.alloc (.cells #[.string a.1, .string a.2] 33)).drew).fr f5 fun _ _ h => h
                 have hf5 := ((hf.alloc (.cells #[.string a.1, .string a.2] 33)).drew).trans f5))
            all_goals
              obtain ⟨hf2, hA2⟩ := esc_grow hA (hf5.alloc _) hfr2 hat
              have ho6 : Own w2 9 1 A' (2 + 5 * (k + 1)) c' ((onePs nm (ats.take (k + 1))).map .string) := by
                rw [show 2 + 5 * (k + 1) = 2 + 5 * k + 5 by omega, HP.out, List.map_append]
                exact hown2
              clear hown2 d0 ho5 hf5
              go_wp2_with fail
              go_roundw
              case rel => exact ⟨k + 1, A', c', by omega, by go_num, by rw [show 2 + 5 * (k + 1) = 2 + 5 * k + 5 by omega], ho6, hf2, hA2⟩
              case measure => simp [intOf]; omega
          · obtain rfl : k = n := by omega
            have hta : ats.take k = ats := List.take_of_length_le (by rw [HLEN.out]; exact Nat.le_refl _)
            rw [hta] at ho
            have q2 := (strs_lit wr [⟨#[62]⟩] 1 #[.string ⟨#[62]⟩] rfl (by decide) rfl).reads
            have hR : ∀ w g c, Own w 9 1 (some ⟨g, 0, none⟩) (2 + 5 * k + 1) c ((onePs nm ats ++ [({ data := #[62] } : ByteArray)]).map .string) → Calls Tryd.prog 11 #[.slice (some ⟨g, 0, none⟩) (2 + 5 * k + 1) c] w fun e w' => e = .returned (.string (str r)) ∧ Fr Nil w w' := fun w g c ho => by
              rw [HONE.out]
              refine row_any w g c _ _ ho (by omega) ?_
              rw [flat_one]
              have h1 := size_bs nm
              have h2 := atsS_len HATS.out
              have h3 := HLEN.out
              simp
              omega
            have HR := Lib.hid hR
            clear hR hta hlit
            go_wp2_with (
              at_builtin
              refine wpList_append _ rfl (.tmp 40) (.tmp 41) 36 rfl 9 (.string ⟨#[]⟩) 1 16 Tryd.underlying36 infoStrS rfl (by decide) A1 (2 + 5 * k) c1 ((onePs nm ats).map .string) rfl (ho.alloc _)
                _ _ 1 1 ([({ data := #[62] } : ByteArray)].map .string) rfl q2 (strs_one _) (by unfold maxLen; omega) (by omega) ?_
              rw [← List.map_append]
              intro A' c' w2 hown2 hfr2 hat
              obtain ⟨g, rfl, _⟩ := hown2.form (by omega))
            obtain ⟨hf2, hA2⟩ := esc_grow hA (hf.alloc _) hfr2 hat
            refine (HR.out _ _ _ hown2).mono ?_
            rintro e w3 ⟨rfl, hf3⟩
            go_wp2_with fail
            go_ret
            exact ⟨rfl, hf2.trans hf3⟩
      · rw [if_neg h2] at hone
        subst hone
        have g2 : (kind == 2) = false := by simpa using h2
        go_enter Tryd.func6, Tryd.ntmps6
        go_wp2_with fail
        go_ret
        exact ⟨rfl, (Fr.rfl' _ w).alloc _⟩
end Go.Proofs.YtblbcojkjknfdaaDoor
