/-
  charref.Escape, walked.
-/
import Derived.Test.YtblbcojkjknfdaaDoorEscP
import Derived.Test.YtblbcojkjknfdaaDoorLay
import Derived.Test.YtblbcojkjknfdaaDoorStr
import Derived.Lib.OthersKept
import Derived.Lib.RuneCount
import Derived.Laws.RangeAny
namespace Go.Proofs.YtblbcojkjknfdaaDoor
open Go.RowKit

/-- a builder in block b that holds these bytes -/
def Bld (b : Nat) (acc : Bys) (w : World) : Prop := Lib.IsBuilderF 40 5 b b (Lib.byteCells acc) w
def BKept (b : Nat) (w w' : World) : Prop := Below b w w' ∧ Lib.OthersKept 5 (some b) w w'

theorem eput_any (b : Nat) (acc nm : Bys) (w : World) (h : Bld b acc w) (hlen : acc.length + nm.length + 2 ≤ 1048576) (hBw : b ≤ w.heap.size) :
    Calls Tryd.prog 19 #[.string (str nm), .pointer (some ⟨b, 0, none⟩)] w fun e w' => e = .returned (.tuple #[]) ∧ Bld b (acc ++ (38 :: nm ++ [59])) w' ∧ BKept b w w' := by
  have hs : ({ data := #[38] } : ByteArray) ++ str nm ++ { data := #[59] } = str (38 :: nm ++ [59]) := by
    rw [show (38 :: nm ++ [59] : Bys) = [38] ++ nm ++ [59] from rfl, str_append, str_append]
    rfl
  have hz : (str (38 :: nm ++ [59])).size = nm.length + 2 := by rw [size_str]; simp
  have hc := Tryd.Builder_WriteString_k b b (Lib.byteCells acc) (str (38 :: nm ++ [59])) w h (by rw [Lib.byteCells_length, hz]; omega) hBw
  rw [← hs] at hc
  have hz2 : (str nm).size ≤ 1048576 := by rw [size_str]; omega
  have HC := Lib.hid hc
  have HS := Lib.hid hs
  clear hc hs hz
  go_enter Tryd.func19, Tryd.ntmps19
  go_wp2_with fail
  refine HC.out.mono ?_
  rintro e w1 ⟨rfl, h1, h2, h3⟩
  go_wp2_with fail
  rw [HS.out] at h1
  go_end0
  refine ⟨rfl, .inr ?_, h2, h3⟩
  rw [Lib.byteCells_append]
  exact h1

theorem has_err (l : Bys) : Lib.hasPrefix l [239, 191, 189] = runeErr.isPrefixOf l := rfl
theorem width_any (s : ByteArray) (w : World) : Calls Tryd.prog 20 #[.string s] w fun e w' => e = .returned (.int .i64 (widthB (bs s))) ∧ w' = w := by
  have hc := Tryd.strings_HasPrefix s ⟨#[239, 191, 189]⟩ w
  have hw : widthB (bs s) = if runeErr.isPrefixOf (bs s) then 3 else 1 := rfl
  change Calls Tryd.prog 25 _ _ fun e w' => e = .returned (.bool (runeErr.isPrefixOf (bs s))) ∧ w' = w at hc
  generalize runeErr.isPrefixOf (bs s) = b at hc hw
  generalize widthB (bs s) = n at hw ⊢
  cases b with
  | true =>
    subst hw
    go_enter Tryd.func20, Tryd.ntmps20
    go_wp2_with (go_at_call 25; refine hc.mono ?_; rintro e w1 ⟨rfl, rfl⟩)
    go_ret
    exact ⟨rfl, rfl⟩
  | false =>
    subst hw
    go_enter Tryd.func20, Tryd.ntmps20
    go_wp2_with (go_at_call 25; refine hc.mono ?_; rintro e w1 ⟨rfl, rfl⟩)
    go_ret
    exact ⟨rfl, rfl⟩

/-! ### the runes one by one -/
def EscI (b : Nat) (s : ByteArray) (attr : Bool) (w wr : World) : Prop :=
  ∃ (pos : Nat) (acc : Bys), Bld b acc wr ∧ wr.heap[b + 1]? = some (.stringIter s pos) ∧ Below b w wr ∧ acc ++ escB attr ((bs s).drop pos) = escB attr (bs s) ∧ acc.length ≤ 6 * pos ∧ pos ≤ s.size
theorem pieceD_len (attr : Bool) (l : Bys) (h : l ≠ []) : (pieceD attr l).length ≤ 6 * (Lib.decodeL l).2 := by
  have h1 := (esc_step attr l h).2.1
  unfold pieceD
  split
  · simp [ampB]; omega
  split
  · simp [ltB]; omega
  split
  · simp [gtB]; omega
  split
  · simp [nbspB]; omega
  split
  · simp [quotB]; omega
  split
  · have : widthB l ≤ 3 := by unfold widthB; split <;> omega
    rw [List.length_take]
    omega
  · have := Lib.runeCells_le ((Lib.decodeL l).1 : Int)
    rw [← Lib.byteCells_encodeRune, Lib.byteCells_length] at this
    omega
/-- a round: the first rune is put -/
theorem esc_next {b : Nat} {s : ByteArray} {attr : Bool} {w wr w1 : World} {pos : Nat} {acc p : Bys} (hp : pos < s.size) (h : acc ++ escB attr ((bs s).drop pos) = escB attr (bs s)) (hl : acc.length ≤ 6 * pos)
    (hpc : pieceD attr ((bs s).drop pos) = p) (hb : Bld b (acc ++ p) w1) (hit : w1.heap[b + 1]? = some (.stringIter s (pos + (Utf8.decode s pos).2))) (hbw : Below b w wr) (hk : Below b wr w1) : EscI b s attr w w1 := by
  have hne : (bs s).drop pos ≠ [] := by
    intro e
    have := congrArg List.length e
    rw [List.length_drop, ← size_bs] at this
    simp at this
    omega
  obtain ⟨h1, h2, h3⟩ := esc_step attr _ hne
  have hd : Lib.decodeL ((bs s).drop pos) = Utf8.decode s pos := Lib.decodeL_drop s pos
  have h4 := pieceD_len attr _ hne
  rw [hd] at h1 h2 h3 h4
  rw [hpc] at h1 h4
  rw [List.length_drop, ← size_bs] at h3
  refine ⟨_, _, hb, hit, hbw.trans hk, ?_, by rw [List.length_append]; omega, by omega⟩
  rw [← h, h1, List.append_assoc, List.drop_drop]
theorem iter_pos {w : World} {k : Nat} {s : ByteArray} {pos : Nat} (h : w.heap[k]? = some (.stringIter s pos)) : w.iterPos k = pos := by simp [World.iterPos, h]
section
variable {s : ByteArray} {pos : Nat} {attr : Bool}
theorem pc (s : ByteArray) (pos : Nat) (attr : Bool) : pieceD attr ((bs s).drop pos) = if (Utf8.decode s pos).1 = 38 then ampB else if (Utf8.decode s pos).1 = 60 then ltB else if (Utf8.decode s pos).1 = 62 then gtB else if (Utf8.decode s pos).1 = 160 then nbspB else if (Utf8.decode s pos).1 = 34 ∧ attr = true then quotB
    else if (Utf8.decode s pos).1 = 65533 then ((bs s).drop pos).take (widthB ((bs s).drop pos)) else Lib.encodeRune ((Utf8.decode s pos).1 : Int) := by
  unfold pieceD
  rw [show Lib.decodeL ((bs s).drop pos) = Utf8.decode s pos from Lib.decodeL_drop s pos]
end
theorem bs_from (s : ByteArray) (pos : Nat) : bs (s.extract pos s.size) = (bs s).drop pos := by
  rw [bs_extract, List.take_of_length_le (by rw [← size_bs]; exact Nat.le_refl _)]
theorem width_le {l : Bys} (h : l ≠ []) : 1 ≤ widthB l ∧ widthB l ≤ l.length := by
  unfold widthB
  split
  · rename_i h2
    have := (List.isPrefixOf_iff_prefix.1 h2).length_le
    simp [runeErr] at this
    omega
  · have := List.length_pos_iff.2 h
    omega

set_option maxRecDepth 100000 in
set_option maxHeartbeats 8000000 in
theorem escape_any (s : ByteArray) (attr : Bool) (w : World) (hs : s.size ≤ 100000) :
    Calls Tryd.prog 10 #[.string s, .bool attr] w fun e w' => e = .returned (.string (str (escB attr (bs s)))) ∧ Fr Nil w w' := by
  go_enter Tryd.func10, Tryd.ntmps10
  go_wp2_with fail
  go_loopw [] (fun wr => EscI w.heap.size s attr w wr) (fun wr => s.size - wr.iterPos (w.heap.size + 1))
  case atStart =>
    refine ⟨0, [], (Lib.IsBuilderF.of (Lib.fresh_isBuilder 40 5 w)).alloc _, ?_, ((Below.refl _ w).alloc (Nat.le_refl _) _).alloc (by simp) _, rfl, by simp, Nat.zero_le _⟩
    have := World.iter_heap (w.alloc (.cells #[.pointer none, .slice none 0 0] 40)) s 0
    simpa using this
  case round =>
    obtain ⟨pos, acc, hI, hit, hbw, hacc, hal, hps⟩ := hrel
    have hsz : w.heap.size + 1 < wr.heap.size := (Array.getElem?_eq_some_iff.1 hit).1
    obtain ⟨b, hb⟩ : ∃ b, b = w.heap.size := ⟨_, rfl⟩
    by_cases hp : pos < s.size
    · have hnx : ∀ ty, (Instr.next (.pointer (some ⟨w.heap.size + 1, 0, none⟩)) true ty).run Tryd.prog wr = _ := fun ty => Lib.run_next_any_at wr (w.heap.size + 1) s pos ty hit hp
      have hI2 : Bld w.heap.size acc (wr.iterAt (w.heap.size + 1) s (pos + (Utf8.decode s pos).2)) := hI.iterAt hit _
      have hit2 := Lib.iterAt_heap wr (w.heap.size + 1) s pos (pos + (Utf8.decode s pos).2) hit
      have hb2 : Below w.heap.size wr (wr.iterAt (w.heap.size + 1) s (pos + (Utf8.decode s pos).2)) := Lib.below_iterAt (Below.refl _ _) (k := w.heap.size + 1) (by omega) s _
      have hsz2 : (wr.iterAt (w.heap.size + 1) s (pos + (Utf8.decode s pos).2)).heap.size = wr.heap.size := Lib.iterAt_size _ _ _ _
      have hwd := Lib.decode_width_pos s pos hp
      have HPC := pc s pos attr
      have hrle := decode_le s pos
      have PC := Lib.hid HPC
      have HB2 := Lib.hid hb2
      clear HPC hb hb2
      generalize hW2 : wr.iterAt (w.heap.size + 1) s (pos + (Utf8.decode s pos).2) = W2 at *
      generalize hr : (Utf8.decode s pos).1 = r at *
      clear hW2 hr
      by_cases h38 : r = 38
      · subst h38
        have HP := Lib.hid (show pieceD attr ((bs s).drop pos) = [38] ++ [97, 109, 112] ++ [59] by rw [PC.out]; rw [if_pos rfl]; rfl)
        clear PC
        go_wp2_with fail
        refine (eput_any w.heap.size acc [97, 109, 112] W2 hI2 (by simp; omega) (by omega)).mono ?_
        rintro e w1 ⟨rfl, hb1, hk1, hk2⟩
        go_wp2_with fail
        go_roundw
        case rel => exact esc_next hp hacc hal HP.out hb1 (hk2.iter hit2 (by omega)) hbw (HB2.out.trans hk1)
        case measure => rw [iter_pos (hk2.iter hit2 (by omega)), iter_pos hit]; omega
      · have g38 : ((r : Int) == 38) = false := by simp; omega
        by_cases h60 : r = 60
        · subst h60
          have HP := Lib.hid (show pieceD attr ((bs s).drop pos) = [38] ++ [108, 116] ++ [59] by rw [PC.out]; rw [if_neg (by decide), if_pos rfl]; rfl)
          clear PC
          go_wp2_with fail
          refine (eput_any w.heap.size acc [108, 116] W2 hI2 (by simp; omega) (by omega)).mono ?_
          rintro e w1 ⟨rfl, hb1, hk1, hk2⟩
          go_wp2_with fail
          go_roundw
          case rel => exact esc_next hp hacc hal HP.out hb1 (hk2.iter hit2 (by omega)) hbw (HB2.out.trans hk1)
          case measure => rw [iter_pos (hk2.iter hit2 (by omega)), iter_pos hit]; omega
        · have g60 : ((r : Int) == 60) = false := by simp; omega
          by_cases h62 : r = 62
          · subst h62
            have HP := Lib.hid (show pieceD attr ((bs s).drop pos) = [38] ++ [103, 116] ++ [59] by rw [PC.out]; rw [if_neg (by decide), if_neg (by decide), if_pos rfl]; rfl)
            clear PC
            go_wp2_with fail
            refine (eput_any w.heap.size acc [103, 116] W2 hI2 (by simp; omega) (by omega)).mono ?_
            rintro e w1 ⟨rfl, hb1, hk1, hk2⟩
            go_wp2_with fail
            go_roundw
            case rel => exact esc_next hp hacc hal HP.out hb1 (hk2.iter hit2 (by omega)) hbw (HB2.out.trans hk1)
            case measure => rw [iter_pos (hk2.iter hit2 (by omega)), iter_pos hit]; omega
          · have g62 : ((r : Int) == 62) = false := by simp; omega
            by_cases h160 : r = 160
            · subst h160
              have HP := Lib.hid (show pieceD attr ((bs s).drop pos) = [38] ++ [110, 98, 115, 112] ++ [59] by rw [PC.out]; rw [if_neg (by decide), if_neg (by decide), if_neg (by decide), if_pos rfl]; rfl)
              clear PC
              go_wp2_with fail
              refine (eput_any w.heap.size acc [110, 98, 115, 112] W2 hI2 (by simp; omega) (by omega)).mono ?_
              rintro e w1 ⟨rfl, hb1, hk1, hk2⟩
              go_wp2_with fail
              go_roundw
              case rel => exact esc_next hp hacc hal HP.out hb1 (hk2.iter hit2 (by omega)) hbw (HB2.out.trans hk1)
              case measure => rw [iter_pos (hk2.iter hit2 (by omega)), iter_pos hit]; omega
            · have g160 : ((r : Int) == 160) = false := by simp; omega
              by_cases h34 : r = 34 ∧ attr = true
              · obtain ⟨rfl, rfl⟩ := h34
                have HP := Lib.hid (show pieceD true ((bs s).drop pos) = [38] ++ [113, 117, 111, 116] ++ [59] by rw [PC.out]; rw [if_neg (by decide), if_neg (by decide), if_neg (by decide), if_neg (by decide), if_pos ⟨rfl, rfl⟩]; rfl)
                clear PC
                go_wp2_with fail
                refine (eput_any w.heap.size acc [113, 117, 111, 116] W2 hI2 (by simp; omega) (by omega)).mono ?_
                rintro e w1 ⟨rfl, hb1, hk1, hk2⟩
                go_wp2_with fail
                go_roundw
                case rel => exact esc_next hp hacc hal HP.out hb1 (hk2.iter hit2 (by omega)) hbw (HB2.out.trans hk1)
                case measure => rw [iter_pos (hk2.iter hit2 (by omega)), iter_pos hit]; omega
              · have PC2 := Lib.hid (show pieceD attr ((bs s).drop pos) = if r = 65533 then ((bs s).drop pos).take (widthB ((bs s).drop pos)) else Lib.encodeRune (r : Int) by
                  rw [PC.out, if_neg h38, if_neg h60, if_neg h62, if_neg h160, if_neg h34])
                obtain ⟨q, hq, hq1⟩ : ∃ q : Bool, q = decide (r = 34) ∧ (q && attr) = false := ⟨_, rfl, by
                  cases hd : decide (r = 34) with
                  | false => rfl
                  | true =>
                    cases attr with
                    | false => rfl
                    | true => exact (h34 ⟨of_decide_eq_true hd, rfl⟩).elim⟩
                have g34 : ((r : Int) == 34) = q := by rw [hq, Bool.eq_iff_iff]; simp; omega
                clear PC h34 hq
                by_cases h65 : r = 65533
                · subst h65
                  have hne : (bs s).drop pos ≠ [] := by
                    intro e
                    have := congrArg List.length e
                    rw [List.length_drop, ← size_bs] at this
                    simp at this
                    omega
                  have hwl := width_le hne
                  rw [List.length_drop, ← size_bs] at hwl
                  have hwa := fun W => width_any (s.extract pos s.size) W
                  rw [bs_from] at hwa
                  have hpc : pieceD attr ((bs s).drop pos) = ((bs s).drop pos).take (widthB ((bs s).drop pos)) := by rw [PC2.out, if_pos rfl]
                  generalize widthB ((bs s).drop pos) = n at *
                  have hpb : bs (s.extract pos (pos + n)) = ((bs s).drop pos).take n := by rw [bs_extract, List.drop_take, Nat.add_sub_cancel_left]
                  have hzz : (s.extract pos (pos + n)).size ≤ 100000 := by rw [size_bs, hpb, List.length_take, List.length_drop, ← size_bs]; omega
                  have hws := Tryd.Builder_WriteString_k w.heap.size w.heap.size (Lib.byteCells acc) (s.extract pos (pos + n)) W2 hI2 (by rw [Lib.byteCells_length]; omega) (by omega)
                  rw [show Lib.strCells (s.extract pos (pos + n)) = Lib.byteCells (((bs s).drop pos).take n) by rw [← hpb]; rfl, ← Lib.byteCells_append] at hws
                  have HWA := Lib.hid hwa
                  have HWS := Lib.hid hws
                  have HPC := Lib.hid hpc
                  obtain ⟨hwl1, hwl2⟩ := hwl
                  have i1 : (pos : Int) + n ≤ s.size := by omega
                  have i2 : ((pos : Int) + n).toNat = pos + n := by omega
                  clear hwa hws hpc hpb hne hzz
                  cases attr <;> cases q <;> simp at hq1
                  all_goals
                    go_wp2_with fail
                    refine (HWA.out _).mono ?_
                    rintro e w1 ⟨rfl, rfl⟩
                    go_wp2_with fail
                    refine HWS.out.mono ?_
                    rintro e w1 ⟨rfl, hb1, hk1, hk2⟩
                    go_wp2_with fail
                    go_roundw
                    case rel => exact esc_next hp hacc hal HPC.out (.inr hb1) (hk2.iter hit2 (by omega)) hbw (HB2.out.trans hk1)
                    case measure => rw [iter_pos (hk2.iter hit2 (by omega)), iter_pos hit]; omega
                · have g65 : ((r : Int) == 65533) = false := by simp; omega
                  have hpc : pieceD attr ((bs s).drop pos) = Lib.encodeRune (r : Int) := by rw [PC2.out, if_neg h65]
                  have hws := Tryd.Builder_WriteRune_k w.heap.size w.heap.size (Lib.byteCells acc) (r : Int) (by omega) (by omega) W2 hI2 (by rw [Lib.byteCells_length]; omega) (by omega)
                  rw [← Lib.byteCells_encodeRune, ← Lib.byteCells_append] at hws
                  have HWS := Lib.hid hws
                  have HPC := Lib.hid hpc
                  clear hws hpc
                  cases attr <;> cases q <;> simp at hq1
                  all_goals
                    go_wp2_with fail
                    refine HWS.out.mono ?_
                    rintro e w1 ⟨rfl, hb1, hk1, hk2⟩
                    go_wp2_with fail
                    go_roundw
                    case rel => exact esc_next hp hacc hal HPC.out (.inr hb1) (hk2.iter hit2 (by omega)) hbw (HB2.out.trans hk1)
                    case measure => rw [iter_pos (hk2.iter hit2 (by omega)), iter_pos hit]; omega
    · have hnx : ∀ ty, (Instr.next (.pointer (some ⟨w.heap.size + 1, 0, none⟩)) true ty).run Tryd.prog wr = _ := fun ty => Lib.run_next_end_at wr (w.heap.size + 1) s pos ty hit hp
      have hfin : acc = escB attr (bs s) := by
        rw [← hacc, List.drop_eq_nil_of_le (by rw [← size_bs]; omega)]
        simp [escB]
      have HF := Lib.hid hfin
      clear hfin
      go_wp2_with (go_at_call 13; refine (Tryd.Builder_String_any_k w.heap.size w.heap.size acc _ hI (by omega)).mono ?_)
      rintro e w1 ⟨rfl, _, b1, _⟩
      go_wp2_with fail
      go_ret
      exact ⟨by rw [← HF.out]; rfl, Fr.of_below (hbw.trans b1)⟩
end Go.Proofs.YtblbcojkjknfdaaDoor
