/-
  The law of chapter 22 at two lists and a text, SerialJoins, walked.
-/
import Derived.Test.YtblbcojkjknfdaaDoorAwkD
import Derived.Test.YtblbcojkjknfdaaDoorDcd
import Derived.Test.YtblbcojkjknfdaaDoorFew
namespace Go.Proofs.YtblbcojkjknfdaaDoor
open Go.RowKit

/-- there is no < and no > in an escaped text -/
theorem esc_free (l : Bys) : ∀ c ∈ escB false l, c ≠ 60 ∧ c ≠ 62 := by
  have hp : ∀ c, ∀ d ∈ pieceB false c, d ≠ 60 ∧ d ≠ 62 := by
    intro c d hd
    unfold pieceB at hd
    split at hd
    · have : ∀ d ∈ ampB, d ≠ 60 ∧ d ≠ 62 := by decide
      exact this d hd
    split at hd
    · have : ∀ d ∈ ltB, d ≠ 60 ∧ d ≠ 62 := by decide
      exact this d hd
    split at hd
    · have : ∀ d ∈ gtB, d ≠ 60 ∧ d ≠ 62 := by decide
      exact this d hd
    split at hd
    · rename_i h; exact absurd h.2 (by decide)
    · rw [List.mem_singleton] at hd
      subst hd
      exact ⟨by assumption, by assumption⟩
  have hn : ∀ d ∈ nbspB, d ≠ 60 ∧ d ≠ 62 := by decide
  fun_induction escB false l with
  | case1 => simp
  | case2 c => exact hp c
  | case3 c d l h ih =>
    intro x hx
    rcases List.mem_append.1 hx with h1 | h1
    · exact hn x h1
    · exact ih x h1
  | case4 c d l h ih =>
    intro x hx
    rcases List.mem_append.1 hx with h1 | h1
    · exact hp c x h1
    · exact ih x h1
theorem infoTok : (Tryd.prog.info? 28).map (fun i => (i.zero, i.size, i.bytes)) = some (some (.agg #[.int .i64 0, .string ⟨#[]⟩, .string ⟨#[]⟩, .slice none 0 0, .bool false]), 5, 72) := by kernel_rfl
theorem tok_one (l : List Tok) : ∀ u ∈ l.flatMap tokCells, u.oneCell' = true := by
  intro u hu
  obtain ⟨t, _, h⟩ := List.mem_flatMap.1 hu
  simp only [tokCells, List.mem_cons, List.not_mem_nil, or_false] at h
  rcases h with rfl | rfl | rfl | rfl | rfl <;> rfl
def textTok (s : ByteArray) : Tok := ⟨1, ⟨#[]⟩, s, none, 0, 0, [], false⟩
theorem text_ok (W : World) (B : Nat) (s : ByteArray) (h : s.size ≤ 500) : TokOk W B (textTok s) := ⟨rfl, ⟨Nat.le_refl _, Nat.zero_le _⟩, Reads.none_, ⟨by show (-9223372036854775808 : Int) ≤ 1; decide, by show (1 : Int) ≤ 9223372036854775807; decide⟩, by show (0 : Nat) ≤ 140737488351232; decide, by show s.size ≤ 140737488351232; omega, by intro a ha; cases ha⟩
theorem text_small (s : ByteArray) (h : s.size ≤ 500) : SmallTok (textTok s) := ⟨by show (0 : Nat) ≤ 3000; decide, by show s.size ≤ 3000; omega, (fun a ha => absurd ha (by show a ∉ ([] : List Atr); simp)), by show (0 : Nat) ≤ 101; decide⟩
theorem text_oneB (s : ByteArray) : oneB (textTok s) = escB false (bs s) := rfl
theorem allB_append (a b : List Tok) : allB (a ++ b) = allB a ++ allB b := by simp [allB]

theorem allB_len {l : List Tok} (h : ∀ t ∈ l, SmallTok t) (hl : ∀ t ∈ l, t.ats.length = t.n) : (allB l).length ≤ 3000000 * l.length := by
  induction l with
  | nil => exact Nat.le_refl _
  | cons t l ih =>
    have h1 := oneB_len (h t (by simp)) (hl t (by simp))
    have h2 := ih (fun x hx => h x (by simp [hx])) (fun x hx => hl x (by simp [hx]))
    unfold allB at *
    rw [List.flatMap_cons, List.length_append, List.length_cons]
    omega

set_option maxRecDepth 100000 in
set_option maxHeartbeats 8000000 in
theorem law_joins (w : World) (A A2 : Option Addr) (n c n2 c2 : Nat) (l l2 : List Tok) (s : ByteArray) (h : Toks w w.heap.size A n l) (h2 : Toks w w.heap.size A2 n2 l2) (hn : n ≤ maxLen) (hn2 : n2 ≤ maxLen) (hsm : s.size ≤ 9223372036854775807) :
    Calls Tryd.prog 3 #[.slice A n c, .slice A2 n2 c2, .string s] w fun e w' => e = .returned (.bool true) ∧ Fr Nil w w' := by
  have HAW := Lib.hid (awake_any w)
  have hT : ∀ W, Fr Nil w W → Toks W W.heap.size A n l := fun W g => by
    have := h.fr g (Nat.le_refl _) fun _ x => x.elim
    exact ⟨this.len, this.reads.more g.size, fun t ht => (this.ok t ht).more g.size⟩
  have hT2 : ∀ W, Fr Nil w W → Toks W W.heap.size A2 n2 l2 := fun W g => by
    have := h2.fr g (Nat.le_refl _) fun _ x => x.elim
    exact ⟨this.len, this.reads.more g.size, fun t ht => (this.ok t ht).more g.size⟩
  have HF1 := Lib.hid (fun W (g : Fr Nil w W) => few_any W A n c l (hT W g) hn)
  have HF2 := Lib.hid (fun W (g : Fr Nil w W) => few_any W A2 n2 c2 l2 (hT2 W g) hn2)
  have HT := Lib.hid (And.intro hT hT2)
  have HL := Lib.hid (And.intro h.len h2.len)
  clear hT hT2 h h2 hn hn2
  go_enter Tryd.func3, Tryd.ntmps3
  go_wp2_with fail
  refine HAW.out.mono ?_
  rintro e w1 ⟨rfl, f1⟩
  go_wp2_with fail
  refine (HF1.out _ f1).mono ?_
  rintro e w2 ⟨f2, b1, rfl, hb1⟩
  go_wp2_with fail
  refine (HF2.out _ (f1.trans f2)).mono ?_
  rintro e w3 ⟨f3, b2, rfl, hb2⟩
  have f := (f1.trans f2).trans f3
  clear f1 f2 f3
  cases b1 with
  | false =>
    clear hb1 hb2
    cases b2 <;> (go_wp2_with fail; go_ret; exact ⟨rfl, f⟩)
  | true =>
    cases b2 with
    | false => clear hb1 hb2; go_wp2_with fail; go_ret; exact ⟨rfl, f⟩
    | true =>
      by_cases h500 : s.size ≤ 500
      · have few1 := hb1 rfl
        have few2 := hb2 rfl
        have n1 : n ≤ 100 := by rw [← HL.out.1]; exact few1.1
        have n2' : n2 ≤ 100 := by rw [← HL.out.2]; exact few2.1
        have HA1 := Lib.hid (fun W (g : Fr Nil w W) => sall_any W A n c l (HT.out.1 W g) (by omega) few1.2)
        have HA2 := Lib.hid (fun W (g : Fr Nil w W) => sall_any W A2 n2 c2 l2 (HT.out.2 W g) (by omega) few2.2)
        have HFW := Lib.hid (And.intro few1.2 few2.2)
        have HB := Lib.hid (show (str (allB l)).size ≤ 300000000 ∧ (str (allB l2)).size ≤ 300000000 by
          have h1 := allB_len few1.2 fun t ht => ((HT.out.1 w (Fr.rfl' _ w)).ok t ht).len
          have h2 := allB_len few2.2 fun t ht => ((HT.out.2 w (Fr.rfl' _ w)).ok t ht).len
          rw [HL.out.1] at h1
          rw [HL.out.2] at h2
          rw [size_str, size_str]
          omega)
        clear hb1 hb2 few1 few2 HF1 HF2 HAW
        have hlit := Own.lit (e := 28) (size := 5) w3 #[] 0 (by unfold maxLen; omega) rfl
        have q1 := (HT.out.1 _ (f.alloc (.cells #[] 28))).reads
        go_wp2_with (
          at_builtin
          first
            | (refine wpList_append _ rfl (.tmp 34) (.tmp 35) 22 rfl 28 (.agg #[.int .i64 0, .string ⟨#[]⟩, .string ⟨#[]⟩, .slice none 0 0, .bool false]) 5 72 Tryd.underlying22 infoTok rfl (by decide) (some ⟨w3.heap.size, 0, none⟩) 0 0 [] rfl hlit
                 _ A n c (l.flatMap tokCells) rfl q1 (tok_one _) (by unfold maxLen; omega) (by omega) ?_
               rw [List.nil_append, Nat.zero_add]
               intro A3 c3 w4 hown3 hfr3 hat3
               obtain ⟨hf3, hA3⟩ := esc_grow (w := w3) (by
                 intro j hj
                 obtain ⟨a, ha, rfl⟩ := hj
                 injection ha with ha
                 subst ha
                 exact Nat.le_refl _) ((Fr.rfl' Nil w3).alloc _) hfr3 hat3
               have q2 := (HT.out.2 _ (f.trans hf3)).reads)
            | (refine wpList_append _ rfl (.tmp 36) (.tmp 37) 22 rfl 28 (.agg #[.int .i64 0, .string ⟨#[]⟩, .string ⟨#[]⟩, .slice none 0 0, .bool false]) 5 72 Tryd.underlying22 infoTok rfl (by decide) A3 n c3 (l.flatMap tokCells) rfl hown3
                 _ A2 n2 c2 (l2.flatMap tokCells) rfl q2 (tok_one _) (by unfold maxLen; omega) (by omega) ?_
               intro A4 c4 w5 hown4 hfr4 hat4
               obtain ⟨hf4, hA4⟩ := esc_grow hA3 hf3 hfr4 hat4
               skip))
        have hb : ∀ W, Fr Nil w W → Fr Nil w5 W → Toks W W.heap.size A4 (n + n2) (l ++ l2) := fun W g g5 => by
          refine ⟨by rw [List.length_append, HL.out.1, HL.out.2], ?_, fun t ht => ?_⟩
          · rw [List.flatMap_append]
            exact (hown4.reads.fr g5 (Nat.le_refl _) fun _ x => x.elim).more g5.size
          · rcases List.mem_append.1 ht with ht | ht
            · exact (HT.out.1 W g).ok t ht
            · exact (HT.out.2 W g).ok t ht
        have HA3 := Lib.hid (fun W (g : Fr Nil w W) (g5 : Fr Nil w5 W) => sall_any W A4 (n + n2) c4 (l ++ l2) (hb W g g5) (by omega) (fun t ht => by
          rcases List.mem_append.1 ht with ht | ht
          · exact HFW.out.1 t ht
          · exact HFW.out.2 t ht))
        have f5 := f.trans hf4
        have g5 := Fr.rfl' Nil w5
        have HO := Lib.hid (fun W => one_any W W.heap.size (textTok s) (text_ok W _ s h500) (Nat.le_refl _) (text_small s h500))
        rw [show (Value.agg (tokCells (textTok s)).toArray) = .agg #[.int .i64 1, .string ⟨#[]⟩, .string s, .slice none 0 0, .bool false] from rfl, text_oneB] at HO
        have hlen := escB_len false (bs s)
        rw [← size_bs] at hlen
        have hz : (str (escB false (bs s))).size ≤ 3000 := by rw [size_str]; omega
        have HFREE := Lib.hid (esc_free (bs s))
        have HD := Lib.hid (fun W => decode_any W (bs s) (by rw [← size_bs]; omega))
        rw [str_bs] at HD
        have HQ := Lib.hid (show str (allB (l ++ l2)) = str (allB l) ++ str (allB l2) by rw [allB_append, str_append])
        have HS := Lib.hid (str_beq_self s)
        generalize hts : str (escB false (bs s)) = t at HO hz HD
        rw [show escB false (bs s) = bs t by rw [← hts, bs_str]] at HFREE
        clear hts hlit q1 q2 hfr3 hfr4 hat3 hat4 hown3 hown4 hf3 hA3 hA4 f hf4 hb HFW hlen
        go_wp2_with fail
        refine (HO.out _).mono ?_
        rintro e w6 ⟨rfl, f6⟩
        have f := f5.trans f6
        have g := g5.trans f6
        clear f5 g5 f6
        go_wp2_with fail
        go_loop [12] (fun i => ∃ k : Nat, k ≤ t.size ∧ i = .int .i64 k) (fun i => t.size - (intOf i).toNat)
        case atStart => exact ⟨0, Nat.zero_le _, rfl⟩
        case round =>
          obtain ⟨k, hk, rfl⟩ := hrel
          by_cases hlt : k < t.size
          · obtain ⟨x, hx⟩ := byte_at t hlt
            have hix := run_index_at (P := Tryd.prog) Tryd.underlying9 hx
            obtain ⟨x1, x2⟩ := HFREE.out x (List.mem_of_getElem? hx)
            have y1 : ((x.toNat : Int) == 60) = false := byte_ne (c := x) (d := 60) x1
            have y2 : ((x.toNat : Int) == 62) = false := byte_ne (c := x) (d := 62) x2
            clear hx x1 x2
            go_wp2
            go_round
            case rel => exact ⟨k + 1, by omega, by go_num⟩
            case measure => simp [intOf]; omega
          · obtain rfl : k = t.size := by omega
            clear hlt
            go_wp2_with fail
            refine (HA3.out _ f g).mono ?_
            rintro e w7 ⟨rfl, f7⟩
            have f := f.trans f7
            go_wp2_with fail
            refine (HA1.out _ f).mono ?_
            rintro e w8 ⟨rfl, f8⟩
            have f := f.trans f8
            go_wp2_with fail
            refine (HA2.out _ f).mono ?_
            rintro e w9 ⟨rfl, f9⟩
            have f := f.trans f9
            have q1 : ((str (allB (l ++ l2))).toList == (str (allB l) ++ str (allB l2)).toList) = true := by rw [HQ.out]; exact str_beq_self _
            obtain ⟨z1, z2⟩ := HB.out
            generalize str (allB (l ++ l2)) = t3 at q1 ⊢
            generalize str (allB l) = t1 at q1 z1 ⊢
            generalize str (allB l2) = t2 at q1 z2 ⊢
            have q2 := HS.out
            go_wp2_with fail
            refine (HD.out _).mono ?_
            rintro e w10 ⟨rfl, f10⟩
            go_wp2_with fail
            go_ret
            exact ⟨rfl, f.trans f10⟩
      · clear hb1 hb2
        go_wp2_with fail
        go_ret
        exact ⟨rfl, f⟩
end Go.Proofs.YtblbcojkjknfdaaDoor
