/-
  (*Decoder).take: one byte more.
-/
import Derived.Test.YtlgffgmfaejmeaaDec
namespace Go
/-- A scope through which the run jumps back to one label, once. -/
theorem wp_scope_once {P : Program} {a : Act} {w : World} {Q : Exit → Act → World → Prop} {c rest : Code} (l : Nat) (hf : findLabel c l = some rest)
    (first : c.wp P (Exit.jump l (fun a' w' => rest.wp P (Exit.jump l (fun _ _ => False) Q) a' w') Q) a w) : (Code.scope c).wp P Q a w :=
  wp_scope_jumps l (fun a' w' => rest.wp P (Exit.jump l (fun _ _ => False) Q) a' w') (fun _ _ => 0) hf first fun a w h => wp_mono h fun e a w hq => by
    cases e with
    | goto l' => exact hq.2.elim
    | _ => exact hq
end Go
namespace Go.Proofs.Ytlgffgmfaejmeaa
open Go.RowKit

theorem encode_small (x : UInt8) (hx : x.toNat < 128) : Utf8.encode (x.toNat : Int) = str [x] := by
  have hv : Utf8.valid (x.toNat : Int) = true := by simp [Utf8.valid]; omega
  unfold Utf8.encode
  simp only [hv, if_true]
  rw [show ((x.toNat : Int)).toNat = x.toNat from rfl, if_pos hx]
  show (⟨#[UInt8.ofNat x.toNat]⟩ : ByteArray) = ⟨#[x]⟩
  rw [UInt8.ofNat_toNat]
theorem run_rune_small (x : UInt8) (hx : x.toNat < 128) (W : World) : (convert 21 9 (.int .i32 (x.toNat : Int))).run Try.prog W = .ok (.string (str [x])) W := by
  rw [run_convert_int_string W 21 9 .i32 _ (by rw [Try.underlying21]; rfl) Try.underlying9, encode_small x hx]
theorem emp_app (l : List UInt8) : ({ data := #[] } : ByteArray) ++ str l = str l := bs_inj (by rw [bs_append]; rfl)
theorem emp_app' (s : ByteArray) : ({ data := #[] } : ByteArray) ++ s = s := bs_inj (by rw [bs_append]; rfl)
theorem rep_app (l : List UInt8) : ({ data := #[239, 191, 189] } : ByteArray) ++ str l = str (rep ++ l) := by rw [str_append]; rfl
theorem app_rep (s : ByteArray) : s ++ ({ data := #[239, 191, 189] } : ByteArray) = s ++ str rep := rfl

set_option maxRecDepth 100000 in
theorem take_low (w : World) (b : Nat) (A : Option Addr) (c lo hi : Nat) (x : UInt8) (hd : Dec w b A c 0 lo hi []) (hx : x.toNat < 128) :
    Calls Try.prog 22 #[.pointer (some ⟨b, 0, none⟩), .int .u8 (x.toNat : Int)] w fun e w' => e = .returned (.string (str [x])) ∧ Turned w w' b A [] := by
  have h1 := hd.blk.cell 1
  have hx' : (x.toNat : Int) < 128 := by omega
  have he := run_rune_small x hx
  have hs1 : (str [x]).size ≤ 1 := by rw [size_str]; simp
  have hem := emp_app [x]
  have hlt : (x.toNat : Int) < 256 := byte_lt x
  go_enter Try.func22, Try.ntmps22
  go_wp2_with fail
  go_step3
  go_wp2_with fail
  go_step3
  go_wp2_with fail
  rw [Exit.noGoto_ret]
  go_ret
  exact ⟨rfl, A, c, 0, lo, hi, hd, Fr.rfl' _ _, fun _ h => .inl h⟩

set_option maxRecDepth 100000 in
theorem take_high (w : World) (b : Nat) (A : Option Addr) (c lo hi : Nat) (x : UInt8) (hd : Dec w b A c 0 lo hi []) (hx : ¬ x.toNat < 128) :
    Calls Try.prog 22 #[.pointer (some ⟨b, 0, none⟩), .int .u8 (x.toNat : Int)] w fun e w' => e = .returned (.string (str (fresh x).1)) ∧ Turned w w' b A (fresh x).2 := by
  have h1 := hd.blk.cell 1
  have hx' : ¬ (x.toNat : Int) < 128 := by omega
  rw [fresh, if_neg hx]
  by_cases hn : needN x.toNat ≠ 0
  · have F := first_any w b A c lo hi x hd
    rw [if_pos hn, decide_eq_true hn] at F
    have HF := Lib.hid F
    rw [if_pos hn]
    clear F
    go_enter Try.func22, Try.ntmps22
    go_wp2_with fail
    go_step3
    go_wp2_with fail
    go_step3
    go_wp2_with fail
    refine HF.out.mono ?_
    rintro e w1 ⟨rfl, hT⟩
    go_wp2_with fail
    rw [Exit.noGoto_ret]
    go_ret
    exact ⟨rfl, hT⟩
  · have F := first_any w b A c lo hi x hd
    rw [if_neg hn, decide_eq_false hn] at F
    have HF := Lib.hid F
    rw [if_neg hn]
    clear F
    have hap := emp_app' ({ data := #[239, 191, 189] } : ByteArray)
    go_enter Try.func22, Try.ntmps22
    go_wp2_with fail
    go_step3
    go_wp2_with fail
    go_step3
    go_wp2_with fail
    refine HF.out.mono ?_
    rintro e w1 ⟨rfl, A', c', n', lo', hi', hd', hf, ha⟩
    obtain rfl : n' = 0 := hd'.st
    have h1' := hd'.blk.cell 1
    go_wp2_with fail
    rw [Exit.noGoto_ret]
    go_ret
    exact ⟨rfl, A', c', 0, lo', hi', hd', hf, ha⟩

theorem Turned.trans {w w1 w2 : World} {b : Nat} {A : Option Addr} {A1 : Option Addr} {h2 : List UInt8} (hf : Fr (Foot b A) w w1) (ha : ∀ k, At A1 k → At A k ∨ w.heap.size ≤ k) (h : Turned w1 w2 b A1 h2) : Turned w w2 b A h2 := by
  obtain ⟨A2, c2, n2, lo2, hi2, hd2, hf2, ha2⟩ := h
  refine ⟨A2, c2, n2, lo2, hi2, hd2, hf.trans' hf2 fun k hk hs => ?_, fun k hk => ?_⟩
  · rcases hs with rfl | hs
    · exact .inl rfl
    · rcases ha k hs with h1 | h1
      · exact .inr h1
      · omega
  · rcases ha2 k hk with h1 | h1
    · exact ha k h1
    · have := hf.size
      exact .inr (by omega)

set_option maxRecDepth 100000 in
theorem take_bad (w : World) (b : Nat) (A : Option Addr) (c n lo hi : Nat) (f : UInt8) (t : List UInt8) (x : UInt8) (hd : Dec w b A c n lo hi (f :: t)) (hx : ¬ fitsN f.toNat (t.length + 1) x.toNat = true) :
    Calls Try.prog 22 #[.pointer (some ⟨b, 0, none⟩), .int .u8 (x.toNat : Int)] w fun e w' => e = .returned (.string (str (rep ++ (fresh x).1))) ∧ Turned w w' b A (fresh x).2 := by
  obtain ⟨s1, s2, s3, s4⟩ := hd.st
  have h1 := hd.blk.cell 1
  have h2 := hd.blk.cell 2
  have h3 := hd.blk.cell 3
  have HC := Lib.hid (close_any w b A c n lo hi (f :: t) hd)
  have hn0 : ((n : Int) == 0) = false := by simp; omega
  have hrs : (str rep).size ≤ 3 := by rw [size_str]; simp [rep]
  have hbad : ¬ (lo ≤ x.toNat ∧ x.toNat ≤ hi) := by
    intro hh
    apply hx
    unfold fitsN
    rw [← s3, ← s4]
    simp [hh]
  have hbad' : (x.toNat : Int) < lo ∨ (¬ (x.toNat : Int) < lo ∧ (hi : Int) < x.toNat) := by omega
  have HB := Lib.hid hbad'
  clear hbad' hx hbad s1 s2 s3 s4
  rcases HB.out with hb1 | ⟨hb1, hb2⟩
  all_goals
    go_enter Try.func22, Try.ntmps22
    go_wp2_with fail
    refine wp_scope_once 0 rfl ?_
    go_wp2_with fail
    go_step3
    go_wp2_with fail
    refine HC.out.mono ?_
    rintro e w1 ⟨rfl, A', c', n', lo', hi', hd', hf, ha⟩
    obtain rfl : n' = 0 := hd'.st
    have h1' := hd'.blk.cell 1
    rw [show clo (f :: t) = rep from rfl]
    go_wp2_with fail
    refine wp_goto ?_
    refine ⟨rfl, ?_⟩
    clear h1 h2 h3 hb1
    by_cases hx : x.toNat < 128
    · have hx' : (x.toNat : Int) < 128 := by omega
      have he := run_rune_small x hx
      have hs1 : (str [x]).size ≤ 1 := by rw [size_str]; simp
      have hlt : (x.toNat : Int) < 256 := byte_lt x
      have hap := (str_append rep [x]).symm
      go_wp2_with fail
      simp only [Exit.jump]
      go_ret
      rw [fresh, if_pos hx]
      exact ⟨rfl, A', c', 0, lo', hi', hd', hf, ha⟩
    · have hx' : ¬ (x.toNat : Int) < 128 := by omega
      by_cases hn : needN x.toNat ≠ 0
      · have F := first_any w1 b A' c' lo' hi' x hd'
        rw [if_pos hn, decide_eq_true hn] at F
        have HF := Lib.hid F
        clear F
        go_wp2_with fail
        refine HF.out.mono ?_
        rintro e w2 ⟨rfl, hT⟩
        go_wp2_with fail
        simp only [Exit.jump]
        go_ret
        rw [fresh, if_neg hx, if_pos hn]
        exact ⟨by rw [List.append_nil]; rfl, hT.trans hf ha⟩
      · have F := first_any w1 b A' c' lo' hi' x hd'
        rw [if_neg hn, decide_eq_false hn] at F
        have HF := Lib.hid F
        clear F
        have hap : str rep ++ ({ data := #[239, 191, 189] } : ByteArray) = str (rep ++ rep) := (str_append rep rep).symm
        go_wp2_with fail
        refine HF.out.mono ?_
        rintro e w2 ⟨rfl, hT⟩
        have hT' := hT
        obtain ⟨A2, c2, n2, lo2, hi2, hd2, hf2, ha2⟩ := hT
        obtain rfl : n2 = 0 := hd2.st
        have h12 := hd2.blk.cell 1
        go_wp2_with fail
        simp only [Exit.jump]
        go_ret
        rw [fresh, if_neg hx, if_neg hn]
        exact ⟨rfl, hT'.trans hf ha⟩

set_option maxRecDepth 100000 in
theorem take_whole (w : World) (b : Nat) (A : Option Addr) (c n lo hi : Nat) (f : UInt8) (t : List UInt8) (x : UInt8) (hd : Dec w b A c n lo hi (f :: t)) (hx : fitsN f.toNat (t.length + 1) x.toNat = true) (hfin : t.length + 1 = needN f.toNat) :
    Calls Try.prog 22 #[.pointer (some ⟨b, 0, none⟩), .int .u8 (x.toNat : Int)] w fun e w' => e = .returned (.string (str (f :: t ++ [x]))) ∧ Turned w w' b A ([]) := by
  obtain ⟨fx, hfx⟩ : ∃ fx, fx = f :: t ++ [x] := ⟨_, rfl⟩
  rw [← hfx]
  obtain ⟨s1, s2, s3, s4⟩ := hd.st
  have hblk := hd.blk
  have hown0 := hd.own
  have hl3 := short_len hd.st.short
  obtain ⟨l, hL⟩ : ∃ l, l = (f :: t).length := ⟨_, rfl⟩
  rw [← hL] at hblk hown0 hl3
  obtain rfl : n = 1 := by omega
  have h0 := hblk.cell 0
  have h1 := hblk.cell 1
  have h2 := hblk.cell 2
  have h3 := hblk.cell 3
  have f0 := hblk.frozen 0
  have f1 := hblk.frozen 1
  have f2 := hblk.frozen 2
  have f3 := hblk.frozen 3
  have hok : lo ≤ x.toNat ∧ x.toNat ≤ hi := by
    unfold fitsN at hx
    rw [← s3, ← s4] at hx
    simpa using hx
  have hb1 : ¬ (x.toNat : Int) < lo := by omega
  have hb2 : ¬ (hi : Int) < x.toNat := by omega
  have hown := ((hown0.setFar (p := ⟨b, 2, none⟩) hd.nb (.int .u8 128)).setFar (p := ⟨b, 3, none⟩) hd.nb (.int .u8 191)).alloc (.cells #[.int .u8 (x.toNat : Int)] 5)
  have hbb := ((hblk.set_ 2 (.int .u8 128)).set_ 3 (.int .u8 191)).alloc (.cells #[.int .u8 (x.toNat : Int)] 5)
  have hfr := (Fr.setCell (p := ⟨b, 3, none⟩) (Fr.setCell (p := ⟨b, 2, none⟩) (Fr.rfl' (Foot b A) w) (fun _ => .inl rfl) (.int .u8 128)) (fun _ => .inl rfl) (.int .u8 191)).alloc (.cells #[.int .u8 (x.toNat : Int)] 5)
  have hrn := reads_new ((w.setCell ⟨b, 2, none⟩ (.int .u8 128)).setCell ⟨b, 3, none⟩ (.int .u8 191)) (.int .u8 (x.toNat : Int)) 5
  rw [show ((w.setCell ⟨b, 2, none⟩ (.int .u8 128)).setCell ⟨b, 3, none⟩ (.int .u8 191)).heap.size = w.heap.size by simp] at hrn
  have hsz := hfr.size
  have hs : ¬ At A b := hd.nb
  have hlt := hd.blk.lt
  have hcat : cellsOf (f :: t) ++ [.int .u8 (x.toNat : Int)] = cellsOf fx := by rw [hfx]; simp [cellsOf]
  have hz1 : (str fx).size ≤ 4 := by rw [size_str, hfx, List.length_append, ← hL]; simp; omega
  have hem := emp_app fx
  have HK := Lib.hid (And.intro s1 (And.intro s2 hL))
  clear s1 s2 s3 s4 hx hok hL hfx
  go_enter Try.func22, Try.ntmps22
  go_wp2_with fail
  go_step3
  go_wp2_with fail
  go_step3
  go_wp2_with (
    at_builtin
    refine wpList_append _ rfl (.tmp 68) (.tmp 70) 22 rfl 5 (.int .u8 0) 1 1 Try.underlying22 infoByte rfl (by decide) A l c (cellsOf (f :: t)) rfl hown
      _ _ 1 1 [.int .u8 (x.toNat : Int)] rfl hrn (one_one rfl) (by unfold maxLen; omega) (by omega) ?_
    rw [hcat]
    intro A' c' w1 hown1 hfr1 hat
    have hbw := hbb.fr hfr1 hs
    have hc0 := hbw.cell 0
    have hc1 := hbw.cell 1
    have hc2 := hbw.cell 2
    have hc3 := hbw.cell 3
    have hf0 := hbw.frozen 0
    have hf1 := hbw.frozen 1
    have hf2 := hbw.frozen 2
    have hf3 := hbw.frozen 3
    have hnew := at_new (w0 := w) hat (by simp)
    have hnb : ¬ At A' b := fun hk => by
      rcases hnew b hk with h1 | h1
      · exact hs h1
      · omega
    have hown2 := (hown1.setFar (p := ⟨b, 0, none⟩) hnb (.slice A' (l + 1) c')).setFar (p := ⟨b, 1, none⟩) hnb (.int .i64 0)
    have hcv := run_string_of (P := Try.prog) (src := 22) (dst := 9) (e := 5) (c := c') Try.underlying22 Try.underlying5 Try.underlying9 hown2.reads)
  rw [Exit.noGoto_ret]
  go_ret
  refine ⟨rfl, none, 0, 0, 128, 191, ⟨?_, Own.nil _ _ _, not_at_none _, rfl⟩, ?_, fun k hk => (not_at_none k hk).elim⟩
  · simpa using ((hbw.set_ 0 (.slice A' (l + 1) c')).set_ 1 (.int .i64 0)).set_ 0 (.slice none 0 0)
  · exact Fr.setCell (p := ⟨b, 0, none⟩) (Fr.setCell (p := ⟨b, 1, none⟩) (Fr.setCell (p := ⟨b, 0, none⟩) (hfr.trans' hfr1 fun k _ hk => .inr hk) (fun _ => .inl rfl) _) (fun _ => .inl rfl) _) (fun _ => .inl rfl) _

set_option maxRecDepth 100000 in
theorem take_more (w : World) (b : Nat) (A : Option Addr) (c n lo hi : Nat) (f : UInt8) (t : List UInt8) (x : UInt8) (hd : Dec w b A c n lo hi (f :: t)) (hx : fitsN f.toNat (t.length + 1) x.toNat = true) (hfin : t.length + 1 ≠ needN f.toNat) :
    Calls Try.prog 22 #[.pointer (some ⟨b, 0, none⟩), .int .u8 (x.toNat : Int)] w fun e w' => e = .returned (.string (str (([] : List UInt8)))) ∧ Turned w w' b A (f :: t ++ [x]) := by
  obtain ⟨fx, hfx⟩ : ∃ fx, fx = f :: t ++ [x] := ⟨_, rfl⟩
  rw [← hfx]
  obtain ⟨s1, s2, s3, s4⟩ := hd.st
  have hblk := hd.blk
  have hown0 := hd.own
  have hl3 := short_len hd.st.short
  obtain ⟨l, hL⟩ : ∃ l, l = (f :: t).length := ⟨_, rfl⟩
  rw [← hL] at hblk hown0 hl3
  have h0 := hblk.cell 0
  have h1 := hblk.cell 1
  have h2 := hblk.cell 2
  have h3 := hblk.cell 3
  have f0 := hblk.frozen 0
  have f1 := hblk.frozen 1
  have f2 := hblk.frozen 2
  have f3 := hblk.frozen 3
  have hok : lo ≤ x.toNat ∧ x.toNat ≤ hi := by
    unfold fitsN at hx
    rw [← s3, ← s4] at hx
    simpa using hx
  have hb1 : ¬ (x.toNat : Int) < lo := by omega
  have hb2 : ¬ (hi : Int) < x.toNat := by omega
  have hown := ((hown0.setFar (p := ⟨b, 2, none⟩) hd.nb (.int .u8 128)).setFar (p := ⟨b, 3, none⟩) hd.nb (.int .u8 191)).alloc (.cells #[.int .u8 (x.toNat : Int)] 5)
  have hbb := ((hblk.set_ 2 (.int .u8 128)).set_ 3 (.int .u8 191)).alloc (.cells #[.int .u8 (x.toNat : Int)] 5)
  have hfr := (Fr.setCell (p := ⟨b, 3, none⟩) (Fr.setCell (p := ⟨b, 2, none⟩) (Fr.rfl' (Foot b A) w) (fun _ => .inl rfl) (.int .u8 128)) (fun _ => .inl rfl) (.int .u8 191)).alloc (.cells #[.int .u8 (x.toNat : Int)] 5)
  have hrn := reads_new ((w.setCell ⟨b, 2, none⟩ (.int .u8 128)).setCell ⟨b, 3, none⟩ (.int .u8 191)) (.int .u8 (x.toNat : Int)) 5
  rw [show ((w.setCell ⟨b, 2, none⟩ (.int .u8 128)).setCell ⟨b, 3, none⟩ (.int .u8 191)).heap.size = w.heap.size by simp] at hrn
  have hsz := hfr.size
  have hs : ¬ At A b := hd.nb
  have hlt := hd.blk.lt
  have hcat : cellsOf (f :: t) ++ [.int .u8 (x.toNat : Int)] = cellsOf fx := by rw [hfx]; simp [cellsOf]
  have hn0 : ((n : Int) == 0) = false := by simp; omega
  have hn1 : (0 : Int) < (n : Int) - 1 := by omega
  have hn3 : (n : Int) ≤ 3 := by have := need_le f.toNat; omega
  have hcast : ((n - 1 : Nat) : Int) = (n : Int) - 1 := by omega
  have hem0 : str [] = { data := #[] } := rfl
  have hst : St fx (n - 1) 128 191 := by
    rw [hfx]
    refine ⟨?_, ?_, ?_, ?_⟩
    · show (t ++ [x]).length < needN f.toNat
      simp; omega
    · show n - 1 = needN f.toNat - (t ++ [x]).length
      simp; omega
    · simp
    · simp
  have hlen : fx.length = l + 1 := by rw [hfx, List.length_append, ← hL]; rfl
  have HK := Lib.hid (And.intro s1 (And.intro s2 hL))
  clear s1 s2 s3 s4 hx hok hL hfx
  go_enter Try.func22, Try.ntmps22
  go_wp2_with fail
  go_step3
  go_wp2_with fail
  go_step3
  go_wp2_with (
    at_builtin
    refine wpList_append _ rfl (.tmp 68) (.tmp 70) 22 rfl 5 (.int .u8 0) 1 1 Try.underlying22 infoByte rfl (by decide) A l c (cellsOf (f :: t)) rfl hown
      _ _ 1 1 [.int .u8 (x.toNat : Int)] rfl hrn (one_one rfl) (by unfold maxLen; omega) (by omega) ?_
    rw [hcat]
    intro A' c' w1 hown1 hfr1 hat
    have hbw := hbb.fr hfr1 hs
    have hc0 := hbw.cell 0
    have hc1 := hbw.cell 1
    have hc2 := hbw.cell 2
    have hc3 := hbw.cell 3
    have hf0 := hbw.frozen 0
    have hf1 := hbw.frozen 1
    have hf2 := hbw.frozen 2
    have hf3 := hbw.frozen 3
    have hnew := at_new (w0 := w) hat (by simp)
    have hnb : ¬ At A' b := fun hk => by
      rcases hnew b hk with h1 | h1
      · exact hs h1
      · omega
)
  rw [Exit.noGoto_ret]
  go_ret
  have hown2 := (hown1.setFar (p := ⟨b, 0, none⟩) hnb (.slice A' (l + 1) c')).setFar (p := ⟨b, 1, none⟩) hnb (.int .i64 ((n : Int) - 1))
  refine ⟨rfl, A', c', n - 1, 128, 191, ⟨?_, ?_, hnb, hst⟩, ?_, hnew⟩
  · rw [hlen, hcast]
    simpa using (hbw.set_ 0 (.slice A' (l + 1) c')).set_ 1 (.int .i64 ((n : Int) - 1))
  · rw [hlen]; exact hown2
  · exact Fr.setCell (p := ⟨b, 1, none⟩) (Fr.setCell (p := ⟨b, 0, none⟩) (hfr.trans' hfr1 fun k _ hk => .inr hk) (fun _ => .inl rfl) _) (fun _ => .inl rfl) _

theorem take_any (w : World) (b : Nat) (A : Option Addr) (c n lo hi : Nat) (h : List UInt8) (x : UInt8) (hd : Dec w b A c n lo hi h) :
    Calls Try.prog 22 #[.pointer (some ⟨b, 0, none⟩), .int .u8 (x.toNat : Int)] w fun e w' => e = .returned (.string (str (step h x).1)) ∧ Turned w w' b A (step h x).2 := by
  cases h with
  | nil =>
    obtain rfl : n = 0 := hd.st
    by_cases hx : x.toNat < 128
    · have := take_low w b A c lo hi x hd hx
      rw [show step [] x = fresh x from rfl, fresh, if_pos hx]
      exact this
    · exact take_high w b A c lo hi x hd hx
  | cons f t =>
    rw [step]
    by_cases hx : fitsN f.toNat (t.length + 1) x.toNat = true
    · rw [if_pos hx]
      by_cases hn : t.length + 1 = needN f.toNat
      · rw [if_pos hn]
        exact take_whole w b A c n lo hi f t x hd hx hn
      · rw [if_neg hn]
        exact take_more w b A c n lo hi f t x hd hx hn
    · rw [if_neg hx]
      exact take_bad w b A c n lo hi f t x hd hx
end Go.Proofs.Ytlgffgmfaejmeaa
