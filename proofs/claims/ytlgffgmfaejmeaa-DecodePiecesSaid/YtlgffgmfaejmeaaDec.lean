/-
  decode.Decoder in memory, and the walks of New, first, take, Close, Left.
-/
import Derived.Test.YtlgffgmfaejmeaaPlain
import Derived.Test.YtlgffgmfaejmeaaChecked
import Derived.ScopeJumps
import Derived.WalkMore
import Derived.Deep.Cut
import Derived.Laws.Runes
namespace Go.Proofs.Ytlgffgmfaejmeaa
open Go.RowKit

theorem infoByte : (Try.prog.info? 5).map (fun i => (i.zero, i.size, i.bytes)) = some (some (.int .u8 0), 1, 1) := by kernel_rfl

/-- the numbers beside what is held back -/
def St (h : List UInt8) (n lo hi : Nat) : Prop :=
  match h with
  | [] => n = 0
  | f :: t => t.length < needN f.toNat ∧ n = needN f.toNat - t.length ∧ lo = (if t.length + 1 = 1 then loN f.toNat else 128) ∧ hi = (if t.length + 1 = 1 then hiN f.toNat else 191)
theorem St.short {h : List UInt8} {n lo hi : Nat} (hs : St h n lo hi) : Short h := by
  cases h with
  | nil => trivial
  | cons f t => exact hs.1

/-- A decoder in memory: b: its block; A, c: where the bytes held back lie. -/
structure Dec (w : World) (b : Nat) (A : Option Addr) (c n lo hi : Nat) (h : List UInt8) : Prop where
  blk : Blk w b 42 #[.slice A h.length c, .int .i64 n, .int .u8 lo, .int .u8 hi]
  own : Own w 5 1 A h.length c (cellsOf h)
  nb : ¬ At A b
  st : St h n lo hi
def Foot (b : Nat) (A : Option Addr) (k : Nat) : Prop := k = b ∨ At A k
section
variable {w w' : World} {b : Nat} {A : Option Addr} {c n lo hi : Nat} {h : List UInt8} {S : Nat → Prop}
theorem Dec.fr (h0 : Dec w b A c n lo hi h) (hf : Fr S w w') (hs : ∀ k, Foot b A k → ¬ S k) : Dec w' b A c n lo hi h :=
  ⟨h0.blk.fr hf (hs _ (.inl rfl)), h0.own.fr hf fun k hk => hs k (.inr hk), h0.nb, h0.st⟩
end

/-- what a call on the decoder leaves: it holds back h', its bytes lie where they lay or in new blocks, and nothing else has turned -/
def Turned (w w' : World) (b : Nat) (A : Option Addr) (h' : List UInt8) : Prop :=
  ∃ A' c' n' lo' hi', Dec w' b A' c' n' lo' hi' h' ∧ Fr (Foot b A) w w' ∧ (∀ k, At A' k → At A k ∨ w.heap.size ≤ k)

theorem new_any (w : World) : Calls Try.prog 15 #[] w fun e w' => ∃ b, e = .returned (.pointer (some ⟨b, 0, none⟩)) ∧ b = w.heap.size ∧ Dec w' b none 0 0 128 191 [] ∧ Fr Nil w w' := by
  go_enter Try.func15, Try.ntmps15
  go_wp2_with fail
  go_ret
  exact ⟨_, rfl, rfl, ⟨Blk.new _ _ _, Own.nil _ _ _, not_at_none _, rfl⟩, (Fr.rfl' _ _).alloc _⟩

theorem left_any (w : World) (b : Nat) (A : Option Addr) (c n lo hi : Nat) (h : List UInt8) (hd : Dec w b A c n lo hi h) :
    Calls Try.prog 19 #[.pointer (some ⟨b, 0, none⟩)] w fun e w' => e = .returned (.int .i64 (h.length : Nat)) ∧ w' = w := by
  have h0 := hd.blk.cell 0
  go_enter Try.func19, Try.ntmps19
  go_wp2_with fail
  go_ret
  exact ⟨rfl, rfl⟩

theorem close_any (w : World) (b : Nat) (A : Option Addr) (c n lo hi : Nat) (h : List UInt8) (hd : Dec w b A c n lo hi h) :
    Calls Try.prog 17 #[.pointer (some ⟨b, 0, none⟩)] w fun e w' => e = .returned (.string (str (clo h))) ∧ Turned w w' b A [] := by
  have h0 := hd.blk.cell 0
  have h1 := hd.blk.cell 1
  have f0 := hd.blk.frozen 0
  have f1 := hd.blk.frozen 1
  have hst := hd.st
  cases h with
  | nil =>
    obtain rfl : n = 0 := hst
    go_enter Try.func17, Try.ntmps17
    go_wp2_with fail
    go_ret
    exact ⟨rfl, A, c, 0, lo, hi, hd, Fr.rfl' _ _, fun _ h => .inl h⟩
  | cons f t =>
    have hn : ¬ (n : Int) = 0 := by have := hst.1; have := hst.2.1; omega
    go_enter Try.func17, Try.ntmps17
    go_wp2_with fail
    go_ret
    refine ⟨rfl, none, 0, 0, lo, hi, ⟨?_, Own.nil _ _ _, not_at_none _, rfl⟩, ?_, fun k hk => (not_at_none k hk).elim⟩
    · simpa using (hd.blk.set_ 0 (.slice none 0 0)).set_ 1 (.int .i64 0)
    · exact Fr.setCell (p := ⟨b, 1, none⟩) (Fr.setCell (p := ⟨b, 0, none⟩) (Fr.rfl' (Foot b A) _) (fun _ => .inl rfl) _) (fun _ => .inl rfl) _

set_option maxHeartbeats 1000000 in
theorem first_a (w : World) (b : Nat) (A : Option Addr) (c lo hi : Nat) (x : UInt8) (hd : Dec w b A c 0 lo hi []) (ha : 194 ≤ x.toNat) (hz : x.toNat ≤ 223) :
    Calls Try.prog 25 #[.pointer (some ⟨b, 0, none⟩), .int .u8 (x.toNat : Int)] w fun e w' => e = .returned (.bool true) ∧
      Turned w w' b A [x] := by
  have h0 := hd.blk.cell 0
  have f0 := hd.blk.frozen 0
  have h1 := hd.blk.cell 1
  have f1 := hd.blk.frozen 1
  have h2 := hd.blk.cell 2
  have f2 := hd.blk.frozen 2
  have h3 := hd.blk.cell 3
  have f3 := hd.blk.frozen 3
  have t0 : (194 : Int) ≤ (x.toNat : Int) := by omega
  have t1 : ¬ (224 : Int) ≤ (x.toNat : Int) := by omega
  have t2 : ¬ (240 : Int) ≤ (x.toNat : Int) := by omega
  have t3 : (x.toNat : Int) ≤ 223 := by omega
  have t4 : (x.toNat : Int) ≤ 239 := by omega
  have t5 : (x.toNat : Int) ≤ 244 := by omega
  have e224 : ((x.toNat : Int) == 224) = false := by simp; omega
  have e237 : ((x.toNat : Int) == 237) = false := by simp; omega
  have e240 : ((x.toNat : Int) == 240) = false := by simp; omega
  have e244 : ((x.toNat : Int) == 244) = false := by simp; omega
  have hst : St [x] 1 128 191 := by
    have hn : needN x.toNat = 1 := by unfold needN; split <;> (try split) <;> (try split) <;> omega
    have hl : loN x.toNat = 128 := by unfold loN; split <;> (try split) <;> omega
    have hh : hiN x.toNat = 191 := by unfold hiN; split <;> (try split) <;> omega
    refine ⟨?_, ?_, ?_, ?_⟩
    · rw [hn]; decide
    · rw [hn]; rfl
    · simp [hl]
    · simp [hh]
  have hown := (((hd.own.setFar (p := ⟨b, 2, none⟩) hd.nb (.int .u8 128)).setFar (p := ⟨b, 3, none⟩) hd.nb (.int .u8 191)).setFar (p := ⟨b, 1, none⟩) hd.nb (.int .i64 1)).alloc (.cells #[.int .u8 (x.toNat : Int)] 5)
  have hbb := (((hd.blk.set_ 2 (.int .u8 128)).set_ 3 (.int .u8 191)).set_ 1 (.int .i64 1)).alloc (.cells #[.int .u8 (x.toNat : Int)] 5)
  have hfr := (Fr.setCell (p := ⟨b, 1, none⟩) (Fr.setCell (p := ⟨b, 3, none⟩) (Fr.setCell (p := ⟨b, 2, none⟩) (Fr.rfl' (Foot b A) w) (fun _ => .inl rfl) (.int .u8 128)) (fun _ => .inl rfl) (.int .u8 191)) (fun _ => .inl rfl) (.int .i64 1)).alloc (.cells #[.int .u8 (x.toNat : Int)] 5)
  have hsz := hfr.size
  have hs : ¬ At A b := hd.nb
  have hrn := reads_new (((w.setCell ⟨b, 2, none⟩ (.int .u8 128)).setCell ⟨b, 3, none⟩ (.int .u8 191)).setCell ⟨b, 1, none⟩ (.int .i64 1)) (.int .u8 (x.toNat : Int)) 5
  rw [show (((w.setCell ⟨b, 2, none⟩ (.int .u8 128)).setCell ⟨b, 3, none⟩ (.int .u8 191)).setCell ⟨b, 1, none⟩ (.int .i64 1)).heap.size = w.heap.size by simp] at hrn
  go_enter Try.func25, Try.ntmps25
  go_wp2_with (
    at_builtin
    refine wpList_append _ rfl (.tmp 66) (.tmp 68) 22 rfl 5 (.int .u8 0) 1 1 Try.underlying22 infoByte rfl (by decide) A 0 c [] rfl hown
      _ _ 1 1 [.int .u8 (x.toNat : Int)] rfl hrn (one_one rfl) (by unfold maxLen; omega) (by omega) ?_
    intro A' c' w1 hown1 hfr1 hat
    have hb1 := hbb.fr hfr1 hs
    have hc1 := hb1.cell 0
    have hf1 := hb1.frozen 0)
  go_ret
  have hlt := hd.blk.lt
  have hnew := at_new (w0 := w) hat (by simp)
  have hnb : ¬ At A' b := fun hk => by
    rcases hnew b hk with h1 | h1
    · exact hs h1
    · omega
  refine ⟨rfl, A', c', _, _, _, ⟨by simpa using hb1.set_ 0 (.slice A' 1 c'), by simpa [cellsOf] using hown1.setFar (p := ⟨b, 0, none⟩) hnb _, hnb, hst⟩, ?_, hnew⟩
  exact Fr.setCell (p := ⟨b, 0, none⟩) (hfr.trans' hfr1 fun k _ hk => .inr hk) (fun _ => .inl rfl) _

set_option maxHeartbeats 1000000 in
theorem first_b (w : World) (b : Nat) (A : Option Addr) (c lo hi : Nat) (x : UInt8) (hd : Dec w b A c 0 lo hi []) (ha : 224 ≤ x.toNat) (hz : x.toNat ≤ 224) :
    Calls Try.prog 25 #[.pointer (some ⟨b, 0, none⟩), .int .u8 (x.toNat : Int)] w fun e w' => e = .returned (.bool true) ∧
      Turned w w' b A [x] := by
  have h0 := hd.blk.cell 0
  have f0 := hd.blk.frozen 0
  have h1 := hd.blk.cell 1
  have f1 := hd.blk.frozen 1
  have h2 := hd.blk.cell 2
  have f2 := hd.blk.frozen 2
  have h3 := hd.blk.cell 3
  have f3 := hd.blk.frozen 3
  have t0 : (194 : Int) ≤ (x.toNat : Int) := by omega
  have t1 : (224 : Int) ≤ (x.toNat : Int) := by omega
  have t2 : ¬ (240 : Int) ≤ (x.toNat : Int) := by omega
  have t3 : ¬ (x.toNat : Int) ≤ 223 := by omega
  have t4 : (x.toNat : Int) ≤ 239 := by omega
  have t5 : (x.toNat : Int) ≤ 244 := by omega
  have e224 : ((x.toNat : Int) == 224) = true := by simp; omega
  have e237 : ((x.toNat : Int) == 237) = false := by simp; omega
  have e240 : ((x.toNat : Int) == 240) = false := by simp; omega
  have e244 : ((x.toNat : Int) == 244) = false := by simp; omega
  have hst : St [x] 2 160 191 := by
    have hn : needN x.toNat = 2 := by unfold needN; split <;> (try split) <;> (try split) <;> omega
    have hl : loN x.toNat = 160 := by unfold loN; split <;> (try split) <;> omega
    have hh : hiN x.toNat = 191 := by unfold hiN; split <;> (try split) <;> omega
    refine ⟨?_, ?_, ?_, ?_⟩
    · rw [hn]; decide
    · rw [hn]; rfl
    · simp [hl]
    · simp [hh]
  have hown := ((((hd.own.setFar (p := ⟨b, 2, none⟩) hd.nb (.int .u8 128)).setFar (p := ⟨b, 3, none⟩) hd.nb (.int .u8 191)).setFar (p := ⟨b, 1, none⟩) hd.nb (.int .i64 2)).setFar (p := ⟨b, 2, none⟩) hd.nb (.int .u8 160)).alloc (.cells #[.int .u8 (x.toNat : Int)] 5)
  have hbb := ((((hd.blk.set_ 2 (.int .u8 128)).set_ 3 (.int .u8 191)).set_ 1 (.int .i64 2)).set_ 2 (.int .u8 160)).alloc (.cells #[.int .u8 (x.toNat : Int)] 5)
  have hfr := (Fr.setCell (p := ⟨b, 2, none⟩) (Fr.setCell (p := ⟨b, 1, none⟩) (Fr.setCell (p := ⟨b, 3, none⟩) (Fr.setCell (p := ⟨b, 2, none⟩) (Fr.rfl' (Foot b A) w) (fun _ => .inl rfl) (.int .u8 128)) (fun _ => .inl rfl) (.int .u8 191)) (fun _ => .inl rfl) (.int .i64 2)) (fun _ => .inl rfl) (.int .u8 160)).alloc (.cells #[.int .u8 (x.toNat : Int)] 5)
  have hsz := hfr.size
  have hs : ¬ At A b := hd.nb
  have hrn := reads_new ((((w.setCell ⟨b, 2, none⟩ (.int .u8 128)).setCell ⟨b, 3, none⟩ (.int .u8 191)).setCell ⟨b, 1, none⟩ (.int .i64 2)).setCell ⟨b, 2, none⟩ (.int .u8 160)) (.int .u8 (x.toNat : Int)) 5
  rw [show ((((w.setCell ⟨b, 2, none⟩ (.int .u8 128)).setCell ⟨b, 3, none⟩ (.int .u8 191)).setCell ⟨b, 1, none⟩ (.int .i64 2)).setCell ⟨b, 2, none⟩ (.int .u8 160)).heap.size = w.heap.size by simp] at hrn
  go_enter Try.func25, Try.ntmps25
  go_wp2_with (
    at_builtin
    refine wpList_append _ rfl (.tmp 66) (.tmp 68) 22 rfl 5 (.int .u8 0) 1 1 Try.underlying22 infoByte rfl (by decide) A 0 c [] rfl hown
      _ _ 1 1 [.int .u8 (x.toNat : Int)] rfl hrn (one_one rfl) (by unfold maxLen; omega) (by omega) ?_
    intro A' c' w1 hown1 hfr1 hat
    have hb1 := hbb.fr hfr1 hs
    have hc1 := hb1.cell 0
    have hf1 := hb1.frozen 0)
  go_ret
  have hlt := hd.blk.lt
  have hnew := at_new (w0 := w) hat (by simp)
  have hnb : ¬ At A' b := fun hk => by
    rcases hnew b hk with h1 | h1
    · exact hs h1
    · omega
  refine ⟨rfl, A', c', _, _, _, ⟨by simpa using hb1.set_ 0 (.slice A' 1 c'), by simpa [cellsOf] using hown1.setFar (p := ⟨b, 0, none⟩) hnb _, hnb, hst⟩, ?_, hnew⟩
  exact Fr.setCell (p := ⟨b, 0, none⟩) (hfr.trans' hfr1 fun k _ hk => .inr hk) (fun _ => .inl rfl) _

set_option maxHeartbeats 1000000 in
theorem first_c (w : World) (b : Nat) (A : Option Addr) (c lo hi : Nat) (x : UInt8) (hd : Dec w b A c 0 lo hi []) (ha : 225 ≤ x.toNat) (hz : x.toNat ≤ 236) :
    Calls Try.prog 25 #[.pointer (some ⟨b, 0, none⟩), .int .u8 (x.toNat : Int)] w fun e w' => e = .returned (.bool true) ∧
      Turned w w' b A [x] := by
  have h0 := hd.blk.cell 0
  have f0 := hd.blk.frozen 0
  have h1 := hd.blk.cell 1
  have f1 := hd.blk.frozen 1
  have h2 := hd.blk.cell 2
  have f2 := hd.blk.frozen 2
  have h3 := hd.blk.cell 3
  have f3 := hd.blk.frozen 3
  have t0 : (194 : Int) ≤ (x.toNat : Int) := by omega
  have t1 : (224 : Int) ≤ (x.toNat : Int) := by omega
  have t2 : ¬ (240 : Int) ≤ (x.toNat : Int) := by omega
  have t3 : ¬ (x.toNat : Int) ≤ 223 := by omega
  have t4 : (x.toNat : Int) ≤ 239 := by omega
  have t5 : (x.toNat : Int) ≤ 244 := by omega
  have e224 : ((x.toNat : Int) == 224) = false := by simp; omega
  have e237 : ((x.toNat : Int) == 237) = false := by simp; omega
  have e240 : ((x.toNat : Int) == 240) = false := by simp; omega
  have e244 : ((x.toNat : Int) == 244) = false := by simp; omega
  have hst : St [x] 2 128 191 := by
    have hn : needN x.toNat = 2 := by unfold needN; split <;> (try split) <;> (try split) <;> omega
    have hl : loN x.toNat = 128 := by unfold loN; split <;> (try split) <;> omega
    have hh : hiN x.toNat = 191 := by unfold hiN; split <;> (try split) <;> omega
    refine ⟨?_, ?_, ?_, ?_⟩
    · rw [hn]; decide
    · rw [hn]; rfl
    · simp [hl]
    · simp [hh]
  have hown := (((hd.own.setFar (p := ⟨b, 2, none⟩) hd.nb (.int .u8 128)).setFar (p := ⟨b, 3, none⟩) hd.nb (.int .u8 191)).setFar (p := ⟨b, 1, none⟩) hd.nb (.int .i64 2)).alloc (.cells #[.int .u8 (x.toNat : Int)] 5)
  have hbb := (((hd.blk.set_ 2 (.int .u8 128)).set_ 3 (.int .u8 191)).set_ 1 (.int .i64 2)).alloc (.cells #[.int .u8 (x.toNat : Int)] 5)
  have hfr := (Fr.setCell (p := ⟨b, 1, none⟩) (Fr.setCell (p := ⟨b, 3, none⟩) (Fr.setCell (p := ⟨b, 2, none⟩) (Fr.rfl' (Foot b A) w) (fun _ => .inl rfl) (.int .u8 128)) (fun _ => .inl rfl) (.int .u8 191)) (fun _ => .inl rfl) (.int .i64 2)).alloc (.cells #[.int .u8 (x.toNat : Int)] 5)
  have hsz := hfr.size
  have hs : ¬ At A b := hd.nb
  have hrn := reads_new (((w.setCell ⟨b, 2, none⟩ (.int .u8 128)).setCell ⟨b, 3, none⟩ (.int .u8 191)).setCell ⟨b, 1, none⟩ (.int .i64 2)) (.int .u8 (x.toNat : Int)) 5
  rw [show (((w.setCell ⟨b, 2, none⟩ (.int .u8 128)).setCell ⟨b, 3, none⟩ (.int .u8 191)).setCell ⟨b, 1, none⟩ (.int .i64 2)).heap.size = w.heap.size by simp] at hrn
  go_enter Try.func25, Try.ntmps25
  go_wp2_with (
    at_builtin
    refine wpList_append _ rfl (.tmp 66) (.tmp 68) 22 rfl 5 (.int .u8 0) 1 1 Try.underlying22 infoByte rfl (by decide) A 0 c [] rfl hown
      _ _ 1 1 [.int .u8 (x.toNat : Int)] rfl hrn (one_one rfl) (by unfold maxLen; omega) (by omega) ?_
    intro A' c' w1 hown1 hfr1 hat
    have hb1 := hbb.fr hfr1 hs
    have hc1 := hb1.cell 0
    have hf1 := hb1.frozen 0)
  go_ret
  have hlt := hd.blk.lt
  have hnew := at_new (w0 := w) hat (by simp)
  have hnb : ¬ At A' b := fun hk => by
    rcases hnew b hk with h1 | h1
    · exact hs h1
    · omega
  refine ⟨rfl, A', c', _, _, _, ⟨by simpa using hb1.set_ 0 (.slice A' 1 c'), by simpa [cellsOf] using hown1.setFar (p := ⟨b, 0, none⟩) hnb _, hnb, hst⟩, ?_, hnew⟩
  exact Fr.setCell (p := ⟨b, 0, none⟩) (hfr.trans' hfr1 fun k _ hk => .inr hk) (fun _ => .inl rfl) _

set_option maxHeartbeats 1000000 in
theorem first_d (w : World) (b : Nat) (A : Option Addr) (c lo hi : Nat) (x : UInt8) (hd : Dec w b A c 0 lo hi []) (ha : 237 ≤ x.toNat) (hz : x.toNat ≤ 237) :
    Calls Try.prog 25 #[.pointer (some ⟨b, 0, none⟩), .int .u8 (x.toNat : Int)] w fun e w' => e = .returned (.bool true) ∧
      Turned w w' b A [x] := by
  have h0 := hd.blk.cell 0
  have f0 := hd.blk.frozen 0
  have h1 := hd.blk.cell 1
  have f1 := hd.blk.frozen 1
  have h2 := hd.blk.cell 2
  have f2 := hd.blk.frozen 2
  have h3 := hd.blk.cell 3
  have f3 := hd.blk.frozen 3
  have t0 : (194 : Int) ≤ (x.toNat : Int) := by omega
  have t1 : (224 : Int) ≤ (x.toNat : Int) := by omega
  have t2 : ¬ (240 : Int) ≤ (x.toNat : Int) := by omega
  have t3 : ¬ (x.toNat : Int) ≤ 223 := by omega
  have t4 : (x.toNat : Int) ≤ 239 := by omega
  have t5 : (x.toNat : Int) ≤ 244 := by omega
  have e224 : ((x.toNat : Int) == 224) = false := by simp; omega
  have e237 : ((x.toNat : Int) == 237) = true := by simp; omega
  have e240 : ((x.toNat : Int) == 240) = false := by simp; omega
  have e244 : ((x.toNat : Int) == 244) = false := by simp; omega
  have hst : St [x] 2 128 159 := by
    have hn : needN x.toNat = 2 := by unfold needN; split <;> (try split) <;> (try split) <;> omega
    have hl : loN x.toNat = 128 := by unfold loN; split <;> (try split) <;> omega
    have hh : hiN x.toNat = 159 := by unfold hiN; split <;> (try split) <;> omega
    refine ⟨?_, ?_, ?_, ?_⟩
    · rw [hn]; decide
    · rw [hn]; rfl
    · simp [hl]
    · simp [hh]
  have hown := ((((hd.own.setFar (p := ⟨b, 2, none⟩) hd.nb (.int .u8 128)).setFar (p := ⟨b, 3, none⟩) hd.nb (.int .u8 191)).setFar (p := ⟨b, 1, none⟩) hd.nb (.int .i64 2)).setFar (p := ⟨b, 3, none⟩) hd.nb (.int .u8 159)).alloc (.cells #[.int .u8 (x.toNat : Int)] 5)
  have hbb := ((((hd.blk.set_ 2 (.int .u8 128)).set_ 3 (.int .u8 191)).set_ 1 (.int .i64 2)).set_ 3 (.int .u8 159)).alloc (.cells #[.int .u8 (x.toNat : Int)] 5)
  have hfr := (Fr.setCell (p := ⟨b, 3, none⟩) (Fr.setCell (p := ⟨b, 1, none⟩) (Fr.setCell (p := ⟨b, 3, none⟩) (Fr.setCell (p := ⟨b, 2, none⟩) (Fr.rfl' (Foot b A) w) (fun _ => .inl rfl) (.int .u8 128)) (fun _ => .inl rfl) (.int .u8 191)) (fun _ => .inl rfl) (.int .i64 2)) (fun _ => .inl rfl) (.int .u8 159)).alloc (.cells #[.int .u8 (x.toNat : Int)] 5)
  have hsz := hfr.size
  have hs : ¬ At A b := hd.nb
  have hrn := reads_new ((((w.setCell ⟨b, 2, none⟩ (.int .u8 128)).setCell ⟨b, 3, none⟩ (.int .u8 191)).setCell ⟨b, 1, none⟩ (.int .i64 2)).setCell ⟨b, 3, none⟩ (.int .u8 159)) (.int .u8 (x.toNat : Int)) 5
  rw [show ((((w.setCell ⟨b, 2, none⟩ (.int .u8 128)).setCell ⟨b, 3, none⟩ (.int .u8 191)).setCell ⟨b, 1, none⟩ (.int .i64 2)).setCell ⟨b, 3, none⟩ (.int .u8 159)).heap.size = w.heap.size by simp] at hrn
  go_enter Try.func25, Try.ntmps25
  go_wp2_with (
    at_builtin
    refine wpList_append _ rfl (.tmp 66) (.tmp 68) 22 rfl 5 (.int .u8 0) 1 1 Try.underlying22 infoByte rfl (by decide) A 0 c [] rfl hown
      _ _ 1 1 [.int .u8 (x.toNat : Int)] rfl hrn (one_one rfl) (by unfold maxLen; omega) (by omega) ?_
    intro A' c' w1 hown1 hfr1 hat
    have hb1 := hbb.fr hfr1 hs
    have hc1 := hb1.cell 0
    have hf1 := hb1.frozen 0)
  go_ret
  have hlt := hd.blk.lt
  have hnew := at_new (w0 := w) hat (by simp)
  have hnb : ¬ At A' b := fun hk => by
    rcases hnew b hk with h1 | h1
    · exact hs h1
    · omega
  refine ⟨rfl, A', c', _, _, _, ⟨by simpa using hb1.set_ 0 (.slice A' 1 c'), by simpa [cellsOf] using hown1.setFar (p := ⟨b, 0, none⟩) hnb _, hnb, hst⟩, ?_, hnew⟩
  exact Fr.setCell (p := ⟨b, 0, none⟩) (hfr.trans' hfr1 fun k _ hk => .inr hk) (fun _ => .inl rfl) _

set_option maxHeartbeats 1000000 in
theorem first_e (w : World) (b : Nat) (A : Option Addr) (c lo hi : Nat) (x : UInt8) (hd : Dec w b A c 0 lo hi []) (ha : 238 ≤ x.toNat) (hz : x.toNat ≤ 239) :
    Calls Try.prog 25 #[.pointer (some ⟨b, 0, none⟩), .int .u8 (x.toNat : Int)] w fun e w' => e = .returned (.bool true) ∧
      Turned w w' b A [x] := by
  have h0 := hd.blk.cell 0
  have f0 := hd.blk.frozen 0
  have h1 := hd.blk.cell 1
  have f1 := hd.blk.frozen 1
  have h2 := hd.blk.cell 2
  have f2 := hd.blk.frozen 2
  have h3 := hd.blk.cell 3
  have f3 := hd.blk.frozen 3
  have t0 : (194 : Int) ≤ (x.toNat : Int) := by omega
  have t1 : (224 : Int) ≤ (x.toNat : Int) := by omega
  have t2 : ¬ (240 : Int) ≤ (x.toNat : Int) := by omega
  have t3 : ¬ (x.toNat : Int) ≤ 223 := by omega
  have t4 : (x.toNat : Int) ≤ 239 := by omega
  have t5 : (x.toNat : Int) ≤ 244 := by omega
  have e224 : ((x.toNat : Int) == 224) = false := by simp; omega
  have e237 : ((x.toNat : Int) == 237) = false := by simp; omega
  have e240 : ((x.toNat : Int) == 240) = false := by simp; omega
  have e244 : ((x.toNat : Int) == 244) = false := by simp; omega
  have hst : St [x] 2 128 191 := by
    have hn : needN x.toNat = 2 := by unfold needN; split <;> (try split) <;> (try split) <;> omega
    have hl : loN x.toNat = 128 := by unfold loN; split <;> (try split) <;> omega
    have hh : hiN x.toNat = 191 := by unfold hiN; split <;> (try split) <;> omega
    refine ⟨?_, ?_, ?_, ?_⟩
    · rw [hn]; decide
    · rw [hn]; rfl
    · simp [hl]
    · simp [hh]
  have hown := (((hd.own.setFar (p := ⟨b, 2, none⟩) hd.nb (.int .u8 128)).setFar (p := ⟨b, 3, none⟩) hd.nb (.int .u8 191)).setFar (p := ⟨b, 1, none⟩) hd.nb (.int .i64 2)).alloc (.cells #[.int .u8 (x.toNat : Int)] 5)
  have hbb := (((hd.blk.set_ 2 (.int .u8 128)).set_ 3 (.int .u8 191)).set_ 1 (.int .i64 2)).alloc (.cells #[.int .u8 (x.toNat : Int)] 5)
  have hfr := (Fr.setCell (p := ⟨b, 1, none⟩) (Fr.setCell (p := ⟨b, 3, none⟩) (Fr.setCell (p := ⟨b, 2, none⟩) (Fr.rfl' (Foot b A) w) (fun _ => .inl rfl) (.int .u8 128)) (fun _ => .inl rfl) (.int .u8 191)) (fun _ => .inl rfl) (.int .i64 2)).alloc (.cells #[.int .u8 (x.toNat : Int)] 5)
  have hsz := hfr.size
  have hs : ¬ At A b := hd.nb
  have hrn := reads_new (((w.setCell ⟨b, 2, none⟩ (.int .u8 128)).setCell ⟨b, 3, none⟩ (.int .u8 191)).setCell ⟨b, 1, none⟩ (.int .i64 2)) (.int .u8 (x.toNat : Int)) 5
  rw [show (((w.setCell ⟨b, 2, none⟩ (.int .u8 128)).setCell ⟨b, 3, none⟩ (.int .u8 191)).setCell ⟨b, 1, none⟩ (.int .i64 2)).heap.size = w.heap.size by simp] at hrn
  go_enter Try.func25, Try.ntmps25
  go_wp2_with (
    at_builtin
    refine wpList_append _ rfl (.tmp 66) (.tmp 68) 22 rfl 5 (.int .u8 0) 1 1 Try.underlying22 infoByte rfl (by decide) A 0 c [] rfl hown
      _ _ 1 1 [.int .u8 (x.toNat : Int)] rfl hrn (one_one rfl) (by unfold maxLen; omega) (by omega) ?_
    intro A' c' w1 hown1 hfr1 hat
    have hb1 := hbb.fr hfr1 hs
    have hc1 := hb1.cell 0
    have hf1 := hb1.frozen 0)
  go_ret
  have hlt := hd.blk.lt
  have hnew := at_new (w0 := w) hat (by simp)
  have hnb : ¬ At A' b := fun hk => by
    rcases hnew b hk with h1 | h1
    · exact hs h1
    · omega
  refine ⟨rfl, A', c', _, _, _, ⟨by simpa using hb1.set_ 0 (.slice A' 1 c'), by simpa [cellsOf] using hown1.setFar (p := ⟨b, 0, none⟩) hnb _, hnb, hst⟩, ?_, hnew⟩
  exact Fr.setCell (p := ⟨b, 0, none⟩) (hfr.trans' hfr1 fun k _ hk => .inr hk) (fun _ => .inl rfl) _

set_option maxHeartbeats 1000000 in
theorem first_f (w : World) (b : Nat) (A : Option Addr) (c lo hi : Nat) (x : UInt8) (hd : Dec w b A c 0 lo hi []) (ha : 240 ≤ x.toNat) (hz : x.toNat ≤ 240) :
    Calls Try.prog 25 #[.pointer (some ⟨b, 0, none⟩), .int .u8 (x.toNat : Int)] w fun e w' => e = .returned (.bool true) ∧
      Turned w w' b A [x] := by
  have h0 := hd.blk.cell 0
  have f0 := hd.blk.frozen 0
  have h1 := hd.blk.cell 1
  have f1 := hd.blk.frozen 1
  have h2 := hd.blk.cell 2
  have f2 := hd.blk.frozen 2
  have h3 := hd.blk.cell 3
  have f3 := hd.blk.frozen 3
  have t0 : (194 : Int) ≤ (x.toNat : Int) := by omega
  have t1 : (224 : Int) ≤ (x.toNat : Int) := by omega
  have t2 : (240 : Int) ≤ (x.toNat : Int) := by omega
  have t3 : ¬ (x.toNat : Int) ≤ 223 := by omega
  have t4 : ¬ (x.toNat : Int) ≤ 239 := by omega
  have t5 : (x.toNat : Int) ≤ 244 := by omega
  have e224 : ((x.toNat : Int) == 224) = false := by simp; omega
  have e237 : ((x.toNat : Int) == 237) = false := by simp; omega
  have e240 : ((x.toNat : Int) == 240) = true := by simp; omega
  have e244 : ((x.toNat : Int) == 244) = false := by simp; omega
  have hst : St [x] 3 144 191 := by
    have hn : needN x.toNat = 3 := by unfold needN; split <;> (try split) <;> (try split) <;> omega
    have hl : loN x.toNat = 144 := by unfold loN; split <;> (try split) <;> omega
    have hh : hiN x.toNat = 191 := by unfold hiN; split <;> (try split) <;> omega
    refine ⟨?_, ?_, ?_, ?_⟩
    · rw [hn]; decide
    · rw [hn]; rfl
    · simp [hl]
    · simp [hh]
  have hown := ((((hd.own.setFar (p := ⟨b, 2, none⟩) hd.nb (.int .u8 128)).setFar (p := ⟨b, 3, none⟩) hd.nb (.int .u8 191)).setFar (p := ⟨b, 1, none⟩) hd.nb (.int .i64 3)).setFar (p := ⟨b, 2, none⟩) hd.nb (.int .u8 144)).alloc (.cells #[.int .u8 (x.toNat : Int)] 5)
  have hbb := ((((hd.blk.set_ 2 (.int .u8 128)).set_ 3 (.int .u8 191)).set_ 1 (.int .i64 3)).set_ 2 (.int .u8 144)).alloc (.cells #[.int .u8 (x.toNat : Int)] 5)
  have hfr := (Fr.setCell (p := ⟨b, 2, none⟩) (Fr.setCell (p := ⟨b, 1, none⟩) (Fr.setCell (p := ⟨b, 3, none⟩) (Fr.setCell (p := ⟨b, 2, none⟩) (Fr.rfl' (Foot b A) w) (fun _ => .inl rfl) (.int .u8 128)) (fun _ => .inl rfl) (.int .u8 191)) (fun _ => .inl rfl) (.int .i64 3)) (fun _ => .inl rfl) (.int .u8 144)).alloc (.cells #[.int .u8 (x.toNat : Int)] 5)
  have hsz := hfr.size
  have hs : ¬ At A b := hd.nb
  have hrn := reads_new ((((w.setCell ⟨b, 2, none⟩ (.int .u8 128)).setCell ⟨b, 3, none⟩ (.int .u8 191)).setCell ⟨b, 1, none⟩ (.int .i64 3)).setCell ⟨b, 2, none⟩ (.int .u8 144)) (.int .u8 (x.toNat : Int)) 5
  rw [show ((((w.setCell ⟨b, 2, none⟩ (.int .u8 128)).setCell ⟨b, 3, none⟩ (.int .u8 191)).setCell ⟨b, 1, none⟩ (.int .i64 3)).setCell ⟨b, 2, none⟩ (.int .u8 144)).heap.size = w.heap.size by simp] at hrn
  go_enter Try.func25, Try.ntmps25
  go_wp2_with (
    at_builtin
    refine wpList_append _ rfl (.tmp 66) (.tmp 68) 22 rfl 5 (.int .u8 0) 1 1 Try.underlying22 infoByte rfl (by decide) A 0 c [] rfl hown
      _ _ 1 1 [.int .u8 (x.toNat : Int)] rfl hrn (one_one rfl) (by unfold maxLen; omega) (by omega) ?_
    intro A' c' w1 hown1 hfr1 hat
    have hb1 := hbb.fr hfr1 hs
    have hc1 := hb1.cell 0
    have hf1 := hb1.frozen 0)
  go_ret
  have hlt := hd.blk.lt
  have hnew := at_new (w0 := w) hat (by simp)
  have hnb : ¬ At A' b := fun hk => by
    rcases hnew b hk with h1 | h1
    · exact hs h1
    · omega
  refine ⟨rfl, A', c', _, _, _, ⟨by simpa using hb1.set_ 0 (.slice A' 1 c'), by simpa [cellsOf] using hown1.setFar (p := ⟨b, 0, none⟩) hnb _, hnb, hst⟩, ?_, hnew⟩
  exact Fr.setCell (p := ⟨b, 0, none⟩) (hfr.trans' hfr1 fun k _ hk => .inr hk) (fun _ => .inl rfl) _

set_option maxHeartbeats 1000000 in
theorem first_g (w : World) (b : Nat) (A : Option Addr) (c lo hi : Nat) (x : UInt8) (hd : Dec w b A c 0 lo hi []) (ha : 241 ≤ x.toNat) (hz : x.toNat ≤ 243) :
    Calls Try.prog 25 #[.pointer (some ⟨b, 0, none⟩), .int .u8 (x.toNat : Int)] w fun e w' => e = .returned (.bool true) ∧
      Turned w w' b A [x] := by
  have h0 := hd.blk.cell 0
  have f0 := hd.blk.frozen 0
  have h1 := hd.blk.cell 1
  have f1 := hd.blk.frozen 1
  have h2 := hd.blk.cell 2
  have f2 := hd.blk.frozen 2
  have h3 := hd.blk.cell 3
  have f3 := hd.blk.frozen 3
  have t0 : (194 : Int) ≤ (x.toNat : Int) := by omega
  have t1 : (224 : Int) ≤ (x.toNat : Int) := by omega
  have t2 : (240 : Int) ≤ (x.toNat : Int) := by omega
  have t3 : ¬ (x.toNat : Int) ≤ 223 := by omega
  have t4 : ¬ (x.toNat : Int) ≤ 239 := by omega
  have t5 : (x.toNat : Int) ≤ 244 := by omega
  have e224 : ((x.toNat : Int) == 224) = false := by simp; omega
  have e237 : ((x.toNat : Int) == 237) = false := by simp; omega
  have e240 : ((x.toNat : Int) == 240) = false := by simp; omega
  have e244 : ((x.toNat : Int) == 244) = false := by simp; omega
  have hst : St [x] 3 128 191 := by
    have hn : needN x.toNat = 3 := by unfold needN; split <;> (try split) <;> (try split) <;> omega
    have hl : loN x.toNat = 128 := by unfold loN; split <;> (try split) <;> omega
    have hh : hiN x.toNat = 191 := by unfold hiN; split <;> (try split) <;> omega
    refine ⟨?_, ?_, ?_, ?_⟩
    · rw [hn]; decide
    · rw [hn]; rfl
    · simp [hl]
    · simp [hh]
  have hown := (((hd.own.setFar (p := ⟨b, 2, none⟩) hd.nb (.int .u8 128)).setFar (p := ⟨b, 3, none⟩) hd.nb (.int .u8 191)).setFar (p := ⟨b, 1, none⟩) hd.nb (.int .i64 3)).alloc (.cells #[.int .u8 (x.toNat : Int)] 5)
  have hbb := (((hd.blk.set_ 2 (.int .u8 128)).set_ 3 (.int .u8 191)).set_ 1 (.int .i64 3)).alloc (.cells #[.int .u8 (x.toNat : Int)] 5)
  have hfr := (Fr.setCell (p := ⟨b, 1, none⟩) (Fr.setCell (p := ⟨b, 3, none⟩) (Fr.setCell (p := ⟨b, 2, none⟩) (Fr.rfl' (Foot b A) w) (fun _ => .inl rfl) (.int .u8 128)) (fun _ => .inl rfl) (.int .u8 191)) (fun _ => .inl rfl) (.int .i64 3)).alloc (.cells #[.int .u8 (x.toNat : Int)] 5)
  have hsz := hfr.size
  have hs : ¬ At A b := hd.nb
  have hrn := reads_new (((w.setCell ⟨b, 2, none⟩ (.int .u8 128)).setCell ⟨b, 3, none⟩ (.int .u8 191)).setCell ⟨b, 1, none⟩ (.int .i64 3)) (.int .u8 (x.toNat : Int)) 5
  rw [show (((w.setCell ⟨b, 2, none⟩ (.int .u8 128)).setCell ⟨b, 3, none⟩ (.int .u8 191)).setCell ⟨b, 1, none⟩ (.int .i64 3)).heap.size = w.heap.size by simp] at hrn
  go_enter Try.func25, Try.ntmps25
  go_wp2_with (
    at_builtin
    refine wpList_append _ rfl (.tmp 66) (.tmp 68) 22 rfl 5 (.int .u8 0) 1 1 Try.underlying22 infoByte rfl (by decide) A 0 c [] rfl hown
      _ _ 1 1 [.int .u8 (x.toNat : Int)] rfl hrn (one_one rfl) (by unfold maxLen; omega) (by omega) ?_
    intro A' c' w1 hown1 hfr1 hat
    have hb1 := hbb.fr hfr1 hs
    have hc1 := hb1.cell 0
    have hf1 := hb1.frozen 0)
  go_ret
  have hlt := hd.blk.lt
  have hnew := at_new (w0 := w) hat (by simp)
  have hnb : ¬ At A' b := fun hk => by
    rcases hnew b hk with h1 | h1
    · exact hs h1
    · omega
  refine ⟨rfl, A', c', _, _, _, ⟨by simpa using hb1.set_ 0 (.slice A' 1 c'), by simpa [cellsOf] using hown1.setFar (p := ⟨b, 0, none⟩) hnb _, hnb, hst⟩, ?_, hnew⟩
  exact Fr.setCell (p := ⟨b, 0, none⟩) (hfr.trans' hfr1 fun k _ hk => .inr hk) (fun _ => .inl rfl) _

set_option maxHeartbeats 1000000 in
theorem first_h (w : World) (b : Nat) (A : Option Addr) (c lo hi : Nat) (x : UInt8) (hd : Dec w b A c 0 lo hi []) (ha : 244 ≤ x.toNat) (hz : x.toNat ≤ 244) :
    Calls Try.prog 25 #[.pointer (some ⟨b, 0, none⟩), .int .u8 (x.toNat : Int)] w fun e w' => e = .returned (.bool true) ∧
      Turned w w' b A [x] := by
  have h0 := hd.blk.cell 0
  have f0 := hd.blk.frozen 0
  have h1 := hd.blk.cell 1
  have f1 := hd.blk.frozen 1
  have h2 := hd.blk.cell 2
  have f2 := hd.blk.frozen 2
  have h3 := hd.blk.cell 3
  have f3 := hd.blk.frozen 3
  have t0 : (194 : Int) ≤ (x.toNat : Int) := by omega
  have t1 : (224 : Int) ≤ (x.toNat : Int) := by omega
  have t2 : (240 : Int) ≤ (x.toNat : Int) := by omega
  have t3 : ¬ (x.toNat : Int) ≤ 223 := by omega
  have t4 : ¬ (x.toNat : Int) ≤ 239 := by omega
  have t5 : (x.toNat : Int) ≤ 244 := by omega
  have e224 : ((x.toNat : Int) == 224) = false := by simp; omega
  have e237 : ((x.toNat : Int) == 237) = false := by simp; omega
  have e240 : ((x.toNat : Int) == 240) = false := by simp; omega
  have e244 : ((x.toNat : Int) == 244) = true := by simp; omega
  have hst : St [x] 3 128 143 := by
    have hn : needN x.toNat = 3 := by unfold needN; split <;> (try split) <;> (try split) <;> omega
    have hl : loN x.toNat = 128 := by unfold loN; split <;> (try split) <;> omega
    have hh : hiN x.toNat = 143 := by unfold hiN; split <;> (try split) <;> omega
    refine ⟨?_, ?_, ?_, ?_⟩
    · rw [hn]; decide
    · rw [hn]; rfl
    · simp [hl]
    · simp [hh]
  have hown := ((((hd.own.setFar (p := ⟨b, 2, none⟩) hd.nb (.int .u8 128)).setFar (p := ⟨b, 3, none⟩) hd.nb (.int .u8 191)).setFar (p := ⟨b, 1, none⟩) hd.nb (.int .i64 3)).setFar (p := ⟨b, 3, none⟩) hd.nb (.int .u8 143)).alloc (.cells #[.int .u8 (x.toNat : Int)] 5)
  have hbb := ((((hd.blk.set_ 2 (.int .u8 128)).set_ 3 (.int .u8 191)).set_ 1 (.int .i64 3)).set_ 3 (.int .u8 143)).alloc (.cells #[.int .u8 (x.toNat : Int)] 5)
  have hfr := (Fr.setCell (p := ⟨b, 3, none⟩) (Fr.setCell (p := ⟨b, 1, none⟩) (Fr.setCell (p := ⟨b, 3, none⟩) (Fr.setCell (p := ⟨b, 2, none⟩) (Fr.rfl' (Foot b A) w) (fun _ => .inl rfl) (.int .u8 128)) (fun _ => .inl rfl) (.int .u8 191)) (fun _ => .inl rfl) (.int .i64 3)) (fun _ => .inl rfl) (.int .u8 143)).alloc (.cells #[.int .u8 (x.toNat : Int)] 5)
  have hsz := hfr.size
  have hs : ¬ At A b := hd.nb
  have hrn := reads_new ((((w.setCell ⟨b, 2, none⟩ (.int .u8 128)).setCell ⟨b, 3, none⟩ (.int .u8 191)).setCell ⟨b, 1, none⟩ (.int .i64 3)).setCell ⟨b, 3, none⟩ (.int .u8 143)) (.int .u8 (x.toNat : Int)) 5
  rw [show ((((w.setCell ⟨b, 2, none⟩ (.int .u8 128)).setCell ⟨b, 3, none⟩ (.int .u8 191)).setCell ⟨b, 1, none⟩ (.int .i64 3)).setCell ⟨b, 3, none⟩ (.int .u8 143)).heap.size = w.heap.size by simp] at hrn
  go_enter Try.func25, Try.ntmps25
  go_wp2_with (
    at_builtin
    refine wpList_append _ rfl (.tmp 66) (.tmp 68) 22 rfl 5 (.int .u8 0) 1 1 Try.underlying22 infoByte rfl (by decide) A 0 c [] rfl hown
      _ _ 1 1 [.int .u8 (x.toNat : Int)] rfl hrn (one_one rfl) (by unfold maxLen; omega) (by omega) ?_
    intro A' c' w1 hown1 hfr1 hat
    have hb1 := hbb.fr hfr1 hs
    have hc1 := hb1.cell 0
    have hf1 := hb1.frozen 0)
  go_ret
  have hlt := hd.blk.lt
  have hnew := at_new (w0 := w) hat (by simp)
  have hnb : ¬ At A' b := fun hk => by
    rcases hnew b hk with h1 | h1
    · exact hs h1
    · omega
  refine ⟨rfl, A', c', _, _, _, ⟨by simpa using hb1.set_ 0 (.slice A' 1 c'), by simpa [cellsOf] using hown1.setFar (p := ⟨b, 0, none⟩) hnb _, hnb, hst⟩, ?_, hnew⟩
  exact Fr.setCell (p := ⟨b, 0, none⟩) (hfr.trans' hfr1 fun k _ hk => .inr hk) (fun _ => .inl rfl) _

set_option maxHeartbeats 1000000 in
theorem first_lo (w : World) (b : Nat) (A : Option Addr) (c lo hi : Nat) (x : UInt8) (hd : Dec w b A c 0 lo hi []) (ha : x.toNat < 194) :
    Calls Try.prog 25 #[.pointer (some ⟨b, 0, none⟩), .int .u8 (x.toNat : Int)] w fun e w' => e = .returned (.bool false) ∧ Turned w w' b A [] := by
  have h0 := hd.blk.cell 0
  have f0 := hd.blk.frozen 0
  have h1 := hd.blk.cell 1
  have f1 := hd.blk.frozen 1
  have h2 := hd.blk.cell 2
  have f2 := hd.blk.frozen 2
  have h3 := hd.blk.cell 3
  have f3 := hd.blk.frozen 3
  have a194 : ¬ (194 : Int) ≤ (x.toNat : Int) := by omega
  have a224 : ¬ (224 : Int) ≤ (x.toNat : Int) := by omega
  have a240 : ¬ (240 : Int) ≤ (x.toNat : Int) := by omega
  go_enter Try.func25, Try.ntmps25
  go_wp2_with fail
  go_ret
  refine ⟨rfl, A, c, 0, 128, 191, ⟨by simpa using (hd.blk.set_ 2 (.int .u8 128)).set_ 3 (.int .u8 191), (hd.own.setFar (p := ⟨b, 2, none⟩) hd.nb _).setFar (p := ⟨b, 3, none⟩) hd.nb _, hd.nb, rfl⟩, ?_, fun _ h => .inl h⟩
  exact Fr.setCell (p := ⟨b, 3, none⟩) (Fr.setCell (p := ⟨b, 2, none⟩) (Fr.rfl' (Foot b A) w) (fun _ => .inl rfl) _) (fun _ => .inl rfl) _

set_option maxHeartbeats 1000000 in
theorem first_hi (w : World) (b : Nat) (A : Option Addr) (c lo hi : Nat) (x : UInt8) (hd : Dec w b A c 0 lo hi []) (ha : 244 < x.toNat) :
    Calls Try.prog 25 #[.pointer (some ⟨b, 0, none⟩), .int .u8 (x.toNat : Int)] w fun e w' => e = .returned (.bool false) ∧ Turned w w' b A [] := by
  have h0 := hd.blk.cell 0
  have f0 := hd.blk.frozen 0
  have h1 := hd.blk.cell 1
  have f1 := hd.blk.frozen 1
  have h2 := hd.blk.cell 2
  have f2 := hd.blk.frozen 2
  have h3 := hd.blk.cell 3
  have f3 := hd.blk.frozen 3
  have a194 : (194 : Int) ≤ (x.toNat : Int) := by omega
  have a224 : (224 : Int) ≤ (x.toNat : Int) := by omega
  have a240 : (240 : Int) ≤ (x.toNat : Int) := by omega
  have z223 : ¬ (x.toNat : Int) ≤ 223 := by omega
  have z239 : ¬ (x.toNat : Int) ≤ 239 := by omega
  have z244 : ¬ (x.toNat : Int) ≤ 244 := by omega
  go_enter Try.func25, Try.ntmps25
  go_wp2_with fail
  go_ret
  refine ⟨rfl, A, c, 0, 128, 191, ⟨by simpa using (hd.blk.set_ 2 (.int .u8 128)).set_ 3 (.int .u8 191), (hd.own.setFar (p := ⟨b, 2, none⟩) hd.nb _).setFar (p := ⟨b, 3, none⟩) hd.nb _, hd.nb, rfl⟩, ?_, fun _ h => .inl h⟩
  exact Fr.setCell (p := ⟨b, 3, none⟩) (Fr.setCell (p := ⟨b, 2, none⟩) (Fr.rfl' (Foot b A) w) (fun _ => .inl rfl) _) (fun _ => .inl rfl) _

theorem first_any (w : World) (b : Nat) (A : Option Addr) (c lo hi : Nat) (x : UInt8) (hd : Dec w b A c 0 lo hi []) :
    Calls Try.prog 25 #[.pointer (some ⟨b, 0, none⟩), .int .u8 (x.toNat : Int)] w fun e w' => e = .returned (.bool (decide (needN x.toNat ≠ 0))) ∧ Turned w w' b A (if needN x.toNat ≠ 0 then [x] else []) := by
  by_cases h : 194 ≤ x.toNat ∧ x.toNat ≤ 244
  · have hn : needN x.toNat ≠ 0 := by unfold needN; split <;> (try split) <;> (try split) <;> omega
    rw [if_pos hn, decide_eq_true hn]
    by_cases h1 : x.toNat ≤ 223
    · exact first_a w b A c lo hi x hd (by omega) (by omega)
    by_cases h2 : x.toNat ≤ 224
    · exact first_b w b A c lo hi x hd (by omega) (by omega)
    by_cases h3 : x.toNat ≤ 236
    · exact first_c w b A c lo hi x hd (by omega) (by omega)
    by_cases h4 : x.toNat ≤ 237
    · exact first_d w b A c lo hi x hd (by omega) (by omega)
    by_cases h5 : x.toNat ≤ 239
    · exact first_e w b A c lo hi x hd (by omega) (by omega)
    by_cases h6 : x.toNat ≤ 240
    · exact first_f w b A c lo hi x hd (by omega) (by omega)
    by_cases h7 : x.toNat ≤ 243
    · exact first_g w b A c lo hi x hd (by omega) (by omega)
    · exact first_h w b A c lo hi x hd (by omega) (by omega)
  · have hn : needN x.toNat = 0 := by unfold needN; split <;> (try split) <;> (try split) <;> omega
    rw [if_neg (by simpa using hn), decide_eq_false (by simpa using hn)]
    by_cases h1 : x.toNat < 194
    · exact first_lo w b A c lo hi x hd h1
    · exact first_hi w b A c lo hi x hd (by omega)

end Go.Proofs.Ytlgffgmfaejmeaa
