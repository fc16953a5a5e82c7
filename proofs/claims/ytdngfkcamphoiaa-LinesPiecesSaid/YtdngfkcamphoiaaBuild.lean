/-
  strings.Builder of the call's own: copyCheck and WriteByte, walked; String by the shelf's contract.
-/
import Derived.Test.YtdngfkcamphoiaaStr
import Derived.Test.YtdngfkcamphoiaaChecked
import Derived.Test.YtdngfkcamphoiaaShelf
import Derived.Lib.Builder
import Derived.Laws.Externs
namespace Go.Proofs.Ytdngfkcamphoiaa
open Go.RowKit

theorem infoByte : (Try.prog.info? 5).map (fun i => (i.zero, i.size, i.bytes)) = some (some (.int .u8 0), 1, 1) := by kernel_rfl
theorem infoBld : (Try.prog.info? 42).map (·.size) = some 2 := by kernel_rfl
theorem liesBld : liesAt Try.prog Try.prog.depth 42 (2 / Try.prog.cellsOf 42) 0 42 1 = true := by kernel_rfl

/-- A Builder in block b that holds the bytes l; its buffer lies behind it. -/
def BldP (w : World) (b : Nat) (p : Value) (l : List UInt8) : Prop :=
  ∃ A c, Blk w b 42 #[p, .slice A l.length c] ∧ Own w 5 1 A l.length c (cellsOf l) ∧ ∀ k, At A k → b < k
def Bld (w : World) (b : Nat) (l : List UInt8) : Prop := BldP w b (.pointer none) l ∨ BldP w b (.pointer (some ⟨b, 0, none⟩)) l
section
variable {w w' : World} {b : Nat} {l : List UInt8} {p : Value} {S : Nat → Prop}
theorem bldP_fr (h : BldP w b p l) (f : Fr S w w') (hs : ∀ k, b ≤ k → k < w.heap.size → ¬ S k) : BldP w' b p l := by
  obtain ⟨A, c, hb, ho, hA⟩ := h
  exact ⟨A, c, hb.fr f (hs b (Nat.le_refl _) hb.lt), ho.fr f (fun k hk => hs k (Nat.le_of_lt (hA k hk)) (ho.lt hk)), hA⟩
theorem bld_fr (h : Bld w b l) (f : Fr S w w') (hs : ∀ k, b ≤ k → k < w.heap.size → ¬ S k) : Bld w' b l := by
  rcases h with h | h
  · exact .inl (bldP_fr h f hs)
  · exact .inr (bldP_fr h f hs)
theorem bldP_builder (h : BldP w b p l) : Lib.BuilderAt 42 5 b b p (Lib.byteCells l) w := by
  obtain ⟨A, c, hb, ho, hA⟩ := h
  refine ⟨Nat.le_refl _, _, hb, ⟨by simp [Lib.byteCells], ?_⟩, fun e => by have := hA b (at_ownBlock e); omega⟩
  rw [Lib.byteCells_length]
  rcases ho.2 with h2 | ⟨g, cap, cur, hv, hg, hh, r⟩
  · exact .inl h2
  · injection hv with hv1 hv2 hv3
    have := hA g ⟨_, hv1, rfl⟩
    exact .inr ⟨g, cap, cur, by rw [hv1, hv3], by omega, hh, r⟩
theorem bld_builder (h : Bld w b l) : Lib.IsBuilder 42 5 b b (Lib.byteCells l) w := by
  rcases h with h | h
  · exact .inl (bldP_builder h)
  · exact .inr (bldP_builder h)
theorem bld_lt (h : Bld w b l) : b < w.heap.size := by
  rcases h with ⟨A, c, hb, _⟩ | ⟨A, c, hb, _⟩
  · exact hb.lt
  · exact hb.lt
theorem bld_new (w : World) : Bld (w.alloc (.cells #[.pointer none, .slice none 0 0] 42)) w.heap.size [] :=
  .inl ⟨none, 0, Blk.new _ _ _, Own.nil _ _ _, fun k hk => (not_at_none k hk).elim⟩
end

theorem copyCheck_used (w : World) (b : Nat) (h0 : w.cell? ⟨b, 0, none⟩ = some (.pointer (some ⟨b, 0, none⟩))) :
    Calls Try.prog 24 #[.pointer (some ⟨b, 0, none⟩)] w fun e w' => e = .returned (.tuple #[]) ∧ w' = w := by
  obtain ⟨j, hj, _⟩ := Option.map_eq_some_iff.1 infoBld
  have hn := fun (W : World) => Lib.run_neq_ptr_same (P := Try.prog) W ⟨b, 0, none⟩ Try.underlying39 hj
  go_enter Try.func24, Try.ntmps24
  go_wp2
  go_end0
  exact ⟨rfl, rfl⟩

theorem copyCheck_fresh (w : World) (b : Nat) (v : Value) (h : Blk w b 42 #[.pointer none, v]) :
    Calls Try.prog 24 #[.pointer (some ⟨b, 0, none⟩)] w fun e w' => e = .returned (.tuple #[]) ∧ w' = w.setCell ⟨b, 0, none⟩ (.pointer (some ⟨b, 0, none⟩)) := by
  obtain ⟨j, hj, hjs⟩ := Option.map_eq_some_iff.1 infoBld
  have h0 := h.cell 0
  have hfz := h.frozen 0
  have hsh : w.shape? b = some (42, 2) := by
    unfold Blk at h
    simp [World.shape?, h]
  simp at h0
  go_enter Try.func24, Try.ntmps24
  go_wp2
  rw [Lib.run_to_unsafe w ⟨b, 0, none⟩ Try.underlying39 Try.underlying51 hj (by rw [hjs]; decide) hsh (Nat.zero_lt_succ 1)]
  simp only [Result.andThen]
  rw [Oper.upon_value]
  go_wp2
  rw [run_callFunc_extern Try.func28 (by kernel_rfl) (by kernel_rfl) (by kernel_rfl) (e := Extern.AbiNoEscape.same) (by kernel_rfl)]
  rw [Lib.run_noEscape]
  simp only [Result.andThen]
  rw [Oper.upon_value]
  go_wp2
  rw [Lib.run_from_unsafe w ⟨b, 0, none⟩ Try.underlying51 Try.underlying39 hj hsh liesBld]
  simp only [Result.andThen]
  rw [Oper.upon_value]
  go_wp2
  go_end0
  exact ⟨rfl, rfl⟩

theorem copyCheck_any (w : World) (b : Nat) (l : List UInt8) (h : Bld w b l) :
    Calls Try.prog 24 #[.pointer (some ⟨b, 0, none⟩)] w fun e w' => e = .returned (.tuple #[]) ∧ BldP w' b (.pointer (some ⟨b, 0, none⟩)) l ∧ Fr (fun k => b ≤ k) w w' := by
  rcases h with ⟨A, c, hb, ho, hA⟩ | ⟨A, c, hb, ho, hA⟩
  · refine (copyCheck_fresh w b _ hb).mono ?_
    rintro e w' ⟨rfl, rfl⟩
    refine ⟨rfl, ⟨A, c, by simpa using hb.set_ 0 (.pointer (some ⟨b, 0, none⟩)), ho.setFar (p := ⟨b, 0, none⟩) (fun hk => by have := hA b hk; omega) _, hA⟩, ?_⟩
    exact Fr.setCell (p := ⟨b, 0, none⟩) (Fr.rfl' _ _) (fun _ => Nat.le_refl _) _
  · refine (copyCheck_used w b (hb.cell 0)).mono ?_
    rintro e w' ⟨rfl, rfl⟩
    exact ⟨rfl, ⟨A, c, hb, ho, hA⟩, Fr.rfl' _ _⟩

set_option maxHeartbeats 400000 in
theorem writeByte_any (w : World) (b : Nat) (l : List UInt8) (c : UInt8) (h : Bld w b l) (hl : l.length ≤ 16777216) :
    Calls Try.prog 20 #[.pointer (some ⟨b, 0, none⟩), .int .u8 (c.toNat : Int)] w fun e w' => e = .returned .nilIface ∧ Bld w' b (l ++ [c]) ∧ Fr (fun k => b ≤ k) w w' := by
  go_enter Try.func20, Try.ntmps20
  go_wp2_with fail
  refine (copyCheck_any w b l h).mono ?_
  rintro e w1 ⟨rfl, ⟨A, cp, hb, ho, hA⟩, f1⟩
  have c1 := hb.cell 1
  simp at c1
  have hbb := hb.alloc (.cells #[.int .u8 (c.toNat : Int)] 5)
  have hs : ¬ At A b := fun hk => by have := hA b hk; omega
  go_wp2_with (
    at_builtin
    refine wpList_append _ rfl (.tmp 11) (.tmp 13) 40 rfl 5 (.int .u8 0) 1 1 Try.underlying40 infoByte rfl (by decide) A l.length cp (cellsOf l) rfl (ho.alloc _)
      _ _ 1 1 [.int .u8 (c.toNat : Int)] rfl (reads_new _ _ _) (one_one rfl) (by unfold maxLen; omega) (by omega) ?_
    intro A' c' w2 hown2 hfr hat
    have hb2 := hbb.fr hfr hs
    have hc2 := hb2.cell 1
    have hf2 := hb2.frozen 1)
  go_ret
  have hlt := hb.lt
  have hnew : ∀ k, At A' k → b < k := fun k hk => by
    rcases at_new (w0 := w1) hat (by simp) k hk with h1 | h1
    · exact hA k h1
    · omega
  have hnb : ¬ At A' b := fun hk => by have := hnew b hk; omega
  refine ⟨rfl, .inr ⟨A', c', ?_, ?_, hnew⟩, ?_⟩
  · rw [List.length_append]
    simpa using hb2.set_ 1 (.slice A' (l.length + 1) c')
  · rw [List.length_append, cellsOf_append]
    exact hown2.setFar (p := ⟨b, 1, none⟩) hnb _
  · refine Fr.setCell (S := fun k => b ≤ k) (p := ⟨b, 1, none⟩) ((f1.alloc _).trans' hfr fun k hk hk' => ?_) (fun _ => Nat.le_refl _) _
    have := hA k hk'
    omega

theorem string_any (w : World) (b : Nat) (l : List UInt8) (h : Bld w b l) :
    Calls Try.prog 21 #[.pointer (some ⟨b, 0, none⟩)] w fun e w' => e = .returned (.string (str l)) ∧ Fr (fun k => b ≤ k) w w' := by
  refine (Try.Builder_String_any b b l w (bld_builder h) (Nat.le_of_lt (bld_lt h))).mono ?_
  rintro e w' ⟨rfl, hb⟩
  exact ⟨rfl, ⟨hb.os, hb.tape, hb.output, hb.size, fun k hk hn => hb.block k (by omega)⟩⟩
end Go.Proofs.Ytdngfkcamphoiaa
