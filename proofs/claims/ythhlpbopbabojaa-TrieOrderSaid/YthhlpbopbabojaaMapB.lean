/-
  A map from bytes to numbers that the call has made: what it holds, looked up, written.
-/
import Derived.Test.YthhlpbopbabojaaStr
import Derived.Test.YthhlpbopbabojaaChecked
import Derived.Maps.OwnSet
namespace Go.Proofs.Ythhlpbopbabojaa
open Go.RowKit Go.Maps

abbrev DU : Type := DataW Unit
theorem keyed8 : Keyed Try.prog 5 := int_keyed Try.underlying5
theorem zeroI (w : World) : (zeroValue 3).run Try.prog w = .ok (.int .i64 0) w := by kernel_rfl
def kb (c : UInt8) : Lit := .int .u8 (c.toNat : Int)
theorem kb_wf (c : UInt8) : (kb c).wf = true := by
  have := c.toNat_lt
  simp [kb, Lit.wf, IntKind.min, IntKind.max, IntKind.signed, IntKind.bits]
  omega
theorem kb_key (c : UInt8) : keyOf Try.prog 5 (.int .u8 (c.toNat : Int)) = some (kb c) := keyOf_int_mk Try.underlying5 (kb_wf c)
theorem kb_lit (c : UInt8) : WideAt.IsKeyLit (kb c) := keyed8.key (kb_key c)
theorem kb_ne {c d : UInt8} (h : c ≠ d) : kb c ≠ kb d := by
  intro e
  unfold kb at e
  injection e with _ e
  exact h (UInt8.toNat_inj.1 (by omega))

/-- the map in block b holds just f; it has been written at most n times -/
def MapB (w : World) (b n : Nat) (f : UInt8 → Option Nat) : Prop :=
  ∃ D : DU, w.ownsMap Try.prog 5 (plainElem Try.prog 3) b n D ∧ IsMap D ∧
    ∀ c, (f c = none → has D (kb c) = false) ∧ (∀ j, f c = some j → j ≤ 1048576 ∧ has D (kb c) = true ∧ ∀ z, D.atKey (kb c) z = .lit (.int .i64 (j : Int)))
section
variable {w w' : World} {b n : Nat} {f : UInt8 → Option Nat}
theorem MapB.lt (h : MapB w b n f) : b < w.heap.size := by
  obtain ⟨D, h, _⟩ := h
  exact h.lt
theorem MapB.made (w : World) : MapB (w.alloc (.map #[] 0)) w.heap.size 0 fun _ => none :=
  ⟨.map [], World.ownsMap_made _ _ _ _, isMap_empty, fun c => ⟨fun _ => rfl, fun _ h => by cases h⟩⟩
theorem MapB.kept (h : MapB w b n f) (hk : w'.heap[b]? = w.heap[b]?) : MapB w' b n f := by
  obtain ⟨D, ⟨es, clock, hb, r⟩, hr⟩ := h
  exact ⟨D, ⟨es, clock, hk.trans hb, r⟩, hr⟩
theorem MapB.fr {S : Nat → Prop} (h : MapB w b n f) (hf : Fr S w w') (hs : ¬ S b) : MapB w' b n f := h.kept (hf.block b h.lt hs)
theorem MapB.mono (h : MapB w b n f) {m : Nat} (hm : n ≤ m) : MapB w b m f := by
  obtain ⟨D, hD, r⟩ := h
  exact ⟨D, hD.mono hm, r⟩
theorem MapB.same {g : UInt8 → Option Nat} (h : MapB w b n f) (hg : ∀ c, g c = f c) : MapB w b n g := by
  rw [funext hg]
  exact h
theorem MapB.no_cells (h : MapB w b n f) {cs : Array Value} {t : TypeId} {fz : Nat × Nat} : w.heap[b]? ≠ some (.cells cs t fz) := by
  obtain ⟨D, ⟨es, clock, hb, _⟩, _⟩ := h
  rw [hb]
  intro e
  cases e
set_option maxRecDepth 100000 in
/-- 'v, is := m[c]' -/
theorem MapB.look (h : MapB w b n f) (c : UInt8) : (Instr.lookup 46 (.map (some b)) (.int .u8 (c.toNat : Int)) true).run Try.prog w = .ok (.tuple #[.int .i64 (((f c).getD 0 : Nat) : Int), .bool (f c).isSome]) w := by
  obtain ⟨D, hD, _, hf⟩ := h
  obtain ⟨v, ps, hrun, hv⟩ := hD.look_ok keyed8 Try.underlying46 (zeroI w) (plainElem_int Try.underlying3 (by decide)) (kb_key c)
  obtain ⟨x, rfl, hx, _⟩ := plainElem_int_inv Try.underlying3 hv
  simp only [Prod.mk.injEq] at hx
  rw [hrun]
  cases hfc : f c with
  | none =>
    have h1 := (hf c).1 hfc
    rw [atKey_of_not_has h1] at hx
    have h2 := hx.1
    injection h2 with h2
    injection h2 with _ h2
    rw [← h2, h1]
    rfl
  | some j =>
    obtain ⟨_, h1, h2⟩ := (hf c).2 j hfc
    rw [h2] at hx
    have h3 := hx.1
    injection h3 with h3
    injection h3 with _ h3
    rw [← h3, h1]
    rfl
set_option maxRecDepth 100000 in
/-- 'm[c]' -/
theorem MapB.look1 (h : MapB w b n f) (c : UInt8) : (Instr.lookup 46 (.map (some b)) (.int .u8 (c.toNat : Int)) false).run Try.prog w = .ok (.int .i64 (((f c).getD 0 : Nat) : Int)) w := by
  obtain ⟨D, hD, _, hf⟩ := h
  obtain ⟨x, hrun, hx, _⟩ := hD.lookup_int keyed8 Try.underlying46 Try.underlying3 (zeroI w) (kb_key c)
  rw [hrun]
  cases hfc : f c with
  | none =>
    have h1 := (hf c).1 hfc
    rw [atKey_of_not_has h1] at hx
    injection hx with h2
    injection h2 with _ h2
    rw [← h2]
    rfl
  | some j =>
    obtain ⟨_, h1, h2⟩ := (hf c).2 j hfc
    rw [h2] at hx
    injection hx with h3
    injection h3 with _ h3
    rw [← h3]
    rfl
/-- 'm[c] = j' -/
theorem MapB.put (h : MapB w b n f) (c : UInt8) (j : Nat) (hj : j ≤ 1048576) (hn : n < maxLen) :
    ∃ w', (Instr.mapUpdate 46 (.map (some b)) (.int .u8 (c.toNat : Int)) (.int .i64 (j : Int))).run Try.prog w = .ok () w' ∧ MapB w' b (n + 1) (fun d => if d = c then some j else f d) ∧ Fr (fun k => k = b) w w' := by
  obtain ⟨D, hD, hm, hf⟩ := h
  have hwf : (Lit.int .i64 (j : Int)).wf = true := by
    simp [Lit.wf, IntKind.min, IntKind.max, IntKind.signed, IntKind.bits]
    omega
  obtain ⟨w', hrun, h1, h2⟩ := hD.update keyed8 Try.underlying46 hn (kb_key c) (plainElem_int Try.underlying3 hwf)
  refine ⟨w', hrun, ⟨_, h1, hm.put _ _, fun d => ?_⟩, Fr.of_grown h2 fun k hk _ => by cases hk; rfl⟩
  by_cases hd : d = c
  · subst hd
    simp only [if_true]
    refine ⟨fun h => (by cases h), fun i hi => ?_⟩
    injection hi with hi
    subst hi
    exact ⟨hj, has_put_same hm (kb_lit d) _, fun z => atKey_put_same hm (kb_lit d) _ z⟩
  · simp only [if_neg hd]
    refine ⟨fun h => ?_, fun i hi => ?_⟩
    · rw [has_put_other (kb_ne hd)]
      exact (hf d).1 h
    · obtain ⟨g1, g2, g3⟩ := (hf d).2 i hi
      exact ⟨g1, by rw [has_put_other (kb_ne hd)]; exact g2, fun z => by rw [atKey_put_other (kb_ne hd)]; exact g3 z⟩
end
end Go.Proofs.Ythhlpbopbabojaa
