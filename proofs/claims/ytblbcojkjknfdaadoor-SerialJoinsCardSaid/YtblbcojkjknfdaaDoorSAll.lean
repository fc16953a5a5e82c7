/-
  serial.All, walked (the seat of SerialJoins).
-/
import Derived.Test.YtblbcojkjknfdaaDoorOne
namespace Go.Proofs.YtblbcojkjknfdaaDoor
open Go.RowKit

theorem Bld.fr {b : Nat} {acc : Bys} {w w' : World} (h : Bld b acc w) (hf : Fr Nil w w') : Bld b acc w' := by
  have key : ∀ p, Lib.BuilderAtF 40 5 b b p (Lib.byteCells acc) w → Lib.BuilderAtF 40 5 b b p (Lib.byteCells acc) w' := fun p h => by
    have hlt := h.lt
    obtain ⟨hB, v, hb, hown, hne⟩ := h
    refine ⟨hB, v, (hf.block b hlt fun x => x).trans hb, hown.kept (row := none) ?_ ?_, hne⟩
    · exact ⟨hf.os, hf.tape, hf.output, hf.size, fun k hk _ => hf.block k hk fun x => x⟩
    · cases v.ownBlock <;> simp
  exact Or.imp (key _) (key _) h
theorem agg_tok (t : Tok) : (.agg (tokCells t).toArray : Value) = .agg #[.int .i64 t.kind, .string t.name, .string t.data, .slice t.A t.n t.c, .bool t.self] := rfl

def AllI (w : World) (l : List Tok) (n : Nat) (s8 : Value) (wr : World) : Prop :=
  ∃ k : Nat, k ≤ n ∧ s8 = .int .i64 k ∧ Bld w.heap.size (allB (l.take k)) wr ∧ (allB (l.take k)).length ≤ 3000000 * k ∧ Below w.heap.size w wr

set_option maxRecDepth 100000 in
set_option maxHeartbeats 8000000 in
theorem sall_any (w : World) (A : Option Addr) (n c : Nat) (l : List Tok) (h : Toks w w.heap.size A n l) (hn : n ≤ 1000) (hsmall : ∀ t ∈ l, SmallTok t) :
    Calls Tryd.prog 7 #[.slice A n c] w fun e w' => e = .returned (.string (str (allB l))) ∧ Fr Nil w w' := by
  have hl := h.len
  have HSM := Lib.hid hsmall
  have HL := Lib.hid hl
  clear hsmall hl
  go_enter Tryd.func7, Tryd.ntmps7
  go_wp2_with fail
  go_loopw [5, 8] (fun _ s8 wr => AllI w l n s8 wr) (fun _ i _ => n - (intOf i).toNat)
  case atStart => exact ⟨0, Nat.zero_le _, rfl, Lib.IsBuilderF.of (Lib.fresh_isBuilder 40 5 w), Nat.le_refl _, (Below.refl _ w).alloc (Nat.le_refl _) _⟩
  case round =>
    obtain ⟨k, hk, rfl, hI, hlen, hbw⟩ := hrel
    by_cases hlt : k < n
    · have hbs := hbw.size
      obtain ⟨ad, t, rfl, hab, ht, hok, k0, k1, k2, k3, k4⟩ := tok_at (h.below hbw) hlt
      have hsm := HSM.out t (List.mem_of_getElem? ht)
      have HT := Lib.hid (allB_take ht)
      have hol := oneB_len hsm hok.len
      have hone := one_any (wr.alloc (.cells #[.int .i64 t.kind, .string t.name, .string t.data, .slice t.A t.n t.c, .bool t.self] 28)) w.heap.size t
        (hok.fr ((Fr.rfl' Nil wr).alloc _) hbs fun _ x => x.elim) (by simp; omega) hsm
      rw [agg_tok] at hone
      have HONE := Lib.hid hone
      have hb1 := (Bld.fr hI ((Fr.rfl' Nil wr).alloc (.cells #[.int .i64 t.kind, .string t.name, .string t.data, .slice t.A t.n t.c, .bool t.self] 28)))
      have HB1 := Lib.hid hb1
      have hbw1 := hbw.alloc hbs (.cells #[.int .i64 t.kind, .string t.name, .string t.data, .slice t.A t.n t.c, .bool t.self] 28)
      have HBW1 := Lib.hid hbw1
      clear ht hok hsm hone hb1 hbw1 hI
      go_wp2_with fail
      refine HONE.out.mono ?_
      rintro e w2 ⟨rfl, f2⟩
      have hz2 := f2.size
      rw [World.size_alloc] at hz2
      have hws := Tryd.Builder_WriteString_k w.heap.size w.heap.size (Lib.byteCells (allB (l.take k))) (str (oneB t)) w2 (Bld.fr HB1.out f2) (by rw [Lib.byteCells_length, size_str]; omega) (by omega)
      rw [show Lib.strCells (str (oneB t)) = Lib.byteCells (oneB t) from rfl, ← Lib.byteCells_append, ← HT.out] at hws
      have HWS := Lib.hid hws
      clear hws
      go_wp2_with fail
      refine HWS.out.mono ?_
      rintro e w3 ⟨rfl, h1, h2, h3⟩
      go_wp2_with fail
      go_roundw
      case rel => exact ⟨k + 1, by omega, by go_num, .inr h1, by rw [HT.out, List.length_append]; omega, (HBW1.out.trans (f2.to_below (by rw [World.size_alloc]; omega) fun _ x => x.elim)).trans h2⟩
      case measure => simp [intOf]; omega
    · obtain rfl : k = n := by omega
      have hta : l.take k = l := List.take_of_length_le (by rw [HL.out]; exact Nat.le_refl _)
      rw [hta] at hI
      clear hta
      go_wp2_with (go_at_call 13; refine (Tryd.Builder_String_any_k w.heap.size w.heap.size (allB l) _ hI hbw.size).mono ?_)
      rintro e w1 ⟨rfl, _, b1, _⟩
      go_wp2_with fail
      go_ret
      exact ⟨rfl, Fr.of_below (hbw.trans b1)⟩
end Go.Proofs.YtblbcojkjknfdaaDoor
