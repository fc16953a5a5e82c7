/-
  A trie in memory; Step, Word, walked.
-/
import Derived.Test.YthhlpbopbabojaaTrieP
import Derived.Test.YthhlpbopbabojaaArgs
import Derived.Test.YthhlpbopbabojaaBytes
namespace Go.Proofs.Ythhlpbopbabojaa
open Go.RowKit

/-- a node's two cells -/
def nodeCells (x : Nat × Int) : List Value := [.map (some x.1), .int .i64 x.2]
theorem node_at {ns : List (Nat × Int)} {i : Nat} {x : Nat × Int} (h : ns[i]? = some x) : (ns.flatMap nodeCells)[i * 2]? = some (.map (some x.1)) ∧ (ns.flatMap nodeCells)[i * 2 + 1]? = some (.int .i64 x.2) := by
  constructor
  · rw [flatMap_get nodeCells 2 (by decide) (fun _ => rfl), show i * 2 / 2 = i by omega, h, show i * 2 % 2 = 0 by omega]
    rfl
  · rw [flatMap_get nodeCells 2 (by decide) (fun _ => rfl), show (i * 2 + 1) / 2 = i by omega, h, show (i * 2 + 1) % 2 = 1 by omega]
    rfl
theorem nodes_len (ns : List (Nat × Int)) : (ns.flatMap nodeCells).length = ns.length * 2 := flatMap_len nodeCells 2 (fun _ => rfl) ns

/-- the trie in block b: its words L, its places P with their maps and words ns; all its blocks from base on -/
def TrieAt (w : World) (base b : Nat) (L : List ByteArray) (P : List Pth) (ns : List (Nat × Int)) : Prop :=
  ∃ A c B d, Blk w b 51 #[.slice A L.length c, .slice B P.length d] ∧ Own w 9 1 A L.length c (L.map .string) ∧ Own w 48 2 B P.length d (ns.flatMap nodeCells) ∧
    ns.length = P.length ∧ (∀ (i : Nat) (x : Nat × Int), ns[i]? = some x → base ≤ x.1 ∧ MapB w x.1 P.length (kid P i)) ∧ (∀ (i j : Nat) (x y : Nat × Int), ns[i]? = some x → ns[j]? = some y → x.1 = y.1 → i = j) ∧
    base ≤ b ∧ (∀ k, At A k → base ≤ k) ∧ (∀ k, At B k → base ≤ k)
section
variable {w w' : World} {base b : Nat} {L : List ByteArray} {P : List Pth} {ns : List (Nat × Int)} {S : Nat → Prop}
theorem TrieAt.fr (h : TrieAt w base b L P ns) (hf : Fr S w w') (hs : ∀ k, base ≤ k → k < w.heap.size → ¬ S k) : TrieAt w' base b L P ns := by
  obtain ⟨A, c, B, d, hb, ho, hn, hl, hm, hi, h1, h2, h3⟩ := h
  exact ⟨A, c, B, d, hb.fr hf (hs b h1 hb.lt), ho.fr hf (fun k hk => hs k (h2 k hk) (ho.lt hk)), hn.fr hf (fun k hk => hs k (h3 k hk) (hn.lt hk)), hl,
    fun i x hx => ⟨(hm i x hx).1, (hm i x hx).2.fr hf (hs _ (hm i x hx).1 (hm i x hx).2.lt)⟩, hi, h1, h2, h3⟩
theorem TrieAt.lt (h : TrieAt w base b L P ns) : base ≤ b ∧ b < w.heap.size := by
  obtain ⟨A, c, B, d, hb, ho, hn, hl, hm, hi, h1, h2, h3⟩ := h
  exact ⟨h1, hb.lt⟩
end

/-- what Step tells -/
def stepR (P : List Pth) (z : Int) (c : UInt8) : Int × Bool :=
  if 0 ≤ z ∧ z < P.length then ((((kid P z.toNat c).getD 0 : Nat) : Int), (kid P z.toNat c).isSome) else (0, false)
/-- what Word tells -/
def wordR (P : List Pth) (ns : List (Nat × Int)) (z : Int) : Int × Bool :=
  if 0 ≤ z ∧ z < P.length ∧ (ns.getD z.toNat (0, -1)).2 ≠ -1 then ((ns.getD z.toNat (0, -1)).2, true) else (0, false)
theorem retIB {w w' : World} {r : Int × Bool} {z : Int} {k : Bool} (h : r = (z, k)) (hf : w = w') : Ending.returned (.tuple #[.int .i64 z, .bool k]) = .returned (.tuple #[.int .i64 r.1, .bool r.2]) ∧ w = w' := by
  subst h
  exact ⟨rfl, hf⟩

set_option maxRecDepth 100000 in
set_option maxHeartbeats 1000000 in
theorem step_any (w : World) (base b : Nat) (L : List ByteArray) (P : List Pth) (ns : List (Nat × Int)) (h : TrieAt w base b L P ns) (z : Int) (c : UInt8) :
    Calls Try.prog 11 #[.pointer (some ⟨b, 0, none⟩), .int .i64 z, .int .u8 (c.toNat : Int)] w fun e w' => e = .returned (.tuple #[.int .i64 (stepR P z c).1, .bool (stepR P z c).2]) ∧ w = w' := by
  obtain ⟨A, cw, B, d, hb, ho, hn, hl, hm, hi, h1, h2, h3⟩ := h
  have hc1 := hb.cell 1
  simp at hc1
  by_cases hz : 0 ≤ z
  · obtain ⟨i, rfl⟩ : ∃ i : Nat, z = i := ⟨z.toNat, by omega⟩
    have hz' : ¬ (i : Int) < 0 := by omega
    by_cases hlt : i < P.length
    · have HR := Lib.hid (show stepR P i c = ((((kid P i c).getD 0 : Nat) : Int), (kid P i c).isSome) by unfold stepR; rw [if_pos ⟨hz, by omega⟩]; rfl)
      obtain ⟨x, hx⟩ : ∃ x, ns[i]? = some x := ⟨_, List.getElem?_eq_getElem (by omega)⟩
      obtain ⟨g, rfl, hg⟩ := hn.form (by omega)
      have hcell := hn.cell (i * 2) (by omega)
      rw [(node_at hx).1] at hcell
      have hlook := (hm i x hx).2.look c
      clear hl hx
      go_enter Try.func11, Try.ntmps11
      go_wp2
      go_ret2
      exact retIB HR.out rfl
    · have HR := Lib.hid (show stepR P i c = (0, false) by unfold stepR; rw [if_neg (by omega)])
      clear hl
      go_enter Try.func11, Try.ntmps11
      go_wp2
      go_ret2
      exact retIB HR.out rfl
  · have HR := Lib.hid (show stepR P z c = (0, false) by unfold stepR; rw [if_neg (by omega)])
    have hz' : z < 0 := by omega
    clear hl
    go_enter Try.func11, Try.ntmps11
    go_wp2
    go_ret2
    exact retIB HR.out rfl

set_option maxRecDepth 100000 in
set_option maxHeartbeats 1000000 in
theorem twrd_any (w : World) (base b : Nat) (L : List ByteArray) (P : List Pth) (ns : List (Nat × Int)) (h : TrieAt w base b L P ns) (z : Int) :
    Calls Try.prog 13 #[.pointer (some ⟨b, 0, none⟩), .int .i64 z] w fun e w' => e = .returned (.tuple #[.int .i64 (wordR P ns z).1, .bool (wordR P ns z).2]) ∧ w = w' := by
  obtain ⟨A, cw, B, d, hb, ho, hn, hl, hm, hi, h1, h2, h3⟩ := h
  have hc1 := hb.cell 1
  simp at hc1
  by_cases hz : 0 ≤ z
  · obtain ⟨i, rfl⟩ : ∃ i : Nat, z = i := ⟨z.toNat, by omega⟩
    have hz' : ¬ (i : Int) < 0 := by omega
    by_cases hlt : i < P.length
    · obtain ⟨x, hx⟩ : ∃ x, ns[i]? = some x := ⟨_, List.getElem?_eq_getElem (by omega)⟩
      obtain ⟨g, rfl, hg⟩ := hn.form (by omega)
      have hcell := hn.cell (i * 2 + 1) (by omega)
      rw [(node_at hx).2] at hcell
      have hgd : ns.getD i (0, -1) = x := by rw [List.getD_eq_getElem?_getD, hx]; rfl
      by_cases hw : x.2 = -1
      · have HR := Lib.hid (show wordR P ns i = (0, false) by unfold wordR; rw [show ((i : Int)).toNat = i from rfl, hgd, if_neg (fun e => e.2.2 hw)])
        rw [hw] at hcell
        clear hl hx hgd hw
        go_enter Try.func13, Try.ntmps13
        go_wp2
        go_ret2
        exact retIB HR.out rfl
      · have HR := Lib.hid (show wordR P ns i = (x.2, true) by unfold wordR; rw [show ((i : Int)).toNat = i from rfl, hgd, if_pos ⟨hz, by omega, hw⟩])
        have hw' : (x.2 == -1) = false := by simpa using hw
        clear hl hx hgd
        go_enter Try.func13, Try.ntmps13
        go_wp2
        go_ret2
        exact retIB HR.out rfl
    · have HR := Lib.hid (show wordR P ns i = (0, false) by unfold wordR; rw [if_neg (by omega)])
      have hge : decide (P.length ≤ i) = true := by rw [decide_eq_true_iff]; omega
      have hge2 : decide ((P.length : Int) ≤ (i : Int)) = true := by rw [decide_eq_true_iff]; omega
      clear hl
      go_enter Try.func13, Try.ntmps13
      go_wp2
      go_ret2
      exact retIB HR.out rfl
  · have HR := Lib.hid (show wordR P ns z = (0, false) by unfold wordR; rw [if_neg (by omega)])
    have hz' : z < 0 := by omega
    clear hl
    go_enter Try.func13, Try.ntmps13
    go_wp2
    go_ret2
    exact retIB HR.out rfl
end Go.Proofs.Ythhlpbopbabojaa
