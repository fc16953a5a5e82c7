/-
  Worlds, footprints and slices: small words that all proofs of this seat use. Own work; the words 'Reads' and 'Blk' go back to the guide's page of words to copy.
-/
import Derived.WalkKit
import Derived.WalkSpells
import Derived.WalkLawsBesides
import Derived.OwnWalk
import Derived.Deep.Draws
import Derived.Deep.AppendLies
import Derived.Maps.AppendAt
import Derived.Lib.Hide
import Derived.Deep.QuietTactic
import Derived.BigQuiet
import Derived.Outline
import Derived.Lib.Strings
namespace Go.Proofs.Ythhlpbopbabojaa
open Go.RowKit

/-- A contract's end behind a name, so that the walk leaves it alone: it returns some v, of which P holds. -/
def Ret (P : Value → World → Prop) (e : Ending) (w' : World) : Prop := ∃ v, e = .returned v ∧ P v w'

/-- what '==' on strings comes to -/
theorem str_eq_of {s x : ByteArray} (h : (s.toList == x.toList) = true) : s = x := by
  have h1 : s.toList = x.toList := by simpa using h
  rw [Lib.toList_data, Lib.toList_data] at h1
  cases s
  cases x
  simp at h1
  rw [h1]
theorem str_beq_self (s : ByteArray) : (s.toList == s.toList) = true := by simp
theorem str_beq_ne {s x : ByteArray} (h : s ≠ x) : (s.toList == x.toList) = false := by
  cases hb : s.toList == x.toList with
  | false => rfl
  | true => exact (h (str_eq_of hb)).elim

/-- Only the blocks of S, and what is new, may have turned. -/
structure Fr (S : Nat → Prop) (w w' : World) : Prop where
  os : w'.os = w.os
  tape : w'.tape = w.tape
  output : w'.output = w.output
  size : w.heap.size ≤ w'.heap.size
  block : ∀ k, k < w.heap.size → ¬ S k → w'.heap[k]? = w.heap[k]?

def Nil (_ : Nat) : Prop := False

section
variable {S T : Nat → Prop} {a b w w' : World}
theorem Fr.rfl' (S : Nat → Prop) (w : World) : Fr S w w := ⟨rfl, rfl, rfl, Nat.le_refl _, fun _ _ _ => rfl⟩
theorem Fr.mono (h : Fr S w w') (hs : ∀ k, k < w.heap.size → S k → T k) : Fr T w w' :=
  ⟨h.os, h.tape, h.output, h.size, fun k hk hn => h.block k hk fun x => hn (hs k hk x)⟩
theorem Fr.trans' (h : Fr S a b) (g : Fr T b w) (hs : ∀ k, k < a.heap.size → T k → S k) : Fr S a w :=
  ⟨g.os.trans h.os, g.tape.trans h.tape, g.output.trans h.output, Nat.le_trans h.size g.size,
    fun k hk hn => (g.block k (Nat.lt_of_lt_of_le hk h.size) fun x => hn (hs k hk x)).trans (h.block k hk hn)⟩
theorem Fr.trans (h : Fr S a b) (g : Fr S b w) : Fr S a w := h.trans' g fun _ _ x => x
theorem Fr.drew (h : Fr S a w) : Fr S a w.drew := ⟨h.os, h.tape, h.output, h.size, h.block⟩
theorem Fr.drewN (h : Fr S a w) (n : Nat) : Fr S a (w.drewN n) := ⟨h.os, h.tape, h.output, h.size, h.block⟩
theorem Fr.alloc (h : Fr S a w) (o : Obj) : Fr S a (w.alloc o) :=
  h.trans ⟨rfl, rfl, rfl, by simp, fun k hk _ => Below.heap_alloc w o k hk⟩
theorem Fr.setCell (h : Fr S a w) {p : Addr} (hp : p.block < a.heap.size → S p.block) (u : Value) : Fr S a (w.setCell p u) :=
  ⟨h.os, h.tape, h.output, by simpa [World.setCell] using h.size, fun k hk hn => (Below.heap_setCell w p u k (fun e => hn (by subst e; exact hp hk))).trans (h.block k hk hn)⟩
theorem Fr.of_grown {row : Option Nat} (hg : w.grownBy w' row) (hr : ∀ k, row = some k → k < w.heap.size → S k) : Fr S w w' :=
  ⟨hg.os, hg.tape, hg.output, hg.size, fun k hk hn => hg.block k hk fun e => hn (hr k e.symm hk)⟩
theorem Fr.grown (h : Fr S a w) {row : Option Nat} (hg : w.grownBy w' row) (hr : ∀ k, row = some k → k < a.heap.size → S k) : Fr S a w' :=
  ⟨hg.os.trans h.os, hg.tape.trans h.tape, hg.output.trans h.output, Nat.le_trans h.size hg.size,
    fun k hk hn => (hg.block k (Nat.lt_of_lt_of_le hk h.size) fun e => hn (hr k e.symm hk)).trans (h.block k hk hn)⟩
theorem Fr.to_below {B : Nat} (h : Fr S w w') (hB : B ≤ w.heap.size) (hs : ∀ k, S k → B ≤ k) : Below B w w' :=
  ⟨h.os, h.tape, h.output, h.size, fun k hk => h.block k (Nat.lt_of_lt_of_le hk hB) fun x => by have := hs k x; omega⟩
theorem Fr.below (h : Fr Nil w w') : Below w.heap.size w w' := h.to_below (Nat.le_refl _) fun _ x => x.elim
theorem Fr.of_below (h : Below w.heap.size w w') : Fr S w w' := ⟨h.os, h.tape, h.output, h.size, fun k hk _ => h.block k hk⟩
theorem Fr.cell (h : Fr S w w') {p : Addr} (hp : p.block < w.heap.size) (hn : ¬ S p.block) : w'.cell? p = w.cell? p :=
  World.cell?_of_block (h.block _ hp hn)
theorem Fr.frozen (h : Fr S w w') {p : Addr} (hp : p.block < w.heap.size) (hn : ¬ S p.block) : w'.frozen? p = w.frozen? p :=
  World.frozen?_of_block (h.block _ hp hn)
end

/-- a cell that is there is there behind a new block, too: two rules for the walk -/
theorem cell_alloc_some {w : World} {o : Obj} {a : Addr} (h : (w.cell? a).isSome = true) : (w.alloc o).cell? a = w.cell? a := by
  obtain ⟨v, hv⟩ := Option.isSome_iff_exists.1 h
  exact World.cell?_alloc_lt w o a (block_lt_of_cell hv)
theorem frozen_alloc_some {w : World} {o : Obj} {a : Addr} (h : (w.cell? a).isSome = true) : (w.alloc o).frozen? a = w.frozen? a := by
  obtain ⟨v, hv⟩ := Option.isSome_iff_exists.1 h
  exact World.frozen?_of_block (w := w) (Below.heap_alloc w o a.block (block_lt_of_cell hv))
theorem cell_alloc2_some {w : World} {o1 o2 : Obj} {a : Addr} (h : (w.cell? a).isSome = true) : ((w.alloc o1).alloc o2).cell? a = w.cell? a := by
  rw [cell_alloc_some (by rw [cell_alloc_some h]; exact h), cell_alloc_some h]
theorem frozen_alloc2_some {w : World} {o1 o2 : Obj} {a : Addr} (h : (w.cell? a).isSome = true) : ((w.alloc o1).alloc o2).frozen? a = w.frozen? a := by
  rw [frozen_alloc_some (by rw [cell_alloc_some h]; exact h), frozen_alloc_some h]
theorem cell_alloc4_some {w : World} {o1 o2 o3 o4 : Obj} {a : Addr} (h : (w.cell? a).isSome = true) : ((((w.alloc o1).alloc o2).alloc o3).alloc o4).cell? a = w.cell? a := by
  rw [cell_alloc2_some (by rw [cell_alloc2_some h]; exact h), cell_alloc2_some h]
theorem frozen_alloc4_some {w : World} {o1 o2 o3 o4 : Obj} {a : Addr} (h : (w.cell? a).isSome = true) : ((((w.alloc o1).alloc o2).alloc o3).alloc o4).frozen? a = w.frozen? a := by
  rw [frozen_alloc2_some (by rw [cell_alloc2_some h]; exact h), frozen_alloc2_some h]
attribute [go_sem] cell_alloc_some frozen_alloc_some cell_alloc2_some frozen_alloc2_some cell_alloc4_some frozen_alloc4_some

theorem block_of_add (a : Addr) (n : Nat) : (a.add n).block = a.block := by unfold Addr.add; split <;> rfl
theorem add_of_add (a : Addr) (i j : Nat) : (a.add i).add j = a.add (i + j) := by
  unfold Addr.add
  by_cases hi : i = 0 <;> by_cases hj : j = 0 <;> simp [hi, hj, Nat.add_assoc]

/-- The block g is just these cells, of element type t, none frozen. -/
def Blk (w : World) (g : Nat) (t : TypeId) (cs : Array Value) : Prop := w.heap[g]? = some (.cells cs t (0, 0))
section
variable {S : Nat → Prop} {w w' : World} {g : Nat} {t : TypeId} {cs : Array Value}
theorem Blk.lt (h : Blk w g t cs) : g < w.heap.size := lt_of_block h
theorem Blk.cell (h : Blk w g t cs) (i : Nat) : w.cell? ⟨g, i, none⟩ = cs[i]? := cell_of_row w g i cs t (0, 0) h
theorem Blk.frozen (h : Blk w g t cs) (i : Nat) : w.frozen? ⟨g, i, none⟩ = false := frozen_of_row w g i cs t h
theorem Blk.new (w : World) (t : TypeId) (cs : Array Value) : Blk (w.alloc (.cells cs t)) w.heap.size t cs := heap_alloc_new w _
theorem Blk.drew (h : Blk w g t cs) : Blk w.drew g t cs := h
theorem Blk.drewN (h : Blk w g t cs) (n : Nat) : Blk (w.drewN n) g t cs := h
theorem Blk.alloc (h : Blk w g t cs) (o : Obj) : Blk (w.alloc o) g t cs := (Below.heap_alloc w o g h.lt).trans h
theorem Blk.set_ (h : Blk w g t cs) (i : Nat) (u : Value) : Blk (w.setCell ⟨g, i, none⟩ u) g t (cs.setIfInBounds i u) := by
  unfold Blk at h ⊢
  simp [World.setCell, Array.getElem?_modify, h]
theorem Blk.far (h : Blk w g t cs) {p : Addr} (hp : g ≠ p.block) (u : Value) : Blk (w.setCell p u) g t cs := (Below.heap_setCell w p u g hp).trans h
theorem Blk.fr (h : Blk w g t cs) (hb : Fr S w w') (hg : ¬ S g) : Blk w' g t cs := (hb.block g h.lt hg).trans h
theorem Blk.grown {row : Option Nat} (h : Blk w g t cs) (hb : w.grownBy w' row) (hg : some g ≠ row) : Blk w' g t cs := (hb.block g h.lt hg).trans h
theorem Blk.ne_ {g' : Nat} {t' : TypeId} {cs' : Array Value} (h : Blk w g t cs) (h' : Blk w g' t' cs') (hne : t ≠ t') : g ≠ g' := by
  rintro rfl
  unfold Blk at h h'
  rw [h] at h'
  injection h' with h'
  injection h' with _ ht
  exact hne ht
end

/-- The slice value '.slice A n c' reads as xs ('size' cells an element), in blocks of S. -/
def Reads (w : World) (B size : Nat) (A : Option Addr) (n : Nat) (xs : List Value) : Prop :=
  xs.length = n * size ∧ (0 < n → ∃ ad, A = some ad ∧ ad.block < B ∧ ∀ j u, xs[j]? = some u → w.cell? (ad.add j) = some u)
section
variable {w w' : World} {B B' size n : Nat} {A : Option Addr} {xs : List Value}
theorem Reads.none_ : Reads w B size A 0 [] := ⟨by simp, fun h => absurd h (by omega)⟩
theorem Reads.at_ {k : Nat} (h : Reads w B 1 A n xs) (hk : k < n) : ∃ ad u, A = some ad ∧ ad.block < B ∧ xs[k]? = some u ∧ w.cell? (ad.add k) = some u := by
  obtain ⟨ad, e, hb, hc⟩ := h.2 (by omega)
  have hl : k < xs.length := by have := h.1; omega
  exact ⟨ad, xs[k], e, hb, List.getElem?_eq_getElem hl, hc k _ (List.getElem?_eq_getElem hl)⟩
theorem Reads.keep (h : Reads w B size A n xs) (hk : ∀ p : Addr, p.block < B → w'.cell? p = w.cell? p) : Reads w' B size A n xs :=
  ⟨h.1, fun hn => by
    obtain ⟨ad, e, hb, hc⟩ := h.2 hn
    exact ⟨ad, e, hb, fun j u hu => (hk _ (by rw [block_of_add]; exact hb)).trans (hc j u hu)⟩⟩
theorem Reads.more (h : Reads w B size A n xs) (hB : B ≤ B') : Reads w B' size A n xs :=
  ⟨h.1, fun hn => by
    obtain ⟨ad, e, hb, hc⟩ := h.2 hn
    exact ⟨ad, e, by omega, hc⟩⟩
theorem Reads.below (h : Reads w B size A n xs) (hb : Below B w w') : Reads w' B size A n xs := h.keep fun _ hp => hb.cell hp
theorem Reads.fr {S : Nat → Prop} (h : Reads w B size A n xs) (hb : Fr S w w') (hB : B ≤ w.heap.size) (hs : ∀ k, S k → B ≤ k) : Reads w' B size A n xs :=
  h.below (hb.to_below hB hs)
theorem Reads.drew (h : Reads w B size A n xs) : Reads w.drew B size A n xs := h
theorem Reads.drewN (h : Reads w B size A n xs) (k : Nat) : Reads (w.drewN k) B size A n xs := h
theorem Reads.alloc (h : Reads w B size A n xs) (hB : B ≤ w.heap.size) (o : Obj) : Reads (w.alloc o) B size A n xs := h.keep fun p hp => World.cell?_alloc_lt w o p (by omega)
theorem Reads.setCell (h : Reads w B size A n xs) {p : Addr} (hB : B ≤ p.block) (u : Value) : Reads (w.setCell p u) B size A n xs :=
  h.keep fun q hq => World.cell?_setCell_other w p q u (fun e => by subst e; omega)
theorem Reads.cut (h : Reads w B size A n xs) {k cap : Nat} (hk : k ≤ n) (hc : n ≤ cap) :
    Reads w B size (if cap = k then A else A.map (·.add (k * size))) (n - k) (xs.drop (k * size)) := by
  refine ⟨by rw [List.length_drop, h.1, Nat.sub_mul], fun hn => ?_⟩
  obtain ⟨ad, rfl, hb, hcell⟩ := h.2 (by omega)
  rw [if_neg (by omega)]
  refine ⟨ad.add (k * size), rfl, by rw [block_of_add]; exact hb, fun j u hu => ?_⟩
  rw [add_of_add]
  exact hcell _ u (by rw [← hu, List.getElem?_drop])
theorem Reads.of_own {base : Nat} {e : TypeId} {c : Nat} (h : w.ownsRow base e size (.slice A n c) n xs) : Reads w w.heap.size size A n xs := by
  refine ⟨h.1, fun hn => ?_⟩
  obtain ⟨g, cap, hv, _, hlt⟩ := h.form hn
  have hA : A = some ⟨g, 0, none⟩ := by injection hv
  subst hA
  exact ⟨_, rfl, hlt, h.cells (g := g) rfl⟩
end
theorem reads_str {w : World} {B n k : Nat} {A : Option Addr} {L : List ByteArray} (h : Reads w B 1 A n (L.map .string)) (hk : k < n) :
    ∃ ad s, A = some ad ∧ ad.block < B ∧ L[k]? = some s ∧ w.cell? (ad.add k) = some (.string s) := by
  obtain ⟨ad, u, rfl, hb, hu, hc⟩ := h.at_ hk
  rw [List.getElem?_map] at hu
  obtain ⟨s, hs, rfl⟩ := Option.map_eq_some_iff.1 hu
  exact ⟨ad, s, rfl, hb, hs, hc⟩
theorem reads_str_at {w : World} {B n k : Nat} {ad : Addr} {L : List ByteArray} {s : ByteArray} (h : Reads w B 1 (some ad) n (L.map .string)) (hs : L[k]? = some s) : w.cell? (ad.add k) = some (.string s) := by
  have hk : k < n := by
    have h1 := h.1
    have h2 := (List.getElem?_eq_some_iff.1 hs).1
    simp at h1
    omega
  obtain ⟨ad', s', e, _, hs', hc⟩ := reads_str h hk
  injection e with e
  subst e
  rw [hs] at hs'
  injection hs' with hs'
  subst hs'
  exact hc

/-- The slice '.slice A n c' is the call's own: nil, or at the head of a row of its own; it holds xs. -/
def Own (w : World) (e : TypeId) (size : Nat) (A : Option Addr) (n c : Nat) (xs : List Value) : Prop := w.ownsRow 0 e size (.slice A n c) n xs
def At (A : Option Addr) (k : Nat) : Prop := ∃ g, A = some g ∧ g.block = k
theorem at_ownBlock {A : Option Addr} {n c k : Nat} (h : (Value.slice A n c).ownBlock = some k) : At A k := by
  cases A with
  | none => simp [Value.ownBlock] at h
  | some g => exact ⟨g, rfl, by simpa [Value.ownBlock] using h⟩
theorem ownBlock_at {A : Option Addr} {n c k : Nat} (h : At A k) : (Value.slice A n c).ownBlock = some k := by
  obtain ⟨g, rfl, rfl⟩ := h
  rfl
section
variable {S : Nat → Prop} {w w' : World} {e : TypeId} {size n c : Nat} {A : Option Addr} {xs : List Value}
theorem Own.nil (w : World) (e : TypeId) (size : Nat) : Own w e size none 0 0 [] := World.ownsRow_nil _ _ _ _
theorem Own.len (h : Own w e size A n c xs) : xs.length = n * size := h.1
theorem Own.cap (h : Own w e size A n c xs) : n ≤ c := by
  rcases h.2 with ⟨hv, h0⟩ | ⟨g, cap, cur, hv, _, _, hn, _⟩
  · omega
  · injection hv with _ _ hc
    omega
theorem Own.caplen (h : Own w e size A n c xs) : c ≤ maxLen := by
  rcases h.2 with ⟨hv, h0⟩ | ⟨g, cap, cur, hv, _, _, _, hm, _⟩
  · injection hv with _ _ hc
    unfold maxLen; omega
  · injection hv with _ _ hc
    omega
theorem Own.lt (h : Own w e size A n c xs) {k : Nat} (hk : At A k) : k < w.heap.size := (World.ownsRow.lt h k (ownBlock_at hk)).2
theorem Own.keep (h : Own w e size A n c xs) (hk : ∀ k, At A k → w'.heap[k]? = w.heap[k]?) : Own w' e size A n c xs := by
  refine ⟨h.1, ?_⟩
  rcases h.2 with h2 | ⟨g, cap, cur, hv, hg, hh, r⟩
  · exact .inl h2
  · refine .inr ⟨g, cap, cur, hv, hg, ?_, r⟩
    injection hv with hA _ _
    rw [hk g ⟨_, hA, rfl⟩]
    exact hh
theorem Own.fr (h : Own w e size A n c xs) (hf : Fr S w w') (hs : ∀ k, At A k → ¬ S k) : Own w' e size A n c xs :=
  h.keep fun k hk => hf.block k (h.lt hk) (hs k hk)
theorem Own.drew (h : Own w e size A n c xs) : Own w.drew e size A n c xs := h
theorem Own.drewN (h : Own w e size A n c xs) (k : Nat) : Own (w.drewN k) e size A n c xs := h
theorem Own.alloc (h : Own w e size A n c xs) (o : Obj) : Own (w.alloc o) e size A n c xs := h.keep fun k hk => Below.heap_alloc w o k (h.lt hk)
theorem Own.setFar (h : Own w e size A n c xs) {p : Addr} (hp : ¬ At A p.block) (u : Value) : Own (w.setCell p u) e size A n c xs :=
  h.keep fun k hk => Below.heap_setCell w p u k fun x => hp (x ▸ hk)
/-- it has a first cell: so it has a place -/
theorem Own.form (h : Own w e size A n c xs) (hn : 0 < n) : ∃ g, A = some ⟨g, 0, none⟩ ∧ g < w.heap.size := by
  obtain ⟨g, cap, hv, _, hg⟩ := World.ownsRow.form h hn
  injection hv with hA _ _
  exact ⟨g, hA, hg⟩
theorem Own.form' (h : Own w e size A n c xs) : (A = none ∧ n = 0 ∧ c = 0 ∧ xs = []) ∨ ∃ g, A = some ⟨g, 0, none⟩ ∧ g < w.heap.size := by
  rcases h.2 with ⟨hv, h0⟩ | ⟨g, cap, cur, hv, _, hh, _⟩
  · injection hv with hA _ hc
    exact .inl ⟨hA, h0, hc, List.eq_nil_of_length_eq_zero (by have := h.1; subst h0; omega)⟩
  · injection hv with hA _ _
    exact .inr ⟨g, hA, lt_of_block hh⟩
theorem Own.cell {g : Nat} (h : Own w e size (some ⟨g, 0, none⟩) n c xs) (j : Nat) (hj : j < n * size) : w.cell? ⟨g, j, none⟩ = xs[j]? := World.ownsRow.cellAt h j hj
theorem Own.free {g : Nat} (h : Own w e size (some ⟨g, 0, none⟩) n c xs) (j : Nat) : w.frozen? ⟨g, j, none⟩ = false := World.ownsRow.frozenAt h j
theorem Own.set {g : Nat} (h : Own w e size (some ⟨g, 0, none⟩) n c xs) (j : Nat) (u : Value) : Own (w.setCell ⟨g, j, none⟩ u) e size (some ⟨g, 0, none⟩) n c (xs.set j u) := (World.ownsRow.stored h j u).1
theorem Own.cut (h : Own w e size A n c xs) {k : Nat} (hk : k ≤ n) : Own w e size A k c (xs.take (k * size)) := by
  have hle : k * size ≤ n * size := Nat.mul_le_mul_right _ hk
  refine ⟨by rw [List.length_take, h.1]; omega, ?_⟩
  rcases h.2 with ⟨hv, h0⟩ | ⟨g, cap, cur, hv, hg, hh, hn, hm, hc, ht⟩
  · injection hv with hA _ hcc
    obtain rfl : k = 0 := by omega
    exact .inl ⟨by rw [hA, hcc], rfl⟩
  · injection hv with hA _ hcc
    subst hcc
    refine .inr ⟨g, c, cur, by rw [hA], hg, hh, by omega, hm, hc, ?_⟩
    rw [← ht, List.take_take, Nat.min_eq_left hle]
theorem Own.reads (h : Own w e size A n c xs) : Reads w w.heap.size size A n xs := Reads.of_own h
theorem Own.lit (w : World) (cs : Array Value) (n : Nat) (hm : n ≤ maxLen) (hs : cs.size = n * size) :
    Own (w.alloc (.cells cs e)) e size (some ⟨w.heap.size, 0, none⟩) n n cs.toList := World.ownsRow_lit w cs n (Nat.zero_le _) hm hs
end

section
variable {P : Program} (w : World)
/-- append, the source whatever slice, onto a slice of the call's own -/
theorem run_append (t ty e : TypeId) (z : Value) (size bytes : Nat) (ht : P.underlying t = some (.slice e)) (hinfo : (P.info? e).map (fun i => (i.zero, i.size, i.bytes)) = some (some z, size, bytes))
    (hzs : z.cells.size = size) (hsz : 0 < size) (A : Option Addr) (n c : Nat) (xs : List Value) (hown : Own w e size A n c xs)
    (B : Nat) (A2 : Option Addr) (m c2 : Nat) (news : List Value) (hr : Reads w B size A2 m news) (h1 : ∀ u ∈ news, u.oneCell' = true)
    (h63 : n + m ≤ maxLen) (hbytes : (n + m) * bytes ≤ 140737488355328) :
    ∃ A' c' w', (Builtin.append_ #[t, t] ty #[.slice A n c, .slice A2 m c2]).run P w = .ok (.slice A' (n + m) c') w' ∧ Own w' e size A' (n + m) c' (xs ++ news) ∧ Fr (At A) w w' ∧
      (A' = A ∨ A' = some ⟨w.heap.size, 0, none⟩ ∧ w.heap.size < w'.heap.size) := by
  obtain ⟨i, hi, hz, hsize, hby⟩ := info_parts hinfo
  have nil_case : m = 0 → A2 = none → ∃ A' c' w', (Builtin.append_ #[t, t] ty #[.slice A n c, .slice A2 m c2]).run P w = .ok (.slice A' (n + m) c') w' ∧ Own w' e size A' (n + m) c' (xs ++ news) ∧ Fr (At A) w w' ∧
      (A' = A ∨ A' = some ⟨w.heap.size, 0, none⟩ ∧ w.heap.size < w'.heap.size) := by
    rintro rfl rfl
    have hn : news = [] := List.eq_nil_of_length_eq_zero (by simpa using hr.1)
    subst hn
    refine ⟨A, c, w, ?_, by simpa using hown, Fr.rfl' _ _, .inl rfl⟩
    rcases hown.2 with ⟨hv, rfl⟩ | ⟨g, cap, cur, hv, _, _, hnc, _⟩
    · injection hv with hA _ hc
      subst hA; subst hc
      simp [Builtin.append_, run_underlying ht, sizeOf, typeInfo, hi, Builtin.lenOf, Builtin.firstCells]
    · injection hv with hA _ hc
      subst hA; subst hc
      simp [Builtin.append_, run_underlying ht, sizeOf, typeInfo, hi, Builtin.lenOf, Builtin.firstCells, hnc, storeCells]
  rcases A2 with _ | ad
  · refine nil_case ?_ rfl
    rcases Nat.eq_zero_or_pos m with h0 | h0
    · exact h0
    · obtain ⟨ad, h, _⟩ := hr.2 h0
      cases h
  · have hcells : ∀ j u, news[j]? = some u → w.cell? (ad.add j) = some u := by
      intro j u hu
      rcases Nat.eq_zero_or_pos m with h0 | h0
      · subst h0
        have hn : news = [] := List.eq_nil_of_length_eq_zero (by simpa using hr.1)
        subst hn
        simp at hu
      · obtain ⟨ad', h, _, hc⟩ := hr.2 h0
        injection h with h
        subst h
        exact hc j u hu
    obtain ⟨v', w', hrun, h2, h3, hnil, h5⟩ := run_append_own_at (P := P) w 0 t ty e i z size bytes ht hi hz hsize hby hzs hsz (.slice A n c) n xs hown ad m c2 news hr.1 hcells h1 h63 hbytes (Nat.zero_le _)
    have hfr : Fr (At A) w w' := Fr.of_grown h3 fun k hk _ => at_ownBlock hk
    obtain ⟨A', c', rfl, hA'⟩ : ∃ A' c', v' = .slice A' (n + m) c' ∧ (A' = none ∨ ∃ g, A' = some ⟨g, 0, none⟩ ∧ g < w'.heap.size) := by
      rcases h2.2 with ⟨rfl, h0⟩ | ⟨g, cap, cur, rfl, _, hh, _⟩
      · exact ⟨none, 0, by rw [h0], .inl rfl⟩
      · exact ⟨_, cap, rfl, .inr ⟨g, rfl, lt_of_block hh⟩⟩
    refine ⟨A', c', w', hrun, h2, hfr, ?_⟩
    rcases h5 with h5 | h5
    · left
      rcases hown.form' with ⟨rfl, _⟩ | ⟨g, rfl, _⟩ <;> rcases hA' with rfl | ⟨g', rfl, _⟩ <;> simp [Value.ownBlock] at h5 ⊢
      exact h5
    · rcases hA' with rfl | ⟨g', rfl, hg'⟩
      · simp [Value.ownBlock] at h5
      · have hgs : g' = w.heap.size := by simpa [Value.ownBlock] using h5
        subst hgs
        exact .inr ⟨rfl, hg'⟩

theorem wpList_append {ops : Array Oper} {rest : List Oper} {o : Oper} {a : Act} {Q : Exit → Act → World → Prop} (hgd : o.guard = none) (s x : Operand) (t : TypeId)
    (ho : o.op = .call { callee := .builtin .append, args := #[s, x], argTypes := #[t, t] })
    (e : TypeId) (z : Value) (size bytes : Nat) (ht : P.underlying t = some (.slice e)) (hinfo : (P.info? e).map (fun i => (i.zero, i.size, i.bytes)) = some (some z, size, bytes))
    (hzs : z.cells.size = size) (hsz : 0 < size) (A : Option Addr) (n c : Nat) (xs : List Value) (hs : a.eval s = .slice A n c) (hown : Own w e size A n c xs)
    (B : Nat) (A2 : Option Addr) (m c2 : Nat) (news : List Value) (hx : a.eval x = .slice A2 m c2) (hr : Reads w B size A2 m news) (h1 : ∀ u ∈ news, u.oneCell' = true)
    (h63 : n + m ≤ maxLen) (hbytes : (n + m) * bytes ≤ 140737488355328)
    (h : ∀ A' c' w', Own w' e size A' (n + m) c' (xs ++ news) → Fr (At A) w w' → (A' = A ∨ A' = some ⟨w.heap.size, 0, none⟩ ∧ w.heap.size < w'.heap.size) →
      wpList P ops Q rest (a.put o.dst (.slice A' (n + m) c')) w') : wpList P ops Q (o :: rest) a w := by
  refine wpList_plain hgd fun K hK => ?_
  obtain ⟨A', c', w', hr, h2, h3, h4⟩ := run_append (P := P) w t o.type e z size bytes ht hinfo hzs hsz A n c xs hown B A2 m c2 news hr h1 h63 hbytes
  unfold Oper.wp execOp
  simp only [ho, resolve, invoke, builtin, Sem.run_bind, Sem.run_pure, Result.andThen_ok, List.map_toArray, List.map_cons, List.map_nil, hs, hx, hr]
  exact hK _ _ (h A' c' w' h2 h3 h4)

theorem step_append {ops : Array Oper} {o : Oper} {a : Act} {K : Act → World → Prop} {Q : Exit → Act → World → Prop} {E : Prop} (hgd : o.guard = none) (s x : Operand) (t : TypeId)
    (ho : o.op = .call { callee := .builtin .append, args := #[s, x], argTypes := #[t, t] })
    (e : TypeId) (z : Value) (size bytes : Nat) (ht : P.underlying t = some (.slice e)) (hinfo : (P.info? e).map (fun i => (i.zero, i.size, i.bytes)) = some (some z, size, bytes))
    (hzs : z.cells.size = size) (hsz : 0 < size) (A : Option Addr) (n c : Nat) (xs : List Value) (hs : a.eval s = .slice A n c) (hown : Own w e size A n c xs)
    (B : Nat) (A2 : Option Addr) (m c2 : Nat) (news : List Value) (hx : a.eval x = .slice A2 m c2) (hr : Reads w B size A2 m news) (h1 : ∀ u ∈ news, u.oneCell' = true)
    (h63 : n + m ≤ maxLen) (hbytes : (n + m) * bytes ≤ 140737488355328)
    (h : ∀ A' c' w', Own w' e size A' (n + m) c' (xs ++ news) → Fr (At A) w w' → (A' = A ∨ A' = some ⟨w.heap.size, 0, none⟩ ∧ w.heap.size < w'.heap.size) →
      K (a.put o.dst (.slice A' (n + m) c')) w') :
    if Region.wanted o (yielded ops a.tmps) = true then Oper.wp P o a w K Q else E := by
  have hw : Region.wanted o (yielded ops a.tmps) = true := by simp [Region.wanted, hgd]
  rw [if_pos hw]
  obtain ⟨A', c', w', hr, h2, h3, h4⟩ := run_append (P := P) w t o.type e z size bytes ht hinfo hzs hsz A n c xs hown B A2 m c2 news hr h1 h63 hbytes
  unfold Oper.wp execOp
  simp only [ho, resolve, invoke, builtin, Sem.run_bind, Sem.run_pure, Result.andThen_ok, List.map_toArray, List.map_cons, List.map_nil, hs, hx, hr]
  exact h A' c' w' h2 h3 h4

/-- where 's[k:]' begins -/
def CutA (A : Option Addr) (c k size : Nat) : Option Addr := if c = k then A else A.map (·.add (k * size))
theorem Reads.cutA {w : World} {B size n c k : Nat} {A : Option Addr} {xs : List Value} (h : Reads w B size A n xs) (hk : k ≤ n) (hc : n ≤ c) : Reads w B size (CutA A c k size) (n - k) (xs.drop (k * size)) := h.cut hk hc
theorem run_slice_from {P : Program} {t e : TypeId} {size n c k : Nat} {A : Option Addr} (ht : P.underlying t = some (.slice e)) (hs : (P.info? e).map (·.size) = some size) (hk : k ≤ n) (W : World) :
    (Instr.slice t (.slice A n c) (some (.int .i64 (k : Int))) none none).run P W = .ok (.slice (CutA A c k size) (n - k) (c - k)) W := by
  obtain ⟨i, hi, rfl⟩ := Option.map_eq_some_iff.1 hs
  have h1 : ((k : Int)).toNat = k := Int.toNat_natCast k
  simp [Instr.slice, Instr.sliceBounds, Instr.sliceBound, asIntOf, run_underlying ht, sizeOf, typeInfo, hi, hk, CutA]
theorem at_new {w0 w1 w2 : World} {A A' : Option Addr} (hat : A' = A ∨ A' = some ⟨w1.heap.size, 0, none⟩ ∧ w1.heap.size < w2.heap.size) (hle : w0.heap.size ≤ w1.heap.size) : ∀ k, At A' k → At A k ∨ w0.heap.size ≤ k := by
  intro k hk
  rcases hat with rfl | ⟨rfl, _⟩
  · exact .inl hk
  · obtain ⟨g, hg, rfl⟩ := hk
    injection hg with hg
    subst hg
    exact .inr hle
theorem not_at_none (k : Nat) : ¬ At none k := by
  rintro ⟨g, hg, _⟩
  cases hg
/-- the one new element of 'append(s, x)' -/
theorem reads_new (u : Value) (e : TypeId) : Reads (w.alloc (.cells #[u] e)) (w.heap.size + 1) 1 (some ⟨w.heap.size, 0, none⟩) 1 [u] :=
  ⟨rfl, fun _ => ⟨_, rfl, by simp, cell_one_new w u e⟩⟩
theorem one_one {u : Value} (h : u.oneCell' = true) : ∀ x ∈ [u], x.oneCell' = true := by
  intro x hx
  simp at hx
  subst hx
  exact h
theorem strs_one (l : List ByteArray) : ∀ u ∈ l.map Value.string, u.oneCell' = true := by
  intro u hu
  obtain ⟨s, _, rfl⟩ := List.mem_map.1 hu
  rfl
end

end Go.Proofs.Ythhlpbopbabojaa
