/-
  Arguments as they come in: slices that read as lists.
-/
import Derived.Test.YthhlpbopbabojaaUtil
import Derived.Test.YthhlpbopbabojaaRows
import Derived.ProofKit
import Derived.OpenShut
import Derived.ShutString
import Derived.ChangeOld
import Derived.Deep.Slices
namespace Go.Proofs.Ythhlpbopbabojaa
open Go.RowKit Go.ChangeShapes Go.WideShapes Go.ChangeAt Go.Deep
open Go.ChangeMaps (open_string shut_string)

theorem own : ownKnob Try.prog.godebug = none := by kernel_rfl
theorem laidOut : laidOutB Try.prog = true := by kernel_rfl

theorem flatMap_get {β : Type} (f : β → List Value) (size : Nat) (hsz : 0 < size) (hf : ∀ b, (f b).length = size) (L : List β) (j : Nat) : (L.flatMap f)[j]? = (L[j / size]?).bind fun b => (f b)[j % size]? := by
  induction L generalizing j with
  | nil => simp
  | cons b L ih =>
    rw [List.flatMap_cons]
    by_cases h : j < size
    · rw [List.getElem?_append_left (by rw [hf]; exact h), Nat.div_eq_of_lt h, Nat.mod_eq_of_lt h]
      rfl
    · rw [List.getElem?_append_right (by rw [hf]; omega), hf, ih (j - size)]
      have h1 : j / size = (j - size) / size + 1 := by
        rw [Nat.div_eq, if_pos ⟨hsz, by omega⟩]
      have h2 : (j - size) % size = j % size := by
        rw [Nat.mod_eq_sub_mod (by omega : j ≥ size)]
      rw [h1, h2]
      rfl
theorem flatMap_len {β : Type} (f : β → List Value) (size : Nat) (hf : ∀ b, (f b).length = size) (L : List β) : (L.flatMap f).length = L.length * size := by
  induction L with
  | nil => simp
  | cons b L ih => rw [List.flatMap_cons, List.length_append, ih, hf, List.length_cons, Nat.add_mul]; omega

section
variable {H : Type} {enc : TypeId × Value → H} {P : Program} {W : World} {sp : Nat → Bool} {held : Bool}
theorem open_list {β : Type} [Inhabited β] (size : Nat) (hpos : 0 < size) (f : β → List Value) (hf : ∀ b, (f b).length = size) (good : β → Prop) {T e : TypeId} (hT : P.underlying T = some (.slice e)) (hc : P.cellsOf e = size)
    (hel : ∀ n cs x, DataW.trod enc P W 0 sp held n e cs = some x → ∃ b, cs = f b ∧ good b)
    {a : Option Addr} {len cap : Nat} {d : DataW H} {p : List MemPlace} (h : DataW.Trod enc P W 0 sp held T (.slice a len cap) d p) :
    ∃ L : List β, L.length = len ∧ (∀ b ∈ L, good b) ∧ Reads W W.heap.size size a len (L.flatMap f) ∧ len ≤ cap ∧ cap ≤ maxLen := by
  obtain ⟨fuel, hfu⟩ := h
  rcases open_slice hT hfu with ⟨hcs, _⟩ | ⟨x, l, c, m, n, D, Pl, hcs, _, hl, hm, hmm, _, hi⟩
  · simp [Value.cells] at hcs
    obtain ⟨rfl, rfl, rfl⟩ := hcs
    exact ⟨[], rfl, by simp, Reads.none_, Nat.le_refl _, Nat.zero_le _⟩
  · simp [Value.cells] at hcs
    obtain ⟨rfl, rfl, rfl⟩ := hcs
    have hlm : len ≤ m := by rw [hmm]; split <;> omega
    obtain ⟨g, hg⟩ := choose_lt (n := len) (p := fun i (b : β) => W.cells? 0 (x.add (i * size)) size = some (f b) ∧ good b) fun i hil => by
      obtain ⟨cs', h1, h2⟩ := hi i (by omega)
      obtain ⟨b, rfl, hgood⟩ := hel _ _ _ h2
      rw [hc] at h1
      exact ⟨b, h1, hgood⟩
    refine ⟨(List.range len).map g, by simp, ?_, ⟨by rw [flatMap_len f size hf]; simp, fun hn => ⟨x, rfl, ?_, fun j u hu => ?_⟩⟩, hl, hm⟩
    · intro b hb
      simp only [List.mem_map, List.mem_range] at hb
      obtain ⟨i, hil, rfl⟩ := hb
      exact (hg i hil).2
    · obtain ⟨_, _, h3⟩ := World.cells?_some (hg 0 hn).1
      have h4 := h3 0 hpos
      have h5 : 0 < (f (g 0)).length := by rw [hf]; exact hpos
      rw [List.getElem?_eq_getElem h5] at h4
      have := block_lt_of_cell h4
      rwa [block_of_add, block_of_add] at this
    · rw [flatMap_get f size hpos hf] at hu
      obtain ⟨b, hb, hu⟩ := Option.bind_eq_some_iff.1 hu
      rw [List.getElem?_map] at hb
      obtain ⟨i, hi2, rfl⟩ := Option.map_eq_some_iff.1 hb
      have hil := (List.getElem?_eq_some_iff.1 hi2).1
      have hie : i = j / size := by
        have := (List.getElem?_eq_some_iff.1 hi2).2
        simp at this
        exact this.symm
      simp at hil
      subst hie
      obtain ⟨_, _, h3⟩ := World.cells?_some (hg _ hil).1
      have hmod : j % size < size := Nat.mod_lt _ hpos
      rw [← hu, ← h3 _ hmod, add_of_add]
      congr 2
      have := Nat.div_add_mod j size
      rw [Nat.mul_comm] at this
      omega

theorem flatMap_one {β : Type} (g : β → Value) (L : List β) : L.flatMap (fun b => [g b]) = L.map g := by
  induction L with
  | nil => rfl
  | cons b L ih => rw [List.flatMap_cons, ih]; rfl
theorem open_strs {T e : TypeId} (hT : P.underlying T = some (.slice e)) (he : P.underlying e = some .string) (hc : P.cellsOf e = 1)
    {a : Option Addr} {len cap : Nat} {d : DataW H} {p : List MemPlace} (h : DataW.Trod enc P W 0 sp held T (.slice a len cap) d p) :
    ∃ L : List ByteArray, (∀ s ∈ L, s.size ≤ maxLen) ∧ Reads W W.heap.size 1 a len (L.map .string) ∧ len ≤ maxLen := by
  obtain ⟨L, _, hg, hr, h1, h2⟩ := open_list (β := ByteArray) 1 (by decide) (fun s => [Value.string s]) (fun _ => rfl) (fun s => s.size ≤ maxLen) hT hc
    (fun n cs x hx => by
      obtain ⟨s, hs, _, hle⟩ := DataW.trod_string he hx
      exact ⟨s, hs, hle⟩) h
  rw [flatMap_one] at hr
  exact ⟨L, hg, hr, Nat.le_trans h1 h2⟩
theorem open_bytes {T e : TypeId} (hT : P.underlying T = some (.slice e)) (he : P.underlying e = some (.int .u8)) (hc : P.cellsOf e = 1)
    {a : Option Addr} {len cap : Nat} {d : DataW H} {p : List MemPlace} (h : DataW.Trod enc P W 0 sp held T (.slice a len cap) d p) :
    ∃ L : List UInt8, Reads W W.heap.size 1 a len (L.map fun b => .int .u8 b.toNat) ∧ len ≤ cap ∧ cap ≤ maxLen := by
  obtain ⟨L, _, _, hr, h1, h2⟩ := open_list (β := UInt8) 1 (by decide) (fun b => [Value.int .u8 b.toNat]) (fun _ => rfl) (fun _ => True) hT hc
    (fun n cs x hx => by
      obtain ⟨z, hs, _, hw⟩ := DataW.trod_int he hx
      have hz : 0 ≤ z ∧ z ≤ 255 := by simpa [Lit.wf, IntKind.min, IntKind.max, IntKind.signed, IntKind.bits] using hw
      refine ⟨UInt8.ofNat z.toNat, ?_, trivial⟩
      rw [hs]
      congr 2
      rw [UInt8.toNat_ofNat_of_lt' (by show z.toNat < 256; omega)]
      omega) h
  rw [flatMap_one] at hr
  exact ⟨L, hr, h1, h2⟩
end

theorem fr_below {w w' : World} (h : Fr Nil w w') : Below w.heap.size w w' := h.below
end Go.Proofs.Ythhlpbopbabojaa
