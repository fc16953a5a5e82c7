/-
  Tokens, as they come in: slices of structs that hold slices of structs.
-/
import Derived.Test.YtblbcojkjknfdaaDoorArgs
import Derived.SizedLaws
namespace Go.Proofs.YtblbcojkjknfdaaDoor
open Go.RowKit Go.ChangeShapes Go.WideShapes Go.ChangeAt Go.Deep

section
variable {H : Type} {enc : TypeId × Value → H} {P : Program} {W : World} {sp : Nat → Bool} {held : Bool}
theorem weightsAll_mem {e : TypeId} : ∀ {l : List (DataW H)} {d : DataW H}, d ∈ l → ∀ n ∈ d.weights P e, n ∈ DataW.weightsAll P e l
  | d' :: r, d, hd, n, hn => by
    simp only [DataW.weightsAll, List.mem_append]
    rcases List.mem_cons.1 hd with rfl | h
    · exact Or.inl hn
    · exact Or.inr (weightsAll_mem h n hn)
/-- within the reach -/
def InReach (P : Program) (T : TypeId) (d : DataW H) : Prop := ∀ n ∈ d.weights P T, n ≤ reachBytes
theorem open_list_w {β : Type} [Inhabited β] (size : Nat) (hpos : 0 < size) (f : β → List Value) (hf : ∀ b, (f b).length = size) (good : β → Prop) {T e : TypeId} (hT : P.underlying T = some (.slice e)) (hc : P.cellsOf e = size)
    (hel : ∀ n cs x, DataW.trod enc P W 0 sp held n e cs = some x → InReach P e x.1 → ∃ b, cs = f b ∧ good b)
    {a : Option Addr} {len cap : Nat} {d : DataW H} {p : List MemPlace} (h : DataW.Trod enc P W 0 sp held T (.slice a len cap) d p) (hw : InReach P T d) :
    ∃ L : List β, L.length = len ∧ (∀ b ∈ L, good b) ∧ Reads W W.heap.size size a len (L.flatMap f) ∧ len ≤ cap ∧ cap ≤ maxLen := by
  obtain ⟨fuel, hfu⟩ := h
  rcases open_slice hT hfu with ⟨hcs, _⟩ | ⟨x, l, c, m, n, D, Pl, hcs, _, hl, hm, hmm, hx, hi⟩
  · simp [Value.cells] at hcs
    obtain ⟨rfl, rfl, rfl⟩ := hcs
    exact ⟨[], rfl, by simp, Reads.none_, Nat.le_refl _, Nat.zero_le _⟩
  · simp [Value.cells] at hcs
    obtain ⟨rfl, rfl, rfl⟩ := hcs
    have hd : d = .slice ((List.range len).map D) ((List.range (m - len)).map fun j => D (len + j)) := by injection hx
    have hlm : len ≤ m := by rw [hmm]; split <;> omega
    have hDw : ∀ i, i < len → InReach P e (D i) := fun i hi k hk => hw k (by
      rw [hd, DataW.weights, hT]
      refine List.mem_cons.2 (.inr (List.mem_append.2 (.inl (weightsAll_mem (d := D i) ?_ k hk))))
      exact List.mem_map.2 ⟨i, List.mem_range.2 hi, rfl⟩)
    obtain ⟨g, hg⟩ := choose_lt (n := len) (p := fun i (b : β) => W.cells? 0 (x.add (i * size)) size = some (f b) ∧ good b) fun i hil => by
      obtain ⟨cs', h1, h2⟩ := hi i (by omega)
      obtain ⟨b, rfl, hgood⟩ := hel _ _ _ h2 (hDw i hil)
      rw [hc] at h1
      exact ⟨b, h1, hgood⟩
    refine ⟨(List.range len).map g, by simp, ?_, ⟨by rw [flatMap_len f size hf]; simp, fun hn => ⟨x, rfl, ?_, fun j u hu => ?_⟩⟩, hl, hm⟩
    · intro b hb
      simp only [List.mem_map, List.mem_range] at hb
      obtain ⟨i, hil, rfl⟩ := hb
      exact (hg i hil).2
    · obtain ⟨_, _, h3⟩ := World.cells?_some (hg 0 hn).1
      have h4 := h3 0 hpos
      have h5 : 0 < (f (g 0)).length := by rw [hf]; exact hpos
      rw [List.getElem?_eq_getElem h5] at h4
      have := block_lt_of_cell h4
      rwa [block_of_add, block_of_add] at this
    · rw [flatMap_get f size hpos hf] at hu
      obtain ⟨b, hb, hu⟩ := Option.bind_eq_some_iff.1 hu
      rw [List.getElem?_map] at hb
      obtain ⟨i, hi2, rfl⟩ := Option.map_eq_some_iff.1 hb
      have hil := (List.getElem?_eq_some_iff.1 hi2).1
      have hie : i = j / size := by
        have := (List.getElem?_eq_some_iff.1 hi2).2
        simp at this
        exact this.symm
      simp at hil
      subst hie
      obtain ⟨_, _, h3⟩ := World.cells?_some (hg _ hil).1
      have hmod : j % size < size := Nat.mod_lt _ hpos
      rw [← hu, ← h3 _ hmod, add_of_add]
      congr 2
      have := Nat.div_add_mod j size
      rw [Nat.mul_comm] at this
      omega
theorem open_str1 {e : TypeId} (he : P.underlying e = some .string) {n : Nat} {cs : List Value} {x : DataW H × List MemPlace} (hx : DataW.trod enc P W 0 sp held n e cs = some x) (hw : InReach P e x.1) : ∃ s : ByteArray, cs = [.string s] ∧ s.size ≤ 140737488351232 := by
  obtain ⟨s, hs, rfl, _⟩ := DataW.trod_string he hx
  refine ⟨s, hs, ?_⟩
  have := hw s.data.toList.length (by simp [DataW.weights])
  rw [Array.length_toList] at this
  exact this
end

/-- an attribute; a token -/
abbrev Atr : Type := ByteArray × ByteArray
structure Tok where
  kind : Int
  name : ByteArray
  data : ByteArray
  A : Option Addr
  n : Nat
  c : Nat
  ats : List Atr
  self : Bool
deriving Inhabited
def atrCells (a : Atr) : List Value := [.string a.1, .string a.2]
def tokCells (t : Tok) : List Value := [.int .i64 t.kind, .string t.name, .string t.data, .slice t.A t.n t.c, .bool t.self]
def smallAtr (a : Atr) : Prop := a.1.size ≤ 140737488351232 ∧ a.2.size ≤ 140737488351232
/-- a token whose attributes read -/
structure TokOk (W : World) (B : Nat) (t : Tok) : Prop where
  len : t.ats.length = t.n
  cap : t.n ≤ t.c ∧ t.c ≤ maxLen
  reads : Reads W B 2 t.A t.n (t.ats.flatMap atrCells)
  wf : -9223372036854775808 ≤ t.kind ∧ t.kind ≤ 9223372036854775807
  small : t.name.size ≤ 140737488351232 ∧ t.data.size ≤ 140737488351232 ∧ ∀ a ∈ t.ats, smallAtr a
/-- a slice of tokens -/
structure Toks (W : World) (B : Nat) (A : Option Addr) (n : Nat) (l : List Tok) : Prop where
  len : l.length = n
  reads : Reads W B 5 A n (l.flatMap tokCells)
  ok : ∀ t ∈ l, TokOk W B t

section
variable {H : Type} {enc : TypeId × Value → H} {W : World} {sp : Nat → Bool} {held : Bool}
set_option maxRecDepth 100000 in
theorem open_atr {n : Nat} {cs : List Value} {x : DataW H × List MemPlace} (hx : DataW.trod enc Tryd.prog W 0 sp held n 33 cs = some x) (hw : InReach Tryd.prog 33 x.1) : ∃ a : Atr, cs = atrCells a ∧ smallAtr a := by
  obtain ⟨y0, y1, m, rfl, hl, h0, h1⟩ := trod_struct2 Tryd.underlying33 hx
  have hl2 : cs.length = 2 := hl.trans (by kernel_rfl)
  match cs, hl2 with
  | [c0, c1], _ =>
    obtain ⟨s0, e0, z0⟩ := open_str1 Tryd.underlying9 h0 fun k hk => hw k (by
      rw [DataW.weights, Tryd.underlying33]
      exact List.mem_append.2 (.inl hk))
    obtain ⟨s1, e1, z1⟩ := open_str1 Tryd.underlying9 h1 fun k hk => hw k (by
      rw [DataW.weights, Tryd.underlying33]
      exact List.mem_append.2 (.inr (List.mem_append.2 (.inl hk))))
    have hc : Tryd.prog.cellsOf 9 = 1 := by kernel_rfl
    rw [hc] at e0 e1
    refine ⟨(s0, s1), ?_, z0, z1⟩
    simp at e0 e1
    rw [e0, e1]
    rfl
set_option maxRecDepth 100000 in
theorem open_tok {n : Nat} {cs : List Value} {x : DataW H × List MemPlace} (hx : DataW.trod enc Tryd.prog W 0 sp held n 28 cs = some x) (hw : InReach Tryd.prog 28 x.1) : ∃ t : Tok, cs = tokCells t ∧ TokOk W W.heap.size t := by
  obtain ⟨xs, m, _, hxe, hl, hlen, hg⟩ := DataW.trod_struct Tryd.underlying28 hx
  have hl5 : cs.length = 5 := hl.trans (by kernel_rfl)
  match cs, hl5, xs, hlen with
  | [c0, c1, c2, c3, c4], _, [y0, y1, y2, y3, y4], _ =>
    subst hxe
    have hs1 : Tryd.prog.cellsOf 9 = 1 := by kernel_rfl
    have hs2 : Tryd.prog.cellsOf 3 = 1 := by kernel_rfl
    have hs3 : Tryd.prog.cellsOf 26 = 1 := by kernel_rfl
    have hs4 : Tryd.prog.cellsOf 4 = 1 := by kernel_rfl
    have h0 := hg 0 _ rfl
    have h1 := hg 1 _ rfl
    have h2 := hg 2 _ rfl
    have h3 := hg 3 _ rfl
    have h4 := hg 4 _ rfl
    simp [hs1, hs2, hs3, hs4] at h0 h1 h2 h3 h4
    have hwj : ∀ (j : Nat) (t : TypeId) (d : DataW H), [3, 9, 9, 26, 4][j]? = some t → [y0.1, y1.1, y2.1, y3.1, y4.1][j]? = some d → InReach Tryd.prog t d := fun j t d ht hd k hk => hw k (by
      rw [DataW.weights, Tryd.underlying28]
      exact DataW.weights_mem_each (ts := [3, 9, 9, 26, 4]) (ds := [y0.1, y1.1, y2.1, y3.1, y4.1]) ht hd k hk)
    obtain ⟨z0, e0, _, w0⟩ := DataW.trod_int Tryd.underlying3 h0
    obtain ⟨s1, e1, q1⟩ := open_str1 Tryd.underlying9 h1 (hwj 1 _ _ rfl rfl)
    obtain ⟨s2, e2, q2⟩ := open_str1 Tryd.underlying9 h2 (hwj 2 _ _ rfl rfl)
    obtain ⟨b4, e4, _⟩ := DataW.trod_bool Tryd.underlying4 h4
    obtain ⟨A, n3, k3, e3⟩ : ∃ A n3 k3, c3 = .slice A n3 k3 := by
      rcases open_slice Tryd.underlying26 h3 with ⟨h, _⟩ | ⟨a, l, c, m, n, D, Pl, h, _⟩
      · exact ⟨none, 0, 0, by simpa using h⟩
      · exact ⟨some a, l, c, by simpa using h⟩
    subst e3
    obtain ⟨L, hL, hg3, hr, hn, hc⟩ := open_list_w (β := Atr) 2 (by decide) atrCells (fun _ => rfl) smallAtr Tryd.underlying26 (by kernel_rfl) (fun n cs x hx hw => open_atr hx hw) ⟨m, h3⟩ (hwj 3 _ _ rfl rfl)
    injection e0 with e0 _
    injection e1 with e1 _
    injection e2 with e2 _
    injection e4 with e4 _
    subst e0 e1 e2 e4
    refine ⟨⟨z0, s1, s2, A, n3, k3, L, b4⟩, rfl, hL, ⟨hn, hc⟩, hr, ?_, q1, q2, hg3⟩
    have hz : -9223372036854775808 ≤ z0 ∧ z0 ≤ 9223372036854775807 := by simpa [Lit.wf, IntKind.min, IntKind.max, IntKind.signed, IntKind.bits] using w0
    exact hz
set_option maxRecDepth 100000 in
theorem open_toks {A : Option Addr} {n c : Nat} {d : DataW H} {p : List MemPlace} (h : DataW.Trod enc Tryd.prog W 0 sp held 22 (.slice A n c) d p) (hw : InReach Tryd.prog 22 d) :
    ∃ l : List Tok, Toks W W.heap.size A n l ∧ n ≤ c ∧ c ≤ maxLen := by
  obtain ⟨l, hl, hg, hr, h1, h2⟩ := open_list_w (β := Tok) 5 (by decide) tokCells (fun _ => rfl) (TokOk W W.heap.size) Tryd.underlying22 (by kernel_rfl) (fun n cs x hx hw => open_tok hx hw) h hw
  exact ⟨l, ⟨hl, hr, hg⟩, h1, h2⟩
end

section
variable {W W' : World} {B n : Nat} {A : Option Addr} {l : List Tok} {t : Tok}
theorem TokOk.fr {S : Nat → Prop} (h : TokOk W B t) (hf : Fr S W W') (hB : B ≤ W.heap.size) (hs : ∀ k, S k → B ≤ k) : TokOk W' B t := ⟨h.len, h.cap, h.reads.fr hf hB hs, h.wf, h.small⟩
theorem TokOk.below (h : TokOk W B t) (hf : Below B W W') : TokOk W' B t := ⟨h.len, h.cap, h.reads.below hf, h.wf, h.small⟩
theorem Toks.fr {S : Nat → Prop} (h : Toks W B A n l) (hf : Fr S W W') (hB : B ≤ W.heap.size) (hs : ∀ k, S k → B ≤ k) : Toks W' B A n l := ⟨h.len, h.reads.fr hf hB hs, fun t ht => (h.ok t ht).fr hf hB hs⟩
theorem Toks.below (h : Toks W B A n l) (hf : Below B W W') : Toks W' B A n l := ⟨h.len, h.reads.below hf, fun t ht => (h.ok t ht).below hf⟩
theorem Toks.nil_ (h : Fr Nil W W') (hB : B ≤ W.heap.size) (ht : Toks W B A n l) : Toks W' B A n l := ht.fr h hB fun _ x => x.elim
theorem add_spell (ad : Addr) (m i : Nat) (hi : 0 < i) : ad.add (m + i) = ⟨(ad.add m).block, (ad.add m).off + i, none⟩ := by
  unfold Addr.add
  by_cases hm : m = 0
  · subst hm
    rw [if_neg (by omega), if_pos rfl, Nat.zero_add]
  · rw [if_neg (by omega), if_neg hm]
    simp [Nat.add_assoc]
/-- the k-th token's cells -/
theorem tok_at (h : Toks W B A n l) {k : Nat} (hk : k < n) : ∃ ad t, A = some ad ∧ ad.block < B ∧ l[k]? = some t ∧ TokOk W B t ∧ W.cell? (ad.add (k * 5)) = some (.int .i64 t.kind) ∧ W.cell? ⟨(ad.add (k * 5)).block, (ad.add (k * 5)).off + 1, none⟩ = some (.string t.name) ∧
    W.cell? ⟨(ad.add (k * 5)).block, (ad.add (k * 5)).off + 2, none⟩ = some (.string t.data) ∧ W.cell? ⟨(ad.add (k * 5)).block, (ad.add (k * 5)).off + 3, none⟩ = some (.slice t.A t.n t.c) ∧ W.cell? ⟨(ad.add (k * 5)).block, (ad.add (k * 5)).off + 4, none⟩ = some (.bool t.self) := by
  obtain ⟨ad, rfl, hb, hc⟩ := h.reads.2 (by omega)
  have hkl : k < l.length := by rw [h.len]; exact hk
  have ht : l[k]? = some l[k] := List.getElem?_eq_getElem hkl
  have hcell : ∀ i u, i < 5 → (tokCells l[k])[i]? = some u → W.cell? (ad.add (k * 5 + i)) = some u := fun i u hi hu => hc _ _ (by
    rw [flatMap_get tokCells 5 (by decide) (fun _ => rfl), show (k * 5 + i) / 5 = k by omega, show (k * 5 + i) % 5 = i by omega, ht]
    exact hu)
  have sp : ∀ i, 0 < i → (⟨(ad.add (k * 5)).block, (ad.add (k * 5)).off + i, none⟩ : Addr) = ad.add (k * 5 + i) := fun i hi => (add_spell ad _ i hi).symm
  refine ⟨ad, l[k], rfl, hb, ht, h.ok _ (List.getElem_mem hkl), hcell 0 _ (by omega) rfl, ?_, ?_, ?_, ?_⟩
  · rw [sp 1 (by omega)]; exact hcell 1 _ (by omega) rfl
  · rw [sp 2 (by omega)]; exact hcell 2 _ (by omega) rfl
  · rw [sp 3 (by omega)]; exact hcell 3 _ (by omega) rfl
  · rw [sp 4 (by omega)]; exact hcell 4 _ (by omega) rfl
/-- the k-th attribute's cells -/
theorem atr_at (h : TokOk W B t) {k : Nat} (hk : k < t.n) : ∃ ad a, t.A = some ad ∧ ad.block < B ∧ t.ats[k]? = some a ∧ smallAtr a ∧ W.cell? (ad.add (k * 2)) = some (.string a.1) ∧ W.cell? ⟨(ad.add (k * 2)).block, (ad.add (k * 2)).off + 1, none⟩ = some (.string a.2) := by
  obtain ⟨ad, hA, hb, hc⟩ := h.reads.2 (by omega)
  have hkl : k < t.ats.length := by rw [h.len]; exact hk
  have ht : t.ats[k]? = some t.ats[k] := List.getElem?_eq_getElem hkl
  have hcell : ∀ i u, i < 2 → (atrCells t.ats[k])[i]? = some u → W.cell? (ad.add (k * 2 + i)) = some u := fun i u hi hu => hc _ _ (by
    rw [flatMap_get atrCells 2 (by decide) (fun _ => rfl), show (k * 2 + i) / 2 = k by omega, show (k * 2 + i) % 2 = i by omega, ht]
    exact hu)
  exact ⟨ad, t.ats[k], hA, hb, ht, h.small.2.2 _ (List.getElem_mem hkl), hcell 0 _ (by omega) rfl, by rw [← add_spell ad _ 1 (by omega)]; exact hcell 1 _ (by omega) rfl⟩
end
end Go.Proofs.YtblbcojkjknfdaaDoor
