/-
  (*Trie).put, walked.
-/
import Derived.Test.YthhlpbopbabojaaPutP
namespace Go.Proofs.Ythhlpbopbabojaa
open Go.RowKit

theorem infoNode : (Try.prog.info? 48).map (fun i => (i.zero, i.size, i.bytes)) = some (some (.agg #[.map none, .int .i64 0]), 2, 16) := by kernel_rfl

theorem growTo_step_in {P : List Pth} {s : Pth} {k j : Nat} {c : UInt8} (hc : s[k]? = some c) (hj : (growTo P s k)[j]? = some (s.take k)) {j' : Nat} (hk : kid (growTo P s k) j c = some j') :
    growTo P s (k + 1) = growTo P s k ∧ (growTo P s k)[j']? = some (s.take (k + 1)) := by
  rw [kid_at hj, ← take_succ_at hc] at hk
  have h1 := idx_get hk
  refine ⟨?_, h1⟩
  rw [growTo, if_pos (List.mem_of_getElem? h1)]
theorem growTo_step_out {P : List Pth} {s : Pth} {k j : Nat} {c : UInt8} (hc : s[k]? = some c) (hj : (growTo P s k)[j]? = some (s.take k)) (hk : kid (growTo P s k) j c = none) :
    growTo P s (k + 1) = growTo P s k ++ [s.take k ++ [c]] ∧ s.take k ++ [c] ∉ growTo P s k := by
  rw [kid_at hj] at hk
  have h1 := idx_none.1 hk
  refine ⟨?_, h1⟩
  rw [growTo, take_succ_at hc, if_neg h1]

/-- at the head of a round of put: k bytes are gone, the place is j -/
def PutI (w : World) (base b : Nat) (L : List ByteArray) (P : List Pth) (ns : List (Nat × Int)) (s : ByteArray) (at' i : Value) (wr : World) : Prop :=
  ∃ (k j : Nat) (ns' : List (Nat × Int)), k ≤ s.size ∧ i = .int .i64 k ∧ at' = .int .i64 j ∧ (growTo P (bs s) k)[j]? = some ((bs s).take k) ∧ Ext ns ns' ∧ TrieAt wr base b L (growTo P (bs s) k) ns' ∧
    Fr (fun k => base ≤ k) w wr ∧ Bts wr w.heap.size 5 (bs s)
def PutPost (w : World) (base b : Nat) (L : List ByteArray) (P : List Pth) (ns : List (Nat × Int)) (s : ByteArray) (word : Int) (e : Ending) (w' : World) : Prop :=
  ∃ (j : Nat) (ns' : List (Nat × Int)) (x : Nat × Int), (growTo P (bs s) s.size)[j]? = some (bs s) ∧ Ext ns ns' ∧ ns'[j]? = some x ∧ e = .returned (.bool (x.2 == -1)) ∧
    TrieAt w' base b L (growTo P (bs s) s.size) (ns'.set j (x.1, word)) ∧ Fr (fun k => base ≤ k) w w'

theorem nodes_set {ns : List (Nat × Int)} {j : Nat} {x : Nat × Int} (h : ns[j]? = some x) (z : Int) : (ns.flatMap nodeCells).set (j * 2 + 1) (.int .i64 z) = (ns.set j (x.1, z)).flatMap nodeCells := by
  induction ns generalizing j with
  | nil => simp at h
  | cons y ns ih =>
    cases j with
    | zero =>
      simp at h
      subst h
      rfl
    | succ j =>
      simp at h
      have := ih h
      rw [show (j + 1) * 2 + 1 = (j * 2 + 1) + 1 + 1 by omega]
      rw [List.flatMap_cons]
      show Value.map (some y.1) :: .int .i64 y.2 :: (ns.flatMap nodeCells).set (j * 2 + 1) (.int .i64 z) = _
      rw [this]
      rfl
/-- a place's word stored -/
theorem trie_store {wr : World} {base b : Nat} {L : List ByteArray} {P : List Pth} {ns : List (Nat × Int)} {A : Option Addr} {cw g d : Nat}
    (hb : Blk wr b 51 #[.slice A L.length cw, .slice (some ⟨g, 0, none⟩) P.length d]) (ho : Own wr 9 1 A L.length cw (L.map .string)) (hn : Own wr 48 2 (some ⟨g, 0, none⟩) P.length d (ns.flatMap nodeCells))
    (hl : ns.length = P.length) (hm : ∀ (i : Nat) (x : Nat × Int), ns[i]? = some x → base ≤ x.1 ∧ MapB wr x.1 P.length (kid P i)) (hi : ∀ (i j : Nat) (x y : Nat × Int), ns[i]? = some x → ns[j]? = some y → x.1 = y.1 → i = j)
    (h1 : base ≤ b) (h2 : ∀ k, At A k → base ≤ k) (h3 : ∀ k, At (some ⟨g, 0, none⟩) k → base ≤ k) {j : Nat} {x : Nat × Int} (hx : ns[j]? = some x) (z : Int) :
    TrieAt (wr.setCell ⟨g, j * 2 + 1, none⟩ (.int .i64 z)) base b L P (ns.set j (x.1, z)) ∧ Fr (fun k => base ≤ k) wr (wr.setCell ⟨g, j * 2 + 1, none⟩ (.int .i64 z)) := by
  have hg : At (some (⟨g, 0, none⟩ : Addr)) g := ⟨_, rfl, rfl⟩
  have hgb : b ≠ g := fun e => own_not hn hb (by decide) (e ▸ hg)
  refine ⟨⟨A, cw, some ⟨g, 0, none⟩, d, hb.far (p := ⟨g, j * 2 + 1, none⟩) hgb _, ho.setFar (p := ⟨g, j * 2 + 1, none⟩) (fun hk => own_apart ho hn (by decide) hk hg) _, ?_, by simp [hl], ?_, ?_, h1, h2, h3⟩,
    (Fr.rfl' _ wr).setCell (p := ⟨g, j * 2 + 1, none⟩) (fun _ => h3 _ hg) _⟩
  · rw [← nodes_set hx]
    exact hn.set (j * 2 + 1) (.int .i64 z)
  · intro i y hy
    have aux : ∃ y', ns[i]? = some y' ∧ y'.1 = y.1 := by
      by_cases hij : j = i
      · subst hij
        rw [List.getElem?_set_self' , hx] at hy
        simp at hy
        exact ⟨x, hx, by rw [← hy]⟩
      · rw [List.getElem?_set_ne hij] at hy
        exact ⟨y, hy, rfl⟩
    obtain ⟨y', a1, a2⟩ := aux
    rw [← a2]
    refine ⟨(hm i y' a1).1, (hm i y' a1).2.kept (Below.heap_setCell _ _ _ _ fun e => ?_)⟩
    exact own_not_map hn (hm i y' a1).2 (e ▸ hg)
  · have aux : ∀ (i : Nat) (y : Nat × Int), (ns.set j (x.1, z))[i]? = some y → ∃ y', ns[i]? = some y' ∧ y'.1 = y.1 := by
      intro i y hy
      by_cases hij : j = i
      · subst hij
        rw [List.getElem?_set_self' , hx] at hy
        simp at hy
        exact ⟨x, hx, by rw [← hy]⟩
      · rw [List.getElem?_set_ne hij] at hy
        exact ⟨y, hy, rfl⟩
    intro i k y y2 hy hy2 he
    obtain ⟨y', a1, a2⟩ := aux i y hy
    obtain ⟨y2', c1, c2⟩ := aux k y2 hy2
    exact hi i k y' y2' a1 c1 (by rw [a2, c2, he])

theorem node_reads (w : World) (x : Nat × Int) : Reads ((w.alloc (.map #[] 0)).alloc (.cells #[.map (some x.1), .int .i64 x.2] 48)) (w.heap.size + 1 + 1) 2 (some ⟨w.heap.size + 1, 0, none⟩) 1 [.map (some x.1), .int .i64 x.2] := by
  have h := (Own.lit (size := 2) (e := 48) (w.alloc (.map #[] 0)) #[.map (some x.1), .int .i64 x.2] 1 (by unfold maxLen; omega) rfl).reads
  simp only [World.size_alloc] at h
  exact h
theorem node_one (x : Nat × Int) : ∀ u ∈ [Value.map (some x.1), .int .i64 x.2], u.oneCell' = true := by
  intro u hu
  simp at hu
  rcases hu with rfl | rfl <;> rfl

set_option maxRecDepth 100000 in
set_option maxHeartbeats 4000000 in
theorem put_any (w : World) (base b : Nat) (L : List ByteArray) (P : List Pth) (ns : List (Nat × Int)) (h : TrieAt w base b L P ns) (gd : Good P) (s : ByteArray) (hs : s.size ≤ 64) (hP : P.length ≤ 100000) (word : Int) :
    Calls Try.prog 25 #[.pointer (some ⟨b, 0, none⟩), .string s, .int .i64 word] w (PutPost w base b L P ns s word) := by
  have hcv := run_bytes_of (P := Try.prog) s Try.underlying9 Try.underlying58 Try.underlying5 w
  have hB := bts_new (P := Try.prog) w s 5
  have hF := bw_fr (P := Try.prog) w s 5
  have hsz := bw_size (P := Try.prog) w s 5
  generalize BWorld Try.prog w s 5 = W0 at *
  generalize grownCap w s.size 0 5 = cp at *
  have HS := Lib.hid (size_bs s)
  have hbl := h.lt
  have h0 := h.fr hF fun _ _ _ x => x
  have HZ := Lib.hid hsz
  clear hsz h
  have hmm := @run_makeMap Try.prog
  go_enter Try.func25, Try.ntmps25
  go_wp2
  go_loopw [7, 9, 10, 11, 16] (fun p _ _ _ i wr => PutI w base b L P ns s p i wr) (fun _ _ _ _ i _ => s.size - (intOf i).toNat)
  case atStart => exact ⟨0, 0, ns, Nat.zero_le _, rfl, rfl, gd.root, ext_refl ns, h0, hF.mono fun _ _ x => x.elim, hB⟩
  case round =>
    obtain ⟨k, j, ns', hk, rfl, rfl, hj, hext, ht, hf, hbt⟩ := hrel
    have gk := growTo_good gd (bs s) k (by rw [← HS.out]; exact hk)
    have hPl := growTo_len P (bs s) k
    have hgp := gk.pos
    have HT := Lib.hid ht
    obtain ⟨A, cw, B, d, hb, ho, hn, hl, hm, hi, h1, h2, h3⟩ := ht
    obtain ⟨g, rfl, hg⟩ := hn.form hgp
    have hc1 := hb.cell 1
    simp at hc1
    have hjl : j < (growTo P (bs s) k).length := (List.getElem?_eq_some_iff.1 hj).1
    obtain ⟨x, hx⟩ : ∃ x, ns'[j]? = some x := ⟨_, List.getElem?_eq_getElem (by omega)⟩
    by_cases hlt : k < s.size
    · obtain ⟨c, hc⟩ : ∃ c, (bs s)[k]? = some c := ⟨_, List.getElem?_eq_getElem (by rw [← HS.out]; exact hlt)⟩
      have hbc := hbt.cell hc
      have hcell := hn.cell (j * 2) (by omega)
      rw [(node_at hx).1] at hcell
      have hlook := (hm j x hx).2.look c
      cases hkd : kid (growTo P (bs s) k) j c with
      | some j' =>
        obtain ⟨e1, e2⟩ := growTo_step_in hc hj hkd
        rw [hkd] at hlook
        have E1 := Lib.hid e1
        have E2 := Lib.hid e2
        have HJ := Lib.hid hj
        clear e1 e2 hkd hc hl hx hj
        go_wp2
        go_roundw
        case rel => exact ⟨k + 1, j', ns', by omega, by go_num, rfl, by rw [E1.out]; exact E2.out, hext, by rw [E1.out]; exact HT.out, hf, hbt⟩
        case measure => simp [intOf]; omega
      | none =>
        obtain ⟨e1, e2⟩ := growTo_step_out hc hj hkd
        rw [hkd] at hlook
        have E1 := Lib.hid e1
        have HJ := Lib.hid hj
        have HC := Lib.hid hc
        have HX := Lib.hid hx
        have HL := Lib.hid hl
        have hmx := (hm j x hx).2
        have HBX := Lib.hid (show x.1 ≠ b from fun e => by
          rw [e] at hmx
          exact hmx.no_cells hb)
        clear e1 hkd hc hl hx hj HT
        go_wp2_with (
             at_builtin
             refine wpList_append _ rfl (.tmp 44) (.tmp 47) 49 rfl 48 (.agg #[.map none, .int .i64 0]) 2 16 Try.underlying49 infoNode rfl (by decide) (some ⟨g, 0, none⟩) (growTo P (bs s) k).length d (ns'.flatMap nodeCells) rfl ((hn.alloc _).alloc _)
               _ _ 1 1 [.map (some wr.heap.size), .int .i64 (-1)] rfl (node_reads wr (wr.heap.size, -1)) (node_one (wr.heap.size, -1)) (by unfold maxLen; omega) (by omega) ?_
             intro B' d' w2 hown2 hfr2 hat
             obtain ⟨g', rfl, hg'⟩ := hown2.form (by omega)
             have hb2 := ((hb.alloc (.map #[] 0)).alloc (.cells #[.map (some wr.heap.size), .int .i64 (-1)] 48)).fr hfr2 (own_not hn hb (by decide))
             have hc2 := hb2.cell 1
             simp at hc2
             have hfz2 := hb2.frozen 1
             have hb3 : Blk (w2.setCell ⟨b, 1, none⟩ (.slice (some ⟨g', 0, none⟩) ((growTo P (bs s) k).length + 1) d')) b 51 #[.slice A L.length cw, .slice (some ⟨g', 0, none⟩) ((growTo P (bs s) k).length + 1) d'] := by
               simpa using hb2.set_ 1 (.slice (some ⟨g', 0, none⟩) ((growTo P (bs s) k).length + 1) d')
             have hc3 := hb3.cell 1
             simp at hc3
             have hn3 := hown2.setFar (p := ⟨b, 1, none⟩) (own_not hown2 hb2 (by decide)) (.slice (some ⟨g', 0, none⟩) ((growTo P (bs s) k).length + 1) d')
             have hcell3 := hn3.cell (j * 2) (by omega)
             rw [List.getElem?_append_left (by rw [nodes_len, HL.out]; omega), (node_at HX.out).1] at hcell3
             have hm3 : MapB (w2.setCell ⟨b, 1, none⟩ (.slice (some ⟨g', 0, none⟩) ((growTo P (bs s) k).length + 1) d')) x.1 (growTo P (bs s) k).length (kid (growTo P (bs s) k) j) :=
               ((hmx.kept (w' := (wr.alloc (.map #[] 0)).alloc (.cells #[.map (some wr.heap.size), .int .i64 (-1)] 48)) ((Below.heap_alloc _ _ _ (by have := hmx.lt; simp; omega)).trans (Below.heap_alloc _ _ _ hmx.lt))).fr hfr2 (own_not_map hn hmx)).kept
                 (Below.heap_setCell _ _ _ _ HBX.out)
             obtain ⟨w4, hrun4, hmb4, hf4⟩ := hm3.put c (growTo P (bs s) k).length (by omega) (by unfold maxLen; omega)
             have HAT := Lib.hid hat
             have HB4 := Lib.hid hmb4
             clear hm3 hat hmb4)
        go_roundw
        case rel =>
          obtain ⟨r1, r2, r3⟩ := trie_grow gk hb ho hn HL.out hm hi h1 h2 h3 HJ.out HX.out e2 hown2 hfr2 (by
            rcases HAT.out with e | ⟨e, _⟩
            · exact .inl e
            · exact .inr (by rw [e]; simp)) hf4 HB4.out
          obtain ⟨rest, m, hbb, hml⟩ := hbt
          exact ⟨k + 1, (growTo P (bs s) k).length, ns' ++ [(wr.heap.size, -1)], by omega, by go_num, rfl, by rw [E1.out, take_succ_at HC.out]; simp, ext_snoc hext _, by rw [E1.out]; exact r1, hf.trans r2, ⟨rest, m, r3 _ _ _ hbb, hml⟩⟩
        case measure => simp [intOf]; omega
    · obtain rfl : k = s.size := by omega
      have hcell := hn.cell (j * 2 + 1) (by omega)
      rw [(node_at hx).2] at hcell
      have hfree := hn.free (j * 2 + 1)
      have HX := Lib.hid hx
      have HL := Lib.hid hl
      have HJ := Lib.hid (show (growTo P (bs s) s.size)[j]? = some (bs s) by rw [hj, List.take_of_length_le (by rw [HS.out]; exact Nat.le_refl _)])
      obtain ⟨r1, r2⟩ := trie_store hb ho hn hl hm hi h1 h2 h3 hx word
      clear hx hl hj HT hi
      by_cases hx2 : x.2 = -1
      · have hx3 : (x.2 != -1) = false := by simpa using hx2
        have HE := Lib.hid (show (x.2 == -1) = true by simpa using hx2)
        clear hx2
        go_wp2
        go_ret
        exact ⟨j, ns', x, HJ.out, hext, HX.out, by rw [HE.out]; rfl, r1, hf.trans r2⟩
      · have hx3 : (x.2 != -1) = true := by simpa using hx2
        have HE := Lib.hid (show (x.2 == -1) = false by simpa using hx2)
        clear hx2
        go_wp2
        go_ret
        exact ⟨j, ns', x, HJ.out, hext, HX.out, by rw [HE.out]; rfl, r1, hf.trans r2⟩
end Go.Proofs.Ythhlpbopbabojaa
