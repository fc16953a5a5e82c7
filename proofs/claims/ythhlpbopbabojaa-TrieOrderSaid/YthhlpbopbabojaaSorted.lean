/-
  (*Trie).sorted, Sorted, walked. (Printed by gen_sorted.py.)
-/
import Derived.Test.YthhlpbopbabojaaSrtS
import Derived.Test.YthhlpbopbabojaaSubP
import Derived.Test.YthhlpbopbabojaaInsK
import Derived.Test.YthhlpbopbabojaaTRef
namespace Go.Proofs.Ythhlpbopbabojaa
open Go.RowKit

theorem idx_some {P : List Pth} {q : Pth} : (idx P q).isSome = true ↔ q ∈ P := by
  cases h : idx P q with
  | none => simp [idx_none.1 h]
  | some j => simp [List.mem_of_getElem? (idx_get h)]
theorem flat_le (S : UInt8 → List Pth) (l : List UInt8) {k : Nat} {c : UInt8} (h : l[k]? = some c) : ((l.take k).flatMap S).length + (S c).length ≤ (l.flatMap S).length := by
  obtain ⟨hk, rfl⟩ := List.getElem?_eq_some_iff.1 h
  have e : l.flatMap S = (l.take (k + 1)).flatMap S ++ (l.drop (k + 1)).flatMap S := by rw [← List.flatMap_append, List.take_append_drop]
  rw [e, List.take_succ_eq_append_getElem hk, List.flatMap_append, List.flatMap_singleton]
  simp only [List.length_append]
  omega
/-- what a place's cells hold -/
theorem trie_cells {W : World} {base b : Nat} {L : List ByteArray} {P : List Pth} {ns : List (Nat × Int)} (h : TrieAt W base b L P ns) {i : Nat} {p : Pth} (hp : P[i]? = some p) :
    ∃ (Aw : Option Addr) (cw g d : Nat) (x : Nat × Int), W.cell? ⟨b, 0, none⟩ = some (.slice Aw L.length cw) ∧ W.cell? ⟨b, 1, none⟩ = some (.slice (some ⟨g, 0, none⟩) P.length d) ∧ W.cell? ⟨g, i * 2, none⟩ = some (.map (some x.1)) ∧
      MapB W x.1 P.length (kid P i) ∧ ns[i]? = some x ∧ Own W 9 1 Aw L.length cw (L.map .string) := by
  obtain ⟨A, c, B, d, hb, ho, hn, hl, hm, hi, h1, h2, h3⟩ := h
  have hlt := (List.getElem?_eq_some_iff.1 hp).1
  obtain ⟨x, hx⟩ : ∃ x, ns[i]? = some x := ⟨_, List.getElem?_eq_getElem (by omega)⟩
  obtain ⟨g, rfl, _⟩ := hn.form (by omega)
  have hc := hn.cell (i * 2) (by omega)
  rw [(node_at hx).1] at hc
  have c0 := hb.cell 0
  have c1 := hb.cell 1
  simp at c0 c1
  exact ⟨A, c, g, d, x, c0, c1, hc, (hm i x hx).2, hx, ho⟩
/-- what sorted hands back: these texts, in out's row or a new one -/
def OutP (W : World) (A : Option Addr) (xs : List Pth) (e : Ending) (w' : World) : Prop :=
  ∃ A' n' c', n' = xs.length ∧ e = .returned (.slice A' n' c') ∧ Own w' 9 1 A' n' c' (txt xs) ∧ Fr (At A) W w' ∧ ∀ k, At A' k → At A k ∨ W.heap.size ≤ k
/-- sorted's contract at place i, what comes out being S -/
def SrtAt (W0 : World) (b i : Nat) (S : List Pth) : Prop := ∀ (W : World) (A : Option Addr) (n c : Nat) (xs : List Pth), n = xs.length → Fr Nil W0 W → Own W 9 1 A n c (txt xs) → (∀ k, At A k → W0.heap.size ≤ k) → xs.length + S.length ≤ 1000000 →
  Calls Try.prog 27 #[.pointer (some ⟨b, 0, none⟩), .int .i64 i, .slice A n c] W (OutP W A (xs ++ S))

set_option maxRecDepth 100000 in
set_option maxHeartbeats 4000000 in
theorem sorted_step (W0 : World) (base b : Nat) (L : List ByteArray) (P : List Pth) (ns : List (Nat × Int)) (ht0 : TrieAt W0 base b L P ns) (hfu : Full (L.map bs) P ns) (i : Nat) (p : Pth) (hp : P[i]? = some p) (S : UInt8 → List Pth)
    (hc : ∀ ch j, kid P i ch = some j → SrtAt W0 b j (S ch)) : SrtAt W0 b i ((if p ∈ L.map bs then [p] else []) ++ (kidsOf P p).flatMap S) := by
  intro W A n c xs hn hf0 ho hA hb
  have HN0 := Lib.hid hn
  have HC := Lib.hid hc
  have HT0 := Lib.hid ht0
  have htW := ht0.fr hf0 fun _ _ _ h => h
  have hW := twrd_any W base b L P ns htW i
  have hil := (List.getElem?_eq_some_iff.1 hp).1
  obtain ⟨Aw, cw, g, d, x, k0, k1, k2, hM, hx, how⟩ := trie_cells htW hp
  have hgd : ns.getD i (0, -1) = x := by rw [List.getD_eq_getElem?_getD, hx]; rfl
  have hwr : wordR P ns i = if x.2 = -1 then (0, false) else (x.2, true) := by
    unfold wordR
    rw [show ((i : Int)).toNat = i from rfl, hgd]
    by_cases h : x.2 = -1
    · rw [if_neg (fun e => e.2.2 h), if_pos h]
    · rw [if_pos ⟨by omega, by omega, h⟩, if_neg h]
  rw [hwr] at hW
  rcases ends_word hfu hp hx with ⟨hx2, hin⟩ | ⟨m, hx2, hin⟩
  · rw [if_pos hx2] at hW
    have hnm : p ∉ L.map bs := idx_none.1 hin
    rw [if_neg hnm, List.nil_append] at hb ⊢
    have HB := Lib.hid hb
    have HW := Lib.hid hW
    have HAT := Lib.hid hA
    clear hW hwr hgd hx hx2 hin how hM ht0 hb hc k2 k1 k0
    have F02 := hf0
    have HN2 := HN0
    clear hn
    have ho2 := ho
    have F2 := Fr.rfl' (At A) W
    have at2 : ∀ k, At A k → At A k ∨ W.heap.size ≤ k := fun k h => .inl h
    clear ho
    go_enter Try.func27, Try.ntmps27
    go_wp2_with fail
    refine HW.out.mono ?_
    rintro e w1 ⟨rfl, rfl⟩
    obtain ⟨Aw2, cw2, g2, d2, x2, k0, k1, k2, hM, hx2, _⟩ := trie_cells (HT0.out.fr F02 fun _ _ _ h => h) hp
    have hM3 := hM.fr (S := Nil) ((Fr.rfl' Nil W).alloc (.cells #[.map (some x2.1)] 46)) fun h => h
    have hm3 : (W.alloc (.cells #[.map (some x2.1)] 46)).cell? ⟨W.heap.size, 0, none⟩ = some (.map (some x2.1)) := (Blk.new W 46 #[.map (some x2.1)]).cell 0
    have HK1 := Lib.hid (keysv_any (some x2.1) W)
    have HK2 := Lib.hid (sortedk_any (W.alloc (.cells #[.map (some x2.1)] 46)) W.heap.size x2.1 P.length (kid P i) hm3 hM3)
    have HO2 := Lib.hid ho2
    clear hM hM3 hm3 hx2 ho2
    go_wp2_with fail
    refine HK1.out.mono ?_
    rintro e w3 ⟨rfl, rfl⟩
    go_wp2_with fail
    refine HK2.out.mono ?_
    rintro e w4 ⟨Ak, ck, ss, rfl, hss, hk4, f4, hAk⟩
    obtain rfl : ss = kidsOf P p := kids_unique hss.1 (kids_asc P p) fun c => by rw [hss.2 c, kids_mem, kid_at hp]; exact idx_some
    have f24 : Fr Nil W w4 := ((Fr.rfl' Nil W).alloc _).trans f4
    have HF24 := Lib.hid f24
    have F04 := F02.trans f24
    have ho4 := HO2.out.fr f24 fun _ _ h => h
    have hk2 : ∀ k, At A k → k < W.heap.size := fun k hk => HO2.out.lt hk
    have hAk2 : ∀ k, At Ak k → ¬ At A k := fun k h1 h2 => by have := hAk k h1; have := hk2 k h2; rw [World.size_alloc] at *; omega
    have HKK := Lib.hid hk4
    have HF04 := Lib.hid F04
    clear k0 k1 k2 HK1 HK2 hss f4 f24 hk4 F04 hAk
    have hl256 : (kidsOf P p).length ≤ 256 := nodup_u8 ((kids_asc P p).imp fun {a b} h e => by rw [e] at h; omega)
    generalize hl : kidsOf P p = l at *
    go_wp2_with fail
    go_loopw [2, 10, 39] (fun s2 _ s39 wr => ∃ (k : Nat) (A1 : Option Addr) (n1 c1 : Nat), k ≤ l.length ∧ n1 = (xs ++ (l.take k).flatMap S).length ∧ s39 = .int .i64 k ∧ s2 = .slice A1 n1 c1 ∧ Own wr 9 1 A1 n1 c1 (txt (xs ++ (l.take k).flatMap S)) ∧ Fr (At A) w4 wr ∧ ∀ q, At A1 q → At A q ∨ w4.heap.size ≤ q)
      (fun _ _ s39 _ => l.length - (intOf s39).toNat)
    case atStart => exact ⟨0, A, n, c, Nat.zero_le _, by rw [List.take_zero, List.flatMap_nil, List.append_nil]; exact HN2.out, rfl, rfl, by rw [List.take_zero, List.flatMap_nil, List.append_nil]; exact ho4, Fr.rfl' _ _, fun q h => .inl h⟩
    case round =>
      clear ho4
      obtain ⟨k, A1, n1, c1, hk, hn1, rfl, rfl, ho, hf, hA1⟩ := hrel
      have HN1 := Lib.hid hn1
      clear hn1
      have F0r : Fr Nil W0 wr := HF04.out.trans' hf fun q hq h => by have := HAT.out q h; omega
      by_cases hlt : k < l.length
      · obtain ⟨ch, hch⟩ : ∃ ch, l[k]? = some ch := ⟨_, List.getElem?_eq_getElem hlt⟩
        have hkr := HKK.out.fr hf hAk2
        obtain ⟨gk, rfl, _⟩ := hkr.form (by omega)
        have hkc := hkr.cell k (by omega)
        rw [cellsOf, List.getElem?_map, hch] at hkc
        have hkc2 : wr.cell? ⟨gk, k, none⟩ = some (.int .u8 (ch.toNat : Int)) := hkc
        obtain ⟨Aw3, cw3, g3, d3, x3, k0, k1, k2, hM, hx3, _⟩ := trie_cells (HT0.out.fr F0r fun _ _ _ h => h) hp
        have hmem : p ++ [ch] ∈ P := (kids_mem P p ch).1 (hl ▸ List.mem_of_getElem? hch)
        obtain ⟨j, hj⟩ : ∃ j, kid P i ch = some j := by
          rw [kid_at hp]
          exact Option.isSome_iff_exists.1 (idx_some.2 hmem)
        have hlook := hM.look1 ch
        rw [hj] at hlook
        have HC2 := Lib.hid (HC.out ch j hj wr A1 n1 c1 (xs ++ (l.take k).flatMap S) HN1.out F0r ho (fun q hq => by
          rcases hA1 q hq with h | h
          · exact HAT.out q h
          · have := HF04.out.size; omega) (by
          have h1 := flat_le S l hch
          have h2 := HB.out
          simp only [List.length_append, List.length_cons, List.length_nil] at h1 h2 ⊢
          omega))
        have HTK := Lib.hid (show xs ++ (l.take (k + 1)).flatMap S = xs ++ (l.take k).flatMap S ++ S ch by
          obtain ⟨hk', rfl⟩ := List.getElem?_eq_some_iff.1 hch
          rw [List.take_succ_eq_append_getElem hk', List.flatMap_append, List.flatMap_singleton]
          simp only [List.append_assoc])
        clear hch hkc hM hx3 hj hmem ho hkr
        go_wp2_with fail
        refine HC2.out.mono ?_
        rintro e w5 ⟨A5, n5, c5, hn5, rfl, o5, f5, a5⟩
        have HN5 := Lib.hid hn5
        clear hn5
        go_wp2_with fail
        go_roundw
        case rel => exact ⟨k + 1, A5, n5, c5, by omega, by rw [HTK.out]; exact HN5.out, by first | rfl | go_num, rfl, by rw [HTK.out]; exact o5, hf.trans' f5 fun q hq h => by
            rcases hA1 q h with h | h
            · exact h
            · omega, fun q h => by
            rcases a5 q h with h | h
            · exact hA1 q h
            · exact .inr (Nat.le_trans hf.size h)⟩
        case measure => (simp [intOf]; try omega)
      · obtain rfl : k = l.length := by omega
        rw [List.take_length] at ho
        have HN3 := HN1.out
        rw [List.take_length] at HN3
        have HN4 := Lib.hid HN3
        clear HN3
        go_wp2_with fail
        go_ret
        refine ⟨A1, n1, c1, HN4.out, rfl, ho, (F2.trans' HF24.out fun _ _ h => h.elim).trans' hf fun q hq h => ?_, fun q h => ?_⟩
        · rcases at2 q h with h | h
          · exact h
          · omega
        · rcases hA1 q h with h | h
          · exact at2 q h
          · exact .inr (by have := F2.size; have := HF24.out.size; omega)
  · rw [if_neg (by omega)] at hW
    have hpm : p ∈ L.map bs := List.mem_of_getElem? (idx_get hin)
    rw [if_pos hpm] at hb ⊢
    rw [← List.append_assoc]
    have hlm : L[m]? = some (str p) := by
      have := idx_get hin
      rw [List.getElem?_map, Option.map_eq_some_iff] at this
      obtain ⟨s, hs, he⟩ := this
      rw [hs, ← he, str_bs]
    rw [hx2] at hW
    have hml := (List.getElem?_eq_some_iff.1 hlm).1
    obtain ⟨gw, rfl, _⟩ := how.form (by omega)
    have hcw := how.cell m (by omega)
    rw [List.getElem?_map, hlm] at hcw
    have hcw2 : W.cell? ⟨gw, m, none⟩ = some (.string (str p)) := hcw
    have hxl : n + 1 ≤ 1000000 := by rw [hn]; simp only [List.length_append, List.length_cons, List.length_nil] at hb; omega
    have HB := Lib.hid hb
    have HW := Lib.hid hW
    have HA := Lib.hid hA
    have HF0 := Lib.hid hf0
    have HLm := Lib.hid hlm
    clear hW hwr hgd hx hx2 hin how hM ht0 hb hc hlm hcw hpm k1 k2 hA hf0 hn
    go_enter Try.func27, Try.ntmps27
    go_wp2_with fail
    refine HW.out.mono ?_
    rintro e w1 ⟨rfl, rfl⟩
    go_wp2_with (
      at_builtin
      refine wpList_append _ rfl (.tmp 18) (.tmp 26) 22 rfl 9 (.string ⟨#[]⟩) 1 16 Try.underlying22 infoStr rfl (by decide) A n c (txt xs) rfl (ho.alloc _)
        _ _ 1 1 [.string (str p)] rfl (reads_new (w := W) (.string (str p)) 9) (one_one rfl) (by unfold maxLen; omega) (by omega) ?_
      intro A2 c2 w2 hown2 hfr2 hat
      have ho2 : Own w2 9 1 A2 (n + 1) c2 (txt (xs ++ [p])) := by rw [txt_append]; exact hown2
      have F2 : Fr (At A) W w2 := ((Fr.rfl' (At A) W).alloc _).trans hfr2
      have at2 : ∀ k, At A2 k → At A k ∨ W.heap.size ≤ k := fun k h => at_new (w0 := W) hat (by simp) k h
      have F02 : Fr Nil W0 w2 := HF0.out.trans' F2 fun k hk h => by have := HA.out k h; omega
      have HAT := Lib.hid (show ∀ k, At A2 k → W0.heap.size ≤ k from fun k h => by
        rcases at2 k h with h | h
        · exact HA.out k h
        · exact Nat.le_trans HF0.out.size h)
      have hn2 : n + 1 = (xs ++ [p]).length := by rw [List.length_append, List.length_singleton, HN0.out]
      have HN2 := Lib.hid hn2
      clear hown2 hfr2 hat ho HA HF0 HLm hcw2 k0 hn2
      obtain ⟨Aw2, cw2, g2, d2, x2, k0, k1, k2, hM, hx2, _⟩ := trie_cells (HT0.out.fr F02 fun _ _ _ h => h) hp
      have hM3 := hM.fr (S := Nil) ((Fr.rfl' Nil w2).alloc (.cells #[.map (some x2.1)] 46)) fun h => h
      have hm3 : (w2.alloc (.cells #[.map (some x2.1)] 46)).cell? ⟨w2.heap.size, 0, none⟩ = some (.map (some x2.1)) := (Blk.new w2 46 #[.map (some x2.1)]).cell 0
      have HK1 := Lib.hid (keysv_any (some x2.1) w2)
      have HK2 := Lib.hid (sortedk_any (w2.alloc (.cells #[.map (some x2.1)] 46)) w2.heap.size x2.1 P.length (kid P i) hm3 hM3)
      have HO2 := Lib.hid ho2
      clear hM hM3 hm3 hx2 ho2)
    refine HK1.out.mono ?_
    rintro e w3 ⟨rfl, rfl⟩
    go_wp2_with fail
    refine HK2.out.mono ?_
    rintro e w4 ⟨Ak, ck, ss, rfl, hss, hk4, f4, hAk⟩
    obtain rfl : ss = kidsOf P p := kids_unique hss.1 (kids_asc P p) fun c => by rw [hss.2 c, kids_mem, kid_at hp]; exact idx_some
    have f24 : Fr Nil w2 w4 := ((Fr.rfl' Nil w2).alloc _).trans f4
    have HF24 := Lib.hid f24
    have F04 := F02.trans f24
    have ho4 := HO2.out.fr f24 fun _ _ h => h
    have hk2 : ∀ k, At A2 k → k < w2.heap.size := fun k hk => HO2.out.lt hk
    have hAk2 : ∀ k, At Ak k → ¬ At A2 k := fun k h1 h2 => by have := hAk k h1; have := hk2 k h2; rw [World.size_alloc] at *; omega
    have HKK := Lib.hid hk4
    have HF04 := Lib.hid F04
    clear k0 k1 k2 HK1 HK2 hss f4 f24 hk4 F04 hAk
    have hl256 : (kidsOf P p).length ≤ 256 := nodup_u8 ((kids_asc P p).imp fun {a b} h e => by rw [e] at h; omega)
    generalize hl : kidsOf P p = l at *
    go_wp2_with fail
    go_loopw [2, 10, 39] (fun s2 _ s39 wr => ∃ (k : Nat) (A1 : Option Addr) (n1 c1 : Nat), k ≤ l.length ∧ n1 = ((xs ++ [p]) ++ (l.take k).flatMap S).length ∧ s39 = .int .i64 k ∧ s2 = .slice A1 n1 c1 ∧ Own wr 9 1 A1 n1 c1 (txt ((xs ++ [p]) ++ (l.take k).flatMap S)) ∧ Fr (At A2) w4 wr ∧ ∀ q, At A1 q → At A2 q ∨ w4.heap.size ≤ q)
      (fun _ _ s39 _ => l.length - (intOf s39).toNat)
    case atStart => exact ⟨0, A2, (n + 1), c2, Nat.zero_le _, by rw [List.take_zero, List.flatMap_nil, List.append_nil]; exact HN2.out, rfl, rfl, by rw [List.take_zero, List.flatMap_nil, List.append_nil]; exact ho4, Fr.rfl' _ _, fun q h => .inl h⟩
    case round =>
      clear ho4
      obtain ⟨k, A1, n1, c1, hk, hn1, rfl, rfl, ho, hf, hA1⟩ := hrel
      have HN1 := Lib.hid hn1
      clear hn1
      have F0r : Fr Nil W0 wr := HF04.out.trans' hf fun q hq h => by have := HAT.out q h; omega
      by_cases hlt : k < l.length
      · obtain ⟨ch, hch⟩ : ∃ ch, l[k]? = some ch := ⟨_, List.getElem?_eq_getElem hlt⟩
        have hkr := HKK.out.fr hf hAk2
        obtain ⟨gk, rfl, _⟩ := hkr.form (by omega)
        have hkc := hkr.cell k (by omega)
        rw [cellsOf, List.getElem?_map, hch] at hkc
        have hkc2 : wr.cell? ⟨gk, k, none⟩ = some (.int .u8 (ch.toNat : Int)) := hkc
        obtain ⟨Aw3, cw3, g3, d3, x3, k0, k1, k2, hM, hx3, _⟩ := trie_cells (HT0.out.fr F0r fun _ _ _ h => h) hp
        have hmem : p ++ [ch] ∈ P := (kids_mem P p ch).1 (hl ▸ List.mem_of_getElem? hch)
        obtain ⟨j, hj⟩ : ∃ j, kid P i ch = some j := by
          rw [kid_at hp]
          exact Option.isSome_iff_exists.1 (idx_some.2 hmem)
        have hlook := hM.look1 ch
        rw [hj] at hlook
        have HC2 := Lib.hid (HC.out ch j hj wr A1 n1 c1 ((xs ++ [p]) ++ (l.take k).flatMap S) HN1.out F0r ho (fun q hq => by
          rcases hA1 q hq with h | h
          · exact HAT.out q h
          · have := HF04.out.size; omega) (by
          have h1 := flat_le S l hch
          have h2 := HB.out
          simp only [List.length_append, List.length_cons, List.length_nil] at h1 h2 ⊢
          omega))
        have HTK := Lib.hid (show (xs ++ [p]) ++ (l.take (k + 1)).flatMap S = (xs ++ [p]) ++ (l.take k).flatMap S ++ S ch by
          obtain ⟨hk', rfl⟩ := List.getElem?_eq_some_iff.1 hch
          rw [List.take_succ_eq_append_getElem hk', List.flatMap_append, List.flatMap_singleton]
          simp only [List.append_assoc])
        clear hch hkc hM hx3 hj hmem ho hkr
        go_wp2_with fail
        refine HC2.out.mono ?_
        rintro e w5 ⟨A5, n5, c5, hn5, rfl, o5, f5, a5⟩
        have HN5 := Lib.hid hn5
        clear hn5
        go_wp2_with fail
        go_roundw
        case rel => exact ⟨k + 1, A5, n5, c5, by omega, by rw [HTK.out]; exact HN5.out, by first | rfl | go_num, rfl, by rw [HTK.out]; exact o5, hf.trans' f5 fun q hq h => by
            rcases hA1 q h with h | h
            · exact h
            · omega, fun q h => by
            rcases a5 q h with h | h
            · exact hA1 q h
            · exact .inr (Nat.le_trans hf.size h)⟩
        case measure => (simp [intOf]; try omega)
      · obtain rfl : k = l.length := by omega
        rw [List.take_length] at ho
        have HN3 := HN1.out
        rw [List.take_length] at HN3
        have HN4 := Lib.hid HN3
        clear HN3
        go_wp2_with fail
        go_ret
        refine ⟨A1, n1, c1, HN4.out, rfl, ho, (F2.trans' HF24.out fun _ _ h => h.elim).trans' hf fun q hq h => ?_, fun q h => ?_⟩
        · rcases at2 q h with h | h
          · exact h
          · omega
        · rcases hA1 q h with h | h
          · exact at2 q h
          · exact .inr (by have := F2.size; have := HF24.out.size; omega)

theorem sorted_all (W0 : World) (base b : Nat) (L : List ByteArray) (P : List Pth) (ns : List (Nat × Int)) (ht0 : TrieAt W0 base b L P ns) (hfu : Full (L.map bs) P ns) (K : Nat) :
    ∀ (i : Nat) (p : Pth), P[i]? = some p → (∀ q ∈ L.map bs, q.length ≤ p.length + K) → SrtAt W0 b i (subW (L.map bs) P K p) := by
  induction K with
  | zero =>
    intro i p hp hlen
    have hk : kidsOf P p = [] := by
      cases hkl : kidsOf P p with
      | nil => rfl
      | cons c l =>
        exfalso
        have hm : p ++ [c] ∈ P := (kids_mem P p c).1 (by rw [hkl]; simp)
        rcases (hfu.mem _).1 hm with h | ⟨q, hq, hpq⟩
        · simp at h
        · have h1 := hlen q hq
          have h2 := hpq.length_le
          rw [List.length_append, List.length_singleton] at h2
          omega
    have := sorted_step W0 base b L P ns ht0 hfu i p hp (fun _ => []) fun ch j hj => by
      have hm : p ++ [ch] ∈ P := by
        rw [kid_at hp] at hj
        exact List.mem_of_getElem? (idx_get hj)
      have := (kids_mem P p ch).2 hm
      rw [hk] at this
      cases this
    rw [hk, List.flatMap_nil, List.append_nil] at this
    exact this
  | succ K ih =>
    intro i p hp hlen
    refine sorted_step W0 base b L P ns ht0 hfu i p hp (fun c => subW (L.map bs) P K (p ++ [c])) fun ch j hj => ih j (p ++ [ch]) ?_ fun q hq => ?_
    · rw [kid_at hp] at hj
      exact idx_get hj
    · have := hlen q hq
      rw [List.length_append, List.length_singleton]
      omega
/-- the words of a trie, by their bytes -/
def SortedP (W : World) (n : Nat) (xs : List Pth) (e : Ending) (w' : World) : Prop :=
  ∃ A c, e = .returned (.slice A n c) ∧ Own w' 9 1 A n c (txt xs) ∧ Fr Nil W w' ∧ ∀ k, At A k → W.heap.size ≤ k
theorem tsorted_any (w : World) (base b : Nat) (L : List ByteArray) (P : List Pth) (ns : List (Nat × Int)) (ht : TrieAt w base b L P ns) (hfu : Full (L.map bs) P ns) (hnd : (L.map bs).Nodup) (hsz : ∀ s ∈ L, s.size ≤ 64) (hn : L.length ≤ 1000) :
    Calls Try.prog 20 #[.pointer (some ⟨b, 0, none⟩)] w (SortedP w L.length (insAll (L.map bs))) := by
  have hK : ∀ q ∈ L.map bs, q.length ≤ 64 := fun q hq => by
    obtain ⟨s, hs, rfl⟩ := List.mem_map.1 hq
    rw [← size_bs]
    exact hsz s hs
  have hall := subW_all hfu hnd 64 hK
  have hlen : (insAll (L.map bs)).length = L.length := by rw [insAll_len, List.length_map]
  have hs := sorted_all w base b L P ns ht hfu 64 0 [] hfu.good.root (fun q hq => by rw [List.length_nil, Nat.zero_add]; exact hK q hq) w none 0 0 [] rfl (Fr.rfl' _ _) (Own.nil _ _ _) (fun k hk => (not_at_none k hk).elim) (by rw [hall, hlen]; simp; omega)
  rw [hall, List.nil_append] at hs
  have HS := Lib.hid hs
  have HL := Lib.hid hlen
  clear hs hall hlen
  go_enter Try.func20, Try.ntmps20
  go_wp2_with fail
  refine HS.out.mono ?_
  rintro e w1 ⟨A, n', c, hn', rfl, h1, h2, h3⟩
  have HN := Lib.hid (hn'.trans HL.out)
  clear hn'
  go_wp2_with fail
  go_ret
  refine ⟨A, c, by rw [← HN.out]; rfl, by rw [← HN.out]; exact h1, h2.mono fun k _ hk => (not_at_none k hk).elim, fun k hk => ?_⟩
  rcases h3 k hk with h | h
  · exact (not_at_none k h).elim
  · exact h
end Go.Proofs.Ythhlpbopbabojaa
