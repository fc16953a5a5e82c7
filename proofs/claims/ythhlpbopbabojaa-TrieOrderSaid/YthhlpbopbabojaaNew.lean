/-
  trie.New, walked.
-/
import Derived.Test.YthhlpbopbabojaaPut
import Derived.Test.YthhlpbopbabojaaNewP
import Derived.WalkSpells
namespace Go.Proofs.Ythhlpbopbabojaa
open Go.RowKit

def oddS (s : ByteArray) : Bool := decide (s.size = 0 ∨ 64 < s.size)
theorem ret_b {a b : Bool} (h : a = b) : Ending.returned (.bool a) = .returned (.bool b) := by rw [h]
theorem emp_of {t : ByteArray} (h : t.size = 0) : t.toList = [] ∧ t.toList.isEmpty = true ∧ (!t.toList.isEmpty) = false := by
  have h1 : t.toList = [] := by
    rw [Lib.toList_data]
    exact List.eq_nil_of_length_eq_zero (by simpa using h)
  simp [h1]
theorem ful_of {t : ByteArray} (h : ¬ t.size = 0) : ¬ t.toList = [] ∧ t.toList.isEmpty = false ∧ (!t.toList.isEmpty) = true := by
  have h1 : ¬ t.toList = [] := by
    rw [Lib.toList_data]
    intro h2
    apply h
    have := congrArg List.length h2
    simpa using this
  simp [h1]
theorem oddS_any (w : World) (s : ByteArray) : Calls Try.prog 22 #[.string s] w fun e w' => e = .returned (.bool (oddS s)) ∧ w = w' := by
  by_cases h0 : s.size = 0
  · obtain ⟨e1, e2, e3⟩ := emp_of h0
    have HR := Lib.hid (show oddS s = true by unfold oddS; simp [h0])
    clear h0
    go_enter Try.func22, Try.ntmps22
    go_wp2
    go_ret
    exact ⟨ret_b HR.out.symm, rfl⟩
  · obtain ⟨e1, e2, e3⟩ := ful_of h0
    by_cases h64 : 64 < s.size
    · have h64' : (64 : Int) < s.size := by omega
      have HR := Lib.hid (show oddS s = true by unfold oddS; simp [h64])
      go_enter Try.func22, Try.ntmps22
      go_wp2
      go_ret
      exact ⟨ret_b (by rw [HR.out]; try simp; try omega), rfl⟩
    · have h64' : ¬ (64 : Int) < s.size := by omega
      have HR := Lib.hid (show oddS s = false by unfold oddS; simp [h0]; omega)
      go_enter Try.func22, Try.ntmps22
      go_wp2
      go_ret
      exact ⟨ret_b (by rw [HR.out]; try simp; try omega), rfl⟩

def IdxS (L : List ByteArray) (w : World) (e : Ending) (w' : World) : Prop := w = w' ∧ ∃ z : Int, e = .returned (.int .i64 z) ∧ (if L.any oddS then 0 ≤ z else z = -1)
theorem any_take {L : List ByteArray} {k : Nat} {s : ByteArray} (h : L[k]? = some s) : (L.take (k + 1)).any oddS = ((L.take k).any oddS || oddS s) := by
  obtain ⟨hk, rfl⟩ := List.getElem?_eq_some_iff.1 h
  rw [List.take_succ_eq_append_getElem hk, List.any_append]
  simp
theorem index_oddS (w : World) (B : Nat) (A : Option Addr) (n c : Nat) (L : List ByteArray) (hr : Reads w B 1 A n (L.map .string)) (hn : n ≤ 1048576) :
    Calls Try.prog 28 #[.slice A n c, .func (.func 22) #[] #[]] w (IdxS L w) := by
  have hl : L.length = n := by simpa using hr.1
  have HL := Lib.hid hl
  clear hl
  go_enter Try.func28, Try.ntmps28
  go_wp2
  go_loop [8] (fun i => ∃ k : Nat, k ≤ n ∧ i = .int .i64 k ∧ (L.take k).any oddS = false) (fun i => n - (intOf i).toNat)
  case atStart => exact ⟨0, Nat.zero_le _, rfl, rfl⟩
  case round =>
    obtain ⟨k, hk, rfl, hp⟩ := hrel
    have HP := Lib.hid hp
    clear hp
    by_cases hlt : k < n
    · obtain ⟨ad, s, rfl, _, hx, hc⟩ := reads_str hr hlt
      cases hw : oddS s with
      | false =>
        have HN := Lib.hid (show (L.take (k + 1)).any oddS = false by rw [any_take hx, HP.out, hw]; rfl)
        clear hx
        go_wp2_with (refine (oddS_any _ _).mono ?_; rintro e w1 ⟨rfl, rfl⟩; rw [hw])
        go_round
        case rel => exact ⟨k + 1, by omega, by go_num, HN.out⟩
        case measure => simp [intOf]; omega
      | true =>
        have HN := Lib.hid (show L.any oddS = true from List.any_eq_true.2 ⟨s, List.mem_of_getElem? hx, hw⟩)
        clear hx
        go_wp2_with (refine (oddS_any _ _).mono ?_; rintro e w1 ⟨rfl, rfl⟩; rw [hw])
        go_ret
        exact ⟨rfl, _, rfl, by rw [HN.out]; simp; try omega⟩
    · obtain rfl : k = n := by omega
      have HN := Lib.hid (show L.any oddS = false by have := HP.out; rwa [List.take_of_length_le (by rw [HL.out]; exact Nat.le_refl _)] at this)
      go_wp2
      go_ret
      exact ⟨rfl, _, rfl, by rw [HN.out]; simp⟩
theorem contains_oddS (w : World) (B : Nat) (A : Option Addr) (n c : Nat) (L : List ByteArray) (hr : Reads w B 1 A n (L.map .string)) (hn : n ≤ 1048576) :
    Calls Try.prog 23 #[.slice A n c, .func (.func 22) #[] #[]] w fun e w' => e = .returned (.bool (L.any oddS)) ∧ w = w' := by
  go_enter Try.func23, Try.ntmps23
  go_wp2_with fail
  refine (index_oddS w B A n c L hr hn).mono ?_
  rintro e w' ⟨rfl, z, rfl, hz⟩
  cases h : L.any oddS with
  | false =>
    rw [h, if_neg (by simp)] at hz
    subst hz
    go_wp2
    go_ret
    exact ⟨ret_b (by rw [h]), rfl⟩
  | true =>
    rw [h, if_pos rfl] at hz
    go_wp2
    go_ret
    exact ⟨ret_b (by rw [h]), rfl⟩

theorem infoStr : (Try.prog.info? 9).map (fun i => (i.zero, i.size, i.bytes)) = some (some (.string ⟨#[]⟩), 1, 16) := by kernel_rfl
def Cloned (L : List ByteArray) (w : World) (e : Ending) (w' : World) : Prop := ∃ A c, e = .returned (.slice A L.length c) ∧ Own w' 9 1 A L.length c (L.map .string) ∧ Fr Nil w w' ∧ ∀ k, At A k → w.heap.size ≤ k
theorem clone_any (w : World) (B : Nat) (A : Option Addr) (n c : Nat) (L : List ByteArray) (hr : Reads w B 1 A n (L.map .string)) (hB : B ≤ w.heap.size) (hn : n ≤ 1048576) :
    Calls Try.prog 24 #[.slice A n c] w (Cloned L w) := by
  have hl : L.length = n := by simpa using hr.1
  have HL := Lib.hid hl
  clear hl
  cases A with
  | none =>
    have h0 : n = 0 := by
      rcases Nat.eq_zero_or_pos n with h | h
      · exact h
      · obtain ⟨ad, h, _⟩ := hr.2 h
        cases h
    subst h0
    have h0L : L = [] := List.eq_nil_of_length_eq_zero HL.out
    subst h0L
    have hnil := Lib.run_eql_slice_nil (P := Try.prog)
    go_enter Try.func24, Try.ntmps24
    go_wp2
    go_ret
    exact ⟨none, 0, rfl, Own.nil _ _ _, Fr.rfl' _ _, fun k hk => (not_at_none k hk).elim⟩
  | some ad =>
    have hnil := Lib.run_eql_slice_nil (P := Try.prog)
    go_enter Try.func24, Try.ntmps24
    go_wp2_with (
      at_builtin
      refine wpList_append _ rfl (.tmp 5) (.tmp 6) 22 rfl 9 (.string ⟨#[]⟩) 1 16 Try.underlying22 infoStr rfl (by decide) (some ⟨w.heap.size, 0, none⟩) 0 0 [] rfl (Own.lit w #[] 0 (by unfold maxLen; omega) rfl)
        B (some ad) n c (L.map .string) rfl (hr.alloc hB _) (strs_one _) (by unfold maxLen; omega) (by omega) ?_
      intro A' c' w2 hown2 hfr2 hat)
    go_ret
    have hf0 : Fr Nil w w2 := ((Fr.rfl' Nil w).alloc _).trans' hfr2 fun k hk hk' => by
      obtain ⟨a, ha, rfl⟩ := hk'
      injection ha with ha
      subst ha
      exact absurd hk (Nat.lt_irrefl _)
    refine ⟨A', c', ?_, ?_, hf0, fun k hk => ?_⟩
    · rw [HL.out]
      rfl
    · rw [HL.out]
      rw [List.nil_append, Nat.zero_add] at hown2
      exact hown2
    · rcases at_new (w0 := w) hat (by simp) k hk with ⟨a, ha, rfl⟩ | h
      · injection ha with ha
        subst ha
        exact Nat.le_refl _
      · exact h

/-- what New comes to -/
def NewPost (w : World) (L : List ByteArray) (e : Ending) (w' : World) : Prop :=
  Fr Nil w w' ∧
  ((1000 < L.length ∧ e = .returned (.tuple #[.pointer none, .int .i64 3])) ∨
   (L.length ≤ 1000 ∧ L.any oddS = true ∧ e = .returned (.tuple #[.pointer none, .int .i64 1])) ∨
   (L.length ≤ 1000 ∧ L.any oddS = false ∧ ¬ (L.map bs).Nodup ∧ e = .returned (.tuple #[.pointer none, .int .i64 5])) ∨
   (L.length ≤ 1000 ∧ L.any oddS = false ∧ (L.map bs).Nodup ∧ ∃ b P ns, e = .returned (.tuple #[.pointer (some ⟨b, 0, none⟩), .int .i64 0]) ∧ TrieAt w' w.heap.size b L P ns ∧ Full (L.map bs) P ns ∧ P.length ≤ 65000))

theorem trie_start {w : World} {base : Nat} {L : List ByteArray} {A : Option Addr} {c : Nat} (hA : Own w 9 1 A L.length c (L.map .string)) (hb : base ≤ w.heap.size) (h2 : ∀ k, At A k → base ≤ k) :
    TrieAt (((w.alloc (.map #[] 0)).alloc (.cells #[.map (some w.heap.size), .int .i64 (-1)] 48)).alloc (.cells #[.slice A L.length c, .slice (some ⟨w.heap.size + 1, 0, none⟩) 1 1] 51)) base (w.heap.size + 1 + 1) L [[]] [(w.heap.size, -1)] := by
  have n1 := Own.lit (size := 2) (e := 48) (w.alloc (.map #[] 0)) #[.map (some w.heap.size), .int .i64 (-1)] 1 (by unfold maxLen; omega) rfl
  simp only [World.size_alloc] at n1
  have b1 := Blk.new ((w.alloc (.map #[] 0)).alloc (.cells #[.map (some w.heap.size), .int .i64 (-1)] 48)) 51 #[.slice A L.length c, .slice (some ⟨w.heap.size + 1, 0, none⟩) 1 1]
  simp only [World.size_alloc] at b1
  have m1 := ((MapB.made w).kept (w' := (w.alloc (.map #[] 0)).alloc (.cells #[.map (some w.heap.size), .int .i64 (-1)] 48)) (Below.heap_alloc _ _ _ (by simp)))
  have m2 := m1.kept (w' := ((w.alloc (.map #[] 0)).alloc (.cells #[.map (some w.heap.size), .int .i64 (-1)] 48)).alloc (.cells #[.slice A L.length c, .slice (some ⟨w.heap.size + 1, 0, none⟩) 1 1] 51)) (Below.heap_alloc _ _ _ (by simp; omega))
  refine ⟨A, c, some ⟨w.heap.size + 1, 0, none⟩, 1, b1, ((hA.alloc _).alloc _).alloc _, n1.alloc _, rfl, fun i x hx => ?_, fun i j x y hx hy _ => ?_, by omega, h2, ?_⟩
  · cases i with
    | zero =>
      simp at hx
      subst hx
      refine ⟨hb, (m2.mono (Nat.zero_le _)).same fun e => ?_⟩
      show idx [[]] ([] ++ [e]) = none
      simp [idx]
    | succ i => simp at hx
  · have h1 := (List.getElem?_eq_some_iff.1 hx).1
    have h2 := (List.getElem?_eq_some_iff.1 hy).1
    simp at h1 h2
    omega
  · rintro k ⟨a, ha, rfl⟩
    injection ha with ha
    subst ha
    show base ≤ w.heap.size + 1
    omega

/-- at the head of a round of New: k words are in -/
def NewI (w : World) (b : Nat) (L : List ByteArray) (i : Value) (wr : World) : Prop :=
  ∃ (k : Nat) (P : List Pth) (ns : List (Nat × Int)), i = .int .i64 k ∧ k ≤ L.length ∧ ((L.map bs).take k).Nodup ∧ TrieAt wr w.heap.size b L P ns ∧ Full ((L.map bs).take k) P ns ∧ P.length ≤ 1 + 64 * k ∧ Fr Nil w wr
theorem len_of_trie {w : World} {base b : Nat} {L : List ByteArray} {P : List Pth} {ns : List (Nat × Int)} (h : TrieAt w base b L P ns) : ns.length = P.length := by
  obtain ⟨A, c, B, d, hb, ho, hn, hl, _⟩ := h
  exact hl

theorem take_succ_at' {L : List Pth} {k : Nat} {c : Pth} (h : L[k]? = some c) : L.take (k + 1) = L.take k ++ [c] := by
  obtain ⟨hk, rfl⟩ := List.getElem?_eq_some_iff.1 h
  rw [List.take_succ_eq_append_getElem hk]

set_option maxRecDepth 100000 in
set_option maxHeartbeats 4000000 in
theorem new_any (w : World) (A : Option Addr) (n c : Nat) (L : List ByteArray) (hr : Reads w w.heap.size 1 A n (L.map .string)) : Calls Try.prog 10 #[.slice A n c] w (NewPost w L) := by
  have hl : L.length = n := by simpa using hr.1
  have HL := Lib.hid hl
  by_cases hb : 1000 < n
  · have hb' : (1000 : Int) < n := by omega
    clear hl
    go_enter Try.func10, Try.ntmps10
    go_wp2_with fail
    go_ret2
    exact ⟨Fr.rfl' _ _, .inl ⟨by rw [HL.out]; exact hb, rfl⟩⟩
  · have hb' : ¬ (1000 : Int) < n := by omega
    clear hl
    cases ho : L.any oddS with
    | true =>
      have HO := Lib.hid ho
      have hco := contains_oddS w w.heap.size A n c L hr (by omega)
      rw [ho] at hco
      have CO := Lib.hid hco
      clear ho hco
      go_enter Try.func10, Try.ntmps10
      go_wp2_with fail
      refine CO.out.mono ?_
      rintro e w1 ⟨rfl, rfl⟩
      go_wp2_with fail
      go_ret2
      exact ⟨Fr.rfl' _ _, .inr (.inl ⟨by rw [HL.out]; omega, HO.out, rfl⟩)⟩
    | false =>
      have HO := Lib.hid ho
      have hco := contains_oddS w w.heap.size A n c L hr (by omega)
      rw [ho] at hco
      have CO := Lib.hid hco
      clear ho hco
      have hmm := @run_makeMap Try.prog
      go_enter Try.func10, Try.ntmps10
      go_wp2_with fail
      refine CO.out.mono ?_
      rintro e w1 ⟨rfl, rfl⟩
      go_wp2_with fail
      refine (clone_any w w.heap.size A n c L hr (Nat.le_refl _) (by omega)).mono ?_
      rintro e w1 ⟨A2, c2, rfl, hown, hf1, hA2⟩
      have T0 := trie_start hown hf1.size hA2
      rw [HL.out] at T0 ⊢
      go_wp2_with fail
      have hfW : Fr Nil w (((w1.alloc (.map #[] 0)).alloc (.cells #[.map (some w1.heap.size), .int .i64 (-1)] 48)).alloc (.cells #[.slice A2 n c2, .slice (some ⟨w1.heap.size + 1, 0, none⟩) 1 1] 51)) := ((hf1.alloc _).alloc _).alloc _
      have hn : n ≤ 1000 := by omega
      generalize hb0 : w1.heap.size + 1 + 1 = b at *
      clear hb0 hown hA2 hf1
      go_loopw [6, 7, 25] (fun _ _ i wr => NewI w b L i wr) (fun _ _ i _ => n - (intOf i).toNat)
      case atStart => exact ⟨0, [[]], [(w1.heap.size, -1)], rfl, Nat.zero_le _, by simp, T0, full_start _, by simp, hfW⟩
      case round =>
        clear T0 hfW
        obtain ⟨k, P, ns, rfl, hk, hnd, ht, hfu, hpl, hf⟩ := hrel
        rw [HL.out] at hk
        by_cases hlt : k < n
        · obtain ⟨ad, s, rfl, hab, hs, hcell⟩ := reads_str (hr.fr hf (Nat.le_refl _) fun _ h => h.elim) hlt
          have hno : oddS s = false := by
            have h1 := HO.out
            rw [List.any_eq_false] at h1
            have := h1 s (List.mem_of_getElem? hs)
            simpa using this
          have hs64 : s.size ≤ 64 := by
            unfold oddS at hno
            simp at hno
            omega
          have hsb : (L.map bs)[k]? = some (bs s) := by rw [List.getElem?_map, hs]; rfl
          have PUT := Lib.hid (put_any wr w.heap.size b L P ns ht hfu.good s hs64 (by omega) k)
          have HK := Lib.hid hsb
          have HLT := Lib.hid (len_of_trie ht)
          clear hs hno hsb ht
          go_wp2_with fail
          refine PUT.out.mono ?_
          rintro e w3 ⟨j, ns', x, hj, hext, hx, rfl, ht3, hf3⟩
          have hfs := full_step hfu HLT.out (by rw [← size_bs]; exact hj) hext.1 hext.2 hx
          rw [← size_bs] at hfs
          have hf03 : Fr Nil w w3 := hf.trans' hf3 fun i hi hi' => by omega
          by_cases hx2 : x.2 = -1
          · obtain ⟨hni, hfu2⟩ := hfs.1 hx2
            have hx3 : (x.2 == -1) = true := by simpa using hx2
            rw [hx3]
            have HX := Lib.hid hx
            have HJ := Lib.hid hj
            clear hx2 hx3 hx hj hfs
            go_wp2_with fail
            go_roundw
            case rel =>
              have hlk : ((L.map bs).take k).length = k := by rw [List.length_take, List.length_map, HL.out]; omega
              rw [hlk] at hfu2
              have hgl := growTo_len P (bs s) s.size
              refine ⟨k + 1, growTo P (bs s) s.size, ns'.set j (x.1, (k : Int)), by go_num, by rw [HL.out]; omega, nodup_take_succ HK.out hnd hni, ht3, ?_, by omega, hf03⟩
              rw [take_succ_at' HK.out]
              exact hfu2
            case measure => simp [intOf]; omega
          · have hx3 : (x.2 == -1) = false := by simpa using hx2
            rw [hx3]
            have hin := hfs.2 hx2
            have HX := Lib.hid hx
            have HJ := Lib.hid hj
            clear hx2 hx3 hx hj hfs
            go_wp2_with fail
            go_ret2
            exact ⟨hf03, .inr (.inr (.inl ⟨by rw [HL.out]; omega, HO.out, not_nodup HK.out hin, rfl⟩))⟩
        · obtain rfl : n = k := by omega
          have hta : (L.map bs).take n = L.map bs := List.take_of_length_le (by rw [List.length_map, HL.out]; exact Nat.le_refl _)
          rw [hta] at hnd hfu
          have HND := Lib.hid hnd
          clear hta
          go_wp2_with fail
          go_ret2
          exact ⟨hf, .inr (.inr (.inr ⟨by rw [HL.out]; omega, HO.out, HND.out, b, P, ns, rfl, ht, hfu, by omega⟩))⟩
end Go.Proofs.Ythhlpbopbabojaa
