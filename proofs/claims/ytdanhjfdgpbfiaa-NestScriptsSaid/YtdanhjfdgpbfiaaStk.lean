/-
  nest.Stack in memory, and the walks of Open, cut, All, Depth, Top; slices.Clone and slices.Reverse on strings.
-/
import Derived.Test.YtdanhjfdgpbfiaaUtil
import Derived.Test.YtdanhjfdgpbfiaaChecked
namespace Go.Proofs.Ytdanhjfdgpbfiaa
open Go.RowKit

theorem infoStr : (Try.prog.info? 9).map (fun i => (i.zero, i.size, i.bytes)) = some (some (.string ByteArray.empty), 1, 16) := by kernel_rfl

/-- A stack in memory: its depth, its names; b: its block; A, c: where the names lie. -/
structure Stk (T : TypeId) (w : World) (b : Nat) (d : Int) (A : Option Addr) (c : Nat) (L : List ByteArray) : Prop where
  blk : Blk w b T #[.int .i64 d, .slice A L.length c]
  own : Own w 9 1 A L.length c (L.map .string)
  nb : ¬ At A b
def Foot (b : Nat) (A : Option Addr) (k : Nat) : Prop := k = b ∨ At A k
section
variable {T : TypeId} {w w' : World} {b : Nat} {d : Int} {A : Option Addr} {c : Nat} {L : List ByteArray} {S : Nat → Prop}
theorem Stk.fr (h : Stk T w b d A c L) (hf : Fr S w w') (hs : ∀ k, Foot b A k → ¬ S k) : Stk T w' b d A c L :=
  ⟨h.blk.fr hf (hs _ (.inl rfl)), h.own.fr hf fun k hk => hs k (.inr hk), h.nb⟩
theorem Stk.c0 (h : Stk T w b d A c L) : w.cell? ⟨b, 0, none⟩ = some (.int .i64 d) := h.blk.cell 0
theorem Stk.c1 (h : Stk T w b d A c L) : w.cell? ⟨b, 1, none⟩ = some (.slice A L.length c) := h.blk.cell 1
theorem Stk.f1 (h : Stk T w b d A c L) : w.frozen? ⟨b, 1, none⟩ = false := h.blk.frozen 1
end

theorem open_full (w : World) (b : Nat) (d : Int) (A : Option Addr) (c : Nat) (L : List ByteArray) (x : ByteArray) (h : Stk 47 w b d A c L) (hd : d ≤ L.length) :
    Calls Try.prog 9 #[.pointer (some ⟨b, 0, none⟩), .string x] w fun e w' => e = .returned (.bool false) ∧ Fr Nil w w' := by
  have h0 := h.c0
  have h1 := h.c1
  go_enter Try.func9, Try.ntmps9
  go_wp2_with fail
  go_quiet (fail)
  go_wp2_with fail
  go_ret
  exact ⟨rfl, (Fr.rfl' _ _).drewN _⟩

theorem open_ok (w : World) (b : Nat) (d : Int) (A : Option Addr) (c : Nat) (L : List ByteArray) (x : ByteArray) (h : Stk 47 w b d A c L) (hd : L.length < d) (hL : L.length ≤ 65536) :
    Calls Try.prog 9 #[.pointer (some ⟨b, 0, none⟩), .string x] w fun e w' => e = .returned (.bool true) ∧
      ∃ A' c', Stk 47 w' b d A' c' (L ++ [x]) ∧ Fr (Foot b A) w w' ∧ (∀ k, At A' k → At A k ∨ w.heap.size ≤ k) := by
  have h0 := h.c0
  have h1 := h.c1
  have hd' : decide (d ≤ (L.length : Int)) = false := by simp; omega
  go_enter Try.func9, Try.ntmps9
  go_wp2_with fail
  go_quiet (fail)
  rename_i nq
  have hown := (h.own.drewN nq).alloc (.cells #[.string x] 9)
  have hs : ¬ At A b := h.nb
  have hbb := (h.blk.drewN nq).alloc (.cells #[.string x] 9)
  go_wp2_with (
    at_builtin
    refine wpList_append _ rfl (.tmp 19) (.tmp 21) 22 rfl 9 (.string ByteArray.empty) 1 16 Try.underlying22 infoStr rfl (by decide) A L.length c (L.map .string) rfl hown
      _ _ 1 1 [.string x] rfl (reads_new _ _ _) (one_one rfl) (by unfold maxLen; omega) (by omega) ?_
    intro A' c' w1 hown1 hfr hat
    have hb1 := hbb.fr hfr hs
    have hc1 := hb1.cell 1
    have hf1 := hb1.frozen 1)
  go_ret
  have hlt := h.blk.lt
  have hnew := at_new (w0 := w) hat (by simp)
  have hnb : ¬ At A' b := fun hk => by
    rcases hnew b hk with h1 | h1
    · exact hs h1
    · omega
  refine ⟨rfl, A', c', ⟨by simpa using hb1.set_ 1 (.slice A' (L.length + 1) c'), by simpa using hown1.setFar (p := ⟨b, 1, none⟩) hnb _, hnb⟩, ?_, hnew⟩
  exact Fr.setCell (p := ⟨b, 1, none⟩) ((((Fr.rfl' _ _).drewN _).alloc _).trans' hfr fun k _ hk => .inr hk) (fun _ => .inl rfl) _

theorem clone_any (w : World) (B : Nat) (A : Option Addr) (n c : Nat) (L : List Value) (hr : Reads w B 1 A n L) (h1 : ∀ u ∈ L, u.oneCell' = true) (hB : B ≤ w.heap.size) (hn : n ≤ 65536) :
    Calls Try.prog 23 #[.slice A n c] w fun e w' => ∃ A' c', e = .returned (.slice A' n c') ∧ Own w' 9 1 A' n c' L ∧ Fr Nil w w' ∧ ∀ k, At A' k → w.heap.size ≤ k := by
  have he := fun (W : World) (a : Option Addr) (n c : Nat) => Lib.run_eql_slice_nil (P := Try.prog) W 22 9 a n c 0 0 Try.underlying22
  rcases A with _ | a
  · have hn0 : n = 0 := by
      rcases Nat.eq_zero_or_pos n with h0 | h0
      · exact h0
      · obtain ⟨_, h, _⟩ := hr.2 h0
        cases h
    subst hn0
    have hL : L = [] := List.eq_nil_of_length_eq_zero (by simpa using hr.1)
    subst hL
    go_enter Try.func23, Try.ntmps23
    go_wp2
    go_ret
    exact ⟨none, 0, rfl, Own.nil _ _ _, Fr.rfl' _ _, fun k hk => (not_at_none k hk).elim⟩
  · go_enter Try.func23, Try.ntmps23
    have hr1 := hr.alloc hB (.cells #[] 9)
    have hl := Own.lit (e := 9) (size := 1) w #[] 0 (by unfold maxLen; omega) rfl
    go_wp2_with (
      at_builtin
      refine wpList_append _ rfl (.tmp 5) (.tmp 6) 22 rfl 9 (.string ByteArray.empty) 1 16 Try.underlying22 infoStr rfl (by decide) _ 0 0 [] rfl hl
        _ _ n c L rfl hr1 h1 (by unfold maxLen; omega) (by omega) ?_
      intro A' c' w1 hown1 hfr hat)
    go_ret
    rw [Nat.zero_add] at hown1
    refine ⟨A', c', rfl, by simpa using hown1, ((Fr.rfl' _ _).alloc _).trans' hfr fun k hk hk' => ?_, fun k hk => ?_⟩
    · obtain ⟨g, hg, rfl⟩ := hk'
      injection hg with hg
      subst hg
      simp at hk
    · rcases at_new (w0 := w) hat (by simp) k hk with ⟨g, hg, rfl⟩ | h2
      · injection hg with hg
        subst hg
        exact Nat.le_refl _
      · exact h2

/-- the list in the midst of being turned round -/
def Mid {α : Type} (L xs : List α) (k : Nat) : Prop := xs.length = L.length ∧ ∀ i, i < L.length → xs[i]? = if i < k ∨ L.length - k ≤ i then L[L.length - 1 - i]? else L[i]?
theorem mid_zero {α : Type} (L : List α) : Mid L L 0 := ⟨rfl, fun i hi => by rw [if_neg (by omega)]⟩
theorem mid_end {α : Type} {L xs : List α} {k : Nat} (h : Mid L xs k) (hk : L.length ≤ 2 * k + 1) : xs = L.reverse := by
  refine List.ext_getElem? fun i => ?_
  by_cases hi : i < L.length
  · rw [h.2 i hi, List.getElem?_reverse hi]
    split
    · rfl
    · rw [show L.length - 1 - i = i by omega]
  · rw [List.getElem?_eq_none (by rw [h.1]; omega), List.getElem?_eq_none (by simp; omega)]
theorem mid_succ {α : Type} {L xs : List α} {k : Nat} {u v : α} (h : Mid L xs k) (hk : 2 * k + 1 < L.length) (hu : xs[k]? = some u) (hv : xs[L.length - 1 - k]? = some v) :
    Mid L ((xs.set k v).set (L.length - 1 - k) u) (k + 1) := by
  have h1 := h.2 k (by omega)
  have h2 := h.2 (L.length - 1 - k) (by omega)
  rw [if_neg (by omega), hu] at h1
  rw [if_neg (by omega), hv] at h2
  refine ⟨by simpa using h.1, fun i hi => ?_⟩
  rw [List.getElem?_set, List.getElem?_set]
  simp only [List.length_set, h.1]
  by_cases a1 : L.length - 1 - k = i
  · rw [if_pos a1, if_pos (by omega), if_pos (by omega), h1, show L.length - 1 - i = k by omega]
  · rw [if_neg a1]
    by_cases a2 : k = i
    · subst a2
      rw [if_pos rfl, if_pos (by omega), if_pos (by omega), h2]
    · rw [if_neg a2, h.2 i hi]
      by_cases a3 : i < k ∨ L.length - k ≤ i
      · rw [if_pos a3, if_pos (by omega)]
      · rw [if_neg a3, if_neg (by omega)]

set_option maxHeartbeats 400000 in
theorem reverse_any (w : World) (A : Option Addr) (n c : Nat) (L : List ByteArray) (h : Own w 9 1 A n c (L.map .string)) (hn : n ≤ 65536) :
    Calls Try.prog 24 #[.slice A n c] w fun e w' => e = .returned (.tuple #[]) ∧ Own w' 9 1 A n c (L.reverse.map .string) ∧ Fr (At A) w w' := by
  have hlen : L.length = n := by simpa using h.len
  go_enter Try.func24, Try.ntmps24
  go_wp2
  go_loopw [2, 3] (fun i j wr => ∃ (k : Nat) (q : Int) (xs : List ByteArray), i = .int .i64 k ∧ j = .int .i64 q ∧ q = (n : Int) - 1 - k ∧ k ≤ n ∧ Mid L xs k ∧ Own wr 9 1 A n c (xs.map .string) ∧ Fr (At A) w wr)
    (fun i _ _ => (n + 1 - intOf i).toNat)
  case atStart => exact ⟨0, _, L, rfl, rfl, by simp, Nat.zero_le _, mid_zero L, h, Fr.rfl' _ _⟩
  case round =>
    obtain ⟨k, q, xs, rfl, rfl, hq, hk, hm, hown, hfr⟩ := hrel
    by_cases hlt : (k : Int) < q
    · obtain ⟨m, rfl⟩ : ∃ m : Nat, q = m := ⟨q.toNat, by omega⟩
      obtain ⟨g, rfl, hg⟩ := hown.form (by omega)
      have hx : xs.length = n := by rw [hm.1]; exact hlen
      obtain ⟨u, hu⟩ : ∃ u, xs[k]? = some u := ⟨xs[k], List.getElem?_eq_getElem (by omega)⟩
      obtain ⟨v, hv⟩ : ∃ v, xs[m]? = some v := ⟨xs[m], List.getElem?_eq_getElem (by omega)⟩
      have hck := (hown.cell k (by omega)).trans (by rw [List.getElem?_map, hu]; rfl : _ = some (Value.string u))
      have hcm := (hown.cell m (by omega)).trans (by rw [List.getElem?_map, hv]; rfl : _ = some (Value.string v))
      have hfk := hown.free k
      have hfm := hown.free m
      have hkn : k < n := by omega
      have hmn : m < n := by omega
      have hkm : ¬ k = m := by omega
      have HQ := Lib.hid hq
      have HX := Lib.hid hx
      have HL := Lib.hid hlen
      have HU := Lib.hid hu
      have HV := Lib.hid hv
      clear hq hx hlen hu hv
      go_wp2
      go_region
      go_wp2
      go_roundw
      case rel =>
        have hq := HQ.out
        have hL := HL.out
        have he : L.length - 1 - k = m := by omega
        have h1 := mid_succ hm (by omega) HU.out (by rw [he]; exact HV.out)
        rw [he] at h1
        refine ⟨k + 1, _, _, by go_num, rfl, by omega, by omega, h1, ?_, ?_⟩
        · simpa [List.map_set] using ((hown.set k (.string v)).set m (.string u)).drew
        · exact ((hfr.setCell (p := ⟨g, k, none⟩) (fun _ => ⟨_, rfl, rfl⟩) _).setCell (p := ⟨g, m, none⟩) (fun _ => ⟨_, rfl, rfl⟩) _).drew
      case measure => simp [intOf]; omega
    · go_wp2
      go_end0
      have := mid_end hm (by omega)
      subst this
      exact ⟨rfl, by simpa using hown, hfr⟩

set_option maxHeartbeats 400000 in
theorem cut_any (w : World) (b : Nat) (d : Int) (A : Option Addr) (c : Nat) (L : List ByteArray) (k : Nat) (h : Stk 47 w b d A c L) (hk : k ≤ L.length) (hL : L.length ≤ 65536) :
    Calls Try.prog 20 #[.pointer (some ⟨b, 0, none⟩), .int .i64 k] w fun e w' => ∃ A' c', e = .returned (.slice A' (L.length - k) c') ∧ Own w' 9 1 A' (L.length - k) c' ((L.drop k).reverse.map .string) ∧
      Stk 47 w' b d A c (L.take k) ∧ Fr (fun i => i = b) w w' ∧ (∀ k, At A' k → w.heap.size ≤ k) := by
  have h0 := h.c0
  have h1 := h.c1
  have hc := h.own.cap
  have hr := h.own.reads.cutA hk hc
  have hsl := run_slice_from (P := Try.prog) (A := A) (c := c) Try.underlying22 (size := 1) (by kernel_rfl) hk
  have h1c : ∀ u ∈ (L.map Value.string).drop (k * 1), u.oneCell' = true := fun u hu => strs_one L u (List.mem_of_mem_drop hu)
  go_enter Try.func20, Try.ntmps20
  go_wp2_with fail
  refine (clone_any w _ _ _ _ _ hr h1c (Nat.le_refl _) (by omega)).mono ?_
  rintro e w1 ⟨A', c', rfl, hown, hfr, hnew⟩
  have hst := h.fr hfr fun _ _ x => x
  rw [Nat.mul_one, ← List.map_drop] at hown
  go_wp2_with fail
  refine (reverse_any w1 _ _ _ _ hown (by omega)).mono ?_
  rintro e w2 ⟨rfl, hown2, hfr2⟩
  have hnf : ∀ i, Foot b A i → ¬ At A' i := fun i hi hi' => by
    have h1 := hnew i hi'
    rcases hi with rfl | hi
    · have := h.blk.lt; omega
    · have := h.own.lt hi; omega
  have hst2 := hst.fr hfr2 hnf
  have h1 := hst2.c1
  have hf1 := hst2.f1
  have hkc : k ≤ c := by omega
  go_wp2_with fail
  go_ret
  have hnb : ¬ At A' b := hnf b (.inl rfl)
  refine ⟨A', c', rfl, hown2.setFar (p := ⟨b, 1, none⟩) hnb _, ⟨?_, ?_, hst2.nb⟩, ?_, hnew⟩
  · have := hst2.blk.set_ 1 (.slice A k c)
    rw [List.length_take, Nat.min_eq_left hk]
    simpa using this
  · rw [List.length_take, Nat.min_eq_left hk, List.map_take]
    simpa using (hst2.own.cut hk).setFar (p := ⟨b, 1, none⟩) h.nb (.slice A k c)
  · refine Fr.setCell (S := fun i => i = b) (p := ⟨b, 1, none⟩) ((hfr.mono fun _ _ x => x.elim).trans' hfr2 fun k hk hk' => ?_) (fun _ => rfl) _
    have := hnew k hk'
    omega

theorem all_any (w : World) (b : Nat) (d : Int) (A : Option Addr) (c : Nat) (L : List ByteArray) (h : Stk 47 w b d A c L) (hL : L.length ≤ 65536) :
    Calls Try.prog 12 #[.pointer (some ⟨b, 0, none⟩)] w fun e w' => ∃ A' c', e = .returned (.slice A' L.length c') ∧ Own w' 9 1 A' L.length c' (L.reverse.map .string) ∧
      Stk 47 w' b d A c [] ∧ Fr (fun i => i = b) w w' ∧ (∀ k, At A' k → w.heap.size ≤ k) := by
  go_enter Try.func12, Try.ntmps12
  go_wp2_with fail
  refine (cut_any w b d A c L 0 h (Nat.zero_le _) hL).mono ?_
  rintro e w1 ⟨A', c', rfl, r⟩
  go_wp2_with fail
  go_ret
  exact ⟨A', c', rfl, r⟩

theorem depth_any (w : World) (b : Nat) (d : Int) (A : Option Addr) (c : Nat) (L : List ByteArray) (h : Stk 47 w b d A c L) :
    Calls Try.prog 11 #[.pointer (some ⟨b, 0, none⟩)] w fun e w' => e = .returned (.int .i64 L.length) ∧ w' = w := by
  have h1 := h.c1
  go_enter Try.func11, Try.ntmps11
  go_wp2_with fail
  go_ret
  exact ⟨rfl, rfl⟩

theorem top_nil (w : World) (b : Nat) (d : Int) (A : Option Addr) (c : Nat) (h : Stk 47 w b d A c []) :
    Calls Try.prog 13 #[.pointer (some ⟨b, 0, none⟩)] w fun e w' => e = .returned (.tuple #[.string ByteArray.empty, .bool false]) ∧ w' = w := by
  have h1 := h.c1
  simp only [List.length_nil] at h1
  go_enter Try.func13, Try.ntmps13
  go_wp2_with fail
  go_ret2
  exact ⟨rfl, rfl⟩

theorem top_one (w : World) (b : Nat) (d : Int) (A : Option Addr) (c : Nat) (L : List ByteArray) (x : ByteArray) (h : Stk 47 w b d A c (L ++ [x])) (hL : L.length ≤ 65536) :
    Calls Try.prog 13 #[.pointer (some ⟨b, 0, none⟩)] w fun e w' => e = .returned (.tuple #[.string x, .bool true]) ∧ ∃ n, w' = w.drewN n := by
  have h1 := h.c1
  have ho := h.own
  have hl : (L ++ [x]).length = L.length + 1 := by simp
  rw [hl] at h1 ho
  obtain ⟨g, rfl, _⟩ := ho.form (by omega)
  have hx := ho.cell L.length (by omega)
  simp at hx
  have hi : IntKind.i64.wrap ((L.length : Int) + 1 - 1) = L.length := by simp [IntKind.wrap_i64]; omega
  clear hl
  go_enter Try.func13, Try.ntmps13
  go_wp2_with fail
  go_quiet (fail)
  go_wp2_with fail
  go_ret2
  exact ⟨rfl, _, rfl⟩
end Go.Proofs.Ytdanhjfdgpbfiaa
