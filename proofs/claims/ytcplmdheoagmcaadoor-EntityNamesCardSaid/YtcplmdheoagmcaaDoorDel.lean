/-
  slices.IndexFunc, slices.DeleteFunc among names, by what they stand for, walked.
-/
import Derived.Test.YtcplmdheoagmcaaDoorEnt
import Derived.Test.YtcplmdheoagmcaaDoorCalP
import Derived.Lib.SliceRun
namespace Go.Proofs.YtcplmdheoagmcaaDoor
open Go.RowKit

set_option maxHeartbeats 2000000 in
/-- does it stand for another text? -/
theorem other_any (a b q : Pth) (w : World) (bx : Nat) (hb : w.cell? ⟨bx, 0, none⟩ = some (.string (str q))) :
    Calls Tryd.prog 29 #[.agg #[.string (str a), .string (str b)], .pointer (some ⟨bx, 0, none⟩)] w fun e w' => e = .returned (.bool (!decide (b = q))) ∧ Fr Nil w w' := by
  have hb2 : bx < w.heap.size := block_lt_of_cell hb
  have hne : ¬ bx = w.heap.size := by omega
  by_cases h : b = q
  · subst h
    have hq : ((str b).toList == (str b).toList) = true := by simp
    rw [decide_eq_true rfl]
    generalize str a = s at *
    generalize str b = t at *
    go_enter Tryd.func29, Tryd.ntmps29
    go_wp2
    go_ret
    exact ⟨rfl, (Fr.rfl' _ _).alloc _⟩
  · have hq : ((str b).toList == (str q).toList) = false := str_beq_ne (fun e => h (str_inj e))
    rw [decide_eq_false h]
    clear h
    generalize str a = s at *
    generalize str b = t at *
    go_enter Tryd.func29, Tryd.ntmps29
    go_wp2
    go_ret
    exact ⟨rfl, (Fr.rfl' _ _).alloc _⟩

/-- where the first is that stands for another text -/
def FirstR (w : World) (l : List Ent) (q : Pth) (e : Ending) (w' : World) : Prop :=
  Fr Nil w w' ∧ (((∀ x ∈ l, x.2 = q) ∧ e = .returned (.int .i64 (-1))) ∨ ∃ (k : Nat) (x : Ent), l[k]? = some x ∧ x.2 ≠ q ∧ (∀ y ∈ l.take k, y.2 = q) ∧ e = .returned (.int .i64 k))
theorem all_snoc {l : List Ent} {q : Pth} {k : Nat} {x : Ent} (hx : l[k]? = some x) (h : ∀ y ∈ l.take k, y.2 = q) (hq : x.2 = q) : ∀ y ∈ l.take (k + 1), y.2 = q := by
  obtain ⟨hk, rfl⟩ := List.getElem?_eq_some_iff.1 hx
  rw [List.take_succ_eq_append_getElem hk]
  intro y hy
  rcases List.mem_append.1 hy with hy | hy
  · exact h y hy
  · rw [List.mem_singleton.1 hy]
    exact hq
def FirstI (w : World) (l : List Ent) (q : Pth) (n : Nat) (i : Value) (wr : World) : Prop := ∃ k : Nat, k ≤ n ∧ i = .int .i64 k ∧ (∀ y ∈ l.take k, y.2 = q) ∧ Fr Nil w wr

set_option maxRecDepth 100000 in
set_option maxHeartbeats 4000000 in
theorem first_any (w : World) (g c n : Nat) (l : List Ent) (ho : Own w 37 2 (some ⟨g, 0, none⟩) n c (entCells l)) (hn : n ≤ 100000) (q : Pth) (bx : Nat) (hb : w.cell? ⟨bx, 0, none⟩ = some (.string (str q))) :
    Calls Tryd.prog 47 #[.slice (some ⟨g, 0, none⟩) n c, .func (.func 29) #[] #[.pointer (some ⟨bx, 0, none⟩)]] w (FirstR w l q) := by
  have hl : l.length = n := by have := ho.1; rw [entCells_len] at this; omega
  have HL := Lib.hid hl
  have HB := Lib.hid hb
  clear hl hb
  go_enter Tryd.func47, Tryd.ntmps47
  go_wp2
  go_loopw [5, 8] (fun _ i wr => FirstI w l q n i wr) (fun _ i _ => n - (intOf i).toNat)
  case atStart => exact ⟨0, Nat.zero_le _, rfl, fun y hy => by simp at hy, Fr.rfl' _ _⟩
  case round =>
    obtain ⟨k, hk, rfl, hp, hf⟩ := hrel
    have HP := Lib.hid hp
    clear hp
    by_cases hlt : k < n
    · obtain ⟨x, hx⟩ : ∃ x, l[k]? = some x := ⟨_, List.getElem?_eq_getElem (by rw [HL.out]; exact hlt)⟩
      have hr2 := ho.fr hf fun _ _ h => h
      have k0 := hr2.cell (k * 2) (by omega)
      have k1 := hr2.cell (k * 2 + 1) (by omega)
      rw [(ent_at hx).1] at k0
      rw [(ent_at hx).2] at k1
      have hc := other_any x.1 x.2 q wr bx ((hf.cell (p := ⟨bx, 0, none⟩) (block_lt_of_cell HB.out) fun h => h).trans HB.out)
      have HX := Lib.hid hx
      clear hr2 hx
      by_cases he : x.2 = q
      · rw [decide_eq_true he] at hc
        have HN := Lib.hid (all_snoc HX.out HP.out he)
        clear he
        go_wp2_with (refine hc.mono ?_; rintro e w5 ⟨rfl, f5⟩)
        go_roundw
        case rel => exact ⟨k + 1, by omega, by go_num, HN.out, hf.trans f5⟩
        case measure => simp [intOf]; omega
      · rw [decide_eq_false he] at hc
        have HN := Lib.hid he
        clear he
        go_wp2_with (refine hc.mono ?_; rintro e w5 ⟨rfl, f5⟩)
        go_ret
        exact ⟨hf.trans f5, .inr ⟨k, x, HX.out, HN.out, HP.out, rfl⟩⟩
    · obtain rfl : k = n := by omega
      have HN := Lib.hid (show ∀ y ∈ l, y.2 = q by have := HP.out; rwa [List.take_of_length_le (by rw [HL.out]; exact Nat.le_refl _)] at this)
      go_wp2
      go_ret
      exact ⟨hf, .inl ⟨HN.out, rfl⟩⟩

/-! ### clear -/
theorem Own.fill {e : TypeId} {size n c g : Nat} (vs : List Value) : ∀ (o : Nat) {w : World} {xs : List Value}, Own w e size (some ⟨g, 0, none⟩) n c xs →
    ∃ xs', Own (w.setCells g o vs) e size (some ⟨g, 0, none⟩) n c xs' ∧ xs'.take o = xs.take o ∧ Fr (fun k => k = g) w (w.setCells g o vs) := by
  induction vs with
  | nil => exact fun o w xs h => ⟨xs, h, rfl, Fr.rfl' _ _⟩
  | cons v vs ih =>
    intro o w xs h
    obtain ⟨xs', h1, h2, h3⟩ := ih (o + 1) (h.set o v)
    refine ⟨xs', h1, ?_, (Fr.setCell (S := fun k => k = g) (Fr.rfl' _ w) (p := ⟨g, o, none⟩) (fun _ => rfl) v).trans h3⟩
    have := congrArg (List.take o) h2
    rw [List.take_take, List.take_take, Nat.min_eq_left (by omega)] at this
    rw [this, List.take_set_of_le (Nat.le_refl _)]
def zero2 (n : Nat) : List Value := (Builtin.zeroCells #[.string ⟨#[]⟩, .string ⟨#[]⟩] n).toList
theorem run_clear2 {P : Program} (w : World) (t e ty : TypeId) (ht : P.underlying t = some (.slice e)) (hv : ∀ w, (zeroValue e).run P w = .ok (.agg #[.string ⟨#[]⟩, .string ⟨#[]⟩]) w) (b o n c : Nat) (hn : 0 < n)
    (hc : ∀ j, j < n * 2 → (w.cell? ⟨b, o + j, none⟩).isSome = true) (hf : ∀ j, j < n * 2 → w.frozen? ⟨b, o + j, none⟩ = false) :
    (Builtin.clear_ #[t] ty #[.slice (some ⟨b, o, none⟩) n c]).run P w = .ok (.tuple #[]) (w.setCells b o (zero2 n)) := by
  have hlen : (zero2 n).length = n * 2 := by rw [zero2, Array.length_toList, size_zeroCells]; rfl
  have hst := run_storeCells_cells (P := P) b o (zero2 n) 0 w (by rw [hlen]; simpa using hc) (by rw [hlen]; simpa using hf) (by
    intro v hv'
    simp [zero2, Builtin.zeroCells] at hv'
    obtain ⟨i, _, rfl⟩ := hv'
    rcases Nat.mod_two_eq_zero_or_one i with h | h <;> rw [h] <;> rfl)
  simp only [Nat.add_zero] at hst
  obtain ⟨m, rfl⟩ : ∃ m, n = m + 1 := ⟨n - 1, by omega⟩
  simp only [zero2] at hst ⊢
  have hcz : (Value.agg #[.string ⟨#[]⟩, .string ⟨#[]⟩]).cells = #[.string ⟨#[]⟩, .string ⟨#[]⟩] := rfl
  simp [Builtin.clear_, run_underlying ht, hv, hcz, hst]

/-! ### DeleteFunc -/
theorem set2_take (xs E : List Value) (i : Nat) (a b : Value) (h : xs.take (i * 2) = E) (hl : i * 2 + 1 < xs.length) : ((xs.set (i * 2) a).set (i * 2 + 1) b).take ((i + 1) * 2) = E ++ [a, b] := by
  have e1 : (xs.set (i * 2) a).take (i * 2 + 1) = E ++ [a] := by
    rw [List.take_succ_eq_append_getElem (by rw [List.length_set]; omega), List.take_set_of_le (Nat.le_refl _), h, List.getElem_set_self]
  rw [show (i + 1) * 2 = i * 2 + 1 + 1 by omega, List.take_succ_eq_append_getElem (by simp; omega), List.take_set_of_le (Nat.le_refl _), e1, List.getElem_set_self, List.append_assoc]
  rfl
theorem ofText_take {l : List Ent} {q : Pth} {j : Nat} {x : Ent} (hx : l[j]? = some x) : ofText (l.take (j + 1)) q = ofText (l.take j) q ++ (if x.2 = q then [x] else []) := by
  obtain ⟨hk, rfl⟩ := List.getElem?_eq_some_iff.1 hx
  rw [List.take_succ_eq_append_getElem hk, ofText, List.filter_append]
  congr 1
  by_cases h : l[j].2 = q <;> simp [h]
theorem ofText_all {l : List Ent} {q : Pth} (h : ∀ x ∈ l, x.2 = q) : ofText l q = l := List.filter_eq_self.2 fun x hx => by simp [h x hx]
def DelI (w : World) (g n c : Nat) (l : List Ent) (q : Pth) (s5 s6 : Value) (wr : World) : Prop :=
  ∃ (i j : Nat) (xs : List Value), s5 = .int .i64 i ∧ s6 = .int .i64 j ∧ i < j ∧ j ≤ n ∧ (ofText (l.take j) q).length = i ∧ Own wr 37 2 (some ⟨g, 0, none⟩) n c xs ∧ xs.take (i * 2) = entCells (ofText (l.take j) q) ∧
    (∀ t u, (entCells l)[t]? = some u → j * 2 ≤ t → xs[t]? = some u) ∧ Fr (fun k => k = g) w wr
theorem del_start {w w1 : World} {g n c : Nat} {l : List Ent} {q : Pth} {k : Nat} {x : Ent} (ho : Own w1 37 2 (some ⟨g, 0, none⟩) n c (entCells l)) (hf : Fr (fun k => k = g) w w1) (hx : l[k]? = some x) (hne : x.2 ≠ q) (hp : ∀ y ∈ l.take k, y.2 = q) :
    DelI w g n c l q (.int .i64 k) (.int .i64 (k + 1 : Nat)) w1 := by
  have hk := (List.getElem?_eq_some_iff.1 hx).1
  have hl : l.length = n := by have := ho.1; rw [entCells_len] at this; omega
  have e : ofText (l.take (k + 1)) q = l.take k := by rw [ofText_take hx, if_neg hne, List.append_nil, ofText_all hp]
  refine ⟨k, k + 1, entCells l, rfl, rfl, by omega, by omega, by rw [e, List.length_take]; omega, ho, ?_, fun t u h _ => h, hf⟩
  rw [e]
  have e2 : entCells l = entCells (l.take k) ++ entCells (l.drop k) := by rw [← entCells_append, List.take_append_drop]
  rw [e2, List.take_left' (by rw [entCells_len, List.length_take]; omega)]
theorem del_keep {w wr w5 : World} {g n c : Nat} {l : List Ent} {q : Pth} {i j : Nat} {xs : List Value} {x : Ent} (hx : l[j]? = some x) (he : x.2 = q) (hij : i < j) (hjn : j < n) (hi : (ofText (l.take j) q).length = i)
    (ho : Own w5 37 2 (some ⟨g, 0, none⟩) n c xs) (ht : xs.take (i * 2) = entCells (ofText (l.take j) q)) (hr : ∀ t u, (entCells l)[t]? = some u → j * 2 ≤ t → xs[t]? = some u) (hf : Fr (fun k => k = g) w w5) :
    DelI w g n c l q (.int .i64 (i + 1 : Nat)) (.int .i64 (j + 1 : Nat)) ((w5.setCell ⟨g, i * 2, none⟩ (.string (str x.1))).setCell ⟨g, i * 2 + 1, none⟩ (.string (str x.2))) := by
  have hxl : xs.length = n * 2 := ho.1
  refine ⟨i + 1, j + 1, _, rfl, rfl, by omega, by omega, by rw [ofText_take hx, if_pos he, List.length_append, hi]; rfl, (ho.set (i * 2) _).set (i * 2 + 1) _, ?_, fun t u h hle => ?_, (hf.setCell (fun _ => rfl) _).setCell (fun _ => rfl) _⟩
  · rw [set2_take xs _ i _ _ ht (by omega), ofText_take hx, if_pos he, entCells_snoc]
    rfl
  · rw [List.getElem?_set_ne (by omega), List.getElem?_set_ne (by omega)]
    exact hr t u h (by omega)
theorem del_skip {w w5 : World} {g n c : Nat} {l : List Ent} {q : Pth} {i j : Nat} {xs : List Value} {x : Ent} (hx : l[j]? = some x) (he : x.2 ≠ q) (hij : i < j) (hjn : j < n) (hi : (ofText (l.take j) q).length = i)
    (ho : Own w5 37 2 (some ⟨g, 0, none⟩) n c xs) (ht : xs.take (i * 2) = entCells (ofText (l.take j) q)) (hr : ∀ t u, (entCells l)[t]? = some u → j * 2 ≤ t → xs[t]? = some u) (hf : Fr (fun k => k = g) w w5) :
    DelI w g n c l q (.int .i64 i) (.int .i64 (j + 1 : Nat)) w5 := by
  refine ⟨i, j + 1, xs, rfl, rfl, by omega, by omega, by rw [ofText_take hx, if_neg he, List.append_nil, hi], ho, by rw [ofText_take hx, if_neg he, List.append_nil, ht], fun t u h hle => hr t u h (by omega), hf⟩

set_option maxRecDepth 100000 in
set_option maxHeartbeats 8000000 in
theorem del_any (w : World) (g c n : Nat) (l : List Ent) (ho : Own w 37 2 (some ⟨g, 0, none⟩) n c (entCells l)) (hn : n ≤ 100000) (q : Pth) (bx : Nat) (hb : w.cell? ⟨bx, 0, none⟩ = some (.string (str q))) (hbg : bx ≠ g) :
    Calls Tryd.prog 28 #[.slice (some ⟨g, 0, none⟩) n c, .func (.func 29) #[] #[.pointer (some ⟨bx, 0, none⟩)]] w fun e w' =>
      ∃ m : Nat, (ofText l q).length = m ∧ e = .returned (.slice (some ⟨g, 0, none⟩) m c) ∧ Own w' 37 2 (some ⟨g, 0, none⟩) m c (entCells (ofText l q)) ∧ Fr (fun k => k = g) w w' := by
  have hl : l.length = n := by have := ho.1; rw [entCells_len] at this; omega
  have hcap := ho.cap
  have hcl63 := ho.caplen
  unfold maxLen at hcl63
  have hglt : g < w.heap.size := ho.lt ⟨_, rfl, rfl⟩
  have hblt : bx < w.heap.size := block_lt_of_cell hb
  have HL := Lib.hid hl
  have HF := Lib.hid (first_any w g c n l ho hn q bx hb)
  have HB := Lib.hid hb
  clear hl hb
  go_enter Tryd.func28, Tryd.ntmps28
  go_wp2_with fail
  refine HF.out.mono ?_
  rintro e w1 ⟨hf1, ⟨hall, rfl⟩ | ⟨k, x, hx, hne, hp, rfl⟩⟩
  · have e1 := ofText_all hall
    have HE := Lib.hid e1
    clear hall e1
    go_wp2_with fail
    go_ret
    exact ⟨n, by rw [HE.out, HL.out], rfl, by rw [HE.out]; exact ho.fr hf1 fun _ _ h => h, hf1.mono fun _ _ h => h.elim⟩
  · have HS := Lib.hid (del_start (ho.fr hf1 fun _ _ h => h) (hf1.mono fun _ _ h => h.elim) hx hne hp)
    have hkn : k < n := by have := (List.getElem?_eq_some_iff.1 hx).1; rw [HL.out] at this; exact this
    have hk1 : ((k : Int) == -1) = false := by simp
    clear hx hne hp
    go_wp2_with fail
    go_loopw [5, 6, 7] (fun s5 s6 _ wr => DelI w g n c l q s5 s6 wr) (fun _ s6 _ _ => n - (intOf s6).toNat)
    case atStart => exact HS.out
    case round =>
      obtain ⟨i, j, xs, rfl, rfl, hij, hjn, hi, hox, ht, hr, hf⟩ := hrel
      have HI := Lib.hid hi
      have HT := Lib.hid ht
      have HR := Lib.hid hr
      clear hi ht hr
      have hxl := hox.1
      have HXL := Lib.hid hxl
      clear hxl
      by_cases hlt : j < n
      · obtain ⟨x, hx⟩ : ∃ x, l[j]? = some x := ⟨_, List.getElem?_eq_getElem (by rw [HL.out]; exact hlt)⟩
        have k0 := hox.cell (j * 2) (by omega)
        have k1 := hox.cell (j * 2 + 1) (by omega)
        rw [HR.out _ _ (ent_at hx).1 (by omega)] at k0
        rw [HR.out _ _ (ent_at hx).2 (by omega)] at k1
        have HX := Lib.hid hx
        have hc := fun w5 h => other_any x.1 x.2 q w5 bx h
        have hbr : (wr.alloc (.cells #[.string (str x.1), .string (str x.2)] 37)).cell? ⟨bx, 0, none⟩ = some (.string (str q)) := by
          rw [World.cell?_alloc_lt _ _ _ (by show bx < _; have := hf.size; omega), hf.cell (p := ⟨bx, 0, none⟩) hblt (fun h => hbg h)]
          exact HB.out
        have HBR := Lib.hid hbr
        have hnb := Blk.new wr 37 #[.string (str x.1), .string (str x.2)]
        have HNB := Lib.hid hnb
        have hox2 := hox.alloc (.cells #[.string (str x.1), .string (str x.2)] 37)
        have HOX := Lib.hid hox2
        have hf2 := hf.alloc (.cells #[.string (str x.1), .string (str x.2)] 37)
        have HC := Lib.hid hc
        clear hx hbr hnb hox2 hc
        by_cases he : x.2 = q
        · have HE := Lib.hid he
          have HD := Lib.hid (decide_eq_true he)
          clear he
          go_wp2_with (
            refine (HC.out _ HBR.out).mono ?_
            rw [HD.out]
            rintro e w5 ⟨rfl, f5⟩
            have hb5 := HNB.out.fr f5 fun h => h
            have ho5 := HOX.out.fr f5 fun _ _ h => h
            have v0 : w5.cell? ⟨wr.heap.size, 0, none⟩ = some (.string (str x.1)) := hb5.cell 0
            have v1 : w5.cell? ⟨wr.heap.size, 1, none⟩ = some (.string (str x.2)) := hb5.cell 1
            obtain ⟨u0, hu0⟩ : ∃ u, w5.cell? ⟨g, i * 2, none⟩ = some u := ⟨_, (ho5.cell (i * 2) (by omega)).trans (List.getElem?_eq_getElem (by rw [HXL.out]; omega))⟩
            obtain ⟨u1, hu1⟩ : ∃ u, w5.cell? ⟨g, i * 2 + 1, none⟩ = some u := ⟨_, (ho5.cell (i * 2 + 1) (by omega)).trans (List.getElem?_eq_getElem (by rw [HXL.out]; omega))⟩
            have fr0 := ho5.free (i * 2)
            have fr1 := ho5.free (i * 2 + 1))
          go_roundw
          case rel => exact del_keep (wr := wr) HX.out HE.out hij hlt HI.out ho5 HT.out HR.out (hf2.trans' f5 fun _ _ h => h.elim)
          case measure => simp [intOf]; omega
        · have HE := Lib.hid he
          have HD := Lib.hid (decide_eq_false he)
          clear he
          go_wp2_with (
            refine (HC.out _ HBR.out).mono ?_
            rw [HD.out]
            rintro e w5 ⟨rfl, f5⟩)
          go_roundw
          case rel => exact del_skip HX.out HE.out hij hlt HI.out (HOX.out.fr f5 fun _ _ h => h) HT.out HR.out (hf2.trans' f5 fun _ _ h => h.elim)
          case measure => simp [intOf]; omega
      · obtain rfl : j = n := by omega
        have hta : l.take j = l := List.take_of_length_le (by rw [HL.out]; exact Nat.le_refl _)
        rw [hta] at HI HT
        clear hta
        have hci : ¬ c = i := by omega
        have hsl : ∀ W, (Instr.slice 34 (.slice (some ⟨g, 0, none⟩) j c) (some (.int .i64 (i : Int))) none none).run Tryd.prog W = .ok (.slice (some ⟨g, i * 2, none⟩) (j - i) (c - i)) W := fun W => by
          have := run_slice_from (P := Tryd.prog) (n := j) (c := c) (k := i) (A := some ⟨g, 0, none⟩) (size := 2) Tryd.underlying34 (show (Tryd.prog.info? 37).map (·.size) = some 2 by kernel_rfl) (by omega) W
          rw [this, CutA, if_neg hci]
          have : (⟨g, 0, none⟩ : Addr).add (i * 2) = ⟨g, i * 2, none⟩ := by unfold Addr.add; split <;> simp_all
          simp [this]
        have hcl : ∀ ty, (Builtin.clear_ #[34] ty #[.slice (some ⟨g, i * 2, none⟩) (j - i) (c - i)]).run Tryd.prog wr = .ok (.tuple #[]) (wr.setCells g (i * 2) (zero2 (j - i))) := fun ty =>
          run_clear2 wr 34 37 ty Tryd.underlying34 Tryd.zeroValue37 g (i * 2) (j - i) (c - i) (by omega)
            (fun t ht => by rw [hox.cell (i * 2 + t) (by omega), List.getElem?_eq_getElem (by rw [HXL.out]; omega)]; rfl) (fun t ht => hox.free (i * 2 + t))
        obtain ⟨xs', ho6, ht6, hf6⟩ := Own.fill (zero2 (j - i)) (i * 2) hox
        have ho7 := ho6.cut (k := i) (by omega)
        rw [ht6, HT.out] at ho7
        have HO := Lib.hid ho7
        have HF6 := Lib.hid (hf.trans hf6)
        clear ho6 ht6 hf6 ho7
        generalize wr.setCells g (i * 2) (zero2 (j - i)) = W6 at *
        go_wp2_with fail
        go_ret
        exact ⟨i, HI.out, rfl, HO.out, HF6.out⟩
end Go.Proofs.YtcplmdheoagmcaaDoor
