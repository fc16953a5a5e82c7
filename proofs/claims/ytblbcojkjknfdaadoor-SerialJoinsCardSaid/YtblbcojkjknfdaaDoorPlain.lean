/-
  serial.Plain, walked.
-/
import Derived.Test.YtblbcojkjknfdaaDoorFine
namespace Go.Proofs.YtblbcojkjknfdaaDoor
open Go.RowKit

theorem no_cases (s : ByteArray) : (noB s = true ∧ s.toList = [] ∧ s.toList.isEmpty = true ∧ (!s.toList.isEmpty) = false) ∨ (noB s = false ∧ ¬ s.toList = [] ∧ s.toList.isEmpty = false ∧ (!s.toList.isEmpty) = true) := by
  by_cases h : s.size = 0
  · exact .inl ⟨decide_eq_true h, empty_of h⟩
  · exact .inr ⟨decide_eq_false h, full_of h⟩
theorem n_cases (n : Nat) : (decide (n = 0) = true ∧ ((n : Int) == 0) = true ∧ (n == 0) = true) ∨ (decide (n = 0) = false ∧ ((n : Int) == 0) = false ∧ (n == 0) = false) := by
  by_cases h : n = 0
  · subst h
    exact .inl ⟨rfl, rfl, rfl⟩
  · exact .inr ⟨decide_eq_false h, by simp; omega, by simp; omega⟩
theorem z_cases (z : Int) : (decide (z = 0) = true ∧ (z == 0) = true) ∨ (decide (z = 0) = false ∧ (z == 0) = false) := by
  by_cases h : z = 0
  · subst h
    exact .inl ⟨rfl, rfl⟩
  · exact .inr ⟨decide_eq_false h, by simpa using h⟩

section
variable (w : World) (nm data : ByteArray) (A : Option Addr) (n c : Nat) (ats : List Atr) (self : Bool)
def tokV (kind : Int) : Value := .agg #[.int .i64 kind, .string nm, .string data, .slice A n c, .bool self]
set_option maxRecDepth 100000 in
set_option maxHeartbeats 4000000 in
theorem plain1 : Calls Tryd.prog 9 #[.agg #[.int .i64 1, .string nm, .string data, .slice A n c, .bool self]] w fun e w' => e = .returned (.bool (!noB data && noB nm && decide (n = 0) && !self)) ∧ Fr Nil w w' := by
  rcases no_cases data with ⟨d, d1, d2, d3⟩ | ⟨d, d1, d2, d3⟩ <;> rcases no_cases nm with ⟨e, e1, e2, e3⟩ | ⟨e, e1, e2, e3⟩ <;> rcases n_cases n with ⟨f, f1, f2⟩ | ⟨f, f1, f2⟩ <;> cases self
  all_goals
    rw [d, e, f]
    clear d e f
    go_enter Tryd.func9, Tryd.ntmps9
    go_wp2
    go_ret
    exact ⟨rfl, (Fr.rfl' _ w).alloc _⟩

set_option maxRecDepth 100000 in
set_option maxHeartbeats 4000000 in
theorem plain3 : Calls Tryd.prog 9 #[.agg #[.int .i64 3, .string nm, .string data, .slice A n c, .bool self]] w fun e w' => e = .returned (.bool (wordB (bs nm) && noB data && decide (n = 0) && !self)) ∧ Fr Nil w w' := by
  have HW := Lib.hid (fun w => word_any w nm)
  generalize wordB (bs nm) = b at HW ⊢
  rcases no_cases data with ⟨d, d1, d2, d3⟩ | ⟨d, d1, d2, d3⟩ <;> rcases n_cases n with ⟨f, f1, f2⟩ | ⟨f, f1, f2⟩ <;> cases self <;> cases b
  all_goals
    rw [d, f]
    clear d f
    go_enter Tryd.func9, Tryd.ntmps9
    go_wp2_with fail
    refine (HW.out _).mono ?_
    rintro e w1 ⟨rfl, g1⟩
    have k2 : w1.cell? ⟨w.heap.size, 2, none⟩ = some (.string data) := (g1.cell (p := ⟨w.heap.size, 2, none⟩) (by simp) fun h => h).trans (by simp)
    have k3 : w1.cell? ⟨w.heap.size, 3, none⟩ = some (.slice A n c) := (g1.cell (p := ⟨w.heap.size, 3, none⟩) (by simp) fun h => h).trans (by simp)
    have k4 : ∀ u, (w.alloc (.cells #[.int .i64 3, .string nm, .string data, .slice A n c, u] 28)).cell? ⟨w.heap.size, 4, none⟩ = some u := fun u => by simp
    have k5 := (g1.cell (p := ⟨w.heap.size, 4, none⟩) (by simp) fun h => h).trans (k4 _)
    clear k4
    go_wp2_with fail
    go_ret
    exact ⟨rfl, ((Fr.rfl' _ w).alloc _).trans g1⟩
end
theorem TokOk.more {W : World} {B B' : Nat} {t : Tok} (h : TokOk W B t) (hB : B ≤ B') : TokOk W B' t := ⟨h.len, h.cap, h.reads.more hB, h.wf, h.small⟩

set_option maxRecDepth 100000 in
set_option maxHeartbeats 4000000 in
theorem plain2 (w : World) (B : Nat) (nm data : ByteArray) (A : Option Addr) (n c : Nat) (ats : List Atr) (self : Bool) (hok : TokOk w B ⟨2, nm, data, A, n, c, ats, self⟩) (hB : B ≤ w.heap.size) (hn : n ≤ 1000000) :
    Calls Tryd.prog 9 #[.agg #[.int .i64 2, .string nm, .string data, .slice A n c, .bool self]] w fun e w' => e = .returned (.bool (wordB (bs nm) && decide (rawZ nm = 0) && noB data && !self && fineB ats)) ∧ Fr Nil w w' := by
  have HW := Lib.hid (fun w => word_any w nm)
  have HR := Lib.hid (fun w => raw_any nm w)
  have hF0 : ∀ w1, Fr Nil w w1 → Calls Tryd.prog 18 #[.slice A n c] w1 fun e w' => e = .returned (.bool (fineB ats)) ∧ Fr Nil w1 w' :=
    fun w1 g => fine_any w1 ⟨2, nm, data, A, n, c, ats, self⟩ ((hok.fr g hB fun _ x => x.elim).more (Nat.le_trans hB g.size)) hn
  have HF := Lib.hid hF0
  clear hF0
  clear hok
  have kk : ∀ w1 : World, Fr Nil (w.alloc (.cells #[.int .i64 2, .string nm, .string data, .slice A n c, .bool self] 28)) w1 → w1.cell? ⟨w.heap.size, 1, none⟩ = some (.string nm) ∧ w1.cell? ⟨w.heap.size, 2, none⟩ = some (.string data) ∧ w1.cell? ⟨w.heap.size, 3, none⟩ = some (.slice A n c) ∧ w1.cell? ⟨w.heap.size, 4, none⟩ = some (.bool self) := fun w1 g =>
    ⟨(g.cell (p := ⟨w.heap.size, 1, none⟩) (by simp) fun h => h).trans (by simp), (g.cell (p := ⟨w.heap.size, 2, none⟩) (by simp) fun h => h).trans (by simp),
      (g.cell (p := ⟨w.heap.size, 3, none⟩) (by simp) fun h => h).trans (by simp), (g.cell (p := ⟨w.heap.size, 4, none⟩) (by simp) fun h => h).trans (by simp)⟩
  have KK := Lib.hid kk
  clear kk
  generalize wordB (bs nm) = b at HW ⊢
  generalize rawZ nm = z at HR ⊢
  generalize fineB ats = r at HF ⊢
  cases b with
  | false =>
    go_enter Tryd.func9, Tryd.ntmps9
    go_wp2_with fail
    refine (HW.out _).mono ?_
    rintro e w1 ⟨rfl, g1⟩
    go_wp2_with fail
    go_ret
    exact ⟨rfl, ((Fr.rfl' _ w).alloc _).trans g1⟩
  | true =>
    rcases z_cases z with ⟨d, d1⟩ | ⟨d, d1⟩
    · rw [d]
      clear d
      rcases no_cases data with ⟨e, e1, e2, e3⟩ | ⟨e, e1, e2, e3⟩
      · rw [e]
        clear e
        cases self with
        | true =>
          go_enter Tryd.func9, Tryd.ntmps9
          go_wp2_with fail
          refine (HW.out _).mono ?_
          rintro e w1 ⟨rfl, g1⟩
          obtain ⟨k1, k2, k3, k4⟩ := KK.out w1 g1
          go_wp2_with fail
          refine (HR.out _).mono ?_
          rintro e w2 ⟨rfl, rfl⟩
          go_wp2_with fail
          go_ret
          exact ⟨rfl, ((Fr.rfl' _ w).alloc _).trans g1⟩
        | false =>
          go_enter Tryd.func9, Tryd.ntmps9
          go_wp2_with fail
          refine (HW.out _).mono ?_
          rintro e w1 ⟨rfl, g1⟩
          obtain ⟨k1, k2, k3, k4⟩ := KK.out w1 g1
          go_wp2_with fail
          refine (HR.out _).mono ?_
          rintro e w2 ⟨rfl, rfl⟩
          go_wp2_with fail
          refine (HF.out _ (((Fr.rfl' _ w).alloc _).trans g1)).mono ?_
          rintro e w3 ⟨rfl, g3⟩
          go_wp2_with fail
          go_ret
          exact ⟨ret_bool (by simp), (((Fr.rfl' _ w).alloc _).trans g1).trans g3⟩
      · rw [e]
        clear e
        go_enter Tryd.func9, Tryd.ntmps9
        go_wp2_with fail
        refine (HW.out _).mono ?_
        rintro e w1 ⟨rfl, g1⟩
        obtain ⟨k1, k2, k3, k4⟩ := KK.out w1 g1
        go_wp2_with fail
        refine (HR.out _).mono ?_
        rintro e w2 ⟨rfl, rfl⟩
        go_wp2_with fail
        go_ret
        exact ⟨rfl, ((Fr.rfl' _ w).alloc _).trans g1⟩
    · rw [d]
      clear d
      go_enter Tryd.func9, Tryd.ntmps9
      go_wp2_with fail
      refine (HW.out _).mono ?_
      rintro e w1 ⟨rfl, g1⟩
      obtain ⟨k1, k2, k3, k4⟩ := KK.out w1 g1
      go_wp2_with fail
      refine (HR.out _).mono ?_
      rintro e w2 ⟨rfl, rfl⟩
      go_wp2_with fail
      go_ret
      exact ⟨rfl, ((Fr.rfl' _ w).alloc _).trans g1⟩

set_option maxHeartbeats 1000000 in
theorem plain0 (w : World) (kind : Int) (nm data : ByteArray) (A : Option Addr) (n c : Nat) (self : Bool) (h1 : kind ≠ 1) (h2 : kind ≠ 2) (h3 : kind ≠ 3) :
    Calls Tryd.prog 9 #[.agg #[.int .i64 kind, .string nm, .string data, .slice A n c, .bool self]] w fun e w' => e = .returned (.bool false) ∧ Fr Nil w w' := by
  have g1 : (kind == 1) = false := by simpa using h1
  have g2 : (kind == 2) = false := by simpa using h2
  have g3 : (kind == 3) = false := by simpa using h3
  go_enter Tryd.func9, Tryd.ntmps9
  go_wp2_with fail
  go_ret
  exact ⟨rfl, (Fr.rfl' _ w).alloc _⟩

theorem plain_any (w : World) (B : Nat) (t : Tok) (hok : TokOk w B t) (hB : B ≤ w.heap.size) (hn : t.n ≤ 1000000) :
    Calls Tryd.prog 9 #[.agg (tokCells t).toArray] w fun e w' => e = .returned (.bool (plainB t)) ∧ Fr Nil w w' := by
  obtain ⟨kind, nm, data, A, n, c, ats, self⟩ := t
  show Calls Tryd.prog 9 #[.agg #[.int .i64 kind, .string nm, .string data, .slice A n c, .bool self]] w _
  unfold plainB
  by_cases h1 : kind = 1
  · subst h1
    rw [if_pos rfl]
    exact plain1 w nm data A n c self
  · rw [if_neg h1]
    by_cases h2 : kind = 2
    · subst h2
      rw [if_pos rfl]
      exact plain2 w B nm data A n c ats self hok hB hn
    · rw [if_neg h2]
      by_cases h3 : kind = 3
      · subst h3
        rw [if_pos rfl]
        exact plain3 w nm data A n c self
      · rw [if_neg h3]
        exact plain0 w kind nm data A n c self h1 h2 h3
end Go.Proofs.YtblbcojkjknfdaaDoor
