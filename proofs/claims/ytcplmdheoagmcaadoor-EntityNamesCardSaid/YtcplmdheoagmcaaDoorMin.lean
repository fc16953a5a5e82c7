/-
  cmp.Compare[int], cmp.Or[int], Called$1$2, walked.
-/
import Derived.Test.YtcplmdheoagmcaaDoorCmpS
import Derived.Test.YtcplmdheoagmcaaDoorCalP
import Derived.StillTailTactics
namespace Go.Proofs.YtcplmdheoagmcaaDoor
open Go.RowKit Go.Sort

/-- the order of two numbers -/
def cmpZ (a b : Int) : Int := if a < b then -1 else if b < a then 1 else 0
set_option maxHeartbeats 2000000 in
theorem cmpz_any (a b : Int) (w : World) : Calls Tryd.prog 33 #[.int .i64 a, .int .i64 b] w fun e w' => e = .returned (.int .i64 (cmpZ a b)) ∧ w = w' := by
  have h3 : cmpZ a b = if a < b then -1 else if b < a then 1 else 0 := rfl
  by_cases h1 : a < b
  · rw [if_pos h1] at h3
    rw [h3]
    clear h3
    go_enter Tryd.func33, Tryd.ntmps33
    go_wp2
    go_ret
    exact ⟨rfl, rfl⟩
  · rw [if_neg h1] at h3
    by_cases h2 : b < a
    · rw [if_pos h2] at h3
      rw [h3]
      clear h3
      go_enter Tryd.func33, Tryd.ntmps33
      go_wp2
      go_ret
      exact ⟨rfl, rfl⟩
    · rw [if_neg h2] at h3
      rw [h3]
      clear h3
      go_enter Tryd.func33, Tryd.ntmps33
      go_wp2
      go_ret
      exact ⟨rfl, rfl⟩

/-- the first that is not 0 -/
def orZ (a b : Int) : Int := if a = 0 then b else a
set_option maxHeartbeats 2000000 in
theorem or_any (a b : Int) (w : World) (g : Nat) (h0 : w.cell? ⟨g, 0, none⟩ = some (.int .i64 a)) (h1 : w.cell? ⟨g, 1, none⟩ = some (.int .i64 b)) :
    Calls Tryd.prog 32 #[.slice (some ⟨g, 0, none⟩) 2 2] w fun e w' => e = .returned (.int .i64 (orZ a b)) ∧ w = w' := by
  have h3 : orZ a b = if a = 0 then b else a := rfl
  by_cases ha : a = 0
  · rw [if_pos ha] at h3
    subst ha
    rw [h3]
    clear h3
    by_cases hb : b = 0
    · subst hb
      go_enter Tryd.func32, Tryd.ntmps32
      go_wp2
      go_loop [5, 8] (fun _ i => i = .int .i64 0 ∨ i = .int .i64 1 ∨ i = .int .i64 2) (fun _ i => 2 - (intOf i).toNat)
      case atStart => exact .inl rfl
      case round =>
        rcases hrel with rfl | rfl | rfl
        · go_wp2
          go_round
          case rel => exact .inr (.inl rfl)
          case measure => simp [intOf]
        · go_wp2
          go_round
          case rel => exact .inr (.inr rfl)
          case measure => simp [intOf]
        · go_wp2
          go_ret
          exact ⟨rfl, rfl⟩
    · have hb' : (b != 0) = true := by simpa using hb
      go_enter Tryd.func32, Tryd.ntmps32
      go_wp2
      go_loop [5, 8] (fun _ i => i = .int .i64 0 ∨ i = .int .i64 1) (fun _ i => 2 - (intOf i).toNat)
      case atStart => exact .inl rfl
      case round =>
        rcases hrel with rfl | rfl
        · go_wp2
          go_round
          case rel => exact .inr rfl
          case measure => simp [intOf]
        · go_wp2
          go_ret
          exact ⟨rfl, rfl⟩
  · rw [if_neg ha] at h3
    rw [h3]
    have ha' : (a != 0) = true := by simpa using ha
    clear h3 h1
    go_enter Tryd.func32, Tryd.ntmps32
    go_wp2
    go_loop [5, 8] (fun _ i => i = .int .i64 0) (fun _ i => 2 - (intOf i).toNat)
    case atStart => rfl
    case round =>
      subst hrel
      go_wp2
      go_ret
      exact ⟨rfl, rfl⟩

/-- the order of two names: by their lengths, then by their bytes -/
def cmpN (a b : Pth) : Int := orZ (cmpZ a.length b.length) (cmpP a b)
theorem cmpN_lt (a b : Pth) : decide (cmpN a b < 0) = decide (Shorter a b) := by
  have h1 : decide (cmpP a b < 0) = decide (a < b) := cmpP_lt a b
  have h1' : cmpP a b < 0 ↔ a < b := by simpa using h1
  apply decide_eq_decide.2
  unfold cmpN orZ cmpZ Shorter
  by_cases c1 : a.length < b.length
  · simp [c1]
  · by_cases c2 : b.length < a.length
    · simp [c1, c2]
      omega
    · have c3 : a.length = b.length := by omega
      simp [c3, h1']

theorem region_tail {P : Program} {id : Nat} {Q : Exit → Act → World → Prop} {a : Act} {w : World} {l : List Oper} (n : Nat) (hm : P.follows .mixedOrders = true) (hB : Region.lexTailB .any l.toArray n = true) (W1 : World) (hW : W1 = w.drew)
    (h : wpStill P l.toArray W1 (fun a' => wpList P l.toArray Q (l.drop n) a' W1) (l.take n) a) : (Code.region id l.toArray true).wp P Q a w := by
  subst hW
  exact wp_region_still_tail n hm hB h
set_option maxRecDepth 100000 in
set_option maxHeartbeats 2000000 in
theorem shorter_any (x y : Ent) (w : World) : Calls Tryd.prog 31 #[.agg (encE x).toArray, .agg (encE y).toArray] w fun e w' => e = .returned (.int .i64 (cmpN x.1 y.1)) ∧ Fr Nil w w' := by
  have hc1 := cmp_any x.1 y.1
  have hc2 := cmpz_any x.1.length y.1.length
  have z1 : ((str x.1).size : Int) = x.1.length := by rw [size_str]
  have z2 : ((str y.1).size : Int) = y.1.length := by rw [size_str]
  rw [← z1, ← z2] at hc2
  have hn : cmpN x.1 y.1 = orZ (cmpZ (str x.1).size (str y.1).size) (cmpP x.1 y.1) := by rw [z1, z2]; rfl
  rw [hn]
  show Calls Tryd.prog 31 #[.agg #[.string (str x.1), .string (str x.2)], .agg #[.string (str y.1), .string (str y.2)]] w _
  clear hn z1 z2
  generalize cmpP x.1 y.1 = r1 at hc1 ⊢
  generalize str x.1 = s at hc1 hc2 ⊢
  generalize str y.1 = t at hc1 hc2 ⊢
  generalize cmpZ (s.size : Int) (t.size : Int) = r2 at hc2 ⊢
  generalize str x.2 = s2
  generalize str y.2 = t2
  obtain ⟨W1, hW⟩ : ∃ W1 : World, W1 = ((w.alloc (.cells #[.string s, .string s2] 37)).alloc (.cells #[.string t, .string t2] 37)).drew := ⟨_, rfl⟩
  have k1 : W1.cell? ⟨w.heap.size, 0, none⟩ = some (.string s) := by rw [hW]; simp
  have k2 : W1.cell? ⟨w.heap.size + 1, 0, none⟩ = some (.string t) := by rw [hW]; simp
  have hf : Fr Nil w W1 := by rw [hW]; exact (((Fr.rfl' _ w).alloc _).alloc _).drew
  have hr1 := hc1 W1
  have hr2 := hc2 W1
  have HC1 := Lib.hid hr1
  have HC2 := Lib.hid hr2
  have HW := Lib.hid hW
  clear hc1 hc2 hr1 hr2 hW
  go_enter Tryd.func31, Tryd.ntmps31
  go_wp2_with fail
  refine region_tail 12 (by kernel_rfl) (by kernel_rfl) W1 HW.out ?_
  simp only [List.take_succ_cons, List.take_zero, List.drop_succ_cons, List.drop_zero]
  iterate 6 still_step
  still_call (HC2.out.mono fun e w' h => ⟨h.1, h.2.symm⟩)
  iterate 4 still_step
  still_call HC1.out
  refine wpStill_nil ?_
  go_wp2_with (go_at_call 32; refine (or_any r2 r1 _ W1.heap.size (by simp) (by simp)).mono ?_; rintro e w' ⟨rfl, rfl⟩)
  go_ret
  exact ⟨rfl, hf.alloc _⟩
end Go.Proofs.YtcplmdheoagmcaaDoor
