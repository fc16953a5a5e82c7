/-
  awake of the laws of chapter 20: it returns true and writes nothing that was there.
-/
import Derived.Test.YtdanhjfdgpbfiaaRef
import Derived.Test.YtdanhjfdgpbfiaaBack
import Derived.Test.YtdanhjfdgpbfiaaNew
import Derived.Test.YtdanhjfdgpbfiaaSame
namespace Go.Proofs.Ytdanhjfdgpbfiaa
open Go.RowKit

theorem stk_new (T : TypeId) (w : World) (d : Int) : Stk T (w.alloc (.cells #[.int .i64 d, .slice none 0 0] T)) w.heap.size d none 0 [] :=
  ⟨Blk.new _ _ _, Own.nil _ _ _, not_at_none _⟩

set_option maxHeartbeats 800000 in
theorem awake_any (w : World) : Calls Try.prog 7 #[] w fun e w' => e = .returned (.bool true) ∧ Fr Nil w w' := by
  go_enter Try.func7, Try.ntmps7
  go_wp2_with fail
  refine (new_ok 5 _ (by decide) (by decide)).mono ?_
  rintro e w1 ⟨rfl, rfl⟩
  go_wp2_with fail
  refine (open_ok _ w.heap.size 5 none 0 [] ⟨#[97]⟩ (stk_new 47 w 5) (by simp) (by simp)).mono ?_
  rintro e w2 ⟨rfl, A2, c2, h2, f2, n2⟩
  go_wp2_with fail
  refine (open_ok _ w.heap.size 5 A2 c2 _ ⟨#[98]⟩ h2 (by simp) (by simp)).mono ?_
  rintro e w3 ⟨rfl, A3, c3, h3, f3, n3⟩
  go_wp2_with fail
  refine (close_any _ w.heap.size 5 A3 c3 _ ⟨#[97]⟩ h3 (by simp)).mono ?_
  rintro e w4 ⟨v, rfl, h | ⟨k, hk, A4, c4, rfl, hown, hst, f4, n4⟩⟩
  · exact absurd h.1 (by simp)
  · have hk0 : k = 0 := by
      rcases Nat.eq_zero_or_pos k with h0 | h0
      · exact h0
      · have h1 := hk.1
        match k, h0 with
        | 1, _ => simp at h1
        | k + 2, _ => simp at h1
    subst hk0
    simp at hown hst
    obtain ⟨g, rfl, _⟩ := hown.form (by decide)
    have q0 := hown.cell 0 (by decide)
    simp at q0
    have e1 : ((⟨#[98]⟩ : ByteArray).toList == (⟨#[98]⟩ : ByteArray).toList) = true := by simp
    go_wp2_with (go_at_call 11; refine (depth_any _ _ _ _ _ _ hst).mono ?_; rintro e w' ⟨rfl, rfl⟩)
    go_ret
    refine ⟨rfl, ?_⟩
    have g2 := ((Fr.rfl' Nil w).alloc (.cells #[.int .i64 5, .slice none 0 0] 47)).trans' f2 fun k hk h => by
      rcases h with rfl | h
      · omega
      · exact (not_at_none _ h).elim
    have n2' : ∀ k, At A2 k → w.heap.size ≤ k := fun k hk => by
      rcases n2 k hk with h | h
      · exact (not_at_none _ h).elim
      · simp at h; omega
    have g3 := g2.trans' f3 fun k hk h => by
      rcases h with rfl | h
      · omega
      · have := n2' k h; omega
    exact g3.trans' f4 fun k hk h => by omega
end Go.Proofs.Ytdanhjfdgpbfiaa
