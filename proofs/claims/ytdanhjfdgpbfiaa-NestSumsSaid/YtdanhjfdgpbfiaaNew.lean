/-
  New and the reference's New: what they return and make, for every depth.
-/
import Derived.Test.YtdanhjfdgpbfiaaUtil
import Derived.Test.YtdanhjfdgpbfiaaChecked
namespace Go.Proofs.Ytdanhjfdgpbfiaa
open Go.RowKit

/-- New, in range. -/
theorem new_ok (d : Int) (w : World) (h1 : 1 ≤ d) (h2 : d ≤ 256) :
    Calls Try.prog 8 #[.int .i64 d] w fun e w' => e = .returned (.tuple #[.pointer (some ⟨w.heap.size, 0, none⟩), .int .i64 0]) ∧
      w' = w.alloc (.cells #[.int .i64 d, .slice none 0 0] 47) := by
  go_enter Try.func8, Try.ntmps8
  go_wp2
  go_ret2
  exact ⟨rfl, rfl⟩

theorem new_no (d : Int) (w : World) (h : d < 1 ∨ 256 < d) :
    Calls Try.prog 8 #[.int .i64 d] w fun e w' => e = .returned (.tuple #[.pointer none, .int .i64 1]) ∧ w' = w := by
  rcases h with h | h
  · go_enter Try.func8, Try.ntmps8
    go_wp2
    go_ret2
    exact ⟨rfl, rfl⟩
  · have h' : ¬ d < 1 := by omega
    go_enter Try.func8, Try.ntmps8
    go_wp2
    go_ret2
    exact ⟨rfl, rfl⟩

theorem rnew_ok (d : Int) (w : World) (h1 : 1 ≤ d) (h2 : d ≤ 256) :
    Calls Try.prog 14 #[.int .i64 d] w fun e w' => e = .returned (.tuple #[.pointer (some ⟨w.heap.size, 0, none⟩), .int .i64 0]) ∧
      w' = w.alloc (.cells #[.int .i64 d, .slice none 0 0] 45) := by
  go_enter Try.func14, Try.ntmps14
  go_wp2
  go_ret2
  exact ⟨rfl, rfl⟩

theorem rnew_no (d : Int) (w : World) (h : d < 1 ∨ 256 < d) :
    Calls Try.prog 14 #[.int .i64 d] w fun e w' => e = .returned (.tuple #[.pointer none, .int .i64 1]) ∧ w' = w := by
  rcases h with h | h
  · go_enter Try.func14, Try.ntmps14
    go_wp2
    go_ret2
    exact ⟨rfl, rfl⟩
  · have h' : ¬ d < 1 := by omega
    go_enter Try.func14, Try.ntmps14
    go_wp2
    go_ret2
    exact ⟨rfl, rfl⟩
end Go.Proofs.Ytdanhjfdgpbfiaa
