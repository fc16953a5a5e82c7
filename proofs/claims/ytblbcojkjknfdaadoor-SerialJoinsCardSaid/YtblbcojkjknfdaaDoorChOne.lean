/-
  charref.One at an escaped text's references, walked. (NOT BUILT YET)
-/
import Derived.Test.YtblbcojkjknfdaaDoorNamed
import Derived.Test.YtblbcojkjknfdaaDoorFourP
import Derived.Test.YtblbcojkjknfdaaDoorLay
import Derived.Test.YtblbcojkjknfdaaDoorDecP
import Derived.Test.YtblbcojkjknfdaaDoorEsc
namespace Go.Proofs.YtblbcojkjknfdaaDoor
open Go.RowKit

set_option maxRecDepth 100000 in
set_option maxHeartbeats 2000000 in
theorem chone_none (w : World) : Calls Tryd.prog 15 #[.string ⟨#[]⟩, .bool false] w (RetSN ([], 0) w) := by
  have h1 := Tryd.strings_HasPrefix ⟨#[]⟩ ⟨#[38]⟩ w
  have e1 : Lib.hasPrefix (⟨#[]⟩ : ByteArray).data.toList (⟨#[38]⟩ : ByteArray).data.toList = false := by decide
  rw [e1] at h1
  have H1 := Lib.hid h1
  clear h1 e1
  go_enter Tryd.func15, Tryd.ntmps15
  go_wp2_with fail
  refine H1.out.mono ?_
  rintro e w1 ⟨rfl, rfl⟩
  go_wp2_with fail
  go_ret2
  exact ⟨rfl, Fr.rfl' _ _⟩

theorem four_pos : ∀ x ∈ four, 0 < x.1.length ∧ x.1.length ≤ 5 := by decide
theorem four_hash : ∀ x ∈ four, ∀ r : Bys, List.isPrefixOf [38, 35] (38 :: (x.1 ++ r)) = false := by
  intro x hx r
  simp only [four, List.mem_cons, List.not_mem_nil, or_false] at hx
  rcases hx with rfl | rfl | rfl | rfl <;> rfl
set_option maxRecDepth 100000 in
set_option maxHeartbeats 2000000 in
theorem chone_four (w : World) (s : ByteArray) (nm ch r : Bys) (hm : (nm, ch) ∈ four) (hs : bs s = 38 :: (nm ++ r)) (hsz : s.size ≤ 1048576) :
    Calls Tryd.prog 15 #[.string s, .bool false] w (RetSN (ch, nm.length + 1) w) := by
  have h1 := Tryd.strings_HasPrefix s ⟨#[38]⟩ w
  have h2 := Tryd.strings_HasPrefix s ⟨#[38, 35]⟩ w
  have p1 : Lib.hasPrefix s.data.toList (⟨#[38]⟩ : ByteArray).data.toList = true := by
    show List.isPrefixOf [38] (bs s) = true
    rw [hs]
    rfl
  have p2 : Lib.hasPrefix s.data.toList (⟨#[38, 35]⟩ : ByteArray).data.toList = false := by
    show List.isPrefixOf [38, 35] (bs s) = false
    rw [hs]
    exact four_hash _ hm r
  rw [p1] at h1
  rw [p2] at h2
  have hpos : 1 ≤ s.size := by rw [size_bs, hs]; simp
  have hN := named_any w (s.extract 1 s.size) (by rw [size_bs, bs_from, List.length_drop, ← size_bs]; omega)
  rw [bs_from, hs, List.drop_succ_cons, List.drop_zero, named_four hm] at hN
  obtain ⟨n0, n1⟩ := four_pos _ hm
  dsimp only at n0 n1
  generalize nm.length = n at hN n0 n1 ⊢
  have H1 := Lib.hid h1
  have H2 := Lib.hid h2
  have HN := Lib.hid hN
  clear h1 h2 hN p1 p2 hs hm
  go_enter Tryd.func15, Tryd.ntmps15
  go_wp2_with fail
  refine H1.out.mono ?_
  rintro e w1 ⟨rfl, rfl⟩
  go_wp2_with fail
  refine H2.out.mono ?_
  rintro e w1 ⟨rfl, rfl⟩
  go_wp2_with fail
  refine HN.out.mono ?_
  rintro e w1 ⟨rfl, f1⟩
  go_wp2_with fail
  go_ret2
  exact ⟨rfl, f1⟩
end Go.Proofs.YtblbcojkjknfdaaDoor
