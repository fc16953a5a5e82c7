/-
  DecodeJoins for a byte that comes in as a number.
-/
import Derived.Test.YtlgffgmfaejmeaaJoinsLaw
namespace Go.Proofs.Ytlgffgmfaejmeaa
open Go.RowKit
theorem joins_int (w : World) (A1 A2 : Option Addr) (n1 c1 n2 c2 : Nat) (la lb : List UInt8) (x : Int) (hx : 0 ≤ x ∧ x ≤ 255)
    (hr1 : Reads w w.heap.size 1 A1 n1 (cellsOf la)) (hr2 : Reads w w.heap.size 1 A2 n2 (cellsOf lb)) :
    Calls Try.prog 9 #[.slice A1 n1 c1, .slice A2 n2 c2, .int .u8 x] w fun e w' => e = .returned (.bool true) ∧ Fr Nil w w' := by
  have h := joins_any w A1 A2 n1 c1 n2 c2 la lb (UInt8.ofNat x.toNat) hr1 hr2
  rw [UInt8.toNat_ofNat_of_lt' (by show x.toNat < 256; omega), show ((x.toNat : Nat) : Int) = x by omega] at h
  exact h
end Go.Proofs.Ytlgffgmfaejmeaa
