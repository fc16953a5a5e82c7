/-
  The contracts of bits.Len, xorshift.Next, nextPowerOfTwo at this program (the layings written by lay-plain.mjs; numbers are this seat's).
-/
import Derived.Shelf.SlSortCmp.Xorshift
import Derived.Ground.SlsfProg
import Derived.Test.YthhlpbopbabojaaProg
namespace Go.Proofs
open Go.Shelf
def Try.xorL_ren : Go.Shelf.Ren := ⟨fun | 48 => 51 | n => n, fun | 76 => 88 | 55 => 81 | 0 => 0 | 66 => 82 | 39 => 69 | n => n, fun | n => n⟩
theorem Try.xorL : Go.Proofs.SlLaysF0.n48 Try.prog Try.xorL_ren := {
  mixed := by kernel_rfl
  f48 := Try.func51.trans (congrArg some (by kernel_rfl))
  t0 := Try.underlying0
  a0 := Try.isAgg0
  z0 := Try.sizeOf0
  v0 := Try.zeroValue0
  t39 := Try.underlying69
  a39 := Try.isAgg69
  z39 := Try.sizeOf69
  v39 := Try.zeroValue69
  t55 := Try.underlying81
  a55 := Try.isAgg81
  z55 := Try.sizeOf81
  v55 := Try.zeroValue81
  t66 := Try.underlying82
  a66 := Try.isAgg82
  z66 := Try.sizeOf82
  v66 := Try.zeroValue82
  t76 := Try.underlying88
  a76 := Try.isAgg88
  z76 := Try.sizeOf88
  v76 := Try.zeroValue88 }
def Try.nptL_ren : Go.Shelf.Ren := ⟨fun | 47 => 50 | 15 => 37 | 28 => 47 | 29 => 48 | n => n, fun | 3 => 3 | 39 => 69 | 53 => 79 | 55 => 81 | 4 => 4 | 5 => 5 | 9 => 9 | n => n, fun | n => n⟩
theorem Try.nptL : Go.Proofs.SlLaysF0.n47 Try.prog Try.nptL_ren := {
  mixed := by kernel_rfl
  f15 := Try.func37.trans (congrArg some (by kernel_rfl))
  f28 := Try.func47.trans (congrArg some (by kernel_rfl))
  f29 := Try.func48.trans (congrArg some (by kernel_rfl))
  f47 := Try.func50.trans (congrArg some (by kernel_rfl))
  t3 := Try.underlying3
  a3 := Try.isAgg3
  z3 := Try.sizeOf3
  v3 := Try.zeroValue3
  t4 := Try.underlying4
  a4 := Try.isAgg4
  z4 := Try.sizeOf4
  v4 := Try.zeroValue4
  t5 := Try.underlying5
  a5 := Try.isAgg5
  z5 := Try.sizeOf5
  v5 := Try.zeroValue5
  t9 := Try.underlying9
  a9 := Try.isAgg9
  z9 := Try.sizeOf9
  v9 := Try.zeroValue9
  t39 := Try.underlying69
  a39 := Try.isAgg69
  z39 := Try.sizeOf69
  v39 := Try.zeroValue69
  t53 := Try.underlying79
  a53 := Try.isAgg79
  z53 := Try.sizeOf79
  v53 := Try.zeroValue79
  t55 := Try.underlying81
  a55 := Try.isAgg81
  z55 := Try.sizeOf81
  v55 := Try.zeroValue81 }
def Try.lenL_ren : Go.Shelf.Ren := ⟨fun | 15 => 37 | 28 => 47 | 29 => 48 | n => n, fun | 39 => 69 | 3 => 3 | 53 => 79 | 55 => 81 | 4 => 4 | 5 => 5 | 9 => 9 | n => n, fun | n => n⟩
theorem Try.lenL : Go.Proofs.SlLaysF0.n15 Try.prog Try.lenL_ren := {
  mixed := by kernel_rfl
  f15 := Try.func37.trans (congrArg some (by kernel_rfl))
  f28 := Try.func47.trans (congrArg some (by kernel_rfl))
  f29 := Try.func48.trans (congrArg some (by kernel_rfl))
  t3 := Try.underlying3
  a3 := Try.isAgg3
  z3 := Try.sizeOf3
  v3 := Try.zeroValue3
  t4 := Try.underlying4
  a4 := Try.isAgg4
  z4 := Try.sizeOf4
  v4 := Try.zeroValue4
  t5 := Try.underlying5
  a5 := Try.isAgg5
  z5 := Try.sizeOf5
  v5 := Try.zeroValue5
  t9 := Try.underlying9
  a9 := Try.isAgg9
  z9 := Try.sizeOf9
  v9 := Try.zeroValue9
  t39 := Try.underlying69
  a39 := Try.isAgg69
  z39 := Try.sizeOf69
  v39 := Try.zeroValue69
  t53 := Try.underlying79
  a53 := Try.isAgg79
  z53 := Try.sizeOf79
  v53 := Try.zeroValue79
  t55 := Try.underlying81
  a55 := Try.isAgg81
  z55 := Try.sizeOf81
  v55 := Try.zeroValue81 }
end Go.Proofs
