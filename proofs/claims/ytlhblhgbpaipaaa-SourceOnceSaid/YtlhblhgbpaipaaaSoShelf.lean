/-
  The shelf's contracts of math/bits.Len, slices.nextPowerOfTwo and xorshift.Next, laid here (written by lay-plain.mjs).
-/
import Derived.Test.YtlhblhgbpaipaaaSoBase
import Derived.Shelf.SlGeneric
import Derived.Shelf.SlSortCmp.Xorshift
import Derived.Ground.SlsfProg
namespace Go.Proofs.Ytlhblhgbpaipaaa.So
open Go.Shelf
def bitsL_ren : Go.Shelf.Ren := ⟨fun | 15 => 57 | 28 => 71 | 29 => 72 | n => n, fun | 39 => 106 | 3 => 3 | 53 => 120 | 55 => 64 | 4 => 4 | 5 => 5 | 9 => 9 | n => n, fun | n => n⟩
theorem bitsL : Go.Proofs.SlLaysF0.n15 Try.prog bitsL_ren := {
  mixed := by kernel_rfl
  f15 := Try.func57.trans (congrArg some (by kernel_rfl))
  f28 := Try.func71.trans (congrArg some (by kernel_rfl))
  f29 := Try.func72.trans (congrArg some (by kernel_rfl))
  t3 := Try.underlying3
  a3 := Try.isAgg3
  z3 := Try.sizeOf3
  v3 := Try.zeroValue3
  t4 := Try.underlying4
  a4 := Try.isAgg4
  z4 := Try.sizeOf4
  v4 := Try.zeroValue4
  t5 := Try.underlying5
  a5 := Try.isAgg5
  z5 := Try.sizeOf5
  v5 := Try.zeroValue5
  t9 := Try.underlying9
  a9 := Try.isAgg9
  z9 := Try.sizeOf9
  v9 := Try.zeroValue9
  t39 := Try.underlying106
  a39 := Try.isAgg106
  z39 := Try.sizeOf106
  v39 := Try.zeroValue106
  t53 := Try.underlying120
  a53 := Try.isAgg120
  z53 := Try.sizeOf120
  v53 := Try.zeroValue120
  t55 := Try.underlying64
  a55 := Try.isAgg64
  z55 := Try.sizeOf64
  v55 := Try.zeroValue64 }
def powL_ren : Go.Shelf.Ren := ⟨fun | 47 => 77 | 15 => 57 | 28 => 71 | 29 => 72 | n => n, fun | 3 => 3 | 39 => 106 | 53 => 120 | 55 => 64 | 4 => 4 | 5 => 5 | 9 => 9 | n => n, fun | n => n⟩
theorem powL : Go.Proofs.SlLaysF0.n47 Try.prog powL_ren := {
  mixed := by kernel_rfl
  f15 := Try.func57.trans (congrArg some (by kernel_rfl))
  f28 := Try.func71.trans (congrArg some (by kernel_rfl))
  f29 := Try.func72.trans (congrArg some (by kernel_rfl))
  f47 := Try.func77.trans (congrArg some (by kernel_rfl))
  t3 := Try.underlying3
  a3 := Try.isAgg3
  z3 := Try.sizeOf3
  v3 := Try.zeroValue3
  t4 := Try.underlying4
  a4 := Try.isAgg4
  z4 := Try.sizeOf4
  v4 := Try.zeroValue4
  t5 := Try.underlying5
  a5 := Try.isAgg5
  z5 := Try.sizeOf5
  v5 := Try.zeroValue5
  t9 := Try.underlying9
  a9 := Try.isAgg9
  z9 := Try.sizeOf9
  v9 := Try.zeroValue9
  t39 := Try.underlying106
  a39 := Try.isAgg106
  z39 := Try.sizeOf106
  v39 := Try.zeroValue106
  t53 := Try.underlying120
  a53 := Try.isAgg120
  z53 := Try.sizeOf120
  v53 := Try.zeroValue120
  t55 := Try.underlying64
  a55 := Try.isAgg64
  z55 := Try.sizeOf64
  v55 := Try.zeroValue64 }
def xorL_ren : Go.Shelf.Ren := ⟨fun | 48 => 78 | n => n, fun | 76 => 130 | 55 => 64 | 0 => 0 | 66 => 124 | 39 => 106 | n => n, fun | n => n⟩
theorem xorL : Go.Proofs.SlLaysF0.n48 Try.prog xorL_ren := {
  mixed := by kernel_rfl
  f48 := Try.func78.trans (congrArg some (by kernel_rfl))
  t0 := Try.underlying0
  a0 := Try.isAgg0
  z0 := Try.sizeOf0
  v0 := Try.zeroValue0
  t39 := Try.underlying106
  a39 := Try.isAgg106
  z39 := Try.sizeOf106
  v39 := Try.zeroValue106
  t55 := Try.underlying64
  a55 := Try.isAgg64
  z55 := Try.sizeOf64
  v55 := Try.zeroValue64
  t66 := Try.underlying124
  a66 := Try.isAgg124
  z66 := Try.sizeOf124
  v66 := Try.zeroValue124
  t76 := Try.underlying130
  a76 := Try.isAgg130
  z76 := Try.sizeOf130
  v76 := Try.zeroValue130 }
end Go.Proofs.Ytlhblhgbpaipaaa.So
