/-
  The shelf's contracts of math/bits.Len, slices.nextPowerOfTwo and xorshift.Next, laid here (written by lay-plain.mjs).
-/
import Derived.Test.YtefpbfdbpckcmaaSoBase
import Derived.Shelf.SlGeneric
import Derived.Shelf.SlSortCmp.Xorshift
import Derived.Ground.SlsfProg
namespace Go.Proofs.Ytefpbfdbpckcmaa.So
open Go.Shelf
def bitsL_ren : Go.Shelf.Ren := ⟨fun | 15 => 37 | 28 => 47 | 29 => 48 | n => n, fun | 39 => 79 | 3 => 3 | 53 => 89 | 55 => 23 | 4 => 4 | 5 => 5 | 9 => 9 | n => n, fun | n => n⟩
theorem bitsL : Go.Proofs.SlLaysF0.n15 Try.prog bitsL_ren := {
  mixed := by kernel_rfl
  f15 := Try.func37.trans (congrArg some (by kernel_rfl))
  f28 := Try.func47.trans (congrArg some (by kernel_rfl))
  f29 := Try.func48.trans (congrArg some (by kernel_rfl))
  t3 := Try.underlying3
  a3 := Try.isAgg3
  z3 := Try.sizeOf3
  v3 := Try.zeroValue3
  t4 := Try.underlying4
  a4 := Try.isAgg4
  z4 := Try.sizeOf4
  v4 := Try.zeroValue4
  t5 := Try.underlying5
  a5 := Try.isAgg5
  z5 := Try.sizeOf5
  v5 := Try.zeroValue5
  t9 := Try.underlying9
  a9 := Try.isAgg9
  z9 := Try.sizeOf9
  v9 := Try.zeroValue9
  t39 := Try.underlying79
  a39 := Try.isAgg79
  z39 := Try.sizeOf79
  v39 := Try.zeroValue79
  t53 := Try.underlying89
  a53 := Try.isAgg89
  z53 := Try.sizeOf89
  v53 := Try.zeroValue89
  t55 := Try.underlying23
  a55 := Try.isAgg23
  z55 := Try.sizeOf23
  v55 := Try.zeroValue23 }
def powL_ren : Go.Shelf.Ren := ⟨fun | 47 => 50 | 15 => 37 | 28 => 47 | 29 => 48 | n => n, fun | 3 => 3 | 39 => 79 | 53 => 89 | 55 => 23 | 4 => 4 | 5 => 5 | 9 => 9 | n => n, fun | n => n⟩
theorem powL : Go.Proofs.SlLaysF0.n47 Try.prog powL_ren := {
  mixed := by kernel_rfl
  f15 := Try.func37.trans (congrArg some (by kernel_rfl))
  f28 := Try.func47.trans (congrArg some (by kernel_rfl))
  f29 := Try.func48.trans (congrArg some (by kernel_rfl))
  f47 := Try.func50.trans (congrArg some (by kernel_rfl))
  t3 := Try.underlying3
  a3 := Try.isAgg3
  z3 := Try.sizeOf3
  v3 := Try.zeroValue3
  t4 := Try.underlying4
  a4 := Try.isAgg4
  z4 := Try.sizeOf4
  v4 := Try.zeroValue4
  t5 := Try.underlying5
  a5 := Try.isAgg5
  z5 := Try.sizeOf5
  v5 := Try.zeroValue5
  t9 := Try.underlying9
  a9 := Try.isAgg9
  z9 := Try.sizeOf9
  v9 := Try.zeroValue9
  t39 := Try.underlying79
  a39 := Try.isAgg79
  z39 := Try.sizeOf79
  v39 := Try.zeroValue79
  t53 := Try.underlying89
  a53 := Try.isAgg89
  z53 := Try.sizeOf89
  v53 := Try.zeroValue89
  t55 := Try.underlying23
  a55 := Try.isAgg23
  z55 := Try.sizeOf23
  v55 := Try.zeroValue23 }
def xorL_ren : Go.Shelf.Ren := ⟨fun | 48 => 51 | n => n, fun | 76 => 97 | 55 => 23 | 0 => 0 | 66 => 91 | 39 => 79 | n => n, fun | n => n⟩
theorem xorL : Go.Proofs.SlLaysF0.n48 Try.prog xorL_ren := {
  mixed := by kernel_rfl
  f48 := Try.func51.trans (congrArg some (by kernel_rfl))
  t0 := Try.underlying0
  a0 := Try.isAgg0
  z0 := Try.sizeOf0
  v0 := Try.zeroValue0
  t39 := Try.underlying79
  a39 := Try.isAgg79
  z39 := Try.sizeOf79
  v39 := Try.zeroValue79
  t55 := Try.underlying23
  a55 := Try.isAgg23
  z55 := Try.sizeOf23
  v55 := Try.zeroValue23
  t66 := Try.underlying91
  a66 := Try.isAgg91
  z66 := Try.sizeOf91
  v66 := Try.zeroValue91
  t76 := Try.underlying97
  a76 := Try.isAgg97
  z76 := Try.sizeOf97
  v76 := Try.zeroValue97 }
end Go.Proofs.Ytefpbfdbpckcmaa.So
