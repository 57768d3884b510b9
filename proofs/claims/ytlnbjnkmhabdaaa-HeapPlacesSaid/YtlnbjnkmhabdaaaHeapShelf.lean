/-
  The shelf's contract of slices.SortFunc, laid at entries (written by lay-plain.mjs).
-/
import Derived.Test.YtlnbjnkmhabdaaaHeapOrd
import Derived.Shelf.SlGeneric
import Derived.Shelf.SlSortCmp.NoneTotal
import Derived.Ground.SlsfProg
namespace Go.Proofs.Ytlnbjnkmhabdaaa.Hp
open Go.Shelf
def sortE_ren : Go.Shelf.Ren := ⟨fun | 6 => 37 | 15 => 44 | 14 => 43 | 28 => 53 | 29 => 54 | 20 => 45 | 21 => 46 | 22 => 47 | 23 => 48 | 24 => 49 | 25 => 50 | 26 => 51 | 27 => 52 | 46 => 55 | 47 => 56 | 48 => 57 | 49 => 58 | 50 => 59 | 57 => 60 | n => n, fun | 22 => 30 | 24 => 24 | 25 => 53 | 3 => 3 | 39 => 76 | 0 => 0 | 53 => 86 | 55 => 22 | 4 => 4 | 46 => 79 | 45 => 78 | 50 => 83 | 5 => 5 | 9 => 9 | 66 => 88 | 70 => 92 | 76 => 94 | 77 => 95 | n => n, fun | n => n⟩
theorem sortE : Go.Proofs.SlLaysF0.n6 Try.prog sortE_ren := {
  mixed := by kernel_rfl
  f6 := ⟨Try.f37.name, by decide, Try.func37.trans (congrArg some (by kernel_rfl))⟩
  f14 := ⟨Try.f43.name, by decide, Try.func43.trans (congrArg some (by kernel_rfl))⟩
  f15 := Try.func44.trans (congrArg some (by kernel_rfl))
  f20 := ⟨Try.f45.name, by decide, Try.func45.trans (congrArg some (by kernel_rfl))⟩
  f21 := ⟨Try.f46.name, by decide, Try.func46.trans (congrArg some (by kernel_rfl))⟩
  f22 := ⟨Try.f47.name, by decide, Try.func47.trans (congrArg some (by kernel_rfl))⟩
  f23 := ⟨Try.f48.name, by decide, Try.func48.trans (congrArg some (by kernel_rfl))⟩
  f24 := ⟨Try.f49.name, by decide, Try.func49.trans (congrArg some (by kernel_rfl))⟩
  f25 := ⟨Try.f50.name, by decide, Try.func50.trans (congrArg some (by kernel_rfl))⟩
  f26 := ⟨Try.f51.name, by decide, Try.func51.trans (congrArg some (by kernel_rfl))⟩
  f27 := ⟨Try.f52.name, by decide, Try.func52.trans (congrArg some (by kernel_rfl))⟩
  f28 := Try.func53.trans (congrArg some (by kernel_rfl))
  f29 := Try.func54.trans (congrArg some (by kernel_rfl))
  f46 := ⟨Try.f55.name, by decide, Try.func55.trans (congrArg some (by kernel_rfl))⟩
  f47 := Try.func56.trans (congrArg some (by kernel_rfl))
  f48 := Try.func57.trans (congrArg some (by kernel_rfl))
  f49 := ⟨Try.f58.name, by decide, Try.func58.trans (congrArg some (by kernel_rfl))⟩
  f50 := ⟨Try.f59.name, by decide, Try.func59.trans (congrArg some (by kernel_rfl))⟩
  f57 := ⟨Try.f60.name, by decide, Try.func60.trans (congrArg some (by kernel_rfl))⟩
  t0 := Try.underlying0
  a0 := Try.isAgg0
  z0 := Try.sizeOf0
  v0 := Try.zeroValue0
  t3 := Try.underlying3
  a3 := Try.isAgg3
  z3 := Try.sizeOf3
  v3 := Try.zeroValue3
  t4 := Try.underlying4
  a4 := Try.isAgg4
  z4 := Try.sizeOf4
  v4 := Try.zeroValue4
  t5 := Try.underlying5
  a5 := Try.isAgg5
  z5 := Try.sizeOf5
  v5 := Try.zeroValue5
  t9 := Try.underlying9
  a9 := Try.isAgg9
  z9 := Try.sizeOf9
  v9 := Try.zeroValue9
  t22 := Try.underlying30
  a22 := Try.isAgg30
  z22 := Try.sizeOf30
  v22 := Try.zeroValue30
  t25 := Try.underlying53
  a25 := Try.isAgg53
  z25 := Try.sizeOf53
  v25 := Try.zeroValue53
  t39 := Try.underlying76
  a39 := Try.isAgg76
  z39 := Try.sizeOf76
  v39 := Try.zeroValue76
  t45 := Try.underlying78
  a45 := Try.isAgg78
  z45 := Try.sizeOf78
  v45 := Try.zeroValue78
  t46 := Try.underlying79
  a46 := Try.isAgg79
  z46 := Try.sizeOf79
  v46 := Try.zeroValue79
  t50 := Try.underlying83
  a50 := Try.isAgg83
  z50 := Try.sizeOf83
  v50 := Try.zeroValue83
  t53 := Try.underlying86
  a53 := Try.isAgg86
  z53 := Try.sizeOf86
  v53 := Try.zeroValue86
  t55 := Try.underlying22
  a55 := Try.isAgg22
  z55 := Try.sizeOf22
  v55 := Try.zeroValue22
  t66 := Try.underlying88
  a66 := Try.isAgg88
  z66 := Try.sizeOf88
  v66 := Try.zeroValue88
  t70 := Try.underlying92
  a70 := Try.isAgg92
  z70 := Try.sizeOf92
  v70 := Try.zeroValue92
  t76 := Try.underlying94
  a76 := Try.isAgg94
  z76 := Try.sizeOf94
  v76 := Try.zeroValue94
  t77 := Try.underlying95
  a77 := Try.isAgg95
  z77 := Try.sizeOf95
  v77 := Try.zeroValue95 }
end Go.Proofs.Ytlnbjnkmhabdaaa.Hp
