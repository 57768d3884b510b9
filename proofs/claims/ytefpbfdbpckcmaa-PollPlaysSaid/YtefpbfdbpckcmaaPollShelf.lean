/-
  The shelf's contract of maps.Clone, laid at the poll's two maps (written by lay-plain.mjs).
-/
import Derived.Test.YtefpbfdbpckcmaaRows
import Derived.Shelf.SlGeneric
import Derived.Shelf.SlMaps.Clone
import Derived.Ground.SlmcProg
namespace Go.Proofs.Ytefpbfdbpckcmaa.Pl
open Go.Shelf
def clF_ren : Go.Shelf.Ren := ⟨fun | 5 => 29 | 7 => 34 | n => n, fun | 23 => 58 | 25 => 27 | 3 => 63 | 4 => 4 | 20 => 20 | n => n, fun | n => n⟩
theorem clF : Go.Proofs.SlLaysW.n5 Try.prog clF_ren := {
  mixed := by kernel_rfl
  f5 := ⟨Try.f29.name, by decide, Try.func29.trans (congrArg some (by kernel_rfl))⟩
  f7 := Try.func34.trans (congrArg some (by kernel_rfl))
  t4 := Try.underlying4
  a4 := Try.isAgg4
  z4 := Try.sizeOf4
  v4 := Try.zeroValue4
  t20 := Try.underlying20
  a20 := Try.isAgg20
  z20 := Try.sizeOf20
  v20 := Try.zeroValue20
  t23 := Try.underlying58
  a23 := Try.isAgg58
  z23 := Try.sizeOf58
  v23 := Try.zeroValue58 }
def clW_ren : Go.Shelf.Ren := ⟨fun | 5 => 30 | 7 => 34 | n => n, fun | 23 => 59 | 25 => 3 | 3 => 27 | 4 => 4 | 20 => 20 | n => n, fun | n => n⟩
theorem clW : Go.Proofs.SlLaysW.n5 Try.prog clW_ren := {
  mixed := by kernel_rfl
  f5 := ⟨Try.f30.name, by decide, Try.func30.trans (congrArg some (by kernel_rfl))⟩
  f7 := Try.func34.trans (congrArg some (by kernel_rfl))
  t4 := Try.underlying4
  a4 := Try.isAgg4
  z4 := Try.sizeOf4
  v4 := Try.zeroValue4
  t20 := Try.underlying20
  a20 := Try.isAgg20
  z20 := Try.sizeOf20
  v20 := Try.zeroValue20
  t23 := Try.underlying59
  a23 := Try.isAgg59
  z23 := Try.sizeOf59
  v23 := Try.zeroValue59 }
end Go.Proofs.Ytefpbfdbpckcmaa.Pl
