/-
  A map of ints that counts each number once.
-/
import Derived.Test.YtmaahidipbghfaaMapI
namespace Go.Proofs.Ytmaahidipbghfaa.Ones
open Go.RowKit
open Go.Proofs.Ytmaahidipbghfaa.MapI
set_option linter.unusedVariables false

/-- The numbers, each seen once, as they came. -/
def ones (l : List Int) : List (Int × Value) := l.map fun g => (g, Value.int .i64 1)
theorem ones_keys (l : List Int) : (ones l).map (·.1) = l := by simp [ones, Function.comp_def]
theorem ones_len (l : List Int) : (ones l).length = l.length := by simp [ones]
theorem look_ones {l : List Int} {g : Int} (hn : l.Nodup) (h : g ∈ l) : MapI.look (ones l) g = some (.int .i64 1) :=
  MapI.look_mem (by rw [ones_keys]; exact hn) (List.mem_map.2 ⟨g, h, rfl⟩)
theorem look_ones_not {l : List Int} {g : Int} (h : g ∉ l) : MapI.look (ones l) g = none := by
  unfold MapI.look
  rw [List.find?_eq_none.2]
  · rfl
  · intro p hp; simp; rintro rfl; exact h (by rw [← ones_keys l]; exact List.mem_map.2 ⟨p, hp, rfl⟩)
theorem put_ones {l : List Int} {g : Int} (h : g ∉ l) : MapI.put (ones l) g (.int .i64 1) = ones (l ++ [g]) := by
  unfold MapI.put
  rw [if_neg (by rw [ones_keys]; exact h)]
  simp [ones]
theorem zeroI (w : World) : (zeroValue 3).run Try.prog w = .ok (.int .i64 0) w := by kernel_rfl
end Go.Proofs.Ytmaahidipbghfaa.Ones
