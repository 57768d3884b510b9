/-
  heap.order leaves the world with new blocks and draws alone: what slices.SortFunc's contract asks of it.
-/
import Derived.Test.YtmaahidipbghfaaHeapEnt
import Derived.Shelf.SlSortCmp.WholeK
namespace Go.Proofs.Ytmaahidipbghfaa.Hp
open Go.RowKit Go.Sort Go.Shelf
set_option linter.unusedVariables false

def Grown (w w' : World) : Prop := ∃ q os, w' = Go.Sort.grow (w.drewN q) os
theorem Grown.refl (w : World) : Grown w w := ⟨0, #[], by simp [Go.Sort.grow, World.drewN]⟩
theorem Grown.alloc {w w' : World} (h : Grown w w') (o : Obj) : Grown w (w'.alloc o) := by
  obtain ⟨q, os, rfl⟩ := h
  exact ⟨q, os ++ #[o], by rw [alloc_eq_grow, grow_grow]⟩
theorem Grown.drew {w w' : World} (h : Grown w w') : Grown w w'.drew := by
  obtain ⟨q, os, rfl⟩ := h
  exact ⟨q + 1, os, rfl⟩
theorem Grown.eq {w w' w'' : World} (h : Grown w w') (e : w' = w'') : Grown w w'' := e ▸ h

set_option maxRecDepth 100000 in
set_option maxHeartbeats 1000000 in
theorem order_grown (a b : Ent) (w : World) : Calls Try.prog 35 #[a.agg, b.agg] w fun e w' => e = .returned (.int .i64 (ordI a b)) ∧ Grown w w' := by
  obtain ⟨h1, h2⟩ := cells_two w a.cells b.cells 30 30
  have a0 := h1 0; have a1 := h1 1; have a2 := h1 2
  have b0 := h2 0; have b1 := h2 1; have b2 := h2 2
  simp only [List.getElem?_toArray, List.getElem?_cons_zero, List.getElem?_cons_succ] at a0 a1 a2 b0 b1 b2
  clear h1 h2
  have HB : Hid (Grown w ((w.alloc (.cells #[.int .i64 a.w, .int .u64 a.o, .int .i64 a.g] 30)).alloc (.cells #[.int .i64 b.w, .int .u64 b.o, .int .i64 b.g] 30))) := Lib.hid (((Grown.refl w).alloc _).alloc _)
  go_enter Try.func35, Try.ntmps35
  go_wp2
  generalize ((w.alloc (.cells #[.int .i64 a.w, .int .u64 a.o, .int .i64 a.g] 30)).alloc (.cells #[.int .i64 b.w, .int .u64 b.o, .int .i64 b.g] 30)) = W at *
  refine wp_region_still_tail 15 (by kernel_rfl) (by kernel_rfl) ?_
  simp only [List.take_succ_cons, List.take_zero, List.drop_succ_cons, List.drop_zero]
  change wpStill _ _ W.drew _ _ _
  repeat still_step
  still_call (cmp_i64 _ _ _)
  repeat still_step
  still_call (cmp_u64 _ _ _)
  repeat still_step
  still_call (cmp_int _ _ _)
  refine wpStill_nil ?_
  go_wp2_with fail
  have hn : (W.alloc (.cells #[.int .i64 (cmp3 a.w b.w), .int .i64 (cmp3 a.o b.o), .int .i64 (cmp3 a.g b.g)] 3)).drew.heap[W.heap.size]? = some (.cells #[.int .i64 (cmp3 a.w b.w), .int .i64 (cmp3 a.o b.o), .int .i64 (cmp3 a.g b.g)] 3 (0, 0)) := heap_alloc_new _ _
  have d0 := cell_of_row _ _ 0 _ _ _ hn
  have d1 := cell_of_row _ _ 1 _ _ _ hn
  have d2 := cell_of_row _ _ 2 _ _ _ hn
  simp only [List.getElem?_toArray, List.getElem?_cons_zero, List.getElem?_cons_succ] at d0 d1 d2
  clear hn
  refine (or_is _ W.heap.size _ _ _ d0 d1 d2).mono ?_
  rintro e w' ⟨rfl, rfl⟩
  go_wp2_with fail
  go_ret
  exact ⟨rfl, (HB.out.alloc _).drew⟩
end Go.Proofs.Ytmaahidipbghfaa.Hp
