/-
  The timer laws' example.
-/
import Derived.Test.YtmaahidipbghfaaTimerTms
namespace Go.Proofs.Ytmaahidipbghfaa.Tm
open Go.RowKit
open Go.Proofs.Ytmaahidipbghfaa.Hp
open Go.Proofs.Ytmaahidipbghfaa.MapI
set_option linter.unusedVariables false

theorem below_fresh {w w1 : World} (hg : w.grownBy w1 none) : Below w.heap.size w w1 := ⟨hg.os, hg.tape, hg.output, hg.size, fun k hk => hg.block k hk (by simp)⟩
theorem below_more {w w1 w2 : World} {B : Nat} (h : Below B w w1) (hg : w1.grownBy w2 none) (hB : B ≤ w1.heap.size) : Below B w w2 := h.trans ⟨hg.os, hg.tape, hg.output, hg.size, fun k hk => hg.block k (by omega) (by simp)⟩

set_option maxRecDepth 100000 in
set_option maxHeartbeats 2000000 in
theorem lives_is (w : World) : Calls Try.prog 7 #[] w fun e w' => e = .returned (.bool true) ∧ Below w.heap.size w w' := by
  go_enter Try.func7, Try.ntmps7
  go_wp2_with fail
  refine (tms_new w 2 2 rfl).mono ?_
  rintro e w1 ⟨tb, rfl, T, hg⟩
  have T1 := Lib.hid (And.intro T (below_fresh hg))
  clear T hg
  go_wp2_with fail
  refine (tms_add_ok T1.out.1 T1.out.2.size 0 7 5 (by decide) (by decide) (by decide) (by decide) (by simp) (by decide)).mono ?_
  rintro e w2 ⟨rfl, T, hk⟩
  have T2 := Lib.hid (And.intro T (T1.out.2.trans hk.below))
  clear T hk
  go_wp2_with fail
  refine (tms_add_ok T2.out.1 T2.out.2.size 1 8 3 (by decide) (by decide) (by decide) (by decide) (by simp) (by decide)).mono ?_
  rintro e w3 ⟨rfl, T, hk⟩
  have T3 := Lib.hid (And.intro T (T2.out.2.trans hk.below))
  have HM : Hid (IsMin ([] ++ [(⟨5, 0, 7⟩ : Ent)] ++ [⟨3, 1, 8⟩]) (some ⟨3, 1, 8⟩)) := Lib.hid ⟨by simp, fun x hx => by
    simp at hx
    rcases hx with rfl | rfl <;> rw [le_iff] <;> decide⟩
  clear T hk
  go_wp2_with fail
  refine (tms_next_yes T3.out.1 HM.out).mono ?_
  rintro e w4 ⟨rfl, hg⟩
  have T4 := Lib.hid (And.intro (T3.out.1.grown hg) (below_more T3.out.2 hg T3.out.2.size))
  clear hg
  go_wp2_with fail
  refine (tms_take_yes T4.out.1 T4.out.2.size HM.out 4 (by decide)).mono ?_
  rintro e w5 ⟨rfl, T, hk⟩
  have T5 := Lib.hid (And.intro T (T4.out.2.trans hk.below))
  clear T hk
  go_wp2_with fail
  have HM5 : Hid (IsMin (List.erase ([] ++ [(⟨5, 0, 7⟩ : Ent)] ++ [(⟨3, 1, 8⟩ : Ent)]) (⟨3, 1, 8⟩ : Ent)) (some ⟨5, 0, 7⟩)) := Lib.hid ⟨by decide, fun x hx => by
    have : x ∈ [(⟨5, 0, 7⟩ : Ent)] := hx
    simp at this
    subst this; exact le_refl _⟩
  refine (tms_take_no (T5.out.1.grown (World.grownBy_alloc _ _ _)) HM5.out 4 (by simp [dueB])).mono ?_
  rintro e w6 ⟨rfl, hg⟩
  have hb := hg.block w5.heap.size (by simp) (by simp)
  rw [heap_alloc_new] at hb
  have c2 : w6.cell? ⟨w5.heap.size, 2, none⟩ = some (.int .i64 8) := cell_of_row _ _ 2 _ _ _ hb
  have hlt : w5.heap.size < w6.heap.size := (Array.getElem?_eq_some_iff.1 hb).1
  have HB := Lib.hid (below_more (below_more T5.out.2 (World.grownBy_alloc _ _ _) T5.out.2.size) hg (by have := T5.out.2.size; simp; omega))
  clear hb hg
  go_wp2_with fail
  go_ret
  exact ⟨rfl, HB.out.alloc HB.out.size _⟩
end Go.Proofs.Ytmaahidipbghfaa.Tm
