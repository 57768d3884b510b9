/-
  Package source: Take.
-/
import Derived.Test.YtlhblhgbpaipaaaSrcSleep
namespace Go.Proofs.Ytlhblhgbpaipaaa.Src
open Go.RowKit
open Go.Proofs.Ytlhblhgbpaipaaa.Hp
open Go.Proofs.Ytlhblhgbpaipaaa.Tm (Tms Kept IsMin dueB)
open Go.Proofs.Ytlhblhgbpaipaaa.Pl (IsPl PFr St aput adel alook stOf dueL fullL)
set_option linter.unusedVariables false

abbrev Bx : Obj := .cells #[.int .i64 0, .int .u64 0, .int .i64 0] 66
theorem sl_alloc {sb tb : Nat} {a : World} (h : SlS sb tb a) (o : Obj) : SlS sb tb (a.alloc o) := Lib.cell?_alloc_some _ h
theorem sl_set3 {sb tb B i j l : Nat} {x y z : Value} {a : World} (h : SlS sb tb a) (hne : sb ≠ B) : SlS sb tb (((a.setCell ⟨B, i, none⟩ x).setCell ⟨B, j, none⟩ y).setCell ⟨B, l, none⟩ z) :=
  (World.cell?_of_block (a := ⟨sb, 1, none⟩) (box_other hne)).trans h

section
variable {w : World} {base sb tb pb fb wb n : Nat} {now : Int} {M : List Ent} {order : Nat} {G : List Int} {F : List (Int × St)} {GP : List (Int × Int)} {X : Nat → Prop}
theorem IsS.more (h : IsS w base sb tb pb fb wb n now M order G F GP X) {w' : World} (hg : w.grownBy w' none) {X' : Nat → Prop} (hX : ∀ k, X' k → X k ∨ w.heap.size ≤ k ∧ k < w'.heap.size) : IsS w' base sb tb pb fb wb n now M order G F GP X' := by
  have h' := h.grown hg
  have hlt := h.lt
  have hpl := h.p.lt
  refine ⟨h'.cells, h.t.foreign hg (fun k hk => ?_), h'.p, h.ne, fun k hk => ?_, h'.low, h.now0⟩
  · rcases hk with hk | hk | hk | hk | hk
    · exact .inl (.inl hk)
    · exact .inl (.inr (.inl hk))
    · exact .inl (.inr (.inr (.inl hk)))
    · exact .inl (.inr (.inr (.inr (.inl hk))))
    · rcases hX k hk with q | q
      · exact .inl (.inr (.inr (.inr (.inr q))))
      · exact .inr q
  · rcases hX k hk with q | q
    · exact h.far k q
    · omega
theorem grown_refl (w : World) : w.grownBy w none := ⟨rfl, rfl, rfl, Nat.le_refl _, fun _ _ _ => rfl⟩
theorem IsS.less (h : IsS w base sb tb pb fb wb n now M order G F GP X) {X' : Nat → Prop} (hX : ∀ k, X' k → X k) : IsS w base sb tb pb fb wb n now M order G F GP X' :=
  h.more (grown_refl w) (fun k hk => .inl (hX k hk))
/-- The others' blocks may change. -/
theorem IsS.foreign (h : IsS w base sb tb pb fb wb n now M order G F GP X) {w' : World} (hch : ∀ k, k < w.heap.size → ¬ X k → w'.heap[k]? = w.heap[k]?) (hs : w.heap.size ≤ w'.heap.size) : IsS w' base sb tb pb fb wb n now M order G F GP X := by
  have hpl := h.p.lt
  have nx : ∀ k, (k = sb ∨ k = pb ∨ k = fb ∨ k = wb) → ¬ X k := fun k hk hx => by have := h.far k hx; omega
  exact ⟨(hch sb h.lt (nx sb (.inl rfl))).trans h.cells, tms_others h.t (fun k q1 q2 => hch k q1 (fun q => q2 (.inr (.inr (.inr (.inr q)))))) hs, h.p.kept (hch pb hpl.1 (nx pb (.inr (.inl rfl)))) (hch fb hpl.2.1 (nx fb (.inr (.inr (.inl rfl))))) (hch wb hpl.2.2 (nx wb (.inr (.inr (.inr rfl))))), h.ne, h.far, Nat.le_trans h.low hs, h.now0⟩
theorem kept_less {a b : World} {base : Nat} {X X' : Nat → Prop} (h : Kept a b base X) (hX : ∀ k, X' k → X k) : Kept a b base X' := ⟨h.below, fun k hk => h.far k (hX k hk)⟩
/-- A box of one's own is written. -/
theorem IsS.box (h : IsS w base sb tb pb fb wb n now M order G F GP X) {B i j l : Nat} {x y z : Value} (hB : X B) : IsS (((w.setCell ⟨B, i, none⟩ x).setCell ⟨B, j, none⟩ y).setCell ⟨B, l, none⟩ z) base sb tb pb fb wb n now M order G F GP X :=
  h.foreign (fun k _ hk => box_other (fun e => hk (e ▸ hB))) (by rw [box_size]; exact Nat.le_refl _)

/-- The box was made ahead of the take. -/
theorem early {w2 : World} {M' : List Ent} {G' : List Int} {a c d : Value} (h : IsS w base sb tb pb fb wb n now M order G F GP X) (h2 : IsS w2 base sb tb pb fb wb n now M' order G' F GP (fun k => X k ∨ k = w.drew.heap.size)) (hk : Kept (w.drew.alloc Bx) w2 base (fun k => X k ∨ k = w.drew.heap.size)) :
    IsS (((w2.setCell ⟨w.heap.size, 0, none⟩ a).setCell ⟨w.heap.size, 1, none⟩ c).setCell ⟨w.heap.size, 2, none⟩ d) base sb tb pb fb wb n now M' order G' F GP X ∧ Kept w (((w2.setCell ⟨w.heap.size, 0, none⟩ a).setCell ⟨w.heap.size, 1, none⟩ c).setCell ⟨w.heap.size, 2, none⟩ d) base X := by
  have hl := h.low
  refine ⟨(h2.box (B := w.heap.size) (.inr rfl)).less (fun k hk => .inl hk), ⟨⟨hk.below.os, hk.below.tape, hk.below.output, ?_, fun k q => ?_⟩, fun k q => ?_⟩⟩
  · have := hk.below.size; rw [box_size]; simp at this; omega
  · rw [box_other (by omega), hk.below.block k q]
    exact heap_alloc_old w.drew _ (show k < w.drew.heap.size from by show k < w.heap.size; omega)
  · have := h.xlt q
    rw [box_other (by omega), hk.far k (.inl q)]
    exact heap_alloc_old w.drew _ (show k < w.drew.heap.size from this)
/-- The box was made behind the take. -/
theorem late {w2 : World} {M' : List Ent} {G' : List Int} {o : Obj} (h : IsS w base sb tb pb fb wb n now M order G F GP X) (h2 : IsS w2 base sb tb pb fb wb n now M' order G' F GP X) (hk : Kept w.drew w2 base X) :
    IsS (w2.alloc o) base sb tb pb fb wb n now M' order G' F GP X ∧ Kept w (w2.alloc o) base X := by
  have hk' : Kept w w2 base X := ⟨⟨hk.below.os, hk.below.tape, hk.below.output, hk.below.size, hk.below.block⟩, hk.far⟩
  exact ⟨h2.grown (World.grownBy_alloc _ _ _), Kept.grown hk' (World.grownBy_alloc _ _ _) h.low (fun k q => h.xlt q)⟩

theorem take_yes_box (h : IsS w base sb tb pb fb wb n now M order G F GP X) {x : Ent} (hm : IsMin M (some x)) (hx : x.w ≤ now) :
    Calls Try.prog 35 #[.pointer (some ⟨tb, 0, none⟩), .int .i64 now] (w.alloc Bx) fun e w' => e = .returned (.tuple #[x.agg, .bool true]) ∧ IsS w' base sb tb pb fb wb n now (M.erase x) order (G.filter fun y => y ≠ x.g) F GP (fun k => X k ∨ k = w.heap.size) ∧ Kept (w.alloc Bx) w' base (fun k => X k ∨ k = w.heap.size) := by
  have h' : IsS (w.alloc Bx) base sb tb pb fb wb n now M order G F GP (fun k => X k ∨ k = w.heap.size) := h.more (World.grownBy_alloc _ _ _) (fun k hk => by rcases hk with q | q; exact .inl q; exact .inr (by simp; omega))
  refine (Tm.tms_take_yes h'.t h'.low hm now hx).mono ?_
  rintro e w2 ⟨rfl, T, hk⟩
  exact ⟨rfl, h'.timers T hk⟩

set_option maxRecDepth 100000 in
set_option maxHeartbeats 2000000 in
theorem stake_timer (h : IsS w base sb tb pb fb wb n now M order G F GP X) {x : Ent} (hm : IsMin M (some x)) (hx : x.w ≤ now) :
    Calls Try.prog 17 #[.pointer (some ⟨sb, 0, none⟩)] w fun e w' => e = .returned (.tuple #[.int .i64 x.g, .bool true]) ∧ IsS w' base sb tb pb fb wb n now (M.erase x) order (G.filter fun y => y ≠ x.g) F GP X ∧ Kept w w' base X := by
  have H := Lib.hid h
  have HM := Lib.hid (And.intro hm hx)
  have hne : sb ≠ w.heap.size := by have := h.lt; omega
  have hlow := Lib.hid h.low
  clear h hm hx
  go_enter Try.func17, Try.ntmps17
  go_wp2_with fail
  have hS : SlS sb tb w.drew := H.out.drew.c1
  have hSa : SlS sb tb (w.drew.alloc Bx) := sl_alloc hS _
  go_region_held3 (fun w' => w'.cell? ⟨sb, 1, none⟩ = some (.pointer (some ⟨tb, 0, none⟩)))
    (first | (with_reducible exact hS) | (with_reducible exact hSa) | exact sl_alloc hS _ | exact sl_set3 hS hne | exact sl_set3 (sl_alloc hS _) hne2)
    (first
      | (go_at_call 15; refine (snow_is H.out.drew).mono ?_; rintro e w1 ⟨rfl, rfl⟩)
      | (go_at_call 15; refine (snow_is (H.out.drew.grown (World.grownBy_alloc w.drew Bx none))).mono ?_; rintro e w1 ⟨rfl, rfl⟩)
      | (go_at_call 35; refine (Tm.tms_take_yes H.out.drew.t H.out.low HM.out.1 now HM.out.2).mono ?_; rintro e w2 ⟨rfl, T, hk⟩; (have hS : SlS sb tb w2 := (H.out.drew.timers T hk).1.c1); (have hne2 : sb ≠ w2.heap.size := (by have := (H.out.drew.timers T hk).1.lt; omega)); (have H2 : Hid (IsS (w2.alloc (.cells #[.int .i64 x.w, .int .u64 x.o, .int .i64 x.g] 66)) base sb tb pb fb wb n now (M.erase x) order (G.filter fun y => y ≠ x.g) F GP X ∧ Kept w (w2.alloc (.cells #[.int .i64 x.w, .int .u64 x.o, .int .i64 x.g] 66)) base X) := Lib.hid (late H.out (H.out.drew.timers T hk).1 (H.out.drew.timers T hk).2)); clear T hk)
      | (go_at_call 35; refine (take_yes_box H.out.drew HM.out.1 HM.out.2).mono ?_; rintro e w2 ⟨rfl, hi2, hk2⟩; (have hS : SlS sb tb w2 := hi2.c1); (have hb2 := (hk2.far w.heap.size (.inr rfl)).trans (heap_alloc_new w.drew Bx)); (have z0 : w2.cell? ⟨w.heap.size, 0, none⟩ = some (.int .i64 0) := cell_of_row _ _ 0 _ _ _ hb2); (have z1 : w2.cell? ⟨w.heap.size, 1, none⟩ = some (.int .u64 0) := cell_of_row _ _ 1 _ _ _ hb2); (have z2 : w2.cell? ⟨w.heap.size, 2, none⟩ = some (.int .i64 0) := cell_of_row _ _ 2 _ _ _ hb2); (have fz : ∀ o, w2.frozen? ⟨w.heap.size, o, none⟩ = false := fun o => frozen_of_row _ _ o _ _ hb2); (have H2 : Hid (IsS (((w2.setCell ⟨w.heap.size, 0, none⟩ (.int .i64 x.w)).setCell ⟨w.heap.size, 1, none⟩ (.int .u64 x.o)).setCell ⟨w.heap.size, 2, none⟩ (.int .i64 x.g)) base sb tb pb fb wb n now (M.erase x) order (G.filter fun y => y ≠ x.g) F GP X ∧ Kept w (((w2.setCell ⟨w.heap.size, 0, none⟩ (.int .i64 x.w)).setCell ⟨w.heap.size, 1, none⟩ (.int .u64 x.o)).setCell ⟨w.heap.size, 2, none⟩ (.int .i64 x.g)) base X) := Lib.hid (early H.out hi2 hk2)); clear hi2 hk2 hb2))
  all_goals (
    go_wp2_with fail
    go_ret2
    exact ⟨rfl, H2.out⟩)
end
end Go.Proofs.Ytlhblhgbpaipaaa.Src
