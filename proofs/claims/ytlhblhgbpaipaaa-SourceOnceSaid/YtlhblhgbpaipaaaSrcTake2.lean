/-
  Package source: Take, when nobody is due among the timers.
-/
import Derived.Test.YtlhblhgbpaipaaaSrcTake
namespace Go.Proofs.Ytlhblhgbpaipaaa.Src
open Go.RowKit
open Go.Proofs.Ytlhblhgbpaipaaa.Hp
open Go.Proofs.Ytlhblhgbpaipaaa.Tm (Tms Kept IsMin dueB)
open Go.Proofs.Ytlhblhgbpaipaaa.Pl (IsPl PFr St aput adel alook stOf dueL fullL)
set_option linter.unusedVariables false

section
variable {w : World} {base sb tb pb fb wb n : Nat} {now : Int} {M : List Ent} {order : Nat} {G : List Int} {F : List (Int × St)} {GP : List (Int × Int)} {X : Nat → Prop}
/-- What the poll's take must answer for the source's. -/
def TakeP (sb pb : Nat) (GP : List (Int × Int)) (C : Ending → World → Prop) (V : World) : Prop :=
  Calls Try.prog 36 #[.pointer (some ⟨pb, 0, none⟩)] V fun e V' => (∃ fd, e = .returned (.tuple #[.int .u16 fd, .int .i64 0, .bool false]) ∧ C (.returned (.tuple #[.int .i64 0, .bool false])) V') ∨
      ∃ fd g, ∃ GP' : List (Int × Int), e = .returned (.tuple #[.int .u16 fd, .int .i64 g, .bool true]) ∧ IntKind.i64.wrap ((GP.length : Int) - 1) = (GP'.length : Int) ∧ V'.cell? ⟨sb, 3, none⟩ = some (.int .i64 GP.length) ∧ V'.frozen? ⟨sb, 3, none⟩ = false ∧ C (.returned (.tuple #[.int .i64 g, .bool true])) (V'.setCell ⟨sb, 3, none⟩ (.int .i64 GP'.length))
set_option maxRecDepth 100000 in
set_option maxHeartbeats 2000000 in
/-- Nothing is due among the timers. -/
theorem stake_no_walk (h : IsS w base sb tb pb fb wb n now M order G F GP X) {m : Option Ent} (hm : IsMin M m) (hd : dueB m now = false) {C : Ending → World → Prop} (hc : ∀ V, w.grownBy V none → TakeP sb pb GP C V) :
    Calls Try.prog 17 #[.pointer (some ⟨sb, 0, none⟩)] w C := by
  have H := Lib.hid h
  have HM := Lib.hid (And.intro hm hd)
  have HC := Lib.hid hc
  have hne : sb ≠ w.heap.size := by have := h.lt; omega
  clear h hm hd hc
  go_enter Try.func17, Try.ntmps17
  go_wp2_with fail
  have hS : SlS sb tb w.drew := H.out.drew.c1
  have hSa : SlS sb tb (w.drew.alloc Bx) := sl_alloc hS _
  go_region_held3 (fun w' => w'.cell? ⟨sb, 1, none⟩ = some (.pointer (some ⟨tb, 0, none⟩)))
    (first | (with_reducible exact hS) | (with_reducible exact hSa) | exact sl_alloc hS _ | exact sl_set3 hS hne | exact sl_set3 (sl_alloc hS _) hne2)
    (first
      | (go_at_call 15; refine (snow_is H.out.drew).mono ?_; rintro e w1 ⟨rfl, rfl⟩)
      | (go_at_call 15; refine (snow_is (H.out.drew.grown (World.grownBy_alloc w.drew Bx none))).mono ?_; rintro e w1 ⟨rfl, rfl⟩)
      | (go_at_call 35; refine (Tm.tms_take_no H.out.drew.t HM.out.1 now HM.out.2).mono ?_; rintro e w2 ⟨rfl, hg⟩; (have hS : SlS sb tb w2 := (H.out.drew.grown hg).c1); (have hne2 : sb ≠ w2.heap.size := (by have := (H.out.drew.grown hg).lt; omega)); (have H2 : Hid (w.grownBy (w2.alloc (.cells #[.int .i64 0, .int .u64 0, .int .i64 0] 66)) none) := Lib.hid (Pl.grown_none (grown_drew hg) (World.grownBy_alloc _ _ _))); clear hg)
      | (go_at_call 35; refine (Tm.tms_take_no (H.out.drew.grown (World.grownBy_alloc w.drew Bx none)).t HM.out.1 now HM.out.2).mono ?_; rintro e w2 ⟨rfl, hg⟩; (have hS : SlS sb tb w2 := ((H.out.drew.grown (World.grownBy_alloc w.drew Bx none)).grown hg).c1); (have hb2 := (hg.block w.heap.size (by simp) (by simp)).trans (heap_alloc_new w.drew Bx)); (have z0 : w2.cell? ⟨w.heap.size, 0, none⟩ = some (.int .i64 0) := cell_of_row _ _ 0 _ _ _ hb2); (have z1 : w2.cell? ⟨w.heap.size, 1, none⟩ = some (.int .u64 0) := cell_of_row _ _ 1 _ _ _ hb2); (have z2 : w2.cell? ⟨w.heap.size, 2, none⟩ = some (.int .i64 0) := cell_of_row _ _ 2 _ _ _ hb2); (have fz : ∀ o, w2.frozen? ⟨w.heap.size, o, none⟩ = false := fun o => frozen_of_row _ _ o _ _ hb2); (have H2 : Hid (w.grownBy (((w2.setCell ⟨w.heap.size, 0, none⟩ (.int .i64 0)).setCell ⟨w.heap.size, 1, none⟩ (.int .u64 0)).setCell ⟨w.heap.size, 2, none⟩ (.int .i64 0)) none) := Lib.hid (Tm.box_grown (grown_drew (Pl.grown_none (World.grownBy_alloc w.drew Bx none) hg)))); clear hg hb2))
  all_goals (
    clear hS hSa
    first
      | (clear z0 z1 z2 fz; generalize (((w2.setCell ⟨w.heap.size, 0, none⟩ (.int .i64 0)).setCell ⟨w.heap.size, 1, none⟩ (.int .u64 0)).setCell ⟨w.heap.size, 2, none⟩ (.int .i64 0)) = V at *)
      | generalize w2.alloc (.cells #[.int .i64 0, .int .u64 0, .int .i64 0] 66) = V at *
    have c2 := (H.out.grown H2.out).c2
    have HT : Hid (TakeP sb pb GP C V) := Lib.hid (HC.out V H2.out)
    try clear hne2
    go_wp2_with fail
    refine Calls.mono HT.out ?_
    rintro e V' (⟨fd, rfl, hC1⟩ | ⟨fd, g, GP', rfl, hw, c3, fz3, hC1⟩)
    · have HC1 := Lib.hid hC1
      clear hC1 c2
      go_wp2_with fail
      exact HC1.out
    · have HC1 := Lib.hid hC1
      clear hC1 c2
      go_wp2_with fail
      exact HC1.out)

/-- Nobody is due. -/
theorem stake_none (h : IsS w base sb tb pb fb wb n now M order G F GP X) {m : Option Ent} (hm : IsMin M m) (hd : dueB m now = false) (hbig : F.length ≤ 2000) (hl : Pl.Least F none) :
    Calls Try.prog 17 #[.pointer (some ⟨sb, 0, none⟩)] w fun e w' => e = .returned (.tuple #[.int .i64 0, .bool false]) ∧ w.grownBy w' none := by
  refine stake_no_walk h hm hd fun V hg => ?_
  refine (Pl.ptake_none (h.grown hg).p hbig hl).mono ?_
  rintro e V' ⟨rfl, hg2⟩
  exact .inl ⟨0, rfl, rfl, Pl.grown_none hg hg2⟩
/-- One that waits is. -/
theorem stake_poll (h : IsS w base sb tb pb fb wb n now M order G F GP X) {m : Option Ent} (hm : IsMin M m) (hd : dueB m now = false) (hbig : F.length ≤ 2000) {fd g : Int} (hl : Pl.Least F (some (fd, g))) (hlen : GP.length = (adel GP g).length + 1) (hlt : GP.length < 1000000) :
    Calls Try.prog 17 #[.pointer (some ⟨sb, 0, none⟩)] w fun e w' => e = .returned (.tuple #[.int .i64 g, .bool true]) ∧ IsS w' base sb tb pb fb wb n now M order G (adel F fd) (adel GP g) X ∧ Kept w w' base X := by
  refine stake_no_walk h hm hd fun V hg => ?_
  have hV := h.grown hg
  refine (Pl.ptake_some hV.p hbig hl).mono ?_
  rintro e V' ⟨rfl, P, hk⟩
  refine .inr ⟨fd, g, adel GP g, rfl, by rw [IntKind.wrap_i64]; omega, (World.cell?_of_block (a := ⟨sb, 3, none⟩) (hk.block sb hV.lt hV.ne.2.1 hV.ne.2.2.1)).trans hV.c3, ?_, rfl, (hV.poll2 P hk).1, (kept_grown h hg).trans (hV.poll2 P hk).2⟩
  have := hV.free 3
  unfold World.frozen? at this ⊢
  rw [hk.block sb hV.lt hV.ne.2.1 hV.ne.2.2.1]; exact this
end
end Go.Proofs.Ytlhblhgbpaipaaa.Src
