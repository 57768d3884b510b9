/-
  Package source: a source behind a pointer; New, Now, Due, told, Len, Next, Out.
-/
import Derived.Test.YtlhblhgbpaipaaaGreatTimerTms
import Derived.Test.YtlhblhgbpaipaaaGreatMgPoll3
import Derived.Test.YtlhblhgbpaipaaaGreatMgSrc
import Derived.Test.YtlhblhgbpaipaaaGreatMgTim5
import Derived.Deep.RegionHeld3
namespace Go.Proofs.YtlhblhgbpaipaaaGreat.Src
open Go.RowKit
open Go.Proofs.YtlhblhgbpaipaaaGreat.Hp
open Go.Proofs.YtlhblhgbpaipaaaGreat.Tm (Tms Kept IsMin dueB)
open Go.Proofs.YtlhblhgbpaipaaaGreat.Pl (IsPl PFr St aput adel alook stOf dueL fullL)
set_option linter.unusedVariables false

abbrev TSRC : TypeId := 68
/-- The blocks that are not the timers'. -/
def Fs (sb pb fb wb : Nat) (X : Nat → Prop) : Nat → Prop := fun k => k = sb ∨ k = pb ∨ k = fb ∨ k = wb ∨ X k
/-- A source behind a pointer: the time, the timers, the poll, how many wait; X are others' blocks. -/
structure IsS (w : World) (base sb tb pb fb wb n : Nat) (now : Int) (M : List Ent) (order : Nat) (G : List Int) (F : List (Int × St)) (GP : List (Int × Int)) (X : Nat → Prop) : Prop where
  cells : w.heap[sb]? = some (.cells #[.int .i64 now, .pointer (some ⟨tb, 0, none⟩), .pointer (some ⟨pb, 0, none⟩), .int .i64 GP.length] TSRC (0, 0))
  t : Tms w base tb n M order G (Fs sb pb fb wb X)
  p : IsPl w base pb fb wb F GP
  ne : sb ≠ pb ∧ sb ≠ fb ∧ sb ≠ wb ∧ base ≤ sb
  far : ∀ k, X k → k ≠ sb ∧ k ≠ pb ∧ k ≠ fb ∧ k ≠ wb
  low : base ≤ w.heap.size
  now0 : 0 ≤ now ∧ now ≤ 9223372036854775807

section
variable {w : World} {base sb tb pb fb wb n : Nat} {now : Int} {M : List Ent} {order : Nat} {G : List Int} {F : List (Int × St)} {GP : List (Int × Int)} {X : Nat → Prop}
theorem IsS.lt (h : IsS w base sb tb pb fb wb n now M order G F GP X) : sb < w.heap.size := (Array.getElem?_eq_some_iff.1 h.cells).1
theorem IsS.c0 (h : IsS w base sb tb pb fb wb n now M order G F GP X) : w.cell? ⟨sb, 0, none⟩ = some (.int .i64 now) := cell_of_row _ _ 0 _ _ _ h.cells
theorem IsS.c1 (h : IsS w base sb tb pb fb wb n now M order G F GP X) : w.cell? ⟨sb, 1, none⟩ = some (.pointer (some ⟨tb, 0, none⟩)) := cell_of_row _ _ 1 _ _ _ h.cells
theorem IsS.c2 (h : IsS w base sb tb pb fb wb n now M order G F GP X) : w.cell? ⟨sb, 2, none⟩ = some (.pointer (some ⟨pb, 0, none⟩)) := cell_of_row _ _ 2 _ _ _ h.cells
theorem IsS.c3 (h : IsS w base sb tb pb fb wb n now M order G F GP X) : w.cell? ⟨sb, 3, none⟩ = some (.int .i64 GP.length) := cell_of_row _ _ 3 _ _ _ h.cells
theorem IsS.free (h : IsS w base sb tb pb fb wb n now M order G F GP X) (i : Nat) : w.frozen? ⟨sb, i, none⟩ = false := frozen_of_row _ _ i _ _ h.cells
theorem IsS.grown {w' : World} (h : IsS w base sb tb pb fb wb n now M order G F GP X) (hg : w.grownBy w' none) : IsS w' base sb tb pb fb wb n now M order G F GP X :=
  ⟨(hg.block sb h.lt (by simp)).trans h.cells, h.t.grown hg, h.p.grown hg, h.ne, h.far, Nat.le_trans h.low hg.size, h.now0⟩
theorem IsS.xlt (h : IsS w base sb tb pb fb wb n now M order G F GP X) {k : Nat} (hk : X k) : k < w.heap.size := by
  obtain ⟨_, _, _, _, _, _, _, f⟩ := h.t
  exact (f k (.inr (.inr (.inr (.inr hk))))).1
theorem IsS.tne (h : IsS w base sb tb pb fb wb n now M order G F GP X) : tb ≠ sb := by
  obtain ⟨_, _, _, _, _, _, _, f⟩ := h.t
  exact Ne.symm (f sb (.inl rfl)).2.1
/-- Blocks that are not the timers' may change. -/
theorem tms_others {FF : Nat → Prop} {w' : World} (T : Tms w base tb n M order G FF) (h : ∀ k, k < w.heap.size → ¬ FF k → w'.heap[k]? = w.heap[k]?) (hs : w.heap.size ≤ w'.heap.size) : Tms w' base tb n M order G FF := by
  obtain ⟨lb, hb, vs, Hs, h1, e, p, f⟩ := T
  have nt : ¬ FF tb := fun q => (f tb q).2.1 rfl
  have nl : ¬ FF lb := fun q => (f lb q).2.2.1 rfl
  have nh : ¬ FF hb := fun q => (f hb q).2.2.2.1 rfl
  refine ⟨lb, hb, vs, Hs, ⟨⟨(h tb h1.tlt nt).trans h1.tcells, (h lb h1.llt nl).trans h1.lcells, h1.len, h1.pos, h1.top, fun i v es e1 e2 => (h1.heaps i v es e1 e2).heap (h lb h1.llt nl) (fun g hg => h g (h1.own (List.mem_of_getElem? e1) hg).1 (fun e3 => (f g e3).2.2.2.2 v (List.mem_of_getElem? e1) hg)), h1.apart, h1.map.heap (h hb h1.map.lt nh), h1.low⟩, h1.heapish, h1.keys, h1.range, h1.ord⟩, e, p, fun k hk => ⟨Nat.lt_of_lt_of_le (f k hk).1 hs, (f k hk).2⟩⟩
theorem kept_grown (h : IsS w base sb tb pb fb wb n now M order G F GP X) {w' : World} (hg : w.grownBy w' none) : Kept w w' base X :=
  ⟨⟨hg.os, hg.tape, hg.output, hg.size, fun k hk => hg.block k (by have := h.low; omega) (by simp)⟩, fun k hk => hg.block k (h.xlt hk) (by simp)⟩
/-- The timers have changed. -/
theorem IsS.timers (h : IsS w base sb tb pb fb wb n now M order G F GP X) {w' : World} {M' : List Ent} {order' : Nat} {G' : List Int} (T : Tms w' base tb n M' order' G' (Fs sb pb fb wb X)) (hk : Kept w w' base (Fs sb pb fb wb X)) : IsS w' base sb tb pb fb wb n now M' order' G' F GP X ∧ Kept w w' base X :=
  ⟨⟨(hk.far sb (.inl rfl)).trans h.cells, T, h.p.kept (hk.far pb (.inr (.inl rfl))) (hk.far fb (.inr (.inr (.inl rfl)))) (hk.far wb (.inr (.inr (.inr (.inl rfl))))), h.ne, h.far, Nat.le_trans h.low hk.below.size, h.now0⟩, ⟨hk.below, fun k q => hk.far k (.inr (.inr (.inr (.inr q))))⟩⟩
/-- The poll has changed, and as many wait. -/
theorem IsS.poll (h : IsS w base sb tb pb fb wb n now M order G F GP X) {w' : World} {F' : List (Int × St)} {GP' : List (Int × Int)} (P : IsPl w' base pb fb wb F' GP') (hk : PFr w w' fb wb) (hl : GP'.length = GP.length) : IsS w' base sb tb pb fb wb n now M order G F' GP' X ∧ Kept w w' base X := by
  have hlo := h.p.low
  refine ⟨⟨?_, tms_others h.t (fun k q1 q2 => hk.block k q1 (fun e => q2 (.inr (.inr (.inl e)))) (fun e => q2 (.inr (.inr (.inr (.inl e)))))) hk.size, P, h.ne, h.far, Nat.le_trans h.low hk.size, h.now0⟩, ⟨hk.below hlo.2.1 hlo.2.2 h.low, fun k q => hk.block k (h.xlt q) (h.far k q).2.2.1 (h.far k q).2.2.2⟩⟩
  rw [hk.block sb h.lt h.ne.2.1 h.ne.2.2.1, hl]; exact h.cells
/-- The poll has changed, and one more waits, or one fewer. -/
theorem IsS.poll2 (h : IsS w base sb tb pb fb wb n now M order G F GP X) {w' : World} {F' : List (Int × St)} {GP' : List (Int × Int)} (P : IsPl w' base pb fb wb F' GP') (hk : PFr w w' fb wb) :
    IsS (w'.setCell ⟨sb, 3, none⟩ (.int .i64 GP'.length)) base sb tb pb fb wb n now M order G F' GP' X ∧ Kept w (w'.setCell ⟨sb, 3, none⟩ (.int .i64 GP'.length)) base X := by
  have hlo := h.p.low
  obtain ⟨n1, n2, n3, n4⟩ := h.ne
  have hc : w'.heap[sb]? = some (.cells #[.int .i64 now, .pointer (some ⟨tb, 0, none⟩), .pointer (some ⟨pb, 0, none⟩), .int .i64 GP.length] TSRC (0, 0)) := (hk.block sb h.lt n2 n3).trans h.cells
  have ho : ∀ k, k ≠ sb → (w'.setCell ⟨sb, 3, none⟩ (.int .i64 GP'.length)).heap[k]? = w'.heap[k]? := fun k q => heap_setCell_other _ _ _ _ q
  have hb := hk.below hlo.2.1 hlo.2.2 h.low
  refine ⟨⟨heap_setCell_same _ sb 3 _ _ _ hc, tms_others h.t (fun k q1 q2 => (ho k (fun e => q2 (.inl e))).trans (hk.block k q1 (fun e => q2 (.inr (.inr (.inl e)))) (fun e => q2 (.inr (.inr (.inr (.inl e))))))) (by simpa using hk.size), P.kept (ho pb (Ne.symm n1)) (ho fb (Ne.symm n2)) (ho wb (Ne.symm n3)), h.ne, h.far, by simpa using Nat.le_trans h.low hk.size, h.now0⟩, ⟨⟨hb.os, hb.tape, hb.output, by simpa using hb.size, fun k q => (ho k (by omega)).trans (hb.block k q)⟩, fun k q => (ho k (h.far k q).1).trans (hk.block k (h.xlt q) (h.far k q).2.2.1 (h.far k q).2.2.2)⟩⟩
/-- The time has changed. -/
theorem IsS.time (h : IsS w base sb tb pb fb wb n now M order G F GP X) {t : Int} (ht : 0 ≤ t ∧ t ≤ 9223372036854775807) :
    IsS (w.setCell ⟨sb, 0, none⟩ (.int .i64 t)) base sb tb pb fb wb n t M order G F GP X ∧ Kept w (w.setCell ⟨sb, 0, none⟩ (.int .i64 t)) base X := by
  obtain ⟨n1, n2, n3, n4⟩ := h.ne
  have ho : ∀ k, k ≠ sb → (w.setCell ⟨sb, 0, none⟩ (.int .i64 t)).heap[k]? = w.heap[k]? := fun k q => heap_setCell_other _ _ _ _ q
  refine ⟨⟨heap_setCell_same _ sb 0 _ _ _ h.cells, tms_others h.t (fun k q1 q2 => ho k (fun e => q2 (.inl e))) (by simp), h.p.kept (ho pb (Ne.symm n1)) (ho fb (Ne.symm n2)) (ho wb (Ne.symm n3)), h.ne, h.far, by simpa using h.low, ht⟩, ⟨⟨rfl, rfl, rfl, by simp, fun k q => ho k (by omega)⟩, fun k q => ho k (h.far k q).1⟩⟩

set_option maxRecDepth 100000 in
set_option maxHeartbeats 1000000 in
theorem snew_is (w : World) (q : Int) (n : Nat) (hn : (n : Int) = if q < 1 then 1 else if 64 < q then 64 else q) :
    Calls Tryz.prog 5 #[.int .i64 q] w fun e w' => ∃ sb tb pb fb wb, e = .returned (.pointer (some ⟨sb, 0, none⟩)) ∧ IsS w' w.heap.size sb tb pb fb wb n 0 [] 0 [] [] [] (fun _ => False) ∧ w.grownBy w' none := by
  have HN := Lib.hid hn
  clear hn
  go_enter Tryz.func5, Tryz.ntmps5
  go_wp2_with fail
  refine (Tm.tms_new w q n HN.out).mono ?_
  rintro e w1 ⟨tb, rfl, T, hg⟩
  have T1 := Lib.hid (And.intro T hg)
  clear T hg
  go_wp2_with fail
  refine (Pl.pnew_is w1 w1.heap.size (Nat.le_refl _)).mono ?_
  rintro e w2 ⟨pb, fb, wb, rfl, P, hg, h1, h2, h3⟩
  have P1 := Lib.hid (And.intro P (And.intro hg (And.intro h1 (And.intro h2 h3))))
  clear P hg h1 h2 h3
  go_wp2_with fail
  go_ret
  have hal := World.grownBy_alloc w2 (.cells #[.int .i64 0, .pointer (some ⟨tb, 0, none⟩), .pointer (some ⟨pb, 0, none⟩), .int .i64 0] TSRC) none
  have s1 := T1.out.2.size
  have hlt := P1.out.1.lt
  have hlo := P1.out.1.low
  have hs2 := P1.out.2.1.size
  have hg12 : w1.grownBy (w2.alloc (.cells #[.int .i64 0, .pointer (some ⟨tb, 0, none⟩), .pointer (some ⟨pb, 0, none⟩), .int .i64 0] TSRC)) none := Pl.grown_none P1.out.2.1 hal
  have hsz := World.size_alloc w2 (.cells #[.int .i64 0, .pointer (some ⟨tb, 0, none⟩), .pointer (some ⟨pb, 0, none⟩), .int .i64 0] TSRC)
  have hP := P1.out.1.grown hal
  refine ⟨w2.heap.size, tb, pb, fb, wb, rfl, ⟨heap_alloc_new _ _, T1.out.1.foreign hg12 (fun k hk => .inr ?_), ⟨hP.cells, hP.fds, hP.who, hP.apart, by omega, by omega, by omega⟩, by omega, fun k hk => hk.elim, by simp; omega, by decide⟩, Pl.grown_none T1.out.2 hg12⟩
  rcases hk with rfl | rfl | rfl | rfl | hk
  · simp; omega
  · simp; omega
  · simp; omega
  · simp; omega
  · exact hk.elim

theorem snow_is (h : IsS w base sb tb pb fb wb n now M order G F GP X) : Calls Tryz.prog 8 #[.pointer (some ⟨sb, 0, none⟩)] w fun e w' => e = .returned (.int .i64 now) ∧ w = w' := by
  have c0 := h.c0
  clear h
  go_enter Tryz.func8, Tryz.ntmps8
  go_wp2_with (go_at_call 30; refine (Clk.now_any ⟨sb, 0, none⟩ now _ c0).mono ?_; rintro e w' ⟨rfl, rfl⟩)
  go_ret
  exact ⟨rfl, rfl⟩

set_option maxHeartbeats 1000000 in
theorem slen_is (h : IsS w base sb tb pb fb wb n now M order G F GP X) (hb : G.length + GP.length < 1000000) : Calls Tryz.prog 11 #[.pointer (some ⟨sb, 0, none⟩)] w fun e w' => e = .returned (.int .i64 (G.length + GP.length)) ∧ w.grownBy w' none := by
  have c1 := h.c1
  have c3 := h.c3
  have H := Lib.hid h
  have hw : IntKind.i64.wrap ((G.length : Int) + (GP.length : Int)) = (G.length : Int) + (GP.length : Int) := by rw [IntKind.wrap_i64]; omega
  have hS : w.drew.cell? ⟨sb, 1, none⟩ = some (.pointer (some ⟨tb, 0, none⟩)) ∧ w.drew.cell? ⟨sb, 3, none⟩ = some (.int .i64 GP.length) := ⟨c1, c3⟩
  clear h c1 c3
  go_enter Tryz.func11, Tryz.ntmps11
  go_wp2_with fail
  go_region_held3 (fun w' => w'.cell? ⟨sb, 1, none⟩ = some (.pointer (some ⟨tb, 0, none⟩)) ∧ w'.cell? ⟨sb, 3, none⟩ = some (.int .i64 GP.length))
    (with_reducible exact hS)
    (first
      | (go_at_call 35; refine (Tm.tms_len (H.out.t.grown (w' := w.drew) ⟨rfl, rfl, rfl, Nat.le_refl _, fun _ _ _ => rfl⟩)).mono ?_; rintro e w1 ⟨rfl, rfl⟩))
  go_wp2_with fail
  go_ret
  exact ⟨rfl, rfl, rfl, rfl, Nat.le_refl _, fun _ _ _ => rfl⟩
set_option maxHeartbeats 1000000 in
theorem snext_no (h : IsS w base sb tb pb fb wb n now [] order G F GP X) : Calls Tryz.prog 15 #[.pointer (some ⟨sb, 0, none⟩)] w fun e w' => e = .returned (.tuple #[.int .i64 0, .bool false]) ∧ w.grownBy w' none := by
  have c1 := h.c1
  have H := Lib.hid h
  clear h
  go_enter Tryz.func15, Tryz.ntmps15
  go_wp2_with fail
  refine (Tm.tms_next_no H.out.t rfl).mono ?_
  rintro e w1 ⟨rfl, hg⟩
  have HG := Lib.hid hg
  clear hg
  go_wp2_with fail
  go_ret2
  exact ⟨rfl, HG.out⟩
set_option maxHeartbeats 1000000 in
theorem snext_yes (h : IsS w base sb tb pb fb wb n now M order G F GP X) {x : Ent} (hm : IsMin M (some x)) : Calls Tryz.prog 15 #[.pointer (some ⟨sb, 0, none⟩)] w fun e w' => e = .returned (.tuple #[.int .i64 x.w, .bool true]) ∧ w.grownBy w' none := by
  have c1 := h.c1
  have H := Lib.hid h
  have HM := Lib.hid hm
  clear h hm
  go_enter Tryz.func15, Tryz.ntmps15
  go_wp2_with fail
  refine (Tm.tms_next_yes H.out.t HM.out).mono ?_
  rintro e w1 ⟨rfl, hg⟩
  have HG := Lib.hid hg
  clear hg
  go_wp2_with fail
  go_ret2
  exact ⟨rfl, HG.out⟩
end
end Go.Proofs.YtlhblhgbpaipaaaGreat.Src
