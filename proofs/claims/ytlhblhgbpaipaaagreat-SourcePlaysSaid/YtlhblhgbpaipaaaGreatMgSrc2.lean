import Derived.Test.YtlhblhgbpaipaaaGreatSrcDo
/- SrcSleep -/
namespace Go.Proofs.YtlhblhgbpaipaaaGreat.Src
open Go.RowKit
open Go.Proofs.YtlhblhgbpaipaaaGreat.Hp
open Go.Proofs.YtlhblhgbpaipaaaGreat.Tm (Tms Kept IsMin dueB)
open Go.Proofs.YtlhblhgbpaipaaaGreat.Pl (IsPl PFr St aput adel alook stOf dueL fullL)
set_option linter.unusedVariables false

theorem tms_copy {w : World} {base tb n : Nat} {M : List Ent} {order : Nat} {G : List Int} {FF : Nat → Prop} (T : Tms w base tb n M order G FF) (hs : M.length ≤ 1000) : Calls Tryz.prog 41 #[.pointer (some ⟨tb, 0, none⟩)] w fun e w' => ∃ tb' G', e = .returned (.pointer (some ⟨tb', 0, none⟩)) ∧ Tms w' w.heap.size tb' n M order G' (fun _ => False) ∧ G'.Perm G ∧ w.grownBy w' none := by
  obtain ⟨lb, hb, vs, Hs, h, e, p, f⟩ := T
  refine (Tm.tcopy_is h (fun es hes => ?_)).mono ?_
  · have h1 := (List.sublist_flatten_of_mem hes).length_le
    have h2 := p.length_eq
    omega
  · rintro e' w' ⟨tb', lb', hb', vs', G', rfl, h', hp, hl, hg⟩
    exact ⟨tb', G', rfl, ⟨lb', hb', vs', Hs, h', by rw [hl, e], p, fun k hk => hk.elim⟩, hp, hg⟩

section
variable {w : World} {base sb tb pb fb wb n : Nat} {now : Int} {M : List Ent} {order : Nat} {G : List Int} {F : List (Int × St)} {GP : List (Int × Int)} {X : Nat → Prop}
/-- Add at timers of one's own. -/
theorem tms_add_any {w : World} {base tb n : Nat} {M : List Ent} {order : Nat} {G : List Int} (T : Tms w base tb n M order G (fun _ => False)) (hb : base ≤ w.heap.size) (p g when : Int) (ho : order < 4611686018427387904) (hg : 0 ≤ g ∧ g < 4096) {w0 : World} (h0 : w0.grownBy w none) (hb0 : base = w0.heap.size) :
    Calls Tryz.prog 42 #[.pointer (some ⟨tb, 0, none⟩), .int .i64 p, .int .i64 g, .int .i64 when] w fun e w' => ∃ x : Int, e = .returned (.int .i64 x) ∧ (p < 0 ∨ (n : Int) ≤ p → x = 1) ∧ (¬ (p < 0 ∨ (n : Int) ≤ p) → x ≠ 1) ∧ w0.grownBy w' none := by
  by_cases hbad : p < 0 ∨ (n : Int) ≤ p
  · refine (Tm.tms_add_arg T p g when (by omega)).mono ?_
    rintro e w' ⟨rfl, rfl⟩
    exact ⟨1, rfl, fun _ => rfl, fun h => absurd hbad h, h0⟩
  · by_cases hm : g ∈ G
    · refine (Tm.tms_add_same T p g when (by omega) (by omega) hm).mono ?_
      rintro e w' ⟨rfl, hg2⟩
      exact ⟨8, rfl, fun h => absurd h hbad, fun _ => by decide, Pl.grown_none h0 hg2⟩
    · refine (Tm.tms_add_ok T hb p g when (by omega) (by omega) hg.1 hg.2 hm ho).mono ?_
      rintro e w' ⟨rfl, T', hk⟩
      refine ⟨0, rfl, fun h => absurd h hbad, fun _ => by decide, ?_⟩
      have hb2 := hk.below
      exact ⟨hb2.os.trans h0.os, hb2.tape.trans h0.tape, hb2.output.trans h0.output, Nat.le_trans h0.size hb2.size, fun k hk1 _ => (hb2.block k (by omega)).trans (h0.block k hk1 (by simp))⟩

set_option maxRecDepth 100000 in
set_option maxHeartbeats 2000000 in
theorem sleep_polls (h : IsS w base sb tb pb fb wb n now M order G F GP X) (p g d : Int) (hq : (alook GP g).isSome = true) (hg : 0 ≤ g ∧ g < 4096) (hs : M.length ≤ 1000) (ho : order < 4611686018427387904) {y : Int} (hy : (if p < 0 ∨ (n : Int) ≤ p then 1 else 8) = y) :
    Calls Tryz.prog 16 #[.pointer (some ⟨sb, 0, none⟩), .int .i64 p, .int .i64 g, .int .i64 d] w fun e w' => e = .returned (.tuple #[.bool false, .int .i64 y]) ∧ w.grownBy w' none := by
  have c1 := h.c1
  have c2 := h.c2
  have H := Lib.hid h
  have HQ := Lib.hid (And.intro hq (And.intro hg (And.intro hs ho)))
  have HY := Lib.hid hy
  clear h hq hg hs ho hy
  go_enter Tryz.func16, Tryz.ntmps16
  go_wp2_with fail
  refine (Pl.phas_is H.out.p g).mono ?_
  rintro e w1 ⟨rfl, rfl⟩
  rw [HQ.out.1]
  go_wp2_with fail
  refine (tms_copy H.out.t HQ.out.2.2.1).mono ?_
  rintro e w2 ⟨tb', G', rfl, T, hpm, hgr⟩
  have H2 := Lib.hid (And.intro T hgr)
  clear T hgr hpm c1 c2
  go_wp2_with fail
  refine (tms_add_any H2.out.1 H2.out.2.size p g 0 HQ.out.2.2.2 HQ.out.2.1 H2.out.2 rfl).mono ?_
  rintro e w3 ⟨x, rfl, hx1, hx2, hg3⟩
  have H3 := Lib.hid (And.intro hx1 (And.intro hx2 hg3))
  clear hx1 hx2 hg3
  by_cases hbad : p < 0 ∨ (n : Int) ≤ p
  · have hx : x = 1 := H3.out.1 hbad
    have HB := Lib.hid hbad
    clear hbad
    obtain rfl : y = 1 := by rw [← HY.out, if_pos HB.out]
    subst hx
    go_wp2_with fail
    go_ret2
    exact ⟨rfl, H3.out.2.2⟩
  · have hx : x ≠ 1 := H3.out.2.1 hbad
    have HB := Lib.hid hbad
    clear hbad
    obtain rfl : y = 8 := by rw [← HY.out, if_neg HB.out]
    go_wp2_with fail
    go_ret2
    exact ⟨rfl, H3.out.2.2⟩

abbrev SlS (sb tb : Nat) (w' : World) : Prop := w'.cell? ⟨sb, 1, none⟩ = some (.pointer (some ⟨tb, 0, none⟩))
set_option maxRecDepth 100000 in
set_option maxHeartbeats 2000000 in
theorem sleep_err (h : IsS w base sb tb pb fb wb n now M order G F GP X) (p g d x : Int) (hq : (alook GP g).isSome = false) (hd : Clk.I64 d) (hx : x ≠ 0) (hc : ∀ w1 t, Tms w1 base tb n M order G (Fs sb pb fb wb X) → Calls Tryz.prog 42 #[.pointer (some ⟨tb, 0, none⟩), .int .i64 p, .int .i64 g, .int .i64 t] w1 fun e w' => e = .returned (.int .i64 x) ∧ w1.grownBy w' none) :
    Calls Tryz.prog 16 #[.pointer (some ⟨sb, 0, none⟩), .int .i64 p, .int .i64 g, .int .i64 d] w fun e w' => e = .returned (.tuple #[.bool false, .int .i64 x]) ∧ w.grownBy w' none := by
  have c2 := h.c2
  have H := Lib.hid h
  have HQ := Lib.hid (And.intro hq hd)
  have HC := Lib.hid hc
  clear h hq hd hc
  go_enter Tryz.func16, Tryz.ntmps16
  go_wp2_with fail
  refine (Pl.phas_is H.out.p g).mono ?_
  rintro e w1 ⟨rfl, rfl⟩
  rw [HQ.out.1]
  clear c2
  go_wp2_with fail
  have hS : SlS sb tb w.drew := H.out.drew.c1
  go_region_held3 (fun w' => w'.cell? ⟨sb, 1, none⟩ = some (.pointer (some ⟨tb, 0, none⟩)))
    (with_reducible exact hS)
    (first
      | (go_at_call 44; refine (Clk.after_any ⟨sb, 0, none⟩ now d H.out.i64 HQ.out.2 _ H.out.drew.c0).mono ?_; rintro e w1 ⟨rfl, rfl⟩)
      | (go_at_call 42; refine (HC.out _ _ H.out.drew.t).mono ?_; rintro e w2 ⟨rfl, hg2⟩; (have hS : SlS sb tb w2 := (H.out.drew.grown hg2).c1); (have H2 := Lib.hid hg2); clear hg2)
      | (go_at_call 43; refine (told_err _ sb x hx).mono ?_; rintro e w3 ⟨rfl, rfl⟩))
  go_wp2_with fail
  go_ret2
  exact ⟨rfl, grown_drew H2.out⟩
set_option maxRecDepth 100000 in
set_option maxHeartbeats 2000000 in
theorem sleep_ok (h : IsS w base sb tb pb fb wb n now M order G F GP X) (p g d t : Int) (hq : (alook GP g).isSome = false) (hd : Clk.I64 d) (ht : Clk.sat now (Clk.mx 0 d) = t) (h1 : 0 ≤ p) (h2 : p < n) (h3 : 0 ≤ g) (h4 : g < 4096) (hg : g ∉ G) (ho : order < 4611686018427387904)
    {m : Option Ent} (hm : IsMin (M ++ [⟨t, order, g⟩]) m) {r : Bool} (hr : (dueB m now || dueL F) = r) :
    Calls Tryz.prog 16 #[.pointer (some ⟨sb, 0, none⟩), .int .i64 p, .int .i64 g, .int .i64 d] w fun e w' => e = .returned (.tuple #[.bool r, .int .i64 0]) ∧ IsS w' base sb tb pb fb wb n now (M ++ [⟨t, order, g⟩]) (order + 1) (G ++ [g]) F GP X ∧ Kept w w' base X := by
  have c2 := h.c2
  have H := Lib.hid h
  have HQ := Lib.hid (And.intro hq hd)
  have HT := Lib.hid (And.intro ht (And.intro h1 (And.intro h2 (And.intro h3 (And.intro h4 (And.intro hg ho))))))
  have HM := Lib.hid (And.intro hm hr)
  clear h hq hd ht h1 h2 h3 h4 hg ho hm hr
  go_enter Tryz.func16, Tryz.ntmps16
  go_wp2_with fail
  refine (Pl.phas_is H.out.p g).mono ?_
  rintro e w1 ⟨rfl, rfl⟩
  rw [HQ.out.1]
  clear c2
  go_wp2_with fail
  have hS : SlS sb tb w.drew := H.out.drew.c1
  go_region_held3 (fun w' => w'.cell? ⟨sb, 1, none⟩ = some (.pointer (some ⟨tb, 0, none⟩)))
    (with_reducible exact hS)
    (first
      | (go_at_call 44; refine (Clk.after_any ⟨sb, 0, none⟩ now d H.out.i64 HQ.out.2 _ H.out.drew.c0).mono ?_; rintro e w1 ⟨rfl, rfl⟩; rw [HT.out.1])
      | (go_at_call 42; refine (Tm.tms_add_ok H.out.drew.t H.out.low p g t HT.out.2.1 HT.out.2.2.1 HT.out.2.2.2.1 HT.out.2.2.2.2.1 HT.out.2.2.2.2.2.1 HT.out.2.2.2.2.2.2).mono ?_; rintro e w2 ⟨rfl, T, hk⟩; (have H2 := Lib.hid (H.out.drew.timers T hk)); (have hS : SlS sb tb w2 := H2.out.1.c1); clear T hk)
      | (go_at_call 43; refine (told_ok H2.out.1 HM.out.1 HM.out.2).mono ?_; rintro e w3 ⟨rfl, hg3⟩; (have H3 := Lib.hid (And.intro (H2.out.1.grown hg3) (Kept.grown H2.out.2 hg3 H.out.low (fun k hk => H.out.xlt hk)))); (have hS : SlS sb tb w3 := H3.out.1.c1); clear hg3))
  go_wp2_with fail
  go_ret2
  refine ⟨rfl, H3.out.1, ⟨⟨H3.out.2.below.os, H3.out.2.below.tape, H3.out.2.below.output, H3.out.2.below.size, H3.out.2.below.block⟩, H3.out.2.far⟩⟩
end
end Go.Proofs.YtlhblhgbpaipaaaGreat.Src

/- SrcTake -/
namespace Go.Proofs.YtlhblhgbpaipaaaGreat.Src
open Go.RowKit
open Go.Proofs.YtlhblhgbpaipaaaGreat.Hp
open Go.Proofs.YtlhblhgbpaipaaaGreat.Tm (Tms Kept IsMin dueB)
open Go.Proofs.YtlhblhgbpaipaaaGreat.Pl (IsPl PFr St aput adel alook stOf dueL fullL)
set_option linter.unusedVariables false

abbrev Bx : Obj := .cells #[.int .i64 0, .int .u64 0, .int .i64 0] 90
theorem sl_alloc {sb tb : Nat} {a : World} (h : SlS sb tb a) (o : Obj) : SlS sb tb (a.alloc o) := Lib.cell?_alloc_some _ h
theorem sl_set3 {sb tb B i j l : Nat} {x y z : Value} {a : World} (h : SlS sb tb a) (hne : sb ≠ B) : SlS sb tb (((a.setCell ⟨B, i, none⟩ x).setCell ⟨B, j, none⟩ y).setCell ⟨B, l, none⟩ z) :=
  (World.cell?_of_block (a := ⟨sb, 1, none⟩) (box_other hne)).trans h

section
variable {w : World} {base sb tb pb fb wb n : Nat} {now : Int} {M : List Ent} {order : Nat} {G : List Int} {F : List (Int × St)} {GP : List (Int × Int)} {X : Nat → Prop}
theorem IsS.more (h : IsS w base sb tb pb fb wb n now M order G F GP X) {w' : World} (hg : w.grownBy w' none) {X' : Nat → Prop} (hX : ∀ k, X' k → X k ∨ w.heap.size ≤ k ∧ k < w'.heap.size) : IsS w' base sb tb pb fb wb n now M order G F GP X' := by
  have h' := h.grown hg
  have hlt := h.lt
  have hpl := h.p.lt
  refine ⟨h'.cells, h.t.foreign hg (fun k hk => ?_), h'.p, h.ne, fun k hk => ?_, h'.low, h.now0⟩
  · rcases hk with hk | hk | hk | hk | hk
    · exact .inl (.inl hk)
    · exact .inl (.inr (.inl hk))
    · exact .inl (.inr (.inr (.inl hk)))
    · exact .inl (.inr (.inr (.inr (.inl hk))))
    · rcases hX k hk with q | q
      · exact .inl (.inr (.inr (.inr (.inr q))))
      · exact .inr q
  · rcases hX k hk with q | q
    · exact h.far k q
    · omega
theorem grown_refl (w : World) : w.grownBy w none := ⟨rfl, rfl, rfl, Nat.le_refl _, fun _ _ _ => rfl⟩
theorem IsS.less (h : IsS w base sb tb pb fb wb n now M order G F GP X) {X' : Nat → Prop} (hX : ∀ k, X' k → X k) : IsS w base sb tb pb fb wb n now M order G F GP X' :=
  h.more (grown_refl w) (fun k hk => .inl (hX k hk))
/-- The others' blocks may change. -/
theorem IsS.foreign (h : IsS w base sb tb pb fb wb n now M order G F GP X) {w' : World} (hch : ∀ k, k < w.heap.size → ¬ X k → w'.heap[k]? = w.heap[k]?) (hs : w.heap.size ≤ w'.heap.size) : IsS w' base sb tb pb fb wb n now M order G F GP X := by
  have hpl := h.p.lt
  have nx : ∀ k, (k = sb ∨ k = pb ∨ k = fb ∨ k = wb) → ¬ X k := fun k hk hx => by have := h.far k hx; omega
  exact ⟨(hch sb h.lt (nx sb (.inl rfl))).trans h.cells, tms_others h.t (fun k q1 q2 => hch k q1 (fun q => q2 (.inr (.inr (.inr (.inr q)))))) hs, h.p.kept (hch pb hpl.1 (nx pb (.inr (.inl rfl)))) (hch fb hpl.2.1 (nx fb (.inr (.inr (.inl rfl))))) (hch wb hpl.2.2 (nx wb (.inr (.inr (.inr rfl))))), h.ne, h.far, Nat.le_trans h.low hs, h.now0⟩
theorem kept_less {a b : World} {base : Nat} {X X' : Nat → Prop} (h : Kept a b base X) (hX : ∀ k, X' k → X k) : Kept a b base X' := ⟨h.below, fun k hk => h.far k (hX k hk)⟩
/-- A box of one's own is written. -/
theorem IsS.box (h : IsS w base sb tb pb fb wb n now M order G F GP X) {B i j l : Nat} {x y z : Value} (hB : X B) : IsS (((w.setCell ⟨B, i, none⟩ x).setCell ⟨B, j, none⟩ y).setCell ⟨B, l, none⟩ z) base sb tb pb fb wb n now M order G F GP X :=
  h.foreign (fun k _ hk => box_other (fun e => hk (e ▸ hB))) (by rw [box_size]; exact Nat.le_refl _)

/-- The box was made ahead of the take. -/
theorem early {w2 : World} {M' : List Ent} {G' : List Int} {a c d : Value} (h : IsS w base sb tb pb fb wb n now M order G F GP X) (h2 : IsS w2 base sb tb pb fb wb n now M' order G' F GP (fun k => X k ∨ k = w.drew.heap.size)) (hk : Kept (w.drew.alloc Bx) w2 base (fun k => X k ∨ k = w.drew.heap.size)) :
    IsS (((w2.setCell ⟨w.heap.size, 0, none⟩ a).setCell ⟨w.heap.size, 1, none⟩ c).setCell ⟨w.heap.size, 2, none⟩ d) base sb tb pb fb wb n now M' order G' F GP X ∧ Kept w (((w2.setCell ⟨w.heap.size, 0, none⟩ a).setCell ⟨w.heap.size, 1, none⟩ c).setCell ⟨w.heap.size, 2, none⟩ d) base X := by
  have hl := h.low
  refine ⟨(h2.box (B := w.heap.size) (.inr rfl)).less (fun k hk => .inl hk), ⟨⟨hk.below.os, hk.below.tape, hk.below.output, ?_, fun k q => ?_⟩, fun k q => ?_⟩⟩
  · have := hk.below.size; rw [box_size]; simp at this; omega
  · rw [box_other (by omega), hk.below.block k q]
    exact heap_alloc_old w.drew _ (show k < w.drew.heap.size from by show k < w.heap.size; omega)
  · have := h.xlt q
    rw [box_other (by omega), hk.far k (.inl q)]
    exact heap_alloc_old w.drew _ (show k < w.drew.heap.size from this)
/-- The box was made behind the take. -/
theorem late {w2 : World} {M' : List Ent} {G' : List Int} {o : Obj} (h : IsS w base sb tb pb fb wb n now M order G F GP X) (h2 : IsS w2 base sb tb pb fb wb n now M' order G' F GP X) (hk : Kept w.drew w2 base X) :
    IsS (w2.alloc o) base sb tb pb fb wb n now M' order G' F GP X ∧ Kept w (w2.alloc o) base X := by
  have hk' : Kept w w2 base X := ⟨⟨hk.below.os, hk.below.tape, hk.below.output, hk.below.size, hk.below.block⟩, hk.far⟩
  exact ⟨h2.grown (World.grownBy_alloc _ _ _), Kept.grown hk' (World.grownBy_alloc _ _ _) h.low (fun k q => h.xlt q)⟩

theorem take_yes_box (h : IsS w base sb tb pb fb wb n now M order G F GP X) {x : Ent} (hm : IsMin M (some x)) (hx : x.w ≤ now) :
    Calls Tryz.prog 46 #[.pointer (some ⟨tb, 0, none⟩), .int .i64 now] (w.alloc Bx) fun e w' => e = .returned (.tuple #[x.agg, .bool true]) ∧ IsS w' base sb tb pb fb wb n now (M.erase x) order (G.filter fun y => y ≠ x.g) F GP (fun k => X k ∨ k = w.heap.size) ∧ Kept (w.alloc Bx) w' base (fun k => X k ∨ k = w.heap.size) := by
  have h' : IsS (w.alloc Bx) base sb tb pb fb wb n now M order G F GP (fun k => X k ∨ k = w.heap.size) := h.more (World.grownBy_alloc _ _ _) (fun k hk => by rcases hk with q | q; exact .inl q; exact .inr (by simp; omega))
  refine (Tm.tms_take_yes h'.t h'.low hm now hx).mono ?_
  rintro e w2 ⟨rfl, T, hk⟩
  exact ⟨rfl, h'.timers T hk⟩

set_option maxRecDepth 100000 in
set_option maxHeartbeats 2000000 in
theorem stake_timer (h : IsS w base sb tb pb fb wb n now M order G F GP X) {x : Ent} (hm : IsMin M (some x)) (hx : x.w ≤ now) :
    Calls Tryz.prog 18 #[.pointer (some ⟨sb, 0, none⟩)] w fun e w' => e = .returned (.tuple #[.int .i64 x.g, .bool true]) ∧ IsS w' base sb tb pb fb wb n now (M.erase x) order (G.filter fun y => y ≠ x.g) F GP X ∧ Kept w w' base X := by
  have H := Lib.hid h
  have HM := Lib.hid (And.intro hm hx)
  have hne : sb ≠ w.heap.size := by have := h.lt; omega
  have hlow := Lib.hid h.low
  clear h hm hx
  go_enter Tryz.func18, Tryz.ntmps18
  go_wp2_with fail
  have hS : SlS sb tb w.drew := H.out.drew.c1
  have hSa : SlS sb tb (w.drew.alloc Bx) := sl_alloc hS _
  go_region_held3 (fun w' => w'.cell? ⟨sb, 1, none⟩ = some (.pointer (some ⟨tb, 0, none⟩)))
    (first | (with_reducible exact hS) | (with_reducible exact hSa) | exact sl_alloc hS _ | exact sl_set3 hS hne | exact sl_set3 (sl_alloc hS _) hne2)
    (first
      | (go_at_call 8; refine (snow_is H.out.drew).mono ?_; rintro e w1 ⟨rfl, rfl⟩)
      | (go_at_call 8; refine (snow_is (H.out.drew.grown (World.grownBy_alloc w.drew Bx none))).mono ?_; rintro e w1 ⟨rfl, rfl⟩)
      | (go_at_call 46; refine (Tm.tms_take_yes H.out.drew.t H.out.low HM.out.1 now HM.out.2).mono ?_; rintro e w2 ⟨rfl, T, hk⟩; (have hS : SlS sb tb w2 := (H.out.drew.timers T hk).1.c1); (have hne2 : sb ≠ w2.heap.size := (by have := (H.out.drew.timers T hk).1.lt; omega)); (have H2 : Hid (IsS (w2.alloc (.cells #[.int .i64 x.w, .int .u64 x.o, .int .i64 x.g] 90)) base sb tb pb fb wb n now (M.erase x) order (G.filter fun y => y ≠ x.g) F GP X ∧ Kept w (w2.alloc (.cells #[.int .i64 x.w, .int .u64 x.o, .int .i64 x.g] 90)) base X) := Lib.hid (late H.out (H.out.drew.timers T hk).1 (H.out.drew.timers T hk).2)); clear T hk)
      | (go_at_call 46; refine (take_yes_box H.out.drew HM.out.1 HM.out.2).mono ?_; rintro e w2 ⟨rfl, hi2, hk2⟩; (have hS : SlS sb tb w2 := hi2.c1); (have hb2 := (hk2.far w.heap.size (.inr rfl)).trans (heap_alloc_new w.drew Bx)); (have z0 : w2.cell? ⟨w.heap.size, 0, none⟩ = some (.int .i64 0) := cell_of_row _ _ 0 _ _ _ hb2); (have z1 : w2.cell? ⟨w.heap.size, 1, none⟩ = some (.int .u64 0) := cell_of_row _ _ 1 _ _ _ hb2); (have z2 : w2.cell? ⟨w.heap.size, 2, none⟩ = some (.int .i64 0) := cell_of_row _ _ 2 _ _ _ hb2); (have fz : ∀ o, w2.frozen? ⟨w.heap.size, o, none⟩ = false := fun o => frozen_of_row _ _ o _ _ hb2); (have H2 : Hid (IsS (((w2.setCell ⟨w.heap.size, 0, none⟩ (.int .i64 x.w)).setCell ⟨w.heap.size, 1, none⟩ (.int .u64 x.o)).setCell ⟨w.heap.size, 2, none⟩ (.int .i64 x.g)) base sb tb pb fb wb n now (M.erase x) order (G.filter fun y => y ≠ x.g) F GP X ∧ Kept w (((w2.setCell ⟨w.heap.size, 0, none⟩ (.int .i64 x.w)).setCell ⟨w.heap.size, 1, none⟩ (.int .u64 x.o)).setCell ⟨w.heap.size, 2, none⟩ (.int .i64 x.g)) base X) := Lib.hid (early H.out hi2 hk2)); clear hi2 hk2 hb2))
  all_goals (
    go_wp2_with fail
    go_ret2
    exact ⟨rfl, H2.out⟩)
end
end Go.Proofs.YtlhblhgbpaipaaaGreat.Src

/- SrcTake2 -/
namespace Go.Proofs.YtlhblhgbpaipaaaGreat.Src
open Go.RowKit
open Go.Proofs.YtlhblhgbpaipaaaGreat.Hp
open Go.Proofs.YtlhblhgbpaipaaaGreat.Tm (Tms Kept IsMin dueB)
open Go.Proofs.YtlhblhgbpaipaaaGreat.Pl (IsPl PFr St aput adel alook stOf dueL fullL)
set_option linter.unusedVariables false

section
variable {w : World} {base sb tb pb fb wb n : Nat} {now : Int} {M : List Ent} {order : Nat} {G : List Int} {F : List (Int × St)} {GP : List (Int × Int)} {X : Nat → Prop}
/-- What the poll's take must answer for the source's. -/
def TakeP (sb pb : Nat) (GP : List (Int × Int)) (C : Ending → World → Prop) (V : World) : Prop :=
  Calls Tryz.prog 47 #[.pointer (some ⟨pb, 0, none⟩)] V fun e V' => (∃ fd, e = .returned (.tuple #[.int .u16 fd, .int .i64 0, .bool false]) ∧ C (.returned (.tuple #[.int .i64 0, .bool false])) V') ∨
      ∃ fd g, ∃ GP' : List (Int × Int), e = .returned (.tuple #[.int .u16 fd, .int .i64 g, .bool true]) ∧ IntKind.i64.wrap ((GP.length : Int) - 1) = (GP'.length : Int) ∧ V'.cell? ⟨sb, 3, none⟩ = some (.int .i64 GP.length) ∧ V'.frozen? ⟨sb, 3, none⟩ = false ∧ C (.returned (.tuple #[.int .i64 g, .bool true])) (V'.setCell ⟨sb, 3, none⟩ (.int .i64 GP'.length))
set_option maxRecDepth 100000 in
set_option maxHeartbeats 2000000 in
/-- Nothing is due among the timers. -/
theorem stake_no_walk (h : IsS w base sb tb pb fb wb n now M order G F GP X) {m : Option Ent} (hm : IsMin M m) (hd : dueB m now = false) {C : Ending → World → Prop} (hc : ∀ V, w.grownBy V none → TakeP sb pb GP C V) :
    Calls Tryz.prog 18 #[.pointer (some ⟨sb, 0, none⟩)] w C := by
  have H := Lib.hid h
  have HM := Lib.hid (And.intro hm hd)
  have HC := Lib.hid hc
  have hne : sb ≠ w.heap.size := by have := h.lt; omega
  clear h hm hd hc
  go_enter Tryz.func18, Tryz.ntmps18
  go_wp2_with fail
  have hS : SlS sb tb w.drew := H.out.drew.c1
  have hSa : SlS sb tb (w.drew.alloc Bx) := sl_alloc hS _
  go_region_held3 (fun w' => w'.cell? ⟨sb, 1, none⟩ = some (.pointer (some ⟨tb, 0, none⟩)))
    (first | (with_reducible exact hS) | (with_reducible exact hSa) | exact sl_alloc hS _ | exact sl_set3 hS hne | exact sl_set3 (sl_alloc hS _) hne2)
    (first
      | (go_at_call 8; refine (snow_is H.out.drew).mono ?_; rintro e w1 ⟨rfl, rfl⟩)
      | (go_at_call 8; refine (snow_is (H.out.drew.grown (World.grownBy_alloc w.drew Bx none))).mono ?_; rintro e w1 ⟨rfl, rfl⟩)
      | (go_at_call 46; refine (Tm.tms_take_no H.out.drew.t HM.out.1 now HM.out.2).mono ?_; rintro e w2 ⟨rfl, hg⟩; (have hS : SlS sb tb w2 := (H.out.drew.grown hg).c1); (have hne2 : sb ≠ w2.heap.size := (by have := (H.out.drew.grown hg).lt; omega)); (have H2 : Hid (w.grownBy (w2.alloc (.cells #[.int .i64 0, .int .u64 0, .int .i64 0] 90)) none) := Lib.hid (Pl.grown_none (grown_drew hg) (World.grownBy_alloc _ _ _))); clear hg)
      | (go_at_call 46; refine (Tm.tms_take_no (H.out.drew.grown (World.grownBy_alloc w.drew Bx none)).t HM.out.1 now HM.out.2).mono ?_; rintro e w2 ⟨rfl, hg⟩; (have hS : SlS sb tb w2 := ((H.out.drew.grown (World.grownBy_alloc w.drew Bx none)).grown hg).c1); (have hb2 := (hg.block w.heap.size (by simp) (by simp)).trans (heap_alloc_new w.drew Bx)); (have z0 : w2.cell? ⟨w.heap.size, 0, none⟩ = some (.int .i64 0) := cell_of_row _ _ 0 _ _ _ hb2); (have z1 : w2.cell? ⟨w.heap.size, 1, none⟩ = some (.int .u64 0) := cell_of_row _ _ 1 _ _ _ hb2); (have z2 : w2.cell? ⟨w.heap.size, 2, none⟩ = some (.int .i64 0) := cell_of_row _ _ 2 _ _ _ hb2); (have fz : ∀ o, w2.frozen? ⟨w.heap.size, o, none⟩ = false := fun o => frozen_of_row _ _ o _ _ hb2); (have H2 : Hid (w.grownBy (((w2.setCell ⟨w.heap.size, 0, none⟩ (.int .i64 0)).setCell ⟨w.heap.size, 1, none⟩ (.int .u64 0)).setCell ⟨w.heap.size, 2, none⟩ (.int .i64 0)) none) := Lib.hid (Tm.box_grown (grown_drew (Pl.grown_none (World.grownBy_alloc w.drew Bx none) hg)))); clear hg hb2))
  all_goals (
    clear hS hSa
    first
      | (clear z0 z1 z2 fz; generalize (((w2.setCell ⟨w.heap.size, 0, none⟩ (.int .i64 0)).setCell ⟨w.heap.size, 1, none⟩ (.int .u64 0)).setCell ⟨w.heap.size, 2, none⟩ (.int .i64 0)) = V at *)
      | generalize w2.alloc (.cells #[.int .i64 0, .int .u64 0, .int .i64 0] 90) = V at *
    have c2 := (H.out.grown H2.out).c2
    have HT : Hid (TakeP sb pb GP C V) := Lib.hid (HC.out V H2.out)
    try clear hne2
    go_wp2_with fail
    refine Calls.mono HT.out ?_
    rintro e V' (⟨fd, rfl, hC1⟩ | ⟨fd, g, GP', rfl, hw, c3, fz3, hC1⟩)
    · have HC1 := Lib.hid hC1
      clear hC1 c2
      go_wp2_with fail
      exact HC1.out
    · have HC1 := Lib.hid hC1
      clear hC1 c2
      go_wp2_with fail
      exact HC1.out)

/-- Nobody is due. -/
theorem stake_none (h : IsS w base sb tb pb fb wb n now M order G F GP X) {m : Option Ent} (hm : IsMin M m) (hd : dueB m now = false) (hbig : F.length ≤ 2000) (hl : Pl.Least F none) :
    Calls Tryz.prog 18 #[.pointer (some ⟨sb, 0, none⟩)] w fun e w' => e = .returned (.tuple #[.int .i64 0, .bool false]) ∧ w.grownBy w' none := by
  refine stake_no_walk h hm hd fun V hg => ?_
  refine (Pl.ptake_none (h.grown hg).p hbig hl).mono ?_
  rintro e V' ⟨rfl, hg2⟩
  exact .inl ⟨0, rfl, rfl, Pl.grown_none hg hg2⟩
/-- One that waits is. -/
theorem stake_poll (h : IsS w base sb tb pb fb wb n now M order G F GP X) {m : Option Ent} (hm : IsMin M m) (hd : dueB m now = false) (hbig : F.length ≤ 2000) {fd g : Int} (hl : Pl.Least F (some (fd, g))) (hlen : GP.length = (adel GP g).length + 1) (hlt : GP.length < 1000000) :
    Calls Tryz.prog 18 #[.pointer (some ⟨sb, 0, none⟩)] w fun e w' => e = .returned (.tuple #[.int .i64 g, .bool true]) ∧ IsS w' base sb tb pb fb wb n now M order G (adel F fd) (adel GP g) X ∧ Kept w w' base X := by
  refine stake_no_walk h hm hd fun V hg => ?_
  have hV := h.grown hg
  refine (Pl.ptake_some hV.p hbig hl).mono ?_
  rintro e V' ⟨rfl, P, hk⟩
  refine .inr ⟨fd, g, adel GP g, rfl, by rw [IntKind.wrap_i64]; omega, (World.cell?_of_block (a := ⟨sb, 3, none⟩) (hk.block sb hV.lt hV.ne.2.1 hV.ne.2.2.1)).trans hV.c3, ?_, rfl, (hV.poll2 P hk).1, (kept_grown h hg).trans (hV.poll2 P hk).2⟩
  have := hV.free 3
  unfold World.frozen? at this ⊢
  rw [hk.block sb hV.lt hV.ne.2.1 hV.ne.2.2.1]; exact this
end
end Go.Proofs.YtlhblhgbpaipaaaGreat.Src
