/-
  hostlerref10: Take, where one is due.
-/
import Derived.Test.YtlhblhgbpaipaaaGreatMgTim
namespace Go.Proofs.YtlhblhgbpaipaaaGreat.Hp
open Go.RowKit Go.Shelf
set_option linter.unusedVariables false
set_option linter.unusedSimpArgs false

theorem add_zero'' (c : Addr) : c.add (0 * 3) = c := by simp [Addr.add]
theorem ownsT_heap {w w' : World} {base : Nat} {v : Value} {D : List Tim} (h : OwnsT w base v D) (hb : ∀ j, v.ownBlock = some j → w'.heap[j]? = w.heap[j]?) : OwnsT w' base v D := by
  obtain ⟨h0, h⟩ := h
  refine ⟨h0, ?_⟩
  rcases h with h | ⟨g, cap, cur, rfl, h1, h2, h3⟩
  · exact .inl h
  · exact .inr ⟨g, cap, cur, rfl, h1, (hb g rfl).trans h2, h3⟩
theorem ownsT_lower {w : World} {base base' : Nat} {v : Value} {D : List Tim} (h : OwnsT w base v D) (hb : base' ≤ base) : OwnsT w base' v D := by
  obtain ⟨h0, h⟩ := h
  refine ⟨h0, ?_⟩
  rcases h with h | ⟨g, cap, cur, e, h1, h2⟩
  · exact .inl h
  · exact .inr ⟨g, cap, cur, e, Nat.le_trans hb h1, h2⟩
theorem below_drew {w : World} {n : Nat} : Below n w w.drew := ⟨rfl, rfl, rfl, Nat.le_refl _, fun _ _ => rfl⟩
theorem heap_drew {w : World} {k : Nat} : w.drew.heap[k]? = w.heap[k]? := rfl
theorem ownsT_drew {w : World} {base : Nat} {v : Value} {D : List Tim} (h : OwnsT w base v D) : OwnsT w.drew base v D := h
/-- All but one. -/
def but (x : Ent) (D : List Tim) : List Tim := D.filter fun y => !decide (y.e = x)
theorem but_append (x : Ent) (D E : List Tim) : but x (D ++ E) = but x D ++ but x E := by simp [but]
theorem but_len (x : Ent) (D : List Tim) : (but x D).length ≤ D.length := List.length_filter_le _ _
/-- Blocks of Take. -/
structure TkB (w : World) (S : Nat) (n o : Int) (v : Value) : Prop where
  b0 : w.heap[S]? = some (.cells #[.int .i64 n, v, .int .u64 o] TD (0, 0))
  b1 : w.heap[S + 1]? = some (.cells #[.int .i64 0, .slice none 0 0, .int .u64 0] TD (0, 0))
  b2 : w.heap[S + 2]? = some (.cells #[.int .i64 0, .int .u64 0, .int .i64 0] TE (0, 0))
theorem TkB.kept {w w' : World} {S : Nat} {n o : Int} {v : Value} (h : TkB w S n o v) (hb : ∀ j, j < S + 3 → w'.heap[j]? = w.heap[j]?) : TkB w' S n o v :=
  ⟨(hb _ (by omega)).trans h.b0, (hb _ (by omega)).trans h.b1, (hb _ (by omega)).trans h.b2⟩
theorem TkB.size {w : World} {S : Nat} {n o : Int} {v : Value} (h : TkB w S n o v) : S + 3 ≤ w.heap.size := (Array.getElem?_eq_some_iff.1 h.b2).1

set_option maxRecDepth 100000 in
set_option maxHeartbeats 4000000 in
theorem rtake_yes {w : World} {v : Value} {D : List Tim} {lo : Nat} (hv : TSees w lo v D) (hbig : D.length ≤ 1000) (n o now : Int) {x : Ent} {t : List Ent} (hL : srt (sel (-1) D) = x :: t) (hy : x.w ≤ now) :
    Calls Tryz.prog 33 #[.agg #[.int .i64 n, v, .int .u64 o], .int .i64 now] w fun e w' => ∃ v', e = .returned (.tuple #[.agg #[.int .i64 n, v', .int .u64 o], x.agg, .bool true]) ∧ OwnsT w' w.heap.size v' (but x D) ∧ Below w.heap.size w w' := by
  have HV := Lib.hid hv
  obtain ⟨a, cap, rfl, hle, hmx, _, _⟩ := hv
  obtain ⟨W, hW, h0, h1, h2, hb, hs⟩ := take_blocks w n o (.slice a D.length cap)
  have H := Lib.hid (And.intro (TkB.mk h0 h1 h2) hb)
  have hW3 : W.heap.size = w.heap.size + 3 := hs
  obtain ⟨q, hq⟩ : ∃ q, (x :: t).length = q + 1 := ⟨t.length, rfl⟩
  have hcap : (D.length : Int) ≤ (cap : Int) := by omega
  clear h0 h1 h2 hb hs
  go_enter Tryz.func33, Tryz.ntmps33
  go_wp2_with fail
  rw [← hW]
  clear hW
  refine (rof_is (HV.out.below H.out.2) hbig n o (-1) hL hq).mono ?_
  rintro e w1 ⟨b, c, rfl, hr, hb1⟩
  obtain ⟨c', rfl, hcq⟩ : ∃ c', b = some c' ∧ q + 1 ≤ c := by
    obtain ⟨_, _, e, h5, _, _, h⟩ := hr
    obtain ⟨rfl, _, rfl⟩ := Value.slice.inj e
    obtain ⟨c', h6, _⟩ := h 0 x rfl
    exact ⟨c', h6, by omega⟩
  have K := Lib.hid (show RSees w1 W.heap.size (.slice (some c') (q + 1) c) (x :: t) ∧ TkB w1 w.heap.size n o (.slice a D.length cap) ∧ Below w.heap.size w w1 from
    ⟨hr, H.out.1.kept (fun j hj => hb1.block j (by have := H.out.1.size; omega)), H.out.2.trans (hb1.mono H.out.2.size)⟩)
  have reads : ∀ w2 : World, RSees w2 W.heap.size (.slice (some c') (q + 1) c) (x :: t) → w2.cell? c' = some (.int .i64 x.w) ∧ w2.cell? ⟨c'.block, c'.off + 1, none⟩ = some (.int .u64 x.o) ∧ w2.cell? ⟨c'.block, c'.off + 2, none⟩ = some (.int .i64 x.g) := by
    rintro w2 ⟨_, _, e, _, _, _, h⟩
    obtain ⟨rfl, _, _⟩ := Value.slice.inj e
    obtain ⟨c2, h5, h6, h7, h8⟩ := h 0 x rfl
    cases h5
    rw [add_zero''] at h6 h7 h8
    exact ⟨h6, h7, h8⟩
  have RD := Lib.hid reads
  have c0 := (RD.out _ K.out.1).1
  have z1 : w1.cell? ⟨w.heap.size, 1, none⟩ = some (.slice a D.length cap) := cell_of_row _ _ 1 _ _ _ K.out.2.1.b0
  have hnn : ¬ now < x.w := by omega
  have hqp : (0 : Int) < (q : Int) + 1 := by omega
  have hq0 : ((q : Int) + 1 == 0) = false := beq_eq_false_iff_ne.2 (by omega)
  have hdd : decide (now < x.w) = false := by simpa using hnn
  clear hr hb1 H reads hq
  go_wp2_with fail
  clear c0 z1
  go_loopw [8, 29] (fun ov i wr => ∃ k : Nat, k ≤ D.length ∧ i = .int .i64 k ∧ OwnsT wr w1.heap.size ov (but x (D.take k)) ∧ Below w1.heap.size w1 wr) (fun _ i _ => D.length - (intOf i).toNat)
  case atStart => exact ⟨0, Nat.zero_le _, rfl, World.ownsRow_nil _ _ _ _, Below.refl _ _⟩
  case round =>
    obtain ⟨k, hk, rfl, ho, hb⟩ := hrel
    obtain ⟨oa, oc, hov, _⟩ := OwnsT.sees ho (Nat.le_refl _)
    obtain ⟨m, hm⟩ : ∃ m, (but x (D.take k)).length = m := ⟨_, rfl⟩
    have HM := Lib.hid (And.intro hm (show m ≤ 1000 by have := but_len x (D.take k); rw [List.length_take] at this; omega))
    rw [hm] at hov
    subst hov
    have H := Lib.hid (And.intro ho hb)
    clear ho hb hm
    by_cases hlt : k < D.length
    · obtain ⟨y, hyx⟩ : ∃ y, D[k]? = some y := ⟨_, List.getElem?_eq_getElem hlt⟩
      obtain ⟨c2, rfl, c0, c1, d2, c3⟩ : ∃ c, a = some c ∧ wr.cell? (c.add (k * 4)) = some (.int .i64 y.p) ∧ wr.cell? ⟨(c.add (k * 4)).block, (c.add (k * 4)).off + 1, none⟩ = some (.int .i64 y.e.w) ∧ wr.cell? ⟨(c.add (k * 4)).block, (c.add (k * 4)).off + 2, none⟩ = some (.int .u64 y.e.o) ∧ wr.cell? ⟨(c.add (k * 4)).block, (c.add (k * 4)).off + 3, none⟩ = some (.int .i64 y.e.g) := by
        obtain ⟨_, _, e1, _, _, _, h⟩ := HV.out.below (K.out.2.2.trans (H.out.2.mono K.out.2.2.size))
        obtain ⟨rfl, _, _⟩ := Value.slice.inj e1
        exact h k y hyx
      have HX := Lib.hid (take_tim hyx)
      have hal := below_alloc (w := wr) (.cells #[.int .i64 y.p, .int .i64 y.e.w, .int .u64 y.e.o, .int .i64 y.e.g] TT)
      have hY : (wr.alloc (.cells #[.int .i64 y.p, .int .i64 y.e.w, .int .u64 y.e.o, .int .i64 y.e.g] TT)).heap[wr.heap.size]? = some (.cells #[.int .i64 y.p, .int .i64 y.e.w, .int .u64 y.e.o, .int .i64 y.e.g] TT (0, 0)) := heap_alloc_new _ _
      have H1 := Lib.hid (And.intro (ownsT_kept H.out.1 hal) (And.intro (H.out.2.trans (hal.mono H.out.2.size)) hY))
      clear hyx hal hY H
      go_wp2_with fail
      clear c0 c1 d2 c3
      generalize (wr.alloc (.cells #[.int .i64 y.p, .int .i64 y.e.w, .int .u64 y.e.o, .int .i64 y.e.g] TT)) = W1 at *
      obtain ⟨r0, r1, r2⟩ := RD.out _ (K.out.1.below H1.out.2.1)
      have y0 : W1.cell? ⟨wr.heap.size, 0, none⟩ = some (.int .i64 y.p) := cell_of_row _ _ 0 _ _ _ H1.out.2.2
      have y1 : W1.cell? ⟨wr.heap.size, 1, none⟩ = some (.int .i64 y.e.w) := cell_of_row _ _ 1 _ _ _ H1.out.2.2
      have y2 : W1.cell? ⟨wr.heap.size, 2, none⟩ = some (.int .u64 y.e.o) := cell_of_row _ _ 2 _ _ _ H1.out.2.2
      have y3 : W1.cell? ⟨wr.heap.size, 3, none⟩ = some (.int .i64 y.e.g) := cell_of_row _ _ 3 _ _ _ H1.out.2.2
      obtain ⟨be, hbe⟩ : ∃ be, (!decide (y.e = x)) = be := ⟨_, rfl⟩
      have hneq : ∀ W, (binOp .neq TE (.agg #[.int .i64 y.e.w, .int .u64 y.e.o, .int .i64 y.e.g]) (.agg #[.int .i64 x.w, .int .u64 x.o, .int .i64 x.g])).run Tryz.prog W = .ok (.bool be) W := fun W => by rw [← hbe]; exact neq_te y.e x W
      have HBE := Lib.hid hbe
      clear hbe
      go_quiet (fail)
      clear r0 r1 r2
      have hdn : Below W1.heap.size W1 (W1.drewN nq) := ⟨rfl, rfl, rfl, Nat.le_refl _, fun _ _ => rfl⟩
      have H2 := Lib.hid (And.intro (ownsT_kept H1.out.1 hdn) (H1.out.2.1.trans (hdn.mono H1.out.2.1.size)))
      replace y0 : (W1.drewN nq).cell? ⟨wr.heap.size, 0, none⟩ = some (.int .i64 y.p) := y0
      replace y1 : (W1.drewN nq).cell? ⟨wr.heap.size, 1, none⟩ = some (.int .i64 y.e.w) := y1
      replace y2 : (W1.drewN nq).cell? ⟨wr.heap.size, 2, none⟩ = some (.int .u64 y.e.o) := y2
      replace y3 : (W1.drewN nq).cell? ⟨wr.heap.size, 3, none⟩ = some (.int .i64 y.e.g) := y3
      clear hdn H1 hneq
      generalize W1.drewN nq = W2 at *
      cases be with
      | true =>
        have HS : Hid (but x (D.take (k + 1)) = but x (D.take k) ++ [y]) := Lib.hid (by rw [HX.out, but_append]; congr 1; unfold but; rw [List.filter_cons, if_pos HBE.out]; rfl)
        go_wp2_with (refine wpList_append_tim rfl _ _ rfl W2 w1.heap.size (.slice oa m oc) (but x (D.take k)) y W2.heap.size rfl rfl H2.out.1 rfl ?ql ?qb ?_)
        case ql => have := HM.out; omega
        case qb => exact H2.out.2.size
        intro v' w3 ho3 hg3
        rw [← HS.out] at ho3
        have H3 := Lib.hid (And.intro ho3 (below_ownT H2.out.2 H2.out.1 hg3 ⟨H2.out.2.size, Nat.le_refl _⟩))
        clear ho3 hg3
        go_wp2
        go_roundw
        case rel => exact ⟨k + 1, by omega, by go_num, H3.out⟩
        case measure => simp [intOf]; omega
      | false =>
        have HS : Hid (but x (D.take (k + 1)) = but x (D.take k)) := Lib.hid (by rw [HX.out, but_append]; unfold but; rw [List.filter_cons, if_neg (by rw [HBE.out]; decide)]; simp)
        go_wp2_with fail
        go_roundw
        case rel => exact ⟨k + 1, by omega, by go_num, by rw [HS.out]; exact H2.out.1, H2.out.2⟩
        case measure => simp [intOf]; omega
    · obtain rfl : k = D.length := by omega
      have htk : D.take D.length = D := List.take_length
      rw [htk] at H HM
      have hs3 := K.out.2.1.size
      have hsz := H.out.2.size
      have hrow := World.ownsRow.lt H.out.1
      have KB := K.out.2.1.kept (w' := wr) (fun j hj => H.out.2.block j (by omega))
      have hBW := K.out.2.2.trans (H.out.2.mono K.out.2.2.size)
      have f0 : wr.frozen? ⟨w.heap.size, 1, none⟩ = false := frozen_of_row _ _ 1 _ _ KB.b0
      have z1 : wr.cell? ⟨w.heap.size, 1, none⟩ = some (.slice a D.length cap) := cell_of_row _ _ 1 _ _ _ KB.b0
      have hb0 : (wr.setCell ⟨w.heap.size, 1, none⟩ (.slice oa m oc)).heap[w.heap.size]? = some (.cells #[.int .i64 n, .slice oa m oc, .int .u64 o] TD (0, 0)) := heap_setCell_same _ _ _ _ _ _ KB.b0
      have hset : ∀ j, j ≠ w.heap.size → (wr.setCell ⟨w.heap.size, 1, none⟩ (.slice oa m oc)).heap[j]? = wr.heap[j]? := fun j hj => heap_setCell_other _ _ _ _ hj
      have hcb3 : w.heap.size + 3 ≤ c'.block := by
        obtain ⟨_, _, e, _, _, h5, _⟩ := K.out.1
        obtain ⟨rfl, _, _⟩ := Value.slice.inj e
        have := (h5 c' rfl).1
        omega
      have hcb : c'.block ≠ w.heap.size := by omega
      have hrs : RSees (wr.setCell ⟨w.heap.size, 1, none⟩ (.slice oa m oc)) W.heap.size (.slice (some c') (q + 1) c) (x :: t) :=
        (K.out.1.below H.out.2).kept (by simp) (fun j hj => hset j (by simp [Value.ownBlock] at hj; omega))
      have F := Lib.hid (show (wr.setCell ⟨w.heap.size, 1, none⟩ (.slice oa m oc)).heap[w.heap.size]? = some (.cells #[.int .i64 n, .slice oa m oc, .int .u64 o] TD (0, 0)) ∧ (wr.setCell ⟨w.heap.size, 1, none⟩ (.slice oa m oc)).heap[w.heap.size + 1]? = some (.cells #[.int .i64 0, .slice none 0 0, .int .u64 0] TD (0, 0)) ∧ (wr.setCell ⟨w.heap.size, 1, none⟩ (.slice oa m oc)).heap[w.heap.size + 2]? = some (.cells #[.int .i64 0, .int .u64 0, .int .i64 0] TE (0, 0)) ∧ RSees (wr.setCell ⟨w.heap.size, 1, none⟩ (.slice oa m oc)) W.heap.size (.slice (some c') (q + 1) c) (x :: t) ∧ OwnsT (wr.setCell ⟨w.heap.size, 1, none⟩ (.slice oa m oc)) w1.heap.size (.slice oa m oc) (but x D) ∧ Below w.heap.size w (wr.setCell ⟨w.heap.size, 1, none⟩ (.slice oa m oc)) from
        ⟨hb0, (hset _ (by omega)).trans KB.b1, (hset _ (by omega)).trans KB.b2, hrs, ownsT_heap H.out.1 (fun j hj => hset j (by have := (hrow j hj).1; omega)), ⟨hBW.os, hBW.tape, hBW.output, by simpa using hBW.size, fun j hj => (hset j (by omega)).trans (hBW.block j hj)⟩⟩)
      clear hb0 hset hrs KB hBW H
      go_upto_region 12 with fail
      clear f0 z1
      generalize (wr.setCell ⟨w.heap.size, 1, none⟩ (.slice oa m oc)) = W4 at *
      obtain ⟨r0, r1, r2⟩ := RD.out _ F.out.2.2.2.1
      have z0 : W4.cell? ⟨w.heap.size, 0, none⟩ = some (.int .i64 n) := cell_of_row _ _ 0 _ _ _ F.out.1
      have z1 : W4.cell? ⟨w.heap.size, 1, none⟩ = some (.slice oa m oc) := cell_of_row _ _ 1 _ _ _ F.out.1
      have z2 : W4.cell? ⟨w.heap.size, 2, none⟩ = some (.int .u64 o) := cell_of_row _ _ 2 _ _ _ F.out.1
      have y0 : W4.cell? ⟨w.heap.size + 1, 0, none⟩ = some (.int .i64 0) := cell_of_row _ _ 0 _ _ _ F.out.2.1
      have y1 : W4.cell? ⟨w.heap.size + 1, 1, none⟩ = some (.slice none 0 0) := cell_of_row _ _ 1 _ _ _ F.out.2.1
      have y2 : W4.cell? ⟨w.heap.size + 1, 2, none⟩ = some (.int .u64 0) := cell_of_row _ _ 2 _ _ _ F.out.2.1
      have x0 : W4.cell? ⟨w.heap.size + 2, 0, none⟩ = some (.int .i64 0) := cell_of_row _ _ 0 _ _ _ F.out.2.2.1
      have x1 : W4.cell? ⟨w.heap.size + 2, 1, none⟩ = some (.int .u64 0) := cell_of_row _ _ 1 _ _ _ F.out.2.2.1
      have x2 : W4.cell? ⟨w.heap.size + 2, 2, none⟩ = some (.int .i64 0) := cell_of_row _ _ 2 _ _ _ F.out.2.2.1
      have fy : ∀ i, W4.frozen? ⟨w.heap.size + 1, i, none⟩ = false := fun i => frozen_of_row _ _ i _ _ F.out.2.1
      have fx : ∀ i, W4.frozen? ⟨w.heap.size + 2, i, none⟩ = false := fun i => frozen_of_row _ _ i _ _ F.out.2.2.1
      have hne : w.heap.size + 1 ≠ w.heap.size + 2 := by omega
      have hcn1 : c'.block ≠ w.heap.size + 1 := by have := hcb3; omega
      have hcn2 : c'.block ≠ w.heap.size + 2 := by have := hcb3; omega
      have far : ∀ (p u : Addr) (x y : Value) (V : World), p.block ≠ u.block → V.cell? p = some x → (V.setCell u y).cell? p = some x := fun p u x y V hpu h => (World.cell?_of_block (heap_setCell_other _ _ _ _ hpu)).trans h
      have l0 : ∀ k a b d, (k = w.heap.size + 1 ∨ k = w.heap.size + 2) → ((((W4.setCell ⟨k, 0, none⟩ a).setCell ⟨k, 1, none⟩ b).setCell ⟨k, 2, none⟩ d).drew).cell? c' = some (.int .i64 x.w) := fun k a b d hk => (far _ _ _ _ _ (by simp; omega) (far _ _ _ _ _ (by simp; omega) (far _ _ _ _ _ (by simp; omega) r0)))
      have l1 : ∀ k a b d, (k = w.heap.size + 1 ∨ k = w.heap.size + 2) → ((((W4.setCell ⟨k, 0, none⟩ a).setCell ⟨k, 1, none⟩ b).setCell ⟨k, 2, none⟩ d).drew).cell? ⟨c'.block, c'.off + 1, none⟩ = some (.int .u64 x.o) := fun k a b d hk => (far _ _ _ _ _ (by simp; omega) (far _ _ _ _ _ (by simp; omega) (far _ _ _ _ _ (by simp; omega) r1)))
      have l2 : ∀ k a b d, (k = w.heap.size + 1 ∨ k = w.heap.size + 2) → ((((W4.setCell ⟨k, 0, none⟩ a).setCell ⟨k, 1, none⟩ b).setCell ⟨k, 2, none⟩ d).drew).cell? ⟨c'.block, c'.off + 2, none⟩ = some (.int .i64 x.g) := fun k a b d hk => (far _ _ _ _ _ (by simp; omega) (far _ _ _ _ _ (by simp; omega) (far _ _ _ _ _ (by simp; omega) r2)))
      have m0 := l0 (w.heap.size + 1) (.int .i64 n) (.slice oa m oc) (.int .u64 o) (.inl rfl)
      have m1 := l1 (w.heap.size + 1) (.int .i64 n) (.slice oa m oc) (.int .u64 o) (.inl rfl)
      have m2 := l2 (w.heap.size + 1) (.int .i64 n) (.slice oa m oc) (.int .u64 o) (.inl rfl)
      clear far l0 l1 l2
      go_region
      have hrow4 := World.ownsRow.lt F.out.2.2.2.2.1
      have T1 := Lib.hid (td_set F.out.2.1 (.int .i64 n) (.slice oa m oc) (.int .u64 o))
      have T2 := Lib.hid (below_box (i := 0) (j := 1) (l := 2) (a := .int .i64 x.w) (b := .int .u64 x.o) (c := .int .i64 x.g) (below_box (i := 0) (j := 1) (l := 2) (a := .int .i64 n) (b := .slice oa m oc) (c := .int .u64 o) F.out.2.2.2.2.2 (show w.heap.size ≤ w.heap.size + 1 by omega)) (show w.heap.size ≤ w.heap.size + 1 + 1 by omega))
      have T3 : Hid (OwnsT ((((((W4.setCell ⟨w.heap.size + 1, 0, none⟩ (.int .i64 n)).setCell ⟨w.heap.size + 1, 1, none⟩ (.slice oa m oc)).setCell ⟨w.heap.size + 1, 2, none⟩ (.int .u64 o)).setCell ⟨w.heap.size + 1 + 1, 0, none⟩ (.int .i64 x.w)).setCell ⟨w.heap.size + 1 + 1, 1, none⟩ (.int .u64 x.o)).setCell ⟨w.heap.size + 1 + 1, 2, none⟩ (.int .i64 x.g)) w.heap.size (.slice oa m oc) (but x D)) :=
        Lib.hid (ownsT_lower (ownsT_heap F.out.2.2.2.2.1 (fun j hj => by have := (hrow4 j hj).1; exact (box_other (by omega)).trans (box_other (by omega)))) (by omega))
      clear m0 m1 m2 r0 r1 r2 z0 z1 z2 y0 y1 y2 x0 x1 x2 fx fy
      go_wp2_with fail
      refine bodyPost_ret (results_td3 rfl _ _ (w.heap.size + 1) (w.heap.size + 1 + 1) (.int .i64 n) (.slice oa m oc) (.int .u64 o) (.bool true) x ?_ ?_ rfl rfl rfl) rfl ⟨_, rfl, ?_, ?_⟩
      · exact heap_drew.trans ((box_other (by omega)).trans T1.out)
      · exact heap_drew.trans (box_setR ((box_other (by omega)).trans F.out.2.2.1) x)
      · exact ownsT_drew T3.out
      · exact T2.out.trans below_drew
end Go.Proofs.YtlhblhgbpaipaaaGreat.Hp
