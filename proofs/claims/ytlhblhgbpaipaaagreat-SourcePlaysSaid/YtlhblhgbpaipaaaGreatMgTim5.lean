import Derived.Test.YtlhblhgbpaipaaaGreatRefTim4
import Derived.Test.YtlhblhgbpaipaaaGreatRows
import Derived.WalkKit
import Derived.Deep.RegionHeld3
/- RefTim5 -/
namespace Go.Proofs.YtlhblhgbpaipaaaGreat.Hp
open Go.RowKit Go.Shelf
set_option linter.unusedVariables false
set_option linter.unusedSimpArgs false

set_option maxRecDepth 100000 in
set_option maxHeartbeats 2000000 in
theorem radd_arg {w : World} {v : Value} {D : List Tim} {lo : Nat} (hv : TSees w lo v D) (n o p g when : Int) (hbad : p < 0 ∨ n ≤ p ∨ g < 0 ∨ 4095 < g) :
    Calls Tryz.prog 54 #[.agg #[.int .i64 n, v, .int .u64 o], .int .i64 p, .int .i64 g, .int .i64 when] w fun x w' => x = .returned (.tuple #[.agg #[.int .i64 n, v, .int .u64 o], .int .i64 1]) ∧ Below w.heap.size w w' := by
  obtain ⟨a, cap, rfl, _⟩ := hv
  have hbl : Hid (Below w.heap.size w ((w.alloc (.cells #[.int .i64 n, .slice a D.length cap, .int .u64 o] TD)).alloc (.cells #[.int .i64 n, .slice a D.length cap, .int .u64 o] TD))) := Lib.hid (((Below.refl _ _).alloc (Nat.le_refl _) _).alloc (by simp) _)
  have hnw : Hid (((w.alloc (.cells #[.int .i64 n, .slice a D.length cap, .int .u64 o] TD)).alloc (.cells #[.int .i64 n, .slice a D.length cap, .int .u64 o] TD)).heap[w.heap.size + 1]? = some (.cells #[.int .i64 n, .slice a D.length cap, .int .u64 o] TD (0, 0))) := Lib.hid (by
    have := heap_alloc_new (w.alloc (.cells #[.int .i64 n, .slice a D.length cap, .int .u64 o] TD)) (.cells #[.int .i64 n, .slice a D.length cap, .int .u64 o] TD)
    simpa using this)
  by_cases h1 : p < 0
  · go_enter Tryz.func54, Tryz.ntmps54
    go_wp2_with fail
    refine bodyPost_ret (results_td2 rfl _ _ (w.heap.size + 1) (.int .i64 n) (.slice a D.length cap) (.int .u64 o) (.int .i64 1) hnw.out rfl rfl) rfl ⟨rfl, hbl.out⟩
  · by_cases h2 : n ≤ p
    · go_enter Tryz.func54, Tryz.ntmps54
      go_wp2_with fail
      refine bodyPost_ret (results_td2 rfl _ _ (w.heap.size + 1) (.int .i64 n) (.slice a D.length cap) (.int .u64 o) (.int .i64 1) hnw.out rfl rfl) rfl ⟨rfl, hbl.out⟩
    · by_cases h3 : g < 0
      · go_enter Tryz.func54, Tryz.ntmps54
        go_wp2_with fail
        refine bodyPost_ret (results_td2 rfl _ _ (w.heap.size + 1) (.int .i64 n) (.slice a D.length cap) (.int .u64 o) (.int .i64 1) hnw.out rfl rfl) rfl ⟨rfl, hbl.out⟩
      · have h4 : 4095 < g := by omega
        go_enter Tryz.func54, Tryz.ntmps54
        go_wp2_with fail
        refine bodyPost_ret (results_td2 rfl _ _ (w.heap.size + 1) (.int .i64 n) (.slice a D.length cap) (.int .u64 o) (.int .i64 1) hnw.out rfl rfl) rfl ⟨rfl, hbl.out⟩

/-- The two blocks that Add lays first. -/
theorem add_blocks (w : World) (n o : Int) (v : Value) : ∃ W, W = (w.alloc (.cells #[.int .i64 n, v, .int .u64 o] TD)).alloc (.cells #[.int .i64 0, .slice none 0 0, .int .u64 0] TD) ∧
    W.heap[w.heap.size]? = some (.cells #[.int .i64 n, v, .int .u64 o] TD (0, 0)) ∧ W.heap[w.heap.size + 1]? = some (.cells #[.int .i64 0, .slice none 0 0, .int .u64 0] TD (0, 0)) ∧ Below w.heap.size w W ∧ W.heap.size = w.heap.size + 2 := by
  refine ⟨_, rfl, ?_, ?_, ?_, by simp⟩
  · exact (heap_alloc_old _ _ (by simp)).trans (heap_alloc_new _ _)
  · have := heap_alloc_new (w.alloc (.cells #[.int .i64 n, v, .int .u64 o] TD)) (.cells #[.int .i64 0, .slice none 0 0, .int .u64 0] TD)
    simpa using this
  · exact ((Below.refl _ _).alloc (Nat.le_refl _) _).alloc (by simp) _

set_option maxRecDepth 100000 in
set_option maxHeartbeats 2000000 in
theorem radd_same {w : World} {v : Value} {D : List Tim} {lo : Nat} (hv : TSees w lo v D) (hbig : D.length ≤ 1000) (n o p g when : Int) (h1 : 0 ≤ p) (h2 : p < n) (h3 : 0 ≤ g) (h4 : g ≤ 4095) (hg : (D.any fun y => decide (y.e.g = g)) = true) :
    Calls Tryz.prog 54 #[.agg #[.int .i64 n, v, .int .u64 o], .int .i64 p, .int .i64 g, .int .i64 when] w fun x w' => x = .returned (.tuple #[.agg #[.int .i64 n, v, .int .u64 o], .int .i64 8]) ∧ Below w.heap.size w w' := by
  have HV := Lib.hid hv
  have HG := Lib.hid hg
  obtain ⟨a, cap, rfl, _⟩ := hv
  obtain ⟨W, hW, b0, b1, hb, hs⟩ := add_blocks w n o (.slice a D.length cap)
  have H := Lib.hid (And.intro b0 (And.intro b1 (And.intro hb hs)))
  have e1 : (p < 0) = False := eq_false (by omega)
  have e3 : (g < 0) = False := eq_false (by omega)
  have e4 : (4095 < g) = False := eq_false (by omega)
  clear b0 b1 hb hs hg
  go_enter Tryz.func54, Tryz.ntmps54
  go_wp2_with fail
  rw [← hW]
  clear hW
  refine (rthas_is (HV.out.below H.out.2.2.1) hbig n o g HG.out).mono ?_
  rintro e w1 ⟨rfl, hb1⟩
  have K := Lib.hid (show w1.heap[w.heap.size]? = some (.cells #[.int .i64 n, .slice a D.length cap, .int .u64 o] TD (0, 0)) ∧ w1.heap[w.heap.size + 1]? = some (.cells #[.int .i64 0, .slice none 0 0, .int .u64 0] TD (0, 0)) ∧ Below w.heap.size w w1 from
    ⟨(hb1.block _ (by have := H.out.2.2.2; omega)).trans H.out.1, (hb1.block _ (by have := H.out.2.2.2; omega)).trans H.out.2.1, H.out.2.2.1.trans (hb1.mono H.out.2.2.1.size)⟩)
  have z0 : w1.cell? ⟨w.heap.size, 0, none⟩ = some (.int .i64 n) := cell_of_row _ _ 0 _ _ _ K.out.1
  have z1 : w1.cell? ⟨w.heap.size, 1, none⟩ = some (.slice a D.length cap) := cell_of_row _ _ 1 _ _ _ K.out.1
  have z2 : w1.cell? ⟨w.heap.size, 2, none⟩ = some (.int .u64 o) := cell_of_row _ _ 2 _ _ _ K.out.1
  have y0 : w1.cell? ⟨w.heap.size + 1, 0, none⟩ = some (.int .i64 0) := cell_of_row _ _ 0 _ _ _ K.out.2.1
  have y1 : w1.cell? ⟨w.heap.size + 1, 1, none⟩ = some (.slice none 0 0) := cell_of_row _ _ 1 _ _ _ K.out.2.1
  have y2 : w1.cell? ⟨w.heap.size + 1, 2, none⟩ = some (.int .u64 0) := cell_of_row _ _ 2 _ _ _ K.out.2.1
  have fy : ∀ i, w1.frozen? ⟨w.heap.size + 1, i, none⟩ = false := fun i => frozen_of_row _ _ i _ _ K.out.2.1
  have T := Lib.hid (td_set K.out.2.1 (.int .i64 n) (.slice a D.length cap) (.int .u64 o))
  clear hb1 H
  go_wp2_with fail
  refine bodyPost_ret (results_td2 rfl _ _ (w.heap.size + 1) (.int .i64 n) (.slice a D.length cap) (.int .u64 o) (.int .i64 8) T.out rfl rfl) rfl ⟨rfl, below_box K.out.2.2 (by omega)⟩
end Go.Proofs.YtlhblhgbpaipaaaGreat.Hp

/- RegionOwn -/
namespace Go.Proofs.YtlhblhgbpaipaaaGreat.Own
open Go.RowKit

section
variable {P : Program} {ops : Array Oper} {Q : Exit → Act → World → Prop} {md : Region.Mode} {S : World → Prop}
theorem yes {i : Nat} {oi : Oper} {v : Value} {d : Option Tmp} {fuel : Nat} {listed : Array Bool} {a : Act} {w : World} (hi : ops[i]? = some oi) (hd : oi.dst = d)
    (hs : Region.noSelect ops = true) (hf : Region.free md ops listed i = true) (hr : (Region.ready md ops listed).contains i = true)
    (hQ : ∀ c a w, Q (.panic c) (a.put d v) w → Q (.panic c) a w) (hw : Region.wanted oi (yielded ops a.tmps) = true) (hy : ∀ w, S w → (execOp a.eval oi).run P w = .ok (.value v) w) (hS : S w)
    (h : wpAnyH P md ops Q S fuel (listed.setIfInBounds i true) (a.put d v) w) : wpAnyH P md ops Q S (fuel + 1) listed a w := by
  subst hd
  exact wpAnyH_take hi hs hf hr hQ (.inl ⟨hw, hy⟩) hS h
theorem no {i : Nat} {oi : Oper} {d : Option Tmp} {fuel : Nat} {listed : Array Bool} {a : Act} {w : World} (hi : ops[i]? = some oi) (hd : oi.dst = d)
    (hs : Region.noSelect ops = true) (hf : Region.free md ops listed i = true) (hr : (Region.ready md ops listed).contains i = true)
    (hQ : ∀ c a w, Q (.panic c) (a.put d undef) w → Q (.panic c) a w) (hw : Region.wanted oi (yielded ops a.tmps) = false) (hS : S w)
    (h : wpAnyH P md ops Q S fuel (listed.setIfInBounds i true) (a.put d undef) w) : wpAnyH P md ops Q S (fuel + 1) listed a w := by
  subst hd
  exact wpAnyH_take hi hs hf hr hQ (.inr ⟨hw, rfl⟩) hS h
/-- The one that may come up is a call of a Go function: its contract. -/
theorem call {i : Nat} {oi : Oper} {d : Option Tmp} {fn : Nat} {vs : Array Value} {fuel : Nat} {listed : Array Bool} {a : Act} {w : World} {C : Ending → World → Prop} (hi : ops[i]? = some oi) (hd : oi.dst = d)
    (hr : Region.ready md ops listed = [i]) (hw : Region.wanted oi (yielded ops a.tmps) = true) (hx : (execOp a.eval oi).run P w = .ok (.enter fn vs) w)
    (hc : Calls P fn vs w C) (h : ∀ e w', C e w' → ∃ v, e = .returned v ∧ S w' ∧ (S w' → wpAnyH P md ops Q S fuel (listed.setIfInBounds i true) (a.put d v) w')) : wpAnyH P md ops Q S (fuel + 1) listed a w := by
  subst hd
  refine wpAnyH_all hr (by simp) ?_
  intro j hj
  obtain rfl : j = i := by simpa using hj
  unfold wpOp
  simp only [hi]
  rw [if_pos hw]
  left
  unfold Oper.wp
  rw [hx, Oper.upon_enter]
  refine hc.mono fun e w' hC => ?_
  obtain ⟨v, rfl, hS, hk⟩ := h e w' hC
  exact ⟨hS, hk hS⟩
/-- At an operation that may come up: what its weakest precondition is. -/
theorem op {i : Nat} {oi : Oper} {a : Act} {w : World} {K : Act → World → Prop} (hi : ops[i]? = some oi) (hw : Region.wanted oi (yielded ops a.tmps) = true) (h : oi.wp P a w K Q) : wpOp P ops Q i K a w := by
  unfold wpOp
  simp only [hi]
  rw [if_pos hw]
  exact .inl h
/-- An operation that yields, and maybe changes the world. -/
theorem run {oi : Oper} {v : Value} {a : Act} {w w' : World} {K : Act → World → Prop} (hx : (execOp a.eval oi).run P w = .ok (.value v) w') (h : K (a.put oi.dst v) w') : oi.wp P a w K Q := by
  unfold Oper.wp
  rw [hx]
  exact h
end
end Go.Proofs.YtlhblhgbpaipaaaGreat.Own
