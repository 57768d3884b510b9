/-
  The law HeapAhead.
-/
import Derived.Test.YtlnbjnkmhabdaaaHeapLives
import Derived.Test.YtlnbjnkmhabdaaaArgs
import Derived.Deep.RegionHeld3
namespace Go.Proofs.Ytlnbjnkmhabdaaa.Hp
open Go.RowKit
set_option linter.unusedVariables false

theorem ahead_trans {a b c : Ent} (h : aheadB a b = true) (k : aheadB b c = true) : aheadB a c = true := by
  unfold aheadB at *; rw [decide_eq_true_eq] at *; omega
theorem ahead_asym {a b : Ent} (h : aheadB a b = true) : aheadB b a = false := by
  unfold aheadB at *; rw [decide_eq_true_eq] at h; rw [decide_eq_false_iff_not]; omega
theorem ahead_self (a : Ent) : aheadB a a = false := by unfold aheadB; rw [decide_eq_false_iff_not]; omega
theorem ahead_ne {a b : Ent} (h : aheadB a b = true) : decide (a = b) = false := by
  rw [decide_eq_false_iff_not]; rintro rfl; rw [ahead_self] at h; cases h
theorem ahead_three (a b : Ent) : aheadB a b = true ∨ aheadB b a = true ∨ a = b := by
  by_cases h : aheadB a b = true
  · exact .inl h
  · by_cases k : aheadB b a = true
    · exact .inr (.inl k)
    · exact .inr (.inr (le_anti (by unfold le; simpa using k) (by unfold le; simpa using h)))

theorem cells_ent {W0 w : World} {B : Nat} {e : Ent} (h : W0.heap[B]? = some (.cells e.cells 24 (0, 0))) (hb : Below W0.heap.size W0 w) :
    w.cell? ⟨B, 0, none⟩ = some (.int .i64 e.w) ∧ w.cell? ⟨B, 1, none⟩ = some (.int .u64 e.o) ∧ w.cell? ⟨B, 2, none⟩ = some (.int .i64 e.g) := by
  have hB := (hb.block B (Array.getElem?_eq_some_iff.1 h).1).trans h
  exact ⟨cell_of_row _ _ 0 _ _ _ hB, cell_of_row _ _ 1 _ _ _ hB, cell_of_row _ _ 2 _ _ _ hB⟩

theorem ahead_k (W0 : World) (x y : Ent) {W : World} (hb : Below W0.heap.size W0 W) : Calls Try.prog 9 #[x.agg, y.agg] W fun e w' => e = .returned (.bool (aheadB x y)) ∧ Below W0.heap.size W0 w' :=
  (ahead_is x y W).mono fun e w' ⟨h, k⟩ => ⟨h, hb.trans (k.mono hb.size)⟩
theorem rahead_k (W0 : World) (x y : Ent) {W : World} (hb : Below W0.heap.size W0 W) : Calls Try.prog 10 #[x.agg, y.agg] W fun e w' => e = .returned (.bool (aheadB x y)) ∧ Below W0.heap.size W0 w' :=
  (rahead_is x y W).mono fun e w' ⟨h, k⟩ => ⟨h, hb.trans (k.mono hb.size)⟩

set_option maxRecDepth 100000 in
set_option maxHeartbeats 4000000 in
theorem ahead_law (a b c : Ent) (w : World) : Calls Try.prog 3 #[a.agg, b.agg, c.agg] w fun e w' => e = .returned (.bool true) ∧ Below w.heap.size w w' := by
  go_enter Try.func3, Try.ntmps3
  go_wp2_with fail
  refine (lives_is _).mono ?_
  rintro e w1 ⟨rfl, hb⟩
  have hs3 : ∀ x y z : Obj, (((w.alloc x).alloc y).alloc z).heap.size = w.heap.size + 3 := fun x y z => by simp
  rw [hs3] at hb
  have hA : w1.heap[w.heap.size]? = some (.cells a.cells 24 (0, 0)) := (hb.block _ (by omega)).trans ((heap_alloc_old _ _ (by simp; omega)).trans ((heap_alloc_old _ _ (by simp)).trans (heap_alloc_new _ _)))
  have hB : w1.heap[w.heap.size + 1]? = some (.cells b.cells 24 (0, 0)) := (hb.block _ (by omega)).trans ((heap_alloc_old _ _ (by simp)).trans (heap_alloc2_new _ _ _))
  have hC : w1.heap[w.heap.size + 1 + 1]? = some (.cells c.cells 24 (0, 0)) := (hb.block _ (by omega)).trans (by
    have := heap_alloc_new ((w.alloc (.cells a.cells 24)).alloc (.cells b.cells 24)) (.cells c.cells 24)
    simpa using this)
  have HW : Hid (Below w.heap.size w w1) := Lib.hid ((((Below.refl w.heap.size w).alloc (Nat.le_refl _) _).alloc (by simp) _).alloc (by simp; omega) _ |>.trans (hb.mono (by omega)))
  have HA := Lib.hid hA
  have HB := Lib.hid hB
  have HC := Lib.hid hC
  have hr := Below.refl w1.heap.size w1
  obtain ⟨a0, a1, a2⟩ := cells_ent hA hr
  obtain ⟨b0, b1, b2⟩ := cells_ent hB hr
  clear hb hs3 hA hB hC
  go_wp2_with fail
  go_region_held3 (fun w' => Below w1.heap.size w1 w' ∧ w'.cell? ⟨w.heap.size, 0, none⟩ = some (.int .i64 a.w) ∧ w'.cell? ⟨w.heap.size, 1, none⟩ = some (.int .u64 a.o) ∧ w'.cell? ⟨w.heap.size, 2, none⟩ = some (.int .i64 a.g) ∧ w'.cell? ⟨w.heap.size + 1, 0, none⟩ = some (.int .i64 b.w) ∧ w'.cell? ⟨w.heap.size + 1, 1, none⟩ = some (.int .u64 b.o) ∧ w'.cell? ⟨w.heap.size + 1, 2, none⟩ = some (.int .i64 b.g))
    (first | exact ⟨hr.drew, a0, a1, a2, b0, b1, b2⟩ | exact ⟨hb, (cells_ent HA.out hb).1, (cells_ent HA.out hb).2.1, (cells_ent HA.out hb).2.2, (cells_ent HB.out hb).1, (cells_ent HB.out hb).2.1, (cells_ent HB.out hb).2.2⟩)
    (first | (go_at_call 9; refine (ahead_k w1 _ _ (by first | assumption | exact hr.drew | (refine And.left ?_; assumption))).mono ?_; rintro e w2 ⟨rfl, hb⟩))
  clear a0 a1 a2 b0 b1 b2
  obtain ⟨a0, a1, a2⟩ := cells_ent HA.out hb
  obtain ⟨b0, b1, b2⟩ := cells_ent HB.out hb
  have h2 := Lib.hid hb
  clear hb hr
  rcases ahead_three a b with hab | hba | heq
  · have hba := ahead_asym hab
    have HE := Lib.hid (ahead_ne hab)
    go_wp2_with fail
    refine (rahead_k w1 _ _ h2.out).mono ?_
    rintro e w3 ⟨rfl, hb⟩
    have h3 := Lib.hid hb
    clear a0 a1 a2 b0 b1 b2
    obtain ⟨a0, a1, a2⟩ := cells_ent HA.out hb
    obtain ⟨b0, b1, b2⟩ := cells_ent HB.out hb
    obtain ⟨c0, c1, c2⟩ := cells_ent HC.out hb
    clear hb
    go_wp2_with (refine wpList_eql_ent (by rfl) _ _ (by rfl) _ _ (by rfl) (by rfl) false (by exact HE.out) ?_)
    refine (ahead_k w1 b c h3.out).mono ?_
    rintro e w4 ⟨rfl, hb⟩
    have h4 := Lib.hid hb
    clear a0 a1 a2 b0 b1 b2 c0 c1 c2
    obtain ⟨a0, a1, a2⟩ := cells_ent HA.out hb
    obtain ⟨c0, c1, c2⟩ := cells_ent HC.out hb
    clear hb
    by_cases hbc : aheadB b c = true
    · have hac := ahead_trans hab hbc
      go_wp2_with fail
      refine (ahead_k w1 a c h4.out).mono ?_
      rintro e w5 ⟨rfl, hb⟩
      have h5 := Lib.hid hb
      clear hb
      go_wp2_with fail
      go_ret
      exact ⟨rfl, HW.out.trans (h5.out.mono HW.out.size)⟩
    · have hbc' : aheadB b c = false := by simpa using hbc
      clear hbc
      go_wp2_with fail
      go_ret
      exact ⟨rfl, HW.out.trans (h4.out.mono HW.out.size)⟩
  · have hab := ahead_asym hba
    have HE : Hid (decide (a = b) = false) := Lib.hid (by have := ahead_ne hba; rw [decide_eq_false_iff_not] at *; exact fun e => this e.symm)
    go_wp2_with fail
    refine (rahead_k w1 _ _ h2.out).mono ?_
    rintro e w3 ⟨rfl, hb⟩
    have h3 := Lib.hid hb
    clear a0 a1 a2 b0 b1 b2
    obtain ⟨a0, a1, a2⟩ := cells_ent HA.out hb
    obtain ⟨b0, b1, b2⟩ := cells_ent HB.out hb
    obtain ⟨c0, c1, c2⟩ := cells_ent HC.out hb
    clear hb
    go_wp2_with (refine wpList_eql_ent (by rfl) _ _ (by rfl) _ _ (by rfl) (by rfl) false (by exact HE.out) ?_)
    go_ret
    exact ⟨rfl, HW.out.trans (h3.out.mono HW.out.size)⟩
  · subst heq
    have hab := ahead_self a
    have HE : Hid (decide (a = a) = true) := Lib.hid (by simp)
    go_wp2_with fail
    refine (rahead_k w1 _ _ h2.out).mono ?_
    rintro e w3 ⟨rfl, hb⟩
    have h3 := Lib.hid hb
    clear a0 a1 a2 b0 b1 b2
    obtain ⟨a0, a1, a2⟩ := cells_ent HA.out hb
    obtain ⟨b0, b1, b2⟩ := cells_ent HB.out hb
    obtain ⟨c0, c1, c2⟩ := cells_ent HC.out hb
    clear hb
    go_wp2_with (refine wpList_eql_ent (by rfl) _ _ (by rfl) _ _ (by rfl) (by rfl) true (by exact HE.out) ?_)
    go_ret
    exact ⟨rfl, HW.out.trans (h3.out.mono HW.out.size)⟩
theorem ents {ns : List Int} (h : Args.Fits [.i64, .u64, .i64] ns) : ∃ e : Ent, (Args.valsOf [.i64, .u64, .i64] ns).toArray = e.cells ∧ (Lit.int .i64 e.w).wf = true ∧ (Lit.int .u64 e.o).wf = true ∧ (Lit.int .i64 e.g).wf = true := by
  obtain ⟨x, y, z, rfl, h0, h1, h2⟩ := Args.fits3 h
  exact ⟨⟨x, y, z⟩, rfl, h0, h1, h2⟩
theorem ahead_any (a b c : List Int) (ha : Args.Fits [.i64, .u64, .i64] a) (hb : Args.Fits [.i64, .u64, .i64] b) (hc : Args.Fits [.i64, .u64, .i64] c) (w : World) :
    Calls Try.prog 3 #[.agg (Args.valsOf [.i64, .u64, .i64] a).toArray, .agg (Args.valsOf [.i64, .u64, .i64] b).toArray, .agg (Args.valsOf [.i64, .u64, .i64] c).toArray] w fun e w' => e = .returned (.bool true) ∧ Below w.heap.size w w' := by
  obtain ⟨x, hx, _⟩ := ents ha
  obtain ⟨y, hy, _⟩ := ents hb
  obtain ⟨z, hz, _⟩ := ents hc
  rw [hx, hy, hz]
  exact ahead_law x y z w
end Go.Proofs.Ytlnbjnkmhabdaaa.Hp
