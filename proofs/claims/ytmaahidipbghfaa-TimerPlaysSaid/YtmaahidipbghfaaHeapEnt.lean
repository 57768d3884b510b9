/-
  Package heap: entries, and which one stands ahead.
-/
import Derived.Test.YtmaahidipbghfaaRows
import Derived.WalkKit
import Derived.WalkSpells
import Derived.WalkLawsBesides
import Derived.Lib.Hide
import Derived.RegionTactic
import Derived.OpenShut
import Derived.StillTailTactics
import Derived.Deep.QuietTactic
import Derived.BigQuiet
import Derived.LoopN
import Derived.Outline
namespace Go.Proofs.Ytmaahidipbghfaa.Hp
open Go.RowKit
set_option linter.unusedVariables false

structure Ent where
  w : Int
  o : Int
  g : Int
deriving DecidableEq
def Ent.vals (e : Ent) : List Value := [.int .i64 e.w, .int .u64 e.o, .int .i64 e.g]
abbrev Ent.agg (e : Ent) : Value := .agg #[.int .i64 e.w, .int .u64 e.o, .int .i64 e.g]
abbrev Ent.cells (e : Ent) : Array Value := #[.int .i64 e.w, .int .u64 e.o, .int .i64 e.g]

def cmp3 (x y : Int) : Int := if x < y then -1 else if y < x then 1 else 0
def orI (x y z : Int) : Int := if x ≠ 0 then x else if y ≠ 0 then y else z
/-- Does one stand ahead of another one? -/
def aheadB (a b : Ent) : Bool := decide (a.w < b.w ∨ a.w = b.w ∧ (a.o < b.o ∨ a.o = b.o ∧ a.g < b.g))
def ordI (a b : Ent) : Int := orI (cmp3 a.w b.w) (cmp3 a.o b.o) (cmp3 a.g b.g)
theorem ordI_lt (a b : Ent) : decide (ordI a b < 0) = aheadB a b := by
  unfold ordI aheadB orI cmp3
  rw [decide_eq_decide]
  (repeat' split) <;> omega
theorem cmp3_in (x y : Int) : -1 ≤ cmp3 x y ∧ cmp3 x y ≤ 1 := by unfold cmp3; (repeat' split) <;> omega
theorem ordI_in (a b : Ent) : -1 ≤ ordI a b ∧ ordI a b ≤ 1 := by
  unfold ordI orI
  have := cmp3_in a.w b.w; have := cmp3_in a.o b.o; have := cmp3_in a.g b.g
  (repeat' split) <;> omega

theorem ret_i {k : IntKind} {a b : Int} (h : a = b) : Ending.returned (.int k a) = .returned (.int k b) := by rw [h]
theorem ret_b {a b : Bool} (h : a = b) : Ending.returned (.bool a) = .returned (.bool b) := by rw [h]

theorem nan_i64 (x : Int) (w : World) : Calls Try.prog 49 #[.int .i64 x] w fun e w' => e = .returned (.bool false) ∧ w = w' := by
  go_enter Try.func49, Try.ntmps49
  go_wp2
  go_ret
  exact ⟨ret_b (by simp), rfl⟩
theorem nan_u64 (x : Int) (w : World) : Calls Try.prog 50 #[.int .u64 x] w fun e w' => e = .returned (.bool false) ∧ w = w' := by
  go_enter Try.func50, Try.ntmps50
  go_wp2
  go_ret
  exact ⟨ret_b (by simp), rfl⟩
theorem nan_int (x : Int) (w : World) : Calls Try.prog 51 #[.int .i64 x] w fun e w' => e = .returned (.bool false) ∧ w = w' := by
  go_enter Try.func51, Try.ntmps51
  go_wp2
  go_ret
  exact ⟨ret_b (by simp), rfl⟩

theorem cmp_i64 (x y : Int) (w : World) : Calls Try.prog 43 #[.int .i64 x, .int .i64 y] w fun e w' => e = .returned (.int .i64 (cmp3 x y)) ∧ w' = w := by
  rcases (show x < y ∨ (¬ x < y ∧ y < x) ∨ (¬ x < y ∧ ¬ y < x) by omega) with h | ⟨h, h'⟩ | ⟨h, h'⟩
  · rw [show cmp3 x y = -1 by unfold cmp3; rw [if_pos h]]
    go_enter Try.func43, Try.ntmps43
    go_wp2_with (go_at_call 49; refine (nan_i64 _ _).mono ?_; rintro e w' ⟨rfl, rfl⟩)
    go_ret
    exact ⟨rfl, rfl⟩
  · rw [show cmp3 x y = 1 by unfold cmp3; rw [if_neg h, if_pos h']]
    go_enter Try.func43, Try.ntmps43
    go_wp2_with (go_at_call 49; refine (nan_i64 _ _).mono ?_; rintro e w' ⟨rfl, rfl⟩)
    go_ret
    exact ⟨rfl, rfl⟩
  · rw [show cmp3 x y = 0 by unfold cmp3; rw [if_neg h, if_neg h']]
    go_enter Try.func43, Try.ntmps43
    go_wp2_with (go_at_call 49; refine (nan_i64 _ _).mono ?_; rintro e w' ⟨rfl, rfl⟩)
    go_ret
    exact ⟨rfl, rfl⟩
theorem cmp_u64 (x y : Int) (w : World) : Calls Try.prog 44 #[.int .u64 x, .int .u64 y] w fun e w' => e = .returned (.int .i64 (cmp3 x y)) ∧ w' = w := by
  rcases (show x < y ∨ (¬ x < y ∧ y < x) ∨ (¬ x < y ∧ ¬ y < x) by omega) with h | ⟨h, h'⟩ | ⟨h, h'⟩
  · rw [show cmp3 x y = -1 by unfold cmp3; rw [if_pos h]]
    go_enter Try.func44, Try.ntmps44
    go_wp2_with (go_at_call 50; refine (nan_u64 _ _).mono ?_; rintro e w' ⟨rfl, rfl⟩)
    go_ret
    exact ⟨rfl, rfl⟩
  · rw [show cmp3 x y = 1 by unfold cmp3; rw [if_neg h, if_pos h']]
    go_enter Try.func44, Try.ntmps44
    go_wp2_with (go_at_call 50; refine (nan_u64 _ _).mono ?_; rintro e w' ⟨rfl, rfl⟩)
    go_ret
    exact ⟨rfl, rfl⟩
  · rw [show cmp3 x y = 0 by unfold cmp3; rw [if_neg h, if_neg h']]
    go_enter Try.func44, Try.ntmps44
    go_wp2_with (go_at_call 50; refine (nan_u64 _ _).mono ?_; rintro e w' ⟨rfl, rfl⟩)
    go_ret
    exact ⟨rfl, rfl⟩
theorem cmp_int (x y : Int) (w : World) : Calls Try.prog 45 #[.int .i64 x, .int .i64 y] w fun e w' => e = .returned (.int .i64 (cmp3 x y)) ∧ w' = w := by
  rcases (show x < y ∨ (¬ x < y ∧ y < x) ∨ (¬ x < y ∧ ¬ y < x) by omega) with h | ⟨h, h'⟩ | ⟨h, h'⟩
  · rw [show cmp3 x y = -1 by unfold cmp3; rw [if_pos h]]
    go_enter Try.func45, Try.ntmps45
    go_wp2_with (go_at_call 51; refine (nan_int _ _).mono ?_; rintro e w' ⟨rfl, rfl⟩)
    go_ret
    exact ⟨rfl, rfl⟩
  · rw [show cmp3 x y = 1 by unfold cmp3; rw [if_neg h, if_pos h']]
    go_enter Try.func45, Try.ntmps45
    go_wp2_with (go_at_call 51; refine (nan_int _ _).mono ?_; rintro e w' ⟨rfl, rfl⟩)
    go_ret
    exact ⟨rfl, rfl⟩
  · rw [show cmp3 x y = 0 by unfold cmp3; rw [if_neg h, if_neg h']]
    go_enter Try.func45, Try.ntmps45
    go_wp2_with (go_at_call 51; refine (nan_int _ _).mono ?_; rintro e w' ⟨rfl, rfl⟩)
    go_ret
    exact ⟨rfl, rfl⟩

set_option maxHeartbeats 1000000 in
theorem or_is (w : World) (g : Nat) (x y z : Int) (c0 : w.cell? ⟨g, 0, none⟩ = some (.int .i64 x)) (c1 : w.cell? ⟨g, 1, none⟩ = some (.int .i64 y)) (c2 : w.cell? ⟨g, 2, none⟩ = some (.int .i64 z)) :
    Calls Try.prog 42 #[.slice (some ⟨g, 0, none⟩) 3 3] w fun e w' => e = .returned (.int .i64 (orI x y z)) ∧ w = w' := by
  by_cases hx : x = 0
  · have bx : (x == 0) = true := by simpa using hx
    have bx' : (x != 0) = false := by simpa using hx
    by_cases hy : y = 0
    · have bY : (y == 0) = true := by simpa using hy
      have bY' : (y != 0) = false := by simpa using hy
      by_cases hz : z = 0
      · have bz : (z == 0) = true := by simpa using hz
        have bz' : (z != 0) = false := by simpa using hz
        have e : orI x y z = 0 := by unfold orI; simp [*]
        rw [e]; clear e hx hy hz
        go_enter Try.func42, Try.ntmps42
        go_wp2
        refine wp_loop_rounds 4 ?_
        iterate 4 (rw [rounds_succ]; go_wp2)
        go_ret
        exact ⟨rfl, rfl⟩
      · have bz : (z == 0) = false := by simpa using hz
        have bz' : (z != 0) = true := by simpa using hz
        have e : orI x y z = z := by unfold orI; simp [*]
        rw [e]; clear e hx hy hz
        go_enter Try.func42, Try.ntmps42
        go_wp2
        refine wp_loop_rounds 4 ?_
        iterate 3 (rw [rounds_succ]; go_wp2)
        go_ret
        exact ⟨rfl, rfl⟩
    · have bY : (y == 0) = false := by simpa using hy
      have bY' : (y != 0) = true := by simpa using hy
      have e : orI x y z = y := by unfold orI; simp [*]
      rw [e]; clear e hx hy
      go_enter Try.func42, Try.ntmps42
      go_wp2
      refine wp_loop_rounds 4 ?_
      iterate 2 (rw [rounds_succ]; go_wp2)
      go_ret
      exact ⟨rfl, rfl⟩
  · have bx : (x == 0) = false := by simpa using hx
    have bx' : (x != 0) = true := by simpa using hx
    have e : orI x y z = x := by unfold orI; simp [*]
    rw [e]; clear e hx
    go_enter Try.func42, Try.ntmps42
    go_wp2
    refine wp_loop_rounds 4 ?_
    iterate 1 (rw [rounds_succ]; go_wp2)
    go_ret
    exact ⟨rfl, rfl⟩

theorem cells_two (w : World) (xs ys : Array Value) (t u : TypeId) : (∀ i : Nat, ((w.alloc (.cells xs t)).alloc (.cells ys u)).cell? ⟨w.heap.size, i, none⟩ = xs[i]?) ∧ (∀ i : Nat, ((w.alloc (.cells xs t)).alloc (.cells ys u)).cell? ⟨w.heap.size + 1, i, none⟩ = ys[i]?) := by
  have h1 : ((w.alloc (.cells xs t)).alloc (.cells ys u)).heap[w.heap.size]? = some (.cells xs t (0, 0)) := by
    rw [heap_alloc_old (h := by simp), heap_alloc_new]
  have h2 : ((w.alloc (.cells xs t)).alloc (.cells ys u)).heap[w.heap.size + 1]? = some (.cells ys u (0, 0)) := by
    have := heap_alloc_new (w.alloc (.cells xs t)) (.cells ys u)
    rwa [World.size_alloc] at this
  exact ⟨fun i => cell_of_row _ _ i _ _ _ h1, fun i => cell_of_row _ _ i _ _ _ h2⟩

set_option maxRecDepth 100000 in
set_option maxHeartbeats 1000000 in
theorem order_is (a b : Ent) (w : World) : Calls Try.prog 35 #[a.agg, b.agg] w fun e w' => e = .returned (.int .i64 (ordI a b)) ∧ Below w.heap.size w w' := by
  obtain ⟨h1, h2⟩ := cells_two w a.cells b.cells 30 30
  have a0 := h1 0; have a1 := h1 1; have a2 := h1 2
  have b0 := h2 0; have b1 := h2 1; have b2 := h2 2
  have hb : Below w.heap.size w ((w.alloc (.cells a.cells 30)).alloc (.cells b.cells 30)) := ((Below.refl _ w).alloc (Nat.le_refl _) _).alloc (by simp) _
  have HB := Lib.hid hb
  simp only [List.getElem?_toArray, List.getElem?_cons_zero, List.getElem?_cons_succ] at a0 a1 a2 b0 b1 b2
  clear h1 h2 hb
  go_enter Try.func35, Try.ntmps35
  go_wp2
  have HB' : Hid (Below w.heap.size w ((w.alloc (.cells #[.int .i64 a.w, .int .u64 a.o, .int .i64 a.g] 30)).alloc (.cells #[.int .i64 b.w, .int .u64 b.o, .int .i64 b.g] 30))) := Lib.hid HB.out
  clear HB
  generalize ((w.alloc (.cells #[.int .i64 a.w, .int .u64 a.o, .int .i64 a.g] 30)).alloc (.cells #[.int .i64 b.w, .int .u64 b.o, .int .i64 b.g] 30)) = W at *
  refine wp_region_still_tail 15 (by kernel_rfl) (by kernel_rfl) ?_
  simp only [List.take_succ_cons, List.take_zero, List.drop_succ_cons, List.drop_zero]
  change wpStill _ _ W.drew _ _ _
  repeat still_step
  still_call (cmp_i64 _ _ _)
  repeat still_step
  still_call (cmp_u64 _ _ _)
  repeat still_step
  still_call (cmp_int _ _ _)
  refine wpStill_nil ?_
  go_wp2_with fail
  have hn : (W.alloc (.cells #[.int .i64 (cmp3 a.w b.w), .int .i64 (cmp3 a.o b.o), .int .i64 (cmp3 a.g b.g)] 3)).drew.heap[W.heap.size]? = some (.cells #[.int .i64 (cmp3 a.w b.w), .int .i64 (cmp3 a.o b.o), .int .i64 (cmp3 a.g b.g)] 3 (0, 0)) := heap_alloc_new _ _
  have d0 := cell_of_row _ _ 0 _ _ _ hn
  have d1 := cell_of_row _ _ 1 _ _ _ hn
  have d2 := cell_of_row _ _ 2 _ _ _ hn
  simp only [List.getElem?_toArray, List.getElem?_cons_zero, List.getElem?_cons_succ] at d0 d1 d2
  clear hn
  refine (or_is _ W.heap.size _ _ _ d0 d1 d2).mono ?_
  rintro e w' ⟨rfl, rfl⟩
  go_wp2_with fail
  go_ret
  exact ⟨rfl, (HB'.out.alloc HB'.out.size _).drew⟩

set_option maxHeartbeats 1000000 in
theorem ahead_is (a b : Ent) (w : World) : Calls Try.prog 31 #[a.agg, b.agg] w fun e w' => e = .returned (.bool (aheadB a b)) ∧ Below w.heap.size w w' := by
  rw [← ordI_lt]
  have hi := ordI_in a b
  go_enter Try.func31, Try.ntmps31
  go_wp2_with fail
  refine (order_is a b _).mono ?_
  rintro e w1 ⟨rfl, hb⟩
  have HB : Hid (Below w.heap.size w w1) := Lib.hid ((((Below.refl _ w).alloc (Nat.le_refl _) _).alloc (by simp) _).trans (hb.mono (by simp; omega)))
  clear hb
  go_wp2_with fail
  go_ret
  exact ⟨rfl, HB.out⟩

set_option maxHeartbeats 1000000 in
theorem rahead_is (a b : Ent) (w : World) : Calls Try.prog 37 #[a.agg, b.agg] w fun e w' => e = .returned (.bool (aheadB a b)) ∧ Below w.heap.size w w' := by
  by_cases h1 : a.w = b.w
  · by_cases h2 : a.o = b.o
    · rw [show aheadB a b = decide (a.g < b.g) from by unfold aheadB; rw [decide_eq_decide]; omega]
      have n1 : (a.w == b.w) = true := by simpa using h1
      have n1' : (a.w != b.w) = false := by simpa using h1
      have n2 : (a.o == b.o) = true := by simpa using h2
      have n2' : (a.o != b.o) = false := by simpa using h2
      clear h1 h2
      go_enter Try.func37, Try.ntmps37
      go_wp2
      go_ret
      exact ⟨rfl, ((Below.refl _ _).alloc (Nat.le_refl _) _).alloc (by simp) _⟩
    · rw [show aheadB a b = decide (a.o < b.o) from by unfold aheadB; rw [decide_eq_decide]; omega]
      have n1 : (a.w == b.w) = true := by simpa using h1
      have n1' : (a.w != b.w) = false := by simpa using h1
      have n2 : (a.o == b.o) = false := by simpa using h2
      have n2' : (a.o != b.o) = true := by simpa using h2
      clear h1 h2
      go_enter Try.func37, Try.ntmps37
      go_wp2
      go_ret
      exact ⟨rfl, ((Below.refl _ _).alloc (Nat.le_refl _) _).alloc (by simp) _⟩
  · rw [show aheadB a b = decide (a.w < b.w) from by unfold aheadB; rw [decide_eq_decide]; omega]
    have n1 : (a.w == b.w) = false := by simpa using h1
    have n1' : (a.w != b.w) = true := by simpa using h1
    clear h1
    go_enter Try.func37, Try.ntmps37
    go_wp2
    go_ret
    exact ⟨rfl, ((Below.refl _ _).alloc (Nat.le_refl _) _).alloc (by simp) _⟩
end Go.Proofs.Ytmaahidipbghfaa.Hp
