import Derived.Test.YtlhblhgbpaipaaaGreatRows
import Derived.WalkKit
import Derived.WalkSpells
import Derived.WalkLawsBesides
import Derived.Lib.Hide
import Derived.RegionTactic
import Derived.OpenShut
import Derived.StillTailTactics
import Derived.Deep.QuietTactic
import Derived.BigQuiet
import Derived.LoopN
import Derived.Outline
import Derived.OwnWalk
import Derived.BigRegion
import Derived.Deep.RegionHeld3
import Derived.Deep.AppendLies
import Derived.WalkMore
import Derived.Deep.RegionLaw
/- HeapEnt -/
namespace Go.Proofs.YtlhblhgbpaipaaaGreat.Hp
open Go.RowKit
set_option linter.unusedVariables false

structure Ent where
  w : Int
  o : Int
  g : Int
deriving DecidableEq
def Ent.vals (e : Ent) : List Value := [.int .i64 e.w, .int .u64 e.o, .int .i64 e.g]
abbrev Ent.agg (e : Ent) : Value := .agg #[.int .i64 e.w, .int .u64 e.o, .int .i64 e.g]
abbrev Ent.cells (e : Ent) : Array Value := #[.int .i64 e.w, .int .u64 e.o, .int .i64 e.g]

def cmp3 (x y : Int) : Int := if x < y then -1 else if y < x then 1 else 0
def orI (x y z : Int) : Int := if x ≠ 0 then x else if y ≠ 0 then y else z
/-- Does one stand ahead of another one? -/
def aheadB (a b : Ent) : Bool := decide (a.w < b.w ∨ a.w = b.w ∧ (a.o < b.o ∨ a.o = b.o ∧ a.g < b.g))
def ordI (a b : Ent) : Int := orI (cmp3 a.w b.w) (cmp3 a.o b.o) (cmp3 a.g b.g)
theorem ordI_lt (a b : Ent) : decide (ordI a b < 0) = aheadB a b := by
  unfold ordI aheadB orI cmp3
  rw [decide_eq_decide]
  (repeat' split) <;> omega
theorem cmp3_in (x y : Int) : -1 ≤ cmp3 x y ∧ cmp3 x y ≤ 1 := by unfold cmp3; (repeat' split) <;> omega
theorem ordI_in (a b : Ent) : -1 ≤ ordI a b ∧ ordI a b ≤ 1 := by
  unfold ordI orI
  have := cmp3_in a.w b.w; have := cmp3_in a.o b.o; have := cmp3_in a.g b.g
  (repeat' split) <;> omega

theorem ret_i {k : IntKind} {a b : Int} (h : a = b) : Ending.returned (.int k a) = .returned (.int k b) := by rw [h]
theorem ret_b {a b : Bool} (h : a = b) : Ending.returned (.bool a) = .returned (.bool b) := by rw [h]

theorem nan_i64 (x : Int) (w : World) : Calls Tryz.prog 101 #[.int .i64 x] w fun e w' => e = .returned (.bool false) ∧ w = w' := by
  go_enter Tryz.func101, Tryz.ntmps101
  go_wp2
  go_ret
  exact ⟨ret_b (by simp), rfl⟩
theorem nan_u64 (x : Int) (w : World) : Calls Tryz.prog 102 #[.int .u64 x] w fun e w' => e = .returned (.bool false) ∧ w = w' := by
  go_enter Tryz.func102, Tryz.ntmps102
  go_wp2
  go_ret
  exact ⟨ret_b (by simp), rfl⟩
theorem nan_int (x : Int) (w : World) : Calls Tryz.prog 103 #[.int .i64 x] w fun e w' => e = .returned (.bool false) ∧ w = w' := by
  go_enter Tryz.func103, Tryz.ntmps103
  go_wp2
  go_ret
  exact ⟨ret_b (by simp), rfl⟩

theorem cmp_i64 (x y : Int) (w : World) : Calls Tryz.prog 87 #[.int .i64 x, .int .i64 y] w fun e w' => e = .returned (.int .i64 (cmp3 x y)) ∧ w' = w := by
  rcases (show x < y ∨ (¬ x < y ∧ y < x) ∨ (¬ x < y ∧ ¬ y < x) by omega) with h | ⟨h, h'⟩ | ⟨h, h'⟩
  · rw [show cmp3 x y = -1 by unfold cmp3; rw [if_pos h]]
    go_enter Tryz.func87, Tryz.ntmps87
    go_wp2_with (go_at_call 101; refine (nan_i64 _ _).mono ?_; rintro e w' ⟨rfl, rfl⟩)
    go_ret
    exact ⟨rfl, rfl⟩
  · rw [show cmp3 x y = 1 by unfold cmp3; rw [if_neg h, if_pos h']]
    go_enter Tryz.func87, Tryz.ntmps87
    go_wp2_with (go_at_call 101; refine (nan_i64 _ _).mono ?_; rintro e w' ⟨rfl, rfl⟩)
    go_ret
    exact ⟨rfl, rfl⟩
  · rw [show cmp3 x y = 0 by unfold cmp3; rw [if_neg h, if_neg h']]
    go_enter Tryz.func87, Tryz.ntmps87
    go_wp2_with (go_at_call 101; refine (nan_i64 _ _).mono ?_; rintro e w' ⟨rfl, rfl⟩)
    go_ret
    exact ⟨rfl, rfl⟩
theorem cmp_u64 (x y : Int) (w : World) : Calls Tryz.prog 88 #[.int .u64 x, .int .u64 y] w fun e w' => e = .returned (.int .i64 (cmp3 x y)) ∧ w' = w := by
  rcases (show x < y ∨ (¬ x < y ∧ y < x) ∨ (¬ x < y ∧ ¬ y < x) by omega) with h | ⟨h, h'⟩ | ⟨h, h'⟩
  · rw [show cmp3 x y = -1 by unfold cmp3; rw [if_pos h]]
    go_enter Tryz.func88, Tryz.ntmps88
    go_wp2_with (go_at_call 102; refine (nan_u64 _ _).mono ?_; rintro e w' ⟨rfl, rfl⟩)
    go_ret
    exact ⟨rfl, rfl⟩
  · rw [show cmp3 x y = 1 by unfold cmp3; rw [if_neg h, if_pos h']]
    go_enter Tryz.func88, Tryz.ntmps88
    go_wp2_with (go_at_call 102; refine (nan_u64 _ _).mono ?_; rintro e w' ⟨rfl, rfl⟩)
    go_ret
    exact ⟨rfl, rfl⟩
  · rw [show cmp3 x y = 0 by unfold cmp3; rw [if_neg h, if_neg h']]
    go_enter Tryz.func88, Tryz.ntmps88
    go_wp2_with (go_at_call 102; refine (nan_u64 _ _).mono ?_; rintro e w' ⟨rfl, rfl⟩)
    go_ret
    exact ⟨rfl, rfl⟩
theorem cmp_int (x y : Int) (w : World) : Calls Tryz.prog 89 #[.int .i64 x, .int .i64 y] w fun e w' => e = .returned (.int .i64 (cmp3 x y)) ∧ w' = w := by
  rcases (show x < y ∨ (¬ x < y ∧ y < x) ∨ (¬ x < y ∧ ¬ y < x) by omega) with h | ⟨h, h'⟩ | ⟨h, h'⟩
  · rw [show cmp3 x y = -1 by unfold cmp3; rw [if_pos h]]
    go_enter Tryz.func89, Tryz.ntmps89
    go_wp2_with (go_at_call 103; refine (nan_int _ _).mono ?_; rintro e w' ⟨rfl, rfl⟩)
    go_ret
    exact ⟨rfl, rfl⟩
  · rw [show cmp3 x y = 1 by unfold cmp3; rw [if_neg h, if_pos h']]
    go_enter Tryz.func89, Tryz.ntmps89
    go_wp2_with (go_at_call 103; refine (nan_int _ _).mono ?_; rintro e w' ⟨rfl, rfl⟩)
    go_ret
    exact ⟨rfl, rfl⟩
  · rw [show cmp3 x y = 0 by unfold cmp3; rw [if_neg h, if_neg h']]
    go_enter Tryz.func89, Tryz.ntmps89
    go_wp2_with (go_at_call 103; refine (nan_int _ _).mono ?_; rintro e w' ⟨rfl, rfl⟩)
    go_ret
    exact ⟨rfl, rfl⟩

set_option maxHeartbeats 1000000 in
theorem or_is (w : World) (g : Nat) (x y z : Int) (c0 : w.cell? ⟨g, 0, none⟩ = some (.int .i64 x)) (c1 : w.cell? ⟨g, 1, none⟩ = some (.int .i64 y)) (c2 : w.cell? ⟨g, 2, none⟩ = some (.int .i64 z)) :
    Calls Tryz.prog 86 #[.slice (some ⟨g, 0, none⟩) 3 3] w fun e w' => e = .returned (.int .i64 (orI x y z)) ∧ w = w' := by
  by_cases hx : x = 0
  · have bx : (x == 0) = true := by simpa using hx
    have bx' : (x != 0) = false := by simpa using hx
    by_cases hy : y = 0
    · have bY : (y == 0) = true := by simpa using hy
      have bY' : (y != 0) = false := by simpa using hy
      by_cases hz : z = 0
      · have bz : (z == 0) = true := by simpa using hz
        have bz' : (z != 0) = false := by simpa using hz
        have e : orI x y z = 0 := by unfold orI; simp [*]
        rw [e]; clear e hx hy hz
        go_enter Tryz.func86, Tryz.ntmps86
        go_wp2
        refine wp_loop_rounds 4 ?_
        iterate 4 (rw [rounds_succ]; go_wp2)
        go_ret
        exact ⟨rfl, rfl⟩
      · have bz : (z == 0) = false := by simpa using hz
        have bz' : (z != 0) = true := by simpa using hz
        have e : orI x y z = z := by unfold orI; simp [*]
        rw [e]; clear e hx hy hz
        go_enter Tryz.func86, Tryz.ntmps86
        go_wp2
        refine wp_loop_rounds 4 ?_
        iterate 3 (rw [rounds_succ]; go_wp2)
        go_ret
        exact ⟨rfl, rfl⟩
    · have bY : (y == 0) = false := by simpa using hy
      have bY' : (y != 0) = true := by simpa using hy
      have e : orI x y z = y := by unfold orI; simp [*]
      rw [e]; clear e hx hy
      go_enter Tryz.func86, Tryz.ntmps86
      go_wp2
      refine wp_loop_rounds 4 ?_
      iterate 2 (rw [rounds_succ]; go_wp2)
      go_ret
      exact ⟨rfl, rfl⟩
  · have bx : (x == 0) = false := by simpa using hx
    have bx' : (x != 0) = true := by simpa using hx
    have e : orI x y z = x := by unfold orI; simp [*]
    rw [e]; clear e hx
    go_enter Tryz.func86, Tryz.ntmps86
    go_wp2
    refine wp_loop_rounds 4 ?_
    iterate 1 (rw [rounds_succ]; go_wp2)
    go_ret
    exact ⟨rfl, rfl⟩

theorem cells_two (w : World) (xs ys : Array Value) (t u : TypeId) : (∀ i : Nat, ((w.alloc (.cells xs t)).alloc (.cells ys u)).cell? ⟨w.heap.size, i, none⟩ = xs[i]?) ∧ (∀ i : Nat, ((w.alloc (.cells xs t)).alloc (.cells ys u)).cell? ⟨w.heap.size + 1, i, none⟩ = ys[i]?) := by
  have h1 : ((w.alloc (.cells xs t)).alloc (.cells ys u)).heap[w.heap.size]? = some (.cells xs t (0, 0)) := by
    rw [heap_alloc_old (h := by simp), heap_alloc_new]
  have h2 : ((w.alloc (.cells xs t)).alloc (.cells ys u)).heap[w.heap.size + 1]? = some (.cells ys u (0, 0)) := by
    have := heap_alloc_new (w.alloc (.cells xs t)) (.cells ys u)
    rwa [World.size_alloc] at this
  exact ⟨fun i => cell_of_row _ _ i _ _ _ h1, fun i => cell_of_row _ _ i _ _ _ h2⟩

set_option maxRecDepth 100000 in
set_option maxHeartbeats 1000000 in
theorem order_is (a b : Ent) (w : World) : Calls Tryz.prog 81 #[a.agg, b.agg] w fun e w' => e = .returned (.int .i64 (ordI a b)) ∧ Below w.heap.size w w' := by
  obtain ⟨h1, h2⟩ := cells_two w a.cells b.cells 90 90
  have a0 := h1 0; have a1 := h1 1; have a2 := h1 2
  have b0 := h2 0; have b1 := h2 1; have b2 := h2 2
  have hb : Below w.heap.size w ((w.alloc (.cells a.cells 90)).alloc (.cells b.cells 90)) := ((Below.refl _ w).alloc (Nat.le_refl _) _).alloc (by simp) _
  have HB := Lib.hid hb
  simp only [List.getElem?_toArray, List.getElem?_cons_zero, List.getElem?_cons_succ] at a0 a1 a2 b0 b1 b2
  clear h1 h2 hb
  go_enter Tryz.func81, Tryz.ntmps81
  go_wp2
  have HB' : Hid (Below w.heap.size w ((w.alloc (.cells #[.int .i64 a.w, .int .u64 a.o, .int .i64 a.g] 90)).alloc (.cells #[.int .i64 b.w, .int .u64 b.o, .int .i64 b.g] 90))) := Lib.hid HB.out
  clear HB
  generalize ((w.alloc (.cells #[.int .i64 a.w, .int .u64 a.o, .int .i64 a.g] 90)).alloc (.cells #[.int .i64 b.w, .int .u64 b.o, .int .i64 b.g] 90)) = W at *
  refine wp_region_still_tail 15 (by kernel_rfl) (by kernel_rfl) ?_
  simp only [List.take_succ_cons, List.take_zero, List.drop_succ_cons, List.drop_zero]
  change wpStill _ _ W.drew _ _ _
  repeat still_step
  still_call (cmp_i64 _ _ _)
  repeat still_step
  still_call (cmp_u64 _ _ _)
  repeat still_step
  still_call (cmp_int _ _ _)
  refine wpStill_nil ?_
  go_wp2_with fail
  have hn : (W.alloc (.cells #[.int .i64 (cmp3 a.w b.w), .int .i64 (cmp3 a.o b.o), .int .i64 (cmp3 a.g b.g)] 3)).drew.heap[W.heap.size]? = some (.cells #[.int .i64 (cmp3 a.w b.w), .int .i64 (cmp3 a.o b.o), .int .i64 (cmp3 a.g b.g)] 3 (0, 0)) := heap_alloc_new _ _
  have d0 := cell_of_row _ _ 0 _ _ _ hn
  have d1 := cell_of_row _ _ 1 _ _ _ hn
  have d2 := cell_of_row _ _ 2 _ _ _ hn
  simp only [List.getElem?_toArray, List.getElem?_cons_zero, List.getElem?_cons_succ] at d0 d1 d2
  clear hn
  refine (or_is _ W.heap.size _ _ _ d0 d1 d2).mono ?_
  rintro e w' ⟨rfl, rfl⟩
  go_wp2_with fail
  go_ret
  exact ⟨rfl, (HB'.out.alloc HB'.out.size _).drew⟩

set_option maxHeartbeats 1000000 in
theorem ahead_is (a b : Ent) (w : World) : Calls Tryz.prog 71 #[a.agg, b.agg] w fun e w' => e = .returned (.bool (aheadB a b)) ∧ Below w.heap.size w w' := by
  rw [← ordI_lt]
  have hi := ordI_in a b
  go_enter Tryz.func71, Tryz.ntmps71
  go_wp2_with fail
  refine (order_is a b _).mono ?_
  rintro e w1 ⟨rfl, hb⟩
  have HB : Hid (Below w.heap.size w w1) := Lib.hid ((((Below.refl _ w).alloc (Nat.le_refl _) _).alloc (by simp) _).trans (hb.mono (by simp; omega)))
  clear hb
  go_wp2_with fail
  go_ret
  exact ⟨rfl, HB.out⟩

set_option maxHeartbeats 1000000 in
theorem rahead_is (a b : Ent) (w : World) : Calls Tryz.prog 80 #[a.agg, b.agg] w fun e w' => e = .returned (.bool (aheadB a b)) ∧ Below w.heap.size w w' := by
  by_cases h1 : a.w = b.w
  · by_cases h2 : a.o = b.o
    · rw [show aheadB a b = decide (a.g < b.g) from by unfold aheadB; rw [decide_eq_decide]; omega]
      have n1 : (a.w == b.w) = true := by simpa using h1
      have n1' : (a.w != b.w) = false := by simpa using h1
      have n2 : (a.o == b.o) = true := by simpa using h2
      have n2' : (a.o != b.o) = false := by simpa using h2
      clear h1 h2
      go_enter Tryz.func80, Tryz.ntmps80
      go_wp2
      go_ret
      exact ⟨rfl, ((Below.refl _ _).alloc (Nat.le_refl _) _).alloc (by simp) _⟩
    · rw [show aheadB a b = decide (a.o < b.o) from by unfold aheadB; rw [decide_eq_decide]; omega]
      have n1 : (a.w == b.w) = true := by simpa using h1
      have n1' : (a.w != b.w) = false := by simpa using h1
      have n2 : (a.o == b.o) = false := by simpa using h2
      have n2' : (a.o != b.o) = true := by simpa using h2
      clear h1 h2
      go_enter Tryz.func80, Tryz.ntmps80
      go_wp2
      go_ret
      exact ⟨rfl, ((Below.refl _ _).alloc (Nat.le_refl _) _).alloc (by simp) _⟩
  · rw [show aheadB a b = decide (a.w < b.w) from by unfold aheadB; rw [decide_eq_decide]; omega]
    have n1 : (a.w == b.w) = false := by simpa using h1
    have n1' : (a.w != b.w) = true := by simpa using h1
    clear h1
    go_enter Tryz.func80, Tryz.ntmps80
    go_wp2
    go_ret
    exact ⟨rfl, ((Below.refl _ _).alloc (Nat.le_refl _) _).alloc (by simp) _⟩
end Go.Proofs.YtlhblhgbpaipaaaGreat.Hp

/- HeapRow -/
namespace Go.Proofs.YtlhblhgbpaipaaaGreat.Hp
open Go.RowKit
set_option linter.unusedVariables false

instance : Inhabited Ent := ⟨⟨0, 0, 0⟩⟩
def flat (es : List Ent) : List Value := es.flatMap Ent.vals
theorem flat_nil : flat [] = [] := rfl
theorem flat_cons (e : Ent) (es : List Ent) : flat (e :: es) = .int .i64 e.w :: .int .u64 e.o :: .int .i64 e.g :: flat es := rfl
theorem flat_append (es fs : List Ent) : flat (es ++ fs) = flat es ++ flat fs := by simp [flat]
theorem flat_len (es : List Ent) : (flat es).length = es.length * 3 := by
  induction es with
  | nil => rfl
  | cons e t ih => rw [flat_cons]; simp [ih]; omega
theorem flat_get {es : List Ent} {i : Nat} {e : Ent} (h : es[i]? = some e) : (flat es)[i * 3]? = some (.int .i64 e.w) ∧ (flat es)[i * 3 + 1]? = some (.int .u64 e.o) ∧ (flat es)[i * 3 + 2]? = some (.int .i64 e.g) := by
  induction es generalizing i with
  | nil => simp at h
  | cons x t ih =>
    rw [flat_cons]
    cases i with
    | zero => simp at h; subst h; exact ⟨rfl, rfl, rfl⟩
    | succ i =>
      simp at h
      have := ih h
      rw [show (i + 1) * 3 = i * 3 + 1 + 1 + 1 by omega]
      simpa using this
theorem flat_set {es : List Ent} {i : Nat} (e : Ent) : (((flat es).set (i * 3) (.int .i64 e.w)).set (i * 3 + 1) (.int .u64 e.o)).set (i * 3 + 2) (.int .i64 e.g) = flat (es.set i e) ∨ es.length ≤ i := by
  induction es generalizing i with
  | nil => right; simp
  | cons x t ih =>
    cases i with
    | zero => left; simp [flat_cons]
    | succ i =>
      rcases ih (i := i) with h | h
      · left
        rw [flat_cons, List.set_cons_succ, flat_cons, ← h, show (i + 1) * 3 = i * 3 + 1 + 1 + 1 by omega]
        simp
      · right; simp; exact h
theorem flat_one (e : Ent) : ∀ u ∈ flat [e], u.oneCell' = true := by intro u hu; simp [flat, Ent.vals] at hu; rcases hu with rfl | rfl | rfl <;> rfl
theorem flat_take (es : List Ent) (n : Nat) : (flat es).take (n * 3) = flat (es.take n) := by
  induction es generalizing n with
  | nil => simp [flat]
  | cons x t ih =>
    cases n with
    | zero => simp [flat]
    | succ n => rw [show (n + 1) * 3 = n * 3 + 1 + 1 + 1 by omega, List.take_succ_cons, flat_cons, flat_cons]; simp [ih]

/-- Block g holds these entries, and room for so many. -/
structure Row3 (w : World) (g cap : Nat) (es : List Ent) : Prop where
  blk : ∃ cur, w.heap[g]? = some (.cells cur 90 (0, 0)) ∧ cur.size = cap * 3 ∧ cur.toList.take (es.length * 3) = flat es
  le : es.length ≤ cap
  max : cap ≤ maxLen

section
variable {w : World} {g cap : Nat} {es : List Ent}
theorem Row3.lt (r : Row3 w g cap es) : g < w.heap.size := by obtain ⟨cur, h, _⟩ := r.blk; exact (Array.getElem?_eq_some_iff.1 h).1
theorem Row3.heap {w' : World} (r : Row3 w g cap es) (h : w'.heap[g]? = w.heap[g]?) : Row3 w' g cap es := by
  obtain ⟨⟨cur, h1, h2, h3⟩, l, m⟩ := r; exact ⟨⟨cur, h.trans h1, h2, h3⟩, l, m⟩
theorem Row3.cells (r : Row3 w g cap es) {i : Nat} {e : Ent} (h : es[i]? = some e) :
    w.cell? ⟨g, i * 3, none⟩ = some (.int .i64 e.w) ∧ w.cell? ⟨g, i * 3 + 1, none⟩ = some (.int .u64 e.o) ∧ w.cell? ⟨g, i * 3 + 2, none⟩ = some (.int .i64 e.g) := by
  obtain ⟨cur, h1, h2, h3⟩ := r.blk
  have hi := (List.getElem?_eq_some_iff.1 h).1
  have hf := flat_get h
  have key : ∀ j v, j < es.length * 3 → (flat es)[j]? = some v → w.cell? ⟨g, j, none⟩ = some v := fun j v hj hv => by
    rw [cell_of_row w g j cur _ _ h1]
    rw [← h3, List.getElem?_take_of_lt hj] at hv
    simpa using hv
  exact ⟨key _ _ (by omega) hf.1, key _ _ (by omega) hf.2.1, key _ _ (by omega) hf.2.2⟩
theorem Row3.free (r : Row3 w g cap es) (i : Nat) : w.frozen? ⟨g, i, none⟩ = false := by
  obtain ⟨cur, h1, h2, h3⟩ := r.blk; exact frozen_of_row w g i cur _ h1
theorem Row3.set (r : Row3 w g cap es) {i : Nat} (hi : i < es.length) (e : Ent) :
    Row3 (((w.setCell ⟨g, i * 3, none⟩ (.int .i64 e.w)).setCell ⟨g, i * 3 + 1, none⟩ (.int .u64 e.o)).setCell ⟨g, i * 3 + 2, none⟩ (.int .i64 e.g)) g cap (es.set i e) := by
  obtain ⟨cur, h1, h2, h3⟩ := r.blk
  refine ⟨⟨_, heap_setCell_same _ g _ _ _ _ (heap_setCell_same _ g _ _ _ _ (heap_setCell_same _ g _ _ _ _ h1)), by simpa using h2, ?_⟩, by simpa using r.le, r.max⟩
  rcases flat_set (es := es) (i := i) e with h | h
  · simp only [List.length_set, Array.toList_setIfInBounds, List.take_set, h3]
    exact h
  · omega
theorem Row3.take (r : Row3 w g cap es) (n : Nat) (hn : n ≤ es.length) : Row3 w g cap (es.take n) := by
  obtain ⟨cur, h1, h2, h3⟩ := r.blk
  refine ⟨⟨cur, h1, h2, ?_⟩, by rw [List.length_take]; have := r.le; omega, r.max⟩
  rw [List.length_take, Nat.min_eq_left hn, ← flat_take, ← h3, List.take_take, Nat.min_eq_left (by omega)]

def swp (es : List Ent) (i j : Nat) : List Ent := (es.set i es[j]!).set j es[i]!
theorem swp_len (es : List Ent) (i j : Nat) : (swp es i j).length = es.length := by simp [swp]
theorem bang {es : List Ent} {i : Nat} (h : i < es.length) : es[i]? = some es[i]! := by simp [h]
end
end Go.Proofs.YtlhblhgbpaipaaaGreat.Hp

/- HeapUp -/
namespace Go.Proofs.YtlhblhgbpaipaaaGreat.Hp
open Go.RowKit
set_option linter.unusedVariables false

/-- An entry goes up, as far as it has to. -/
def upL (es : List Ent) (i : Nat) : List Ent :=
  if h : 0 < i then if aheadB es[i]! es[(i - 1) / 4]! then upL (swp es i ((i - 1) / 4)) ((i - 1) / 4) else es else es
termination_by i
decreasing_by omega
theorem upL_stop {es : List Ent} {i : Nat} (h : 0 < i → aheadB es[i]! es[(i - 1) / 4]! = false) : upL es i = es := by
  rw [upL]
  split
  · rename_i h1; rw [h h1]; rfl
  · rfl
theorem upL_step {es : List Ent} {i q : Nat} (h : 0 < i) (hq : q = (i - 1) / 4) (ha : aheadB es[i]! es[q]! = true) : upL es i = upL (swp es i q) q := by
  subst hq; rw [upL, dif_pos h, ha]; rfl

theorem Row3.drew {w : World} {g cap : Nat} {es : List Ent} (r : Row3 w g cap es) : Row3 w.drew g cap es := r.heap rfl
theorem grown_set3 {w w' : World} {b : Nat} (h : w.grownBy w' (some b)) (i : Nat) (v : Value) : w.grownBy (w'.setCell ⟨b, i, none⟩ v) (some b) :=
  ⟨h.os, h.tape, h.output, by simpa using h.size, fun k hk hne => by
    rw [heap_setCell_other _ _ _ _ (fun e => hne (by rw [e]))]; exact h.block k hk hne⟩
theorem grown_drew3 {w w' : World} {r : Option Nat} (h : w.grownBy w' r) : w.grownBy w'.drew r := ⟨h.os, h.tape, h.output, h.size, h.block⟩
theorem grown_sets {w w' : World} {b i j k l m n : Nat} {v1 v2 v3 v4 v5 v6 : Value} (h : w.grownBy w' (some b)) :
    w.grownBy ((((((w'.setCell ⟨b, i, none⟩ v1).setCell ⟨b, j, none⟩ v2).setCell ⟨b, k, none⟩ v3).setCell ⟨b, l, none⟩ v4).setCell ⟨b, m, none⟩ v5).setCell ⟨b, n, none⟩ v6) (some b) :=
  grown_set3 (grown_set3 (grown_set3 (grown_set3 (grown_set3 (grown_set3 h _ _) _ _) _ _) _ _) _ _) _ _

set_option maxRecDepth 100000 in
set_option maxHeartbeats 2000000 in
theorem up_is (w : World) (b i g cap : Nat) (es : List Ent) (r : Row3 w g cap es) (hc : w.cell? ⟨b, i, none⟩ = some (.slice (some ⟨g, 0, none⟩) es.length cap)) (hgb : b ≠ g) (hbig : es.length ≤ 1000000) (j : Nat) (hj : j < es.length) :
    Calls Tryz.prog 73 #[.pointer (some ⟨b, i, none⟩), .int .i64 j] w fun e w' => e = .returned (.tuple #[]) ∧ Row3 w' g cap (upL es j) ∧ w.grownBy w' (some g) := by
  obtain ⟨n, hn⟩ : ∃ n, n = es.length := ⟨_, rfl⟩
  rw [← hn] at hc hj hbig
  have R := Lib.hid r
  have HN := Lib.hid hn
  have HC := Lib.hid hc
  have hblt := block_lt_of_cell hc
  clear r hn hc
  go_enter Tryz.func73, Tryz.ntmps73
  go_wp2
  go_loopw [1] (fun p wr => ∃ (k : Nat) (fs : List Ent), p = .int .i64 k ∧ k < n ∧ fs.length = n ∧ upL fs k = upL es j ∧ Row3 wr g cap fs ∧ w.grownBy wr (some g)) (fun p _ => (intOf p).toNat)
  case atStart => exact ⟨j, es, rfl, hj, HN.out.symm, rfl, R.out, World.grownBy.refl _ _⟩
  case round =>
    obtain ⟨k, fs, rfl, hk, hl, hu, hr, hg⟩ := hrel
    have HL := Lib.hid hl
    have HU := Lib.hid hu
    have HR := Lib.hid hr
    have HG := Lib.hid hg
    have hcw : wr.cell? ⟨b, i, none⟩ = some (.slice (some ⟨g, 0, none⟩) n cap) := hg.cell HC.out (fun e => hgb (Option.some.inj e))
    clear hl hu hr hg
    by_cases h0 : 0 < k
    · obtain ⟨q, hq⟩ : ∃ q : Nat, q = (k - 1) / 4 := ⟨_, rfl⟩
      have hd1 : ((k : Int) - 1).tdiv 4 = (q : Int) := by rw [Int.tdiv_eq_ediv_of_nonneg (by omega)]; omega
      have hd2 : ((k : Int) - 1) / 4 = (q : Int) := by omega
      have hqk : q < k := by omega
      have hqn : q < n := by omega
      have HQ := Lib.hid hq
      clear hq
      obtain ⟨x, hx⟩ : ∃ x, fs[k]! = x := ⟨_, rfl⟩
      obtain ⟨y, hy⟩ : ∃ y, fs[q]! = y := ⟨_, rfl⟩
      have ex : fs[k]? = some x := by rw [← hx]; exact bang (by rw [HL.out]; exact hk)
      have ey : fs[q]? = some y := by rw [← hy]; exact bang (by rw [HL.out]; omega)
      obtain ⟨x0, x1, x2⟩ := HR.out.cells ex
      obtain ⟨y0, y1, y2⟩ := HR.out.cells ey
      have HX := Lib.hid hx
      have HY := Lib.hid hy
      clear hx hy ex ey
      go_wp2
      refine wp_region_still_tail 14 (by kernel_rfl) (by kernel_rfl) ?_
      simp only [List.take_succ_cons, List.take_zero, List.drop_succ_cons, List.drop_zero]
      change wpStill _ _ wr.drew _ _ _
      repeat still_step
      refine wpStill_nil ?_
      go_wp2_with fail
      refine (ahead_is x y _).mono ?_
      rintro e w1 ⟨rfl, hb⟩
      have HR1 : Hid (Row3 w1 g cap fs) := Lib.hid (HR.out.heap (hb.block _ HR.out.lt))
      have HG1 : Hid (w.grownBy w1 (some g)) := Lib.hid ⟨hb.os.trans HG.out.os, hb.tape.trans HG.out.tape, hb.output.trans HG.out.output, Nat.le_trans HG.out.size hb.size, fun c hc hne => (hb.block c (Nat.lt_of_lt_of_le hc HG.out.size)).trans (HG.out.block c hc hne)⟩
      have hbw : b < wr.heap.size := Nat.lt_of_lt_of_le hblt HG.out.size
      have hcw1 : w1.cell? ⟨b, i, none⟩ = some (.slice (some ⟨g, 0, none⟩) n cap) := (hb.cell (p := ⟨b, i, none⟩) hbw).trans hcw
      clear hb hcw x0 x1 x2 y0 y1 y2
      by_cases ha : aheadB x y = true
      · have hd : upL fs k = upL (swp fs k q) q := upL_step h0 HQ.out (by rw [HX.out, HY.out]; exact ha)
        have HD := Lib.hid hd
        have hlen : (swp fs k q).length = n := by rw [swp_len]; exact HL.out
        have HLE := Lib.hid hlen
        clear hd hlen
        have ex : fs[k]? = some x := by rw [← HX.out]; exact bang (by rw [HL.out]; exact hk)
        have ey : fs[q]? = some y := by rw [← HY.out]; exact bang (by rw [HL.out]; omega)
        obtain ⟨x0, x1, x2⟩ := HR1.out.cells ex
        obtain ⟨y0, y1, y2⟩ := HR1.out.cells ey
        have hfr := HR1.out.free
        have HEX := Lib.hid ex
        have HEY := Lib.hid ey
        clear ex ey
        go_wp2_with fail
        go_region
        go_wp2_with fail
        go_roundw
        case rel =>
          refine ⟨q, swp fs k q, rfl, hqn, HLE.out, by rw [← HD.out]; exact HU.out, ?_, grown_drew3 (grown_sets HG1.out)⟩
          have := ((HR1.out.set (i := k) (by rw [HL.out]; exact hk) y).set (i := q) (by simp; rw [HL.out]; exact hqn) x)
          have e : (fs.set k y).set q x = swp fs k q := by unfold swp; rw [HX.out, HY.out]
          rw [e] at this
          exact this.drew
        case measure => simp [intOf]; omega
      · have hd : upL fs k = fs := upL_stop fun _ => by rw [HX.out, ← HQ.out, HY.out]; simpa using ha
        rw [hd] at HU
        have ha' : aheadB x y = false := by simpa using ha
        clear ha hd
        go_wp2_with fail
        refine bodyPost_ret (results_none rfl _ _ _) rfl ?_
        exact ⟨rfl, by rw [← HU.out]; exact HR1.out, HG1.out⟩
    · obtain rfl : k = 0 := by omega
      go_wp2_with fail
      go_end0
      exact ⟨rfl, by rw [← HU.out, upL_stop (fun h => absurd h h0)]; exact HR.out, HG.out⟩
end Go.Proofs.YtlhblhgbpaipaaaGreat.Hp

/- HeapDown -/
namespace Go.Proofs.YtlhblhgbpaipaaaGreat.Hp
open Go.RowKit
set_option linter.unusedVariables false

/-- Go's min of two. -/
def mn (a b : Int) : Int := if b < a then b else a
theorem min2_is (k k' : IntKind) (x y : Int) : Builtin.min2 (.int k x) (.int k' y) = pure (.int k (mn x y)) := by
  simp only [Builtin.min2, mn]
theorem min_two (ats : Array TypeId) (ty : TypeId) (a b : Value) : Builtin.min_ ats ty #[a, b] = (Builtin.min2 a b >>= fun s => pure s) := by simp only [Builtin.min_, List.foldlM_cons, List.foldlM_nil]
theorem run_min_is {P : Program} (ts : Array TypeId) (t : TypeId) (k k' : IntKind) (x y z : Int) (h : mn x y = z) (w : World) : (Builtin.min_ ts t #[.int k x, .int k' y]).run P w = .ok (.int k z) w := by
  rw [min_two, min2_is, h]; rfl

/-- The least of some places. -/
def leastFrom (es : List Ent) (k stop best : Nat) : Nat :=
  if h : k < stop then leastFrom es (k + 1) stop (if aheadB es[k]! es[best]! then k else best) else best
termination_by stop - k
decreasing_by omega
def leastL (es : List Ent) (i : Nat) : Nat := leastFrom es (4 * i + 1) (min (4 * i + 5) es.length) (4 * i + 1)
theorem leastFrom_step {es : List Ent} {k stop best : Nat} (h : k < stop) : leastFrom es k stop best = leastFrom es (k + 1) stop (if aheadB es[k]! es[best]! then k else best) := by rw [leastFrom, dif_pos h]
theorem leastFrom_stop {es : List Ent} {k stop best : Nat} (h : ¬ k < stop) : leastFrom es k stop best = best := by rw [leastFrom, dif_neg h]
theorem leastFrom_in (es : List Ent) (lo L : Nat) (d : Nat) : ∀ k stop best, stop - k = d → lo ≤ k → stop ≤ L → lo ≤ best → best < L → lo ≤ leastFrom es k stop best ∧ leastFrom es k stop best < L := by
  induction d with
  | zero => intro k stop best hd h1 h2 h3 h4; rw [leastFrom_stop (by omega)]; exact ⟨h3, h4⟩
  | succ d ih =>
    intro k stop best hd h1 h2 h3 h4
    rw [leastFrom_step (by omega)]
    apply ih _ _ _ (by omega) (by omega) h2
    · split <;> omega
    · split <;> omega
theorem leastL_in {es : List Ent} {i : Nat} (h : 4 * i + 1 < es.length) : 4 * i + 1 ≤ leastL es i ∧ leastL es i < es.length :=
  leastFrom_in es (4 * i + 1) es.length _ _ _ _ rfl (Nat.le_refl _) (Nat.min_le_right _ _) (Nat.le_refl _) h

/-- An entry goes down, as far as it has to. -/
def downL (es : List Ent) (i : Nat) : List Ent :=
  if h : 4 * i + 1 < es.length then if aheadB es[leastL es i]! es[i]! then downL (swp es i (leastL es i)) (leastL es i) else es else es
termination_by es.length - i
decreasing_by have := leastL_in h; rw [swp_len]; omega
theorem downL_stop {es : List Ent} {i : Nat} (h : 4 * i + 1 < es.length → aheadB es[leastL es i]! es[i]! = false) : downL es i = es := by
  rw [downL]
  split
  · rename_i h1; rw [h h1]; rfl
  · rfl
theorem downL_step {es : List Ent} {i : Nat} (h : 4 * i + 1 < es.length) (ha : aheadB es[leastL es i]! es[i]! = true) : downL es i = downL (swp es i (leastL es i)) (leastL es i) := by
  rw [downL, dif_pos h, ha]; rfl

set_option maxRecDepth 100000 in
set_option maxHeartbeats 2000000 in
theorem least_is (w : World) (b i g cap : Nat) (es : List Ent) (r : Row3 w g cap es) (hc : w.cell? ⟨b, i, none⟩ = some (.slice (some ⟨g, 0, none⟩) es.length cap)) (hbig : es.length ≤ 1000000) (j : Nat) (hj : 4 * j + 1 < es.length) :
    Calls Tryz.prog 82 #[.pointer (some ⟨b, i, none⟩), .int .i64 j] w fun e w' => e = .returned (.int .i64 (leastL es j)) ∧ Below w.heap.size w w' := by
  obtain ⟨n, hn⟩ : ∃ n, n = es.length := ⟨_, rfl⟩
  obtain ⟨stop, hs⟩ : ∃ stop, stop = min (4 * j + 5) n := ⟨_, rfl⟩
  obtain ⟨fst, hf⟩ : ∃ fst, fst = 4 * j + 1 := ⟨_, rfl⟩
  have HE : Hid (leastL es j = leastFrom es fst stop fst) := Lib.hid (by rw [hs, hf, hn]; rfl)
  rw [← hn] at hc hj hbig
  have hfi : 4 * (j : Int) + 1 = fst := by omega
  have hw0 : IntKind.i64.wrap (4 * (j : Int)) = 4 * (j : Int) := by rw [IntKind.wrap_i64]; omega
  have hw1 : IntKind.i64.wrap (4 * (j : Int) + 1) = fst := by rw [IntKind.wrap_i64]; omega
  have hmin : ∀ (ts : Array TypeId) (t : TypeId) (W : World), (Builtin.min_ ts t #[.int .i64 ((fst : Int) + 4), .int .i64 (n : Int)]).run Tryz.prog W = .ok (.int .i64 (stop : Int)) W := fun ts t W => run_min_is ts t _ _ _ _ _ (by unfold mn; split <;> omega) W
  have hstn : stop ≤ n := by omega
  have hfs : fst < stop := by omega
  have R := Lib.hid r
  have HN := Lib.hid hn
  have HC := Lib.hid hc
  have hblt := block_lt_of_cell hc
  clear r hn hc hs hf
  go_enter Tryz.func82, Tryz.ntmps82
  go_wp2
  go_loopw [6, 7] (fun p q wr => ∃ (k bst : Nat), p = .int .i64 bst ∧ q = .int .i64 k ∧ k ≤ stop ∧ bst < n ∧ leastL es j = leastFrom es k stop bst ∧ Below w.heap.size w wr) (fun _ q _ => stop - (intOf q).toNat)
  case atStart => exact ⟨fst, fst, rfl, rfl, by omega, by omega, HE.out, Below.refl _ _⟩
  case round =>
    obtain ⟨k, bst, rfl, rfl, hk, hbn, he, hb⟩ := hrel
    have HI := Lib.hid he
    have HB := Lib.hid hb
    have hcw : wr.cell? ⟨b, i, none⟩ = some (.slice (some ⟨g, 0, none⟩) n cap) := (hb.cell (p := ⟨b, i, none⟩) hblt).trans HC.out
    have HR : Hid (Row3 wr g cap es) := Lib.hid (R.out.heap (hb.block _ R.out.lt))
    clear he hb
    by_cases h0 : k < stop
    · obtain ⟨x, hx⟩ : ∃ x, es[k]! = x := ⟨_, rfl⟩
      obtain ⟨y, hy⟩ : ∃ y, es[bst]! = y := ⟨_, rfl⟩
      have ex : es[k]? = some x := by rw [← hx]; exact bang (by rw [← HN.out]; omega)
      have ey : es[bst]? = some y := by rw [← hy]; exact bang (by rw [← HN.out]; omega)
      obtain ⟨x0, x1, x2⟩ := HR.out.cells ex
      obtain ⟨y0, y1, y2⟩ := HR.out.cells ey
      have hkn : k < n := by omega
      have HX := Lib.hid hx
      have HY := Lib.hid hy
      clear hx hy ex ey
      go_wp2
      refine wp_region_still_tail 14 (by kernel_rfl) (by kernel_rfl) ?_
      simp only [List.take_succ_cons, List.take_zero, List.drop_succ_cons, List.drop_zero]
      change wpStill _ _ wr.drew _ _ _
      repeat still_step
      refine wpStill_nil ?_
      go_wp2_with fail
      refine (ahead_is x y _).mono ?_
      rintro e w1 ⟨rfl, hb⟩
      have HB1 : Hid (Below w.heap.size w w1) := Lib.hid (HB.out.drew.trans (hb.mono HB.out.size))
      have HS : Hid (leastL es j = leastFrom es (k + 1) stop (if aheadB x y = true then k else bst)) := Lib.hid (by rw [HI.out, leastFrom_step h0, HX.out, HY.out])
      clear hb hcw x0 x1 x2 y0 y1 y2
      by_cases ha : aheadB x y = true
      · rw [if_pos ha] at HS
        go_wp2_with fail
        go_roundw
        case rel => exact ⟨k + 1, k, rfl, by go_num, by omega, by omega, HS.out, HB1.out⟩
        case measure => simp [intOf]; omega
      · rw [if_neg ha] at HS
        have ha' : aheadB x y = false := by simpa using ha
        clear ha
        go_wp2_with fail
        go_roundw
        case rel => exact ⟨k + 1, bst, rfl, by go_num, by omega, by omega, HS.out, HB1.out⟩
        case measure => simp [intOf]; omega
    · have HF : Hid (leastL es j = bst) := Lib.hid (by rw [HI.out, leastFrom_stop h0])
      go_wp2
      go_ret
      exact ⟨by rw [HF.out]; rfl, HB.out⟩

set_option maxRecDepth 100000 in
set_option maxHeartbeats 2000000 in
theorem down_is (w : World) (b i g cap : Nat) (es : List Ent) (r : Row3 w g cap es) (hc : w.cell? ⟨b, i, none⟩ = some (.slice (some ⟨g, 0, none⟩) es.length cap)) (hgb : b ≠ g) (hbig : es.length ≤ 1000000) (j : Nat) (hj : j ≤ es.length) :
    Calls Tryz.prog 74 #[.pointer (some ⟨b, i, none⟩), .int .i64 j] w fun e w' => e = .returned (.tuple #[]) ∧ Row3 w' g cap (downL es j) ∧ w.grownBy w' (some g) := by
  obtain ⟨n, hn⟩ : ∃ n, n = es.length := ⟨_, rfl⟩
  rw [← hn] at hc hj hbig
  have R := Lib.hid r
  have HN := Lib.hid hn
  have HC := Lib.hid hc
  have hblt := block_lt_of_cell hc
  clear r hn hc
  go_enter Tryz.func74, Tryz.ntmps74
  go_wp2
  go_step3
  go_wp2
  go_step3
  go_wp2
  go_loopw [1] (fun p wr => ∃ (k : Nat) (fs : List Ent), p = .int .i64 k ∧ k ≤ n ∧ fs.length = n ∧ downL fs k = downL es j ∧ Row3 wr g cap fs ∧ w.grownBy wr (some g)) (fun p _ => n - (intOf p).toNat)
  case atStart => exact ⟨j, es, rfl, hj, HN.out.symm, rfl, R.out, World.grownBy.refl _ _⟩
  case round =>
    obtain ⟨k, fs, rfl, hk, hl, hu, hr, hg⟩ := hrel
    have HL := Lib.hid hl
    have HU := Lib.hid hu
    have HR := Lib.hid hr
    have HG := Lib.hid hg
    have hcw : wr.cell? ⟨b, i, none⟩ = some (.slice (some ⟨g, 0, none⟩) n cap) := hg.cell HC.out (fun e => hgb (Option.some.inj e))
    have hw0 : IntKind.i64.wrap (4 * (k : Int)) = 4 * (k : Int) := by rw [IntKind.wrap_i64]; omega
    have hw1 : IntKind.i64.wrap (4 * (k : Int) + 1) = 4 * (k : Int) + 1 := by rw [IntKind.wrap_i64]; omega
    have hbw : b < wr.heap.size := Nat.lt_of_lt_of_le hblt hg.size
    clear hl hu hr hg
    by_cases h0 : 4 * k + 1 < n
    · have hin := leastL_in (es := fs) (i := k) (by rw [HL.out]; exact h0)
      rw [HL.out] at hin
      have hcw' : wr.cell? ⟨b, i, none⟩ = some (.slice (some ⟨g, 0, none⟩) fs.length cap) := by rw [HL.out]; exact hcw
      have HW := Lib.hid hcw'
      clear hcw'
      go_wp2_with fail
      refine (least_is wr b i g cap fs HR.out HW.out (by rw [HL.out]; exact hbig) k (by rw [HL.out]; exact h0)).mono ?_
      rintro e w0 ⟨rfl, hb⟩
      obtain ⟨q, hq⟩ : ∃ q, leastL fs k = q := ⟨_, rfl⟩
      rw [hq] at hin ⊢
      have HQ := Lib.hid hq
      clear hq HW
      have HR0 : Hid (Row3 w0 g cap fs) := Lib.hid (HR.out.heap (hb.block _ HR.out.lt))
      have HG0 : Hid (w.grownBy w0 (some g)) := Lib.hid ⟨hb.os.trans HG.out.os, hb.tape.trans HG.out.tape, hb.output.trans HG.out.output, Nat.le_trans HG.out.size hb.size, fun c hc hne => (hb.block c (Nat.lt_of_lt_of_le hc HG.out.size)).trans (HG.out.block c hc hne)⟩
      have hcw0 : w0.cell? ⟨b, i, none⟩ = some (.slice (some ⟨g, 0, none⟩) n cap) := (hb.cell (p := ⟨b, i, none⟩) hbw).trans hcw
      have hbw0 : b < w0.heap.size := Nat.lt_of_lt_of_le hbw hb.size
      clear hb hcw
      have hkn : k < n := by omega
      have hqn : q < n := hin.2
      obtain ⟨x, hx⟩ : ∃ x, fs[k]! = x := ⟨_, rfl⟩
      obtain ⟨y, hy⟩ : ∃ y, fs[q]! = y := ⟨_, rfl⟩
      have ex : fs[k]? = some x := by rw [← hx]; exact bang (by rw [HL.out]; exact hkn)
      have ey : fs[q]? = some y := by rw [← hy]; exact bang (by rw [HL.out]; exact hqn)
      obtain ⟨x0, x1, x2⟩ := HR0.out.cells ex
      obtain ⟨y0, y1, y2⟩ := HR0.out.cells ey
      have HX := Lib.hid hx
      have HY := Lib.hid hy
      clear hx hy ex ey
      go_wp2_with fail
      refine wp_region_still_tail 14 (by kernel_rfl) (by kernel_rfl) ?_
      simp only [List.take_succ_cons, List.take_zero, List.drop_succ_cons, List.drop_zero]
      change wpStill _ _ w0.drew _ _ _
      repeat still_step
      refine wpStill_nil ?_
      go_wp2_with fail
      refine (ahead_is y x _).mono ?_
      rintro e w1 ⟨rfl, hb⟩
      have HR1 : Hid (Row3 w1 g cap fs) := Lib.hid (HR0.out.heap (hb.block _ HR0.out.lt))
      have HG1 : Hid (w.grownBy w1 (some g)) := Lib.hid ⟨hb.os.trans HG0.out.os, hb.tape.trans HG0.out.tape, hb.output.trans HG0.out.output, Nat.le_trans HG0.out.size hb.size, fun c hc hne => (hb.block c (Nat.lt_of_lt_of_le hc HG0.out.size)).trans (HG0.out.block c hc hne)⟩
      have hcw1 : w1.cell? ⟨b, i, none⟩ = some (.slice (some ⟨g, 0, none⟩) n cap) := (hb.cell (p := ⟨b, i, none⟩) hbw0).trans hcw0
      clear hb hcw0 x0 x1 x2 y0 y1 y2
      by_cases ha : aheadB y x = true
      · have hd : downL fs k = downL (swp fs k q) q := by
          rw [downL_step (by rw [HL.out]; exact h0) (by rw [HQ.out, HX.out, HY.out]; exact ha), HQ.out]
        have HD := Lib.hid hd
        have hlen : (swp fs k q).length = n := by rw [swp_len]; exact HL.out
        have HLE := Lib.hid hlen
        clear hd hlen
        have ex : fs[k]? = some x := by rw [← HX.out]; exact bang (by rw [HL.out]; exact hkn)
        have ey : fs[q]? = some y := by rw [← HY.out]; exact bang (by rw [HL.out]; exact hqn)
        obtain ⟨x0, x1, x2⟩ := HR1.out.cells ex
        obtain ⟨y0, y1, y2⟩ := HR1.out.cells ey
        have hfr := HR1.out.free
        have HEX := Lib.hid ex
        have HEY := Lib.hid ey
        clear ex ey
        go_wp2_with fail
        go_region
        go_wp2_with fail
        go_roundw
        case rel =>
          refine ⟨q, swp fs k q, rfl, Nat.le_of_lt hqn, HLE.out, by rw [← HD.out]; exact HU.out, ?_, grown_drew3 (grown_sets HG1.out)⟩
          have := ((HR1.out.set (i := k) (by rw [HL.out]; exact hkn) y).set (i := q) (by simp; rw [HL.out]; exact hqn) x)
          have e : (fs.set k y).set q x = swp fs k q := by unfold swp; rw [HX.out, HY.out]
          rw [e] at this
          exact this.drew
        case measure => simp [intOf]; omega
      · have hd : downL fs k = fs := downL_stop fun _ => by rw [HQ.out, HX.out, HY.out]; simpa using ha
        rw [hd] at HU
        have ha' : aheadB y x = false := by simpa using ha
        clear ha hd
        go_wp2_with fail
        try simp only [Exit.noGoto]
        go_end0
        exact ⟨rfl, by rw [← HU.out]; exact HR1.out, HG1.out⟩
    · have hd : downL fs k = fs := downL_stop fun h => absurd (by rw [HL.out] at h; exact h) h0
      rw [hd] at HU
      clear hd
      go_wp2_with fail
      try simp only [Exit.noGoto]
      go_end0
      exact ⟨rfl, by rw [← HU.out]; exact HR.out, HG.out⟩
end Go.Proofs.YtlhblhgbpaipaaaGreat.Hp

/- HeapPut -/
namespace Go.Proofs.YtlhblhgbpaipaaaGreat.Hp
open Go.RowKit
set_option linter.unusedVariables false

/-- At the address lies a heap: its entries, by places, in a block of its own. -/
structure IsHp (w : World) (base b i : Nat) (v : Value) (es : List Ent) : Prop where
  cell : w.cell? ⟨b, i, none⟩ = some v
  free : w.frozen? ⟨b, i, none⟩ = false
  row : (v = .slice none 0 0 ∧ es = []) ∨ ∃ g cap, v = .slice (some ⟨g, 0, none⟩) es.length cap ∧ Row3 w g cap es ∧ g ≠ b ∧ base ≤ g

/-- What a deed at that heap may change: its cell, and the block of its own. -/
structure HFr (w w' : World) (b i : Nat) (v v' : Value) : Prop where
  os : w'.os = w.os
  tape : w'.tape = w.tape
  output : w'.output = w.output
  size : w.heap.size ≤ w'.heap.size
  block : ∀ k, k < w.heap.size → k ≠ b → v.ownBlock ≠ some k → w'.heap[k]? = w.heap[k]?
  at_ : w'.heap[b]? = (w.setCell ⟨b, i, none⟩ v').heap[b]?
  own : v'.ownBlock = v.ownBlock ∨ ∀ g, v'.ownBlock = some g → w.heap.size ≤ g

theorem setCell_congr {w w' : World} {b i : Nat} (v : Value) (h : w'.heap[b]? = w.heap[b]?) : (w'.setCell ⟨b, i, none⟩ v).heap[b]? = (w.setCell ⟨b, i, none⟩ v).heap[b]? := by
  simp only [World.setCell, Array.getElem?_modify, ↓reduceIte, h]
theorem setCell_twice {w w' : World} {b i : Nat} (u v : Value) (h : w'.heap[b]? = (w.setCell ⟨b, i, none⟩ u).heap[b]?) : (w'.setCell ⟨b, i, none⟩ v).heap[b]? = (w.setCell ⟨b, i, none⟩ v).heap[b]? := by
  simp only [World.setCell, Array.getElem?_modify, ↓reduceIte] at h ⊢
  rw [h]
  cases w.heap[b]? with
  | none => rfl
  | some o => cases o <;> simp
theorem HFr.trans {w w1 w2 : World} {b i : Nat} {v v1 v2 : Value} (h : HFr w w1 b i v v1) (k : HFr w1 w2 b i v1 v2) : HFr w w2 b i v v2 :=
  ⟨k.os.trans h.os, k.tape.trans h.tape, k.output.trans h.output, Nat.le_trans h.size k.size, fun j hj hb hv => by
    refine (k.block j (Nat.lt_of_lt_of_le hj h.size) hb (fun e => ?_)).trans (h.block j hj hb hv)
    rcases h.own with h1 | h1
    · rw [h1] at e; exact hv e
    · have := h1 j e; omega, k.at_.trans (setCell_twice _ _ h.at_), by
    rcases k.own with h1 | h1
    · rw [h1]; exact h.own
    · exact .inr fun g hg => Nat.le_trans h.size (h1 g hg)⟩
/-- Ahead of the deed new blocks came. -/
theorem HFr.pre {w w1 w2 : World} {b i : Nat} {v v' : Value} (h : w.grownBy w1 none) (hb : b < w.heap.size) (k : HFr w1 w2 b i v v') : HFr w w2 b i v v' :=
  ⟨k.os.trans h.os, k.tape.trans h.tape, k.output.trans h.output, Nat.le_trans h.size k.size, fun j hj hjb hv => (k.block j (Nat.lt_of_lt_of_le hj h.size) hjb hv).trans (h.block j hj (by simp)), k.at_.trans (setCell_congr _ (h.block b hb (by simp))), by
    rcases k.own with h1 | h1
    · exact .inl h1
    · exact .inr fun g hg => Nat.le_trans h.size (h1 g hg)⟩
/-- Behind it. -/
theorem HFr.post {w w1 w2 : World} {b i : Nat} {v v' : Value} (hb : b < w.heap.size) (k : HFr w w1 b i v v') (h : w1.grownBy w2 none) : HFr w w2 b i v v' :=
  ⟨h.os.trans k.os, h.tape.trans k.tape, h.output.trans k.output, Nat.le_trans k.size h.size, fun j hj hjb hv => (h.block j (Nat.lt_of_lt_of_le hj k.size) (by simp)).trans (k.block j hj hjb hv), (h.block b (Nat.lt_of_lt_of_le hb k.size) (by simp)).trans k.at_, k.own⟩

section
variable {w : World} {base b i : Nat} {v : Value} {es : List Ent}
theorem IsHp.lt (h : IsHp w base b i v es) : b < w.heap.size := block_lt_of_cell h.cell
theorem IsHp.owns (h : IsHp w base b i v es) : w.ownsRow base 90 3 v es.length (flat es) := by
  rcases h.row with ⟨rfl, rfl⟩ | ⟨g, cap, rfl, r, hg, hb⟩
  · exact World.ownsRow_nil _ _ _ _
  · obtain ⟨⟨cur, h1, h2, h3⟩, l, m⟩ := r
    exact ⟨flat_len es, .inr ⟨g, cap, cur, rfl, hb, h1, l, m, h2, h3⟩⟩
theorem IsHp.ownlt (h : IsHp w base b i v es) : ∀ g, v.ownBlock = some g → g < w.heap.size ∧ g ≠ b ∧ base ≤ g := by
  intro g hg
  rcases h.row with ⟨rfl, rfl⟩ | ⟨g', cap, rfl, r, hgb, hb⟩
  · simp [Value.ownBlock] at hg
  · simp [Value.ownBlock] at hg; subst hg; exact ⟨r.lt, hgb, hb⟩
theorem IsHp.len (h : IsHp w base b i v es) : ∃ a cap, v = .slice a es.length cap := by
  rcases h.row with ⟨rfl, rfl⟩ | ⟨g', cap, rfl, r, hgb, hb⟩ <;> exact ⟨_, _, rfl⟩
theorem IsHp.heap {w' : World} (h : IsHp w base b i v es) (h1 : w'.heap[b]? = w.heap[b]?) (h2 : ∀ g, v.ownBlock = some g → w'.heap[g]? = w.heap[g]?) : IsHp w' base b i v es := by
  refine ⟨(World.cell?_of_block (a := ⟨b, i, none⟩) h1).trans h.cell, (World.frozen?_of_block (a := ⟨b, i, none⟩) h1).trans h.free, ?_⟩
  rcases h.row with ⟨rfl, rfl⟩ | ⟨g', cap, rfl, r, hgb, hb⟩
  · exact .inl ⟨rfl, rfl⟩
  · exact .inr ⟨g', cap, rfl, r.heap (h2 g' rfl), hgb, hb⟩
theorem IsHp.grown {w' : World} (h : IsHp w base b i v es) (hg : w.grownBy w' none) : IsHp w' base b i v es :=
  h.heap (hg.block b h.lt (by simp)) (fun g e => hg.block g (h.ownlt g e).1 (by simp))
theorem IsHp.below {w' : World} (h : IsHp w base b i v es) (hb : Below w.heap.size w w') : IsHp w' base b i v es :=
  h.heap (hb.block b h.lt) (fun g e => hb.block g (h.ownlt g e).1)
end
theorem row3_of_owns {w : World} {base g n cap : Nat} {es : List Ent} (h : w.ownsRow base 90 3 (.slice (some ⟨g, 0, none⟩) n cap) n (flat es)) (hn : es.length = n) : Row3 w g cap es ∧ base ≤ g := by
  obtain ⟨h0, h⟩ := h
  rcases h with ⟨e, _⟩ | ⟨g', cap', cur, e, hb, h1, l, m, h2, h3⟩
  · cases e
  · cases e; subst hn; exact ⟨⟨⟨cur, h1, h2, h3⟩, l, m⟩, hb⟩
theorem infoEnt : (Tryz.prog.info? 90).map (fun i => (i.zero, i.size, i.bytes)) = some (some (.agg #[.int .i64 0, .int .u64 0, .int .i64 0]), 3, 24) := by kernel_rfl

theorem upL_len (es : List Ent) (i : Nat) : (upL es i).length = es.length := by
  induction i using Nat.strongRecOn generalizing es with
  | _ i ih =>
    rw [upL]
    split
    · split
      · rw [ih _ (by omega), swp_len]
      · rfl
    · rfl
theorem up_r (w : World) (b i g cap : Nat) (es : List Ent) (r : Row3 w g cap es) (n : Nat) (hn : n = es.length) (hc : w.cell? ⟨b, i, none⟩ = some (.slice (some ⟨g, 0, none⟩) n cap)) (hgb : b ≠ g) (hbig : n ≤ 1000000) (j : Nat) (hj : j < n) (x : Int) (hx : x = j) :
    Calls Tryz.prog 73 #[.pointer (some ⟨b, i, none⟩), .int .i64 x] w fun e w' => e = .returned (.tuple #[]) ∧ Row3 w' g cap (upL es j) ∧ w.grownBy w' (some g) := by
  subst hx hn; exact up_is w b i g cap es r hc hgb hbig j hj

theorem put_done {w W w1 w3 : World} {base b i g cap n : Nat} {v : Value} {es fs : List Ent} {o : Obj} (h : IsHp w base b i v es) (hW : w.grownBy W none) (hgrow : ((W.alloc o).drew).grownBy w1 v.ownBlock) (hat : v.ownBlock = some g ∨ g = W.heap.size + 1)
    (hcA : w1.cell? ⟨b, i, none⟩ = some v) (hfA : w1.frozen? ⟨b, i, none⟩ = false) (hb1 : base ≤ g) (hr3 : Row3 w3 g cap fs) (hg3 : (w1.setCell ⟨b, i, none⟩ (.slice (some ⟨g, 0, none⟩) n cap)).grownBy w3 (some g)) (hn : fs.length = n) :
    IsHp w3 base b i (.slice (some ⟨g, 0, none⟩) n cap) fs ∧ HFr w w3 b i v (.slice (some ⟨g, 0, none⟩) n cap) := by
  have hbw := h.lt
  have hbW : b < W.heap.size := Nat.lt_of_lt_of_le hbw hW.size
  have hgb : g ≠ b := by
    rcases hat with h1 | h1
    · exact (h.ownlt g h1).2.1
    · omega
  have hbw1 : b < w1.heap.size := block_lt_of_cell hcA
  have hb3 : w3.heap[b]? = (w1.setCell ⟨b, i, none⟩ (.slice (some ⟨g, 0, none⟩) n cap)).heap[b]? := hg3.block b (by simpa using hbw1) (fun e => hgb (Option.some.inj e).symm)
  have hvb : v.ownBlock ≠ some b := fun e => (h.ownlt b e).2.1 rfl
  have h1b : w1.heap[b]? = w.heap[b]? := (hgrow.block b (by simp; omega) (fun e => hvb e.symm)).trans ((heap_alloc_old _ _ hbW).trans (hW.block b hbw (by simp)))
  refine ⟨⟨?_, ?_, .inr ⟨g, cap, by rw [hn], hr3, hgb, hb1⟩⟩, ⟨hg3.os.trans (hgrow.os.trans hW.os), hg3.tape.trans (hgrow.tape.trans hW.tape), hg3.output.trans (hgrow.output.trans hW.output), ?_, ?_, hb3.trans (setCell_congr _ h1b), ?_⟩⟩
  · exact (World.cell?_of_block (a := ⟨b, i, none⟩) hb3).trans (World.cell?_setCell_same _ _ _ hcA)
  · exact (World.frozen?_of_block (a := ⟨b, i, none⟩) hb3).trans (by rw [World.frozen?_setCell]; exact hfA)
  · have := hW.size; have := hgrow.size; have := hg3.size; simp at *; omega
  · intro k hk hkb hkv
    have hkW : k < W.heap.size := Nat.lt_of_lt_of_le hk hW.size
    have hkg : k ≠ g := by
      rintro rfl
      rcases hat with h1 | h1
      · exact hkv h1
      · omega
    have hs := hgrow.size
    simp at hs
    refine (hg3.block k (by simp; omega) (fun e => hkg (Option.some.inj e))).trans ((heap_setCell_other _ _ _ _ hkb).trans ?_)
    exact (hgrow.block k (by simp; omega) (fun e => hkv e.symm)).trans ((heap_alloc_old _ _ hkW).trans (hW.block k hk (by simp)))
  · rcases hat with h1 | h1
    · exact .inl h1.symm
    · refine .inr fun g' hg' => ?_
      simp [Value.ownBlock] at hg'
      have := hW.size
      omega
theorem put_keep {W w1 : World} {o : Obj} {v : Value} (hg : ((W.alloc o).drew).grownBy w1 v.ownBlock) {p : Addr} (hp : p.block < W.heap.size) (hne : ¬ v.ownBlock = some p.block) : w1.cell? p = W.cell? p ∧ w1.frozen? p = W.frozen? p := by
  have h : w1.heap[p.block]? = W.heap[p.block]? := (hg.block p.block (by simp; omega) (fun e => hne e.symm)).trans (heap_alloc_old _ _ hp)
  exact ⟨World.cell?_of_block h, World.frozen?_of_block h⟩

set_option maxRecDepth 100000 in
set_option maxHeartbeats 2000000 in
theorem put_is {w : World} {base b i : Nat} {v : Value} {es : List Ent} (h : IsHp w base b i v es) (hbase : base ≤ w.heap.size) (hbig : es.length < 1000000) (e : Ent) :
    Calls Tryz.prog 60 #[.pointer (some ⟨b, i, none⟩), e.agg] w fun x w' => ∃ v', x = .returned (.tuple #[]) ∧ IsHp w' base b i v' (upL (es ++ [e]) es.length) ∧ HFr w w' b i v v' := by
  obtain ⟨i0, hi, hz0, hz1, hz2⟩ := info_parts infoEnt
  have H := Lib.hid h
  obtain ⟨n, hn⟩ : ∃ n, n = es.length := ⟨_, rfl⟩
  rw [← hn] at hbig
  have HN := Lib.hid hn
  clear h hn
  go_enter Tryz.func60, Tryz.ntmps60
  go_wp2
  have hW1 : Below w.heap.size w (w.alloc (.cells #[.int .i64 e.w, .int .u64 e.o, .int .i64 e.g] 90)) := (Below.refl _ w).alloc (Nat.le_refl _) _
  have HB := Lib.hid hW1
  have HW : Hid (w.grownBy (w.alloc (.cells #[.int .i64 e.w, .int .u64 e.o, .int .i64 e.g] 90)) none) := Lib.hid (World.grownBy_alloc _ _ _)
  have hBk : (w.alloc (.cells #[.int .i64 e.w, .int .u64 e.o, .int .i64 e.g] 90)).heap[w.heap.size]? = some (.cells #[.int .i64 e.w, .int .u64 e.o, .int .i64 e.g] 90 (0, 0)) := heap_alloc_new _ _
  have hsz : (w.alloc (.cells #[.int .i64 e.w, .int .u64 e.o, .int .i64 e.g] 90)).heap.size = w.heap.size + 1 := by simp
  have HP : Hid (IsHp (w.alloc (.cells #[.int .i64 e.w, .int .u64 e.o, .int .i64 e.g] 90)) base b i v es) := Lib.hid (H.out.below hW1)
  clear hW1
  generalize (w.alloc (.cells #[.int .i64 e.w, .int .u64 e.o, .int .i64 e.g] 90)) = W at *
  have e0 : W.cell? ⟨w.heap.size, 0, none⟩ = some (.int .i64 e.w) := cell_of_row _ _ 0 _ _ _ hBk
  have e1 : W.cell? ⟨w.heap.size, 1, none⟩ = some (.int .u64 e.o) := cell_of_row _ _ 1 _ _ _ hBk
  have e2 : W.cell? ⟨w.heap.size, 2, none⟩ = some (.int .i64 e.g) := cell_of_row _ _ 2 _ _ _ hBk
  have hc := HP.out.cell
  have hfz := HP.out.free
  have hbw := HP.out.lt
  have HBK := Lib.hid hBk
  have HSZ := Lib.hid hsz
  have hown := HP.out.owns
  rw [← HN.out] at hown
  have HOWN := Lib.hid hown
  have hvb := Lib.hid (fun (e : v.ownBlock = some b) => (HP.out.ownlt b e).2.1 rfl)
  have hwlt : w.heap.size < W.heap.size := by rw [hsz]; omega
  have hvB := Lib.hid (fun (e : v.ownBlock = some w.heap.size) => by have := (H.out.ownlt _ e).1; omega)
  have hbB : b < w.heap.size := H.out.lt
  clear hBk hsz hown
  have hfz2 : ∀ o : Obj, (W.alloc o).frozen? ⟨b, i, none⟩ = false := fun o => (World.frozen?_alloc_past _ _ _ hbw).trans hfz
  go_region_law (refine step_append_lies _ (by rfl) _ _ 124 (by rfl) base 90 i0 _ 3 24 Tryz.underlying124 hi hz0 hz1 hz2 rfl (by omega) v n (flat es) (by rfl) ((HOWN.out.alloc _).drew) ⟨W.heap.size, 0, none⟩ 1 1 (flat [e]) (by rfl) (by rfl) (World.news_of_block (cs := #[.int .i64 e.w, .int .u64 e.o, .int .i64 e.g]) (t := 90) (fr := (0, 0)) (heap_alloc_new W _)) (flat_one e) (by omega) (by unfold maxLen; omega) (by omega) (by simp; omega) (W.heap.size + 1) (by simp) ?_; intro g cap w1 hown1 hgrow hat hlt; have hcA := (put_keep (p := ⟨b, i, none⟩) hgrow hbw hvb.out).1.trans hc; have hfA := (put_keep (p := ⟨b, i, none⟩) hgrow hbw hvb.out).2.trans hfz)
  all_goals
    obtain ⟨hr1, hb1⟩ := row3_of_owns (es := es ++ [e]) (by rw [flat_append]; exact hown1) (by rw [List.length_append, ← HN.out]; rfl)
    have hgb : b ≠ g := by
      rcases hat with h1 | h1
      · exact fun e => hvb.out (by rw [e]; exact h1)
      · omega
    have hr2 := Lib.hid (hr1.heap (heap_setCell_other w1 ⟨b, i, none⟩ g (.slice (some ⟨g, 0, none⟩) (n + 1) cap) (fun e => hgb e.symm)))
    have hc2 := World.cell?_setCell_same w1 ⟨b, i, none⟩ (.slice (some ⟨g, 0, none⟩) (n + 1) cap) hcA
    have HGR := Lib.hid (And.intro hgrow (And.intro hat (And.intro hcA hfA)))
    clear hown1 hgrow hat hr1 hcA hfA hc e0 e1 e2 hfz hfz2
    go_wp2_with fail
    refine (up_r _ b i g cap (es ++ [e]) hr2.out (n + 1) (by rw [List.length_append, ← HN.out]; rfl) hc2 hgb (by omega) n (by omega) _ (by push_cast; omega)).mono ?_
    rintro x w3 ⟨rfl, hr3, hg3⟩
    have HD := Lib.hid (put_done H.out HW.out HGR.out.1 HGR.out.2.1 HGR.out.2.2.1 HGR.out.2.2.2 hb1 hr3 hg3 (by rw [upL_len, List.length_append, ← HN.out]; rfl))
    clear hr3 hg3
    go_wp2_with fail
    go_end0
    exact ⟨_, rfl, by rw [← HN.out]; exact HD.out.1, HD.out.2⟩
end Go.Proofs.YtlhblhgbpaipaaaGreat.Hp
