/-
  Package heap: a row of entries in a block of the call's own, and an exchange in it.
-/
import Derived.Test.YtmaahidipbghfaaHeapEnt
import Derived.OwnWalk
import Derived.BigRegion
import Derived.Deep.RegionHeld3
import Derived.Deep.AppendLies
namespace Go.Proofs.Ytmaahidipbghfaa.Hp
open Go.RowKit
set_option linter.unusedVariables false

instance : Inhabited Ent := ⟨⟨0, 0, 0⟩⟩
def flat (es : List Ent) : List Value := es.flatMap Ent.vals
theorem flat_nil : flat [] = [] := rfl
theorem flat_cons (e : Ent) (es : List Ent) : flat (e :: es) = .int .i64 e.w :: .int .u64 e.o :: .int .i64 e.g :: flat es := rfl
theorem flat_append (es fs : List Ent) : flat (es ++ fs) = flat es ++ flat fs := by simp [flat]
theorem flat_len (es : List Ent) : (flat es).length = es.length * 3 := by
  induction es with
  | nil => rfl
  | cons e t ih => rw [flat_cons]; simp [ih]; omega
theorem flat_get {es : List Ent} {i : Nat} {e : Ent} (h : es[i]? = some e) : (flat es)[i * 3]? = some (.int .i64 e.w) ∧ (flat es)[i * 3 + 1]? = some (.int .u64 e.o) ∧ (flat es)[i * 3 + 2]? = some (.int .i64 e.g) := by
  induction es generalizing i with
  | nil => simp at h
  | cons x t ih =>
    rw [flat_cons]
    cases i with
    | zero => simp at h; subst h; exact ⟨rfl, rfl, rfl⟩
    | succ i =>
      simp at h
      have := ih h
      rw [show (i + 1) * 3 = i * 3 + 1 + 1 + 1 by omega]
      simpa using this
theorem flat_set {es : List Ent} {i : Nat} (e : Ent) : (((flat es).set (i * 3) (.int .i64 e.w)).set (i * 3 + 1) (.int .u64 e.o)).set (i * 3 + 2) (.int .i64 e.g) = flat (es.set i e) ∨ es.length ≤ i := by
  induction es generalizing i with
  | nil => right; simp
  | cons x t ih =>
    cases i with
    | zero => left; simp [flat_cons]
    | succ i =>
      rcases ih (i := i) with h | h
      · left
        rw [flat_cons, List.set_cons_succ, flat_cons, ← h, show (i + 1) * 3 = i * 3 + 1 + 1 + 1 by omega]
        simp
      · right; simp; exact h
theorem flat_one (e : Ent) : ∀ u ∈ flat [e], u.oneCell' = true := by intro u hu; simp [flat, Ent.vals] at hu; rcases hu with rfl | rfl | rfl <;> rfl
theorem flat_take (es : List Ent) (n : Nat) : (flat es).take (n * 3) = flat (es.take n) := by
  induction es generalizing n with
  | nil => simp [flat]
  | cons x t ih =>
    cases n with
    | zero => simp [flat]
    | succ n => rw [show (n + 1) * 3 = n * 3 + 1 + 1 + 1 by omega, List.take_succ_cons, flat_cons, flat_cons]; simp [ih]

/-- Block g holds these entries, and room for so many. -/
structure Row3 (w : World) (g cap : Nat) (es : List Ent) : Prop where
  blk : ∃ cur, w.heap[g]? = some (.cells cur 30 (0, 0)) ∧ cur.size = cap * 3 ∧ cur.toList.take (es.length * 3) = flat es
  le : es.length ≤ cap
  max : cap ≤ maxLen

section
variable {w : World} {g cap : Nat} {es : List Ent}
theorem Row3.lt (r : Row3 w g cap es) : g < w.heap.size := by obtain ⟨cur, h, _⟩ := r.blk; exact (Array.getElem?_eq_some_iff.1 h).1
theorem Row3.heap {w' : World} (r : Row3 w g cap es) (h : w'.heap[g]? = w.heap[g]?) : Row3 w' g cap es := by
  obtain ⟨⟨cur, h1, h2, h3⟩, l, m⟩ := r; exact ⟨⟨cur, h.trans h1, h2, h3⟩, l, m⟩
theorem Row3.cells (r : Row3 w g cap es) {i : Nat} {e : Ent} (h : es[i]? = some e) :
    w.cell? ⟨g, i * 3, none⟩ = some (.int .i64 e.w) ∧ w.cell? ⟨g, i * 3 + 1, none⟩ = some (.int .u64 e.o) ∧ w.cell? ⟨g, i * 3 + 2, none⟩ = some (.int .i64 e.g) := by
  obtain ⟨cur, h1, h2, h3⟩ := r.blk
  have hi := (List.getElem?_eq_some_iff.1 h).1
  have hf := flat_get h
  have key : ∀ j v, j < es.length * 3 → (flat es)[j]? = some v → w.cell? ⟨g, j, none⟩ = some v := fun j v hj hv => by
    rw [cell_of_row w g j cur _ _ h1]
    rw [← h3, List.getElem?_take_of_lt hj] at hv
    simpa using hv
  exact ⟨key _ _ (by omega) hf.1, key _ _ (by omega) hf.2.1, key _ _ (by omega) hf.2.2⟩
theorem Row3.free (r : Row3 w g cap es) (i : Nat) : w.frozen? ⟨g, i, none⟩ = false := by
  obtain ⟨cur, h1, h2, h3⟩ := r.blk; exact frozen_of_row w g i cur _ h1
theorem Row3.set (r : Row3 w g cap es) {i : Nat} (hi : i < es.length) (e : Ent) :
    Row3 (((w.setCell ⟨g, i * 3, none⟩ (.int .i64 e.w)).setCell ⟨g, i * 3 + 1, none⟩ (.int .u64 e.o)).setCell ⟨g, i * 3 + 2, none⟩ (.int .i64 e.g)) g cap (es.set i e) := by
  obtain ⟨cur, h1, h2, h3⟩ := r.blk
  refine ⟨⟨_, heap_setCell_same _ g _ _ _ _ (heap_setCell_same _ g _ _ _ _ (heap_setCell_same _ g _ _ _ _ h1)), by simpa using h2, ?_⟩, by simpa using r.le, r.max⟩
  rcases flat_set (es := es) (i := i) e with h | h
  · simp only [List.length_set, Array.toList_setIfInBounds, List.take_set, h3]
    exact h
  · omega
theorem Row3.take (r : Row3 w g cap es) (n : Nat) (hn : n ≤ es.length) : Row3 w g cap (es.take n) := by
  obtain ⟨cur, h1, h2, h3⟩ := r.blk
  refine ⟨⟨cur, h1, h2, ?_⟩, by rw [List.length_take]; have := r.le; omega, r.max⟩
  rw [List.length_take, Nat.min_eq_left hn, ← flat_take, ← h3, List.take_take, Nat.min_eq_left (by omega)]

def swp (es : List Ent) (i j : Nat) : List Ent := (es.set i es[j]!).set j es[i]!
theorem swp_len (es : List Ent) (i j : Nat) : (swp es i j).length = es.length := by simp [swp]
theorem bang {es : List Ent} {i : Nat} (h : i < es.length) : es[i]? = some es[i]! := by simp [h]
end
end Go.Proofs.Ytmaahidipbghfaa.Hp
