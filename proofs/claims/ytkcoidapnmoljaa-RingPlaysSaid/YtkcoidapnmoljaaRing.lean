/-
  Package ring: a ring's block, and contracts of its functions over a row, who is next, and the streak.
-/
import Derived.Test.YtkcoidapnmoljaaBig
import Derived.Test.YtkcoidapnmoljaaInts
import Derived.Deep.DeepCutAuto
namespace Go.Proofs.Ytkcoidapnmoljaa.Rng
open Go.RowKit
open Go.Proofs.Ytkcoidapnmoljaa.Ints
set_option linter.unusedVariables false

abbrev T : TypeId := 53
def tailCells (h n : Nat) (is : Bool) (nx st : Int) : List Value := [.int .i64 h, .int .i64 n, .bool is, .int .i64 nx, .int .i64 st]
def rcells (s : List Int) (h n : Nat) (is : Bool) (nx st : Int) : Array Value := (s.map (Value.int .i64) ++ tailCells h n is nx st).toArray

theorem rc_slot {s : List Int} {h n : Nat} {is : Bool} {nx st : Int} (hs : s.length = 256) {i : Nat} (hi : i < 256) : (rcells s h n is nx st)[i]? = (s[i]?).map (Value.int .i64) := by
  simp [rcells, List.getElem?_append, hs, hi]
theorem rc_tail {s : List Int} {h n : Nat} {is : Bool} {nx st : Int} (hs : s.length = 256) (i : Nat) : (rcells s h n is nx st)[256 + i]? = (tailCells h n is nx st)[i]? := by
  simp only [rcells, List.getElem?_toArray]
  rw [List.getElem?_append_right (by simp [hs])]
  simp [hs]
theorem rc_set_slot {s : List Int} {h n : Nat} {is : Bool} {nx st : Int} (hs : s.length = 256) {i : Nat} (hi : i < 256) (g : Int) : (rcells s h n is nx st).setIfInBounds i (.int .i64 g) = rcells (s.set i g) h n is nx st := by
  simp only [rcells, List.setIfInBounds_toArray]
  congr 1
  rw [List.set_append_left _ _ (by simpa [hs] using hi), List.map_set]
theorem rc_set_tail {s : List Int} {h n : Nat} {is : Bool} {nx st : Int} (hs : s.length = 256) (i : Nat) (v : Value) : (rcells s h n is nx st).setIfInBounds (256 + i) v = (s.map (Value.int .i64) ++ (tailCells h n is nx st).set i v).toArray := by
  simp only [rcells, List.setIfInBounds_toArray]
  congr 1
  rw [List.set_append_right _ _ (by simp [hs])]
  simp [hs]

/-- The ring's block, by its fields. -/
structure Raw (w : World) (b : Nat) (s : List Int) (h n : Nat) (is : Bool) (nx st : Int) : Prop where
  blk : w.heap[b]? = some (.cells (rcells s h n is nx st) T (0, 0))
  len : s.length = 256
  head : h < 256
  size : n ≤ 256

section
variable {w : World} {b : Nat} {s : List Int} {h n : Nat} {is : Bool} {nx st : Int}
theorem Raw.slot (r : Raw w b s h n is nx st) {i : Nat} (hi : i < 256) {x : Int} (hx : s[i]? = some x) : w.cell? ⟨b, i, none⟩ = some (.int .i64 x) := by
  rw [cell_of_row w b i _ _ _ r.blk, rc_slot r.len hi, hx]; rfl
theorem Raw.c256 (r : Raw w b s h n is nx st) : w.cell? ⟨b, 256, none⟩ = some (.int .i64 h) := (cell_of_row w b 256 _ _ _ r.blk).trans (rc_tail r.len 0)
theorem Raw.c257 (r : Raw w b s h n is nx st) : w.cell? ⟨b, 257, none⟩ = some (.int .i64 n) := (cell_of_row w b 257 _ _ _ r.blk).trans (rc_tail r.len 1)
theorem Raw.c258 (r : Raw w b s h n is nx st) : w.cell? ⟨b, 258, none⟩ = some (.bool is) := (cell_of_row w b 258 _ _ _ r.blk).trans (rc_tail r.len 2)
theorem Raw.c259 (r : Raw w b s h n is nx st) : w.cell? ⟨b, 259, none⟩ = some (.int .i64 nx) := (cell_of_row w b 259 _ _ _ r.blk).trans (rc_tail r.len 3)
theorem Raw.c260 (r : Raw w b s h n is nx st) : w.cell? ⟨b, 260, none⟩ = some (.int .i64 st) := (cell_of_row w b 260 _ _ _ r.blk).trans (rc_tail r.len 4)
theorem Raw.free (r : Raw w b s h n is nx st) (i : Nat) : w.frozen? ⟨b, i, none⟩ = false := frozen_of_row w b i _ _ r.blk
theorem Raw.lt (r : Raw w b s h n is nx st) : b < w.heap.size := (Array.getElem?_eq_some_iff.1 r.blk).1
theorem Raw.heap {w' : World} (r : Raw w b s h n is nx st) (e : w'.heap[b]? = w.heap[b]?) : Raw w' b s h n is nx st := ⟨e.trans r.blk, r.len, r.head, r.size⟩
theorem Raw.drew (r : Raw w b s h n is nx st) : Raw w.drew b s h n is nx st := r.heap rfl
theorem Raw.setSlot (r : Raw w b s h n is nx st) {i : Nat} (hi : i < 256) (g : Int) : Raw (w.setCell ⟨b, i, none⟩ (.int .i64 g)) b (s.set i g) h n is nx st :=
  ⟨by rw [heap_setCell_same w b i _ T _ r.blk, rc_set_slot r.len hi], by simpa using r.len, r.head, r.size⟩
theorem Raw.setHead (r : Raw w b s h n is nx st) {h' : Nat} (hh : h' < 256) : Raw (w.setCell ⟨b, 256, none⟩ (.int .i64 h')) b s h' n is nx st :=
  ⟨by rw [heap_setCell_same w b 256 _ T _ r.blk, rc_set_tail r.len 0]; rfl, r.len, hh, r.size⟩
theorem Raw.setSize (r : Raw w b s h n is nx st) {n' : Nat} (hh : n' ≤ 256) : Raw (w.setCell ⟨b, 257, none⟩ (.int .i64 n')) b s h n' is nx st :=
  ⟨by rw [heap_setCell_same w b 257 _ T _ r.blk, rc_set_tail r.len 1]; rfl, r.len, r.head, hh⟩
theorem Raw.setIs (r : Raw w b s h n is nx st) (is' : Bool) : Raw (w.setCell ⟨b, 258, none⟩ (.bool is')) b s h n is' nx st :=
  ⟨by rw [heap_setCell_same w b 258 _ T _ r.blk, rc_set_tail r.len 2]; rfl, r.len, r.head, r.size⟩
theorem Raw.setNext (r : Raw w b s h n is nx st) (g : Int) : Raw (w.setCell ⟨b, 259, none⟩ (.int .i64 g)) b s h n is g st :=
  ⟨by rw [heap_setCell_same w b 259 _ T _ r.blk, rc_set_tail r.len 3]; rfl, r.len, r.head, r.size⟩
theorem Raw.setStreak (r : Raw w b s h n is nx st) (g : Int) : Raw (w.setCell ⟨b, 260, none⟩ (.int .i64 g)) b s h n is nx g :=
  ⟨by rw [heap_setCell_same w b 260 _ T _ r.blk, rc_set_tail r.len 4]; rfl, r.len, r.head, r.size⟩
end

/-- At most one block is written, and new ones come. -/
theorem grown_set {w w' : World} {b : Nat} (h : w.grownBy w' (some b)) (i : Nat) (v : Value) : w.grownBy (w'.setCell ⟨b, i, none⟩ v) (some b) :=
  ⟨h.os, h.tape, h.output, by simpa using h.size, fun k hk hne => by
    rw [heap_setCell_other _ _ _ _ (fun e => hne (by rw [e]))]; exact h.block k hk hne⟩
theorem grown_drew {w w' : World} {r : Option Nat} (h : w.grownBy w' r) : w.grownBy w'.drew r := ⟨h.os, h.tape, h.output, h.size, h.block⟩

set_option maxHeartbeats 400000 in
theorem push_raw (w : World) (b : Nat) (s : List Int) (h n : Nat) (is : Bool) (nx st g : Int) (r : Raw w b s h n is nx st) (hn : n < 256) :
    Calls Try.prog 24 #[.pointer (some ⟨b, 0, none⟩), .int .i64 g] w fun e w' => e = .returned (.tuple #[]) ∧ Raw w' b (s.set ((h + n) % 256) g) h (n + 1) is nx st ∧ w.grownBy w' (some b) := by
  have hh := r.head
  have c1 := r.c256
  have c2 := r.c257
  have hm : (h + n) % 256 < 256 := Nat.mod_lt _ (by decide)
  obtain ⟨y, hy⟩ : ∃ y, s[(h + n) % 256]? = some y := ⟨_, List.getElem?_eq_getElem (by rw [r.len]; exact hm)⟩
  have c3 := r.slot hm hy
  have f := r.free
  clear hy
  go_enter Try.func24, Try.ntmps24
  go_wp2
  go_region
  go_wp2
  go_end0
  exact ⟨rfl, ((r.setSlot hm g).setSize (n' := n + 1) (by omega)).drew, grown_drew (grown_set (grown_set (World.grownBy.refl _ _) _ _) _ _)⟩

/-- A ring: its row, who is next, the streak. -/
def IsR (w : World) (b : Nat) (row : List Int) (nxt : Option Int) (st : Int) : Prop :=
  ∃ s h nx, Raw w b s h row.length nxt.isSome (nxt.getD nx) st ∧ 0 ≤ st ∧ st ≤ 4 ∧ ∀ i x, row[i]? = some x → s[(h + i) % 256]? = some x

theorem IsR.heap {w w' : World} {b : Nat} {row : List Int} {nxt : Option Int} {st : Int} (r : IsR w b row nxt st) (e : w'.heap[b]? = w.heap[b]?) : IsR w' b row nxt st := by
  obtain ⟨s, h, nx, r, a, c, d⟩ := r
  exact ⟨s, h, nx, r.heap e, a, c, d⟩
theorem IsR.lt {w : World} {b : Nat} {row : List Int} {nxt : Option Int} {st : Int} (r : IsR w b row nxt st) : b < w.heap.size := by
  obtain ⟨s, h, nx, r, _⟩ := r; exact r.lt
theorem IsR.below {w w' : World} {b : Nat} {row : List Int} {nxt : Option Int} {st : Int} (r : IsR w b row nxt st) (h : Below w.heap.size w w') : IsR w' b row nxt st := r.heap (h.block b r.lt)

theorem push_is {w : World} {b : Nat} {row : List Int} {nxt : Option Int} {st : Int} (r : IsR w b row nxt st) (hn : row.length < 256) (g : Int) :
    Calls Try.prog 24 #[.pointer (some ⟨b, 0, none⟩), .int .i64 g] w fun e w' => e = .returned (.tuple #[]) ∧ IsR w' b (row ++ [g]) nxt st ∧ w.grownBy w' (some b) := by
  obtain ⟨s, h, nx, r, a, c, d⟩ := r
  refine (push_raw w b s h _ _ _ st g r hn).mono fun e w' ⟨he, r', hg⟩ => ⟨he, ⟨_, h, nx, by simpa using r', a, c, fun i x hx => ?_⟩, hg⟩
  have hh := r.head
  have hl := r.len
  by_cases hi : i < row.length
  · rw [List.getElem?_append_left hi] at hx
    rw [List.getElem?_set_ne (by omega)]
    exact d i x hx
  · have hi2 : i = row.length := by
      have := (List.getElem?_eq_some_iff.1 hx).1
      simp at this; omega
    subst hi2
    simp at hx; subst hx
    rw [List.getElem?_set_self (by omega)]

set_option maxHeartbeats 400000 in
theorem len_is {w : World} {b : Nat} {row : List Int} {nxt : Option Int} {st : Int} (r : IsR w b row nxt st) (v : Int) (hv : v = row.length + (if nxt.isSome then 1 else 0)) :
    Calls Try.prog 16 #[.pointer (some ⟨b, 0, none⟩)] w fun e w' => e = .returned (.int .i64 v) ∧ w = w' := by
  obtain ⟨s, h, nx, r, a, c, d⟩ := r
  have hs := r.size
  have c1 := r.c257
  have c2 := r.c258
  cases nxt with
  | none =>
    rw [show v = row.length from by simpa using hv]
    clear hv
    go_enter Try.func16, Try.ntmps16
    go_wp2
    go_ret
    exact ⟨rfl, rfl⟩
  | some g =>
    rw [show v = row.length + 1 from by simpa using hv]
    clear hv
    go_enter Try.func16, Try.ntmps16
    go_wp2
    go_ret
    exact ⟨rfl, rfl⟩

theorem next_some {w : World} {b : Nat} {row : List Int} {g st : Int} (r : IsR w b row (some g) st) :
    Calls Try.prog 20 #[.pointer (some ⟨b, 0, none⟩)] w fun e w' => e = .returned (.tuple #[.int .i64 g, .bool true]) ∧ w = w' := by
  obtain ⟨s, h, nx, r, a, c, d⟩ := r
  have c1 := r.c258
  have c2 := r.c259
  go_enter Try.func20, Try.ntmps20
  go_wp2
  go_ret2
  exact ⟨rfl, rfl⟩
theorem next_none {w : World} {b : Nat} {row : List Int} {st : Int} (r : IsR w b row none st) :
    Calls Try.prog 20 #[.pointer (some ⟨b, 0, none⟩)] w fun e w' => e = .returned (.tuple #[.int .i64 0, .bool false]) ∧ w = w' := by
  obtain ⟨s, h, nx, r, a, c, d⟩ := r
  have c1 := r.c258
  have c2 := r.c259
  go_enter Try.func20, Try.ntmps20
  go_wp2
  go_ret2
  exact ⟨rfl, rfl⟩

theorem take_is {w : World} {b : Nat} {row : List Int} {g st : Int} (r : IsR w b row (some g) st) :
    Calls Try.prog 26 #[.pointer (some ⟨b, 0, none⟩)] w fun e w' => e = .returned (.int .i64 g) ∧ IsR w' b row none st ∧ w.grownBy w' (some b) := by
  obtain ⟨s, h, nx, r, a, c, d⟩ := r
  have c1 := r.c258
  have c2 := r.c259
  have f := r.free
  go_enter Try.func26, Try.ntmps26
  go_wp2
  go_ret
  exact ⟨rfl, ⟨s, h, g, r.setIs false, a, c, d⟩, grown_set (World.grownBy.refl _ _) _ _⟩
end Go.Proofs.Ytkcoidapnmoljaa.Rng
