/-
  hostlerref11: Take.
-/
import Derived.Test.YtefpbfdbpckcmaaRefPoll3
import Derived.BigQuiet
namespace Go.Proofs.Ytefpbfdbpckcmaa.Pl
open Go.RowKit
set_option linter.unusedVariables false
set_option linter.unusedSimpArgs false

theorem bestD_app (R : List Int) (x : Int × Int) : ∀ (L : List (Int × Int)) (b : Int × Int), bestD R (L ++ [x]) b = if x.1 ∈ R ∧ x.1 < (bestD R L b).1 then x else bestD R L b
  | [], b => rfl
  | y :: t, b => by show bestD R (t ++ [x]) _ = _; rw [bestD_app R x t]; rfl
/-- The three blocks that Take lays first. -/
structure Bz (w W : World) (u v : Value) (bf bg : Int) : Prop where
  y : By w W u v
  t : W.heap[w.heap.size + 2]? = some (.cells #[.int .i64 bf, .int .i64 bg] TW (0, 0))
theorem bz_new (w : World) (u v : Value) : ∃ W, W = ((w.alloc (.cells #[u, v] TPo)).alloc (.cells #[.slice none 0 0, .slice none 0 0] TPo)).alloc (.cells #[.int .i64 65536, .int .i64 0] TW) ∧ Bz w W u v 65536 0 := by
  refine ⟨_, rfl, (by_new w u v).next (below_alloc _), ?_⟩
  have := heap_alloc_new ((w.alloc (.cells #[u, v] TPo)).alloc (.cells #[.slice none 0 0, .slice none 0 0] TPo)) (.cells #[.int .i64 65536, .int .i64 0] TW)
  simpa using this
section
variable {w W W' : World} {u v : Value} {bf bg : Int}
theorem Bz.lt (h : Bz w W u v bf bg) : w.heap.size + 2 < W.heap.size := (Array.getElem?_eq_some_iff.1 h.t).1
theorem Bz.next (h : Bz w W u v bf bg) (hb : Below W.heap.size W W') : Bz w W' u v bf bg := ⟨h.y.next hb, (hb.block _ h.lt).trans h.t⟩
theorem Bz.e0 (h : Bz w W u v bf bg) : W.cell? ⟨w.heap.size + 2, 0, none⟩ = some (.int .i64 bf) := cell_of_row _ _ 0 _ _ _ h.t
theorem Bz.e1 (h : Bz w W u v bf bg) : W.cell? ⟨w.heap.size + 2, 1, none⟩ = some (.int .i64 bg) := cell_of_row _ _ 1 _ _ _ h.t
theorem Bz.fe (h : Bz w W u v bf bg) (i : Nat) : W.frozen? ⟨w.heap.size + 2, i, none⟩ = false := frozen_of_row _ _ i _ _ h.t
theorem tw_set {w : World} {B : Nat} {a b : Value} (h : w.heap[B]? = some (.cells #[a, b] TW (0, 0))) (x y : Value) :
    ((w.setCell ⟨B, 0, none⟩ x).setCell ⟨B, 1, none⟩ y).heap[B]? = some (.cells #[x, y] TW (0, 0)) :=
  heap_setCell_same _ B 1 _ _ _ (heap_setCell_same _ B 0 _ _ _ h)
theorem Bz.set (h : Bz w W u v bf bg) (x y : Int) : Bz w ((W.setCell ⟨w.heap.size + 2, 0, none⟩ (.int .i64 x)).setCell ⟨w.heap.size + 2, 1, none⟩ (.int .i64 y)) u v x y :=
  ⟨⟨(set2_other (by omega)).trans h.y.b, (set2_other (by omega)).trans h.y.z, below_set2 h.y.below (by omega)⟩, tw_set h.t _ _⟩
end
theorem results_tp4 {fn : Func} {p q r s : Tmp} (h : fn.results = #[.cell p TPo, .tmp q, .tmp r, .tmp s]) (tmps : Array Value) (w : World) (B : Nat) (x y a b c : Value) (hB : w.heap[B]? = some (.cells #[x, y] TPo (0, 0)))
    (hp : tmps.getD p undef = .pointer (some ⟨B, 0, none⟩)) (hq : tmps.getD q undef = a) (hr : tmps.getD r undef = b) (hs : tmps.getD s undef = c) : (results fn tmps).run Try.prog w = .ok (.tuple #[.agg #[x, y], a, b, c]) w := by
  have c0 : w.cell? ⟨B, 0, none⟩ = some x := cell_of_row _ _ 0 _ _ _ hB
  have c1 : w.cell? ⟨B, 1, none⟩ = some y := cell_of_row _ _ 1 _ _ _ hB
  have hp' : tmps[p]?.getD undef = .pointer (some ⟨B, 0, none⟩) := by simpa using hp
  have hq' : tmps[q]?.getD undef = a := by simpa using hq
  have hr' : tmps[r]?.getD undef = b := by simpa using hr
  have hs' : tmps[s]?.getD undef = c := by simpa using hs
  clear hB hp hq hr hs
  simp [results, h, hp', hq', hr', hs', asAddr, go_sem, c0, c1]
theorem neq_tw (a b : Int × Int) (w : World) : (binOp .neq TW (.agg #[.int .i64 a.1, .int .i64 a.2]) (.agg #[.int .i64 b.1, .int .i64 b.2])).run Try.prog w = .ok (.bool (!decide (a = b))) w := by
  go_simp
  obtain ⟨a1, a2⟩ := a
  obtain ⟨b1, b2⟩ := b
  simp only [Prod.mk.injEq]
  (repeat' split) <;> simp [*]
def butW (x : Int × Int) (D : List (Int × Int)) : List (Int × Int) := D.filter fun y => !decide (y = x)
def butI (x : Int) (R : List Int) : List Int := R.filter fun y => !decide (y = x)
/-- The block of what is left. -/
structure Bo (w W : World) (B B2 O : Nat) (u v : Value) (bf bg : Int) (D : List (Int × Int)) (R : List Int) (v1 v2 : Value) : Prop where
  z : Bz w W u v bf bg
  o : W.heap[O]? = some (.cells #[v1, v2] TPo (0, 0))
  w1 : OwnsW W B v1 D
  w2 : OwnsI W B2 v2 R
  lt : w.heap.size + 2 < O ∧ O < B ∧ B ≤ B2 ∧ B2 ≤ W.heap.size
section
variable {w W W' : World} {B B2 O : Nat} {u v : Value} {bf bg : Int} {D : List (Int × Int)} {R : List Int} {v1 v2 : Value}
theorem Bo.next (h : Bo w W B B2 O u v bf bg D R v1 v2) (hb : Below W.heap.size W W') : Bo w W' B B2 O u v bf bg D R v1 v2 :=
  ⟨h.z.next hb, (hb.block _ (by have := h.lt; omega)).trans h.o, ownsR_kept h.w1 hb, ownsR_kept h.w2 hb, by have := h.lt; have := hb.size; omega⟩
theorem Bo.o0 (h : Bo w W B B2 O u v bf bg D R v1 v2) : W.cell? ⟨O, 0, none⟩ = some v1 := cell_of_row _ _ 0 _ _ _ h.o
theorem Bo.o1 (h : Bo w W B B2 O u v bf bg D R v1 v2) : W.cell? ⟨O, 1, none⟩ = some v2 := cell_of_row _ _ 1 _ _ _ h.o
theorem Bo.fo (h : Bo w W B B2 O u v bf bg D R v1 v2) (i : Nat) : W.frozen? ⟨O, i, none⟩ = false := frozen_of_row _ _ i _ _ h.o
/-- Low blocks. -/
theorem Bo.zset (h : Bo w W B B2 O u v bf bg D R v1 v2) {i : Nat} {x : Value} (hos : W'.os = W.os) (htp : W'.tape = W.tape) (hout : W'.output = W.output) (hsz : W.heap.size ≤ W'.heap.size) (hb : ∀ j, j < B → W'.heap[j]? = W.heap[j]?) : Bz w (W'.setCell ⟨O, i, none⟩ x) u v bf bg := by
  have hO := h.lt
  have hs : ∀ j, j ≠ O → (W'.setCell ⟨O, i, none⟩ x).heap[j]? = W'.heap[j]? := fun j hj => heap_setCell_other _ _ _ _ hj
  have hz := h.z.y.below
  exact ⟨⟨(hs _ (by omega)).trans ((hb _ (by omega)).trans h.z.y.b), (hs _ (by omega)).trans ((hb _ (by omega)).trans h.z.y.z), ⟨hos.trans hz.os, htp.trans hz.tape, hout.trans hz.output, by simpa using Nat.le_trans hz.size hsz, fun k hk => (hs _ (by omega)).trans ((hb _ (by omega)).trans (hz.block k hk))⟩⟩, (hs _ (by omega)).trans ((hb _ (by omega)).trans h.z.t)⟩
/-- One more that waits is left. -/
theorem Bo.moreW (h : Bo w W B B2 O u v bf bg D R v1 (.slice none 0 0)) {v1' : Value} {D' : List (Int × Int)} (ho : OwnsW W' B v1' D') (hg : W.grownBy W' v1.ownBlock) :
    Bo w (W'.setCell ⟨O, 0, none⟩ v1') B B2 O u v bf bg D' R v1' (.slice none 0 0) := by
  have hO := h.lt
  have hb : ∀ j, j < B → W'.heap[j]? = W.heap[j]? := fun j hj => hg.block j (by omega) (fun e => by have := (World.ownsRow.lt h.w1 j e.symm).1; omega)
  have hs : ∀ j, j ≠ O → (W'.setCell ⟨O, 0, none⟩ v1').heap[j]? = W'.heap[j]? := fun j hj => heap_setCell_other _ _ _ _ hj
  exact ⟨h.zset hg.os hg.tape hg.output hg.size hb, heap_setCell_same _ O 0 _ _ _ ((hb _ (by omega)).trans h.o), ownsR_heap ho (fun j hj => hs j (by have := (World.ownsRow.lt ho j hj).1; omega)), ownsR_heap h.w2 (fun j hj => by simp [Value.ownBlock] at hj), by have := hg.size; simp; omega⟩
/-- One more that is ready is left. -/
theorem Bo.moreI (h : Bo w W B B2 O u v bf bg D R v1 v2) {v2' : Value} {R' : List Int} (ho : OwnsI W' B2 v2' R') (hg : W.grownBy W' v2.ownBlock) (h1 : ∀ j, v1.ownBlock = some j → j < B2) :
    Bo w (W'.setCell ⟨O, 1, none⟩ v2') B B2 O u v bf bg D R' v1 v2' := by
  have hO := h.lt
  have hb : ∀ j, j < B2 → W'.heap[j]? = W.heap[j]? := fun j hj => hg.block j (by omega) (fun e => by have := (World.ownsRow.lt h.w2 j e.symm).1; omega)
  have hs : ∀ j, j ≠ O → (W'.setCell ⟨O, 1, none⟩ v2').heap[j]? = W'.heap[j]? := fun j hj => heap_setCell_other _ _ _ _ hj
  exact ⟨h.zset hg.os hg.tape hg.output hg.size (fun j hj => hb j (by omega)), heap_setCell_same _ O 1 _ _ _ ((hb _ (by omega)).trans h.o), ownsR_heap h.w1 (fun j hj => (hs j (by have := (World.ownsRow.lt h.w1 j hj).1; omega)).trans (hb j (h1 j hj))), ownsR_heap ho (fun j hj => hs j (by have := (World.ownsRow.lt ho j hj).1; omega)), by have := hg.size; simp; omega⟩
end
theorem butW_app (x : Int × Int) (D E : List (Int × Int)) : butW x (D ++ E) = butW x D ++ butW x E := by simp [butW]
theorem butI_app (x : Int) (D E : List Int) : butI x (D ++ E) = butI x D ++ butI x E := by simp [butI]
theorem butW_len (x : Int × Int) (D : List (Int × Int)) : (butW x D).length ≤ D.length := List.length_filter_le _ _
theorem butI_len (x : Int) (R : List Int) : (butI x R).length ≤ R.length := List.length_filter_le _ _
end Go.Proofs.Ytefpbfdbpckcmaa.Pl
