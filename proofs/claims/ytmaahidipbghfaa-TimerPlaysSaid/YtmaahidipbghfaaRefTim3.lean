/-
  hostlerref10: Take.
-/
import Derived.Test.YtmaahidipbghfaaRefTim2
import Derived.Deep.DeepCutAuto
namespace Go.Proofs.Ytmaahidipbghfaa.Hp
open Go.RowKit Go.Shelf
set_option linter.unusedVariables false
set_option linter.unusedSimpArgs false

theorem wpList_append_tim {ops : Array Oper} {rest : List Oper} {o : Oper} {a : Act} {Q : Exit → Act → World → Prop} (hgd : o.guard = none) (s x : Operand)
    (ho : o.op = .call { callee := .builtin .append, args := #[s, x], argTypes := #[46, 46] }) (W : World) (base : Nat) (v : Value) (D : List Tim) (e : Tim)
    (N : Nat) (hN : W.heap.size = N) (hs : a.eval s = v) (hown : OwnsT W base v D) (hx : a.eval x = .slice (some ⟨N, 0, none⟩) 1 1) (hlen : D.length ≤ 100000) (hbase : base ≤ W.heap.size)
    (h : ∀ v' w', OwnsT w' base v' (D ++ [e]) → W.grownBy w' v.ownBlock → wpList Try.prog ops Q rest (a.put o.dst v') w') : wpList Try.prog ops Q (o :: rest) a (W.alloc (.cells #[.int .i64 e.p, .int .i64 e.e.w, .int .u64 e.e.o, .int .i64 e.e.g] TT)) := by
  subst hN
  obtain ⟨i0, hi, hz0, hz1, hz2⟩ := info_parts infoT
  refine wpList_append_own _ hgd s x 46 ho base TT i0 _ 4 32 Try.underlying46 hi hz0 hz1 hz2 rfl (by decide) v D.length (flatT D) hs (World.ownsRow.alloc hown _) ⟨W.heap.size, 0, none⟩ 1 1 e.four hx rfl (World.news_of_block (cs := #[.int .i64 e.p, .int .i64 e.e.w, .int .u64 e.e.o, .int .i64 e.e.g]) (heap_alloc_new _ _)) (by simp [Value.oneCell', Tim.four]) (by unfold maxLen; omega) (by omega) (by simp; omega) fun v' w' h1 h2 _ => h v' w' (by unfold OwnsT; rw [List.length_append, flatT_append]; simpa [flatT] using h1) ?_
  exact ⟨h2.os, h2.tape, h2.output, Nat.le_trans (by simp) h2.size, fun j hj hne => (h2.block j (by simp; omega) hne).trans (by rw [heap_alloc_old (h := hj)])⟩
theorem neq_te (a b : Ent) (w : World) : (binOp .neq TE a.agg b.agg).run Try.prog w = .ok (.bool (!decide (a = b))) w := by
  go_simp
  cases a; cases b
  simp only [Ent.mk.injEq]
  (repeat' split) <;> simp [*]
theorem ownsT_kept {w w' : World} {base : Nat} {v : Value} {D : List Tim} (h : OwnsT w base v D) (hb : Below w.heap.size w w') : OwnsT w' base v D := by
  refine World.ownsRow.kept h (row := none) ⟨hb.os, hb.tape, hb.output, hb.size, fun k hk _ => hb.block k hk⟩ ?_
  cases v.ownBlock <;> simp
theorem below_ownT {w a b : World} {v : Value} {D : List Tim} {B n : Nat} (h : Below n w a) (ho : OwnsT a B v D) (k : a.grownBy b v.ownBlock) (hB : n ≤ a.heap.size ∧ n ≤ B) : Below n w b :=
  ⟨k.os.trans h.os, k.tape.trans h.tape, k.output.trans h.output, Nat.le_trans h.size k.size, fun j hj => (k.block j (by omega) (fun e => by have := (World.ownsRow.lt ho j e.symm).1; omega)).trans (h.block j hj)⟩

theorem box_setR {w : World} {B : Nat} {a b c : Value} (h : w.heap[B]? = some (.cells #[a, b, c] TE (0, 0))) (e : Ent) :
    (((w.setCell ⟨B, 0, none⟩ (.int .i64 e.w)).setCell ⟨B, 1, none⟩ (.int .u64 e.o)).setCell ⟨B, 2, none⟩ (.int .i64 e.g)).heap[B]? = some (.cells e.cells TE (0, 0)) :=
  heap_setCell_same _ B 2 _ _ _ (heap_setCell_same _ B 1 _ _ _ (heap_setCell_same _ B 0 _ _ _ h))

theorem below_box {w w1 : World} {B k i j l : Nat} {a b c : Value} (h : Below B w w1) (hk : B ≤ k) : Below B w (((w1.setCell ⟨k, i, none⟩ a).setCell ⟨k, j, none⟩ b).setCell ⟨k, l, none⟩ c) :=
  ⟨h.os, h.tape, h.output, by rw [box_size]; exact h.size, fun q hq => (box_other (by omega)).trans (h.block q hq)⟩

/-- The three blocks that Take lays first. -/
theorem take_blocks (w : World) (n o : Int) (v : Value) : ∃ W, W = ((w.alloc (.cells #[.int .i64 n, v, .int .u64 o] TD)).alloc (.cells #[.int .i64 0, .slice none 0 0, .int .u64 0] TD)).alloc (.cells #[.int .i64 0, .int .u64 0, .int .i64 0] TE) ∧
    W.heap[w.heap.size]? = some (.cells #[.int .i64 n, v, .int .u64 o] TD (0, 0)) ∧ W.heap[w.heap.size + 1]? = some (.cells #[.int .i64 0, .slice none 0 0, .int .u64 0] TD (0, 0)) ∧
    W.heap[w.heap.size + 2]? = some (.cells #[.int .i64 0, .int .u64 0, .int .i64 0] TE (0, 0)) ∧ Below w.heap.size w W ∧ W.heap.size = w.heap.size + 3 := by
  refine ⟨_, rfl, ?_, ?_, ?_, ?_, by simp⟩
  · exact (heap_alloc_old _ _ (by simp; omega)).trans ((heap_alloc_old _ _ (by simp)).trans (heap_alloc_new _ _))
  · refine (heap_alloc_old _ _ (by simp)).trans ?_
    have := heap_alloc_new (w.alloc (.cells #[.int .i64 n, v, .int .u64 o] TD)) (.cells #[.int .i64 0, .slice none 0 0, .int .u64 0] TD)
    simpa using this
  · have := heap_alloc_new ((w.alloc (.cells #[.int .i64 n, v, .int .u64 o] TD)).alloc (.cells #[.int .i64 0, .slice none 0 0, .int .u64 0] TD)) (.cells #[.int .i64 0, .int .u64 0, .int .i64 0] TE)
    simpa using this
  · exact (((Below.refl _ _).alloc (Nat.le_refl _) _).alloc (by simp) _).alloc (by simp; omega) _

set_option maxRecDepth 100000 in
set_option maxHeartbeats 2000000 in
theorem rtake_no {w : World} {v : Value} {D : List Tim} {lo : Nat} (hv : TSees w lo v D) (hbig : D.length ≤ 1000) (n o now : Int) {L : List Ent} (hL : srt (sel (-1) D) = L) (hno : ∀ x t, L = x :: t → now < x.w) :
    Calls Try.prog 17 #[.agg #[.int .i64 n, v, .int .u64 o], .int .i64 now] w fun x w' => x = .returned (.tuple #[.agg #[.int .i64 n, v, .int .u64 o], (Ent.mk 0 0 0).agg, .bool false]) ∧ Below w.heap.size w w' := by
  have HV := Lib.hid hv
  have HNO := Lib.hid hno
  obtain ⟨a, cap, rfl, hle, hmx, _, _⟩ := hv
  obtain ⟨W, hW, h0, h1, h2, hb, hs⟩ := take_blocks w n o (.slice a D.length cap)
  have H := Lib.hid (And.intro h0 (And.intro h1 (And.intro h2 (And.intro hb hs))))
  have hW' : Hid (W = _) := Lib.hid hW
  clear h0 h1 h2 hb hno hs
  go_enter Try.func17, Try.ntmps17
  go_wp2_with fail
  rw [← hW]
  clear hW hW'
  refine (rof_is (HV.out.below H.out.2.2.2.1) hbig n o (-1) hL rfl).mono ?_
  rintro e w1 ⟨b, c, rfl, hr, hb1⟩
  have hsz1 := hb1.size
  have K := Lib.hid (show w1.heap[w.heap.size]? = _ ∧ w1.heap[w.heap.size + 1]? = _ ∧ w1.heap[w.heap.size + 2]? = _ ∧ Below w.heap.size w w1 from
    ⟨(hb1.block _ (by have := H.out.2.2.2.2; omega)).trans H.out.1, (hb1.block _ (by have := H.out.2.2.2.2; omega)).trans H.out.2.1, (hb1.block _ (by have := H.out.2.2.2.2; omega)).trans H.out.2.2.1, H.out.2.2.2.1.trans (hb1.mono H.out.2.2.2.1.size)⟩)
  have HR := Lib.hid hr
  have z0 : w1.cell? ⟨w.heap.size, 0, none⟩ = some (.int .i64 n) := cell_of_row _ _ 0 _ _ _ K.out.1
  have z1 : w1.cell? ⟨w.heap.size, 1, none⟩ = some (.slice a D.length cap) := cell_of_row _ _ 1 _ _ _ K.out.1
  have z2 : w1.cell? ⟨w.heap.size, 2, none⟩ = some (.int .u64 o) := cell_of_row _ _ 2 _ _ _ K.out.1
  have y0 : w1.cell? ⟨w.heap.size + 1, 0, none⟩ = some (.int .i64 0) := cell_of_row _ _ 0 _ _ _ K.out.2.1
  have y1 : w1.cell? ⟨w.heap.size + 1, 1, none⟩ = some (.slice none 0 0) := cell_of_row _ _ 1 _ _ _ K.out.2.1
  have y2 : w1.cell? ⟨w.heap.size + 1, 2, none⟩ = some (.int .u64 0) := cell_of_row _ _ 2 _ _ _ K.out.2.1
  have x0 : w1.cell? ⟨w.heap.size + 2, 0, none⟩ = some (.int .i64 0) := cell_of_row _ _ 0 _ _ _ K.out.2.2.1
  have x1 : w1.cell? ⟨w.heap.size + 2, 1, none⟩ = some (.int .u64 0) := cell_of_row _ _ 1 _ _ _ K.out.2.2.1
  have x2 : w1.cell? ⟨w.heap.size + 2, 2, none⟩ = some (.int .i64 0) := cell_of_row _ _ 2 _ _ _ K.out.2.2.1
  have fy : ∀ i, w1.frozen? ⟨w.heap.size + 1, i, none⟩ = false := fun i => frozen_of_row _ _ i _ _ K.out.2.1
  have fx : ∀ i, w1.frozen? ⟨w.heap.size + 2, i, none⟩ = false := fun i => frozen_of_row _ _ i _ _ K.out.2.2.1
  have hne : w.heap.size + 1 ≠ w.heap.size + 2 := by omega
  have T := Lib.hid (td_set K.out.2.1 (.int .i64 n) (.slice a D.length cap) (.int .u64 o))
  clear hr hb1 H
  rcases L with _ | ⟨x, t⟩
  · go_wp2_with fail
    refine bodyPost_ret (results_td3 rfl _ _ (w.heap.size + 1) (w.heap.size + 2) (.int .i64 n) (.slice a D.length cap) (.int .u64 o) (.bool false) ⟨0, 0, 0⟩ ?_ ?_ rfl rfl rfl) rfl ⟨rfl, ?_⟩
    · exact (box_other (by omega)).trans T.out
    · exact box_setR (((box_other (by omega)).trans K.out.2.2.1)) ⟨0, 0, 0⟩
    · exact below_box (below_box K.out.2.2.2 (by omega)) (by omega)
  · have hn : now < x.w := HNO.out x t rfl
    obtain ⟨c', rfl, c0⟩ : ∃ c', b = some c' ∧ w1.cell? c' = some (.int .i64 x.w) := by
      obtain ⟨_, _, e, _, _, _, h⟩ := HR.out
      obtain ⟨rfl, _, _⟩ := Value.slice.inj e
      obtain ⟨c', h5, h6, _⟩ := h 0 x rfl
      exact ⟨c', h5, by simpa [Addr.add] using h6⟩
    obtain ⟨q, hq⟩ : ∃ q, (x :: t).length = q + 1 := ⟨t.length, rfl⟩
    have hcq : q + 1 ≤ c := by
      obtain ⟨_, _, e, h5, _⟩ := HR.out
      obtain ⟨_, _, rfl⟩ := Value.slice.inj e
      omega
    rw [hq]
    clear hq
    go_wp2_with fail
    refine bodyPost_ret (results_td3 rfl _ _ (w.heap.size + 1) (w.heap.size + 2) (.int .i64 n) (.slice a D.length cap) (.int .u64 o) (.bool false) ⟨0, 0, 0⟩ ?_ ?_ rfl rfl rfl) rfl ⟨rfl, ?_⟩
    · exact (box_other (by omega)).trans T.out
    · exact box_setR (((box_other (by omega)).trans K.out.2.2.1)) ⟨0, 0, 0⟩
    · exact below_box (below_box K.out.2.2.2 (by omega)) (by omega)
end Go.Proofs.Ytmaahidipbghfaa.Hp
