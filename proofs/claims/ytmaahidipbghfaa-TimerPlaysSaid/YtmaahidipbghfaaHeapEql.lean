/-
  Package heap: entries compared; a new heap.
-/
import Derived.Test.YtmaahidipbghfaaHeapLaw
namespace Go.Proofs.Ytmaahidipbghfaa.Hp
open Go.RowKit
set_option linter.unusedVariables false

theorem eql_ent (a b : Ent) (w : World) : (binOp .eql 30 a.agg b.agg).run Try.prog w = .ok (.bool (decide (a = b))) w := by
  go_simp
  cases a; cases b
  simp only [Ent.mk.injEq]
  (repeat' split) <;> simp [*]
theorem neq_ent (a b : Ent) (w : World) : (binOp .neq 30 a.agg b.agg).run Try.prog w = .ok (.bool (!decide (a = b))) w := by
  go_simp
  cases a; cases b
  simp only [Ent.mk.injEq]
  (repeat' split) <;> simp [*]

/-- Two entries compared, under a guard that is met. -/
theorem wpList_eql_ent {ops : Array Oper} {rest : List Oper} {o : Oper} {a : Act} {w : World} {Q : Exit → Act → World → Prop} (hw : Region.wanted o (yielded ops a.tmps) = true) (x y : Operand) (ho : o.op = .binOp .eql 30 x y 30)
    (e f : Ent) (hx : a.eval x = e.agg) (hy : a.eval y = f.agg) (c : Bool) (hc : decide (e = f) = c)
    (h : wpList Try.prog ops Q rest (a.put o.dst (.bool c)) w) : wpList Try.prog ops Q (o :: rest) a w :=
  wpList_step fun _ hK => by
    have h2 : (execOp a.eval o).run Try.prog w = .ok (.value (.bool c)) w := by
      unfold execOp
      have hg : (eqGuard .eql 30 x y e.agg f.agg).run Try.prog w = .ok () w := by go_simp
      simp [ho, hx, hy, Sem.run_bind, hg, eql_ent, hc, Result.andThen]
    rw [if_pos hw]
    unfold Oper.wp
    rw [h2, Oper.upon_value]
    exact hK _ _ h

theorem HFr.below {w w' : World} {B b i : Nat} {v v' : Value} (h : HFr w w' b i v v') (hb : B ≤ b) (hv : ∀ g, v.ownBlock = some g → B ≤ g) (hB : B ≤ w.heap.size) : Below B w w' :=
  ⟨h.os, h.tape, h.output, h.size, fun k hk => h.block k (by omega) (by omega) (fun e => by have := hv k e; omega)⟩
theorem IsHp.base_le {w : World} {base b i : Nat} {v : Value} {es : List Ent} (h : IsHp w base b i v es) : ∀ g, v.ownBlock = some g → base ≤ g := fun g e => (h.ownlt g e).2.2
theorem hp_new (w : World) (base : Nat) : IsHp (w.alloc (.cells #[.slice none 0 0] 68)) base w.heap.size 0 (.slice none 0 0) [] :=
  ⟨cell_of_one (heap_alloc_new _ _), free_of_one (heap_alloc_new _ _), .inl ⟨rfl, rfl⟩⟩
end Go.Proofs.Ytmaahidipbghfaa.Hp
