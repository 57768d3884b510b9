/-
  Steps through a region that draws its order, by hand: an operation that yields, one whose guard is not met, and a call.
-/
import Derived.Test.YtmaahidipbghfaaRows
import Derived.WalkKit
import Derived.Deep.RegionHeld3
namespace Go.Proofs.Ytmaahidipbghfaa.Own
open Go.RowKit

section
variable {P : Program} {ops : Array Oper} {Q : Exit → Act → World → Prop} {md : Region.Mode} {S : World → Prop}
theorem yes {i : Nat} {oi : Oper} {v : Value} {d : Option Tmp} {fuel : Nat} {listed : Array Bool} {a : Act} {w : World} (hi : ops[i]? = some oi) (hd : oi.dst = d)
    (hs : Region.noSelect ops = true) (hf : Region.free md ops listed i = true) (hr : (Region.ready md ops listed).contains i = true)
    (hQ : ∀ c a w, Q (.panic c) (a.put d v) w → Q (.panic c) a w) (hw : Region.wanted oi (yielded ops a.tmps) = true) (hy : ∀ w, S w → (execOp a.eval oi).run P w = .ok (.value v) w) (hS : S w)
    (h : wpAnyH P md ops Q S fuel (listed.setIfInBounds i true) (a.put d v) w) : wpAnyH P md ops Q S (fuel + 1) listed a w := by
  subst hd
  exact wpAnyH_take hi hs hf hr hQ (.inl ⟨hw, hy⟩) hS h
theorem no {i : Nat} {oi : Oper} {d : Option Tmp} {fuel : Nat} {listed : Array Bool} {a : Act} {w : World} (hi : ops[i]? = some oi) (hd : oi.dst = d)
    (hs : Region.noSelect ops = true) (hf : Region.free md ops listed i = true) (hr : (Region.ready md ops listed).contains i = true)
    (hQ : ∀ c a w, Q (.panic c) (a.put d undef) w → Q (.panic c) a w) (hw : Region.wanted oi (yielded ops a.tmps) = false) (hS : S w)
    (h : wpAnyH P md ops Q S fuel (listed.setIfInBounds i true) (a.put d undef) w) : wpAnyH P md ops Q S (fuel + 1) listed a w := by
  subst hd
  exact wpAnyH_take hi hs hf hr hQ (.inr ⟨hw, rfl⟩) hS h
/-- The one that may come up is a call of a Go function: its contract. -/
theorem call {i : Nat} {oi : Oper} {d : Option Tmp} {fn : Nat} {vs : Array Value} {fuel : Nat} {listed : Array Bool} {a : Act} {w : World} {C : Ending → World → Prop} (hi : ops[i]? = some oi) (hd : oi.dst = d)
    (hr : Region.ready md ops listed = [i]) (hw : Region.wanted oi (yielded ops a.tmps) = true) (hx : (execOp a.eval oi).run P w = .ok (.enter fn vs) w)
    (hc : Calls P fn vs w C) (h : ∀ e w', C e w' → ∃ v, e = .returned v ∧ S w' ∧ (S w' → wpAnyH P md ops Q S fuel (listed.setIfInBounds i true) (a.put d v) w')) : wpAnyH P md ops Q S (fuel + 1) listed a w := by
  subst hd
  refine wpAnyH_all hr (by simp) ?_
  intro j hj
  obtain rfl : j = i := by simpa using hj
  unfold wpOp
  simp only [hi]
  rw [if_pos hw]
  left
  unfold Oper.wp
  rw [hx, Oper.upon_enter]
  refine hc.mono fun e w' hC => ?_
  obtain ⟨v, rfl, hS, hk⟩ := h e w' hC
  exact ⟨hS, hk hS⟩
/-- At an operation that may come up: what its weakest precondition is. -/
theorem op {i : Nat} {oi : Oper} {a : Act} {w : World} {K : Act → World → Prop} (hi : ops[i]? = some oi) (hw : Region.wanted oi (yielded ops a.tmps) = true) (h : oi.wp P a w K Q) : wpOp P ops Q i K a w := by
  unfold wpOp
  simp only [hi]
  rw [if_pos hw]
  exact .inl h
/-- An operation that yields, and maybe changes the world. -/
theorem run {oi : Oper} {v : Value} {a : Act} {w w' : World} {K : Act → World → Prop} (hx : (execOp a.eval oi).run P w = .ok (.value v) w') (h : K (a.put oi.dst v) w') : oi.wp P a w K Q := by
  unfold Oper.wp
  rw [hx]
  exact h
end
end Go.Proofs.Ytmaahidipbghfaa.Own
