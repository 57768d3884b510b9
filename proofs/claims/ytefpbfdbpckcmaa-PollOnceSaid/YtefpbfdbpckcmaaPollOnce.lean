/-
  The law PollOnce.
-/
import Derived.Test.YtefpbfdbpckcmaaPollOrder
namespace Go.Proofs.Ytefpbfdbpckcmaa.Pl
open Go.RowKit
set_option linter.unusedVariables false
set_option linter.unusedSimpArgs false

theorem wf_u8 {x : Int} (h : (Lit.int .u8 x).wf = true) : 0 ≤ x ∧ x < 256 := by
  simp [Lit.wf, IntKind.min, IntKind.max, IntKind.signed, IntKind.bits] at h
  omega
abbrev TAct : TypeId := 37
abbrev TM : TypeId := 35
abbrev i64 (x : Int) : Value := .int .i64 x
/-- What the law has written down. -/
structure On (w wr : World) (pb fb wb m1 m2 : Nat) (F : List (Int × St)) (G Wt Rd : List (Int × Int)) : Prop where
  pl : IsPl wr w.heap.size pb fb wb F G
  inv : Inv F G
  mw : MapU.IsMap wr m1 (enc i64 Wt)
  mr : MapU.IsMap wr m2 (enc i64 Rd)
  hw : ∀ fd, alook Wt fd = if (stOf F fd).waits then some ((stOf F fd).g + 1) else none
  hr : ∀ fd, alook Rd fd = if (stOf F fd).ready then some 1 else none
  rng : ∀ p ∈ F, 0 ≤ p.1 ∧ p.1 < 65536
  ne : m1 ≠ m2 ∧ m1 ≠ pb ∧ m1 ≠ fb ∧ m1 ≠ wb ∧ m2 ≠ pb ∧ m2 ≠ fb ∧ m2 ≠ wb
  below : Below w.heap.size w wr
  low : w.heap.size ≤ m1 ∧ w.heap.size ≤ m2
section
variable {w wr : World} {pb fb wb m1 m2 : Nat} {F : List (Int × St)} {G Wt Rd : List (Int × Int)}
theorem On.grown {w' : World} (h : On w wr pb fb wb m1 m2 F G Wt Rd) (hg : wr.grownBy w' none) : On w w' pb fb wb m1 m2 F G Wt Rd :=
  ⟨h.pl.grown hg, h.inv, h.mw.grown hg (by simp), h.mr.grown hg (by simp), h.hw, h.hr, h.rng, h.ne, below_next h.below hg h.below.size, h.low⟩
/-- A deed of the poll, then of the first map. -/
theorem On.deed {w' w2 : World} (h : On w wr pb fb wb m1 m2 F G Wt Rd) {F' : List (Int × St)} {G' Wt' : List (Int × Int)} (hp : IsPl w' w.heap.size pb fb wb F' G') (hk : PFr wr w' fb wb) (hi : Inv F' G')
    (hm : MapU.IsMap w2 m1 (enc i64 Wt')) (hg : w'.grownBy w2 (some m1)) (hw : ∀ fd, alook Wt' fd = if (stOf F' fd).waits then some ((stOf F' fd).g + 1) else none) (hr : ∀ fd, (stOf F' fd).ready = (stOf F fd).ready) (hrng : ∀ p ∈ F', 0 ≤ p.1 ∧ p.1 < 65536) :
    On w w2 pb fb wb m1 m2 F' G' Wt' Rd := by
  have lp := hp.lt
  refine ⟨hp.kept (hg.block _ lp.1 (fun e => h.ne.2.1 (Option.some.inj e).symm)) (hg.block _ lp.2.1 (fun e => h.ne.2.2.1 (Option.some.inj e).symm)) (hg.block _ lp.2.2 (fun e => h.ne.2.2.2.1 (Option.some.inj e).symm)), hi, hm,
    (h.mr.heap (hk.block _ h.mr.lt h.ne.2.2.2.2.2.1 h.ne.2.2.2.2.2.2)).heap (hg.block _ (Nat.lt_of_lt_of_le h.mr.lt hk.size) (fun e => h.ne.1 (Option.some.inj e).symm)), hw, fun fd => by rw [hr]; exact h.hr fd, hrng, h.ne, ?_, h.low⟩
  exact (below_pfr h.below hk h.below.size h.pl.low.2.1 h.pl.low.2.2).trans ⟨hg.os, hg.tape, hg.output, hg.size, fun k hk2 => hg.block k (by have := hk.size; have := h.below.size; omega) (fun e => by have := Option.some.inj e; have := h.low.1; omega)⟩
/-- A deed of the poll, then of the second map. -/
theorem On.deed2 {w' w2 : World} (h : On w wr pb fb wb m1 m2 F G Wt Rd) {F' : List (Int × St)} {G' Rd' : List (Int × Int)} (hp : IsPl w' w.heap.size pb fb wb F' G') (hk : PFr wr w' fb wb) (hi : Inv F' G')
    (hm : MapU.IsMap w2 m2 (enc i64 Rd')) (hg : w'.grownBy w2 (some m2)) (hw : ∀ fd, (stOf F' fd).waits = (stOf F fd).waits ∧ (stOf F' fd).g = (stOf F fd).g) (hr : ∀ fd, alook Rd' fd = if (stOf F' fd).ready then some 1 else none) (hrng : ∀ p ∈ F', 0 ≤ p.1 ∧ p.1 < 65536) :
    On w w2 pb fb wb m1 m2 F' G' Wt Rd' := by
  have lp := hp.lt
  refine ⟨hp.kept (hg.block _ lp.1 (fun e => h.ne.2.2.2.2.1 (Option.some.inj e).symm)) (hg.block _ lp.2.1 (fun e => h.ne.2.2.2.2.2.1 (Option.some.inj e).symm)) (hg.block _ lp.2.2 (fun e => h.ne.2.2.2.2.2.2 (Option.some.inj e).symm)), hi,
    (h.mw.heap (hk.block _ h.mw.lt h.ne.2.2.1 h.ne.2.2.2.1)).heap (hg.block _ (Nat.lt_of_lt_of_le h.mw.lt hk.size) (fun e => h.ne.1 (Option.some.inj e))), hm, fun fd => by rw [(hw fd).1, (hw fd).2]; exact h.hw fd, hr, hrng, h.ne, ?_, h.low⟩
  exact (below_pfr h.below hk h.below.size h.pl.low.2.1 h.pl.low.2.2).trans ⟨hg.os, hg.tape, hg.output, hg.size, fun k hk2 => hg.block k (by have := hk.size; have := h.below.size; omega) (fun e => by have := Option.some.inj e; have := h.low.2; omega)⟩
theorem stOf_put {fd x : Int} {v : St} : stOf (aput F fd v) x = if x = fd then v else stOf F x := by unfold stOf; rw [alook_put]; split <;> rfl
theorem stOf_del {fd x : Int} : stOf (adel F fd) x = if x = fd then .zero else stOf F x := by unfold stOf; rw [alook_del]; split <;> rfl
theorem mem_put {α : Type} {F : List (Int × α)} {fd : Int} {v : α} {p : Int × α} (h : p ∈ aput F fd v) : p = (fd, v) ∨ p ∈ F := by
  unfold aput at h
  split at h
  · obtain ⟨q, hq, rfl⟩ := List.mem_map.1 h
    split
    · exact .inl rfl
    · exact .inr hq
  · rcases List.mem_append.1 h with h | h
    · exact .inr h
    · exact .inl (List.mem_singleton.1 h)
theorem On.wait {w' w2 : World} (h : On w wr pb fb wb m1 m2 F G Wt Rd) {fd g : Int} (h0 : 0 ≤ g) (h1 : g < 4096) (hs : (stOf F fd).waits = false) (hq : (alook G g).isSome = false) (hf : fullL F fd = false) (hr : 0 ≤ fd ∧ fd < 65536)
    (hp : IsPl w' w.heap.size pb fb wb (aput F fd ⟨g, true, (stOf F fd).ready⟩) (aput G g fd)) (hk : PFr wr w' fb wb) (hm : MapU.IsMap w2 m1 (enc i64 (aput Wt fd (g + 1)))) (hg : w'.grownBy w2 (some m1)) :
    On w w2 pb fb wb m1 m2 (aput F fd ⟨g, true, (stOf F fd).ready⟩) (aput G g fd) (aput Wt fd (g + 1)) Rd := by
  refine h.deed hp hk (inv_wait h.inv h0 h1 hs hq hf) hm hg (fun x => ?_) (fun x => ?_) (fun p hp => ?_)
  · rw [alook_put, stOf_put]
    by_cases e : x = fd
    · rw [if_pos e, if_pos e]; rfl
    · rw [if_neg e, if_neg e]; exact h.hw x
  · rw [stOf_put]
    by_cases e : x = fd
    · rw [if_pos e, e]
    · rw [if_neg e]
  · rcases mem_put hp with rfl | hp
    · exact hr
    · exact h.rng p hp
theorem On.mark {w' w2 : World} (h : On w wr pb fb wb m1 m2 F G Wt Rd) {fd : Int} (hf : fullL F fd = false) (hr : 0 ≤ fd ∧ fd < 65536)
    (hp : IsPl w' w.heap.size pb fb wb (aput F fd { stOf F fd with ready := true }) G) (hk : PFr wr w' fb wb) (hm : MapU.IsMap w2 m2 (enc i64 (aput Rd fd 1))) (hg : w'.grownBy w2 (some m2)) :
    On w w2 pb fb wb m1 m2 (aput F fd { stOf F fd with ready := true }) G Wt (aput Rd fd 1) := by
  refine h.deed2 hp hk (inv_ready h.inv hf) hm hg (fun x => ?_) (fun x => ?_) (fun p hp => ?_)
  · rw [stOf_put]
    by_cases e : x = fd
    · rw [if_pos e, e]; exact ⟨rfl, rfl⟩
    · rw [if_neg e]; exact ⟨rfl, rfl⟩
  · rw [alook_put, stOf_put]
    by_cases e : x = fd
    · rw [if_pos e, if_pos e]; rfl
    · rw [if_neg e, if_neg e]; exact h.hr x
  · rcases mem_put hp with rfl | hp
    · exact hr
    · exact h.rng p hp
end
end Go.Proofs.Ytefpbfdbpckcmaa.Pl
