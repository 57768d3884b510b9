/-
  The law PollPlays: the poll and the document's rows, side by side in memory.
-/
import Derived.Test.YtefpbfdbpckcmaaPollAny
import Derived.Test.YtefpbfdbpckcmaaPollCopy
import Derived.Test.YtefpbfdbpckcmaaPollLives
import Derived.Test.YtefpbfdbpckcmaaRegionOwn
import Derived.Test.YtefpbfdbpckcmaaArgs
import Derived.Deep.CutBlock
namespace Go.Proofs.Ytefpbfdbpckcmaa.Pl
open Go.RowKit
set_option linter.unusedVariables false
set_option linter.unusedSimpArgs false

/-- The poll, and the document's rows in the block B. -/
structure Pd (w wr : World) (pb fb wb B : Nat) (F : List (Int × St)) (G W : List (Int × Int)) (R : List Int) (v1 v2 : Value) : Prop where
  p : IsPl wr w.heap.size pb fb wb F G
  d : wr.heap[B]? = some (.cells #[v1, v2] TPo (0, 0))
  dw : WSees wr w.heap.size v1 W
  di : ISees wr w.heap.size v2 R
  far : ∀ j, v1.ownBlock = some j ∨ v2.ownBlock = some j → j ≠ fb ∧ j ≠ wb ∧ j ≠ B ∧ j ≠ pb
  ne : B ≠ pb ∧ B ≠ fb ∧ B ≠ wb ∧ w.heap.size ≤ B
  below : Below w.heap.size w wr
section
variable {w wr w' w2 : World} {pb fb wb B : Nat} {F F' : List (Int × St)} {G G' W W' : List (Int × Int)} {R R' : List Int} {v1 v2 v1' v2' : Value}
theorem below_none {a b : World} (h : Below a.heap.size a b) : a.grownBy b none := ⟨h.os, h.tape, h.output, h.size, fun k hk _ => h.block k hk⟩
theorem Pd.lt (h : Pd w wr pb fb wb B F G W R v1 v2) : B < wr.heap.size := (Array.getElem?_eq_some_iff.1 h.d).1
theorem Pd.size (h : Pd w wr pb fb wb B F G W R v1 v2) : w.heap.size ≤ wr.heap.size := h.below.size
theorem Pd.next (h : Pd w wr pb fb wb B F G W R v1 v2) (hb : Below wr.heap.size wr w') : Pd w w' pb fb wb B F G W R v1 v2 :=
  ⟨h.p.grown (below_none hb), (hb.block _ h.lt).trans h.d, h.dw.below hb, h.di.below hb, h.far, h.ne, h.below.trans (hb.mono h.size)⟩
theorem Pd.grown (h : Pd w wr pb fb wb B F G W R v1 v2) (hg : wr.grownBy w' none) : Pd w w' pb fb wb B F G W R v1 v2 :=
  h.next ⟨hg.os, hg.tape, hg.output, hg.size, fun k hk => hg.block k hk (by simp)⟩
theorem Pd.poll (h : Pd w wr pb fb wb B F G W R v1 v2) (hp : IsPl w' w.heap.size pb fb wb F' G') (hk : PFr wr w' fb wb) : Pd w w' pb fb wb B F' G' W R v1 v2 := by
  have hlo := h.p.low
  refine ⟨hp, (hk.block _ h.lt h.ne.2.1 h.ne.2.2.1).trans h.d, RSees.kept h.dw hk.size (fun j hj => ?_), RSees.kept h.di hk.size (fun j hj => ?_), h.far, h.ne, h.below.trans (hk.below hlo.2.1 hlo.2.2 h.size)⟩
  · exact hk.block j (RSees.own h.dw hj).2 (h.far j (.inl hj)).1 (h.far j (.inl hj)).2.1
  · exact hk.block j (RSees.own h.di hj).2 (h.far j (.inr hj)).1 (h.far j (.inr hj)).2.1
theorem Pd.c0 (h : Pd w wr pb fb wb B F G W R v1 v2) : wr.cell? ⟨B, 0, none⟩ = some v1 := cell_of_row _ _ 0 _ _ _ h.d
theorem Pd.c1 (h : Pd w wr pb fb wb B F G W R v1 v2) : wr.cell? ⟨B, 1, none⟩ = some v2 := cell_of_row _ _ 1 _ _ _ h.d
theorem Pd.fr (h : Pd w wr pb fb wb B F G W R v1 v2) (i : Nat) : wr.frozen? ⟨B, i, none⟩ = false := frozen_of_row _ _ i _ _ h.d
/-- The document's rows have changed. -/
theorem Pd.doc (h : Pd w wr pb fb wb B F G W R v1 v2) (hb : Below wr.heap.size wr w2) (hw : WSees w2 w.heap.size v1' W') (hi : ISees w2 w.heap.size v2' R') (f1 : Fresh wr v1 v1') (f2 : Fresh wr v2 v2') (o : Obj) :
    Pd w (((w2.alloc o).setCell ⟨B, 0, none⟩ v1').setCell ⟨B, 1, none⟩ v2') pb fb wb B F G W' R' v1' v2' := by
  have hB := h.lt
  have hlt := h.p.lt
  have h2 := (h.next hb).next (below_alloc o)
  have hfar : ∀ j, v1'.ownBlock = some j ∨ v2'.ownBlock = some j → j ≠ fb ∧ j ≠ wb ∧ j ≠ B ∧ j ≠ pb := fun j hj => by
    rcases hj with hj | hj
    · rcases f1 j hj with q | q
      · exact h.far j (.inl q)
      · omega
    · rcases f2 j hj with q | q
      · exact h.far j (.inr q)
      · omega
  have hs : ∀ j, j ≠ B → (((w2.alloc o).setCell ⟨B, 0, none⟩ v1').setCell ⟨B, 1, none⟩ v2').heap[j]? = (w2.alloc o).heap[j]? := fun j hj => set2_other hj
  refine ⟨h2.p.kept (hs _ (Ne.symm h.ne.1)) (hs _ (Ne.symm h.ne.2.1)) (hs _ (Ne.symm h.ne.2.2.1)), tp_set h2.d _ _, RSees.kept (hw.below (below_alloc o)) (by simp) (fun j hj => hs j (hfar j (.inl hj)).2.2.1), RSees.kept (hi.below (below_alloc o)) (by simp) (fun j hj => hs j (hfar j (.inr hj)).2.2.1), hfar, h.ne, below_set2 h2.below h.ne.2.2.2⟩
end
abbrev TAct : TypeId := 37
theorem act3 {w : World} {B : Nat} {a b c : Value} (h : w.heap[B]? = some (.cells #[a, b, c] TAct (0, 0))) : w.cell? ⟨B, 0, none⟩ = some a ∧ w.cell? ⟨B, 1, none⟩ = some b ∧ w.cell? ⟨B, 2, none⟩ = some c :=
  ⟨cell_of_row _ _ 0 _ _ _ h, cell_of_row _ _ 1 _ _ _ h, cell_of_row _ _ 2 _ _ _ h⟩
section
variable {w : World} {base pb fb wb : Nat} {F : List (Int × St)} {G : List (Int × Int)}
theorem plen_of (h : IsPl w base pb fb wb F G) {L : Nat} (hr : F.length = L) : Calls Try.prog 13 #[.pointer (some ⟨pb, 0, none⟩)] w fun e w' => e = .returned (.int .i64 L) ∧ w = w' := hr ▸ plen_is h
theorem pdue_of (h : IsPl w base pb fb wb F G) {r : Bool} (hr : dueL F = r) : Calls Try.prog 12 #[.pointer (some ⟨pb, 0, none⟩)] w fun e w' => e = .returned (.bool r) ∧ w.grownBy w' none := hr ▸ pdue_is h
theorem phas_of (h : IsPl w base pb fb wb F G) (g : Int) {r : Bool} (hr : (alook G g).isSome = r) : Calls Try.prog 20 #[.pointer (some ⟨pb, 0, none⟩), .int .i64 g] w fun e w' => e = .returned (.bool r) ∧ w = w' := hr ▸ phas_is h g
theorem pis_of (h : IsPl w base pb fb wb F G) (fd : Int) {r : Bool} (hr : (stOf F fd).ready = r) : Calls Try.prog 14 #[.pointer (some ⟨pb, 0, none⟩), .int .u16 fd] w fun e w' => e = .returned (.bool r) ∧ w = w' := hr ▸ pis_is h fd
theorem pwho_of (h : IsPl w base pb fb wb F G) (fd : Int) {x : Int} {r : Bool} (hx : (stOf F fd).g = x) (hr : (stOf F fd).waits = r) : Calls Try.prog 22 #[.pointer (some ⟨pb, 0, none⟩), .int .u16 fd] w fun e w' => e = .returned (.tuple #[.int .i64 x, .bool r]) ∧ w.grownBy w' none := hr ▸ hx ▸ pwho_is h fd
end
theorem below_drew {w : World} {n : Nat} : Below n w w.drew := ⟨rfl, rfl, rfl, Nat.le_refl _, fun _ _ => rfl⟩
theorem Pd.drew {w wr : World} {pb fb wb B : Nat} {F : List (Int × St)} {G W : List (Int × Int)} {R : List Int} {v1 v2 : Value} (h : Pd w wr pb fb wb B F G W R v1 v2) : Pd w wr.drew pb fb wb B F G W R v1 v2 := h.next below_drew
/-- What a region loads. -/
theorem Pd.s3 {w wr : World} {pb fb wb B A : Nat} {F : List (Int × St)} {G W : List (Int × Int)} {R : List Int} {v1 v2 : Value} {y f gg : Int} (h : Pd w wr pb fb wb B F G W R v1 v2) (ha : wr.heap[A]? = some (.cells #[.int .u8 y, .int .u16 f, .int .i64 gg] TAct (0, 0))) :
    wr.cell? ⟨B, 0, none⟩ = some v1 ∧ wr.cell? ⟨B, 1, none⟩ = some v2 ∧ wr.cell? ⟨A, 2, none⟩ = some (.int .i64 gg) := ⟨h.c0, h.c1, cell_of_row _ _ 2 _ _ _ ha⟩
theorem act_next {w w' : World} {A : Nat} {o : Obj} (ha : w.heap[A]? = some o) (hb : Below w.heap.size w w') : w'.heap[A]? = some o := (hb.block A (Array.getElem?_eq_some_iff.1 ha).1).trans ha
/-- All of it, with the act that is done. -/
structure Pq (w wx : World) (pb fb wb B A i : Nat) (y f gg : Int) : Prop where
  st : ∃ F G W R a1 n1 c1 a2 n2 c2, Pd w wx pb fb wb B F G W R (.slice a1 n1 c1) (.slice a2 n2 c2) ∧ PR F G W R ∧ W.length ≤ i ∧ R.length ≤ i
  act : wx.heap[A]? = some (.cells #[.int .u8 y, .int .u16 f, .int .i64 gg] TAct (0, 0))
end Go.Proofs.Ytefpbfdbpckcmaa.Pl
