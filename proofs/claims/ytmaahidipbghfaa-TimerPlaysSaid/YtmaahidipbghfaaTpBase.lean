/-
  The law TimerPlays: the timers and the document's row, side by side in memory.
-/
import Derived.Test.YtmaahidipbghfaaTimD
import Derived.Test.YtmaahidipbghfaaTimerLives
import Derived.Test.YtmaahidipbghfaaRegionOwn
import Derived.Test.YtmaahidipbghfaaArgs
import Derived.Deep.CutBlock
namespace Go.Proofs.Ytmaahidipbghfaa.Tm
open Go.RowKit
open Go.Proofs.Ytmaahidipbghfaa.Hp
set_option linter.unusedVariables false
set_option linter.unusedSimpArgs false

/-- The timers hold the row D; the document's row E lies behind the block B; the blocks of F are not the timers'. -/
structure Td (w wr : World) (tb n B : Nat) (D : List Tim) (order : Nat) (E : List Tim) (o : Nat) (v : Value) (F : Nat → Prop) : Prop where
  t : TmD wr w.heap.size tb n D order F
  d : wr.heap[B]? = some (.cells #[.int .i64 n, v, .int .u64 o] TD (0, 0))
  dv : TSees wr w.heap.size v E
  fB : F B
  fv : ∀ k, v.ownBlock = some k → F k
  vB : v.ownBlock ≠ some B
  ne : w.heap.size ≤ B
  below : Below w.heap.size w wr
theorem below_none {a b : World} (h : Below a.heap.size a b) : a.grownBy b none := ⟨h.os, h.tape, h.output, h.size, fun k hk _ => h.block k hk⟩
theorem grown_below' {a b : World} (h : a.grownBy b none) : Below a.heap.size a b := ⟨h.os, h.tape, h.output, h.size, fun k hk => h.block k hk (by simp)⟩
section
variable {w wr w' : World} {tb n B : Nat} {D D' E E' : List Tim} {order order' o o' : Nat} {v v' : Value} {F F' : Nat → Prop}
theorem Td.size (h : Td w wr tb n B D order E o v F) : w.heap.size ≤ wr.heap.size := h.below.size
theorem Td.lt (h : Td w wr tb n B D order E o v F) : B < wr.heap.size := (Array.getElem?_eq_some_iff.1 h.d).1
theorem Td.more (h : Td w wr tb n B D order E o v F) (hb : Below wr.heap.size wr w') (hF : ∀ k, F' k → F k ∨ wr.heap.size ≤ k ∧ k < w'.heap.size) (hs : ∀ k, F k → F' k) : Td w w' tb n B D order E o v F' :=
  ⟨h.t.foreign (below_none hb) hF, (hb.block _ h.lt).trans h.d, h.dv.below hb, hs _ h.fB, fun k hk => hs _ (h.fv k hk), h.vB, h.ne, h.below.trans (hb.mono h.size)⟩
theorem Td.next (h : Td w wr tb n B D order E o v F) (hb : Below wr.heap.size wr w') : Td w w' tb n B D order E o v F := h.more hb (fun _ hk => .inl hk) (fun _ hk => hk)
theorem Td.drew (h : Td w wr tb n B D order E o v F) : Td w wr.drew tb n B D order E o v F := h.next below_drew
/-- The timers have done a deed. -/
theorem Td.prog (h : Td w wr tb n B D order E o v F) (T : TmD w' w.heap.size tb n D' order' F) (hk : Kept wr w' w.heap.size F) : Td w w' tb n B D' order' E o v F :=
  ⟨T, (hk.far B h.fB).trans h.d, h.dv.kept hk.below.size (fun j hj => hk.far j (h.fv j hj)), h.fB, h.fv, h.vB, h.ne, h.below.trans hk.below⟩
/-- The document's deed has told another row. -/
theorem Td.doc (h : Td w wr tb n B D order E o v F) (hb : Below wr.heap.size wr w') (hs : TSees w' w.heap.size v' E') (hf : FreshT wr v v') : Td w w' tb n B D order E o v (fun k => F k ∨ v'.ownBlock = some k) :=
  h.more hb (fun k hk => by
    rcases hk with hk | hk
    · exact .inl hk
    · rcases hf k hk with q | q
      · exact .inl (h.fv k q)
      · exact .inr ⟨q, (hs.own hk).2⟩) (fun _ hk => .inl hk)
/-- The document's row is stored. -/
theorem Td.store (h : Td w wr tb n B D order E o v F) (hs : TSees wr w.heap.size v' E') (hv : ∀ k, v'.ownBlock = some k → F k) (hB : v'.ownBlock ≠ some B) :
    Td w (((wr.setCell ⟨B, 0, none⟩ (.int .i64 n)).setCell ⟨B, 1, none⟩ v').setCell ⟨B, 2, none⟩ (.int .u64 o')) tb n B D order E' o' v' F := by
  have hst : ∀ j, j ≠ B → (((wr.setCell ⟨B, 0, none⟩ (.int .i64 n)).setCell ⟨B, 1, none⟩ v').setCell ⟨B, 2, none⟩ (.int .u64 o')).heap[j]? = wr.heap[j]? := fun j hj => box_other hj
  have hz : wr.heap.size ≤ (((wr.setCell ⟨B, 0, none⟩ (.int .i64 n)).setCell ⟨B, 1, none⟩ v').setCell ⟨B, 2, none⟩ (.int .u64 o')).heap.size := by simp
  refine ⟨h.t.other h.fB (fun k _ hk => hst k hk) hz, td_set h.d _ _ _, hs.kept hz (fun j hj => hst j (fun e => hB (by rw [hj, e]))), h.fB, hv, hB, h.ne, below_box h.below h.ne⟩
theorem Td.c0 (h : Td w wr tb n B D order E o v F) : wr.cell? ⟨B, 0, none⟩ = some (.int .i64 n) := cell_of_row _ _ 0 _ _ _ h.d
theorem Td.c1 (h : Td w wr tb n B D order E o v F) : wr.cell? ⟨B, 1, none⟩ = some v := cell_of_row _ _ 1 _ _ _ h.d
theorem Td.c2 (h : Td w wr tb n B D order E o v F) : wr.cell? ⟨B, 2, none⟩ = some (.int .u64 o) := cell_of_row _ _ 2 _ _ _ h.d
theorem Td.fr (h : Td w wr tb n B D order E o v F) (i : Nat) : wr.frozen? ⟨B, i, none⟩ = false := frozen_of_row _ _ i _ _ h.d
theorem Td.new (h : Td w wr tb n B D order E o v F) (hf : FreshT wr v v') : v'.ownBlock ≠ some B := fun e => by
  rcases hf B e with q | q
  · exact h.vB q
  · have := h.lt; omega
end
abbrev TA4 : TypeId := 51
theorem act4 {w : World} {B : Nat} {a b c d : Value} (h : w.heap[B]? = some (.cells #[a, b, c, d] TA4 (0, 0))) : w.cell? ⟨B, 0, none⟩ = some a ∧ w.cell? ⟨B, 1, none⟩ = some b ∧ w.cell? ⟨B, 2, none⟩ = some c ∧ w.cell? ⟨B, 3, none⟩ = some d :=
  ⟨cell_of_row _ _ 0 _ _ _ h, cell_of_row _ _ 1 _ _ _ h, cell_of_row _ _ 2 _ _ _ h, cell_of_row _ _ 3 _ _ _ h⟩
theorem act_next {w w' : World} {A : Nat} {o : Obj} (ha : w.heap[A]? = some o) (hb : Below w.heap.size w w') : w'.heap[A]? = some o := (hb.block A (Array.getElem?_eq_some_iff.1 ha).1).trans ha
theorem add_off4 (c : Addr) (i r : Nat) (h : r ≠ 0) : c.add (i + r) = ⟨(c.add i).block, (c.add i).off + r, none⟩ := by
  unfold Addr.add
  by_cases hi : i = 0
  · simp [hi, h]
  · simp [hi, Nat.add_assoc]
/-- All of it, with the act that is done. -/
structure Tq (w wx : World) (tb n B A i : Nat) (y p gg when : Int) : Prop where
  st : ∃ D order a m c F, Td w wx tb n B D order D order (.slice a m c) F ∧ D.length ≤ i ∧ order ≤ i
  act : wx.heap[A]? = some (.cells #[.int .u8 y, .int .i64 p, .int .i64 gg, .int .i64 when] TA4 (0, 0))
/-- The document's row as Of tells it. -/
theorem first_cell {w : World} {lo m c : Nat} {b : Option Addr} {x : Ent} {t : List Ent} (h : RSees w lo (.slice b m c) (x :: t)) : ∃ ad, b = some ad ∧ w.cell? ad = some (.int .i64 x.w) ∧ ad.block < w.heap.size ∧ lo ≤ ad.block := by
  obtain ⟨_, _, e, _, _, hb, h⟩ := h
  obtain ⟨rfl, _, _⟩ := Value.slice.inj e
  obtain ⟨c', h5, h6, _⟩ := h 0 x rfl
  exact ⟨c', h5, by simpa [Addr.add] using h6, (hb c' h5).2, (hb c' h5).1⟩
theorem cell_next {w w' : World} {ad : Addr} {u : Value} (h : w.cell? ad = some u) (hl : ad.block < w.heap.size) (hb : Below w.heap.size w w') : w'.cell? ad = some u := (World.cell?_of_block (hb.block _ hl)).trans h
/-- Behind the act: the act's block, and the first entry that Of has told. -/
structure Tz (w wx : World) (tb n B A : Nat) (D : List Tim) (order : Nat) (v : Value) (F : Nat → Prop) (y p gg when : Int) (fc : Option (Addr × Int)) : Prop where
  t : Td w wx tb n B D order D order v F
  act : wx.heap[A]? = some (.cells #[.int .u8 y, .int .i64 p, .int .i64 gg, .int .i64 when] TA4 (0, 0))
  first : ∀ ad x, fc = some (ad, x) → wx.cell? ad = some (.int .i64 x) ∧ ad.block < wx.heap.size
theorem Tz.next {w wx w' : World} {tb n B A : Nat} {D : List Tim} {order : Nat} {v : Value} {F : Nat → Prop} {y p gg when : Int} {fc : Option (Addr × Int)} (h : Tz w wx tb n B A D order v F y p gg when fc) (hb : Below wx.heap.size wx w') : Tz w w' tb n B A D order v F y p gg when fc :=
  ⟨h.t.next hb, act_next h.act hb, fun ad x e => ⟨cell_next (h.first ad x e).1 (h.first ad x e).2 hb, Nat.lt_of_lt_of_le (h.first ad x e).2 hb.size⟩⟩
theorem Tz.a2 {w wx : World} {tb n B A : Nat} {D : List Tim} {order : Nat} {v : Value} {F : Nat → Prop} {y p gg when : Int} {fc : Option (Addr × Int)} (h : Tz w wx tb n B A D order v F y p gg when fc) : wx.cell? ⟨A, 2, none⟩ = some (.int .i64 gg) := cell_of_row _ _ 2 _ _ _ h.act
theorem Tz.a3 {w wx : World} {tb n B A : Nat} {D : List Tim} {order : Nat} {v : Value} {F : Nat → Prop} {y p gg when : Int} {fc : Option (Addr × Int)} (h : Tz w wx tb n B A D order v F y p gg when fc) : wx.cell? ⟨A, 3, none⟩ = some (.int .i64 when) := cell_of_row _ _ 3 _ _ _ h.act
theorem drewN_below {w : World} {n k : Nat} : Below k w (w.drewN n) := ⟨rfl, rfl, rfl, Nat.le_refl _, fun _ _ => rfl⟩
end Go.Proofs.Ytmaahidipbghfaa.Tm
