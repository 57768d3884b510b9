/-
  The law SourceDrains: what is kept, and the plain laws.
-/
import Derived.Test.YtlhblhgbpaipaaaSrcTake2
import Derived.Test.YtlhblhgbpaipaaaSrcTells
import Derived.Test.YtlhblhgbpaipaaaPollLeast
import Derived.Laws.AppendOwn
namespace Go.Proofs.Ytlhblhgbpaipaaa.Src
open Go.RowKit
open Go.Proofs.Ytlhblhgbpaipaaa.Hp
open Go.Proofs.Ytlhblhgbpaipaaa.Tm (Tms Kept IsMin dueB min_ex)
open Go.Proofs.Ytlhblhgbpaipaaa.Pl (IsPl PFr St aput adel alook stOf dueL fullL)
set_option linter.unusedVariables false
set_option linter.unusedSimpArgs false

abbrev U16 (x : Int) : Value := .int .u16 x
/-- A slice of descriptors of the call's own. -/
def Own16 (W : World) (base : Nat) (v : Value) (xs : List Int) : Prop := W.ownsRow base 31 1 v xs.length (xs.map U16)
theorem infoU16 : (Try.prog.info? 31).map (fun i => (i.zero, i.size, i.bytes)) = some (some (.int .u16 0), 1, 2) := by kernel_rfl
theorem Own16.form {W : World} {base : Nat} {v : Value} {xs : List Int} (h : Own16 W base v xs) : ∃ a c, v = .slice a xs.length c ∧ (xs.length : Int) ≤ (c : Int) ∧ (a = none → xs.length = 0) ∧ ∀ g, a = some g → g = ⟨g.block, 0, none⟩ := by
  rcases h.2 with ⟨rfl, h0⟩ | ⟨g, cap, cur, rfl, _, _, l, _⟩
  · exact ⟨none, 0, by rw [h0], by omega, fun _ => h0, fun g hg => by cases hg⟩
  · refine ⟨_, cap, rfl, by omega, ?_, ?_⟩
    · intro e; cases e
    · intro g' hg; cases hg; rfl
theorem Own16.kept {W W' : World} {base : Nat} {v : Value} {xs : List Int} (h : Own16 W base v xs) (hk : ∀ g, v.ownBlock = some g → W'.heap[g]? = W.heap[g]?) : Own16 W' base v xs := by
  refine ⟨h.1, ?_⟩
  rcases h.2 with ⟨rfl, h0⟩ | ⟨g, cap, cur, rfl, hb, h1, h2⟩
  · exact .inl ⟨rfl, h0⟩
  · exact .inr ⟨g, cap, cur, rfl, hb, (hk g rfl).trans h1, h2⟩
theorem Own16.cell {W : World} {base : Nat} {xs : List Int} {g n c : Nat} (h : Own16 W base (.slice (some ⟨g, 0, none⟩) n c) xs) {j : Nat} {x : Int} (hx : xs[j]? = some x) : W.cell? ⟨g, j, none⟩ = some (U16 x) := by
  have h1 := World.ownsRow.cells h (g := g) rfl j (U16 x) (by rw [List.getElem?_map, hx]; rfl)
  have e : (⟨g, 0, none⟩ : Addr).add j = ⟨g, j, none⟩ := by unfold Addr.add; split <;> simp_all
  rwa [e] at h1
/-- append of one descriptor to a slice of the call's own. -/
theorem wpList_append16 {ops : Array Oper} {rest : List Oper} {o : Oper} {a : Act} {Q : Exit → Act → World → Prop} (hgd : o.guard = none) (s x : Operand)
    (ho : o.op = .call { callee := .builtin .append, args := #[s, x], argTypes := #[42, 42] }) (W : World) (base : Nat) (v : Value) (xs : List Int) (g : Int)
    (hs : a.eval s = v) (hown : Own16 W base v xs) (hx : a.eval x = .slice (some ⟨W.heap.size, 0, none⟩) 1 1) (hlen : xs.length ≤ 1000000) (hbase : base ≤ W.heap.size)
    (h : ∀ v' w', Own16 w' base v' (xs ++ [g]) → W.grownBy w' v.ownBlock → wpList Try.prog ops Q rest (a.put o.dst v') w') : wpList Try.prog ops Q (o :: rest) a (W.alloc (.cells #[.int .u16 g] 31)) := by
  obtain ⟨i0, hi, hz0, hz1, hz2⟩ := info_parts infoU16
  refine wpList_append_own _ hgd s x 42 ho base 31 i0 (.int .u16 0) 1 2 Try.underlying42 hi hz0 hz1 hz2 rfl (by decide) v xs.length (xs.map U16) hs (World.ownsRow.alloc hown _) ⟨W.heap.size, 0, none⟩ 1 1 [.int .u16 g] hx rfl (cell_one_new _ _ _) (by simp [Value.oneCell']) (by unfold maxLen; omega) (by omega) (by simp; omega) fun v' w' h1 h2 h3 => h v' w' (by simpa [Own16] using h1) ?_
  exact ⟨h2.os, h2.tape, h2.output, Nat.le_trans (by simp) h2.size, fun j hj hne => (h2.block j (by simp; omega) hne).trans (by rw [heap_alloc_old (h := hj)])⟩
section
variable {w : World} {base sb tb pb fb wb n : Nat} {now : Int} {M : List Ent} {order : Nat} {G : List Int} {F : List (Int × St)} {GP : List (Int × Int)} {X : Nat → Prop}
/-- A row of descriptors is no block of the source. -/
theorem IsS.row16 (h : IsS w base sb tb pb fb wb n now M order G F GP (fun _ => False)) {v : Value} {xs : List Int} (ho : Own16 w base v xs) : IsS w base sb tb pb fb wb n now M order G F GP (fun k => v.ownBlock = some k) := by
  rcases ho.2 with ⟨rfl, h0⟩ | ⟨g, cap, cur, rfl, hb, h1, h2⟩
  · exact h.less (X' := fun k => (Value.slice none 0 0).ownBlock = some k) (fun k hk => by cases hk)
  · have hk : ∀ k, (Value.slice (some ⟨g, 0, none⟩) xs.length cap).ownBlock = some k → k = g := fun k e => by simp [Value.ownBlock] at e; exact e.symm
    have e1 : g ≠ sb := by rintro rfl; rw [h.cells] at h1; simp [TSRC] at h1
    have e2 : g ≠ pb := by rintro rfl; rw [h.p.cells] at h1; simp [Pl.TP] at h1
    have e3 : g ≠ fb := by rintro rfl; obtain ⟨es, c, hm, _⟩ := h.p.fds; rw [hm] at h1; cases h1
    have e4 : g ≠ wb := by rintro rfl; obtain ⟨es, c, hm, _⟩ := h.p.who; rw [hm] at h1; cases h1
    refine ⟨h.cells, ?_, h.p, h.ne, fun k q => by rw [hk k q]; exact ⟨e1, e2, e3, e4⟩, h.low, h.now0⟩
    obtain ⟨lb, hb2, vs, Hs, hI, e, p, f⟩ := h.t
    refine ⟨lb, hb2, vs, Hs, hI, e, p, fun k q => ?_⟩
    rcases q with q | q | q | q | q
    · exact f k (.inl q)
    · exact f k (.inr (.inl q))
    · exact f k (.inr (.inr (.inl q)))
    · exact f k (.inr (.inr (.inr (.inl q))))
    · rw [hk k q]
      refine ⟨(Array.getElem?_eq_some_iff.1 h1).1, ?_, ?_, ?_, fun u hu e => ?_⟩
      · rintro rfl; rw [hI.tcells] at h1; simp at h1
      · rintro rfl; rw [hI.lcells] at h1; simp at h1
      · rintro rfl; obtain ⟨es, c, hm, _⟩ := hI.map; rw [hm] at h1; cases h1
      · obtain ⟨i, hi, rfl⟩ := List.getElem_of_mem hu
        have hp := hI.heaps i _ _ (List.getElem?_eq_getElem hi) (List.getElem?_eq_getElem (by rw [hI.len]; exact hi))
        rcases hp.row with ⟨e5, _⟩ | ⟨g', cap', e5, r, _⟩
        · rw [e5] at e; simp [Value.ownBlock] at e
        · rw [e5] at e; simp [Value.ownBlock] at e; subst e
          obtain ⟨cur', hc, _⟩ := r.blk
          rw [hc] at h1; simp at h1
/-- What holds at the heads of the law's loops. -/
structure Dr (w wr : World) (base sb tb pb fb wb : Nat) (now : Int) (M : List Ent) (order : Nat) (G : List Int) (F : List (Int × St)) (GP : List (Int × Int)) (v : Value) (D : List Int) (i : Nat) : Prop where
  t : Tl w wr base sb tb pb fb wb now M order G F GP i
  row : Own16 wr base v D
  waits : ∀ fd s, alook F fd = some s → s.waits = true
  keys : ∀ fd, (alook F fd).isSome = true ↔ fd ∈ D
  wle : ∀ x ∈ M, x.w ≤ 9223372036854775807
  dlen : D.length ≤ i
end
section
variable {w wr : World} {base sb tb pb fb wb : Nat} {now : Int} {M : List Ent} {order : Nat} {G : List Int} {F : List (Int × St)} {GP : List (Int × Int)} {v : Value} {D : List Int} {i : Nat}
theorem Dr.grown (h : Dr w wr base sb tb pb fb wb now M order G F GP v D i) {w' : World} (hg : wr.grownBy w' none) : Dr w w' base sb tb pb fb wb now M order G F GP v D i :=
  ⟨h.t.grown hg, h.row.kept (fun g hg' => hg.block g (World.ownsRow.lt h.row g hg').2 (by simp)), h.waits, h.keys, h.wle, h.dlen⟩
theorem Dr.up (h : Dr w wr base sb tb pb fb wb now M order G F GP v D i) : Dr w wr base sb tb pb fb wb now M order G F GP v D (i + 1) := ⟨h.t.up, h.row, h.waits, h.keys, h.wle, Nat.le_succ_of_le h.dlen⟩
theorem Dr.s (h : Dr w wr base sb tb pb fb wb now M order G F GP v D i) : IsS wr base sb tb pb fb wb 4 now M order G F GP (fun k => v.ownBlock = some k) := h.t.s.row16 h.row
theorem tl_any (h : Tl w wr base sb tb pb fb wb now M order G F GP i) {X : Nat → Prop} {w' : World} {now' : Int} {M' : List Ent} {order' : Nat} {G' : List Int} {F' : List (Int × St)} {GP' : List (Int × Int)} (hs : IsS w' base sb tb pb fb wb 4 now' M' order' G' F' GP' X) (hk : Kept wr w' base X) (hi : Pl.Inv F' GP') {i' : Nat} (hb : M'.length ≤ i' ∧ order' ≤ i' ∧ G'.length ≤ i' ∧ GP'.length ≤ i') : Tl w w' base sb tb pb fb wb now' M' order' G' F' GP' i' :=
  ⟨hs.less (fun _ q => q.elim), hi, hb, h.below.trans (hk.below.mono h.low), h.low⟩
/-- One sleeps. -/
theorem Dr.sleep (h : Dr w wr base sb tb pb fb wb now M order G F GP v D i) {w' : World} {x : Ent} {g : Int} (hs : IsS w' base sb tb pb fb wb 4 now (M ++ [x]) (order + 1) (G ++ [g]) F GP (fun k => v.ownBlock = some k)) (hk : Kept wr w' base (fun k => v.ownBlock = some k)) (hx : x.w ≤ 9223372036854775807) : Dr w w' base sb tb pb fb wb now (M ++ [x]) (order + 1) (G ++ [g]) F GP v D (i + 1) :=
  ⟨tl_any h.t hs hk h.t.inv (by have := h.t.bnd; simp; omega), h.row.kept (fun k q => hk.far k q), h.waits, h.keys, fun y hy => by
    rcases List.mem_append.1 hy with q | q
    · exact h.wle y q
    · simp at q; subst q; exact hx, Nat.le_succ_of_le h.dlen⟩
/-- The time is told. -/
theorem Dr.tick (h : Dr w wr base sb tb pb fb wb now M order G F GP v D i) {w' : World} {t : Int} (hs : IsS w' base sb tb pb fb wb 4 t M order G F GP (fun k => v.ownBlock = some k)) (hk : Kept wr w' base (fun k => v.ownBlock = some k)) : Dr w w' base sb tb pb fb wb t M order G F GP v D i :=
  ⟨tl_any h.t hs hk h.t.inv h.t.bnd, h.row.kept (fun k q => hk.far k q), h.waits, h.keys, h.wle, h.dlen⟩
/-- One is ready. -/
theorem Dr.ready (h : Dr w wr base sb tb pb fb wb now M order G F GP v D i) {w' : World} {f : Int} (hf : f ∈ D) (hfull : fullL F f = false) (hs : IsS w' base sb tb pb fb wb 4 now M order G (aput F f { stOf F f with ready := true }) GP (fun k => v.ownBlock = some k)) (hk : Kept wr w' base (fun k => v.ownBlock = some k)) : Dr w w' base sb tb pb fb wb now M order G (aput F f { stOf F f with ready := true }) GP v D i := by
  refine ⟨tl_any h.t hs hk (Pl.inv_ready h.t.inv hfull) h.t.bnd, h.row.kept (fun k q => hk.far k q), fun fd s e => ?_, fun fd => ?_, h.wle, h.dlen⟩
  · rw [Pl.alook_put] at e
    by_cases q : fd = f
    · rw [if_pos q] at e
      cases e
      obtain ⟨s0, hs0⟩ := Option.isSome_iff_exists.1 ((h.keys f).2 hf)
      show (stOf F f).waits = true
      rw [Pl.stOf_some hs0]
      exact h.waits f s0 hs0
    · rw [if_neg q] at e; exact h.waits fd s e
  · rw [Pl.alook_put]
    by_cases q : fd = f
    · rw [if_pos q, q]; simp [hf]
    · rw [if_neg q]; exact h.keys fd
theorem Dr.notfull (h : Dr w wr base sb tb pb fb wb now M order G F GP v D i) {f : Int} (hf : f ∈ D) : fullL F f = false := by
  unfold fullL; rw [(h.keys f).2 hf]; simp
/-- One waits, and is written down. -/
theorem Dr.wait (h : Dr w wr base sb tb pb fb wb now M order G F GP v D i) {w4 w5 : World} {f g : Int} (h0 : 0 ≤ g) (h1 : g < 4096) (hw : (stOf F f).waits = false) (hq : (alook GP g).isSome = false) (hfull : fullL F f = false)
    (hs : IsS w4 base sb tb pb fb wb 4 now M order G (aput F f ⟨g, true, (stOf F f).ready⟩) (aput GP g f) (fun k => v.ownBlock = some k)) (hk : Kept wr w4 base (fun k => v.ownBlock = some k)) {v' : Value} (hr : Own16 w5 base v' (D ++ [f])) (hg : w4.grownBy w5 v.ownBlock) : Dr w w5 base sb tb pb fb wb now M order G (aput F f ⟨g, true, (stOf F f).ready⟩) (aput GP g f) v' (D ++ [f]) (i + 1) := by
  have hs5 : IsS w5 base sb tb pb fb wb 4 now M order G (aput F f ⟨g, true, (stOf F f).ready⟩) (aput GP g f) (fun k => v.ownBlock = some k) := hs.foreign (fun k q1 q2 => hg.block k q1 (fun e => q2 e.symm)) hg.size
  have hk5 : Kept wr w5 base (fun _ => False) := ⟨hk.below.trans ⟨hg.os, hg.tape, hg.output, hg.size, fun k q => hg.block k (by have := hs.low; omega) (fun e => by have := (World.ownsRow.lt (h.row.kept (fun k q => hk.far k q)) k e.symm).1; omega)⟩, fun _ q => q.elim⟩
  have hb := h.t.bnd
  have hl := aput_le GP g f
  have hd := h.dlen
  refine ⟨tl_any h.t (hs5.less (X' := fun _ => False) (fun _ q => q.elim)) hk5 (Pl.inv_wait h.t.inv h0 h1 hw hq hfull) (by omega), hr, fun fd s e => ?_, fun fd => ?_, h.wle, by simp; omega⟩
  · rw [Pl.alook_put] at e
    by_cases q : fd = f
    · rw [if_pos q] at e; cases e; rfl
    · rw [if_neg q] at e; exact h.waits fd s e
  · rw [Pl.alook_put]
    by_cases q : fd = f
    · rw [if_pos q, q]; simp
    · rw [if_neg q, h.keys fd]; simp [q]
end
end Go.Proofs.Ytlhblhgbpaipaaa.Src
