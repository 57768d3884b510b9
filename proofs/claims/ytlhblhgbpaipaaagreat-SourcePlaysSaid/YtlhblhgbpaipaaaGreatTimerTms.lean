/-
  Package timer: timers as one bag of entries.
-/
import Derived.Test.YtlhblhgbpaipaaaGreatTimerTake
namespace Go.Proofs.YtlhblhgbpaipaaaGreat.Tm
open Go.RowKit
open Go.Proofs.YtlhblhgbpaipaaaGreat.Hp
open Go.Proofs.YtlhblhgbpaipaaaGreat.MapI
set_option linter.unusedVariables false

/-- Timers behind a pointer: so many processors, a bag of entries, how many were added, who has one; the blocks of F are not theirs. -/
def Tms (w : World) (base tb n : Nat) (M : List Ent) (order : Nat) (G : List Int) (F : Nat → Prop) : Prop :=
  ∃ lb hb vs Hs, IsT w base tb lb hb vs Hs order G ∧ vs.length = n ∧ Hs.flatten.Perm M ∧ ∀ k, F k → k < w.heap.size ∧ k ≠ tb ∧ k ≠ lb ∧ k ≠ hb ∧ ∀ v ∈ vs, v.ownBlock ≠ some k

/-- What a deed leaves as it was. -/
structure Kept (w w' : World) (base : Nat) (F : Nat → Prop) : Prop where
  below : Below base w w'
  far : ∀ k, F k → w'.heap[k]? = w.heap[k]?
theorem Kept.trans {a b c : World} {base : Nat} {F : Nat → Prop} (h : Kept a b base F) (k : Kept b c base F) : Kept a c base F := ⟨h.below.trans k.below, fun j hj => (k.far j hj).trans (h.far j hj)⟩

theorem IsMin.perm {l l' : List Ent} {m : Option Ent} (h : IsMin l m) (p : l.Perm l') : IsMin l' m := by
  cases m with
  | none => have : l = [] := h; subst this; exact p.symm.eq_nil
  | some e => exact ⟨p.mem_iff.1 h.1, fun x hx => h.2 x (p.mem_iff.2 hx)⟩

section
variable {w : World} {base tb n : Nat} {M : List Ent} {order : Nat} {G : List Int} {F : Nat → Prop}
theorem Tms.nodup (T : Tms w base tb n M order G F) : G.Nodup := by obtain ⟨_, _, _, _, h, _⟩ := T; exact h.nodup
theorem Tms.range (T : Tms w base tb n M order G F) : ∀ g ∈ G, 0 ≤ g ∧ g < 4096 := by obtain ⟨_, _, _, _, h, _⟩ := T; exact h.range
theorem Tms.keys (T : Tms w base tb n M order G F) : (M.map (·.g)).Perm G := by
  obtain ⟨_, _, _, _, h, _, p, _⟩ := T; exact (p.map (·.g)).symm.trans h.keys
theorem Tms.grown {w' : World} (T : Tms w base tb n M order G F) (hg : w.grownBy w' none) : Tms w' base tb n M order G F := by
  obtain ⟨lb, hb, vs, Hs, h, e, p, f⟩ := T
  exact ⟨lb, hb, vs, Hs, h.grown hg, e, p, fun k hk => ⟨Nat.lt_of_lt_of_le (f k hk).1 hg.size, (f k hk).2⟩⟩
theorem Tms.perm {M' : List Ent} (T : Tms w base tb n M order G F) (h : M.Perm M') : Tms w base tb n M' order G F := by
  obtain ⟨lb, hb, vs, Hs, h1, e, p, f⟩ := T
  exact ⟨lb, hb, vs, Hs, h1, e, p.trans h, f⟩
theorem Tms.le (T : Tms w base tb n M order G F) : n ≤ 64 ∧ 0 < n := by
  obtain ⟨_, _, vs, _, h, e, _⟩ := T; subst e; exact ⟨h.top, h.pos⟩
/-- New blocks are not theirs. -/
theorem Tms.foreign {w' : World} {F' : Nat → Prop} (T : Tms w base tb n M order G F) (hg : w.grownBy w' none) (hF : ∀ k, F' k → F k ∨ w.heap.size ≤ k ∧ k < w'.heap.size) : Tms w' base tb n M order G F' := by
  obtain ⟨lb, hb, vs, Hs, h, e, p, f⟩ := T
  refine ⟨lb, hb, vs, Hs, h.grown hg, e, p, fun k hk => ?_⟩
  rcases hF k hk with h1 | ⟨h1, h2⟩
  · exact ⟨Nat.lt_of_lt_of_le (f k h1).1 hg.size, (f k h1).2⟩
  · exact ⟨h2, by have := h.tlt; omega, by have := h.llt; omega, by have := h.map.lt; omega, fun v hv e => by have := (h.own hv e).1; omega⟩
/-- Foreign blocks may change. -/
theorem Tms.other {w' : World} {B : Nat} (T : Tms w base tb n M order G F) (hB : F B) (h : ∀ k, k < w.heap.size → k ≠ B → w'.heap[k]? = w.heap[k]?) (hs : w.heap.size ≤ w'.heap.size) : Tms w' base tb n M order G F := by
  obtain ⟨lb, hb, vs, Hs, h1, e, p, f⟩ := T
  obtain ⟨f0, f1, f2, f3, f4⟩ := f B hB
  refine ⟨lb, hb, vs, Hs, ⟨⟨(h tb h1.tlt (Ne.symm f1)).trans h1.tcells, (h lb h1.llt (Ne.symm f2)).trans h1.lcells, h1.len, h1.pos, h1.top, fun i v es e1 e2 => (h1.heaps i v es e1 e2).heap (h lb h1.llt (Ne.symm f2)) (fun g hg => h g (h1.own (List.mem_of_getElem? e1) hg).1 (fun e3 => f4 v (List.mem_of_getElem? e1) (by rw [hg, e3]))), h1.apart, h1.map.heap (h hb h1.map.lt (Ne.symm f3)), h1.low⟩, h1.heapish, h1.keys, h1.range, h1.ord⟩, e, p, fun k hk => ⟨Nat.lt_of_lt_of_le (f k hk).1 hs, (f k hk).2⟩⟩

theorem kept_none {w' : World} (T : Tms w base tb n M order G F) (hb : base ≤ w.heap.size) (hg : w.grownBy w' none) : Kept w w' base F := by
  obtain ⟨_, _, _, _, _, _, _, f⟩ := T
  exact ⟨⟨hg.os, hg.tape, hg.output, hg.size, fun k hk => hg.block k (by omega) (by simp)⟩, fun k hk => hg.block k (f k hk).1 (by simp)⟩

theorem tms_new (w : World) (p : Int) (n : Nat) (hn : (n : Int) = if p < 1 then 1 else if 64 < p then 64 else p) :
    Calls Tryz.prog 19 #[.int .i64 p] w fun e w' => ∃ tb, e = .returned (.pointer (some ⟨tb, 0, none⟩)) ∧ Tms w' w.heap.size tb n [] 0 [] (fun _ => False) ∧ w.grownBy w' none := by
  refine (new_is w w.heap.size (Nat.le_refl _) p n hn).mono ?_
  rintro e w' ⟨tb, lb, hb, rfl, h, hg, _⟩
  refine ⟨tb, rfl, ⟨lb, hb, _, _, h, by simp, ?_, fun k hk => hk.elim⟩, hg⟩
  simp

theorem tms_len (T : Tms w base tb n M order G F) : Calls Tryz.prog 35 #[.pointer (some ⟨tb, 0, none⟩)] w fun e w' => e = .returned (.int .i64 G.length) ∧ w = w' := by
  obtain ⟨_, _, _, _, h, _⟩ := T; exact tlen_is h
theorem tms_has (T : Tms w base tb n M order G F) (g : Int) : Calls Tryz.prog 36 #[.pointer (some ⟨tb, 0, none⟩), .int .i64 g] w fun e w' => e = .returned (.bool (decide (g ∈ G))) ∧ w.grownBy w' none := by
  obtain ⟨_, _, _, _, h, _⟩ := T; exact has_is h g
theorem tms_due (T : Tms w base tb n M order G F) {m : Option Ent} (hm : IsMin M m) (now : Int) : Calls Tryz.prog 31 #[.pointer (some ⟨tb, 0, none⟩), .int .i64 now] w fun e w' => e = .returned (.bool (dueB m now)) ∧ w.grownBy w' none := by
  obtain ⟨_, _, _, _, h, _, p, _⟩ := T; exact due_is h (hm.perm p.symm) now
theorem tms_next_no (T : Tms w base tb n M order G F) (hm : M = []) : Calls Tryz.prog 40 #[.pointer (some ⟨tb, 0, none⟩)] w fun e w' => e = .returned (.tuple #[.int .i64 0, .bool false]) ∧ w.grownBy w' none := by
  obtain ⟨_, _, _, _, h, _, p, _⟩ := T; subst hm; exact next_no h p.eq_nil
theorem tms_next_yes (T : Tms w base tb n M order G F) {x : Ent} (hm : IsMin M (some x)) : Calls Tryz.prog 40 #[.pointer (some ⟨tb, 0, none⟩)] w fun e w' => e = .returned (.tuple #[.int .i64 x.w, .bool true]) ∧ w.grownBy w' none := by
  obtain ⟨_, _, _, _, h, _, p, _⟩ := T; exact next_yes h (hm.perm p.symm)
theorem tms_take_no (T : Tms w base tb n M order G F) {m : Option Ent} (hm : IsMin M m) (now : Int) (hd : dueB m now = false) : Calls Tryz.prog 46 #[.pointer (some ⟨tb, 0, none⟩), .int .i64 now] w fun e w' => e = .returned (.tuple #[(Ent.mk 0 0 0).agg, .bool false]) ∧ w.grownBy w' none := by
  obtain ⟨_, _, _, _, h, _, p, _⟩ := T; exact ttake_no h (hm.perm p.symm) now hd
theorem tms_take_yes (T : Tms w base tb n M order G F) (hb : base ≤ w.heap.size) {x : Ent} (hm : IsMin M (some x)) (now : Int) (hd : x.w ≤ now) :
    Calls Tryz.prog 46 #[.pointer (some ⟨tb, 0, none⟩), .int .i64 now] w fun e w' => e = .returned (.tuple #[x.agg, .bool true]) ∧ Tms w' base tb n (M.erase x) order (G.filter fun y => y ≠ x.g) F ∧ Kept w w' base F := by
  obtain ⟨lb, hb', vs, Hs, h, e, p, f⟩ := T
  refine (ttake_yes h (hm.perm p.symm) now hd).mono ?_
  rintro e' w' ⟨j, t, es', v', rfl, hj, hp, h', fr⟩
  refine ⟨rfl, ⟨lb, hb', _, _, h', by simpa using e, ?_, fun k hk => ?_⟩, ⟨fr.below h.toIsTm (Nat.le_refl _) hb, fun k hk => fr.block k (f k hk).1 (f k hk).2.1 (f k hk).2.2.1 (f k hk).2.2.2.1 (f k hk).2.2.2.2⟩⟩
  · have hjH : j < Hs.length := (List.getElem?_eq_some_iff.1 hj).1
    have hA : Hs = Hs.take j ++ (x :: t) :: Hs.drop (j + 1) := by
      have := (List.getElem?_eq_some_iff.1 hj).2
      rw [← this, List.getElem_cons_drop hjH, List.take_append_drop]
    have hl : (Hs.take j).length = j := by rw [List.length_take]; omega
    have hset : Hs.set j es' = Hs.take j ++ es' :: Hs.drop (j + 1) := by
      conv => lhs; rw [hA]
      rw [List.set_append_right _ _ (by omega), hl]; simp
    rw [hset]
    rw [hA] at p
    refine List.Perm.trans ?_ (p.erase x)
    simp only [List.flatten_append, List.flatten_cons, List.cons_append]
    rw [List.perm_iff_count]
    intro a
    have := hp.count_eq a
    rw [List.count_erase]
    simp only [List.count_append, List.count_cons]
    by_cases hxa : x = a
    · subst hxa; simp; omega
    · have e1 : (x == a) = false := by simpa using hxa
      simp [e1]; omega
  · obtain ⟨f0, f1, f2, f3, f4⟩ := f k hk
    exact ⟨Nat.lt_of_lt_of_le f0 fr.size, f1, f2, f3, fun v hv e2 => by
      rcases fr.own v hv k e2 with ⟨u, hu, hu2⟩ | h5
      · exact f4 u hu hu2
      · omega⟩
theorem tms_add_arg (T : Tms w base tb n M order G F) (p g when : Int) (hbad : p < 0 ∨ (n : Int) ≤ p ∨ g < 0 ∨ 4096 ≤ g) :
    Calls Tryz.prog 42 #[.pointer (some ⟨tb, 0, none⟩), .int .i64 p, .int .i64 g, .int .i64 when] w fun e w' => e = .returned (.int .i64 1) ∧ w = w' := by
  obtain ⟨_, _, vs, _, h, e, _⟩ := T; subst e; exact add_arg h.toIsTm p g when hbad
theorem tms_add_same (T : Tms w base tb n M order G F) (p g when : Int) (h1 : 0 ≤ p) (h2 : p < n) (hg : g ∈ G) :
    Calls Tryz.prog 42 #[.pointer (some ⟨tb, 0, none⟩), .int .i64 p, .int .i64 g, .int .i64 when] w fun e w' => e = .returned (.int .i64 8) ∧ w.grownBy w' none := by
  obtain ⟨_, _, vs, _, h, e, _⟩ := T; subst e; exact add_same h p g when h1 h2 (h.range g hg).1 (h.range g hg).2 hg
theorem tms_add_ok (T : Tms w base tb n M order G F) (hb : base ≤ w.heap.size) (p g when : Int) (h1 : 0 ≤ p) (h2 : p < n) (h3 : 0 ≤ g) (h4 : g < 4096) (hg : g ∉ G) (ho : order < 4611686018427387904) :
    Calls Tryz.prog 42 #[.pointer (some ⟨tb, 0, none⟩), .int .i64 p, .int .i64 g, .int .i64 when] w fun e w' => e = .returned (.int .i64 0) ∧ Tms w' base tb n (M ++ [⟨when, order, g⟩]) (order + 1) (G ++ [g]) F ∧ Kept w w' base F := by
  obtain ⟨q, rfl⟩ : ∃ q : Nat, p = q := ⟨p.toNat, by omega⟩
  obtain ⟨lb, hb', vs, Hs, h, e, pm, f⟩ := T
  refine (add_ok h hb q g when (by omega) h3 h4 hg ho).mono ?_
  rintro e' w' ⟨v', es, es', rfl, hj, hp, h', fr⟩
  refine ⟨rfl, ⟨lb, hb', _, _, h', by simpa using e, ?_, fun k hk => ?_⟩, ⟨fr.below h.toIsTm (Nat.le_refl _) hb, fun k hk => fr.block k (f k hk).1 (f k hk).2.1 (f k hk).2.2.1 (f k hk).2.2.2.1 (f k hk).2.2.2.2⟩⟩
  · have hjH : q < Hs.length := (List.getElem?_eq_some_iff.1 hj).1
    have hA : Hs = Hs.take q ++ es :: Hs.drop (q + 1) := by
      have := (List.getElem?_eq_some_iff.1 hj).2
      rw [← this, List.getElem_cons_drop hjH, List.take_append_drop]
    have hl : (Hs.take q).length = q := by rw [List.length_take]; omega
    have hset : Hs.set q es' = Hs.take q ++ es' :: Hs.drop (q + 1) := by
      conv => lhs; rw [hA]
      rw [List.set_append_right _ _ (by omega), hl]; simp
    rw [hset]
    rw [hA] at pm
    rw [List.perm_iff_count] at *
    intro a
    have h5 := hp a
    have h6 := pm a
    simp only [List.flatten_append, List.flatten_cons, List.count_append, List.count_cons, List.count_nil] at *
    omega
  · obtain ⟨f0, f1, f2, f3, f4⟩ := f k hk
    exact ⟨Nat.lt_of_lt_of_le f0 fr.size, f1, f2, f3, fun v hv e2 => by
      rcases fr.own v hv k e2 with ⟨u, hu, hu2⟩ | h5
      · exact f4 u hu hu2
      · omega⟩
end
end Go.Proofs.YtlhblhgbpaipaaaGreat.Tm
