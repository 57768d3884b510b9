/-
  The law SourceOnce: what is kept, and the plain laws.
-/
import Derived.Test.YtlhblhgbpaipaaaSrcTake2
import Derived.Test.YtlhblhgbpaipaaaSrcTells
import Derived.Test.YtlhblhgbpaipaaaPollLeast
namespace Go.Proofs.Ytlhblhgbpaipaaa.Src
open Go.RowKit
open Go.Proofs.Ytlhblhgbpaipaaa.Hp
open Go.Proofs.Ytlhblhgbpaipaaa.Tm (Tms Kept IsMin dueB min_ex)
open Go.Proofs.Ytlhblhgbpaipaaa.Pl (IsPl PFr St aput adel alook stOf dueL fullL enc u16)
set_option linter.unusedVariables false
set_option linter.unusedSimpArgs false

abbrev i64v (x : Int) : Value := .int .i64 x
/-- The law's three maps' blocks. -/
def M3 (m1 m2 m3 : Nat) : Nat → Prop := fun k => k = m1 ∨ k = m2 ∨ k = m3
theorem filter_one {l : List Int} (hn : l.Nodup) {x : Int} (hx : x ∈ l) : (l.filter fun y => y ≠ x).length + 1 = l.length := by
  have e : (l.filter fun y => y ≠ x) = l.erase x := by
    rw [hn.erase_eq_filter]; congr 1; funext y; rw [Bool.eq_iff_iff]; simp
  rw [e, List.length_erase_of_mem hx]
  have := List.length_pos_of_mem hx
  omega
theorem adel_one {l : List (Int × Int)} (hn : (l.map (·.1)).Nodup) {k v : Int} (hk : alook l k = some v) : (adel l k).length + 1 = l.length := by
  have h1 : k ∈ l.map (·.1) := List.mem_map.2 ⟨_, Pl.alook_some_mem hk, rfl⟩
  have h2 := filter_one hn h1
  rw [List.filter_map, List.length_map, List.length_map] at h2
  exact h2
theorem adel_absent {α : Type} {l : List (Int × α)} {k : Int} (h : alook l k = none) : adel l k = l := by
  unfold adel
  rw [List.filter_eq_self]
  intro p hp
  have h1 := Pl.alook_none.1 h
  simp
  rintro rfl
  exact h1 (List.mem_map.2 ⟨p, hp, rfl⟩)
theorem adel_keys {α : Type} (l : List (Int × α)) (k : Int) : (adel l k).map (·.1) = (l.map (·.1)).filter fun y => y ≠ k := by
  unfold adel; rw [List.filter_map]; rfl
theorem aput_keys {α : Type} {l : List (Int × α)} {k : Int} {v : α} (h : k ∉ l.map (·.1)) : (aput l k v).map (·.1) = l.map (·.1) ++ [k] := by
  unfold aput; rw [if_neg h]; simp

/-- What the law has written down. -/
structure Oc (w wr : World) (base sb tb pb fb wb : Nat) (now : Int) (M : List Ent) (order : Nat) (G : List Int) (F : List (Int × St)) (GP : List (Int × Int)) (U Rd : List (Int × Int)) (m1 m2 m3 i : Nat) : Prop where
  s : IsS wr base sb tb pb fb wb 4 now M order G F GP (M3 m1 m2 m3)
  inv : Pl.Inv F GP
  bnd : M.length ≤ i ∧ order ≤ i ∧ G.length ≤ i ∧ GP.length ≤ i
  below : Below w.heap.size w wr
  low : w.heap.size ≤ base
  mu : MapI.IsMap wr m1 (enc i64v U)
  mo : MapI.IsMap wr m2 (enc u16 GP)
  mr : MapU.IsMap wr m3 (enc i64v Rd)
  ukeys : U.map (·.1) = G
  uw : ∀ x ∈ M, alook U x.g = some x.w
  dis : ∀ g ∈ G, alook GP g = none
  rd : ∀ fd s, alook F fd = some s → s.ready = true → alook Rd fd = some 1
  ne : m1 ≠ m2 ∧ m1 ≠ m3 ∧ m2 ≠ m3
  mlow : w.heap.size ≤ m1 ∧ w.heap.size ≤ m2 ∧ w.heap.size ≤ m3
section
variable {w wr : World} {base sb tb pb fb wb : Nat} {now : Int} {M : List Ent} {order : Nat} {G : List Int} {F : List (Int × St)} {GP U Rd : List (Int × Int)} {m1 m2 m3 i : Nat}
theorem Oc.grown (h : Oc w wr base sb tb pb fb wb now M order G F GP U Rd m1 m2 m3 i) {w' : World} (hg : wr.grownBy w' none) : Oc w w' base sb tb pb fb wb now M order G F GP U Rd m1 m2 m3 i :=
  ⟨h.s.grown hg, h.inv, h.bnd, h.below.trans ⟨hg.os, hg.tape, hg.output, hg.size, fun k hk => hg.block k (Nat.lt_of_lt_of_le hk h.below.size) (by simp)⟩, h.low, h.mu.grown hg (by simp), h.mo.grown hg (by simp), h.mr.grown hg (by simp), h.ukeys, h.uw, h.dis, h.rd, h.ne, h.mlow⟩
theorem Oc.up (h : Oc w wr base sb tb pb fb wb now M order G F GP U Rd m1 m2 m3 i) : Oc w wr base sb tb pb fb wb now M order G F GP U Rd m1 m2 m3 (i + 1) :=
  ⟨h.s, h.inv, by have := h.bnd; omega, h.below, h.low, h.mu, h.mo, h.mr, h.ukeys, h.uw, h.dis, h.rd, h.ne, h.mlow⟩
theorem Oc.no (h : Oc w wr base sb tb pb fb wb now M order G F GP U Rd m1 m2 m3 i) {g : Int} (hg : g ∉ G) : alook U g = none := Pl.alook_none.2 (by rw [h.ukeys]; exact hg)
/-- A map of the law's has changed. -/
theorem upd_map {w1 w' : World} {n : Nat} {m : Nat} (hs : IsS w1 base sb tb pb fb wb n now M order G F GP (M3 m1 m2 m3)) (hm : m = m1 ∨ m = m2 ∨ m = m3) (hg : w1.grownBy w' (some m)) : IsS w' base sb tb pb fb wb n now M order G F GP (M3 m1 m2 m3) :=
  hs.foreign (fun k q1 q2 => hg.block k q1 (fun e => q2 (by have := Option.some.inj e; subst this; exact hm))) hg.size
/-- One sleeps, and is written down. -/
theorem Oc.sleep (h : Oc w wr base sb tb pb fb wb now M order G F GP U Rd m1 m2 m3 i) {w4 w5 : World} {t g : Int} (hg : g ∉ G) (hq : (alook GP g).isSome = false)
    (hs : IsS w4 base sb tb pb fb wb 4 now (M ++ [⟨t, order, g⟩]) (order + 1) (G ++ [g]) F GP (M3 m1 m2 m3)) (hk : Kept wr w4 base (M3 m1 m2 m3)) (hm : MapI.IsMap w5 m1 (enc i64v (aput U g t))) (hg5 : w4.grownBy w5 (some m1)) :
    Oc w w5 base sb tb pb fb wb now (M ++ [⟨t, order, g⟩]) (order + 1) (G ++ [g]) F GP (aput U g t) Rd m1 m2 m3 (i + 1) := by
  obtain ⟨n1, n2, n3⟩ := h.ne
  have hb := h.bnd
  have hml := h.mlow
  have hu : g ∉ U.map (·.1) := by rw [h.ukeys]; exact hg
  refine ⟨upd_map hs (.inl rfl) hg5, h.inv, by simp; omega, ?_, h.low, hm, ?_, ?_, by rw [aput_keys hu, h.ukeys], fun x hx => ?_, fun g' hg' => ?_, h.rd, h.ne, h.mlow⟩
  · exact (h.below.trans (hk.below.mono h.low)).trans ⟨hg5.os, hg5.tape, hg5.output, hg5.size, fun k q => hg5.block k (by have := hs.low; have := h.low; omega) (fun e => by have := Option.some.inj e; omega)⟩
  · exact (h.mo.heap (hk.far m2 (.inr (.inl rfl)))).heap (hg5.block m2 (by have := hs.xlt (k := m2) (.inr (.inl rfl)); exact this) (fun e => n1 (Option.some.inj e).symm))
  · exact (h.mr.heap (hk.far m3 (.inr (.inr rfl)))).heap (hg5.block m3 (by have := hs.xlt (k := m3) (.inr (.inr rfl)); exact this) (fun e => n2 (Option.some.inj e).symm))
  · rw [Pl.alook_put]
    rcases List.mem_append.1 hx with q | q
    · have hxg : x.g ∈ G := h.s.t.keys.mem_iff.1 (List.mem_map.2 ⟨x, q, rfl⟩)
      rw [if_neg (fun (e : x.g = g) => hg (by rw [← e]; exact hxg))]; exact h.uw x q
    · simp at q; subst q; rw [if_pos rfl]
  · rcases List.mem_append.1 hg' with q | q
    · exact h.dis g' q
    · simp at q; subst q; cases e : alook GP g' <;> simp_all
/-- One waits, and is written down. -/
theorem Oc.wait (h : Oc w wr base sb tb pb fb wb now M order G F GP U Rd m1 m2 m3 i) {w4 w5 : World} {f g : Int} (hg : g ∉ G) (h0 : 0 ≤ g) (h1 : g < 4096) (hw : (stOf F f).waits = false) (hq : (alook GP g).isSome = false) (hfull : fullL F f = false)
    (hs : IsS w4 base sb tb pb fb wb 4 now M order G (aput F f ⟨g, true, (stOf F f).ready⟩) (aput GP g f) (M3 m1 m2 m3)) (hk : Kept wr w4 base (M3 m1 m2 m3)) (hm : MapI.IsMap w5 m2 (enc u16 (aput GP g f))) (hg5 : w4.grownBy w5 (some m2)) :
    Oc w w5 base sb tb pb fb wb now M order G (aput F f ⟨g, true, (stOf F f).ready⟩) (aput GP g f) U Rd m1 m2 m3 (i + 1) := by
  obtain ⟨n1, n2, n3⟩ := h.ne
  have hb := h.bnd
  have hml := h.mlow
  have hl := aput_le GP g f
  refine ⟨upd_map hs (.inr (.inl rfl)) hg5, Pl.inv_wait h.inv h0 h1 hw hq hfull, by omega, ?_, h.low, ?_, hm, ?_, h.ukeys, h.uw, fun g' hg' => ?_, fun fd s e hr => ?_, h.ne, h.mlow⟩
  · exact (h.below.trans (hk.below.mono h.low)).trans ⟨hg5.os, hg5.tape, hg5.output, hg5.size, fun k q => hg5.block k (by have := hs.low; have := h.low; omega) (fun e => by have := Option.some.inj e; omega)⟩
  · exact (h.mu.heap (hk.far m1 (.inl rfl))).heap (hg5.block m1 (hs.xlt (k := m1) (.inl rfl)) (fun e => n1 (Option.some.inj e)))
  · exact (h.mr.heap (hk.far m3 (.inr (.inr rfl)))).heap (hg5.block m3 (hs.xlt (k := m3) (.inr (.inr rfl))) (fun e => n3 (Option.some.inj e).symm))
  · rw [Pl.alook_put, if_neg (fun (e : g' = g) => hg (by rw [← e]; exact hg'))]; exact h.dis g' hg'
  · rw [Pl.alook_put] at e
    by_cases q : fd = f
    · rw [if_pos q] at e; cases e
      have hr' : (stOf F f).ready = true := hr
      cases hf : alook F f with
      | none => rw [Pl.stOf_none hf] at hr'; cases hr'
      | some s0 => rw [Pl.stOf_some hf] at hr'; rw [q]; exact h.rd f s0 hf hr'
    · rw [if_neg q] at e; exact h.rd fd s e hr
/-- The time is told. -/
theorem Oc.tick (h : Oc w wr base sb tb pb fb wb now M order G F GP U Rd m1 m2 m3 i) {w' : World} {t : Int} (hs : IsS w' base sb tb pb fb wb 4 t M order G F GP (M3 m1 m2 m3)) (hk : Kept wr w' base (M3 m1 m2 m3)) : Oc w w' base sb tb pb fb wb t M order G F GP U Rd m1 m2 m3 (i + 1) :=
  ⟨hs, h.inv, by have := h.bnd; omega, h.below.trans (hk.below.mono h.low), h.low, h.mu.heap (hk.far m1 (.inl rfl)), h.mo.heap (hk.far m2 (.inr (.inl rfl))), h.mr.heap (hk.far m3 (.inr (.inr rfl))), h.ukeys, h.uw, h.dis, h.rd, h.ne, h.mlow⟩
/-- One is ready, and is written down. -/
theorem Oc.ready (h : Oc w wr base sb tb pb fb wb now M order G F GP U Rd m1 m2 m3 i) {w4 w5 : World} {f : Int} (hfull : fullL F f = false)
    (hs : IsS w4 base sb tb pb fb wb 4 now M order G (aput F f { stOf F f with ready := true }) GP (M3 m1 m2 m3)) (hk : Kept wr w4 base (M3 m1 m2 m3)) (hm : MapU.IsMap w5 m3 (enc i64v (aput Rd f 1))) (hg5 : w4.grownBy w5 (some m3)) :
    Oc w w5 base sb tb pb fb wb now M order G (aput F f { stOf F f with ready := true }) GP U (aput Rd f 1) m1 m2 m3 (i + 1) := by
  obtain ⟨n1, n2, n3⟩ := h.ne
  have hb := h.bnd
  have hml := h.mlow
  refine ⟨upd_map hs (.inr (.inr rfl)) hg5, Pl.inv_ready h.inv hfull, by omega, ?_, h.low, ?_, ?_, hm, h.ukeys, h.uw, h.dis, fun fd s e hr => ?_, h.ne, h.mlow⟩
  · exact (h.below.trans (hk.below.mono h.low)).trans ⟨hg5.os, hg5.tape, hg5.output, hg5.size, fun k q => hg5.block k (by have := hs.low; have := h.low; omega) (fun e => by have := Option.some.inj e; omega)⟩
  · exact (h.mu.heap (hk.far m1 (.inl rfl))).heap (hg5.block m1 (hs.xlt (k := m1) (.inl rfl)) (fun e => n2 (Option.some.inj e)))
  · exact (h.mo.heap (hk.far m2 (.inr (.inl rfl)))).heap (hg5.block m2 (hs.xlt (k := m2) (.inr (.inl rfl))) (fun e => n3 (Option.some.inj e)))
  · rw [Pl.alook_put] at e ⊢
    by_cases q : fd = f
    · rw [if_pos q]
    · rw [if_neg q] at e ⊢; exact h.rd fd s e hr
/-- A sleeper was taken, and struck out. -/
theorem Oc.takeT (h : Oc w wr base sb tb pb fb wb now M order G F GP U Rd m1 m2 m3 i) {w4 w5 w6 : World} {x : Ent} (hx : x ∈ M)
    (hs : IsS w4 base sb tb pb fb wb 4 now (M.erase x) order (G.filter fun y => y ≠ x.g) F GP (M3 m1 m2 m3)) (hk : Kept wr w4 base (M3 m1 m2 m3)) (hm5 : MapI.IsMap w5 m1 (enc i64v (adel U x.g))) (hg5 : w4.grownBy w5 (some m1)) (hm6 : MapI.IsMap w6 m2 (enc u16 GP)) (hg6 : w5.grownBy w6 (some m2)) :
    Oc w w6 base sb tb pb fb wb now (M.erase x) order (G.filter fun y => y ≠ x.g) F GP (adel U x.g) Rd m1 m2 m3 (i + 1) := by
  obtain ⟨n1, n2, n3⟩ := h.ne
  have hb := h.bnd
  have hml := h.mlow
  have hlow := h.low
  have hslow := hs.low
  have s5 := upd_map hs (.inl rfl) hg5
  have s6 := upd_map s5 (.inr (.inl rfl)) hg6
  have hnd : (M.map (·.g)).Nodup := h.s.t.keys.symm.nodup_iff.1 h.s.t.nodup
  have hME : (M.erase x).length ≤ M.length := List.length_erase_le
  have hGF := List.length_filter_le (fun y => decide (y ≠ x.g)) G
  refine ⟨s6, h.inv, by omega, ?_, h.low, hm5.heap (hg6.block m1 (s5.xlt (k := m1) (.inl rfl)) (fun e => n1 (Option.some.inj e))), hm6, ?_, by rw [adel_keys, h.ukeys], fun y hy => ?_, fun g' hg' => h.dis g' (List.mem_filter.1 hg').1, h.rd, h.ne, h.mlow⟩
  · exact ((h.below.trans (hk.below.mono h.low)).trans ⟨hg5.os, hg5.tape, hg5.output, hg5.size, fun k q => hg5.block k (by omega) (fun e => by have := Option.some.inj e; omega)⟩).trans ⟨hg6.os, hg6.tape, hg6.output, hg6.size, fun k q => hg6.block k (by have := hg5.size; omega) (fun e => by have := Option.some.inj e; omega)⟩
  · exact ((h.mr.heap (hk.far m3 (.inr (.inr rfl)))).heap (hg5.block m3 (hs.xlt (k := m3) (.inr (.inr rfl))) (fun e => n2 (Option.some.inj e).symm))).heap (hg6.block m3 (s5.xlt (k := m3) (.inr (.inr rfl))) (fun e => n3 (Option.some.inj e).symm))
  · rw [Pl.alook_del]
    have hne : y.g ≠ x.g := by
      intro e
      have h1 := s6.t.keys.mem_iff.1 (List.mem_map.2 ⟨y, hy, rfl⟩)
      rw [e] at h1
      simpa using (List.mem_filter.1 h1).2
    rw [if_neg hne]; exact h.uw y (List.mem_of_mem_erase hy)
/-- One that waits was taken, and struck out. -/
theorem Oc.takeP (h : Oc w wr base sb tb pb fb wb now M order G F GP U Rd m1 m2 m3 i) {w4 w5 w6 w7 : World} {fd g : Int} (hl : Pl.Least F (some (fd, g)))
    (hs : IsS w4 base sb tb pb fb wb 4 now M order G (adel F fd) (adel GP g) (M3 m1 m2 m3)) (hk : Kept wr w4 base (M3 m1 m2 m3)) (hm5 : MapI.IsMap w5 m1 (enc i64v U)) (hg5 : w4.grownBy w5 (some m1)) (hm6 : MapI.IsMap w6 m2 (enc u16 (adel GP g))) (hg6 : w5.grownBy w6 (some m2)) (hm7 : MapU.IsMap w7 m3 (enc i64v (adel Rd fd))) (hg7 : w6.grownBy w7 (some m3)) :
    Oc w w7 base sb tb pb fb wb now M order G (adel F fd) (adel GP g) U (adel Rd fd) m1 m2 m3 (i + 1) := by
  obtain ⟨n1, n2, n3⟩ := h.ne
  have hb := h.bnd
  have hml := h.mlow
  have hlow := h.low
  have hslow := hs.low
  have s5 := upd_map hs (.inl rfl) hg5
  have s6 := upd_map s5 (.inr (.inl rfl)) hg6
  have s7 := upd_map s6 (.inr (.inr rfl)) hg7
  have hGF : (adel GP g).length ≤ GP.length := List.length_filter_le _ _
  have z5 := hg5.size
  have z6 := hg6.size
  refine ⟨s7, Pl.inv_take h.inv hl, by omega, ?_, h.low, (hm5.heap (hg6.block m1 (s5.xlt (k := m1) (.inl rfl)) (fun e => n1 (Option.some.inj e)))).heap (hg7.block m1 (s6.xlt (k := m1) (.inl rfl)) (fun e => n2 (Option.some.inj e))), hm6.heap (hg7.block m2 (s6.xlt (k := m2) (.inr (.inl rfl))) (fun e => n3 (Option.some.inj e))), hm7, h.ukeys, h.uw, fun g' hg' => ?_, fun k s e hr => ?_, h.ne, h.mlow⟩
  · exact (((h.below.trans (hk.below.mono h.low)).trans ⟨hg5.os, hg5.tape, hg5.output, hg5.size, fun k q => hg5.block k (by omega) (fun e => by have := Option.some.inj e; omega)⟩).trans ⟨hg6.os, hg6.tape, hg6.output, hg6.size, fun k q => hg6.block k (by omega) (fun e => by have := Option.some.inj e; omega)⟩).trans ⟨hg7.os, hg7.tape, hg7.output, hg7.size, fun k q => hg7.block k (by omega) (fun e => by have := Option.some.inj e; omega)⟩
  · rw [Pl.alook_del]; split
    · rfl
    · exact h.dis g' hg'
  · rw [Pl.alook_del] at e ⊢
    by_cases q : k = fd
    · rw [if_pos q] at e; cases e
    · rw [if_neg q] at e ⊢; exact h.rd k s e hr
end
end Go.Proofs.Ytlhblhgbpaipaaa.Src
