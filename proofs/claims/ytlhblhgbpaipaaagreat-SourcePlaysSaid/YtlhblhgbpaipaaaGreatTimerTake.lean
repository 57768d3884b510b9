/-
  Package timer: New, Take.
-/
import Derived.Test.YtlhblhgbpaipaaaGreatMgTimer
namespace Go.Proofs.YtlhblhgbpaipaaaGreat.Tm
open Go.RowKit
open Go.Proofs.YtlhblhgbpaipaaaGreat.Hp
open Go.Proofs.YtlhblhgbpaipaaaGreat.MapI
set_option linter.unusedVariables false

theorem max_is {P : Program} {ts : Array TypeId} {t : TypeId} {x y z : Int} {W : World} (h : (if x < y then y else x) = z) : (Builtin.max_ ts t #[.int .i64 x, .int .i64 y]).run P W = .ok (.int .i64 z) W := by
  rw [← h]; simp [Builtin.max_, Builtin.max2]
theorem infoHeap : (Tryz.prog.info? 126).map (fun i => (i.zero, i.size, i.bytes)) = some (some (.agg #[.slice none 0 0]), 1, 24) := by kernel_rfl

theorem made_heaps (n : Nat) : (madeCells (Value.agg #[.slice none 0 0]).cells (n * 1)).toList = List.replicate n (.slice none 0 0) := by
  rw [Nat.mul_one]
  apply List.ext_getElem?
  intro i
  simp [madeCells, Value.cells, List.getElem?_replicate]
  by_cases h : i < n <;> simp [h, Nat.mod_one]

theorem ist_new {w : World} {base tb lb hb n : Nat} (h1 : w.heap[tb]? = some (.cells #[.slice (some ⟨lb, 0, none⟩) n n, .int .u64 0, .map (some hb)] 98 (0, 0))) (h2 : w.heap[lb]? = some (.cells (List.replicate n (.slice none 0 0)).toArray 126 (0, 0)))
    (h3 : IsMap w hb []) (hn : 0 < n) (hn2 : n ≤ 64) (hl : base ≤ tb ∧ base ≤ lb ∧ base ≤ hb) : IsT w base tb lb hb (List.replicate n (.slice none 0 0)) (List.replicate n []) 0 [] := by
  refine ⟨⟨by simpa using h1, h2, by simp, by simpa using hn, by simpa using hn2, ?_, ?_, by simpa [units] using h3, hl⟩, ?_, ?_, ?_, by decide⟩
  · intro i v es hv hes
    have hi : i < n := by have := (List.getElem?_eq_some_iff.1 hv).1; simpa using this
    rw [List.getElem?_replicate, if_pos hi] at hv hes
    cases hv; cases hes
    refine ⟨?_, frozen_of_row _ _ i _ _ h2, .inl ⟨rfl, rfl⟩⟩
    rw [cell_of_row _ _ i _ _ _ h2]
    simp [hi]
  · intro i j v u g hv hu hg _
    have hi : i < n := by have := (List.getElem?_eq_some_iff.1 hv).1; simpa using this
    rw [List.getElem?_replicate, if_pos hi] at hv
    cases hv; simp [Value.ownBlock] at hg
  · intro i es hes
    have hi : i < n := by have := (List.getElem?_eq_some_iff.1 hes).1; simpa using this
    rw [List.getElem?_replicate, if_pos hi] at hes
    cases hes; exact heapish_nil
  · simp
  · intro g hg; simp at hg

set_option maxHeartbeats 1000000 in
theorem new_is (w : World) (base : Nat) (hbase : base ≤ w.heap.size) (p : Int) (n : Nat) (hn : (n : Int) = if p < 1 then 1 else if 64 < p then 64 else p) :
    Calls Tryz.prog 19 #[.int .i64 p] w fun e w' => ∃ tb lb hb, e = .returned (.pointer (some ⟨tb, 0, none⟩)) ∧ IsT w' base tb lb hb (List.replicate n (.slice none 0 0)) (List.replicate n []) 0 [] ∧ w.grownBy w' none ∧ w.heap.size ≤ tb ∧ w.heap.size ≤ lb ∧ w.heap.size ≤ hb := by
  have hmm := @run_makeMap Tryz.prog
  have hn0 : 0 < n := by (repeat' split at hn) <;> omega
  have hn64 : n ≤ 64 := by (repeat' split at hn) <;> omega
  obtain ⟨m, hm⟩ : ∃ m : Int, m = if 1 < p then p else 1 := ⟨_, rfl⟩
  have hmax : ∀ (ts : Array TypeId) (t : TypeId) (W : World), (Builtin.max_ ts t #[.int .i64 1, .int .i64 p]).run Tryz.prog W = .ok (.int .i64 m) W := fun ts t W => max_is hm.symm
  have hmin : ∀ (ts : Array TypeId) (t : TypeId) (W : World), (Builtin.min_ ts t #[.int .i64 m, .int .i64 64]).run Tryz.prog W = .ok (.int .i64 (n : Int)) W := fun ts t W => run_min_is ts t _ _ _ _ _ (by unfold mn; (repeat' split at hn) <;> (repeat' split at hm) <;> (repeat' split) <;> omega) W
  obtain ⟨i0, hi, hz0, hz1, hz2⟩ := info_parts infoHeap
  clear hn hm
  go_enter Tryz.func19, Tryz.ntmps19
  go_wp2_with (refine wpList_make_full _ rfl _ _ 95 rfl base 126 i0 _ 1 Tryz.underlying95 hi hz0 hz1 .i64 .i64 n n n rfl rfl rfl rfl (by rw [hz2]; omega) (by unfold maxLen; omega) hbase ?_; intro w1 hown hg)
  have hlb : w1.heap[w.heap.size]? = some (.cells (List.replicate n (.slice none 0 0)).toArray 126 (0, 0)) := by
    rw [made_heaps] at hown
    obtain ⟨_, h⟩ := hown
    rcases h with ⟨e, _⟩ | ⟨g, cap, cur, e, hb, h1, l, m, h2, h3⟩
    · cases e
    · cases e
      rw [Nat.mul_one] at h2 h3
      have hc : cur = (List.replicate n (.slice none 0 0)).toArray := by
        apply Array.toList_inj.1
        rw [← h3, List.take_of_length_le (by simp; omega)]
      rw [h1, hc]
  have hlt : w.heap.size < w1.heap.size := (Array.getElem?_eq_some_iff.1 hlb).1
  go_ret
  refine ⟨_, w.heap.size, w1.heap.size, rfl, ist_new (heap_alloc2_new _ _ _) ((heap_alloc_old _ _ (by simp; omega)).trans ((heap_alloc_old _ _ hlt).trans hlb)) ((IsMap.made w1).heap ((heap_alloc2_old _ _ _).trans (heap_alloc_new _ _).symm)) hn0 hn64 ⟨by omega, hbase, by omega⟩, grown_none2 hg (grown_none2 (World.grownBy_alloc _ _ _) (World.grownBy_alloc _ _ _)), by omega, Nat.le_refl _, by omega⟩

/-- delete(m, k), at the operation. -/
theorem wpList_del {P : Program} {ops : Array Oper} {rest : List Oper} {o : Oper} {a : Act} {w : World} {Q : Exit → Act → World → Prop} (hg : o.guard = none) (m x : Operand) (t kt et : TypeId) (hop : o.op = .call { callee := .builtin .delete, args := #[m, x], argTypes := #[t, kt] }) (ht : P.underlying t = some (.map kt et)) (hk : P.underlying kt = some (.int .i64))
    {b : Nat} {l : List (Int × Value)} (h : IsMap w b l) (hm : a.eval m = .map (some b)) (k : Int) (hx : a.eval x = ki k)
    (hK : ∀ w', IsMap w' b (del l k) → w.grownBy w' (some b) → wpList P ops Q rest (a.put o.dst (.tuple #[])) w') : wpList P ops Q (o :: rest) a w := by
  refine wpList_plain hg fun K' hK' => ?_
  obtain ⟨dst, op, ty, pos, after, guard⟩ := o
  simp only at hop
  subst hop
  obtain ⟨w', hrun, r1, r2⟩ := run_del h ht hk k #[t, kt] ty rfl
  unfold Oper.wp
  rw [BigFrame.execOp_builtin, BigFrame.builtin_delete]
  simp [hm, hx, hrun, Result.andThen]
  exact hK' _ _ (hK w' r1 r2)

section
variable {w : World} {base tb lb hb : Nat} {vs : List Value} {Hs : List (List Ent)} {order : Nat} {G : List Int}
set_option maxHeartbeats 1000000 in
theorem ttake_no (h : IsT w base tb lb hb vs Hs order G) {m : Option Ent} (hm : IsMin Hs.flatten m) (now : Int) (hd : dueB m now = false) :
    Calls Tryz.prog 46 #[.pointer (some ⟨tb, 0, none⟩), .int .i64 now] w fun e w' => e = .returned (.tuple #[(Ent.mk 0 0 0).agg, .bool false]) ∧ w.grownBy w' none := by
  have H := Lib.hid (h.grown (World.grownBy_alloc w (.cells #[.int .i64 0, .int .u64 0, .int .i64 0] 90) none))
  have HM := Lib.hid hm
  have HD := Lib.hid hd
  clear h hm hd
  go_enter Tryz.func46, Tryz.ntmps46
  go_wp2_with fail
  refine (due_is H.out HM.out now).mono ?_
  rintro e w1 ⟨rfl, hg⟩
  rw [HD.out]
  have hb2 := hg.block w.heap.size (by simp) (by simp)
  rw [heap_alloc_new] at hb2
  have hs := hg.size
  have hg' := Lib.hid (grown_none2 (World.grownBy_alloc w _ _) hg)
  have z0 : w1.cell? ⟨w.heap.size, 0, none⟩ = some (.int .i64 0) := cell_of_row _ _ 0 _ _ _ hb2
  have z1 : w1.cell? ⟨w.heap.size, 1, none⟩ = some (.int .u64 0) := cell_of_row _ _ 1 _ _ _ hb2
  have z2 : w1.cell? ⟨w.heap.size, 2, none⟩ = some (.int .i64 0) := cell_of_row _ _ 2 _ _ _ hb2
  have fz : ∀ o, w1.frozen? ⟨w.heap.size, o, none⟩ = false := fun o => frozen_of_row _ _ o _ _ hb2
  have HB2 := Lib.hid hb2
  clear hg hb2
  go_wp2_with fail
  exact bodyPost_ret (results_ent rfl _ _ w.heap.size ⟨0, 0, 0⟩ false (box_set HB2.out ⟨0, 0, 0⟩) rfl rfl) rfl ⟨rfl, box_grown hg'.out⟩

theorem IsTm.box (h : IsTm w base tb lb hb vs Hs order G) {B i j l : Nat} {a b c : Value} (h1 : B ≠ tb) (h2 : B ≠ lb) (h3 : B ≠ hb) (h4 : ∀ u ∈ vs, u.ownBlock ≠ some B) :
    IsTm (((w.setCell ⟨B, i, none⟩ a).setCell ⟨B, j, none⟩ b).setCell ⟨B, l, none⟩ c) base tb lb hb vs Hs order G :=
  ⟨(box_other (Ne.symm h1)).trans h.tcells, (box_other (Ne.symm h2)).trans h.lcells, h.len, h.pos, h.top, fun i v es e1 e2 => (h.heaps i v es e1 e2).heap (box_other (Ne.symm h2)) (fun g hg => box_other (fun e => h4 v (List.mem_of_getElem? e1) (by rw [hg, e]))), h.apart, h.map.heap (box_other (Ne.symm h3)), h.low⟩
theorem TFr.box {w w5 : World} {tb lb hb : Nat} {vs vs' : List Value} (f : TFr w w5 tb lb hb vs vs') {i j l : Nat} {a b c : Value} :
    TFr w (((w5.setCell ⟨w.heap.size, i, none⟩ a).setCell ⟨w.heap.size, j, none⟩ b).setCell ⟨w.heap.size, l, none⟩ c) tb lb hb vs vs' :=
  ⟨f.os, f.tape, f.output, by rw [box_size]; exact f.size, fun k hk h1 h2 h3 h4 => (box_other (by omega)).trans (f.block k hk h1 h2 h3 h4), f.own⟩
theorem keys_drop {A C : List (List Ent)} {x : Ent} {t es' : List Ent} {G : List Int} (hk : ((A ++ (x :: t) :: C).flatten.map (·.g)).Perm G) (h1 : ((x :: es').map (·.g)).Perm ((x :: t).map (·.g))) (hnd : G.Nodup) :
    ((A ++ es' :: C).flatten.map (·.g)).Perm (G.filter fun y => y ≠ x.g) := by
  rw [List.perm_iff_count] at *
  intro a
  have h2 := hk a
  have h3 := h1 a
  have h4 := List.nodup_iff_count.1 hnd a
  have h5 := List.nodup_iff_count.1 hnd x.g
  have h6 := hk x.g
  simp only [List.flatten_append, List.flatten_cons, List.map_append, List.count_append, List.map_cons, List.count_cons, List.cons_append] at *
  by_cases hax : a = x.g
  · subst hax
    have : (G.filter fun y => y ≠ x.g).count x.g = 0 := by
      rw [List.count_eq_zero]; intro h; have := (List.mem_filter.1 h).2; simp at this
    simp at *
    omega
  · have e : (x.g == a) = false := by simp; exact fun e => hax e.symm
    have : (G.filter fun y => y ≠ x.g).count a = G.count a := List.count_filter (by simp [hax])
    simp only [e] at *
    simp at *
    omega
theorem del_units (G : List Int) (g : Int) : del (units G) g = units (G.filter fun y => y ≠ g) := by
  unfold del units
  rw [List.filter_map]
  rfl

set_option maxRecDepth 100000 in
set_option maxHeartbeats 2000000 in
theorem ttake_yes (h : IsT w base tb lb hb vs Hs order G) {x : Ent} (hm : IsMin Hs.flatten (some x)) (now : Int) (hd : x.w ≤ now) :
    Calls Tryz.prog 46 #[.pointer (some ⟨tb, 0, none⟩), .int .i64 now] w fun e w' => ∃ j t es' v', e = .returned (.tuple #[x.agg, .bool true]) ∧ Hs[j]? = some (x :: t) ∧ es'.Perm t ∧ IsT w' base tb lb hb (vs.set j v') (Hs.set j es') order (G.filter fun y => y ≠ x.g) ∧ TFr w w' tb lb hb vs (vs.set j v') := by
  have H0 := Lib.hid h
  have H := Lib.hid (h.grown (World.grownBy_alloc w (.cells #[.int .i64 0, .int .u64 0, .int .i64 0] 90) none))
  have HM := Lib.hid hm
  have HD := Lib.hid (show dueB (some x) now = true by simpa [dueB] using hd)
  clear h hm hd
  go_enter Tryz.func46, Tryz.ntmps46
  go_wp2_with fail
  refine (due_is H.out HM.out now).mono ?_
  rintro e w1 ⟨rfl, hg⟩
  rw [HD.out]
  have HX1 : Hid (w1.heap[w.heap.size]? = some (.cells #[.int .i64 0, .int .u64 0, .int .i64 0] 90 (0, 0))) := Lib.hid ((hg.block w.heap.size (by simp) (by simp)).trans (heap_alloc_new _ _))
  have HG1 := Lib.hid (grown_none2 (World.grownBy_alloc w _ _) hg)
  have H1 := Lib.hid (H.out.grown hg)
  clear hg H
  go_wp2_with fail
  refine (first_yes H1.out HM.out).mono ?_
  rintro e w2 ⟨j, t, rfl, hj, hg⟩
  have HG2 := Lib.hid (grown_none2 HG1.out hg)
  have H2 := Lib.hid (H1.out.grown hg)
  have HX2 := Lib.hid ((hg.block w.heap.size (Array.getElem?_eq_some_iff.1 HX1.out).1 (by simp)).trans HX1.out)
  have hjl : j < vs.length := by rw [← H1.out.len]; exact (List.getElem?_eq_some_iff.1 hj).1
  obtain ⟨v, es, hv, hes, hp, hh, hlen⟩ := H2.out.at hjl
  rw [hj] at hes
  cases hes
  have HP := Lib.hid hp
  have HV := Lib.hid (And.intro hv (And.intro hj hh))
  have HL := Lib.hid (show t.length ≤ 1000000 by simp at hlen; omega)
  clear hg hp hv hj hh hlen H1 HX1
  go_wp2_with fail
  refine (take_some HP.out HL.out).mono ?_
  rintro e w3 ⟨v', rfl, hp3, hf⟩
  have hlaw := take_law HV.out.2.2
  generalize takeL (x :: t) = es' at *
  have U := Lib.hid (H2.out.toIsTm.upd HV.out.1 hp3 hf)
  have hv2 : v.ownBlock ≠ some w.heap.size := fun e => by have := (H0.out.own (List.mem_of_getElem? HV.out.1) e).1; omega
  have hX3 : w3.heap[w.heap.size]? = some (.cells #[.int .i64 0, .int .u64 0, .int .i64 0] 90 (0, 0)) := (hf.block w.heap.size (Array.getElem?_eq_some_iff.1 HX2.out).1 (by have := H0.out.llt; omega) hv2).trans HX2.out
  have HX3 := Lib.hid hX3
  have HLAW := Lib.hid hlaw
  have d2 := U.out.1.c2
  have htl := U.out.1.tlt
  have hxl : w.heap.size < w3.heap.size := (Array.getElem?_eq_some_iff.1 hX3).1
  clear hp3 hf hlaw hv2 hX3
  go_wp2_with fail
  have hW4 : w3.grownBy (w3.alloc (.cells #[.int .i64 x.w, .int .u64 x.o, .int .i64 x.g] 90)) none := World.grownBy_alloc _ _ _
  have U4 := Lib.hid (U.out.1.grown hW4)
  have HY : Hid ((w3.alloc (.cells #[.int .i64 x.w, .int .u64 x.o, .int .i64 x.g] 90)).heap[w3.heap.size]? = some (.cells x.cells 90 (0, 0))) := Lib.hid (heap_alloc_new _ _)
  have HX4 := Lib.hid ((hW4.block w.heap.size hxl (by simp)).trans HX3.out)
  have HW4 := Lib.hid hW4
  clear hW4 d2 htl
  generalize (w3.alloc (.cells #[.int .i64 x.w, .int .u64 x.o, .int .i64 x.g] 90)) = W4 at *
  have d2 := U4.out.c2
  have y2 : W4.cell? ⟨w3.heap.size, 2, none⟩ = some (.int .i64 x.g) := cell_of_row _ _ 2 _ _ _ HY.out
  refine wp_region_still_tail 6 (by kernel_rfl) (by kernel_rfl) ?_
  simp only [List.take_succ_cons, List.take_zero, List.drop_succ_cons, List.drop_zero]
  change wpStill _ _ W4.drew _ _ _
  repeat still_step
  refine wpStill_nil ?_
  have hdr : W4.grownBy W4.drew none := ⟨rfl, rfl, rfl, Nat.le_refl _, fun _ _ _ => rfl⟩
  have U5 := Lib.hid (U4.out.grown hdr)
  have HD5 := Lib.hid hdr
  clear hdr y2 d2
  go_wp2_with (refine wpList_del rfl _ _ 96 3 118 rfl Tryz.underlying96 Tryz.underlying3 U5.out.map rfl x.g rfl ?_; intro w5 hm5 hg5; rw [del_units] at hm5; have M := Lib.hid (U5.out.setMap hm5 hg5); have HX5 := Lib.hid ((hg5.block w.heap.size (Array.getElem?_eq_some_iff.1 HX4.out).1 (fun e => by have := Option.some.inj e; have := H0.out.map.lt; omega)).trans HX4.out); have HY5 := Lib.hid ((hg5.block w3.heap.size (Array.getElem?_eq_some_iff.1 HY.out).1 (fun e => by have := Option.some.inj e; have := U.out.1.map.lt; omega)).trans HY.out); clear hm5 hg5; have y0 : w5.cell? ⟨w3.heap.size, 0, none⟩ = some (.int .i64 x.w) := cell_of_row _ _ 0 _ _ _ HY5.out; have y1 : w5.cell? ⟨w3.heap.size, 1, none⟩ = some (.int .u64 x.o) := cell_of_row _ _ 1 _ _ _ HY5.out; have y2 : w5.cell? ⟨w3.heap.size, 2, none⟩ = some (.int .i64 x.g) := cell_of_row _ _ 2 _ _ _ HY5.out; have z0 : w5.cell? ⟨w.heap.size, 0, none⟩ = some (.int .i64 0) := cell_of_row _ _ 0 _ _ _ HX5.out; have z1 : w5.cell? ⟨w.heap.size, 1, none⟩ = some (.int .u64 0) := cell_of_row _ _ 1 _ _ _ HX5.out; have z2 : w5.cell? ⟨w.heap.size, 2, none⟩ = some (.int .i64 0) := cell_of_row _ _ 2 _ _ _ HX5.out; have fz : ∀ o, w5.frozen? ⟨w.heap.size, o, none⟩ = false := fun o => frozen_of_row _ _ o _ _ HX5.out)
  refine bodyPost_ret (results_ent rfl _ _ w.heap.size x true (box_set HX5.out x) rfl rfl) rfl ⟨j, t, es', v', rfl, HV.out.2.1, (List.perm_cons x).1 HLAW.out.1, ⟨?_, ?_, ?_, ?_, H0.out.ord⟩, ?_⟩
  · have hB : ∀ u ∈ vs.set j v', u.ownBlock ≠ some w.heap.size := fun u hu e => by
      rcases U.out.2.own u hu _ e with ⟨a, ha, he⟩ | h1
      · have := (H0.out.own ha he).1; omega
      · have := (Array.getElem?_eq_some_iff.1 HX2.out).1; omega
    exact M.out.1.box (by have := H0.out.tlt; omega) (by have := H0.out.llt; omega) (by have := H0.out.map.lt; omega) hB
  · intro i fs hfs
    by_cases hip : j = i
    · subst hip
      rw [List.getElem?_set_self (by rw [H0.out.len]; exact hjl)] at hfs
      cases hfs; exact HLAW.out.2
    · rw [List.getElem?_set_ne hip] at hfs
      exact H0.out.heapish i fs hfs
  · have hjH : j < Hs.length := by rw [H0.out.len]; exact hjl
    obtain ⟨A, C, hAC⟩ : ∃ A C, Hs = A ++ (x :: t) :: C ∧ A.length = j := by
      refine ⟨Hs.take j, Hs.drop (j + 1), ?_, by rw [List.length_take]; omega⟩
      have := (List.getElem?_eq_some_iff.1 HV.out.2.1).2
      rw [← this, List.getElem_cons_drop hjH, List.take_append_drop]
    have hset : Hs.set j es' = A ++ es' :: C := by
      rw [hAC.1, ← hAC.2, List.set_append_right _ _ (Nat.le_refl _)]; simp
    have hk := H0.out.keys
    have hnd := H0.out.nodup
    have h1 := HLAW.out.1.map (·.g)
    rw [hAC.1] at hk
    rw [hset]
    exact keys_drop hk h1 hnd
  · intro g hg
    exact H0.out.range g (List.mem_filter.1 hg).1
  · exact ((tfr_none HG2.out).trans (U.out.2.trans ((tfr_none (grown_none2 HW4.out HD5.out)).trans M.out.2))).box
end
end Go.Proofs.YtlhblhgbpaipaaaGreat.Tm
