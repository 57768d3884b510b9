/-
  Package timer: New, Add.
-/
import Derived.Test.YtmaahidipbghfaaTimerAsk
import Derived.OwnWalk
import Derived.StillTailTactics
namespace Go.Proofs.Ytmaahidipbghfaa.Tm
open Go.RowKit
open Go.Proofs.Ytmaahidipbghfaa.Hp
open Go.Proofs.Ytmaahidipbghfaa.MapI
set_option linter.unusedVariables false

/-- What a deed at the timers may change. -/
structure TFr (w w' : World) (tb lb hb : Nat) (vs vs' : List Value) : Prop where
  os : w'.os = w.os
  tape : w'.tape = w.tape
  output : w'.output = w.output
  size : w.heap.size ≤ w'.heap.size
  block : ∀ k, k < w.heap.size → k ≠ tb → k ≠ lb → k ≠ hb → (∀ v ∈ vs, v.ownBlock ≠ some k) → w'.heap[k]? = w.heap[k]?
  own : ∀ v' ∈ vs', ∀ g, v'.ownBlock = some g → (∃ v ∈ vs, v.ownBlock = some g) ∨ w.heap.size ≤ g
theorem tfr_none {w w' : World} {tb lb hb : Nat} {vs : List Value} (h : w.grownBy w' none) : TFr w w' tb lb hb vs vs :=
  ⟨h.os, h.tape, h.output, h.size, fun k hk _ _ _ _ => h.block k hk (by simp), fun v hv g hg => .inl ⟨v, hv, hg⟩⟩
theorem TFr.trans {a b c : World} {tb lb hb : Nat} {vs vs' vs'' : List Value} (h : TFr a b tb lb hb vs vs') (k : TFr b c tb lb hb vs' vs'') : TFr a c tb lb hb vs vs'' :=
  ⟨k.os.trans h.os, k.tape.trans h.tape, k.output.trans h.output, Nat.le_trans h.size k.size, fun j hj h1 h2 h3 h4 => (k.block j (Nat.lt_of_lt_of_le hj h.size) h1 h2 h3 (fun v hv e => by
      rcases h.own v hv j e with ⟨u, hu, hu2⟩ | h5
      · exact h4 u hu hu2
      · omega)).trans (h.block j hj h1 h2 h3 h4), fun v hv g hg => by
      rcases k.own v hv g hg with ⟨u, hu, hu2⟩ | h5
      · exact h.own u hu g hu2
      · exact .inr (Nat.le_trans h.size h5)⟩

section
variable {w : World} {base tb lb hb : Nat} {vs : List Value} {Hs : List (List Ent)} {order : Nat} {G : List Int}

theorem IsTm.own (h : IsTm w base tb lb hb vs Hs order G) {v : Value} (hv : v ∈ vs) {g : Nat} (hg : v.ownBlock = some g) : g < w.heap.size ∧ base ≤ g ∧ g ≠ lb ∧ g ≠ tb ∧ g ≠ hb := by
  obtain ⟨i, hi, rfl⟩ := List.getElem_of_mem hv
  have hp := h.heaps i _ _ (List.getElem?_eq_getElem hi) (List.getElem?_eq_getElem (by rw [h.len]; exact hi))
  obtain ⟨h1, h2, h3⟩ := hp.ownlt g hg
  have hc : ∃ cur, w.heap[g]? = some (.cells cur 30 (0, 0)) := by
    rcases hp.row with ⟨e, _⟩ | ⟨g', cap, e, r, _⟩
    · rw [e] at hg; simp [Value.ownBlock] at hg
    · rw [e] at hg; simp [Value.ownBlock] at hg; subst hg
      obtain ⟨cur, hc, _⟩ := r.blk
      exact ⟨cur, hc⟩
  obtain ⟨cur, hc⟩ := hc
  refine ⟨h1, h3, h2, ?_, ?_⟩
  · rintro rfl
    rw [h.tcells] at hc
    simp at hc
  · rintro rfl
    obtain ⟨es, ck, hm, _⟩ := h.map
    rw [hm] at hc; cases hc
theorem IsTm.ne (h : IsTm w base tb lb hb vs Hs order G) : tb ≠ lb ∧ tb ≠ hb ∧ lb ≠ hb := by
  obtain ⟨es, ck, hm, _⟩ := h.map
  refine ⟨?_, ?_, ?_⟩
  · rintro rfl
    have := h.tcells; rw [h.lcells] at this; simp at this
  · rintro rfl
    have := h.tcells; rw [hm] at this; cases this
  · rintro rfl
    have := h.lcells; rw [hm] at this; cases this
theorem TFr.below {w' : World} {vs' : List Value} {B : Nat} (f : TFr w w' tb lb hb vs vs') (h : IsTm w base tb lb hb vs Hs order G) (hB : B ≤ base) (hw : base ≤ w.heap.size) : Below B w w' :=
  ⟨f.os, f.tape, f.output, f.size, fun k hk => f.block k (by omega) (by have := h.low; omega) (by have := h.low; omega) (by have := h.low; omega) (fun v hv e => by have := (h.own hv e).2.1; omega)⟩

/-- One heap has changed. -/
theorem IsTm.upd (h : IsTm w base tb lb hb vs Hs order G) {p : Nat} {v v' : Value} {es' : List Ent} (hv : vs[p]? = some v) {w2 : World} (hp : IsHp w2 base lb p v' es') (hf : HFr w w2 lb p v v') :
    IsTm w2 base tb lb hb (vs.set p v') (Hs.set p es') order G ∧ TFr w w2 tb lb hb vs (vs.set p v') := by
  have hmem : v ∈ vs := List.mem_of_getElem? hv
  have hpl : p < vs.length := (List.getElem?_eq_some_iff.1 hv).1
  obtain ⟨n1, n2, n3⟩ := h.ne
  have hvt : v.ownBlock ≠ some tb := fun e => (h.own hmem e).2.2.2.1 rfl
  have hvh : v.ownBlock ≠ some hb := fun e => (h.own hmem e).2.2.2.2 rfl
  have hhlt : hb < w.heap.size := h.map.lt
  have ht : w2.heap[tb]? = w.heap[tb]? := hf.block tb h.tlt n1 hvt
  have hl : w2.heap[lb]? = some (.cells (vs.set p v').toArray 68 (0, 0)) := by
    rw [hf.at_, heap_setCell_same _ lb p _ _ _ h.lcells]
    simp
  refine ⟨⟨?_, hl, ?_, ?_, ?_, ?_, ?_, h.map.heap (hf.block hb hhlt (fun e => n3 e.symm) hvh), h.low⟩, ⟨hf.os, hf.tape, hf.output, hf.size, fun k hk h1 h2 h3 h4 => hf.block k hk h2 (h4 v hmem), ?_⟩⟩
  · rw [ht, h.tcells]; simp
  · simp [h.len]
  · simpa using h.pos
  · simpa using h.top
  · intro i u es hu hes
    by_cases hip : p = i
    · subst hip
      rw [List.getElem?_set_self hpl] at hu
      rw [List.getElem?_set_self (by rw [h.len]; exact hpl)] at hes
      cases hu; cases hes
      exact hp
    · rw [List.getElem?_set_ne hip] at hu hes
      have ho := h.heaps i u es hu hes
      have hil : i < vs.length := (List.getElem?_eq_some_iff.1 hu).1
      refine ⟨?_, frozen_of_row _ _ i _ _ hl, ?_⟩
      · rw [cell_of_row _ _ i _ _ _ hl]
        simp [List.getElem?_set_ne hip, hu]
      · rcases ho.row with r | ⟨g, cap, e, r, hgl, hgb⟩
        · exact .inl r
        · refine .inr ⟨g, cap, e, r.heap (hf.block g r.lt hgl (fun e2 => ?_)), hgl, hgb⟩
          exact hip (h.apart p i v u g hv hu e2 (by rw [e]; rfl))
  · intro i j a c g ha hc hag hcg
    have key : ∀ (i : Nat) (a : Value), i ≠ p → (vs.set p v')[i]? = some a → vs[i]? = some a := fun i a hi h => by rwa [List.getElem?_set_ne (fun e => hi e.symm)] at h
    have kp : ∀ (a : Value), (vs.set p v')[p]? = some a → a = v' := fun a h => by rw [List.getElem?_set_self hpl] at h; exact (Option.some.inj h).symm
    by_cases hi : i = p
    · by_cases hj : j = p
      · rw [hi, hj]
      · subst hi
        have ea := kp a ha; subst ea
        have hc' := key j c hj hc
        rcases hf.own with h1 | h1
        · exact h.apart i j v c g hv hc' (by rw [← h1]; exact hag) hcg
        · have := h1 g hag
          have := (h.own (List.mem_of_getElem? hc') hcg).1
          omega
    · have ha' := key i a hi ha
      by_cases hj : j = p
      · subst hj
        have ec := kp c hc; subst ec
        rcases hf.own with h1 | h1
        · exact h.apart i j a v g ha' hv hag (by rw [← h1]; exact hcg)
        · have := h1 g hcg
          have := (h.own (List.mem_of_getElem? ha') hag).1
          omega
      · exact h.apart i j a c g ha' (key j c hj hc) hag hcg
  · intro u hu g hg
    obtain ⟨i, hi, rfl⟩ := List.getElem_of_mem hu
    by_cases hip : p = i
    · subst hip
      rw [List.getElem_set_self] at hg
      rcases hf.own with h1 | h1
      · exact .inl ⟨v, hmem, by rw [← h1]; exact hg⟩
      · exact .inr (h1 g hg)
    · rw [List.getElem_set_ne hip] at hg
      exact .inl ⟨_, List.getElem_mem _, hg⟩
/-- The number of adds has changed. -/
theorem IsTm.setOrder (h : IsTm w base tb lb hb vs Hs order G) (q : Nat) : IsTm (w.setCell ⟨tb, 1, none⟩ (.int .u64 q)) base tb lb hb vs Hs q G ∧ TFr w (w.setCell ⟨tb, 1, none⟩ (.int .u64 q)) tb lb hb vs vs := by
  obtain ⟨n1, n2, n3⟩ := h.ne
  have ho : ∀ k, k ≠ tb → (w.setCell ⟨tb, 1, none⟩ (.int .u64 q)).heap[k]? = w.heap[k]? := fun k hk => heap_setCell_other _ _ _ _ hk
  refine ⟨⟨heap_setCell_same _ tb 1 _ _ _ h.tcells, (ho lb (fun e => n1 e.symm)).trans h.lcells, h.len, h.pos, h.top, fun i v es h1 h2 => (h.heaps i v es h1 h2).heap (ho lb (fun e => n1 e.symm)) (fun g hg => ho g (h.own (List.mem_of_getElem? h1) hg).2.2.2.1), h.apart, h.map.heap (ho hb (fun e => n2 e.symm)), h.low⟩, ⟨rfl, rfl, rfl, by simp, fun k hk h1 _ _ _ => ho k h1, fun v hv g hg => .inl ⟨v, hv, hg⟩⟩⟩
/-- The map has changed. -/
theorem IsTm.setMap (h : IsTm w base tb lb hb vs Hs order G) {w' : World} {G' : List Int} (hm : IsMap w' hb (units G')) (hg : w.grownBy w' (some hb)) : IsTm w' base tb lb hb vs Hs order G' ∧ TFr w w' tb lb hb vs vs := by
  obtain ⟨n1, n2, n3⟩ := h.ne
  have ho : ∀ k, k < w.heap.size → k ≠ hb → w'.heap[k]? = w.heap[k]? := fun k hk hk2 => hg.block k hk (fun e => hk2 (Option.some.inj e))
  refine ⟨⟨(ho tb h.tlt n2).trans h.tcells, (ho lb h.llt n3).trans h.lcells, h.len, h.pos, h.top, fun i v es h1 h2 => (h.heaps i v es h1 h2).heap (ho lb h.llt n3) (fun g hg => ho g (h.own (List.mem_of_getElem? h1) hg).1 (h.own (List.mem_of_getElem? h1) hg).2.2.2.2), h.apart, hm, h.low⟩, ⟨hg.os, hg.tape, hg.output, hg.size, fun k hk _ _ h3 _ => ho k hk h3, fun v hv g hg => .inl ⟨v, hv, hg⟩⟩⟩

theorem put_units {G : List Int} {g : Int} (h : g ∉ G) : MapI.put (units G) g (.agg #[]) = units (G ++ [g]) := by
  unfold MapI.put
  rw [if_neg (by rw [units_keys]; exact h)]
  simp [units]

set_option maxHeartbeats 1000000 in
theorem add_arg (h : IsTm w base tb lb hb vs Hs order G) (p g when : Int) (hbad : p < 0 ∨ (vs.length : Int) ≤ p ∨ g < 0 ∨ 4096 ≤ g) :
    Calls Try.prog 9 #[.pointer (some ⟨tb, 0, none⟩), .int .i64 p, .int .i64 g, .int .i64 when] w fun e w' => e = .returned (.int .i64 1) ∧ w = w' := by
  obtain ⟨n, hn⟩ : ∃ n, n = vs.length := ⟨_, rfl⟩
  have c0 := h.c0
  have ht := h.top
  rw [← hn] at c0 ht hbad
  clear h hn
  by_cases h1 : p < 0
  · go_enter Try.func9, Try.ntmps9
    go_wp2
    go_ret
    exact ⟨rfl, rfl⟩
  · by_cases h2 : (n : Int) ≤ p
    · go_enter Try.func9, Try.ntmps9
      go_wp2
      go_ret
      exact ⟨rfl, rfl⟩
    · by_cases h3 : g < 0
      · go_enter Try.func9, Try.ntmps9
        go_wp2
        go_ret
        exact ⟨rfl, rfl⟩
      · have h4 : 4096 ≤ g := by omega
        go_enter Try.func9, Try.ntmps9
        go_wp2
        go_ret
        exact ⟨rfl, rfl⟩

set_option maxHeartbeats 1000000 in
theorem add_same (h : IsT w base tb lb hb vs Hs order G) (p g when : Int) (h1 : 0 ≤ p) (h2 : p < vs.length) (h3 : 0 ≤ g) (h4 : g < 4096) (hg : g ∈ G) :
    Calls Try.prog 9 #[.pointer (some ⟨tb, 0, none⟩), .int .i64 p, .int .i64 g, .int .i64 when] w fun e w' => e = .returned (.int .i64 8) ∧ w.grownBy w' none := by
  obtain ⟨n, hn⟩ : ∃ n, n = vs.length := ⟨_, rfl⟩
  have c0 := h.c0
  have ht := h.top
  have H := Lib.hid h
  have hd : decide (g ∈ G) = true := by simpa using hg
  rw [← hn] at c0 ht h2
  clear h hn hg
  go_enter Try.func9, Try.ntmps9
  go_wp2_with fail
  refine (has_is H.out g).mono ?_
  rintro e w1 ⟨rfl, hg⟩
  have HG := Lib.hid hg
  clear hg
  go_wp2_with fail
  go_ret
  exact ⟨rfl, HG.out⟩

set_option maxRecDepth 100000 in
set_option maxHeartbeats 2000000 in
theorem add_ok (h : IsT w base tb lb hb vs Hs order G) (hbase : base ≤ w.heap.size) (p : Nat) (g when : Int) (h2 : p < vs.length) (h3 : 0 ≤ g) (h4 : g < 4096) (hg : g ∉ G) (hord : order < 4611686018427387904) :
    Calls Try.prog 9 #[.pointer (some ⟨tb, 0, none⟩), .int .i64 p, .int .i64 g, .int .i64 when] w fun e w' => ∃ v' es es', e = .returned (.int .i64 0) ∧ Hs[p]? = some es ∧ es'.Perm (⟨when, order, g⟩ :: es) ∧ IsT w' base tb lb hb (vs.set p v') (Hs.set p es') (order + 1) (G ++ [g]) ∧ TFr w w' tb lb hb vs (vs.set p v') := by
  obtain ⟨n, hn⟩ : ∃ n, n = vs.length := ⟨_, rfl⟩
  have H := Lib.hid h
  have HN := Lib.hid hn
  have HNG := Lib.hid hg
  have c0 := h.c0
  have ht := h.top
  have hd : decide (g ∈ G) = false := by simpa using hg
  have hw1 : IntKind.u64.wrap ((order : Int) + 1) = ((order + 1 : Nat) : Int) := by rw [IntKind.wrap_u64]; omega
  rw [← hn] at c0 ht h2
  clear h hn hg
  go_enter Try.func9, Try.ntmps9
  go_wp2_with fail
  refine (has_is H.out g).mono ?_
  rintro e w1 ⟨rfl, hg⟩
  have HG := Lib.hid hg
  have H1 := Lib.hid (H.out.grown hg)
  have d0 : w1.cell? ⟨tb, 0, none⟩ = some (.slice (some ⟨lb, 0, none⟩) n n) := by rw [HN.out]; exact H1.out.c0
  have d1 := H1.out.c1
  obtain ⟨v, es, hv, hes, hp, hh, hlen⟩ := H1.out.at (i := p) (by rw [← HN.out]; exact h2)
  have HV := Lib.hid (And.intro hv hes)
  have HP := Lib.hid hp
  have HH := Lib.hid (And.intro hh hlen)
  have hb1 := Lib.hid (Nat.le_trans hbase hg.size)
  clear hg c0 hv hes hp hh hlen
  go_wp2_with fail
  refine wp_region_still_tail 13 (by kernel_rfl) (by kernel_rfl) ?_
  simp only [List.take_succ_cons, List.take_zero, List.drop_succ_cons, List.drop_zero]
  change wpStill _ _ w1.drew _ _ _
  repeat still_step
  refine wpStill_nil ?_
  go_wp2_with fail
  have hdr : w1.grownBy w1.drew none := ⟨rfl, rfl, rfl, Nat.le_refl _, fun _ _ _ => rfl⟩
  refine (put_is (HP.out.grown hdr) hb1.out (by have := HH.out.2; omega) ⟨when, order, g⟩).mono ?_
  rintro e w2 ⟨v', rfl, hp2, hf⟩
  have hlaw := put_law HH.out.1 ⟨when, order, g⟩
  generalize upL (es ++ [(⟨when, order, g⟩ : Ent)]) es.length = es' at *
  have U := Lib.hid (H1.out.toIsTm.upd HV.out.1 hp2 (HFr.pre hdr HP.out.lt hf))
  have d1 := U.out.1.c1
  have d2 := U.out.1.c2
  have hfr := U.out.1.free
  have O := Lib.hid (U.out.1.setOrder (order + 1))
  have HL := Lib.hid hlaw
  clear hp2 hf hlaw d0 hdr
  go_wp2_with (at_mapUpdate; refine wpList_put rfl _ _ _ 64 3 70 rfl Try.underlying64 Try.underlying3 O.out.1.map rfl g rfl (.agg #[]) rfl ?_; intro w4 hm4 hg4; rw [put_units HNG.out] at hm4; have M := Lib.hid (O.out.1.setMap hm4 hg4); clear hm4 hg4)
  go_ret
  have hpl : p < Hs.length := by rw [H.out.len, ← HN.out]; exact h2
  obtain ⟨A, C, hAC⟩ : ∃ A C, Hs = A ++ es :: C ∧ A.length = p := by
    refine ⟨Hs.take p, Hs.drop (p + 1), ?_, by rw [List.length_take]; omega⟩
    have := (List.getElem?_eq_some_iff.1 HV.out.2).2
    rw [← this, List.getElem_cons_drop hpl, List.take_append_drop]
  have hset : Hs.set p es' = A ++ es' :: C := by
    rw [hAC.1, ← hAC.2, List.set_append_right _ _ (Nat.le_refl _)]; simp
  refine ⟨v', es, es', rfl, HV.out.2, HL.out.1, ⟨M.out.1, ?_, ?_, ?_, by omega⟩, (tfr_none HG.out).trans (U.out.2.trans (O.out.2.trans M.out.2))⟩
  · intro i fs hfs
    by_cases hip : p = i
    · subst hip
      rw [List.getElem?_set_self hpl] at hfs
      cases hfs; exact HL.out.2
    · rw [List.getElem?_set_ne hip] at hfs
      exact H.out.heapish i fs hfs
  · have hk := H.out.keys
    rw [hAC.1] at hk
    rw [hset]
    simp only [List.flatten_append, List.flatten_cons, List.map_append] at hk ⊢
    have h1 := HL.out.1.map (·.g)
    rw [List.perm_iff_count] at *
    intro a
    have := hk a; have := h1 a
    simp only [List.count_append, List.map_cons, List.count_cons, List.count_nil] at *
    omega
  · intro y hy
    rcases List.mem_append.1 hy with hy | hy
    · exact H.out.range y hy
    · simp at hy; subst hy; exact ⟨h3, h4⟩
end
end Go.Proofs.Ytmaahidipbghfaa.Tm
