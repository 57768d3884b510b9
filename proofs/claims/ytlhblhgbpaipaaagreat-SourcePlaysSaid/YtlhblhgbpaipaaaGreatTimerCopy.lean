/-
  Package timer: Copy.
-/
import Derived.Test.YtlhblhgbpaipaaaGreatTimerTake
import Derived.Test.YtlhblhgbpaipaaaGreatMgHeap2
import Derived.Test.YtlhblhgbpaipaaaGreatMgMap
import Derived.Test.YtlhblhgbpaipaaaGreatMgTim5
import Derived.Deep.RegionHeld3
namespace Go.Proofs.YtlhblhgbpaipaaaGreat.Tm
open Go.RowKit
open Go.Proofs.YtlhblhgbpaipaaaGreat.Hp
open Go.Proofs.YtlhblhgbpaipaaaGreat.MapI
set_option linter.unusedVariables false

/-- What the loop's region reads. -/
abbrev CpS (t t' lb lb' n : Nat) (w' : World) : Prop := w'.cell? ⟨t, 0, none⟩ = some (.slice (some ⟨lb, 0, none⟩) n n) ∧ w'.cell? ⟨t', 0, none⟩ = some (.slice (some ⟨lb', 0, none⟩) n n)
theorem cps_below {t t' lb lb' n : Nat} {a b : World} (h : CpS t t' lb lb' n a) (ht : t < a.heap.size) (ht' : t' < a.heap.size) (hg : Below a.heap.size a b) : CpS t t' lb lb' n b :=
  ⟨(World.cell?_of_block (a := ⟨t, 0, none⟩) (hg.block t ht)).trans h.1, (World.cell?_of_block (a := ⟨t', 0, none⟩) (hg.block t' ht')).trans h.2⟩
theorem cps_set {t t' lb lb' n k : Nat} {v : Value} {a : World} (h : CpS t t' lb lb' n a) (h1 : t ≠ lb') (h2 : t' ≠ lb') : CpS t t' lb lb' n (a.setCell ⟨lb', k, none⟩ v) :=
  ⟨(World.cell?_of_block (a := ⟨t, 0, none⟩) (heap_setCell_other _ _ _ _ h1)).trans h.1, (World.cell?_of_block (a := ⟨t', 0, none⟩) (heap_setCell_other _ _ _ _ h2)).trans h.2⟩

theorem frozen_below {a b : World} {B : Nat} (h : Below B a b) {k : Nat} (hk : k < B) (i : Nat) : b.frozen? ⟨k, i, none⟩ = a.frozen? ⟨k, i, none⟩ := by
  unfold World.frozen?; simp only [h.block k hk]
section
variable {w : World} {base tb lb hb : Nat} {vs : List Value} {Hs : List (List Ent)} {order : Nat} {G : List Int}
theorem IsTm.below (h : IsTm w base tb lb hb vs Hs order G) {w' : World} (hg : Below w.heap.size w w') : IsTm w' base tb lb hb vs Hs order G :=
  h.grown ⟨hg.os, hg.tape, hg.output, hg.size, fun k hk _ => hg.block k hk⟩

/-- A heap that was copied is laid into its place. -/
theorem IsTm.lay (h : IsTm w base tb lb hb vs Hs order G) {p : Nat} {v v' : Value} {es' : List Ent} (hv : vs[p]? = some v) {w1 : World} {B : Nat} (hw1 : Below w.heap.size w w1) (hbase : base ≤ w.heap.size) (hp : IsHp w1 w.heap.size B 0 v' es') :
    IsTm (w1.setCell ⟨lb, p, none⟩ v') base tb lb hb (vs.set p v') (Hs.set p es') order G := by
  have hlt := h.llt
  have hpl : p < vs.length := (List.getElem?_eq_some_iff.1 hv).1
  have hl1 : w1.heap[lb]? = some (.cells vs.toArray 126 (0, 0)) := (hw1.block lb hlt).trans h.lcells
  have hcell : (w1.setCell ⟨lb, p, none⟩ v').heap[lb]? = some (.cells (vs.set p v').toArray 126 (0, 0)) := by
    rw [heap_setCell_same _ lb p _ _ _ hl1]; simp
  have hp' : IsHp (w1.setCell ⟨lb, p, none⟩ v') base lb p v' es' := by
    refine ⟨?_, frozen_of_row _ _ p _ _ hcell, ?_⟩
    · rw [cell_of_row _ _ p _ _ _ hcell]; simp [hpl]
    · rcases hp.row with r | ⟨g, cap, e, r, hg1, hg2⟩
      · exact .inl r
      · exact .inr ⟨g, cap, e, r.heap (heap_setCell_other _ _ _ _ (show g ≠ lb by omega)), by omega, by omega⟩
  have hf : HFr w (w1.setCell ⟨lb, p, none⟩ v') lb p v v' := by
    refine ⟨hw1.os, hw1.tape, hw1.output, by simpa using hw1.size, fun k hk h1 _ => (heap_setCell_other _ _ _ _ h1).trans (hw1.block k hk), setCell_congr v' (hw1.block lb hlt), .inr fun g hg => ?_⟩
    rcases hp.row with ⟨rfl, _⟩ | ⟨g', cap, rfl, r, hg1, hg2⟩
    · simp [Value.ownBlock] at hg
    · simp [Value.ownBlock] at hg; subst hg; exact hg2
  exact (h.upd hv hp' hf).1

/-- How far the first loop is. -/
def half (Hs : List (List Ent)) (k : Nat) : List (List Ent) := Hs.take k ++ List.replicate (Hs.length - k) []
theorem half_zero (Hs : List (List Ent)) : half Hs 0 = List.replicate Hs.length [] := by simp [half]
theorem half_all (Hs : List (List Ent)) : half Hs Hs.length = Hs := by simp [half]
theorem half_set {Hs : List (List Ent)} {k : Nat} {es : List Ent} (h : Hs[k]? = some es) : (half Hs k).set k es = half Hs (k + 1) := by
  obtain ⟨hk, rfl⟩ := List.getElem?_eq_some_iff.1 h
  apply List.ext_getElem?
  intro i
  unfold half
  by_cases hi : i = k
  · subst hi
    rw [List.getElem?_set_self (by simp; omega), List.getElem?_append_left (by simp; omega), List.getElem?_take_of_lt (by omega)]
    exact h.symm
  · rw [List.getElem?_set_ne (fun e => hi e.symm)]
    by_cases h1 : i < k
    · rw [List.getElem?_append_left (by simp; omega), List.getElem?_append_left (by simp; omega), List.getElem?_take_of_lt h1, List.getElem?_take_of_lt (by omega)]
    · rw [List.getElem?_append_right (by simp; omega), List.getElem?_append_right (by simp; omega)]
      simp only [List.getElem?_replicate, List.length_take]
      have e1 : min k Hs.length = k := by omega
      have e2 : min (k + 1) Hs.length = k + 1 := by omega
      rw [e1, e2]
      by_cases h2 : i < Hs.length
      · rw [if_pos (by omega), if_pos (by omega)]
      · rw [if_neg (by omega), if_neg (by omega)]

theorem IsTm.iter (h : IsTm w base tb lb hb vs Hs order G) {w' : World} {r b : Nat} {l rest : List (Int × Value)} (hr : Ran w b r l rest) (hg : w.grownBy w' (some r)) : IsTm w' base tb lb hb vs Hs order G := by
  obtain ⟨es, c, since, seen, c0, hb1, hs, he, hr1, _⟩ := hr
  have n1 : tb ≠ r := fun e => by have := h.tcells; rw [e, hr1] at this; cases this
  have n2 : lb ≠ r := fun e => by have := h.lcells; rw [e, hr1] at this; cases this
  have n3 : hb ≠ r := fun e => by obtain ⟨es, ck, hm, _⟩ := h.map; rw [e, hr1] at hm; cases hm
  have hk : ∀ k, k < w.heap.size → k ≠ r → w'.heap[k]? = w.heap[k]? := fun k hk hne => hg.block k hk (fun e => hne (Option.some.inj e))
  refine ⟨(hk tb h.tlt n1).trans h.tcells, (hk lb h.llt n2).trans h.lcells, h.len, h.pos, h.top, fun i v es h1 h2 => (h.heaps i v es h1 h2).heap (hk lb h.llt n2) (fun g hg2 => hk g (h.own (List.mem_of_getElem? h1) hg2).1 ?_), h.apart, h.map.heap (hk hb h.map.lt n3), h.low⟩
  rintro rfl
  rcases (h.heaps i v es h1 h2).row with ⟨e, _⟩ | ⟨g', cap, e, r, _⟩
  · rw [e] at hg2; simp [Value.ownBlock] at hg2
  · rw [e] at hg2; simp [Value.ownBlock] at hg2; subst hg2
    obtain ⟨cur, hc, _⟩ := r.blk
    rw [hr1] at hc; cases hc

/-- One key of the range is in the other map now. -/
theorem move_key {G G' : List Int} {rest : List (Int × Value)} {k : Int} {v : Value} (hn : G.Nodup) (hp : (G' ++ rest.map (·.1)).Perm G) (hk : (k, v) ∈ rest) :
    k ∉ G' ∧ ((G' ++ [k]) ++ (rest.filter fun p => !decide (p.1 = k)).map (·.1)).Perm G := by
  have h1 : (G' ++ rest.map (·.1)).Nodup := hp.nodup_iff.2 hn
  obtain ⟨_, h3, h4⟩ := List.nodup_append.1 h1
  have hkm : k ∈ rest.map (·.1) := List.mem_map.2 ⟨_, hk, rfl⟩
  refine ⟨fun h => h4 k h k hkm rfl, List.Perm.trans ?_ hp⟩
  rw [List.append_assoc]
  refine List.Perm.append_left _ ?_
  have e1 : (rest.filter fun p => !decide (p.1 = k)).map (·.1) = (rest.map (·.1)).erase k := by
    rw [h3.erase_eq_filter, List.filter_map]
    congr 1
  rw [e1]
  exact (List.perm_cons_erase hkm).symm

set_option maxRecDepth 100000 in
set_option maxHeartbeats 4000000 in
theorem tcopy_is (h : IsT w base tb lb hb vs Hs order G) (hsmall : ∀ es ∈ Hs, es.length ≤ 1000) : Calls Tryz.prog 41 #[.pointer (some ⟨tb, 0, none⟩)] w fun e w' => ∃ tb' lb' hb' vs' G', e = .returned (.pointer (some ⟨tb', 0, none⟩)) ∧ IsT w' w.heap.size tb' lb' hb' vs' Hs order G' ∧ G'.Perm G ∧ vs'.length = vs.length ∧ w.grownBy w' none := by
  obtain ⟨n, hn⟩ : ∃ n, n = vs.length := ⟨_, rfl⟩
  have H := Lib.hid h
  have HN := Lib.hid hn
  have HS := Lib.hid hsmall
  have c0 := h.c0
  have c1 := h.c1
  have ht := h.top
  have hpos := h.pos
  rw [← hn] at c0 ht hpos
  clear h hn hsmall
  go_enter Tryz.func41, Tryz.ntmps41
  go_wp2_with fail
  refine (new_is w w.heap.size (Nat.le_refl _) n n (by rw [if_neg (by omega), if_neg (by omega)])).mono ?_
  rintro e w1 ⟨tb', lb', hb', rfl, hI1, hg1, hl1, hl2, hl3⟩
  have hd1 := hI1.toIsTm.c1
  have hf1 := hI1.free
  have hc1 : w1.cell? ⟨tb, 1, none⟩ = some (.int .u64 order) := (H.out.grown hg1).c1
  have hc0 : w1.cell? ⟨tb, 0, none⟩ = some (.slice (some ⟨lb, 0, none⟩) n n) := by rw [HN.out]; exact (H.out.grown hg1).c0
  have hnet : tb ≠ tb' := by have := H.out.tlt; omega
  have I1 := Lib.hid (And.intro hI1.toIsTm hg1)
  have L1 := Lib.hid (And.intro hl1 (And.intro hl2 hl3))
  clear hI1 hg1 hl1 hl2 hl3 c0 c1
  go_wp2_with fail
  clear hd1 hf1 hc1 hc0
  have O := Lib.hid (I1.out.1.setOrder order)
  have hg2 : w.grownBy (w1.setCell ⟨tb', 1, none⟩ (.int .u64 order)) none := ⟨I1.out.2.os, I1.out.2.tape, I1.out.2.output, by simpa using I1.out.2.size, fun k hk _ => (heap_setCell_other _ _ _ _ (show k ≠ tb' by have := L1.out; omega)).trans (I1.out.2.block k hk (by simp))⟩
  have I2 := Lib.hid (And.intro O.out.1 hg2)
  clear O I1 hg2
  generalize (w1.setCell ⟨tb', 1, none⟩ (.int .u64 order)) = w2 at *
  go_loopw [24] (fun q wr => ∃ (k : Nat) (vs' : List Value), k ≤ n ∧ q = .int .i64 k ∧ vs'.length = n ∧ IsTm wr w.heap.size tb' lb' hb' vs' (half Hs k) order [] ∧ w.grownBy wr none) (fun q _ => n - (intOf q).toNat)
  case atStart => exact ⟨0, List.replicate n (.slice none 0 0), Nat.zero_le _, rfl, List.length_replicate, by rw [half_zero, H.out.len, ← HN.out]; exact I2.out.1, I2.out.2⟩
  case round =>
    obtain ⟨k, vs', hk, rfl, hlen, hI, hg⟩ := hrel
    have HI := Lib.hid (And.intro hI (And.intro hg hlen))
    have c0 := (H.out.grown hg).c0
    have d0 := hI.c0
    rw [← HN.out] at c0
    rw [hlen] at d0
    by_cases hlt : k < n
    · obtain ⟨v, es, hv, hes, hp, hh, hlen2⟩ := (H.out.grown hg).at (i := k) (by rw [← HN.out]; exact hlt)
      have hfz : ∀ i, wr.frozen? ⟨lb', i, none⟩ = false := fun i => frozen_of_row _ _ i _ _ hI.lcells
      obtain ⟨u, hu⟩ : ∃ u, wr.cell? ⟨lb', k, none⟩ = some u := ⟨vs'[k]'(by omega), by rw [cell_of_row _ _ k _ _ _ hI.lcells]; simp [show k < vs'.length by omega]⟩
      have KS := Lib.hid (And.intro hes hp)
      have BL := Lib.hid (And.intro (H.out.grown hg).tlt hI.tlt)
      have LL := Lib.hid hI.llt
      have BN : Hid (tb ≠ lb' ∧ tb' ≠ lb') := Lib.hid ⟨by have := H.out.tlt; have := L1.out; omega, hI.ne.1⟩
      clear hI hg hlen hv hes hp hh
      go_wp2_with fail
      have hdr : wr.grownBy wr.drew none := ⟨rfl, rfl, rfl, Nat.le_refl _, fun _ _ _ => rfl⟩
      have HDR := Lib.hid hdr
      clear hdr
      go_region_with (first
          | (go_at_call 59; refine (hcopy_is (KS.out.2.grown (w' := wr.drew) HDR.out) (HS.out _ (List.mem_of_getElem? KS.out.1))).mono ?_; rintro e w3 ⟨B, v', rfl, hB, hp3, hb3⟩; obtain ⟨a3, c3, hv3'⟩ := hp3.len; subst hv3'; (have c03 : w3.cell? ⟨tb, 0, none⟩ = some (.slice (some ⟨lb, 0, none⟩) n n) := (World.cell?_of_block (a := ⟨tb, 0, none⟩) (hb3.block tb BL.out.1)).trans c0); (have d03 : w3.cell? ⟨tb', 0, none⟩ = some (.slice (some ⟨lb', 0, none⟩) n n) := (World.cell?_of_block (a := ⟨tb', 0, none⟩) (hb3.block tb' BL.out.2)).trans d0); (have hv3 := hp3.cell); (have hz3 : ∀ i, w3.frozen? ⟨lb', i, none⟩ = false := fun i => (frozen_below hb3 LL.out i).trans (hfz i)); (have hu3 : w3.cell? ⟨lb', k, none⟩ = some u := (World.cell?_of_block (a := ⟨lb', k, none⟩) (hb3.block lb' LL.out)).trans hu); (have K3 : Hid (IsHp w3 wr.heap.size B 0 (.slice a3 es.length c3) es ∧ Below wr.heap.size wr w3) := Lib.hid ⟨hp3, hb3.os, hb3.tape, hb3.output, hb3.size, hb3.block⟩); clear hB hp3 hb3))
      all_goals (
        have LAY := Lib.hid (HI.out.1.lay (List.getElem?_eq_getElem (by rw [HI.out.2.2]; exact hlt)) K3.out.2 HI.out.2.1.size K3.out.1)
        have hgw : w.grownBy (w3.setCell ⟨lb', k, none⟩ (.slice a3 es.length c3)) none := ⟨K3.out.2.os.trans HI.out.2.1.os, K3.out.2.tape.trans HI.out.2.1.tape, K3.out.2.output.trans HI.out.2.1.output, by simpa using Nat.le_trans HI.out.2.1.size K3.out.2.size, fun j hj _ => (heap_setCell_other _ _ _ _ (show j ≠ lb' by have := L1.out; omega)).trans ((K3.out.2.block j (Nat.lt_of_lt_of_le hj HI.out.2.1.size)).trans (HI.out.2.1.block j hj (by simp)))⟩
        have HG := Lib.hid hgw
        clear hgw c03 d03 hv3 hz3 hu3 hu hfz c0 d0
        generalize (w3.setCell ⟨lb', k, none⟩ (.slice a3 es.length c3)) = w4 at *
        go_wp2_with fail
        go_roundw
        case rel => exact ⟨k + 1, vs'.set k (.slice a3 es.length c3), by omega, by go_num, by rw [List.length_set]; exact HI.out.2.2, by rw [← half_set KS.out.1]; exact LAY.out, HG.out⟩
        case measure => simp [intOf] <;> omega)
    · have e2 : k = n := by omega
      subst e2
      have hI := Lib.hid (show IsTm wr w.heap.size tb' lb' hb' vs' Hs order [] by have := HI.out.1; rw [HN.out, ← H.out.len, half_all] at this; exact this)
      have c2 := (H.out.grown HI.out.2.1).c2
      have hmm := (H.out.grown HI.out.2.1).map
      clear c0 d0
      go_wp2_with (at_range; refine wpList_range rfl _ 96 3 118 rfl Tryz.underlying96 hmm rfl ?_; intro w0 hrg0 hg0 hs0)
      go_frame
      obtain ⟨R, hR⟩ : ∃ R, R = wr.heap.size := ⟨_, rfl⟩
      rw [← hR] at hrg0 ⊢
      have I3 := Lib.hid (And.intro hrg0 (And.intro (hI.out.grown hg0) (grown_none2 HI.out.2.1 hg0)))
      have LR : Hid (w.heap.size ≤ R ∧ tb' < R ∧ lb' < R ∧ hb' < R) := Lib.hid ⟨by rw [hR]; exact HI.out.2.1.size, by rw [hR]; exact hI.out.tlt, by rw [hR]; exact hI.out.llt, by rw [hR]; exact hI.out.map.lt⟩
      have HL := HI.out.2.2
      have HLN := Lib.hid HL
      clear hrg0 hg0 hs0 hmm c2 HI hI I2 HL hR
      go_loopw [5] (fun _ wx => ∃ (rest : List (Int × Value)) (G' : List Int), Ran wx hb R (units G) rest ∧ (G' ++ rest.map (·.1)).Perm G ∧ IsTm wx w.heap.size tb' lb' hb' vs' Hs order G' ∧ w.grownBy wx none) (fun _ wx => wx.rangeLeft hb R)
      case atStart => exact ⟨units G, [], I3.out.1, by simp [units, Function.comp_def], I3.out.2.1, I3.out.2.2⟩
      case round =>
        clear I3
        obtain ⟨rest, G', hrg, hpm, hI, hg⟩ := hrel
        have HR := Lib.hid (And.intro hpm (And.intro hI hg))
        clear hpm hI hg
        go_wp2_with (at_next; refine wpList_next rfl _ rfl rfl hrg ?_ ?_)
        · intro hr0
          subst hr0
          go_wp2
          go_ret
          have hpm : G'.Perm G := by simpa using HR.out.1
          exact ⟨tb', lb', hb', vs', G', rfl, ⟨HR.out.2.1, H.out.heapish, H.out.keys.trans hpm.symm, fun g hg => H.out.range g (hpm.mem_iff.1 hg), H.out.ord⟩, hpm, by rw [HLN.out]; exact HN.out, HR.out.2.2⟩
        · intro x v w5 hkv hrg2 hg2 hs2 hen
          have MV := Lib.hid (move_key H.out.toIsTm.nodup HR.out.1 hkv)
          have hI5 := HR.out.2.1.iter hrg hg2
          have hg5 : w.grownBy w5 none := ⟨hg2.os.trans HR.out.2.2.os, hg2.tape.trans HR.out.2.2.tape, hg2.output.trans HR.out.2.2.output, Nat.le_trans HR.out.2.2.size hg2.size, fun j hj hne => (hg2.block j (Nat.lt_of_lt_of_le hj HR.out.2.2.size) (fun e => by have := Option.some.inj e; have := LR.out; omega)).trans (HR.out.2.2.block j hj hne)⟩
          have d2 := hI5.c2
          have H5 := Lib.hid (And.intro hI5 (And.intro hg5 hrg2))
          have HRG := Lib.hid hrg
          have HML : Hid ((rest.filter fun p => !decide (p.1 = x)).length < rest.length) := Lib.hid (by exact List.length_filter_lt_length_iff_exists.2 ⟨_, hkv, by simp⟩)
          clear hkv hrg hrg2 hg2 hs2 hI5 hg5
          go_wp2_with (at_mapUpdate; refine wpList_put rfl _ _ _ 96 3 118 rfl Tryz.underlying96 Tryz.underlying3 H5.out.1.map rfl x rfl (.agg #[]) rfl ?_; intro w6 hm6 hg6; rw [put_units MV.out.1] at hm6; have M := Lib.hid (And.intro (H5.out.1.setMap hm6 hg6).1 hg6); clear hm6 hg6)
          have hr6 : Ran w6 hb R (units G) (rest.filter fun p => !decide (p.1 = x)) := H5.out.2.2.kept (M.out.2.block hb H5.out.2.2.lt.1 (fun e => by have := Option.some.inj e; have := H.out.map.lt; have := L1.out; omega)) (M.out.2.block R H5.out.2.2.lt.2 (fun e => by have := Option.some.inj e; have := LR.out; omega))
          have hg6 : w.grownBy w6 none := ⟨M.out.2.os.trans H5.out.2.1.os, M.out.2.tape.trans H5.out.2.1.tape, M.out.2.output.trans H5.out.2.1.output, Nat.le_trans H5.out.2.1.size M.out.2.size, fun j hj hne => (M.out.2.block j (Nat.lt_of_lt_of_le hj H5.out.2.1.size) (fun e => by have := Option.some.inj e; have := L1.out; omega)).trans (H5.out.2.1.block j hj hne)⟩
          have H6 := Lib.hid (And.intro hr6 hg6)
          clear hr6 hg6 d2
          go_frame
          go_roundw
          case rel => exact ⟨_, G' ++ [x], H6.out.1, MV.out.2, M.out.1, H6.out.2⟩
          case measure => rw [H6.out.1.left_eq, HRG.out.left_eq]; exact HML.out
end
end Go.Proofs.YtlhblhgbpaipaaaGreat.Tm
