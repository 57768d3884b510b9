import Derived.Test.YtlhblhgbpaipaaaGreatMgHeap2
import Derived.Test.YtlhblhgbpaipaaaGreatMgMap
import Derived.RegionTactic
import Derived.OwnWalk
import Derived.StillTailTactics
/- Timer -/
namespace Go.Proofs.YtlhblhgbpaipaaaGreat.Tm
open Go.RowKit
open Go.Proofs.YtlhblhgbpaipaaaGreat.Hp
open Go.Proofs.YtlhblhgbpaipaaaGreat.MapI
set_option linter.unusedVariables false

def units (G : List Int) : List (Int × Value) := G.map fun g => (g, Value.agg #[])

/-- Timers behind a pointer, in memory: a heap for each processor, how many were added, who has one. -/
structure IsTm (w : World) (base tb lb hb : Nat) (vs : List Value) (Hs : List (List Ent)) (order : Nat) (G : List Int) : Prop where
  tcells : w.heap[tb]? = some (.cells #[.slice (some ⟨lb, 0, none⟩) vs.length vs.length, .int .u64 order, .map (some hb)] 98 (0, 0))
  lcells : w.heap[lb]? = some (.cells vs.toArray 126 (0, 0))
  len : Hs.length = vs.length
  pos : 0 < vs.length
  top : vs.length ≤ 64
  heaps : ∀ (i : Nat) (v : Value) (es : List Ent), vs[i]? = some v → Hs[i]? = some es → IsHp w base lb i v es
  apart : ∀ (i j : Nat) (v u : Value) (g : Nat), vs[i]? = some v → vs[j]? = some u → v.ownBlock = some g → u.ownBlock = some g → i = j
  map : IsMap w hb (units G)
  low : base ≤ tb ∧ base ≤ lb ∧ base ≤ hb

/-- The same, and what holds of them. -/
structure IsT (w : World) (base tb lb hb : Nat) (vs : List Value) (Hs : List (List Ent)) (order : Nat) (G : List Int) : Prop extends IsTm w base tb lb hb vs Hs order G where
  heapish : ∀ (i : Nat) es, Hs[i]? = some es → Heapish es
  keys : (Hs.flatten.map (·.g)).Perm G
  range : ∀ g ∈ G, 0 ≤ g ∧ g < 4096
  ord : order ≤ 4611686018427387904

theorem nodup_lt (n : Nat) : ∀ (l : List Nat), l.Nodup → (∀ x ∈ l, x < n) → l.length ≤ n := by
  induction n with
  | zero => intro l _ h; cases l with
    | nil => simp
    | cons x t => have := h x (by simp); omega
  | succ n ih =>
    intro l hn h
    by_cases hm : n ∈ l
    · have h1 := ih (l.erase n) (hn.erase n) (fun x hx => by
        have := (hn.mem_erase_iff).1 hx
        have := h x this.2
        omega)
      rw [List.length_erase_of_mem hm] at h1
      omega
    · have := ih l hn (fun x hx => by
        have := h x hx
        have : x ≠ n := fun e => hm (by rw [← e]; exact hx)
        omega)
      omega

section
variable {w : World} {base tb lb hb : Nat} {vs : List Value} {Hs : List (List Ent)} {order : Nat} {G : List Int}
theorem IsTm.tlt (h : IsTm w base tb lb hb vs Hs order G) : tb < w.heap.size := (Array.getElem?_eq_some_iff.1 h.tcells).1
theorem IsTm.llt (h : IsTm w base tb lb hb vs Hs order G) : lb < w.heap.size := (Array.getElem?_eq_some_iff.1 h.lcells).1
theorem IsTm.grown {w' : World} (h : IsTm w base tb lb hb vs Hs order G) (hg : w.grownBy w' none) : IsTm w' base tb lb hb vs Hs order G :=
  ⟨(hg.block tb h.tlt (by simp)).trans h.tcells, (hg.block lb h.llt (by simp)).trans h.lcells, h.len, h.pos, h.top, fun i v es h1 h2 => (h.heaps i v es h1 h2).grown hg, h.apart, h.map.grown hg (by simp), h.low⟩
theorem IsT.grown {w' : World} (h : IsT w base tb lb hb vs Hs order G) (hg : w.grownBy w' none) : IsT w' base tb lb hb vs Hs order G :=
  ⟨h.toIsTm.grown hg, h.heapish, h.keys, h.range, h.ord⟩
theorem IsTm.c0 (h : IsTm w base tb lb hb vs Hs order G) : w.cell? ⟨tb, 0, none⟩ = some (.slice (some ⟨lb, 0, none⟩) vs.length vs.length) := cell_of_row _ _ 0 _ _ _ h.tcells
theorem IsTm.c1 (h : IsTm w base tb lb hb vs Hs order G) : w.cell? ⟨tb, 1, none⟩ = some (.int .u64 order) := cell_of_row _ _ 1 _ _ _ h.tcells
theorem IsTm.c2 (h : IsTm w base tb lb hb vs Hs order G) : w.cell? ⟨tb, 2, none⟩ = some (.map (some hb)) := cell_of_row _ _ 2 _ _ _ h.tcells
theorem IsTm.free (h : IsTm w base tb lb hb vs Hs order G) (i : Nat) : w.frozen? ⟨tb, i, none⟩ = false := frozen_of_row _ _ i _ _ h.tcells
theorem IsTm.nodup (h : IsTm w base tb lb hb vs Hs order G) : G.Nodup := by
  have := h.map.nodup
  simpa [units, Function.comp_def] using this
theorem IsT.at (h : IsT w base tb lb hb vs Hs order G) {i : Nat} (hi : i < vs.length) : ∃ v es, vs[i]? = some v ∧ Hs[i]? = some es ∧ IsHp w base lb i v es ∧ Heapish es ∧ es.length ≤ 4096 := by
  have h1 : vs[i]? = some vs[i] := List.getElem?_eq_getElem hi
  have h2 : Hs[i]? = some (Hs[i]'(by rw [h.len]; exact hi)) := List.getElem?_eq_getElem _
  refine ⟨_, _, h1, h2, h.heaps i _ _ h1 h2, h.heapish i _ h2, ?_⟩
  have hsub : (Hs[i]'(by rw [h.len]; exact hi)).length ≤ Hs.flatten.length := (List.sublist_flatten_of_mem (List.getElem_mem _)).length_le
  have hG : Hs.flatten.length = G.length := by have := h.keys.length_eq; rwa [List.length_map] at this
  have hnd : G.length ≤ 4096 := by
    have hsub2 : ∀ x ∈ G.map Int.toNat, x ∈ List.range 4096 := by
      intro x hx
      obtain ⟨g, hg, rfl⟩ := List.mem_map.1 hx
      have := h.range g hg
      exact List.mem_range.2 (by omega)
    have hnd2 : (G.map Int.toNat).Nodup := by
      rw [List.nodup_iff_pairwise_ne, List.pairwise_map]
      have := h.nodup
      rw [List.nodup_iff_pairwise_ne] at this
      refine List.Pairwise.imp_of_mem ?_ this
      intro a c ha hc hne e
      have := h.range a ha; have := h.range c hc
      omega
    have := nodup_lt 4096 _ hnd2 (fun x hx => List.mem_range.1 (hsub2 x hx))
    rwa [List.length_map] at this
  omega
end

/-- The least of all entries; none: there is none. -/
def IsMin (l : List Ent) : Option Ent → Prop
  | none => l = []
  | some e => e ∈ l ∧ ∀ x ∈ l, le e x
theorem min_ex (l : List Ent) : ∃ m, IsMin l m := by
  induction l with
  | nil => exact ⟨none, rfl⟩
  | cons x t ih =>
    obtain ⟨m, hm⟩ := ih
    cases m with
    | none => have : t = [] := hm; subst this; exact ⟨some x, by simp, fun y hy => by simp at hy; subst hy; exact le_refl _⟩
    | some e =>
      rcases le_total x e with h | h
      · refine ⟨some x, by simp, fun y hy => ?_⟩
        rcases List.mem_cons.1 hy with rfl | hy
        · exact le_refl _
        · exact le_trans h (hm.2 y hy)
      · refine ⟨some e, by simp [hm.1], fun y hy => ?_⟩
        rcases List.mem_cons.1 hy with rfl | hy
        · exact h
        · exact hm.2 y hy

theorem grown_none2 {a b c : World} (h : a.grownBy b none) (k : b.grownBy c none) : a.grownBy c none :=
  ⟨k.os.trans h.os, k.tape.trans h.tape, k.output.trans h.output, Nat.le_trans h.size k.size, fun j hj hne => (k.block j (Nat.lt_of_lt_of_le hj h.size) (by simp)).trans (h.block j hj hne)⟩

theorem box_grown {w w1 : World} {i j l : Nat} {a b c : Value} (h : w.grownBy w1 none) : w.grownBy (((w1.setCell ⟨w.heap.size, i, none⟩ a).setCell ⟨w.heap.size, j, none⟩ b).setCell ⟨w.heap.size, l, none⟩ c) none :=
  ⟨h.os, h.tape, h.output, by rw [box_size]; exact h.size, fun k hk hn => (box_other (by omega)).trans (h.block k hk hn)⟩

/-- The loop's state. -/
structure FInv (w wr : World) (Hs : List (List Ent)) (k : Nat) (r : Option Nat) (l : Ent) : Prop where
  grown : w.grownBy wr none
  var : wr.heap[w.heap.size]? = some (.cells l.cells 90 (0, 0))
  no : r = none → ∀ i, i < k → Hs[i]? = some []
  yes : ∀ j, r = some j → j < k ∧ ∃ t, Hs[j]? = some (l :: t) ∧ ∀ i, i < k → ∀ e t, Hs[i]? = some (e :: t) → le l e

theorem finv_skip {w wr wr' : World} {Hs : List (List Ent)} {k : Nat} {r : Option Nat} {l : Ent} (h : FInv w wr Hs k r l) (hg : w.grownBy wr' none) (hv : wr'.heap[w.heap.size]? = wr.heap[w.heap.size]?) (hk : Hs[k]? = some []) : FInv w wr' Hs (k + 1) r l :=
  ⟨hg, hv.trans h.var, fun hr i hi => by
    by_cases e : i = k
    · rw [e]; exact hk
    · exact h.no hr i (by omega), fun j hj => by
    obtain ⟨h1, t, h2, h3⟩ := h.yes j hj
    refine ⟨by omega, t, h2, fun i hi e t' he => ?_⟩
    by_cases e1 : i = k
    · rw [e1, hk] at he; cases he
    · exact h3 i (by omega) e t' he⟩
theorem finv_stay {w wr wr' : World} {Hs : List (List Ent)} {k j : Nat} {l x : Ent} {t : List Ent} (h : FInv w wr Hs k (some j) l) (hg : w.grownBy wr' none) (hv : wr'.heap[w.heap.size]? = wr.heap[w.heap.size]?) (hk : Hs[k]? = some (x :: t)) (ha : aheadB x l = false) : FInv w wr' Hs (k + 1) (some j) l :=
  ⟨hg, hv.trans h.var, fun hr => (by cases hr), fun j' hj => by
    obtain ⟨h1, t2, h2, h3⟩ := h.yes j' hj
    refine ⟨by omega, t2, h2, fun i hi e t' he => ?_⟩
    by_cases e1 : i = k
    · rw [e1, hk] at he; cases he; exact ha
    · exact h3 i (by omega) e t' he⟩
theorem finv_new {w wr wr' : World} {Hs : List (List Ent)} {k : Nat} {r : Option Nat} {l x : Ent} {t : List Ent} (h : FInv w wr Hs k r l) (hg : w.grownBy wr' none) (hv : wr'.heap[w.heap.size]? = some (.cells x.cells 90 (0, 0))) (hk : Hs[k]? = some (x :: t)) (ha : r ≠ none → aheadB x l = true) : FInv w wr' Hs (k + 1) (some k) x :=
  ⟨hg, hv, fun hr => (by cases hr), fun j' hj => by
    cases hj
    refine ⟨by omega, t, hk, fun i hi e t' he => ?_⟩
    by_cases e1 : i = k
    · rw [e1, hk] at he; cases he; exact le_refl _
    · cases r with
      | none => rw [h.no rfl i (by omega)] at he; cases he
      | some j =>
        obtain ⟨_, _, _, h3⟩ := h.yes j rfl
        exact le_trans (le_of_ahead (ha (by simp))) (h3 i (by omega) e t' he)⟩

set_option maxRecDepth 100000 in
set_option maxHeartbeats 2000000 in
theorem first_walk {w : World} {base tb lb hb : Nat} {vs : List Value} {Hs : List (List Ent)} {order : Nat} {G : List Int} (h : IsT w base tb lb hb vs Hs order G) :
    Calls Tryz.prog 57 #[.pointer (some ⟨tb, 0, none⟩)] w fun e w' => ∃ r l, e = .returned (.pointer (r.map fun j => ⟨lb, j, none⟩)) ∧ FInv w w' Hs vs.length r l := by
  obtain ⟨n, hn⟩ : ∃ n, n = vs.length := ⟨_, rfl⟩
  have hc0 := h.c0
  have htop := h.top
  have htlt := h.tlt
  have hllt := h.llt
  rw [← hn] at hc0 htop ⊢
  have H := Lib.hid h
  have HN := Lib.hid hn
  clear h hn
  go_enter Tryz.func57, Tryz.ntmps57
  go_wp2
  go_loopw [3, 13] (fun p q wr => ∃ (k : Nat) (r : Option Nat) (l : Ent), k ≤ n ∧ q = .int .i64 k ∧ p = .pointer (r.map fun j => ⟨lb, j, none⟩) ∧ FInv w wr Hs k r l) (fun _ q _ => n - (intOf q).toNat)
  case atStart => exact ⟨0, none, ⟨0, 0, 0⟩, Nat.zero_le _, rfl, rfl, World.grownBy_alloc _ _ _, heap_alloc_new _ _, fun _ i hi => absurd hi (by omega), fun j hj => by cases hj⟩
  case round =>
    obtain ⟨k, r, l, hk, rfl, rfl, hi⟩ := hrel
    have HI := Lib.hid hi
    have hcw : wr.cell? ⟨tb, 0, none⟩ = some (.slice (some ⟨lb, 0, none⟩) n n) := hi.grown.cell hc0 (by simp)
    have htw : tb < wr.heap.size := Nat.lt_of_lt_of_le htlt hi.grown.size
    have hlw : lb < wr.heap.size := Nat.lt_of_lt_of_le hllt hi.grown.size
    clear hi
    by_cases hlt : k < n
    · obtain ⟨v, es, hv, hes, hp, hh, hlen⟩ := H.out.at (i := k) (by rw [← HN.out]; exact hlt)
      have HP := Lib.hid (hp.grown HI.out.grown)
      have HES := Lib.hid hes
      clear hp hv hes hh
      cases es with
      | nil =>
        go_wp2_with fail
        refine (first_none HP.out).mono ?_
        rintro e w1 ⟨rfl, hg⟩
        have hg1 := Lib.hid (grown_none2 HI.out.grown hg)
        have hv1 := Lib.hid (hg.block w.heap.size (Array.getElem?_eq_some_iff.1 HI.out.var).1 (by simp))
        clear hg
        go_wp2_with fail
        go_roundw
        case rel => exact ⟨k + 1, r, l, by omega, by go_num, rfl, finv_skip HI.out (grown_none2 hg1.out (World.grownBy_alloc _ _ _)) ((heap_alloc_old _ _ (by have := hg1.out.size; have := (Array.getElem?_eq_some_iff.1 HI.out.var).1; have := hv1.out; rw [HI.out.var] at this; exact (Array.getElem?_eq_some_iff.1 this).1)).trans hv1.out) HES.out⟩
        case measure => simp [intOf]; omega
      | cons x t =>
        go_wp2_with fail
        refine (first_some HP.out (by simp at hlen; omega)).mono ?_
        rintro e w1 ⟨rfl, hg⟩
        have hg1 := Lib.hid (grown_none2 HI.out.grown hg)
        have hv1 := Lib.hid ((hg.block w.heap.size (Array.getElem?_eq_some_iff.1 HI.out.var).1 (by simp)).trans HI.out.var)
        clear hg
        have hz : w.heap.size < w1.heap.size := (Array.getElem?_eq_some_iff.1 hv1.out).1
        have z0 : w1.cell? ⟨w.heap.size, 0, none⟩ = some (.int .i64 l.w) := cell_of_row _ _ 0 _ _ _ hv1.out
        have z1 : w1.cell? ⟨w.heap.size, 1, none⟩ = some (.int .u64 l.o) := cell_of_row _ _ 1 _ _ _ hv1.out
        have z2 : w1.cell? ⟨w.heap.size, 2, none⟩ = some (.int .i64 l.g) := cell_of_row _ _ 2 _ _ _ hv1.out
        have fz : ∀ o, w1.frozen? ⟨w.heap.size, o, none⟩ = false := fun o => frozen_of_row _ _ o _ _ hv1.out
        have hcw1 : w1.cell? ⟨tb, 0, none⟩ = some (.slice (some ⟨lb, 0, none⟩) n n) := hg1.out.cell hc0 (by simp)
        have htw1 : tb < w1.heap.size := Nat.lt_of_lt_of_le htlt hg1.out.size
        clear hcw
        cases r with
        | none =>
          go_wp2_with fail
          go_region
          go_wp2_with fail
          go_roundw
          case rel =>
            refine ⟨k + 1, some k, x, by omega, by go_num, rfl, finv_new HI.out ?_ ?_ HES.out (fun e => absurd rfl e)⟩
            · refine grown_drew3 (grown_none2 (box_grown hg1.out) (World.grownBy_alloc _ _ _))
            · exact (heap_alloc_old _ _ (by simp; exact hz)).trans (box_set hv1.out x)
          case measure => simp [intOf]; omega
        | some j =>
          go_wp2_with fail
          refine (ahead_is x l _).mono ?_
          rintro e w2 ⟨rfl, hb⟩
          have hs1 : ∀ o : Obj, (w1.alloc o).heap.size = w1.heap.size + 1 := fun o => by simp
          rw [hs1] at hb
          have hX : w2.heap[w1.heap.size]? = some (.cells x.cells 90 (0, 0)) := (hb.block _ (by omega)).trans (heap_alloc_new _ _)
          have hV : w2.heap[w.heap.size]? = some (.cells l.cells 90 (0, 0)) := (hb.block _ (by omega)).trans ((heap_alloc_old _ _ hz).trans hv1.out)
          have hg2 : w.grownBy w2 none := ⟨hb.os.trans hg1.out.os, hb.tape.trans hg1.out.tape, hb.output.trans hg1.out.output, by have := hb.size; simp at this; omega, fun c hc _ => (hb.block c (by omega)).trans ((heap_alloc_old _ _ (by omega)).trans (hg1.out.block c hc (by simp)))⟩
          have HX := Lib.hid hX
          have HV := Lib.hid hV
          have HG2 := Lib.hid hg2
          clear z0 z1 z2 fz hcw1 hX hV hb hg2 hs1
          have y0 : w2.cell? ⟨w1.heap.size, 0, none⟩ = some (.int .i64 x.w) := cell_of_row _ _ 0 _ _ _ HX.out
          have y1 : w2.cell? ⟨w1.heap.size, 1, none⟩ = some (.int .u64 x.o) := cell_of_row _ _ 1 _ _ _ HX.out
          have y2 : w2.cell? ⟨w1.heap.size, 2, none⟩ = some (.int .i64 x.g) := cell_of_row _ _ 2 _ _ _ HX.out
          have z0 : w2.cell? ⟨w.heap.size, 0, none⟩ = some (.int .i64 l.w) := cell_of_row _ _ 0 _ _ _ HV.out
          have z1 : w2.cell? ⟨w.heap.size, 1, none⟩ = some (.int .u64 l.o) := cell_of_row _ _ 1 _ _ _ HV.out
          have z2 : w2.cell? ⟨w.heap.size, 2, none⟩ = some (.int .i64 l.g) := cell_of_row _ _ 2 _ _ _ HV.out
          have fz : ∀ o, w2.frozen? ⟨w.heap.size, o, none⟩ = false := fun o => frozen_of_row _ _ o _ _ HV.out
          have hcw2 : w2.cell? ⟨tb, 0, none⟩ = some (.slice (some ⟨lb, 0, none⟩) n n) := HG2.out.cell hc0 (by simp)
          by_cases ha : aheadB x l = true
          · go_wp2_with fail
            go_region
            go_wp2_with fail
            go_roundw
            case rel =>
              exact ⟨k + 1, some k, x, by omega, by go_num, rfl, finv_new HI.out (grown_drew3 (box_grown HG2.out)) (box_set HV.out x) HES.out (fun _ => ha)⟩
            case measure => simp [intOf]; omega
          · have ha' : aheadB x l = false := by simpa using ha
            clear ha
            go_wp2_with fail
            go_roundw
            case rel => exact ⟨k + 1, some j, l, by omega, by go_num, rfl, finv_stay HI.out HG2.out (HV.out.trans HI.out.var.symm) HES.out ha'⟩
            case measure => simp [intOf]; omega
    · obtain rfl : k = n := by omega
      go_wp2_with fail
      go_ret
      exact ⟨r, l, rfl, HI.out⟩
end Go.Proofs.YtlhblhgbpaipaaaGreat.Tm

/- TimerAsk -/
namespace Go.Proofs.YtlhblhgbpaipaaaGreat.Tm
open Go.RowKit
open Go.Proofs.YtlhblhgbpaipaaaGreat.Hp
open Go.Proofs.YtlhblhgbpaipaaaGreat.MapI
set_option linter.unusedVariables false

section
variable {w : World} {base tb lb hb : Nat} {vs : List Value} {Hs : List (List Ent)} {order : Nat} {G : List Int}

theorem head_all (hh : ∀ (i : Nat) es, Hs[i]? = some es → Heapish es) {l : Ent} (h : ∀ i, i < Hs.length → ∀ e t, Hs[i]? = some (e :: t) → le l e) : ∀ x ∈ Hs.flatten, le l x := by
  intro x hx
  obtain ⟨es, hes, hxe⟩ := List.mem_flatten.1 hx
  obtain ⟨i, hi, rfl⟩ := List.getElem_of_mem hes
  have h1 : Hs[i]? = some Hs[i] := List.getElem?_eq_getElem hi
  cases hc : Hs[i] with
  | nil => rw [hc] at hxe; simp at hxe
  | cons e t =>
    rw [hc] at hxe h1
    exact le_trans (h i hi e t h1) (head_least (hh i _ h1) x hxe)

theorem first_no (h : IsT w base tb lb hb vs Hs order G) (hm : Hs.flatten = []) :
    Calls Tryz.prog 57 #[.pointer (some ⟨tb, 0, none⟩)] w fun e w' => e = .returned (.pointer none) ∧ w.grownBy w' none := by
  refine (first_walk h).mono ?_
  rintro e w' ⟨r, l, rfl, hi⟩
  cases r with
  | none => exact ⟨rfl, hi.grown⟩
  | some j =>
    obtain ⟨_, t, h2, _⟩ := hi.yes j rfl
    have : l ∈ Hs.flatten := List.mem_flatten.2 ⟨_, List.mem_of_getElem? h2, by simp⟩
    rw [hm] at this; simp at this
theorem first_yes (h : IsT w base tb lb hb vs Hs order G) {x : Ent} (hm : IsMin Hs.flatten (some x)) :
    Calls Tryz.prog 57 #[.pointer (some ⟨tb, 0, none⟩)] w fun e w' => ∃ j t, e = .returned (.pointer (some ⟨lb, j, none⟩)) ∧ Hs[j]? = some (x :: t) ∧ w.grownBy w' none := by
  refine (first_walk h).mono ?_
  rintro e w' ⟨r, l, rfl, hi⟩
  cases r with
  | none =>
    obtain ⟨es, hes, hxe⟩ := List.mem_flatten.1 hm.1
    obtain ⟨i, hi2, rfl⟩ := List.getElem_of_mem hes
    have := hi.no rfl i (by rw [← h.len]; exact hi2)
    rw [List.getElem?_eq_getElem hi2] at this
    rw [Option.some.inj this] at hxe; simp at hxe
  | some j =>
    obtain ⟨_, t, h2, h3⟩ := hi.yes j rfl
    have hl : l ∈ Hs.flatten := List.mem_flatten.2 ⟨_, List.mem_of_getElem? h2, by simp⟩
    have hle := head_all h.heapish (fun i hi2 e t he => h3 i (by rw [← h.len]; exact hi2) e t he)
    have : l = x := le_anti (hle x hm.1) (hm.2 l hl)
    subst this
    exact ⟨j, t, rfl, h2, hi.grown⟩

set_option maxHeartbeats 1000000 in
theorem next_no (h : IsT w base tb lb hb vs Hs order G) (hm : Hs.flatten = []) :
    Calls Tryz.prog 40 #[.pointer (some ⟨tb, 0, none⟩)] w fun e w' => e = .returned (.tuple #[.int .i64 0, .bool false]) ∧ w.grownBy w' none := by
  have H := Lib.hid h
  have HM := Lib.hid hm
  clear h hm
  go_enter Tryz.func40, Tryz.ntmps40
  go_wp2_with fail
  refine (first_no H.out HM.out).mono ?_
  rintro e w1 ⟨rfl, hg⟩
  have HG := Lib.hid hg
  clear hg
  go_wp2_with fail
  go_ret2
  exact ⟨rfl, HG.out⟩

set_option maxHeartbeats 1000000 in
theorem next_yes (h : IsT w base tb lb hb vs Hs order G) {x : Ent} (hm : IsMin Hs.flatten (some x)) :
    Calls Tryz.prog 40 #[.pointer (some ⟨tb, 0, none⟩)] w fun e w' => e = .returned (.tuple #[.int .i64 x.w, .bool true]) ∧ w.grownBy w' none := by
  have H := Lib.hid h
  have HM := Lib.hid hm
  clear h hm
  go_enter Tryz.func40, Tryz.ntmps40
  go_wp2_with fail
  refine (first_yes H.out HM.out).mono ?_
  rintro e w1 ⟨j, t, rfl, hj, hg⟩
  have hjl : j < vs.length := by rw [← H.out.len]; exact (List.getElem?_eq_some_iff.1 hj).1
  obtain ⟨v, es, hv, hes, hp, hh, hlen⟩ := H.out.at hjl
  rw [hj] at hes
  cases hes
  have HP := Lib.hid (hp.grown hg)
  have HG := Lib.hid hg
  have hl := Lib.hid (show t.length ≤ 1000000 by simp at hlen; omega)
  clear hg hp hv hh hlen hj
  go_wp2_with fail
  refine (first_some HP.out hl.out).mono ?_
  rintro e w2 ⟨rfl, hg⟩
  have HG2 := Lib.hid (grown_none2 HG.out hg)
  clear hg
  go_wp2_with fail
  go_ret2
  exact ⟨rfl, grown_none2 HG2.out (World.grownBy_alloc _ _ _)⟩

/-- Is the least one due? -/
def dueB (m : Option Ent) (now : Int) : Bool := match m with | none => false | some x => decide (x.w ≤ now)

set_option maxHeartbeats 1000000 in
theorem due_is (h : IsT w base tb lb hb vs Hs order G) {m : Option Ent} (hm : IsMin Hs.flatten m) (now : Int) :
    Calls Tryz.prog 31 #[.pointer (some ⟨tb, 0, none⟩), .int .i64 now] w fun e w' => e = .returned (.bool (dueB m now)) ∧ w.grownBy w' none := by
  have H := Lib.hid h
  cases m with
  | none =>
    have HM := Lib.hid (show Hs.flatten = [] from hm)
    clear h hm
    go_enter Tryz.func31, Tryz.ntmps31
    go_wp2_with fail
    refine (next_no H.out HM.out).mono ?_
    rintro e w1 ⟨rfl, hg⟩
    have HG := Lib.hid hg
    clear hg
    go_wp2_with fail
    go_ret
    exact ⟨rfl, HG.out⟩
  | some x =>
    have HM := Lib.hid hm
    clear h hm
    go_enter Tryz.func31, Tryz.ntmps31
    go_wp2_with fail
    refine (next_yes H.out HM.out).mono ?_
    rintro e w1 ⟨rfl, hg⟩
    have HG := Lib.hid hg
    clear hg
    go_wp2_with fail
    go_ret
    exact ⟨rfl, HG.out⟩

theorem units_keys (G : List Int) : (units G).map (·.1) = G := by simp [units, Function.comp_def]
theorem look_units {G : List Int} (hn : G.Nodup) (g : Int) : (MapI.look (units G) g).isSome = decide (g ∈ G) ∧ (MapI.look (units G) g).getD (.agg #[]) = .agg #[] := by
  by_cases h : g ∈ G
  · have e : MapI.look (units G) g = some (.agg #[]) := MapI.look_mem (by rw [units_keys]; exact hn) (List.mem_map.2 ⟨g, h, rfl⟩)
    rw [e]
    simp [h]
  · have : MapI.look (units G) g = none := by
      unfold MapI.look
      rw [List.find?_eq_none.2]
      · rfl
      · intro p hp; simp; rintro rfl; exact h (by rw [← units_keys G]; exact List.mem_map.2 ⟨p, hp, rfl⟩)
    rw [this]; simp [h]
theorem zeroU (w : World) : (zeroValue 118).run Tryz.prog w = .ok (.agg #[]) w := by kernel_rfl

/-- _, is := m[k], at the operation. -/
theorem wpList_look_ok {P : Program} {ops : Array Oper} {rest : List Oper} {o : Oper} {a : Act} {w : World} {Q : Exit → Act → World → Prop} (hg : o.guard = none) (m x : Operand) (t kt et : TypeId) (hop : o.op = .lookup t m x true) (ht : P.underlying t = some (.map kt et)) (hk : P.underlying kt = some (.int .i64))
    {b : Nat} {l : List (Int × Value)} (h : IsMap w b l) (hm : a.eval m = .map (some b)) (k : Int) (hx : a.eval x = ki k) {z : Value} (hz : (zeroValue et).run P w = .ok z w) (v : Value) (hv : (MapI.look l k).getD z = v) (is : Bool) (hs : (MapI.look l k).isSome = is)
    (hK : wpList P ops Q rest (a.put o.dst (.tuple #[v, .bool is])) w) : wpList P ops Q (o :: rest) a w := by
  refine wpList_plain hg fun K' hK' => ?_
  have hrun := run_look h ht hk k hz true
  simp only [if_true, hv, hs] at hrun
  unfold Oper.wp
  simp [execOp, hop, hm, hx, hrun, Result.andThen]
  exact hK' _ _ hK

set_option maxHeartbeats 1000000 in
theorem has_is (h : IsT w base tb lb hb vs Hs order G) (g : Int) :
    Calls Tryz.prog 36 #[.pointer (some ⟨tb, 0, none⟩), .int .i64 g] w fun e w' => e = .returned (.bool (decide (g ∈ G))) ∧ w.grownBy w' none := by
  have c2 := h.c2
  have HM := Lib.hid h.map
  have HL := Lib.hid (look_units h.nodup g)
  clear h
  go_enter Tryz.func36, Tryz.ntmps36
  go_wp2_with (at_lookup; refine wpList_look_ok rfl _ _ 96 3 118 rfl Tryz.underlying96 Tryz.underlying3 HM.out rfl g rfl (zeroU _) (.agg #[]) HL.out.2 (decide (g ∈ G)) HL.out.1 ?_)
  go_ret
  exact ⟨rfl, World.grownBy_alloc _ _ _⟩

theorem tlen_is (h : IsT w base tb lb hb vs Hs order G) :
    Calls Tryz.prog 35 #[.pointer (some ⟨tb, 0, none⟩)] w fun e w' => e = .returned (.int .i64 G.length) ∧ w = w' := by
  have c2 := h.c2
  have hln : ∀ ty, (Builtin.len_ #[96] ty #[.map (some hb)]).run Tryz.prog w = .ok (.int .i64 G.length) w := fun ty => by
    have := run_len h.map Tryz.underlying96 _ ty rfl
    rwa [show (units G).length = G.length by simp [units]] at this
  clear h
  go_enter Tryz.func35, Tryz.ntmps35
  go_wp2
  go_ret
  exact ⟨rfl, rfl⟩
end
end Go.Proofs.YtlhblhgbpaipaaaGreat.Tm

/- TimerDo -/
namespace Go.Proofs.YtlhblhgbpaipaaaGreat.Tm
open Go.RowKit
open Go.Proofs.YtlhblhgbpaipaaaGreat.Hp
open Go.Proofs.YtlhblhgbpaipaaaGreat.MapI
set_option linter.unusedVariables false

/-- What a deed at the timers may change. -/
structure TFr (w w' : World) (tb lb hb : Nat) (vs vs' : List Value) : Prop where
  os : w'.os = w.os
  tape : w'.tape = w.tape
  output : w'.output = w.output
  size : w.heap.size ≤ w'.heap.size
  block : ∀ k, k < w.heap.size → k ≠ tb → k ≠ lb → k ≠ hb → (∀ v ∈ vs, v.ownBlock ≠ some k) → w'.heap[k]? = w.heap[k]?
  own : ∀ v' ∈ vs', ∀ g, v'.ownBlock = some g → (∃ v ∈ vs, v.ownBlock = some g) ∨ w.heap.size ≤ g
theorem tfr_none {w w' : World} {tb lb hb : Nat} {vs : List Value} (h : w.grownBy w' none) : TFr w w' tb lb hb vs vs :=
  ⟨h.os, h.tape, h.output, h.size, fun k hk _ _ _ _ => h.block k hk (by simp), fun v hv g hg => .inl ⟨v, hv, hg⟩⟩
theorem TFr.trans {a b c : World} {tb lb hb : Nat} {vs vs' vs'' : List Value} (h : TFr a b tb lb hb vs vs') (k : TFr b c tb lb hb vs' vs'') : TFr a c tb lb hb vs vs'' :=
  ⟨k.os.trans h.os, k.tape.trans h.tape, k.output.trans h.output, Nat.le_trans h.size k.size, fun j hj h1 h2 h3 h4 => (k.block j (Nat.lt_of_lt_of_le hj h.size) h1 h2 h3 (fun v hv e => by
      rcases h.own v hv j e with ⟨u, hu, hu2⟩ | h5
      · exact h4 u hu hu2
      · omega)).trans (h.block j hj h1 h2 h3 h4), fun v hv g hg => by
      rcases k.own v hv g hg with ⟨u, hu, hu2⟩ | h5
      · exact h.own u hu g hu2
      · exact .inr (Nat.le_trans h.size h5)⟩

section
variable {w : World} {base tb lb hb : Nat} {vs : List Value} {Hs : List (List Ent)} {order : Nat} {G : List Int}

theorem IsTm.own (h : IsTm w base tb lb hb vs Hs order G) {v : Value} (hv : v ∈ vs) {g : Nat} (hg : v.ownBlock = some g) : g < w.heap.size ∧ base ≤ g ∧ g ≠ lb ∧ g ≠ tb ∧ g ≠ hb := by
  obtain ⟨i, hi, rfl⟩ := List.getElem_of_mem hv
  have hp := h.heaps i _ _ (List.getElem?_eq_getElem hi) (List.getElem?_eq_getElem (by rw [h.len]; exact hi))
  obtain ⟨h1, h2, h3⟩ := hp.ownlt g hg
  have hc : ∃ cur, w.heap[g]? = some (.cells cur 90 (0, 0)) := by
    rcases hp.row with ⟨e, _⟩ | ⟨g', cap, e, r, _⟩
    · rw [e] at hg; simp [Value.ownBlock] at hg
    · rw [e] at hg; simp [Value.ownBlock] at hg; subst hg
      obtain ⟨cur, hc, _⟩ := r.blk
      exact ⟨cur, hc⟩
  obtain ⟨cur, hc⟩ := hc
  refine ⟨h1, h3, h2, ?_, ?_⟩
  · rintro rfl
    rw [h.tcells] at hc
    simp at hc
  · rintro rfl
    obtain ⟨es, ck, hm, _⟩ := h.map
    rw [hm] at hc; cases hc
theorem IsTm.ne (h : IsTm w base tb lb hb vs Hs order G) : tb ≠ lb ∧ tb ≠ hb ∧ lb ≠ hb := by
  obtain ⟨es, ck, hm, _⟩ := h.map
  refine ⟨?_, ?_, ?_⟩
  · rintro rfl
    have := h.tcells; rw [h.lcells] at this; simp at this
  · rintro rfl
    have := h.tcells; rw [hm] at this; cases this
  · rintro rfl
    have := h.lcells; rw [hm] at this; cases this
theorem TFr.below {w' : World} {vs' : List Value} {B : Nat} (f : TFr w w' tb lb hb vs vs') (h : IsTm w base tb lb hb vs Hs order G) (hB : B ≤ base) (hw : base ≤ w.heap.size) : Below B w w' :=
  ⟨f.os, f.tape, f.output, f.size, fun k hk => f.block k (by omega) (by have := h.low; omega) (by have := h.low; omega) (by have := h.low; omega) (fun v hv e => by have := (h.own hv e).2.1; omega)⟩

/-- One heap has changed. -/
theorem IsTm.upd (h : IsTm w base tb lb hb vs Hs order G) {p : Nat} {v v' : Value} {es' : List Ent} (hv : vs[p]? = some v) {w2 : World} (hp : IsHp w2 base lb p v' es') (hf : HFr w w2 lb p v v') :
    IsTm w2 base tb lb hb (vs.set p v') (Hs.set p es') order G ∧ TFr w w2 tb lb hb vs (vs.set p v') := by
  have hmem : v ∈ vs := List.mem_of_getElem? hv
  have hpl : p < vs.length := (List.getElem?_eq_some_iff.1 hv).1
  obtain ⟨n1, n2, n3⟩ := h.ne
  have hvt : v.ownBlock ≠ some tb := fun e => (h.own hmem e).2.2.2.1 rfl
  have hvh : v.ownBlock ≠ some hb := fun e => (h.own hmem e).2.2.2.2 rfl
  have hhlt : hb < w.heap.size := h.map.lt
  have ht : w2.heap[tb]? = w.heap[tb]? := hf.block tb h.tlt n1 hvt
  have hl : w2.heap[lb]? = some (.cells (vs.set p v').toArray 126 (0, 0)) := by
    rw [hf.at_, heap_setCell_same _ lb p _ _ _ h.lcells]
    simp
  refine ⟨⟨?_, hl, ?_, ?_, ?_, ?_, ?_, h.map.heap (hf.block hb hhlt (fun e => n3 e.symm) hvh), h.low⟩, ⟨hf.os, hf.tape, hf.output, hf.size, fun k hk h1 h2 h3 h4 => hf.block k hk h2 (h4 v hmem), ?_⟩⟩
  · rw [ht, h.tcells]; simp
  · simp [h.len]
  · simpa using h.pos
  · simpa using h.top
  · intro i u es hu hes
    by_cases hip : p = i
    · subst hip
      rw [List.getElem?_set_self hpl] at hu
      rw [List.getElem?_set_self (by rw [h.len]; exact hpl)] at hes
      cases hu; cases hes
      exact hp
    · rw [List.getElem?_set_ne hip] at hu hes
      have ho := h.heaps i u es hu hes
      have hil : i < vs.length := (List.getElem?_eq_some_iff.1 hu).1
      refine ⟨?_, frozen_of_row _ _ i _ _ hl, ?_⟩
      · rw [cell_of_row _ _ i _ _ _ hl]
        simp [List.getElem?_set_ne hip, hu]
      · rcases ho.row with r | ⟨g, cap, e, r, hgl, hgb⟩
        · exact .inl r
        · refine .inr ⟨g, cap, e, r.heap (hf.block g r.lt hgl (fun e2 => ?_)), hgl, hgb⟩
          exact hip (h.apart p i v u g hv hu e2 (by rw [e]; rfl))
  · intro i j a c g ha hc hag hcg
    have key : ∀ (i : Nat) (a : Value), i ≠ p → (vs.set p v')[i]? = some a → vs[i]? = some a := fun i a hi h => by rwa [List.getElem?_set_ne (fun e => hi e.symm)] at h
    have kp : ∀ (a : Value), (vs.set p v')[p]? = some a → a = v' := fun a h => by rw [List.getElem?_set_self hpl] at h; exact (Option.some.inj h).symm
    by_cases hi : i = p
    · by_cases hj : j = p
      · rw [hi, hj]
      · subst hi
        have ea := kp a ha; subst ea
        have hc' := key j c hj hc
        rcases hf.own with h1 | h1
        · exact h.apart i j v c g hv hc' (by rw [← h1]; exact hag) hcg
        · have := h1 g hag
          have := (h.own (List.mem_of_getElem? hc') hcg).1
          omega
    · have ha' := key i a hi ha
      by_cases hj : j = p
      · subst hj
        have ec := kp c hc; subst ec
        rcases hf.own with h1 | h1
        · exact h.apart i j a v g ha' hv hag (by rw [← h1]; exact hcg)
        · have := h1 g hcg
          have := (h.own (List.mem_of_getElem? ha') hag).1
          omega
      · exact h.apart i j a c g ha' (key j c hj hc) hag hcg
  · intro u hu g hg
    obtain ⟨i, hi, rfl⟩ := List.getElem_of_mem hu
    by_cases hip : p = i
    · subst hip
      rw [List.getElem_set_self] at hg
      rcases hf.own with h1 | h1
      · exact .inl ⟨v, hmem, by rw [← h1]; exact hg⟩
      · exact .inr (h1 g hg)
    · rw [List.getElem_set_ne hip] at hg
      exact .inl ⟨_, List.getElem_mem _, hg⟩
/-- The number of adds has changed. -/
theorem IsTm.setOrder (h : IsTm w base tb lb hb vs Hs order G) (q : Nat) : IsTm (w.setCell ⟨tb, 1, none⟩ (.int .u64 q)) base tb lb hb vs Hs q G ∧ TFr w (w.setCell ⟨tb, 1, none⟩ (.int .u64 q)) tb lb hb vs vs := by
  obtain ⟨n1, n2, n3⟩ := h.ne
  have ho : ∀ k, k ≠ tb → (w.setCell ⟨tb, 1, none⟩ (.int .u64 q)).heap[k]? = w.heap[k]? := fun k hk => heap_setCell_other _ _ _ _ hk
  refine ⟨⟨heap_setCell_same _ tb 1 _ _ _ h.tcells, (ho lb (fun e => n1 e.symm)).trans h.lcells, h.len, h.pos, h.top, fun i v es h1 h2 => (h.heaps i v es h1 h2).heap (ho lb (fun e => n1 e.symm)) (fun g hg => ho g (h.own (List.mem_of_getElem? h1) hg).2.2.2.1), h.apart, h.map.heap (ho hb (fun e => n2 e.symm)), h.low⟩, ⟨rfl, rfl, rfl, by simp, fun k hk h1 _ _ _ => ho k h1, fun v hv g hg => .inl ⟨v, hv, hg⟩⟩⟩
/-- The map has changed. -/
theorem IsTm.setMap (h : IsTm w base tb lb hb vs Hs order G) {w' : World} {G' : List Int} (hm : IsMap w' hb (units G')) (hg : w.grownBy w' (some hb)) : IsTm w' base tb lb hb vs Hs order G' ∧ TFr w w' tb lb hb vs vs := by
  obtain ⟨n1, n2, n3⟩ := h.ne
  have ho : ∀ k, k < w.heap.size → k ≠ hb → w'.heap[k]? = w.heap[k]? := fun k hk hk2 => hg.block k hk (fun e => hk2 (Option.some.inj e))
  refine ⟨⟨(ho tb h.tlt n2).trans h.tcells, (ho lb h.llt n3).trans h.lcells, h.len, h.pos, h.top, fun i v es h1 h2 => (h.heaps i v es h1 h2).heap (ho lb h.llt n3) (fun g hg => ho g (h.own (List.mem_of_getElem? h1) hg).1 (h.own (List.mem_of_getElem? h1) hg).2.2.2.2), h.apart, hm, h.low⟩, ⟨hg.os, hg.tape, hg.output, hg.size, fun k hk _ _ h3 _ => ho k hk h3, fun v hv g hg => .inl ⟨v, hv, hg⟩⟩⟩

theorem put_units {G : List Int} {g : Int} (h : g ∉ G) : MapI.put (units G) g (.agg #[]) = units (G ++ [g]) := by
  unfold MapI.put
  rw [if_neg (by rw [units_keys]; exact h)]
  simp [units]

set_option maxHeartbeats 1000000 in
theorem add_arg (h : IsTm w base tb lb hb vs Hs order G) (p g when : Int) (hbad : p < 0 ∨ (vs.length : Int) ≤ p ∨ g < 0 ∨ 4096 ≤ g) :
    Calls Tryz.prog 42 #[.pointer (some ⟨tb, 0, none⟩), .int .i64 p, .int .i64 g, .int .i64 when] w fun e w' => e = .returned (.int .i64 1) ∧ w = w' := by
  obtain ⟨n, hn⟩ : ∃ n, n = vs.length := ⟨_, rfl⟩
  have c0 := h.c0
  have ht := h.top
  rw [← hn] at c0 ht hbad
  clear h hn
  by_cases h1 : p < 0
  · go_enter Tryz.func42, Tryz.ntmps42
    go_wp2
    go_ret
    exact ⟨rfl, rfl⟩
  · by_cases h2 : (n : Int) ≤ p
    · go_enter Tryz.func42, Tryz.ntmps42
      go_wp2
      go_ret
      exact ⟨rfl, rfl⟩
    · by_cases h3 : g < 0
      · go_enter Tryz.func42, Tryz.ntmps42
        go_wp2
        go_ret
        exact ⟨rfl, rfl⟩
      · have h4 : 4096 ≤ g := by omega
        go_enter Tryz.func42, Tryz.ntmps42
        go_wp2
        go_ret
        exact ⟨rfl, rfl⟩

set_option maxHeartbeats 1000000 in
theorem add_same (h : IsT w base tb lb hb vs Hs order G) (p g when : Int) (h1 : 0 ≤ p) (h2 : p < vs.length) (h3 : 0 ≤ g) (h4 : g < 4096) (hg : g ∈ G) :
    Calls Tryz.prog 42 #[.pointer (some ⟨tb, 0, none⟩), .int .i64 p, .int .i64 g, .int .i64 when] w fun e w' => e = .returned (.int .i64 8) ∧ w.grownBy w' none := by
  obtain ⟨n, hn⟩ : ∃ n, n = vs.length := ⟨_, rfl⟩
  have c0 := h.c0
  have ht := h.top
  have H := Lib.hid h
  have hd : decide (g ∈ G) = true := by simpa using hg
  rw [← hn] at c0 ht h2
  clear h hn hg
  go_enter Tryz.func42, Tryz.ntmps42
  go_wp2_with fail
  refine (has_is H.out g).mono ?_
  rintro e w1 ⟨rfl, hg⟩
  have HG := Lib.hid hg
  clear hg
  go_wp2_with fail
  go_ret
  exact ⟨rfl, HG.out⟩

set_option maxRecDepth 100000 in
set_option maxHeartbeats 2000000 in
theorem add_ok (h : IsT w base tb lb hb vs Hs order G) (hbase : base ≤ w.heap.size) (p : Nat) (g when : Int) (h2 : p < vs.length) (h3 : 0 ≤ g) (h4 : g < 4096) (hg : g ∉ G) (hord : order < 4611686018427387904) :
    Calls Tryz.prog 42 #[.pointer (some ⟨tb, 0, none⟩), .int .i64 p, .int .i64 g, .int .i64 when] w fun e w' => ∃ v' es es', e = .returned (.int .i64 0) ∧ Hs[p]? = some es ∧ es'.Perm (⟨when, order, g⟩ :: es) ∧ IsT w' base tb lb hb (vs.set p v') (Hs.set p es') (order + 1) (G ++ [g]) ∧ TFr w w' tb lb hb vs (vs.set p v') := by
  obtain ⟨n, hn⟩ : ∃ n, n = vs.length := ⟨_, rfl⟩
  have H := Lib.hid h
  have HN := Lib.hid hn
  have HNG := Lib.hid hg
  have c0 := h.c0
  have ht := h.top
  have hd : decide (g ∈ G) = false := by simpa using hg
  have hw1 : IntKind.u64.wrap ((order : Int) + 1) = ((order + 1 : Nat) : Int) := by rw [IntKind.wrap_u64]; omega
  rw [← hn] at c0 ht h2
  clear h hn hg
  go_enter Tryz.func42, Tryz.ntmps42
  go_wp2_with fail
  refine (has_is H.out g).mono ?_
  rintro e w1 ⟨rfl, hg⟩
  have HG := Lib.hid hg
  have H1 := Lib.hid (H.out.grown hg)
  have d0 : w1.cell? ⟨tb, 0, none⟩ = some (.slice (some ⟨lb, 0, none⟩) n n) := by rw [HN.out]; exact H1.out.c0
  have d1 := H1.out.c1
  obtain ⟨v, es, hv, hes, hp, hh, hlen⟩ := H1.out.at (i := p) (by rw [← HN.out]; exact h2)
  have HV := Lib.hid (And.intro hv hes)
  have HP := Lib.hid hp
  have HH := Lib.hid (And.intro hh hlen)
  have hb1 := Lib.hid (Nat.le_trans hbase hg.size)
  clear hg c0 hv hes hp hh hlen
  go_wp2_with fail
  refine wp_region_still_tail 13 (by kernel_rfl) (by kernel_rfl) ?_
  simp only [List.take_succ_cons, List.take_zero, List.drop_succ_cons, List.drop_zero]
  change wpStill _ _ w1.drew _ _ _
  repeat still_step
  refine wpStill_nil ?_
  go_wp2_with fail
  have hdr : w1.grownBy w1.drew none := ⟨rfl, rfl, rfl, Nat.le_refl _, fun _ _ _ => rfl⟩
  refine (put_is (HP.out.grown hdr) hb1.out (by have := HH.out.2; omega) ⟨when, order, g⟩).mono ?_
  rintro e w2 ⟨v', rfl, hp2, hf⟩
  have hlaw := put_law HH.out.1 ⟨when, order, g⟩
  generalize upL (es ++ [(⟨when, order, g⟩ : Ent)]) es.length = es' at *
  have U := Lib.hid (H1.out.toIsTm.upd HV.out.1 hp2 (HFr.pre hdr HP.out.lt hf))
  have d1 := U.out.1.c1
  have d2 := U.out.1.c2
  have hfr := U.out.1.free
  have O := Lib.hid (U.out.1.setOrder (order + 1))
  have HL := Lib.hid hlaw
  clear hp2 hf hlaw d0 hdr
  go_wp2_with (at_mapUpdate; refine wpList_put rfl _ _ _ 96 3 118 rfl Tryz.underlying96 Tryz.underlying3 O.out.1.map rfl g rfl (.agg #[]) rfl ?_; intro w4 hm4 hg4; rw [put_units HNG.out] at hm4; have M := Lib.hid (O.out.1.setMap hm4 hg4); clear hm4 hg4)
  go_ret
  have hpl : p < Hs.length := by rw [H.out.len, ← HN.out]; exact h2
  obtain ⟨A, C, hAC⟩ : ∃ A C, Hs = A ++ es :: C ∧ A.length = p := by
    refine ⟨Hs.take p, Hs.drop (p + 1), ?_, by rw [List.length_take]; omega⟩
    have := (List.getElem?_eq_some_iff.1 HV.out.2).2
    rw [← this, List.getElem_cons_drop hpl, List.take_append_drop]
  have hset : Hs.set p es' = A ++ es' :: C := by
    rw [hAC.1, ← hAC.2, List.set_append_right _ _ (Nat.le_refl _)]; simp
  refine ⟨v', es, es', rfl, HV.out.2, HL.out.1, ⟨M.out.1, ?_, ?_, ?_, by omega⟩, (tfr_none HG.out).trans (U.out.2.trans (O.out.2.trans M.out.2))⟩
  · intro i fs hfs
    by_cases hip : p = i
    · subst hip
      rw [List.getElem?_set_self hpl] at hfs
      cases hfs; exact HL.out.2
    · rw [List.getElem?_set_ne hip] at hfs
      exact H.out.heapish i fs hfs
  · have hk := H.out.keys
    rw [hAC.1] at hk
    rw [hset]
    simp only [List.flatten_append, List.flatten_cons, List.map_append] at hk ⊢
    have h1 := HL.out.1.map (·.g)
    rw [List.perm_iff_count] at *
    intro a
    have := hk a; have := h1 a
    simp only [List.count_append, List.map_cons, List.count_cons, List.count_nil] at *
    omega
  · intro y hy
    rcases List.mem_append.1 hy with hy | hy
    · exact H.out.range y hy
    · simp at hy; subst hy; exact ⟨h3, h4⟩
end
end Go.Proofs.YtlhblhgbpaipaaaGreat.Tm
