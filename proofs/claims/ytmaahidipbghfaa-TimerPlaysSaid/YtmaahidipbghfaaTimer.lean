/-
  Package timer: timers behind a pointer; first.
-/
import Derived.Test.YtmaahidipbghfaaHeapEql
import Derived.Test.YtmaahidipbghfaaMapI
import Derived.RegionTactic
namespace Go.Proofs.Ytmaahidipbghfaa.Tm
open Go.RowKit
open Go.Proofs.Ytmaahidipbghfaa.Hp
open Go.Proofs.Ytmaahidipbghfaa.MapI
set_option linter.unusedVariables false

def units (G : List Int) : List (Int × Value) := G.map fun g => (g, Value.agg #[])

/-- Timers behind a pointer, in memory: a heap for each processor, how many were added, who has one. -/
structure IsTm (w : World) (base tb lb hb : Nat) (vs : List Value) (Hs : List (List Ent)) (order : Nat) (G : List Int) : Prop where
  tcells : w.heap[tb]? = some (.cells #[.slice (some ⟨lb, 0, none⟩) vs.length vs.length, .int .u64 order, .map (some hb)] 66 (0, 0))
  lcells : w.heap[lb]? = some (.cells vs.toArray 68 (0, 0))
  len : Hs.length = vs.length
  pos : 0 < vs.length
  top : vs.length ≤ 64
  heaps : ∀ (i : Nat) (v : Value) (es : List Ent), vs[i]? = some v → Hs[i]? = some es → IsHp w base lb i v es
  apart : ∀ (i j : Nat) (v u : Value) (g : Nat), vs[i]? = some v → vs[j]? = some u → v.ownBlock = some g → u.ownBlock = some g → i = j
  map : IsMap w hb (units G)
  low : base ≤ tb ∧ base ≤ lb ∧ base ≤ hb

/-- The same, and what holds of them. -/
structure IsT (w : World) (base tb lb hb : Nat) (vs : List Value) (Hs : List (List Ent)) (order : Nat) (G : List Int) : Prop extends IsTm w base tb lb hb vs Hs order G where
  heapish : ∀ (i : Nat) es, Hs[i]? = some es → Heapish es
  keys : (Hs.flatten.map (·.g)).Perm G
  range : ∀ g ∈ G, 0 ≤ g ∧ g < 4096
  ord : order ≤ 4611686018427387904

theorem nodup_lt (n : Nat) : ∀ (l : List Nat), l.Nodup → (∀ x ∈ l, x < n) → l.length ≤ n := by
  induction n with
  | zero => intro l _ h; cases l with
    | nil => simp
    | cons x t => have := h x (by simp); omega
  | succ n ih =>
    intro l hn h
    by_cases hm : n ∈ l
    · have h1 := ih (l.erase n) (hn.erase n) (fun x hx => by
        have := (hn.mem_erase_iff).1 hx
        have := h x this.2
        omega)
      rw [List.length_erase_of_mem hm] at h1
      omega
    · have := ih l hn (fun x hx => by
        have := h x hx
        have : x ≠ n := fun e => hm (by rw [← e]; exact hx)
        omega)
      omega

section
variable {w : World} {base tb lb hb : Nat} {vs : List Value} {Hs : List (List Ent)} {order : Nat} {G : List Int}
theorem IsTm.tlt (h : IsTm w base tb lb hb vs Hs order G) : tb < w.heap.size := (Array.getElem?_eq_some_iff.1 h.tcells).1
theorem IsTm.llt (h : IsTm w base tb lb hb vs Hs order G) : lb < w.heap.size := (Array.getElem?_eq_some_iff.1 h.lcells).1
theorem IsTm.grown {w' : World} (h : IsTm w base tb lb hb vs Hs order G) (hg : w.grownBy w' none) : IsTm w' base tb lb hb vs Hs order G :=
  ⟨(hg.block tb h.tlt (by simp)).trans h.tcells, (hg.block lb h.llt (by simp)).trans h.lcells, h.len, h.pos, h.top, fun i v es h1 h2 => (h.heaps i v es h1 h2).grown hg, h.apart, h.map.grown hg (by simp), h.low⟩
theorem IsT.grown {w' : World} (h : IsT w base tb lb hb vs Hs order G) (hg : w.grownBy w' none) : IsT w' base tb lb hb vs Hs order G :=
  ⟨h.toIsTm.grown hg, h.heapish, h.keys, h.range, h.ord⟩
theorem IsTm.c0 (h : IsTm w base tb lb hb vs Hs order G) : w.cell? ⟨tb, 0, none⟩ = some (.slice (some ⟨lb, 0, none⟩) vs.length vs.length) := cell_of_row _ _ 0 _ _ _ h.tcells
theorem IsTm.c1 (h : IsTm w base tb lb hb vs Hs order G) : w.cell? ⟨tb, 1, none⟩ = some (.int .u64 order) := cell_of_row _ _ 1 _ _ _ h.tcells
theorem IsTm.c2 (h : IsTm w base tb lb hb vs Hs order G) : w.cell? ⟨tb, 2, none⟩ = some (.map (some hb)) := cell_of_row _ _ 2 _ _ _ h.tcells
theorem IsTm.free (h : IsTm w base tb lb hb vs Hs order G) (i : Nat) : w.frozen? ⟨tb, i, none⟩ = false := frozen_of_row _ _ i _ _ h.tcells
theorem IsTm.nodup (h : IsTm w base tb lb hb vs Hs order G) : G.Nodup := by
  have := h.map.nodup
  simpa [units, Function.comp_def] using this
theorem IsT.at (h : IsT w base tb lb hb vs Hs order G) {i : Nat} (hi : i < vs.length) : ∃ v es, vs[i]? = some v ∧ Hs[i]? = some es ∧ IsHp w base lb i v es ∧ Heapish es ∧ es.length ≤ 4096 := by
  have h1 : vs[i]? = some vs[i] := List.getElem?_eq_getElem hi
  have h2 : Hs[i]? = some (Hs[i]'(by rw [h.len]; exact hi)) := List.getElem?_eq_getElem _
  refine ⟨_, _, h1, h2, h.heaps i _ _ h1 h2, h.heapish i _ h2, ?_⟩
  have hsub : (Hs[i]'(by rw [h.len]; exact hi)).length ≤ Hs.flatten.length := (List.sublist_flatten_of_mem (List.getElem_mem _)).length_le
  have hG : Hs.flatten.length = G.length := by have := h.keys.length_eq; rwa [List.length_map] at this
  have hnd : G.length ≤ 4096 := by
    have hsub2 : ∀ x ∈ G.map Int.toNat, x ∈ List.range 4096 := by
      intro x hx
      obtain ⟨g, hg, rfl⟩ := List.mem_map.1 hx
      have := h.range g hg
      exact List.mem_range.2 (by omega)
    have hnd2 : (G.map Int.toNat).Nodup := by
      rw [List.nodup_iff_pairwise_ne, List.pairwise_map]
      have := h.nodup
      rw [List.nodup_iff_pairwise_ne] at this
      refine List.Pairwise.imp_of_mem ?_ this
      intro a c ha hc hne e
      have := h.range a ha; have := h.range c hc
      omega
    have := nodup_lt 4096 _ hnd2 (fun x hx => List.mem_range.1 (hsub2 x hx))
    rwa [List.length_map] at this
  omega
end

/-- The least of all entries; none: there is none. -/
def IsMin (l : List Ent) : Option Ent → Prop
  | none => l = []
  | some e => e ∈ l ∧ ∀ x ∈ l, le e x
theorem min_ex (l : List Ent) : ∃ m, IsMin l m := by
  induction l with
  | nil => exact ⟨none, rfl⟩
  | cons x t ih =>
    obtain ⟨m, hm⟩ := ih
    cases m with
    | none => have : t = [] := hm; subst this; exact ⟨some x, by simp, fun y hy => by simp at hy; subst hy; exact le_refl _⟩
    | some e =>
      rcases le_total x e with h | h
      · refine ⟨some x, by simp, fun y hy => ?_⟩
        rcases List.mem_cons.1 hy with rfl | hy
        · exact le_refl _
        · exact le_trans h (hm.2 y hy)
      · refine ⟨some e, by simp [hm.1], fun y hy => ?_⟩
        rcases List.mem_cons.1 hy with rfl | hy
        · exact h
        · exact hm.2 y hy

theorem grown_none2 {a b c : World} (h : a.grownBy b none) (k : b.grownBy c none) : a.grownBy c none :=
  ⟨k.os.trans h.os, k.tape.trans h.tape, k.output.trans h.output, Nat.le_trans h.size k.size, fun j hj hne => (k.block j (Nat.lt_of_lt_of_le hj h.size) (by simp)).trans (h.block j hj hne)⟩

theorem box_grown {w w1 : World} {i j l : Nat} {a b c : Value} (h : w.grownBy w1 none) : w.grownBy (((w1.setCell ⟨w.heap.size, i, none⟩ a).setCell ⟨w.heap.size, j, none⟩ b).setCell ⟨w.heap.size, l, none⟩ c) none :=
  ⟨h.os, h.tape, h.output, by rw [box_size]; exact h.size, fun k hk hn => (box_other (by omega)).trans (h.block k hk hn)⟩

/-- The loop's state. -/
structure FInv (w wr : World) (Hs : List (List Ent)) (k : Nat) (r : Option Nat) (l : Ent) : Prop where
  grown : w.grownBy wr none
  var : wr.heap[w.heap.size]? = some (.cells l.cells 30 (0, 0))
  no : r = none → ∀ i, i < k → Hs[i]? = some []
  yes : ∀ j, r = some j → j < k ∧ ∃ t, Hs[j]? = some (l :: t) ∧ ∀ i, i < k → ∀ e t, Hs[i]? = some (e :: t) → le l e

theorem finv_skip {w wr wr' : World} {Hs : List (List Ent)} {k : Nat} {r : Option Nat} {l : Ent} (h : FInv w wr Hs k r l) (hg : w.grownBy wr' none) (hv : wr'.heap[w.heap.size]? = wr.heap[w.heap.size]?) (hk : Hs[k]? = some []) : FInv w wr' Hs (k + 1) r l :=
  ⟨hg, hv.trans h.var, fun hr i hi => by
    by_cases e : i = k
    · rw [e]; exact hk
    · exact h.no hr i (by omega), fun j hj => by
    obtain ⟨h1, t, h2, h3⟩ := h.yes j hj
    refine ⟨by omega, t, h2, fun i hi e t' he => ?_⟩
    by_cases e1 : i = k
    · rw [e1, hk] at he; cases he
    · exact h3 i (by omega) e t' he⟩
theorem finv_stay {w wr wr' : World} {Hs : List (List Ent)} {k j : Nat} {l x : Ent} {t : List Ent} (h : FInv w wr Hs k (some j) l) (hg : w.grownBy wr' none) (hv : wr'.heap[w.heap.size]? = wr.heap[w.heap.size]?) (hk : Hs[k]? = some (x :: t)) (ha : aheadB x l = false) : FInv w wr' Hs (k + 1) (some j) l :=
  ⟨hg, hv.trans h.var, fun hr => (by cases hr), fun j' hj => by
    obtain ⟨h1, t2, h2, h3⟩ := h.yes j' hj
    refine ⟨by omega, t2, h2, fun i hi e t' he => ?_⟩
    by_cases e1 : i = k
    · rw [e1, hk] at he; cases he; exact ha
    · exact h3 i (by omega) e t' he⟩
theorem finv_new {w wr wr' : World} {Hs : List (List Ent)} {k : Nat} {r : Option Nat} {l x : Ent} {t : List Ent} (h : FInv w wr Hs k r l) (hg : w.grownBy wr' none) (hv : wr'.heap[w.heap.size]? = some (.cells x.cells 30 (0, 0))) (hk : Hs[k]? = some (x :: t)) (ha : r ≠ none → aheadB x l = true) : FInv w wr' Hs (k + 1) (some k) x :=
  ⟨hg, hv, fun hr => (by cases hr), fun j' hj => by
    cases hj
    refine ⟨by omega, t, hk, fun i hi e t' he => ?_⟩
    by_cases e1 : i = k
    · rw [e1, hk] at he; cases he; exact le_refl _
    · cases r with
      | none => rw [h.no rfl i (by omega)] at he; cases he
      | some j =>
        obtain ⟨_, _, _, h3⟩ := h.yes j rfl
        exact le_trans (le_of_ahead (ha (by simp))) (h3 i (by omega) e t' he)⟩

set_option maxRecDepth 100000 in
set_option maxHeartbeats 2000000 in
theorem first_walk {w : World} {base tb lb hb : Nat} {vs : List Value} {Hs : List (List Ent)} {order : Nat} {G : List Int} (h : IsT w base tb lb hb vs Hs order G) :
    Calls Try.prog 24 #[.pointer (some ⟨tb, 0, none⟩)] w fun e w' => ∃ r l, e = .returned (.pointer (r.map fun j => ⟨lb, j, none⟩)) ∧ FInv w w' Hs vs.length r l := by
  obtain ⟨n, hn⟩ : ∃ n, n = vs.length := ⟨_, rfl⟩
  have hc0 := h.c0
  have htop := h.top
  have htlt := h.tlt
  have hllt := h.llt
  rw [← hn] at hc0 htop ⊢
  have H := Lib.hid h
  have HN := Lib.hid hn
  clear h hn
  go_enter Try.func24, Try.ntmps24
  go_wp2
  go_loopw [3, 13] (fun p q wr => ∃ (k : Nat) (r : Option Nat) (l : Ent), k ≤ n ∧ q = .int .i64 k ∧ p = .pointer (r.map fun j => ⟨lb, j, none⟩) ∧ FInv w wr Hs k r l) (fun _ q _ => n - (intOf q).toNat)
  case atStart => exact ⟨0, none, ⟨0, 0, 0⟩, Nat.zero_le _, rfl, rfl, World.grownBy_alloc _ _ _, heap_alloc_new _ _, fun _ i hi => absurd hi (by omega), fun j hj => by cases hj⟩
  case round =>
    obtain ⟨k, r, l, hk, rfl, rfl, hi⟩ := hrel
    have HI := Lib.hid hi
    have hcw : wr.cell? ⟨tb, 0, none⟩ = some (.slice (some ⟨lb, 0, none⟩) n n) := hi.grown.cell hc0 (by simp)
    have htw : tb < wr.heap.size := Nat.lt_of_lt_of_le htlt hi.grown.size
    have hlw : lb < wr.heap.size := Nat.lt_of_lt_of_le hllt hi.grown.size
    clear hi
    by_cases hlt : k < n
    · obtain ⟨v, es, hv, hes, hp, hh, hlen⟩ := H.out.at (i := k) (by rw [← HN.out]; exact hlt)
      have HP := Lib.hid (hp.grown HI.out.grown)
      have HES := Lib.hid hes
      clear hp hv hes hh
      cases es with
      | nil =>
        go_wp2_with fail
        refine (first_none HP.out).mono ?_
        rintro e w1 ⟨rfl, hg⟩
        have hg1 := Lib.hid (grown_none2 HI.out.grown hg)
        have hv1 := Lib.hid (hg.block w.heap.size (Array.getElem?_eq_some_iff.1 HI.out.var).1 (by simp))
        clear hg
        go_wp2_with fail
        go_roundw
        case rel => exact ⟨k + 1, r, l, by omega, by go_num, rfl, finv_skip HI.out (grown_none2 hg1.out (World.grownBy_alloc _ _ _)) ((heap_alloc_old _ _ (by have := hg1.out.size; have := (Array.getElem?_eq_some_iff.1 HI.out.var).1; have := hv1.out; rw [HI.out.var] at this; exact (Array.getElem?_eq_some_iff.1 this).1)).trans hv1.out) HES.out⟩
        case measure => simp [intOf]; omega
      | cons x t =>
        go_wp2_with fail
        refine (first_some HP.out (by simp at hlen; omega)).mono ?_
        rintro e w1 ⟨rfl, hg⟩
        have hg1 := Lib.hid (grown_none2 HI.out.grown hg)
        have hv1 := Lib.hid ((hg.block w.heap.size (Array.getElem?_eq_some_iff.1 HI.out.var).1 (by simp)).trans HI.out.var)
        clear hg
        have hz : w.heap.size < w1.heap.size := (Array.getElem?_eq_some_iff.1 hv1.out).1
        have z0 : w1.cell? ⟨w.heap.size, 0, none⟩ = some (.int .i64 l.w) := cell_of_row _ _ 0 _ _ _ hv1.out
        have z1 : w1.cell? ⟨w.heap.size, 1, none⟩ = some (.int .u64 l.o) := cell_of_row _ _ 1 _ _ _ hv1.out
        have z2 : w1.cell? ⟨w.heap.size, 2, none⟩ = some (.int .i64 l.g) := cell_of_row _ _ 2 _ _ _ hv1.out
        have fz : ∀ o, w1.frozen? ⟨w.heap.size, o, none⟩ = false := fun o => frozen_of_row _ _ o _ _ hv1.out
        have hcw1 : w1.cell? ⟨tb, 0, none⟩ = some (.slice (some ⟨lb, 0, none⟩) n n) := hg1.out.cell hc0 (by simp)
        have htw1 : tb < w1.heap.size := Nat.lt_of_lt_of_le htlt hg1.out.size
        clear hcw
        cases r with
        | none =>
          go_wp2_with fail
          go_region
          go_wp2_with fail
          go_roundw
          case rel =>
            refine ⟨k + 1, some k, x, by omega, by go_num, rfl, finv_new HI.out ?_ ?_ HES.out (fun e => absurd rfl e)⟩
            · refine grown_drew3 (grown_none2 (box_grown hg1.out) (World.grownBy_alloc _ _ _))
            · exact (heap_alloc_old _ _ (by simp; exact hz)).trans (box_set hv1.out x)
          case measure => simp [intOf]; omega
        | some j =>
          go_wp2_with fail
          refine (ahead_is x l _).mono ?_
          rintro e w2 ⟨rfl, hb⟩
          have hs1 : ∀ o : Obj, (w1.alloc o).heap.size = w1.heap.size + 1 := fun o => by simp
          rw [hs1] at hb
          have hX : w2.heap[w1.heap.size]? = some (.cells x.cells 30 (0, 0)) := (hb.block _ (by omega)).trans (heap_alloc_new _ _)
          have hV : w2.heap[w.heap.size]? = some (.cells l.cells 30 (0, 0)) := (hb.block _ (by omega)).trans ((heap_alloc_old _ _ hz).trans hv1.out)
          have hg2 : w.grownBy w2 none := ⟨hb.os.trans hg1.out.os, hb.tape.trans hg1.out.tape, hb.output.trans hg1.out.output, by have := hb.size; simp at this; omega, fun c hc _ => (hb.block c (by omega)).trans ((heap_alloc_old _ _ (by omega)).trans (hg1.out.block c hc (by simp)))⟩
          have HX := Lib.hid hX
          have HV := Lib.hid hV
          have HG2 := Lib.hid hg2
          clear z0 z1 z2 fz hcw1 hX hV hb hg2 hs1
          have y0 : w2.cell? ⟨w1.heap.size, 0, none⟩ = some (.int .i64 x.w) := cell_of_row _ _ 0 _ _ _ HX.out
          have y1 : w2.cell? ⟨w1.heap.size, 1, none⟩ = some (.int .u64 x.o) := cell_of_row _ _ 1 _ _ _ HX.out
          have y2 : w2.cell? ⟨w1.heap.size, 2, none⟩ = some (.int .i64 x.g) := cell_of_row _ _ 2 _ _ _ HX.out
          have z0 : w2.cell? ⟨w.heap.size, 0, none⟩ = some (.int .i64 l.w) := cell_of_row _ _ 0 _ _ _ HV.out
          have z1 : w2.cell? ⟨w.heap.size, 1, none⟩ = some (.int .u64 l.o) := cell_of_row _ _ 1 _ _ _ HV.out
          have z2 : w2.cell? ⟨w.heap.size, 2, none⟩ = some (.int .i64 l.g) := cell_of_row _ _ 2 _ _ _ HV.out
          have fz : ∀ o, w2.frozen? ⟨w.heap.size, o, none⟩ = false := fun o => frozen_of_row _ _ o _ _ HV.out
          have hcw2 : w2.cell? ⟨tb, 0, none⟩ = some (.slice (some ⟨lb, 0, none⟩) n n) := HG2.out.cell hc0 (by simp)
          by_cases ha : aheadB x l = true
          · go_wp2_with fail
            go_region
            go_wp2_with fail
            go_roundw
            case rel =>
              exact ⟨k + 1, some k, x, by omega, by go_num, rfl, finv_new HI.out (grown_drew3 (box_grown HG2.out)) (box_set HV.out x) HES.out (fun _ => ha)⟩
            case measure => simp [intOf]; omega
          · have ha' : aheadB x l = false := by simpa using ha
            clear ha
            go_wp2_with fail
            go_roundw
            case rel => exact ⟨k + 1, some j, l, by omega, by go_num, rfl, finv_stay HI.out HG2.out (HV.out.trans HI.out.var.symm) HES.out ha'⟩
            case measure => simp [intOf]; omega
    · obtain rfl : k = n := by omega
      go_wp2_with fail
      go_ret
      exact ⟨r, l, rfl, HI.out⟩
end Go.Proofs.Ytmaahidipbghfaa.Tm
