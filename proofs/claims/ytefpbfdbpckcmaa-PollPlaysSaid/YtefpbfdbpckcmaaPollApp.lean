/-
  slices.AppendSeq, slices.Collect, slices.Sort, slices.Sorted at the poll's map.
-/
import Derived.Test.YtefpbfdbpckcmaaPollSeq
import Derived.Test.YtefpbfdbpckcmaaSoPdq
import Derived.Deep.AppendLies
import Derived.OwnWalk
namespace Go.Proofs.Ytefpbfdbpckcmaa.Pl
open Go.RowKit Go.Shelf
open Go.Proofs.Ytefpbfdbpckcmaa.MapU
set_option linter.unusedVariables false
attribute [local go_sem] Oper.semAt_some

theorem infoU : (Try.prog.info? 27).map (fun i => (i.zero, i.size, i.bytes)) = some (some (.int .u16 0), 1, 2) := by kernel_rfl

set_option maxRecDepth 100000 in
set_option maxHeartbeats 2000000 in
theorem append_is (Bm b : Nat) (l : List (Int × Value)) (hbig : l.length ≤ 2000) (w : World) (hBm : Bm < w.heap.size) (hc : w.cell? ⟨Bm, 0, none⟩ = some (.map (some b))) (hm : IsMap w b l) :
    Calls Try.prog 35 #[.slice none 0 0, .func (.func KEYS) #[] #[.pointer (some ⟨Bm, 0, none⟩)]] w fun e w' =>
      ∃ (v : Value) (ks : List Int), e = .returned v ∧ ks.Perm (l.map (·.1)) ∧ w'.ownsRow w.heap.size 27 1 v ks.length (ks.map (Value.int .u16)) ∧ Below w.heap.size w w' := by
  obtain ⟨i0, hi, hz0, hz1, hz2⟩ := info_parts infoU
  refine (callsIn_wide (n := 8)).1 ?_
  refine callsIn_of_wp_marks Try.func35 rfl trivial ?_ rfl
  simp only [Try.ntmps35, List.size_toArray, List.length_cons, List.length_nil, Nat.reduceAdd, Nat.reduceSub, Array.replicate_succ, Array.replicate_zero, List.push_toArray, List.append_toArray, List.nil_append, List.cons_append]
  gi_wp2
  have bO := Boxed.new w 22 (.slice none 0 0)
  have hB0 : Below w.heap.size w (w.alloc (.cells #[.slice none 0 0] 22)) := (Below.refl _ w).alloc (Nat.le_refl _) _
  refine wpIn_rangeFunc_ownH rfl (by decide) (gf := KEYS) (lb := #[.pointer (some ⟨Bm, 0, none⟩)]) rfl trivial (enters_of Try.func33 (by kernel_rfl) rfl)
    (keys_stops Fence.wide 7 trivial rfl (by decide) Bm b l _ (by simp; omega) ((hB0.cell (p := ⟨Bm, 0, none⟩) hBm).trans hc) (hm.below hB0)) walksK_t walksK_b (Below.refl _ _) (fun _ => rfl)
    (fun (pre : List Int) W => (∃ v, Boxed W w.heap.size 22 v ∧ W.ownsRow w.heap.size 27 1 v pre.length (pre.map (Value.int .u16)) ∧ True) ∧ Below w.heap.size w W)
    (fun _ _ _ => False)
    (OwnFrom.and (Own.from (holdsRow_own w.heap.size w.heap.size 22 27 1 (fun (pre : List Int) => pre.length) (fun pre => pre.map (Value.int .u16)) (fun _ _ => True)) _) (ownFrom_below (Nat.le_refl _) (by simp)))
    (fun _ _ _ _ _ hs _ _ => hs)
    ⟨⟨_, bO, World.ownsRow_nil _ _ _ _, trivial⟩, hB0⟩
    (fun x a' _ => a' = { tmps := #[.slice none 0 0, .func (.func KEYS) #[] #[.pointer (some ⟨Bm, 0, none⟩)], .pointer (some ⟨w.heap.size, 0, none⟩), undef, .slice none 0 0, .int .u16 x, .func (.func KEYS) #[] #[.pointer (some ⟨Bm, 0, none⟩)], .int .u16 x, undef, undef, undef, undef, undef], defers := [] })
    (fun _ _ _ _ _ _ hs _ _ => hs)
    ?assign ?body ?done ?stop
  case assign =>
    rintro lb pre x W K ⟨⟨v, hv, hrow, _⟩, hB1⟩ hK
    gi_wp2
    exact hK _ _ (KeepsFrom.refl _ _) (KeepsWalks.refl _) ⟨⟨v, hv, hrow, trivial⟩, hB1⟩ rfl
  case body =>
    rintro lb pre x a' W hl ⟨r, hr⟩ ⟨⟨v, hv, hrow, _⟩, hB⟩ rfl hlt
    have hcv := hv.cell
    gi_wp2_with (gi_at_builtin; refine wpListIn_append_own _ rfl _ _ 22 rfl w.heap.size 27 i0 _ 1 2 Try.underlying22 hi hz0 hz1 hz2 rfl (by decide) _ _ _ rfl (hrow.alloc _) ⟨W.heap.size, 0, none⟩ 1 1 [.int .u16 x] rfl rfl (World.news_of_block (heap_alloc_new _ _)) (by simp [Value.oneCell']) (by unfold maxLen; omega) (by omega) (by have := hB.size; simp; omega) ?_; intro v' w1 hown' hgrow _; obtain ⟨g', cap', rfl⟩ := ownsRow_succ hown'; obtain ⟨hv1, hv2, hr2, hk2, hb2⟩ := hv.appended (by decide) hrow hB.size (Nat.le_refl _) hown' hgrow; have hc1 := hv1.cell; have hf1 := hv1.frozen)
    exact ⟨hk2.from _, hk2.walks, ⟨_, hv2, by rw [List.map_append, List.length_append]; simpa using hr2, trivial⟩, hB.trans hb2⟩
  case done =>
    rintro D ys W hD hys ⟨⟨v, hv, hrow, _⟩, hB⟩ hK
    have hc := hv.cell
    gi_wp2
    refine ⟨by simp, .inl ⟨_, _, rfl, run_takeDeferred hK, ?_⟩⟩
    exact ⟨_, results_tmp rfl _ _ _, v, ys, rfl, hys, ownsRow_putObj hrow _ hK rfl, hB.trans (belowK_b (w := w) (Nat.le_refl _) W D _ _ (by simp at hD; omega) hK rfl rfl)⟩
  case stop =>
    rintro D c pre W _ _ h _
    exact h.elim

theorem collect_is (Bm b : Nat) (l : List (Int × Value)) (hbig : l.length ≤ 2000) (w : World) (hBm : Bm < w.heap.size) (hc : w.cell? ⟨Bm, 0, none⟩ = some (.map (some b))) (hm : IsMap w b l) :
    Calls Try.prog 31 #[.func (.func KEYS) #[] #[.pointer (some ⟨Bm, 0, none⟩)]] w fun e w' =>
      ∃ (v : Value) (ks : List Int), e = .returned v ∧ ks.Perm (l.map (·.1)) ∧ w'.ownsRow w.heap.size 27 1 v ks.length (ks.map (Value.int .u16)) ∧ Below w.heap.size w w' := by
  go_enter Try.func31, Try.ntmps31
  go_wp2_with fail
  refine (append_is Bm b l hbig w hBm hc hm).mono ?_
  rintro e w' ⟨v, ks, rfl, hp, hr, hb⟩
  have H := Lib.hid (And.intro hp (And.intro hr hb))
  clear hp hr hb
  go_wp2
  go_ret
  exact ⟨_, _, rfl, H.out⟩
end Go.Proofs.Ytefpbfdbpckcmaa.Pl
