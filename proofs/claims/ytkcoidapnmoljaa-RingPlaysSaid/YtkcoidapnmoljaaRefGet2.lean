/-
  hostlerref06: Get.
-/
import Derived.Test.YtkcoidapnmoljaaRefGet
namespace Go.Proofs.Ytkcoidapnmoljaa.Rng
open Go.RowKit
open Go.Proofs.Ytkcoidapnmoljaa.Ints
set_option linter.unusedVariables false

theorem rtake_1 {w : World} {v : Value} {x : Int} {R : List Int} {lo : Nat} (hv : Ref w lo v (x :: R)) (hbig : (x :: R).length ≤ 100000) :
    Calls Try.prog 35 #[v, .int .i64 1] w fun e w' => ∃ g c b d, e = .returned (.tuple #[.slice (some ⟨g, 0, none⟩) 1 c, .slice b R.length d]) ∧ w'.cell? ⟨g, 0, none⟩ = some (.int .i64 x) ∧ w.heap.size ≤ g ∧ 1 ≤ c ∧ Ref w' lo (.slice b R.length d) R ∧ Below w.heap.size w w' ∧ ∀ j, (Value.slice b R.length d).ownBlock = some j → v.ownBlock = some j := by
  refine (rtake_is hv 1 hbig).mono ?_
  rintro e w' ⟨o, r, rfl, ho, hr, hb, hob⟩
  have ho' : Owns w' w.heap.size o [x] := ho
  obtain ⟨g, c, rfl, hc, hg⟩ := owns_one ho'
  obtain ⟨_, _, e1, hcap, _⟩ := Owns.parts ho'
  cases e1
  have hr' : Ref w' lo r R := hr
  obtain ⟨b, d, rfl, _⟩ := id hr'
  exact ⟨g, c, b, d, rfl, hc, hg, hcap, hr', hb, hob⟩
theorem rtake_0 {w : World} {v : Value} {lo : Nat} (hv : Ref w lo v []) :
    Calls Try.prog 35 #[v, .int .i64 1] w fun e w' => ∃ a c b d, e = .returned (.tuple #[.slice a 0 c, .slice b 0 d]) ∧ Below w.heap.size w w' := by
  refine (rtake_is hv 1 (by simp)).mono ?_
  rintro e w' ⟨o, r, rfl, ho, hr, hb, hob⟩
  have ho' : Owns w' w.heap.size o [] := ho
  have hr' : Ref w' lo r [] := hr
  obtain ⟨a, c, rfl, _⟩ := Owns.parts ho'
  obtain ⟨b, d, rfl, _⟩ := id hr'
  exact ⟨a, c, b, d, rfl, hb⟩

set_option maxRecDepth 100000 in
set_option maxHeartbeats 1000000 in
theorem rget_lone {w : World} {s : Value} {lo : Nat} (nx st : Int) (hs : Ref w lo s []) (h0 : 0 ≤ st) (h4 : st ≤ 4) :
    Calls Try.prog 33 #[RV s true nx st] w fun e w' => e = .returned (.tuple #[RV s false 0 0, .int .i64 nx, .bool true]) ∧ Ref w' lo s [] ∧ Below w.heap.size w w' := by
  have HS := Lib.hid hs
  obtain ⟨a, cap, rfl, _⟩ := hs
  simp only [List.length_nil] at HS ⊢
  unfold RV
  by_cases h : st < 4
  all_goals
    go_enter Try.func33, Try.ntmps33
    go_wp2_with fail
    exact bodyPost_ret (results_rv3 rfl _ _ (w.heap.size + 1) (.slice a 0 cap) (.bool false) (.int .i64 0) (.int .i64 0) (.int .i64 nx) (.bool true) (heap_alloc2_new _ _ _) rfl rfl rfl) rfl ⟨rfl, Ref.below HS.out (below_two w _ _), below_two w _ _⟩

set_option maxRecDepth 100000 in
set_option maxHeartbeats 1000000 in
theorem rget_next {w : World} {s : Value} {row : List Int} {lo : Nat} (nx st : Int) (hs : Ref w lo s row) (hn : row ≠ []) (h0 : 0 ≤ st) (h : st < 4) :
    Calls Try.prog 33 #[RV s true nx st] w fun e w' => e = .returned (.tuple #[RV s false 0 (st + 1), .int .i64 nx, .bool true]) ∧ Ref w' lo s row ∧ Below w.heap.size w w' := by
  have HS := Lib.hid hs
  obtain ⟨a, cap, rfl, _⟩ := hs
  obtain ⟨x, R, rfl⟩ := List.exists_cons_of_ne_nil hn
  obtain ⟨n, hN⟩ : ∃ n, R.length = n := ⟨_, rfl⟩
  simp only [List.length_cons, hN] at HS ⊢
  have b1 : (((n + 1 : Nat) : Int) == 0) = false := by rw [beq_eq_false_iff_ne]; omega
  clear hn hN
  unfold RV
  go_enter Try.func33, Try.ntmps33
  go_wp2_with fail
  exact bodyPost_ret (results_rv3 rfl _ _ (w.heap.size + 1) (.slice a (n + 1) cap) (.bool false) (.int .i64 0) (.int .i64 (st + 1)) (.int .i64 nx) (.bool true) (heap_alloc2_new _ _ _) rfl rfl rfl) rfl ⟨rfl, Ref.below HS.out (below_two w _ _), below_two w _ _⟩

set_option maxRecDepth 100000 in
set_option maxHeartbeats 1000000 in
theorem rget_none {w : World} {s : Value} {lo : Nat} (nx st : Int) (hs : Ref w lo s []) :
    Calls Try.prog 33 #[RV s false nx st] w fun e w' => e = .returned (.tuple #[RV s false nx st, .int .i64 0, .bool false]) ∧ Ref w' lo s [] ∧ Below w.heap.size w w' := by
  have HS := Lib.hid hs
  have HVB : Hid (∀ j, s.ownBlock = some j → j < w.heap.size) := Lib.hid fun j hj => ref_block hs hj
  obtain ⟨a, cap, rfl, _⟩ := hs
  simp only [List.length_nil] at HS HVB ⊢
  unfold RV
  go_enter Try.func33, Try.ntmps33
  go_wp2_with fail
  refine (rtake_0 (Ref.below HS.out (below_two w _ _))).mono ?_
  rintro e w1 ⟨a1, c1, a2, c2, rfl, hb⟩
  obtain ⟨hA, hB2, hbw, hsz⟩ := two_blocks w w1 _ _ hb
  obtain ⟨x0, x1, x2, x3, xf⟩ := four hA
  obtain ⟨y0, y1, y2, y3, yf⟩ := four hB2
  have HO := Lib.hid (And.intro hA (And.intro hB2 hbw))
  clear hb hA hB2 hbw
  go_wp2_with fail
  refine bodyPost_ret (results_rv3 rfl _ _ (w.heap.size + 1) (.slice a 0 cap) (.bool false) (.int .i64 nx) (.int .i64 st) (.int .i64 0) (.bool false) (four_set HO.out.2.1) rfl rfl rfl) rfl ⟨rfl, ?_, below_four HO.out.2.2 (by omega)⟩
  refine ref_four_at (Ref.below HS.out HO.out.2.2) ?_
  intro j hj; have := HVB.out j hj; omega

set_option maxRecDepth 100000 in
set_option maxHeartbeats 1000000 in
theorem rget_first {w : World} {s : Value} {x : Int} {R : List Int} {lo : Nat} (nx st : Int) (hs : Ref w lo s (x :: R)) (hn : (x :: R).length ≤ 256) :
    Calls Try.prog 33 #[RV s false nx st] w fun e w' => ∃ s', e = .returned (.tuple #[RV s' false nx 0, .int .i64 x, .bool true]) ∧ Ref w' lo s' R ∧ Below w.heap.size w w' ∧ ∀ j, s'.ownBlock = some j → s.ownBlock = some j := by
  have HS := Lib.hid hs
  have HVB : Hid (∀ j, s.ownBlock = some j → j < w.heap.size) := Lib.hid fun j hj => ref_block hs hj
  obtain ⟨a, cap, rfl, _⟩ := hs
  obtain ⟨n, hN⟩ : ∃ n, n = R.length + 1 := ⟨_, rfl⟩
  have e1 : (x :: R).length = n := by rw [hN]; rfl
  rw [e1] at HS HVB ⊢
  have HN := Lib.hid hn
  clear e1 hN hn
  unfold RV
  go_enter Try.func33, Try.ntmps33
  go_wp2_with fail
  refine (rtake_1 (Ref.below HS.out (below_two w _ _)) (by have := HN.out; omega)).mono ?_
  rintro e w1 ⟨g, c1, b, d, rfl, hc, hg, hc1, hr, hb, hob⟩
  obtain ⟨hA, hB2, hbw, hsz⟩ := two_blocks w w1 _ _ hb
  obtain ⟨x0, x1, x2, x3, xf⟩ := four hA
  have hgl := cell_lt hc
  have hg2 : w.heap.size + 2 ≤ g := by simp at hg; omega
  have HO := Lib.hid (And.intro hA (And.intro hB2 (And.intro hbw (And.intro hr (And.intro hob hc)))))
  clear hb hA hB2 hbw hr hob hc hg
  go_wp2_with fail
  have hA' : ((w1.setCell ⟨w.heap.size, 0, none⟩ (.slice b R.length d)).setCell ⟨w.heap.size, 3, none⟩ (.int .i64 0)).heap[w.heap.size]? = some (.cells #[.slice b R.length d, .bool false, .int .i64 nx, .int .i64 0] TR (0, 0)) :=
    heap_setCell_same _ _ 3 _ _ _ (heap_setCell_same _ _ 0 _ _ _ HO.out.1)
  have hB' : ((w1.setCell ⟨w.heap.size, 0, none⟩ (.slice b R.length d)).setCell ⟨w.heap.size, 3, none⟩ (.int .i64 0)).heap[w.heap.size + 1]? = some (.cells #[.slice none 0 0, .bool false, .int .i64 0, .int .i64 0] TR (0, 0)) :=
    (one_other (by omega)).trans ((one_other (by omega)).trans HO.out.2.1)
  have hc' : ((w1.setCell ⟨w.heap.size, 0, none⟩ (.slice b R.length d)).setCell ⟨w.heap.size, 3, none⟩ (.int .i64 0)).cell? ⟨g, 0, none⟩ = some (.int .i64 x) :=
    (World.cell?_of_block (a := ⟨g, 0, none⟩) ((one_other (by show g ≠ _; omega)).trans (one_other (by show g ≠ _; omega)))).trans HO.out.2.2.2.2.2
  have hbW : Below w.heap.size w ((w1.setCell ⟨w.heap.size, 0, none⟩ (.slice b R.length d)).setCell ⟨w.heap.size, 3, none⟩ (.int .i64 0)) := below_one (below_one HO.out.2.2.1 (Nat.le_refl _)) (Nat.le_refl _)
  have hrW : Ref ((w1.setCell ⟨w.heap.size, 0, none⟩ (.slice b R.length d)).setCell ⟨w.heap.size, 3, none⟩ (.int .i64 0)) lo (.slice b R.length d) R :=
    ref_one_at (ref_one_at HO.out.2.2.2.1 (fun j hj => by have := HVB.out j (HO.out.2.2.2.2.1 j hj); omega)) (fun j hj => by have := HVB.out j (HO.out.2.2.2.2.1 j hj); omega)
  have HOB : Hid (∀ j, (Value.slice b R.length d).ownBlock = some j → (Value.slice a n cap).ownBlock = some j) := Lib.hid HO.out.2.2.2.2.1
  have HB : Hid (∀ j, (Value.slice b R.length d).ownBlock = some j → j < w.heap.size) := Lib.hid fun j hj => HVB.out j (HO.out.2.2.2.2.1 j hj)
  clear HO HVB xf x0 x1 x2 x3
  generalize ((w1.setCell ⟨w.heap.size, 0, none⟩ (.slice b R.length d)).setCell ⟨w.heap.size, 3, none⟩ (.int .i64 0)) = W at *
  obtain ⟨x0, x1, x2, x3, _⟩ := four hA'
  obtain ⟨y0, y1, y2, y3, yf⟩ := four hB'
  have H := Lib.hid (And.intro hB' (And.intro hbW hrW))
  clear hA' hB' hbW hrW
  go_region
  all_goals
    go_wp2_with fail
    refine bodyPost_ret (results_rv3 rfl _ _ (w.heap.size + 1) (.slice b R.length d) (.bool false) (.int .i64 nx) (.int .i64 0) (.int .i64 x) (.bool true) (four_set (w := W) H.out.1) rfl rfl rfl) rfl ⟨_, rfl, ?_, ?_, HOB.out⟩
    · have := ref_four_at (B := w.heap.size + 1) (i := 0) (j := 1) (l := 2) (m := 3) (a := .slice b R.length d) (b := .bool false) (c := .int .i64 nx) (d := .int .i64 0) H.out.2.2 (fun j hj => by have := HB.out j hj; omega)
      exact ref_at this (Nat.le_refl _) (fun _ _ => rfl)
    · have := below_four (B := w.heap.size + 1) (i := 0) (j := 1) (l := 2) (m := 3) (a := .slice b R.length d) (b := .bool false) (c := .int .i64 nx) (d := .int .i64 0) H.out.2.1 (by omega)
      exact ⟨this.os, this.tape, this.output, this.size, this.block⟩
end Go.Proofs.Ytkcoidapnmoljaa.Rng
