/-
  hostlerref06: Get where the turn goes to the row; Steal.
-/
import Derived.Test.YtkcoidapnmoljaaRefGet2
namespace Go.Proofs.Ytkcoidapnmoljaa.Rng
open Go.RowKit
open Go.Proofs.Ytkcoidapnmoljaa.Ints
set_option linter.unusedVariables false

theorem ref_raise {w : World} {lo lo' : Nat} {v : Value} {xs : List Int} (h : Ref w lo v xs) (hl : ∀ j, v.ownBlock = some j → lo' ≤ j) : Ref w lo' v xs := by
  obtain ⟨a, cap, rfl, hc, hs, hb⟩ := h
  exact ⟨a, cap, rfl, hc, hs, fun c e => ⟨hl c.block (by rw [e]; rfl), (hb c e).2⟩⟩

set_option maxRecDepth 100000 in
set_option maxHeartbeats 1000000 in
theorem rget_turn {w : World} {s : Value} {x : Int} {R : List Int} {lo : Nat} (nx st : Int) (hs : Ref w lo s (x :: R)) (hn : (x :: R).length ≤ 256) (hst : ¬ st < 4) :
    Calls Try.prog 33 #[RV s true nx st] w fun e w' => ∃ s', e = .returned (.tuple #[RV s' false 0 0, .int .i64 x, .bool true]) ∧ Ref w' w.heap.size s' (R ++ [nx]) ∧ Below w.heap.size w w' := by
  have HS := Lib.hid hs
  have HVB : Hid (∀ j, s.ownBlock = some j → j < w.heap.size) := Lib.hid fun j hj => ref_block hs hj
  obtain ⟨a, cap, rfl, _⟩ := hs
  obtain ⟨n, hN⟩ : ∃ n, n + 1 = R.length + 1 := ⟨_, rfl⟩
  have e1 : (x :: R).length = n + 1 := by rw [hN]; rfl
  have hRl : R.length ≤ 255 := by simp only [List.length_cons] at hn; omega
  obtain ⟨J, hJ⟩ : ∃ J, R ++ [nx] = J := ⟨_, rfl⟩
  rw [e1] at HS HVB ⊢
  rw [hJ]
  have HN := Lib.hid hn
  have HJ := Lib.hid hJ
  have b1 : (((n + 1 : Nat) : Int) == 0) = false := by rw [beq_eq_false_iff_ne]; omega
  clear e1 hN hn hJ
  unfold RV
  go_enter Try.func33, Try.ntmps33
  go_wp2_with fail
  refine (rtake_1 (Ref.below HS.out (below_two w _ _)) (by have := HN.out; omega)).mono ?_
  rintro e w1 ⟨g, c1, b, d, rfl, hc, hg, hc1, hr, hb, hob⟩
  obtain ⟨hA, hB2, hbw, hsz⟩ := two_blocks w w1 _ _ hb
  obtain ⟨x0, x1, x2, x3, xf⟩ := four hA
  have hgl := cell_lt hc
  have hg2 : w.heap.size + 2 ≤ g := by simp at hg; omega
  have HO := Lib.hid (And.intro hA (And.intro hB2 (And.intro hbw (And.intro hr (And.intro hob hc)))))
  clear hb hA hB2 hbw hr hob hc hg
  go_wp2_with fail
  have hA' : ((w1.setCell ⟨w.heap.size, 0, none⟩ (.slice b R.length d)).setCell ⟨w.heap.size, 3, none⟩ (.int .i64 0)).heap[w.heap.size]? = some (.cells #[.slice b R.length d, .bool true, .int .i64 nx, .int .i64 0] TR (0, 0)) :=
    heap_setCell_same _ _ 3 _ _ _ (heap_setCell_same _ _ 0 _ _ _ HO.out.1)
  have hB' : ((w1.setCell ⟨w.heap.size, 0, none⟩ (.slice b R.length d)).setCell ⟨w.heap.size, 3, none⟩ (.int .i64 0)).heap[w.heap.size + 1]? = some (.cells #[.slice none 0 0, .bool false, .int .i64 0, .int .i64 0] TR (0, 0)) :=
    (one_other (by omega)).trans ((one_other (by omega)).trans HO.out.2.1)
  have hc' : ((w1.setCell ⟨w.heap.size, 0, none⟩ (.slice b R.length d)).setCell ⟨w.heap.size, 3, none⟩ (.int .i64 0)).cell? ⟨g, 0, none⟩ = some (.int .i64 x) :=
    (World.cell?_of_block (a := ⟨g, 0, none⟩) ((one_other (by show g ≠ _; omega)).trans (one_other (by show g ≠ _; omega)))).trans HO.out.2.2.2.2.2
  have hbW : Below w.heap.size w ((w1.setCell ⟨w.heap.size, 0, none⟩ (.slice b R.length d)).setCell ⟨w.heap.size, 3, none⟩ (.int .i64 0)) := below_one (below_one HO.out.2.2.1 (Nat.le_refl _)) (Nat.le_refl _)
  have hrW : Ref ((w1.setCell ⟨w.heap.size, 0, none⟩ (.slice b R.length d)).setCell ⟨w.heap.size, 3, none⟩ (.int .i64 0)) lo (.slice b R.length d) R :=
    ref_one_at (ref_one_at HO.out.2.2.2.1 (fun j hj => by have := HVB.out j (HO.out.2.2.2.2.1 j hj); omega)) (fun j hj => by have := HVB.out j (HO.out.2.2.2.2.1 j hj); omega)
  have hszW : w.heap.size + 2 ≤ ((w1.setCell ⟨w.heap.size, 0, none⟩ (.slice b R.length d)).setCell ⟨w.heap.size, 3, none⟩ (.int .i64 0)).heap.size := by simpa using hsz
  have hWs : w1.heap.size = ((w1.setCell ⟨w.heap.size, 0, none⟩ (.slice b R.length d)).setCell ⟨w.heap.size, 3, none⟩ (.int .i64 0)).heap.size := by simp
  have hgW : g < ((w1.setCell ⟨w.heap.size, 0, none⟩ (.slice b R.length d)).setCell ⟨w.heap.size, 3, none⟩ (.int .i64 0)).heap.size := by simpa using hgl
  clear HO xf x0 x1 x2 x3 hsz hgl
  generalize ((w1.setCell ⟨w.heap.size, 0, none⟩ (.slice b R.length d)).setCell ⟨w.heap.size, 3, none⟩ (.int .i64 0)) = W at *
  have HW := Lib.hid (And.intro hA' (And.intro hB' (And.intro hc' (And.intro hbW hrW))))
  clear hA' hB' hc' hbW hrW
  refine (join_x (Ref.below HW.out.2.2.2.2 ((Below.refl _ _).alloc (Nat.le_refl _) _)) (ref_one W w1.heap.size hWs nx) (by simp; omega) HJ.out).mono ?_
  rintro e w2 ⟨ja, jc, rfl, ho, hb⟩
  have hb' : Below W.heap.size W w2 := ((Below.refl _ _).alloc (Nat.le_refl _) _).trans (hb.mono (by simp))
  have hA := (hb'.block _ (by omega)).trans HW.out.1
  have hB2 := (hb'.block _ (by omega)).trans HW.out.2.1
  have hc := (World.cell?_of_block (a := ⟨g, 0, none⟩) (hb'.block g hgW)).trans HW.out.2.2.1
  have hbw : Below w.heap.size w w2 := HW.out.2.2.2.1.trans (hb'.mono HW.out.2.2.2.1.size)
  obtain ⟨x0, x1, x2, x3, xf⟩ := four hA
  have hgl := cell_lt hc
  have HO := Lib.hid (And.intro hA (And.intro hB2 (And.intro hbw (And.intro hc (ho.lower (base' := w.heap.size + 2) (by simp; omega))))))
  have hjn : ∀ j, (Value.slice ja J.length jc).ownBlock = some j → w.heap.size + 2 ≤ j := fun j hj => (HO.out.2.2.2.2.block hj).1
  have HJN := Lib.hid hjn
  clear hb hb' hA hB2 hbw hc ho hjn HW HVB
  go_wp2_with fail
  have hA' : (((w2.setCell ⟨w.heap.size, 0, none⟩ (.slice ja J.length jc)).setCell ⟨w.heap.size, 1, none⟩ (.bool false)).setCell ⟨w.heap.size, 2, none⟩ (.int .i64 0)).heap[w.heap.size]? = some (.cells #[.slice ja J.length jc, .bool false, .int .i64 0, .int .i64 0] TR (0, 0)) :=
    heap_setCell_same _ _ 2 _ _ _ (heap_setCell_same _ _ 1 _ _ _ (heap_setCell_same _ _ 0 _ _ _ HO.out.1))
  have hB' : (((w2.setCell ⟨w.heap.size, 0, none⟩ (.slice ja J.length jc)).setCell ⟨w.heap.size, 1, none⟩ (.bool false)).setCell ⟨w.heap.size, 2, none⟩ (.int .i64 0)).heap[w.heap.size + 1]? = some (.cells #[.slice none 0 0, .bool false, .int .i64 0, .int .i64 0] TR (0, 0)) :=
    (one_other (by omega)).trans ((one_other (by omega)).trans ((one_other (by omega)).trans HO.out.2.1))
  have hc' : (((w2.setCell ⟨w.heap.size, 0, none⟩ (.slice ja J.length jc)).setCell ⟨w.heap.size, 1, none⟩ (.bool false)).setCell ⟨w.heap.size, 2, none⟩ (.int .i64 0)).cell? ⟨g, 0, none⟩ = some (.int .i64 x) :=
    (World.cell?_of_block (a := ⟨g, 0, none⟩) ((one_other (by show g ≠ _; omega)).trans ((one_other (by show g ≠ _; omega)).trans (one_other (by show g ≠ _; omega))))).trans HO.out.2.2.2.1
  have hbW : Below w.heap.size w (((w2.setCell ⟨w.heap.size, 0, none⟩ (.slice ja J.length jc)).setCell ⟨w.heap.size, 1, none⟩ (.bool false)).setCell ⟨w.heap.size, 2, none⟩ (.int .i64 0)) := below_one (below_one (below_one HO.out.2.2.1 (Nat.le_refl _)) (Nat.le_refl _)) (Nat.le_refl _)
  have hrW : Ref (((w2.setCell ⟨w.heap.size, 0, none⟩ (.slice ja J.length jc)).setCell ⟨w.heap.size, 1, none⟩ (.bool false)).setCell ⟨w.heap.size, 2, none⟩ (.int .i64 0)) w.heap.size (.slice ja J.length jc) J :=
    ref_one_at (ref_one_at (ref_one_at (Owns.ref HO.out.2.2.2.2 (by omega)) (fun j hj => by have := HJN.out j hj; omega)) (fun j hj => by have := HJN.out j hj; omega)) (fun j hj => by have := HJN.out j hj; omega)
  clear HO xf x0 x1 x2 x3 hszW hgW hgl
  generalize (((w2.setCell ⟨w.heap.size, 0, none⟩ (.slice ja J.length jc)).setCell ⟨w.heap.size, 1, none⟩ (.bool false)).setCell ⟨w.heap.size, 2, none⟩ (.int .i64 0)) = V at *
  obtain ⟨x0, x1, x2, x3, _⟩ := four hA'
  obtain ⟨y0, y1, y2, y3, yf⟩ := four hB'
  have H := Lib.hid (And.intro hB' (And.intro hbW hrW))
  clear hA' hB' hbW hrW
  go_region
  all_goals
    go_wp2_with fail
    refine bodyPost_ret (results_rv3 rfl _ _ (w.heap.size + 1) (.slice ja J.length jc) (.bool false) (.int .i64 0) (.int .i64 0) (.int .i64 x) (.bool true) (four_set (w := V) H.out.1) rfl rfl rfl) rfl ⟨_, rfl, ?_, ?_⟩
    · have := ref_four_at (B := w.heap.size + 1) (i := 0) (j := 1) (l := 2) (m := 3) (a := .slice ja J.length jc) (b := .bool false) (c := .int .i64 0) (d := .int .i64 0) H.out.2.2 (fun j hj => by have := HJN.out j hj; omega)
      exact ref_at this (Nat.le_refl _) (fun _ _ => rfl)
    · have := below_four (B := w.heap.size + 1) (i := 0) (j := 1) (l := 2) (m := 3) (a := .slice ja J.length jc) (b := .bool false) (c := .int .i64 0) (d := .int .i64 0) H.out.2.1 (by omega)
      exact ⟨this.os, this.tape, this.output, this.size, this.block⟩

set_option maxRecDepth 100000 in
set_option maxHeartbeats 1000000 in
theorem rsteal_none {w : World} {s : Value} {lo : Nat} (nx st : Int) (hs : Ref w lo s []) :
    Calls Try.prog 32 #[RV s false nx st] w fun e w' => e = .returned (.tuple #[RV s false nx st, .slice none 0 0]) ∧ Ref w' lo s [] ∧ Below w.heap.size w w' := by
  have HS := Lib.hid hs
  obtain ⟨a, cap, rfl, _⟩ := hs
  simp only [List.length_nil] at HS ⊢
  unfold RV
  go_enter Try.func32, Try.ntmps32
  go_wp2_with fail
  exact bodyPost_ret (results_rv rfl _ _ (w.heap.size + 1) (.slice a 0 cap) (.bool false) (.int .i64 nx) (.int .i64 st) (.slice none 0 0) (heap_alloc2_new _ _ _) rfl rfl) rfl ⟨rfl, Ref.below HS.out (below_two w _ _), below_two w _ _⟩

set_option maxRecDepth 100000 in
set_option maxHeartbeats 1000000 in
theorem rsteal_row {w : World} {s : Value} {row : List Int} {lo : Nat} (is : Bool) (nx st : Int) (hs : Ref w lo s row) (hn : row.length ≤ 256) (hne : row ≠ []) :
    Calls Try.prog 32 #[RV s is nx st] w fun e w' => ∃ s' o, e = .returned (.tuple #[RV s' is nx st, o]) ∧ Ref w' lo s' (row.drop ((row.length + 1) / 2)) ∧ Ref w' w.heap.size o (row.take ((row.length + 1) / 2)) ∧ Below w.heap.size w w' ∧ ∀ j, s'.ownBlock = some j → s.ownBlock = some j := by
  obtain ⟨k, hk⟩ : ∃ k, k = (row.length + 1) / 2 := ⟨_, rfl⟩
  obtain ⟨F, hF⟩ : ∃ F, row.take k = F := ⟨_, rfl⟩
  obtain ⟨R, hR⟩ : ∃ R, row.drop k = R := ⟨_, rfl⟩
  rw [← hk, hF, hR]
  have h0 : row.length ≠ 0 := fun h => hne (List.length_eq_zero_iff.1 h)
  have HS := Lib.hid hs
  have HVB : Hid (∀ j, s.ownBlock = some j → j < w.heap.size) := Lib.hid fun j hj => ref_block hs hj
  obtain ⟨a, cap, rfl, _⟩ := hs
  obtain ⟨n, hN⟩ : ∃ n, row.length = n := ⟨_, rfl⟩
  rw [hN] at HS HVB h0 hn hk ⊢
  have b1 : ((n : Int) == 0) = false := by rw [beq_eq_false_iff_ne]; omega
  have b2 : (n == 0) = false := by rw [beq_eq_false_iff_ne]; omega
  have HF := Lib.hid hF
  have HR := Lib.hid hR
  have HK := Lib.hid hk
  have HN := Lib.hid hN
  clear hF hR hk hN hne
  unfold RV
  go_enter Try.func32, Try.ntmps32
  go_wp2_with fail
  refine (rtake_x (Ref.below HS.out (below_two w _ _)) _ k (by have := HK.out; omega) (by have := HN.out; omega) HF.out HR.out).mono ?_
  rintro e w1 ⟨fa, fc, ra, rc, rfl, ho, hr, hb, hob⟩
  obtain ⟨hA, hB2, hbw, hsz⟩ := two_blocks w w1 _ _ hb
  obtain ⟨x0, x1, x2, x3, xf⟩ := four hA
  obtain ⟨y0, y1, y2, y3, yf⟩ := four hB2
  have ho' : Ref w1 (w.heap.size + 2) (.slice fa F.length fc) F := Owns.ref ho (by simp)
  have HO := Lib.hid (And.intro ho' (And.intro hr (And.intro hob (And.intro hA (And.intro hB2 (And.intro hbw hsz))))))
  clear ho hr hob hb hA hB2 hbw hsz ho'
  go_wp2_with fail
  have hB3 : (w1.setCell ⟨w.heap.size, 0, none⟩ (.slice ra R.length rc)).heap[w.heap.size + 1]? = some (.cells #[.slice none 0 0, .bool false, .int .i64 0, .int .i64 0] TR (0, 0)) := (one_other (by omega)).trans HO.out.2.2.2.2.1
  refine bodyPost_ret (results_rv rfl _ _ (w.heap.size + 1) (.slice ra R.length rc) (.bool is) (.int .i64 nx) (.int .i64 st) (.slice fa F.length fc) (four_set hB3) rfl rfl) rfl ⟨_, _, rfl, ?_, ?_, ?_, HO.out.2.2.1⟩
  · refine ref_four_at (ref_one_at HO.out.2.1 ?_) ?_
    · intro j hj; have := HVB.out j (HO.out.2.2.1 j hj); omega
    · intro j hj; have := HVB.out j (HO.out.2.2.1 j hj); omega
  · refine Ref.lower (lo := w.heap.size + 2) (ref_four_at (ref_one_at HO.out.1 ?_) ?_) (by omega)
    · intro j hj; have := own_low HO.out.1 hj; omega
    · intro j hj; have := own_low HO.out.1 hj; omega
  · exact below_four (below_one HO.out.2.2.2.2.2.1 (Nat.le_refl _)) (by omega)

set_option maxRecDepth 100000 in
set_option maxHeartbeats 1000000 in
theorem rsteal_next {w : World} {s : Value} {lo : Nat} (nx st : Int) (hs : Ref w lo s []) :
    Calls Try.prog 32 #[RV s true nx st] w fun e w' => ∃ o, e = .returned (.tuple #[RV (.slice none 0 0) false 0 0, o]) ∧ Ref w' w.heap.size o [nx] ∧ Below w.heap.size w w' := by
  have HS := Lib.hid hs
  obtain ⟨a, cap, rfl, _⟩ := hs
  simp only [List.length_nil] at HS ⊢
  unfold RV
  have hb := below_two w (.cells #[.slice a 0 cap, .bool true, .int .i64 nx, .int .i64 st] TR) (.cells #[.slice none 0 0, .bool false, .int .i64 0, .int .i64 0] TR)
  have hA : ((w.alloc (.cells #[.slice a 0 cap, .bool true, .int .i64 nx, .int .i64 st] TR)).alloc (.cells #[.slice none 0 0, .bool false, .int .i64 0, .int .i64 0] TR)).heap[w.heap.size]? = some (.cells #[.slice a 0 cap, .bool true, .int .i64 nx, .int .i64 st] TR (0, 0)) := (heap_alloc2_old _ _ _)
  have hB : ((w.alloc (.cells #[.slice a 0 cap, .bool true, .int .i64 nx, .int .i64 st] TR)).alloc (.cells #[.slice none 0 0, .bool false, .int .i64 0, .int .i64 0] TR)).heap[w.heap.size + 1]? = some (.cells #[.slice none 0 0, .bool false, .int .i64 0, .int .i64 0] TR (0, 0)) := heap_alloc2_new _ _ _
  have hsz : w.heap.size + 2 = ((w.alloc (.cells #[.slice a 0 cap, .bool true, .int .i64 nx, .int .i64 st] TR)).alloc (.cells #[.slice none 0 0, .bool false, .int .i64 0, .int .i64 0] TR)).heap.size := by simp
  have H := Lib.hid (And.intro hb (And.intro hA (And.intro hB hsz)))
  clear hb hA hB hsz HS
  go_enter Try.func32, Try.ntmps32
  go_wp2_with fail
  generalize ((w.alloc (.cells #[.slice a 0 cap, .bool true, .int .i64 nx, .int .i64 st] TR)).alloc (.cells #[.slice none 0 0, .bool false, .int .i64 0, .int .i64 0] TR)) = W at *
  obtain ⟨x0, x1, x2, x3, _⟩ := four H.out.2.1
  obtain ⟨y0, y1, y2, y3, yf⟩ := four H.out.2.2.1
  have hlt : w.heap.size + 1 < W.heap.size := by have := H.out.2.2.2; omega
  go_region
  all_goals
    go_wp2_with fail
    have hV : ((((W.setCell ⟨w.heap.size + 1, 0, none⟩ (.slice none 0 0)).setCell ⟨w.heap.size + 1, 1, none⟩ (.bool false)).setCell ⟨w.heap.size + 1, 2, none⟩ (.int .i64 0)).setCell ⟨w.heap.size + 1, 3, none⟩ (.int .i64 0)).heap[w.heap.size + 1]? = some (.cells #[.slice none 0 0, .bool false, .int .i64 0, .int .i64 0] TR (0, 0)) := four_set H.out.2.2.1
    have hVb := below_four (B := w.heap.size + 1) (i := 0) (j := 1) (l := 2) (m := 3) (a := .slice none 0 0) (b := .bool false) (c := .int .i64 0) (d := .int .i64 0) H.out.1 (by omega)
    have hVs : W.heap.size = ((((W.setCell ⟨w.heap.size + 1, 0, none⟩ (.slice none 0 0)).setCell ⟨w.heap.size + 1, 1, none⟩ (.bool false)).setCell ⟨w.heap.size + 1, 2, none⟩ (.int .i64 0)).setCell ⟨w.heap.size + 1, 3, none⟩ (.int .i64 0)).heap.size := four_size.symm
    generalize ((((W.setCell ⟨w.heap.size + 1, 0, none⟩ (.slice none 0 0)).setCell ⟨w.heap.size + 1, 1, none⟩ (.bool false)).setCell ⟨w.heap.size + 1, 2, none⟩ (.int .i64 0)).setCell ⟨w.heap.size + 1, 3, none⟩ (.int .i64 0)) = V at *
    refine bodyPost_ret (results_rv rfl _ _ (w.heap.size + 1) (.slice none 0 0) (.bool false) (.int .i64 0) (.int .i64 0) (.slice (some ⟨W.heap.size, 0, none⟩) 1 1) ((heap_alloc_old V _ (by omega)).trans hV) rfl rfl) rfl ⟨_, rfl, ?_, ?_⟩
    · exact ref_raise (ref_at (ref_one V W.heap.size hVs nx) (Nat.le_refl _) (fun _ _ => rfl)) (fun j hj => by simp [Value.ownBlock] at hj; omega)
    · have := hVb.alloc hVb.size (.cells #[.int .i64 nx] 3)
      exact ⟨this.os, this.tape, this.output, this.size, this.block⟩
end Go.Proofs.Ytkcoidapnmoljaa.Rng
