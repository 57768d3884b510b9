/-
  hostlerref12: Take.
-/
import Derived.Test.YtlhblhgbpaipaaaGreatRefSrc4
namespace Go.Proofs.YtlhblhgbpaipaaaGreat.Src
open Go.RowKit
open Go.Proofs.YtlhblhgbpaipaaaGreat.Hp
open Go.Proofs.YtlhblhgbpaipaaaGreat.Pl (WSees ISees Fresh St aput adel alook stOf dueL fullL bestD takeA leftW leftI putW markR whoD hasD fullD)
set_option linter.unusedVariables false
set_option linter.unusedSimpArgs false

def takeS (now : Int) (D : List Tim) (W : List (Int × Int)) (R : List Int) : Int × Bool × List Tim × List (Int × Int) × List Int :=
  if (takeD D now).2.1 = true then ((takeD D now).1.g, true, (takeD D now).2.2, W, R) else ((takeA (bestD R W (65536, 0))).2.1, (takeA (bestD R W (65536, 0))).2.2, D, leftW (bestD R W (65536, 0)) W, leftI (bestD R W (65536, 0)) R)
set_option maxRecDepth 100000 in
set_option maxHeartbeats 4000000 in
theorem rtake12 {w : World} {lo N : Nat} {D : List Tim} {W : List (Int × Int)} {R : List Int} {a1 a2 a3 : Option Addr} {m1 c1 m2 c2 m3 c3 : Nat} (h : SS w lo N D W R (.slice a1 m1 c1) (.slice a2 m2 c2) (.slice a3 m3 c3)) (now : Int) (n o : Nat) {g : Int} {ok : Bool} {D' : List Tim} {W' : List (Int × Int)} {R' : List Int} (hm : takeS now D W R = (g, ok, D', W', R')) :
    Calls Tryz.prog 27 #[.agg #[.int .i64 now, .int .i64 n, .slice a1 m1 c1, .int .u64 o, .slice a2 m2 c2, .slice a3 m3 c3]] w fun x w' => ∃ b1 k1 d1 b2 k2 d2 b3 k3 d3, x = .returned (.tuple #[.agg #[.int .i64 now, .int .i64 n, .slice b1 k1 d1, .int .u64 o, .slice b2 k2 d2, .slice b3 k3 d3], .int .i64 g, .bool ok]) ∧ SS w' lo N D' W' R' (.slice b1 k1 d1) (.slice b2 k2 d2) (.slice b3 k3 d3) ∧ Fr3 w (.slice a1 m1 c1) (.slice a2 m2 c2) (.slice a3 m3 c3) (.slice b1 k1 d1) (.slice b2 k2 d2) (.slice b3 k3 d3) ∧ Below w.heap.size w w' := by
  have H := Lib.hid h
  clear h
  unfold takeS at hm
  obtain ⟨⟨xw, xo, xg⟩, ok1, Dn, htk⟩ : ∃ x ok D', takeD D now = (x, ok, D') := ⟨_, _, _, rfl⟩
  obtain ⟨gx, gy, ok2, htk2⟩ : ∃ x y ok, takeA (bestD R W (65536, 0)) = (x, y, ok) := ⟨_, _, _, rfl⟩
  rw [htk, htk2] at hm
  have HE := Lib.hid (And.intro htk htk2)
  clear htk htk2
  go_enter Tryz.func27, Tryz.ntmps27
  go_wp2_with fail
  have B0 := Lib.hid (c6_new w #[.int .i64 now, .int .i64 n, .slice a1 m1 c1, .int .u64 o, .slice a2 m2 c2, .slice a3 m3 c3])
  generalize ((w.alloc (.cells #[.int .i64 now, .int .i64 n, .slice a1 m1 c1, .int .u64 o, .slice a2 m2 c2, .slice a3 m3 c3] TS6)).alloc (.cells #[.int .i64 0, .int .i64 0, .slice none 0 0, .int .u64 0, .slice none 0 0, .slice none 0 0] TS6)) = W0 at *
  obtain ⟨z0, z1, z2, z3, z4, z5⟩ := six_of B0.out.b
  refine (rtake_anyT (H.out.st.below B0.out.below) (Nat.le_trans H.out.slo B0.out.below.size) (by have := H.out.b; omega) n o now HE.out.1).mono ?_
  rintro e w1 ⟨b, k, c, rfl, hs1, hf1, hb⟩
  have hal1 := below_alloc (w := w1) (.cells #[.int .i64 n, .slice b k c, .int .u64 o] TD)
  have hal2 := below_alloc (w := w1.alloc (.cells #[.int .i64 n, .slice b k c, .int .u64 o] TD)) (.cells #[.int .i64 xw, .int .u64 xo, .int .i64 xg] TE)
  have C2 := Lib.hid (((B0.out.next hb).next hal1).next hal2)
  have S2 := Lib.hid (And.intro ((((⟨hs1, ((H.out.below B0.out.below).below hb).sw, ((H.out.below B0.out.below).below hb).sr, ((H.out.below B0.out.below).below hb).slo, by have := H.out.b; have := takeD_len HE.out.1; omega⟩ : SS w1 lo N Dn W R (.slice b k c) (.slice a2 m2 c2) (.slice a3 m3 c3)).below hal1).below hal2)) (sq_f (W0 := W0) (v2 := .slice a2 m2 c2) (v3 := .slice a3 m3 c3) hf1 (Nat.le_refl _)))
  have hT1 : ((w1.alloc (.cells #[.int .i64 n, .slice b k c, .int .u64 o] TD)).alloc (.cells #[.int .i64 xw, .int .u64 xo, .int .i64 xg] TE)).heap[w1.heap.size]? = some (.cells #[.int .i64 n, .slice b k c, .int .u64 o] TD (0, 0)) := (heap_alloc_old _ _ (by simp)).trans (heap_alloc_new _ _)
  have hT2 : ((w1.alloc (.cells #[.int .i64 n, .slice b k c, .int .u64 o] TD)).alloc (.cells #[.int .i64 xw, .int .u64 xo, .int .i64 xg] TE)).heap[w1.heap.size + 1]? = some (.cells #[.int .i64 xw, .int .u64 xo, .int .i64 xg] TE (0, 0)) := by
    have := heap_alloc_new (w1.alloc (.cells #[.int .i64 n, .slice b k c, .int .u64 o] TD)) (.cells #[.int .i64 xw, .int .u64 xo, .int .i64 xg] TE)
    simpa using this
  have HZ := Lib.hid (show W0.heap.size ≤ ((w1.alloc (.cells #[.int .i64 n, .slice b k c, .int .u64 o] TD)).alloc (.cells #[.int .i64 xw, .int .u64 xo, .int .i64 xg] TE)).heap.size from Nat.le_trans hb.size (by simp; omega))
  have HT := Lib.hid (And.intro hT1 (And.intro hT2 (show w.heap.size + 1 < w1.heap.size by have := B0.out.lt; have := hb.size; omega)))
  clear z0 z1 z2 z3 z4 z5 hs1 hf1 hb hal1 hal2 hT1 hT2
  obtain ⟨z0, z1, z2, z3, z4, z5⟩ := six_of C2.out.b
  obtain ⟨y0, y1, y2, y3, y4, y5⟩ := six_of C2.out.z
  have fb := C2.out.fb
  have fz := C2.out.fz
  unfold Ent.agg
  cases ok1 with
  | true =>
    rw [if_pos rfl] at hm
    obtain ⟨rfl, rfl, rfl, rfl, rfl⟩ : xg = g ∧ true = ok ∧ Dn = D' ∧ W = W' ∧ R = R' := by cases hm; exact ⟨rfl, rfl, rfl, rfl, rfl⟩
    clear hm
    have q0 : ((w1.alloc (.cells #[.int .i64 n, .slice b k c, .int .u64 o] TD)).alloc (.cells #[.int .i64 xw, .int .u64 xo, .int .i64 xg] TE)).cell? ⟨w1.heap.size, 0, none⟩ = some (.int .i64 n) := cell_of_row _ _ 0 _ _ _ HT.out.1
    have q1 : ((w1.alloc (.cells #[.int .i64 n, .slice b k c, .int .u64 o] TD)).alloc (.cells #[.int .i64 xw, .int .u64 xo, .int .i64 xg] TE)).cell? ⟨w1.heap.size, 1, none⟩ = some (.slice b k c) := cell_of_row _ _ 1 _ _ _ HT.out.1
    have q2 : ((w1.alloc (.cells #[.int .i64 n, .slice b k c, .int .u64 o] TD)).alloc (.cells #[.int .i64 xw, .int .u64 xo, .int .i64 xg] TE)).cell? ⟨w1.heap.size, 2, none⟩ = some (.int .u64 o) := cell_of_row _ _ 2 _ _ _ HT.out.1
    go_wp2_with fail
    clear q0 q1 q2
    have hT3 : (((((w1.alloc (.cells #[.int .i64 n, .slice b k c, .int .u64 o] TD)).alloc (.cells #[.int .i64 xw, .int .u64 xo, .int .i64 xg] TE)).setCell ⟨w.heap.size, 1, none⟩ (.int .i64 n)).setCell ⟨w.heap.size, 2, none⟩ (.slice b k c)).setCell ⟨w.heap.size, 3, none⟩ (.int .u64 o)).heap[w1.heap.size + 1]? = some (.cells #[.int .i64 xw, .int .u64 xo, .int .i64 xg] TE (0, 0)) := ((heap_setCell_other _ _ _ _ (show w1.heap.size + 1 ≠ w.heap.size by have := HT.out.2.2; omega)).trans ((heap_setCell_other _ _ _ _ (show w1.heap.size + 1 ≠ w.heap.size by have := HT.out.2.2; omega)).trans (heap_setCell_other _ _ _ _ (show w1.heap.size + 1 ≠ w.heap.size by have := HT.out.2.2; omega)))).trans HT.out.2.1
    have hb3 : (((((w1.alloc (.cells #[.int .i64 n, .slice b k c, .int .u64 o] TD)).alloc (.cells #[.int .i64 xw, .int .u64 xo, .int .i64 xg] TE)).setCell ⟨w.heap.size, 1, none⟩ (.int .i64 n)).setCell ⟨w.heap.size, 2, none⟩ (.slice b k c)).setCell ⟨w.heap.size, 3, none⟩ (.int .u64 o)).heap[w.heap.size]? = some (.cells #[.int .i64 now, .int .i64 n, .slice b k c, .int .u64 o, .slice a2 m2 c2, .slice a3 m3 c3] TS6 (0, 0)) := (heap_setCell_same _ _ 3 _ _ _ (heap_setCell_same _ _ 2 _ _ _ (heap_setCell_same _ _ 1 _ _ _ C2.out.b)))
    have hs3 : ∀ j, j ≠ w.heap.size → (((((w1.alloc (.cells #[.int .i64 n, .slice b k c, .int .u64 o] TD)).alloc (.cells #[.int .i64 xw, .int .u64 xo, .int .i64 xg] TE)).setCell ⟨w.heap.size, 1, none⟩ (.int .i64 n)).setCell ⟨w.heap.size, 2, none⟩ (.slice b k c)).setCell ⟨w.heap.size, 3, none⟩ (.int .u64 o)).heap[j]? = ((w1.alloc (.cells #[.int .i64 n, .slice b k c, .int .u64 o] TD)).alloc (.cells #[.int .i64 xw, .int .u64 xo, .int .i64 xg] TE)).heap[j]? := fun j hj => ((heap_setCell_other _ _ _ _ hj).trans ((heap_setCell_other _ _ _ _ hj).trans (heap_setCell_other _ _ _ _ hj)))
    have C3 := Lib.hid (show C6 w (((((w1.alloc (.cells #[.int .i64 n, .slice b k c, .int .u64 o] TD)).alloc (.cells #[.int .i64 xw, .int .u64 xo, .int .i64 xg] TE)).setCell ⟨w.heap.size, 1, none⟩ (.int .i64 n)).setCell ⟨w.heap.size, 2, none⟩ (.slice b k c)).setCell ⟨w.heap.size, 3, none⟩ (.int .u64 o)) #[.int .i64 now, .int .i64 n, .slice b k c, .int .u64 o, .slice a2 m2 c2, .slice a3 m3 c3] from ⟨hb3, (hs3 _ (by omega)).trans C2.out.z, (Pl.below_set1 (Pl.below_set1 (Pl.below_set1 C2.out.below (Nat.le_refl _)) (Nat.le_refl _)) (Nat.le_refl _))⟩)
    have S3 := Lib.hid (S2.out.1.kept (w' := (((((w1.alloc (.cells #[.int .i64 n, .slice b k c, .int .u64 o] TD)).alloc (.cells #[.int .i64 xw, .int .u64 xo, .int .i64 xg] TE)).setCell ⟨w.heap.size, 1, none⟩ (.int .i64 n)).setCell ⟨w.heap.size, 2, none⟩ (.slice b k c)).setCell ⟨w.heap.size, 3, none⟩ (.int .u64 o))) (by simp) (fun j hj => hs3 j (S2.out.2.far H.out B0.out.lt hj).1))
    clear z0 z1 z2 z3 z4 z5 y0 y1 y2 y3 y4 y5 fb fz hb3 hs3
    generalize (((((w1.alloc (.cells #[.int .i64 n, .slice b k c, .int .u64 o] TD)).alloc (.cells #[.int .i64 xw, .int .u64 xo, .int .i64 xg] TE)).setCell ⟨w.heap.size, 1, none⟩ (.int .i64 n)).setCell ⟨w.heap.size, 2, none⟩ (.slice b k c)).setCell ⟨w.heap.size, 3, none⟩ (.int .u64 o)) = W3 at *
    have hx : W3.drew.cell? ⟨w1.heap.size + 1, 2, none⟩ = some (.int .i64 xg) := cell_of_row _ _ 2 _ _ _ hT3
    have hS : Six W3.drew w.heap.size (.int .i64 now) (.int .i64 n) (.slice b k c) (.int .u64 o) (.slice a2 m2 c2) (.slice a3 m3 c3) ∧ W3.drew.cell? ⟨w1.heap.size + 1, 2, none⟩ = some (.int .i64 xg) := ⟨six_of C3.out.b, hx⟩
    obtain ⟨y0, y1, y2, y3, y4, y5⟩ := six_of C3.out.z
    have fz := C3.out.fz
    obtain ⟨z0, z1, z2, z3, z4, z5⟩ := six_of C3.out.b
    replace hx : W3.cell? ⟨w1.heap.size + 1, 2, none⟩ = some (.int .i64 xg) := hx
    clear hS hT3
    have hne1 : ¬ w1.heap.size = w.heap.size := by have := HT.out.2.2; omega
    have hne2 : ¬ w.heap.size = w1.heap.size := by omega
    go_region
    go_wp2_with fail
    have hz1 : ((((((W3.setCell ⟨w.heap.size + 1, 0, none⟩ (.int .i64 now)).setCell ⟨w.heap.size + 1, 1, none⟩ (.int .i64 n)).setCell ⟨w.heap.size + 1, 2, none⟩ (.slice b k c)).setCell ⟨w.heap.size + 1, 3, none⟩ (.int .u64 o)).setCell ⟨w.heap.size + 1, 4, none⟩ (.slice a2 m2 c2)).setCell ⟨w.heap.size + 1, 5, none⟩ (.slice a3 m3 c3)).drew.heap[w.heap.size + 1]? = some (.cells #[.int .i64 now, .int .i64 n, .slice b k c, .int .u64 o, .slice a2 m2 c2, .slice a3 m3 c3] TS6 (0, 0)) := Go.Proofs.YtlhblhgbpaipaaaGreat.Hp.heap_drew.trans (set6_same C3.out.z)
    have hz2 : SS ((((((W3.setCell ⟨w.heap.size + 1, 0, none⟩ (.int .i64 now)).setCell ⟨w.heap.size + 1, 1, none⟩ (.int .i64 n)).setCell ⟨w.heap.size + 1, 2, none⟩ (.slice b k c)).setCell ⟨w.heap.size + 1, 3, none⟩ (.int .u64 o)).setCell ⟨w.heap.size + 1, 4, none⟩ (.slice a2 m2 c2)).setCell ⟨w.heap.size + 1, 5, none⟩ (.slice a3 m3 c3)).drew lo N Dn W R (.slice b k c) (.slice a2 m2 c2) (.slice a3 m3 c3) := (S3.out.kept (w' := ((((((W3.setCell ⟨w.heap.size + 1, 0, none⟩ (.int .i64 now)).setCell ⟨w.heap.size + 1, 1, none⟩ (.int .i64 n)).setCell ⟨w.heap.size + 1, 2, none⟩ (.slice b k c)).setCell ⟨w.heap.size + 1, 3, none⟩ (.int .u64 o)).setCell ⟨w.heap.size + 1, 4, none⟩ (.slice a2 m2 c2)).setCell ⟨w.heap.size + 1, 5, none⟩ (.slice a3 m3 c3))) (Nat.le_of_eq set6_size.symm) (fun j hj => set6_other (S2.out.2.far H.out B0.out.lt hj).2)).below below_drew
    have hz3 : Below w.heap.size w ((((((W3.setCell ⟨w.heap.size + 1, 0, none⟩ (.int .i64 now)).setCell ⟨w.heap.size + 1, 1, none⟩ (.int .i64 n)).setCell ⟨w.heap.size + 1, 2, none⟩ (.slice b k c)).setCell ⟨w.heap.size + 1, 3, none⟩ (.int .u64 o)).setCell ⟨w.heap.size + 1, 4, none⟩ (.slice a2 m2 c2)).setCell ⟨w.heap.size + 1, 5, none⟩ (.slice a3 m3 c3)).drew := (below_set6 C3.out.below (by omega)).trans below_drew
    have HZZ := Lib.hid (And.intro hz1 (And.intro hz2 hz3))
    clear hz1 hz2 hz3 z0 z1 z2 z3 z4 z5 y0 y1 y2 y3 y4 y5 fz hx
    generalize ((((((W3.setCell ⟨w.heap.size + 1, 0, none⟩ (.int .i64 now)).setCell ⟨w.heap.size + 1, 1, none⟩ (.int .i64 n)).setCell ⟨w.heap.size + 1, 2, none⟩ (.slice b k c)).setCell ⟨w.heap.size + 1, 3, none⟩ (.int .u64 o)).setCell ⟨w.heap.size + 1, 4, none⟩ (.slice a2 m2 c2)).setCell ⟨w.heap.size + 1, 5, none⟩ (.slice a3 m3 c3)).drew = Wz at *
    refine bodyPost_ret (results_ts3 rfl _ _ (w.heap.size + 1) _ _ _ _ _ _ (.int .i64 xg) (.bool true) HZZ.out.1 rfl rfl rfl) rfl ⟨b, k, c, a2, m2, c2, a3, m3, c3, rfl, HZZ.out.2.1, S2.out.2.mono B0.out.below.size, HZZ.out.2.2⟩
  | false =>
    rw [if_neg (by decide)] at hm
    obtain ⟨rfl, rfl, rfl, hW, hR⟩ : gy = g ∧ ok2 = ok ∧ D = D' ∧ leftW (bestD R W (65536, 0)) W = W' ∧ leftI (bestD R W (65536, 0)) R = R' := by cases hm; exact ⟨rfl, rfl, rfl, rfl, rfl⟩
    have HWR := Lib.hid (And.intro hW hR)
    clear hm hW hR
    go_wp2_with fail
    generalize ((w1.alloc (.cells #[.int .i64 n, .slice b k c, .int .u64 o] TD)).alloc (.cells #[.int .i64 xw, .int .u64 xo, .int .i64 xg] TE)) = W1 at *
    refine (Pl.rtake_any S2.out.1.sw S2.out.1.sr S2.out.1.slo (by have := H.out.b; omega) (by have := H.out.b; omega) rfl HE.out.2).mono ?_
    rintro e w3 ⟨b2, k2, d2, b3, k3, d3, rfl, hs2, hs3, hf2, hf3, hb⟩
    rw [HWR.out.1] at hs2
    rw [HWR.out.2] at hs3
    have Cp := C2.out
    have hsz : W0.heap.size ≤ W1.heap.size := HZ.out
    have S4 := Lib.hid (And.intro ((⟨(H.out.below (Cp.next hb).below).st, hs2, hs3, (H.out.below (Cp.next hb).below).slo, by have := H.out.b; have := Pl.leftW_len (bestD R W (65536, 0)) W; have := Pl.leftI_len (bestD R W (65536, 0)) R; rw [HWR.out.1] at *; rw [HWR.out.2] at *; omega⟩ : SS w3 lo N D W' R' (.slice a1 m1 c1) (.slice b2 k2 d2) (.slice b3 k3 d3)).below (below_alloc (.cells #[.slice b2 k2 d2, .slice b3 k3 d3] Pl.TPo))) (show Fr3 W0 (.slice a1 m1 c1) (.slice a2 m2 c2) (.slice a3 m3 c3) (.slice a1 m1 c1) (.slice b2 k2 d2) (.slice b3 k3 d3) from fun j hj => by
      rcases hj with q | q | q
      · exact .inl (.inl q)
      · rcases hf2 j q with q2 | q2
        · exact .inl (.inr (.inl q2))
        · exact .inr (Nat.le_trans hsz q2)
      · rcases hf3 j q with q2 | q2
        · exact .inl (.inr (.inr q2))
        · exact .inr (Nat.le_trans hsz q2)))
    have C4 := Lib.hid ((Cp.next hb).next (below_alloc (.cells #[.slice b2 k2 d2, .slice b3 k3 d3] Pl.TPo)))
    clear z0 z1 z2 z3 z4 z5 y0 y1 y2 y3 y4 y5 fb fz hs2 hs3 hf2 hf3 hb Cp hsz C2 S2
    have C2 := C4
    have S2 := S4
    obtain ⟨z0, z1, z2, z3, z4, z5⟩ := six_of C2.out.b
    obtain ⟨y0, y1, y2, y3, y4, y5⟩ := six_of C2.out.z
    have fb := C2.out.fb
    have fz := C2.out.fz
    go_wp2_with fail
    have hb3 : ( ((w3.alloc (.cells #[.slice b2 k2 d2, .slice b3 k3 d3] Pl.TPo)).setCell ⟨w.heap.size, 4, none⟩ (.slice b2 k2 d2)).setCell ⟨w.heap.size, 5, none⟩ (.slice b3 k3 d3)).heap[w.heap.size + 1]? = some (.cells #[.int .i64 0, .int .i64 0, .slice none 0 0, .int .u64 0, .slice none 0 0, .slice none 0 0] TS6 (0, 0)) := (heap_setCell_other _ _ _ _ (show w.heap.size + 1 ≠ w.heap.size by omega)).trans ((heap_setCell_other _ _ _ _ (show w.heap.size + 1 ≠ w.heap.size by omega)).trans C2.out.z)
    refine bodyPost_ret (results_ts3 rfl _ _ (w.heap.size + 1) _ _ _ _ _ _ (.int .i64 gy) (.bool ok2) (set6_same hb3) rfl rfl rfl) rfl ⟨a1, m1, c1, b2, k2, d2, b3, k3, d3, rfl, ?_, S2.out.2.mono B0.out.below.size, below_set6 (Pl.below_set1 (Pl.below_set1 C2.out.below (Nat.le_refl _)) (Nat.le_refl _)) (by omega)⟩
    exact S2.out.1.kept (by simp) (fun j hj => (set6_other (S2.out.2.far H.out B0.out.lt hj).2).trans ((heap_setCell_other _ _ _ _ (S2.out.2.far H.out B0.out.lt hj).1).trans (heap_setCell_other _ _ _ _ (S2.out.2.far H.out B0.out.lt hj).1)))
end Go.Proofs.YtlhblhgbpaipaaaGreat.Src
