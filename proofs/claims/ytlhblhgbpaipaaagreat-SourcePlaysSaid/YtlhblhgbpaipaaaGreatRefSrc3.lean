/-
  hostlerref12: Wait, Tick, New.
-/
import Derived.Test.YtlhblhgbpaipaaaGreatMgSrc
import Derived.Test.YtlhblhgbpaipaaaGreatTimerTms
namespace Go.Proofs.YtlhblhgbpaipaaaGreat.Src
open Go.RowKit
open Go.Proofs.YtlhblhgbpaipaaaGreat.Hp
open Go.Proofs.YtlhblhgbpaipaaaGreat.Pl (WSees ISees Fresh St aput adel alook stOf dueL fullL bestD takeA leftW leftI putW markR whoD hasD fullD)
set_option linter.unusedVariables false
set_option linter.unusedSimpArgs false

def waitS (D : List Tim) (W : List (Int × Int)) (R : List Int) (fd g : Int) : Int × List (Int × Int) :=
  if g < 0 ∨ 4095 < g then (1, W) else if outS D W g = true then (8, W) else putW W R fd g
set_option maxRecDepth 100000 in
set_option maxHeartbeats 2000000 in
theorem rwait12 {w : World} {lo N : Nat} {D : List Tim} {W : List (Int × Int)} {R : List Int} {a1 a2 a3 : Option Addr} {m1 c1 m2 c2 m3 c3 : Nat} (h : SS w lo N D W R (.slice a1 m1 c1) (.slice a2 m2 c2) (.slice a3 m3 c3)) (hN : N < 500) (now : Int) (n o : Nat) (fd g : Int) {e : Int} {W' : List (Int × Int)} (hm : waitS D W R fd g = (e, W')) {r : Bool} (hr : (if e = 0 then dueS now D W' R else false) = r) :
    Calls Tryz.prog 22 #[.agg #[.int .i64 now, .int .i64 n, .slice a1 m1 c1, .int .u64 o, .slice a2 m2 c2, .slice a3 m3 c3], .int .i64 fd, .int .i64 g] w fun x w' => ∃ b k c, x = .returned (.tuple #[.agg #[.int .i64 now, .int .i64 n, .slice a1 m1 c1, .int .u64 o, .slice b k c, .slice a3 m3 c3], .bool r, .int .i64 e]) ∧ SS w' lo (N + 1) D W' R (.slice a1 m1 c1) (.slice b k c) (.slice a3 m3 c3) ∧ Fr3 w (.slice a1 m1 c1) (.slice a2 m2 c2) (.slice a3 m3 c3) (.slice a1 m1 c1) (.slice b k c) (.slice a3 m3 c3) ∧ Below w.heap.size w w' := by
  have H := Lib.hid h
  clear h
  unfold waitS at hm
  by_cases hb : g < 0 ∨ 4095 < g
  · rw [if_pos hb] at hm
    cases hm
    obtain rfl : r = false := by rw [← hr]; rfl
    clear hr
    have hbl : Hid (Below w.heap.size w ((w.alloc (.cells #[.int .i64 now, .int .i64 n, .slice a1 m1 c1, .int .u64 o, .slice a2 m2 c2, .slice a3 m3 c3] TS6)).alloc (.cells #[.int .i64 now, .int .i64 n, .slice a1 m1 c1, .int .u64 o, .slice a2 m2 c2, .slice a3 m3 c3] TS6))) := Lib.hid (((Below.refl _ _).alloc (Nat.le_refl _) _).alloc (by simp) _)
    have hnw : Hid (((w.alloc (.cells #[.int .i64 now, .int .i64 n, .slice a1 m1 c1, .int .u64 o, .slice a2 m2 c2, .slice a3 m3 c3] TS6)).alloc (.cells #[.int .i64 now, .int .i64 n, .slice a1 m1 c1, .int .u64 o, .slice a2 m2 c2, .slice a3 m3 c3] TS6)).heap[w.heap.size + 1]? = some (.cells #[.int .i64 now, .int .i64 n, .slice a1 m1 c1, .int .u64 o, .slice a2 m2 c2, .slice a3 m3 c3] TS6 (0, 0))) := Lib.hid (by
      have := heap_alloc_new (w.alloc (.cells #[.int .i64 now, .int .i64 n, .slice a1 m1 c1, .int .u64 o, .slice a2 m2 c2, .slice a3 m3 c3] TS6)) (.cells #[.int .i64 now, .int .i64 n, .slice a1 m1 c1, .int .u64 o, .slice a2 m2 c2, .slice a3 m3 c3] TS6)
      simpa using this)
    by_cases h3 : g < 0
    · clear hb
      go_enter Tryz.func22, Tryz.ntmps22
      go_wp2_with fail
      refine bodyPost_ret (results_ts3 rfl _ _ (w.heap.size + 1) _ _ _ _ _ _ (.bool false) (.int .i64 1) hnw.out rfl rfl rfl) rfl ⟨a2, m2, c2, rfl, (H.out.below hbl.out).up hN, fr3_refl _ _ _ _, hbl.out⟩
    · have h4 : 4095 < g := by omega
      clear hb
      go_enter Tryz.func22, Tryz.ntmps22
      go_wp2_with fail
      refine bodyPost_ret (results_ts3 rfl _ _ (w.heap.size + 1) _ _ _ _ _ _ (.bool false) (.int .i64 1) hnw.out rfl rfl rfl) rfl ⟨a2, m2, c2, rfl, (H.out.below hbl.out).up hN, fr3_refl _ _ _ _, hbl.out⟩
  · rw [if_neg hb] at hm
    have e3 : (g < 0) = False := eq_false (by omega)
    have e4 : (4095 < g) = False := eq_false (by omega)
    by_cases hq : outS D W g = true
    · rw [if_pos hq] at hm
      cases hm
      obtain rfl : r = false := by rw [← hr]; rfl
      have HO := Lib.hid hq
      clear hr hq hb
      go_enter Tryz.func22, Tryz.ntmps22
      go_wp2_with fail
      have B0 := Lib.hid (c6_new w #[.int .i64 now, .int .i64 n, .slice a1 m1 c1, .int .u64 o, .slice a2 m2 c2, .slice a3 m3 c3])
      generalize ((w.alloc (.cells #[.int .i64 now, .int .i64 n, .slice a1 m1 c1, .int .u64 o, .slice a2 m2 c2, .slice a3 m3 c3] TS6)).alloc (.cells #[.int .i64 0, .int .i64 0, .slice none 0 0, .int .u64 0, .slice none 0 0, .slice none 0 0] TS6)) = W0 at *
      refine (rout12 (H.out.below B0.out.below) now n o g HO.out).mono ?_
      rintro x w1 ⟨rfl, hb⟩
      have B1 := Lib.hid (B0.out.next hb)
      have hW1 := Lib.hid hb.size
      clear hb
      obtain ⟨z0, z1, z2, z3, z4, z5⟩ := six_of B1.out.b
      obtain ⟨y0, y1, y2, y3, y4, y5⟩ := six_of B1.out.z
      have fb := B1.out.fb
      have fz := B1.out.fz
      go_wp2_with fail
      refine bodyPost_ret (results_ts3 rfl _ _ (w.heap.size + 1) _ _ _ _ _ _ (.bool false) (.int .i64 8) (set6_same B1.out.z) rfl rfl rfl) rfl ⟨a2, m2, c2, rfl, ?_, fr3_refl _ _ _ _, below_set6 B1.out.below (by omega)⟩
      exact ((H.out.below B1.out.below).up hN).kept (Nat.le_of_eq set6_size.symm) (fun j hj => set6_other (by have := H.out.own hj; omega))
    · rw [if_neg hq] at hm
      have HO : Hid (outS D W g = false) := Lib.hid (by simpa using hq)
      have HM := Lib.hid hm
      clear hm hq hb
      go_enter Tryz.func22, Tryz.ntmps22
      go_wp2_with fail
      have B0 := Lib.hid (c6_new w #[.int .i64 now, .int .i64 n, .slice a1 m1 c1, .int .u64 o, .slice a2 m2 c2, .slice a3 m3 c3])
      generalize ((w.alloc (.cells #[.int .i64 now, .int .i64 n, .slice a1 m1 c1, .int .u64 o, .slice a2 m2 c2, .slice a3 m3 c3] TS6)).alloc (.cells #[.int .i64 0, .int .i64 0, .slice none 0 0, .int .u64 0, .slice none 0 0, .slice none 0 0] TS6)) = W0 at *
      refine (rout12 (H.out.below B0.out.below) now n o g HO.out).mono ?_
      rintro x w1 ⟨rfl, hb⟩
      have B1 := Lib.hid (B0.out.next hb)
      have hW1 := Lib.hid hb.size
      clear hb
      obtain ⟨z0, z1, z2, z3, z4, z5⟩ := six_of B1.out.b
      obtain ⟨y0, y1, y2, y3, y4, y5⟩ := six_of B1.out.z
      have fb := B1.out.fb
      have fz := B1.out.fz
      go_wp2_with fail
      refine (Pl.rput_any (H.out.sw.below B1.out.below) (H.out.sr.below B1.out.below) (Nat.le_trans H.out.slo B1.out.below.size) (by have := H.out.b; omega) (by have := H.out.b; omega) fd g HM.out).mono ?_
      rintro x w2 ⟨b, k, c, rfl, hs2, hf2, hb2⟩
      have C2 := Lib.hid ((B1.out.next hb2).next (below_alloc (.cells #[.slice b k c, .slice a3 m3 c3] Pl.TPo)))
      have S2 := Lib.hid (And.intro (show SS (w2.alloc (.cells #[.slice b k c, .slice a3 m3 c3] Pl.TPo)) lo (N + 1) D W' R (.slice a1 m1 c1) (.slice b k c) (.slice a3 m3 c3) from ((⟨((H.out.below B1.out.below).below hb2).st, hs2, ((H.out.below B1.out.below).below hb2).sr, ((H.out.below B1.out.below).below hb2).slo, by have := H.out.b; have := Pl.putW_len HM.out; omega⟩ : SS w2 lo (N + 1) D W' R (.slice a1 m1 c1) (.slice b k c) (.slice a3 m3 c3)).below (below_alloc _))) (show Fr3 W0 (.slice a1 m1 c1) (.slice a2 m2 c2) (.slice a3 m3 c3) (.slice a1 m1 c1) (.slice b k c) (.slice a3 m3 c3) from fun j hj => by
        rcases hj with q | q | q
        · exact .inl (.inl q)
        · rcases hf2 j q with q2 | q2
          · exact .inl (.inr (.inl q2))
          · exact .inr (by have := B1.out.lt; have := hW1.out; omega)
        · exact .inl (.inr (.inr q))))
      clear z0 z1 z2 z3 z4 z5 y0 y1 y2 y3 y4 y5 fb fz hs2 hf2 hb2
      obtain ⟨z0, z1, z2, z3, z4, z5⟩ := six_of C2.out.b
      obtain ⟨y0, y1, y2, y3, y4, y5⟩ := six_of C2.out.z
      have fb := C2.out.fb
      have fz := C2.out.fz
      by_cases he : e = 0
      · subst he
        rw [if_pos rfl] at hr
        have HR := Lib.hid hr
        clear hr
        go_wp2_with fail
        have hb3 : (((w2.alloc (.cells #[.slice b k c, .slice a3 m3 c3] Pl.TPo)).setCell ⟨w.heap.size, 4, none⟩ (.slice b k c)).setCell ⟨w.heap.size, 5, none⟩ (.slice a3 m3 c3)).heap[w.heap.size]? = some (.cells #[.int .i64 now, .int .i64 n, .slice a1 m1 c1, .int .u64 o, .slice b k c, .slice a3 m3 c3] TS6 (0, 0)) := (heap_setCell_same _ _ 5 _ _ _ (heap_setCell_same _ _ 4 _ _ _ C2.out.b))
        have hs3 : ∀ j, j ≠ w.heap.size → (((w2.alloc (.cells #[.slice b k c, .slice a3 m3 c3] Pl.TPo)).setCell ⟨w.heap.size, 4, none⟩ (.slice b k c)).setCell ⟨w.heap.size, 5, none⟩ (.slice a3 m3 c3)).heap[j]? = (w2.alloc (.cells #[.slice b k c, .slice a3 m3 c3] Pl.TPo)).heap[j]? := fun j hj => ((heap_setCell_other _ _ _ _ hj).trans (heap_setCell_other _ _ _ _ hj))
        have C3 := Lib.hid (show C6 w (((w2.alloc (.cells #[.slice b k c, .slice a3 m3 c3] Pl.TPo)).setCell ⟨w.heap.size, 4, none⟩ (.slice b k c)).setCell ⟨w.heap.size, 5, none⟩ (.slice a3 m3 c3)) #[.int .i64 now, .int .i64 n, .slice a1 m1 c1, .int .u64 o, .slice b k c, .slice a3 m3 c3] from ⟨hb3, (hs3 _ (by omega)).trans C2.out.z, (Pl.below_set1 (Pl.below_set1 C2.out.below (Nat.le_refl _)) (Nat.le_refl _))⟩)
        have S3 := Lib.hid (S2.out.1.kept (w' := (((w2.alloc (.cells #[.slice b k c, .slice a3 m3 c3] Pl.TPo)).setCell ⟨w.heap.size, 4, none⟩ (.slice b k c)).setCell ⟨w.heap.size, 5, none⟩ (.slice a3 m3 c3))) (by simp) (fun j hj => hs3 j (S2.out.2.far H.out B0.out.lt hj).1))
        clear z0 z1 z2 z3 z4 z5 y0 y1 y2 y3 y4 y5 fb fz hb3 hs3
        generalize (((w2.alloc (.cells #[.slice b k c, .slice a3 m3 c3] Pl.TPo)).setCell ⟨w.heap.size, 4, none⟩ (.slice b k c)).setCell ⟨w.heap.size, 5, none⟩ (.slice a3 m3 c3)) = W3 at *
        have hS : Six W3.drew w.heap.size (.int .i64 now) (.int .i64 n) (.slice a1 m1 c1) (.int .u64 o) (.slice b k c) (.slice a3 m3 c3) := six_of (C3.out.next (below_drew (w := W3))).b
        go_region_held3 (fun w' => w'.cell? ⟨w.heap.size, 0, none⟩ = some (.int .i64 now) ∧ w'.cell? ⟨w.heap.size, 1, none⟩ = some (.int .i64 n) ∧ w'.cell? ⟨w.heap.size, 2, none⟩ = some (.slice a1 m1 c1) ∧ w'.cell? ⟨w.heap.size, 3, none⟩ = some (.int .u64 o) ∧ w'.cell? ⟨w.heap.size, 4, none⟩ = some (.slice b k c) ∧ w'.cell? ⟨w.heap.size, 5, none⟩ = some (.slice a3 m3 c3))
          (first | (with_reducible exact hS) | exact hSz)
          (first
            | (go_at_call 10; refine (rdue12 (S3.out.below (below_drew (w := W3))) _ n _ HR.out).mono ?_; rintro e w5 ⟨rfl, hb⟩; (have C5 := Lib.hid ((C3.out.next (below_drew (w := W3))).next hb)); (have S5 := Lib.hid ((S3.out.below (below_drew (w := W3))).below hb)); clear hb; (have hS : Six w5 w.heap.size (.int .i64 now) (.int .i64 n) (.slice a1 m1 c1) (.int .u64 o) (.slice b k c) (.slice a3 m3 c3) := six_of C5.out.b); (obtain ⟨y0, y1, y2, y3, y4, y5⟩ := six_of C5.out.z); (have fz := C5.out.fz); (have hSz : Six (set6 w5 (w.heap.size + 1) (.int .i64 now) (.int .i64 n) (.slice a1 m1 c1) (.int .u64 o) (.slice b k c) (.slice a3 m3 c3)) w.heap.size (.int .i64 now) (.int .i64 n) (.slice a1 m1 c1) (.int .u64 o) (.slice b k c) (.slice a3 m3 c3) := six_of ((set6_other (by omega)).trans C5.out.b))))
        all_goals (
          go_wp2_with fail
          refine bodyPost_ret (results_ts3 rfl _ _ (w.heap.size + 1) _ _ _ _ _ _ (.bool r) (.int .i64 0) (set6_same C5.out.z) rfl rfl rfl) rfl ⟨b, k, c, rfl, S5.out.kept (Nat.le_of_eq set6_size.symm) (fun j hj => set6_other (S2.out.2.far H.out B0.out.lt hj).2), S2.out.2.mono B0.out.below.size, below_set6 C5.out.below (by omega)⟩)
      · rw [if_neg he] at hr
        obtain rfl : r = false := hr.symm
        have hW : W' = W := by
          have := HM.out
          unfold putW at this
          (repeat' split at this) <;> cases this <;> first | rfl | exact absurd rfl he
        subst hW
        have heb : (e != 0) = true := by simpa using he
        have HE := Lib.hid he
        clear he
        go_wp2_with fail
        generalize (w2.alloc (.cells #[.slice b k c, .slice a3 m3 c3] Pl.TPo)) = W2 at *
        go_wp2_with fail
        refine bodyPost_ret (results_ts3 rfl _ _ (w.heap.size + 1) _ _ _ _ _ _ (.bool false) (.int .i64 e) (set6_same C2.out.z) rfl rfl rfl) rfl ⟨a2, m2, c2, rfl, ?_, fr3_refl _ _ _ _, below_set6 C2.out.below (by omega)⟩
        exact ((H.out.below C2.out.below).up hN).kept (Nat.le_of_eq set6_size.symm) (fun j hj => set6_other (by have := H.out.own hj; omega))

set_option maxRecDepth 100000 in
set_option maxHeartbeats 2000000 in
theorem rtick12 {w : World} {lo N : Nat} {D : List Tim} {W : List (Int × Int)} {R : List Int} {a1 a2 a3 : Option Addr} {m1 c1 m2 c2 m3 c3 : Nat} (h : SS w lo N D W R (.slice a1 m1 c1) (.slice a2 m2 c2) (.slice a3 m3 c3)) (now : Int) (n o : Nat) (d : Int) (h1 : Clk.I64 now) (h2 : Clk.I64 d) {t : Int} (ht : Clk.sat now (Clk.mx 0 d) = t) :
    Calls Tryz.prog 24 #[.agg #[.int .i64 now, .int .i64 n, .slice a1 m1 c1, .int .u64 o, .slice a2 m2 c2, .slice a3 m3 c3], .int .i64 d] w fun x w' => x = .returned (.agg #[.int .i64 t, .int .i64 n, .slice a1 m1 c1, .int .u64 o, .slice a2 m2 c2, .slice a3 m3 c3]) ∧ SS w' lo N D W R (.slice a1 m1 c1) (.slice a2 m2 c2) (.slice a3 m3 c3) ∧ Below w.heap.size w w' := by
  have H := Lib.hid h
  obtain ⟨v, hv⟩ : ∃ v, Clk.mx 0 d = v := ⟨_, rfl⟩
  have hmax : ∀ (ts : Array TypeId) (t : TypeId) (W : World), (Builtin.max_ ts t #[.int .i64 0, .int .i64 d]).run Tryz.prog W = .ok (.int .i64 v) W := fun ts t W => Tm.max_is hv
  rw [hv] at ht
  have HV := Lib.hid (And.intro h1 (And.intro (show Clk.I64 v by rw [← hv]; unfold Clk.mx; unfold Clk.I64 at h2 ⊢; split <;> omega) ht))
  clear h h1 h2 hv ht
  go_enter Tryz.func24, Tryz.ntmps24
  go_wp2_with fail
  have B0 := Lib.hid (c6_new w #[.int .i64 now, .int .i64 n, .slice a1 m1 c1, .int .u64 o, .slice a2 m2 c2, .slice a3 m3 c3])
  generalize ((w.alloc (.cells #[.int .i64 now, .int .i64 n, .slice a1 m1 c1, .int .u64 o, .slice a2 m2 c2, .slice a3 m3 c3] TS6)).alloc (.cells #[.int .i64 0, .int .i64 0, .slice none 0 0, .int .u64 0, .slice none 0 0, .slice none 0 0] TS6)) = W0 at *
  obtain ⟨z0, z1, z2, z3, z4, z5⟩ := six_of B0.out.b
  obtain ⟨y0, y1, y2, y3, y4, y5⟩ := six_of B0.out.z
  have fb := B0.out.fb
  have fz := B0.out.fz
  refine ((HV.out.2.2 ▸ Clk.ref_any now v HV.out.1 HV.out.2.1 W0 : Calls Tryz.prog 50 #[.int .i64 now, .int .i64 v] W0 fun e w' => e = .returned (.int .i64 t) ∧ W0 = w')).mono ?_
  rintro x w1 ⟨rfl, rfl⟩
  go_wp2_with fail
  refine bodyPost_ret (results_ts1 rfl _ _ (w.heap.size + 1) _ _ _ _ _ _ (set6_same ((heap_setCell_other _ _ _ _ (show w.heap.size + 1 ≠ w.heap.size by omega)).trans B0.out.z)) rfl) rfl ⟨rfl, ?_, below_set6 (Pl.below_set1 B0.out.below (Nat.le_refl _)) (by omega)⟩
  exact (H.out.below B0.out.below).kept (by simp) (fun j hj => (set6_other (by have := H.out.own hj; omega)).trans (heap_setCell_other _ _ _ _ (show j ≠ w.heap.size by have := H.out.own hj; omega)))

set_option maxRecDepth 100000 in
set_option maxHeartbeats 2000000 in
theorem rnew12 (w : World) (p : Int) (n : Nat) (hn : (n : Int) = if p < 1 then 1 else if 64 < p then 64 else p) :
    Calls Tryz.prog 6 #[.int .i64 p] w fun x w' => x = .returned (.agg #[.int .i64 0, .int .i64 n, .slice none 0 0, .int .u64 0, .slice none 0 0, .slice none 0 0]) ∧ Below w.heap.size w w' := by
  have HN := Lib.hid hn
  clear hn
  go_enter Tryz.func6, Tryz.ntmps6
  go_wp2_with fail
  have hal := below_alloc (w := w) (.cells #[.int .i64 0, .int .i64 0, .slice none 0 0, .int .u64 0, .slice none 0 0, .slice none 0 0] TS6)
  have hnw := heap_alloc_new w (.cells #[.int .i64 0, .int .i64 0, .slice none 0 0, .int .u64 0, .slice none 0 0, .slice none 0 0] TS6)
  have HA := Lib.hid (And.intro hal hnw)
  clear hal hnw
  generalize (w.alloc (.cells #[.int .i64 0, .int .i64 0, .slice none 0 0, .int .u64 0, .slice none 0 0, .slice none 0 0] TS6)) = W0 at *
  refine (rnew_is W0 p n HN.out).mono ?_
  rintro x w1 ⟨rfl, hb⟩
  have HB := Lib.hid (And.intro ((hb.block _ (Array.getElem?_eq_some_iff.1 HA.out.2).1).trans HA.out.2) (HA.out.1.trans (hb.mono HA.out.1.size)))
  clear hb
  obtain ⟨y0, y1, y2, y3, y4, y5⟩ := six_of HB.out.1
  have fz : ∀ i, w1.frozen? ⟨w.heap.size, i, none⟩ = false := fun i => frozen_of_row _ _ i _ _ HB.out.1
  go_wp2_with fail
  refine bodyPost_ret (results_ts1 rfl _ _ w.heap.size _ _ _ _ _ _ (set6_same HB.out.1) rfl) rfl ⟨rfl, below_set6 HB.out.2 (Nat.le_refl _)⟩

end Go.Proofs.YtlhblhgbpaipaaaGreat.Src
