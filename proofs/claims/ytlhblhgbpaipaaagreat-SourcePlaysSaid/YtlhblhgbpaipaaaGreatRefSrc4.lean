/-
  hostlerref12: Sleep.
-/
import Derived.Test.YtlhblhgbpaipaaaGreatRefSrc3
namespace Go.Proofs.YtlhblhgbpaipaaaGreat.Src
open Go.RowKit
open Go.Proofs.YtlhblhgbpaipaaaGreat.Hp
open Go.Proofs.YtlhblhgbpaipaaaGreat.Pl (WSees ISees Fresh St aput adel alook stOf dueL fullL bestD takeA leftW leftI putW markR whoD hasD fullD)
set_option linter.unusedVariables false
set_option linter.unusedSimpArgs false

def sleepS (n : Nat) (D : List Tim) (o : Nat) (W : List (Int × Int)) (p g t : Int) : Int × List Tim × Nat :=
  if p < 0 ∨ (n : Int) ≤ p ∨ g < 0 ∨ 4095 < g then (1, D, o) else if outS D W g = true then (8, D, o) else (0, D ++ [⟨p, ⟨t, o, g⟩⟩], o + 1)
/-- Behind the document's Add: its timers lie in the block P. -/
structure Sq (w W0 wx : World) (lo N : Nat) (D : List Tim) (W : List (Int × Int)) (R : List Int) (cs : Array Value) (v1 v2 v3 u1 : Value) (n o : Nat) (P : Nat) : Prop where
  c : C6 w wx cs
  s : SS wx lo N D W R u1 v2 v3
  f : Fr3 W0 v1 v2 v3 u1 v2 v3
  p : wx.heap[P]? = some (.cells #[.int .i64 n, u1, .int .u64 o] TD (0, 0))
  lt : w.heap.size + 1 < P
section
variable {w W0 w1 w2 : World} {lo N N' : Nat} {D D' : List Tim} {W : List (Int × Int)} {R : List Int} {cs : Array Value} {v1 v2 v3 u1 : Value} {n o : Nat}
theorem sq_f (f : FreshT w1 v1 u1) (hs : W0.heap.size ≤ w1.heap.size) : Fr3 W0 v1 v2 v3 u1 v2 v3 := fun j hj => by
  rcases hj with q | q | q
  · rcases f j q with q2 | q2
    · exact .inl (.inl q2)
    · exact .inr (Nat.le_trans hs q2)
  · exact .inl (.inr (.inl q))
  · exact .inl (.inr (.inr q))
theorem sq_new (c : C6 w w2 cs) (s : SS w2 lo N D W R u1 v2 v3) (f : Fr3 W0 v1 v2 v3 u1 v2 v3) : Sq w W0 (w2.alloc (.cells #[.int .i64 n, u1, .int .u64 o] TD)) lo N D W R cs v1 v2 v3 u1 n o w2.heap.size :=
  ⟨c.next (below_alloc _), s.below (below_alloc _), f, heap_alloc_new _ _, c.lt⟩
theorem sq_set (c : C6 w w2 cs) (s : SS w2 lo N D W R u1 v2 v3) (f : Fr3 W0 v1 v2 v3 u1 v2 v3) {P : Nat} {a b d : Value} (hp : w2.heap[P]? = some (.cells #[a, b, d] TD (0, 0))) (hP : w.heap.size + 1 < P) (hown : ∀ j, (u1.ownBlock = some j ∨ v2.ownBlock = some j ∨ v3.ownBlock = some j) → j ≠ P) :
    Sq w W0 (((w2.setCell ⟨P, 0, none⟩ (.int .i64 n)).setCell ⟨P, 1, none⟩ u1).setCell ⟨P, 2, none⟩ (.int .u64 o)) lo N D W R cs v1 v2 v3 u1 n o P :=
  ⟨⟨(box_other (by omega)).trans c.b, (box_other (by omega)).trans c.z, below_box c.below (by omega)⟩, s.kept (by simp) (fun j hj => box_other (hown j hj)), f, td_set hp _ _ _, hP⟩
end
set_option maxRecDepth 100000 in
set_option maxHeartbeats 4000000 in
theorem rsleep12 {w : World} {lo N : Nat} {D : List Tim} {W : List (Int × Int)} {R : List Int} {a1 a2 a3 : Option Addr} {m1 c1 m2 c2 m3 c3 : Nat} (h : SS w lo N D W R (.slice a1 m1 c1) (.slice a2 m2 c2) (.slice a3 m3 c3)) (hN : N < 500) (now : Int) (n o : Nat) (ho : o < 4611686018427387904) (p g d : Int) (h1 : Clk.I64 now) (h2 : Clk.I64 d) {t : Int} (ht : Clk.sat now (Clk.mx 0 d) = t) {e : Int} {D' : List Tim} {o' : Nat} (hm : sleepS n D o W p g t = (e, D', o')) {r : Bool} (hr : (if e = 0 then dueS now D' W R else false) = r) :
    Calls Tryz.prog 29 #[.agg #[.int .i64 now, .int .i64 n, .slice a1 m1 c1, .int .u64 o, .slice a2 m2 c2, .slice a3 m3 c3], .int .i64 p, .int .i64 g, .int .i64 d] w fun x w' => ∃ b k c, x = .returned (.tuple #[.agg #[.int .i64 now, .int .i64 n, .slice b k c, .int .u64 o', .slice a2 m2 c2, .slice a3 m3 c3], .bool r, .int .i64 e]) ∧ SS w' lo (N + 1) D' W R (.slice b k c) (.slice a2 m2 c2) (.slice a3 m3 c3) ∧ Fr3 w (.slice a1 m1 c1) (.slice a2 m2 c2) (.slice a3 m3 c3) (.slice b k c) (.slice a2 m2 c2) (.slice a3 m3 c3) ∧ Below w.heap.size w w' := by
  have H := Lib.hid h
  obtain ⟨v, hv⟩ : ∃ v, Clk.mx 0 d = v := ⟨_, rfl⟩
  have hmax : ∀ (ts : Array TypeId) (t : TypeId) (W : World), (Builtin.max_ ts t #[.int .i64 0, .int .i64 d]).run Tryz.prog W = .ok (.int .i64 v) W := fun ts t W => Tm.max_is hv
  rw [hv] at ht
  have HV := Lib.hid (And.intro h1 (And.intro (show Clk.I64 v by rw [← hv]; unfold Clk.mx; unfold Clk.I64 at h2 ⊢; split <;> omega) ht))
  have HSUM : Hid (∀ W0, Calls Tryz.prog 50 #[.int .i64 now, .int .i64 v] W0 fun e w' => e = .returned (.int .i64 t) ∧ W0 = w') := Lib.hid fun W0 => (HV.out.2.2 ▸ Clk.ref_any now v HV.out.1 HV.out.2.1 W0)
  clear h h1 h2 hv ht
  unfold sleepS at hm
  by_cases hb : p < 0 ∨ (n : Int) ≤ p ∨ g < 0 ∨ 4095 < g
  · rw [if_pos hb] at hm
    cases hm
    obtain rfl : r = false := by rw [← hr]; rfl
    clear hr
    have hbl : Hid (Below w.heap.size w ((w.alloc (.cells #[.int .i64 now, .int .i64 n, .slice a1 m1 c1, .int .u64 o, .slice a2 m2 c2, .slice a3 m3 c3] TS6)).alloc (.cells #[.int .i64 now, .int .i64 n, .slice a1 m1 c1, .int .u64 o, .slice a2 m2 c2, .slice a3 m3 c3] TS6))) := Lib.hid (((Below.refl _ _).alloc (Nat.le_refl _) _).alloc (by simp) _)
    have hnw : Hid (((w.alloc (.cells #[.int .i64 now, .int .i64 n, .slice a1 m1 c1, .int .u64 o, .slice a2 m2 c2, .slice a3 m3 c3] TS6)).alloc (.cells #[.int .i64 now, .int .i64 n, .slice a1 m1 c1, .int .u64 o, .slice a2 m2 c2, .slice a3 m3 c3] TS6)).heap[w.heap.size + 1]? = some (.cells #[.int .i64 now, .int .i64 n, .slice a1 m1 c1, .int .u64 o, .slice a2 m2 c2, .slice a3 m3 c3] TS6 (0, 0))) := Lib.hid (by
      have := heap_alloc_new (w.alloc (.cells #[.int .i64 now, .int .i64 n, .slice a1 m1 c1, .int .u64 o, .slice a2 m2 c2, .slice a3 m3 c3] TS6)) (.cells #[.int .i64 now, .int .i64 n, .slice a1 m1 c1, .int .u64 o, .slice a2 m2 c2, .slice a3 m3 c3] TS6)
      simpa using this)
    by_cases h3 : p < 0
    · clear hb
      go_enter Tryz.func29, Tryz.ntmps29
      go_wp2_with fail
      refine bodyPost_ret (results_ts3 rfl _ _ (w.heap.size + 1) _ _ _ _ _ _ (.bool false) (.int .i64 1) hnw.out rfl rfl rfl) rfl ⟨a1, m1, c1, rfl, (H.out.below hbl.out).up hN, fr3_refl _ _ _ _, hbl.out⟩
    · by_cases h4 : (n : Int) ≤ p
      · clear hb
        go_enter Tryz.func29, Tryz.ntmps29
        go_wp2_with fail
        refine bodyPost_ret (results_ts3 rfl _ _ (w.heap.size + 1) _ _ _ _ _ _ (.bool false) (.int .i64 1) hnw.out rfl rfl rfl) rfl ⟨a1, m1, c1, rfl, (H.out.below hbl.out).up hN, fr3_refl _ _ _ _, hbl.out⟩
      · by_cases h5 : g < 0
        · clear hb
          go_enter Tryz.func29, Tryz.ntmps29
          go_wp2_with fail
          refine bodyPost_ret (results_ts3 rfl _ _ (w.heap.size + 1) _ _ _ _ _ _ (.bool false) (.int .i64 1) hnw.out rfl rfl rfl) rfl ⟨a1, m1, c1, rfl, (H.out.below hbl.out).up hN, fr3_refl _ _ _ _, hbl.out⟩
        · have h6 : 4095 < g := by omega
          clear hb
          go_enter Tryz.func29, Tryz.ntmps29
          go_wp2_with fail
          refine bodyPost_ret (results_ts3 rfl _ _ (w.heap.size + 1) _ _ _ _ _ _ (.bool false) (.int .i64 1) hnw.out rfl rfl rfl) rfl ⟨a1, m1, c1, rfl, (H.out.below hbl.out).up hN, fr3_refl _ _ _ _, hbl.out⟩
  · rw [if_neg hb] at hm
    have e1 : (p < 0) = False := eq_false (by omega)
    have e2 : ((n : Int) ≤ p) = False := eq_false (by omega)
    have e3 : (g < 0) = False := eq_false (by omega)
    have e4 : (4095 < g) = False := eq_false (by omega)
    by_cases hq : outS D W g = true
    · rw [if_pos hq] at hm
      cases hm
      obtain rfl : r = false := by rw [← hr]; rfl
      have HO := Lib.hid hq
      clear hr hq hb
      go_enter Tryz.func29, Tryz.ntmps29
      go_wp2_with fail
      have B0 := Lib.hid (c6_new w #[.int .i64 now, .int .i64 n, .slice a1 m1 c1, .int .u64 o, .slice a2 m2 c2, .slice a3 m3 c3])
      generalize ((w.alloc (.cells #[.int .i64 now, .int .i64 n, .slice a1 m1 c1, .int .u64 o, .slice a2 m2 c2, .slice a3 m3 c3] TS6)).alloc (.cells #[.int .i64 0, .int .i64 0, .slice none 0 0, .int .u64 0, .slice none 0 0, .slice none 0 0] TS6)) = W0 at *
      refine (rout12 (H.out.below B0.out.below) now n o g HO.out).mono ?_
      rintro x w1 ⟨rfl, hb⟩
      have B1 := Lib.hid (B0.out.next hb)
      have hW1 := Lib.hid hb.size
      clear hb
      obtain ⟨z0, z1, z2, z3, z4, z5⟩ := six_of B1.out.b
      obtain ⟨y0, y1, y2, y3, y4, y5⟩ := six_of B1.out.z
      have fb := B1.out.fb
      have fz := B1.out.fz
      go_wp2_with fail
      refine bodyPost_ret (results_ts3 rfl _ _ (w.heap.size + 1) _ _ _ _ _ _ (.bool false) (.int .i64 8) (set6_same B1.out.z) rfl rfl rfl) rfl ⟨a1, m1, c1, rfl, ?_, fr3_refl _ _ _ _, below_set6 B1.out.below (by omega)⟩
      exact ((H.out.below B1.out.below).up hN).kept (Nat.le_of_eq set6_size.symm) (fun j hj => set6_other (by have := H.out.own hj; omega))
    · rw [if_neg hq] at hm
      have HO : Hid (outS D W g = false) := Lib.hid (by simpa using hq)
      obtain ⟨rfl, hD, ho'⟩ : 0 = e ∧ D ++ [⟨p, ⟨t, o, g⟩⟩] = D' ∧ o + 1 = o' := by cases hm; exact ⟨rfl, rfl, rfl⟩
      have HA : Hid (addD n D o p g t = (0, D', o')) := Lib.hid (by
        have := HO.out
        unfold outS at this
        have h7 : ¬ anyG D g = true := fun h => by rw [h] at this; cases this
        unfold addD
        rw [if_neg hb, if_neg h7, hD, ho'])
      rw [if_pos rfl] at hr
      have HR := Lib.hid hr
      clear hm hq hb hD ho' hr
      go_enter Tryz.func29, Tryz.ntmps29
      go_wp2_with fail
      have B0 := Lib.hid (c6_new w #[.int .i64 now, .int .i64 n, .slice a1 m1 c1, .int .u64 o, .slice a2 m2 c2, .slice a3 m3 c3])
      generalize ((w.alloc (.cells #[.int .i64 now, .int .i64 n, .slice a1 m1 c1, .int .u64 o, .slice a2 m2 c2, .slice a3 m3 c3] TS6)).alloc (.cells #[.int .i64 0, .int .i64 0, .slice none 0 0, .int .u64 0, .slice none 0 0, .slice none 0 0] TS6)) = W0 at *
      refine (rout12 (H.out.below B0.out.below) now n o g HO.out).mono ?_
      rintro x w1 ⟨rfl, hb⟩
      have B1 := Lib.hid (B0.out.next hb)
      have hW1 := Lib.hid hb.size
      clear hb
      obtain ⟨z0, z1, z2, z3, z4, z5⟩ := six_of B1.out.b
      obtain ⟨y0, y1, y2, y3, y4, y5⟩ := six_of B1.out.z
      have fb := B1.out.fb
      have fz := B1.out.fz
      go_upto_region 5 with fail
      go_cut [11, 12] from 35 to 47 (fun p11 e12 wx => ∃ P b k c, p11 = .pointer (some ⟨P, 0, none⟩) ∧ e12 = .int .i64 0 ∧ Sq w W0 wx lo (N + 1) D' W R #[.int .i64 now, .int .i64 n, .slice a1 m1 c1, .int .u64 o, .slice a2 m2 c2, .slice a3 m3 c3] (.slice a1 m1 c1) (.slice a2 m2 c2) (.slice a3 m3 c3) (.slice b k c) n o' P)
      case first =>
        have C0 := Lib.hid (B1.out.next (below_drew (w := w1)))
        have Ca := Lib.hid (C0.out.next (below_alloc (w := w1.drew) (.cells #[.int .i64 0, .slice none 0 0, .int .u64 0] TD)))
        have hS : Six w1.drew w.heap.size (.int .i64 now) (.int .i64 n) (.slice a1 m1 c1) (.int .u64 o) (.slice a2 m2 c2) (.slice a3 m3 c3) := six_of C0.out.b
        have hSa : Six (w1.drew.alloc (.cells #[.int .i64 0, .slice none 0 0, .int .u64 0] TD)) w.heap.size (.int .i64 now) (.int .i64 n) (.slice a1 m1 c1) (.int .u64 o) (.slice a2 m2 c2) (.slice a3 m3 c3) := six_of Ca.out.b
        clear z0 z1 z2 z3 z4 z5 y0 y1 y2 y3 y4 y5 fb fz
        go_region_held3 (fun w' => w'.cell? ⟨w.heap.size, 0, none⟩ = some (.int .i64 now) ∧ w'.cell? ⟨w.heap.size, 1, none⟩ = some (.int .i64 n) ∧ w'.cell? ⟨w.heap.size, 2, none⟩ = some (.slice a1 m1 c1) ∧ w'.cell? ⟨w.heap.size, 3, none⟩ = some (.int .u64 o) ∧ w'.cell? ⟨w.heap.size, 4, none⟩ = some (.slice a2 m2 c2) ∧ w'.cell? ⟨w.heap.size, 5, none⟩ = some (.slice a3 m3 c3))
          (first | (with_reducible exact hS) | (with_reducible exact hSa) | exact hSn | exact hSs | exact six_of (Ca.out.b))
          (first
            | (go_at_call 50; refine (HSUM.out _).mono ?_; rintro e wx ⟨rfl, rfl⟩)
            | (go_at_call 54; refine (radd_any (w := w1.drew) (H.out.st.below C0.out.below) (Nat.le_trans H.out.slo C0.out.below.size) (by have := H.out.b; omega) n o p g t HA.out ho).mono ?_; rintro e w2 ⟨b, k, c, rfl, hs2, hf2, hb2⟩; (have C2 := Lib.hid (C0.out.next hb2)); (have S2 := Lib.hid (⟨hs2, ((H.out.below C0.out.below).below hb2).sw, ((H.out.below C0.out.below).below hb2).sr, ((H.out.below C0.out.below).below hb2).slo, by have := H.out.b; have := addD_len HA.out; omega⟩ : SS w2 lo (N + 1) D' W R (.slice b k c) (.slice a2 m2 c2) (.slice a3 m3 c3))); (have F2 := Lib.hid (sq_f (W0 := W0) (v2 := .slice a2 m2 c2) (v3 := .slice a3 m3 c3) hf2 hW1.out)); clear hs2 hf2 hb2; (have hS : Six w2 w.heap.size (.int .i64 now) (.int .i64 n) (.slice a1 m1 c1) (.int .u64 o) (.slice a2 m2 c2) (.slice a3 m3 c3) := six_of C2.out.b); (have hSn : Six (w2.alloc (.cells #[.int .i64 n, .slice b k c, .int .u64 o'] TD)) w.heap.size (.int .i64 now) (.int .i64 n) (.slice a1 m1 c1) (.int .u64 o) (.slice a2 m2 c2) (.slice a3 m3 c3) := six_of (C2.out.next (below_alloc _)).b); (have hSa : Six (w2.alloc (.cells #[.int .i64 0, .slice none 0 0, .int .u64 0] TD)) w.heap.size (.int .i64 now) (.int .i64 n) (.slice a1 m1 c1) (.int .u64 o) (.slice a2 m2 c2) (.slice a3 m3 c3) := six_of (C2.out.next (below_alloc _)).b))
            | (go_at_call 54; refine (radd_any (w := w1.drew.alloc (.cells #[.int .i64 0, .slice none 0 0, .int .u64 0] TD)) (H.out.st.below Ca.out.below) (Nat.le_trans H.out.slo Ca.out.below.size) (by have := H.out.b; omega) n o p g t HA.out ho).mono ?_; rintro e w2 ⟨b, k, c, rfl, hs2, hf2, hb2⟩; (have C2 := Lib.hid (Ca.out.next hb2)); (have S2 := Lib.hid (⟨hs2, ((H.out.below Ca.out.below).below hb2).sw, ((H.out.below Ca.out.below).below hb2).sr, ((H.out.below Ca.out.below).below hb2).slo, by have := H.out.b; have := addD_len HA.out; omega⟩ : SS w2 lo (N + 1) D' W R (.slice b k c) (.slice a2 m2 c2) (.slice a3 m3 c3))); (have F2 := Lib.hid (sq_f (W0 := W0) (v2 := .slice a2 m2 c2) (v3 := .slice a3 m3 c3) hf2 (Nat.le_trans hW1.out (by simp)))); (have hp2 := (hb2.block w1.heap.size (by simp)).trans (heap_alloc_new w1.drew (.cells #[.int .i64 0, .slice none 0 0, .int .u64 0] TD))); (have HP2 := Lib.hid (And.intro hp2 (show ∀ j, ((Value.slice b k c).ownBlock = some j ∨ (Value.slice a2 m2 c2).ownBlock = some j ∨ (Value.slice a3 m3 c3).ownBlock = some j) → j ≠ w1.heap.size from fun j hj => by
                have hwl : w.heap.size ≤ w1.heap.size := B1.out.below.size
                rcases hj with q | q
                · rcases hf2 j q with q2 | q2
                  · have := H.out.own (.inl q2); omega
                  · have : w1.heap.size + 1 ≤ j := by simpa using q2
                    omega
                · have := H.out.own (.inr q); omega))); (obtain ⟨p0, p1, p2⟩ : w2.cell? ⟨w1.heap.size, 0, none⟩ = some (.int .i64 0) ∧ w2.cell? ⟨w1.heap.size, 1, none⟩ = some (.slice none 0 0) ∧ w2.cell? ⟨w1.heap.size, 2, none⟩ = some (.int .u64 0) := ⟨cell_of_row _ _ 0 _ _ _ hp2, cell_of_row _ _ 1 _ _ _ hp2, cell_of_row _ _ 2 _ _ _ hp2⟩); (have fp : ∀ i, w2.frozen? ⟨w1.heap.size, i, none⟩ = false := fun i => frozen_of_row _ _ i _ _ hp2); clear hs2 hf2 hb2 hp2; (have hS : Six w2 w.heap.size (.int .i64 now) (.int .i64 n) (.slice a1 m1 c1) (.int .u64 o) (.slice a2 m2 c2) (.slice a3 m3 c3) := six_of C2.out.b); (have HQ := Lib.hid (sq_set (n := n) (o := o') (v1 := .slice a1 m1 c1) C2.out S2.out F2.out HP2.out.1 B1.out.lt HP2.out.2)); (have hSs : Six (((w2.setCell ⟨w1.heap.size, 0, none⟩ (.int .i64 n)).setCell ⟨w1.heap.size, 1, none⟩ (.slice b k c)).setCell ⟨w1.heap.size, 2, none⟩ (.int .u64 o')) w.heap.size (.int .i64 now) (.int .i64 n) (.slice a1 m1 c1) (.int .u64 o) (.slice a2 m2 c2) (.slice a3 m3 c3) := six_of HQ.out.c.b)))
        all_goals (
          go_wp2_with fail
          go_meet
          first
            | exact ⟨_, b, k, c, rfl, rfl, HQ.out⟩
            | exact ⟨_, b, k, c, rfl, rfl, sq_new C2.out S2.out F2.out⟩)
      case rest =>
        obtain ⟨P, b, k, c, rfl, rfl, hQ⟩ := hcut
        have hp := hQ.p
        have C2 := Lib.hid hQ.c
        have S2 := Lib.hid (And.intro hQ.s hQ.f)
        have q0 : wc.cell? ⟨P, 0, none⟩ = some (.int .i64 n) := cell_of_row _ _ 0 _ _ _ hp
        have q1 : wc.cell? ⟨P, 1, none⟩ = some (.slice b k c) := cell_of_row _ _ 1 _ _ _ hp
        have q2 : wc.cell? ⟨P, 2, none⟩ = some (.int .u64 o') := cell_of_row _ _ 2 _ _ _ hp
        clear z0 z1 z2 z3 z4 z5 y0 y1 y2 y3 y4 y5 fb fz hp hQ
        obtain ⟨z0, z1, z2, z3, z4, z5⟩ := six_of C2.out.b
        obtain ⟨y0, y1, y2, y3, y4, y5⟩ := six_of C2.out.z
        have fb := C2.out.fb
        have fz := C2.out.fz
        go_wp2_with fail
        have hb3 : (((wc.setCell ⟨w.heap.size, 1, none⟩ (.int .i64 n)).setCell ⟨w.heap.size, 2, none⟩ (.slice b k c)).setCell ⟨w.heap.size, 3, none⟩ (.int .u64 o')).heap[w.heap.size]? = some (.cells #[.int .i64 now, .int .i64 n, .slice b k c, .int .u64 o', .slice a2 m2 c2, .slice a3 m3 c3] TS6 (0, 0)) := (heap_setCell_same _ _ 3 _ _ _ (heap_setCell_same _ _ 2 _ _ _ (heap_setCell_same _ _ 1 _ _ _ C2.out.b)))
        have hs3 : ∀ j, j ≠ w.heap.size → (((wc.setCell ⟨w.heap.size, 1, none⟩ (.int .i64 n)).setCell ⟨w.heap.size, 2, none⟩ (.slice b k c)).setCell ⟨w.heap.size, 3, none⟩ (.int .u64 o')).heap[j]? = wc.heap[j]? := fun j hj => ((heap_setCell_other _ _ _ _ hj).trans ((heap_setCell_other _ _ _ _ hj).trans (heap_setCell_other _ _ _ _ hj)))
        have C3 := Lib.hid (show C6 w (((wc.setCell ⟨w.heap.size, 1, none⟩ (.int .i64 n)).setCell ⟨w.heap.size, 2, none⟩ (.slice b k c)).setCell ⟨w.heap.size, 3, none⟩ (.int .u64 o')) #[.int .i64 now, .int .i64 n, .slice b k c, .int .u64 o', .slice a2 m2 c2, .slice a3 m3 c3] from ⟨hb3, (hs3 _ (by omega)).trans C2.out.z, (Pl.below_set1 (Pl.below_set1 (Pl.below_set1 C2.out.below (Nat.le_refl _)) (Nat.le_refl _)) (Nat.le_refl _))⟩)
        have S3 := Lib.hid (S2.out.1.kept (w' := (((wc.setCell ⟨w.heap.size, 1, none⟩ (.int .i64 n)).setCell ⟨w.heap.size, 2, none⟩ (.slice b k c)).setCell ⟨w.heap.size, 3, none⟩ (.int .u64 o'))) (by simp) (fun j hj => hs3 j (S2.out.2.far H.out B0.out.lt hj).1))
        clear z0 z1 z2 z3 z4 z5 y0 y1 y2 y3 y4 y5 fb fz hb3 hs3
        generalize (((wc.setCell ⟨w.heap.size, 1, none⟩ (.int .i64 n)).setCell ⟨w.heap.size, 2, none⟩ (.slice b k c)).setCell ⟨w.heap.size, 3, none⟩ (.int .u64 o')) = W3 at *
        have hS : Six W3.drew w.heap.size (.int .i64 now) (.int .i64 n) (.slice b k c) (.int .u64 o') (.slice a2 m2 c2) (.slice a3 m3 c3) := six_of (C3.out.next (below_drew (w := W3))).b
        go_region_held3 (fun w' => w'.cell? ⟨w.heap.size, 0, none⟩ = some (.int .i64 now) ∧ w'.cell? ⟨w.heap.size, 1, none⟩ = some (.int .i64 n) ∧ w'.cell? ⟨w.heap.size, 2, none⟩ = some (.slice b k c) ∧ w'.cell? ⟨w.heap.size, 3, none⟩ = some (.int .u64 o') ∧ w'.cell? ⟨w.heap.size, 4, none⟩ = some (.slice a2 m2 c2) ∧ w'.cell? ⟨w.heap.size, 5, none⟩ = some (.slice a3 m3 c3))
          (first | (with_reducible exact hS) | exact hSz)
          (first
            | (go_at_call 10; refine (rdue12 (S3.out.below (below_drew (w := W3))) _ n _ HR.out).mono ?_; rintro e w5 ⟨rfl, hb⟩; (have C5 := Lib.hid ((C3.out.next (below_drew (w := W3))).next hb)); (have S5 := Lib.hid ((S3.out.below (below_drew (w := W3))).below hb)); clear hb; (have hS : Six w5 w.heap.size (.int .i64 now) (.int .i64 n) (.slice b k c) (.int .u64 o') (.slice a2 m2 c2) (.slice a3 m3 c3) := six_of C5.out.b); (obtain ⟨y0, y1, y2, y3, y4, y5⟩ := six_of C5.out.z); (have fz := C5.out.fz); (have hSz : Six (set6 w5 (w.heap.size + 1) (.int .i64 now) (.int .i64 n) (.slice b k c) (.int .u64 o') (.slice a2 m2 c2) (.slice a3 m3 c3)) w.heap.size (.int .i64 now) (.int .i64 n) (.slice b k c) (.int .u64 o') (.slice a2 m2 c2) (.slice a3 m3 c3) := six_of ((set6_other (by omega)).trans C5.out.b))))
        all_goals (
          go_wp2_with fail
          refine bodyPost_ret (results_ts3 rfl _ _ (w.heap.size + 1) _ _ _ _ _ _ (.bool r) (.int .i64 0) (set6_same C5.out.z) rfl rfl rfl) rfl ⟨b, k, c, rfl, S5.out.kept (Nat.le_of_eq set6_size.symm) (fun j hj => set6_other (S2.out.2.far H.out B0.out.lt hj).2), S2.out.2.mono B0.out.below.size, below_set6 C5.out.below (by omega)⟩)

end Go.Proofs.YtlhblhgbpaipaaaGreat.Src
