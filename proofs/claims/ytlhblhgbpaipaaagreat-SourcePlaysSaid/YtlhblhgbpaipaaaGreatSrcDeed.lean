/-
  hostlerlaw12.do: an act, of both.
-/
import Derived.Test.YtlhblhgbpaipaaaGreatMgCopy
import Derived.Deep.RegionHeld3
namespace Go.Proofs.YtlhblhgbpaipaaaGreat.Src
open Go.RowKit
open Go.Proofs.YtlhblhgbpaipaaaGreat.Hp
open Go.Proofs.YtlhblhgbpaipaaaGreat.Tm (Tms Kept IsMin dueB min_ex)
open Go.Proofs.YtlhblhgbpaipaaaGreat.Pl (bestD takeA leftW leftI putW markR)
set_option linter.unusedVariables false
set_option linter.unusedSimpArgs false

abbrev TAct : TypeId := 39
def own3 (v1 v2 v3 : Value) (k : Nat) : Prop := v1.ownBlock = some k ∨ v2.ownBlock = some k ∨ v3.ownBlock = some k
/-- The three blocks that do lays first. -/
structure D3 (w W : World) (cs qs : Array Value) : Prop where
  b : W.heap[w.heap.size]? = some (.cells cs TS6 (0, 0))
  a : W.heap[w.heap.size + 1]? = some (.cells qs TAct (0, 0))
  z : W.heap[w.heap.size + 2]? = some (.cells #[.int .i64 0, .int .i64 0, .slice none 0 0, .int .u64 0, .slice none 0 0, .slice none 0 0] TS6 (0, 0))
  below : Below w.heap.size w W
theorem d3_new (w : World) (cs qs : Array Value) : D3 w (((w.alloc (.cells cs TS6)).alloc (.cells qs TAct)).alloc (.cells #[.int .i64 0, .int .i64 0, .slice none 0 0, .int .u64 0, .slice none 0 0, .slice none 0 0] TS6)) cs qs :=
  ⟨(heap_alloc_old _ _ (by simp; omega)).trans ((heap_alloc_old _ _ (by simp)).trans (heap_alloc_new _ _)), (heap_alloc_old _ _ (by simp)).trans (by have := heap_alloc_new (w.alloc (.cells cs TS6)) (.cells qs TAct); simpa using this), by have := heap_alloc_new ((w.alloc (.cells cs TS6)).alloc (.cells qs TAct)) (.cells #[.int .i64 0, .int .i64 0, .slice none 0 0, .int .u64 0, .slice none 0 0, .slice none 0 0] TS6); simpa using this, (((Below.refl _ _).alloc (Nat.le_refl _) _).alloc (by simp) _).alloc (by simp; omega) _⟩
section
variable {w W W' : World} {cs qs : Array Value}
theorem D3.lt (h : D3 w W cs qs) : w.heap.size + 2 < W.heap.size := (Array.getElem?_eq_some_iff.1 h.z).1
theorem D3.next (h : D3 w W cs qs) (hb : Below W.heap.size W W') : D3 w W' cs qs := ⟨(hb.block _ (by have := h.lt; omega)).trans h.b, (hb.block _ (by have := h.lt; omega)).trans h.a, (hb.block _ h.lt).trans h.z, h.below.trans (hb.mono (by have := h.lt; omega))⟩
end
theorem five_of {W : World} {B : Nat} {a b c d e : Value} (h : W.heap[B]? = some (.cells #[a, b, c, d, e] TAct (0, 0))) : W.cell? ⟨B, 0, none⟩ = some a ∧ W.cell? ⟨B, 1, none⟩ = some b ∧ W.cell? ⟨B, 2, none⟩ = some c ∧ W.cell? ⟨B, 3, none⟩ = some d ∧ W.cell? ⟨B, 4, none⟩ = some e :=
  ⟨cell_of_row _ _ 0 _ _ _ h, cell_of_row _ _ 1 _ _ _ h, cell_of_row _ _ 2 _ _ _ h, cell_of_row _ _ 3 _ _ _ h, cell_of_row _ _ 4 _ _ _ h⟩
theorem grown_of {a b : World} (h : Below a.heap.size a b) : a.grownBy b none := ⟨h.os, h.tape, h.output, h.size, fun k hk _ => h.block k hk⟩
theorem below_of {a b : World} (h : a.grownBy b none) : Below a.heap.size a b := ⟨h.os, h.tape, h.output, h.size, fun k hk => h.block k hk (by simp)⟩
/-- The foreign blocks while do goes on. -/
def X2 (X : Nat → Prop) (u1 u2 u3 : Value) (S P : Nat) : Nat → Prop := fun k => X k ∨ own3 u1 u2 u3 k ∨ (S ≤ k ∧ k ≤ S + 2) ∨ k = P
/-- What do leaves. -/
structure DoQ (w w' : World) (base sb n : Nat) (now : Int) (D : List Tim) (order : Nat) (W : List (Int × Int)) (R : List Int) (X : Nat → Prop) (lo N : Nat) (v1 v2 v3 u1 u2 u3 : Value) : Prop where
  sv : Sv w' base sb n now D order W R (fun k => X k ∨ own3 u1 u2 u3 k)
  ss : SS w' lo N D W R u1 u2 u3
  kept : Kept w w' base X
  new : ∀ k, own3 u1 u2 u3 k → own3 v1 v2 v3 k ∨ w.heap.size ≤ k
theorem do_end {w W2 w3 : World} {base sb n : Nat} {now : Int} {D : List Tim} {order : Nat} {W : List (Int × Int)} {R : List Int} {X : Nat → Prop} {lo N P : Nat} {v1 v2 v3 u1 u2 u3 x0 x1 x2 x3 x4 x5 : Value}
    (hw : base ≤ w.heap.size) (hX : ∀ k, X k → k < w.heap.size) (hb : Below w.heap.size w W2) (sv : Sv w3 base sb n now D order W R (X2 X u1 u2 u3 w.heap.size P)) (hk : Kept W2 w3 base (X2 X u1 u2 u3 w.heap.size P)) (ss : SS W2 lo N D W R u1 u2 u3)
    (hn0 : ∀ k, own3 u1 u2 u3 k → own3 v1 v2 v3 k ∨ w.heap.size + 2 < k) (hv : ∀ k, own3 v1 v2 v3 k → X k) : DoQ w (set6 w3 (w.heap.size + 2) x0 x1 x2 x3 x4 x5) base sb n now D order W R X lo N v1 v2 v3 u1 u2 u3 := by
  have hn : ∀ k, own3 u1 u2 u3 k → X k ∨ w.heap.size + 2 < k := fun k q => (hn0 k q).imp_left (hv k)
  have h4 : ∀ k, own3 u1 u2 u3 k → k ≠ w.heap.size + 2 := fun k hk => by
    rcases hn k hk with q | q
    · have := hX k q; omega
    · omega
  refine ⟨(sv.foreign (fun k _ hx => set6_other (fun e => hx (.inr (.inr (.inl ⟨by omega, by omega⟩))))) (Nat.le_of_eq set6_size.symm)).more (grown_refl _) (fun k q => .inl ?_), (ss.kept hk.below.size (fun j hj => hk.far j (.inr (.inl hj)))).kept (Nat.le_of_eq set6_size.symm) (fun j hj => set6_other (h4 j hj)), ⟨below_set6 ((hb.mono hw).trans hk.below) (by omega), fun k q => (set6_other (by have := hX k q; omega)).trans ((hk.far k (.inl q)).trans (hb.block k (hX k q)))⟩, fun k q => ?_⟩
  · rcases q with q | q
    · exact .inl q
    · exact .inr (.inl q)
  · rcases hn0 k q with r | r
    · exact .inl r
    · exact .inr (by omega)
/-- Sv among more foreign blocks. -/
theorem sv_x2 {w W2 : World} {base sb n : Nat} {now : Int} {D : List Tim} {order : Nat} {W : List (Int × Int)} {R : List Int} {X : Nat → Prop} {lo N P : Nat} {D' : List Tim} {W' : List (Int × Int)} {R' : List Int} {u1 u2 u3 : Value} (sv : Sv w base sb n now D order W R X) (hb : Below w.heap.size w W2) (hn : ∀ k, own3 u1 u2 u3 k → X k ∨ w.heap.size + 2 < k) (ss : SS W2 lo N D' W' R' u1 u2 u3) (h2 : w.heap.size + 2 < W2.heap.size) (hP : w.heap.size ≤ P ∧ P < W2.heap.size) :
    Sv W2 base sb n now D order W R (X2 X u1 u2 u3 w.heap.size P) :=
  sv.more (grown_of hb) (fun k q => by
    rcases q with q | q | ⟨q1, q2⟩ | q
    · exact .inl q
    · rcases hn k q with r | r
      · exact .inl r
      · exact .inr ⟨by omega, ss.own q⟩
    · exact .inr ⟨q1, by omega⟩
    · subst q; exact .inr hP)
theorem fr3_new {w W0 : World} {v1 v2 v3 u1 u2 u3 : Value} (h : Fr3 W0 v1 v2 v3 u1 u2 u3) (hs : w.heap.size + 2 < W0.heap.size) : ∀ k, own3 u1 u2 u3 k → own3 v1 v2 v3 k ∨ w.heap.size + 2 < k := fun k hk => by
  rcases h k hk with q | q
  · exact .inl q
  · exact .inr (by omega)

set_option maxRecDepth 100000 in
set_option maxHeartbeats 8000000 in
theorem do_is {w : World} {base sb n : Nat} {now : Int} {D : List Tim} {order : Nat} {W : List (Int × Int)} {R : List Int} {X : Nat → Prop} {lo N : Nat} {a1 a2 a3 : Option Addr} {m1 c1 m2 c2 m3 c3 : Nat} (h : Sv w base sb n now D order W R X) (hs : SS w lo N D W R (.slice a1 m1 c1) (.slice a2 m2 c2) (.slice a3 m3 c3)) (hown : ∀ k, own3 (.slice a1 m1 c1) (.slice a2 m2 c2) (.slice a3 m3 c3) k → X k) (hN : N < 500) (ho : order < 4611686018427387904)
    (y p gg d f : Int) (hy : 0 ≤ y) (hd : Clk.I64 d) (hf : 0 ≤ f ∧ f < 65536) :
    Calls Tryz.prog 7 #[.pointer (some ⟨sb, 0, none⟩), .agg #[.int .i64 now, .int .i64 n, .slice a1 m1 c1, .int .u64 order, .slice a2 m2 c2, .slice a3 m3 c3], .agg #[.int .u8 y, .int .i64 p, .int .i64 gg, .int .i64 d, .int .u16 f]] w fun x w' => ∃ now' D' o' W' R' b1 k1 d1 b2 k2 d2 b3 k3 d3, x = .returned (.tuple #[.agg #[.int .i64 now', .int .i64 n, .slice b1 k1 d1, .int .u64 ((o' : Nat) : Int), .slice b2 k2 d2, .slice b3 k3 d3], .bool true]) ∧ DoQ w w' base sb n now' D' o' W' R' X lo (N + 1) (.slice a1 m1 c1) (.slice a2 m2 c2) (.slice a3 m3 c3) (.slice b1 k1 d1) (.slice b2 k2 d2) (.slice b3 k3 d3) ∧ o' ≤ order + 1 := by
  have H := Lib.hid (And.intro h (And.intro hs (And.intro hown (And.intro hd hf))))
  have hwf : IntKind.i64.wrap f = f := by rw [IntKind.wrap_i64]; omega
  obtain ⟨m, hm, hm0, hm8⟩ : ∃ m, y % 8 = m ∧ 0 ≤ m ∧ m ≤ 7 := ⟨_, rfl, by omega, by omega⟩
  have ek : y.tmod 8 = m := by rw [← hm]; exact Int.tmod_eq_emod_of_nonneg hy
  have hmm : (m = 0 ∨ m = 1) ∨ m = 2 ∨ m = 3 ∨ m = 4 ∨ (m = 5 ∨ m = 6) ∨ m = 7 := by omega
  clear h hs hown hd hf hm hm0 hm8 hy
  go_enter Tryz.func7, Tryz.ntmps7
  have B0 := Lib.hid (d3_new w #[.int .i64 now, .int .i64 n, .slice a1 m1 c1, .int .u64 order, .slice a2 m2 c2, .slice a3 m3 c3] #[.int .u8 y, .int .i64 p, .int .i64 gg, .int .i64 d, .int .u16 f])
  go_upto_region 1 with fail
  generalize (((w.alloc (.cells #[.int .i64 now, .int .i64 n, .slice a1 m1 c1, .int .u64 order, .slice a2 m2 c2, .slice a3 m3 c3] TS6)).alloc (.cells #[.int .u8 y, .int .i64 p, .int .i64 gg, .int .i64 d, .int .u16 f] TAct)).alloc (.cells #[.int .i64 0, .int .i64 0, .slice none 0 0, .int .u64 0, .slice none 0 0, .slice none 0 0] TS6)) = W0 at *
  obtain ⟨z0, z1, z2, z3, z4, z5⟩ := six_of B0.out.b
  obtain ⟨y0, y1, y2, y3, y4⟩ := five_of B0.out.a
  have hlo : lo ≤ w.heap.size := H.out.2.1.slo
  rcases hmm with (rfl | rfl) | rfl | rfl | rfl | (rfl | rfl) | rfl
  · as_aux_lemma =>
      obtain ⟨t, ht⟩ : ∃ t, Clk.sat now (Clk.mx 0 d) = t := ⟨_, rfl⟩
      obtain ⟨ε, Dn, on, hsl⟩ : ∃ e D' o', sleepS n D order W p gg t = (e, D', o') := ⟨_, _, _, rfl⟩
      obtain ⟨r, hr⟩ : ∃ r, (if ε = 0 then dueS now Dn W R else false) = r := ⟨_, rfl⟩
      have HE := Lib.hid (And.intro ht (And.intro hsl hr))
      clear ht hsl hr
      go_wp2_with fail
      refine (rsleep12 (H.out.2.1.below B0.out.below) hN now n order ho p gg d H.out.1.i64 H.out.2.2.2.1 HE.out.1 HE.out.2.1 HE.out.2.2).mono ?_
      rintro x w1 ⟨b, k, c, rfl, hs1, hf1, hb1⟩
      have hal := below_alloc (w := w1) (.cells #[.int .i64 now, .int .i64 n, .slice b k c, .int .u64 on, .slice a2 m2 c2, .slice a3 m3 c3] TS6)
      have C2 := Lib.hid ((B0.out.next hb1).next hal)
      have S2 := Lib.hid (And.intro (hs1.below hal) (And.intro (fr3_new hf1 B0.out.lt) (And.intro (heap_alloc_new w1 (.cells #[.int .i64 now, .int .i64 n, .slice b k c, .int .u64 on, .slice a2 m2 c2, .slice a3 m3 c3] TS6)) (show w.heap.size ≤ w1.heap.size ∧ w1.heap.size < (w1.alloc (.cells #[.int .i64 now, .int .i64 n, .slice b k c, .int .u64 on, .slice a2 m2 c2, .slice a3 m3 c3] TS6)).heap.size by have := B0.out.below.size; have := hb1.size; simp; omega))))
      clear hs1 hf1 hb1 hal
      clear z0 z1 z2 z3 z4 z5 y0 y1 y2 y3 y4
      obtain ⟨y0, y1, y2, y3, y4⟩ := five_of C2.out.a
      go_wp2_with fail
      generalize (w1.alloc (.cells #[.int .i64 now, .int .i64 n, .slice b k c, .int .u64 on, .slice a2 m2 c2, .slice a3 m3 c3] TS6)) = W2 at *
      obtain ⟨P, hP⟩ : ∃ P, w1.heap.size = P := ⟨_, rfl⟩
      rw [hP] at S2 ⊢
      clear hP
      have V2 := Lib.hid (sv_x2 H.out.1 C2.out.below (fun k q => (S2.out.2.1 k q).imp_left (H.out.2.2.1 k)) S2.out.1 C2.out.lt S2.out.2.2.2)
      clear y0 y1 y2 y3 y4
      refine (vsleep_is V2.out (by have := H.out.2.1.b; omega) p gg d H.out.2.2.2.1 HE.out.1 ho HE.out.2.1 HE.out.2.2).mono ?_
      rintro x w3 ⟨rfl, sv3, hk3⟩
      have E3 := Lib.hid (And.intro sv3 (And.intro hk3 (And.intro ((hk3.far P (.inr (.inr (.inr rfl)))).trans S2.out.2.2.1) ((hk3.far (w.heap.size + 2) (.inr (.inr (.inl ⟨by omega, by omega⟩)))).trans C2.out.z))))
      clear sv3 hk3
      obtain ⟨p0, p1, p2, p3, p4, p5⟩ := six_of E3.out.2.2.1
      obtain ⟨q0, q1, q2, q3, q4, q5⟩ := six_of E3.out.2.2.2
      have fz : ∀ i, w3.frozen? ⟨w.heap.size + 2, i, none⟩ = false := fun i => frozen_of_row _ _ i _ _ E3.out.2.2.2
      go_wp2_with fail
      refine bodyPost_ret (results_ts2 rfl _ _ (w.heap.size + 2) _ _ _ _ _ _ (.bool true) (set6_same E3.out.2.2.2) rfl rfl) rfl ⟨now, Dn, on, W, R, b, k, c, a2, m2, c2, a3, m3, c3, rfl, do_end H.out.1.low (fun k q => H.out.1.xlt q) C2.out.below E3.out.1 E3.out.2.1 S2.out.1 S2.out.2.1 H.out.2.2.1, by have := HE.out.2.1; unfold sleepS at this; (repeat' split at this) <;> cases this <;> omega⟩
  · as_aux_lemma =>
      obtain ⟨t, ht⟩ : ∃ t, Clk.sat now (Clk.mx 0 d) = t := ⟨_, rfl⟩
      obtain ⟨ε, Dn, on, hsl⟩ : ∃ e D' o', sleepS n D order W p gg t = (e, D', o') := ⟨_, _, _, rfl⟩
      obtain ⟨r, hr⟩ : ∃ r, (if ε = 0 then dueS now Dn W R else false) = r := ⟨_, rfl⟩
      have HE := Lib.hid (And.intro ht (And.intro hsl hr))
      clear ht hsl hr
      go_wp2_with fail
      refine (rsleep12 (H.out.2.1.below B0.out.below) hN now n order ho p gg d H.out.1.i64 H.out.2.2.2.1 HE.out.1 HE.out.2.1 HE.out.2.2).mono ?_
      rintro x w1 ⟨b, k, c, rfl, hs1, hf1, hb1⟩
      have hal := below_alloc (w := w1) (.cells #[.int .i64 now, .int .i64 n, .slice b k c, .int .u64 on, .slice a2 m2 c2, .slice a3 m3 c3] TS6)
      have C2 := Lib.hid ((B0.out.next hb1).next hal)
      have S2 := Lib.hid (And.intro (hs1.below hal) (And.intro (fr3_new hf1 B0.out.lt) (And.intro (heap_alloc_new w1 (.cells #[.int .i64 now, .int .i64 n, .slice b k c, .int .u64 on, .slice a2 m2 c2, .slice a3 m3 c3] TS6)) (show w.heap.size ≤ w1.heap.size ∧ w1.heap.size < (w1.alloc (.cells #[.int .i64 now, .int .i64 n, .slice b k c, .int .u64 on, .slice a2 m2 c2, .slice a3 m3 c3] TS6)).heap.size by have := B0.out.below.size; have := hb1.size; simp; omega))))
      clear hs1 hf1 hb1 hal
      clear z0 z1 z2 z3 z4 z5 y0 y1 y2 y3 y4
      obtain ⟨y0, y1, y2, y3, y4⟩ := five_of C2.out.a
      go_wp2_with fail
      generalize (w1.alloc (.cells #[.int .i64 now, .int .i64 n, .slice b k c, .int .u64 on, .slice a2 m2 c2, .slice a3 m3 c3] TS6)) = W2 at *
      obtain ⟨P, hP⟩ : ∃ P, w1.heap.size = P := ⟨_, rfl⟩
      rw [hP] at S2 ⊢
      clear hP
      have V2 := Lib.hid (sv_x2 H.out.1 C2.out.below (fun k q => (S2.out.2.1 k q).imp_left (H.out.2.2.1 k)) S2.out.1 C2.out.lt S2.out.2.2.2)
      clear y0 y1 y2 y3 y4
      refine (vsleep_is V2.out (by have := H.out.2.1.b; omega) p gg d H.out.2.2.2.1 HE.out.1 ho HE.out.2.1 HE.out.2.2).mono ?_
      rintro x w3 ⟨rfl, sv3, hk3⟩
      have E3 := Lib.hid (And.intro sv3 (And.intro hk3 (And.intro ((hk3.far P (.inr (.inr (.inr rfl)))).trans S2.out.2.2.1) ((hk3.far (w.heap.size + 2) (.inr (.inr (.inl ⟨by omega, by omega⟩)))).trans C2.out.z))))
      clear sv3 hk3
      obtain ⟨p0, p1, p2, p3, p4, p5⟩ := six_of E3.out.2.2.1
      obtain ⟨q0, q1, q2, q3, q4, q5⟩ := six_of E3.out.2.2.2
      have fz : ∀ i, w3.frozen? ⟨w.heap.size + 2, i, none⟩ = false := fun i => frozen_of_row _ _ i _ _ E3.out.2.2.2
      go_wp2_with fail
      refine bodyPost_ret (results_ts2 rfl _ _ (w.heap.size + 2) _ _ _ _ _ _ (.bool true) (set6_same E3.out.2.2.2) rfl rfl) rfl ⟨now, Dn, on, W, R, b, k, c, a2, m2, c2, a3, m3, c3, rfl, do_end H.out.1.low (fun k q => H.out.1.xlt q) C2.out.below E3.out.1 E3.out.2.1 S2.out.1 S2.out.2.1 H.out.2.2.1, by have := HE.out.2.1; unfold sleepS at this; (repeat' split at this) <;> cases this <;> omega⟩
  · as_aux_lemma =>
      obtain ⟨ε, Wn, hwt⟩ : ∃ e W', waitS D W R f gg = (e, W') := ⟨_, _, rfl⟩
      obtain ⟨r, hr⟩ : ∃ r, (if ε = 0 then dueS now D Wn R else false) = r := ⟨_, rfl⟩
      have HE := Lib.hid (And.intro hwt hr)
      clear hwt hr
      go_wp2_with fail
      refine (rwait12 (H.out.2.1.below B0.out.below) hN now n order f gg HE.out.1 HE.out.2).mono ?_
      rintro x w1 ⟨b, k, c, rfl, hs1, hf1, hb1⟩
      have hal := below_alloc (w := w1) (.cells #[.int .i64 now, .int .i64 n, .slice a1 m1 c1, .int .u64 order, .slice b k c, .slice a3 m3 c3] TS6)
      have C2 := Lib.hid ((B0.out.next hb1).next hal)
      have S2 := Lib.hid (And.intro (hs1.below hal) (And.intro (fr3_new hf1 B0.out.lt) (And.intro (heap_alloc_new w1 (.cells #[.int .i64 now, .int .i64 n, .slice a1 m1 c1, .int .u64 order, .slice b k c, .slice a3 m3 c3] TS6)) (show w.heap.size ≤ w1.heap.size ∧ w1.heap.size < (w1.alloc (.cells #[.int .i64 now, .int .i64 n, .slice a1 m1 c1, .int .u64 order, .slice b k c, .slice a3 m3 c3] TS6)).heap.size by have := B0.out.below.size; have := hb1.size; simp; omega))))
      clear hs1 hf1 hb1 hal
      clear z0 z1 z2 z3 z4 z5 y0 y1 y2 y3 y4
      obtain ⟨y0, y1, y2, y3, y4⟩ := five_of C2.out.a
      go_wp2_with fail
      generalize (w1.alloc (.cells #[.int .i64 now, .int .i64 n, .slice a1 m1 c1, .int .u64 order, .slice b k c, .slice a3 m3 c3] TS6)) = W2 at *
      obtain ⟨P, hP⟩ : ∃ P, w1.heap.size = P := ⟨_, rfl⟩
      rw [hP] at S2 ⊢
      clear hP
      have V2 := Lib.hid (sv_x2 H.out.1 C2.out.below (fun k q => (S2.out.2.1 k q).imp_left (H.out.2.2.1 k)) S2.out.1 C2.out.lt S2.out.2.2.2)
      clear y0 y1 y2 y3 y4
      refine (vwait_is V2.out (by have := H.out.2.1.b; omega) f gg H.out.2.2.2.2 HE.out.1 HE.out.2).mono ?_
      rintro x w3 ⟨rfl, sv3, hk3⟩
      have E3 := Lib.hid (And.intro sv3 (And.intro hk3 (And.intro ((hk3.far P (.inr (.inr (.inr rfl)))).trans S2.out.2.2.1) ((hk3.far (w.heap.size + 2) (.inr (.inr (.inl ⟨by omega, by omega⟩)))).trans C2.out.z))))
      clear sv3 hk3
      obtain ⟨p0, p1, p2, p3, p4, p5⟩ := six_of E3.out.2.2.1
      obtain ⟨q0, q1, q2, q3, q4, q5⟩ := six_of E3.out.2.2.2
      have fz : ∀ i, w3.frozen? ⟨w.heap.size + 2, i, none⟩ = false := fun i => frozen_of_row _ _ i _ _ E3.out.2.2.2
      go_wp2_with fail
      refine bodyPost_ret (results_ts2 rfl _ _ (w.heap.size + 2) _ _ _ _ _ _ (.bool true) (set6_same E3.out.2.2.2) rfl rfl) rfl ⟨now, D, order, Wn, R, a1, m1, c1, b, k, c, a3, m3, c3, rfl, do_end H.out.1.low (fun k q => H.out.1.xlt q) C2.out.below E3.out.1 E3.out.2.1 S2.out.1 S2.out.2.1 H.out.2.2.1, by omega⟩
  · as_aux_lemma =>
      obtain ⟨t, ht⟩ : ∃ t, Clk.sat now (Clk.mx 0 d) = t := ⟨_, rfl⟩
      obtain ⟨r, hr⟩ : ∃ r, dueS t D W R = r := ⟨_, rfl⟩
      have HE := Lib.hid (And.intro ht hr)
      clear ht hr
      go_wp2_with fail
      refine (rtick12 (H.out.2.1.below B0.out.below) now n order d H.out.1.i64 H.out.2.2.2.1 HE.out.1).mono ?_
      rintro x w1 ⟨rfl, hs1, hb1⟩
      have hf1 := fr3_refl W0 (.slice a1 m1 c1) (.slice a2 m2 c2) (.slice a3 m3 c3)
      replace hs1 := hs1.up hN
      have HB1 := Lib.hid hb1.size
      have hal := below_alloc (w := w1) (.cells #[.int .i64 t, .int .i64 n, .slice a1 m1 c1, .int .u64 order, .slice a2 m2 c2, .slice a3 m3 c3] TS6)
      have C2 := Lib.hid ((B0.out.next hb1).next hal)
      have S2 := Lib.hid (And.intro (hs1.below hal) (And.intro (fr3_new hf1 B0.out.lt) (And.intro (heap_alloc_new w1 (.cells #[.int .i64 t, .int .i64 n, .slice a1 m1 c1, .int .u64 order, .slice a2 m2 c2, .slice a3 m3 c3] TS6)) (show w.heap.size ≤ w1.heap.size ∧ w1.heap.size < (w1.alloc (.cells #[.int .i64 t, .int .i64 n, .slice a1 m1 c1, .int .u64 order, .slice a2 m2 c2, .slice a3 m3 c3] TS6)).heap.size by have := B0.out.below.size; have := hb1.size; simp; omega))))
      clear hs1 hf1 hb1 hal
      clear z0 z1 z2 z3 z4 z5 y0 y1 y2 y3 y4
      obtain ⟨y0, y1, y2, y3, y4⟩ := five_of C2.out.a
      go_wp2_with fail
      generalize (w1.alloc (.cells #[.int .i64 t, .int .i64 n, .slice a1 m1 c1, .int .u64 order, .slice a2 m2 c2, .slice a3 m3 c3] TS6)) = W2 at *
      obtain ⟨P, hP⟩ : ∃ P, w1.heap.size = P := ⟨_, rfl⟩
      have hne : P ≠ w.heap.size + 2 := by have := B0.out.lt; have := HB1.out; omega
      rw [hP] at S2 ⊢
      clear hP
      have V2 := Lib.hid ((sv_x2 H.out.1 C2.out.below (fun k q => (S2.out.2.1 k q).imp_left (H.out.2.2.1 k)) S2.out.1 C2.out.lt S2.out.2.2.2).grown (grown_of (below_drew (w := W2))))
      clear y0 y1 y2 y3 y4
      have hS : Six W2.drew P (.int .i64 t) (.int .i64 n) (.slice a1 m1 c1) (.int .u64 order) (.slice a2 m2 c2) (.slice a3 m3 c3) ∧ W2.drew.cell? ⟨w.heap.size + 1, 3, none⟩ = some (.int .i64 d) := ⟨six_of S2.out.2.2.1, (five_of C2.out.a).2.2.2.1⟩
      go_region_held3 (fun w' => (w'.cell? ⟨P, 0, none⟩ = some (.int .i64 t) ∧ w'.cell? ⟨P, 1, none⟩ = some (.int .i64 n) ∧ w'.cell? ⟨P, 2, none⟩ = some (.slice a1 m1 c1) ∧ w'.cell? ⟨P, 3, none⟩ = some (.int .u64 order) ∧ w'.cell? ⟨P, 4, none⟩ = some (.slice a2 m2 c2) ∧ w'.cell? ⟨P, 5, none⟩ = some (.slice a3 m3 c3)) ∧ w'.cell? ⟨w.heap.size + 1, 3, none⟩ = some (.int .i64 d))
        (first | (with_reducible exact hS) | exact hSz)
        (first
          | (go_at_call 17; refine (vtick_is V2.out H.out.2.2.2.1 HE.out.1 HE.out.2).mono ?_; rintro x w3 ⟨rfl, sv3, hk3⟩; (have E3 := Lib.hid (And.intro sv3 (And.intro hk3 (And.intro ((hk3.far P (.inr (.inr (.inr rfl)))).trans S2.out.2.2.1) (And.intro ((hk3.far (w.heap.size + 2) (.inr (.inr (.inl ⟨by omega, by omega⟩)))).trans C2.out.z) ((hk3.far (w.heap.size + 1) (.inr (.inr (.inl ⟨by omega, by omega⟩)))).trans C2.out.a)))))); clear sv3 hk3; (have hS : Six w3 P (.int .i64 t) (.int .i64 n) (.slice a1 m1 c1) (.int .u64 order) (.slice a2 m2 c2) (.slice a3 m3 c3) ∧ w3.cell? ⟨w.heap.size + 1, 3, none⟩ = some (.int .i64 d) := ⟨six_of E3.out.2.2.1, (five_of E3.out.2.2.2.2).2.2.2.1⟩))
          | (go_at_call 10; refine (rdue12 ((S2.out.1.below (below_drew (w := W2))).kept E3.out.2.1.below.size (fun j hj => E3.out.2.1.far j (.inr (.inl hj)))) t n order HE.out.2).mono ?_; rintro x w4 ⟨rfl, hb4⟩; (have E4 := Lib.hid (And.intro (E3.out.1.grown (grown_of hb4)) (And.intro (Kept.grown E3.out.2.1 (grown_of hb4) V2.out.low (fun k hk => V2.out.xlt hk)) (And.intro ((hb4.block P (Array.getElem?_eq_some_iff.1 E3.out.2.2.1).1).trans E3.out.2.2.1) (And.intro ((hb4.block _ (Array.getElem?_eq_some_iff.1 E3.out.2.2.2.1).1).trans E3.out.2.2.2.1) ((hb4.block _ (Array.getElem?_eq_some_iff.1 E3.out.2.2.2.2).1).trans E3.out.2.2.2.2)))))); clear hb4; (have hS : Six w4 P (.int .i64 t) (.int .i64 n) (.slice a1 m1 c1) (.int .u64 order) (.slice a2 m2 c2) (.slice a3 m3 c3) ∧ w4.cell? ⟨w.heap.size + 1, 3, none⟩ = some (.int .i64 d) := ⟨six_of E4.out.2.2.1, (five_of E4.out.2.2.2.2).2.2.2.1⟩); (obtain ⟨q0, q1, q2, q3, q4, q5⟩ := six_of E4.out.2.2.2.1); (have fz : ∀ i, w4.frozen? ⟨w.heap.size + 2, i, none⟩ = false := fun i => frozen_of_row _ _ i _ _ E4.out.2.2.2.1); (have hSz : Six (set6 w4 (w.heap.size + 2) (.int .i64 t) (.int .i64 n) (.slice a1 m1 c1) (.int .u64 order) (.slice a2 m2 c2) (.slice a3 m3 c3)) P (.int .i64 t) (.int .i64 n) (.slice a1 m1 c1) (.int .u64 order) (.slice a2 m2 c2) (.slice a3 m3 c3) ∧ (set6 w4 (w.heap.size + 2) (.int .i64 t) (.int .i64 n) (.slice a1 m1 c1) (.int .u64 order) (.slice a2 m2 c2) (.slice a3 m3 c3)).cell? ⟨w.heap.size + 1, 3, none⟩ = some (.int .i64 d) := ⟨six_of ((set6_other hne).trans E4.out.2.2.1), (five_of ((set6_other (by omega)).trans E4.out.2.2.2.2)).2.2.2.1⟩)))
      all_goals (
        go_wp2_with fail
        refine bodyPost_ret (results_ts2 rfl _ _ (w.heap.size + 2) _ _ _ _ _ _ (.bool true) (set6_same E4.out.2.2.2.1) rfl rfl) rfl ⟨t, D, order, W, R, a1, m1, c1, a2, m2, c2, a3, m3, c3, rfl, do_end H.out.1.low (fun k q => H.out.1.xlt q) (C2.out.below.trans below_drew) E4.out.1 E4.out.2.1 (S2.out.1.below below_drew) S2.out.2.1 H.out.2.2.1, by omega⟩)
  · as_aux_lemma =>
      obtain ⟨ε, Rn, hmk⟩ : ∃ e R', markR W R f = (e, R') := ⟨_, _, rfl⟩
      obtain ⟨r, hr⟩ : ∃ r, (if ε = 0 then dueS now D W Rn else false) = r := ⟨_, rfl⟩
      have HE := Lib.hid (And.intro hmk hr)
      clear hmk hr
      go_wp2_with fail
      refine (rready12 (H.out.2.1.below B0.out.below) hN now n order f HE.out.1 HE.out.2).mono ?_
      rintro x w1 ⟨b, k, c, rfl, hs1, hf1, hb1⟩
      have hal := below_alloc (w := w1) (.cells #[.int .i64 now, .int .i64 n, .slice a1 m1 c1, .int .u64 order, .slice a2 m2 c2, .slice b k c] TS6)
      have C2 := Lib.hid ((B0.out.next hb1).next hal)
      have S2 := Lib.hid (And.intro (hs1.below hal) (And.intro (fr3_new hf1 B0.out.lt) (And.intro (heap_alloc_new w1 (.cells #[.int .i64 now, .int .i64 n, .slice a1 m1 c1, .int .u64 order, .slice a2 m2 c2, .slice b k c] TS6)) (show w.heap.size ≤ w1.heap.size ∧ w1.heap.size < (w1.alloc (.cells #[.int .i64 now, .int .i64 n, .slice a1 m1 c1, .int .u64 order, .slice a2 m2 c2, .slice b k c] TS6)).heap.size by have := B0.out.below.size; have := hb1.size; simp; omega))))
      clear hs1 hf1 hb1 hal
      clear z0 z1 z2 z3 z4 z5 y0 y1 y2 y3 y4
      obtain ⟨y0, y1, y2, y3, y4⟩ := five_of C2.out.a
      go_wp2_with fail
      generalize (w1.alloc (.cells #[.int .i64 now, .int .i64 n, .slice a1 m1 c1, .int .u64 order, .slice a2 m2 c2, .slice b k c] TS6)) = W2 at *
      obtain ⟨P, hP⟩ : ∃ P, w1.heap.size = P := ⟨_, rfl⟩
      rw [hP] at S2 ⊢
      clear hP
      have V2 := Lib.hid (sv_x2 H.out.1 C2.out.below (fun k q => (S2.out.2.1 k q).imp_left (H.out.2.2.1 k)) S2.out.1 C2.out.lt S2.out.2.2.2)
      clear y0 y1 y2 y3 y4
      refine (vready_is V2.out f HE.out.1 HE.out.2).mono ?_
      rintro x w3 ⟨rfl, sv3, hk3⟩
      have E3 := Lib.hid (And.intro sv3 (And.intro hk3 (And.intro ((hk3.far P (.inr (.inr (.inr rfl)))).trans S2.out.2.2.1) ((hk3.far (w.heap.size + 2) (.inr (.inr (.inl ⟨by omega, by omega⟩)))).trans C2.out.z))))
      clear sv3 hk3
      obtain ⟨p0, p1, p2, p3, p4, p5⟩ := six_of E3.out.2.2.1
      obtain ⟨q0, q1, q2, q3, q4, q5⟩ := six_of E3.out.2.2.2
      have fz : ∀ i, w3.frozen? ⟨w.heap.size + 2, i, none⟩ = false := fun i => frozen_of_row _ _ i _ _ E3.out.2.2.2
      go_wp2_with fail
      refine bodyPost_ret (results_ts2 rfl _ _ (w.heap.size + 2) _ _ _ _ _ _ (.bool true) (set6_same E3.out.2.2.2) rfl rfl) rfl ⟨now, D, order, W, Rn, a1, m1, c1, a2, m2, c2, b, k, c, rfl, do_end H.out.1.low (fun k q => H.out.1.xlt q) C2.out.below E3.out.1 E3.out.2.1 S2.out.1 S2.out.2.1 H.out.2.2.1, by omega⟩
  · as_aux_lemma =>
      obtain ⟨g, ok, Dn, Wn, Rn, htk⟩ : ∃ g ok D' W' R', takeS now D W R = (g, ok, D', W', R') := ⟨_, _, _, _, _, rfl⟩
      have HE := Lib.hid htk
      clear htk
      go_wp2_with fail
      refine (rtake12 (H.out.2.1.below B0.out.below) now n order HE.out).mono ?_
      rintro x w1 ⟨b1, k1, d1, b2, k2, d2, b3, k3, d3, rfl, hs1, hf1, hb1⟩
      replace hs1 := hs1.up hN
      have hal := below_alloc (w := w1) (.cells #[.int .i64 now, .int .i64 n, .slice b1 k1 d1, .int .u64 order, .slice b2 k2 d2, .slice b3 k3 d3] TS6)
      have C2 := Lib.hid ((B0.out.next hb1).next hal)
      have S2 := Lib.hid (And.intro (hs1.below hal) (And.intro (fr3_new hf1 B0.out.lt) (And.intro (heap_alloc_new w1 (.cells #[.int .i64 now, .int .i64 n, .slice b1 k1 d1, .int .u64 order, .slice b2 k2 d2, .slice b3 k3 d3] TS6)) (show w.heap.size ≤ w1.heap.size ∧ w1.heap.size < (w1.alloc (.cells #[.int .i64 now, .int .i64 n, .slice b1 k1 d1, .int .u64 order, .slice b2 k2 d2, .slice b3 k3 d3] TS6)).heap.size by have := B0.out.below.size; have := hb1.size; simp; omega))))
      clear hs1 hf1 hb1 hal
      clear z0 z1 z2 z3 z4 z5 y0 y1 y2 y3 y4
      obtain ⟨y0, y1, y2, y3, y4⟩ := five_of C2.out.a
      go_wp2_with fail
      generalize (w1.alloc (.cells #[.int .i64 now, .int .i64 n, .slice b1 k1 d1, .int .u64 order, .slice b2 k2 d2, .slice b3 k3 d3] TS6)) = W2 at *
      obtain ⟨P, hP⟩ : ∃ P, w1.heap.size = P := ⟨_, rfl⟩
      rw [hP] at S2 ⊢
      clear hP
      have V2 := Lib.hid (sv_x2 H.out.1 C2.out.below (fun k q => (S2.out.2.1 k q).imp_left (H.out.2.2.1 k)) S2.out.1 C2.out.lt S2.out.2.2.2)
      clear y0 y1 y2 y3 y4
      refine (vtake_is V2.out (by have := H.out.2.1.b; omega) HE.out).mono ?_
      rintro x w3 ⟨rfl, sv3, hk3⟩
      have E3 := Lib.hid (And.intro sv3 (And.intro hk3 (And.intro ((hk3.far P (.inr (.inr (.inr rfl)))).trans S2.out.2.2.1) ((hk3.far (w.heap.size + 2) (.inr (.inr (.inl ⟨by omega, by omega⟩)))).trans C2.out.z))))
      clear sv3 hk3
      obtain ⟨p0, p1, p2, p3, p4, p5⟩ := six_of E3.out.2.2.1
      obtain ⟨q0, q1, q2, q3, q4, q5⟩ := six_of E3.out.2.2.2
      have fz : ∀ i, w3.frozen? ⟨w.heap.size + 2, i, none⟩ = false := fun i => frozen_of_row _ _ i _ _ E3.out.2.2.2
      go_wp2_with fail
      refine bodyPost_ret (results_ts2 rfl _ _ (w.heap.size + 2) _ _ _ _ _ _ (.bool true) (set6_same E3.out.2.2.2) rfl rfl) rfl ⟨now, Dn, order, Wn, Rn, b1, k1, d1, b2, k2, d2, b3, k3, d3, rfl, do_end H.out.1.low (fun k q => H.out.1.xlt q) C2.out.below E3.out.1 E3.out.2.1 S2.out.1 S2.out.2.1 H.out.2.2.1, by omega⟩
  · as_aux_lemma =>
      obtain ⟨g, ok, Dn, Wn, Rn, htk⟩ : ∃ g ok D' W' R', takeS now D W R = (g, ok, D', W', R') := ⟨_, _, _, _, _, rfl⟩
      have HE := Lib.hid htk
      clear htk
      go_wp2_with fail
      refine (rtake12 (H.out.2.1.below B0.out.below) now n order HE.out).mono ?_
      rintro x w1 ⟨b1, k1, d1, b2, k2, d2, b3, k3, d3, rfl, hs1, hf1, hb1⟩
      replace hs1 := hs1.up hN
      have hal := below_alloc (w := w1) (.cells #[.int .i64 now, .int .i64 n, .slice b1 k1 d1, .int .u64 order, .slice b2 k2 d2, .slice b3 k3 d3] TS6)
      have C2 := Lib.hid ((B0.out.next hb1).next hal)
      have S2 := Lib.hid (And.intro (hs1.below hal) (And.intro (fr3_new hf1 B0.out.lt) (And.intro (heap_alloc_new w1 (.cells #[.int .i64 now, .int .i64 n, .slice b1 k1 d1, .int .u64 order, .slice b2 k2 d2, .slice b3 k3 d3] TS6)) (show w.heap.size ≤ w1.heap.size ∧ w1.heap.size < (w1.alloc (.cells #[.int .i64 now, .int .i64 n, .slice b1 k1 d1, .int .u64 order, .slice b2 k2 d2, .slice b3 k3 d3] TS6)).heap.size by have := B0.out.below.size; have := hb1.size; simp; omega))))
      clear hs1 hf1 hb1 hal
      clear z0 z1 z2 z3 z4 z5 y0 y1 y2 y3 y4
      obtain ⟨y0, y1, y2, y3, y4⟩ := five_of C2.out.a
      go_wp2_with fail
      generalize (w1.alloc (.cells #[.int .i64 now, .int .i64 n, .slice b1 k1 d1, .int .u64 order, .slice b2 k2 d2, .slice b3 k3 d3] TS6)) = W2 at *
      obtain ⟨P, hP⟩ : ∃ P, w1.heap.size = P := ⟨_, rfl⟩
      rw [hP] at S2 ⊢
      clear hP
      have V2 := Lib.hid (sv_x2 H.out.1 C2.out.below (fun k q => (S2.out.2.1 k q).imp_left (H.out.2.2.1 k)) S2.out.1 C2.out.lt S2.out.2.2.2)
      clear y0 y1 y2 y3 y4
      refine (vtake_is V2.out (by have := H.out.2.1.b; omega) HE.out).mono ?_
      rintro x w3 ⟨rfl, sv3, hk3⟩
      have E3 := Lib.hid (And.intro sv3 (And.intro hk3 (And.intro ((hk3.far P (.inr (.inr (.inr rfl)))).trans S2.out.2.2.1) ((hk3.far (w.heap.size + 2) (.inr (.inr (.inl ⟨by omega, by omega⟩)))).trans C2.out.z))))
      clear sv3 hk3
      obtain ⟨p0, p1, p2, p3, p4, p5⟩ := six_of E3.out.2.2.1
      obtain ⟨q0, q1, q2, q3, q4, q5⟩ := six_of E3.out.2.2.2
      have fz : ∀ i, w3.frozen? ⟨w.heap.size + 2, i, none⟩ = false := fun i => frozen_of_row _ _ i _ _ E3.out.2.2.2
      go_wp2_with fail
      refine bodyPost_ret (results_ts2 rfl _ _ (w.heap.size + 2) _ _ _ _ _ _ (.bool true) (set6_same E3.out.2.2.2) rfl rfl) rfl ⟨now, Dn, order, Wn, Rn, b1, k1, d1, b2, k2, d2, b3, k3, d3, rfl, do_end H.out.1.low (fun k q => H.out.1.xlt q) C2.out.below E3.out.1 E3.out.2.1 S2.out.1 S2.out.2.1 H.out.2.2.1, by omega⟩
  · as_aux_lemma =>
      obtain ⟨t, ht⟩ : ∃ t, Clk.sat now (Clk.mx 0 1099511627776) = t := ⟨_, rfl⟩
      obtain ⟨r, hr⟩ : ∃ r, dueS t D W R = r := ⟨_, rfl⟩
      obtain ⟨g, ok, Dn, Wn, Rn, htk⟩ : ∃ g ok D' W' R', takeS t D W R = (g, ok, D', W', R') := ⟨_, _, _, _, _, rfl⟩
      obtain ⟨ε, Rm, hmk⟩ : ∃ e R', markR Wn Rn f = (e, R') := ⟨_, _, rfl⟩
      obtain ⟨r2, hr2⟩ : ∃ r, (if ε = 0 then dueS t Dn Wn Rm else false) = r := ⟨_, rfl⟩
      have HE := Lib.hid (And.intro ht (And.intro hr (And.intro htk (And.intro hmk hr2))))
      clear ht hr htk hmk hr2
      have V0 := Lib.hid (H.out.1.grown (grown_of B0.out.below))
      go_wp2_with fail
      refine (vcopy_is V0.out (by have := H.out.2.1.b; omega)).mono ?_
      rintro x w1 ⟨sb2, rfl, sv1, hg1⟩
      have E1 := Lib.hid (And.intro sv1 (below_of hg1))
      clear sv1 hg1
      go_wp2_with fail
      refine (vtick_is E1.out.1 (by unfold Clk.I64; omega) HE.out.1 HE.out.2.1).mono ?_
      rintro x w2 ⟨rfl, sv2, hk2⟩
      have E2 := Lib.hid (And.intro sv2 (E1.out.2.trans hk2.below))
      clear sv2 hk2
      go_wp2_with fail
      refine (vtake_is E2.out.1 (by have := H.out.2.1.b; omega) HE.out.2.2.1).mono ?_
      rintro x w3 ⟨rfl, sv3, hk3⟩
      have E3 := Lib.hid (And.intro sv3 (E2.out.2.trans hk3.below))
      clear sv3 hk3 y0 y1 y2 y3 y4
      obtain ⟨y0, y1, y2, y3, y4⟩ := five_of (B0.out.next E3.out.2).a
      go_wp2_with fail
      refine (vready_is E3.out.1 f HE.out.2.2.2.1 HE.out.2.2.2.2).mono ?_
      rintro x w4 ⟨rfl, sv4, hk4⟩
      have E4 := Lib.hid (E3.out.2.trans hk4.below)
      have B4 := Lib.hid (B0.out.next E4.out)
      clear sv4 hk4 z0 z1 z2 z3 z4 z5 y0 y1 y2 y3 y4
      obtain ⟨z0, z1, z2, z3, z4, z5⟩ := six_of B4.out.b
      obtain ⟨q0, q1, q2, q3, q4, q5⟩ := six_of B4.out.z
      have fz : ∀ i, w4.frozen? ⟨w.heap.size + 2, i, none⟩ = false := fun i => frozen_of_row _ _ i _ _ B4.out.z
      go_wp2_with fail
      have V4 := Lib.hid (sv_x2 (P := w.heap.size) H.out.1 B4.out.below (fun k q => .inl (H.out.2.2.1 k q)) (H.out.2.1.below B4.out.below) B4.out.lt ⟨Nat.le_refl _, by have := B4.out.lt; omega⟩)
      refine bodyPost_ret (results_ts2 rfl _ _ (w.heap.size + 2) _ _ _ _ _ _ (.bool true) (set6_same B4.out.z) rfl rfl) rfl ⟨now, D, order, W, R, a1, m1, c1, a2, m2, c2, a3, m3, c3, rfl, do_end H.out.1.low (fun k q => H.out.1.xlt q) B4.out.below V4.out (kept_refl _ _ _) ((H.out.2.1.below B4.out.below).up hN) (fun k q => .inl q) H.out.2.2.1, by omega⟩
end Go.Proofs.YtlhblhgbpaipaaaGreat.Src
