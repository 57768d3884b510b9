/-
  hostlerref10: Add that is done.
-/
import Derived.Test.YtlhblhgbpaipaaaGreatMgTim5
namespace Go.Proofs.YtlhblhgbpaipaaaGreat.Hp
open Go.RowKit Go.Shelf
set_option linter.unusedVariables false
set_option linter.unusedSimpArgs false

theorem flatT_at : ∀ {D : List Tim} {j : Nat} {u : Value}, (flatT D)[j]? = some u → ∃ i x r, j = i * 4 + r ∧ r < 4 ∧ D[i]? = some x ∧ x.four[r]? = some u
  | [], j, u, h => by simp [flatT] at h
  | y :: t, j, u, h => by
    by_cases hj : j < 4
    · refine ⟨0, y, j, by omega, hj, rfl, ?_⟩
      have : (y.four ++ flatT t)[j]? = some u := h
      rwa [List.getElem?_append_left (by simpa [Tim.four] using hj)] at this
    · obtain ⟨k, rfl⟩ : ∃ k, j = k + 4 := ⟨j - 4, by omega⟩
      have h2 : (flatT t)[k]? = some u := h
      obtain ⟨i, x, r, e, hr, hx, hu⟩ := flatT_at h2
      exact ⟨i + 1, x, r, by omega, hr, by simpa using hx, hu⟩
theorem tsees_cells {w : World} {lo : Nat} {ad : Addr} {m c : Nat} {D : List Tim} (h : TSees w lo (.slice (some ad) m c) D) : ∀ j u, (flatT D)[j]? = some u → w.cell? (ad.add j) = some u := by
  intro j u hj
  obtain ⟨i, x, r, rfl, hr, hx, hu⟩ := flatT_at hj
  obtain ⟨_, _, e, _, _, _, hc⟩ := h
  obtain ⟨rfl, _, _⟩ := Value.slice.inj e
  obtain ⟨c', h5, c0, c1, c2, c3⟩ := hc i x hx
  cases h5
  have hadd : ∀ k, k ≠ 0 → ad.add (i * 4 + k) = ⟨(ad.add (i * 4)).block, (ad.add (i * 4)).off + k, none⟩ := fun k hk => by
    unfold Addr.add
    by_cases hn : i * 4 = 0
    · simp [hn, hk]
    · simp [hn, Nat.add_assoc]
  rcases (show r = 0 ∨ r = 1 ∨ r = 2 ∨ r = 3 by omega) with rfl | rfl | rfl | rfl
  · cases hu; exact c0
  · cases hu; rw [hadd 1 (by decide)]; exact c1
  · cases hu; rw [hadd 2 (by decide)]; exact c2
  · cases hu; rw [hadd 3 (by decide)]; exact c3
theorem flatT_one (D : List Tim) : ∀ u ∈ flatT D, u.oneCell' = true := by
  intro u hu
  obtain ⟨x, _, hx⟩ := List.mem_flatMap.1 hu
  simp [Tim.four] at hx
  rcases hx with rfl | rfl | rfl | rfl <;> rfl

/-- append of one more, at an operation. -/
theorem wp_append_tim {o : Oper} {a : Act} {K : Act → World → Prop} {Q : Exit → Act → World → Prop} (s x : Operand) (ho : o.op = .call { callee := .builtin .append, args := #[s, x], argTypes := #[26, 26] })
    (W : World) (base : Nat) (v : Value) (D : List Tim) (e : Tim) (N : Nat) (hs : a.eval s = v) (hown : OwnsT W base v D) (hx : a.eval x = .slice (some ⟨N, 0, none⟩) 1 1) (hN : W.heap[N]? = some (.cells #[.int .i64 e.p, .int .i64 e.e.w, .int .u64 e.e.o, .int .i64 e.e.g] TT (0, 0)))
    (hlen : D.length ≤ 100000) (hbase : base ≤ W.heap.size) (h : ∀ v' w', OwnsT w' base v' (D ++ [e]) → W.grownBy w' v.ownBlock → K (a.put o.dst v') w') : o.wp Tryz.prog a W K Q := by
  obtain ⟨i0, hi, hz0, hz1, hz2⟩ := info_parts infoT
  exact wp_append_own W s x 26 ho base TT i0 _ 4 32 Tryz.underlying26 hi hz0 hz1 hz2 rfl (by decide) v D.length (flatT D) hs hown ⟨N, 0, none⟩ 1 1 e.four hx rfl (World.news_of_block (cs := #[.int .i64 e.p, .int .i64 e.e.w, .int .u64 e.e.o, .int .i64 e.e.g]) hN) (by simp [Value.oneCell', Tim.four]) (by unfold maxLen; omega) (by omega) hbase fun v' w' h1 h2 _ => h v' w' (by unfold OwnsT; rw [List.length_append, flatT_append]; simpa [flatT] using h1) h2
/-- append of a row that the document holds, at an operation. -/
theorem wp_append_row {o : Oper} {a : Act} {K : Act → World → Prop} {Q : Exit → Act → World → Prop} (s x : Operand) (ho : o.op = .call { callee := .builtin .append, args := #[s, x], argTypes := #[26, 26] })
    (W : World) (base lo : Nat) (v : Value) (D : List Tim) (ad : Addr) (m c : Nat) (hs : a.eval s = v) (hown : OwnsT W base v []) (hx : a.eval x = .slice (some ad) m c) (hm : m = D.length) (hD : TSees W lo (.slice (some ad) m c) D)
    (hlen : D.length ≤ 100000) (hbase : base ≤ W.heap.size) (h : ∀ v' w', OwnsT w' base v' D → W.grownBy w' v.ownBlock → K (a.put o.dst v') w') : o.wp Tryz.prog a W K Q := by
  subst hm
  obtain ⟨i0, hi, hz0, hz1, hz2⟩ := info_parts infoT
  exact wp_append_own W s x 26 ho base TT i0 _ 4 32 Tryz.underlying26 hi hz0 hz1 hz2 rfl (by decide) v 0 [] hs hown ad D.length c (flatT D) hx (flatT_len D) (tsees_cells hD) (flatT_one D) (by unfold maxLen; omega) (by omega) hbase fun v' w' h1 h2 _ => h v' w' (by unfold OwnsT; simpa using h1) h2

/-- Behind the append: the document's block holds the longer row. -/
def RA (w wx : World) (B1 : Nat) (n o : Int) (E : List Tim) : Prop := ∃ v', wx.heap[w.heap.size]? = some (.cells #[.int .i64 n, v', .int .u64 o] TD (0, 0)) ∧ wx.heap[w.heap.size + 1]? = some (.cells #[.int .i64 0, .slice none 0 0, .int .u64 0] TD (0, 0)) ∧ OwnsT wx B1 v' E ∧ B1 ≤ wx.heap.size ∧ w.heap.size + 2 ≤ B1 ∧ Below w.heap.size w wx
theorem ra_mk {w w1 V : World} {n o : Int} {u v : Value} {E : List Tim} (K : w1.heap[w.heap.size]? = some (.cells #[.int .i64 n, u, .int .u64 o] TD (0, 0)) ∧ w1.heap[w.heap.size + 1]? = some (.cells #[.int .i64 0, .slice none 0 0, .int .u64 0] TD (0, 0)) ∧ Below w.heap.size w w1)
    (hO : OwnsT V w1.heap.size v E) (hb : Below w1.heap.size w1 V) : RA w (V.setCell ⟨w.heap.size, 1, none⟩ v) w1.heap.size n o E := by
  have l0 := (Array.getElem?_eq_some_iff.1 K.1).1
  have l1 := (Array.getElem?_eq_some_iff.1 K.2.1).1
  have hB := (hb.block _ l0).trans K.1
  have hset : ∀ j, j ≠ w.heap.size → (V.setCell ⟨w.heap.size, 1, none⟩ v).heap[j]? = V.heap[j]? := fun j hj => heap_setCell_other _ _ _ _ hj
  have hBW := K.2.2.trans (hb.mono K.2.2.size)
  exact ⟨v, heap_setCell_same _ _ _ _ _ _ hB, (hset _ (by omega)).trans ((hb.block _ l1).trans K.2.1), ownsT_heap hO (fun j hj => hset j (by have := (World.ownsRow.lt hO j hj).1; omega)), by simpa using hb.size, by omega,
    ⟨hBW.os, hBW.tape, hBW.output, by simpa using hBW.size, fun j hj => (hset j (by omega)).trans (hBW.block j hj)⟩⟩


set_option maxRecDepth 100000 in
set_option maxHeartbeats 1500000 in
theorem radd_some {w : World} {D : List Tim} {lo cap : Nat} {ad : Addr} (hv : TSees w lo (.slice (some ad) D.length cap) D) (hbig : D.length ≤ 1000) (n o p g when : Int) (h1 : 0 ≤ p) (h2 : p < n) (h3 : 0 ≤ g) (h4 : g ≤ 4095) (hg : (D.any fun y => decide (y.e.g = g)) = false) {o' : Int} (ho : IntKind.u64.wrap (o + 1) = o') :
    Calls Tryz.prog 54 #[.agg #[.int .i64 n, .slice (some ad) D.length cap, .int .u64 o], .int .i64 p, .int .i64 g, .int .i64 when] w fun x w' => ∃ v', x = .returned (.tuple #[.agg #[.int .i64 n, v', .int .u64 o'], .int .i64 0]) ∧ OwnsT w' w.heap.size v' (D ++ [⟨p, ⟨when, o, g⟩⟩]) ∧ Below w.heap.size w w' := by
  have HV := Lib.hid hv
  have HG := Lib.hid hg
  have HO := Lib.hid ho
  obtain ⟨W, hW, b0, b1, hb, hs⟩ := add_blocks w n o (.slice (some ad) D.length cap)
  have H := Lib.hid (And.intro b0 (And.intro b1 (And.intro hb hs)))
  have e1 : (p < 0) = False := eq_false (by omega)
  have e3 : (g < 0) = False := eq_false (by omega)
  have e4 : (4095 < g) = False := eq_false (by omega)
  clear b0 b1 hb hs hg hv ho
  go_enter Tryz.func54, Tryz.ntmps54
  go_wp2_with fail
  rw [← hW]
  clear hW
  refine (rthas_is (HV.out.below H.out.2.2.1) hbig n o g HG.out).mono ?_
  rintro e w1 ⟨rfl, hb1⟩
  have K := Lib.hid (show w1.heap[w.heap.size]? = some (.cells #[.int .i64 n, .slice (some ad) D.length cap, .int .u64 o] TD (0, 0)) ∧ w1.heap[w.heap.size + 1]? = some (.cells #[.int .i64 0, .slice none 0 0, .int .u64 0] TD (0, 0)) ∧ Below w.heap.size w w1 from
    ⟨(hb1.block _ (by have := H.out.2.2.2; omega)).trans H.out.1, (hb1.block _ (by have := H.out.2.2.2; omega)).trans H.out.2.1, H.out.2.2.1.trans (hb1.mono H.out.2.2.1.size)⟩)
  clear hb1 H
  go_upto_region 5 with fail
  go_cut [9] from 31 to 44 (fun s wx => s = .int .i64 0 ∧ RA w wx w1.heap.size n o (D ++ [⟨p, ⟨when, o, g⟩⟩]))
  case first =>
    have hb0 : Below w1.heap.size w1 w1.drew := below_drew
    have KS : ∀ V : World, Below w1.heap.size w1 V → (V.cell? ⟨w.heap.size, 0, none⟩ = some (.int .i64 n) ∧ V.cell? ⟨w.heap.size, 2, none⟩ = some (.int .u64 o) ∧ V.cell? ⟨w.heap.size, 1, none⟩ = some (.slice (some ad) D.length cap)) := fun V h => by
      have hb := (h.block _ (Array.getElem?_eq_some_iff.1 K.out.1).1).trans K.out.1
      exact ⟨cell_of_row _ _ 0 _ _ _ hb, cell_of_row _ _ 2 _ _ _ hb, cell_of_row _ _ 1 _ _ _ hb⟩
    have HVV : ∀ V : World, Below w1.heap.size w1 V → TSees V lo (.slice (some ad) D.length cap) D := fun V h => HV.out.below (K.out.2.2.trans (h.mono K.out.2.2.size))
    have hS : w1.drew.cell? ⟨w.heap.size, 0, none⟩ = some (.int .i64 n) ∧ w1.drew.cell? ⟨w.heap.size, 2, none⟩ = some (.int .u64 o) := ⟨(KS _ hb0).1, (KS _ hb0).2.1⟩
    refine wp_region_held_drew (S := fun w' => w'.cell? ⟨w.heap.size, 0, none⟩ = some (.int .i64 n) ∧ w'.cell? ⟨w.heap.size, 2, none⟩ = some (.int .u64 o)) (by kernel_rfl) hS (fun hHeld => ?_)
    refine Own.yes (i := 1) (d := (some 32)) (v := ?_) rfl rfl (by kernel_rfl) (by kernel_rfl) (by kernel_rfl) (fun _ _ _ h => h) rfl ?_ hHeld ?_
    rotate_left
    · (intro w hSw; (try dsimp only at hSw); go_simp; try with_reducible rfl)
    simp only [Act.put, List.setIfInBounds_toArray, List.set_cons_zero, List.set_cons_succ]
    refine Own.yes (i := 4) (d := (some 35)) (v := ?_) rfl rfl (by kernel_rfl) (by kernel_rfl) (by kernel_rfl) (fun _ _ _ h => h) rfl ?_ hHeld ?_
    rotate_left
    · (intro w hSw; (try dsimp only at hSw); go_simp; try with_reducible rfl)
    simp only [Act.put, List.setIfInBounds_toArray, List.set_cons_zero, List.set_cons_succ]
    refine Own.yes (i := 5) (d := (some 36)) (v := ?_) rfl rfl (by kernel_rfl) (by kernel_rfl) (by kernel_rfl) (fun _ _ _ h => h) rfl ?_ hHeld ?_
    rotate_left
    · (intro w hSw; (try dsimp only at hSw); go_simp; try with_reducible rfl)
    simp only [Act.put, List.setIfInBounds_toArray, List.set_cons_zero, List.set_cons_succ]
    refine Own.yes (i := 6) (d := (some 37)) (v := ?_) rfl rfl (by kernel_rfl) (by kernel_rfl) (by kernel_rfl) (fun _ _ _ h => h) rfl ?_ hHeld ?_
    rotate_left
    · (intro w hSw; (try dsimp only at hSw); go_simp; try with_reducible rfl)
    simp only [Act.put, List.setIfInBounds_toArray, List.set_cons_zero, List.set_cons_succ]
    refine Own.yes (i := 7) (d := (some 38)) (v := ?_) rfl rfl (by kernel_rfl) (by kernel_rfl) (by kernel_rfl) (fun _ _ _ h => h) rfl ?_ hHeld ?_
    rotate_left
    · (intro w hSw; (try dsimp only at hSw); go_simp; try with_reducible rfl)
    simp only [Act.put, List.setIfInBounds_toArray, List.set_cons_zero, List.set_cons_succ]
    refine Own.yes (i := 8) (d := (some 39)) (v := ?_) rfl rfl (by kernel_rfl) (by kernel_rfl) (by kernel_rfl) (fun _ _ _ h => h) rfl ?_ hHeld ?_
    rotate_left
    · (intro w hSw; (try dsimp only at hSw); go_simp; try with_reducible rfl)
    simp only [Act.put, List.setIfInBounds_toArray, List.set_cons_zero, List.set_cons_succ]
    refine Own.yes (i := 9) (d := (some 40)) (v := ?_) rfl rfl (by kernel_rfl) (by kernel_rfl) (by kernel_rfl) (fun _ _ _ h => h) rfl ?_ hHeld ?_
    rotate_left
    · (intro w hSw; (try dsimp only at hSw); go_simp; try with_reducible rfl)
    simp only [Act.put, List.setIfInBounds_toArray, List.set_cons_zero, List.set_cons_succ]
    refine Own.yes (i := 10) (d := (some 41)) (v := ?_) rfl rfl (by kernel_rfl) (by kernel_rfl) (by kernel_rfl) (fun _ _ _ h => h) rfl ?_ hHeld ?_
    rotate_left
    · (intro w hSw; (try dsimp only at hSw); go_simp; try with_reducible rfl)
    simp only [Act.put, List.setIfInBounds_toArray, List.set_cons_zero, List.set_cons_succ]
    refine wpAnyH_all (rs := [0, 2, 11]) (by kernel_rfl) (by simp) ?_
    intro j hj
    rcases (show j = 0 ∨ j = 2 ∨ j = 11 by simpa using hj) with rfl | rfl | rfl
    · refine Own.op rfl rfl ?_
      refine Own.run (v := .slice (some ⟨w1.drew.heap.size, 0, none⟩) 0 0) (w' := w1.drew.alloc (.cells #[] TT)) (by go_simp; done) ?_
      have hb1 := hb0.alloc hb0.size (.cells #[] TT)
      have ho1 : OwnsT (w1.drew.alloc (.cells #[] TT)) w1.heap.size (.slice (some ⟨w1.drew.heap.size, 0, none⟩) 0 0) [] := World.ownsRow_made w1.drew #[] 0 hb0.size (Nat.zero_le _) rfl
      have hz1 : (w1.drew.alloc (.cells #[] TT)).heap.size = w1.drew.heap.size + 1 := by simp
      generalize w1.drew.alloc (.cells #[] TT) = V1 at *
      refine ⟨⟨(KS _ hb1).1, (KS _ hb1).2.1⟩, ?_⟩
      simp only [Act.put, List.setIfInBounds_toArray, List.set_cons_zero, List.set_cons_succ]
      refine wpAnyH_all (rs := [2, 11]) (by kernel_rfl) (by simp) ?_
      intro j hj
      rcases (show j = 2 ∨ j = 11 by simpa using hj) with rfl | rfl
      · refine Own.op rfl rfl ?_
        have c2 := (KS _ hb1).2.2
        refine Own.run (v := .slice (some ad) D.length cap) (w' := V1) (by go_simp; done) ?_
        refine ⟨⟨(KS _ hb1).1, (KS _ hb1).2.1⟩, ?_⟩
        simp only [Act.put, List.setIfInBounds_toArray, List.set_cons_zero, List.set_cons_succ]
        refine wpAnyH_all (rs := [3, 11]) (by kernel_rfl) (by simp) ?_
        intro j hj
        rcases (show j = 3 ∨ j = 11 by simpa using hj) with rfl | rfl
        · refine Own.op rfl rfl ?_
          refine wp_append_row (.tmp 31) (.tmp 33) rfl V1 w1.heap.size lo (.slice (some ⟨w1.drew.heap.size, 0, none⟩) 0 0) D ad D.length cap rfl ho1 rfl rfl (HVV _ hb1) (by omega) hb1.size ?_
          intro v3 V3 ho3 hg3
          have hb3 : Below w1.heap.size w1 V3 := below_ownT hb1 ho1 hg3 ⟨hb1.size, Nat.le_refl _⟩
          refine ⟨⟨(KS _ hb3).1, (KS _ hb3).2.1⟩, ?_⟩
          simp only [Act.put, List.setIfInBounds_toArray, List.set_cons_zero, List.set_cons_succ]
          refine wpAnyH_all (rs := [11]) (by kernel_rfl) (by simp) ?_
          intro j hj
          obtain rfl : j = 11 := by simpa using hj
          refine Own.op rfl rfl ?_
          refine Own.run (v := .slice (some ⟨V3.heap.size, 0, none⟩) 1 1) (w' := V3.alloc (.cells #[.int .i64 p, .int .i64 when, .int .u64 o, .int .i64 g] TT)) (by go_simp; done) ?_
          have hb4 := hb3.alloc hb3.size (.cells #[.int .i64 p, .int .i64 when, .int .u64 o, .int .i64 g] TT)
          have ho4 := ownsT_kept ho3 (below_alloc (w := V3) (.cells #[.int .i64 p, .int .i64 when, .int .u64 o, .int .i64 g] TT))
          have hn4 : (V3.alloc (.cells #[.int .i64 p, .int .i64 when, .int .u64 o, .int .i64 g] TT)).heap[V3.heap.size]? = some (.cells #[.int .i64 p, .int .i64 when, .int .u64 o, .int .i64 g] TT (0, 0)) := heap_alloc_new _ _
          have hz4 : (V3.alloc (.cells #[.int .i64 p, .int .i64 when, .int .u64 o, .int .i64 g] TT)).heap.size = V3.heap.size + 1 := by simp
          generalize V3.alloc (.cells #[.int .i64 p, .int .i64 when, .int .u64 o, .int .i64 g] TT) = V4 at *
          refine ⟨⟨(KS _ hb4).1, (KS _ hb4).2.1⟩, ?_⟩
          simp only [Act.put, List.setIfInBounds_toArray, List.set_cons_zero, List.set_cons_succ]
          refine wpAnyH_all (rs := [12]) (by kernel_rfl) (by simp) ?_
          intro j hj
          obtain rfl : j = 12 := by simpa using hj
          refine Own.op rfl rfl ?_
          refine wp_append_tim (.tmp 34) (.tmp 42) rfl V4 w1.heap.size v3 D ⟨p, ⟨when, o, g⟩⟩ V3.heap.size rfl ho4 rfl hn4 (by omega) hb4.size ?_
          intro v5 V5 ho5 hg5
          have hb5 : Below w1.heap.size w1 V5 := below_ownT hb4 ho4 hg5 ⟨hb4.size, Nat.le_refl _⟩
          refine ⟨⟨(KS _ hb5).1, (KS _ hb5).2.1⟩, ?_⟩
          simp only [Act.put, List.setIfInBounds_toArray, List.set_cons_zero, List.set_cons_succ]
          obtain ⟨oa, oc, hov, _⟩ := OwnsT.sees ho5 (Nat.le_refl _)
          obtain ⟨mm, hmm⟩ : ∃ mm, (D ++ [(⟨p, ⟨when, o, g⟩⟩ : Tim)]).length = mm := ⟨_, rfl⟩
          rw [hmm] at hov
          subst hov
          have hS := And.intro (KS _ hb5).1 (KS _ hb5).2.1
          have c1 := (KS _ hb5).2.2
          have hB := (hb5.block _ (Array.getElem?_eq_some_iff.1 K.out.1).1).trans K.out.1
          have fz : V5.frozen? ⟨w.heap.size, 1, none⟩ = false := frozen_of_row _ _ 1 _ _ hB
          refine Own.yes (i := 13) (d := (some 44)) (v := .pointer (some ⟨w.heap.size, 1, none⟩)) rfl rfl (by kernel_rfl) (by kernel_rfl) (by kernel_rfl) (fun _ _ _ h => h) rfl ?_ hS ?_
          · (intro w hSw; go_simp)
          simp only [Act.put, List.setIfInBounds_toArray, List.set_cons_zero, List.set_cons_succ]
          refine wpAnyH_all (rs := [14]) (by kernel_rfl) (by simp) ?_
          intro j hj
          obtain rfl : j = 14 := by simpa using hj
          refine Own.op rfl rfl ?_
          unfold Oper.wp
          go_simp
          refine wpAnyH_done (by kernel_rfl) ?_ _
          have R := Lib.hid (ra_mk K.out ho5 hb5)
          clear fz hB c1 hS
          go_wp2_with fail
          go_meet
          exact ⟨rfl, R.out⟩
        · refine Own.op rfl rfl ?_
          refine Own.run (v := .slice (some ⟨V1.heap.size, 0, none⟩) 1 1) (w' := V1.alloc (.cells #[.int .i64 p, .int .i64 when, .int .u64 o, .int .i64 g] TT)) (by go_simp; done) ?_
          have hb6 := hb1.alloc hb1.size (.cells #[.int .i64 p, .int .i64 when, .int .u64 o, .int .i64 g] TT)
          have ho6 := ownsT_kept ho1 (below_alloc (w := V1) (.cells #[.int .i64 p, .int .i64 when, .int .u64 o, .int .i64 g] TT))
          have hn6 : (V1.alloc (.cells #[.int .i64 p, .int .i64 when, .int .u64 o, .int .i64 g] TT)).heap[V1.heap.size]? = some (.cells #[.int .i64 p, .int .i64 when, .int .u64 o, .int .i64 g] TT (0, 0)) := heap_alloc_new _ _
          have hz6 : (V1.alloc (.cells #[.int .i64 p, .int .i64 when, .int .u64 o, .int .i64 g] TT)).heap.size = V1.heap.size + 1 := by simp
          generalize V1.alloc (.cells #[.int .i64 p, .int .i64 when, .int .u64 o, .int .i64 g] TT) = V6 at *
          refine ⟨⟨(KS _ hb6).1, (KS _ hb6).2.1⟩, ?_⟩
          simp only [Act.put, List.setIfInBounds_toArray, List.set_cons_zero, List.set_cons_succ]
          refine wpAnyH_all (rs := [3]) (by kernel_rfl) (by simp) ?_
          intro j hj
          obtain rfl : j = 3 := by simpa using hj
          refine Own.op rfl rfl ?_
          refine wp_append_row (.tmp 31) (.tmp 33) rfl V6 w1.heap.size lo (.slice (some ⟨w1.drew.heap.size, 0, none⟩) 0 0) D ad D.length cap rfl ho6 rfl rfl (HVV _ hb6) (by omega) hb6.size ?_
          intro v7 V7 ho7 hg7
          have hb7 : Below w1.heap.size w1 V7 := below_ownT hb6 ho6 hg7 ⟨hb6.size, Nat.le_refl _⟩
          have hn7 := (hg7.block V1.heap.size (Array.getElem?_eq_some_iff.1 hn6).1 (fun e => by have h : V1.heap.size = w1.drew.heap.size := Option.some.inj e; omega)).trans hn6
          refine ⟨⟨(KS _ hb7).1, (KS _ hb7).2.1⟩, ?_⟩
          simp only [Act.put, List.setIfInBounds_toArray, List.set_cons_zero, List.set_cons_succ]
          refine wpAnyH_all (rs := [12]) (by kernel_rfl) (by simp) ?_
          intro j hj
          obtain rfl : j = 12 := by simpa using hj
          refine Own.op rfl rfl ?_
          refine wp_append_tim (.tmp 34) (.tmp 42) rfl V7 w1.heap.size v7 D ⟨p, ⟨when, o, g⟩⟩ V1.heap.size rfl ho7 rfl hn7 (by omega) hb7.size ?_
          intro v8 V8 ho8 hg8
          have hb8 : Below w1.heap.size w1 V8 := below_ownT hb7 ho7 hg8 ⟨hb7.size, Nat.le_refl _⟩
          refine ⟨⟨(KS _ hb8).1, (KS _ hb8).2.1⟩, ?_⟩
          simp only [Act.put, List.setIfInBounds_toArray, List.set_cons_zero, List.set_cons_succ]
          obtain ⟨oa, oc, hov, _⟩ := OwnsT.sees ho8 (Nat.le_refl _)
          obtain ⟨mm, hmm⟩ : ∃ mm, (D ++ [(⟨p, ⟨when, o, g⟩⟩ : Tim)]).length = mm := ⟨_, rfl⟩
          rw [hmm] at hov
          subst hov
          have hS := And.intro (KS _ hb8).1 (KS _ hb8).2.1
          have c1 := (KS _ hb8).2.2
          have hB := (hb8.block _ (Array.getElem?_eq_some_iff.1 K.out.1).1).trans K.out.1
          have fz : V8.frozen? ⟨w.heap.size, 1, none⟩ = false := frozen_of_row _ _ 1 _ _ hB
          refine Own.yes (i := 13) (d := (some 44)) (v := .pointer (some ⟨w.heap.size, 1, none⟩)) rfl rfl (by kernel_rfl) (by kernel_rfl) (by kernel_rfl) (fun _ _ _ h => h) rfl ?_ hS ?_
          · (intro w hSw; go_simp)
          simp only [Act.put, List.setIfInBounds_toArray, List.set_cons_zero, List.set_cons_succ]
          refine wpAnyH_all (rs := [14]) (by kernel_rfl) (by simp) ?_
          intro j hj
          obtain rfl : j = 14 := by simpa using hj
          refine Own.op rfl rfl ?_
          unfold Oper.wp
          go_simp
          refine wpAnyH_done (by kernel_rfl) ?_ _
          have R := Lib.hid (ra_mk K.out ho8 hb8)
          clear fz hB c1 hS
          go_wp2_with fail
          go_meet
          exact ⟨rfl, R.out⟩
      · refine Own.op rfl rfl ?_
        refine Own.run (v := .slice (some ⟨V1.heap.size, 0, none⟩) 1 1) (w' := V1.alloc (.cells #[.int .i64 p, .int .i64 when, .int .u64 o, .int .i64 g] TT)) (by go_simp; done) ?_
        have hb9 := hb1.alloc hb1.size (.cells #[.int .i64 p, .int .i64 when, .int .u64 o, .int .i64 g] TT)
        have ho9 := ownsT_kept ho1 (below_alloc (w := V1) (.cells #[.int .i64 p, .int .i64 when, .int .u64 o, .int .i64 g] TT))
        have hn9 : (V1.alloc (.cells #[.int .i64 p, .int .i64 when, .int .u64 o, .int .i64 g] TT)).heap[V1.heap.size]? = some (.cells #[.int .i64 p, .int .i64 when, .int .u64 o, .int .i64 g] TT (0, 0)) := heap_alloc_new _ _
        have hz9 : (V1.alloc (.cells #[.int .i64 p, .int .i64 when, .int .u64 o, .int .i64 g] TT)).heap.size = V1.heap.size + 1 := by simp
        generalize V1.alloc (.cells #[.int .i64 p, .int .i64 when, .int .u64 o, .int .i64 g] TT) = V9 at *
        refine ⟨⟨(KS _ hb9).1, (KS _ hb9).2.1⟩, ?_⟩
        simp only [Act.put, List.setIfInBounds_toArray, List.set_cons_zero, List.set_cons_succ]
        refine wpAnyH_all (rs := [2]) (by kernel_rfl) (by simp) ?_
        intro j hj
        obtain rfl : j = 2 := by simpa using hj
        refine Own.op rfl rfl ?_
        have c10 := (KS _ hb9).2.2
        refine Own.run (v := .slice (some ad) D.length cap) (w' := V9) (by go_simp; done) ?_
        refine ⟨⟨(KS _ hb9).1, (KS _ hb9).2.1⟩, ?_⟩
        simp only [Act.put, List.setIfInBounds_toArray, List.set_cons_zero, List.set_cons_succ]
        refine wpAnyH_all (rs := [3]) (by kernel_rfl) (by simp) ?_
        intro j hj
        obtain rfl : j = 3 := by simpa using hj
        refine Own.op rfl rfl ?_
        refine wp_append_row (.tmp 31) (.tmp 33) rfl V9 w1.heap.size lo (.slice (some ⟨w1.drew.heap.size, 0, none⟩) 0 0) D ad D.length cap rfl ho9 rfl rfl (HVV _ hb9) (by omega) hb9.size ?_
        intro v11 V11 ho11 hg11
        have hb11 : Below w1.heap.size w1 V11 := below_ownT hb9 ho9 hg11 ⟨hb9.size, Nat.le_refl _⟩
        have hn11 := (hg11.block V1.heap.size (Array.getElem?_eq_some_iff.1 hn9).1 (fun e => by have h : V1.heap.size = w1.drew.heap.size := Option.some.inj e; omega)).trans hn9
        refine ⟨⟨(KS _ hb11).1, (KS _ hb11).2.1⟩, ?_⟩
        simp only [Act.put, List.setIfInBounds_toArray, List.set_cons_zero, List.set_cons_succ]
        refine wpAnyH_all (rs := [12]) (by kernel_rfl) (by simp) ?_
        intro j hj
        obtain rfl : j = 12 := by simpa using hj
        refine Own.op rfl rfl ?_
        refine wp_append_tim (.tmp 34) (.tmp 42) rfl V11 w1.heap.size v11 D ⟨p, ⟨when, o, g⟩⟩ V1.heap.size rfl ho11 rfl hn11 (by omega) hb11.size ?_
        intro v12 V12 ho12 hg12
        have hb12 : Below w1.heap.size w1 V12 := below_ownT hb11 ho11 hg12 ⟨hb11.size, Nat.le_refl _⟩
        refine ⟨⟨(KS _ hb12).1, (KS _ hb12).2.1⟩, ?_⟩
        simp only [Act.put, List.setIfInBounds_toArray, List.set_cons_zero, List.set_cons_succ]
        obtain ⟨oa, oc, hov, _⟩ := OwnsT.sees ho12 (Nat.le_refl _)
        obtain ⟨mm, hmm⟩ : ∃ mm, (D ++ [(⟨p, ⟨when, o, g⟩⟩ : Tim)]).length = mm := ⟨_, rfl⟩
        rw [hmm] at hov
        subst hov
        have hS := And.intro (KS _ hb12).1 (KS _ hb12).2.1
        have c1 := (KS _ hb12).2.2
        have hB := (hb12.block _ (Array.getElem?_eq_some_iff.1 K.out.1).1).trans K.out.1
        have fz : V12.frozen? ⟨w.heap.size, 1, none⟩ = false := frozen_of_row _ _ 1 _ _ hB
        refine Own.yes (i := 13) (d := (some 44)) (v := .pointer (some ⟨w.heap.size, 1, none⟩)) rfl rfl (by kernel_rfl) (by kernel_rfl) (by kernel_rfl) (fun _ _ _ h => h) rfl ?_ hS ?_
        · (intro w hSw; go_simp)
        simp only [Act.put, List.setIfInBounds_toArray, List.set_cons_zero, List.set_cons_succ]
        refine wpAnyH_all (rs := [14]) (by kernel_rfl) (by simp) ?_
        intro j hj
        obtain rfl : j = 14 := by simpa using hj
        refine Own.op rfl rfl ?_
        unfold Oper.wp
        go_simp
        refine wpAnyH_done (by kernel_rfl) ?_ _
        have R := Lib.hid (ra_mk K.out ho12 hb12)
        clear fz hB c1 hS
        go_wp2_with fail
        go_meet
        exact ⟨rfl, R.out⟩
    · refine Own.op rfl rfl ?_
      have c13 := (KS _ hb0).2.2
      refine Own.run (v := .slice (some ad) D.length cap) (w' := w1.drew) (by go_simp; done) ?_
      refine ⟨⟨(KS _ hb0).1, (KS _ hb0).2.1⟩, ?_⟩
      simp only [Act.put, List.setIfInBounds_toArray, List.set_cons_zero, List.set_cons_succ]
      refine wpAnyH_all (rs := [0, 11]) (by kernel_rfl) (by simp) ?_
      intro j hj
      rcases (show j = 0 ∨ j = 11 by simpa using hj) with rfl | rfl
      · refine Own.op rfl rfl ?_
        refine Own.run (v := .slice (some ⟨w1.drew.heap.size, 0, none⟩) 0 0) (w' := w1.drew.alloc (.cells #[] TT)) (by go_simp; done) ?_
        have hb14 := hb0.alloc hb0.size (.cells #[] TT)
        have ho14 : OwnsT (w1.drew.alloc (.cells #[] TT)) w1.heap.size (.slice (some ⟨w1.drew.heap.size, 0, none⟩) 0 0) [] := World.ownsRow_made w1.drew #[] 0 hb0.size (Nat.zero_le _) rfl
        have hz14 : (w1.drew.alloc (.cells #[] TT)).heap.size = w1.drew.heap.size + 1 := by simp
        generalize w1.drew.alloc (.cells #[] TT) = V14 at *
        refine ⟨⟨(KS _ hb14).1, (KS _ hb14).2.1⟩, ?_⟩
        simp only [Act.put, List.setIfInBounds_toArray, List.set_cons_zero, List.set_cons_succ]
        refine wpAnyH_all (rs := [3, 11]) (by kernel_rfl) (by simp) ?_
        intro j hj
        rcases (show j = 3 ∨ j = 11 by simpa using hj) with rfl | rfl
        · refine Own.op rfl rfl ?_
          refine wp_append_row (.tmp 31) (.tmp 33) rfl V14 w1.heap.size lo (.slice (some ⟨w1.drew.heap.size, 0, none⟩) 0 0) D ad D.length cap rfl ho14 rfl rfl (HVV _ hb14) (by omega) hb14.size ?_
          intro v15 V15 ho15 hg15
          have hb15 : Below w1.heap.size w1 V15 := below_ownT hb14 ho14 hg15 ⟨hb14.size, Nat.le_refl _⟩
          refine ⟨⟨(KS _ hb15).1, (KS _ hb15).2.1⟩, ?_⟩
          simp only [Act.put, List.setIfInBounds_toArray, List.set_cons_zero, List.set_cons_succ]
          refine wpAnyH_all (rs := [11]) (by kernel_rfl) (by simp) ?_
          intro j hj
          obtain rfl : j = 11 := by simpa using hj
          refine Own.op rfl rfl ?_
          refine Own.run (v := .slice (some ⟨V15.heap.size, 0, none⟩) 1 1) (w' := V15.alloc (.cells #[.int .i64 p, .int .i64 when, .int .u64 o, .int .i64 g] TT)) (by go_simp; done) ?_
          have hb16 := hb15.alloc hb15.size (.cells #[.int .i64 p, .int .i64 when, .int .u64 o, .int .i64 g] TT)
          have ho16 := ownsT_kept ho15 (below_alloc (w := V15) (.cells #[.int .i64 p, .int .i64 when, .int .u64 o, .int .i64 g] TT))
          have hn16 : (V15.alloc (.cells #[.int .i64 p, .int .i64 when, .int .u64 o, .int .i64 g] TT)).heap[V15.heap.size]? = some (.cells #[.int .i64 p, .int .i64 when, .int .u64 o, .int .i64 g] TT (0, 0)) := heap_alloc_new _ _
          have hz16 : (V15.alloc (.cells #[.int .i64 p, .int .i64 when, .int .u64 o, .int .i64 g] TT)).heap.size = V15.heap.size + 1 := by simp
          generalize V15.alloc (.cells #[.int .i64 p, .int .i64 when, .int .u64 o, .int .i64 g] TT) = V16 at *
          refine ⟨⟨(KS _ hb16).1, (KS _ hb16).2.1⟩, ?_⟩
          simp only [Act.put, List.setIfInBounds_toArray, List.set_cons_zero, List.set_cons_succ]
          refine wpAnyH_all (rs := [12]) (by kernel_rfl) (by simp) ?_
          intro j hj
          obtain rfl : j = 12 := by simpa using hj
          refine Own.op rfl rfl ?_
          refine wp_append_tim (.tmp 34) (.tmp 42) rfl V16 w1.heap.size v15 D ⟨p, ⟨when, o, g⟩⟩ V15.heap.size rfl ho16 rfl hn16 (by omega) hb16.size ?_
          intro v17 V17 ho17 hg17
          have hb17 : Below w1.heap.size w1 V17 := below_ownT hb16 ho16 hg17 ⟨hb16.size, Nat.le_refl _⟩
          refine ⟨⟨(KS _ hb17).1, (KS _ hb17).2.1⟩, ?_⟩
          simp only [Act.put, List.setIfInBounds_toArray, List.set_cons_zero, List.set_cons_succ]
          obtain ⟨oa, oc, hov, _⟩ := OwnsT.sees ho17 (Nat.le_refl _)
          obtain ⟨mm, hmm⟩ : ∃ mm, (D ++ [(⟨p, ⟨when, o, g⟩⟩ : Tim)]).length = mm := ⟨_, rfl⟩
          rw [hmm] at hov
          subst hov
          have hS := And.intro (KS _ hb17).1 (KS _ hb17).2.1
          have c1 := (KS _ hb17).2.2
          have hB := (hb17.block _ (Array.getElem?_eq_some_iff.1 K.out.1).1).trans K.out.1
          have fz : V17.frozen? ⟨w.heap.size, 1, none⟩ = false := frozen_of_row _ _ 1 _ _ hB
          refine Own.yes (i := 13) (d := (some 44)) (v := .pointer (some ⟨w.heap.size, 1, none⟩)) rfl rfl (by kernel_rfl) (by kernel_rfl) (by kernel_rfl) (fun _ _ _ h => h) rfl ?_ hS ?_
          · (intro w hSw; go_simp)
          simp only [Act.put, List.setIfInBounds_toArray, List.set_cons_zero, List.set_cons_succ]
          refine wpAnyH_all (rs := [14]) (by kernel_rfl) (by simp) ?_
          intro j hj
          obtain rfl : j = 14 := by simpa using hj
          refine Own.op rfl rfl ?_
          unfold Oper.wp
          go_simp
          refine wpAnyH_done (by kernel_rfl) ?_ _
          have R := Lib.hid (ra_mk K.out ho17 hb17)
          clear fz hB c1 hS
          go_wp2_with fail
          go_meet
          exact ⟨rfl, R.out⟩
        · refine Own.op rfl rfl ?_
          refine Own.run (v := .slice (some ⟨V14.heap.size, 0, none⟩) 1 1) (w' := V14.alloc (.cells #[.int .i64 p, .int .i64 when, .int .u64 o, .int .i64 g] TT)) (by go_simp; done) ?_
          have hb18 := hb14.alloc hb14.size (.cells #[.int .i64 p, .int .i64 when, .int .u64 o, .int .i64 g] TT)
          have ho18 := ownsT_kept ho14 (below_alloc (w := V14) (.cells #[.int .i64 p, .int .i64 when, .int .u64 o, .int .i64 g] TT))
          have hn18 : (V14.alloc (.cells #[.int .i64 p, .int .i64 when, .int .u64 o, .int .i64 g] TT)).heap[V14.heap.size]? = some (.cells #[.int .i64 p, .int .i64 when, .int .u64 o, .int .i64 g] TT (0, 0)) := heap_alloc_new _ _
          have hz18 : (V14.alloc (.cells #[.int .i64 p, .int .i64 when, .int .u64 o, .int .i64 g] TT)).heap.size = V14.heap.size + 1 := by simp
          generalize V14.alloc (.cells #[.int .i64 p, .int .i64 when, .int .u64 o, .int .i64 g] TT) = V18 at *
          refine ⟨⟨(KS _ hb18).1, (KS _ hb18).2.1⟩, ?_⟩
          simp only [Act.put, List.setIfInBounds_toArray, List.set_cons_zero, List.set_cons_succ]
          refine wpAnyH_all (rs := [3]) (by kernel_rfl) (by simp) ?_
          intro j hj
          obtain rfl : j = 3 := by simpa using hj
          refine Own.op rfl rfl ?_
          refine wp_append_row (.tmp 31) (.tmp 33) rfl V18 w1.heap.size lo (.slice (some ⟨w1.drew.heap.size, 0, none⟩) 0 0) D ad D.length cap rfl ho18 rfl rfl (HVV _ hb18) (by omega) hb18.size ?_
          intro v19 V19 ho19 hg19
          have hb19 : Below w1.heap.size w1 V19 := below_ownT hb18 ho18 hg19 ⟨hb18.size, Nat.le_refl _⟩
          have hn19 := (hg19.block V14.heap.size (Array.getElem?_eq_some_iff.1 hn18).1 (fun e => by have h : V14.heap.size = w1.drew.heap.size := Option.some.inj e; omega)).trans hn18
          refine ⟨⟨(KS _ hb19).1, (KS _ hb19).2.1⟩, ?_⟩
          simp only [Act.put, List.setIfInBounds_toArray, List.set_cons_zero, List.set_cons_succ]
          refine wpAnyH_all (rs := [12]) (by kernel_rfl) (by simp) ?_
          intro j hj
          obtain rfl : j = 12 := by simpa using hj
          refine Own.op rfl rfl ?_
          refine wp_append_tim (.tmp 34) (.tmp 42) rfl V19 w1.heap.size v19 D ⟨p, ⟨when, o, g⟩⟩ V14.heap.size rfl ho19 rfl hn19 (by omega) hb19.size ?_
          intro v20 V20 ho20 hg20
          have hb20 : Below w1.heap.size w1 V20 := below_ownT hb19 ho19 hg20 ⟨hb19.size, Nat.le_refl _⟩
          refine ⟨⟨(KS _ hb20).1, (KS _ hb20).2.1⟩, ?_⟩
          simp only [Act.put, List.setIfInBounds_toArray, List.set_cons_zero, List.set_cons_succ]
          obtain ⟨oa, oc, hov, _⟩ := OwnsT.sees ho20 (Nat.le_refl _)
          obtain ⟨mm, hmm⟩ : ∃ mm, (D ++ [(⟨p, ⟨when, o, g⟩⟩ : Tim)]).length = mm := ⟨_, rfl⟩
          rw [hmm] at hov
          subst hov
          have hS := And.intro (KS _ hb20).1 (KS _ hb20).2.1
          have c1 := (KS _ hb20).2.2
          have hB := (hb20.block _ (Array.getElem?_eq_some_iff.1 K.out.1).1).trans K.out.1
          have fz : V20.frozen? ⟨w.heap.size, 1, none⟩ = false := frozen_of_row _ _ 1 _ _ hB
          refine Own.yes (i := 13) (d := (some 44)) (v := .pointer (some ⟨w.heap.size, 1, none⟩)) rfl rfl (by kernel_rfl) (by kernel_rfl) (by kernel_rfl) (fun _ _ _ h => h) rfl ?_ hS ?_
          · (intro w hSw; go_simp)
          simp only [Act.put, List.setIfInBounds_toArray, List.set_cons_zero, List.set_cons_succ]
          refine wpAnyH_all (rs := [14]) (by kernel_rfl) (by simp) ?_
          intro j hj
          obtain rfl : j = 14 := by simpa using hj
          refine Own.op rfl rfl ?_
          unfold Oper.wp
          go_simp
          refine wpAnyH_done (by kernel_rfl) ?_ _
          have R := Lib.hid (ra_mk K.out ho20 hb20)
          clear fz hB c1 hS
          go_wp2_with fail
          go_meet
          exact ⟨rfl, R.out⟩
      · refine Own.op rfl rfl ?_
        refine Own.run (v := .slice (some ⟨w1.drew.heap.size, 0, none⟩) 1 1) (w' := w1.drew.alloc (.cells #[.int .i64 p, .int .i64 when, .int .u64 o, .int .i64 g] TT)) (by go_simp; done) ?_
        have hb21 := hb0.alloc hb0.size (.cells #[.int .i64 p, .int .i64 when, .int .u64 o, .int .i64 g] TT)
        have hn21 : (w1.drew.alloc (.cells #[.int .i64 p, .int .i64 when, .int .u64 o, .int .i64 g] TT)).heap[w1.drew.heap.size]? = some (.cells #[.int .i64 p, .int .i64 when, .int .u64 o, .int .i64 g] TT (0, 0)) := heap_alloc_new _ _
        have hz21 : (w1.drew.alloc (.cells #[.int .i64 p, .int .i64 when, .int .u64 o, .int .i64 g] TT)).heap.size = w1.drew.heap.size + 1 := by simp
        generalize w1.drew.alloc (.cells #[.int .i64 p, .int .i64 when, .int .u64 o, .int .i64 g] TT) = V21 at *
        refine ⟨⟨(KS _ hb21).1, (KS _ hb21).2.1⟩, ?_⟩
        simp only [Act.put, List.setIfInBounds_toArray, List.set_cons_zero, List.set_cons_succ]
        refine wpAnyH_all (rs := [0]) (by kernel_rfl) (by simp) ?_
        intro j hj
        obtain rfl : j = 0 := by simpa using hj
        refine Own.op rfl rfl ?_
        refine Own.run (v := .slice (some ⟨V21.heap.size, 0, none⟩) 0 0) (w' := V21.alloc (.cells #[] TT)) (by go_simp; done) ?_
        have hb22 := hb21.alloc hb21.size (.cells #[] TT)
        have hn22 := (heap_alloc_old V21 (.cells #[] TT) (Array.getElem?_eq_some_iff.1 hn21).1).trans hn21
        have ho22 : OwnsT (V21.alloc (.cells #[] TT)) w1.heap.size (.slice (some ⟨V21.heap.size, 0, none⟩) 0 0) [] := World.ownsRow_made V21 #[] 0 hb21.size (Nat.zero_le _) rfl
        have hz22 : (V21.alloc (.cells #[] TT)).heap.size = V21.heap.size + 1 := by simp
        generalize V21.alloc (.cells #[] TT) = V22 at *
        refine ⟨⟨(KS _ hb22).1, (KS _ hb22).2.1⟩, ?_⟩
        simp only [Act.put, List.setIfInBounds_toArray, List.set_cons_zero, List.set_cons_succ]
        refine wpAnyH_all (rs := [3]) (by kernel_rfl) (by simp) ?_
        intro j hj
        obtain rfl : j = 3 := by simpa using hj
        refine Own.op rfl rfl ?_
        refine wp_append_row (.tmp 31) (.tmp 33) rfl V22 w1.heap.size lo (.slice (some ⟨V21.heap.size, 0, none⟩) 0 0) D ad D.length cap rfl ho22 rfl rfl (HVV _ hb22) (by omega) hb22.size ?_
        intro v23 V23 ho23 hg23
        have hb23 : Below w1.heap.size w1 V23 := below_ownT hb22 ho22 hg23 ⟨hb22.size, Nat.le_refl _⟩
        have hn23 := (hg23.block w1.drew.heap.size (Array.getElem?_eq_some_iff.1 hn22).1 (fun e => by have h : w1.drew.heap.size = V21.heap.size := Option.some.inj e; omega)).trans hn22
        refine ⟨⟨(KS _ hb23).1, (KS _ hb23).2.1⟩, ?_⟩
        simp only [Act.put, List.setIfInBounds_toArray, List.set_cons_zero, List.set_cons_succ]
        refine wpAnyH_all (rs := [12]) (by kernel_rfl) (by simp) ?_
        intro j hj
        obtain rfl : j = 12 := by simpa using hj
        refine Own.op rfl rfl ?_
        refine wp_append_tim (.tmp 34) (.tmp 42) rfl V23 w1.heap.size v23 D ⟨p, ⟨when, o, g⟩⟩ w1.drew.heap.size rfl ho23 rfl hn23 (by omega) hb23.size ?_
        intro v24 V24 ho24 hg24
        have hb24 : Below w1.heap.size w1 V24 := below_ownT hb23 ho23 hg24 ⟨hb23.size, Nat.le_refl _⟩
        refine ⟨⟨(KS _ hb24).1, (KS _ hb24).2.1⟩, ?_⟩
        simp only [Act.put, List.setIfInBounds_toArray, List.set_cons_zero, List.set_cons_succ]
        obtain ⟨oa, oc, hov, _⟩ := OwnsT.sees ho24 (Nat.le_refl _)
        obtain ⟨mm, hmm⟩ : ∃ mm, (D ++ [(⟨p, ⟨when, o, g⟩⟩ : Tim)]).length = mm := ⟨_, rfl⟩
        rw [hmm] at hov
        subst hov
        have hS := And.intro (KS _ hb24).1 (KS _ hb24).2.1
        have c1 := (KS _ hb24).2.2
        have hB := (hb24.block _ (Array.getElem?_eq_some_iff.1 K.out.1).1).trans K.out.1
        have fz : V24.frozen? ⟨w.heap.size, 1, none⟩ = false := frozen_of_row _ _ 1 _ _ hB
        refine Own.yes (i := 13) (d := (some 44)) (v := .pointer (some ⟨w.heap.size, 1, none⟩)) rfl rfl (by kernel_rfl) (by kernel_rfl) (by kernel_rfl) (fun _ _ _ h => h) rfl ?_ hS ?_
        · (intro w hSw; go_simp)
        simp only [Act.put, List.setIfInBounds_toArray, List.set_cons_zero, List.set_cons_succ]
        refine wpAnyH_all (rs := [14]) (by kernel_rfl) (by simp) ?_
        intro j hj
        obtain rfl : j = 14 := by simpa using hj
        refine Own.op rfl rfl ?_
        unfold Oper.wp
        go_simp
        refine wpAnyH_done (by kernel_rfl) ?_ _
        have R := Lib.hid (ra_mk K.out ho24 hb24)
        clear fz hB c1 hS
        go_wp2_with fail
        go_meet
        exact ⟨rfl, R.out⟩
    · refine Own.op rfl rfl ?_
      refine Own.run (v := .slice (some ⟨w1.drew.heap.size, 0, none⟩) 1 1) (w' := w1.drew.alloc (.cells #[.int .i64 p, .int .i64 when, .int .u64 o, .int .i64 g] TT)) (by go_simp; done) ?_
      have hb25 := hb0.alloc hb0.size (.cells #[.int .i64 p, .int .i64 when, .int .u64 o, .int .i64 g] TT)
      have hn25 : (w1.drew.alloc (.cells #[.int .i64 p, .int .i64 when, .int .u64 o, .int .i64 g] TT)).heap[w1.drew.heap.size]? = some (.cells #[.int .i64 p, .int .i64 when, .int .u64 o, .int .i64 g] TT (0, 0)) := heap_alloc_new _ _
      have hz25 : (w1.drew.alloc (.cells #[.int .i64 p, .int .i64 when, .int .u64 o, .int .i64 g] TT)).heap.size = w1.drew.heap.size + 1 := by simp
      generalize w1.drew.alloc (.cells #[.int .i64 p, .int .i64 when, .int .u64 o, .int .i64 g] TT) = V25 at *
      refine ⟨⟨(KS _ hb25).1, (KS _ hb25).2.1⟩, ?_⟩
      simp only [Act.put, List.setIfInBounds_toArray, List.set_cons_zero, List.set_cons_succ]
      refine wpAnyH_all (rs := [0, 2]) (by kernel_rfl) (by simp) ?_
      intro j hj
      rcases (show j = 0 ∨ j = 2 by simpa using hj) with rfl | rfl
      · refine Own.op rfl rfl ?_
        refine Own.run (v := .slice (some ⟨V25.heap.size, 0, none⟩) 0 0) (w' := V25.alloc (.cells #[] TT)) (by go_simp; done) ?_
        have hb26 := hb25.alloc hb25.size (.cells #[] TT)
        have hn26 := (heap_alloc_old V25 (.cells #[] TT) (Array.getElem?_eq_some_iff.1 hn25).1).trans hn25
        have ho26 : OwnsT (V25.alloc (.cells #[] TT)) w1.heap.size (.slice (some ⟨V25.heap.size, 0, none⟩) 0 0) [] := World.ownsRow_made V25 #[] 0 hb25.size (Nat.zero_le _) rfl
        have hz26 : (V25.alloc (.cells #[] TT)).heap.size = V25.heap.size + 1 := by simp
        generalize V25.alloc (.cells #[] TT) = V26 at *
        refine ⟨⟨(KS _ hb26).1, (KS _ hb26).2.1⟩, ?_⟩
        simp only [Act.put, List.setIfInBounds_toArray, List.set_cons_zero, List.set_cons_succ]
        refine wpAnyH_all (rs := [2]) (by kernel_rfl) (by simp) ?_
        intro j hj
        obtain rfl : j = 2 := by simpa using hj
        refine Own.op rfl rfl ?_
        have c27 := (KS _ hb26).2.2
        refine Own.run (v := .slice (some ad) D.length cap) (w' := V26) (by go_simp; done) ?_
        refine ⟨⟨(KS _ hb26).1, (KS _ hb26).2.1⟩, ?_⟩
        simp only [Act.put, List.setIfInBounds_toArray, List.set_cons_zero, List.set_cons_succ]
        refine wpAnyH_all (rs := [3]) (by kernel_rfl) (by simp) ?_
        intro j hj
        obtain rfl : j = 3 := by simpa using hj
        refine Own.op rfl rfl ?_
        refine wp_append_row (.tmp 31) (.tmp 33) rfl V26 w1.heap.size lo (.slice (some ⟨V25.heap.size, 0, none⟩) 0 0) D ad D.length cap rfl ho26 rfl rfl (HVV _ hb26) (by omega) hb26.size ?_
        intro v28 V28 ho28 hg28
        have hb28 : Below w1.heap.size w1 V28 := below_ownT hb26 ho26 hg28 ⟨hb26.size, Nat.le_refl _⟩
        have hn28 := (hg28.block w1.drew.heap.size (Array.getElem?_eq_some_iff.1 hn26).1 (fun e => by have h : w1.drew.heap.size = V25.heap.size := Option.some.inj e; omega)).trans hn26
        refine ⟨⟨(KS _ hb28).1, (KS _ hb28).2.1⟩, ?_⟩
        simp only [Act.put, List.setIfInBounds_toArray, List.set_cons_zero, List.set_cons_succ]
        refine wpAnyH_all (rs := [12]) (by kernel_rfl) (by simp) ?_
        intro j hj
        obtain rfl : j = 12 := by simpa using hj
        refine Own.op rfl rfl ?_
        refine wp_append_tim (.tmp 34) (.tmp 42) rfl V28 w1.heap.size v28 D ⟨p, ⟨when, o, g⟩⟩ w1.drew.heap.size rfl ho28 rfl hn28 (by omega) hb28.size ?_
        intro v29 V29 ho29 hg29
        have hb29 : Below w1.heap.size w1 V29 := below_ownT hb28 ho28 hg29 ⟨hb28.size, Nat.le_refl _⟩
        refine ⟨⟨(KS _ hb29).1, (KS _ hb29).2.1⟩, ?_⟩
        simp only [Act.put, List.setIfInBounds_toArray, List.set_cons_zero, List.set_cons_succ]
        obtain ⟨oa, oc, hov, _⟩ := OwnsT.sees ho29 (Nat.le_refl _)
        obtain ⟨mm, hmm⟩ : ∃ mm, (D ++ [(⟨p, ⟨when, o, g⟩⟩ : Tim)]).length = mm := ⟨_, rfl⟩
        rw [hmm] at hov
        subst hov
        have hS := And.intro (KS _ hb29).1 (KS _ hb29).2.1
        have c1 := (KS _ hb29).2.2
        have hB := (hb29.block _ (Array.getElem?_eq_some_iff.1 K.out.1).1).trans K.out.1
        have fz : V29.frozen? ⟨w.heap.size, 1, none⟩ = false := frozen_of_row _ _ 1 _ _ hB
        refine Own.yes (i := 13) (d := (some 44)) (v := .pointer (some ⟨w.heap.size, 1, none⟩)) rfl rfl (by kernel_rfl) (by kernel_rfl) (by kernel_rfl) (fun _ _ _ h => h) rfl ?_ hS ?_
        · (intro w hSw; go_simp)
        simp only [Act.put, List.setIfInBounds_toArray, List.set_cons_zero, List.set_cons_succ]
        refine wpAnyH_all (rs := [14]) (by kernel_rfl) (by simp) ?_
        intro j hj
        obtain rfl : j = 14 := by simpa using hj
        refine Own.op rfl rfl ?_
        unfold Oper.wp
        go_simp
        refine wpAnyH_done (by kernel_rfl) ?_ _
        have R := Lib.hid (ra_mk K.out ho29 hb29)
        clear fz hB c1 hS
        go_wp2_with fail
        go_meet
        exact ⟨rfl, R.out⟩
      · refine Own.op rfl rfl ?_
        have c30 := (KS _ hb25).2.2
        refine Own.run (v := .slice (some ad) D.length cap) (w' := V25) (by go_simp; done) ?_
        refine ⟨⟨(KS _ hb25).1, (KS _ hb25).2.1⟩, ?_⟩
        simp only [Act.put, List.setIfInBounds_toArray, List.set_cons_zero, List.set_cons_succ]
        refine wpAnyH_all (rs := [0]) (by kernel_rfl) (by simp) ?_
        intro j hj
        obtain rfl : j = 0 := by simpa using hj
        refine Own.op rfl rfl ?_
        refine Own.run (v := .slice (some ⟨V25.heap.size, 0, none⟩) 0 0) (w' := V25.alloc (.cells #[] TT)) (by go_simp; done) ?_
        have hb31 := hb25.alloc hb25.size (.cells #[] TT)
        have hn31 := (heap_alloc_old V25 (.cells #[] TT) (Array.getElem?_eq_some_iff.1 hn25).1).trans hn25
        have ho31 : OwnsT (V25.alloc (.cells #[] TT)) w1.heap.size (.slice (some ⟨V25.heap.size, 0, none⟩) 0 0) [] := World.ownsRow_made V25 #[] 0 hb25.size (Nat.zero_le _) rfl
        have hz31 : (V25.alloc (.cells #[] TT)).heap.size = V25.heap.size + 1 := by simp
        generalize V25.alloc (.cells #[] TT) = V31 at *
        refine ⟨⟨(KS _ hb31).1, (KS _ hb31).2.1⟩, ?_⟩
        simp only [Act.put, List.setIfInBounds_toArray, List.set_cons_zero, List.set_cons_succ]
        refine wpAnyH_all (rs := [3]) (by kernel_rfl) (by simp) ?_
        intro j hj
        obtain rfl : j = 3 := by simpa using hj
        refine Own.op rfl rfl ?_
        refine wp_append_row (.tmp 31) (.tmp 33) rfl V31 w1.heap.size lo (.slice (some ⟨V25.heap.size, 0, none⟩) 0 0) D ad D.length cap rfl ho31 rfl rfl (HVV _ hb31) (by omega) hb31.size ?_
        intro v32 V32 ho32 hg32
        have hb32 : Below w1.heap.size w1 V32 := below_ownT hb31 ho31 hg32 ⟨hb31.size, Nat.le_refl _⟩
        have hn32 := (hg32.block w1.drew.heap.size (Array.getElem?_eq_some_iff.1 hn31).1 (fun e => by have h : w1.drew.heap.size = V25.heap.size := Option.some.inj e; omega)).trans hn31
        refine ⟨⟨(KS _ hb32).1, (KS _ hb32).2.1⟩, ?_⟩
        simp only [Act.put, List.setIfInBounds_toArray, List.set_cons_zero, List.set_cons_succ]
        refine wpAnyH_all (rs := [12]) (by kernel_rfl) (by simp) ?_
        intro j hj
        obtain rfl : j = 12 := by simpa using hj
        refine Own.op rfl rfl ?_
        refine wp_append_tim (.tmp 34) (.tmp 42) rfl V32 w1.heap.size v32 D ⟨p, ⟨when, o, g⟩⟩ w1.drew.heap.size rfl ho32 rfl hn32 (by omega) hb32.size ?_
        intro v33 V33 ho33 hg33
        have hb33 : Below w1.heap.size w1 V33 := below_ownT hb32 ho32 hg33 ⟨hb32.size, Nat.le_refl _⟩
        refine ⟨⟨(KS _ hb33).1, (KS _ hb33).2.1⟩, ?_⟩
        simp only [Act.put, List.setIfInBounds_toArray, List.set_cons_zero, List.set_cons_succ]
        obtain ⟨oa, oc, hov, _⟩ := OwnsT.sees ho33 (Nat.le_refl _)
        obtain ⟨mm, hmm⟩ : ∃ mm, (D ++ [(⟨p, ⟨when, o, g⟩⟩ : Tim)]).length = mm := ⟨_, rfl⟩
        rw [hmm] at hov
        subst hov
        have hS := And.intro (KS _ hb33).1 (KS _ hb33).2.1
        have c1 := (KS _ hb33).2.2
        have hB := (hb33.block _ (Array.getElem?_eq_some_iff.1 K.out.1).1).trans K.out.1
        have fz : V33.frozen? ⟨w.heap.size, 1, none⟩ = false := frozen_of_row _ _ 1 _ _ hB
        refine Own.yes (i := 13) (d := (some 44)) (v := .pointer (some ⟨w.heap.size, 1, none⟩)) rfl rfl (by kernel_rfl) (by kernel_rfl) (by kernel_rfl) (fun _ _ _ h => h) rfl ?_ hS ?_
        · (intro w hSw; go_simp)
        simp only [Act.put, List.setIfInBounds_toArray, List.set_cons_zero, List.set_cons_succ]
        refine wpAnyH_all (rs := [14]) (by kernel_rfl) (by simp) ?_
        intro j hj
        obtain rfl : j = 14 := by simpa using hj
        refine Own.op rfl rfl ?_
        unfold Oper.wp
        go_simp
        refine wpAnyH_done (by kernel_rfl) ?_ _
        have R := Lib.hid (ra_mk K.out ho33 hb33)
        clear fz hB c1 hS
        go_wp2_with fail
        go_meet
        exact ⟨rfl, R.out⟩
  case rest =>
    obtain ⟨rfl, v', hB, hZ, hO, hB1, hB2, hb⟩ := hcut
    clear HV K
    obtain ⟨oa, oc, hov, _⟩ := OwnsT.sees hO (Nat.le_refl _)
    obtain ⟨mm, hmm⟩ : ∃ mm, (D ++ [(⟨p, ⟨when, o, g⟩⟩ : Tim)]).length = mm := ⟨_, rfl⟩
    rw [hmm] at hov
    subst hov
    clear hmm
    have z0 : wc.cell? ⟨w.heap.size, 0, none⟩ = some (.int .i64 n) := cell_of_row _ _ 0 _ _ _ hB
    have z1 : wc.cell? ⟨w.heap.size, 1, none⟩ = some (.slice oa mm oc) := cell_of_row _ _ 1 _ _ _ hB
    have z2 : wc.cell? ⟨w.heap.size, 2, none⟩ = some (.int .u64 o) := cell_of_row _ _ 2 _ _ _ hB
    have fz : ∀ i, wc.frozen? ⟨w.heap.size, i, none⟩ = false := fun i => frozen_of_row _ _ i _ _ hB
    have y0 : wc.cell? ⟨w.heap.size + 1, 0, none⟩ = some (.int .i64 0) := cell_of_row _ _ 0 _ _ _ hZ
    have y1 : wc.cell? ⟨w.heap.size + 1, 1, none⟩ = some (.slice none 0 0) := cell_of_row _ _ 1 _ _ _ hZ
    have y2 : wc.cell? ⟨w.heap.size + 1, 2, none⟩ = some (.int .u64 0) := cell_of_row _ _ 2 _ _ _ hZ
    have fy : ∀ i, wc.frozen? ⟨w.heap.size + 1, i, none⟩ = false := fun i => frozen_of_row _ _ i _ _ hZ
    have hne : w.heap.size ≠ w.heap.size + 1 := by omega
    have ho := HO.out
    have R := Lib.hid (And.intro hB (And.intro hZ (And.intro hO (And.intro (And.intro hB1 hB2) hb))))
    clear hB hZ hO hB1 hb
    have B1 := Lib.hid (show ((wc.setCell ⟨w.heap.size, 2, none⟩ (.int .u64 o')).heap[w.heap.size]? = some (.cells #[.int .i64 n, .slice oa mm oc, .int .u64 o'] TD (0, 0)) ∧ (wc.setCell ⟨w.heap.size, 2, none⟩ (.int .u64 o')).heap[w.heap.size + 1]? = some (.cells #[.int .i64 0, .slice none 0 0, .int .u64 0] TD (0, 0))) from ⟨heap_setCell_same _ _ _ _ _ _ R.out.1, (heap_setCell_other _ _ _ _ (show w.heap.size + 1 ≠ w.heap.size by omega)).trans R.out.2.1⟩)
    go_wp2_with fail
    refine bodyPost_ret (results_td2 rfl _ _ (w.heap.size + 1) (.int .i64 n) (.slice oa mm oc) (.int .u64 o') (.int .i64 0) (td_set B1.out.2 _ _ _) rfl rfl) rfl ⟨_, rfl, ?_, ?_⟩
    · exact ownsT_lower (ownsT_heap R.out.2.2.1 (fun j hj => (box_other (by have := (World.ownsRow.lt R.out.2.2.1 j hj).1; have := R.out.2.2.2.1.2; omega)).trans (heap_setCell_other _ _ _ _ (show j ≠ w.heap.size by have := (World.ownsRow.lt R.out.2.2.1 j hj).1; have := R.out.2.2.2.1.2; omega)))) (by have := R.out.2.2.2.1.2; omega)
    · have hb := R.out.2.2.2.2
      refine below_box ⟨hb.os, hb.tape, hb.output, by simpa using hb.size, fun k hk => (heap_setCell_other _ _ _ _ (show k ≠ w.heap.size by omega)).trans (hb.block k hk)⟩ (by omega)

set_option maxRecDepth 100000 in
set_option maxHeartbeats 1500000 in
theorem radd_nil {w : World} {lo cap : Nat} (hv : TSees w lo (.slice none 0 cap) []) (n o p g when : Int) (h1 : 0 ≤ p) (h2 : p < n) (h3 : 0 ≤ g) (h4 : g ≤ 4095) {o' : Int} (ho : IntKind.u64.wrap (o + 1) = o') :
    Calls Tryz.prog 54 #[.agg #[.int .i64 n, .slice none 0 cap, .int .u64 o], .int .i64 p, .int .i64 g, .int .i64 when] w fun x w' => ∃ v', x = .returned (.tuple #[.agg #[.int .i64 n, v', .int .u64 o'], .int .i64 0]) ∧ OwnsT w' w.heap.size v' ([] ++ [⟨p, ⟨when, o, g⟩⟩]) ∧ Below w.heap.size w w' := by
  have HV := Lib.hid hv
  have HO := Lib.hid ho
  obtain ⟨W, hW, b0, b1, hb, hs⟩ := add_blocks w n o (.slice none 0 cap)
  have H := Lib.hid (And.intro b0 (And.intro b1 (And.intro hb hs)))
  have e1 : (p < 0) = False := eq_false (by omega)
  have e3 : (g < 0) = False := eq_false (by omega)
  have e4 : (4095 < g) = False := eq_false (by omega)
  clear b0 b1 hb hs hv ho
  go_enter Tryz.func54, Tryz.ntmps54
  go_wp2_with fail
  rw [← hW]
  clear hW
  refine (rthas_is (HV.out.below H.out.2.2.1) (D := []) (by simp) n o g rfl).mono ?_
  rintro e w1 ⟨rfl, hb1⟩
  have K := Lib.hid (show w1.heap[w.heap.size]? = some (.cells #[.int .i64 n, .slice none 0 cap, .int .u64 o] TD (0, 0)) ∧ w1.heap[w.heap.size + 1]? = some (.cells #[.int .i64 0, .slice none 0 0, .int .u64 0] TD (0, 0)) ∧ Below w.heap.size w w1 from
    ⟨(hb1.block _ (by have := H.out.2.2.2; omega)).trans H.out.1, (hb1.block _ (by have := H.out.2.2.2; omega)).trans H.out.2.1, H.out.2.2.1.trans (hb1.mono H.out.2.2.1.size)⟩)
  clear hb1 H
  go_upto_region 5 with fail
  go_cut [9] from 31 to 44 (fun s wx => s = .int .i64 0 ∧ RA w wx w1.heap.size n o ([] ++ [⟨p, ⟨when, o, g⟩⟩]))
  case first =>
    have hb0 : Below w1.heap.size w1 w1.drew := below_drew
    have KS : ∀ V : World, Below w1.heap.size w1 V → (V.cell? ⟨w.heap.size, 0, none⟩ = some (.int .i64 n) ∧ V.cell? ⟨w.heap.size, 2, none⟩ = some (.int .u64 o) ∧ V.cell? ⟨w.heap.size, 1, none⟩ = some (.slice none 0 cap)) := fun V h => by
      have hb := (h.block _ (Array.getElem?_eq_some_iff.1 K.out.1).1).trans K.out.1
      exact ⟨cell_of_row _ _ 0 _ _ _ hb, cell_of_row _ _ 2 _ _ _ hb, cell_of_row _ _ 1 _ _ _ hb⟩
    have HVV : ∀ V : World, Below w1.heap.size w1 V → TSees V lo (.slice none 0 cap) [] := fun V h => HV.out.below (K.out.2.2.trans (h.mono K.out.2.2.size))
    have hS : w1.drew.cell? ⟨w.heap.size, 0, none⟩ = some (.int .i64 n) ∧ w1.drew.cell? ⟨w.heap.size, 2, none⟩ = some (.int .u64 o) := ⟨(KS _ hb0).1, (KS _ hb0).2.1⟩
    refine wp_region_held_drew (S := fun w' => w'.cell? ⟨w.heap.size, 0, none⟩ = some (.int .i64 n) ∧ w'.cell? ⟨w.heap.size, 2, none⟩ = some (.int .u64 o)) (by kernel_rfl) hS (fun hHeld => ?_)
    refine Own.yes (i := 1) (d := (some 32)) (v := ?_) rfl rfl (by kernel_rfl) (by kernel_rfl) (by kernel_rfl) (fun _ _ _ h => h) rfl ?_ hHeld ?_
    rotate_left
    · (intro w hSw; (try dsimp only at hSw); go_simp; try with_reducible rfl)
    simp only [Act.put, List.setIfInBounds_toArray, List.set_cons_zero, List.set_cons_succ]
    refine Own.yes (i := 4) (d := (some 35)) (v := ?_) rfl rfl (by kernel_rfl) (by kernel_rfl) (by kernel_rfl) (fun _ _ _ h => h) rfl ?_ hHeld ?_
    rotate_left
    · (intro w hSw; (try dsimp only at hSw); go_simp; try with_reducible rfl)
    simp only [Act.put, List.setIfInBounds_toArray, List.set_cons_zero, List.set_cons_succ]
    refine Own.yes (i := 5) (d := (some 36)) (v := ?_) rfl rfl (by kernel_rfl) (by kernel_rfl) (by kernel_rfl) (fun _ _ _ h => h) rfl ?_ hHeld ?_
    rotate_left
    · (intro w hSw; (try dsimp only at hSw); go_simp; try with_reducible rfl)
    simp only [Act.put, List.setIfInBounds_toArray, List.set_cons_zero, List.set_cons_succ]
    refine Own.yes (i := 6) (d := (some 37)) (v := ?_) rfl rfl (by kernel_rfl) (by kernel_rfl) (by kernel_rfl) (fun _ _ _ h => h) rfl ?_ hHeld ?_
    rotate_left
    · (intro w hSw; (try dsimp only at hSw); go_simp; try with_reducible rfl)
    simp only [Act.put, List.setIfInBounds_toArray, List.set_cons_zero, List.set_cons_succ]
    refine Own.yes (i := 7) (d := (some 38)) (v := ?_) rfl rfl (by kernel_rfl) (by kernel_rfl) (by kernel_rfl) (fun _ _ _ h => h) rfl ?_ hHeld ?_
    rotate_left
    · (intro w hSw; (try dsimp only at hSw); go_simp; try with_reducible rfl)
    simp only [Act.put, List.setIfInBounds_toArray, List.set_cons_zero, List.set_cons_succ]
    refine Own.yes (i := 8) (d := (some 39)) (v := ?_) rfl rfl (by kernel_rfl) (by kernel_rfl) (by kernel_rfl) (fun _ _ _ h => h) rfl ?_ hHeld ?_
    rotate_left
    · (intro w hSw; (try dsimp only at hSw); go_simp; try with_reducible rfl)
    simp only [Act.put, List.setIfInBounds_toArray, List.set_cons_zero, List.set_cons_succ]
    refine Own.yes (i := 9) (d := (some 40)) (v := ?_) rfl rfl (by kernel_rfl) (by kernel_rfl) (by kernel_rfl) (fun _ _ _ h => h) rfl ?_ hHeld ?_
    rotate_left
    · (intro w hSw; (try dsimp only at hSw); go_simp; try with_reducible rfl)
    simp only [Act.put, List.setIfInBounds_toArray, List.set_cons_zero, List.set_cons_succ]
    refine Own.yes (i := 10) (d := (some 41)) (v := ?_) rfl rfl (by kernel_rfl) (by kernel_rfl) (by kernel_rfl) (fun _ _ _ h => h) rfl ?_ hHeld ?_
    rotate_left
    · (intro w hSw; (try dsimp only at hSw); go_simp; try with_reducible rfl)
    simp only [Act.put, List.setIfInBounds_toArray, List.set_cons_zero, List.set_cons_succ]
    refine wpAnyH_all (rs := [0, 2, 11]) (by kernel_rfl) (by simp) ?_
    intro j hj
    rcases (show j = 0 ∨ j = 2 ∨ j = 11 by simpa using hj) with rfl | rfl | rfl
    · refine Own.op rfl rfl ?_
      refine Own.run (v := .slice (some ⟨w1.drew.heap.size, 0, none⟩) 0 0) (w' := w1.drew.alloc (.cells #[] TT)) (by go_simp; done) ?_
      have hb1 := hb0.alloc hb0.size (.cells #[] TT)
      have ho1 : OwnsT (w1.drew.alloc (.cells #[] TT)) w1.heap.size (.slice (some ⟨w1.drew.heap.size, 0, none⟩) 0 0) [] := World.ownsRow_made w1.drew #[] 0 hb0.size (Nat.zero_le _) rfl
      have hz1 : (w1.drew.alloc (.cells #[] TT)).heap.size = w1.drew.heap.size + 1 := by simp
      generalize w1.drew.alloc (.cells #[] TT) = V1 at *
      refine ⟨⟨(KS _ hb1).1, (KS _ hb1).2.1⟩, ?_⟩
      simp only [Act.put, List.setIfInBounds_toArray, List.set_cons_zero, List.set_cons_succ]
      refine wpAnyH_all (rs := [2, 11]) (by kernel_rfl) (by simp) ?_
      intro j hj
      rcases (show j = 2 ∨ j = 11 by simpa using hj) with rfl | rfl
      · refine Own.op rfl rfl ?_
        have c2 := (KS _ hb1).2.2
        refine Own.run (v := .slice none 0 cap) (w' := V1) (by go_simp; done) ?_
        refine ⟨⟨(KS _ hb1).1, (KS _ hb1).2.1⟩, ?_⟩
        simp only [Act.put, List.setIfInBounds_toArray, List.set_cons_zero, List.set_cons_succ]
        refine wpAnyH_all (rs := [3, 11]) (by kernel_rfl) (by simp) ?_
        intro j hj
        rcases (show j = 3 ∨ j = 11 by simpa using hj) with rfl | rfl
        · refine Own.op rfl rfl ?_
          refine Own.run (v := (.slice (some ⟨w1.drew.heap.size, 0, none⟩) 0 0)) (w' := V1) (by go_simp; done) ?_
          refine ⟨⟨(KS _ hb1).1, (KS _ hb1).2.1⟩, ?_⟩
          simp only [Act.put, List.setIfInBounds_toArray, List.set_cons_zero, List.set_cons_succ]
          refine wpAnyH_all (rs := [11]) (by kernel_rfl) (by simp) ?_
          intro j hj
          obtain rfl : j = 11 := by simpa using hj
          refine Own.op rfl rfl ?_
          refine Own.run (v := .slice (some ⟨V1.heap.size, 0, none⟩) 1 1) (w' := V1.alloc (.cells #[.int .i64 p, .int .i64 when, .int .u64 o, .int .i64 g] TT)) (by go_simp; done) ?_
          have hb4 := hb1.alloc hb1.size (.cells #[.int .i64 p, .int .i64 when, .int .u64 o, .int .i64 g] TT)
          have ho4 := ownsT_kept ho1 (below_alloc (w := V1) (.cells #[.int .i64 p, .int .i64 when, .int .u64 o, .int .i64 g] TT))
          have hn4 : (V1.alloc (.cells #[.int .i64 p, .int .i64 when, .int .u64 o, .int .i64 g] TT)).heap[V1.heap.size]? = some (.cells #[.int .i64 p, .int .i64 when, .int .u64 o, .int .i64 g] TT (0, 0)) := heap_alloc_new _ _
          have hz4 : (V1.alloc (.cells #[.int .i64 p, .int .i64 when, .int .u64 o, .int .i64 g] TT)).heap.size = V1.heap.size + 1 := by simp
          generalize V1.alloc (.cells #[.int .i64 p, .int .i64 when, .int .u64 o, .int .i64 g] TT) = V4 at *
          refine ⟨⟨(KS _ hb4).1, (KS _ hb4).2.1⟩, ?_⟩
          simp only [Act.put, List.setIfInBounds_toArray, List.set_cons_zero, List.set_cons_succ]
          refine wpAnyH_all (rs := [12]) (by kernel_rfl) (by simp) ?_
          intro j hj
          obtain rfl : j = 12 := by simpa using hj
          refine Own.op rfl rfl ?_
          refine wp_append_tim (.tmp 34) (.tmp 42) rfl V4 w1.heap.size (.slice (some ⟨w1.drew.heap.size, 0, none⟩) 0 0) [] ⟨p, ⟨when, o, g⟩⟩ V1.heap.size rfl ho4 rfl hn4 (by simp) hb4.size ?_
          intro v5 V5 ho5 hg5
          have hb5 : Below w1.heap.size w1 V5 := below_ownT hb4 ho4 hg5 ⟨hb4.size, Nat.le_refl _⟩
          refine ⟨⟨(KS _ hb5).1, (KS _ hb5).2.1⟩, ?_⟩
          simp only [Act.put, List.setIfInBounds_toArray, List.set_cons_zero, List.set_cons_succ]
          obtain ⟨oa, oc, hov, _⟩ := OwnsT.sees ho5 (Nat.le_refl _)
          obtain ⟨mm, hmm⟩ : ∃ mm, (([] : List Tim) ++ [(⟨p, ⟨when, o, g⟩⟩ : Tim)]).length = mm := ⟨_, rfl⟩
          rw [hmm] at hov
          subst hov
          have hS := And.intro (KS _ hb5).1 (KS _ hb5).2.1
          have c1 := (KS _ hb5).2.2
          have hB := (hb5.block _ (Array.getElem?_eq_some_iff.1 K.out.1).1).trans K.out.1
          have fz : V5.frozen? ⟨w.heap.size, 1, none⟩ = false := frozen_of_row _ _ 1 _ _ hB
          refine Own.yes (i := 13) (d := (some 44)) (v := .pointer (some ⟨w.heap.size, 1, none⟩)) rfl rfl (by kernel_rfl) (by kernel_rfl) (by kernel_rfl) (fun _ _ _ h => h) rfl ?_ hS ?_
          · (intro w hSw; go_simp)
          simp only [Act.put, List.setIfInBounds_toArray, List.set_cons_zero, List.set_cons_succ]
          refine wpAnyH_all (rs := [14]) (by kernel_rfl) (by simp) ?_
          intro j hj
          obtain rfl : j = 14 := by simpa using hj
          refine Own.op rfl rfl ?_
          unfold Oper.wp
          go_simp
          refine wpAnyH_done (by kernel_rfl) ?_ _
          have R := Lib.hid (ra_mk K.out ho5 hb5)
          clear fz hB c1 hS
          go_wp2_with fail
          go_meet
          exact ⟨rfl, R.out⟩
        · refine Own.op rfl rfl ?_
          refine Own.run (v := .slice (some ⟨V1.heap.size, 0, none⟩) 1 1) (w' := V1.alloc (.cells #[.int .i64 p, .int .i64 when, .int .u64 o, .int .i64 g] TT)) (by go_simp; done) ?_
          have hb6 := hb1.alloc hb1.size (.cells #[.int .i64 p, .int .i64 when, .int .u64 o, .int .i64 g] TT)
          have ho6 := ownsT_kept ho1 (below_alloc (w := V1) (.cells #[.int .i64 p, .int .i64 when, .int .u64 o, .int .i64 g] TT))
          have hn6 : (V1.alloc (.cells #[.int .i64 p, .int .i64 when, .int .u64 o, .int .i64 g] TT)).heap[V1.heap.size]? = some (.cells #[.int .i64 p, .int .i64 when, .int .u64 o, .int .i64 g] TT (0, 0)) := heap_alloc_new _ _
          have hz6 : (V1.alloc (.cells #[.int .i64 p, .int .i64 when, .int .u64 o, .int .i64 g] TT)).heap.size = V1.heap.size + 1 := by simp
          generalize V1.alloc (.cells #[.int .i64 p, .int .i64 when, .int .u64 o, .int .i64 g] TT) = V6 at *
          refine ⟨⟨(KS _ hb6).1, (KS _ hb6).2.1⟩, ?_⟩
          simp only [Act.put, List.setIfInBounds_toArray, List.set_cons_zero, List.set_cons_succ]
          refine wpAnyH_all (rs := [3]) (by kernel_rfl) (by simp) ?_
          intro j hj
          obtain rfl : j = 3 := by simpa using hj
          refine Own.op rfl rfl ?_
          refine Own.run (v := (.slice (some ⟨w1.drew.heap.size, 0, none⟩) 0 0)) (w' := V6) (by go_simp; done) ?_
          refine ⟨⟨(KS _ hb6).1, (KS _ hb6).2.1⟩, ?_⟩
          simp only [Act.put, List.setIfInBounds_toArray, List.set_cons_zero, List.set_cons_succ]
          refine wpAnyH_all (rs := [12]) (by kernel_rfl) (by simp) ?_
          intro j hj
          obtain rfl : j = 12 := by simpa using hj
          refine Own.op rfl rfl ?_
          refine wp_append_tim (.tmp 34) (.tmp 42) rfl V6 w1.heap.size (.slice (some ⟨w1.drew.heap.size, 0, none⟩) 0 0) [] ⟨p, ⟨when, o, g⟩⟩ V1.heap.size rfl ho6 rfl hn6 (by simp) hb6.size ?_
          intro v8 V8 ho8 hg8
          have hb8 : Below w1.heap.size w1 V8 := below_ownT hb6 ho6 hg8 ⟨hb6.size, Nat.le_refl _⟩
          refine ⟨⟨(KS _ hb8).1, (KS _ hb8).2.1⟩, ?_⟩
          simp only [Act.put, List.setIfInBounds_toArray, List.set_cons_zero, List.set_cons_succ]
          obtain ⟨oa, oc, hov, _⟩ := OwnsT.sees ho8 (Nat.le_refl _)
          obtain ⟨mm, hmm⟩ : ∃ mm, (([] : List Tim) ++ [(⟨p, ⟨when, o, g⟩⟩ : Tim)]).length = mm := ⟨_, rfl⟩
          rw [hmm] at hov
          subst hov
          have hS := And.intro (KS _ hb8).1 (KS _ hb8).2.1
          have c1 := (KS _ hb8).2.2
          have hB := (hb8.block _ (Array.getElem?_eq_some_iff.1 K.out.1).1).trans K.out.1
          have fz : V8.frozen? ⟨w.heap.size, 1, none⟩ = false := frozen_of_row _ _ 1 _ _ hB
          refine Own.yes (i := 13) (d := (some 44)) (v := .pointer (some ⟨w.heap.size, 1, none⟩)) rfl rfl (by kernel_rfl) (by kernel_rfl) (by kernel_rfl) (fun _ _ _ h => h) rfl ?_ hS ?_
          · (intro w hSw; go_simp)
          simp only [Act.put, List.setIfInBounds_toArray, List.set_cons_zero, List.set_cons_succ]
          refine wpAnyH_all (rs := [14]) (by kernel_rfl) (by simp) ?_
          intro j hj
          obtain rfl : j = 14 := by simpa using hj
          refine Own.op rfl rfl ?_
          unfold Oper.wp
          go_simp
          refine wpAnyH_done (by kernel_rfl) ?_ _
          have R := Lib.hid (ra_mk K.out ho8 hb8)
          clear fz hB c1 hS
          go_wp2_with fail
          go_meet
          exact ⟨rfl, R.out⟩
      · refine Own.op rfl rfl ?_
        refine Own.run (v := .slice (some ⟨V1.heap.size, 0, none⟩) 1 1) (w' := V1.alloc (.cells #[.int .i64 p, .int .i64 when, .int .u64 o, .int .i64 g] TT)) (by go_simp; done) ?_
        have hb9 := hb1.alloc hb1.size (.cells #[.int .i64 p, .int .i64 when, .int .u64 o, .int .i64 g] TT)
        have ho9 := ownsT_kept ho1 (below_alloc (w := V1) (.cells #[.int .i64 p, .int .i64 when, .int .u64 o, .int .i64 g] TT))
        have hn9 : (V1.alloc (.cells #[.int .i64 p, .int .i64 when, .int .u64 o, .int .i64 g] TT)).heap[V1.heap.size]? = some (.cells #[.int .i64 p, .int .i64 when, .int .u64 o, .int .i64 g] TT (0, 0)) := heap_alloc_new _ _
        have hz9 : (V1.alloc (.cells #[.int .i64 p, .int .i64 when, .int .u64 o, .int .i64 g] TT)).heap.size = V1.heap.size + 1 := by simp
        generalize V1.alloc (.cells #[.int .i64 p, .int .i64 when, .int .u64 o, .int .i64 g] TT) = V9 at *
        refine ⟨⟨(KS _ hb9).1, (KS _ hb9).2.1⟩, ?_⟩
        simp only [Act.put, List.setIfInBounds_toArray, List.set_cons_zero, List.set_cons_succ]
        refine wpAnyH_all (rs := [2]) (by kernel_rfl) (by simp) ?_
        intro j hj
        obtain rfl : j = 2 := by simpa using hj
        refine Own.op rfl rfl ?_
        have c10 := (KS _ hb9).2.2
        refine Own.run (v := .slice none 0 cap) (w' := V9) (by go_simp; done) ?_
        refine ⟨⟨(KS _ hb9).1, (KS _ hb9).2.1⟩, ?_⟩
        simp only [Act.put, List.setIfInBounds_toArray, List.set_cons_zero, List.set_cons_succ]
        refine wpAnyH_all (rs := [3]) (by kernel_rfl) (by simp) ?_
        intro j hj
        obtain rfl : j = 3 := by simpa using hj
        refine Own.op rfl rfl ?_
        refine Own.run (v := (.slice (some ⟨w1.drew.heap.size, 0, none⟩) 0 0)) (w' := V9) (by go_simp; done) ?_
        refine ⟨⟨(KS _ hb9).1, (KS _ hb9).2.1⟩, ?_⟩
        simp only [Act.put, List.setIfInBounds_toArray, List.set_cons_zero, List.set_cons_succ]
        refine wpAnyH_all (rs := [12]) (by kernel_rfl) (by simp) ?_
        intro j hj
        obtain rfl : j = 12 := by simpa using hj
        refine Own.op rfl rfl ?_
        refine wp_append_tim (.tmp 34) (.tmp 42) rfl V9 w1.heap.size (.slice (some ⟨w1.drew.heap.size, 0, none⟩) 0 0) [] ⟨p, ⟨when, o, g⟩⟩ V1.heap.size rfl ho9 rfl hn9 (by simp) hb9.size ?_
        intro v12 V12 ho12 hg12
        have hb12 : Below w1.heap.size w1 V12 := below_ownT hb9 ho9 hg12 ⟨hb9.size, Nat.le_refl _⟩
        refine ⟨⟨(KS _ hb12).1, (KS _ hb12).2.1⟩, ?_⟩
        simp only [Act.put, List.setIfInBounds_toArray, List.set_cons_zero, List.set_cons_succ]
        obtain ⟨oa, oc, hov, _⟩ := OwnsT.sees ho12 (Nat.le_refl _)
        obtain ⟨mm, hmm⟩ : ∃ mm, (([] : List Tim) ++ [(⟨p, ⟨when, o, g⟩⟩ : Tim)]).length = mm := ⟨_, rfl⟩
        rw [hmm] at hov
        subst hov
        have hS := And.intro (KS _ hb12).1 (KS _ hb12).2.1
        have c1 := (KS _ hb12).2.2
        have hB := (hb12.block _ (Array.getElem?_eq_some_iff.1 K.out.1).1).trans K.out.1
        have fz : V12.frozen? ⟨w.heap.size, 1, none⟩ = false := frozen_of_row _ _ 1 _ _ hB
        refine Own.yes (i := 13) (d := (some 44)) (v := .pointer (some ⟨w.heap.size, 1, none⟩)) rfl rfl (by kernel_rfl) (by kernel_rfl) (by kernel_rfl) (fun _ _ _ h => h) rfl ?_ hS ?_
        · (intro w hSw; go_simp)
        simp only [Act.put, List.setIfInBounds_toArray, List.set_cons_zero, List.set_cons_succ]
        refine wpAnyH_all (rs := [14]) (by kernel_rfl) (by simp) ?_
        intro j hj
        obtain rfl : j = 14 := by simpa using hj
        refine Own.op rfl rfl ?_
        unfold Oper.wp
        go_simp
        refine wpAnyH_done (by kernel_rfl) ?_ _
        have R := Lib.hid (ra_mk K.out ho12 hb12)
        clear fz hB c1 hS
        go_wp2_with fail
        go_meet
        exact ⟨rfl, R.out⟩
    · refine Own.op rfl rfl ?_
      have c13 := (KS _ hb0).2.2
      refine Own.run (v := .slice none 0 cap) (w' := w1.drew) (by go_simp; done) ?_
      refine ⟨⟨(KS _ hb0).1, (KS _ hb0).2.1⟩, ?_⟩
      simp only [Act.put, List.setIfInBounds_toArray, List.set_cons_zero, List.set_cons_succ]
      refine wpAnyH_all (rs := [0, 11]) (by kernel_rfl) (by simp) ?_
      intro j hj
      rcases (show j = 0 ∨ j = 11 by simpa using hj) with rfl | rfl
      · refine Own.op rfl rfl ?_
        refine Own.run (v := .slice (some ⟨w1.drew.heap.size, 0, none⟩) 0 0) (w' := w1.drew.alloc (.cells #[] TT)) (by go_simp; done) ?_
        have hb14 := hb0.alloc hb0.size (.cells #[] TT)
        have ho14 : OwnsT (w1.drew.alloc (.cells #[] TT)) w1.heap.size (.slice (some ⟨w1.drew.heap.size, 0, none⟩) 0 0) [] := World.ownsRow_made w1.drew #[] 0 hb0.size (Nat.zero_le _) rfl
        have hz14 : (w1.drew.alloc (.cells #[] TT)).heap.size = w1.drew.heap.size + 1 := by simp
        generalize w1.drew.alloc (.cells #[] TT) = V14 at *
        refine ⟨⟨(KS _ hb14).1, (KS _ hb14).2.1⟩, ?_⟩
        simp only [Act.put, List.setIfInBounds_toArray, List.set_cons_zero, List.set_cons_succ]
        refine wpAnyH_all (rs := [3, 11]) (by kernel_rfl) (by simp) ?_
        intro j hj
        rcases (show j = 3 ∨ j = 11 by simpa using hj) with rfl | rfl
        · refine Own.op rfl rfl ?_
          refine Own.run (v := (.slice (some ⟨w1.drew.heap.size, 0, none⟩) 0 0)) (w' := V14) (by go_simp; done) ?_
          refine ⟨⟨(KS _ hb14).1, (KS _ hb14).2.1⟩, ?_⟩
          simp only [Act.put, List.setIfInBounds_toArray, List.set_cons_zero, List.set_cons_succ]
          refine wpAnyH_all (rs := [11]) (by kernel_rfl) (by simp) ?_
          intro j hj
          obtain rfl : j = 11 := by simpa using hj
          refine Own.op rfl rfl ?_
          refine Own.run (v := .slice (some ⟨V14.heap.size, 0, none⟩) 1 1) (w' := V14.alloc (.cells #[.int .i64 p, .int .i64 when, .int .u64 o, .int .i64 g] TT)) (by go_simp; done) ?_
          have hb16 := hb14.alloc hb14.size (.cells #[.int .i64 p, .int .i64 when, .int .u64 o, .int .i64 g] TT)
          have ho16 := ownsT_kept ho14 (below_alloc (w := V14) (.cells #[.int .i64 p, .int .i64 when, .int .u64 o, .int .i64 g] TT))
          have hn16 : (V14.alloc (.cells #[.int .i64 p, .int .i64 when, .int .u64 o, .int .i64 g] TT)).heap[V14.heap.size]? = some (.cells #[.int .i64 p, .int .i64 when, .int .u64 o, .int .i64 g] TT (0, 0)) := heap_alloc_new _ _
          have hz16 : (V14.alloc (.cells #[.int .i64 p, .int .i64 when, .int .u64 o, .int .i64 g] TT)).heap.size = V14.heap.size + 1 := by simp
          generalize V14.alloc (.cells #[.int .i64 p, .int .i64 when, .int .u64 o, .int .i64 g] TT) = V16 at *
          refine ⟨⟨(KS _ hb16).1, (KS _ hb16).2.1⟩, ?_⟩
          simp only [Act.put, List.setIfInBounds_toArray, List.set_cons_zero, List.set_cons_succ]
          refine wpAnyH_all (rs := [12]) (by kernel_rfl) (by simp) ?_
          intro j hj
          obtain rfl : j = 12 := by simpa using hj
          refine Own.op rfl rfl ?_
          refine wp_append_tim (.tmp 34) (.tmp 42) rfl V16 w1.heap.size (.slice (some ⟨w1.drew.heap.size, 0, none⟩) 0 0) [] ⟨p, ⟨when, o, g⟩⟩ V14.heap.size rfl ho16 rfl hn16 (by simp) hb16.size ?_
          intro v17 V17 ho17 hg17
          have hb17 : Below w1.heap.size w1 V17 := below_ownT hb16 ho16 hg17 ⟨hb16.size, Nat.le_refl _⟩
          refine ⟨⟨(KS _ hb17).1, (KS _ hb17).2.1⟩, ?_⟩
          simp only [Act.put, List.setIfInBounds_toArray, List.set_cons_zero, List.set_cons_succ]
          obtain ⟨oa, oc, hov, _⟩ := OwnsT.sees ho17 (Nat.le_refl _)
          obtain ⟨mm, hmm⟩ : ∃ mm, (([] : List Tim) ++ [(⟨p, ⟨when, o, g⟩⟩ : Tim)]).length = mm := ⟨_, rfl⟩
          rw [hmm] at hov
          subst hov
          have hS := And.intro (KS _ hb17).1 (KS _ hb17).2.1
          have c1 := (KS _ hb17).2.2
          have hB := (hb17.block _ (Array.getElem?_eq_some_iff.1 K.out.1).1).trans K.out.1
          have fz : V17.frozen? ⟨w.heap.size, 1, none⟩ = false := frozen_of_row _ _ 1 _ _ hB
          refine Own.yes (i := 13) (d := (some 44)) (v := .pointer (some ⟨w.heap.size, 1, none⟩)) rfl rfl (by kernel_rfl) (by kernel_rfl) (by kernel_rfl) (fun _ _ _ h => h) rfl ?_ hS ?_
          · (intro w hSw; go_simp)
          simp only [Act.put, List.setIfInBounds_toArray, List.set_cons_zero, List.set_cons_succ]
          refine wpAnyH_all (rs := [14]) (by kernel_rfl) (by simp) ?_
          intro j hj
          obtain rfl : j = 14 := by simpa using hj
          refine Own.op rfl rfl ?_
          unfold Oper.wp
          go_simp
          refine wpAnyH_done (by kernel_rfl) ?_ _
          have R := Lib.hid (ra_mk K.out ho17 hb17)
          clear fz hB c1 hS
          go_wp2_with fail
          go_meet
          exact ⟨rfl, R.out⟩
        · refine Own.op rfl rfl ?_
          refine Own.run (v := .slice (some ⟨V14.heap.size, 0, none⟩) 1 1) (w' := V14.alloc (.cells #[.int .i64 p, .int .i64 when, .int .u64 o, .int .i64 g] TT)) (by go_simp; done) ?_
          have hb18 := hb14.alloc hb14.size (.cells #[.int .i64 p, .int .i64 when, .int .u64 o, .int .i64 g] TT)
          have ho18 := ownsT_kept ho14 (below_alloc (w := V14) (.cells #[.int .i64 p, .int .i64 when, .int .u64 o, .int .i64 g] TT))
          have hn18 : (V14.alloc (.cells #[.int .i64 p, .int .i64 when, .int .u64 o, .int .i64 g] TT)).heap[V14.heap.size]? = some (.cells #[.int .i64 p, .int .i64 when, .int .u64 o, .int .i64 g] TT (0, 0)) := heap_alloc_new _ _
          have hz18 : (V14.alloc (.cells #[.int .i64 p, .int .i64 when, .int .u64 o, .int .i64 g] TT)).heap.size = V14.heap.size + 1 := by simp
          generalize V14.alloc (.cells #[.int .i64 p, .int .i64 when, .int .u64 o, .int .i64 g] TT) = V18 at *
          refine ⟨⟨(KS _ hb18).1, (KS _ hb18).2.1⟩, ?_⟩
          simp only [Act.put, List.setIfInBounds_toArray, List.set_cons_zero, List.set_cons_succ]
          refine wpAnyH_all (rs := [3]) (by kernel_rfl) (by simp) ?_
          intro j hj
          obtain rfl : j = 3 := by simpa using hj
          refine Own.op rfl rfl ?_
          refine Own.run (v := (.slice (some ⟨w1.drew.heap.size, 0, none⟩) 0 0)) (w' := V18) (by go_simp; done) ?_
          refine ⟨⟨(KS _ hb18).1, (KS _ hb18).2.1⟩, ?_⟩
          simp only [Act.put, List.setIfInBounds_toArray, List.set_cons_zero, List.set_cons_succ]
          refine wpAnyH_all (rs := [12]) (by kernel_rfl) (by simp) ?_
          intro j hj
          obtain rfl : j = 12 := by simpa using hj
          refine Own.op rfl rfl ?_
          refine wp_append_tim (.tmp 34) (.tmp 42) rfl V18 w1.heap.size (.slice (some ⟨w1.drew.heap.size, 0, none⟩) 0 0) [] ⟨p, ⟨when, o, g⟩⟩ V14.heap.size rfl ho18 rfl hn18 (by simp) hb18.size ?_
          intro v20 V20 ho20 hg20
          have hb20 : Below w1.heap.size w1 V20 := below_ownT hb18 ho18 hg20 ⟨hb18.size, Nat.le_refl _⟩
          refine ⟨⟨(KS _ hb20).1, (KS _ hb20).2.1⟩, ?_⟩
          simp only [Act.put, List.setIfInBounds_toArray, List.set_cons_zero, List.set_cons_succ]
          obtain ⟨oa, oc, hov, _⟩ := OwnsT.sees ho20 (Nat.le_refl _)
          obtain ⟨mm, hmm⟩ : ∃ mm, (([] : List Tim) ++ [(⟨p, ⟨when, o, g⟩⟩ : Tim)]).length = mm := ⟨_, rfl⟩
          rw [hmm] at hov
          subst hov
          have hS := And.intro (KS _ hb20).1 (KS _ hb20).2.1
          have c1 := (KS _ hb20).2.2
          have hB := (hb20.block _ (Array.getElem?_eq_some_iff.1 K.out.1).1).trans K.out.1
          have fz : V20.frozen? ⟨w.heap.size, 1, none⟩ = false := frozen_of_row _ _ 1 _ _ hB
          refine Own.yes (i := 13) (d := (some 44)) (v := .pointer (some ⟨w.heap.size, 1, none⟩)) rfl rfl (by kernel_rfl) (by kernel_rfl) (by kernel_rfl) (fun _ _ _ h => h) rfl ?_ hS ?_
          · (intro w hSw; go_simp)
          simp only [Act.put, List.setIfInBounds_toArray, List.set_cons_zero, List.set_cons_succ]
          refine wpAnyH_all (rs := [14]) (by kernel_rfl) (by simp) ?_
          intro j hj
          obtain rfl : j = 14 := by simpa using hj
          refine Own.op rfl rfl ?_
          unfold Oper.wp
          go_simp
          refine wpAnyH_done (by kernel_rfl) ?_ _
          have R := Lib.hid (ra_mk K.out ho20 hb20)
          clear fz hB c1 hS
          go_wp2_with fail
          go_meet
          exact ⟨rfl, R.out⟩
      · refine Own.op rfl rfl ?_
        refine Own.run (v := .slice (some ⟨w1.drew.heap.size, 0, none⟩) 1 1) (w' := w1.drew.alloc (.cells #[.int .i64 p, .int .i64 when, .int .u64 o, .int .i64 g] TT)) (by go_simp; done) ?_
        have hb21 := hb0.alloc hb0.size (.cells #[.int .i64 p, .int .i64 when, .int .u64 o, .int .i64 g] TT)
        have hn21 : (w1.drew.alloc (.cells #[.int .i64 p, .int .i64 when, .int .u64 o, .int .i64 g] TT)).heap[w1.drew.heap.size]? = some (.cells #[.int .i64 p, .int .i64 when, .int .u64 o, .int .i64 g] TT (0, 0)) := heap_alloc_new _ _
        have hz21 : (w1.drew.alloc (.cells #[.int .i64 p, .int .i64 when, .int .u64 o, .int .i64 g] TT)).heap.size = w1.drew.heap.size + 1 := by simp
        generalize w1.drew.alloc (.cells #[.int .i64 p, .int .i64 when, .int .u64 o, .int .i64 g] TT) = V21 at *
        refine ⟨⟨(KS _ hb21).1, (KS _ hb21).2.1⟩, ?_⟩
        simp only [Act.put, List.setIfInBounds_toArray, List.set_cons_zero, List.set_cons_succ]
        refine wpAnyH_all (rs := [0]) (by kernel_rfl) (by simp) ?_
        intro j hj
        obtain rfl : j = 0 := by simpa using hj
        refine Own.op rfl rfl ?_
        refine Own.run (v := .slice (some ⟨V21.heap.size, 0, none⟩) 0 0) (w' := V21.alloc (.cells #[] TT)) (by go_simp; done) ?_
        have hb22 := hb21.alloc hb21.size (.cells #[] TT)
        have hn22 := (heap_alloc_old V21 (.cells #[] TT) (Array.getElem?_eq_some_iff.1 hn21).1).trans hn21
        have ho22 : OwnsT (V21.alloc (.cells #[] TT)) w1.heap.size (.slice (some ⟨V21.heap.size, 0, none⟩) 0 0) [] := World.ownsRow_made V21 #[] 0 hb21.size (Nat.zero_le _) rfl
        have hz22 : (V21.alloc (.cells #[] TT)).heap.size = V21.heap.size + 1 := by simp
        generalize V21.alloc (.cells #[] TT) = V22 at *
        refine ⟨⟨(KS _ hb22).1, (KS _ hb22).2.1⟩, ?_⟩
        simp only [Act.put, List.setIfInBounds_toArray, List.set_cons_zero, List.set_cons_succ]
        refine wpAnyH_all (rs := [3]) (by kernel_rfl) (by simp) ?_
        intro j hj
        obtain rfl : j = 3 := by simpa using hj
        refine Own.op rfl rfl ?_
        refine Own.run (v := (.slice (some ⟨V21.heap.size, 0, none⟩) 0 0)) (w' := V22) (by go_simp; done) ?_
        refine ⟨⟨(KS _ hb22).1, (KS _ hb22).2.1⟩, ?_⟩
        simp only [Act.put, List.setIfInBounds_toArray, List.set_cons_zero, List.set_cons_succ]
        refine wpAnyH_all (rs := [12]) (by kernel_rfl) (by simp) ?_
        intro j hj
        obtain rfl : j = 12 := by simpa using hj
        refine Own.op rfl rfl ?_
        refine wp_append_tim (.tmp 34) (.tmp 42) rfl V22 w1.heap.size (.slice (some ⟨V21.heap.size, 0, none⟩) 0 0) [] ⟨p, ⟨when, o, g⟩⟩ w1.drew.heap.size rfl ho22 rfl hn22 (by simp) hb22.size ?_
        intro v24 V24 ho24 hg24
        have hb24 : Below w1.heap.size w1 V24 := below_ownT hb22 ho22 hg24 ⟨hb22.size, Nat.le_refl _⟩
        refine ⟨⟨(KS _ hb24).1, (KS _ hb24).2.1⟩, ?_⟩
        simp only [Act.put, List.setIfInBounds_toArray, List.set_cons_zero, List.set_cons_succ]
        obtain ⟨oa, oc, hov, _⟩ := OwnsT.sees ho24 (Nat.le_refl _)
        obtain ⟨mm, hmm⟩ : ∃ mm, (([] : List Tim) ++ [(⟨p, ⟨when, o, g⟩⟩ : Tim)]).length = mm := ⟨_, rfl⟩
        rw [hmm] at hov
        subst hov
        have hS := And.intro (KS _ hb24).1 (KS _ hb24).2.1
        have c1 := (KS _ hb24).2.2
        have hB := (hb24.block _ (Array.getElem?_eq_some_iff.1 K.out.1).1).trans K.out.1
        have fz : V24.frozen? ⟨w.heap.size, 1, none⟩ = false := frozen_of_row _ _ 1 _ _ hB
        refine Own.yes (i := 13) (d := (some 44)) (v := .pointer (some ⟨w.heap.size, 1, none⟩)) rfl rfl (by kernel_rfl) (by kernel_rfl) (by kernel_rfl) (fun _ _ _ h => h) rfl ?_ hS ?_
        · (intro w hSw; go_simp)
        simp only [Act.put, List.setIfInBounds_toArray, List.set_cons_zero, List.set_cons_succ]
        refine wpAnyH_all (rs := [14]) (by kernel_rfl) (by simp) ?_
        intro j hj
        obtain rfl : j = 14 := by simpa using hj
        refine Own.op rfl rfl ?_
        unfold Oper.wp
        go_simp
        refine wpAnyH_done (by kernel_rfl) ?_ _
        have R := Lib.hid (ra_mk K.out ho24 hb24)
        clear fz hB c1 hS
        go_wp2_with fail
        go_meet
        exact ⟨rfl, R.out⟩
    · refine Own.op rfl rfl ?_
      refine Own.run (v := .slice (some ⟨w1.drew.heap.size, 0, none⟩) 1 1) (w' := w1.drew.alloc (.cells #[.int .i64 p, .int .i64 when, .int .u64 o, .int .i64 g] TT)) (by go_simp; done) ?_
      have hb25 := hb0.alloc hb0.size (.cells #[.int .i64 p, .int .i64 when, .int .u64 o, .int .i64 g] TT)
      have hn25 : (w1.drew.alloc (.cells #[.int .i64 p, .int .i64 when, .int .u64 o, .int .i64 g] TT)).heap[w1.drew.heap.size]? = some (.cells #[.int .i64 p, .int .i64 when, .int .u64 o, .int .i64 g] TT (0, 0)) := heap_alloc_new _ _
      have hz25 : (w1.drew.alloc (.cells #[.int .i64 p, .int .i64 when, .int .u64 o, .int .i64 g] TT)).heap.size = w1.drew.heap.size + 1 := by simp
      generalize w1.drew.alloc (.cells #[.int .i64 p, .int .i64 when, .int .u64 o, .int .i64 g] TT) = V25 at *
      refine ⟨⟨(KS _ hb25).1, (KS _ hb25).2.1⟩, ?_⟩
      simp only [Act.put, List.setIfInBounds_toArray, List.set_cons_zero, List.set_cons_succ]
      refine wpAnyH_all (rs := [0, 2]) (by kernel_rfl) (by simp) ?_
      intro j hj
      rcases (show j = 0 ∨ j = 2 by simpa using hj) with rfl | rfl
      · refine Own.op rfl rfl ?_
        refine Own.run (v := .slice (some ⟨V25.heap.size, 0, none⟩) 0 0) (w' := V25.alloc (.cells #[] TT)) (by go_simp; done) ?_
        have hb26 := hb25.alloc hb25.size (.cells #[] TT)
        have hn26 := (heap_alloc_old V25 (.cells #[] TT) (Array.getElem?_eq_some_iff.1 hn25).1).trans hn25
        have ho26 : OwnsT (V25.alloc (.cells #[] TT)) w1.heap.size (.slice (some ⟨V25.heap.size, 0, none⟩) 0 0) [] := World.ownsRow_made V25 #[] 0 hb25.size (Nat.zero_le _) rfl
        have hz26 : (V25.alloc (.cells #[] TT)).heap.size = V25.heap.size + 1 := by simp
        generalize V25.alloc (.cells #[] TT) = V26 at *
        refine ⟨⟨(KS _ hb26).1, (KS _ hb26).2.1⟩, ?_⟩
        simp only [Act.put, List.setIfInBounds_toArray, List.set_cons_zero, List.set_cons_succ]
        refine wpAnyH_all (rs := [2]) (by kernel_rfl) (by simp) ?_
        intro j hj
        obtain rfl : j = 2 := by simpa using hj
        refine Own.op rfl rfl ?_
        have c27 := (KS _ hb26).2.2
        refine Own.run (v := .slice none 0 cap) (w' := V26) (by go_simp; done) ?_
        refine ⟨⟨(KS _ hb26).1, (KS _ hb26).2.1⟩, ?_⟩
        simp only [Act.put, List.setIfInBounds_toArray, List.set_cons_zero, List.set_cons_succ]
        refine wpAnyH_all (rs := [3]) (by kernel_rfl) (by simp) ?_
        intro j hj
        obtain rfl : j = 3 := by simpa using hj
        refine Own.op rfl rfl ?_
        refine Own.run (v := (.slice (some ⟨V25.heap.size, 0, none⟩) 0 0)) (w' := V26) (by go_simp; done) ?_
        refine ⟨⟨(KS _ hb26).1, (KS _ hb26).2.1⟩, ?_⟩
        simp only [Act.put, List.setIfInBounds_toArray, List.set_cons_zero, List.set_cons_succ]
        refine wpAnyH_all (rs := [12]) (by kernel_rfl) (by simp) ?_
        intro j hj
        obtain rfl : j = 12 := by simpa using hj
        refine Own.op rfl rfl ?_
        refine wp_append_tim (.tmp 34) (.tmp 42) rfl V26 w1.heap.size (.slice (some ⟨V25.heap.size, 0, none⟩) 0 0) [] ⟨p, ⟨when, o, g⟩⟩ w1.drew.heap.size rfl ho26 rfl hn26 (by simp) hb26.size ?_
        intro v29 V29 ho29 hg29
        have hb29 : Below w1.heap.size w1 V29 := below_ownT hb26 ho26 hg29 ⟨hb26.size, Nat.le_refl _⟩
        refine ⟨⟨(KS _ hb29).1, (KS _ hb29).2.1⟩, ?_⟩
        simp only [Act.put, List.setIfInBounds_toArray, List.set_cons_zero, List.set_cons_succ]
        obtain ⟨oa, oc, hov, _⟩ := OwnsT.sees ho29 (Nat.le_refl _)
        obtain ⟨mm, hmm⟩ : ∃ mm, (([] : List Tim) ++ [(⟨p, ⟨when, o, g⟩⟩ : Tim)]).length = mm := ⟨_, rfl⟩
        rw [hmm] at hov
        subst hov
        have hS := And.intro (KS _ hb29).1 (KS _ hb29).2.1
        have c1 := (KS _ hb29).2.2
        have hB := (hb29.block _ (Array.getElem?_eq_some_iff.1 K.out.1).1).trans K.out.1
        have fz : V29.frozen? ⟨w.heap.size, 1, none⟩ = false := frozen_of_row _ _ 1 _ _ hB
        refine Own.yes (i := 13) (d := (some 44)) (v := .pointer (some ⟨w.heap.size, 1, none⟩)) rfl rfl (by kernel_rfl) (by kernel_rfl) (by kernel_rfl) (fun _ _ _ h => h) rfl ?_ hS ?_
        · (intro w hSw; go_simp)
        simp only [Act.put, List.setIfInBounds_toArray, List.set_cons_zero, List.set_cons_succ]
        refine wpAnyH_all (rs := [14]) (by kernel_rfl) (by simp) ?_
        intro j hj
        obtain rfl : j = 14 := by simpa using hj
        refine Own.op rfl rfl ?_
        unfold Oper.wp
        go_simp
        refine wpAnyH_done (by kernel_rfl) ?_ _
        have R := Lib.hid (ra_mk K.out ho29 hb29)
        clear fz hB c1 hS
        go_wp2_with fail
        go_meet
        exact ⟨rfl, R.out⟩
      · refine Own.op rfl rfl ?_
        have c30 := (KS _ hb25).2.2
        refine Own.run (v := .slice none 0 cap) (w' := V25) (by go_simp; done) ?_
        refine ⟨⟨(KS _ hb25).1, (KS _ hb25).2.1⟩, ?_⟩
        simp only [Act.put, List.setIfInBounds_toArray, List.set_cons_zero, List.set_cons_succ]
        refine wpAnyH_all (rs := [0]) (by kernel_rfl) (by simp) ?_
        intro j hj
        obtain rfl : j = 0 := by simpa using hj
        refine Own.op rfl rfl ?_
        refine Own.run (v := .slice (some ⟨V25.heap.size, 0, none⟩) 0 0) (w' := V25.alloc (.cells #[] TT)) (by go_simp; done) ?_
        have hb31 := hb25.alloc hb25.size (.cells #[] TT)
        have hn31 := (heap_alloc_old V25 (.cells #[] TT) (Array.getElem?_eq_some_iff.1 hn25).1).trans hn25
        have ho31 : OwnsT (V25.alloc (.cells #[] TT)) w1.heap.size (.slice (some ⟨V25.heap.size, 0, none⟩) 0 0) [] := World.ownsRow_made V25 #[] 0 hb25.size (Nat.zero_le _) rfl
        have hz31 : (V25.alloc (.cells #[] TT)).heap.size = V25.heap.size + 1 := by simp
        generalize V25.alloc (.cells #[] TT) = V31 at *
        refine ⟨⟨(KS _ hb31).1, (KS _ hb31).2.1⟩, ?_⟩
        simp only [Act.put, List.setIfInBounds_toArray, List.set_cons_zero, List.set_cons_succ]
        refine wpAnyH_all (rs := [3]) (by kernel_rfl) (by simp) ?_
        intro j hj
        obtain rfl : j = 3 := by simpa using hj
        refine Own.op rfl rfl ?_
        refine Own.run (v := (.slice (some ⟨V25.heap.size, 0, none⟩) 0 0)) (w' := V31) (by go_simp; done) ?_
        refine ⟨⟨(KS _ hb31).1, (KS _ hb31).2.1⟩, ?_⟩
        simp only [Act.put, List.setIfInBounds_toArray, List.set_cons_zero, List.set_cons_succ]
        refine wpAnyH_all (rs := [12]) (by kernel_rfl) (by simp) ?_
        intro j hj
        obtain rfl : j = 12 := by simpa using hj
        refine Own.op rfl rfl ?_
        refine wp_append_tim (.tmp 34) (.tmp 42) rfl V31 w1.heap.size (.slice (some ⟨V25.heap.size, 0, none⟩) 0 0) [] ⟨p, ⟨when, o, g⟩⟩ w1.drew.heap.size rfl ho31 rfl hn31 (by simp) hb31.size ?_
        intro v33 V33 ho33 hg33
        have hb33 : Below w1.heap.size w1 V33 := below_ownT hb31 ho31 hg33 ⟨hb31.size, Nat.le_refl _⟩
        refine ⟨⟨(KS _ hb33).1, (KS _ hb33).2.1⟩, ?_⟩
        simp only [Act.put, List.setIfInBounds_toArray, List.set_cons_zero, List.set_cons_succ]
        obtain ⟨oa, oc, hov, _⟩ := OwnsT.sees ho33 (Nat.le_refl _)
        obtain ⟨mm, hmm⟩ : ∃ mm, (([] : List Tim) ++ [(⟨p, ⟨when, o, g⟩⟩ : Tim)]).length = mm := ⟨_, rfl⟩
        rw [hmm] at hov
        subst hov
        have hS := And.intro (KS _ hb33).1 (KS _ hb33).2.1
        have c1 := (KS _ hb33).2.2
        have hB := (hb33.block _ (Array.getElem?_eq_some_iff.1 K.out.1).1).trans K.out.1
        have fz : V33.frozen? ⟨w.heap.size, 1, none⟩ = false := frozen_of_row _ _ 1 _ _ hB
        refine Own.yes (i := 13) (d := (some 44)) (v := .pointer (some ⟨w.heap.size, 1, none⟩)) rfl rfl (by kernel_rfl) (by kernel_rfl) (by kernel_rfl) (fun _ _ _ h => h) rfl ?_ hS ?_
        · (intro w hSw; go_simp)
        simp only [Act.put, List.setIfInBounds_toArray, List.set_cons_zero, List.set_cons_succ]
        refine wpAnyH_all (rs := [14]) (by kernel_rfl) (by simp) ?_
        intro j hj
        obtain rfl : j = 14 := by simpa using hj
        refine Own.op rfl rfl ?_
        unfold Oper.wp
        go_simp
        refine wpAnyH_done (by kernel_rfl) ?_ _
        have R := Lib.hid (ra_mk K.out ho33 hb33)
        clear fz hB c1 hS
        go_wp2_with fail
        go_meet
        exact ⟨rfl, R.out⟩
  case rest =>
    obtain ⟨rfl, v', hB, hZ, hO, hB1, hB2, hb⟩ := hcut
    clear HV K
    obtain ⟨oa, oc, hov, _⟩ := OwnsT.sees hO (Nat.le_refl _)
    obtain ⟨mm, hmm⟩ : ∃ mm, ([] ++ [(⟨p, ⟨when, o, g⟩⟩ : Tim)]).length = mm := ⟨_, rfl⟩
    rw [hmm] at hov
    subst hov
    clear hmm
    have z0 : wc.cell? ⟨w.heap.size, 0, none⟩ = some (.int .i64 n) := cell_of_row _ _ 0 _ _ _ hB
    have z1 : wc.cell? ⟨w.heap.size, 1, none⟩ = some (.slice oa mm oc) := cell_of_row _ _ 1 _ _ _ hB
    have z2 : wc.cell? ⟨w.heap.size, 2, none⟩ = some (.int .u64 o) := cell_of_row _ _ 2 _ _ _ hB
    have fz : ∀ i, wc.frozen? ⟨w.heap.size, i, none⟩ = false := fun i => frozen_of_row _ _ i _ _ hB
    have y0 : wc.cell? ⟨w.heap.size + 1, 0, none⟩ = some (.int .i64 0) := cell_of_row _ _ 0 _ _ _ hZ
    have y1 : wc.cell? ⟨w.heap.size + 1, 1, none⟩ = some (.slice none 0 0) := cell_of_row _ _ 1 _ _ _ hZ
    have y2 : wc.cell? ⟨w.heap.size + 1, 2, none⟩ = some (.int .u64 0) := cell_of_row _ _ 2 _ _ _ hZ
    have fy : ∀ i, wc.frozen? ⟨w.heap.size + 1, i, none⟩ = false := fun i => frozen_of_row _ _ i _ _ hZ
    have hne : w.heap.size ≠ w.heap.size + 1 := by omega
    have ho := HO.out
    have R := Lib.hid (And.intro hB (And.intro hZ (And.intro hO (And.intro (And.intro hB1 hB2) hb))))
    clear hB hZ hO hB1 hb
    have B1 := Lib.hid (show ((wc.setCell ⟨w.heap.size, 2, none⟩ (.int .u64 o')).heap[w.heap.size]? = some (.cells #[.int .i64 n, .slice oa mm oc, .int .u64 o'] TD (0, 0)) ∧ (wc.setCell ⟨w.heap.size, 2, none⟩ (.int .u64 o')).heap[w.heap.size + 1]? = some (.cells #[.int .i64 0, .slice none 0 0, .int .u64 0] TD (0, 0))) from ⟨heap_setCell_same _ _ _ _ _ _ R.out.1, (heap_setCell_other _ _ _ _ (show w.heap.size + 1 ≠ w.heap.size by omega)).trans R.out.2.1⟩)
    go_wp2_with fail
    refine bodyPost_ret (results_td2 rfl _ _ (w.heap.size + 1) (.int .i64 n) (.slice oa mm oc) (.int .u64 o') (.int .i64 0) (td_set B1.out.2 _ _ _) rfl rfl) rfl ⟨_, rfl, ?_, ?_⟩
    · exact ownsT_lower (ownsT_heap R.out.2.2.1 (fun j hj => (box_other (by have := (World.ownsRow.lt R.out.2.2.1 j hj).1; have := R.out.2.2.2.1.2; omega)).trans (heap_setCell_other _ _ _ _ (show j ≠ w.heap.size by have := (World.ownsRow.lt R.out.2.2.1 j hj).1; have := R.out.2.2.2.1.2; omega)))) (by have := R.out.2.2.2.1.2; omega)
    · have hb := R.out.2.2.2.2
      refine below_box ⟨hb.os, hb.tape, hb.output, by simpa using hb.size, fun k hk => (heap_setCell_other _ _ _ _ (show k ≠ w.heap.size by omega)).trans (hb.block k hk)⟩ (by omega)

end Go.Proofs.YtlhblhgbpaipaaaGreat.Hp
