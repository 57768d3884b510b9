/-
  The law SourcePlays: the walk.
-/
import Derived.Test.YtlhblhgbpaipaaaGreatMgSp
namespace Go.Proofs.YtlhblhgbpaipaaaGreat.Src
open Go.RowKit
open Go.Proofs.YtlhblhgbpaipaaaGreat.Hp
open Go.Proofs.YtlhblhgbpaipaaaGreat.Tm (Tms Kept IsMin)
open Go.Proofs.YtlhblhgbpaipaaaGreat.Pl (bestD takeA leftW leftI putW markR)
set_option linter.unusedVariables false
set_option linter.unusedSimpArgs false

theorem add_off5 (c : Addr) (i r : Nat) (h : r ≠ 0) : c.add (i + r) = ⟨(c.add i).block, (c.add i).off + r, none⟩ := Pl.addoff c i r h
set_option maxRecDepth 100000 in
set_option maxHeartbeats 8000000 in
theorem plays_short (a : Option Addr) (len cap : Nat) (kd pp g dd fd : Nat → Int) (q0 g0 : Int) (w : World) (hl : len ≤ 50) (hnil : a = none → len = 0) (hfit : ∀ i, i < len → 0 ≤ kd i ∧ Clk.I64 (dd i) ∧ 0 ≤ fd i ∧ fd i < 65536)
    (hc : ∀ b, a = some b → ∀ i, i < len → w.cell? (b.add (i * 5)) = some (.int .u8 (kd i)) ∧ w.cell? (b.add (i * 5 + 1)) = some (.int .i64 (pp i)) ∧ w.cell? (b.add (i * 5 + 2)) = some (.int .i64 (g i)) ∧ w.cell? (b.add (i * 5 + 3)) = some (.int .i64 (dd i)) ∧ w.cell? (b.add (i * 5 + 4)) = some (.int .u16 (fd i))) :
    Calls Tryz.prog 3 #[.int .i64 q0, .slice a len cap, .int .i64 g0] w fun e w' => e = .returned (.bool true) ∧ Below w.heap.size w w' := by
  have hlt : ¬ (50 < len) := by omega
  obtain ⟨n, hn⟩ : ∃ n : Nat, (n : Int) = if q0 < 1 then 1 else if 64 < q0 then 64 else q0 := ⟨(if q0 < 1 then 1 else if 64 < q0 then 64 else q0).toNat, by (repeat' split) <;> omega⟩
  have HC := Lib.hid hc
  have HN := Lib.hid hnil
  have HF := Lib.hid hfit
  have HQ := Lib.hid hn
  clear hc hnil hfit hn
  go_enter Tryz.func3, Tryz.ntmps3
  go_wp2_with fail
  refine (lives_is w).mono ?_
  rintro e w0 ⟨rfl, hb⟩
  have HB := Lib.hid hb
  clear hb
  go_wp2_with fail
  refine (snew_is w0 q0 n HQ.out).mono ?_
  rintro e w1 ⟨sb, tb, pb, fb, wb, rfl, I, hg⟩
  have T1 := Lib.hid (And.intro I hg)
  clear I hg
  go_wp2_with fail
  refine (rnew12 w1 q0 n HQ.out).mono ?_
  rintro e w2 ⟨rfl, hb2⟩
  have D0 : Hid (Lw w (w2.alloc (.cells #[.int .i64 0, .int .i64 n, .slice none 0 0, .int .u64 0, .slice none 0 0, .slice none 0 0] TS6)) w0.heap.size sb n w2.heap.size 0 [] 0 [] [] (.slice none 0 0) (.slice none 0 0) (.slice none 0 0) (fun k => k = w2.heap.size) 0) := Lib.hid (by
    have s0 := HB.out.size
    have s1 := T1.out.2.size
    have s2 := hb2.size
    have hv : Sv w1 w0.heap.size sb n 0 [] 0 [] [] (fun _ => False) := ⟨tb, pb, fb, wb, [], [], [], [], T1.out.1, List.Perm.refl _, Pl.PR.nil⟩
    refine ⟨(hv.grown (grown_of hb2)).more (World.grownBy_alloc _ _ _) (fun k hk => .inr (by rcases hk with q | q | q | q; subst q; simp; all_goals simp [Value.ownBlock] at q)), ⟨tsees_nil _ _, Pl.rsees_nil _ _, Pl.rsees_nil _ _, by simp; omega, by simp⟩, heap_alloc_new _ _, rfl, (by simp [own3, Value.ownBlock]), ⟨s0, by omega⟩, ?_⟩
    exact ((HB.out.trans ((below_of T1.out.2).mono s0)).trans (hb2.mono (by omega))).alloc (by omega) _)
  clear hb2 T1
  go_wp2_with fail
  generalize (w2.alloc (.cells #[.int .i64 0, .int .i64 n, .slice none 0 0, .int .u64 0, .slice none 0 0, .slice none 0 0] TS6)) = W0 at *
  obtain ⟨B, hB⟩ : ∃ B, w2.heap.size = B := ⟨_, rfl⟩
  obtain ⟨base, hba⟩ : ∃ b, w0.heap.size = b := ⟨_, rfl⟩
  rw [hB, hba] at D0
  rw [hB]
  clear hB hba HB
  go_loopw [32] (fun q wr => ∃ (i : Nat) (now : Int) (D : List Tim) (order : Nat) (W : List (Int × Int)) (R : List Int) (a1 : Option Addr) (m1 c1 : Nat) (a2 : Option Addr) (m2 c2 : Nat) (a3 : Option Addr) (m3 c3 : Nat) (Y : Nat → Prop), i ≤ len ∧ q = .int .i64 i ∧ Lw w wr base sb n B now D order W R (.slice a1 m1 c1) (.slice a2 m2 c2) (.slice a3 m3 c3) Y i ∧ order ≤ i) (fun q _ => len - (intOf q).toNat)
  case atStart => exact ⟨0, 0, [], 0, [], [], none, 0, 0, none, 0, 0, none, 0, 0, _, Nat.zero_le _, rfl, D0.out, Nat.le_refl _⟩
  case round =>
    clear D0
    obtain ⟨i, now, D, order, W, R, a1, m1, c1, a2, m2, c2, a3, m3, c3, Y, hi, rfl, hD, hbo⟩ := hrel
    have H := Lib.hid (And.intro hD hbo)
    clear hD hbo
    by_cases hlen : i < len
    · obtain ⟨c, rfl⟩ : ∃ c, a = some c := by
        cases a with
        | none => exact absurd (HN.out rfl) (by omega)
        | some c => exact ⟨c, rfl⟩
      obtain ⟨h0, h1, h2, h3, h4⟩ := HC.out c rfl i hlen
      have hfi := HF.out i hlen
      have x0 := cell_later H.out.1.below h0
      have x1 := cell_later H.out.1.below h1
      have x2 := cell_later H.out.1.below h2
      have x3 := cell_later H.out.1.below h3
      have x4 := cell_later H.out.1.below h4
      generalize kd i = y at x0 hfi
      generalize pp i = p at x1
      generalize g i = gg at x2
      generalize dd i = d at x3 hfi
      generalize fd i = f at x4 hfi
      rw [add_off5 c _ 1 (by decide)] at x1
      rw [add_off5 c _ 2 (by decide)] at x2
      rw [add_off5 c _ 3 (by decide)] at x3
      rw [add_off5 c _ 4 (by decide)] at x4
      have hact := heap_alloc_new wr (.cells #[.int .u8 y, .int .i64 p, .int .i64 gg, .int .i64 d, .int .u16 f] TAct)
      have hal := below_alloc (w := wr) (.cells #[.int .u8 y, .int .i64 p, .int .i64 gg, .int .i64 d, .int .u16 f] TAct)
      have H1 := Lib.hid (And.intro (H.out.1.more (Y' := fun k => k = B ∨ k = wr.heap.size) hal (fun k q => by rcases q with q | q; exact .inl (q ▸ H.out.1.yB); exact .inr (by subst q; simp)) (.inl rfl)) (And.intro hact (And.intro H.out.2 (show wr.heap.size ≠ B by have := H.out.1.lt; omega))))
      have HFI := Lib.hid hfi
      obtain ⟨z0, z1, z2, z3, z4, z5⟩ := six_of H1.out.1.d
      have fz : ∀ i, (wr.alloc (.cells #[.int .u8 y, .int .i64 p, .int .i64 gg, .int .i64 d, .int .u16 f] TAct)).frozen? ⟨B, i, none⟩ = false := fun i => frozen_of_row _ _ i _ _ H1.out.1.d
      clear h0 h1 h2 h3 h4 hact hfi H hal
      go_wp2_with fail
      clear x0 x1 x2 x3 x4 z0 z1 z2 z3 z4 z5 fz
      obtain ⟨A, hA⟩ : ∃ A, wr.heap.size = A := ⟨_, rfl⟩
      rw [hA] at H1 ⊢
      generalize (wr.alloc (.cells #[.int .u8 y, .int .i64 p, .int .i64 gg, .int .i64 d, .int .u16 f] TAct)) = W1 at *
      clear hA
      refine (do_is H1.out.1.sv H1.out.1.ss (fun k q => .inr q) (by omega) (by have := H1.out.2.2.1; omega) y p gg d f HFI.out.1 HFI.out.2.1 HFI.out.2.2).mono ?_
      rintro e wd ⟨now', D', o', W', R', b1, k1, d1, b2, k2, d2, b3, k3, d3, rfl, hq, ho'⟩
      have hdB := (hq.kept.far B (.inl (.inl rfl))).trans H1.out.1.d
      obtain ⟨z0, z1, z2, z3, z4, z5⟩ := six_of hdB
      have fz : ∀ i, wd.frozen? ⟨B, i, none⟩ = false := fun i => frozen_of_row _ _ i _ _ hdB
      have H2 := Lib.hid (And.intro (H1.out.1.deed hq) (And.intro ((set6_other (W := wd) (B := B) (x0 := .int .i64 now') (x1 := .int .i64 n) (x2 := .slice b1 k1 d1) (x3 := .int .u64 o') (x4 := .slice b2 k2 d2) (x5 := .slice b3 k3 d3) H1.out.2.2.2).trans ((hq.kept.far A (.inl (.inr rfl))).trans H1.out.2.1)) (show o' ≤ i + 1 by have := H1.out.2.2.1; omega)))
      unfold set6 at H2
      clear hq ho' hdB
      go_wp2_with fail
      clear z0 z1 z2 z3 z4 z5 fz H1
      generalize (((((wd.setCell ⟨B, 0, none⟩ (.int .i64 now')).setCell ⟨B, 1, none⟩ (.int .i64 n)).setCell ⟨B, 2, none⟩ (.slice b1 k1 d1)).setCell ⟨B, 3, none⟩ (.int .u64 o')).setCell ⟨B, 4, none⟩ (.slice b2 k2 d2)).setCell ⟨B, 5, none⟩ (.slice b3 k3 d3) = w2 at *
      obtain ⟨L, hL⟩ : ∃ L : Int, (D'.length : Int) + W'.length = L := ⟨_, rfl⟩
      obtain ⟨r1, hr1⟩ : ∃ r, dueS now' D' W' R' = r := ⟨_, rfl⟩
      obtain ⟨r2, hr2⟩ : ∃ r, outS D' W' g0 = r := ⟨_, rfl⟩
      obtain ⟨r3, hr3⟩ : ∃ r, outS D' W' gg = r := ⟨_, rfl⟩
      have HE := Lib.hid (And.intro hr1 (And.intro hL (And.intro hr2 hr3)))
      have HM := Lib.hid (tsees_len H2.out.1.ss.st)
      have HO := Lib.hid H2.out.2.2
      have Q0 := Lib.hid (And.intro (H2.out.1.next (below_drew (w := w2))) (show w2.drew.heap[A]? = some (.cells #[.int .u8 y, .int .i64 p, .int .i64 gg, .int .i64 d, .int .u16 f] TAct (0, 0)) from H2.out.2.1))
      clear hL hr1 hr2 hr3 H2
      have hS : (Six w2.drew B (.int .i64 now') (.int .i64 n) (.slice b1 k1 d1) (.int .u64 o') (.slice b2 k2 d2) (.slice b3 k3 d3) ∧ w2.drew.cell? ⟨A, 2, none⟩ = some (.int .i64 gg)) := ⟨six_of Q0.out.1.d, (five_of Q0.out.2).2.2.1⟩
      refine wp_region_held_drew (S := fun w' => (w'.cell? ⟨B, 0, none⟩ = some (.int .i64 now') ∧ w'.cell? ⟨B, 1, none⟩ = some (.int .i64 n) ∧ w'.cell? ⟨B, 2, none⟩ = some (.slice b1 k1 d1) ∧ w'.cell? ⟨B, 3, none⟩ = some (.int .u64 o') ∧ w'.cell? ⟨B, 4, none⟩ = some (.slice b2 k2 d2) ∧ w'.cell? ⟨B, 5, none⟩ = some (.slice b3 k3 d3)) ∧ w'.cell? ⟨A, 2, none⟩ = some (.int .i64 gg)) (by kernel_rfl) hS (fun hHeld => ?_)
      refine Own.yes (i := 0) (d := (some 43)) (v := ?_) rfl rfl (by kernel_rfl) (by kernel_rfl) (by kernel_rfl) (fun _ _ _ h => h) rfl ?_ hHeld ?_
      rotate_left
      · (intro w hSw; (try dsimp only at hSw); go_simp; try with_reducible rfl)
      simp only [Act.put, List.setIfInBounds_toArray, List.set_cons_zero, List.set_cons_succ]
      refine Own.yes (i := 1) (d := (some 44)) (v := ?_) rfl rfl (by kernel_rfl) (by kernel_rfl) (by kernel_rfl) (fun _ _ _ h => h) rfl ?_ hHeld ?_
      rotate_left
      · (intro w hSw; (try dsimp only at hSw); go_simp; try with_reducible rfl)
      simp only [Act.put, List.setIfInBounds_toArray, List.set_cons_zero, List.set_cons_succ]
      refine Own.yes (i := 2) (d := (some 45)) (v := ?_) rfl rfl (by kernel_rfl) (by kernel_rfl) (by kernel_rfl) (fun _ _ _ h => h) rfl ?_ hHeld ?_
      rotate_left
      · (intro w hSw; (try dsimp only at hSw); go_simp; try with_reducible rfl)
      simp only [Act.put, List.setIfInBounds_toArray, List.set_cons_zero, List.set_cons_succ]
      refine Own.yes (i := 3) (d := (some 46)) (v := ?_) rfl rfl (by kernel_rfl) (by kernel_rfl) (by kernel_rfl) (fun _ _ _ h => h) rfl ?_ hHeld ?_
      rotate_left
      · (intro w hSw; (try dsimp only at hSw); go_simp; try with_reducible rfl)
      simp only [Act.put, List.setIfInBounds_toArray, List.set_cons_zero, List.set_cons_succ]
      refine Own.yes (i := 5) (d := (some 48)) (v := ?_) rfl rfl (by kernel_rfl) (by kernel_rfl) (by kernel_rfl) (fun _ _ _ h => h) rfl ?_ hHeld ?_
      rotate_left
      · (intro w hSw; (try dsimp only at hSw); go_simp; try with_reducible rfl)
      simp only [Act.put, List.setIfInBounds_toArray, List.set_cons_zero, List.set_cons_succ]
      refine Own.yes (i := 6) (d := (some 49)) (v := ?_) rfl rfl (by kernel_rfl) (by kernel_rfl) (by kernel_rfl) (fun _ _ _ h => h) rfl ?_ hHeld ?_
      rotate_left
      · (intro w hSw; (try dsimp only at hSw); go_simp; try with_reducible rfl)
      simp only [Act.put, List.setIfInBounds_toArray, List.set_cons_zero, List.set_cons_succ]
      refine Own.call (i := 4) (d := (some 47)) rfl rfl (by kernel_rfl) rfl ?_ (vnow_is Q0.out.1.sv) ?_
      · go_simp
      rintro e wq ⟨rfl, rfl⟩
      have hS : (Six w2.drew B (.int .i64 now') (.int .i64 n) (.slice b1 k1 d1) (.int .u64 o') (.slice b2 k2 d2) (.slice b3 k3 d3) ∧ w2.drew.cell? ⟨A, 2, none⟩ = some (.int .i64 gg)) := ⟨six_of Q0.out.1.d, (five_of Q0.out.2).2.2.1⟩
      refine ⟨_, rfl, hS, fun hHeld => ?_⟩
      simp only [Act.put, List.setIfInBounds_toArray, List.set_cons_zero, List.set_cons_succ]
      refine Own.yes (i := 7) (d := (some 50)) (v := ?_) rfl rfl (by kernel_rfl) (by kernel_rfl) (by kernel_rfl) (fun _ _ _ h => h) rfl ?_ hHeld ?_
      rotate_left
      · (intro w hSw; (try dsimp only at hSw); go_simp; try with_reducible rfl)
      simp only [Act.put, List.setIfInBounds_toArray, List.set_cons_zero, List.set_cons_succ]
      refine Own.yes (i := 8) (d := (some 51)) (v := ?_) rfl rfl (by kernel_rfl) (by kernel_rfl) (by kernel_rfl) (fun _ _ _ h => h) rfl ?_ hHeld ?_
      rotate_left
      · (intro w hSw; (try dsimp only at hSw); go_simp; try with_reducible rfl)
      simp only [Act.put, List.setIfInBounds_toArray, List.set_cons_zero, List.set_cons_succ]
      refine Own.yes (i := 9) (d := (some 52)) (v := ?_) rfl rfl (by kernel_rfl) (by kernel_rfl) (by kernel_rfl) (fun _ _ _ h => h) rfl ?_ hHeld ?_
      rotate_left
      · (intro w hSw; (try dsimp only at hSw); go_simp; try with_reducible rfl)
      simp only [Act.put, List.setIfInBounds_toArray, List.set_cons_zero, List.set_cons_succ]
      refine Own.yes (i := 10) (d := (some 53)) (v := ?_) rfl rfl (by kernel_rfl) (by kernel_rfl) (by kernel_rfl) (fun _ _ _ h => h) rfl ?_ hHeld ?_
      rotate_left
      · (intro w hSw; (try dsimp only at hSw); go_simp; try with_reducible rfl)
      simp only [Act.put, List.setIfInBounds_toArray, List.set_cons_zero, List.set_cons_succ]
      refine Own.yes (i := 12) (d := (some 55)) (v := ?_) rfl rfl (by kernel_rfl) (by kernel_rfl) (by kernel_rfl) (fun _ _ _ h => h) rfl ?_ hHeld ?_
      rotate_left
      · (intro w hSw; (try dsimp only at hSw); go_simp; try with_reducible rfl)
      simp only [Act.put, List.setIfInBounds_toArray, List.set_cons_zero, List.set_cons_succ]
      refine Own.call (i := 11) (d := (some 54)) rfl rfl (by kernel_rfl) rfl ?_ (vdue_is Q0.out.1.sv HE.out.1) ?_
      · go_simp
      rintro e w3 ⟨rfl, hb⟩
      (have Q1 := Lib.hid (And.intro (Q0.out.1.next (below_of hb)) (((below_of hb).block A (Array.getElem?_eq_some_iff.1 Q0.out.2).1).trans Q0.out.2)); clear hb hS hHeld; have hS : (Six w3 B (.int .i64 now') (.int .i64 n) (.slice b1 k1 d1) (.int .u64 o') (.slice b2 k2 d2) (.slice b3 k3 d3) ∧ w3.cell? ⟨A, 2, none⟩ = some (.int .i64 gg)) := ⟨six_of Q1.out.1.d, (five_of Q1.out.2).2.2.1⟩)
      refine ⟨_, rfl, hS, fun hHeld => ?_⟩
      simp only [Act.put, List.setIfInBounds_toArray, List.set_cons_zero, List.set_cons_succ]
      refine Own.call (i := 13) (d := (some 56)) rfl rfl (by kernel_rfl) rfl ?_ (rdue12 Q1.out.1.ss now' n o' HE.out.1) ?_
      · go_simp
      rintro e w4 ⟨rfl, hb⟩
      (have Q2 := Lib.hid (And.intro (Q1.out.1.next hb) (((hb).block A (Array.getElem?_eq_some_iff.1 Q1.out.2).1).trans Q1.out.2)); clear hb hS hHeld; have hS : (Six w4 B (.int .i64 now') (.int .i64 n) (.slice b1 k1 d1) (.int .u64 o') (.slice b2 k2 d2) (.slice b3 k3 d3) ∧ w4.cell? ⟨A, 2, none⟩ = some (.int .i64 gg)) := ⟨six_of Q2.out.1.d, (five_of Q2.out.2).2.2.1⟩)
      refine ⟨_, rfl, hS, fun hHeld => ?_⟩
      simp only [Act.put, List.setIfInBounds_toArray, List.set_cons_zero, List.set_cons_succ]
      refine Own.yes (i := 14) (d := (some 57)) (v := ?_) rfl rfl (by kernel_rfl) (by kernel_rfl) (by kernel_rfl) (fun _ _ _ h => h) rfl ?_ hHeld ?_
      rotate_left
      · (intro w hSw; (try dsimp only at hSw); go_simp; try with_reducible rfl)
      simp only [Act.put, List.setIfInBounds_toArray, List.set_cons_zero, List.set_cons_succ]
      refine Own.yes (i := 15) (d := (some 58)) (v := ?_) rfl rfl (by kernel_rfl) (by kernel_rfl) (by kernel_rfl) (fun _ _ _ h => h) rfl ?_ hHeld ?_
      rotate_left
      · (intro w hSw; (try dsimp only at hSw); go_simp; try with_reducible rfl)
      simp only [Act.put, List.setIfInBounds_toArray, List.set_cons_zero, List.set_cons_succ]
      refine Own.yes (i := 16) (d := (some 59)) (v := ?_) rfl rfl (by kernel_rfl) (by kernel_rfl) (by kernel_rfl) (fun _ _ _ h => h) rfl ?_ hHeld ?_
      rotate_left
      · (intro w hSw; (try dsimp only at hSw); go_simp; try with_reducible rfl)
      simp only [Act.put, List.setIfInBounds_toArray, List.set_cons_zero, List.set_cons_succ]
      refine Own.yes (i := 17) (d := (some 60)) (v := ?_) rfl rfl (by kernel_rfl) (by kernel_rfl) (by kernel_rfl) (fun _ _ _ h => h) rfl ?_ hHeld ?_
      rotate_left
      · (intro w hSw; (try dsimp only at hSw); go_simp; try with_reducible rfl)
      simp only [Act.put, List.setIfInBounds_toArray, List.set_cons_zero, List.set_cons_succ]
      refine Own.yes (i := 19) (d := (some 62)) (v := ?_) rfl rfl (by kernel_rfl) (by kernel_rfl) (by kernel_rfl) (fun _ _ _ h => h) rfl ?_ hHeld ?_
      rotate_left
      · (intro w hSw; (try dsimp only at hSw); go_simp; try with_reducible rfl)
      simp only [Act.put, List.setIfInBounds_toArray, List.set_cons_zero, List.set_cons_succ]
      refine Own.call (i := 18) (d := (some 61)) rfl rfl (by kernel_rfl) rfl ?_ (vlen_is Q2.out.1.sv (by have := Q2.out.1.ss.b; omega) HE.out.2.1) ?_
      · go_simp
      rintro e w5 ⟨rfl, hb⟩
      (have Q3 := Lib.hid (And.intro (Q2.out.1.next (below_of hb)) (((below_of hb).block A (Array.getElem?_eq_some_iff.1 Q2.out.2).1).trans Q2.out.2)); clear hb hS hHeld; have hS : (Six w5 B (.int .i64 now') (.int .i64 n) (.slice b1 k1 d1) (.int .u64 o') (.slice b2 k2 d2) (.slice b3 k3 d3) ∧ w5.cell? ⟨A, 2, none⟩ = some (.int .i64 gg)) := ⟨six_of Q3.out.1.d, (five_of Q3.out.2).2.2.1⟩)
      refine ⟨_, rfl, hS, fun hHeld => ?_⟩
      simp only [Act.put, List.setIfInBounds_toArray, List.set_cons_zero, List.set_cons_succ]
      refine Own.call (i := 20) (d := (some 63)) rfl rfl (by kernel_rfl) rfl ?_ (rlen12 Q3.out.1.ss now' n o' HE.out.2.1) ?_
      · go_simp
      rintro e w6 ⟨rfl, hb⟩
      (have Q4 := Lib.hid (And.intro (Q3.out.1.next hb) (((hb).block A (Array.getElem?_eq_some_iff.1 Q3.out.2).1).trans Q3.out.2)); clear hb hS hHeld; have hS : (Six w6 B (.int .i64 now') (.int .i64 n) (.slice b1 k1 d1) (.int .u64 o') (.slice b2 k2 d2) (.slice b3 k3 d3) ∧ w6.cell? ⟨A, 2, none⟩ = some (.int .i64 gg)) := ⟨six_of Q4.out.1.d, (five_of Q4.out.2).2.2.1⟩)
      refine ⟨_, rfl, hS, fun hHeld => ?_⟩
      simp only [Act.put, List.setIfInBounds_toArray, List.set_cons_zero, List.set_cons_succ]
      refine Own.yes (i := 21) (d := (some 64)) (v := ?_) rfl rfl (by kernel_rfl) (by kernel_rfl) (by kernel_rfl) (fun _ _ _ h => h) rfl ?_ hHeld ?_
      rotate_left
      · (intro w hSw; (try dsimp only at hSw); go_simp; try with_reducible rfl)
      simp only [Act.put, List.setIfInBounds_toArray, List.set_cons_zero, List.set_cons_succ]
      refine Own.yes (i := 22) (d := (some 65)) (v := ?_) rfl rfl (by kernel_rfl) (by kernel_rfl) (by kernel_rfl) (fun _ _ _ h => h) rfl ?_ hHeld ?_
      rotate_left
      · (intro w hSw; (try dsimp only at hSw); go_simp; try with_reducible rfl)
      simp only [Act.put, List.setIfInBounds_toArray, List.set_cons_zero, List.set_cons_succ]
      refine Own.yes (i := 23) (d := (some 66)) (v := ?_) rfl rfl (by kernel_rfl) (by kernel_rfl) (by kernel_rfl) (fun _ _ _ h => h) rfl ?_ hHeld ?_
      rotate_left
      · (intro w hSw; (try dsimp only at hSw); go_simp; try with_reducible rfl)
      simp only [Act.put, List.setIfInBounds_toArray, List.set_cons_zero, List.set_cons_succ]
      refine Own.yes (i := 24) (d := (some 67)) (v := ?_) rfl rfl (by kernel_rfl) (by kernel_rfl) (by kernel_rfl) (fun _ _ _ h => h) rfl ?_ hHeld ?_
      rotate_left
      · (intro w hSw; (try dsimp only at hSw); go_simp; try with_reducible rfl)
      simp only [Act.put, List.setIfInBounds_toArray, List.set_cons_zero, List.set_cons_succ]
      refine Own.yes (i := 25) (d := (some 68)) (v := ?_) rfl rfl (by kernel_rfl) (by kernel_rfl) (by kernel_rfl) (fun _ _ _ h => h) rfl ?_ hHeld ?_
      rotate_left
      · (intro w hSw; (try dsimp only at hSw); go_simp; try with_reducible rfl)
      simp only [Act.put, List.setIfInBounds_toArray, List.set_cons_zero, List.set_cons_succ]
      refine Own.yes (i := 27) (d := (some 70)) (v := ?_) rfl rfl (by kernel_rfl) (by kernel_rfl) (by kernel_rfl) (fun _ _ _ h => h) rfl ?_ hHeld ?_
      rotate_left
      · (intro w hSw; (try dsimp only at hSw); go_simp; try with_reducible rfl)
      simp only [Act.put, List.setIfInBounds_toArray, List.set_cons_zero, List.set_cons_succ]
      refine Own.yes (i := 28) (d := (some 71)) (v := ?_) rfl rfl (by kernel_rfl) (by kernel_rfl) (by kernel_rfl) (fun _ _ _ h => h) rfl ?_ hHeld ?_
      rotate_left
      · (intro w hSw; (try dsimp only at hSw); go_simp; try with_reducible rfl)
      simp only [Act.put, List.setIfInBounds_toArray, List.set_cons_zero, List.set_cons_succ]
      refine Own.call (i := 26) (d := (some 69)) rfl rfl (by kernel_rfl) rfl ?_ (vout_is Q4.out.1.sv g0 HE.out.2.2.1) ?_
      · go_simp
      rintro e w7 ⟨rfl, hb⟩
      (have Q5 := Lib.hid (And.intro (Q4.out.1.next (below_of hb)) (((below_of hb).block A (Array.getElem?_eq_some_iff.1 Q4.out.2).1).trans Q4.out.2)); clear hb hS hHeld; have hS : (Six w7 B (.int .i64 now') (.int .i64 n) (.slice b1 k1 d1) (.int .u64 o') (.slice b2 k2 d2) (.slice b3 k3 d3) ∧ w7.cell? ⟨A, 2, none⟩ = some (.int .i64 gg)) := ⟨six_of Q5.out.1.d, (five_of Q5.out.2).2.2.1⟩)
      refine ⟨_, rfl, hS, fun hHeld => ?_⟩
      simp only [Act.put, List.setIfInBounds_toArray, List.set_cons_zero, List.set_cons_succ]
      refine Own.call (i := 29) (d := (some 72)) rfl rfl (by kernel_rfl) rfl ?_ (rout12 Q5.out.1.ss now' n o' g0 HE.out.2.2.1) ?_
      · go_simp
      rintro e w8 ⟨rfl, hb⟩
      (have Q6 := Lib.hid (And.intro (Q5.out.1.next hb) (((hb).block A (Array.getElem?_eq_some_iff.1 Q5.out.2).1).trans Q5.out.2)); clear hb hS hHeld; have hS : (Six w8 B (.int .i64 now') (.int .i64 n) (.slice b1 k1 d1) (.int .u64 o') (.slice b2 k2 d2) (.slice b3 k3 d3) ∧ w8.cell? ⟨A, 2, none⟩ = some (.int .i64 gg)) := ⟨six_of Q6.out.1.d, (five_of Q6.out.2).2.2.1⟩)
      refine ⟨_, rfl, hS, fun hHeld => ?_⟩
      simp only [Act.put, List.setIfInBounds_toArray, List.set_cons_zero, List.set_cons_succ]
      refine Own.yes (i := 30) (d := (some 73)) (v := ?_) rfl rfl (by kernel_rfl) (by kernel_rfl) (by kernel_rfl) (fun _ _ _ h => h) rfl ?_ hHeld ?_
      rotate_left
      · (intro w hSw; (try dsimp only at hSw); go_simp; try with_reducible rfl)
      simp only [Act.put, List.setIfInBounds_toArray, List.set_cons_zero, List.set_cons_succ]
      refine Own.yes (i := 31) (d := (some 74)) (v := ?_) rfl rfl (by kernel_rfl) (by kernel_rfl) (by kernel_rfl) (fun _ _ _ h => h) rfl ?_ hHeld ?_
      rotate_left
      · (intro w hSw; (try dsimp only at hSw); go_simp; try with_reducible rfl)
      simp only [Act.put, List.setIfInBounds_toArray, List.set_cons_zero, List.set_cons_succ]
      refine Own.yes (i := 32) (d := (some 75)) (v := ?_) rfl rfl (by kernel_rfl) (by kernel_rfl) (by kernel_rfl) (fun _ _ _ h => h) rfl ?_ hHeld ?_
      rotate_left
      · (intro w hSw; (try dsimp only at hSw); go_simp; try with_reducible rfl)
      simp only [Act.put, List.setIfInBounds_toArray, List.set_cons_zero, List.set_cons_succ]
      refine Own.yes (i := 33) (d := (some 76)) (v := ?_) rfl rfl (by kernel_rfl) (by kernel_rfl) (by kernel_rfl) (fun _ _ _ h => h) rfl ?_ hHeld ?_
      rotate_left
      · (intro w hSw; (try dsimp only at hSw); go_simp; try with_reducible rfl)
      simp only [Act.put, List.setIfInBounds_toArray, List.set_cons_zero, List.set_cons_succ]
      refine Own.yes (i := 34) (d := (some 77)) (v := ?_) rfl rfl (by kernel_rfl) (by kernel_rfl) (by kernel_rfl) (fun _ _ _ h => h) rfl ?_ hHeld ?_
      rotate_left
      · (intro w hSw; (try dsimp only at hSw); go_simp; try with_reducible rfl)
      simp only [Act.put, List.setIfInBounds_toArray, List.set_cons_zero, List.set_cons_succ]
      refine Own.yes (i := 35) (d := (some 78)) (v := ?_) rfl rfl (by kernel_rfl) (by kernel_rfl) (by kernel_rfl) (fun _ _ _ h => h) rfl ?_ hHeld ?_
      rotate_left
      · (intro w hSw; (try dsimp only at hSw); go_simp; try with_reducible rfl)
      simp only [Act.put, List.setIfInBounds_toArray, List.set_cons_zero, List.set_cons_succ]
      refine Own.yes (i := 37) (d := (some 80)) (v := ?_) rfl rfl (by kernel_rfl) (by kernel_rfl) (by kernel_rfl) (fun _ _ _ h => h) rfl ?_ hHeld ?_
      rotate_left
      · (intro w hSw; (try dsimp only at hSw); go_simp; try with_reducible rfl)
      simp only [Act.put, List.setIfInBounds_toArray, List.set_cons_zero, List.set_cons_succ]
      refine Own.yes (i := 38) (d := (some 81)) (v := ?_) rfl rfl (by kernel_rfl) (by kernel_rfl) (by kernel_rfl) (fun _ _ _ h => h) rfl ?_ hHeld ?_
      rotate_left
      · (intro w hSw; (try dsimp only at hSw); go_simp; try with_reducible rfl)
      simp only [Act.put, List.setIfInBounds_toArray, List.set_cons_zero, List.set_cons_succ]
      refine Own.yes (i := 39) (d := (some 82)) (v := ?_) rfl rfl (by kernel_rfl) (by kernel_rfl) (by kernel_rfl) (fun _ _ _ h => h) rfl ?_ hHeld ?_
      rotate_left
      · (intro w hSw; (try dsimp only at hSw); go_simp; try with_reducible rfl)
      simp only [Act.put, List.setIfInBounds_toArray, List.set_cons_zero, List.set_cons_succ]
      refine Own.call (i := 36) (d := (some 79)) rfl rfl (by kernel_rfl) rfl ?_ (vout_is Q6.out.1.sv gg HE.out.2.2.2) ?_
      · go_simp
      rintro e w9 ⟨rfl, hb⟩
      (have Q7 := Lib.hid (And.intro (Q6.out.1.next (below_of hb)) (((below_of hb).block A (Array.getElem?_eq_some_iff.1 Q6.out.2).1).trans Q6.out.2)); clear hb hS hHeld; have hS : (Six w9 B (.int .i64 now') (.int .i64 n) (.slice b1 k1 d1) (.int .u64 o') (.slice b2 k2 d2) (.slice b3 k3 d3) ∧ w9.cell? ⟨A, 2, none⟩ = some (.int .i64 gg)) := ⟨six_of Q7.out.1.d, (five_of Q7.out.2).2.2.1⟩)
      refine ⟨_, rfl, hS, fun hHeld => ?_⟩
      simp only [Act.put, List.setIfInBounds_toArray, List.set_cons_zero, List.set_cons_succ]
      refine Own.call (i := 40) (d := (some 83)) rfl rfl (by kernel_rfl) rfl ?_ (rout12 Q7.out.1.ss now' n o' gg HE.out.2.2.2) ?_
      · go_simp
      rintro e w10 ⟨rfl, hb⟩
      (have Q8 := Lib.hid (And.intro (Q7.out.1.next hb) (((hb).block A (Array.getElem?_eq_some_iff.1 Q7.out.2).1).trans Q7.out.2)); clear hb hS hHeld; have hS : (Six w10 B (.int .i64 now') (.int .i64 n) (.slice b1 k1 d1) (.int .u64 o') (.slice b2 k2 d2) (.slice b3 k3 d3) ∧ w10.cell? ⟨A, 2, none⟩ = some (.int .i64 gg)) := ⟨six_of Q8.out.1.d, (five_of Q8.out.2).2.2.1⟩)
      refine ⟨_, rfl, hS, fun hHeld => ?_⟩
      simp only [Act.put, List.setIfInBounds_toArray, List.set_cons_zero, List.set_cons_succ]
      refine Own.yes (i := 41) (d := (some 84)) (v := ?_) rfl rfl (by kernel_rfl) (by kernel_rfl) (by kernel_rfl) (fun _ _ _ h => h) rfl ?_ hHeld ?_
      rotate_left
      · (intro w hSw; (try dsimp only at hSw); go_simp; try with_reducible rfl)
      simp only [Act.put, List.setIfInBounds_toArray, List.set_cons_zero, List.set_cons_succ]
      refine Own.yes (i := 42) (d := (some 85)) (v := ?_) rfl rfl (by kernel_rfl) (by kernel_rfl) (by kernel_rfl) (fun _ _ _ h => h) rfl ?_ hHeld ?_
      rotate_left
      · (intro w hSw; (try dsimp only at hSw); go_simp; try with_reducible rfl)
      simp only [Act.put, List.setIfInBounds_toArray, List.set_cons_zero, List.set_cons_succ]
      refine wpAnyH_done (by kernel_rfl) ?_ _
      clear hS hHeld
      obtain ⟨L2, hL2⟩ : ∃ L, srt (D'.map (·.e)) = L := ⟨_, rfl⟩
      rcases L2 with _ | ⟨⟨xw, xo, xg⟩, t⟩
      · have HL := Lib.hid hL2
        have HS := Lib.hid (lwf_srt.1 hL2)
        clear hL2
        go_wp2_with fail
        refine (vnext_no Q8.out.1.sv HL.out).mono ?_
        rintro e w11 ⟨rfl, hb⟩
        have J := Lib.hid (Q8.out.1.next (below_of hb))
        clear hb
        obtain ⟨q0, q1, q2, q3, q4, q5⟩ := six_of J.out.d
        have hmx := J.out.ss.st
        go_wp2_with fail
        clear q0 q1 q2 q3 q4 q5
        go_loopw [14, 15, 95] (fun lv hv q wx => ∃ (k : Nat) (l : Int) (hh : Bool), k ≤ k1 ∧ q = .int .i64 k ∧ lv = .int .i64 l ∧ hv = .bool hh ∧ lwf (0, false) (D'.take k) = (l, hh) ∧ Lw w wx base sb n B now' D' o' W' R' (.slice b1 k1 d1) (.slice b2 k2 d2) (.slice b3 k3 d3) (fun k => k = B ∨ k = A) (i + 1)) (fun _ _ q _ => k1 - (intOf q).toNat)
        case atStart => exact ⟨0, 0, false, Nat.zero_le _, rfl, rfl, rfl, rfl, J.out⟩
        case round =>
          clear J
          obtain ⟨k, l, hh, hk, rfl, rfl, rfl, hlw, hJ⟩ := hrel
          have K := Lib.hid (And.intro hlw hJ)
          clear hlw hJ
          have hk50 : k1 ≤ 60 := by have := K.out.2.ss.b; have := HM.out; omega
          by_cases hk2 : k < k1
          · have hkD : k < D'.length := by rw [← HM.out]; exact hk2
            obtain ⟨⟨px, xw, xo, xg⟩, hx⟩ : ∃ x, D'[k]? = some x := ⟨_, List.getElem?_eq_getElem hkD⟩
            obtain ⟨ad, had, x0, x1, x2, x3⟩ : ∃ c, b1 = some c ∧ wr.cell? (c.add (k * 4)) = some (.int .i64 px) ∧ wr.cell? ⟨(c.add (k * 4)).block, (c.add (k * 4)).off + 1, none⟩ = some (.int .i64 xw) ∧ wr.cell? ⟨(c.add (k * 4)).block, (c.add (k * 4)).off + 2, none⟩ = some (.int .u64 xo) ∧ wr.cell? ⟨(c.add (k * 4)).block, (c.add (k * 4)).off + 3, none⟩ = some (.int .i64 xg) := by
              obtain ⟨_, _, e1, _, _, _, hc⟩ := K.out.2.ss.st
              obtain ⟨rfl, _, _⟩ := Value.slice.inj e1
              exact hc k _ hx
            have HX := Lib.hid (show lwf (0, false) (D'.take (k + 1)) = if hh = false ∨ xw < l then (xw, true) else (l, hh) by rw [take_tim hx, lwf_app, K.out.1])
            have K2 := Lib.hid (K.out.2.next (below_alloc (w := wr) (.cells #[.int .i64 px, .int .i64 xw, .int .u64 xo, .int .i64 xg] TT)))
            have hki : (k : Int) < (k1 : Int) := by omega
            subst had
            clear hx
            cases hh with
            | false =>
              have HY : Hid (lwf (0, false) (D'.take (k + 1)) = (xw, true)) := Lib.hid (by rw [HX.out, if_pos (.inl rfl)])
              go_wp2_with fail
              go_roundw
              case rel => exact ⟨k + 1, xw, true, by omega, by go_num, rfl, rfl, HY.out, K2.out⟩
              case measure => simp [intOf]; omega
            | true =>
              by_cases hl2 : xw < l
              · have HY : Hid (lwf (0, false) (D'.take (k + 1)) = (xw, true)) := Lib.hid (by rw [HX.out, if_pos (.inr hl2)])
                go_wp2_with fail
                go_roundw
                case rel => exact ⟨k + 1, xw, true, by omega, by go_num, rfl, rfl, HY.out, K2.out⟩
                case measure => simp [intOf]; omega
              · have HY : Hid (lwf (0, false) (D'.take (k + 1)) = (l, true)) := Lib.hid (by rw [HX.out, if_neg (by simpa using hl2)])
                go_wp2_with fail
                go_roundw
                case rel => exact ⟨k + 1, l, true, by omega, by go_num, rfl, rfl, HY.out, K2.out⟩
                case measure => simp [intOf]; omega
          · have hkm : k = k1 := by omega
            have hfin := K.out.1
            rw [hkm, HM.out, List.take_length, HS.out] at hfin
            cases hfin
            go_wp2_with fail
            go_roundw
            case rel => exact ⟨i + 1, now', D', o', W', R', b1, k1, d1, b2, k2, d2, b3, k3, d3, _, by omega, by go_num, K.out.2, HO.out⟩
            case measure => simp [intOf]; omega
      · have HL := Lib.hid hL2
        have HS := Lib.hid (lwf_srt.2 _ _ hL2)
        clear hL2
        go_wp2_with fail
        refine (vnext_yes Q8.out.1.sv HL.out).mono ?_
        rintro e w11 ⟨rfl, hb⟩
        have J := Lib.hid (Q8.out.1.next (below_of hb))
        clear hb
        obtain ⟨q0, q1, q2, q3, q4, q5⟩ := six_of J.out.d
        have hmx := J.out.ss.st
        go_wp2_with fail
        clear q0 q1 q2 q3 q4 q5
        go_loopw [14, 15, 95] (fun lv hv q wx => ∃ (k : Nat) (l : Int) (hh : Bool), k ≤ k1 ∧ q = .int .i64 k ∧ lv = .int .i64 l ∧ hv = .bool hh ∧ lwf (0, false) (D'.take k) = (l, hh) ∧ Lw w wx base sb n B now' D' o' W' R' (.slice b1 k1 d1) (.slice b2 k2 d2) (.slice b3 k3 d3) (fun k => k = B ∨ k = A) (i + 1)) (fun _ _ q _ => k1 - (intOf q).toNat)
        case atStart => exact ⟨0, 0, false, Nat.zero_le _, rfl, rfl, rfl, rfl, J.out⟩
        case round =>
          clear J
          obtain ⟨k, l, hh, hk, rfl, rfl, rfl, hlw, hJ⟩ := hrel
          have K := Lib.hid (And.intro hlw hJ)
          clear hlw hJ
          have hk50 : k1 ≤ 60 := by have := K.out.2.ss.b; have := HM.out; omega
          by_cases hk2 : k < k1
          · have hkD : k < D'.length := by rw [← HM.out]; exact hk2
            obtain ⟨⟨px, xw, xo, xg⟩, hx⟩ : ∃ x, D'[k]? = some x := ⟨_, List.getElem?_eq_getElem hkD⟩
            obtain ⟨ad, had, x0, x1, x2, x3⟩ : ∃ c, b1 = some c ∧ wr.cell? (c.add (k * 4)) = some (.int .i64 px) ∧ wr.cell? ⟨(c.add (k * 4)).block, (c.add (k * 4)).off + 1, none⟩ = some (.int .i64 xw) ∧ wr.cell? ⟨(c.add (k * 4)).block, (c.add (k * 4)).off + 2, none⟩ = some (.int .u64 xo) ∧ wr.cell? ⟨(c.add (k * 4)).block, (c.add (k * 4)).off + 3, none⟩ = some (.int .i64 xg) := by
              obtain ⟨_, _, e1, _, _, _, hc⟩ := K.out.2.ss.st
              obtain ⟨rfl, _, _⟩ := Value.slice.inj e1
              exact hc k _ hx
            have HX := Lib.hid (show lwf (0, false) (D'.take (k + 1)) = if hh = false ∨ xw < l then (xw, true) else (l, hh) by rw [take_tim hx, lwf_app, K.out.1])
            have K2 := Lib.hid (K.out.2.next (below_alloc (w := wr) (.cells #[.int .i64 px, .int .i64 xw, .int .u64 xo, .int .i64 xg] TT)))
            have hki : (k : Int) < (k1 : Int) := by omega
            subst had
            clear hx
            cases hh with
            | false =>
              have HY : Hid (lwf (0, false) (D'.take (k + 1)) = (xw, true)) := Lib.hid (by rw [HX.out, if_pos (.inl rfl)])
              go_wp2_with fail
              go_roundw
              case rel => exact ⟨k + 1, xw, true, by omega, by go_num, rfl, rfl, HY.out, K2.out⟩
              case measure => simp [intOf]; omega
            | true =>
              by_cases hl2 : xw < l
              · have HY : Hid (lwf (0, false) (D'.take (k + 1)) = (xw, true)) := Lib.hid (by rw [HX.out, if_pos (.inr hl2)])
                go_wp2_with fail
                go_roundw
                case rel => exact ⟨k + 1, xw, true, by omega, by go_num, rfl, rfl, HY.out, K2.out⟩
                case measure => simp [intOf]; omega
              · have HY : Hid (lwf (0, false) (D'.take (k + 1)) = (l, true)) := Lib.hid (by rw [HX.out, if_neg (by simpa using hl2)])
                go_wp2_with fail
                go_roundw
                case rel => exact ⟨k + 1, l, true, by omega, by go_num, rfl, rfl, HY.out, K2.out⟩
                case measure => simp [intOf]; omega
          · have hkm : k = k1 := by omega
            have hfin := K.out.1
            rw [hkm, HM.out, List.take_length, HS.out] at hfin
            cases hfin
            go_wp2_with fail
            go_roundw
            case rel => exact ⟨i + 1, now', D', o', W', R', b1, k1, d1, b2, k2, d2, b3, k3, d3, _, by omega, by go_num, K.out.2, HO.out⟩
            case measure => simp [intOf]; omega
    · obtain rfl : i = len := by omega
      have HZ := Lib.hid H.out.1.below
      clear H
      go_wp2_with fail
      go_ret
      exact ⟨rfl, HZ.out⟩
end Go.Proofs.YtlhblhgbpaipaaaGreat.Src
