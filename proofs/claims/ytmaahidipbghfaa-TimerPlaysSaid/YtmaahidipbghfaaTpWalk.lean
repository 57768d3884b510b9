/-
  The law TimerPlays: the walk.
-/
import Derived.Test.YtmaahidipbghfaaTpBase
namespace Go.Proofs.Ytmaahidipbghfaa.Tm
open Go.RowKit
open Go.Proofs.Ytmaahidipbghfaa.Hp
set_option linter.unusedVariables false
set_option linter.unusedSimpArgs false

set_option maxRecDepth 100000 in
set_option maxHeartbeats 8000000 in
theorem plays_short (a : Option Addr) (len cap : Nat) (kd pp g dd : Nat → Int) (q0 g0 : Int) (w : World) (hl : len ≤ 60) (hnil : a = none → len = 0) (hfit : ∀ i, i < len → 0 ≤ kd i)
    (hc : ∀ b, a = some b → ∀ i, i < len → w.cell? (b.add (i * 4)) = some (.int .u8 (kd i)) ∧ w.cell? (b.add (i * 4 + 1)) = some (.int .i64 (pp i)) ∧ w.cell? (b.add (i * 4 + 2)) = some (.int .i64 (g i)) ∧ w.cell? (b.add (i * 4 + 3)) = some (.int .i64 (dd i))) :
    Calls Try.prog 6 #[.int .i64 q0, .slice a len cap, .int .i64 g0] w fun e w' => e = .returned (.bool true) ∧ Below w.heap.size w w' := by
  have hlt : ¬ (60 < len) := by omega
  obtain ⟨n, hn⟩ : ∃ n : Nat, (n : Int) = if q0 < 1 then 1 else if 64 < q0 then 64 else q0 := ⟨(if q0 < 1 then 1 else if 64 < q0 then 64 else q0).toNat, by (repeat' split) <;> omega⟩
  have HC := Lib.hid hc
  have HN := Lib.hid hnil
  have HF := Lib.hid hfit
  have HQ := Lib.hid hn
  clear hc hnil hfit hn
  go_enter Try.func6, Try.ntmps6
  go_wp2_with fail
  refine (lives_is w).mono ?_
  rintro e w0 ⟨rfl, hb⟩
  have HB := Lib.hid hb
  clear hb
  go_wp2_with fail
  refine (tmd_new w0 w.heap.size HB.out.size q0 n HQ.out).mono ?_
  rintro e w1 ⟨tb, rfl, T, hg⟩
  have T1 := Lib.hid (And.intro T hg)
  clear T hg
  go_wp2_with fail
  refine (rnew_is w1 q0 n HQ.out).mono ?_
  rintro e w2 ⟨rfl, hb2⟩
  have D0 : Hid (Td w (w2.alloc (.cells #[.int .i64 n, .slice none 0 0, .int .u64 0] TD)) tb n w2.heap.size [] 0 [] 0 (.slice none 0 0) (fun k => k = w2.heap.size)) := Lib.hid (by
    have s0 := HB.out.size
    have s1 := T1.out.2.size
    have s2 := hb2.size
    refine ⟨(T1.out.1.grown (below_none hb2)).foreign (World.grownBy_alloc _ _ _) (fun k hk => .inr (by subst hk; simp)), heap_alloc_new _ _, tsees_nil _ _, rfl, fun k hk => by simp [Value.ownBlock] at hk, by simp [Value.ownBlock], by omega, ?_⟩
    exact ((HB.out.trans ((grown_below' T1.out.2).mono s0)).trans (hb2.mono (by omega))).alloc (by omega) _)
  clear hb2 T1 HB
  go_wp2_with fail
  generalize (w2.alloc (.cells #[.int .i64 n, .slice none 0 0, .int .u64 0] TD)) = W0 at *
  obtain ⟨B, hB⟩ : ∃ B, w2.heap.size = B := ⟨_, rfl⟩
  rw [hB] at D0 ⊢
  clear hB
  go_loopw [38] (fun q wr => ∃ (i : Nat) (D : List Tim) (order : Nat) (a1 : Option Addr) (m1 c1 : Nat) (F : Nat → Prop), i ≤ len ∧ q = .int .i64 i ∧ Td w wr tb n B D order D order (.slice a1 m1 c1) F ∧ D.length ≤ i ∧ order ≤ i) (fun q _ => len - (intOf q).toNat)
  case atStart => exact ⟨0, [], 0, none, 0, 0, _, Nat.zero_le _, rfl, D0.out, Nat.le_refl _, Nat.le_refl _⟩
  case round =>
    clear D0
    obtain ⟨i, D, order, a1, m1, c1, F, hi, rfl, hD, hbD, hbo⟩ := hrel
    have H := Lib.hid (And.intro hD (And.intro hbD hbo))
    clear hD hbD hbo
    by_cases hlen : i < len
    · obtain ⟨c, rfl⟩ : ∃ c, a = some c := by
        cases a with
        | none => exact absurd (HN.out rfl) (by omega)
        | some c => exact ⟨c, rfl⟩
      obtain ⟨h0, h1, h2, h3⟩ := HC.out c rfl i hlen
      have hfi := HF.out i hlen
      have x0 := cell_later H.out.1.below h0
      have x1 := cell_later H.out.1.below h1
      have x2 := cell_later H.out.1.below h2
      have x3 := cell_later H.out.1.below h3
      generalize kd i = y at x0 hfi
      generalize pp i = p at x1
      generalize g i = gg at x2
      generalize dd i = d at x3
      rw [add_off4 c _ 1 (by decide)] at x1
      rw [add_off4 c _ 2 (by decide)] at x2
      rw [add_off4 c _ 3 (by decide)] at x3
      have hact := heap_alloc_new wr (.cells #[.int .u8 y, .int .i64 p, .int .i64 gg, .int .i64 d] TA4)
      have hal := below_alloc (w := wr) (.cells #[.int .u8 y, .int .i64 p, .int .i64 gg, .int .i64 d] TA4)
      have HA : Hid (wr.heap.size ≠ B) := Lib.hid (by have := H.out.1.lt; omega)
      have H1 := Lib.hid (And.intro (H.out.1.more (F' := fun k => F k ∨ k = wr.heap.size) hal (fun k hk => by rcases hk with q | q; exact .inl q; exact .inr (by subst q; simp)) (fun k hk => .inl hk)) (And.intro hact (And.intro H.out.2.1 H.out.2.2)))
      obtain ⟨m, hm, hm0, hm6⟩ : ∃ m, y % 6 = m ∧ 0 ≤ m ∧ m ≤ 5 := ⟨_, rfl, by omega, by omega⟩
      have ek : y.tmod 6 = m := by rw [← hm]; exact Int.tmod_eq_emod_of_nonneg hfi
      clear hm h0 h1 h2 h3 hact hfi H hal
      go_upto_block 2 with fail
      clear x0 x1 x2 x3
      obtain ⟨A, hA⟩ : ∃ A, wr.heap.size = A := ⟨_, rfl⟩
      rw [hA] at H1 HA ⊢
      generalize (wr.alloc (.cells #[.int .u8 y, .int .i64 p, .int .i64 gg, .int .i64 d] TA4)) = W1 at *
      clear hA
      obtain ⟨z0, z1, z2, z3⟩ := act4 H1.out.2.1
      go_cut [11, 12, 13, 14, 15, 16, 17, 18, 38] from 38 to 190 (fun _ _ _ _ _ _ _ _ q wx => q = .int .i64 i ∧ Tq w wx tb n B A (i + 1) y p gg d)
      case first =>
        have hm7 : (m = 0 ∨ m = 1 ∨ m = 2) ∨ (m = 3 ∨ m = 4) ∨ m = 5 := by omega
        clear hm0 hm6
        rcases hm7 with (rfl | rfl | rfl) | (rfl | rfl) | rfl
        · as_aux_lemma =>
            obtain ⟨ε, Dn, on, had⟩ : ∃ e D' o', addD n D order p gg d = (e, D', o') := ⟨_, _, _, rfl⟩
            have HE := Lib.hid had
            clear had
            have d0 := H1.out.1.c0
            have d1 := H1.out.1.c1
            have d2 := H1.out.1.c2
            go_wp2_with fail
            refine (radd_any H1.out.1.dv H1.out.1.size (by have := H1.out.2.2.1; omega) n order p gg d HE.out (by have := H1.out.2.2.2; omega)).mono ?_
            rintro e w2 ⟨b, m2, c2, rfl, hs2, hf2, hb2⟩
            have D2 := Lib.hid (And.intro ((H1.out.1.doc hb2 hs2 hf2).next (below_alloc (.cells #[.int .i64 n, .slice b m2 c2, .int .u64 on] TD))) (act_next (act_next H1.out.2.1 hb2) (below_alloc (.cells #[.int .i64 n, .slice b m2 c2, .int .u64 on] TD))))
            have hA3 : ((((w2.alloc (.cells #[.int .i64 n, .slice b m2 c2, .int .u64 on] TD)).setCell ⟨B, 0, none⟩ (.int .i64 n)).setCell ⟨B, 1, none⟩ (.slice b m2 c2)).setCell ⟨B, 2, none⟩ (.int .u64 on)).heap[A]? = some (.cells #[.int .u8 y, .int .i64 p, .int .i64 gg, .int .i64 d] TA4 (0, 0)) := (box_other HA.out).trans D2.out.2
            have D3 := Lib.hid (And.intro (D2.out.1.store (o' := on) (hs2.below (below_alloc (.cells #[.int .i64 n, .slice b m2 c2, .int .u64 on] TD))) (fun k hk => .inr hk) (H1.out.1.new hf2)) hA3)
            clear z0 z1 z2 z3 d0 d1 d2 hs2 hf2 hb2 hA3
            have d0 := D2.out.1.c0
            have d1 := D2.out.1.c1
            have d2 := D2.out.1.c2
            have df := D2.out.1.fr
            obtain ⟨z0, z1, z2, z3⟩ := act4 D3.out.2
            clear D2
            go_wp2_with fail
            generalize ((((w2.alloc (.cells #[.int .i64 n, .slice b m2 c2, .int .u64 on] TD)).setCell ⟨B, 0, none⟩ (.int .i64 n)).setCell ⟨B, 1, none⟩ (.slice b m2 c2)).setCell ⟨B, 2, none⟩ (.int .u64 on)) = W2 at *
            clear d0 d1 d2 df
            refine (tmd_add D3.out.1.t D3.out.1.size p gg d HE.out (by have := H1.out.2.2.2; omega)).mono ?_
            rintro e w3 ⟨rfl, T3, hk3⟩
            have D4 := Lib.hid (And.intro (D3.out.1.prog T3 hk3) ((hk3.far A (.inl (.inr rfl))).trans D3.out.2))
            clear T3 hk3
            go_wp2_with fail
            go_meet
            exact ⟨rfl, ⟨Dn, on, b, m2, c2, _, D4.out.1, by have := (addD_len HE.out).1; have := H1.out.2.2.1; omega, by have := (addD_len HE.out).2; have := H1.out.2.2.2; omega⟩, D4.out.2⟩
        · as_aux_lemma =>
            obtain ⟨ε, Dn, on, had⟩ : ∃ e D' o', addD n D order p gg d = (e, D', o') := ⟨_, _, _, rfl⟩
            have HE := Lib.hid had
            clear had
            have d0 := H1.out.1.c0
            have d1 := H1.out.1.c1
            have d2 := H1.out.1.c2
            go_wp2_with fail
            refine (radd_any H1.out.1.dv H1.out.1.size (by have := H1.out.2.2.1; omega) n order p gg d HE.out (by have := H1.out.2.2.2; omega)).mono ?_
            rintro e w2 ⟨b, m2, c2, rfl, hs2, hf2, hb2⟩
            have D2 := Lib.hid (And.intro ((H1.out.1.doc hb2 hs2 hf2).next (below_alloc (.cells #[.int .i64 n, .slice b m2 c2, .int .u64 on] TD))) (act_next (act_next H1.out.2.1 hb2) (below_alloc (.cells #[.int .i64 n, .slice b m2 c2, .int .u64 on] TD))))
            have hA3 : ((((w2.alloc (.cells #[.int .i64 n, .slice b m2 c2, .int .u64 on] TD)).setCell ⟨B, 0, none⟩ (.int .i64 n)).setCell ⟨B, 1, none⟩ (.slice b m2 c2)).setCell ⟨B, 2, none⟩ (.int .u64 on)).heap[A]? = some (.cells #[.int .u8 y, .int .i64 p, .int .i64 gg, .int .i64 d] TA4 (0, 0)) := (box_other HA.out).trans D2.out.2
            have D3 := Lib.hid (And.intro (D2.out.1.store (o' := on) (hs2.below (below_alloc (.cells #[.int .i64 n, .slice b m2 c2, .int .u64 on] TD))) (fun k hk => .inr hk) (H1.out.1.new hf2)) hA3)
            clear z0 z1 z2 z3 d0 d1 d2 hs2 hf2 hb2 hA3
            have d0 := D2.out.1.c0
            have d1 := D2.out.1.c1
            have d2 := D2.out.1.c2
            have df := D2.out.1.fr
            obtain ⟨z0, z1, z2, z3⟩ := act4 D3.out.2
            clear D2
            go_wp2_with fail
            generalize ((((w2.alloc (.cells #[.int .i64 n, .slice b m2 c2, .int .u64 on] TD)).setCell ⟨B, 0, none⟩ (.int .i64 n)).setCell ⟨B, 1, none⟩ (.slice b m2 c2)).setCell ⟨B, 2, none⟩ (.int .u64 on)) = W2 at *
            clear d0 d1 d2 df
            refine (tmd_add D3.out.1.t D3.out.1.size p gg d HE.out (by have := H1.out.2.2.2; omega)).mono ?_
            rintro e w3 ⟨rfl, T3, hk3⟩
            have D4 := Lib.hid (And.intro (D3.out.1.prog T3 hk3) ((hk3.far A (.inl (.inr rfl))).trans D3.out.2))
            clear T3 hk3
            go_wp2_with fail
            go_meet
            exact ⟨rfl, ⟨Dn, on, b, m2, c2, _, D4.out.1, by have := (addD_len HE.out).1; have := H1.out.2.2.1; omega, by have := (addD_len HE.out).2; have := H1.out.2.2.2; omega⟩, D4.out.2⟩
        · as_aux_lemma =>
            obtain ⟨ε, Dn, on, had⟩ : ∃ e D' o', addD n D order p gg d = (e, D', o') := ⟨_, _, _, rfl⟩
            have HE := Lib.hid had
            clear had
            have d0 := H1.out.1.c0
            have d1 := H1.out.1.c1
            have d2 := H1.out.1.c2
            go_wp2_with fail
            refine (radd_any H1.out.1.dv H1.out.1.size (by have := H1.out.2.2.1; omega) n order p gg d HE.out (by have := H1.out.2.2.2; omega)).mono ?_
            rintro e w2 ⟨b, m2, c2, rfl, hs2, hf2, hb2⟩
            have D2 := Lib.hid (And.intro ((H1.out.1.doc hb2 hs2 hf2).next (below_alloc (.cells #[.int .i64 n, .slice b m2 c2, .int .u64 on] TD))) (act_next (act_next H1.out.2.1 hb2) (below_alloc (.cells #[.int .i64 n, .slice b m2 c2, .int .u64 on] TD))))
            have hA3 : ((((w2.alloc (.cells #[.int .i64 n, .slice b m2 c2, .int .u64 on] TD)).setCell ⟨B, 0, none⟩ (.int .i64 n)).setCell ⟨B, 1, none⟩ (.slice b m2 c2)).setCell ⟨B, 2, none⟩ (.int .u64 on)).heap[A]? = some (.cells #[.int .u8 y, .int .i64 p, .int .i64 gg, .int .i64 d] TA4 (0, 0)) := (box_other HA.out).trans D2.out.2
            have D3 := Lib.hid (And.intro (D2.out.1.store (o' := on) (hs2.below (below_alloc (.cells #[.int .i64 n, .slice b m2 c2, .int .u64 on] TD))) (fun k hk => .inr hk) (H1.out.1.new hf2)) hA3)
            clear z0 z1 z2 z3 d0 d1 d2 hs2 hf2 hb2 hA3
            have d0 := D2.out.1.c0
            have d1 := D2.out.1.c1
            have d2 := D2.out.1.c2
            have df := D2.out.1.fr
            obtain ⟨z0, z1, z2, z3⟩ := act4 D3.out.2
            clear D2
            go_wp2_with fail
            generalize ((((w2.alloc (.cells #[.int .i64 n, .slice b m2 c2, .int .u64 on] TD)).setCell ⟨B, 0, none⟩ (.int .i64 n)).setCell ⟨B, 1, none⟩ (.slice b m2 c2)).setCell ⟨B, 2, none⟩ (.int .u64 on)) = W2 at *
            clear d0 d1 d2 df
            refine (tmd_add D3.out.1.t D3.out.1.size p gg d HE.out (by have := H1.out.2.2.2; omega)).mono ?_
            rintro e w3 ⟨rfl, T3, hk3⟩
            have D4 := Lib.hid (And.intro (D3.out.1.prog T3 hk3) ((hk3.far A (.inl (.inr rfl))).trans D3.out.2))
            clear T3 hk3
            go_wp2_with fail
            go_meet
            exact ⟨rfl, ⟨Dn, on, b, m2, c2, _, D4.out.1, by have := (addD_len HE.out).1; have := H1.out.2.2.1; omega, by have := (addD_len HE.out).2; have := H1.out.2.2.2; omega⟩, D4.out.2⟩
        · as_aux_lemma =>
            obtain ⟨⟨xw, xo, xg⟩, ok, Dn, htk⟩ : ∃ x ok D', takeD D d = (x, ok, D') := ⟨_, _, _, rfl⟩
            have HE := Lib.hid htk
            clear htk
            have d0 := H1.out.1.c0
            have d1 := H1.out.1.c1
            have d2 := H1.out.1.c2
            go_wp2_with fail
            refine (rtake_anyT H1.out.1.dv H1.out.1.size (by have := H1.out.2.2.1; omega) n order d HE.out).mono ?_
            rintro e w2 ⟨b, m2, c2, rfl, hs2, hf2, hb2⟩
            have hal1 := below_alloc (w := w2) (.cells #[.int .i64 n, .slice b m2 c2, .int .u64 order] TD)
            have hal2 := below_alloc (w := w2.alloc (.cells #[.int .i64 n, .slice b m2 c2, .int .u64 order] TD)) (.cells #[.int .i64 xw, .int .u64 xo, .int .i64 xg] TE)
            have hS1 : ((w2.alloc (.cells #[.int .i64 n, .slice b m2 c2, .int .u64 order] TD)).alloc (.cells #[.int .i64 xw, .int .u64 xo, .int .i64 xg] TE)).heap[w2.heap.size]? = some (.cells #[.int .i64 n, .slice b m2 c2, .int .u64 order] TD (0, 0)) := (heap_alloc_old _ _ (by simp)).trans (heap_alloc_new _ _)
            have hS2 : ((w2.alloc (.cells #[.int .i64 n, .slice b m2 c2, .int .u64 order] TD)).alloc (.cells #[.int .i64 xw, .int .u64 xo, .int .i64 xg] TE)).heap[w2.heap.size + 1]? = some (.cells #[.int .i64 xw, .int .u64 xo, .int .i64 xg] TE (0, 0)) := by
              have := heap_alloc_new (w2.alloc (.cells #[.int .i64 n, .slice b m2 c2, .int .u64 order] TD)) (.cells #[.int .i64 xw, .int .u64 xo, .int .i64 xg] TE)
              simpa using this
            have hA2 : ((w2.alloc (.cells #[.int .i64 n, .slice b m2 c2, .int .u64 order] TD)).alloc (.cells #[.int .i64 xw, .int .u64 xo, .int .i64 xg] TE)).heap[A]? = some (.cells #[.int .u8 y, .int .i64 p, .int .i64 gg, .int .i64 d] TA4 (0, 0)) := act_next (act_next (act_next H1.out.2.1 hb2) hal1) hal2
            have hT2 := ((H1.out.1.doc hb2 hs2 hf2).more (F' := fun k => ((F k ∨ k = A) ∨ (Value.slice b m2 c2).ownBlock = some k) ∨ k = w2.heap.size) hal1 (fun k hk => by rcases hk with q | q; exact .inl q; exact .inr (by subst q; simp)) (fun k hk => .inl hk)).more (F' := fun k => (((F k ∨ k = A) ∨ (Value.slice b m2 c2).ownBlock = some k) ∨ k = w2.heap.size) ∨ k = w2.heap.size + 1) hal2 (fun k hk => by rcases hk with q | q; exact .inl q; exact .inr (by subst q; simp)) (fun k hk => .inl hk)
            have D3 := Lib.hid (And.intro hT2 (And.intro hA2 (And.intro hS1 (And.intro hS2 (And.intro ((hs2.below hal1).below hal2) (And.intro (H1.out.1.new hf2) (show B < w2.heap.size by have := H1.out.1.lt; have := hb2.size; omega)))))))
            clear z0 z1 z2 z3 d0 d1 d2 hs2 hf2 hb2 hal1 hal2 hS1 hS2 hT2
            obtain ⟨z0, z1, z2, z3⟩ := act4 hA2
            clear hA2
            unfold Ent.agg
            go_wp2_with fail
            generalize ((w2.alloc (.cells #[.int .i64 n, .slice b m2 c2, .int .u64 order] TD)).alloc (.cells #[.int .i64 xw, .int .u64 xo, .int .i64 xg] TE)) = W2 at *
            obtain ⟨S, hS⟩ : ∃ S, w2.heap.size = S := ⟨_, rfl⟩
            rw [hS] at D3 ⊢
            clear hS z0 z1 z2 z3
            refine (tmd_take D3.out.1.t D3.out.1.size d HE.out).mono ?_
            rintro e w3 ⟨rfl, T3, hk3⟩
            have hal := below_alloc (w := w3) (.cells #[.int .i64 xw, .int .u64 xo, .int .i64 xg] 30)
            have D4 := Lib.hid (And.intro ((D3.out.1.prog T3 hk3).next hal) (And.intro (act_next ((hk3.far A (.inl (.inl (.inl (.inr rfl))))).trans D3.out.2.1) hal) (And.intro (act_next ((hk3.far S (.inl (.inr rfl))).trans D3.out.2.2.1) hal) (And.intro (act_next ((hk3.far (S + 1) (.inr rfl)).trans D3.out.2.2.2.1) hal) (And.intro ((D3.out.2.2.2.2.1.kept hk3.below.size (fun j hj => hk3.far j (.inl (.inl (.inr hj))))).below hal) (And.intro (heap_alloc_new w3 (.cells #[.int .i64 xw, .int .u64 xo, .int .i64 xg] 30)) (show B ≠ w3.heap.size ∧ S + 1 ≠ B by have := D3.out.1.lt; have := (D3.out.1.prog T3 hk3).lt; have := D3.out.2.2.2.2.2.2; have := (Array.getElem?_eq_some_iff.1 ((hk3.far (S + 1) (.inr rfl)).trans D3.out.2.2.2.1)).1; exact ⟨by omega, by omega⟩)))))))
            clear T3 hk3 hal
            have e0 : (w3.alloc (.cells #[.int .i64 xw, .int .u64 xo, .int .i64 xg] 30)).cell? ⟨S, 0, none⟩ = some (.int .i64 n) := cell_of_row _ _ 0 _ _ _ D4.out.2.2.1
            have e1 : (w3.alloc (.cells #[.int .i64 xw, .int .u64 xo, .int .i64 xg] 30)).cell? ⟨S, 1, none⟩ = some (.slice b m2 c2) := cell_of_row _ _ 1 _ _ _ D4.out.2.2.1
            have e2 : (w3.alloc (.cells #[.int .i64 xw, .int .u64 xo, .int .i64 xg] 30)).cell? ⟨S, 2, none⟩ = some (.int .u64 order) := cell_of_row _ _ 2 _ _ _ D4.out.2.2.1
            have d0 := D4.out.1.c0
            have d1 := D4.out.1.c1
            have d2 := D4.out.1.c2
            have df := D4.out.1.fr
            have hX : ((((w3.alloc (.cells #[.int .i64 xw, .int .u64 xo, .int .i64 xg] 30)).setCell ⟨B, 0, none⟩ (.int .i64 n)).setCell ⟨B, 1, none⟩ (.slice b m2 c2)).setCell ⟨B, 2, none⟩ (.int .u64 order)).heap[w3.heap.size]? = some (.cells #[.int .i64 xw, .int .u64 xo, .int .i64 xg] 30 (0, 0)) := (box_other (Ne.symm D4.out.2.2.2.2.2.2.1)).trans D4.out.2.2.2.2.2.1
            have hY : ((((w3.alloc (.cells #[.int .i64 xw, .int .u64 xo, .int .i64 xg] 30)).setCell ⟨B, 0, none⟩ (.int .i64 n)).setCell ⟨B, 1, none⟩ (.slice b m2 c2)).setCell ⟨B, 2, none⟩ (.int .u64 order)).heap[S + 1]? = some (.cells #[.int .i64 xw, .int .u64 xo, .int .i64 xg] TE (0, 0)) := (box_other D4.out.2.2.2.2.2.2.2).trans D4.out.2.2.2.1
            have hA4 : ((((w3.alloc (.cells #[.int .i64 xw, .int .u64 xo, .int .i64 xg] 30)).setCell ⟨B, 0, none⟩ (.int .i64 n)).setCell ⟨B, 1, none⟩ (.slice b m2 c2)).setCell ⟨B, 2, none⟩ (.int .u64 order)).heap[A]? = some (.cells #[.int .u8 y, .int .i64 p, .int .i64 gg, .int .i64 d] TA4 (0, 0)) := (box_other HA.out).trans D4.out.2.1
            have D5 := Lib.hid (And.intro (D4.out.1.store (o' := order) D4.out.2.2.2.2.1 (fun k hk => .inl (.inl (.inr hk))) D3.out.2.2.2.2.2.1) hA4)
            have x0 : ((((w3.alloc (.cells #[.int .i64 xw, .int .u64 xo, .int .i64 xg] 30)).setCell ⟨B, 0, none⟩ (.int .i64 n)).setCell ⟨B, 1, none⟩ (.slice b m2 c2)).setCell ⟨B, 2, none⟩ (.int .u64 order)).cell? ⟨w3.heap.size, 0, none⟩ = some (.int .i64 xw) := cell_of_row _ _ 0 _ _ _ hX
            have x1 : ((((w3.alloc (.cells #[.int .i64 xw, .int .u64 xo, .int .i64 xg] 30)).setCell ⟨B, 0, none⟩ (.int .i64 n)).setCell ⟨B, 1, none⟩ (.slice b m2 c2)).setCell ⟨B, 2, none⟩ (.int .u64 order)).cell? ⟨w3.heap.size, 1, none⟩ = some (.int .u64 xo) := cell_of_row _ _ 1 _ _ _ hX
            have x2 : ((((w3.alloc (.cells #[.int .i64 xw, .int .u64 xo, .int .i64 xg] 30)).setCell ⟨B, 0, none⟩ (.int .i64 n)).setCell ⟨B, 1, none⟩ (.slice b m2 c2)).setCell ⟨B, 2, none⟩ (.int .u64 order)).cell? ⟨w3.heap.size, 2, none⟩ = some (.int .i64 xg) := cell_of_row _ _ 2 _ _ _ hX
            have y0 : ((((w3.alloc (.cells #[.int .i64 xw, .int .u64 xo, .int .i64 xg] 30)).setCell ⟨B, 0, none⟩ (.int .i64 n)).setCell ⟨B, 1, none⟩ (.slice b m2 c2)).setCell ⟨B, 2, none⟩ (.int .u64 order)).cell? ⟨S + 1, 0, none⟩ = some (.int .i64 xw) := cell_of_row _ _ 0 _ _ _ hY
            have y1 : ((((w3.alloc (.cells #[.int .i64 xw, .int .u64 xo, .int .i64 xg] 30)).setCell ⟨B, 0, none⟩ (.int .i64 n)).setCell ⟨B, 1, none⟩ (.slice b m2 c2)).setCell ⟨B, 2, none⟩ (.int .u64 order)).cell? ⟨S + 1, 1, none⟩ = some (.int .u64 xo) := cell_of_row _ _ 1 _ _ _ hY
            have y2 : ((((w3.alloc (.cells #[.int .i64 xw, .int .u64 xo, .int .i64 xg] 30)).setCell ⟨B, 0, none⟩ (.int .i64 n)).setCell ⟨B, 1, none⟩ (.slice b m2 c2)).setCell ⟨B, 2, none⟩ (.int .u64 order)).cell? ⟨S + 1, 2, none⟩ = some (.int .i64 xg) := cell_of_row _ _ 2 _ _ _ hY
            have hneq : ∀ W, (binOp .neq TE (.agg #[.int .i64 xw, .int .u64 xo, .int .i64 xg]) (.agg #[.int .i64 xw, .int .u64 xo, .int .i64 xg])).run Try.prog W = .ok (.bool false) W := fun W => by go_simp
            clear hX hY hA4 D4
            go_wp2_with fail
            go_meet
            exact ⟨rfl, ⟨Dn, order, b, m2, c2, _, D5.out.1, by have := takeD_len HE.out; have := H1.out.2.2.1; omega, by have := H1.out.2.2.2; omega⟩, D5.out.2⟩
        · as_aux_lemma =>
            obtain ⟨⟨xw, xo, xg⟩, ok, Dn, htk⟩ : ∃ x ok D', takeD D d = (x, ok, D') := ⟨_, _, _, rfl⟩
            have HE := Lib.hid htk
            clear htk
            have d0 := H1.out.1.c0
            have d1 := H1.out.1.c1
            have d2 := H1.out.1.c2
            go_wp2_with fail
            refine (rtake_anyT H1.out.1.dv H1.out.1.size (by have := H1.out.2.2.1; omega) n order d HE.out).mono ?_
            rintro e w2 ⟨b, m2, c2, rfl, hs2, hf2, hb2⟩
            have hal1 := below_alloc (w := w2) (.cells #[.int .i64 n, .slice b m2 c2, .int .u64 order] TD)
            have hal2 := below_alloc (w := w2.alloc (.cells #[.int .i64 n, .slice b m2 c2, .int .u64 order] TD)) (.cells #[.int .i64 xw, .int .u64 xo, .int .i64 xg] TE)
            have hS1 : ((w2.alloc (.cells #[.int .i64 n, .slice b m2 c2, .int .u64 order] TD)).alloc (.cells #[.int .i64 xw, .int .u64 xo, .int .i64 xg] TE)).heap[w2.heap.size]? = some (.cells #[.int .i64 n, .slice b m2 c2, .int .u64 order] TD (0, 0)) := (heap_alloc_old _ _ (by simp)).trans (heap_alloc_new _ _)
            have hS2 : ((w2.alloc (.cells #[.int .i64 n, .slice b m2 c2, .int .u64 order] TD)).alloc (.cells #[.int .i64 xw, .int .u64 xo, .int .i64 xg] TE)).heap[w2.heap.size + 1]? = some (.cells #[.int .i64 xw, .int .u64 xo, .int .i64 xg] TE (0, 0)) := by
              have := heap_alloc_new (w2.alloc (.cells #[.int .i64 n, .slice b m2 c2, .int .u64 order] TD)) (.cells #[.int .i64 xw, .int .u64 xo, .int .i64 xg] TE)
              simpa using this
            have hA2 : ((w2.alloc (.cells #[.int .i64 n, .slice b m2 c2, .int .u64 order] TD)).alloc (.cells #[.int .i64 xw, .int .u64 xo, .int .i64 xg] TE)).heap[A]? = some (.cells #[.int .u8 y, .int .i64 p, .int .i64 gg, .int .i64 d] TA4 (0, 0)) := act_next (act_next (act_next H1.out.2.1 hb2) hal1) hal2
            have hT2 := ((H1.out.1.doc hb2 hs2 hf2).more (F' := fun k => ((F k ∨ k = A) ∨ (Value.slice b m2 c2).ownBlock = some k) ∨ k = w2.heap.size) hal1 (fun k hk => by rcases hk with q | q; exact .inl q; exact .inr (by subst q; simp)) (fun k hk => .inl hk)).more (F' := fun k => (((F k ∨ k = A) ∨ (Value.slice b m2 c2).ownBlock = some k) ∨ k = w2.heap.size) ∨ k = w2.heap.size + 1) hal2 (fun k hk => by rcases hk with q | q; exact .inl q; exact .inr (by subst q; simp)) (fun k hk => .inl hk)
            have D3 := Lib.hid (And.intro hT2 (And.intro hA2 (And.intro hS1 (And.intro hS2 (And.intro ((hs2.below hal1).below hal2) (And.intro (H1.out.1.new hf2) (show B < w2.heap.size by have := H1.out.1.lt; have := hb2.size; omega)))))))
            clear z0 z1 z2 z3 d0 d1 d2 hs2 hf2 hb2 hal1 hal2 hS1 hS2 hT2
            obtain ⟨z0, z1, z2, z3⟩ := act4 hA2
            clear hA2
            unfold Ent.agg
            go_wp2_with fail
            generalize ((w2.alloc (.cells #[.int .i64 n, .slice b m2 c2, .int .u64 order] TD)).alloc (.cells #[.int .i64 xw, .int .u64 xo, .int .i64 xg] TE)) = W2 at *
            obtain ⟨S, hS⟩ : ∃ S, w2.heap.size = S := ⟨_, rfl⟩
            rw [hS] at D3 ⊢
            clear hS z0 z1 z2 z3
            refine (tmd_take D3.out.1.t D3.out.1.size d HE.out).mono ?_
            rintro e w3 ⟨rfl, T3, hk3⟩
            have hal := below_alloc (w := w3) (.cells #[.int .i64 xw, .int .u64 xo, .int .i64 xg] 30)
            have D4 := Lib.hid (And.intro ((D3.out.1.prog T3 hk3).next hal) (And.intro (act_next ((hk3.far A (.inl (.inl (.inl (.inr rfl))))).trans D3.out.2.1) hal) (And.intro (act_next ((hk3.far S (.inl (.inr rfl))).trans D3.out.2.2.1) hal) (And.intro (act_next ((hk3.far (S + 1) (.inr rfl)).trans D3.out.2.2.2.1) hal) (And.intro ((D3.out.2.2.2.2.1.kept hk3.below.size (fun j hj => hk3.far j (.inl (.inl (.inr hj))))).below hal) (And.intro (heap_alloc_new w3 (.cells #[.int .i64 xw, .int .u64 xo, .int .i64 xg] 30)) (show B ≠ w3.heap.size ∧ S + 1 ≠ B by have := D3.out.1.lt; have := (D3.out.1.prog T3 hk3).lt; have := D3.out.2.2.2.2.2.2; have := (Array.getElem?_eq_some_iff.1 ((hk3.far (S + 1) (.inr rfl)).trans D3.out.2.2.2.1)).1; exact ⟨by omega, by omega⟩)))))))
            clear T3 hk3 hal
            have e0 : (w3.alloc (.cells #[.int .i64 xw, .int .u64 xo, .int .i64 xg] 30)).cell? ⟨S, 0, none⟩ = some (.int .i64 n) := cell_of_row _ _ 0 _ _ _ D4.out.2.2.1
            have e1 : (w3.alloc (.cells #[.int .i64 xw, .int .u64 xo, .int .i64 xg] 30)).cell? ⟨S, 1, none⟩ = some (.slice b m2 c2) := cell_of_row _ _ 1 _ _ _ D4.out.2.2.1
            have e2 : (w3.alloc (.cells #[.int .i64 xw, .int .u64 xo, .int .i64 xg] 30)).cell? ⟨S, 2, none⟩ = some (.int .u64 order) := cell_of_row _ _ 2 _ _ _ D4.out.2.2.1
            have d0 := D4.out.1.c0
            have d1 := D4.out.1.c1
            have d2 := D4.out.1.c2
            have df := D4.out.1.fr
            have hX : ((((w3.alloc (.cells #[.int .i64 xw, .int .u64 xo, .int .i64 xg] 30)).setCell ⟨B, 0, none⟩ (.int .i64 n)).setCell ⟨B, 1, none⟩ (.slice b m2 c2)).setCell ⟨B, 2, none⟩ (.int .u64 order)).heap[w3.heap.size]? = some (.cells #[.int .i64 xw, .int .u64 xo, .int .i64 xg] 30 (0, 0)) := (box_other (Ne.symm D4.out.2.2.2.2.2.2.1)).trans D4.out.2.2.2.2.2.1
            have hY : ((((w3.alloc (.cells #[.int .i64 xw, .int .u64 xo, .int .i64 xg] 30)).setCell ⟨B, 0, none⟩ (.int .i64 n)).setCell ⟨B, 1, none⟩ (.slice b m2 c2)).setCell ⟨B, 2, none⟩ (.int .u64 order)).heap[S + 1]? = some (.cells #[.int .i64 xw, .int .u64 xo, .int .i64 xg] TE (0, 0)) := (box_other D4.out.2.2.2.2.2.2.2).trans D4.out.2.2.2.1
            have hA4 : ((((w3.alloc (.cells #[.int .i64 xw, .int .u64 xo, .int .i64 xg] 30)).setCell ⟨B, 0, none⟩ (.int .i64 n)).setCell ⟨B, 1, none⟩ (.slice b m2 c2)).setCell ⟨B, 2, none⟩ (.int .u64 order)).heap[A]? = some (.cells #[.int .u8 y, .int .i64 p, .int .i64 gg, .int .i64 d] TA4 (0, 0)) := (box_other HA.out).trans D4.out.2.1
            have D5 := Lib.hid (And.intro (D4.out.1.store (o' := order) D4.out.2.2.2.2.1 (fun k hk => .inl (.inl (.inr hk))) D3.out.2.2.2.2.2.1) hA4)
            have x0 : ((((w3.alloc (.cells #[.int .i64 xw, .int .u64 xo, .int .i64 xg] 30)).setCell ⟨B, 0, none⟩ (.int .i64 n)).setCell ⟨B, 1, none⟩ (.slice b m2 c2)).setCell ⟨B, 2, none⟩ (.int .u64 order)).cell? ⟨w3.heap.size, 0, none⟩ = some (.int .i64 xw) := cell_of_row _ _ 0 _ _ _ hX
            have x1 : ((((w3.alloc (.cells #[.int .i64 xw, .int .u64 xo, .int .i64 xg] 30)).setCell ⟨B, 0, none⟩ (.int .i64 n)).setCell ⟨B, 1, none⟩ (.slice b m2 c2)).setCell ⟨B, 2, none⟩ (.int .u64 order)).cell? ⟨w3.heap.size, 1, none⟩ = some (.int .u64 xo) := cell_of_row _ _ 1 _ _ _ hX
            have x2 : ((((w3.alloc (.cells #[.int .i64 xw, .int .u64 xo, .int .i64 xg] 30)).setCell ⟨B, 0, none⟩ (.int .i64 n)).setCell ⟨B, 1, none⟩ (.slice b m2 c2)).setCell ⟨B, 2, none⟩ (.int .u64 order)).cell? ⟨w3.heap.size, 2, none⟩ = some (.int .i64 xg) := cell_of_row _ _ 2 _ _ _ hX
            have y0 : ((((w3.alloc (.cells #[.int .i64 xw, .int .u64 xo, .int .i64 xg] 30)).setCell ⟨B, 0, none⟩ (.int .i64 n)).setCell ⟨B, 1, none⟩ (.slice b m2 c2)).setCell ⟨B, 2, none⟩ (.int .u64 order)).cell? ⟨S + 1, 0, none⟩ = some (.int .i64 xw) := cell_of_row _ _ 0 _ _ _ hY
            have y1 : ((((w3.alloc (.cells #[.int .i64 xw, .int .u64 xo, .int .i64 xg] 30)).setCell ⟨B, 0, none⟩ (.int .i64 n)).setCell ⟨B, 1, none⟩ (.slice b m2 c2)).setCell ⟨B, 2, none⟩ (.int .u64 order)).cell? ⟨S + 1, 1, none⟩ = some (.int .u64 xo) := cell_of_row _ _ 1 _ _ _ hY
            have y2 : ((((w3.alloc (.cells #[.int .i64 xw, .int .u64 xo, .int .i64 xg] 30)).setCell ⟨B, 0, none⟩ (.int .i64 n)).setCell ⟨B, 1, none⟩ (.slice b m2 c2)).setCell ⟨B, 2, none⟩ (.int .u64 order)).cell? ⟨S + 1, 2, none⟩ = some (.int .i64 xg) := cell_of_row _ _ 2 _ _ _ hY
            have hneq : ∀ W, (binOp .neq TE (.agg #[.int .i64 xw, .int .u64 xo, .int .i64 xg]) (.agg #[.int .i64 xw, .int .u64 xo, .int .i64 xg])).run Try.prog W = .ok (.bool false) W := fun W => by go_simp
            clear hX hY hA4 D4
            go_wp2_with fail
            go_meet
            exact ⟨rfl, ⟨Dn, order, b, m2, c2, _, D5.out.1, by have := takeD_len HE.out; have := H1.out.2.2.1; omega, by have := H1.out.2.2.2; omega⟩, D5.out.2⟩
        · as_aux_lemma =>
            obtain ⟨ε, Dn, on, had⟩ : ∃ e D' o', addD n D order 0 4095 0 = (e, D', o') := ⟨_, _, _, rfl⟩
            obtain ⟨⟨xw, xo, xg⟩, ok, Dt, htk⟩ : ∃ x ok D', takeD Dn 9223372036854775807 = (x, ok, D') := ⟨_, _, _, rfl⟩
            have HE := Lib.hid (And.intro had htk)
            clear had htk
            go_wp2_with fail
            refine (tmd_copy H1.out.1.t (by have := H1.out.2.2.1; omega)).mono ?_
            rintro e w2 ⟨tb2, rfl, T2, hg2⟩
            have D2 := Lib.hid (And.intro T2 hg2)
            clear T2 hg2 z0 z1 z2 z3
            go_wp2_with fail
            refine (tmd_add D2.out.1 D2.out.2.size 0 4095 0 HE.out.1 (by have := H1.out.2.2.2; omega)).mono ?_
            rintro e w3 ⟨rfl, T3, hk3⟩
            have D3 := Lib.hid (And.intro T3 ((grown_below' D2.out.2).trans hk3.below))
            clear T3 hk3
            go_wp2_with fail
            refine (tmd_take D3.out.1 D3.out.2.size 9223372036854775807 HE.out.2).mono ?_
            rintro e w4 ⟨rfl, T4, hk4⟩
            have D4 := Lib.hid (D3.out.2.trans hk4.below)
            clear T4 hk4
            go_wp2_with fail
            go_meet
            exact ⟨rfl, ⟨D, order, a1, m1, c1, _, H1.out.1.next D4.out, by have := H1.out.2.2.1; omega, by have := H1.out.2.2.2; omega⟩, act_next H1.out.2.1 D4.out⟩
      case rest =>
        clear H1 z0 z1 z2 z3 ek hm0 hm6
        obtain ⟨rfl, hq⟩ := hcut
        obtain ⟨⟨D, order, a1, m1, c1, F, hD, hbD, hbo⟩, hact⟩ := hq
        have H := Lib.hid (And.intro hD (And.intro hact (And.intro hbD hbo)))
        clear hD hact hbD hbo
        obtain ⟨L, hL⟩ : ∃ L, srt (sel (-1) D) = L := ⟨_, rfl⟩
        rcases L with _ | ⟨⟨xw, xo, xg⟩, t⟩
        · as_aux_lemma =>
            obtain ⟨r1, hr1⟩ : ∃ r, anyG D g0 = r := ⟨_, rfl⟩
            obtain ⟨r2, hr2⟩ : ∃ r, anyG D gg = r := ⟨_, rfl⟩
            have hm : ([] : List Ent).length = 0 := rfl
            have HE := Lib.hid (And.intro hL (And.intro (show (D.length : Int) = 0 by have : D.length = 0 := (by rw [← hm, ← hL, srt_len, sel_all, List.length_map]); rw [this]; simp) (And.intro hr1 hr2)))
            have HM := Lib.hid hm
            clear hL hr1 hr2 hm
            have d0 := H.out.1.c0
            have d1 := H.out.1.c1
            have d2 := H.out.1.c2
            go_wp2_with fail
            refine (rof_is H.out.1.dv (by have := H.out.2.2.1; omega) n order (-1) HE.out.1 HM.out).mono ?_
            rintro e w2 ⟨b, c, rfl, hs, hb⟩
            have Q1 := Lib.hid (show Tz w w2 tb n B A D order (.slice a1 m1 c1) F y p gg d none from ⟨H.out.1.next hb, act_next H.out.2.1 hb, (fun ad2 x2 e => by cases e)⟩)
            clear hs hb d0 d1 d2
            go_wp2_with fail
            refine (tmd_next_no Q1.out.t.t HE.out.1).mono ?_
            rintro e w4 ⟨rfl, hb⟩
            have Q2 := Lib.hid ((Q1.out.next (grown_below' hb)).next (below_drew (w := w4)))
            clear hb
            go_wp2_with fail
            have hS : (w4.drew.cell? ⟨B, 0, none⟩ = some (.int .i64 n) ∧ w4.drew.cell? ⟨B, 1, none⟩ = some (.slice a1 m1 c1) ∧ w4.drew.cell? ⟨B, 2, none⟩ = some (.int .u64 order) ∧ w4.drew.cell? ⟨A, 2, none⟩ = some (.int .i64 gg)) := ⟨Q2.out.t.c0, Q2.out.t.c1, Q2.out.t.c2, Q2.out.a2⟩
            refine wp_region_held_drew (S := fun w' => w'.cell? ⟨B, 0, none⟩ = some (.int .i64 n) ∧ w'.cell? ⟨B, 1, none⟩ = some (.slice a1 m1 c1) ∧ w'.cell? ⟨B, 2, none⟩ = some (.int .u64 order) ∧ w'.cell? ⟨A, 2, none⟩ = some (.int .i64 gg) ) (by kernel_rfl) hS (fun hHeld => ?_)
            refine Own.yes (i := 0) (d := (some 109)) (v := ?_) rfl rfl (by kernel_rfl) (by kernel_rfl) (by kernel_rfl) (fun _ _ _ h => h) rfl ?_ hHeld ?_
            rotate_left
            · (intro w hSw; (try dsimp only at hSw); go_simp; try with_reducible rfl)
            simp only [Act.put, List.setIfInBounds_toArray, List.set_cons_zero, List.set_cons_succ]
            refine Own.yes (i := 2) (d := (some 111)) (v := ?_) rfl rfl (by kernel_rfl) (by kernel_rfl) (by kernel_rfl) (fun _ _ _ h => h) rfl ?_ hHeld ?_
            rotate_left
            · (intro w hSw; (try dsimp only at hSw); go_simp; try with_reducible rfl)
            simp only [Act.put, List.setIfInBounds_toArray, List.set_cons_zero, List.set_cons_succ]
            refine Own.yes (i := 3) (d := (some 112)) (v := ?_) rfl rfl (by kernel_rfl) (by kernel_rfl) (by kernel_rfl) (fun _ _ _ h => h) rfl ?_ hHeld ?_
            rotate_left
            · (intro w hSw; (try dsimp only at hSw); go_simp; try with_reducible rfl)
            simp only [Act.put, List.setIfInBounds_toArray, List.set_cons_zero, List.set_cons_succ]
            refine Own.call (i := 1) (d := (some 110)) rfl rfl (by kernel_rfl) rfl ?_ (tmd_len Q2.out.t.t HE.out.2.1) ?_
            · go_simp
            rintro e w5 ⟨rfl, rfl⟩
            have hS : (w4.drew.cell? ⟨B, 0, none⟩ = some (.int .i64 n) ∧ w4.drew.cell? ⟨B, 1, none⟩ = some (.slice a1 m1 c1) ∧ w4.drew.cell? ⟨B, 2, none⟩ = some (.int .u64 order) ∧ w4.drew.cell? ⟨A, 2, none⟩ = some (.int .i64 gg)) := ⟨Q2.out.t.c0, Q2.out.t.c1, Q2.out.t.c2, Q2.out.a2⟩
            refine ⟨_, rfl, hS, fun hHeld => ?_⟩
            simp only [Act.put, List.setIfInBounds_toArray, List.set_cons_zero, List.set_cons_succ]
            refine Own.yes (i := 4) (d := (some 113)) (v := ?_) rfl rfl (by kernel_rfl) (by kernel_rfl) (by kernel_rfl) (fun _ _ _ h => h) rfl ?_ hHeld ?_
            rotate_left
            · (intro w hSw; (try dsimp only at hSw); go_simp; try with_reducible rfl)
            simp only [Act.put, List.setIfInBounds_toArray, List.set_cons_zero, List.set_cons_succ]
            refine Own.yes (i := 5) (d := (some 114)) (v := ?_) rfl rfl (by kernel_rfl) (by kernel_rfl) (by kernel_rfl) (fun _ _ _ h => h) rfl ?_ hHeld ?_
            rotate_left
            · (intro w hSw; (try dsimp only at hSw); go_simp; try with_reducible rfl)
            simp only [Act.put, List.setIfInBounds_toArray, List.set_cons_zero, List.set_cons_succ]
            refine Own.yes (i := 6) (d := (some 115)) (v := ?_) rfl rfl (by kernel_rfl) (by kernel_rfl) (by kernel_rfl) (fun _ _ _ h => h) rfl ?_ hHeld ?_
            rotate_left
            · (intro w hSw; (try dsimp only at hSw); go_simp; try with_reducible rfl)
            simp only [Act.put, List.setIfInBounds_toArray, List.set_cons_zero, List.set_cons_succ]
            refine Own.yes (i := 7) (d := (some 116)) (v := ?_) rfl rfl (by kernel_rfl) (by kernel_rfl) (by kernel_rfl) (fun _ _ _ h => h) rfl ?_ hHeld ?_
            rotate_left
            · (intro w hSw; (try dsimp only at hSw); go_simp; try with_reducible rfl)
            simp only [Act.put, List.setIfInBounds_toArray, List.set_cons_zero, List.set_cons_succ]
            refine Own.yes (i := 8) (d := (some 117)) (v := ?_) rfl rfl (by kernel_rfl) (by kernel_rfl) (by kernel_rfl) (fun _ _ _ h => h) rfl ?_ hHeld ?_
            rotate_left
            · (intro w hSw; (try dsimp only at hSw); go_simp; try with_reducible rfl)
            simp only [Act.put, List.setIfInBounds_toArray, List.set_cons_zero, List.set_cons_succ]
            refine Own.yes (i := 9) (d := (some 118)) (v := ?_) rfl rfl (by kernel_rfl) (by kernel_rfl) (by kernel_rfl) (fun _ _ _ h => h) rfl ?_ hHeld ?_
            rotate_left
            · (intro w hSw; (try dsimp only at hSw); go_simp; try with_reducible rfl)
            simp only [Act.put, List.setIfInBounds_toArray, List.set_cons_zero, List.set_cons_succ]
            refine Own.yes (i := 10) (d := (some 119)) (v := ?_) rfl rfl (by kernel_rfl) (by kernel_rfl) (by kernel_rfl) (fun _ _ _ h => h) rfl ?_ hHeld ?_
            rotate_left
            · (intro w hSw; (try dsimp only at hSw); go_simp; try with_reducible rfl)
            simp only [Act.put, List.setIfInBounds_toArray, List.set_cons_zero, List.set_cons_succ]
            refine Own.yes (i := 11) (d := (some 120)) (v := ?_) rfl rfl (by kernel_rfl) (by kernel_rfl) (by kernel_rfl) (fun _ _ _ h => h) rfl ?_ hHeld ?_
            rotate_left
            · (intro w hSw; (try dsimp only at hSw); go_simp; try with_reducible rfl)
            simp only [Act.put, List.setIfInBounds_toArray, List.set_cons_zero, List.set_cons_succ]
            refine Own.yes (i := 12) (d := (some 121)) (v := ?_) rfl rfl (by kernel_rfl) (by kernel_rfl) (by kernel_rfl) (fun _ _ _ h => h) rfl ?_ hHeld ?_
            rotate_left
            · (intro w hSw; (try dsimp only at hSw); go_simp; try with_reducible rfl)
            simp only [Act.put, List.setIfInBounds_toArray, List.set_cons_zero, List.set_cons_succ]
            refine Own.yes (i := 13) (d := (some 122)) (v := ?_) rfl rfl (by kernel_rfl) (by kernel_rfl) (by kernel_rfl) (fun _ _ _ h => h) rfl ?_ hHeld ?_
            rotate_left
            · (intro w hSw; (try dsimp only at hSw); go_simp; try with_reducible rfl)
            simp only [Act.put, List.setIfInBounds_toArray, List.set_cons_zero, List.set_cons_succ]
            refine Own.yes (i := 14) (d := (some 123)) (v := ?_) rfl rfl (by kernel_rfl) (by kernel_rfl) (by kernel_rfl) (fun _ _ _ h => h) rfl ?_ hHeld ?_
            rotate_left
            · (intro w hSw; (try dsimp only at hSw); go_simp; try with_reducible rfl)
            simp only [Act.put, List.setIfInBounds_toArray, List.set_cons_zero, List.set_cons_succ]
            refine Own.no (i := 15) (d := (some 124)) rfl rfl (by kernel_rfl) (by kernel_rfl) (by kernel_rfl) (fun _ _ _ h => h) rfl hHeld ?_
            simp only [Act.put, List.setIfInBounds_toArray, List.set_cons_zero, List.set_cons_succ]
            refine Own.no (i := 16) (d := (some 125)) rfl rfl (by kernel_rfl) (by kernel_rfl) (by kernel_rfl) (fun _ _ _ h => h) rfl hHeld ?_
            simp only [Act.put, List.setIfInBounds_toArray, List.set_cons_zero, List.set_cons_succ]
            refine Own.no (i := 17) (d := (some 126)) rfl rfl (by kernel_rfl) (by kernel_rfl) (by kernel_rfl) (fun _ _ _ h => h) rfl hHeld ?_
            simp only [Act.put, List.setIfInBounds_toArray, List.set_cons_zero, List.set_cons_succ]
            refine Own.no (i := 18) (d := (some 127)) rfl rfl (by kernel_rfl) (by kernel_rfl) (by kernel_rfl) (fun _ _ _ h => h) rfl hHeld ?_
            simp only [Act.put, List.setIfInBounds_toArray, List.set_cons_zero, List.set_cons_succ]
            refine Own.no (i := 19) (d := (some 128)) rfl rfl (by kernel_rfl) (by kernel_rfl) (by kernel_rfl) (fun _ _ _ h => h) rfl hHeld ?_
            simp only [Act.put, List.setIfInBounds_toArray, List.set_cons_zero, List.set_cons_succ]
            refine Own.no (i := 20) (d := (some 129)) rfl rfl (by kernel_rfl) (by kernel_rfl) (by kernel_rfl) (fun _ _ _ h => h) rfl hHeld ?_
            simp only [Act.put, List.setIfInBounds_toArray, List.set_cons_zero, List.set_cons_succ]
            refine Own.yes (i := 21) (d := (some 130)) (v := ?_) rfl rfl (by kernel_rfl) (by kernel_rfl) (by kernel_rfl) (fun _ _ _ h => h) rfl ?_ hHeld ?_
            rotate_left
            · (intro w hSw; (try dsimp only at hSw); go_simp; try with_reducible rfl)
            simp only [Act.put, List.setIfInBounds_toArray, List.set_cons_zero, List.set_cons_succ]
            refine Own.yes (i := 22) (d := (some 131)) (v := ?_) rfl rfl (by kernel_rfl) (by kernel_rfl) (by kernel_rfl) (fun _ _ _ h => h) rfl ?_ hHeld ?_
            rotate_left
            · (intro w hSw; (try dsimp only at hSw); go_simp; try with_reducible rfl)
            simp only [Act.put, List.setIfInBounds_toArray, List.set_cons_zero, List.set_cons_succ]
            refine Own.yes (i := 23) (d := (some 132)) (v := ?_) rfl rfl (by kernel_rfl) (by kernel_rfl) (by kernel_rfl) (fun _ _ _ h => h) rfl ?_ hHeld ?_
            rotate_left
            · (intro w hSw; (try dsimp only at hSw); go_simp; try with_reducible rfl)
            simp only [Act.put, List.setIfInBounds_toArray, List.set_cons_zero, List.set_cons_succ]
            refine Own.yes (i := 24) (d := (some 133)) (v := ?_) rfl rfl (by kernel_rfl) (by kernel_rfl) (by kernel_rfl) (fun _ _ _ h => h) rfl ?_ hHeld ?_
            rotate_left
            · (intro w hSw; (try dsimp only at hSw); go_simp; try with_reducible rfl)
            simp only [Act.put, List.setIfInBounds_toArray, List.set_cons_zero, List.set_cons_succ]
            refine Own.yes (i := 25) (d := (some 134)) (v := ?_) rfl rfl (by kernel_rfl) (by kernel_rfl) (by kernel_rfl) (fun _ _ _ h => h) rfl ?_ hHeld ?_
            rotate_left
            · (intro w hSw; (try dsimp only at hSw); go_simp; try with_reducible rfl)
            simp only [Act.put, List.setIfInBounds_toArray, List.set_cons_zero, List.set_cons_succ]
            refine Own.yes (i := 26) (d := (some 135)) (v := ?_) rfl rfl (by kernel_rfl) (by kernel_rfl) (by kernel_rfl) (fun _ _ _ h => h) rfl ?_ hHeld ?_
            rotate_left
            · (intro w hSw; (try dsimp only at hSw); go_simp; try with_reducible rfl)
            simp only [Act.put, List.setIfInBounds_toArray, List.set_cons_zero, List.set_cons_succ]
            refine Own.yes (i := 27) (d := (some 136)) (v := ?_) rfl rfl (by kernel_rfl) (by kernel_rfl) (by kernel_rfl) (fun _ _ _ h => h) rfl ?_ hHeld ?_
            rotate_left
            · (intro w hSw; (try dsimp only at hSw); go_simp; try with_reducible rfl)
            simp only [Act.put, List.setIfInBounds_toArray, List.set_cons_zero, List.set_cons_succ]
            refine Own.yes (i := 28) (d := (some 137)) (v := ?_) rfl rfl (by kernel_rfl) (by kernel_rfl) (by kernel_rfl) (fun _ _ _ h => h) rfl ?_ hHeld ?_
            rotate_left
            · (intro w hSw; (try dsimp only at hSw); go_simp; try with_reducible rfl)
            simp only [Act.put, List.setIfInBounds_toArray, List.set_cons_zero, List.set_cons_succ]
            refine Own.yes (i := 29) (d := (some 138)) (v := ?_) rfl rfl (by kernel_rfl) (by kernel_rfl) (by kernel_rfl) (fun _ _ _ h => h) rfl ?_ hHeld ?_
            rotate_left
            · (intro w hSw; (try dsimp only at hSw); go_simp; try with_reducible rfl)
            simp only [Act.put, List.setIfInBounds_toArray, List.set_cons_zero, List.set_cons_succ]
            refine Own.yes (i := 30) (d := (some 139)) (v := ?_) rfl rfl (by kernel_rfl) (by kernel_rfl) (by kernel_rfl) (fun _ _ _ h => h) rfl ?_ hHeld ?_
            rotate_left
            · (intro w hSw; (try dsimp only at hSw); go_simp; try with_reducible rfl)
            simp only [Act.put, List.setIfInBounds_toArray, List.set_cons_zero, List.set_cons_succ]
            refine Own.yes (i := 31) (d := (some 140)) (v := ?_) rfl rfl (by kernel_rfl) (by kernel_rfl) (by kernel_rfl) (fun _ _ _ h => h) rfl ?_ hHeld ?_
            rotate_left
            · (intro w hSw; (try dsimp only at hSw); go_simp; try with_reducible rfl)
            simp only [Act.put, List.setIfInBounds_toArray, List.set_cons_zero, List.set_cons_succ]
            refine Own.yes (i := 32) (d := (some 141)) (v := ?_) rfl rfl (by kernel_rfl) (by kernel_rfl) (by kernel_rfl) (fun _ _ _ h => h) rfl ?_ hHeld ?_
            rotate_left
            · (intro w hSw; (try dsimp only at hSw); go_simp; try with_reducible rfl)
            simp only [Act.put, List.setIfInBounds_toArray, List.set_cons_zero, List.set_cons_succ]
            refine Own.yes (i := 33) (d := (some 142)) (v := ?_) rfl rfl (by kernel_rfl) (by kernel_rfl) (by kernel_rfl) (fun _ _ _ h => h) rfl ?_ hHeld ?_
            rotate_left
            · (intro w hSw; (try dsimp only at hSw); go_simp; try with_reducible rfl)
            simp only [Act.put, List.setIfInBounds_toArray, List.set_cons_zero, List.set_cons_succ]
            refine Own.yes (i := 35) (d := (some 144)) (v := ?_) rfl rfl (by kernel_rfl) (by kernel_rfl) (by kernel_rfl) (fun _ _ _ h => h) rfl ?_ hHeld ?_
            rotate_left
            · (intro w hSw; (try dsimp only at hSw); go_simp; try with_reducible rfl)
            simp only [Act.put, List.setIfInBounds_toArray, List.set_cons_zero, List.set_cons_succ]
            refine Own.yes (i := 36) (d := (some 145)) (v := ?_) rfl rfl (by kernel_rfl) (by kernel_rfl) (by kernel_rfl) (fun _ _ _ h => h) rfl ?_ hHeld ?_
            rotate_left
            · (intro w hSw; (try dsimp only at hSw); go_simp; try with_reducible rfl)
            simp only [Act.put, List.setIfInBounds_toArray, List.set_cons_zero, List.set_cons_succ]
            refine Own.call (i := 34) (d := (some 143)) rfl rfl (by kernel_rfl) rfl ?_ (tmd_has Q2.out.t.t g0 HE.out.2.2.1) ?_
            · go_simp
            rintro e w5 ⟨rfl, hb⟩
            (have Q3 := Lib.hid (Q2.out.next (grown_below' hb)); clear hb hS hHeld; have hS : (w5.cell? ⟨B, 0, none⟩ = some (.int .i64 n) ∧ w5.cell? ⟨B, 1, none⟩ = some (.slice a1 m1 c1) ∧ w5.cell? ⟨B, 2, none⟩ = some (.int .u64 order) ∧ w5.cell? ⟨A, 2, none⟩ = some (.int .i64 gg)) := ⟨Q3.out.t.c0, Q3.out.t.c1, Q3.out.t.c2, Q3.out.a2⟩)
            refine ⟨_, rfl, hS, fun hHeld => ?_⟩
            simp only [Act.put, List.setIfInBounds_toArray, List.set_cons_zero, List.set_cons_succ]
            refine Own.call (i := 37) (d := (some 146)) rfl rfl (by kernel_rfl) rfl ?_ (rthas_is Q3.out.t.dv (by have := H.out.2.2.1; omega) n order g0 HE.out.2.2.1) ?_
            · go_simp
            rintro e w6 ⟨rfl, hb⟩
            (have Q4 := Lib.hid (Q3.out.next hb); clear hb hS hHeld; have hS : (w6.cell? ⟨B, 0, none⟩ = some (.int .i64 n) ∧ w6.cell? ⟨B, 1, none⟩ = some (.slice a1 m1 c1) ∧ w6.cell? ⟨B, 2, none⟩ = some (.int .u64 order) ∧ w6.cell? ⟨A, 2, none⟩ = some (.int .i64 gg)) := ⟨Q4.out.t.c0, Q4.out.t.c1, Q4.out.t.c2, Q4.out.a2⟩)
            refine ⟨_, rfl, hS, fun hHeld => ?_⟩
            simp only [Act.put, List.setIfInBounds_toArray, List.set_cons_zero, List.set_cons_succ]
            refine Own.yes (i := 38) (d := (some 147)) (v := ?_) rfl rfl (by kernel_rfl) (by kernel_rfl) (by kernel_rfl) (fun _ _ _ h => h) rfl ?_ hHeld ?_
            rotate_left
            · (intro w hSw; (try dsimp only at hSw); go_simp; try with_reducible rfl)
            simp only [Act.put, List.setIfInBounds_toArray, List.set_cons_zero, List.set_cons_succ]
            refine Own.yes (i := 39) (d := (some 148)) (v := ?_) rfl rfl (by kernel_rfl) (by kernel_rfl) (by kernel_rfl) (fun _ _ _ h => h) rfl ?_ hHeld ?_
            rotate_left
            · (intro w hSw; (try dsimp only at hSw); go_simp; try with_reducible rfl)
            simp only [Act.put, List.setIfInBounds_toArray, List.set_cons_zero, List.set_cons_succ]
            refine Own.yes (i := 40) (d := (some 149)) (v := ?_) rfl rfl (by kernel_rfl) (by kernel_rfl) (by kernel_rfl) (fun _ _ _ h => h) rfl ?_ hHeld ?_
            rotate_left
            · (intro w hSw; (try dsimp only at hSw); go_simp; try with_reducible rfl)
            simp only [Act.put, List.setIfInBounds_toArray, List.set_cons_zero, List.set_cons_succ]
            refine Own.yes (i := 41) (d := (some 150)) (v := ?_) rfl rfl (by kernel_rfl) (by kernel_rfl) (by kernel_rfl) (fun _ _ _ h => h) rfl ?_ hHeld ?_
            rotate_left
            · (intro w hSw; (try dsimp only at hSw); go_simp; try with_reducible rfl)
            simp only [Act.put, List.setIfInBounds_toArray, List.set_cons_zero, List.set_cons_succ]
            refine Own.yes (i := 42) (d := (some 151)) (v := ?_) rfl rfl (by kernel_rfl) (by kernel_rfl) (by kernel_rfl) (fun _ _ _ h => h) rfl ?_ hHeld ?_
            rotate_left
            · (intro w hSw; (try dsimp only at hSw); go_simp; try with_reducible rfl)
            simp only [Act.put, List.setIfInBounds_toArray, List.set_cons_zero, List.set_cons_succ]
            refine Own.yes (i := 43) (d := (some 152)) (v := ?_) rfl rfl (by kernel_rfl) (by kernel_rfl) (by kernel_rfl) (fun _ _ _ h => h) rfl ?_ hHeld ?_
            rotate_left
            · (intro w hSw; (try dsimp only at hSw); go_simp; try with_reducible rfl)
            simp only [Act.put, List.setIfInBounds_toArray, List.set_cons_zero, List.set_cons_succ]
            refine Own.yes (i := 45) (d := (some 154)) (v := ?_) rfl rfl (by kernel_rfl) (by kernel_rfl) (by kernel_rfl) (fun _ _ _ h => h) rfl ?_ hHeld ?_
            rotate_left
            · (intro w hSw; (try dsimp only at hSw); go_simp; try with_reducible rfl)
            simp only [Act.put, List.setIfInBounds_toArray, List.set_cons_zero, List.set_cons_succ]
            refine Own.yes (i := 46) (d := (some 155)) (v := ?_) rfl rfl (by kernel_rfl) (by kernel_rfl) (by kernel_rfl) (fun _ _ _ h => h) rfl ?_ hHeld ?_
            rotate_left
            · (intro w hSw; (try dsimp only at hSw); go_simp; try with_reducible rfl)
            simp only [Act.put, List.setIfInBounds_toArray, List.set_cons_zero, List.set_cons_succ]
            refine Own.yes (i := 47) (d := (some 156)) (v := ?_) rfl rfl (by kernel_rfl) (by kernel_rfl) (by kernel_rfl) (fun _ _ _ h => h) rfl ?_ hHeld ?_
            rotate_left
            · (intro w hSw; (try dsimp only at hSw); go_simp; try with_reducible rfl)
            simp only [Act.put, List.setIfInBounds_toArray, List.set_cons_zero, List.set_cons_succ]
            refine Own.call (i := 44) (d := (some 153)) rfl rfl (by kernel_rfl) rfl ?_ (tmd_has Q4.out.t.t gg HE.out.2.2.2) ?_
            · go_simp
            rintro e w7 ⟨rfl, hb⟩
            (have Q5 := Lib.hid (Q4.out.next (grown_below' hb)); clear hb hS hHeld; have hS : (w7.cell? ⟨B, 0, none⟩ = some (.int .i64 n) ∧ w7.cell? ⟨B, 1, none⟩ = some (.slice a1 m1 c1) ∧ w7.cell? ⟨B, 2, none⟩ = some (.int .u64 order) ∧ w7.cell? ⟨A, 2, none⟩ = some (.int .i64 gg)) := ⟨Q5.out.t.c0, Q5.out.t.c1, Q5.out.t.c2, Q5.out.a2⟩)
            refine ⟨_, rfl, hS, fun hHeld => ?_⟩
            simp only [Act.put, List.setIfInBounds_toArray, List.set_cons_zero, List.set_cons_succ]
            refine Own.call (i := 48) (d := (some 157)) rfl rfl (by kernel_rfl) rfl ?_ (rthas_is Q5.out.t.dv (by have := H.out.2.2.1; omega) n order gg HE.out.2.2.2) ?_
            · go_simp
            rintro e w8 ⟨rfl, hb⟩
            (have Q6 := Lib.hid (Q5.out.next hb); clear hb hS hHeld; have hS : (w8.cell? ⟨B, 0, none⟩ = some (.int .i64 n) ∧ w8.cell? ⟨B, 1, none⟩ = some (.slice a1 m1 c1) ∧ w8.cell? ⟨B, 2, none⟩ = some (.int .u64 order) ∧ w8.cell? ⟨A, 2, none⟩ = some (.int .i64 gg)) := ⟨Q6.out.t.c0, Q6.out.t.c1, Q6.out.t.c2, Q6.out.a2⟩)
            refine ⟨_, rfl, hS, fun hHeld => ?_⟩
            simp only [Act.put, List.setIfInBounds_toArray, List.set_cons_zero, List.set_cons_succ]
            refine Own.yes (i := 49) (d := (some 158)) (v := ?_) rfl rfl (by kernel_rfl) (by kernel_rfl) (by kernel_rfl) (fun _ _ _ h => h) rfl ?_ hHeld ?_
            rotate_left
            · (intro w hSw; (try dsimp only at hSw); go_simp; try with_reducible rfl)
            simp only [Act.put, List.setIfInBounds_toArray, List.set_cons_zero, List.set_cons_succ]
            refine Own.yes (i := 50) (d := (some 159)) (v := ?_) rfl rfl (by kernel_rfl) (by kernel_rfl) (by kernel_rfl) (fun _ _ _ h => h) rfl ?_ hHeld ?_
            rotate_left
            · (intro w hSw; (try dsimp only at hSw); go_simp; try with_reducible rfl)
            simp only [Act.put, List.setIfInBounds_toArray, List.set_cons_zero, List.set_cons_succ]
            refine wpAnyH_done (by kernel_rfl) ?_ _
            clear hS hHeld
            go_wp2_with fail
            have Q7 := Lib.hid (Q6.out.next (below_drew (w := w8)))
            have hS : (w8.drew.cell? ⟨A, 3, none⟩ = some (.int .i64 d) ∧ True) := ⟨Q7.out.a3, trivial⟩
            refine wp_region_held_drew (S := fun w' => w'.cell? ⟨A, 3, none⟩ = some (.int .i64 d) ∧ True) (by kernel_rfl) hS (fun hHeld => ?_)
            refine Own.yes (i := 0) (d := (some 160)) (v := ?_) rfl rfl (by kernel_rfl) (by kernel_rfl) (by kernel_rfl) (fun _ _ _ h => h) rfl ?_ hHeld ?_
            rotate_left
            · (intro w hSw; (try dsimp only at hSw); go_simp; try with_reducible rfl)
            simp only [Act.put, List.setIfInBounds_toArray, List.set_cons_zero, List.set_cons_succ]
            refine Own.yes (i := 1) (d := (some 161)) (v := ?_) rfl rfl (by kernel_rfl) (by kernel_rfl) (by kernel_rfl) (fun _ _ _ h => h) rfl ?_ hHeld ?_
            rotate_left
            · (intro w hSw; (try dsimp only at hSw); go_simp; try with_reducible rfl)
            simp only [Act.put, List.setIfInBounds_toArray, List.set_cons_zero, List.set_cons_succ]
            refine Own.yes (i := 2) (d := (some 162)) (v := ?_) rfl rfl (by kernel_rfl) (by kernel_rfl) (by kernel_rfl) (fun _ _ _ h => h) rfl ?_ hHeld ?_
            rotate_left
            · (intro w hSw; (try dsimp only at hSw); go_simp; try with_reducible rfl)
            simp only [Act.put, List.setIfInBounds_toArray, List.set_cons_zero, List.set_cons_succ]
            refine Own.yes (i := 4) (d := (some 164)) (v := ?_) rfl rfl (by kernel_rfl) (by kernel_rfl) (by kernel_rfl) (fun _ _ _ h => h) rfl ?_ hHeld ?_
            rotate_left
            · (intro w hSw; (try dsimp only at hSw); go_simp; try with_reducible rfl)
            simp only [Act.put, List.setIfInBounds_toArray, List.set_cons_zero, List.set_cons_succ]
            refine Own.yes (i := 5) (d := (some 165)) (v := ?_) rfl rfl (by kernel_rfl) (by kernel_rfl) (by kernel_rfl) (fun _ _ _ h => h) rfl ?_ hHeld ?_
            rotate_left
            · (intro w hSw; (try dsimp only at hSw); go_simp; try with_reducible rfl)
            simp only [Act.put, List.setIfInBounds_toArray, List.set_cons_zero, List.set_cons_succ]
            refine Own.yes (i := 6) (d := (some 166)) (v := ?_) rfl rfl (by kernel_rfl) (by kernel_rfl) (by kernel_rfl) (fun _ _ _ h => h) rfl ?_ hHeld ?_
            rotate_left
            · (intro w hSw; (try dsimp only at hSw); go_simp; try with_reducible rfl)
            simp only [Act.put, List.setIfInBounds_toArray, List.set_cons_zero, List.set_cons_succ]
            refine Own.call (i := 3) (d := (some 163)) rfl rfl (by kernel_rfl) rfl ?_ (tmd_due Q7.out.t.t d (r := false) (by rw [HE.out.1])) ?_
            · go_simp
            rintro e w9 ⟨rfl, hb⟩
            (have Q8 := Lib.hid (Q7.out.next (grown_below' hb)); clear hb hS hHeld; have hS : (w9.cell? ⟨A, 3, none⟩ = some (.int .i64 d) ∧ True) := ⟨Q8.out.a3, trivial⟩)
            refine ⟨_, rfl, hS, fun hHeld => ?_⟩
            simp only [Act.put, List.setIfInBounds_toArray, List.set_cons_zero, List.set_cons_succ]
            refine Own.yes (i := 7) (d := (some 167)) (v := ?_) rfl rfl (by kernel_rfl) (by kernel_rfl) (by kernel_rfl) (fun _ _ _ h => h) rfl ?_ hHeld ?_
            rotate_left
            · (intro w hSw; (try dsimp only at hSw); go_simp; try with_reducible rfl)
            simp only [Act.put, List.setIfInBounds_toArray, List.set_cons_zero, List.set_cons_succ]
            refine Own.no (i := 8) (d := (some 168)) rfl rfl (by kernel_rfl) (by kernel_rfl) (by kernel_rfl) (fun _ _ _ h => h) rfl hHeld ?_
            simp only [Act.put, List.setIfInBounds_toArray, List.set_cons_zero, List.set_cons_succ]
            refine Own.no (i := 9) (d := (some 169)) rfl rfl (by kernel_rfl) (by kernel_rfl) (by kernel_rfl) (fun _ _ _ h => h) rfl hHeld ?_
            simp only [Act.put, List.setIfInBounds_toArray, List.set_cons_zero, List.set_cons_succ]
            refine Own.no (i := 10) (d := (some 170)) rfl rfl (by kernel_rfl) (by kernel_rfl) (by kernel_rfl) (fun _ _ _ h => h) rfl hHeld ?_
            simp only [Act.put, List.setIfInBounds_toArray, List.set_cons_zero, List.set_cons_succ]
            refine Own.no (i := 11) (d := (some 171)) rfl rfl (by kernel_rfl) (by kernel_rfl) (by kernel_rfl) (fun _ _ _ h => h) rfl hHeld ?_
            simp only [Act.put, List.setIfInBounds_toArray, List.set_cons_zero, List.set_cons_succ]
            refine Own.no (i := 12) (d := (some 172)) rfl rfl (by kernel_rfl) (by kernel_rfl) (by kernel_rfl) (fun _ _ _ h => h) rfl hHeld ?_
            simp only [Act.put, List.setIfInBounds_toArray, List.set_cons_zero, List.set_cons_succ]
            refine Own.no (i := 13) (d := (some 173)) rfl rfl (by kernel_rfl) (by kernel_rfl) (by kernel_rfl) (fun _ _ _ h => h) rfl hHeld ?_
            simp only [Act.put, List.setIfInBounds_toArray, List.set_cons_zero, List.set_cons_succ]
            refine Own.no (i := 14) (d := (some 174)) rfl rfl (by kernel_rfl) (by kernel_rfl) (by kernel_rfl) (fun _ _ _ h => h) rfl hHeld ?_
            simp only [Act.put, List.setIfInBounds_toArray, List.set_cons_zero, List.set_cons_succ]
            refine Own.yes (i := 15) (d := (some 175)) (v := ?_) rfl rfl (by kernel_rfl) (by kernel_rfl) (by kernel_rfl) (fun _ _ _ h => h) rfl ?_ hHeld ?_
            rotate_left
            · (intro w hSw; (try dsimp only at hSw); go_simp; try with_reducible rfl)
            simp only [Act.put, List.setIfInBounds_toArray, List.set_cons_zero, List.set_cons_succ]
            refine Own.yes (i := 16) (d := (some 176)) (v := ?_) rfl rfl (by kernel_rfl) (by kernel_rfl) (by kernel_rfl) (fun _ _ _ h => h) rfl ?_ hHeld ?_
            rotate_left
            · (intro w hSw; (try dsimp only at hSw); go_simp; try with_reducible rfl)
            simp only [Act.put, List.setIfInBounds_toArray, List.set_cons_zero, List.set_cons_succ]
            refine wpAnyH_done (by kernel_rfl) ?_ _
            clear hS hHeld
            go_wp2_with fail
            have J := Lib.hid Q8.out.t
            clear Q1 Q2 Q3 Q4 Q5 Q6 Q7 Q8
            go_loopw [177] (fun q wx => ∃ j : Nat, j ≤ 66 ∧ q = .int .i64 j ∧ Td w wx tb n B D order D order (.slice a1 m1 c1) F) (fun q _ => 66 - (intOf q).toNat)
            case atStart => exact ⟨0, by omega, rfl, J.out⟩
            case round =>
              clear J
              obtain ⟨j, hj, rfl, hP⟩ := hrel
              have K := Lib.hid hP
              clear hP
              by_cases hj2 : j < 66
              · have hjl : (j : Int) < 66 := by omega
                have d0 := K.out.c0
                have d1 := K.out.c1
                have d2 := K.out.c2
                obtain ⟨L2, hL2⟩ : ∃ L, srt (sel (j : Int) D) = L := ⟨_, rfl⟩
                obtain ⟨l2, hl2⟩ : ∃ l, L2.length = l := ⟨_, rfl⟩
                have HL := Lib.hid (And.intro hL2 (And.intro hl2 (show L2.length ≤ 1000 by rw [← hL2, srt_len]; unfold sel; rw [List.length_map]; have := List.length_filter_le (fun x : Tim => decide (x.p = (j : Int)) || decide ((j : Int) < 0)) D; have := H.out.2.2.1; omega)))
                clear hL2 hl2
                go_wp2_with fail
                refine (rof_is K.out.dv (by have := H.out.2.2.1; omega) n order (j : Int) HL.out.1 HL.out.2.1).mono ?_
                rintro e w10 ⟨b2, c2, rfl, hs, hb⟩
                have K2 := Lib.hid (And.intro (K.out.next hb) hs)
                clear hs hb d0 d1 d2
                go_wp2_with fail
                refine (tmd_of K2.out.1.t (by have := H.out.2.2.1; omega) j HL.out.1 HL.out.2.1).mono ?_
                rintro e w11 ⟨a3, c3, rfl, hs3, hb⟩
                have K3 := Lib.hid (And.intro (K2.out.1.next (grown_below' hb)) (And.intro hs3 (K2.out.2.below (grown_below' hb))))
                clear hs3 hb
                go_wp2_with fail
                refine (same_t K3.out.2.1 K3.out.2.2 HL.out.2.2).mono ?_
                rintro e w12 ⟨rfl, n2, rfl⟩
                have K4 := Lib.hid (K3.out.1.next (drewN_below (n := n2)))
                go_wp2_with fail
                go_roundw
                case rel => exact ⟨j + 1, by omega, by go_num, K4.out⟩
                case measure => simp [intOf]; omega
              · obtain rfl : j = 66 := by omega
                go_wp2_with fail
                go_roundw
                case rel => exact ⟨i + 1, D, order, a1, m1, c1, F, by omega, by go_num, K.out, H.out.2.2.1, H.out.2.2.2⟩
                case measure => simp [intOf]; omega
        · as_aux_lemma =>
            obtain ⟨r1, hr1⟩ : ∃ r, anyG D g0 = r := ⟨_, rfl⟩
            obtain ⟨r2, hr2⟩ : ∃ r, anyG D gg = r := ⟨_, rfl⟩
            obtain ⟨q, hq⟩ : ∃ q, t.length = q := ⟨_, rfl⟩
            have hm : ((⟨xw, xo, xg⟩ :: t) : List Ent).length = q + 1 := by rw [List.length_cons, hq]
            have hqp : (0 : Int) < (q : Int) + 1 := by omega
            have HE := Lib.hid (And.intro hL (And.intro (show (D.length : Int) = ((q : Int) + 1) by have : D.length = (q + 1) := (by rw [← hm, ← hL, srt_len, sel_all, List.length_map]); rw [this]; simp) (And.intro hr1 hr2)))
            have HM := Lib.hid hm
            clear hL hr1 hr2 hm
            have d0 := H.out.1.c0
            have d1 := H.out.1.c1
            have d2 := H.out.1.c2
            go_wp2_with fail
            refine (rof_is H.out.1.dv (by have := H.out.2.2.1; omega) n order (-1) HE.out.1 HM.out).mono ?_
            rintro e w2 ⟨b, c, rfl, hs, hb⟩
            obtain ⟨ad, rfl, hfc, hadl, _⟩ := first_cell hs
            have hcq : q + 1 ≤ c := by
              obtain ⟨_, _, e, h5, _⟩ := hs
              obtain ⟨_, _, rfl⟩ := Value.slice.inj e
              rw [HM.out] at h5; exact h5
            have Q1 := Lib.hid (show Tz w w2 tb n B A D order (.slice a1 m1 c1) F y p gg d (some (ad, xw)) from ⟨H.out.1.next hb, act_next H.out.2.1 hb, (fun ad2 x2 e => by cases e; exact ⟨hfc, hadl⟩)⟩)
            clear hs hb d0 d1 d2 hfc hadl
            go_wp2_with fail
            refine (tmd_next_yes Q1.out.t.t HE.out.1).mono ?_
            rintro e w4 ⟨rfl, hb⟩
            have Q2 := Lib.hid ((Q1.out.next (grown_below' hb)).next (below_drew (w := w4)))
            clear hb
            go_wp2_with fail
            have hS : (w4.drew.cell? ⟨B, 0, none⟩ = some (.int .i64 n) ∧ w4.drew.cell? ⟨B, 1, none⟩ = some (.slice a1 m1 c1) ∧ w4.drew.cell? ⟨B, 2, none⟩ = some (.int .u64 order) ∧ w4.drew.cell? ⟨A, 2, none⟩ = some (.int .i64 gg) ∧ w4.drew.cell? ad = some (.int .i64 xw)) := ⟨Q2.out.t.c0, Q2.out.t.c1, Q2.out.t.c2, Q2.out.a2, (Q2.out.first ad xw rfl).1⟩
            refine wp_region_held_drew (S := fun w' => w'.cell? ⟨B, 0, none⟩ = some (.int .i64 n) ∧ w'.cell? ⟨B, 1, none⟩ = some (.slice a1 m1 c1) ∧ w'.cell? ⟨B, 2, none⟩ = some (.int .u64 order) ∧ w'.cell? ⟨A, 2, none⟩ = some (.int .i64 gg) ∧ w'.cell? ad = some (.int .i64 xw)) (by kernel_rfl) hS (fun hHeld => ?_)
            refine Own.yes (i := 0) (d := (some 109)) (v := ?_) rfl rfl (by kernel_rfl) (by kernel_rfl) (by kernel_rfl) (fun _ _ _ h => h) rfl ?_ hHeld ?_
            rotate_left
            · (intro w hSw; (try dsimp only at hSw); go_simp; try with_reducible rfl)
            simp only [Act.put, List.setIfInBounds_toArray, List.set_cons_zero, List.set_cons_succ]
            refine Own.yes (i := 2) (d := (some 111)) (v := ?_) rfl rfl (by kernel_rfl) (by kernel_rfl) (by kernel_rfl) (fun _ _ _ h => h) rfl ?_ hHeld ?_
            rotate_left
            · (intro w hSw; (try dsimp only at hSw); go_simp; try with_reducible rfl)
            simp only [Act.put, List.setIfInBounds_toArray, List.set_cons_zero, List.set_cons_succ]
            refine Own.yes (i := 3) (d := (some 112)) (v := ?_) rfl rfl (by kernel_rfl) (by kernel_rfl) (by kernel_rfl) (fun _ _ _ h => h) rfl ?_ hHeld ?_
            rotate_left
            · (intro w hSw; (try dsimp only at hSw); go_simp; try with_reducible rfl)
            simp only [Act.put, List.setIfInBounds_toArray, List.set_cons_zero, List.set_cons_succ]
            refine Own.call (i := 1) (d := (some 110)) rfl rfl (by kernel_rfl) rfl ?_ (tmd_len Q2.out.t.t HE.out.2.1) ?_
            · go_simp
            rintro e w5 ⟨rfl, rfl⟩
            have hS : (w4.drew.cell? ⟨B, 0, none⟩ = some (.int .i64 n) ∧ w4.drew.cell? ⟨B, 1, none⟩ = some (.slice a1 m1 c1) ∧ w4.drew.cell? ⟨B, 2, none⟩ = some (.int .u64 order) ∧ w4.drew.cell? ⟨A, 2, none⟩ = some (.int .i64 gg) ∧ w4.drew.cell? ad = some (.int .i64 xw)) := ⟨Q2.out.t.c0, Q2.out.t.c1, Q2.out.t.c2, Q2.out.a2, (Q2.out.first ad xw rfl).1⟩
            refine ⟨_, rfl, hS, fun hHeld => ?_⟩
            simp only [Act.put, List.setIfInBounds_toArray, List.set_cons_zero, List.set_cons_succ]
            refine Own.yes (i := 4) (d := (some 113)) (v := ?_) rfl rfl (by kernel_rfl) (by kernel_rfl) (by kernel_rfl) (fun _ _ _ h => h) rfl ?_ hHeld ?_
            rotate_left
            · (intro w hSw; (try dsimp only at hSw); go_simp; try with_reducible rfl)
            simp only [Act.put, List.setIfInBounds_toArray, List.set_cons_zero, List.set_cons_succ]
            refine Own.yes (i := 5) (d := (some 114)) (v := ?_) rfl rfl (by kernel_rfl) (by kernel_rfl) (by kernel_rfl) (fun _ _ _ h => h) rfl ?_ hHeld ?_
            rotate_left
            · (intro w hSw; (try dsimp only at hSw); go_simp; try with_reducible rfl)
            simp only [Act.put, List.setIfInBounds_toArray, List.set_cons_zero, List.set_cons_succ]
            refine Own.yes (i := 6) (d := (some 115)) (v := ?_) rfl rfl (by kernel_rfl) (by kernel_rfl) (by kernel_rfl) (fun _ _ _ h => h) rfl ?_ hHeld ?_
            rotate_left
            · (intro w hSw; (try dsimp only at hSw); go_simp; try with_reducible rfl)
            simp only [Act.put, List.setIfInBounds_toArray, List.set_cons_zero, List.set_cons_succ]
            refine Own.yes (i := 7) (d := (some 116)) (v := ?_) rfl rfl (by kernel_rfl) (by kernel_rfl) (by kernel_rfl) (fun _ _ _ h => h) rfl ?_ hHeld ?_
            rotate_left
            · (intro w hSw; (try dsimp only at hSw); go_simp; try with_reducible rfl)
            simp only [Act.put, List.setIfInBounds_toArray, List.set_cons_zero, List.set_cons_succ]
            refine Own.yes (i := 8) (d := (some 117)) (v := ?_) rfl rfl (by kernel_rfl) (by kernel_rfl) (by kernel_rfl) (fun _ _ _ h => h) rfl ?_ hHeld ?_
            rotate_left
            · (intro w hSw; (try dsimp only at hSw); go_simp; try with_reducible rfl)
            simp only [Act.put, List.setIfInBounds_toArray, List.set_cons_zero, List.set_cons_succ]
            refine Own.yes (i := 9) (d := (some 118)) (v := ?_) rfl rfl (by kernel_rfl) (by kernel_rfl) (by kernel_rfl) (fun _ _ _ h => h) rfl ?_ hHeld ?_
            rotate_left
            · (intro w hSw; (try dsimp only at hSw); go_simp; try with_reducible rfl)
            simp only [Act.put, List.setIfInBounds_toArray, List.set_cons_zero, List.set_cons_succ]
            refine Own.yes (i := 10) (d := (some 119)) (v := ?_) rfl rfl (by kernel_rfl) (by kernel_rfl) (by kernel_rfl) (fun _ _ _ h => h) rfl ?_ hHeld ?_
            rotate_left
            · (intro w hSw; (try dsimp only at hSw); go_simp; try with_reducible rfl)
            simp only [Act.put, List.setIfInBounds_toArray, List.set_cons_zero, List.set_cons_succ]
            refine Own.yes (i := 11) (d := (some 120)) (v := ?_) rfl rfl (by kernel_rfl) (by kernel_rfl) (by kernel_rfl) (fun _ _ _ h => h) rfl ?_ hHeld ?_
            rotate_left
            · (intro w hSw; (try dsimp only at hSw); go_simp; try with_reducible rfl)
            simp only [Act.put, List.setIfInBounds_toArray, List.set_cons_zero, List.set_cons_succ]
            refine Own.yes (i := 12) (d := (some 121)) (v := ?_) rfl rfl (by kernel_rfl) (by kernel_rfl) (by kernel_rfl) (fun _ _ _ h => h) rfl ?_ hHeld ?_
            rotate_left
            · (intro w hSw; (try dsimp only at hSw); go_simp; try with_reducible rfl)
            simp only [Act.put, List.setIfInBounds_toArray, List.set_cons_zero, List.set_cons_succ]
            refine Own.yes (i := 13) (d := (some 122)) (v := ?_) rfl rfl (by kernel_rfl) (by kernel_rfl) (by kernel_rfl) (fun _ _ _ h => h) rfl ?_ hHeld ?_
            rotate_left
            · (intro w hSw; (try dsimp only at hSw); go_simp; try with_reducible rfl)
            simp only [Act.put, List.setIfInBounds_toArray, List.set_cons_zero, List.set_cons_succ]
            refine Own.yes (i := 14) (d := (some 123)) (v := ?_) rfl rfl (by kernel_rfl) (by kernel_rfl) (by kernel_rfl) (fun _ _ _ h => h) rfl ?_ hHeld ?_
            rotate_left
            · (intro w hSw; (try dsimp only at hSw); go_simp; try with_reducible rfl)
            simp only [Act.put, List.setIfInBounds_toArray, List.set_cons_zero, List.set_cons_succ]
            refine Own.yes (i := 15) (d := (some 124)) (v := ?_) rfl rfl (by kernel_rfl) (by kernel_rfl) (by kernel_rfl) (fun _ _ _ h => h) rfl ?_ hHeld ?_
            rotate_left
            · (intro w hSw; (try dsimp only at hSw); go_simp; try with_reducible rfl)
            simp only [Act.put, List.setIfInBounds_toArray, List.set_cons_zero, List.set_cons_succ]
            refine Own.yes (i := 16) (d := (some 125)) (v := ?_) rfl rfl (by kernel_rfl) (by kernel_rfl) (by kernel_rfl) (fun _ _ _ h => h) rfl ?_ hHeld ?_
            rotate_left
            · (intro w hSw; (try dsimp only at hSw); go_simp; try with_reducible rfl)
            simp only [Act.put, List.setIfInBounds_toArray, List.set_cons_zero, List.set_cons_succ]
            refine Own.yes (i := 17) (d := (some 126)) (v := ?_) rfl rfl (by kernel_rfl) (by kernel_rfl) (by kernel_rfl) (fun _ _ _ h => h) rfl ?_ hHeld ?_
            rotate_left
            · (intro w hSw; (try dsimp only at hSw); go_simp; try with_reducible rfl)
            simp only [Act.put, List.setIfInBounds_toArray, List.set_cons_zero, List.set_cons_succ]
            refine Own.yes (i := 18) (d := (some 127)) (v := ?_) rfl rfl (by kernel_rfl) (by kernel_rfl) (by kernel_rfl) (fun _ _ _ h => h) rfl ?_ hHeld ?_
            rotate_left
            · (intro w hSw; (try dsimp only at hSw); go_simp; try with_reducible rfl)
            simp only [Act.put, List.setIfInBounds_toArray, List.set_cons_zero, List.set_cons_succ]
            refine Own.yes (i := 19) (d := (some 128)) (v := ?_) rfl rfl (by kernel_rfl) (by kernel_rfl) (by kernel_rfl) (fun _ _ _ h => h) rfl ?_ hHeld ?_
            rotate_left
            · (intro w hSw; (try dsimp only at hSw); go_simp; try with_reducible rfl)
            simp only [Act.put, List.setIfInBounds_toArray, List.set_cons_zero, List.set_cons_succ]
            refine Own.yes (i := 20) (d := (some 129)) (v := ?_) rfl rfl (by kernel_rfl) (by kernel_rfl) (by kernel_rfl) (fun _ _ _ h => h) rfl ?_ hHeld ?_
            rotate_left
            · (intro w hSw; (try dsimp only at hSw); go_simp; try with_reducible rfl)
            simp only [Act.put, List.setIfInBounds_toArray, List.set_cons_zero, List.set_cons_succ]
            refine Own.yes (i := 21) (d := (some 130)) (v := ?_) rfl rfl (by kernel_rfl) (by kernel_rfl) (by kernel_rfl) (fun _ _ _ h => h) rfl ?_ hHeld ?_
            rotate_left
            · (intro w hSw; (try dsimp only at hSw); go_simp; try with_reducible rfl)
            simp only [Act.put, List.setIfInBounds_toArray, List.set_cons_zero, List.set_cons_succ]
            refine Own.yes (i := 22) (d := (some 131)) (v := ?_) rfl rfl (by kernel_rfl) (by kernel_rfl) (by kernel_rfl) (fun _ _ _ h => h) rfl ?_ hHeld ?_
            rotate_left
            · (intro w hSw; (try dsimp only at hSw); go_simp; try with_reducible rfl)
            simp only [Act.put, List.setIfInBounds_toArray, List.set_cons_zero, List.set_cons_succ]
            refine Own.yes (i := 23) (d := (some 132)) (v := ?_) rfl rfl (by kernel_rfl) (by kernel_rfl) (by kernel_rfl) (fun _ _ _ h => h) rfl ?_ hHeld ?_
            rotate_left
            · (intro w hSw; (try dsimp only at hSw); go_simp; try with_reducible rfl)
            simp only [Act.put, List.setIfInBounds_toArray, List.set_cons_zero, List.set_cons_succ]
            refine Own.yes (i := 24) (d := (some 133)) (v := ?_) rfl rfl (by kernel_rfl) (by kernel_rfl) (by kernel_rfl) (fun _ _ _ h => h) rfl ?_ hHeld ?_
            rotate_left
            · (intro w hSw; (try dsimp only at hSw); go_simp; try with_reducible rfl)
            simp only [Act.put, List.setIfInBounds_toArray, List.set_cons_zero, List.set_cons_succ]
            refine Own.yes (i := 25) (d := (some 134)) (v := ?_) rfl rfl (by kernel_rfl) (by kernel_rfl) (by kernel_rfl) (fun _ _ _ h => h) rfl ?_ hHeld ?_
            rotate_left
            · (intro w hSw; (try dsimp only at hSw); go_simp; try with_reducible rfl)
            simp only [Act.put, List.setIfInBounds_toArray, List.set_cons_zero, List.set_cons_succ]
            refine Own.yes (i := 26) (d := (some 135)) (v := ?_) rfl rfl (by kernel_rfl) (by kernel_rfl) (by kernel_rfl) (fun _ _ _ h => h) rfl ?_ hHeld ?_
            rotate_left
            · (intro w hSw; (try dsimp only at hSw); go_simp; try with_reducible rfl)
            simp only [Act.put, List.setIfInBounds_toArray, List.set_cons_zero, List.set_cons_succ]
            refine Own.no (i := 27) (d := (some 136)) rfl rfl (by kernel_rfl) (by kernel_rfl) (by kernel_rfl) (fun _ _ _ h => h) rfl hHeld ?_
            simp only [Act.put, List.setIfInBounds_toArray, List.set_cons_zero, List.set_cons_succ]
            refine Own.no (i := 28) (d := (some 137)) rfl rfl (by kernel_rfl) (by kernel_rfl) (by kernel_rfl) (fun _ _ _ h => h) rfl hHeld ?_
            simp only [Act.put, List.setIfInBounds_toArray, List.set_cons_zero, List.set_cons_succ]
            refine Own.yes (i := 29) (d := (some 138)) (v := ?_) rfl rfl (by kernel_rfl) (by kernel_rfl) (by kernel_rfl) (fun _ _ _ h => h) rfl ?_ hHeld ?_
            rotate_left
            · (intro w hSw; (try dsimp only at hSw); go_simp; try with_reducible rfl)
            simp only [Act.put, List.setIfInBounds_toArray, List.set_cons_zero, List.set_cons_succ]
            refine Own.yes (i := 30) (d := (some 139)) (v := ?_) rfl rfl (by kernel_rfl) (by kernel_rfl) (by kernel_rfl) (fun _ _ _ h => h) rfl ?_ hHeld ?_
            rotate_left
            · (intro w hSw; (try dsimp only at hSw); go_simp; try with_reducible rfl)
            simp only [Act.put, List.setIfInBounds_toArray, List.set_cons_zero, List.set_cons_succ]
            refine Own.yes (i := 31) (d := (some 140)) (v := ?_) rfl rfl (by kernel_rfl) (by kernel_rfl) (by kernel_rfl) (fun _ _ _ h => h) rfl ?_ hHeld ?_
            rotate_left
            · (intro w hSw; (try dsimp only at hSw); go_simp; try with_reducible rfl)
            simp only [Act.put, List.setIfInBounds_toArray, List.set_cons_zero, List.set_cons_succ]
            refine Own.yes (i := 32) (d := (some 141)) (v := ?_) rfl rfl (by kernel_rfl) (by kernel_rfl) (by kernel_rfl) (fun _ _ _ h => h) rfl ?_ hHeld ?_
            rotate_left
            · (intro w hSw; (try dsimp only at hSw); go_simp; try with_reducible rfl)
            simp only [Act.put, List.setIfInBounds_toArray, List.set_cons_zero, List.set_cons_succ]
            refine Own.yes (i := 33) (d := (some 142)) (v := ?_) rfl rfl (by kernel_rfl) (by kernel_rfl) (by kernel_rfl) (fun _ _ _ h => h) rfl ?_ hHeld ?_
            rotate_left
            · (intro w hSw; (try dsimp only at hSw); go_simp; try with_reducible rfl)
            simp only [Act.put, List.setIfInBounds_toArray, List.set_cons_zero, List.set_cons_succ]
            refine Own.yes (i := 35) (d := (some 144)) (v := ?_) rfl rfl (by kernel_rfl) (by kernel_rfl) (by kernel_rfl) (fun _ _ _ h => h) rfl ?_ hHeld ?_
            rotate_left
            · (intro w hSw; (try dsimp only at hSw); go_simp; try with_reducible rfl)
            simp only [Act.put, List.setIfInBounds_toArray, List.set_cons_zero, List.set_cons_succ]
            refine Own.yes (i := 36) (d := (some 145)) (v := ?_) rfl rfl (by kernel_rfl) (by kernel_rfl) (by kernel_rfl) (fun _ _ _ h => h) rfl ?_ hHeld ?_
            rotate_left
            · (intro w hSw; (try dsimp only at hSw); go_simp; try with_reducible rfl)
            simp only [Act.put, List.setIfInBounds_toArray, List.set_cons_zero, List.set_cons_succ]
            refine Own.call (i := 34) (d := (some 143)) rfl rfl (by kernel_rfl) rfl ?_ (tmd_has Q2.out.t.t g0 HE.out.2.2.1) ?_
            · go_simp
            rintro e w5 ⟨rfl, hb⟩
            (have Q3 := Lib.hid (Q2.out.next (grown_below' hb)); clear hb hS hHeld; have hS : (w5.cell? ⟨B, 0, none⟩ = some (.int .i64 n) ∧ w5.cell? ⟨B, 1, none⟩ = some (.slice a1 m1 c1) ∧ w5.cell? ⟨B, 2, none⟩ = some (.int .u64 order) ∧ w5.cell? ⟨A, 2, none⟩ = some (.int .i64 gg) ∧ w5.cell? ad = some (.int .i64 xw)) := ⟨Q3.out.t.c0, Q3.out.t.c1, Q3.out.t.c2, Q3.out.a2, (Q3.out.first ad xw rfl).1⟩)
            refine ⟨_, rfl, hS, fun hHeld => ?_⟩
            simp only [Act.put, List.setIfInBounds_toArray, List.set_cons_zero, List.set_cons_succ]
            refine Own.call (i := 37) (d := (some 146)) rfl rfl (by kernel_rfl) rfl ?_ (rthas_is Q3.out.t.dv (by have := H.out.2.2.1; omega) n order g0 HE.out.2.2.1) ?_
            · go_simp
            rintro e w6 ⟨rfl, hb⟩
            (have Q4 := Lib.hid (Q3.out.next hb); clear hb hS hHeld; have hS : (w6.cell? ⟨B, 0, none⟩ = some (.int .i64 n) ∧ w6.cell? ⟨B, 1, none⟩ = some (.slice a1 m1 c1) ∧ w6.cell? ⟨B, 2, none⟩ = some (.int .u64 order) ∧ w6.cell? ⟨A, 2, none⟩ = some (.int .i64 gg) ∧ w6.cell? ad = some (.int .i64 xw)) := ⟨Q4.out.t.c0, Q4.out.t.c1, Q4.out.t.c2, Q4.out.a2, (Q4.out.first ad xw rfl).1⟩)
            refine ⟨_, rfl, hS, fun hHeld => ?_⟩
            simp only [Act.put, List.setIfInBounds_toArray, List.set_cons_zero, List.set_cons_succ]
            refine Own.yes (i := 38) (d := (some 147)) (v := ?_) rfl rfl (by kernel_rfl) (by kernel_rfl) (by kernel_rfl) (fun _ _ _ h => h) rfl ?_ hHeld ?_
            rotate_left
            · (intro w hSw; (try dsimp only at hSw); go_simp; try with_reducible rfl)
            simp only [Act.put, List.setIfInBounds_toArray, List.set_cons_zero, List.set_cons_succ]
            refine Own.yes (i := 39) (d := (some 148)) (v := ?_) rfl rfl (by kernel_rfl) (by kernel_rfl) (by kernel_rfl) (fun _ _ _ h => h) rfl ?_ hHeld ?_
            rotate_left
            · (intro w hSw; (try dsimp only at hSw); go_simp; try with_reducible rfl)
            simp only [Act.put, List.setIfInBounds_toArray, List.set_cons_zero, List.set_cons_succ]
            refine Own.yes (i := 40) (d := (some 149)) (v := ?_) rfl rfl (by kernel_rfl) (by kernel_rfl) (by kernel_rfl) (fun _ _ _ h => h) rfl ?_ hHeld ?_
            rotate_left
            · (intro w hSw; (try dsimp only at hSw); go_simp; try with_reducible rfl)
            simp only [Act.put, List.setIfInBounds_toArray, List.set_cons_zero, List.set_cons_succ]
            refine Own.yes (i := 41) (d := (some 150)) (v := ?_) rfl rfl (by kernel_rfl) (by kernel_rfl) (by kernel_rfl) (fun _ _ _ h => h) rfl ?_ hHeld ?_
            rotate_left
            · (intro w hSw; (try dsimp only at hSw); go_simp; try with_reducible rfl)
            simp only [Act.put, List.setIfInBounds_toArray, List.set_cons_zero, List.set_cons_succ]
            refine Own.yes (i := 42) (d := (some 151)) (v := ?_) rfl rfl (by kernel_rfl) (by kernel_rfl) (by kernel_rfl) (fun _ _ _ h => h) rfl ?_ hHeld ?_
            rotate_left
            · (intro w hSw; (try dsimp only at hSw); go_simp; try with_reducible rfl)
            simp only [Act.put, List.setIfInBounds_toArray, List.set_cons_zero, List.set_cons_succ]
            refine Own.yes (i := 43) (d := (some 152)) (v := ?_) rfl rfl (by kernel_rfl) (by kernel_rfl) (by kernel_rfl) (fun _ _ _ h => h) rfl ?_ hHeld ?_
            rotate_left
            · (intro w hSw; (try dsimp only at hSw); go_simp; try with_reducible rfl)
            simp only [Act.put, List.setIfInBounds_toArray, List.set_cons_zero, List.set_cons_succ]
            refine Own.yes (i := 45) (d := (some 154)) (v := ?_) rfl rfl (by kernel_rfl) (by kernel_rfl) (by kernel_rfl) (fun _ _ _ h => h) rfl ?_ hHeld ?_
            rotate_left
            · (intro w hSw; (try dsimp only at hSw); go_simp; try with_reducible rfl)
            simp only [Act.put, List.setIfInBounds_toArray, List.set_cons_zero, List.set_cons_succ]
            refine Own.yes (i := 46) (d := (some 155)) (v := ?_) rfl rfl (by kernel_rfl) (by kernel_rfl) (by kernel_rfl) (fun _ _ _ h => h) rfl ?_ hHeld ?_
            rotate_left
            · (intro w hSw; (try dsimp only at hSw); go_simp; try with_reducible rfl)
            simp only [Act.put, List.setIfInBounds_toArray, List.set_cons_zero, List.set_cons_succ]
            refine Own.yes (i := 47) (d := (some 156)) (v := ?_) rfl rfl (by kernel_rfl) (by kernel_rfl) (by kernel_rfl) (fun _ _ _ h => h) rfl ?_ hHeld ?_
            rotate_left
            · (intro w hSw; (try dsimp only at hSw); go_simp; try with_reducible rfl)
            simp only [Act.put, List.setIfInBounds_toArray, List.set_cons_zero, List.set_cons_succ]
            refine Own.call (i := 44) (d := (some 153)) rfl rfl (by kernel_rfl) rfl ?_ (tmd_has Q4.out.t.t gg HE.out.2.2.2) ?_
            · go_simp
            rintro e w7 ⟨rfl, hb⟩
            (have Q5 := Lib.hid (Q4.out.next (grown_below' hb)); clear hb hS hHeld; have hS : (w7.cell? ⟨B, 0, none⟩ = some (.int .i64 n) ∧ w7.cell? ⟨B, 1, none⟩ = some (.slice a1 m1 c1) ∧ w7.cell? ⟨B, 2, none⟩ = some (.int .u64 order) ∧ w7.cell? ⟨A, 2, none⟩ = some (.int .i64 gg) ∧ w7.cell? ad = some (.int .i64 xw)) := ⟨Q5.out.t.c0, Q5.out.t.c1, Q5.out.t.c2, Q5.out.a2, (Q5.out.first ad xw rfl).1⟩)
            refine ⟨_, rfl, hS, fun hHeld => ?_⟩
            simp only [Act.put, List.setIfInBounds_toArray, List.set_cons_zero, List.set_cons_succ]
            refine Own.call (i := 48) (d := (some 157)) rfl rfl (by kernel_rfl) rfl ?_ (rthas_is Q5.out.t.dv (by have := H.out.2.2.1; omega) n order gg HE.out.2.2.2) ?_
            · go_simp
            rintro e w8 ⟨rfl, hb⟩
            (have Q6 := Lib.hid (Q5.out.next hb); clear hb hS hHeld; have hS : (w8.cell? ⟨B, 0, none⟩ = some (.int .i64 n) ∧ w8.cell? ⟨B, 1, none⟩ = some (.slice a1 m1 c1) ∧ w8.cell? ⟨B, 2, none⟩ = some (.int .u64 order) ∧ w8.cell? ⟨A, 2, none⟩ = some (.int .i64 gg) ∧ w8.cell? ad = some (.int .i64 xw)) := ⟨Q6.out.t.c0, Q6.out.t.c1, Q6.out.t.c2, Q6.out.a2, (Q6.out.first ad xw rfl).1⟩)
            refine ⟨_, rfl, hS, fun hHeld => ?_⟩
            simp only [Act.put, List.setIfInBounds_toArray, List.set_cons_zero, List.set_cons_succ]
            refine Own.yes (i := 49) (d := (some 158)) (v := ?_) rfl rfl (by kernel_rfl) (by kernel_rfl) (by kernel_rfl) (fun _ _ _ h => h) rfl ?_ hHeld ?_
            rotate_left
            · (intro w hSw; (try dsimp only at hSw); go_simp; try with_reducible rfl)
            simp only [Act.put, List.setIfInBounds_toArray, List.set_cons_zero, List.set_cons_succ]
            refine Own.yes (i := 50) (d := (some 159)) (v := ?_) rfl rfl (by kernel_rfl) (by kernel_rfl) (by kernel_rfl) (fun _ _ _ h => h) rfl ?_ hHeld ?_
            rotate_left
            · (intro w hSw; (try dsimp only at hSw); go_simp; try with_reducible rfl)
            simp only [Act.put, List.setIfInBounds_toArray, List.set_cons_zero, List.set_cons_succ]
            refine wpAnyH_done (by kernel_rfl) ?_ _
            clear hS hHeld
            go_wp2_with fail
            have Q7 := Lib.hid (Q6.out.next (below_drew (w := w8)))
            have hS : (w8.drew.cell? ⟨A, 3, none⟩ = some (.int .i64 d) ∧ w8.drew.cell? ad = some (.int .i64 xw)) := ⟨Q7.out.a3, (Q7.out.first ad xw rfl).1⟩
            refine wp_region_held_drew (S := fun w' => w'.cell? ⟨A, 3, none⟩ = some (.int .i64 d) ∧ w'.cell? ad = some (.int .i64 xw)) (by kernel_rfl) hS (fun hHeld => ?_)
            refine Own.yes (i := 0) (d := (some 160)) (v := ?_) rfl rfl (by kernel_rfl) (by kernel_rfl) (by kernel_rfl) (fun _ _ _ h => h) rfl ?_ hHeld ?_
            rotate_left
            · (intro w hSw; (try dsimp only at hSw); go_simp; try with_reducible rfl)
            simp only [Act.put, List.setIfInBounds_toArray, List.set_cons_zero, List.set_cons_succ]
            refine Own.yes (i := 1) (d := (some 161)) (v := ?_) rfl rfl (by kernel_rfl) (by kernel_rfl) (by kernel_rfl) (fun _ _ _ h => h) rfl ?_ hHeld ?_
            rotate_left
            · (intro w hSw; (try dsimp only at hSw); go_simp; try with_reducible rfl)
            simp only [Act.put, List.setIfInBounds_toArray, List.set_cons_zero, List.set_cons_succ]
            refine Own.yes (i := 2) (d := (some 162)) (v := ?_) rfl rfl (by kernel_rfl) (by kernel_rfl) (by kernel_rfl) (fun _ _ _ h => h) rfl ?_ hHeld ?_
            rotate_left
            · (intro w hSw; (try dsimp only at hSw); go_simp; try with_reducible rfl)
            simp only [Act.put, List.setIfInBounds_toArray, List.set_cons_zero, List.set_cons_succ]
            refine Own.yes (i := 4) (d := (some 164)) (v := ?_) rfl rfl (by kernel_rfl) (by kernel_rfl) (by kernel_rfl) (fun _ _ _ h => h) rfl ?_ hHeld ?_
            rotate_left
            · (intro w hSw; (try dsimp only at hSw); go_simp; try with_reducible rfl)
            simp only [Act.put, List.setIfInBounds_toArray, List.set_cons_zero, List.set_cons_succ]
            refine Own.yes (i := 5) (d := (some 165)) (v := ?_) rfl rfl (by kernel_rfl) (by kernel_rfl) (by kernel_rfl) (fun _ _ _ h => h) rfl ?_ hHeld ?_
            rotate_left
            · (intro w hSw; (try dsimp only at hSw); go_simp; try with_reducible rfl)
            simp only [Act.put, List.setIfInBounds_toArray, List.set_cons_zero, List.set_cons_succ]
            refine Own.yes (i := 6) (d := (some 166)) (v := ?_) rfl rfl (by kernel_rfl) (by kernel_rfl) (by kernel_rfl) (fun _ _ _ h => h) rfl ?_ hHeld ?_
            rotate_left
            · (intro w hSw; (try dsimp only at hSw); go_simp; try with_reducible rfl)
            simp only [Act.put, List.setIfInBounds_toArray, List.set_cons_zero, List.set_cons_succ]
            refine Own.call (i := 3) (d := (some 163)) rfl rfl (by kernel_rfl) rfl ?_ (tmd_due Q7.out.t.t d (r := decide (xw ≤ d)) (by rw [HE.out.1])) ?_
            · go_simp
            rintro e w9 ⟨rfl, hb⟩
            (have Q8 := Lib.hid (Q7.out.next (grown_below' hb)); clear hb hS hHeld; have hS : (w9.cell? ⟨A, 3, none⟩ = some (.int .i64 d) ∧ w9.cell? ad = some (.int .i64 xw)) := ⟨Q8.out.a3, (Q8.out.first ad xw rfl).1⟩)
            refine ⟨_, rfl, hS, fun hHeld => ?_⟩
            simp only [Act.put, List.setIfInBounds_toArray, List.set_cons_zero, List.set_cons_succ]
            refine Own.yes (i := 7) (d := (some 167)) (v := ?_) rfl rfl (by kernel_rfl) (by kernel_rfl) (by kernel_rfl) (fun _ _ _ h => h) rfl ?_ hHeld ?_
            rotate_left
            · (intro w hSw; (try dsimp only at hSw); go_simp; try with_reducible rfl)
            simp only [Act.put, List.setIfInBounds_toArray, List.set_cons_zero, List.set_cons_succ]
            refine Own.yes (i := 8) (d := (some 168)) (v := ?_) rfl rfl (by kernel_rfl) (by kernel_rfl) (by kernel_rfl) (fun _ _ _ h => h) rfl ?_ hHeld ?_
            rotate_left
            · (intro w hSw; (try dsimp only at hSw); go_simp; try with_reducible rfl)
            simp only [Act.put, List.setIfInBounds_toArray, List.set_cons_zero, List.set_cons_succ]
            refine Own.yes (i := 9) (d := (some 169)) (v := ?_) rfl rfl (by kernel_rfl) (by kernel_rfl) (by kernel_rfl) (fun _ _ _ h => h) rfl ?_ hHeld ?_
            rotate_left
            · (intro w hSw; (try dsimp only at hSw); go_simp; try with_reducible rfl)
            simp only [Act.put, List.setIfInBounds_toArray, List.set_cons_zero, List.set_cons_succ]
            refine Own.yes (i := 10) (d := (some 170)) (v := ?_) rfl rfl (by kernel_rfl) (by kernel_rfl) (by kernel_rfl) (fun _ _ _ h => h) rfl ?_ hHeld ?_
            rotate_left
            · (intro w hSw; (try dsimp only at hSw); go_simp; try with_reducible rfl)
            simp only [Act.put, List.setIfInBounds_toArray, List.set_cons_zero, List.set_cons_succ]
            refine Own.yes (i := 11) (d := (some 171)) (v := ?_) rfl rfl (by kernel_rfl) (by kernel_rfl) (by kernel_rfl) (fun _ _ _ h => h) rfl ?_ hHeld ?_
            rotate_left
            · (intro w hSw; (try dsimp only at hSw); go_simp; try with_reducible rfl)
            simp only [Act.put, List.setIfInBounds_toArray, List.set_cons_zero, List.set_cons_succ]
            refine Own.yes (i := 12) (d := (some 172)) (v := ?_) rfl rfl (by kernel_rfl) (by kernel_rfl) (by kernel_rfl) (fun _ _ _ h => h) rfl ?_ hHeld ?_
            rotate_left
            · (intro w hSw; (try dsimp only at hSw); go_simp; try with_reducible rfl)
            simp only [Act.put, List.setIfInBounds_toArray, List.set_cons_zero, List.set_cons_succ]
            refine Own.yes (i := 13) (d := (some 173)) (v := ?_) rfl rfl (by kernel_rfl) (by kernel_rfl) (by kernel_rfl) (fun _ _ _ h => h) rfl ?_ hHeld ?_
            rotate_left
            · (intro w hSw; (try dsimp only at hSw); go_simp; try with_reducible rfl)
            simp only [Act.put, List.setIfInBounds_toArray, List.set_cons_zero, List.set_cons_succ]
            refine Own.yes (i := 14) (d := (some 174)) (v := ?_) rfl rfl (by kernel_rfl) (by kernel_rfl) (by kernel_rfl) (fun _ _ _ h => h) rfl ?_ hHeld ?_
            rotate_left
            · (intro w hSw; (try dsimp only at hSw); go_simp; try with_reducible rfl)
            simp only [Act.put, List.setIfInBounds_toArray, List.set_cons_zero, List.set_cons_succ]
            refine Own.yes (i := 15) (d := (some 175)) (v := ?_) rfl rfl (by kernel_rfl) (by kernel_rfl) (by kernel_rfl) (fun _ _ _ h => h) rfl ?_ hHeld ?_
            rotate_left
            · (intro w hSw; (try dsimp only at hSw); go_simp; try with_reducible rfl)
            simp only [Act.put, List.setIfInBounds_toArray, List.set_cons_zero, List.set_cons_succ]
            refine Own.yes (i := 16) (d := (some 176)) (v := ?_) rfl rfl (by kernel_rfl) (by kernel_rfl) (by kernel_rfl) (fun _ _ _ h => h) rfl ?_ hHeld ?_
            rotate_left
            · (intro w hSw; (try dsimp only at hSw); go_simp; try with_reducible rfl)
            simp only [Act.put, List.setIfInBounds_toArray, List.set_cons_zero, List.set_cons_succ]
            refine wpAnyH_done (by kernel_rfl) ?_ _
            clear hS hHeld
            go_wp2_with fail
            have J := Lib.hid Q8.out.t
            clear Q1 Q2 Q3 Q4 Q5 Q6 Q7 Q8
            go_loopw [177] (fun q wx => ∃ j : Nat, j ≤ 66 ∧ q = .int .i64 j ∧ Td w wx tb n B D order D order (.slice a1 m1 c1) F) (fun q _ => 66 - (intOf q).toNat)
            case atStart => exact ⟨0, by omega, rfl, J.out⟩
            case round =>
              clear J
              obtain ⟨j, hj, rfl, hP⟩ := hrel
              have K := Lib.hid hP
              clear hP
              by_cases hj2 : j < 66
              · have hjl : (j : Int) < 66 := by omega
                have d0 := K.out.c0
                have d1 := K.out.c1
                have d2 := K.out.c2
                obtain ⟨L2, hL2⟩ : ∃ L, srt (sel (j : Int) D) = L := ⟨_, rfl⟩
                obtain ⟨l2, hl2⟩ : ∃ l, L2.length = l := ⟨_, rfl⟩
                have HL := Lib.hid (And.intro hL2 (And.intro hl2 (show L2.length ≤ 1000 by rw [← hL2, srt_len]; unfold sel; rw [List.length_map]; have := List.length_filter_le (fun x : Tim => decide (x.p = (j : Int)) || decide ((j : Int) < 0)) D; have := H.out.2.2.1; omega)))
                clear hL2 hl2
                go_wp2_with fail
                refine (rof_is K.out.dv (by have := H.out.2.2.1; omega) n order (j : Int) HL.out.1 HL.out.2.1).mono ?_
                rintro e w10 ⟨b2, c2, rfl, hs, hb⟩
                have K2 := Lib.hid (And.intro (K.out.next hb) hs)
                clear hs hb d0 d1 d2
                go_wp2_with fail
                refine (tmd_of K2.out.1.t (by have := H.out.2.2.1; omega) j HL.out.1 HL.out.2.1).mono ?_
                rintro e w11 ⟨a3, c3, rfl, hs3, hb⟩
                have K3 := Lib.hid (And.intro (K2.out.1.next (grown_below' hb)) (And.intro hs3 (K2.out.2.below (grown_below' hb))))
                clear hs3 hb
                go_wp2_with fail
                refine (same_t K3.out.2.1 K3.out.2.2 HL.out.2.2).mono ?_
                rintro e w12 ⟨rfl, n2, rfl⟩
                have K4 := Lib.hid (K3.out.1.next (drewN_below (n := n2)))
                go_wp2_with fail
                go_roundw
                case rel => exact ⟨j + 1, by omega, by go_num, K4.out⟩
                case measure => simp [intOf]; omega
              · obtain rfl : j = 66 := by omega
                go_wp2_with fail
                go_roundw
                case rel => exact ⟨i + 1, D, order, a1, m1, c1, F, by omega, by go_num, K.out, H.out.2.2.1, H.out.2.2.2⟩
                case measure => simp [intOf]; omega
    · obtain rfl : i = len := by omega
      have HZ := Lib.hid H.out.1
      clear H
      go_wp2_with fail
      refine (tmd_of_neg HZ.out.t).mono ?_
      rintro e w5 ⟨rfl, rfl⟩
      go_wp2_with fail
      go_ret
      exact ⟨rfl, HZ.out.below⟩
end Go.Proofs.Ytmaahidipbghfaa.Tm
