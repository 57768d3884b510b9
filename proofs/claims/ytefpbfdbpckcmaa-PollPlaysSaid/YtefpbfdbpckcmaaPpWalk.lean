/-
  The law PollPlays: the walk.
-/
import Derived.Test.YtefpbfdbpckcmaaPpBase
namespace Go.Proofs.Ytefpbfdbpckcmaa.Pl
open Go.RowKit
set_option linter.unusedVariables false
set_option linter.unusedSimpArgs false

theorem add_off3 (c : Addr) (i r : Nat) (h : r ≠ 0) : c.add (i + r) = ⟨(c.add i).block, (c.add i).off + r, none⟩ := addoff c i r h
theorem cells2 {w : World} {B : Nat} {x y : Int} {T : TypeId} {j : Nat} {z : Int} (h : w.heap[B]? = some (.cells #[.int .u16 x, .int .u16 y] T (0, 0))) (hj : (j = 0 ∧ z = x) ∨ (j = 1 ∧ z = y)) : w.cell? ⟨B, j, none⟩ = some (.int .u16 z) := by
  rcases hj with ⟨rfl, rfl⟩ | ⟨rfl, rfl⟩
  · exact cell_of_row _ _ 0 _ _ _ h
  · exact cell_of_row _ _ 1 _ _ _ h
set_option maxRecDepth 100000 in
set_option maxHeartbeats 8000000 in
theorem plays_short (a : Option Addr) (len cap : Nat) (kd fd g : Nat → Int) (f0 g0 : Int) (w : World) (hl : len ≤ 60) (hf0 : 0 ≤ f0 ∧ f0 < 65536) (hnil : a = none → len = 0) (hfit : ∀ i, i < len → 0 ≤ kd i ∧ 0 ≤ fd i ∧ fd i < 65536)
    (hc : ∀ b, a = some b → ∀ i, i < len → w.cell? (b.add (i * 3)) = some (.int .u8 (kd i)) ∧ w.cell? (b.add (i * 3 + 1)) = some (.int .u16 (fd i)) ∧ w.cell? (b.add (i * 3 + 2)) = some (.int .i64 (g i))) :
    Calls Try.prog 6 #[.slice a len cap, .int .u16 f0, .int .i64 g0] w fun e w' => e = .returned (.bool true) ∧ Below w.heap.size w w' := by
  have hlt : ¬ (60 < len) := by omega
  have HC := Lib.hid hc
  have HN := Lib.hid hnil
  have HF := Lib.hid hfit
  have HF0 := Lib.hid hf0
  clear hc hnil hfit hf0
  go_enter Try.func6, Try.ntmps6
  go_wp2_with fail
  refine (lives_is w).mono ?_
  rintro e w0 ⟨rfl, hb⟩
  have HB := Lib.hid hb
  clear hb
  go_wp2_with fail
  refine (pnew_is w0 w.heap.size HB.out.size).mono ?_
  rintro e w1 ⟨pb, fb, wb, rfl, P, hg, hp1, hp2, hp3⟩
  have D0 : Hid (Pd w (w1.alloc (.cells #[.slice none 0 0, .slice none 0 0] TPo)) pb fb wb w1.heap.size [] [] [] [] (.slice none 0 0) (.slice none 0 0)) := Lib.hid (by
    have hlt := P.lt
    have hsz := HB.out.size
    have hsz2 := hg.size
    refine ⟨P.grown (World.grownBy_alloc _ _ _), heap_alloc_new _ _, rsees_nil _ _, rsees_nil _ _, fun j hj => by simp [Value.ownBlock] at hj, by omega, ?_⟩
    exact (HB.out.trans ((grown_below hg).mono hsz)).alloc (by omega) _)
  clear P hg hp1 hp2 hp3 HB
  go_wp2_with fail
  generalize (w1.alloc (.cells #[.slice none 0 0, .slice none 0 0] TPo)) = W0 at *
  obtain ⟨B, hB⟩ : ∃ B, w1.heap.size = B := ⟨_, rfl⟩
  rw [hB] at D0 ⊢
  clear hB
  go_loopw [43] (fun q wr => ∃ (i : Nat) (F : List (Int × St)) (G W : List (Int × Int)) (R : List Int) (a1 : Option Addr) (n1 c1 : Nat) (a2 : Option Addr) (n2 c2 : Nat), i ≤ len ∧ q = .int .i64 i ∧ Pd w wr pb fb wb B F G W R (.slice a1 n1 c1) (.slice a2 n2 c2) ∧ PR F G W R ∧ W.length ≤ i ∧ R.length ≤ i) (fun q _ => len - (intOf q).toNat)
  case atStart => exact ⟨0, [], [], [], [], none, 0, 0, none, 0, 0, Nat.zero_le _, rfl, D0.out, PR.nil, Nat.le_refl _, Nat.le_refl _⟩
  case round =>
    clear D0
    obtain ⟨i, F, G, Wt, R, a1, n1, c1, a2, n2, c2, hi, rfl, hD, hPR, hbW, hbR⟩ := hrel
    have H := Lib.hid (And.intro hD (And.intro hPR (And.intro hbW hbR)))
    clear hD hPR hbW hbR
    by_cases hlen : i < len
    · obtain ⟨c, rfl⟩ : ∃ c, a = some c := by
        cases a with
        | none => exact absurd (HN.out rfl) (by omega)
        | some c => exact ⟨c, rfl⟩
      obtain ⟨h0, h1, h2⟩ := HC.out c rfl i hlen
      have hfi := HF.out i hlen
      have x0 := cell_later H.out.1.below h0
      have x1 := cell_later H.out.1.below h1
      have x2 := cell_later H.out.1.below h2
      generalize kd i = y at x0 hfi
      generalize fd i = f at x1 hfi
      generalize g i = gg at x2
      rw [add_off3 c _ 1 (by decide)] at x1
      rw [add_off3 c _ 2 (by decide)] at x2
      have hact := heap_alloc_new wr (.cells #[.int .u8 y, .int .u16 f, .int .i64 gg] TAct)
      have H1 := Lib.hid (And.intro (H.out.1.grown (World.grownBy_alloc wr (.cells #[.int .u8 y, .int .u16 f, .int .i64 gg] TAct) none)) (And.intro hact (And.intro H.out.2.1 (And.intro H.out.2.2.1 H.out.2.2.2))))
      obtain ⟨m, hm, hm0, hm6⟩ : ∃ m, y % 6 = m ∧ 0 ≤ m ∧ m ≤ 5 := ⟨_, rfl, by omega, by omega⟩
      have ek : y.tmod 6 = m := by rw [← hm]; exact Int.tmod_eq_emod_of_nonneg hfi.1
      have HFR := Lib.hid hfi.2
      have hwf : IntKind.i64.wrap f = f := by rw [IntKind.wrap_i64]; have := hfi.2; omega
      have HA : Hid (wr.heap.size ≠ B ∧ wr.heap.size ≠ pb ∧ wr.heap.size ≠ fb ∧ wr.heap.size ≠ wb ∧ wr.heap.size < (wr.alloc (.cells #[.int .u8 y, .int .u16 f, .int .i64 gg] TAct)).heap.size) := Lib.hid (by have := H.out.1.lt; have := H.out.1.p.lt; refine ⟨by omega, by omega, by omega, by omega, by simp⟩)
      clear hm h0 h1 h2 hact hfi H
      go_upto_block 2 with fail
      clear x0 x1 x2
      obtain ⟨A, hA⟩ : ∃ A, wr.heap.size = A := ⟨_, rfl⟩
      rw [hA] at H1 HA ⊢
      generalize (wr.alloc (.cells #[.int .u8 y, .int .u16 f, .int .i64 gg] TAct)) = W1 at *
      clear hA
      obtain ⟨z0, z1, z2⟩ := act3 H1.out.2.1
      go_cut [11, 12, 13, 14, 15, 16, 17, 18, 19, 20, 21, 22, 43] from 43 to 215 (fun _ _ _ _ _ _ _ _ _ _ _ _ q wx => q = .int .i64 i ∧ Pq w wx pb fb wb B A (i + 1) y f gg)
      case first =>
        have hm7 : (m = 0 ∨ m = 1) ∨ (m = 2 ∨ m = 3) ∨ m = 4 ∨ m = 5 := by omega
        clear hm0 hm6
        rcases hm7 with (rfl | rfl) | (rfl | rfl) | rfl | rfl
        · as_aux_lemma =>
            obtain ⟨ε, Wn, hput⟩ : ∃ e W', putW Wt R f gg = (e, W') := ⟨_, _, rfl⟩
            obtain ⟨ε', Fn, Gn, hwt⟩ : ∃ e F' G', waitF F G f gg = (e, F', G') := ⟨_, _, _, rfl⟩
            obtain rfl : ε' = ε := by have := H1.out.2.2.1.putE f gg; rw [hput, hwt] at this; exact this
            have HE := Lib.hid (And.intro hput hwt)
            clear hput hwt
            have d0 := H1.out.1.c0
            have d1 := H1.out.1.c1
            go_wp2_with fail
            refine (rput_any H1.out.1.dw H1.out.1.di H1.out.1.size (by have := H1.out.2.2.2.1; omega) (by have := H1.out.2.2.2.2; omega) f gg HE.out.1).mono ?_
            rintro e w2 ⟨b, n, c, rfl, hs2, hf2, hb2⟩
            have HD := Lib.hid (And.intro (H1.out.1.doc hb2 hs2 (H1.out.1.di.below hb2) hf2 (fun j hj => .inl hj) (.cells #[.slice b n c, .slice a2 n2 c2] TPo)) (And.intro ((H1.out.1.next hb2).next (below_alloc (.cells #[.slice b n c, .slice a2 n2 c2] TPo))) ((hb2.block A HA.out.2.2.2.2).trans H1.out.2.1)))
            have d0 := HD.out.2.1.c0
            have d1 := HD.out.2.1.c1
            have df := HD.out.2.1.fr
            have hact : (((w2.alloc (.cells #[.slice b n c, .slice a2 n2 c2] TPo)).setCell ⟨B, 0, none⟩ (.slice b n c)).setCell ⟨B, 1, none⟩ (.slice a2 n2 c2)).heap[A]? = some (.cells #[.int .u8 y, .int .u16 f, .int .i64 gg] TAct (0, 0)) := (set2_other HA.out.1).trans ((heap_alloc_old _ _ (Array.getElem?_eq_some_iff.1 HD.out.2.2).1).trans HD.out.2.2)
            obtain ⟨z0, z1, z2⟩ := act3 hact
            have HD2 := Lib.hid (And.intro HD.out.1 hact)
            clear hs2 hf2 hb2 hact HD
            go_wp2_with fail
            generalize (((w2.alloc (.cells #[.slice b n c, .slice a2 n2 c2] TPo)).setCell ⟨B, 0, none⟩ (.slice b n c)).setCell ⟨B, 1, none⟩ (.slice a2 n2 c2)) = W2 at *
            clear d0 d1 df
            refine (pwait_any HD2.out.1.p f gg HE.out.2).mono ?_
            rintro e w3 ⟨rfl, hp3, hk3⟩
            have D3 := Lib.hid (And.intro (HD2.out.1.poll hp3 hk3) ((hk3.block A (Array.getElem?_eq_some_iff.1 HD2.out.2).1 HA.out.2.2.1 HA.out.2.2.2.1).trans HD2.out.2))
            clear hp3 hk3
            go_wp2_with fail
            go_meet
            exact ⟨rfl, ⟨Fn, Gn, Wn, R, b, n, c, a2, n2, c2, D3.out.1, H1.out.2.2.1.putA HFR.out HE.out.2 HE.out.1, by have := putW_len HE.out.1; have := H1.out.2.2.2.1; omega, by have := H1.out.2.2.2.2; omega⟩, D3.out.2⟩
        · as_aux_lemma =>
            obtain ⟨ε, Wn, hput⟩ : ∃ e W', putW Wt R f gg = (e, W') := ⟨_, _, rfl⟩
            obtain ⟨ε', Fn, Gn, hwt⟩ : ∃ e F' G', waitF F G f gg = (e, F', G') := ⟨_, _, _, rfl⟩
            obtain rfl : ε' = ε := by have := H1.out.2.2.1.putE f gg; rw [hput, hwt] at this; exact this
            have HE := Lib.hid (And.intro hput hwt)
            clear hput hwt
            have d0 := H1.out.1.c0
            have d1 := H1.out.1.c1
            go_wp2_with fail
            refine (rput_any H1.out.1.dw H1.out.1.di H1.out.1.size (by have := H1.out.2.2.2.1; omega) (by have := H1.out.2.2.2.2; omega) f gg HE.out.1).mono ?_
            rintro e w2 ⟨b, n, c, rfl, hs2, hf2, hb2⟩
            have HD := Lib.hid (And.intro (H1.out.1.doc hb2 hs2 (H1.out.1.di.below hb2) hf2 (fun j hj => .inl hj) (.cells #[.slice b n c, .slice a2 n2 c2] TPo)) (And.intro ((H1.out.1.next hb2).next (below_alloc (.cells #[.slice b n c, .slice a2 n2 c2] TPo))) ((hb2.block A HA.out.2.2.2.2).trans H1.out.2.1)))
            have d0 := HD.out.2.1.c0
            have d1 := HD.out.2.1.c1
            have df := HD.out.2.1.fr
            have hact : (((w2.alloc (.cells #[.slice b n c, .slice a2 n2 c2] TPo)).setCell ⟨B, 0, none⟩ (.slice b n c)).setCell ⟨B, 1, none⟩ (.slice a2 n2 c2)).heap[A]? = some (.cells #[.int .u8 y, .int .u16 f, .int .i64 gg] TAct (0, 0)) := (set2_other HA.out.1).trans ((heap_alloc_old _ _ (Array.getElem?_eq_some_iff.1 HD.out.2.2).1).trans HD.out.2.2)
            obtain ⟨z0, z1, z2⟩ := act3 hact
            have HD2 := Lib.hid (And.intro HD.out.1 hact)
            clear hs2 hf2 hb2 hact HD
            go_wp2_with fail
            generalize (((w2.alloc (.cells #[.slice b n c, .slice a2 n2 c2] TPo)).setCell ⟨B, 0, none⟩ (.slice b n c)).setCell ⟨B, 1, none⟩ (.slice a2 n2 c2)) = W2 at *
            clear d0 d1 df
            refine (pwait_any HD2.out.1.p f gg HE.out.2).mono ?_
            rintro e w3 ⟨rfl, hp3, hk3⟩
            have D3 := Lib.hid (And.intro (HD2.out.1.poll hp3 hk3) ((hk3.block A (Array.getElem?_eq_some_iff.1 HD2.out.2).1 HA.out.2.2.1 HA.out.2.2.2.1).trans HD2.out.2))
            clear hp3 hk3
            go_wp2_with fail
            go_meet
            exact ⟨rfl, ⟨Fn, Gn, Wn, R, b, n, c, a2, n2, c2, D3.out.1, H1.out.2.2.1.putA HFR.out HE.out.2 HE.out.1, by have := putW_len HE.out.1; have := H1.out.2.2.2.1; omega, by have := H1.out.2.2.2.2; omega⟩, D3.out.2⟩
        · as_aux_lemma =>
            obtain ⟨ε, Rn, hmk⟩ : ∃ e R', markR Wt R f = (e, R') := ⟨_, _, rfl⟩
            obtain ⟨ε', Fn, hrd⟩ : ∃ e F', readyF F f = (e, F') := ⟨_, _, rfl⟩
            obtain rfl : ε' = ε := by have := H1.out.2.2.1.markE f; rw [hmk, hrd] at this; exact this
            have HE := Lib.hid (And.intro hmk hrd)
            clear hmk hrd
            have d0 := H1.out.1.c0
            have d1 := H1.out.1.c1
            go_wp2_with fail
            refine (rmark_any H1.out.1.dw H1.out.1.di H1.out.1.size (by have := H1.out.2.2.2.1; omega) (by have := H1.out.2.2.2.2; omega) f HE.out.1).mono ?_
            rintro e w2 ⟨b, n, c, rfl, hs2, hf2, hb2⟩
            have HD := Lib.hid (And.intro (H1.out.1.doc hb2 (H1.out.1.dw.below hb2) hs2 (fun j hj => .inl hj) hf2 (.cells #[.slice a1 n1 c1, .slice b n c] TPo)) (And.intro ((H1.out.1.next hb2).next (below_alloc (.cells #[.slice a1 n1 c1, .slice b n c] TPo))) ((hb2.block A HA.out.2.2.2.2).trans H1.out.2.1)))
            have d0 := HD.out.2.1.c0
            have d1 := HD.out.2.1.c1
            have df := HD.out.2.1.fr
            have hact : (((w2.alloc (.cells #[.slice a1 n1 c1, .slice b n c] TPo)).setCell ⟨B, 0, none⟩ (.slice a1 n1 c1)).setCell ⟨B, 1, none⟩ (.slice b n c)).heap[A]? = some (.cells #[.int .u8 y, .int .u16 f, .int .i64 gg] TAct (0, 0)) := (set2_other HA.out.1).trans ((heap_alloc_old _ _ (Array.getElem?_eq_some_iff.1 HD.out.2.2).1).trans HD.out.2.2)
            obtain ⟨z0, z1, z2⟩ := act3 hact
            have HD2 := Lib.hid (And.intro HD.out.1 hact)
            clear hs2 hf2 hb2 hact HD
            go_wp2_with fail
            generalize (((w2.alloc (.cells #[.slice a1 n1 c1, .slice b n c] TPo)).setCell ⟨B, 0, none⟩ (.slice a1 n1 c1)).setCell ⟨B, 1, none⟩ (.slice b n c)) = W2 at *
            clear d0 d1 df
            refine (pready_any HD2.out.1.p f HE.out.2).mono ?_
            rintro e w3 ⟨rfl, hp3, hk3⟩
            have D3 := Lib.hid (And.intro (HD2.out.1.poll hp3 hk3) ((hk3.block A (Array.getElem?_eq_some_iff.1 HD2.out.2).1 HA.out.2.2.1 HA.out.2.2.2.1).trans HD2.out.2))
            clear hp3 hk3
            go_wp2_with fail
            go_meet
            exact ⟨rfl, ⟨Fn, G, Wt, Rn, a1, n1, c1, b, n, c, D3.out.1, H1.out.2.2.1.markA HE.out.2 HE.out.1, by have := H1.out.2.2.2.1; omega, by have := markR_len HE.out.1; have := H1.out.2.2.2.2; omega⟩, D3.out.2⟩
        · as_aux_lemma =>
            obtain ⟨ε, Rn, hmk⟩ : ∃ e R', markR Wt R f = (e, R') := ⟨_, _, rfl⟩
            obtain ⟨ε', Fn, hrd⟩ : ∃ e F', readyF F f = (e, F') := ⟨_, _, rfl⟩
            obtain rfl : ε' = ε := by have := H1.out.2.2.1.markE f; rw [hmk, hrd] at this; exact this
            have HE := Lib.hid (And.intro hmk hrd)
            clear hmk hrd
            have d0 := H1.out.1.c0
            have d1 := H1.out.1.c1
            go_wp2_with fail
            refine (rmark_any H1.out.1.dw H1.out.1.di H1.out.1.size (by have := H1.out.2.2.2.1; omega) (by have := H1.out.2.2.2.2; omega) f HE.out.1).mono ?_
            rintro e w2 ⟨b, n, c, rfl, hs2, hf2, hb2⟩
            have HD := Lib.hid (And.intro (H1.out.1.doc hb2 (H1.out.1.dw.below hb2) hs2 (fun j hj => .inl hj) hf2 (.cells #[.slice a1 n1 c1, .slice b n c] TPo)) (And.intro ((H1.out.1.next hb2).next (below_alloc (.cells #[.slice a1 n1 c1, .slice b n c] TPo))) ((hb2.block A HA.out.2.2.2.2).trans H1.out.2.1)))
            have d0 := HD.out.2.1.c0
            have d1 := HD.out.2.1.c1
            have df := HD.out.2.1.fr
            have hact : (((w2.alloc (.cells #[.slice a1 n1 c1, .slice b n c] TPo)).setCell ⟨B, 0, none⟩ (.slice a1 n1 c1)).setCell ⟨B, 1, none⟩ (.slice b n c)).heap[A]? = some (.cells #[.int .u8 y, .int .u16 f, .int .i64 gg] TAct (0, 0)) := (set2_other HA.out.1).trans ((heap_alloc_old _ _ (Array.getElem?_eq_some_iff.1 HD.out.2.2).1).trans HD.out.2.2)
            obtain ⟨z0, z1, z2⟩ := act3 hact
            have HD2 := Lib.hid (And.intro HD.out.1 hact)
            clear hs2 hf2 hb2 hact HD
            go_wp2_with fail
            generalize (((w2.alloc (.cells #[.slice a1 n1 c1, .slice b n c] TPo)).setCell ⟨B, 0, none⟩ (.slice a1 n1 c1)).setCell ⟨B, 1, none⟩ (.slice b n c)) = W2 at *
            clear d0 d1 df
            refine (pready_any HD2.out.1.p f HE.out.2).mono ?_
            rintro e w3 ⟨rfl, hp3, hk3⟩
            have D3 := Lib.hid (And.intro (HD2.out.1.poll hp3 hk3) ((hk3.block A (Array.getElem?_eq_some_iff.1 HD2.out.2).1 HA.out.2.2.1 HA.out.2.2.2.1).trans HD2.out.2))
            clear hp3 hk3
            go_wp2_with fail
            go_meet
            exact ⟨rfl, ⟨Fn, G, Wt, Rn, a1, n1, c1, b, n, c, D3.out.1, H1.out.2.2.1.markA HE.out.2 HE.out.1, by have := H1.out.2.2.2.1; omega, by have := markR_len HE.out.1; have := H1.out.2.2.2.2; omega⟩, D3.out.2⟩
        · as_aux_lemma =>
            obtain ⟨x, y', ok, htk⟩ : ∃ x y ok, takeA (bestD R Wt (65536, 0)) = (x, y, ok) := ⟨_, _, _, rfl⟩
            have HE := Lib.hid htk
            have hwx : IntKind.i64.wrap x = x := by rw [IntKind.wrap_i64]; have := H1.out.2.2.1.bestR htk; omega
            clear htk
            have d0 := H1.out.1.c0
            have d1 := H1.out.1.c1
            go_wp2_with fail
            refine (rtake_any H1.out.1.dw H1.out.1.di H1.out.1.size (by have := H1.out.2.2.2.1; omega) (by have := H1.out.2.2.2.2; omega) rfl HE.out).mono ?_
            rintro e w2 ⟨b1, m1, e1, b2, m2, e2, rfl, hs1, hs2, hf1, hf2, hb2⟩
            have HD := Lib.hid (And.intro (H1.out.1.doc hb2 hs1 hs2 hf1 hf2 (.cells #[.slice b1 m1 e1, .slice b2 m2 e2] TPo)) (And.intro ((H1.out.1.next hb2).next (below_alloc (.cells #[.slice b1 m1 e1, .slice b2 m2 e2] TPo))) ((hb2.block A HA.out.2.2.2.2).trans H1.out.2.1)))
            have d0 := HD.out.2.1.c0
            have d1 := HD.out.2.1.c1
            have df := HD.out.2.1.fr
            have hact : (((w2.alloc (.cells #[.slice b1 m1 e1, .slice b2 m2 e2] TPo)).setCell ⟨B, 0, none⟩ (.slice b1 m1 e1)).setCell ⟨B, 1, none⟩ (.slice b2 m2 e2)).heap[A]? = some (.cells #[.int .u8 y, .int .u16 f, .int .i64 gg] TAct (0, 0)) := (set2_other HA.out.1).trans ((heap_alloc_old _ _ (Array.getElem?_eq_some_iff.1 HD.out.2.2).1).trans HD.out.2.2)
            obtain ⟨z0, z1, z2⟩ := act3 hact
            have HD2 := Lib.hid (And.intro HD.out.1 hact)
            clear hs1 hs2 hf1 hf2 hb2 hact HD
            go_wp2_with fail
            generalize (((w2.alloc (.cells #[.slice b1 m1 e1, .slice b2 m2 e2] TPo)).setCell ⟨B, 0, none⟩ (.slice b1 m1 e1)).setCell ⟨B, 1, none⟩ (.slice b2 m2 e2)) = W2 at *
            clear d0 d1 df
            refine (ptake_any HD2.out.1.p (by have := H1.out.2.2.1.inv.size; omega) H1.out.2.2.1.bestL HE.out).mono ?_
            rintro e w3 ⟨rfl, hp3, hk3⟩
            have D3 := Lib.hid (And.intro (HD2.out.1.poll hp3 hk3) ((hk3.block A (Array.getElem?_eq_some_iff.1 HD2.out.2).1 HA.out.2.2.1 HA.out.2.2.2.1).trans HD2.out.2))
            clear hp3 hk3
            go_wp2_with fail
            go_meet
            exact ⟨rfl, ⟨_, _, _, _, b1, m1, e1, b2, m2, e2, D3.out.1, H1.out.2.2.1.takeL, by have := leftW_len (bestD R Wt (65536, 0)) Wt; have := H1.out.2.2.2.1; omega, by have := leftI_len (bestD R Wt (65536, 0)) R; have := H1.out.2.2.2.2; omega⟩, D3.out.2⟩
        · as_aux_lemma =>
            obtain ⟨ε, Rn, hmk⟩ : ∃ e R', markR Wt R f = (e, R') := ⟨_, _, rfl⟩
            obtain ⟨ε', Fn, hrd⟩ : ∃ e F', readyF F f = (e, F') := ⟨_, _, rfl⟩
            obtain rfl : ε' = ε := by have := H1.out.2.2.1.markE f; rw [hmk, hrd] at this; exact this
            have hP2 := H1.out.2.2.1.markA hrd hmk
            obtain ⟨x, y', ok, htk⟩ : ∃ x y ok, takeA (bestD Rn Wt (65536, 0)) = (x, y, ok) := ⟨_, _, _, rfl⟩
            have HE := Lib.hid (And.intro hrd (And.intro hP2 htk))
            clear hmk hrd hP2 htk
            go_wp2_with fail
            refine (pcopy_is H1.out.1.p).mono ?_
            rintro e w2 ⟨pb2, fb2, wb2, rfl, P2, hg2⟩
            have hlo := P2.low
            have D2 := Lib.hid (And.intro P2 (And.intro (grown_below hg2) hlo))
            have hact := (hg2.block A HA.out.2.2.2.2 (by simp)).trans H1.out.2.1
            clear z0 z1 z2 P2 hg2 hlo
            obtain ⟨z0, z1, z2⟩ := act3 hact
            clear hact
            go_wp2_with fail
            refine (pready_any D2.out.1 f HE.out.1).mono ?_
            rintro e w3 ⟨rfl, P3, hk3⟩
            have D3 := Lib.hid (And.intro P3 (D2.out.2.1.trans (hk3.below D2.out.2.2.2.1 D2.out.2.2.2.2 D2.out.2.1.size)))
            clear P3 hk3
            go_wp2_with fail
            refine (ptake_any D3.out.1 (by have := HE.out.2.1.inv.size; omega) HE.out.2.1.bestL HE.out.2.2).mono ?_
            rintro e w4 ⟨rfl, P4, hk4⟩
            have D4 := Lib.hid (D3.out.2.trans (hk4.below D2.out.2.2.2.1 D2.out.2.2.2.2 D3.out.2.size))
            clear P4 hk4
            go_wp2_with fail
            go_meet
            exact ⟨rfl, ⟨F, G, Wt, R, a1, n1, c1, a2, n2, c2, H1.out.1.next D4.out, H1.out.2.2.1, by have := H1.out.2.2.2.1; omega, by have := H1.out.2.2.2.2; omega⟩, act_next H1.out.2.1 D4.out⟩
      case rest =>
        clear H1 z0 z1 z2 ek hm0 hm6
        obtain ⟨rfl, hq⟩ := hcut
        obtain ⟨⟨F, G, Wt, R, a1, n1, c1, a2, n2, c2, hD, hPR, hbW, hbR⟩, hact⟩ := hq
        have H := Lib.hid (And.intro hD (And.intro hact (And.intro hPR (And.intro hbW hbR))))
        clear hD hact hPR hbW hbR
        · as_aux_lemma =>
            have d0 := H.out.1.c0
            have d1 := H.out.1.c1
            obtain ⟨x, y', ok, htk⟩ : ∃ x y ok, takeA (bestD R Wt (65536, 0)) = (x, y, ok) := ⟨_, _, _, rfl⟩
            obtain ⟨L, hL⟩ : ∃ L, F.length = L := ⟨_, rfl⟩
            obtain ⟨r1, hr1⟩ : ∃ r, (alook G g0).isSome = r := ⟨_, rfl⟩
            obtain ⟨r2, hr2⟩ : ∃ r, (alook G gg).isSome = r := ⟨_, rfl⟩
            have HE := Lib.hid (And.intro htk (And.intro (H.out.2.2.1.dueA htk) (And.intro hL (And.intro (H.out.2.2.1.len.symm.trans hL) (And.intro hr1 (And.intro ((H.out.2.2.1.has g0).symm.trans hr1) (And.intro hr2 ((H.out.2.2.1.has gg).symm.trans hr2))))))))
            clear htk hL hr1 hr2
            go_wp2_with fail
            refine (rtake_any H.out.1.dw H.out.1.di H.out.1.size (by have := H.out.2.2.2.1; omega) (by have := H.out.2.2.2.2; omega) rfl HE.out.1).mono ?_
            rintro e w2 ⟨b1, m1, e1, b2, m2, e2, rfl, hs1, hs2, hf1, hf2, hb2⟩
            have Q := Lib.hid (And.intro ((H.out.1.next hb2).next (below_alloc (.cells #[.slice b1 m1 e1, .slice b2 m2 e2] TPo))) (act_next (act_next H.out.2.1 hb2) (below_alloc (.cells #[.slice b1 m1 e1, .slice b2 m2 e2] TPo))))
            clear hs1 hs2 hf1 hf2 hb2 d0 d1
            go_wp2_with fail
            generalize (w2.alloc (.cells #[.slice b1 m1 e1, .slice b2 m2 e2] TPo)) = W2 at *
            have Q0 := Lib.hid (And.intro Q.out.1.drew (act_next (w' := W2.drew) Q.out.2 below_drew))
            clear Q
            have hS := Q0.out.1.s3 Q0.out.2
            refine wp_region_held_drew (S := fun w' => w'.cell? ⟨B, 0, none⟩ = some (.slice a1 n1 c1) ∧ w'.cell? ⟨B, 1, none⟩ = some (.slice a2 n2 c2) ∧ w'.cell? ⟨A, 2, none⟩ = some (.int .i64 gg)) (by kernel_rfl) hS (fun hHeld => ?_)
            refine Own.yes (i := 0) (d := (some 134)) (v := ?_) rfl rfl (by kernel_rfl) (by kernel_rfl) (by kernel_rfl) (fun _ _ _ h => h) rfl ?_ hHeld ?_
            rotate_left
            · (intro w hSw; (try dsimp only at hSw); go_simp; try with_reducible rfl)
            simp only [Act.put, List.setIfInBounds_toArray, List.set_cons_zero, List.set_cons_succ]
            refine Own.yes (i := 2) (d := (some 136)) (v := ?_) rfl rfl (by kernel_rfl) (by kernel_rfl) (by kernel_rfl) (fun _ _ _ h => h) rfl ?_ hHeld ?_
            rotate_left
            · (intro w hSw; (try dsimp only at hSw); go_simp; try with_reducible rfl)
            simp only [Act.put, List.setIfInBounds_toArray, List.set_cons_zero, List.set_cons_succ]
            refine Own.call (i := 1) (d := (some 135)) rfl rfl (by kernel_rfl) rfl ?_ (plen_of Q0.out.1.p HE.out.2.2.1) ?_
            · go_simp
            rintro e w3 ⟨rfl, rfl⟩
            have hS := Q0.out.1.s3 Q0.out.2
            refine ⟨_, rfl, hS, fun hHeld => ?_⟩
            simp only [Act.put, List.setIfInBounds_toArray, List.set_cons_zero, List.set_cons_succ]
            refine Own.call (i := 3) (d := (some 137)) rfl rfl (by kernel_rfl) rfl ?_ (rlen_is Q0.out.1.dw Q0.out.1.di (by have := H.out.2.2.2.1; omega) (by have := H.out.2.2.2.2; omega) HE.out.2.2.2.1) ?_
            · go_simp
            rintro e w3 ⟨rfl, hb⟩
            (have Q1 := Lib.hid (And.intro (Q0.out.1.next hb) (act_next Q0.out.2 hb)); clear hb hS hHeld; have hS := Q1.out.1.s3 Q1.out.2)
            refine ⟨_, rfl, hS, fun hHeld => ?_⟩
            simp only [Act.put, List.setIfInBounds_toArray, List.set_cons_zero, List.set_cons_succ]
            refine Own.yes (i := 4) (d := (some 138)) (v := ?_) rfl rfl (by kernel_rfl) (by kernel_rfl) (by kernel_rfl) (fun _ _ _ h => h) rfl ?_ hHeld ?_
            rotate_left
            · (intro w hSw; (try dsimp only at hSw); go_simp; try with_reducible rfl)
            simp only [Act.put, List.setIfInBounds_toArray, List.set_cons_zero, List.set_cons_succ]
            refine Own.yes (i := 5) (d := (some 139)) (v := ?_) rfl rfl (by kernel_rfl) (by kernel_rfl) (by kernel_rfl) (fun _ _ _ h => h) rfl ?_ hHeld ?_
            rotate_left
            · (intro w hSw; (try dsimp only at hSw); go_simp; try with_reducible rfl)
            simp only [Act.put, List.setIfInBounds_toArray, List.set_cons_zero, List.set_cons_succ]
            refine Own.yes (i := 6) (d := (some 140)) (v := ?_) rfl rfl (by kernel_rfl) (by kernel_rfl) (by kernel_rfl) (fun _ _ _ h => h) rfl ?_ hHeld ?_
            rotate_left
            · (intro w hSw; (try dsimp only at hSw); go_simp; try with_reducible rfl)
            simp only [Act.put, List.setIfInBounds_toArray, List.set_cons_zero, List.set_cons_succ]
            refine Own.yes (i := 8) (d := (some 142)) (v := ?_) rfl rfl (by kernel_rfl) (by kernel_rfl) (by kernel_rfl) (fun _ _ _ h => h) rfl ?_ hHeld ?_
            rotate_left
            · (intro w hSw; (try dsimp only at hSw); go_simp; try with_reducible rfl)
            simp only [Act.put, List.setIfInBounds_toArray, List.set_cons_zero, List.set_cons_succ]
            refine Own.call (i := 7) (d := (some 141)) rfl rfl (by kernel_rfl) rfl ?_ (pdue_of Q1.out.1.p HE.out.2.1) ?_
            · go_simp
            rintro e w4 ⟨rfl, hb⟩
            (have Q2 := Lib.hid (And.intro (Q1.out.1.grown hb) (act_next Q1.out.2 (grown_below hb))); clear hb hS hHeld; have hS := Q2.out.1.s3 Q2.out.2)
            refine ⟨_, rfl, hS, fun hHeld => ?_⟩
            simp only [Act.put, List.setIfInBounds_toArray, List.set_cons_zero, List.set_cons_succ]
            refine Own.yes (i := 9) (d := (some 143)) (v := ?_) rfl rfl (by kernel_rfl) (by kernel_rfl) (by kernel_rfl) (fun _ _ _ h => h) rfl ?_ hHeld ?_
            rotate_left
            · (intro w hSw; (try dsimp only at hSw); go_simp; try with_reducible rfl)
            simp only [Act.put, List.setIfInBounds_toArray, List.set_cons_zero, List.set_cons_succ]
            refine Own.yes (i := 10) (d := (some 144)) (v := ?_) rfl rfl (by kernel_rfl) (by kernel_rfl) (by kernel_rfl) (fun _ _ _ h => h) rfl ?_ hHeld ?_
            rotate_left
            · (intro w hSw; (try dsimp only at hSw); go_simp; try with_reducible rfl)
            simp only [Act.put, List.setIfInBounds_toArray, List.set_cons_zero, List.set_cons_succ]
            refine Own.yes (i := 11) (d := (some 145)) (v := ?_) rfl rfl (by kernel_rfl) (by kernel_rfl) (by kernel_rfl) (fun _ _ _ h => h) rfl ?_ hHeld ?_
            rotate_left
            · (intro w hSw; (try dsimp only at hSw); go_simp; try with_reducible rfl)
            simp only [Act.put, List.setIfInBounds_toArray, List.set_cons_zero, List.set_cons_succ]
            refine Own.yes (i := 12) (d := (some 146)) (v := ?_) rfl rfl (by kernel_rfl) (by kernel_rfl) (by kernel_rfl) (fun _ _ _ h => h) rfl ?_ hHeld ?_
            rotate_left
            · (intro w hSw; (try dsimp only at hSw); go_simp; try with_reducible rfl)
            simp only [Act.put, List.setIfInBounds_toArray, List.set_cons_zero, List.set_cons_succ]
            refine Own.yes (i := 13) (d := (some 147)) (v := ?_) rfl rfl (by kernel_rfl) (by kernel_rfl) (by kernel_rfl) (fun _ _ _ h => h) rfl ?_ hHeld ?_
            rotate_left
            · (intro w hSw; (try dsimp only at hSw); go_simp; try with_reducible rfl)
            simp only [Act.put, List.setIfInBounds_toArray, List.set_cons_zero, List.set_cons_succ]
            refine Own.yes (i := 15) (d := (some 149)) (v := ?_) rfl rfl (by kernel_rfl) (by kernel_rfl) (by kernel_rfl) (fun _ _ _ h => h) rfl ?_ hHeld ?_
            rotate_left
            · (intro w hSw; (try dsimp only at hSw); go_simp; try with_reducible rfl)
            simp only [Act.put, List.setIfInBounds_toArray, List.set_cons_zero, List.set_cons_succ]
            refine Own.yes (i := 16) (d := (some 150)) (v := ?_) rfl rfl (by kernel_rfl) (by kernel_rfl) (by kernel_rfl) (fun _ _ _ h => h) rfl ?_ hHeld ?_
            rotate_left
            · (intro w hSw; (try dsimp only at hSw); go_simp; try with_reducible rfl)
            simp only [Act.put, List.setIfInBounds_toArray, List.set_cons_zero, List.set_cons_succ]
            refine Own.call (i := 14) (d := (some 148)) rfl rfl (by kernel_rfl) rfl ?_ (phas_of Q2.out.1.p g0 HE.out.2.2.2.2.1) ?_
            · go_simp
            rintro e w5 ⟨rfl, rfl⟩
            have hS := Q2.out.1.s3 Q2.out.2
            refine ⟨_, rfl, hS, fun hHeld => ?_⟩
            simp only [Act.put, List.setIfInBounds_toArray, List.set_cons_zero, List.set_cons_succ]
            refine Own.call (i := 17) (d := (some 151)) rfl rfl (by kernel_rfl) rfl ?_ (rhas_is (a0 := a2) (n0 := n2) (c0 := c2) Q2.out.1.dw (by have := H.out.2.2.2.1; omega) g0 HE.out.2.2.2.2.2.1) ?_
            · go_simp
            rintro e w5 ⟨rfl, hb⟩
            (have Q3 := Lib.hid (And.intro (Q2.out.1.next hb) (act_next Q2.out.2 hb)); clear hb hS hHeld; have hS := Q3.out.1.s3 Q3.out.2)
            refine ⟨_, rfl, hS, fun hHeld => ?_⟩
            simp only [Act.put, List.setIfInBounds_toArray, List.set_cons_zero, List.set_cons_succ]
            refine Own.yes (i := 18) (d := (some 152)) (v := ?_) rfl rfl (by kernel_rfl) (by kernel_rfl) (by kernel_rfl) (fun _ _ _ h => h) rfl ?_ hHeld ?_
            rotate_left
            · (intro w hSw; (try dsimp only at hSw); go_simp; try with_reducible rfl)
            simp only [Act.put, List.setIfInBounds_toArray, List.set_cons_zero, List.set_cons_succ]
            refine Own.yes (i := 19) (d := (some 153)) (v := ?_) rfl rfl (by kernel_rfl) (by kernel_rfl) (by kernel_rfl) (fun _ _ _ h => h) rfl ?_ hHeld ?_
            rotate_left
            · (intro w hSw; (try dsimp only at hSw); go_simp; try with_reducible rfl)
            simp only [Act.put, List.setIfInBounds_toArray, List.set_cons_zero, List.set_cons_succ]
            refine Own.yes (i := 20) (d := (some 154)) (v := ?_) rfl rfl (by kernel_rfl) (by kernel_rfl) (by kernel_rfl) (fun _ _ _ h => h) rfl ?_ hHeld ?_
            rotate_left
            · (intro w hSw; (try dsimp only at hSw); go_simp; try with_reducible rfl)
            simp only [Act.put, List.setIfInBounds_toArray, List.set_cons_zero, List.set_cons_succ]
            refine Own.yes (i := 21) (d := (some 155)) (v := ?_) rfl rfl (by kernel_rfl) (by kernel_rfl) (by kernel_rfl) (fun _ _ _ h => h) rfl ?_ hHeld ?_
            rotate_left
            · (intro w hSw; (try dsimp only at hSw); go_simp; try with_reducible rfl)
            simp only [Act.put, List.setIfInBounds_toArray, List.set_cons_zero, List.set_cons_succ]
            refine Own.yes (i := 22) (d := (some 156)) (v := ?_) rfl rfl (by kernel_rfl) (by kernel_rfl) (by kernel_rfl) (fun _ _ _ h => h) rfl ?_ hHeld ?_
            rotate_left
            · (intro w hSw; (try dsimp only at hSw); go_simp; try with_reducible rfl)
            simp only [Act.put, List.setIfInBounds_toArray, List.set_cons_zero, List.set_cons_succ]
            refine Own.yes (i := 23) (d := (some 157)) (v := ?_) rfl rfl (by kernel_rfl) (by kernel_rfl) (by kernel_rfl) (fun _ _ _ h => h) rfl ?_ hHeld ?_
            rotate_left
            · (intro w hSw; (try dsimp only at hSw); go_simp; try with_reducible rfl)
            simp only [Act.put, List.setIfInBounds_toArray, List.set_cons_zero, List.set_cons_succ]
            refine Own.yes (i := 25) (d := (some 159)) (v := ?_) rfl rfl (by kernel_rfl) (by kernel_rfl) (by kernel_rfl) (fun _ _ _ h => h) rfl ?_ hHeld ?_
            rotate_left
            · (intro w hSw; (try dsimp only at hSw); go_simp; try with_reducible rfl)
            simp only [Act.put, List.setIfInBounds_toArray, List.set_cons_zero, List.set_cons_succ]
            refine Own.yes (i := 26) (d := (some 160)) (v := ?_) rfl rfl (by kernel_rfl) (by kernel_rfl) (by kernel_rfl) (fun _ _ _ h => h) rfl ?_ hHeld ?_
            rotate_left
            · (intro w hSw; (try dsimp only at hSw); go_simp; try with_reducible rfl)
            simp only [Act.put, List.setIfInBounds_toArray, List.set_cons_zero, List.set_cons_succ]
            refine Own.yes (i := 27) (d := (some 161)) (v := ?_) rfl rfl (by kernel_rfl) (by kernel_rfl) (by kernel_rfl) (fun _ _ _ h => h) rfl ?_ hHeld ?_
            rotate_left
            · (intro w hSw; (try dsimp only at hSw); go_simp; try with_reducible rfl)
            simp only [Act.put, List.setIfInBounds_toArray, List.set_cons_zero, List.set_cons_succ]
            refine Own.call (i := 24) (d := (some 158)) rfl rfl (by kernel_rfl) rfl ?_ (phas_of Q3.out.1.p gg HE.out.2.2.2.2.2.2.1) ?_
            · go_simp
            rintro e w6 ⟨rfl, rfl⟩
            have hS := Q3.out.1.s3 Q3.out.2
            refine ⟨_, rfl, hS, fun hHeld => ?_⟩
            simp only [Act.put, List.setIfInBounds_toArray, List.set_cons_zero, List.set_cons_succ]
            refine Own.call (i := 28) (d := (some 162)) rfl rfl (by kernel_rfl) rfl ?_ (rhas_is (a0 := a2) (n0 := n2) (c0 := c2) Q3.out.1.dw (by have := H.out.2.2.2.1; omega) gg HE.out.2.2.2.2.2.2.2) ?_
            · go_simp
            rintro e w6 ⟨rfl, hb⟩
            (have Q4 := Lib.hid (And.intro (Q3.out.1.next hb) (act_next Q3.out.2 hb)); clear hb hS hHeld; have hS := Q4.out.1.s3 Q4.out.2)
            refine ⟨_, rfl, hS, fun hHeld => ?_⟩
            simp only [Act.put, List.setIfInBounds_toArray, List.set_cons_zero, List.set_cons_succ]
            refine Own.yes (i := 29) (d := (some 163)) (v := ?_) rfl rfl (by kernel_rfl) (by kernel_rfl) (by kernel_rfl) (fun _ _ _ h => h) rfl ?_ hHeld ?_
            rotate_left
            · (intro w hSw; (try dsimp only at hSw); go_simp; try with_reducible rfl)
            simp only [Act.put, List.setIfInBounds_toArray, List.set_cons_zero, List.set_cons_succ]
            refine Own.yes (i := 30) (d := (some 164)) (v := ?_) rfl rfl (by kernel_rfl) (by kernel_rfl) (by kernel_rfl) (fun _ _ _ h => h) rfl ?_ hHeld ?_
            rotate_left
            · (intro w hSw; (try dsimp only at hSw); go_simp; try with_reducible rfl)
            simp only [Act.put, List.setIfInBounds_toArray, List.set_cons_zero, List.set_cons_succ]
            refine wpAnyH_done (by kernel_rfl) ?_ _
            clear hS hHeld
            obtain ⟨z0, z1, z2⟩ := act3 Q4.out.2
            go_wp2_with fail
            have J := Lib.hid (And.intro (Q4.out.1.next (below_alloc (.cells #[.int .u16 f0, .int .u16 f] 27))) (heap_alloc_new w6 (.cells #[.int .u16 f0, .int .u16 f] 27)))
            clear z0 z1 z2
            generalize (w6.alloc (.cells #[.int .u16 f0, .int .u16 f] 27)) = W6 at *
            obtain ⟨Lb, hLb⟩ : ∃ b, w6.heap.size = b := ⟨_, rfl⟩
            rw [hLb] at J ⊢
            clear hLb
            go_loopw [170] (fun q wx => ∃ j : Nat, j ≤ 2 ∧ q = .int .i64 j ∧ Pd w wx pb fb wb B F G Wt R (.slice a1 n1 c1) (.slice a2 n2 c2) ∧ wx.heap[Lb]? = some (.cells #[.int .u16 f0, .int .u16 f] 27 (0, 0))) (fun q _ => 2 - (intOf q).toNat)
            case atStart => exact ⟨0, by omega, rfl, J.out⟩
            case round =>
              clear J
              obtain ⟨j, hj, rfl, hP, hbl⟩ := hrel
              have K := Lib.hid (And.intro hP hbl)
              clear hP hbl
              by_cases hj2 : j < 2
              · obtain ⟨x, hx⟩ : ∃ x, (j = 0 ∧ x = f0) ∨ (j = 1 ∧ x = f) := by
                  rcases (show j = 0 ∨ j = 1 by omega) with rfl | rfl
                  · exact ⟨f0, .inl ⟨rfl, rfl⟩⟩
                  · exact ⟨f, .inr ⟨rfl, rfl⟩⟩
                have hxr : 0 ≤ x ∧ x < 65536 := by rcases hx with ⟨_, rfl⟩ | ⟨_, rfl⟩; exact HF0.out; exact HFR.out
                have hwx : IntKind.i64.wrap x = x := by rw [IntKind.wrap_i64]; omega
                have hcx := cells2 K.out.2 hx
                obtain ⟨sg, hsg⟩ : ∃ v, (stOf F x).g = v := ⟨_, rfl⟩
                obtain ⟨sw, hsw⟩ : ∃ v, (stOf F x).waits = v := ⟨_, rfl⟩
                obtain ⟨sr, hsr⟩ : ∃ v, (stOf F x).ready = v := ⟨_, rfl⟩
                have HW := Lib.hid (And.intro hsg (And.intro hsw (And.intro hsr ((H.out.2.2.1.ready x).symm.trans hsr))))
                have hjl : (j : Int) < 2 := by omega
                clear hx hxr hsg hsw hsr
                go_wp2_with fail
                refine (pwho_of K.out.1.p x HW.out.1 HW.out.2.1).mono ?_
                rintro e wx ⟨rfl, hb⟩
                have K2 := Lib.hid (And.intro (K.out.1.grown hb) (act_next K.out.2 (grown_below hb)))
                have d0 := K2.out.1.c0
                have d1 := K2.out.1.c1
                clear hb hcx
                cases sw with
                | true =>
                  have hwh := (H.out.2.2.1.who_yes HW.out.2.1).trans HW.out.1
                  have hpos : 0 ≤ sg := by have := H.out.2.2.1.pos HW.out.2.1; rw [HW.out.1] at this; exact this.1
                  have HH := Lib.hid hwh
                  clear hwh
                  go_wp2_with fail
                  refine (rwho_is K2.out.1.dw (by have := H.out.2.2.2.1; omega) x HH.out).mono ?_
                  rintro e wy ⟨rfl, hb⟩
                  have K3 := Lib.hid (And.intro (K2.out.1.next hb) (act_next K2.out.2 hb))
                  clear hb d0 d1
                  go_wp2_with fail
                  have hS : wy.drew.cell? ⟨B, 0, none⟩ = some (.slice a1 n1 c1) ∧ wy.drew.cell? ⟨B, 1, none⟩ = some (.slice a2 n2 c2) := ⟨K3.out.1.drew.c0, K3.out.1.drew.c1⟩
                  refine wp_region_held_drew (S := fun w' => w'.cell? ⟨B, 0, none⟩ = some (.slice a1 n1 c1) ∧ w'.cell? ⟨B, 1, none⟩ = some (.slice a2 n2 c2)) (by kernel_rfl) hS (fun hHeld => ?_)
                  refine Own.yes (i := 0) (d := (some 184)) (v := ?_) rfl rfl (by kernel_rfl) (by kernel_rfl) (by kernel_rfl) (fun _ _ _ h => h) rfl ?_ hHeld ?_
                  rotate_left
                  · (intro w hSw; (try dsimp only at hSw); go_simp; try with_reducible rfl)
                  simp only [Act.put, List.setIfInBounds_toArray, List.set_cons_zero, List.set_cons_succ]
                  refine Own.yes (i := 1) (d := (some 185)) (v := ?_) rfl rfl (by kernel_rfl) (by kernel_rfl) (by kernel_rfl) (fun _ _ _ h => h) rfl ?_ hHeld ?_
                  rotate_left
                  · (intro w hSw; (try dsimp only at hSw); go_simp; try with_reducible rfl)
                  simp only [Act.put, List.setIfInBounds_toArray, List.set_cons_zero, List.set_cons_succ]
                  refine Own.yes (i := 2) (d := (some 186)) (v := ?_) rfl rfl (by kernel_rfl) (by kernel_rfl) (by kernel_rfl) (fun _ _ _ h => h) rfl ?_ hHeld ?_
                  rotate_left
                  · (intro w hSw; (try dsimp only at hSw); go_simp; try with_reducible rfl)
                  simp only [Act.put, List.setIfInBounds_toArray, List.set_cons_zero, List.set_cons_succ]
                  refine Own.yes (i := 3) (d := (some 187)) (v := ?_) rfl rfl (by kernel_rfl) (by kernel_rfl) (by kernel_rfl) (fun _ _ _ h => h) rfl ?_ hHeld ?_
                  rotate_left
                  · (intro w hSw; (try dsimp only at hSw); go_simp; try with_reducible rfl)
                  simp only [Act.put, List.setIfInBounds_toArray, List.set_cons_zero, List.set_cons_succ]
                  refine Own.yes (i := 4) (d := (some 188)) (v := ?_) rfl rfl (by kernel_rfl) (by kernel_rfl) (by kernel_rfl) (fun _ _ _ h => h) rfl ?_ hHeld ?_
                  rotate_left
                  · (intro w hSw; (try dsimp only at hSw); go_simp; try with_reducible rfl)
                  simp only [Act.put, List.setIfInBounds_toArray, List.set_cons_zero, List.set_cons_succ]
                  refine Own.yes (i := 5) (d := (some 189)) (v := ?_) rfl rfl (by kernel_rfl) (by kernel_rfl) (by kernel_rfl) (fun _ _ _ h => h) rfl ?_ hHeld ?_
                  rotate_left
                  · (intro w hSw; (try dsimp only at hSw); go_simp; try with_reducible rfl)
                  simp only [Act.put, List.setIfInBounds_toArray, List.set_cons_zero, List.set_cons_succ]
                  refine Own.yes (i := 6) (d := (some 190)) (v := ?_) rfl rfl (by kernel_rfl) (by kernel_rfl) (by kernel_rfl) (fun _ _ _ h => h) rfl ?_ hHeld ?_
                  rotate_left
                  · (intro w hSw; (try dsimp only at hSw); go_simp; try with_reducible rfl)
                  simp only [Act.put, List.setIfInBounds_toArray, List.set_cons_zero, List.set_cons_succ]
                  refine Own.yes (i := 7) (d := (some 191)) (v := ?_) rfl rfl (by kernel_rfl) (by kernel_rfl) (by kernel_rfl) (fun _ _ _ h => h) rfl ?_ hHeld ?_
                  rotate_left
                  · (intro w hSw; (try dsimp only at hSw); go_simp; try with_reducible rfl)
                  simp only [Act.put, List.setIfInBounds_toArray, List.set_cons_zero, List.set_cons_succ]
                  refine Own.yes (i := 8) (d := (some 192)) (v := ?_) rfl rfl (by kernel_rfl) (by kernel_rfl) (by kernel_rfl) (fun _ _ _ h => h) rfl ?_ hHeld ?_
                  rotate_left
                  · (intro w hSw; (try dsimp only at hSw); go_simp; try with_reducible rfl)
                  simp only [Act.put, List.setIfInBounds_toArray, List.set_cons_zero, List.set_cons_succ]
                  refine Own.yes (i := 9) (d := (some 193)) (v := ?_) rfl rfl (by kernel_rfl) (by kernel_rfl) (by kernel_rfl) (fun _ _ _ h => h) rfl ?_ hHeld ?_
                  rotate_left
                  · (intro w hSw; (try dsimp only at hSw); go_simp; try with_reducible rfl)
                  simp only [Act.put, List.setIfInBounds_toArray, List.set_cons_zero, List.set_cons_succ]
                  refine Own.yes (i := 10) (d := (some 194)) (v := ?_) rfl rfl (by kernel_rfl) (by kernel_rfl) (by kernel_rfl) (fun _ _ _ h => h) rfl ?_ hHeld ?_
                  rotate_left
                  · (intro w hSw; (try dsimp only at hSw); go_simp; try with_reducible rfl)
                  simp only [Act.put, List.setIfInBounds_toArray, List.set_cons_zero, List.set_cons_succ]
                  refine Own.yes (i := 11) (d := (some 195)) (v := ?_) rfl rfl (by kernel_rfl) (by kernel_rfl) (by kernel_rfl) (fun _ _ _ h => h) rfl ?_ hHeld ?_
                  rotate_left
                  · (intro w hSw; (try dsimp only at hSw); go_simp; try with_reducible rfl)
                  simp only [Act.put, List.setIfInBounds_toArray, List.set_cons_zero, List.set_cons_succ]
                  refine Own.yes (i := 12) (d := (some 196)) (v := ?_) rfl rfl (by kernel_rfl) (by kernel_rfl) (by kernel_rfl) (fun _ _ _ h => h) rfl ?_ hHeld ?_
                  rotate_left
                  · (intro w hSw; (try dsimp only at hSw); go_simp; try with_reducible rfl)
                  simp only [Act.put, List.setIfInBounds_toArray, List.set_cons_zero, List.set_cons_succ]
                  refine Own.yes (i := 13) (d := (some 197)) (v := ?_) rfl rfl (by kernel_rfl) (by kernel_rfl) (by kernel_rfl) (fun _ _ _ h => h) rfl ?_ hHeld ?_
                  rotate_left
                  · (intro w hSw; (try dsimp only at hSw); go_simp; try with_reducible rfl)
                  simp only [Act.put, List.setIfInBounds_toArray, List.set_cons_zero, List.set_cons_succ]
                  refine Own.yes (i := 14) (d := (some 198)) (v := ?_) rfl rfl (by kernel_rfl) (by kernel_rfl) (by kernel_rfl) (fun _ _ _ h => h) rfl ?_ hHeld ?_
                  rotate_left
                  · (intro w hSw; (try dsimp only at hSw); go_simp; try with_reducible rfl)
                  simp only [Act.put, List.setIfInBounds_toArray, List.set_cons_zero, List.set_cons_succ]
                  refine Own.yes (i := 15) (d := (some 199)) (v := ?_) rfl rfl (by kernel_rfl) (by kernel_rfl) (by kernel_rfl) (fun _ _ _ h => h) rfl ?_ hHeld ?_
                  rotate_left
                  · (intro w hSw; (try dsimp only at hSw); go_simp; try with_reducible rfl)
                  simp only [Act.put, List.setIfInBounds_toArray, List.set_cons_zero, List.set_cons_succ]
                  refine Own.no (i := 16) (d := (some 200)) rfl rfl (by kernel_rfl) (by kernel_rfl) (by kernel_rfl) (fun _ _ _ h => h) rfl hHeld ?_
                  simp only [Act.put, List.setIfInBounds_toArray, List.set_cons_zero, List.set_cons_succ]
                  refine Own.no (i := 17) (d := (some 201)) rfl rfl (by kernel_rfl) (by kernel_rfl) (by kernel_rfl) (fun _ _ _ h => h) rfl hHeld ?_
                  simp only [Act.put, List.setIfInBounds_toArray, List.set_cons_zero, List.set_cons_succ]
                  refine Own.yes (i := 18) (d := (some 202)) (v := ?_) rfl rfl (by kernel_rfl) (by kernel_rfl) (by kernel_rfl) (fun _ _ _ h => h) rfl ?_ hHeld ?_
                  rotate_left
                  · (intro w hSw; (try dsimp only at hSw); go_simp; try with_reducible rfl)
                  simp only [Act.put, List.setIfInBounds_toArray, List.set_cons_zero, List.set_cons_succ]
                  refine Own.yes (i := 19) (d := (some 203)) (v := ?_) rfl rfl (by kernel_rfl) (by kernel_rfl) (by kernel_rfl) (fun _ _ _ h => h) rfl ?_ hHeld ?_
                  rotate_left
                  · (intro w hSw; (try dsimp only at hSw); go_simp; try with_reducible rfl)
                  simp only [Act.put, List.setIfInBounds_toArray, List.set_cons_zero, List.set_cons_succ]
                  refine Own.yes (i := 20) (d := (some 204)) (v := ?_) rfl rfl (by kernel_rfl) (by kernel_rfl) (by kernel_rfl) (fun _ _ _ h => h) rfl ?_ hHeld ?_
                  rotate_left
                  · (intro w hSw; (try dsimp only at hSw); go_simp; try with_reducible rfl)
                  simp only [Act.put, List.setIfInBounds_toArray, List.set_cons_zero, List.set_cons_succ]
                  refine Own.yes (i := 21) (d := (some 205)) (v := ?_) rfl rfl (by kernel_rfl) (by kernel_rfl) (by kernel_rfl) (fun _ _ _ h => h) rfl ?_ hHeld ?_
                  rotate_left
                  · (intro w hSw; (try dsimp only at hSw); go_simp; try with_reducible rfl)
                  simp only [Act.put, List.setIfInBounds_toArray, List.set_cons_zero, List.set_cons_succ]
                  refine Own.yes (i := 22) (d := (some 206)) (v := ?_) rfl rfl (by kernel_rfl) (by kernel_rfl) (by kernel_rfl) (fun _ _ _ h => h) rfl ?_ hHeld ?_
                  rotate_left
                  · (intro w hSw; (try dsimp only at hSw); go_simp; try with_reducible rfl)
                  simp only [Act.put, List.setIfInBounds_toArray, List.set_cons_zero, List.set_cons_succ]
                  refine Own.yes (i := 24) (d := (some 208)) (v := ?_) rfl rfl (by kernel_rfl) (by kernel_rfl) (by kernel_rfl) (fun _ _ _ h => h) rfl ?_ hHeld ?_
                  rotate_left
                  · (intro w hSw; (try dsimp only at hSw); go_simp; try with_reducible rfl)
                  simp only [Act.put, List.setIfInBounds_toArray, List.set_cons_zero, List.set_cons_succ]
                  refine Own.yes (i := 25) (d := (some 209)) (v := ?_) rfl rfl (by kernel_rfl) (by kernel_rfl) (by kernel_rfl) (fun _ _ _ h => h) rfl ?_ hHeld ?_
                  rotate_left
                  · (intro w hSw; (try dsimp only at hSw); go_simp; try with_reducible rfl)
                  simp only [Act.put, List.setIfInBounds_toArray, List.set_cons_zero, List.set_cons_succ]
                  refine Own.yes (i := 26) (d := (some 210)) (v := ?_) rfl rfl (by kernel_rfl) (by kernel_rfl) (by kernel_rfl) (fun _ _ _ h => h) rfl ?_ hHeld ?_
                  rotate_left
                  · (intro w hSw; (try dsimp only at hSw); go_simp; try with_reducible rfl)
                  simp only [Act.put, List.setIfInBounds_toArray, List.set_cons_zero, List.set_cons_succ]
                  refine Own.call (i := 23) (d := (some 207)) rfl rfl (by kernel_rfl) rfl ?_ (pis_of K3.out.1.drew.p x HW.out.2.2.1) ?_
                  · go_simp
                  rintro e w5 ⟨rfl, rfl⟩
                  have hS : _ ∧ _ := ⟨K3.out.1.drew.c0, K3.out.1.drew.c1⟩
                  refine ⟨_, rfl, hS, fun hHeld => ?_⟩
                  simp only [Act.put, List.setIfInBounds_toArray, List.set_cons_zero, List.set_cons_succ]
                  refine Own.call (i := 27) (d := (some 211)) rfl rfl (by kernel_rfl) rfl ?_ (ris_is (a0 := a1) (n0 := n1) (c0 := c1) K3.out.1.drew.di (by have := H.out.2.2.2.2; omega) x HW.out.2.2.2) ?_
                  · go_simp
                  rintro e w5 ⟨rfl, hb⟩
                  (have K4 := Lib.hid (And.intro (K3.out.1.drew.next hb) (act_next (w := wy.drew) K3.out.2 hb)); clear hb hS hHeld; have hS : _ ∧ _ := ⟨K4.out.1.c0, K4.out.1.c1⟩)
                  refine ⟨_, rfl, hS, fun hHeld => ?_⟩
                  simp only [Act.put, List.setIfInBounds_toArray, List.set_cons_zero, List.set_cons_succ]
                  refine Own.yes (i := 28) (d := (some 212)) (v := ?_) rfl rfl (by kernel_rfl) (by kernel_rfl) (by kernel_rfl) (fun _ _ _ h => h) rfl ?_ hHeld ?_
                  rotate_left
                  · (intro w hSw; (try dsimp only at hSw); go_simp; try with_reducible rfl)
                  simp only [Act.put, List.setIfInBounds_toArray, List.set_cons_zero, List.set_cons_succ]
                  refine Own.yes (i := 29) (d := (some 213)) (v := ?_) rfl rfl (by kernel_rfl) (by kernel_rfl) (by kernel_rfl) (fun _ _ _ h => h) rfl ?_ hHeld ?_
                  rotate_left
                  · (intro w hSw; (try dsimp only at hSw); go_simp; try with_reducible rfl)
                  simp only [Act.put, List.setIfInBounds_toArray, List.set_cons_zero, List.set_cons_succ]
                  refine wpAnyH_done (by kernel_rfl) ?_ _
                  go_wp2_with fail
                  go_roundw
                  case rel => exact ⟨j + 1, by omega, by go_num, K4.out.1, K4.out.2⟩
                  case measure => simp [intOf]; omega
                | false =>
                  obtain rfl : sg = 0 := (HW.out.1.symm.trans (H.out.2.2.1.zero HW.out.2.1))
                  have HH := Lib.hid (H.out.2.2.1.who_no HW.out.2.1)
                  go_wp2_with fail
                  refine (rwho_is K2.out.1.dw (by have := H.out.2.2.2.1; omega) x HH.out).mono ?_
                  rintro e wy ⟨rfl, hb⟩
                  have K3 := Lib.hid (And.intro (K2.out.1.next hb) (act_next K2.out.2 hb))
                  clear hb d0 d1
                  go_wp2_with fail
                  have hS : wy.drew.cell? ⟨B, 0, none⟩ = some (.slice a1 n1 c1) ∧ wy.drew.cell? ⟨B, 1, none⟩ = some (.slice a2 n2 c2) := ⟨K3.out.1.drew.c0, K3.out.1.drew.c1⟩
                  refine wp_region_held_drew (S := fun w' => w'.cell? ⟨B, 0, none⟩ = some (.slice a1 n1 c1) ∧ w'.cell? ⟨B, 1, none⟩ = some (.slice a2 n2 c2)) (by kernel_rfl) hS (fun hHeld => ?_)
                  refine Own.yes (i := 0) (d := (some 184)) (v := ?_) rfl rfl (by kernel_rfl) (by kernel_rfl) (by kernel_rfl) (fun _ _ _ h => h) rfl ?_ hHeld ?_
                  rotate_left
                  · (intro w hSw; (try dsimp only at hSw); go_simp; try with_reducible rfl)
                  simp only [Act.put, List.setIfInBounds_toArray, List.set_cons_zero, List.set_cons_succ]
                  refine Own.yes (i := 1) (d := (some 185)) (v := ?_) rfl rfl (by kernel_rfl) (by kernel_rfl) (by kernel_rfl) (fun _ _ _ h => h) rfl ?_ hHeld ?_
                  rotate_left
                  · (intro w hSw; (try dsimp only at hSw); go_simp; try with_reducible rfl)
                  simp only [Act.put, List.setIfInBounds_toArray, List.set_cons_zero, List.set_cons_succ]
                  refine Own.yes (i := 2) (d := (some 186)) (v := ?_) rfl rfl (by kernel_rfl) (by kernel_rfl) (by kernel_rfl) (fun _ _ _ h => h) rfl ?_ hHeld ?_
                  rotate_left
                  · (intro w hSw; (try dsimp only at hSw); go_simp; try with_reducible rfl)
                  simp only [Act.put, List.setIfInBounds_toArray, List.set_cons_zero, List.set_cons_succ]
                  refine Own.yes (i := 3) (d := (some 187)) (v := ?_) rfl rfl (by kernel_rfl) (by kernel_rfl) (by kernel_rfl) (fun _ _ _ h => h) rfl ?_ hHeld ?_
                  rotate_left
                  · (intro w hSw; (try dsimp only at hSw); go_simp; try with_reducible rfl)
                  simp only [Act.put, List.setIfInBounds_toArray, List.set_cons_zero, List.set_cons_succ]
                  refine Own.yes (i := 4) (d := (some 188)) (v := ?_) rfl rfl (by kernel_rfl) (by kernel_rfl) (by kernel_rfl) (fun _ _ _ h => h) rfl ?_ hHeld ?_
                  rotate_left
                  · (intro w hSw; (try dsimp only at hSw); go_simp; try with_reducible rfl)
                  simp only [Act.put, List.setIfInBounds_toArray, List.set_cons_zero, List.set_cons_succ]
                  refine Own.yes (i := 5) (d := (some 189)) (v := ?_) rfl rfl (by kernel_rfl) (by kernel_rfl) (by kernel_rfl) (fun _ _ _ h => h) rfl ?_ hHeld ?_
                  rotate_left
                  · (intro w hSw; (try dsimp only at hSw); go_simp; try with_reducible rfl)
                  simp only [Act.put, List.setIfInBounds_toArray, List.set_cons_zero, List.set_cons_succ]
                  refine Own.yes (i := 6) (d := (some 190)) (v := ?_) rfl rfl (by kernel_rfl) (by kernel_rfl) (by kernel_rfl) (fun _ _ _ h => h) rfl ?_ hHeld ?_
                  rotate_left
                  · (intro w hSw; (try dsimp only at hSw); go_simp; try with_reducible rfl)
                  simp only [Act.put, List.setIfInBounds_toArray, List.set_cons_zero, List.set_cons_succ]
                  refine Own.no (i := 7) (d := (some 191)) rfl rfl (by kernel_rfl) (by kernel_rfl) (by kernel_rfl) (fun _ _ _ h => h) rfl hHeld ?_
                  simp only [Act.put, List.setIfInBounds_toArray, List.set_cons_zero, List.set_cons_succ]
                  refine Own.no (i := 8) (d := (some 192)) rfl rfl (by kernel_rfl) (by kernel_rfl) (by kernel_rfl) (fun _ _ _ h => h) rfl hHeld ?_
                  simp only [Act.put, List.setIfInBounds_toArray, List.set_cons_zero, List.set_cons_succ]
                  refine Own.no (i := 9) (d := (some 193)) rfl rfl (by kernel_rfl) (by kernel_rfl) (by kernel_rfl) (fun _ _ _ h => h) rfl hHeld ?_
                  simp only [Act.put, List.setIfInBounds_toArray, List.set_cons_zero, List.set_cons_succ]
                  refine Own.yes (i := 10) (d := (some 194)) (v := ?_) rfl rfl (by kernel_rfl) (by kernel_rfl) (by kernel_rfl) (fun _ _ _ h => h) rfl ?_ hHeld ?_
                  rotate_left
                  · (intro w hSw; (try dsimp only at hSw); go_simp; try with_reducible rfl)
                  simp only [Act.put, List.setIfInBounds_toArray, List.set_cons_zero, List.set_cons_succ]
                  refine Own.yes (i := 11) (d := (some 195)) (v := ?_) rfl rfl (by kernel_rfl) (by kernel_rfl) (by kernel_rfl) (fun _ _ _ h => h) rfl ?_ hHeld ?_
                  rotate_left
                  · (intro w hSw; (try dsimp only at hSw); go_simp; try with_reducible rfl)
                  simp only [Act.put, List.setIfInBounds_toArray, List.set_cons_zero, List.set_cons_succ]
                  refine Own.yes (i := 12) (d := (some 196)) (v := ?_) rfl rfl (by kernel_rfl) (by kernel_rfl) (by kernel_rfl) (fun _ _ _ h => h) rfl ?_ hHeld ?_
                  rotate_left
                  · (intro w hSw; (try dsimp only at hSw); go_simp; try with_reducible rfl)
                  simp only [Act.put, List.setIfInBounds_toArray, List.set_cons_zero, List.set_cons_succ]
                  refine Own.yes (i := 13) (d := (some 197)) (v := ?_) rfl rfl (by kernel_rfl) (by kernel_rfl) (by kernel_rfl) (fun _ _ _ h => h) rfl ?_ hHeld ?_
                  rotate_left
                  · (intro w hSw; (try dsimp only at hSw); go_simp; try with_reducible rfl)
                  simp only [Act.put, List.setIfInBounds_toArray, List.set_cons_zero, List.set_cons_succ]
                  refine Own.yes (i := 14) (d := (some 198)) (v := ?_) rfl rfl (by kernel_rfl) (by kernel_rfl) (by kernel_rfl) (fun _ _ _ h => h) rfl ?_ hHeld ?_
                  rotate_left
                  · (intro w hSw; (try dsimp only at hSw); go_simp; try with_reducible rfl)
                  simp only [Act.put, List.setIfInBounds_toArray, List.set_cons_zero, List.set_cons_succ]
                  refine Own.yes (i := 15) (d := (some 199)) (v := ?_) rfl rfl (by kernel_rfl) (by kernel_rfl) (by kernel_rfl) (fun _ _ _ h => h) rfl ?_ hHeld ?_
                  rotate_left
                  · (intro w hSw; (try dsimp only at hSw); go_simp; try with_reducible rfl)
                  simp only [Act.put, List.setIfInBounds_toArray, List.set_cons_zero, List.set_cons_succ]
                  refine Own.yes (i := 16) (d := (some 200)) (v := ?_) rfl rfl (by kernel_rfl) (by kernel_rfl) (by kernel_rfl) (fun _ _ _ h => h) rfl ?_ hHeld ?_
                  rotate_left
                  · (intro w hSw; (try dsimp only at hSw); go_simp; try with_reducible rfl)
                  simp only [Act.put, List.setIfInBounds_toArray, List.set_cons_zero, List.set_cons_succ]
                  refine Own.yes (i := 17) (d := (some 201)) (v := ?_) rfl rfl (by kernel_rfl) (by kernel_rfl) (by kernel_rfl) (fun _ _ _ h => h) rfl ?_ hHeld ?_
                  rotate_left
                  · (intro w hSw; (try dsimp only at hSw); go_simp; try with_reducible rfl)
                  simp only [Act.put, List.setIfInBounds_toArray, List.set_cons_zero, List.set_cons_succ]
                  refine Own.yes (i := 18) (d := (some 202)) (v := ?_) rfl rfl (by kernel_rfl) (by kernel_rfl) (by kernel_rfl) (fun _ _ _ h => h) rfl ?_ hHeld ?_
                  rotate_left
                  · (intro w hSw; (try dsimp only at hSw); go_simp; try with_reducible rfl)
                  simp only [Act.put, List.setIfInBounds_toArray, List.set_cons_zero, List.set_cons_succ]
                  refine Own.yes (i := 19) (d := (some 203)) (v := ?_) rfl rfl (by kernel_rfl) (by kernel_rfl) (by kernel_rfl) (fun _ _ _ h => h) rfl ?_ hHeld ?_
                  rotate_left
                  · (intro w hSw; (try dsimp only at hSw); go_simp; try with_reducible rfl)
                  simp only [Act.put, List.setIfInBounds_toArray, List.set_cons_zero, List.set_cons_succ]
                  refine Own.yes (i := 20) (d := (some 204)) (v := ?_) rfl rfl (by kernel_rfl) (by kernel_rfl) (by kernel_rfl) (fun _ _ _ h => h) rfl ?_ hHeld ?_
                  rotate_left
                  · (intro w hSw; (try dsimp only at hSw); go_simp; try with_reducible rfl)
                  simp only [Act.put, List.setIfInBounds_toArray, List.set_cons_zero, List.set_cons_succ]
                  refine Own.yes (i := 21) (d := (some 205)) (v := ?_) rfl rfl (by kernel_rfl) (by kernel_rfl) (by kernel_rfl) (fun _ _ _ h => h) rfl ?_ hHeld ?_
                  rotate_left
                  · (intro w hSw; (try dsimp only at hSw); go_simp; try with_reducible rfl)
                  simp only [Act.put, List.setIfInBounds_toArray, List.set_cons_zero, List.set_cons_succ]
                  refine Own.yes (i := 22) (d := (some 206)) (v := ?_) rfl rfl (by kernel_rfl) (by kernel_rfl) (by kernel_rfl) (fun _ _ _ h => h) rfl ?_ hHeld ?_
                  rotate_left
                  · (intro w hSw; (try dsimp only at hSw); go_simp; try with_reducible rfl)
                  simp only [Act.put, List.setIfInBounds_toArray, List.set_cons_zero, List.set_cons_succ]
                  refine Own.yes (i := 24) (d := (some 208)) (v := ?_) rfl rfl (by kernel_rfl) (by kernel_rfl) (by kernel_rfl) (fun _ _ _ h => h) rfl ?_ hHeld ?_
                  rotate_left
                  · (intro w hSw; (try dsimp only at hSw); go_simp; try with_reducible rfl)
                  simp only [Act.put, List.setIfInBounds_toArray, List.set_cons_zero, List.set_cons_succ]
                  refine Own.yes (i := 25) (d := (some 209)) (v := ?_) rfl rfl (by kernel_rfl) (by kernel_rfl) (by kernel_rfl) (fun _ _ _ h => h) rfl ?_ hHeld ?_
                  rotate_left
                  · (intro w hSw; (try dsimp only at hSw); go_simp; try with_reducible rfl)
                  simp only [Act.put, List.setIfInBounds_toArray, List.set_cons_zero, List.set_cons_succ]
                  refine Own.yes (i := 26) (d := (some 210)) (v := ?_) rfl rfl (by kernel_rfl) (by kernel_rfl) (by kernel_rfl) (fun _ _ _ h => h) rfl ?_ hHeld ?_
                  rotate_left
                  · (intro w hSw; (try dsimp only at hSw); go_simp; try with_reducible rfl)
                  simp only [Act.put, List.setIfInBounds_toArray, List.set_cons_zero, List.set_cons_succ]
                  refine Own.call (i := 23) (d := (some 207)) rfl rfl (by kernel_rfl) rfl ?_ (pis_of K3.out.1.drew.p x HW.out.2.2.1) ?_
                  · go_simp
                  rintro e w5 ⟨rfl, rfl⟩
                  have hS : _ ∧ _ := ⟨K3.out.1.drew.c0, K3.out.1.drew.c1⟩
                  refine ⟨_, rfl, hS, fun hHeld => ?_⟩
                  simp only [Act.put, List.setIfInBounds_toArray, List.set_cons_zero, List.set_cons_succ]
                  refine Own.call (i := 27) (d := (some 211)) rfl rfl (by kernel_rfl) rfl ?_ (ris_is (a0 := a1) (n0 := n1) (c0 := c1) K3.out.1.drew.di (by have := H.out.2.2.2.2; omega) x HW.out.2.2.2) ?_
                  · go_simp
                  rintro e w5 ⟨rfl, hb⟩
                  (have K4 := Lib.hid (And.intro (K3.out.1.drew.next hb) (act_next (w := wy.drew) K3.out.2 hb)); clear hb hS hHeld; have hS : _ ∧ _ := ⟨K4.out.1.c0, K4.out.1.c1⟩)
                  refine ⟨_, rfl, hS, fun hHeld => ?_⟩
                  simp only [Act.put, List.setIfInBounds_toArray, List.set_cons_zero, List.set_cons_succ]
                  refine Own.yes (i := 28) (d := (some 212)) (v := ?_) rfl rfl (by kernel_rfl) (by kernel_rfl) (by kernel_rfl) (fun _ _ _ h => h) rfl ?_ hHeld ?_
                  rotate_left
                  · (intro w hSw; (try dsimp only at hSw); go_simp; try with_reducible rfl)
                  simp only [Act.put, List.setIfInBounds_toArray, List.set_cons_zero, List.set_cons_succ]
                  refine Own.yes (i := 29) (d := (some 213)) (v := ?_) rfl rfl (by kernel_rfl) (by kernel_rfl) (by kernel_rfl) (fun _ _ _ h => h) rfl ?_ hHeld ?_
                  rotate_left
                  · (intro w hSw; (try dsimp only at hSw); go_simp; try with_reducible rfl)
                  simp only [Act.put, List.setIfInBounds_toArray, List.set_cons_zero, List.set_cons_succ]
                  refine wpAnyH_done (by kernel_rfl) ?_ _
                  go_wp2_with fail
                  go_roundw
                  case rel => exact ⟨j + 1, by omega, by go_num, K4.out.1, K4.out.2⟩
                  case measure => simp [intOf]; omega
              · obtain rfl : j = 2 := by omega
                go_wp2_with fail
                go_roundw
                case rel => exact ⟨i + 1, F, G, Wt, R, a1, n1, c1, a2, n2, c2, by omega, by go_num, K.out.1, H.out.2.2.1, H.out.2.2.2.1, H.out.2.2.2.2⟩
                case measure => simp [intOf]; omega
    · obtain rfl : i = len := by omega
      have HZ := Lib.hid H.out.1.below
      clear H
      go_wp2_with fail
      go_ret
      exact ⟨rfl, HZ.out⟩
end Go.Proofs.Ytefpbfdbpckcmaa.Pl
