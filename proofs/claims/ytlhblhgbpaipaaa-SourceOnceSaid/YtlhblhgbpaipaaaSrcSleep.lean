/-
  Package source: Sleep, Take.
-/
import Derived.Test.YtlhblhgbpaipaaaSrcDo
namespace Go.Proofs.Ytlhblhgbpaipaaa.Src
open Go.RowKit
open Go.Proofs.Ytlhblhgbpaipaaa.Hp
open Go.Proofs.Ytlhblhgbpaipaaa.Tm (Tms Kept IsMin dueB)
open Go.Proofs.Ytlhblhgbpaipaaa.Pl (IsPl PFr St aput adel alook stOf dueL fullL)
set_option linter.unusedVariables false

theorem tms_copy {w : World} {base tb n : Nat} {M : List Ent} {order : Nat} {G : List Int} {FF : Nat → Prop} (T : Tms w base tb n M order G FF) (hs : M.length ≤ 1000) : Calls Try.prog 23 #[.pointer (some ⟨tb, 0, none⟩)] w fun e w' => ∃ tb' G', e = .returned (.pointer (some ⟨tb', 0, none⟩)) ∧ Tms w' w.heap.size tb' n M order G' (fun _ => False) ∧ G'.Perm G ∧ w.grownBy w' none := by
  obtain ⟨lb, hb, vs, Hs, h, e, p, f⟩ := T
  refine (Tm.tcopy_is h (fun es hes => ?_)).mono ?_
  · have h1 := (List.sublist_flatten_of_mem hes).length_le
    have h2 := p.length_eq
    omega
  · rintro e' w' ⟨tb', lb', hb', vs', G', rfl, h', hp, hl, hg⟩
    exact ⟨tb', G', rfl, ⟨lb', hb', vs', Hs, h', by rw [hl, e], p, fun k hk => hk.elim⟩, hp, hg⟩

section
variable {w : World} {base sb tb pb fb wb n : Nat} {now : Int} {M : List Ent} {order : Nat} {G : List Int} {F : List (Int × St)} {GP : List (Int × Int)} {X : Nat → Prop}
/-- Add at timers of one's own. -/
theorem tms_add_any {w : World} {base tb n : Nat} {M : List Ent} {order : Nat} {G : List Int} (T : Tms w base tb n M order G (fun _ => False)) (hb : base ≤ w.heap.size) (p g when : Int) (ho : order < 4611686018427387904) (hg : 0 ≤ g ∧ g < 4096) {w0 : World} (h0 : w0.grownBy w none) (hb0 : base = w0.heap.size) :
    Calls Try.prog 24 #[.pointer (some ⟨tb, 0, none⟩), .int .i64 p, .int .i64 g, .int .i64 when] w fun e w' => ∃ x : Int, e = .returned (.int .i64 x) ∧ (p < 0 ∨ (n : Int) ≤ p → x = 1) ∧ (¬ (p < 0 ∨ (n : Int) ≤ p) → x ≠ 1) ∧ w0.grownBy w' none := by
  by_cases hbad : p < 0 ∨ (n : Int) ≤ p
  · refine (Tm.tms_add_arg T p g when (by omega)).mono ?_
    rintro e w' ⟨rfl, rfl⟩
    exact ⟨1, rfl, fun _ => rfl, fun h => absurd hbad h, h0⟩
  · by_cases hm : g ∈ G
    · refine (Tm.tms_add_same T p g when (by omega) (by omega) hm).mono ?_
      rintro e w' ⟨rfl, hg2⟩
      exact ⟨8, rfl, fun h => absurd h hbad, fun _ => by decide, Pl.grown_none h0 hg2⟩
    · refine (Tm.tms_add_ok T hb p g when (by omega) (by omega) hg.1 hg.2 hm ho).mono ?_
      rintro e w' ⟨rfl, T', hk⟩
      refine ⟨0, rfl, fun h => absurd h hbad, fun _ => by decide, ?_⟩
      have hb2 := hk.below
      exact ⟨hb2.os.trans h0.os, hb2.tape.trans h0.tape, hb2.output.trans h0.output, Nat.le_trans h0.size hb2.size, fun k hk1 _ => (hb2.block k (by omega)).trans (h0.block k hk1 (by simp))⟩

set_option maxRecDepth 100000 in
set_option maxHeartbeats 2000000 in
theorem sleep_polls (h : IsS w base sb tb pb fb wb n now M order G F GP X) (p g d : Int) (hq : (alook GP g).isSome = true) (hg : 0 ≤ g ∧ g < 4096) (hs : M.length ≤ 1000) (ho : order < 4611686018427387904) {y : Int} (hy : (if p < 0 ∨ (n : Int) ≤ p then 1 else 8) = y) :
    Calls Try.prog 10 #[.pointer (some ⟨sb, 0, none⟩), .int .i64 p, .int .i64 g, .int .i64 d] w fun e w' => e = .returned (.tuple #[.bool false, .int .i64 y]) ∧ w.grownBy w' none := by
  have c1 := h.c1
  have c2 := h.c2
  have H := Lib.hid h
  have HQ := Lib.hid (And.intro hq (And.intro hg (And.intro hs ho)))
  have HY := Lib.hid hy
  clear h hq hg hs ho hy
  go_enter Try.func10, Try.ntmps10
  go_wp2_with fail
  refine (Pl.phas_is H.out.p g).mono ?_
  rintro e w1 ⟨rfl, rfl⟩
  rw [HQ.out.1]
  go_wp2_with fail
  refine (tms_copy H.out.t HQ.out.2.2.1).mono ?_
  rintro e w2 ⟨tb', G', rfl, T, hpm, hgr⟩
  have H2 := Lib.hid (And.intro T hgr)
  clear T hgr hpm c1 c2
  go_wp2_with fail
  refine (tms_add_any H2.out.1 H2.out.2.size p g 0 HQ.out.2.2.2 HQ.out.2.1 H2.out.2 rfl).mono ?_
  rintro e w3 ⟨x, rfl, hx1, hx2, hg3⟩
  have H3 := Lib.hid (And.intro hx1 (And.intro hx2 hg3))
  clear hx1 hx2 hg3
  by_cases hbad : p < 0 ∨ (n : Int) ≤ p
  · have hx : x = 1 := H3.out.1 hbad
    have HB := Lib.hid hbad
    clear hbad
    obtain rfl : y = 1 := by rw [← HY.out, if_pos HB.out]
    subst hx
    go_wp2_with fail
    go_ret2
    exact ⟨rfl, H3.out.2.2⟩
  · have hx : x ≠ 1 := H3.out.2.1 hbad
    have HB := Lib.hid hbad
    clear hbad
    obtain rfl : y = 8 := by rw [← HY.out, if_neg HB.out]
    go_wp2_with fail
    go_ret2
    exact ⟨rfl, H3.out.2.2⟩

abbrev SlS (sb tb : Nat) (w' : World) : Prop := w'.cell? ⟨sb, 1, none⟩ = some (.pointer (some ⟨tb, 0, none⟩))
set_option maxRecDepth 100000 in
set_option maxHeartbeats 2000000 in
theorem sleep_err (h : IsS w base sb tb pb fb wb n now M order G F GP X) (p g d x : Int) (hq : (alook GP g).isSome = false) (hd : Clk.I64 d) (hx : x ≠ 0) (hc : ∀ w1 t, Tms w1 base tb n M order G (Fs sb pb fb wb X) → Calls Try.prog 24 #[.pointer (some ⟨tb, 0, none⟩), .int .i64 p, .int .i64 g, .int .i64 t] w1 fun e w' => e = .returned (.int .i64 x) ∧ w1.grownBy w' none) :
    Calls Try.prog 10 #[.pointer (some ⟨sb, 0, none⟩), .int .i64 p, .int .i64 g, .int .i64 d] w fun e w' => e = .returned (.tuple #[.bool false, .int .i64 x]) ∧ w.grownBy w' none := by
  have c2 := h.c2
  have H := Lib.hid h
  have HQ := Lib.hid (And.intro hq hd)
  have HC := Lib.hid hc
  clear h hq hd hc
  go_enter Try.func10, Try.ntmps10
  go_wp2_with fail
  refine (Pl.phas_is H.out.p g).mono ?_
  rintro e w1 ⟨rfl, rfl⟩
  rw [HQ.out.1]
  clear c2
  go_wp2_with fail
  have hS : SlS sb tb w.drew := H.out.drew.c1
  go_region_held3 (fun w' => w'.cell? ⟨sb, 1, none⟩ = some (.pointer (some ⟨tb, 0, none⟩)))
    (with_reducible exact hS)
    (first
      | (go_at_call 26; refine (Clk.after_any ⟨sb, 0, none⟩ now d H.out.i64 HQ.out.2 _ H.out.drew.c0).mono ?_; rintro e w1 ⟨rfl, rfl⟩)
      | (go_at_call 24; refine (HC.out _ _ H.out.drew.t).mono ?_; rintro e w2 ⟨rfl, hg2⟩; (have hS : SlS sb tb w2 := (H.out.drew.grown hg2).c1); (have H2 := Lib.hid hg2); clear hg2)
      | (go_at_call 25; refine (told_err _ sb x hx).mono ?_; rintro e w3 ⟨rfl, rfl⟩))
  go_wp2_with fail
  go_ret2
  exact ⟨rfl, grown_drew H2.out⟩
set_option maxRecDepth 100000 in
set_option maxHeartbeats 2000000 in
theorem sleep_ok (h : IsS w base sb tb pb fb wb n now M order G F GP X) (p g d t : Int) (hq : (alook GP g).isSome = false) (hd : Clk.I64 d) (ht : Clk.sat now (Clk.mx 0 d) = t) (h1 : 0 ≤ p) (h2 : p < n) (h3 : 0 ≤ g) (h4 : g < 4096) (hg : g ∉ G) (ho : order < 4611686018427387904)
    {m : Option Ent} (hm : IsMin (M ++ [⟨t, order, g⟩]) m) {r : Bool} (hr : (dueB m now || dueL F) = r) :
    Calls Try.prog 10 #[.pointer (some ⟨sb, 0, none⟩), .int .i64 p, .int .i64 g, .int .i64 d] w fun e w' => e = .returned (.tuple #[.bool r, .int .i64 0]) ∧ IsS w' base sb tb pb fb wb n now (M ++ [⟨t, order, g⟩]) (order + 1) (G ++ [g]) F GP X ∧ Kept w w' base X := by
  have c2 := h.c2
  have H := Lib.hid h
  have HQ := Lib.hid (And.intro hq hd)
  have HT := Lib.hid (And.intro ht (And.intro h1 (And.intro h2 (And.intro h3 (And.intro h4 (And.intro hg ho))))))
  have HM := Lib.hid (And.intro hm hr)
  clear h hq hd ht h1 h2 h3 h4 hg ho hm hr
  go_enter Try.func10, Try.ntmps10
  go_wp2_with fail
  refine (Pl.phas_is H.out.p g).mono ?_
  rintro e w1 ⟨rfl, rfl⟩
  rw [HQ.out.1]
  clear c2
  go_wp2_with fail
  have hS : SlS sb tb w.drew := H.out.drew.c1
  go_region_held3 (fun w' => w'.cell? ⟨sb, 1, none⟩ = some (.pointer (some ⟨tb, 0, none⟩)))
    (with_reducible exact hS)
    (first
      | (go_at_call 26; refine (Clk.after_any ⟨sb, 0, none⟩ now d H.out.i64 HQ.out.2 _ H.out.drew.c0).mono ?_; rintro e w1 ⟨rfl, rfl⟩; rw [HT.out.1])
      | (go_at_call 24; refine (Tm.tms_add_ok H.out.drew.t H.out.low p g t HT.out.2.1 HT.out.2.2.1 HT.out.2.2.2.1 HT.out.2.2.2.2.1 HT.out.2.2.2.2.2.1 HT.out.2.2.2.2.2.2).mono ?_; rintro e w2 ⟨rfl, T, hk⟩; (have H2 := Lib.hid (H.out.drew.timers T hk)); (have hS : SlS sb tb w2 := H2.out.1.c1); clear T hk)
      | (go_at_call 25; refine (told_ok H2.out.1 HM.out.1 HM.out.2).mono ?_; rintro e w3 ⟨rfl, hg3⟩; (have H3 := Lib.hid (And.intro (H2.out.1.grown hg3) (Kept.grown H2.out.2 hg3 H.out.low (fun k hk => H.out.xlt hk)))); (have hS : SlS sb tb w3 := H3.out.1.c1); clear hg3))
  go_wp2_with fail
  go_ret2
  refine ⟨rfl, H3.out.1, ⟨⟨H3.out.2.below.os, H3.out.2.below.tape, H3.out.2.below.output, H3.out.2.below.size, H3.out.2.below.block⟩, H3.out.2.far⟩⟩
end
end Go.Proofs.Ytlhblhgbpaipaaa.Src
