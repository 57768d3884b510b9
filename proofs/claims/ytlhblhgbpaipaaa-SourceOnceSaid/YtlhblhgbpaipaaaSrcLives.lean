/-
  Package source: the chapter's example.
-/
import Derived.Test.YtlhblhgbpaipaaaSrcTake
namespace Go.Proofs.Ytlhblhgbpaipaaa.Src
open Go.RowKit
open Go.Proofs.Ytlhblhgbpaipaaa.Hp
open Go.Proofs.Ytlhblhgbpaipaaa.Tm (Tms Kept IsMin dueB min_ex)
open Go.Proofs.Ytlhblhgbpaipaaa.Pl (IsPl PFr St aput adel alook stOf dueL fullL)
set_option linter.unusedVariables false

abbrev E5 : Ent := ⟨5, 0, 7⟩
theorem min5 : IsMin [E5] (some E5) := ⟨by simp, fun x hx => by simp at hx; subst hx; exact le_refl _⟩
theorem min0 : IsMin ([] : List Ent) none := rfl
theorem grown_below {w w' : World} (h : w.grownBy w' none) : Below w.heap.size w w' := ⟨h.os, h.tape, h.output, h.size, fun k hk => h.block k hk (by simp)⟩

set_option maxRecDepth 100000 in
set_option maxHeartbeats 4000000 in
theorem lives_is (w : World) : Calls Try.prog 7 #[] w fun e w' => e = .returned (.bool true) ∧ Below w.heap.size w w' := by
  go_enter Try.func7, Try.ntmps7
  go_wp2_with fail
  refine (snew_is w 1 1 (by decide)).mono ?_
  rintro e w1 ⟨sb, tb, pb, fb, wb, rfl, I, hg⟩
  have H1 := Lib.hid (And.intro I (grown_below hg))
  clear I hg
  go_wp2_with fail
  refine (sleep_ok H1.out.1 0 7 5 5 rfl (by unfold Clk.I64; omega) (by decide) (by decide) (by decide) (by decide) (by decide) (by simp) (by decide) min5 (r := false) (by decide)).mono ?_
  rintro e w2 ⟨rfl, I, hk⟩
  have H2 : Hid (IsS w2 w.heap.size sb tb pb fb wb 1 0 [E5] 1 [7] [] [] (fun _ => False) ∧ Below w.heap.size w w2) := Lib.hid ⟨I, H1.out.2.trans hk.below⟩
  clear I hk
  go_wp2_with fail
  refine (stick_is H2.out.1 (d := 4) (t := 4) (by unfold Clk.I64; omega) (by decide) min5 (r := false) (by decide)).mono ?_
  rintro e w3 ⟨rfl, I, hk⟩
  have H3 := Lib.hid (And.intro I (H2.out.2.trans hk.below))
  clear I hk
  go_wp2_with fail
  refine (stick_is H3.out.1 (d := 1) (t := 5) (by unfold Clk.I64; omega) (by decide) min5 (r := true) (by decide)).mono ?_
  rintro e w4 ⟨rfl, I, hk⟩
  have H4 := Lib.hid (And.intro I (H3.out.2.trans hk.below))
  clear I hk
  go_wp2_with fail
  refine (stake_timer H4.out.1 min5 (by decide)).mono ?_
  rintro e w5 ⟨rfl, I, hk⟩
  have H5 := Lib.hid (H4.out.2.trans hk.below)
  clear I hk
  go_wp2_with fail
  go_ret
  exact ⟨rfl, H5.out⟩
end Go.Proofs.Ytlhblhgbpaipaaa.Src
