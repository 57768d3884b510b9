/-
  The poll laws' example.
-/
import Derived.Test.YtefpbfdbpckcmaaPollLeast
import Derived.Test.YtefpbfdbpckcmaaPollLaw
namespace Go.Proofs.Ytefpbfdbpckcmaa.Pl
open Go.RowKit
set_option linter.unusedVariables false
set_option linter.unusedSimpArgs false

def F1 : List (Int × St) := [(5, ⟨7, true, false⟩)]
def F2 : List (Int × St) := [(5, ⟨7, true, false⟩), (4, ⟨0, false, true⟩)]
def F3 : List (Int × St) := [(5, ⟨7, true, true⟩), (4, ⟨0, false, true⟩)]
theorem least3 : Least F3 (some (5, 7)) := by
  refine ⟨⟨7, true, true⟩, by decide, rfl, rfl, rfl, fun fd s hs hd => ?_⟩
  have := alook_some_mem hs
  simp [F3] at this
  rcases this with ⟨rfl, rfl⟩ | ⟨rfl, rfl⟩
  · exact Int.le_refl _
  · cases hd
theorem grown_below {w w1 : World} (hg : w.grownBy w1 none) : Below w.heap.size w w1 := ⟨hg.os, hg.tape, hg.output, hg.size, fun k hk => hg.block k hk (by simp)⟩
theorem below_next {w w1 w2 : World} {B : Nat} (h : Below B w w1) (hg : w1.grownBy w2 none) (hB : B ≤ w1.heap.size) : Below B w w2 := h.trans ⟨hg.os, hg.tape, hg.output, hg.size, fun k hk => hg.block k (by omega) (by simp)⟩
theorem below_pfr {w w1 w2 : World} {B fb wb : Nat} (h : Below B w w1) (hg : PFr w1 w2 fb wb) (hB : B ≤ w1.heap.size) (h1 : B ≤ fb) (h2 : B ≤ wb) : Below B w w2 := h.trans (hg.below h1 h2 hB)

set_option maxRecDepth 100000 in
set_option maxHeartbeats 2000000 in
theorem lives_is (w : World) : Calls Try.prog 7 #[] w fun e w' => e = .returned (.bool true) ∧ Below w.heap.size w w' := by
  go_enter Try.func7, Try.ntmps7
  go_wp2_with fail
  refine (pnew_is w w.heap.size (Nat.le_refl _)).mono ?_
  rintro e w1 ⟨pb, fb, wb, rfl, P, hg, h1, h2, h3⟩
  have T1 := Lib.hid (And.intro P (And.intro (grown_below hg) (And.intro h2 h3)))
  clear P hg h1 h2 h3
  go_wp2_with fail
  refine (wait_ok T1.out.1 5 7 (by decide) (by decide) rfl rfl (by decide)).mono ?_
  rintro e w2 ⟨rfl, P, hk⟩
  have T2 : Hid (IsPl w2 w.heap.size pb fb wb F1 [(7, 5)] ∧ Below w.heap.size w w2) := Lib.hid ⟨P, below_pfr T1.out.2.1 hk T1.out.2.1.size T1.out.2.2.1 T1.out.2.2.2⟩
  clear P hk
  go_wp2_with fail
  refine (ready_ok T2.out.1 4 (by decide)).mono ?_
  rintro e w3 ⟨rfl, P, hk⟩
  have T3 : Hid (IsPl w3 w.heap.size pb fb wb F2 [(7, 5)] ∧ Below w.heap.size w w3) := Lib.hid ⟨P, below_pfr T2.out.2 hk T2.out.2.size T1.out.2.2.1 T1.out.2.2.2⟩
  clear P hk
  go_wp2_with fail
  refine (pdue_is T3.out.1).mono ?_
  rintro e w4 ⟨rfl, hg⟩
  rw [show dueL F2 = false from rfl]
  have T4 := Lib.hid (And.intro (T3.out.1.grown hg) (below_next T3.out.2 hg T3.out.2.size))
  clear hg
  go_wp2_with fail
  refine (ready_ok T4.out.1 5 (by decide)).mono ?_
  rintro e w5 ⟨rfl, P, hk⟩
  have T5 : Hid (IsPl w5 w.heap.size pb fb wb F3 [(7, 5)] ∧ Below w.heap.size w w5) := Lib.hid ⟨P, below_pfr T4.out.2 hk T4.out.2.size T1.out.2.2.1 T1.out.2.2.2⟩
  clear P hk
  go_wp2_with fail
  refine (ptake_some T5.out.1 (by decide) least3).mono ?_
  rintro e w6 ⟨rfl, P, hk⟩
  have T6 := Lib.hid (below_pfr T5.out.2 hk T5.out.2.size T1.out.2.2.1 T1.out.2.2.2)
  clear P hk
  go_wp2_with fail
  go_ret
  exact ⟨rfl, T6.out⟩
end Go.Proofs.Ytefpbfdbpckcmaa.Pl
