/-
  The law TimerPlays: every slice.
-/
import Derived.Test.YtmaahidipbghfaaTpWalk
namespace Go.Proofs.Ytmaahidipbghfaa.Tm
open Go.RowKit
set_option linter.unusedVariables false
set_option linter.unusedSimpArgs false

theorem wf_u8' {x : Int} (h : (Lit.int .u8 x).wf = true) : 0 ≤ x ∧ x < 256 := by
  simp [Lit.wf, IntKind.min, IntKind.max, IntKind.signed, IntKind.bits] at h
  omega
set_option maxRecDepth 100000 in
set_option maxHeartbeats 1000000 in
theorem plays_long (a : Option Addr) (len cap : Nat) (q0 g0 : Int) (w : World) (hl : 60 < len) (hm : len ≤ maxLen) :
    Calls Try.prog 6 #[.int .i64 q0, .slice a len cap, .int .i64 g0] w fun e w' => e = .returned (.bool true) ∧ Below w.heap.size w w' := by
  unfold maxLen at hm
  go_enter Try.func6, Try.ntmps6
  go_wp2_with fail
  refine (lives_is w).mono ?_
  rintro e w0 ⟨rfl, hb⟩
  have HB := Lib.hid hb
  clear hb
  go_wp2_with fail
  refine (lives_is w0).mono ?_
  rintro e w1 ⟨rfl, hb⟩
  have HB1 := Lib.hid (HB.out.trans (hb.mono HB.out.size))
  clear hb
  go_wp2_with fail
  refine bodyPost_ret (results_tmp rfl _ _ _) rfl ?_
  exact ⟨rfl, HB1.out⟩
theorem plays_any (a : Option Addr) (len cap : Nat) (q0 g0 : Int) (w : World) (ha : Args.IsFlat [.u8, .i64, .i64, .i64] w a len) :
    Calls Try.prog 6 #[.int .i64 q0, .slice a len cap, .int .i64 g0] w fun e w' => e = .returned (.bool true) ∧ Below w.heap.size w w' := by
  obtain ⟨hm, hnil, f, hf⟩ := ha
  by_cases hl : 60 < len
  · exact plays_long a len cap q0 g0 w hl hm
  · refine plays_short a len cap (fun i => (f i).getD 0 0) (fun i => (f i).getD 1 0) (fun i => (f i).getD 2 0) (fun i => (f i).getD 3 0) q0 g0 w (by omega) hnil (fun i hi => ?_) (fun b hb i hi => ?_)
    · obtain ⟨x, y, z, u, e, h1, _⟩ := Args.fits4 (hf i hi).1
      simp only [e, List.getD_cons_zero, List.getD_cons_succ]
      exact (wf_u8' h1).1
    · obtain ⟨x, y, z, u, e, _⟩ := Args.fits4 (hf i hi).1
      have h := (hf i hi).2 b hb
      rw [e] at h
      have h0 := (h 0 (.int .u8 x) rfl).1
      have h1 := (h 1 (.int .i64 y) rfl).1
      have h2 := (h 2 (.int .i64 z) rfl).1
      have h3 := (h 3 (.int .i64 u) rfl).1
      simp only [e, List.getD_cons_zero, List.getD_cons_succ]
      exact ⟨h0, h1, h2, h3⟩
end Go.Proofs.Ytmaahidipbghfaa.Tm
