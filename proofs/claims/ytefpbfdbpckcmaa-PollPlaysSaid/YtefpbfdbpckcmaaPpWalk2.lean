/-
  The law PollPlays: every slice.
-/
import Derived.Test.YtefpbfdbpckcmaaPpWalk
namespace Go.Proofs.Ytefpbfdbpckcmaa.Pl
open Go.RowKit
set_option linter.unusedVariables false

theorem wf_u16' {x : Int} (h : (Lit.int .u16 x).wf = true) : 0 ≤ x ∧ x < 65536 := by
  simp [Lit.wf, IntKind.min, IntKind.max, IntKind.signed, IntKind.bits] at h
  omega
theorem wf_u8' {x : Int} (h : (Lit.int .u8 x).wf = true) : 0 ≤ x ∧ x < 256 := by
  simp [Lit.wf, IntKind.min, IntKind.max, IntKind.signed, IntKind.bits] at h
  omega
set_option maxRecDepth 100000 in
set_option maxHeartbeats 1000000 in
theorem plays_long (a : Option Addr) (len cap : Nat) (f0 g0 : Int) (w : World) (hl : 60 < len) (hm : len ≤ maxLen) :
    Calls Try.prog 6 #[.slice a len cap, .int .u16 f0, .int .i64 g0] w fun e w' => e = .returned (.bool true) ∧ Below w.heap.size w w' := by
  unfold maxLen at hm
  go_enter Try.func6, Try.ntmps6
  go_wp2_with fail
  refine (lives_is w).mono ?_
  rintro e w0 ⟨rfl, hb⟩
  have HB := Lib.hid hb
  clear hb
  go_wp2_with fail
  refine (lives_is w0).mono ?_
  rintro e w1 ⟨rfl, hb⟩
  have HB1 := Lib.hid (HB.out.trans (hb.mono HB.out.size))
  clear hb
  go_wp2_with fail
  refine bodyPost_ret (results_tmp rfl _ _ _) rfl ?_
  exact ⟨rfl, HB1.out⟩
theorem plays_any (a : Option Addr) (len cap : Nat) (f0 g0 : Int) (w : World) (hf0 : (Lit.int .u16 f0).wf = true) (ha : Args.IsFlat [.u8, .u16, .i64] w a len) :
    Calls Try.prog 6 #[.slice a len cap, .int .u16 f0, .int .i64 g0] w fun e w' => e = .returned (.bool true) ∧ Below w.heap.size w w' := by
  obtain ⟨hm, hnil, f, hf⟩ := ha
  by_cases hl : 60 < len
  · exact plays_long a len cap f0 g0 w hl hm
  · refine plays_short a len cap (fun i => (f i).getD 0 0) (fun i => (f i).getD 1 0) (fun i => (f i).getD 2 0) f0 g0 w (by omega) (wf_u16' hf0) hnil (fun i hi => ?_) (fun b hb i hi => ?_)
    · obtain ⟨x, y, z, e, h1, h2, _⟩ := Args.fits3 (hf i hi).1
      simp only [e, List.getD_cons_zero, List.getD_cons_succ]
      exact ⟨(wf_u8' h1).1, wf_u16' h2⟩
    · obtain ⟨x, y, z, e, _⟩ := Args.fits3 (hf i hi).1
      have h := (hf i hi).2 b hb
      rw [e] at h
      have h0 := (h 0 (.int .u8 x) rfl).1
      have h1 := (h 1 (.int .u16 y) rfl).1
      have h2 := (h 2 (.int .i64 z) rfl).1
      simp only [e, List.getD_cons_zero, List.getD_cons_succ]
      exact ⟨h0, h1, h2⟩
end Go.Proofs.Ytefpbfdbpckcmaa.Pl
