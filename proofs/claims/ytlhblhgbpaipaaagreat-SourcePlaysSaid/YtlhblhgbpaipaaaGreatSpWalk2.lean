/-
  The law SourcePlays: every slice.
-/
import Derived.Test.YtlhblhgbpaipaaaGreatSpWalk
namespace Go.Proofs.YtlhblhgbpaipaaaGreat.Src
open Go.RowKit
open Go.Proofs.YtlhblhgbpaipaaaGreat.Hp
set_option linter.unusedVariables false
set_option linter.unusedSimpArgs false

theorem wf_u8s {x : Int} (h : (Lit.int .u8 x).wf = true) : 0 ≤ x ∧ x < 256 := by
  simp [Lit.wf, IntKind.min, IntKind.max, IntKind.signed, IntKind.bits] at h
  omega
theorem wf_u16s {x : Int} (h : (Lit.int .u16 x).wf = true) : 0 ≤ x ∧ x < 65536 := by
  simp [Lit.wf, IntKind.min, IntKind.max, IntKind.signed, IntKind.bits] at h
  omega
theorem wf_i64s {x : Int} (h : (Lit.int .i64 x).wf = true) : Clk.I64 x := by
  simp [Lit.wf, IntKind.min, IntKind.max, IntKind.signed, IntKind.bits] at h
  simp only [Clk.I64]
  omega
set_option maxRecDepth 100000 in
set_option maxHeartbeats 1000000 in
theorem plays_long (a : Option Addr) (len cap : Nat) (q0 g0 : Int) (w : World) (hl : 50 < len) (hm : len ≤ maxLen) :
    Calls Tryz.prog 3 #[.int .i64 q0, .slice a len cap, .int .i64 g0] w fun e w' => e = .returned (.bool true) ∧ Below w.heap.size w w' := by
  unfold maxLen at hm
  go_enter Tryz.func3, Tryz.ntmps3
  go_wp2_with fail
  refine (lives_is w).mono ?_
  rintro e w0 ⟨rfl, hb⟩
  have HB := Lib.hid hb
  clear hb
  go_wp2_with fail
  refine (lives_is w0).mono ?_
  rintro e w1 ⟨rfl, hb⟩
  have HB1 := Lib.hid (HB.out.trans (hb.mono HB.out.size))
  clear hb
  go_wp2_with fail
  refine bodyPost_ret (results_tmp rfl _ _ _) rfl ?_
  exact ⟨rfl, HB1.out⟩
theorem plays_any (a : Option Addr) (len cap : Nat) (q0 g0 : Int) (w : World) (ha : Args.IsFlat [.u8, .i64, .i64, .i64, .u16] w a len) :
    Calls Tryz.prog 3 #[.int .i64 q0, .slice a len cap, .int .i64 g0] w fun e w' => e = .returned (.bool true) ∧ Below w.heap.size w w' := by
  obtain ⟨hm, hnil, f, hf⟩ := ha
  by_cases hl : 50 < len
  · exact plays_long a len cap q0 g0 w hl hm
  · refine plays_short a len cap (fun i => (f i).getD 0 0) (fun i => (f i).getD 1 0) (fun i => (f i).getD 2 0) (fun i => (f i).getD 3 0) (fun i => (f i).getD 4 0) q0 g0 w (by omega) hnil (fun i hi => ?_) (fun b hb i hi => ?_)
    · obtain ⟨x, y, z, u, v, e, h1, _, _, h4, h5⟩ := Args.fits5 (hf i hi).1
      simp only [e, List.getD_cons_zero, List.getD_cons_succ]
      exact ⟨(wf_u8s h1).1, wf_i64s h4, wf_u16s h5⟩
    · obtain ⟨x, y, z, u, v, e, _⟩ := Args.fits5 (hf i hi).1
      have h := (hf i hi).2 b hb
      rw [e] at h
      have h0 := (h 0 (.int .u8 x) rfl).1
      have h1 := (h 1 (.int .i64 y) rfl).1
      have h2 := (h 2 (.int .i64 z) rfl).1
      have h3 := (h 3 (.int .i64 u) rfl).1
      have h4 := (h 4 (.int .u16 v) rfl).1
      simp only [e, List.getD_cons_zero, List.getD_cons_succ]
      exact ⟨h0, h1, h2, h3, h4⟩
end Go.Proofs.YtlhblhgbpaipaaaGreat.Src
