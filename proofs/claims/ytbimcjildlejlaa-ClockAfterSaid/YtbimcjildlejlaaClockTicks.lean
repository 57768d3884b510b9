/-
  The walk over ClockTicks.
-/
import Derived.Test.YtbimcjildlejlaaClockLaw
import Derived.Test.YtbimcjildlejlaaArgs
namespace Go.Proofs.Ytbimcjildlejlaa.Clk
open Go.RowKit
attribute [local go_sem] max2_is max_two

set_option maxHeartbeats 400000 in
set_option linter.unusedVariables false in
theorem ticks_short (a : Option Addr) (len cap : Nat) (zs : List Int) (t d : Int) (ht : I64 t) (hd : I64 d) (w : World)
   (hl : len ≤ 60) (hnil : a = none → len = 0) (hc : ∀ b, a = some b → ∀ i, i < len → w.cell? (b.add i) = some (.int .i64 (zs.getD i 0))) (hz : ∀ i, i < len → I64 (zs.getD i 0)) :
    Calls Try.prog 6 #[.slice a len cap, .int .i64 t, .int .i64 d] w fun e w' => e = .returned (.bool true) ∧ Below w.heap.size w w' := by
  go_enter Try.func6, Try.ntmps6
  go_wp2_with fail
  refine (lives_any _).mono ?_
  rintro e w' ⟨rfl, rfl⟩
  go_wp2_with fail
  have hlt : ¬ (60 < len) := by omega
  go_loopw [8, 22] (fun v i wr => ∃ (k : Nat) (n : Int), k ≤ len ∧ i = .int .i64 k ∧ v = .int .i64 n ∧ 0 ≤ n ∧ n ≤ 9223372036854775807 ∧ wr = (w.alloc (.cells #[.int .i64 5] 26)).alloc (.cells #[.int .i64 n] 26)) (fun _ i _ => len - (intOf i).toNat)
  case atStart => exact ⟨0, 0, Nat.zero_le _, rfl, rfl, by omega, by omega, rfl⟩
  case round =>
    obtain ⟨k, n, hk, rfl, rfl, hn0, hn1, rfl⟩ := hrel
    have hn : I64 n := ⟨by omega, hn1⟩
    by_cases hlen : k < len
    · obtain ⟨b, rfl⟩ : ∃ b, a = some b := by
        cases a with
        | none => exact absurd (hnil rfl) (by omega)
        | some b => exact ⟨b, rfl⟩
      have hck := hc b rfl k hlen
      have hzk := hz k hlen
      obtain ⟨x, hx⟩ : ∃ x, zs.getD k 0 = x := ⟨_, rfl⟩
      rw [hx] at hck hzk
      clear hx hc hz hnil
      have hck2 : ((w.alloc (.cells #[.int .i64 5] 26)).alloc (.cells #[.int .i64 n] 26)).cell? (b.add k) = some (.int .i64 x) :=
        cell_later (((Below.refl _ _).alloc (Nat.le_refl _) _).alloc (by simp) _) hck
      clear hck
      have hm := max_in hzk
      have hS : I64 (sat n (mx 0 x)) := sat_in hn hm
      have hS0 : ¬ sat n (mx 0 x) < n := by unfold sat mx; unfold I64 mx at *; (repeat' split) <;> omega
      have hS1 : 0 ≤ sat n (mx 0 x) ∧ sat n (mx 0 x) ≤ 9223372036854775807 := by unfold I64 at hS; omega
      have hd0 := max_in hd
      have e8 : Hid (decide (n ≤ sat n (mx 0 x)) = true) := Lib.hid (by simp; omega)
      go_wp2_with fail
      refine (ref_any (n) (mx 0 x) hn hm _).mono ?_
      rintro e w' ⟨rfl, rfl⟩
      go_wp2_with fail
      refine (tick_any _ n x (sat n (mx 0 x)) rfl hn hzk _ (by go_simp) (by go_simp)).mono ?_
      rintro e w' ⟨rfl, rfl⟩
      go_wp2_with fail
      refine (now_any _ (sat n (mx 0 x)) _ (by go_simp)).mono ?_
      rintro e w' ⟨rfl, rfl⟩
      go_wp2_with fail
      refine (after_any _ (sat n (mx 0 x)) d hS hd _ (by go_simp)).mono ?_
      rintro e w' ⟨rfl, rfl⟩
      go_wp2_with fail
      refine (ref_any (sat n (mx 0 x)) (mx 0 d) hS hd0 _).mono ?_
      rintro e w' ⟨rfl, rfl⟩
      go_wp2_with fail
      refine (past_any _ (sat n (mx 0 x)) (t) (decide (t ≤ sat n (mx 0 x))) rfl _ (by go_simp)).mono ?_
      rintro e w' ⟨rfl, rfl⟩
      go_wp2_with fail
      refine (past_any _ (sat n (mx 0 x)) (n) (true) e8.out _ (by go_simp)).mono ?_
      rintro e w' ⟨rfl, rfl⟩
      go_wp2
      go_roundw
      case rel => exact ⟨k + 1, _, by omega, by go_num, rfl, hS1.1, hS1.2, rfl⟩
      case measure => simp [intOf]; omega
    · go_wp2_with fail
      refine (now_any _ n _ (by go_simp)).mono ?_
      rintro e w' ⟨rfl, rfl⟩
      go_wp2
      go_ret
      exact ⟨by simp, ((Below.refl _ _).alloc (Nat.le_refl _) _).alloc (by simp) _⟩

set_option maxHeartbeats 400000 in
theorem ticks_long (a : Option Addr) (len cap : Nat) (t d : Int) (w : World) (hl : 60 < len) :
    Calls Try.prog 6 #[.slice a len cap, .int .i64 t, .int .i64 d] w fun e w' => e = .returned (.bool true) ∧ Below w.heap.size w w' := by
  go_enter Try.func6, Try.ntmps6
  go_wp2_with fail
  refine (lives_any _).mono ?_
  rintro e w' ⟨rfl, rfl⟩
  go_wp2_with fail
  refine (lives_any _).mono ?_
  rintro e w' ⟨rfl, rfl⟩
  go_wp2
  go_ret
  exact ⟨rfl, ((Below.refl _ _).alloc (Nat.le_refl _) _).alloc (by simp) _⟩

theorem i64_of {n : Int} (h : (Lit.int .i64 n).wf = true) : I64 n := by
  have := bounds_i64 h
  exact ⟨this.1, this.2⟩

theorem ticks_any (a : Option Addr) (len cap : Nat) (t d : Int) (ht : (Lit.int .i64 t).wf = true) (hd : (Lit.int .i64 d).wf = true) (w : World) (ha : Args.IsFlat [.i64] w a len) :
    Calls Try.prog 6 #[.slice a len cap, .int .i64 t, .int .i64 d] w fun e w' => e = .returned (.bool true) ∧ Below w.heap.size w w' := by
  by_cases hl : 60 < len
  · exact ticks_long a len cap t d w hl
  · obtain ⟨_, hnil, f, hf⟩ := ha
    have hx : ∀ i, i < len → ∃ x, f i = [x] ∧ (Lit.int .i64 x).wf = true := fun i hi => Args.fits1 (hf i hi).1
    refine ticks_short a len cap ((List.range len).map fun i => (f i).getD 0 0) t d (i64_of ht) (i64_of hd) w (by omega) hnil (fun b hb i hi => ?_) (fun i hi => ?_)
    · obtain ⟨x, e, _⟩ := hx i hi
      have := ((hf i hi).2 b hb 0 (.int .i64 x) (by simp [e, Args.valsOf])).1
      simpa [List.getD, hi, e] using this
    · obtain ⟨x, e, hw⟩ := hx i hi
      simpa [List.getD, hi, e] using i64_of hw
end Go.Proofs.Ytbimcjildlejlaa.Clk
