/-
  Walks over the clock.
-/
import Derived.Test.YtlhblhgbpaipaaaRows
import Derived.WalkKit
import Derived.WalkSpells
import Derived.WalkLawsBesides
import Derived.Lib.Hide
namespace Go.Proofs.Ytlhblhgbpaipaaa.Clk
open Go.RowKit

/-- Go's max of two. -/
def mx (a b : Int) : Int := if a < b then b else a
theorem max2_is (k k' : IntKind) (x y : Int) : Builtin.max2 (.int k x) (.int k' y) = pure (.int k (mx x y)) := by
  simp only [Builtin.max2, gt_iff_lt, mx]
theorem max_two (ats : Array TypeId) (ty : TypeId) (a b : Value) : Builtin.max_ ats ty #[a, b] = (Builtin.max2 a b >>= fun s => pure s) := by simp only [Builtin.max_, List.foldlM_cons, List.foldlM_nil]
attribute [local go_sem] max2_is max_two

/-- The sum, held at either end. -/
def sat (t d : Int) : Int := if 9223372036854775807 < t + d then 9223372036854775807 else if t + d < -9223372036854775808 then -9223372036854775808 else t + d

def I64 (t : Int) : Prop := -9223372036854775808 ≤ t ∧ t ≤ 9223372036854775807

theorem wrap_in {x : Int} (h : I64 x) : wrap64 x = x := by unfold wrap64; unfold I64 at h; omega

theorem sat_in {t d : Int} (_ht : I64 t) (_hd : I64 d) : I64 (sat t d) := by
  unfold sat I64 at *; (repeat' split) <;> omega

set_option maxHeartbeats 400000 in
theorem sum_any (t d : Int) (ht : I64 t) (hd : I64 d) (w : World) :
    Calls Try.prog 39 #[.int .i64 t, .int .i64 d] w fun e w' => e = .returned (.int .i64 (sat t d)) ∧ w = w' := by
  have H : Hid (0 < d ∧ wrap64 (t + d) < t ∧ sat t d = 9223372036854775807 ∨ 0 < d ∧ ¬ wrap64 (t + d) < t ∧ sat t d = wrap64 (t + d) ∨
      d < 0 ∧ t < wrap64 (t + d) ∧ sat t d = -9223372036854775808 ∨ d < 0 ∧ ¬ t < wrap64 (t + d) ∧ sat t d = wrap64 (t + d) ∨ d = 0 ∧ sat t d = wrap64 (t + d)) := by
    refine Lib.hid ?_
    unfold I64 at *; unfold sat wrap64
    (repeat' split) <;> omega
  clear ht hd
  rcases H.out with ⟨c1, c2, hs⟩ | ⟨c1, c2, hs⟩ | ⟨c1, c2, hs⟩ | ⟨c1, c2, hs⟩ | ⟨c1, hs⟩
  · rw [hs]; clear hs H
    go_enter Try.func39, Try.ntmps39
    go_wp2
    go_ret
    exact ⟨rfl, rfl⟩
  · rw [hs]; clear hs H
    have c3 : ¬ d < 0 := by omega
    go_enter Try.func39, Try.ntmps39
    go_wp2
    go_ret
    exact ⟨rfl, rfl⟩
  · rw [hs]; clear hs H
    have c3 : ¬ 0 < d := by omega
    go_enter Try.func39, Try.ntmps39
    go_wp2
    go_ret
    exact ⟨rfl, rfl⟩
  · rw [hs]; clear hs H
    have c3 : ¬ 0 < d := by omega
    go_enter Try.func39, Try.ntmps39
    go_wp2
    go_ret
    exact ⟨rfl, rfl⟩
  · rw [hs]; clear hs H
    have c3 : ¬ 0 < d := by omega
    have c4 : ¬ d < 0 := by omega
    clear c1
    go_enter Try.func39, Try.ntmps39
    go_wp2
    go_ret
    exact ⟨rfl, rfl⟩

theorem max_in {d : Int} (hd : I64 d) : I64 (mx 0 d) := by unfold I64 mx at *; split <;> omega

set_option maxHeartbeats 400000 in
theorem after_any (p : Addr) (t d : Int) (ht : I64 t) (hd : I64 d) (w : World) (hc : w.cell? p = some (.int .i64 t)) :
    Calls Try.prog 26 #[.pointer (some p), .int .i64 d] w fun e w' => e = .returned (.int .i64 (sat t (mx 0 d))) ∧ w = w' := by
  have h0 := max_in hd
  go_enter Try.func26, Try.ntmps26
  go_wp2_with (go_at_call 39; refine (sum_any t _ ht h0 _).mono ?_; rintro e w' ⟨rfl, rfl⟩)
  go_ret
  exact ⟨rfl, rfl⟩

set_option maxHeartbeats 400000 in
theorem tick_any (p : Addr) (t d r : Int) (hr : sat t (mx 0 d) = r) (ht : I64 t) (hd : I64 d) (w : World) (hc : w.cell? p = some (.int .i64 t)) (hf : w.frozen? p = false) :
    Calls Try.prog 21 #[.pointer (some p), .int .i64 d] w fun e w' => e = .returned (.int .i64 r) ∧ w.setCell p (.int .i64 r) = w' := by
  subst hr
  go_enter Try.func21, Try.ntmps21
  go_wp2_with (go_at_call 26; refine (after_any p t d ht hd _ hc).mono ?_; rintro e w' ⟨rfl, rfl⟩)
  go_ret
  exact ⟨rfl, rfl⟩

theorem now_any (p : Addr) (t : Int) (w : World) (hc : w.cell? p = some (.int .i64 t)) :
    Calls Try.prog 33 #[.pointer (some p)] w fun e w' => e = .returned (.int .i64 t) ∧ w = w' := by
  go_enter Try.func33, Try.ntmps33
  go_wp2
  go_ret
  exact ⟨rfl, rfl⟩

end Go.Proofs.Ytlhblhgbpaipaaa.Clk
