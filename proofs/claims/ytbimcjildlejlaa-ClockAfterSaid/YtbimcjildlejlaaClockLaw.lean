/-
  Walks over the statements of the clock.
-/
import Derived.Test.YtbimcjildlejlaaClock
namespace Go.Proofs.Ytbimcjildlejlaa.Clk
open Go.RowKit
attribute [local go_sem] max2_is max_two

set_option maxHeartbeats 400000 in
theorem lives_any (w : World) :
    Calls Try.prog 7 #[] w fun e w' => e = .returned (.bool true) ∧ w.alloc (.cells #[.int .i64 5] 26) = w' := by
  have h0 : I64 0 := ⟨by decide, by decide⟩
  have h5 : I64 5 := ⟨by decide, by decide⟩
  have hm : I64 9223372036854775807 := ⟨by decide, by decide⟩
  go_enter Try.func7, Try.ntmps7
  go_wp2_with fail
  refine (tick_any _ 0 5 5 (by decide) h0 h5 _ (by go_simp) (by go_simp)).mono ?_
  rintro e w' ⟨rfl, rfl⟩
  go_wp2_with fail
  refine (after_any _ 5 _ h5 hm _ (by go_simp)).mono ?_
  rintro e w' ⟨rfl, rfl⟩
  rw [show sat 5 (mx 0 9223372036854775807) = 9223372036854775807 from by decide]
  go_wp2
  go_ret
  exact ⟨rfl, by go_simp⟩

theorem ref_any (t d : Int) (ht : I64 t) (hd : I64 d) (w : World) :
    Calls Try.prog 9 #[.int .i64 t, .int .i64 d] w fun e w' => e = .returned (.int .i64 (sat t d)) ∧ w = w' := by
  have H : Hid (0 < d ∧ wrap64 (9223372036854775807 - d) < t ∧ sat t d = 9223372036854775807 ∨ 0 < d ∧ ¬ wrap64 (9223372036854775807 - d) < t ∧ sat t d = wrap64 (t + d) ∨
      d < 0 ∧ t < wrap64 (-9223372036854775808 - d) ∧ sat t d = -9223372036854775808 ∨ d < 0 ∧ ¬ t < wrap64 (-9223372036854775808 - d) ∧ sat t d = wrap64 (t + d) ∨ d = 0 ∧ sat t d = wrap64 (t + d)) := by
    refine Lib.hid ?_
    unfold I64 at *; unfold sat wrap64
    (repeat' split) <;> omega
  clear ht hd
  rcases H.out with ⟨c1, c2, hs⟩ | ⟨c1, c2, hs⟩ | ⟨c1, c2, hs⟩ | ⟨c1, c2, hs⟩ | ⟨c1, hs⟩
  · rw [hs]; clear hs H
    go_enter Try.func9, Try.ntmps9
    go_wp2
    go_ret
    exact ⟨rfl, rfl⟩
  · rw [hs]; clear hs H
    have c3 : ¬ d < 0 := by omega
    go_enter Try.func9, Try.ntmps9
    go_wp2
    go_ret
    exact ⟨rfl, rfl⟩
  · rw [hs]; clear hs H
    have c3 : ¬ 0 < d := by omega
    go_enter Try.func9, Try.ntmps9
    go_wp2
    go_ret
    exact ⟨rfl, rfl⟩
  · rw [hs]; clear hs H
    have c3 : ¬ 0 < d := by omega
    go_enter Try.func9, Try.ntmps9
    go_wp2
    go_ret
    exact ⟨rfl, rfl⟩
  · rw [hs]; clear hs H
    have c3 : ¬ 0 < d := by omega
    have c4 : ¬ d < 0 := by omega
    clear c1
    go_enter Try.func9, Try.ntmps9
    go_wp2
    go_ret
    exact ⟨rfl, rfl⟩

set_option maxHeartbeats 400000 in
theorem sums_any (t d : Int) (ht : I64 t) (hd : I64 d) (w : World) :
    Calls Try.prog 3 #[.int .i64 t, .int .i64 d] w fun e w' => e = .returned (.bool true) ∧ Below w.heap.size w w' := by
  have h0 : I64 0 := ⟨by decide, by decide⟩
  have e1 : Hid (sat d t = sat t d) := Lib.hid (by unfold sat; rw [Int.add_comm])
  have e2 : Hid (sat t 0 = t) := Lib.hid (by unfold sat; unfold I64 at ht; (repeat' split) <;> omega)
  go_enter Try.func3, Try.ntmps3
  go_wp2_with fail
  refine (lives_any _).mono ?_
  rintro e w' ⟨rfl, rfl⟩
  go_wp2_with fail
  refine (sum_any t d ht hd _).mono ?_
  rintro e w' ⟨rfl, rfl⟩
  go_wp2_with fail
  refine (ref_any t d ht hd _).mono ?_
  rintro e w' ⟨rfl, rfl⟩
  go_wp2_with fail
  refine (sum_any d t hd ht _).mono ?_
  rintro e w' ⟨rfl, rfl⟩
  rw [e1.out]
  go_wp2_with fail
  refine (sum_any t d ht hd _).mono ?_
  rintro e w' ⟨rfl, rfl⟩
  go_wp2_with fail
  refine (sum_any t 0 ht h0 _).mono ?_
  rintro e w' ⟨rfl, rfl⟩
  rw [e2.out]
  go_wp2
  go_ret
  exact ⟨by simp, (Below.refl _ _).alloc (Nat.le_refl _) _⟩
set_option maxHeartbeats 400000 in
theorem parts_any (a b : Int) (ha : I64 a) (hb : I64 b) (w : World) :
    Calls Try.prog 4 #[.int .i64 a, .int .i64 b] w fun e w' => e = .returned (.bool true) ∧ Below w.heap.size w w' := by
  have h0 : I64 0 := ⟨by decide, by decide⟩
  have hx := max_in ha
  have hy := max_in hb
  have hS := sat_in hx hy
  have e1 : Hid (sat 0 (mx 0 a) = mx 0 a) := Lib.hid (by unfold sat mx; unfold I64 mx at *; (repeat' split) <;> omega)
  have e3 : Hid (sat 0 (mx 0 (sat (mx 0 a) (mx 0 b))) = sat (mx 0 a) (mx 0 b)) := Lib.hid (by unfold sat mx; unfold I64 mx at *; (repeat' split) <;> omega)
  have hge : decide (mx (mx 0 a) (mx 0 b) ≤ sat (mx 0 a) (mx 0 b)) = true := by
    simp only [decide_eq_true_eq]
    unfold sat mx; unfold I64 mx at *; (repeat' split) <;> omega
  by_cases c1 : 4611686018427387904 ≤ mx 0 a
  · have b1 : decide (4611686018427387904 ≤ mx 0 a) = true := by simpa using c1
    clear c1
    go_enter Try.func4, Try.ntmps4
    go_wp2_with fail
    refine (lives_any _).mono ?_
    rintro e w' ⟨rfl, rfl⟩
    go_wp2_with fail
    refine (tick_any _ 0 a (mx 0 a) e1.out h0 ha _ (by go_simp) (by go_simp)).mono ?_
    rintro e w' ⟨rfl, rfl⟩
    go_wp2_with fail
    refine (tick_any _ (mx 0 a) b _ rfl hx hb _ (by go_simp) (by go_simp)).mono ?_
    rintro e w' ⟨rfl, rfl⟩
    go_wp2_with fail
    refine (sum_any (mx 0 a) (mx 0 b) hx hy _).mono ?_
    rintro e w' ⟨rfl, rfl⟩
    go_wp2_with fail
    refine (tick_any _ 0 _ _ e3.out h0 hS _ (by go_simp) (by go_simp)).mono ?_
    rintro e w' ⟨rfl, rfl⟩
    go_wp2_with fail
    refine (now_any _ (sat (mx 0 a) (mx 0 b)) _ (by go_simp)).mono ?_
    rintro e w' ⟨rfl, rfl⟩
    go_wp2_with fail
    refine (now_any _ (sat (mx 0 a) (mx 0 b)) _ (by go_simp)).mono ?_
    rintro e w' ⟨rfl, rfl⟩
    go_wp2_with fail
    refine (now_any _ (sat (mx 0 a) (mx 0 b)) _ (by go_simp)).mono ?_
    rintro e w' ⟨rfl, rfl⟩
    go_wp2
    go_ret
    exact ⟨rfl, (((Below.refl _ _).alloc (Nat.le_refl _) _).alloc (by simp) _).alloc (by simp; omega) _⟩
  · have b1 : decide (4611686018427387904 ≤ mx 0 a) = false := by simpa using c1
    by_cases c2 : 4611686018427387904 ≤ mx 0 b
    · have b2 : decide (4611686018427387904 ≤ mx 0 b) = true := by simpa using c2
      clear c1 c2
      go_enter Try.func4, Try.ntmps4
      go_wp2_with fail
      refine (lives_any _).mono ?_
      rintro e w' ⟨rfl, rfl⟩
      go_wp2_with fail
      refine (tick_any _ 0 a (mx 0 a) e1.out h0 ha _ (by go_simp) (by go_simp)).mono ?_
      rintro e w' ⟨rfl, rfl⟩
      go_wp2_with fail
      refine (tick_any _ (mx 0 a) b _ rfl hx hb _ (by go_simp) (by go_simp)).mono ?_
      rintro e w' ⟨rfl, rfl⟩
      go_wp2_with fail
      refine (sum_any (mx 0 a) (mx 0 b) hx hy _).mono ?_
      rintro e w' ⟨rfl, rfl⟩
      go_wp2_with fail
      refine (tick_any _ 0 _ _ e3.out h0 hS _ (by go_simp) (by go_simp)).mono ?_
      rintro e w' ⟨rfl, rfl⟩
      go_wp2_with fail
      refine (now_any _ (sat (mx 0 a) (mx 0 b)) _ (by go_simp)).mono ?_
      rintro e w' ⟨rfl, rfl⟩
      go_wp2_with fail
      refine (now_any _ (sat (mx 0 a) (mx 0 b)) _ (by go_simp)).mono ?_
      rintro e w' ⟨rfl, rfl⟩
      go_wp2_with fail
      refine (now_any _ (sat (mx 0 a) (mx 0 b)) _ (by go_simp)).mono ?_
      rintro e w' ⟨rfl, rfl⟩
      go_wp2
      go_ret
      exact ⟨rfl, (((Below.refl _ _).alloc (Nat.le_refl _) _).alloc (by simp) _).alloc (by simp; omega) _⟩
    · have b2 : decide (4611686018427387904 ≤ mx 0 b) = false := by simpa using c2
      have e4 : Hid (sat (mx 0 a) (mx 0 b) = wrap64 (mx 0 a + mx 0 b)) := Lib.hid (by unfold sat wrap64 mx; unfold I64 mx at *; (repeat' split) <;> omega)
      clear c1 c2
      go_enter Try.func4, Try.ntmps4
      go_wp2_with fail
      refine (lives_any _).mono ?_
      rintro e w' ⟨rfl, rfl⟩
      go_wp2_with fail
      refine (tick_any _ 0 a (mx 0 a) e1.out h0 ha _ (by go_simp) (by go_simp)).mono ?_
      rintro e w' ⟨rfl, rfl⟩
      go_wp2_with fail
      refine (tick_any _ (mx 0 a) b _ rfl hx hb _ (by go_simp) (by go_simp)).mono ?_
      rintro e w' ⟨rfl, rfl⟩
      go_wp2_with fail
      refine (sum_any (mx 0 a) (mx 0 b) hx hy _).mono ?_
      rintro e w' ⟨rfl, rfl⟩
      go_wp2_with fail
      refine (tick_any _ 0 _ _ e3.out h0 hS _ (by go_simp) (by go_simp)).mono ?_
      rintro e w' ⟨rfl, rfl⟩
      go_wp2_with fail
      refine (now_any _ (sat (mx 0 a) (mx 0 b)) _ (by go_simp)).mono ?_
      rintro e w' ⟨rfl, rfl⟩
      go_wp2_with fail
      refine (now_any _ (sat (mx 0 a) (mx 0 b)) _ (by go_simp)).mono ?_
      rintro e w' ⟨rfl, rfl⟩
      go_wp2_with fail
      refine (now_any _ (sat (mx 0 a) (mx 0 b)) _ (by go_simp)).mono ?_
      rintro e w' ⟨rfl, rfl⟩
      go_wp2_with fail
      refine (now_any _ (sat (mx 0 a) (mx 0 b)) _ (by go_simp)).mono ?_
      rintro e w' ⟨rfl, rfl⟩
      go_wp2
      go_ret
      exact ⟨by rw [e4.out]; simp, (((Below.refl _ _).alloc (Nat.le_refl _) _).alloc (by simp) _).alloc (by simp; omega) _⟩

set_option maxHeartbeats 1000000 in
theorem aftr_law (t d l : Int) (ht : I64 t) (hd : I64 d) (hl : I64 l) (w : World) :
    Calls Try.prog 5 #[.int .i64 t, .int .i64 d, .int .i64 l] w fun e w' => e = .returned (.bool true) ∧ Below w.heap.size w w' := by
  have h0 : I64 0 := ⟨by decide, by decide⟩
  have hx := max_in ht
  have hx0 : 0 ≤ mx 0 t ∧ mx 0 t ≤ 9223372036854775807 := by unfold mx; unfold I64 at ht; split <;> omega
  have e1 : Hid (sat 0 (mx 0 t) = mx 0 t) := Lib.hid (by unfold sat mx; unfold I64 mx at *; (repeat' split) <;> omega)
  obtain ⟨u, hu0⟩ : ∃ u, sat (mx 0 t) (mx 0 d) = u := ⟨_, rfl⟩
  have hu := Lib.hid hu0
  have hU : I64 u := by rw [← hu0]; exact sat_in hx (max_in hd)
  have hU1 : u ≤ 9223372036854775807 := hU.2
  have hge0 : ¬ u < mx 0 t := by
    rw [← hu0]; unfold sat mx; unfold I64 mx at *; (repeat' split) <;> omega
  have hge : decide (u < mx 0 t) = false := by simpa using hge0
  have hpast : Hid (decide (u ≤ mx 0 t) = (u == mx 0 t)) := Lib.hid (by
    rw [Bool.eq_iff_iff]; simp only [decide_eq_true_eq, beq_iff_eq]; omega)
  have h5 : I64 (mx 0 (u - mx 0 t)) := by unfold mx at *; unfold I64 at *; (repeat' split) <;> omega
  have e5 : Hid (sat (mx 0 t) (mx 0 (mx 0 (u - mx 0 t))) = u) := Lib.hid (by
    have : mx 0 (mx 0 (u - mx 0 t)) = u - mx 0 t := by unfold mx at *; (repeat' split) <;> omega
    rw [this]; unfold sat; (repeat' split) <;> omega)
  have e8 : Hid (decide (u ≤ u) = true) := Lib.hid (by simp)
  by_cases c1 : 0 < d ∧ 0 < l ∧ l < d ∧ u < 9223372036854775807
  · obtain ⟨c1, c2, c3, c4⟩ := c1
    have h6 : I64 (d - l) := by unfold I64 at *; omega
    have hud : u = mx 0 t + d := by
      rw [← hu0] at c4 ⊢; unfold sat mx at *; unfold I64 at *; (repeat' split) <;> omega
    have e6 : Hid (sat (mx 0 t) (mx 0 (d - l)) = mx 0 t + (d - l)) := Lib.hid (by
      have : mx 0 (d - l) = d - l := by unfold mx; split <;> omega
      rw [this]; unfold sat; (repeat' split) <;> omega)
    have e7 : Hid (decide (u ≤ mx 0 t + (d - l)) = false) := Lib.hid (by simp; omega)
    have d1 : d ≤ 9223372036854775807 := hd.2
    clear hud hu0
    go_enter Try.func5, Try.ntmps5
    go_wp2_with fail
    refine (lives_any _).mono ?_
    rintro e w' ⟨rfl, rfl⟩
    go_wp2_with fail
    refine (tick_any _ (0) (t) (mx 0 t) e1.out h0 ht _ (by go_simp) (by go_simp)).mono ?_
    rintro e w' ⟨rfl, rfl⟩
    go_wp2_with fail
    refine (after_any _ (mx 0 t) d hx hd _ (by go_simp)).mono ?_
    rintro e w' ⟨rfl, rfl⟩
    rw [hu.out]
    go_wp2_with fail
    refine (now_any _ (mx 0 t) _ (by go_simp)).mono ?_
    rintro e w' ⟨rfl, rfl⟩
    go_wp2_with fail
    refine (past_any _ (mx 0 t) (u) (u == mx 0 t) hpast.out _ (by go_simp)).mono ?_
    rintro e w' ⟨rfl, rfl⟩
    go_wp2_with fail
    refine (now_any _ (mx 0 t) _ (by go_simp)).mono ?_
    rintro e w' ⟨rfl, rfl⟩
    go_wp2_with fail
    refine (tick_any _ (0) (t) (mx 0 t) e1.out h0 ht _ (by go_simp) (by go_simp)).mono ?_
    rintro e w' ⟨rfl, rfl⟩
    go_wp2_with fail
    refine (now_any _ (mx 0 t) _ (by go_simp)).mono ?_
    rintro e w' ⟨rfl, rfl⟩
    go_wp2_with fail
    refine (tick_any _ (mx 0 t) (mx 0 (u - mx 0 t)) (u) e5.out hx h5 _ (by go_simp) (by go_simp)).mono ?_
    rintro e w' ⟨rfl, rfl⟩
    go_wp2_with fail
    refine (tick_any _ (0) (t) (mx 0 t) e1.out h0 ht _ (by go_simp) (by go_simp)).mono ?_
    rintro e w' ⟨rfl, rfl⟩
    go_wp2_with fail
    refine (tick_any _ (mx 0 t) (d - l) (mx 0 t + (d - l)) e6.out hx h6 _ (by go_simp) (by go_simp)).mono ?_
    rintro e w' ⟨rfl, rfl⟩
    go_wp2_with fail
    refine (past_any _ (mx 0 t + (d - l)) (u) (false) e7.out _ (by go_simp)).mono ?_
    rintro e w' ⟨rfl, rfl⟩
    go_wp2_with fail
    refine (past_any _ (u) (u) (true) e8.out _ (by go_simp)).mono ?_
    rintro e w' ⟨rfl, rfl⟩
    go_wp2_with fail
    refine (now_any _ (u) _ (by go_simp)).mono ?_
    rintro e w' ⟨rfl, rfl⟩
    go_wp2
    go_ret
    exact ⟨by simp, (((((Below.refl _ _).alloc (by simp <;> omega) _).alloc (by simp <;> omega) _).alloc (by simp <;> omega) _).alloc (by simp <;> omega) _)⟩
  · rcases (show ¬ 0 < d ∨ 0 < d ∧ ¬ 0 < l ∨ 0 < d ∧ 0 < l ∧ ¬ l < d ∨ 0 < d ∧ 0 < l ∧ l < d ∧ ¬ u < 9223372036854775807 from by omega) with c | ⟨c, c2⟩ | ⟨c, c2, c3⟩ | ⟨c, c2, c3, c4⟩
    · clear c1 hu0
      go_enter Try.func5, Try.ntmps5
      go_wp2_with fail
      refine (lives_any _).mono ?_
      rintro e w' ⟨rfl, rfl⟩
      go_wp2_with fail
      refine (tick_any _ (0) (t) (mx 0 t) e1.out h0 ht _ (by go_simp) (by go_simp)).mono ?_
      rintro e w' ⟨rfl, rfl⟩
      go_wp2_with fail
      refine (after_any _ (mx 0 t) d hx hd _ (by go_simp)).mono ?_
      rintro e w' ⟨rfl, rfl⟩
      rw [hu.out]
      go_wp2_with fail
      refine (now_any _ (mx 0 t) _ (by go_simp)).mono ?_
      rintro e w' ⟨rfl, rfl⟩
      go_wp2_with fail
      refine (past_any _ (mx 0 t) (u) (u == mx 0 t) hpast.out _ (by go_simp)).mono ?_
      rintro e w' ⟨rfl, rfl⟩
      go_wp2_with fail
      refine (now_any _ (mx 0 t) _ (by go_simp)).mono ?_
      rintro e w' ⟨rfl, rfl⟩
      go_wp2_with fail
      refine (tick_any _ (0) (t) (mx 0 t) e1.out h0 ht _ (by go_simp) (by go_simp)).mono ?_
      rintro e w' ⟨rfl, rfl⟩
      go_wp2_with fail
      refine (now_any _ (mx 0 t) _ (by go_simp)).mono ?_
      rintro e w' ⟨rfl, rfl⟩
      go_wp2_with fail
      refine (tick_any _ (mx 0 t) (mx 0 (u - mx 0 t)) (u) e5.out hx h5 _ (by go_simp) (by go_simp)).mono ?_
      rintro e w' ⟨rfl, rfl⟩
      go_wp2_with fail
      refine (past_any _ (u) (u) (true) e8.out _ (by go_simp)).mono ?_
      rintro e w' ⟨rfl, rfl⟩
      go_wp2_with fail
      refine (now_any _ (u) _ (by go_simp)).mono ?_
      rintro e w' ⟨rfl, rfl⟩
      go_wp2
      go_ret
      exact ⟨by simp, (((((Below.refl _ _).alloc (by simp <;> omega) _).alloc (by simp <;> omega) _).alloc (by simp <;> omega) _).alloc (by simp <;> omega) _)⟩
    · clear c1 hu0
      go_enter Try.func5, Try.ntmps5
      go_wp2_with fail
      refine (lives_any _).mono ?_
      rintro e w' ⟨rfl, rfl⟩
      go_wp2_with fail
      refine (tick_any _ (0) (t) (mx 0 t) e1.out h0 ht _ (by go_simp) (by go_simp)).mono ?_
      rintro e w' ⟨rfl, rfl⟩
      go_wp2_with fail
      refine (after_any _ (mx 0 t) d hx hd _ (by go_simp)).mono ?_
      rintro e w' ⟨rfl, rfl⟩
      rw [hu.out]
      go_wp2_with fail
      refine (now_any _ (mx 0 t) _ (by go_simp)).mono ?_
      rintro e w' ⟨rfl, rfl⟩
      go_wp2_with fail
      refine (past_any _ (mx 0 t) (u) (u == mx 0 t) hpast.out _ (by go_simp)).mono ?_
      rintro e w' ⟨rfl, rfl⟩
      go_wp2_with fail
      refine (now_any _ (mx 0 t) _ (by go_simp)).mono ?_
      rintro e w' ⟨rfl, rfl⟩
      go_wp2_with fail
      refine (tick_any _ (0) (t) (mx 0 t) e1.out h0 ht _ (by go_simp) (by go_simp)).mono ?_
      rintro e w' ⟨rfl, rfl⟩
      go_wp2_with fail
      refine (now_any _ (mx 0 t) _ (by go_simp)).mono ?_
      rintro e w' ⟨rfl, rfl⟩
      go_wp2_with fail
      refine (tick_any _ (mx 0 t) (mx 0 (u - mx 0 t)) (u) e5.out hx h5 _ (by go_simp) (by go_simp)).mono ?_
      rintro e w' ⟨rfl, rfl⟩
      go_wp2_with fail
      refine (past_any _ (u) (u) (true) e8.out _ (by go_simp)).mono ?_
      rintro e w' ⟨rfl, rfl⟩
      go_wp2_with fail
      refine (now_any _ (u) _ (by go_simp)).mono ?_
      rintro e w' ⟨rfl, rfl⟩
      go_wp2
      go_ret
      exact ⟨by simp, (((((Below.refl _ _).alloc (by simp <;> omega) _).alloc (by simp <;> omega) _).alloc (by simp <;> omega) _).alloc (by simp <;> omega) _)⟩
    · clear c1 hu0
      go_enter Try.func5, Try.ntmps5
      go_wp2_with fail
      refine (lives_any _).mono ?_
      rintro e w' ⟨rfl, rfl⟩
      go_wp2_with fail
      refine (tick_any _ (0) (t) (mx 0 t) e1.out h0 ht _ (by go_simp) (by go_simp)).mono ?_
      rintro e w' ⟨rfl, rfl⟩
      go_wp2_with fail
      refine (after_any _ (mx 0 t) d hx hd _ (by go_simp)).mono ?_
      rintro e w' ⟨rfl, rfl⟩
      rw [hu.out]
      go_wp2_with fail
      refine (now_any _ (mx 0 t) _ (by go_simp)).mono ?_
      rintro e w' ⟨rfl, rfl⟩
      go_wp2_with fail
      refine (past_any _ (mx 0 t) (u) (u == mx 0 t) hpast.out _ (by go_simp)).mono ?_
      rintro e w' ⟨rfl, rfl⟩
      go_wp2_with fail
      refine (now_any _ (mx 0 t) _ (by go_simp)).mono ?_
      rintro e w' ⟨rfl, rfl⟩
      go_wp2_with fail
      refine (tick_any _ (0) (t) (mx 0 t) e1.out h0 ht _ (by go_simp) (by go_simp)).mono ?_
      rintro e w' ⟨rfl, rfl⟩
      go_wp2_with fail
      refine (now_any _ (mx 0 t) _ (by go_simp)).mono ?_
      rintro e w' ⟨rfl, rfl⟩
      go_wp2_with fail
      refine (tick_any _ (mx 0 t) (mx 0 (u - mx 0 t)) (u) e5.out hx h5 _ (by go_simp) (by go_simp)).mono ?_
      rintro e w' ⟨rfl, rfl⟩
      go_wp2_with fail
      refine (past_any _ (u) (u) (true) e8.out _ (by go_simp)).mono ?_
      rintro e w' ⟨rfl, rfl⟩
      go_wp2_with fail
      refine (now_any _ (u) _ (by go_simp)).mono ?_
      rintro e w' ⟨rfl, rfl⟩
      go_wp2
      go_ret
      exact ⟨by simp, (((((Below.refl _ _).alloc (by simp <;> omega) _).alloc (by simp <;> omega) _).alloc (by simp <;> omega) _).alloc (by simp <;> omega) _)⟩
    · clear c1 hu0
      go_enter Try.func5, Try.ntmps5
      go_wp2_with fail
      refine (lives_any _).mono ?_
      rintro e w' ⟨rfl, rfl⟩
      go_wp2_with fail
      refine (tick_any _ (0) (t) (mx 0 t) e1.out h0 ht _ (by go_simp) (by go_simp)).mono ?_
      rintro e w' ⟨rfl, rfl⟩
      go_wp2_with fail
      refine (after_any _ (mx 0 t) d hx hd _ (by go_simp)).mono ?_
      rintro e w' ⟨rfl, rfl⟩
      rw [hu.out]
      go_wp2_with fail
      refine (now_any _ (mx 0 t) _ (by go_simp)).mono ?_
      rintro e w' ⟨rfl, rfl⟩
      go_wp2_with fail
      refine (past_any _ (mx 0 t) (u) (u == mx 0 t) hpast.out _ (by go_simp)).mono ?_
      rintro e w' ⟨rfl, rfl⟩
      go_wp2_with fail
      refine (now_any _ (mx 0 t) _ (by go_simp)).mono ?_
      rintro e w' ⟨rfl, rfl⟩
      go_wp2_with fail
      refine (tick_any _ (0) (t) (mx 0 t) e1.out h0 ht _ (by go_simp) (by go_simp)).mono ?_
      rintro e w' ⟨rfl, rfl⟩
      go_wp2_with fail
      refine (now_any _ (mx 0 t) _ (by go_simp)).mono ?_
      rintro e w' ⟨rfl, rfl⟩
      go_wp2_with fail
      refine (tick_any _ (mx 0 t) (mx 0 (u - mx 0 t)) (u) e5.out hx h5 _ (by go_simp) (by go_simp)).mono ?_
      rintro e w' ⟨rfl, rfl⟩
      go_wp2_with fail
      refine (past_any _ (u) (u) (true) e8.out _ (by go_simp)).mono ?_
      rintro e w' ⟨rfl, rfl⟩
      go_wp2_with fail
      refine (now_any _ (u) _ (by go_simp)).mono ?_
      rintro e w' ⟨rfl, rfl⟩
      go_wp2
      go_ret
      exact ⟨by simp, (((((Below.refl _ _).alloc (by simp <;> omega) _).alloc (by simp <;> omega) _).alloc (by simp <;> omega) _).alloc (by simp <;> omega) _)⟩
end Go.Proofs.Ytbimcjildlejlaa.Clk
