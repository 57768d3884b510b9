/-
  Walks over the statements of package mach.
-/
import Derived.Test.YtlnbofleeegegaaDoorMach
namespace Go.Proofs.YtlnbofleeegegaaDoor.Mch
open Go.RowKit
set_option linter.unusedVariables false

theorem ret_int {k : IntKind} {a b : Int} (h : a = b) : Ending.returned (.int k a) = .returned (.int k b) := by rw [h]

theorem wrapmod {p i n : Int} (h0 : 0 ≤ p) (h1 : p < n) (h2 : n ≤ 4611686018427387904) (hi : 0 ≤ i) : wrap64 ((wrap64 (p + i % n)).tmod n + 1) = (p + i) % n + 1 := by
  have a1 := Int.emod_nonneg i (show n ≠ 0 by omega)
  have a2 := Int.emod_lt_of_pos i (show 0 < n by omega)
  have a3 := Int.emod_nonneg (p + i) (show n ≠ 0 by omega)
  have a4 := Int.emod_lt_of_pos (p + i) (show 0 < n by omega)
  rw [show wrap64 (p + i % n) = p + i % n from by unfold wrap64; omega, Int.tmod_eq_emod_of_nonneg (by omega), Int.add_emod_emod]
  unfold wrap64; omega

/-- The document's function, as its text has it. -/
def refOf (place p i n : Int) : Int :=
  if place = 2 ∨ place = 4 ∨ place = 7 ∨ place = 10 ∨ place = 11 ∨ place = 13 ∨ place = 15 ∨ place = 18 ∨ place = 23 ∨ place = 27 then 0
  else if place = 14 ∨ place = 25 ∨ place = 29 ∨ place = 30 then n + 1
  else if place = 3 ∨ place = 17 ∨ place = 28 then (if 0 ≤ p ∧ p < n then p + 1 else -1)
  else if place = 9 then (if 0 ≤ i ∧ i < n then i + 1 else -1)
  else if place = 6 then (if 0 ≤ p ∧ p < n ∧ 0 ≤ i then (p + i) % n + 1 else -1) else -1

theorem lockOf_is {place p i n : Int} (hn : 1 ≤ n) : lockOf place p i n = refOf place p i n := by
  by_cases h : place < 0 ∨ 31 ≤ place
  · unfold lockOf refOf
    rw [if_pos h]
    (repeat rw [if_neg (by omega)])
  · obtain ⟨j, rfl⟩ : ∃ j : Nat, place = j := ⟨place.toNat, by omega⟩
    have hj : j = 0 ∨ j = 1 ∨ j = 2 ∨ j = 3 ∨ j = 4 ∨ j = 5 ∨ j = 6 ∨ j = 7 ∨ j = 8 ∨ j = 9 ∨ j = 10 ∨ j = 11 ∨ j = 12 ∨ j = 13 ∨ j = 14 ∨ j = 15 ∨ j = 16 ∨ j = 17 ∨ j = 18 ∨ j = 19 ∨ j = 20 ∨ j = 21 ∨ j = 22 ∨ j = 23 ∨ j = 24 ∨ j = 25 ∨ j = 26 ∨ j = 27 ∨ j = 28 ∨ j = 29 ∨ j = 30 := by omega
    have hn' : ¬ n < 1 := by omega
    rcases hj with rfl | rfl | rfl | rfl | rfl | rfl | rfl | rfl | rfl | rfl | rfl | rfl | rfl | rfl | rfl | rfl | rfl | rfl | rfl | rfl | rfl | rfl | rfl | rfl | rfl | rfl | rfl | rfl | rfl | rfl | rfl
    all_goals
      simp [lockOf, refOf, lk, locks, hn']
      try (unfold ringOf; (repeat' split) <;> first | rfl | (exfalso; omega) | omega)

set_option maxHeartbeats 1000000 in
theorem ref_pos (place p i n : Int) (hn : 1 ≤ n) (hn2 : n ≤ 4611686018427387904) (hi : i ≤ 9223372036854775807) (hp : -9223372036854775808 ≤ p) (w : World) :
    Calls Tryd.prog 10 #[.int .i64 place, .int .i64 p, .int .i64 i, .int .i64 n] w fun e w' => e = .returned (.int .i64 (lockOf place p i n)) ∧ w = w' := by
  have b1 : decide (n < 1) = false := by simp; omega
  go_enter Tryd.func10, Tryd.ntmps10
  go_wp2
  all_goals
    go_ret
    refine ⟨ret_int ?_, rfl⟩
    rw [lockOf_is hn]
    unfold refOf
    simp only [beq_iff_eq, beq_eq_false_iff_ne] at *
    first
      | (subst_vars; (repeat first | rw [if_pos (by omega)] | rw [if_neg (by omega)]); done)
      | (subst_vars; (repeat first | rw [if_pos (by omega)] | rw [if_neg (by omega)]); rfl)
      | (subst_vars; (repeat first | rw [if_pos (by omega)] | rw [if_neg (by omega)]); exact wrapmod ‹_› ‹_› hn2 ‹_›)

theorem ref_any (place p i n : Int) (hn2 : n ≤ 4611686018427387904) (hi : i ≤ 9223372036854775807) (hp : -9223372036854775808 ≤ p) (w : World) :
    Calls Tryd.prog 10 #[.int .i64 place, .int .i64 p, .int .i64 i, .int .i64 n] w fun e w' => e = .returned (.int .i64 (lockOf place p i n)) ∧ w = w' := by
  by_cases hn : 1 ≤ n
  · exact ref_pos place p i n hn hn2 hi hp w
  · have e : lockOf place p i n = -1 := by unfold lockOf; split; rfl; rw [if_pos (by omega)]
    rw [e]
    have b1 : decide (n < 1) = true := by simp; omega
    clear e
    go_enter Tryd.func10, Tryd.ntmps10
    go_wp2
    go_ret
    exact ⟨rfl, rfl⟩

theorem lives_any (w : World) (hT : Table w) :
    Calls Tryd.prog 7 #[] w fun e w' => e = .returned (.bool true) ∧ Below w.heap.size w w' := by
  go_enter Tryd.func7, Tryd.ntmps7
  go_wp2_with fail
  refine (fresh_any _).mono ?_
  rintro e w' ⟨rfl, rfl⟩
  go_wp2_with (first | (refine Big.wpList_store_new rfl rfl 31 _ _ rfl _ _ _ _ _ rfl ?_ rfl (by exact szM) (by rfl) (by rfl) ?_; next => (simp; done)) | (refine Big.wpList_load_new rfl 31 _ rfl _ _ _ _ rfl ?_ aggM (by exact szM) ?_; next => (simp; done)))
  have e4 : lockOf 9 (-1) 2 4 = 3 := by decide
  refine (lock_any _ _ _ _ _ _ _ _ _ _ _ _ _ _ _ _ _ _ 4 (by omega) (by omega) _ ((hT.alloc _).alloc _)).mono ?_
  rw [e4]
  rintro e w' ⟨rfl, hb⟩
  go_wp2
  go_ret
  exact ⟨rfl, (((Below.refl _ _).alloc (Nat.le_refl _) _).alloc (by simp) _).trans (hb.mono (by simp; omega))⟩
end Go.Proofs.YtlnbofleeegegaaDoor.Mch
