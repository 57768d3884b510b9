/-
  Walks over MachLocks and MachRings.
-/
import Derived.Test.YtlnbofleeegegaaDoorMachLaw
namespace Go.Proofs.YtlnbofleeegegaaDoor.Mch
open Go.RowKit
set_option linter.unusedVariables false

theorem lockOf_le (place p i n : Int) (hn : 1 ≤ n) : lockOf place p i n ≤ n + 1 := by
  rw [lockOf_is hn]; unfold refOf
  have a1 := Int.emod_lt_of_pos (p + i) (show 0 < n by omega)
  (repeat' split) <;> omega

set_option maxHeartbeats 400000 in
theorem locks_long (place p i n : Int) (hn : 4611686018427387904 < n) (w : World) (hT : Table w) :
    Calls Tryd.prog 4 #[.int .i64 place, .int .i64 p, .int .i64 i, .int .i64 n] w fun e w' => e = .returned (.bool true) ∧ Below w.heap.size w w' := by
  have b1 : decide (4611686018427387904 < n) = true := by simpa using hn
  clear hn
  go_enter Tryd.func4, Tryd.ntmps4
  go_wp2_with fail
  refine (lives_any _ hT).mono ?_
  rintro e w1 ⟨rfl, hb⟩
  go_wp2_with fail
  refine (lives_any _ (hT.below hb)).mono ?_
  rintro e w2 ⟨rfl, hb2⟩
  go_wp2
  go_ret
  exact ⟨rfl, hb.trans (hb2.mono hb.size)⟩

set_option maxHeartbeats 400000 in
theorem locks_any (place p i n : Int) (hn : n ≤ 4611686018427387904) (hi : i ≤ 9223372036854775807) (hp : -9223372036854775808 ≤ p) (w : World) (hT : Table w) :
    Calls Tryd.prog 4 #[.int .i64 place, .int .i64 p, .int .i64 i, .int .i64 n] w fun e w' => e = .returned (.bool true) ∧ Below w.heap.size w w' := by
  have b1 : decide (4611686018427387904 < n) = false := by simp; omega
  obtain ⟨r, hr⟩ : ∃ r, lockOf place p i n = r := ⟨_, rfl⟩
  have hle : 1 ≤ n → r ≤ n + 1 := fun h => by rw [← hr]; exact lockOf_le place p i n h
  by_cases h1 : n < 1
  · have b2 : decide (n < 1) = true := by simpa using h1
    clear h1 hle
    have HR := Lib.hid hr
    clear hr
    go_enter Tryd.func4, Tryd.ntmps4
    go_wp2_with fail
    refine (lives_any _ hT).mono ?_
    rintro e w1 ⟨rfl, hb⟩
    have hT1 := hT.below hb
    go_wp2_with fail
    refine (fresh_any _).mono ?_
    rintro e w' ⟨rfl, rfl⟩
    go_wp2_with (first | (refine Big.wpList_store_new rfl rfl 31 _ _ rfl _ _ _ _ _ rfl ?_ rfl (by exact szM) (by rfl) (by rfl) ?_; next => (simp; done)) | (refine Big.wpList_load_new rfl 31 _ rfl _ _ _ _ rfl ?_ aggM (by exact szM) ?_; next => (simp; done)))
    refine (lock_any _ _ _ _ _ _ _ _ _ _ _ _ _ _ _ _ _ _ n hn hi _ ((hT1.alloc _).alloc _)).mono ?_
    rintro e w2 ⟨rfl, hb2⟩
    rw [HR.out]
    go_wp2_with fail
    refine (ref_any place p i n hn hi hp _).mono ?_
    rintro e w' ⟨rfl, rfl⟩
    rw [HR.out]
    go_wp2
    go_ret
    exact ⟨by simp, (((hb.trans (Below.refl _ _)).alloc hb.size _).alloc (by simp; have := hb.size; omega) _).trans (hb2.mono (by simp; have := hb.size; omega))⟩
  · have b2 : decide (n < 1) = false := by simpa using h1
    have hle' := hle (by omega)
    have b3 : decide (r ≤ n + 1) = true := by simpa using hle'
    have hn2 : 1 ≤ n := by omega
    clear h1 hle hle'
    have HR := Lib.hid hr
    clear hr
    go_enter Tryd.func4, Tryd.ntmps4
    go_wp2_with fail
    refine (lives_any _ hT).mono ?_
    rintro e w1 ⟨rfl, hb⟩
    have hT1 := hT.below hb
    go_wp2_with fail
    refine (fresh_any _).mono ?_
    rintro e w' ⟨rfl, rfl⟩
    go_wp2_with (first | (refine Big.wpList_store_new rfl rfl 31 _ _ rfl _ _ _ _ _ rfl ?_ rfl (by exact szM) (by rfl) (by rfl) ?_; next => (simp; done)) | (refine Big.wpList_load_new rfl 31 _ rfl _ _ _ _ rfl ?_ aggM (by exact szM) ?_; next => (simp; done)))
    refine (lock_any _ _ _ _ _ _ _ _ _ _ _ _ _ _ _ _ _ _ n hn hi _ ((hT1.alloc _).alloc _)).mono ?_
    rintro e w2 ⟨rfl, hb2⟩
    rw [HR.out]
    go_wp2_with fail
    refine (ref_any place p i n hn hi hp _).mono ?_
    rintro e w' ⟨rfl, rfl⟩
    rw [HR.out]
    go_wp2
    go_ret
    exact ⟨by simp, (((hb.trans (Below.refl _ _)).alloc hb.size _).alloc (by simp; have := hb.size; omega) _).trans (hb2.mono (by simp; have := hb.size; omega))⟩

theorem i64_of {n : Int} (h : (Lit.int .i64 n).wf = true) : -9223372036854775808 ≤ n ∧ n ≤ 9223372036854775807 := bounds_i64 h

theorem locks_all (place p i n : Int) (hi : i ≤ 9223372036854775807) (hp : -9223372036854775808 ≤ p) (w : World) (hT : Table w) :
    Calls Tryd.prog 4 #[.int .i64 place, .int .i64 p, .int .i64 i, .int .i64 n] w fun e w' => e = .returned (.bool true) ∧ Below w.heap.size w w' := by
  by_cases h : n ≤ 4611686018427387904
  · exact locks_any place p i n h hi hp w hT
  · exact locks_long place p i n (by omega) w hT
end Go.Proofs.YtlnbofleeegegaaDoor.Mch
