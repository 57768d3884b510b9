/-
  The walk over MachPlaces.
-/
import Derived.Test.YtlnbofleeegegaaDoorMachNames
namespace Go.Proofs.YtlnbofleeegegaaDoor.Mch
open Go.RowKit
set_option linter.unusedVariables false

theorem named_as (s : ByteArray) (r : Int) (hr : idx s = r) (w : World) (hT : Table w) :
    Calls Tryd.prog 16 #[.string s] w fun e w' => e = .returned (.tuple #[.int .i64 (mx 0 r), .bool (decide (0 ≤ r))]) ∧ Below w.heap.size w w' := by
  subst hr; exact named_any s w hT

set_option maxHeartbeats 1000000 in
theorem places_in (j : Nat) (hj : j < 31) (name : ByteArray) (w : World) (hT : Table w) :
    Calls Tryd.prog 6 #[.int .i64 (j : Int), .string name] w fun e w' => e = .returned (.bool true) ∧ Below w.heap.size w w' := by
  go_enter Tryd.func6, Tryd.ntmps6
  go_wp2_with fail
  refine (lives_any _ hT).mono ?_
  rintro e w1 ⟨rfl, hb1⟩
  go_wp2_with fail
  refine (names_any _).mono ?_
  rintro e w2 ⟨rfl, hN0, hb2, hlt⟩
  have hB2 : Below w.heap.size w w2 := hb1.trans (hb2.mono hb1.size)
  have hN2 := Lib.hid hN0
  clear hN0
  generalize w1.heap.size = g at *
  have cj := hN2.out j hj
  go_wp2_with fail
  refine (name_in j hj _ (hT.below hB2)).mono ?_
  rintro e W ⟨rfl, hb3⟩
  have hB : Below w.heap.size w W := hB2.trans (hb3.mono hB2.size)
  have hN : Hid (∀ j, j < 31 → W.cell? ⟨g, j, none⟩ = some (.string (nm j))) := Lib.hid fun j hj => cell_later hb3 (hN2.out j hj)
  clear hN2 hB2 hb1 hb2 hb3 hlt
  go_wp2_with fail
  go_loopw [39] (fun i wr => ∃ k : Nat, k ≤ 31 ∧ i = .int .i64 k ∧ (∀ j, j < k → ((nm j).toList == name.toList) = false) ∧ Below W.heap.size W wr) (fun i _ => 31 - (intOf i).toNat)
  case atStart => exact ⟨0, by omega, rfl, fun j hj => absurd hj (by omega), Below.refl _ _⟩
  case round =>
    obtain ⟨k, hk, rfl, hno, hb⟩ := hrel
    have hno' := Lib.hid hno
    clear hno
    have hT' := hT.below (hB.trans (hb.mono hB.size))
    by_cases hlen : k < 31
    · have c0 : wr.cell? ⟨g, k, none⟩ = some (.string (nm k)) := cell_later hb (hN.out k hlen)
      go_wp2_with fail
      refine (named_as (nm k) k (idx_nm k hlen) _ hT').mono ?_
      rw [show mx 0 (k : Int) = k from by unfold mx; split <;> omega, show decide (0 ≤ (k : Int)) = true from by simp]
      rintro e w' ⟨rfl, hb2⟩
      cases hq : ((nm k).toList == name.toList)
      · have Hq := Lib.hid hq
        go_wp2
        go_roundw
        case rel => exact ⟨k + 1, by omega, by go_num, fun j hj => by
            by_cases e : j = k
            · subst e; exact Hq.out
            · exact hno'.out j (by omega), hb.trans (hb2.mono hb.size)⟩
        case measure => simp [intOf]; omega
      · go_wp2
        go_ret
        exact ⟨rfl, hB.trans ((hb.trans (hb2.mono hb.size)).mono hB.size)⟩
    · obtain rfl : k = 31 := by omega
      go_wp2_with fail
      refine (named_as name (-1) (idx_none hno'.out) _ hT').mono ?_
      rintro e w' ⟨rfl, hb2⟩
      go_wp2
      go_ret
      exact ⟨rfl, hB.trans ((hb.trans (hb2.mono hb.size)).mono hB.size)⟩

set_option maxHeartbeats 1000000 in
theorem places_neg (p : Int) (hp : p < 0) (name : ByteArray) (w : World) (hT : Table w) :
    Calls Tryd.prog 6 #[.int .i64 p, .string name] w fun e w' => e = .returned (.bool true) ∧ Below w.heap.size w w' := by
  go_enter Tryd.func6, Tryd.ntmps6
  go_wp2_with fail
  refine (lives_any _ hT).mono ?_
  rintro e w1 ⟨rfl, hb1⟩
  go_wp2_with fail
  refine (names_any _).mono ?_
  rintro e w2 ⟨rfl, hN0, hb2, hlt⟩
  have hB2 : Below w.heap.size w w2 := hb1.trans (hb2.mono hb1.size)
  have hN2 := Lib.hid hN0
  clear hN0
  generalize w1.heap.size = g at *
  go_wp2_with fail
  refine (name_out p (Or.inl hp) _).mono ?_
  rintro e W ⟨rfl, hb3⟩
  have hB : Below w.heap.size w W := hB2.trans (hb3.mono hB2.size)
  have hN : Hid (∀ j, j < 31 → W.cell? ⟨g, j, none⟩ = some (.string (nm j))) := Lib.hid fun j hj => cell_later hb3 (hN2.out j hj)
  clear hN2 hB2 hb1 hb2 hb3 hlt
  go_wp2_with fail
  go_loopw [39] (fun i wr => ∃ k : Nat, k ≤ 31 ∧ i = .int .i64 k ∧ (∀ j, j < k → ((nm j).toList == name.toList) = false) ∧ Below W.heap.size W wr) (fun i _ => 31 - (intOf i).toNat)
  case atStart => exact ⟨0, by omega, rfl, fun j hj => absurd hj (by omega), Below.refl _ _⟩
  case round =>
    obtain ⟨k, hk, rfl, hno, hb⟩ := hrel
    have hno' := Lib.hid hno
    clear hno
    have hT' := hT.below (hB.trans (hb.mono hB.size))
    by_cases hlen : k < 31
    · have c0 : wr.cell? ⟨g, k, none⟩ = some (.string (nm k)) := cell_later hb (hN.out k hlen)
      go_wp2_with fail
      refine (named_as (nm k) k (idx_nm k hlen) _ hT').mono ?_
      rw [show mx 0 (k : Int) = k from by unfold mx; split <;> omega, show decide (0 ≤ (k : Int)) = true from by simp]
      rintro e w' ⟨rfl, hb2⟩
      cases hq : ((nm k).toList == name.toList)
      · have Hq := Lib.hid hq
        go_wp2
        go_roundw
        case rel => exact ⟨k + 1, by omega, by go_num, fun j hj => by
            by_cases e : j = k
            · subst e; exact Hq.out
            · exact hno'.out j (by omega), hb.trans (hb2.mono hb.size)⟩
        case measure => simp [intOf]; omega
      · go_wp2
        go_ret
        exact ⟨rfl, hB.trans ((hb.trans (hb2.mono hb.size)).mono hB.size)⟩
    · obtain rfl : k = 31 := by omega
      go_wp2_with fail
      refine (named_as name (-1) (idx_none hno'.out) _ hT').mono ?_
      rintro e w' ⟨rfl, hb2⟩
      go_wp2
      go_ret
      exact ⟨rfl, hB.trans ((hb.trans (hb2.mono hb.size)).mono hB.size)⟩

set_option maxHeartbeats 1000000 in
theorem places_big (p : Int) (hp : 31 ≤ p) (name : ByteArray) (w : World) (hT : Table w) :
    Calls Tryd.prog 6 #[.int .i64 p, .string name] w fun e w' => e = .returned (.bool true) ∧ Below w.heap.size w w' := by
  go_enter Tryd.func6, Tryd.ntmps6
  go_wp2_with fail
  refine (lives_any _ hT).mono ?_
  rintro e w1 ⟨rfl, hb1⟩
  go_wp2_with fail
  refine (names_any _).mono ?_
  rintro e w2 ⟨rfl, hN0, hb2, hlt⟩
  have hB2 : Below w.heap.size w w2 := hb1.trans (hb2.mono hb1.size)
  have hN2 := Lib.hid hN0
  clear hN0
  generalize w1.heap.size = g at *
  go_wp2_with fail
  refine (name_out p (Or.inr hp) _).mono ?_
  rintro e W ⟨rfl, hb3⟩
  have hB : Below w.heap.size w W := hB2.trans (hb3.mono hB2.size)
  have hN : Hid (∀ j, j < 31 → W.cell? ⟨g, j, none⟩ = some (.string (nm j))) := Lib.hid fun j hj => cell_later hb3 (hN2.out j hj)
  clear hN2 hB2 hb1 hb2 hb3 hlt
  go_wp2_with fail
  go_loopw [39] (fun i wr => ∃ k : Nat, k ≤ 31 ∧ i = .int .i64 k ∧ (∀ j, j < k → ((nm j).toList == name.toList) = false) ∧ Below W.heap.size W wr) (fun i _ => 31 - (intOf i).toNat)
  case atStart => exact ⟨0, by omega, rfl, fun j hj => absurd hj (by omega), Below.refl _ _⟩
  case round =>
    obtain ⟨k, hk, rfl, hno, hb⟩ := hrel
    have hno' := Lib.hid hno
    clear hno
    have hT' := hT.below (hB.trans (hb.mono hB.size))
    by_cases hlen : k < 31
    · have c0 : wr.cell? ⟨g, k, none⟩ = some (.string (nm k)) := cell_later hb (hN.out k hlen)
      go_wp2_with fail
      refine (named_as (nm k) k (idx_nm k hlen) _ hT').mono ?_
      rw [show mx 0 (k : Int) = k from by unfold mx; split <;> omega, show decide (0 ≤ (k : Int)) = true from by simp]
      rintro e w' ⟨rfl, hb2⟩
      cases hq : ((nm k).toList == name.toList)
      · have Hq := Lib.hid hq
        go_wp2
        go_roundw
        case rel => exact ⟨k + 1, by omega, by go_num, fun j hj => by
            by_cases e : j = k
            · subst e; exact Hq.out
            · exact hno'.out j (by omega), hb.trans (hb2.mono hb.size)⟩
        case measure => simp [intOf]; omega
      · go_wp2
        go_ret
        exact ⟨rfl, hB.trans ((hb.trans (hb2.mono hb.size)).mono hB.size)⟩
    · obtain rfl : k = 31 := by omega
      go_wp2_with fail
      refine (named_as name (-1) (idx_none hno'.out) _ hT').mono ?_
      rintro e w' ⟨rfl, hb2⟩
      go_wp2
      go_ret
      exact ⟨rfl, hB.trans ((hb.trans (hb2.mono hb.size)).mono hB.size)⟩

theorem places_any (p : Int) (name : ByteArray) (w : World) (hT : Table w) :
    Calls Tryd.prog 6 #[.int .i64 p, .string name] w fun e w' => e = .returned (.bool true) ∧ Below w.heap.size w w' := by
  by_cases h : p < 0
  · exact places_neg p h name w hT
  · by_cases h2 : 31 ≤ p
    · exact places_big p h2 name w hT
    · obtain ⟨j, rfl⟩ : ∃ j : Nat, p = j := ⟨p.toNat, by omega⟩
      exact places_in j (by omega) name w hT
end Go.Proofs.YtlnbofleeegegaaDoor.Mch
