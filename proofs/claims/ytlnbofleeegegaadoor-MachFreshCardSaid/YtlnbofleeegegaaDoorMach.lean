/-
  Walks over package mach: places, locks, machines.
-/
import Derived.Test.YtlnbofleeegegaaDoorBig
import Derived.WalkKit
import Derived.WalkSpells
import Derived.WalkLawsBesides
import Derived.Lib.Hide
import Derived.RegionTactic
import Derived.OpenShut
namespace Go.Proofs.YtlnbofleeegegaaDoor.Mch
open Go.RowKit
set_option linter.unusedVariables false
theorem aggM : Big.aggB Tryd.prog 31 = true := by kernel_rfl
theorem szM : Big.szB Tryd.prog 31 18 = true := by kernel_rfl

def names : List (List UInt8) := [[101, 120, 101, 99], [115, 99, 104, 101, 100], [111, 110, 101], [108, 111, 99, 97, 108], [103, 108, 111, 98, 97, 108], [115, 112, 105, 110, 117, 112], [115, 116, 101, 97, 108], [114, 101, 108, 101, 97, 115, 101], [100, 114, 111, 112], [108, 111, 111, 107], [108, 111, 111, 107, 103, 108, 111, 98, 97, 108], [114, 101, 116, 97, 107, 101], [115, 112, 105, 110, 98, 97, 99, 107], [115, 116, 111, 112], [99, 104, 101, 99, 107], [117, 110, 112, 111, 108, 108], [115, 108, 101, 101, 112], [112, 117, 116, 114, 101, 115, 116], [112, 117, 116, 111, 118, 101, 114], [117, 110, 115, 112, 105, 110], [100, 105, 115, 112, 97, 116, 99, 104], [108, 111, 97, 100], [99, 108, 97, 105, 109], [102, 105, 110, 100], [119, 97, 107, 101], [100, 101, 108, 105, 118, 101, 114], [109, 97, 114, 107], [112, 117, 116, 111, 110, 101], [112, 117, 116, 110, 101, 120, 116], [112, 97, 114, 107], [97, 119, 97, 105, 116]]
def locks : List Int := [0, 0, 1, 2, 1, 0, 3, 1, 0, 4, 1, 1, 0, 1, 5, 1, 0, 2, 1, 0, 0, 0, 0, 1, 0, 5, 0, 1, 2, 5, 5]
def nm (j : Nat) : ByteArray := ⟨(names.getD j []).toArray⟩
def lk (j : Nat) : Int := locks.getD j 0

/-- The table lies in the first variable's block. -/
def Table (w : World) : Prop := 0 < w.heap.size ∧ ∀ j, j < 31 → w.cell? ⟨0, j * 2, none⟩ = some (.string (nm j)) ∧ w.cell? ⟨0, j * 2 + 1, none⟩ = some (.int .i64 (lk j))

theorem Table.below {w w' : World} (h : Table w) (hb : Below w.heap.size w w') : Table w' :=
  ⟨Nat.lt_of_lt_of_le h.1 hb.size, fun j hj => ⟨(hb.cell (p := ⟨0, j * 2, none⟩) h.1).trans (h.2 j hj).1, (hb.cell (p := ⟨0, j * 2 + 1, none⟩) h.1).trans (h.2 j hj).2⟩⟩
theorem Table.alloc {w : World} (h : Table w) (o : Obj) : Table (w.alloc o) := h.below ((Below.refl _ _).alloc (Nat.le_refl _) _)

set_option maxHeartbeats 400000 in
theorem of_in (j : Nat) (hj : j < 31) (c : Int) (hc : lk j = c) (w : World) (hT : Table w) :
    Calls Tryd.prog 17 #[.int .i64 (j : Int)] w fun e w' => e = .returned (.tuple #[.agg #[.string (nm j), .int .i64 c], .bool true]) ∧ w.alloc (.cells #[.string (nm j), .int .i64 c] 49) = w' := by
  have c0 : ∀ o, (w.alloc o).cell? ⟨0, j * 2, none⟩ = some (.string (nm j)) := fun o => ((hT.alloc o).2 j hj).1
  have c1 : ∀ o, (w.alloc o).cell? ⟨0, j * 2 + 1, none⟩ = some (.int .i64 c) := fun o => by rw [← hc]; exact ((hT.alloc o).2 j hj).2
  clear hT hc
  have b1 : decide ((j : Int) < 0) = false := by simp
  have b2 : decide (31 ≤ (j : Int)) = false := by simp; omega
  go_enter Tryd.func17, Tryd.ntmps17
  go_wp2
  exact bodyPost_ret (v := .tuple #[.agg #[.string (nm j), .int .i64 c], .bool true]) (by simp [results, Tryd.results17, go_sem]) rfl ⟨rfl, rfl⟩

set_option maxHeartbeats 400000 in
theorem of_out (p : Int) (hp : p < 0 ∨ 31 ≤ p) (w : World) :
    Calls Tryd.prog 17 #[.int .i64 p] w fun e w' => e = .returned (.tuple #[.agg #[.string ⟨#[]⟩, .int .i64 0], .bool false]) ∧ w.alloc (.cells #[.string ⟨#[]⟩, .int .i64 0] 49) = w' := by
  rcases hp with hp | hp
  · have b1 : decide (p < 0) = true := by simpa using hp
    clear hp
    go_enter Tryd.func17, Tryd.ntmps17
    go_wp2
    exact bodyPost_ret (v := .tuple #[.agg #[.string ⟨#[]⟩, .int .i64 0], .bool false]) (by simp [results, Tryd.results17, go_sem]) rfl ⟨rfl, rfl⟩
  · have b1 : decide (p < 0) = false := by simp; omega
    have b2 : decide (31 ≤ p) = true := by simpa using hp
    clear hp
    go_enter Tryd.func17, Tryd.ntmps17
    go_wp2
    exact bodyPost_ret (v := .tuple #[.agg #[.string ⟨#[]⟩, .int .i64 0], .bool false]) (by simp [results, Tryd.results17, go_sem]) rfl ⟨rfl, rfl⟩

def ringOf (p n : Int) : Int := if p < 0 then -1 else if n ≤ p then -1 else p + 1

set_option maxHeartbeats 400000 in
theorem ring_any (p n : Int) (hn : n ≤ 9223372036854775807) (w : World) :
    Calls Tryd.prog 18 #[.int .i64 p, .int .i64 n] w fun e w' => e = .returned (.int .i64 (ringOf p n)) ∧ w = w' := by
  unfold ringOf
  by_cases h1 : p < 0
  · rw [if_pos h1]
    go_enter Tryd.func18, Tryd.ntmps18
    go_wp2
    go_ret
    exact ⟨rfl, rfl⟩
  · rw [if_neg h1]
    by_cases h2 : n ≤ p
    · rw [if_pos h2]
      go_enter Tryd.func18, Tryd.ntmps18
      go_wp2
      go_ret
      exact ⟨rfl, rfl⟩
    · rw [if_neg h2]
      go_enter Tryd.func18, Tryd.ntmps18
      go_wp2
      go_ret
      exact ⟨rfl, rfl⟩

/-- A machine's cells. -/
def mk (place p g next got target i : Int) (spin inn : Bool) (rest : Value) (back after arg ln ls stage ticket times : Int) : Array Value :=
  #[.int .i64 place, .int .i64 p, .int .i64 g, .int .i64 next, .int .i64 got, .int .i64 target, .int .i64 i, .bool spin, .bool inn, rest, .int .i64 back, .int .i64 after, .int .i64 arg, .int .i64 ln, .int .i64 ls, .int .i64 stage, .int .u64 ticket, .int .i64 times]

set_option maxHeartbeats 400000 in
theorem fresh_any (w : World) :
    Calls Tryd.prog 8 #[] w fun e w' => e = .returned (.agg #[.int .i64 16, .int .i64 (-1), .int .i64 (-1), .int .i64 (-1), .int .i64 (-1), .int .i64 (-1), .int .i64 0, .bool false, .bool false, .slice none 0 0, .int .i64 0, .int .i64 0, .int .i64 0, .int .i64 0, .int .i64 0, .int .i64 0, .int .u64 0, .int .i64 0]) ∧
      w.alloc (.cells #[.int .i64 16, .int .i64 (-1), .int .i64 (-1), .int .i64 (-1), .int .i64 (-1), .int .i64 (-1), .int .i64 0, .bool false, .bool false, .slice none 0 0, .int .i64 0, .int .i64 0, .int .i64 0, .int .i64 0, .int .i64 0, .int .i64 0, .int .u64 0, .int .i64 0] 31) = w' := by
  go_enter Tryd.func8, Tryd.ntmps8
  go_wp2_with (refine Big.wpList_store_new rfl rfl 31 _ _ rfl _ _ _ _ _ rfl ?_ rfl (by exact szM) (by rfl) (by rfl) ?_; next => (simp; done))
  exact bodyPost_ret (Big.results_cell_new rfl _ _ _ _ _ rfl (by simp) aggM (by exact szM)) rfl ⟨rfl, rfl⟩


/-- Which lock. -/
def lockOf (place p i n : Int) : Int :=
  if place < 0 ∨ 31 ≤ place then -1 else if n < 1 then -1 else
  if lk place.toNat = 1 then 0 else if lk place.toNat = 5 then n + 1 else if lk place.toNat = 2 then ringOf p n else if lk place.toNat = 4 then ringOf i n else
  if lk place.toNat = 3 then (if 0 ≤ i ∧ 0 < ringOf p n then (p + i) % n + 1 else -1) else -1

def MAgg (v : Value) (place p i : Int) : Prop := ∃ (g next got target : Int) (spin inn : Bool) (rest : Value) (back after arg ln ls stage ticket times : Int), v = .agg #[.int .i64 place, .int .i64 p, .int .i64 g, .int .i64 next, .int .i64 got, .int .i64 target, .int .i64 i, .bool spin, .bool inn, rest, .int .i64 back, .int .i64 after, .int .i64 arg, .int .i64 ln, .int .i64 ls, .int .i64 stage, .int .u64 ticket, .int .i64 times]

theorem of_step (j : Nat) (c : Int) (hj : j < 31) (hc : lk j = c) (w : World) (hT : Table w) : Calls Tryd.prog 17 #[.int .i64 (j : Int)] w fun e w' => e = .returned (.tuple #[.agg #[.string (nm j), .int .i64 c], .bool true]) ∧ w.alloc (.cells #[.string (nm j), .int .i64 c] 49) = w' := of_in j hj c hc w hT

set_option maxHeartbeats 400000 in
theorem lock_c0 (j : Nat) (hj : j < 31) (hc : lk j = 0) (p g next got target i : Int) (spin inn : Bool) (rest : Value) (back after arg ln ls stage ticket times : Int) (n : Int) (hn : 1 ≤ n) (hn2 : n ≤ 4611686018427387904)  (w : World) (hT : Table w) :
    Calls Tryd.prog 9 #[.agg #[.int .i64 (j : Int), .int .i64 p, .int .i64 g, .int .i64 next, .int .i64 got, .int .i64 target, .int .i64 i, .bool spin, .bool inn, rest, .int .i64 back, .int .i64 after, .int .i64 arg, .int .i64 ln, .int .i64 ls, .int .i64 stage, .int .u64 ticket, .int .i64 times], .int .i64 n] w fun e w' => e = .returned (.int .i64 (-1)) ∧ Below w.heap.size w w' := by
  have b1 : decide (n < 1) = false := by simp; omega
  go_enter Tryd.func9, Tryd.ntmps9
  go_wp2_with fail
  refine (of_in j hj _ hc _ (by exact hT.alloc _)).mono ?_
  rintro e w' ⟨rfl, rfl⟩
  go_wp2
  go_ret
  exact ⟨rfl, (((Below.refl _ _).alloc (Nat.le_refl _) _).alloc (by simp) _).alloc (by simp; omega) _⟩

set_option maxHeartbeats 400000 in
theorem lock_c1 (j : Nat) (hj : j < 31) (hc : lk j = 1) (p g next got target i : Int) (spin inn : Bool) (rest : Value) (back after arg ln ls stage ticket times : Int) (n : Int) (hn : 1 ≤ n) (hn2 : n ≤ 4611686018427387904)  (w : World) (hT : Table w) :
    Calls Tryd.prog 9 #[.agg #[.int .i64 (j : Int), .int .i64 p, .int .i64 g, .int .i64 next, .int .i64 got, .int .i64 target, .int .i64 i, .bool spin, .bool inn, rest, .int .i64 back, .int .i64 after, .int .i64 arg, .int .i64 ln, .int .i64 ls, .int .i64 stage, .int .u64 ticket, .int .i64 times], .int .i64 n] w fun e w' => e = .returned (.int .i64 (0)) ∧ Below w.heap.size w w' := by
  have b1 : decide (n < 1) = false := by simp; omega
  go_enter Tryd.func9, Tryd.ntmps9
  go_wp2_with fail
  refine (of_in j hj _ hc _ (by exact hT.alloc _)).mono ?_
  rintro e w' ⟨rfl, rfl⟩
  go_wp2
  go_ret
  exact ⟨rfl, (((Below.refl _ _).alloc (Nat.le_refl _) _).alloc (by simp) _).alloc (by simp; omega) _⟩

set_option maxHeartbeats 400000 in
theorem lock_c5 (j : Nat) (hj : j < 31) (hc : lk j = 5) (p g next got target i : Int) (spin inn : Bool) (rest : Value) (back after arg ln ls stage ticket times : Int) (n : Int) (hn : 1 ≤ n) (hn2 : n ≤ 4611686018427387904)  (w : World) (hT : Table w) :
    Calls Tryd.prog 9 #[.agg #[.int .i64 (j : Int), .int .i64 p, .int .i64 g, .int .i64 next, .int .i64 got, .int .i64 target, .int .i64 i, .bool spin, .bool inn, rest, .int .i64 back, .int .i64 after, .int .i64 arg, .int .i64 ln, .int .i64 ls, .int .i64 stage, .int .u64 ticket, .int .i64 times], .int .i64 n] w fun e w' => e = .returned (.int .i64 (n + 1)) ∧ Below w.heap.size w w' := by
  have b1 : decide (n < 1) = false := by simp; omega
  go_enter Tryd.func9, Tryd.ntmps9
  go_wp2_with fail
  refine (of_in j hj _ hc _ (by exact hT.alloc _)).mono ?_
  rintro e w' ⟨rfl, rfl⟩
  go_wp2
  go_ret
  exact ⟨rfl, (((Below.refl _ _).alloc (Nat.le_refl _) _).alloc (by simp) _).alloc (by simp; omega) _⟩

set_option maxHeartbeats 400000 in
theorem lock_c2 (j : Nat) (hj : j < 31) (hc : lk j = 2) (p g next got target i : Int) (spin inn : Bool) (rest : Value) (back after arg ln ls stage ticket times : Int) (n : Int) (hn : 1 ≤ n) (hn2 : n ≤ 4611686018427387904)  (w : World) (hT : Table w) :
    Calls Tryd.prog 9 #[.agg #[.int .i64 (j : Int), .int .i64 p, .int .i64 g, .int .i64 next, .int .i64 got, .int .i64 target, .int .i64 i, .bool spin, .bool inn, rest, .int .i64 back, .int .i64 after, .int .i64 arg, .int .i64 ln, .int .i64 ls, .int .i64 stage, .int .u64 ticket, .int .i64 times], .int .i64 n] w fun e w' => e = .returned (.int .i64 (ringOf p n)) ∧ Below w.heap.size w w' := by
  have b1 : decide (n < 1) = false := by simp; omega
  go_enter Tryd.func9, Tryd.ntmps9
  go_wp2_with fail
  refine (of_in j hj _ hc _ (by exact hT.alloc _)).mono ?_
  rintro e w' ⟨rfl, rfl⟩
  go_wp2_with fail
  refine (ring_any p n (by omega) _).mono ?_
  rintro e w' ⟨rfl, rfl⟩
  go_wp2
  go_ret
  exact ⟨rfl, (((Below.refl _ _).alloc (Nat.le_refl _) _).alloc (by simp) _).alloc (by simp; omega) _⟩

set_option maxHeartbeats 400000 in
theorem lock_c4 (j : Nat) (hj : j < 31) (hc : lk j = 4) (p g next got target i : Int) (spin inn : Bool) (rest : Value) (back after arg ln ls stage ticket times : Int) (n : Int) (hn : 1 ≤ n) (hn2 : n ≤ 4611686018427387904)  (w : World) (hT : Table w) :
    Calls Tryd.prog 9 #[.agg #[.int .i64 (j : Int), .int .i64 p, .int .i64 g, .int .i64 next, .int .i64 got, .int .i64 target, .int .i64 i, .bool spin, .bool inn, rest, .int .i64 back, .int .i64 after, .int .i64 arg, .int .i64 ln, .int .i64 ls, .int .i64 stage, .int .u64 ticket, .int .i64 times], .int .i64 n] w fun e w' => e = .returned (.int .i64 (ringOf i n)) ∧ Below w.heap.size w w' := by
  have b1 : decide (n < 1) = false := by simp; omega
  go_enter Tryd.func9, Tryd.ntmps9
  go_wp2_with fail
  refine (of_in j hj _ hc _ (by exact hT.alloc _)).mono ?_
  rintro e w' ⟨rfl, rfl⟩
  go_wp2_with fail
  refine (ring_any i n (by omega) _).mono ?_
  rintro e w' ⟨rfl, rfl⟩
  go_wp2
  go_ret
  exact ⟨rfl, (((Below.refl _ _).alloc (Nat.le_refl _) _).alloc (by simp) _).alloc (by simp; omega) _⟩

set_option maxHeartbeats 400000 in
theorem lock_c3a (j : Nat) (hj : j < 31) (hc : lk j = 3) (p g next got target i : Int) (spin inn : Bool) (rest : Value) (back after arg ln ls stage ticket times : Int) (n : Int) (hn : 1 ≤ n) (hn2 : n ≤ 4611686018427387904) (hi : i < 0) (w : World) (hT : Table w) :
    Calls Tryd.prog 9 #[.agg #[.int .i64 (j : Int), .int .i64 p, .int .i64 g, .int .i64 next, .int .i64 got, .int .i64 target, .int .i64 i, .bool spin, .bool inn, rest, .int .i64 back, .int .i64 after, .int .i64 arg, .int .i64 ln, .int .i64 ls, .int .i64 stage, .int .u64 ticket, .int .i64 times], .int .i64 n] w fun e w' => e = .returned (.int .i64 (-1)) ∧ Below w.heap.size w w' := by
  have b1 : decide (n < 1) = false := by simp; omega
  have b2 : decide (0 ≤ i) = false := by simp; omega
  clear hi
  go_enter Tryd.func9, Tryd.ntmps9
  go_wp2_with fail
  refine (of_in j hj _ hc _ (by exact hT.alloc _)).mono ?_
  rintro e w' ⟨rfl, rfl⟩
  go_wp2
  go_ret
  exact ⟨rfl, (((Below.refl _ _).alloc (Nat.le_refl _) _).alloc (by simp) _).alloc (by simp; omega) _⟩

set_option maxHeartbeats 400000 in
theorem lock_c3b (j : Nat) (hj : j < 31) (hc : lk j = 3) (p g next got target i : Int) (spin inn : Bool) (rest : Value) (back after arg ln ls stage ticket times : Int) (n : Int) (hn : 1 ≤ n) (hn2 : n ≤ 4611686018427387904) (hi : 0 ≤ i) (hr : ringOf p n ≤ 0) (w : World) (hT : Table w) :
    Calls Tryd.prog 9 #[.agg #[.int .i64 (j : Int), .int .i64 p, .int .i64 g, .int .i64 next, .int .i64 got, .int .i64 target, .int .i64 i, .bool spin, .bool inn, rest, .int .i64 back, .int .i64 after, .int .i64 arg, .int .i64 ln, .int .i64 ls, .int .i64 stage, .int .u64 ticket, .int .i64 times], .int .i64 n] w fun e w' => e = .returned (.int .i64 (-1)) ∧ Below w.heap.size w w' := by
  have b1 : decide (n < 1) = false := by simp; omega
  have b2 : decide (0 ≤ i) = true := by simp; omega
  have b3 : decide (0 < ringOf p n) = false := by simp; omega
  clear hi hr
  go_enter Tryd.func9, Tryd.ntmps9
  go_wp2_with fail
  refine (of_in j hj _ hc _ (by exact hT.alloc _)).mono ?_
  rintro e w' ⟨rfl, rfl⟩
  go_wp2_with fail
  refine (ring_any p n (by omega) _).mono ?_
  rintro e w' ⟨rfl, rfl⟩
  go_wp2
  go_ret
  exact ⟨rfl, (((Below.refl _ _).alloc (Nat.le_refl _) _).alloc (by simp) _).alloc (by simp; omega) _⟩

set_option maxHeartbeats 400000 in
theorem lock_c3c (j : Nat) (hj : j < 31) (hc : lk j = 3) (p g next got target i : Int) (spin inn : Bool) (rest : Value) (back after arg ln ls stage ticket times : Int) (n : Int) (hn : 1 ≤ n) (hn2 : n ≤ 4611686018427387904) (hi : 0 ≤ i) (hi2 : i ≤ 9223372036854775807) (hp : 0 ≤ p) (hp2 : p < n) (w : World) (hT : Table w) :
    Calls Tryd.prog 9 #[.agg #[.int .i64 (j : Int), .int .i64 p, .int .i64 g, .int .i64 next, .int .i64 got, .int .i64 target, .int .i64 i, .bool spin, .bool inn, rest, .int .i64 back, .int .i64 after, .int .i64 arg, .int .i64 ln, .int .i64 ls, .int .i64 stage, .int .u64 ticket, .int .i64 times], .int .i64 n] w fun e w' => e = .returned (.int .i64 ((p + i) % n + 1)) ∧ Below w.heap.size w w' := by
  have b1 : decide (n < 1) = false := by simp; omega
  have b2 : decide (0 ≤ i) = true := by simp; omega
  have b3 : decide (0 < ringOf p n) = true := by unfold ringOf; simp; rw [if_neg (by omega), if_neg (by omega)]; omega
  have hm : 0 ≤ i % n ∧ i % n < n := ⟨Int.emod_nonneg _ (by omega), Int.emod_lt_of_pos _ (by omega)⟩
  have hm2 : 0 ≤ (p + i) % n ∧ (p + i) % n < n := ⟨Int.emod_nonneg _ (by omega), Int.emod_lt_of_pos _ (by omega)⟩
  go_enter Tryd.func9, Tryd.ntmps9
  go_wp2_with fail
  refine (of_in j hj _ hc _ (by exact hT.alloc _)).mono ?_
  rintro e w' ⟨rfl, rfl⟩
  go_wp2_with fail
  refine (ring_any p n (by omega) _).mono ?_
  rintro e w' ⟨rfl, rfl⟩
  go_wp2
  go_region
  go_wp2
  go_ret
  exact ⟨rfl, ((((Below.refl _ _).alloc (Nat.le_refl _) _).alloc (by simp) _).alloc (by simp; omega) _).drew⟩

set_option maxHeartbeats 400000 in
theorem lock_n (j : Nat) (hj : j < 31) (p g next got target i : Int) (spin inn : Bool) (rest : Value) (back after arg ln ls stage ticket times : Int) (n : Int) (hn : n < 1) (w : World) (hT : Table w) :
    Calls Tryd.prog 9 #[.agg #[.int .i64 (j : Int), .int .i64 p, .int .i64 g, .int .i64 next, .int .i64 got, .int .i64 target, .int .i64 i, .bool spin, .bool inn, rest, .int .i64 back, .int .i64 after, .int .i64 arg, .int .i64 ln, .int .i64 ls, .int .i64 stage, .int .u64 ticket, .int .i64 times], .int .i64 n] w fun e w' => e = .returned (.int .i64 (-1)) ∧ Below w.heap.size w w' := by
  have b1 : decide (n < 1) = true := by simpa using hn
  clear hn
  go_enter Tryd.func9, Tryd.ntmps9
  go_wp2_with fail
  refine (of_in j hj _ rfl _ (by exact hT.alloc _)).mono ?_
  rintro e w' ⟨rfl, rfl⟩
  go_wp2
  go_ret
  exact ⟨rfl, (((Below.refl _ _).alloc (Nat.le_refl _) _).alloc (by simp) _).alloc (by simp; omega) _⟩

set_option maxHeartbeats 400000 in
theorem lock_out (place : Int) (hp : place < 0 ∨ 31 ≤ place) (p g next got target i : Int) (spin inn : Bool) (rest : Value) (back after arg ln ls stage ticket times : Int) (n : Int) (w : World) :
    Calls Tryd.prog 9 #[.agg #[.int .i64 place, .int .i64 p, .int .i64 g, .int .i64 next, .int .i64 got, .int .i64 target, .int .i64 i, .bool spin, .bool inn, rest, .int .i64 back, .int .i64 after, .int .i64 arg, .int .i64 ln, .int .i64 ls, .int .i64 stage, .int .u64 ticket, .int .i64 times], .int .i64 n] w fun e w' => e = .returned (.int .i64 (-1)) ∧ Below w.heap.size w w' := by
  go_enter Tryd.func9, Tryd.ntmps9
  go_wp2_with fail
  refine (of_out place hp _).mono ?_
  rintro e w' ⟨rfl, rfl⟩
  go_wp2
  go_ret
  exact ⟨rfl, (((Below.refl _ _).alloc (Nat.le_refl _) _).alloc (by simp) _).alloc (by simp; omega) _⟩

/-- mach.Lock is lockOf. -/
theorem lock_any (place : Int) (p g next got target i : Int) (spin inn : Bool) (rest : Value) (back after arg ln ls stage ticket times : Int) (n : Int) (hn2 : n ≤ 4611686018427387904) (hi2 : i ≤ 9223372036854775807) (w : World) (hT : Table w) :
    Calls Tryd.prog 9 #[.agg #[.int .i64 place, .int .i64 p, .int .i64 g, .int .i64 next, .int .i64 got, .int .i64 target, .int .i64 i, .bool spin, .bool inn, rest, .int .i64 back, .int .i64 after, .int .i64 arg, .int .i64 ln, .int .i64 ls, .int .i64 stage, .int .u64 ticket, .int .i64 times], .int .i64 n] w fun e w' => e = .returned (.int .i64 (lockOf place p i n)) ∧ Below w.heap.size w w' := by
  unfold lockOf
  by_cases h0 : place < 0 ∨ 31 ≤ place
  · rw [if_pos h0]; exact lock_out place h0 p g next got target i spin inn rest back after arg ln ls stage ticket times n w
  rw [if_neg h0]
  obtain ⟨j, rfl⟩ : ∃ j : Nat, place = j := ⟨place.toNat, by omega⟩
  have hj : j < 31 := by omega
  rw [Int.toNat_natCast]
  by_cases h1 : n < 1
  · rw [if_pos h1]; exact lock_n j hj p g next got target i spin inn rest back after arg ln ls stage ticket times n h1 w hT
  rw [if_neg h1]
  have hn : 1 ≤ n := by omega
  by_cases k1 : lk j = 1
  · rw [if_pos k1]; exact lock_c1 j hj k1 p g next got target i spin inn rest back after arg ln ls stage ticket times n hn hn2 w hT
  rw [if_neg k1]
  by_cases k5 : lk j = 5
  · rw [if_pos k5]; exact lock_c5 j hj k5 p g next got target i spin inn rest back after arg ln ls stage ticket times n hn hn2 w hT
  rw [if_neg k5]
  by_cases k2 : lk j = 2
  · rw [if_pos k2]; exact lock_c2 j hj k2 p g next got target i spin inn rest back after arg ln ls stage ticket times n hn hn2 w hT
  rw [if_neg k2]
  by_cases k4 : lk j = 4
  · rw [if_pos k4]; exact lock_c4 j hj k4 p g next got target i spin inn rest back after arg ln ls stage ticket times n hn hn2 w hT
  rw [if_neg k4]
  by_cases k3 : lk j = 3
  · rw [if_pos k3]
    by_cases hi : 0 ≤ i
    · by_cases hr : 0 < ringOf p n
      · rw [if_pos ⟨hi, hr⟩]
        unfold ringOf at hr
        exact lock_c3c j hj k3 p g next got target i spin inn rest back after arg ln ls stage ticket times n hn hn2 hi hi2 (by split at hr <;> omega) (by (repeat' split at hr) <;> omega) w hT
      · rw [if_neg (by omega)]; exact lock_c3b j hj k3 p g next got target i spin inn rest back after arg ln ls stage ticket times n hn hn2 hi (by omega) w hT
    · rw [if_neg (by omega)]; exact lock_c3a j hj k3 p g next got target i spin inn rest back after arg ln ls stage ticket times n hn hn2 (by omega) w hT
  rw [if_neg k3]
  have k0 : lk j = 0 := by
    have : ∀ j, j < 31 → lk j = 0 ∨ lk j = 1 ∨ lk j = 2 ∨ lk j = 3 ∨ lk j = 4 ∨ lk j = 5 := by decide
    rcases this j hj with h | h | h | h | h | h <;> first | exact h | contradiction
  exact lock_c0 j hj k0 p g next got target i spin inn rest back after arg ln ls stage ticket times n hn hn2 w hT
end Go.Proofs.YtlnbofleeegegaaDoor.Mch
