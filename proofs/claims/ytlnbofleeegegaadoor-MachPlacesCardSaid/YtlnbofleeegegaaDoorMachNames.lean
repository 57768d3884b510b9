/-
  Walks over the names of places: mach.Name, mach.Named, slices.IndexFunc at places, the document's names.
-/
import Derived.Test.YtlnbofleeegegaaDoorMachLaw2
namespace Go.Proofs.YtlnbofleeegegaaDoor.Mch
open Go.RowKit
set_option linter.unusedVariables false

def mx (a b : Int) : Int := if a < b then b else a
theorem max2_is (k k' : IntKind) (x y : Int) : Builtin.max2 (.int k x) (.int k' y) = pure (.int k (mx x y)) := by
  simp only [Builtin.max2, gt_iff_lt, mx]
theorem max_two (ats : Array TypeId) (ty : TypeId) (a b : Value) : Builtin.max_ ats ty #[a, b] = (Builtin.max2 a b >>= fun s => pure s) := by simp only [Builtin.max_, List.foldlM_cons, List.foldlM_nil]
attribute [local go_sem] max2_is max_two

theorem named1_any (x s : ByteArray) (l : Int) (c : Addr) (w : World) (hc : w.cell? c = some (.string s)) (hlt : c.block < w.heap.size) :
    Calls Tryd.prog 21 #[.agg #[.string x, .int .i64 l], .pointer (some c)] w fun e w' => e = .returned (.bool (x.toList == s.toList)) ∧ w.alloc (.cells #[.string x, .int .i64 l] 49) = w' := by
  have hc' : ∀ o, (w.alloc o).cell? c = some (.string s) := fun o => cell_later ((Below.refl _ _).alloc (Nat.le_refl _) o) hc
  go_enter Tryd.func21, Tryd.ntmps21
  go_wp2
  go_ret
  exact ⟨rfl, rfl⟩

/-- The first place of a name; -1: none. -/
def idx (s : ByteArray) : Int := match (List.range 31).find? (fun j => (nm j).toList == s.toList) with | some j => (j : Int) | none => -1

theorem idx_at {s : ByteArray} {k : Nat} (hk : k < 31) (h : ∀ j, j < k → ((nm j).toList == s.toList) = false) (e : ((nm k).toList == s.toList) = true) : idx s = k := by
  have : (List.range 31).find? (fun j => (nm j).toList == s.toList) = some k := by
    rw [List.find?_range_eq_some]
    exact ⟨e, by simpa using hk, fun j hj => by simpa using h j hj⟩
  unfold idx; rw [this]
theorem idx_none {s : ByteArray} (h : ∀ j, j < 31 → ((nm j).toList == s.toList) = false) : idx s = -1 := by
  have : (List.range 31).find? (fun j => (nm j).toList == s.toList) = none := by
    rw [List.find?_eq_none]; intro j hj; simp at hj; simp [h j hj]
  unfold idx; rw [this]

set_option maxHeartbeats 400000 in
theorem index_any (s : ByteArray) (c : Addr) (w : World) (hT : Table w) (hc : w.cell? c = some (.string s)) (hlt : c.block < w.heap.size) :
    Calls Tryd.prog 20 #[.slice (some ⟨0, 0, none⟩) 31 31, .func (.func 21) #[] #[.pointer (some c)]] w fun e w' => e = .returned (.int .i64 (idx s)) ∧ Below w.heap.size w w' := by
  go_enter Tryd.func20, Tryd.ntmps20
  go_wp2_with fail
  go_loopw [8] (fun i wr => ∃ k : Nat, k ≤ 31 ∧ i = .int .i64 k ∧ (∀ j, j < k → ((nm j).toList == s.toList) = false) ∧ Below w.heap.size w wr) (fun i _ => 31 - (intOf i).toNat)
  case atStart => exact ⟨0, by omega, rfl, fun j hj => absurd hj (by omega), Below.refl _ _⟩
  case round =>
    obtain ⟨k, hk, rfl, hno, hb⟩ := hrel
    have hno' := Lib.hid hno
    clear hno
    have hT' := hT.below hb
    by_cases hlen : k < 31
    · have c0 := (hT'.2 k hlen).1
      have c1 := (hT'.2 k hlen).2
      have hcr := cell_later hb hc
      have hltr : c.block < wr.heap.size := Nat.lt_of_lt_of_le hlt hb.size
      go_wp2_with fail
      refine (named1_any (nm k) s (lk k) c _ hcr hltr).mono ?_
      rintro e w' ⟨rfl, rfl⟩
      cases hq : ((nm k).toList == s.toList)
      · have Hq := Lib.hid hq
        clear hq
        go_wp2
        go_roundw
        case rel => exact ⟨k + 1, by omega, by go_num, fun j hj => by
            by_cases e : j = k
            · subst e; exact Hq.out
            · exact hno'.out j (by omega), hb.alloc hb.size _⟩
        case measure => simp [intOf]; omega
      · have Hq := Lib.hid (idx_at hlen hno'.out hq)
        clear hq
        go_wp2
        go_ret
        exact ⟨by rw [Hq.out]; rfl, hb.alloc hb.size _⟩
    · obtain rfl : k = 31 := by omega
      have Hq := Lib.hid (idx_none hno'.out)
      go_wp2
      go_ret
      exact ⟨by rw [Hq.out]; rfl, hb⟩

set_option maxHeartbeats 400000 in
theorem named_any (s : ByteArray) (w : World) (hT : Table w) :
    Calls Tryd.prog 16 #[.string s] w fun e w' => e = .returned (.tuple #[.int .i64 (mx 0 (idx s)), .bool (decide (0 ≤ idx s))]) ∧ Below w.heap.size w w' := by
  go_enter Tryd.func16, Tryd.ntmps16
  go_wp2_with fail
  refine (index_any s _ _ (hT.alloc _) (by go_simp) (by simp)).mono ?_
  rintro e w' ⟨rfl, hb⟩
  go_wp2
  go_ret2
  exact ⟨rfl, ((Below.refl _ _).alloc (Nat.le_refl _) _).trans (hb.mono (by simp))⟩

theorem name_in (j : Nat) (hj : j < 31) (w : World) (hT : Table w) :
    Calls Tryd.prog 15 #[.int .i64 (j : Int)] w fun e w' => e = .returned (.string (nm j)) ∧ Below w.heap.size w w' := by
  go_enter Tryd.func15, Tryd.ntmps15
  go_wp2_with fail
  refine (of_in j hj _ rfl _ hT).mono ?_
  rintro e w' ⟨rfl, rfl⟩
  go_wp2
  go_ret
  exact ⟨rfl, ((Below.refl _ _).alloc (Nat.le_refl _) _).alloc (by simp) _⟩

theorem name_out (p : Int) (hp : p < 0 ∨ 31 ≤ p) (w : World) :
    Calls Tryd.prog 15 #[.int .i64 p] w fun e w' => e = .returned (.string ⟨#[]⟩) ∧ Below w.heap.size w w' := by
  go_enter Tryd.func15, Tryd.ntmps15
  go_wp2_with fail
  refine (of_out p hp _).mono ?_
  rintro e w' ⟨rfl, rfl⟩
  go_wp2
  go_ret
  exact ⟨rfl, ((Below.refl _ _).alloc (Nat.le_refl _) _).alloc (by simp) _⟩

def NS : Array Value := ((List.range 31).map fun j => Value.string (nm j)).toArray
theorem NS_at {j : Nat} (hj : j < 31) : NS[j]? = some (.string (nm j)) := by simp [NS, hj]

theorem names_any (w : World) :
    Calls Tryd.prog 14 #[] w fun e w' => e = .returned (.slice (some ⟨w.heap.size, 0, none⟩) 31 31) ∧ (∀ j, j < 31 → w'.cell? ⟨w.heap.size, j, none⟩ = some (.string (nm j))) ∧ Below w.heap.size w w' ∧ w.heap.size < w'.heap.size := by
  go_enter Tryd.func14, Tryd.ntmps14
  go_wp2
  go_ret
  exact ⟨rfl, fun j hj => (cell_of_row _ w.heap.size j NS _ _ (heap_alloc_new w _)).trans (NS_at hj), (Below.refl _ _).alloc (Nat.le_refl _) _, by simp⟩

theorem idx_nm : ∀ j, j < 31 → idx (nm j) = j := by
  intro j hj
  refine idx_at hj (fun i hi => ?_) (by simp)
  have key : ∀ j, j < 31 → ∀ i, i < j → names.getD i [] ≠ names.getD j [] := by decide
  have h := key j hj i hi
  simp only [beq_eq_false_iff_ne, ne_eq]
  intro e
  apply h
  simpa [nm] using e

theorem idx_miss {s : ByteArray} (h : idx s = -1 ∨ 0 ≤ idx s) : True := trivial
end Go.Proofs.YtlnbofleeegegaaDoor.Mch
