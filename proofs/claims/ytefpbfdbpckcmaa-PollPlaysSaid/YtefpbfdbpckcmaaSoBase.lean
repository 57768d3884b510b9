/-
  The library's sort at uint16: what a row holds; cmp.Less.
-/
import Derived.Test.YtefpbfdbpckcmaaRows
import Derived.WalkKit
import Derived.CellFam
import Derived.Sort.AssemblyPlain
import Derived.Sort.Row
import Derived.Laws.AppendOwn
import Derived.Lib.Hide
import Derived.Deep.QuietTactic
import Derived.BigQuiet
import Derived.BigRegion
import Derived.RegionTactic
import Derived.IntWalk
namespace Go.Proofs.Ytefpbfdbpckcmaa.So
open Go.RowKit Go.Sort
set_option linter.unusedVariables false

/-- The row of numbers d lies in block b from place off on; nothing besides that block is other than in w0 (blocks may have been added). -/
structure Row (w0 : World) (b off : Nat) (d : Array Int) (w : World) : Prop where
  holds : Holds (Value.int .u16) w b off d
  grown : w0.grownBy w (some b)

theorem Row.cell {w0 w : World} {b off : Nat} {d : Array Int} (h : Row w0 b off d w) (t : Nat) (ht : t < d.size) : w.cell? ⟨b, off + t, none⟩ = some (.int .u16 d[t]!) := (h.holds t ht).1
theorem Row.froz {w0 w : World} {b off : Nat} {d : Array Int} (h : Row w0 b off d w) (t : Nat) (ht : t < d.size) : w.frozen? ⟨b, off + t, none⟩ = false := (h.holds t ht).2
theorem Row.drewN {w0 w : World} {b off : Nat} {d : Array Int} (h : Row w0 b off d w) (q : Nat) : Row w0 b off d (w.drewN q) :=
  ⟨h.holds, ⟨h.grown.os, h.grown.tape, h.grown.output, h.grown.size, h.grown.block⟩⟩
theorem Row.drew {w0 w : World} {b off : Nat} {d : Array Int} (h : Row w0 b off d w) : Row w0 b off d w.drew :=
  ⟨h.holds, ⟨h.grown.os, h.grown.tape, h.grown.output, h.grown.size, h.grown.block⟩⟩
theorem grownBy_trans {a b c : World} {r : Option Nat} (h : a.grownBy b r) (k : b.grownBy c r) : a.grownBy c r :=
  ⟨k.os.trans h.os, k.tape.trans h.tape, k.output.trans h.output, Nat.le_trans h.size k.size, fun j hj hne => (k.block j (Nat.lt_of_lt_of_le hj h.size) hne).trans (h.block j hj hne)⟩
theorem Row.trans {w0 w1 w2 : World} {b off : Nat} {d e : Array Int} (h : Row w0 b off d w1) (k : Row w1 b off e w2) : Row w0 b off e w2 := ⟨k.holds, grownBy_trans h.grown k.grown⟩
theorem Row.here {w0 w : World} {b off : Nat} {d : Array Int} (h : Row w0 b off d w) : Row w b off d w := ⟨h.holds, ⟨rfl, rfl, rfl, Nat.le_refl _, fun _ _ _ => rfl⟩⟩
theorem Row.cong {w0 w : World} {b off : Nat} {d e : Array Int} (h : Row w0 b off d w) (hd : d = e) : Row w0 b off e w := hd ▸ h
/-- A store into a place of the row. -/
theorem Row.set {w0 w : World} {b off : Nat} {d : Array Int} (h : Row w0 b off d w) (i : Nat) (hi : i < d.size) (x : Int) : Row w0 b off (d.setIfInBounds i x) (w.setCell ⟨b, off + i, none⟩ (.int .u16 x)) := by
  obtain ⟨c, e, fr, hb, _⟩ := cells_of_cell? (h.cell i hi)
  refine ⟨fun t ht => ?_, ?_⟩
  · have ht' : t < d.size := by simpa using ht
    rw [setCell_eq]
    refine ⟨?_, by rw [frozen?_mapBlock]; exact h.froz t ht'⟩
    rw [cell?_mapBlock w b (off + t) _ hb]
    have h0 : c[off + t]? = some (.int .u16 d[t]!) := by
      have := h.cell t ht'
      simp [World.cell?, hb] at this
      simpa using this
    by_cases hti : t = i
    · subst hti
      rw [getElem!_set_same d t x hi]
      have hl := (Array.getElem?_eq_some_iff.1 h0).1
      simp [hl]
    · rw [getElem!_set_other d i t x hti]
      rw [Array.getElem?_setIfInBounds_ne (by omega)]
      exact h0
  · refine grownBy_trans h.grown ⟨rfl, rfl, rfl, by simp, fun k hk hne => ?_⟩
    exact heap_setCell_other w _ _ _ (fun e => hne (by rw [e]))
/-- Two places of the row change places. -/
theorem Row.swap {w0 w : World} {b off : Nat} {d : Array Int} (h : Row w0 b off d w) (i j : Nat) (hi : i < d.size) (hj : j < d.size) (x y : Int) (hx : x = d[j]!) (hy : y = d[i]!) :
    Row w0 b off (swp d i j) ((w.setCell ⟨b, off + i, none⟩ (.int .u16 x)).setCell ⟨b, off + j, none⟩ (.int .u16 y)) := by
  subst hx hy
  exact (h.set i hi _).set j (by simpa using hj) _

set_option maxHeartbeats 1000000 in
theorem nan_is (x : Int) (w : World) : Calls Try.prog 54 #[.int .u16 x] w fun e w' => e = .returned (.bool false) ∧ w = w' := by
  go_enter Try.func54, Try.ntmps54
  go_wp2
  go_ret
  exact ⟨by simp, rfl⟩
set_option maxHeartbeats 1000000 in
theorem less_is (x y : Int) (w : World) : Calls Try.prog 44 #[.int .u16 x, .int .u16 y] w fun e w' => e = .returned (.bool (ltInt x y)) ∧ w' = w := by
  go_enter Try.func44, Try.ntmps44
  go_wp2_with (go_at_call 54; refine (nan_is _ _).mono ?_; rintro e w' ⟨rfl, rfl⟩)
  go_ret
  exact ⟨rfl, rfl⟩
end Go.Proofs.Ytefpbfdbpckcmaa.So
