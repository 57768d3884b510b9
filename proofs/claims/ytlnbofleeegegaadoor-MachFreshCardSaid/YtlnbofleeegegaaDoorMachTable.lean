/-
  The listed table, opened: what the row's condition on mach.places gives the walks.
-/
import Derived.Test.YtlnbofleeegegaaDoorMachLaw
import Derived.ProofKit
import Derived.LaidMore
import Derived.OpenShut
import Derived.Stop.Joined
import Derived.Deep.Strs
namespace Go.Proofs.YtlnbofleeegegaaDoor.Mch
open Go.ChangeShapes Go.WideShapes Go.ChangeAt Go.WideMaps Go.WideElems Go.RowKit
set_option linter.unusedVariables false

abbrev laidL : List (String × DataW Unit) := [("hostler/mach.places", Rows.laid_hostler_mach_places)]
theorem gPlaces : Tryd.prog.globalNamed "hostler/mach.places" = some 0 := by kernel_rfl
theorem tPlaces : (Tryd.prog.globals[0]?).map (·.type) = some 56 := by kernel_rfl

theorem datum_is : (Rows.laid_hostler_mach_places : DataW Unit) = .agg ((List.range 31).map fun j => .agg [.lit (.string (names.getD j [])), .lit (.int .i64 (locks.getD j 0))]) := by rfl

theorem of_laid {W : World} (h : laidMetH Tryd.prog laidL W) : Table W := by
  rw [MakeChecks.laidMetH_plain _ _ _ (by kernel_rfl)] at h
  obtain ⟨ps, ⟨g0, t0, cs0, f0, p0, q0, hg0, ht0, hv0, hd0, _, _⟩, _, _⟩ := h
  obtain rfl := Option.some.inj (gPlaces.symm.trans hg0)
  obtain rfl := Option.some.inj (tPlaces.symm.trans ht0)
  obtain ⟨xs, m1, rfl, hx1, hlen, hn3, hel⟩ := DataW.trod_array Tryd.underlying56 hd0
  have c2 : Tryd.prog.cellsOf 49 = 2 := by kernel_rfl
  have c62 : Tryd.prog.cellsOf 56 = 62 := by kernel_rfl
  have hsz : cs0.size = 62 := by rw [← c62, ← hlen]; simp
  rw [datum_is] at hx1
  simp only [Prod.mk.injEq, DataW.agg.injEq] at hx1
  have hcell : ∀ k, k < 62 → W.cell? ⟨0, k, none⟩ = cs0[k]? := by
    intro k hk
    have := World.var?_cell hg0 hv0 k
    simpa using this
  refine ⟨?_, fun j hj => ?_⟩
  · have := hcell 0 (by omega)
    rw [Array.getElem?_eq_getElem (by omega)] at this
    exact block_lt_of_cell this
  · have hj' := hel j hj
    rw [c2] at hj'
    have hxj : j < xs.length := by omega
    rw [List.getElem?_eq_getElem hxj] at hj'
    obtain ⟨y0, y1, n, hy, hl2, h0, h1⟩ := trod_struct2 (by exact Tryd.underlying49) hj'
    have c9 : Tryd.prog.cellsOf 9 = 1 := by kernel_rfl
    have c47 : Tryd.prog.cellsOf 47 = 1 := by kernel_rfl
    obtain ⟨s, e0, r0, _⟩ := DataW.trod_string (t := 9) Tryd.underlying9 h0
    obtain ⟨k, e1, r1, _⟩ := DataW.trod_int (t := 47) Tryd.underlying47 h1
    have hd : (xs[j]).1 = .agg [.lit (.string (names.getD j [])), .lit (.int .i64 (locks.getD j 0))] := by
      have := congrArg (fun l => l[j]?) hx1.1
      simp [hj, hxj] at this
      exact this.symm
    rw [hy, r0, r1] at hd
    simp only [DataW.agg.injEq, List.cons.injEq, DataW.lit.injEq, Lit.string.injEq, Lit.int.injEq, true_and, and_true] at hd
    obtain ⟨hs, hk⟩ := hd
    have f0' : cs0[j * 2]? = some (.string s) := by
      have : (List.take 1 (List.drop 0 (List.take 2 (List.drop (j * 2) cs0.toList))))[0]? = some (.string s) := by
        have e0' : List.take (Tryd.prog.cellsOf 9) (List.drop 0 (List.take 2 (List.drop (j * 2) cs0.toList))) = [.string s] := e0
        rw [c9] at e0'; rw [e0']; rfl
      simpa [List.getElem?_take, List.getElem?_drop] using this
    have f1' : cs0[j * 2 + 1]? = some (.int .i64 k) := by
      have : (List.take 1 (List.drop 1 (List.take 2 (List.drop (j * 2) cs0.toList))))[0]? = some (.int .i64 k) := by
        have e1' : List.take (Tryd.prog.cellsOf 47) (List.drop 1 (List.take 2 (List.drop (j * 2) cs0.toList))) = [.int .i64 k] := e1
        rw [c47] at e1'; rw [e1']; rfl
      simpa [List.getElem?_take, List.getElem?_drop] using this
    have es : s = nm j := by
      unfold nm; rw [← hs]
    rw [hcell _ (by omega), hcell _ (by omega), f0', f1', es, hk]
    exact ⟨rfl, rfl⟩
end Go.Proofs.YtlnbofleeegegaaDoor.Mch
