/-
  Package heap: up.
-/
import Derived.Test.YtmaahidipbghfaaHeapRow
namespace Go.Proofs.Ytmaahidipbghfaa.Hp
open Go.RowKit
set_option linter.unusedVariables false

/-- An entry goes up, as far as it has to. -/
def upL (es : List Ent) (i : Nat) : List Ent :=
  if h : 0 < i then if aheadB es[i]! es[(i - 1) / 4]! then upL (swp es i ((i - 1) / 4)) ((i - 1) / 4) else es else es
termination_by i
decreasing_by omega
theorem upL_stop {es : List Ent} {i : Nat} (h : 0 < i → aheadB es[i]! es[(i - 1) / 4]! = false) : upL es i = es := by
  rw [upL]
  split
  · rename_i h1; rw [h h1]; rfl
  · rfl
theorem upL_step {es : List Ent} {i q : Nat} (h : 0 < i) (hq : q = (i - 1) / 4) (ha : aheadB es[i]! es[q]! = true) : upL es i = upL (swp es i q) q := by
  subst hq; rw [upL, dif_pos h, ha]; rfl

theorem Row3.drew {w : World} {g cap : Nat} {es : List Ent} (r : Row3 w g cap es) : Row3 w.drew g cap es := r.heap rfl
theorem grown_set3 {w w' : World} {b : Nat} (h : w.grownBy w' (some b)) (i : Nat) (v : Value) : w.grownBy (w'.setCell ⟨b, i, none⟩ v) (some b) :=
  ⟨h.os, h.tape, h.output, by simpa using h.size, fun k hk hne => by
    rw [heap_setCell_other _ _ _ _ (fun e => hne (by rw [e]))]; exact h.block k hk hne⟩
theorem grown_drew3 {w w' : World} {r : Option Nat} (h : w.grownBy w' r) : w.grownBy w'.drew r := ⟨h.os, h.tape, h.output, h.size, h.block⟩
theorem grown_sets {w w' : World} {b i j k l m n : Nat} {v1 v2 v3 v4 v5 v6 : Value} (h : w.grownBy w' (some b)) :
    w.grownBy ((((((w'.setCell ⟨b, i, none⟩ v1).setCell ⟨b, j, none⟩ v2).setCell ⟨b, k, none⟩ v3).setCell ⟨b, l, none⟩ v4).setCell ⟨b, m, none⟩ v5).setCell ⟨b, n, none⟩ v6) (some b) :=
  grown_set3 (grown_set3 (grown_set3 (grown_set3 (grown_set3 (grown_set3 h _ _) _ _) _ _) _ _) _ _) _ _

set_option maxRecDepth 100000 in
set_option maxHeartbeats 2000000 in
theorem up_is (w : World) (b i g cap : Nat) (es : List Ent) (r : Row3 w g cap es) (hc : w.cell? ⟨b, i, none⟩ = some (.slice (some ⟨g, 0, none⟩) es.length cap)) (hgb : b ≠ g) (hbig : es.length ≤ 1000000) (j : Nat) (hj : j < es.length) :
    Calls Try.prog 30 #[.pointer (some ⟨b, i, none⟩), .int .i64 j] w fun e w' => e = .returned (.tuple #[]) ∧ Row3 w' g cap (upL es j) ∧ w.grownBy w' (some g) := by
  obtain ⟨n, hn⟩ : ∃ n, n = es.length := ⟨_, rfl⟩
  rw [← hn] at hc hj hbig
  have R := Lib.hid r
  have HN := Lib.hid hn
  have HC := Lib.hid hc
  have hblt := block_lt_of_cell hc
  clear r hn hc
  go_enter Try.func30, Try.ntmps30
  go_wp2
  go_loopw [1] (fun p wr => ∃ (k : Nat) (fs : List Ent), p = .int .i64 k ∧ k < n ∧ fs.length = n ∧ upL fs k = upL es j ∧ Row3 wr g cap fs ∧ w.grownBy wr (some g)) (fun p _ => (intOf p).toNat)
  case atStart => exact ⟨j, es, rfl, hj, HN.out.symm, rfl, R.out, World.grownBy.refl _ _⟩
  case round =>
    obtain ⟨k, fs, rfl, hk, hl, hu, hr, hg⟩ := hrel
    have HL := Lib.hid hl
    have HU := Lib.hid hu
    have HR := Lib.hid hr
    have HG := Lib.hid hg
    have hcw : wr.cell? ⟨b, i, none⟩ = some (.slice (some ⟨g, 0, none⟩) n cap) := hg.cell HC.out (fun e => hgb (Option.some.inj e))
    clear hl hu hr hg
    by_cases h0 : 0 < k
    · obtain ⟨q, hq⟩ : ∃ q : Nat, q = (k - 1) / 4 := ⟨_, rfl⟩
      have hd1 : ((k : Int) - 1).tdiv 4 = (q : Int) := by rw [Int.tdiv_eq_ediv_of_nonneg (by omega)]; omega
      have hd2 : ((k : Int) - 1) / 4 = (q : Int) := by omega
      have hqk : q < k := by omega
      have hqn : q < n := by omega
      have HQ := Lib.hid hq
      clear hq
      obtain ⟨x, hx⟩ : ∃ x, fs[k]! = x := ⟨_, rfl⟩
      obtain ⟨y, hy⟩ : ∃ y, fs[q]! = y := ⟨_, rfl⟩
      have ex : fs[k]? = some x := by rw [← hx]; exact bang (by rw [HL.out]; exact hk)
      have ey : fs[q]? = some y := by rw [← hy]; exact bang (by rw [HL.out]; omega)
      obtain ⟨x0, x1, x2⟩ := HR.out.cells ex
      obtain ⟨y0, y1, y2⟩ := HR.out.cells ey
      have HX := Lib.hid hx
      have HY := Lib.hid hy
      clear hx hy ex ey
      go_wp2
      refine wp_region_still_tail 14 (by kernel_rfl) (by kernel_rfl) ?_
      simp only [List.take_succ_cons, List.take_zero, List.drop_succ_cons, List.drop_zero]
      change wpStill _ _ wr.drew _ _ _
      repeat still_step
      refine wpStill_nil ?_
      go_wp2_with fail
      refine (ahead_is x y _).mono ?_
      rintro e w1 ⟨rfl, hb⟩
      have HR1 : Hid (Row3 w1 g cap fs) := Lib.hid (HR.out.heap (hb.block _ HR.out.lt))
      have HG1 : Hid (w.grownBy w1 (some g)) := Lib.hid ⟨hb.os.trans HG.out.os, hb.tape.trans HG.out.tape, hb.output.trans HG.out.output, Nat.le_trans HG.out.size hb.size, fun c hc hne => (hb.block c (Nat.lt_of_lt_of_le hc HG.out.size)).trans (HG.out.block c hc hne)⟩
      have hbw : b < wr.heap.size := Nat.lt_of_lt_of_le hblt HG.out.size
      have hcw1 : w1.cell? ⟨b, i, none⟩ = some (.slice (some ⟨g, 0, none⟩) n cap) := (hb.cell (p := ⟨b, i, none⟩) hbw).trans hcw
      clear hb hcw x0 x1 x2 y0 y1 y2
      by_cases ha : aheadB x y = true
      · have hd : upL fs k = upL (swp fs k q) q := upL_step h0 HQ.out (by rw [HX.out, HY.out]; exact ha)
        have HD := Lib.hid hd
        have hlen : (swp fs k q).length = n := by rw [swp_len]; exact HL.out
        have HLE := Lib.hid hlen
        clear hd hlen
        have ex : fs[k]? = some x := by rw [← HX.out]; exact bang (by rw [HL.out]; exact hk)
        have ey : fs[q]? = some y := by rw [← HY.out]; exact bang (by rw [HL.out]; omega)
        obtain ⟨x0, x1, x2⟩ := HR1.out.cells ex
        obtain ⟨y0, y1, y2⟩ := HR1.out.cells ey
        have hfr := HR1.out.free
        have HEX := Lib.hid ex
        have HEY := Lib.hid ey
        clear ex ey
        go_wp2_with fail
        go_region
        go_wp2_with fail
        go_roundw
        case rel =>
          refine ⟨q, swp fs k q, rfl, hqn, HLE.out, by rw [← HD.out]; exact HU.out, ?_, grown_drew3 (grown_sets HG1.out)⟩
          have := ((HR1.out.set (i := k) (by rw [HL.out]; exact hk) y).set (i := q) (by simp; rw [HL.out]; exact hqn) x)
          have e : (fs.set k y).set q x = swp fs k q := by unfold swp; rw [HX.out, HY.out]
          rw [e] at this
          exact this.drew
        case measure => simp [intOf]; omega
      · have hd : upL fs k = fs := upL_stop fun _ => by rw [HX.out, ← HQ.out, HY.out]; simpa using ha
        rw [hd] at HU
        have ha' : aheadB x y = false := by simpa using ha
        clear ha hd
        go_wp2_with fail
        refine bodyPost_ret (results_none rfl _ _ _) rfl ?_
        exact ⟨rfl, by rw [← HU.out]; exact HR1.out, HG1.out⟩
    · obtain rfl : k = 0 := by omega
      go_wp2_with fail
      go_end0
      exact ⟨rfl, by rw [← HU.out, upL_stop (fun h => absurd h h0)]; exact HR.out, HG.out⟩
end Go.Proofs.Ytmaahidipbghfaa.Hp
