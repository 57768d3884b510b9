/-
  Package heap: least, down.
-/
import Derived.Test.YtmaahidipbghfaaHeapUp
import Derived.WalkMore
namespace Go.Proofs.Ytmaahidipbghfaa.Hp
open Go.RowKit
set_option linter.unusedVariables false

/-- Go's min of two. -/
def mn (a b : Int) : Int := if b < a then b else a
theorem min2_is (k k' : IntKind) (x y : Int) : Builtin.min2 (.int k x) (.int k' y) = pure (.int k (mn x y)) := by
  simp only [Builtin.min2, mn]
theorem min_two (ats : Array TypeId) (ty : TypeId) (a b : Value) : Builtin.min_ ats ty #[a, b] = (Builtin.min2 a b >>= fun s => pure s) := by simp only [Builtin.min_, List.foldlM_cons, List.foldlM_nil]
theorem run_min_is {P : Program} (ts : Array TypeId) (t : TypeId) (k k' : IntKind) (x y z : Int) (h : mn x y = z) (w : World) : (Builtin.min_ ts t #[.int k x, .int k' y]).run P w = .ok (.int k z) w := by
  rw [min_two, min2_is, h]; rfl

/-- The least of some places. -/
def leastFrom (es : List Ent) (k stop best : Nat) : Nat :=
  if h : k < stop then leastFrom es (k + 1) stop (if aheadB es[k]! es[best]! then k else best) else best
termination_by stop - k
decreasing_by omega
def leastL (es : List Ent) (i : Nat) : Nat := leastFrom es (4 * i + 1) (min (4 * i + 5) es.length) (4 * i + 1)
theorem leastFrom_step {es : List Ent} {k stop best : Nat} (h : k < stop) : leastFrom es k stop best = leastFrom es (k + 1) stop (if aheadB es[k]! es[best]! then k else best) := by rw [leastFrom, dif_pos h]
theorem leastFrom_stop {es : List Ent} {k stop best : Nat} (h : ¬ k < stop) : leastFrom es k stop best = best := by rw [leastFrom, dif_neg h]
theorem leastFrom_in (es : List Ent) (lo L : Nat) (d : Nat) : ∀ k stop best, stop - k = d → lo ≤ k → stop ≤ L → lo ≤ best → best < L → lo ≤ leastFrom es k stop best ∧ leastFrom es k stop best < L := by
  induction d with
  | zero => intro k stop best hd h1 h2 h3 h4; rw [leastFrom_stop (by omega)]; exact ⟨h3, h4⟩
  | succ d ih =>
    intro k stop best hd h1 h2 h3 h4
    rw [leastFrom_step (by omega)]
    apply ih _ _ _ (by omega) (by omega) h2
    · split <;> omega
    · split <;> omega
theorem leastL_in {es : List Ent} {i : Nat} (h : 4 * i + 1 < es.length) : 4 * i + 1 ≤ leastL es i ∧ leastL es i < es.length :=
  leastFrom_in es (4 * i + 1) es.length _ _ _ _ rfl (Nat.le_refl _) (Nat.min_le_right _ _) (Nat.le_refl _) h

/-- An entry goes down, as far as it has to. -/
def downL (es : List Ent) (i : Nat) : List Ent :=
  if h : 4 * i + 1 < es.length then if aheadB es[leastL es i]! es[i]! then downL (swp es i (leastL es i)) (leastL es i) else es else es
termination_by es.length - i
decreasing_by have := leastL_in h; rw [swp_len]; omega
theorem downL_stop {es : List Ent} {i : Nat} (h : 4 * i + 1 < es.length → aheadB es[leastL es i]! es[i]! = false) : downL es i = es := by
  rw [downL]
  split
  · rename_i h1; rw [h h1]; rfl
  · rfl
theorem downL_step {es : List Ent} {i : Nat} (h : 4 * i + 1 < es.length) (ha : aheadB es[leastL es i]! es[i]! = true) : downL es i = downL (swp es i (leastL es i)) (leastL es i) := by
  rw [downL, dif_pos h, ha]; rfl

set_option maxRecDepth 100000 in
set_option maxHeartbeats 2000000 in
theorem least_is (w : World) (b i g cap : Nat) (es : List Ent) (r : Row3 w g cap es) (hc : w.cell? ⟨b, i, none⟩ = some (.slice (some ⟨g, 0, none⟩) es.length cap)) (hbig : es.length ≤ 1000000) (j : Nat) (hj : 4 * j + 1 < es.length) :
    Calls Try.prog 38 #[.pointer (some ⟨b, i, none⟩), .int .i64 j] w fun e w' => e = .returned (.int .i64 (leastL es j)) ∧ Below w.heap.size w w' := by
  obtain ⟨n, hn⟩ : ∃ n, n = es.length := ⟨_, rfl⟩
  obtain ⟨stop, hs⟩ : ∃ stop, stop = min (4 * j + 5) n := ⟨_, rfl⟩
  obtain ⟨fst, hf⟩ : ∃ fst, fst = 4 * j + 1 := ⟨_, rfl⟩
  have HE : Hid (leastL es j = leastFrom es fst stop fst) := Lib.hid (by rw [hs, hf, hn]; rfl)
  rw [← hn] at hc hj hbig
  have hfi : 4 * (j : Int) + 1 = fst := by omega
  have hw0 : IntKind.i64.wrap (4 * (j : Int)) = 4 * (j : Int) := by rw [IntKind.wrap_i64]; omega
  have hw1 : IntKind.i64.wrap (4 * (j : Int) + 1) = fst := by rw [IntKind.wrap_i64]; omega
  have hmin : ∀ (ts : Array TypeId) (t : TypeId) (W : World), (Builtin.min_ ts t #[.int .i64 ((fst : Int) + 4), .int .i64 (n : Int)]).run Try.prog W = .ok (.int .i64 (stop : Int)) W := fun ts t W => run_min_is ts t _ _ _ _ _ (by unfold mn; split <;> omega) W
  have hstn : stop ≤ n := by omega
  have hfs : fst < stop := by omega
  have R := Lib.hid r
  have HN := Lib.hid hn
  have HC := Lib.hid hc
  have hblt := block_lt_of_cell hc
  clear r hn hc hs hf
  go_enter Try.func38, Try.ntmps38
  go_wp2
  go_loopw [6, 7] (fun p q wr => ∃ (k bst : Nat), p = .int .i64 bst ∧ q = .int .i64 k ∧ k ≤ stop ∧ bst < n ∧ leastL es j = leastFrom es k stop bst ∧ Below w.heap.size w wr) (fun _ q _ => stop - (intOf q).toNat)
  case atStart => exact ⟨fst, fst, rfl, rfl, by omega, by omega, HE.out, Below.refl _ _⟩
  case round =>
    obtain ⟨k, bst, rfl, rfl, hk, hbn, he, hb⟩ := hrel
    have HI := Lib.hid he
    have HB := Lib.hid hb
    have hcw : wr.cell? ⟨b, i, none⟩ = some (.slice (some ⟨g, 0, none⟩) n cap) := (hb.cell (p := ⟨b, i, none⟩) hblt).trans HC.out
    have HR : Hid (Row3 wr g cap es) := Lib.hid (R.out.heap (hb.block _ R.out.lt))
    clear he hb
    by_cases h0 : k < stop
    · obtain ⟨x, hx⟩ : ∃ x, es[k]! = x := ⟨_, rfl⟩
      obtain ⟨y, hy⟩ : ∃ y, es[bst]! = y := ⟨_, rfl⟩
      have ex : es[k]? = some x := by rw [← hx]; exact bang (by rw [← HN.out]; omega)
      have ey : es[bst]? = some y := by rw [← hy]; exact bang (by rw [← HN.out]; omega)
      obtain ⟨x0, x1, x2⟩ := HR.out.cells ex
      obtain ⟨y0, y1, y2⟩ := HR.out.cells ey
      have hkn : k < n := by omega
      have HX := Lib.hid hx
      have HY := Lib.hid hy
      clear hx hy ex ey
      go_wp2
      refine wp_region_still_tail 14 (by kernel_rfl) (by kernel_rfl) ?_
      simp only [List.take_succ_cons, List.take_zero, List.drop_succ_cons, List.drop_zero]
      change wpStill _ _ wr.drew _ _ _
      repeat still_step
      refine wpStill_nil ?_
      go_wp2_with fail
      refine (ahead_is x y _).mono ?_
      rintro e w1 ⟨rfl, hb⟩
      have HB1 : Hid (Below w.heap.size w w1) := Lib.hid (HB.out.drew.trans (hb.mono HB.out.size))
      have HS : Hid (leastL es j = leastFrom es (k + 1) stop (if aheadB x y = true then k else bst)) := Lib.hid (by rw [HI.out, leastFrom_step h0, HX.out, HY.out])
      clear hb hcw x0 x1 x2 y0 y1 y2
      by_cases ha : aheadB x y = true
      · rw [if_pos ha] at HS
        go_wp2_with fail
        go_roundw
        case rel => exact ⟨k + 1, k, rfl, by go_num, by omega, by omega, HS.out, HB1.out⟩
        case measure => simp [intOf]; omega
      · rw [if_neg ha] at HS
        have ha' : aheadB x y = false := by simpa using ha
        clear ha
        go_wp2_with fail
        go_roundw
        case rel => exact ⟨k + 1, bst, rfl, by go_num, by omega, by omega, HS.out, HB1.out⟩
        case measure => simp [intOf]; omega
    · have HF : Hid (leastL es j = bst) := Lib.hid (by rw [HI.out, leastFrom_stop h0])
      go_wp2
      go_ret
      exact ⟨by rw [HF.out]; rfl, HB.out⟩

set_option maxRecDepth 100000 in
set_option maxHeartbeats 2000000 in
theorem down_is (w : World) (b i g cap : Nat) (es : List Ent) (r : Row3 w g cap es) (hc : w.cell? ⟨b, i, none⟩ = some (.slice (some ⟨g, 0, none⟩) es.length cap)) (hgb : b ≠ g) (hbig : es.length ≤ 1000000) (j : Nat) (hj : j ≤ es.length) :
    Calls Try.prog 32 #[.pointer (some ⟨b, i, none⟩), .int .i64 j] w fun e w' => e = .returned (.tuple #[]) ∧ Row3 w' g cap (downL es j) ∧ w.grownBy w' (some g) := by
  obtain ⟨n, hn⟩ : ∃ n, n = es.length := ⟨_, rfl⟩
  rw [← hn] at hc hj hbig
  have R := Lib.hid r
  have HN := Lib.hid hn
  have HC := Lib.hid hc
  have hblt := block_lt_of_cell hc
  clear r hn hc
  go_enter Try.func32, Try.ntmps32
  go_wp2
  go_step3
  go_wp2
  go_step3
  go_wp2
  go_loopw [1] (fun p wr => ∃ (k : Nat) (fs : List Ent), p = .int .i64 k ∧ k ≤ n ∧ fs.length = n ∧ downL fs k = downL es j ∧ Row3 wr g cap fs ∧ w.grownBy wr (some g)) (fun p _ => n - (intOf p).toNat)
  case atStart => exact ⟨j, es, rfl, hj, HN.out.symm, rfl, R.out, World.grownBy.refl _ _⟩
  case round =>
    obtain ⟨k, fs, rfl, hk, hl, hu, hr, hg⟩ := hrel
    have HL := Lib.hid hl
    have HU := Lib.hid hu
    have HR := Lib.hid hr
    have HG := Lib.hid hg
    have hcw : wr.cell? ⟨b, i, none⟩ = some (.slice (some ⟨g, 0, none⟩) n cap) := hg.cell HC.out (fun e => hgb (Option.some.inj e))
    have hw0 : IntKind.i64.wrap (4 * (k : Int)) = 4 * (k : Int) := by rw [IntKind.wrap_i64]; omega
    have hw1 : IntKind.i64.wrap (4 * (k : Int) + 1) = 4 * (k : Int) + 1 := by rw [IntKind.wrap_i64]; omega
    have hbw : b < wr.heap.size := Nat.lt_of_lt_of_le hblt hg.size
    clear hl hu hr hg
    by_cases h0 : 4 * k + 1 < n
    · have hin := leastL_in (es := fs) (i := k) (by rw [HL.out]; exact h0)
      rw [HL.out] at hin
      have hcw' : wr.cell? ⟨b, i, none⟩ = some (.slice (some ⟨g, 0, none⟩) fs.length cap) := by rw [HL.out]; exact hcw
      have HW := Lib.hid hcw'
      clear hcw'
      go_wp2_with fail
      refine (least_is wr b i g cap fs HR.out HW.out (by rw [HL.out]; exact hbig) k (by rw [HL.out]; exact h0)).mono ?_
      rintro e w0 ⟨rfl, hb⟩
      obtain ⟨q, hq⟩ : ∃ q, leastL fs k = q := ⟨_, rfl⟩
      rw [hq] at hin ⊢
      have HQ := Lib.hid hq
      clear hq HW
      have HR0 : Hid (Row3 w0 g cap fs) := Lib.hid (HR.out.heap (hb.block _ HR.out.lt))
      have HG0 : Hid (w.grownBy w0 (some g)) := Lib.hid ⟨hb.os.trans HG.out.os, hb.tape.trans HG.out.tape, hb.output.trans HG.out.output, Nat.le_trans HG.out.size hb.size, fun c hc hne => (hb.block c (Nat.lt_of_lt_of_le hc HG.out.size)).trans (HG.out.block c hc hne)⟩
      have hcw0 : w0.cell? ⟨b, i, none⟩ = some (.slice (some ⟨g, 0, none⟩) n cap) := (hb.cell (p := ⟨b, i, none⟩) hbw).trans hcw
      have hbw0 : b < w0.heap.size := Nat.lt_of_lt_of_le hbw hb.size
      clear hb hcw
      have hkn : k < n := by omega
      have hqn : q < n := hin.2
      obtain ⟨x, hx⟩ : ∃ x, fs[k]! = x := ⟨_, rfl⟩
      obtain ⟨y, hy⟩ : ∃ y, fs[q]! = y := ⟨_, rfl⟩
      have ex : fs[k]? = some x := by rw [← hx]; exact bang (by rw [HL.out]; exact hkn)
      have ey : fs[q]? = some y := by rw [← hy]; exact bang (by rw [HL.out]; exact hqn)
      obtain ⟨x0, x1, x2⟩ := HR0.out.cells ex
      obtain ⟨y0, y1, y2⟩ := HR0.out.cells ey
      have HX := Lib.hid hx
      have HY := Lib.hid hy
      clear hx hy ex ey
      go_wp2_with fail
      refine wp_region_still_tail 14 (by kernel_rfl) (by kernel_rfl) ?_
      simp only [List.take_succ_cons, List.take_zero, List.drop_succ_cons, List.drop_zero]
      change wpStill _ _ w0.drew _ _ _
      repeat still_step
      refine wpStill_nil ?_
      go_wp2_with fail
      refine (ahead_is y x _).mono ?_
      rintro e w1 ⟨rfl, hb⟩
      have HR1 : Hid (Row3 w1 g cap fs) := Lib.hid (HR0.out.heap (hb.block _ HR0.out.lt))
      have HG1 : Hid (w.grownBy w1 (some g)) := Lib.hid ⟨hb.os.trans HG0.out.os, hb.tape.trans HG0.out.tape, hb.output.trans HG0.out.output, Nat.le_trans HG0.out.size hb.size, fun c hc hne => (hb.block c (Nat.lt_of_lt_of_le hc HG0.out.size)).trans (HG0.out.block c hc hne)⟩
      have hcw1 : w1.cell? ⟨b, i, none⟩ = some (.slice (some ⟨g, 0, none⟩) n cap) := (hb.cell (p := ⟨b, i, none⟩) hbw0).trans hcw0
      clear hb hcw0 x0 x1 x2 y0 y1 y2
      by_cases ha : aheadB y x = true
      · have hd : downL fs k = downL (swp fs k q) q := by
          rw [downL_step (by rw [HL.out]; exact h0) (by rw [HQ.out, HX.out, HY.out]; exact ha), HQ.out]
        have HD := Lib.hid hd
        have hlen : (swp fs k q).length = n := by rw [swp_len]; exact HL.out
        have HLE := Lib.hid hlen
        clear hd hlen
        have ex : fs[k]? = some x := by rw [← HX.out]; exact bang (by rw [HL.out]; exact hkn)
        have ey : fs[q]? = some y := by rw [← HY.out]; exact bang (by rw [HL.out]; exact hqn)
        obtain ⟨x0, x1, x2⟩ := HR1.out.cells ex
        obtain ⟨y0, y1, y2⟩ := HR1.out.cells ey
        have hfr := HR1.out.free
        have HEX := Lib.hid ex
        have HEY := Lib.hid ey
        clear ex ey
        go_wp2_with fail
        go_region
        go_wp2_with fail
        go_roundw
        case rel =>
          refine ⟨q, swp fs k q, rfl, Nat.le_of_lt hqn, HLE.out, by rw [← HD.out]; exact HU.out, ?_, grown_drew3 (grown_sets HG1.out)⟩
          have := ((HR1.out.set (i := k) (by rw [HL.out]; exact hkn) y).set (i := q) (by simp; rw [HL.out]; exact hqn) x)
          have e : (fs.set k y).set q x = swp fs k q := by unfold swp; rw [HX.out, HY.out]
          rw [e] at this
          exact this.drew
        case measure => simp [intOf]; omega
      · have hd : downL fs k = fs := downL_stop fun _ => by rw [HQ.out, HX.out, HY.out]; simpa using ha
        rw [hd] at HU
        have ha' : aheadB y x = false := by simpa using ha
        clear ha hd
        go_wp2_with fail
        try simp only [Exit.noGoto]
        go_end0
        exact ⟨rfl, by rw [← HU.out]; exact HR1.out, HG1.out⟩
    · have hd : downL fs k = fs := downL_stop fun h => absurd (by rw [HL.out] at h; exact h) h0
      rw [hd] at HU
      clear hd
      go_wp2_with fail
      try simp only [Exit.noGoto]
      go_end0
      exact ⟨rfl, by rw [← HU.out]; exact HR.out, HG.out⟩
end Go.Proofs.Ytmaahidipbghfaa.Hp
