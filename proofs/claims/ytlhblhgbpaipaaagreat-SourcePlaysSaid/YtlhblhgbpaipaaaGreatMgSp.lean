import Derived.Test.YtlhblhgbpaipaaaGreatMgSrc2
import Derived.Test.YtlhblhgbpaipaaaGreatSrcDeed
import Derived.Test.YtlhblhgbpaipaaaGreatArgs
/- SrcLives -/
namespace Go.Proofs.YtlhblhgbpaipaaaGreat.Src
open Go.RowKit
open Go.Proofs.YtlhblhgbpaipaaaGreat.Hp
open Go.Proofs.YtlhblhgbpaipaaaGreat.Tm (Tms Kept IsMin dueB min_ex)
open Go.Proofs.YtlhblhgbpaipaaaGreat.Pl (IsPl PFr St aput adel alook stOf dueL fullL)
set_option linter.unusedVariables false

abbrev E5 : Ent := ⟨5, 0, 7⟩
theorem min5 : IsMin [E5] (some E5) := ⟨by simp, fun x hx => by simp at hx; subst hx; exact le_refl _⟩
theorem min0 : IsMin ([] : List Ent) none := rfl
theorem grown_below {w w' : World} (h : w.grownBy w' none) : Below w.heap.size w w' := ⟨h.os, h.tape, h.output, h.size, fun k hk => h.block k hk (by simp)⟩

set_option maxRecDepth 100000 in
set_option maxHeartbeats 4000000 in
theorem lives_is (w : World) : Calls Tryz.prog 4 #[] w fun e w' => e = .returned (.bool true) ∧ Below w.heap.size w w' := by
  go_enter Tryz.func4, Tryz.ntmps4
  go_wp2_with fail
  refine (snew_is w 1 1 (by decide)).mono ?_
  rintro e w1 ⟨sb, tb, pb, fb, wb, rfl, I, hg⟩
  have H1 := Lib.hid (And.intro I (grown_below hg))
  clear I hg
  go_wp2_with fail
  refine (sleep_ok H1.out.1 0 7 5 5 rfl (by unfold Clk.I64; omega) (by decide) (by decide) (by decide) (by decide) (by decide) (by simp) (by decide) min5 (r := false) (by decide)).mono ?_
  rintro e w2 ⟨rfl, I, hk⟩
  have H2 : Hid (IsS w2 w.heap.size sb tb pb fb wb 1 0 [E5] 1 [7] [] [] (fun _ => False) ∧ Below w.heap.size w w2) := Lib.hid ⟨I, H1.out.2.trans hk.below⟩
  clear I hk
  go_wp2_with fail
  refine (stick_is H2.out.1 (d := 4) (t := 4) (by unfold Clk.I64; omega) (by decide) min5 (r := false) (by decide)).mono ?_
  rintro e w3 ⟨rfl, I, hk⟩
  have H3 := Lib.hid (And.intro I (H2.out.2.trans hk.below))
  clear I hk
  go_wp2_with fail
  refine (stick_is H3.out.1 (d := 1) (t := 5) (by unfold Clk.I64; omega) (by decide) min5 (r := true) (by decide)).mono ?_
  rintro e w4 ⟨rfl, I, hk⟩
  have H4 := Lib.hid (And.intro I (H3.out.2.trans hk.below))
  clear I hk
  go_wp2_with fail
  refine (stake_timer H4.out.1 min5 (by decide)).mono ?_
  rintro e w5 ⟨rfl, I, hk⟩
  have H5 := Lib.hid (H4.out.2.trans hk.below)
  clear I hk
  go_wp2_with fail
  go_ret
  exact ⟨rfl, H5.out⟩
end Go.Proofs.YtlhblhgbpaipaaaGreat.Src

/- SpBase -/
namespace Go.Proofs.YtlhblhgbpaipaaaGreat.Src
open Go.RowKit
open Go.Proofs.YtlhblhgbpaipaaaGreat.Hp
open Go.Proofs.YtlhblhgbpaipaaaGreat.Tm (Tms Kept IsMin)
open Go.Proofs.YtlhblhgbpaipaaaGreat.Pl (bestD takeA leftW leftI putW markR)
set_option linter.unusedVariables false
set_option linter.unusedSimpArgs false

structure Lw (w wr : World) (base sb n B : Nat) (now : Int) (D : List Tim) (order : Nat) (W : List (Int × Int)) (R : List Int) (v1 v2 v3 : Value) (Y : Nat → Prop) (N : Nat) : Prop where
  sv : Sv wr base sb n now D order W R (fun k => Y k ∨ own3 v1 v2 v3 k)
  ss : SS wr base N D W R v1 v2 v3
  d : wr.heap[B]? = some (.cells #[.int .i64 now, .int .i64 n, v1, .int .u64 order, v2, v3] TS6 (0, 0))
  yB : Y B
  vB : ¬ own3 v1 v2 v3 B
  low : w.heap.size ≤ base ∧ base ≤ B
  below : Below w.heap.size w wr
section
variable {w wr w' w2 : World} {base sb n B : Nat} {now now' : Int} {D D' : List Tim} {order o' : Nat} {W W' : List (Int × Int)} {R R' : List Int} {v1 v2 v3 u1 u2 u3 : Value} {Y Y' : Nat → Prop} {N : Nat}
theorem Lw.lt (h : Lw w wr base sb n B now D order W R v1 v2 v3 Y N) : B < wr.heap.size := (Array.getElem?_eq_some_iff.1 h.d).1
theorem Lw.next (h : Lw w wr base sb n B now D order W R v1 v2 v3 Y N) (hb : Below wr.heap.size wr w') : Lw w w' base sb n B now D order W R v1 v2 v3 Y N :=
  ⟨h.sv.grown (grown_of hb), h.ss.below hb, (hb.block _ h.lt).trans h.d, h.yB, h.vB, h.low, h.below.trans (hb.mono h.below.size)⟩
theorem Lw.more (h : Lw w wr base sb n B now D order W R v1 v2 v3 Y N) (hb : Below wr.heap.size wr w') (hY : ∀ k, Y' k → Y k ∨ wr.heap.size ≤ k ∧ k < w'.heap.size) (hB : Y' B) : Lw w w' base sb n B now D order W R v1 v2 v3 Y' N :=
  ⟨h.sv.more (grown_of hb) (fun k q => by
    rcases q with q | q
    · rcases hY k q with r | r
      · exact .inl (.inl r)
      · exact .inr r
    · exact .inl (.inr q)), h.ss.below hb, (hb.block _ h.lt).trans h.d, hB, h.vB, h.low, h.below.trans (hb.mono h.below.size)⟩
/-- An act was done, and the document's source is stored. -/
theorem Lw.deed (h : Lw w wr base sb n B now D order W R v1 v2 v3 Y N) (q : DoQ wr w2 base sb n now' D' o' W' R' (fun k => Y k ∨ own3 v1 v2 v3 k) base (N + 1) v1 v2 v3 u1 u2 u3) :
    Lw w (set6 w2 B (.int .i64 now') (.int .i64 n) u1 (.int .u64 o') u2 u3) base sb n B now' D' o' W' R' u1 u2 u3 Y (N + 1) := by
  have uB : ¬ own3 u1 u2 u3 B := fun e => by
    rcases q.new B e with r | r
    · exact h.vB r
    · have := h.lt; omega
  refine ⟨(q.sv.foreign (fun k _ hx => set6_other (fun e => hx (.inl (.inl (e ▸ h.yB))))) (Nat.le_of_eq set6_size.symm)).more (grown_refl _) (fun k r => .inl ?_), q.ss.kept (Nat.le_of_eq set6_size.symm) (fun j hj => set6_other (fun e => uB (e ▸ hj))), set6_same ((q.kept.far B (.inl h.yB)).trans h.d), h.yB, uB, h.low, below_set6 (h.below.trans (q.kept.below.mono h.low.1)) (by have := h.low; omega)⟩
  rcases r with r | r
  · exact .inl (.inl r)
  · exact .inr r
end
/-- The least time of the row, as the law finds it. -/
def lwf : Int × Bool → List Tim → Int × Bool
  | acc, [] => acc
  | acc, x :: t => lwf (if acc.2 = false ∨ x.e.w < acc.1 then (x.e.w, true) else acc) t
theorem lwf_app (x : Tim) : ∀ (L : List Tim) (acc : Int × Bool), lwf acc (L ++ [x]) = if (lwf acc L).2 = false ∨ x.e.w < (lwf acc L).1 then (x.e.w, true) else lwf acc L
  | [], acc => rfl
  | y :: t, acc => by show lwf _ (t ++ [x]) = _; rw [lwf_app x t]; rfl
theorem lwf_min : ∀ (L : List Tim) (l : Int), (lwf (l, true) L).2 = true ∧ ((lwf (l, true) L).1 = l ∨ ∃ y ∈ L, (lwf (l, true) L).1 = y.e.w) ∧ (lwf (l, true) L).1 ≤ l ∧ ∀ z ∈ L, (lwf (l, true) L).1 ≤ z.e.w
  | [], l => ⟨rfl, .inl rfl, Int.le_refl _, by simp⟩
  | x :: t, l => by
    unfold lwf
    by_cases h : x.e.w < l
    · rw [if_pos (.inr h)]
      obtain ⟨h1, h2, h3, h4⟩ := lwf_min t x.e.w
      refine ⟨h1, .inr ?_, by omega, fun z hz => ?_⟩
      · rcases h2 with h2 | ⟨y, hy, h2⟩
        · exact ⟨x, by simp, h2⟩
        · exact ⟨y, List.mem_cons_of_mem _ hy, h2⟩
      · rcases List.mem_cons.1 hz with rfl | hz
        · exact h3
        · exact h4 z hz
    · rw [if_neg (by simpa using h)]
      obtain ⟨h1, h2, h3, h4⟩ := lwf_min t l
      refine ⟨h1, ?_, h3, fun z hz => ?_⟩
      · rcases h2 with h2 | ⟨y, hy, h2⟩
        · exact .inl h2
        · exact .inr ⟨y, List.mem_cons_of_mem _ hy, h2⟩
      · rcases List.mem_cons.1 hz with rfl | hz
        · omega
        · exact h4 z hz
theorem lwf_srt {D : List Tim} : (srt (D.map (·.e)) = [] → lwf (0, false) D = (0, false)) ∧ ∀ x t, srt (D.map (·.e)) = x :: t → lwf (0, false) D = (x.w, true) := by
  constructor
  · intro h
    have : D.map (·.e) = [] := srt_min.2 h
    rw [List.map_eq_nil_iff] at this
    subst this; rfl
  · intro x t h
    have hm := srt_min.1 x t h
    cases D with
    | nil => have := hm.1; simp at this
    | cons y L =>
      show lwf (y.e.w, true) L = _
      obtain ⟨h1, h2, h3, h4⟩ := lwf_min L y.e.w
      have hle : ∀ z ∈ y :: L, x.w ≤ z.e.w := fun z hz => by
        have := hm.2 z.e (List.mem_map.2 ⟨z, hz, rfl⟩)
        rw [le_iff] at this; omega
      have hx : ∃ z ∈ y :: L, z.e = x := by
        obtain ⟨z, hz, e⟩ := List.mem_map.1 hm.1; exact ⟨z, hz, e⟩
      have e1 : (lwf (y.e.w, true) L).1 = x.w := by
        obtain ⟨z, hz, rfl⟩ := hx
        have a1 : (lwf (y.e.w, true) L).1 ≤ z.e.w := by
          rcases List.mem_cons.1 hz with rfl | hz
          · exact h3
          · exact h4 z hz
        have a2 : z.e.w ≤ (lwf (y.e.w, true) L).1 := by
          rcases h2 with h2 | ⟨u, hu, h2⟩
          · rw [h2]; exact hle y (by simp)
          · rw [h2]; exact hle u (List.mem_cons_of_mem _ hu)
        omega
      exact Prod.ext e1 h1
end Go.Proofs.YtlhblhgbpaipaaaGreat.Src
