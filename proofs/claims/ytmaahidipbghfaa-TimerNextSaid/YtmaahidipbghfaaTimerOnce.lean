/-
  The law TimerOnce.
-/
import Derived.Test.YtmaahidipbghfaaTimerLives
import Derived.Test.YtmaahidipbghfaaOnes
import Derived.Test.YtmaahidipbghfaaArgs
namespace Go.Proofs.Ytmaahidipbghfaa.Tm
open Go.RowKit
open Go.Proofs.Ytmaahidipbghfaa.Hp
open Go.Proofs.Ytmaahidipbghfaa.MapI
open Go.Proofs.Ytmaahidipbghfaa.Ones
set_option linter.unusedVariables false

theorem Tms.less {w : World} {base tb n : Nat} {M : List Ent} {order : Nat} {G : List Int} {F F' : Nat → Prop} (T : Tms w base tb n M order G F) (h : ∀ k, F' k → F k) : Tms w base tb n M order G F' := by
  obtain ⟨lb, hb, vs, Hs, h1, e, p, f⟩ := T
  exact ⟨lb, hb, vs, Hs, h1, e, p, fun k hk => f k (h k hk)⟩
theorem Kept.grown {w w' : World} {base : Nat} {F : Nat → Prop} {B : Nat} (k : Kept w w' base F) (h : B ≤ base) {w0 : World} (b : Below B w0 w) : Below B w0 w' := b.trans (k.below.mono h)

/-- The state of the second loop. -/
structure O2 (w wr : World) (base tb m N : Nat) (M : List Ent) (order : Nat) (G2 G : List Int) (j : Nat) : Prop where
  t : Tms wr base tb 3 M order G2 (fun k => k = m)
  map : IsMap wr m (ones G)
  below : Below w.heap.size w wr
  vals : ∀ x ∈ M, x.w = 5 ∨ x.w = 9
  cnt : M.countP (fun x => decide (x.w = 5)) = N - j
  glen : G2.length = N
  ord : order = N + j
  size : base ≤ wr.heap.size

theorem o2_min {M : List Ent} {c : Nat} (hv : ∀ x ∈ M, x.w = 5 ∨ x.w = 9) (hc : M.countP (fun x => decide (x.w = 5)) = c) (h : 0 < c) : ∃ x, IsMin M (some x) ∧ x.w = 5 := by
  obtain ⟨m, hm⟩ := min_ex M
  obtain ⟨y, hy, hy5⟩ := List.countP_pos_iff.1 (show 0 < M.countP (fun x => decide (x.w = 5)) by omega)
  cases m with
  | none => have : M = [] := hm; subst this; simp at hy
  | some x =>
    refine ⟨x, hm, ?_⟩
    have h1 := hm.2 y hy
    rw [le_iff] at h1
    have := hv x hm.1
    simp at hy5
    omega
theorem o2_end {M : List Ent} (hv : ∀ x ∈ M, x.w = 5 ∨ x.w = 9) (hc : M.countP (fun x => decide (x.w = 5)) = 0) : ∀ x ∈ M, x.w = 9 := by
  intro x hx
  rcases hv x hx with h | h
  · have := List.countP_eq_zero.1 hc x hx
    simp [h] at this
  · exact h
theorem o2_due {M : List Ent} {m : Option Ent} (hm : IsMin M m) (h : ∀ x ∈ M, x.w = 9) : dueB m 8 = false := by
  cases m with
  | none => rfl
  | some x => simp [dueB, h x hm.1]
theorem count_erase5 {M : List Ent} {x : Ent} (h : x ∈ M) (h5 : x.w = 5) : (M.erase x).countP (fun x => decide (x.w = 5)) + 1 = M.countP (fun x => decide (x.w = 5)) := by
  have := (List.perm_cons_erase h).countP_eq (fun x => decide (x.w = 5))
  rw [this, List.countP_cons_of_pos (by simpa using h5)]

/-- The state of the first loop. -/
structure O1 (w wr : World) (base tb m : Nat) (M : List Ent) (G : List Int) : Prop where
  t : Tms wr base tb 3 M G.length G (fun k => k = m)
  map : IsMap wr m (ones G)
  below : Below w.heap.size w wr
  five : ∀ x ∈ M, x.w = 5
  size : base ≤ wr.heap.size
theorem O1.none {w wr w' : World} {base tb m : Nat} {M : List Ent} {G : List Int} (h : O1 w wr base tb m M G) (hg : wr.grownBy w' Option.none) : O1 w w' base tb m M G :=
  ⟨h.t.grown hg, h.map.grown hg (by simp), below_more h.below hg h.below.size, h.five, Nat.le_trans h.size hg.size⟩

set_option maxRecDepth 100000 in
set_option maxHeartbeats 4000000 in
theorem once_short (a : Option Addr) (len cap : Nat) (f : Nat → Int) (w : World) (hl : len ≤ 40) (hnil : a = none → len = 0) (hc : ∀ b, a = some b → ∀ i, i < len → w.cell? (b.add i) = some (.int .i64 (f i))) :
    Calls Try.prog 4 #[.slice a len cap] w fun e w' => e = .returned (.bool true) ∧ Below w.heap.size w w' := by
  have hmm := @run_makeMap Try.prog
  have hlt : ¬ (40 < len) := by omega
  have HC := Lib.hid hc
  have HN := Lib.hid hnil
  clear hc hnil
  go_enter Try.func4, Try.ntmps4
  go_wp2_with fail
  refine (lives_is w).mono ?_
  rintro e w0 ⟨rfl, hb⟩
  have HB := Lib.hid hb
  clear hb
  go_wp2_with fail
  refine (tms_new w0 3 3 rfl).mono ?_
  rintro e w1 ⟨tb, rfl, T, hg⟩
  have hO : O1 w (w1.alloc (.map #[] 0)) w0.heap.size tb w1.heap.size [] [] :=
    ⟨(T.foreign (World.grownBy_alloc _ _ _) (fun k hk => .inr (by subst hk; simp))), IsMap.made w1, (below_more HB.out hg HB.out.size).alloc (Nat.le_trans HB.out.size hg.size) _, by simp, Nat.le_trans hg.size (by simp)⟩
  have O := Lib.hid hO
  have hbase : w.heap.size ≤ w0.heap.size := HB.out.size
  have hbm : w0.heap.size ≤ w1.heap.size := hg.size
  clear T hg hO
  go_wp2_with fail
  generalize w1.alloc (.map #[] 0) = W at *
  generalize w1.heap.size = m at *
  generalize w0.heap.size = base at *
  go_loopw [22] (fun q wr => ∃ (k : Nat) (M : List Ent) (G : List Int), k ≤ len ∧ q = .int .i64 k ∧ G.length ≤ k ∧ O1 w wr base tb m M G) (fun q _ => len - (intOf q).toNat)
  case atStart => exact ⟨0, [], [], Nat.zero_le _, rfl, Nat.le_refl _, O.out⟩
  case round =>
    clear O
    obtain ⟨k, M, G, hk, rfl, hG, hO⟩ := hrel
    have O := Lib.hid hO
    clear hO
    by_cases hlen : k < len
    · obtain ⟨c, rfl⟩ : ∃ c, a = some c := by
        cases a with
        | none => exact absurd (HN.out rfl) (by omega)
        | some c => exact ⟨c, rfl⟩
      have hcx : wr.cell? (c.add k) = some (.int .i64 (f k)) := cell_later O.out.below (HC.out c rfl k hlen)
      generalize f k = x at hcx
      have hp0 : 0 ≤ (k : Int) % 3 := by omega
      have hp1 : (k : Int) % 3 < 3 := by omega
      rcases (show x < 0 ∨ 4096 ≤ x ∨ (0 ≤ x ∧ x < 4096) by omega) with hx | hx | ⟨hx0, hx1⟩
      · go_wp2_with fail
        refine (tms_add_arg O.out.t _ _ _ (.inr (.inr (.inl hx)))).mono ?_
        rintro e w2 ⟨rfl, rfl⟩
        go_wp2_with fail
        go_roundw
        case rel => exact ⟨k + 1, M, G, by omega, by go_num, by omega, O.out⟩
        case measure => simp [intOf]; omega
      · go_wp2_with fail
        refine (tms_add_arg O.out.t _ _ _ (.inr (.inr (.inr hx)))).mono ?_
        rintro e w2 ⟨rfl, rfl⟩
        go_wp2_with fail
        go_roundw
        case rel => exact ⟨k + 1, M, G, by omega, by go_num, by omega, O.out⟩
        case measure => simp [intOf]; omega
      · by_cases hin : x ∈ G
        · have HI := Lib.hid hin
          clear hin
          go_wp2_with fail
          refine (tms_add_same O.out.t _ _ _ hp0 (by omega) HI.out).mono ?_
          rintro e w2 ⟨rfl, hg⟩
          have O2 := Lib.hid (O.out.none hg)
          clear hg hcx
          go_wp2_with (at_lookup; refine wpList_look rfl _ _ 31 3 3 rfl Try.underlying31 Try.underlying3 O2.out.map rfl x rfl (zeroI _) (.int .i64 1) (by rw [look_ones O2.out.t.nodup HI.out]; rfl) ?_)
          go_roundw
          case rel => exact ⟨k + 1, M, G, by omega, by go_num, by omega, O2.out⟩
          case measure => simp [intOf]; omega
        · have HI := Lib.hid hin
          clear hin
          go_wp2_with fail
          refine (tms_add_ok O.out.t O.out.size _ _ _ hp0 (by omega) hx0 hx1 HI.out (by omega)).mono ?_
          rintro e w2 ⟨rfl, T, hk2⟩
          have T2 := Lib.hid T
          have M2 := Lib.hid (O.out.map.heap (hk2.far m rfl))
          have B2 := Lib.hid (hk2.grown hbase O.out.below)
          have S2 := Lib.hid (Nat.le_trans O.out.size hk2.below.size)
          clear T hk2 hcx
          go_wp2_with (first
            | (at_lookup; refine wpList_look rfl _ _ 31 3 3 rfl Try.underlying31 Try.underlying3 M2.out rfl x rfl (zeroI _) (.int .i64 0) (by rw [look_ones_not HI.out]; rfl) ?_)
            | (at_mapUpdate; refine wpList_put rfl _ _ _ 31 3 3 rfl Try.underlying31 Try.underlying3 M2.out rfl x rfl (.int .i64 1) rfl ?_; intro w3 hm3 hg3; rw [put_ones HI.out] at hm3; have M3 := Lib.hid hm3; have G3 := Lib.hid hg3; clear hm3 hg3))
          go_roundw
          case rel =>
            refine ⟨k + 1, M ++ [⟨5, G.length, x⟩], G ++ [x], by omega, by go_num, by simp; omega, ⟨?_, M3.out, ?_, ?_, Nat.le_trans S2.out G3.out.size⟩⟩
            · have := T2.out.other (B := m) rfl (fun j hj hne => G3.out.block j hj (fun e => hne (Option.some.inj e))) G3.out.size
              simpa using this
            · exact B2.out.trans ⟨G3.out.os, G3.out.tape, G3.out.output, G3.out.size, fun j hj => G3.out.block j (Nat.lt_of_lt_of_le hj B2.out.size) (fun e => by have := Option.some.inj e; omega)⟩
            · intro y hy
              rcases List.mem_append.1 hy with hy | hy
              · exact O.out.five y hy
              · simp at hy; subst hy; rfl
          case measure => simp [intOf]; omega
    · obtain rfl : k = len := by omega
      obtain ⟨N, hN⟩ : ∃ N, N = G.length := ⟨_, rfl⟩
      have hO2 : O2 w wr base tb m N M N G G 0 := ⟨by rw [hN]; exact O.out.t, O.out.map, O.out.below, fun x hx => .inl (O.out.five x hx), by
        rw [List.countP_eq_length.2 (fun x hx => by simpa using O.out.five x hx)]
        have := O.out.t.keys.length_eq
        rw [List.length_map] at this; omega, hN.symm, rfl, O.out.size⟩
      have hN40 : N ≤ 40 := by omega
      have P := Lib.hid hO2
      have hln : ∀ (W : World) (h : IsMap W m (ones G)) (ty : TypeId), (Builtin.len_ #[31] ty #[.map (some m)]).run Try.prog W = .ok (.int .i64 N) W := fun W h ty => by
        have := run_len h Try.underlying31 #[31] ty rfl
        rwa [ones_len, ← hN] at this
      have HLN := Lib.hid hln
      have hl0 := HLN.out wr O.out.map
      have HG := Lib.hid hN
      clear hO2 O hG hln hN
      go_wp2_with fail
      refine (tms_len P.out.t).mono ?_
      rintro e w2 ⟨rfl, rfl⟩
      rw [P.out.glen]
      go_wp2_with fail
      go_loopw [62] (fun q w2 => ∃ (j : Nat) (M : List Ent) (order : Nat) (G2 : List Int), j ≤ N ∧ q = .int .i64 j ∧ O2 w w2 base tb m N M order G2 G j) (fun q _ => N - (intOf q).toNat)
      case atStart => exact ⟨0, M, N, G, Nat.zero_le _, rfl, P.out⟩
      case round =>
        clear P hl0
        obtain ⟨j, M2, order, G2, hj, rfl, hO⟩ := hrel
        have P := Lib.hid hO
        clear hO
        by_cases hlen2 : j < N
        · obtain ⟨x, hmin, hx5⟩ := o2_min P.out.vals P.out.cnt (by omega)
          have HM := Lib.hid hmin
          have HX5 := Lib.hid hx5
          clear hmin hx5
          go_wp2_with fail
          refine (tms_take_yes P.out.t P.out.size HM.out 5 (by have := HX5.out; omega)).mono ?_
          rintro e w2 ⟨rfl, T, hk2⟩
          have hxG : x.g ∈ G2 := P.out.t.keys.mem_iff.1 (List.mem_map.2 ⟨x, HM.out.1, rfl⟩)
          have hrg := P.out.t.range x.g hxG
          have hnin : x.g ∉ G2.filter fun y => y ≠ x.g := fun h => by have := (List.mem_filter.1 h).2; simp at this
          have hdec : decide (x.g ∈ G2.filter fun y => y ≠ x.g) = false := by simp
          have T3 := Lib.hid (T.foreign (F' := fun k => k = m ∨ k = w2.heap.size) (World.grownBy_alloc w2 (.cells #[.int .i64 x.w, .int .u64 x.o, .int .i64 x.g] 30) none) (fun k hk => by
            rcases hk with h | h
            · exact .inl h
            · exact .inr (by subst h; simp)))
          have S2 : base ≤ w2.heap.size := Nat.le_trans P.out.size hk2.below.size
          have hM2 : IsMap w2 m (ones G) := P.out.map.heap (hk2.far m rfl)
          have hB2 : Below w.heap.size w w2 := hk2.grown hbase P.out.below
          have M3 := Lib.hid (hM2.grown (World.grownBy_alloc w2 (.cells #[.int .i64 x.w, .int .u64 x.o, .int .i64 x.g] 30) none) (by simp))
          have B3 := Lib.hid (hB2.alloc hB2.size (.cells #[.int .i64 x.w, .int .u64 x.o, .int .i64 x.g] 30))
          have HC3 : Hid ((w2.alloc (.cells #[.int .i64 x.w, .int .u64 x.o, .int .i64 x.g] 30)).heap[w2.heap.size]? = some (.cells x.cells 30 (0, 0))) := Lib.hid (heap_alloc_new _ _)
          have S3 : base ≤ (w2.alloc (.cells #[.int .i64 x.w, .int .u64 x.o, .int .i64 x.g] 30)).heap.size := by simp; omega
          have HNI := Lib.hid hnin
          have hD := Lib.hid hdec
          clear T hk2 hM2 hB2 hxG hnin hdec
          go_wp2_with fail
          generalize w2.alloc (.cells #[.int .i64 x.w, .int .u64 x.o, .int .i64 x.g] 30) = W3 at *
          refine (tms_has T3.out x.g).mono ?_
          rintro e w4 ⟨rfl, hg⟩
          rw [hD.out]
          have T4 := Lib.hid (T3.out.grown hg)
          have M4 := Lib.hid (M3.out.grown hg (by simp))
          have B4 := Lib.hid (below_more B3.out hg B3.out.size)
          have S4 : base ≤ w4.heap.size := Nat.le_trans S3 hg.size
          have HC4 := Lib.hid ((hg.block w2.heap.size (Array.getElem?_eq_some_iff.1 HC3.out).1 (by simp)).trans HC3.out)
          have c2 : w4.cell? ⟨w2.heap.size, 2, none⟩ = some (.int .i64 x.g) := cell_of_row _ _ 2 _ _ _ HC4.out
          clear hg
          go_wp2_with fail
          refine (tms_add_ok T4.out S4 _ _ _ (by decide) (by decide) hrg.1 hrg.2 HNI.out (by have := P.out.ord; omega)).mono ?_
          rintro e w5 ⟨rfl, T, hk2⟩
          have T5 := Lib.hid T
          have M5 := Lib.hid (M4.out.heap (hk2.far m (.inl rfl)))
          have B5 := Lib.hid (hk2.grown hbase B4.out)
          have HC5 := Lib.hid ((hk2.far w2.heap.size (.inr rfl)).trans HC4.out)
          have S5 : base ≤ w5.heap.size := Nat.le_trans S4 hk2.below.size
          clear c2
          have c2 : w5.cell? ⟨w2.heap.size, 2, none⟩ = some (.int .i64 x.g) := cell_of_row _ _ 2 _ _ _ HC5.out
          clear T hk2
          go_wp2_with fail
          refine (tms_add_same T5.out _ _ _ (by decide) (by decide) (by simp)).mono ?_
          rintro e w6 ⟨rfl, hg⟩
          have T6 := Lib.hid (T5.out.grown hg)
          have M6 := Lib.hid (M5.out.grown hg (by simp))
          have B6 := Lib.hid (below_more B5.out hg B5.out.size)
          have S6 : base ≤ w6.heap.size := Nat.le_trans S5 hg.size
          clear hg c2
          go_wp2_with fail
          go_roundw
          case rel =>
            refine ⟨j + 1, _, order + 1, _, by omega, by go_num, ⟨T6.out.less (fun k h => .inl h), M6.out, B6.out, ?_, ?_, ?_, by have := P.out.ord; omega, S6⟩⟩
            · intro y hy
              rcases List.mem_append.1 hy with hy | hy
              · exact P.out.vals y (List.mem_of_mem_erase hy)
              · simp at hy; subst hy; exact .inr rfl
            · have h1 := count_erase5 HM.out.1 HX5.out
              have h2 := P.out.cnt
              rw [List.countP_append]
              simp
              omega
            · have h1 := T6.out.keys.length_eq
              have h2 := P.out.t.keys.length_eq
              have h3 := P.out.glen
              have h4 := (List.perm_cons_erase HM.out.1).length_eq
              simp only [List.length_map, List.length_append, List.length_cons, List.length_nil] at h1 h2 h4 ⊢
              omega
          case measure => simp [intOf]; omega
        · obtain rfl : j = N := by omega
          obtain ⟨mm, hm⟩ := min_ex M2
          have h9 := o2_due hm (o2_end P.out.vals (by rw [P.out.cnt]; omega))
          have HM := Lib.hid hm
          have H9 := Lib.hid h9
          clear hm h9
          go_wp2_with fail
          refine (tms_len P.out.t).mono ?_
          rintro e w2 ⟨rfl, rfl⟩
          rw [P.out.glen]
          have hl0 := HLN.out _ P.out.map
          go_wp2_with fail
          refine (tms_due P.out.t HM.out 8).mono ?_
          rintro e w2 ⟨rfl, hg⟩
          rw [H9.out]
          have B2 := Lib.hid (below_more P.out.below hg P.out.below.size)
          clear hg hl0
          go_wp2_with fail
          go_ret
          exact ⟨rfl, B2.out⟩

set_option maxRecDepth 100000 in
set_option maxHeartbeats 1000000 in
theorem once_long (a : Option Addr) (len cap : Nat) (w : World) (hl : 40 < len) (hm : len ≤ maxLen) :
    Calls Try.prog 4 #[.slice a len cap] w fun e w' => e = .returned (.bool true) ∧ Below w.heap.size w w' := by
  unfold maxLen at hm
  go_enter Try.func4, Try.ntmps4
  go_wp2_with fail
  refine (lives_is w).mono ?_
  rintro e w0 ⟨rfl, hb⟩
  have HB := Lib.hid hb
  clear hb
  go_wp2_with fail
  refine (lives_is w0).mono ?_
  rintro e w1 ⟨rfl, hb⟩
  have HB1 := Lib.hid hb
  clear hb
  go_wp2_with fail
  go_ret
  exact ⟨rfl, HB.out.trans (HB1.out.mono HB.out.size)⟩

theorem once_any (a : Option Addr) (len cap : Nat) (w : World) (ha : Args.IsFlat [.i64] w a len) :
    Calls Try.prog 4 #[.slice a len cap] w fun e w' => e = .returned (.bool true) ∧ Below w.heap.size w w' := by
  obtain ⟨hm, hnil, f, hf⟩ := ha
  by_cases hl : 40 < len
  · exact once_long a len cap w hl hm
  · have hx : ∀ i, i < len → ∃ x, f i = [x] ∧ (Lit.int .i64 x).wf = true := fun i hi => Args.fits1 (hf i hi).1
    refine once_short a len cap (fun i => (f i).getD 0 0) w (by omega) hnil (fun b hb i hi => ?_)
    obtain ⟨x, e, _⟩ := hx i hi
    have := ((hf i hi).2 b hb 0 (.int .i64 x) (by simp [e, Args.valsOf])).1
    simpa [List.getD, hi, e] using this
end Go.Proofs.Ytmaahidipbghfaa.Tm
