import Derived.Test.YtlhblhgbpaipaaaGreatRefPoll3
import Derived.BigQuiet
/- RefPoll4 -/
namespace Go.Proofs.YtlhblhgbpaipaaaGreat.Pl
open Go.RowKit
set_option linter.unusedVariables false
set_option linter.unusedSimpArgs false

theorem bestD_app (R : List Int) (x : Int × Int) : ∀ (L : List (Int × Int)) (b : Int × Int), bestD R (L ++ [x]) b = if x.1 ∈ R ∧ x.1 < (bestD R L b).1 then x else bestD R L b
  | [], b => rfl
  | y :: t, b => by show bestD R (t ++ [x]) _ = _; rw [bestD_app R x t]; rfl
/-- The three blocks that Take lays first. -/
structure Bz (w W : World) (u v : Value) (bf bg : Int) : Prop where
  y : By w W u v
  t : W.heap[w.heap.size + 2]? = some (.cells #[.int .i64 bf, .int .i64 bg] TW (0, 0))
theorem bz_new (w : World) (u v : Value) : ∃ W, W = ((w.alloc (.cells #[u, v] TPo)).alloc (.cells #[.slice none 0 0, .slice none 0 0] TPo)).alloc (.cells #[.int .i64 65536, .int .i64 0] TW) ∧ Bz w W u v 65536 0 := by
  refine ⟨_, rfl, (by_new w u v).next (below_alloc _), ?_⟩
  have := heap_alloc_new ((w.alloc (.cells #[u, v] TPo)).alloc (.cells #[.slice none 0 0, .slice none 0 0] TPo)) (.cells #[.int .i64 65536, .int .i64 0] TW)
  simpa using this
section
variable {w W W' : World} {u v : Value} {bf bg : Int}
theorem Bz.lt (h : Bz w W u v bf bg) : w.heap.size + 2 < W.heap.size := (Array.getElem?_eq_some_iff.1 h.t).1
theorem Bz.next (h : Bz w W u v bf bg) (hb : Below W.heap.size W W') : Bz w W' u v bf bg := ⟨h.y.next hb, (hb.block _ h.lt).trans h.t⟩
theorem Bz.e0 (h : Bz w W u v bf bg) : W.cell? ⟨w.heap.size + 2, 0, none⟩ = some (.int .i64 bf) := cell_of_row _ _ 0 _ _ _ h.t
theorem Bz.e1 (h : Bz w W u v bf bg) : W.cell? ⟨w.heap.size + 2, 1, none⟩ = some (.int .i64 bg) := cell_of_row _ _ 1 _ _ _ h.t
theorem Bz.fe (h : Bz w W u v bf bg) (i : Nat) : W.frozen? ⟨w.heap.size + 2, i, none⟩ = false := frozen_of_row _ _ i _ _ h.t
theorem tw_set {w : World} {B : Nat} {a b : Value} (h : w.heap[B]? = some (.cells #[a, b] TW (0, 0))) (x y : Value) :
    ((w.setCell ⟨B, 0, none⟩ x).setCell ⟨B, 1, none⟩ y).heap[B]? = some (.cells #[x, y] TW (0, 0)) :=
  heap_setCell_same _ B 1 _ _ _ (heap_setCell_same _ B 0 _ _ _ h)
theorem Bz.set (h : Bz w W u v bf bg) (x y : Int) : Bz w ((W.setCell ⟨w.heap.size + 2, 0, none⟩ (.int .i64 x)).setCell ⟨w.heap.size + 2, 1, none⟩ (.int .i64 y)) u v x y :=
  ⟨⟨(set2_other (by omega)).trans h.y.b, (set2_other (by omega)).trans h.y.z, below_set2 h.y.below (by omega)⟩, tw_set h.t _ _⟩
end
theorem results_tp4 {fn : Func} {p q r s : Tmp} (h : fn.results = #[.cell p TPo, .tmp q, .tmp r, .tmp s]) (tmps : Array Value) (w : World) (B : Nat) (x y a b c : Value) (hB : w.heap[B]? = some (.cells #[x, y] TPo (0, 0)))
    (hp : tmps.getD p undef = .pointer (some ⟨B, 0, none⟩)) (hq : tmps.getD q undef = a) (hr : tmps.getD r undef = b) (hs : tmps.getD s undef = c) : (results fn tmps).run Tryz.prog w = .ok (.tuple #[.agg #[x, y], a, b, c]) w := by
  have c0 : w.cell? ⟨B, 0, none⟩ = some x := cell_of_row _ _ 0 _ _ _ hB
  have c1 : w.cell? ⟨B, 1, none⟩ = some y := cell_of_row _ _ 1 _ _ _ hB
  have hp' : tmps[p]?.getD undef = .pointer (some ⟨B, 0, none⟩) := by simpa using hp
  have hq' : tmps[q]?.getD undef = a := by simpa using hq
  have hr' : tmps[r]?.getD undef = b := by simpa using hr
  have hs' : tmps[s]?.getD undef = c := by simpa using hs
  clear hB hp hq hr hs
  simp [results, h, hp', hq', hr', hs', asAddr, go_sem, c0, c1]
theorem neq_tw (a b : Int × Int) (w : World) : (binOp .neq TW (.agg #[.int .i64 a.1, .int .i64 a.2]) (.agg #[.int .i64 b.1, .int .i64 b.2])).run Tryz.prog w = .ok (.bool (!decide (a = b))) w := by
  go_simp
  obtain ⟨a1, a2⟩ := a
  obtain ⟨b1, b2⟩ := b
  simp only [Prod.mk.injEq]
  (repeat' split) <;> simp [*]
def butW (x : Int × Int) (D : List (Int × Int)) : List (Int × Int) := D.filter fun y => !decide (y = x)
def butI (x : Int) (R : List Int) : List Int := R.filter fun y => !decide (y = x)
/-- The block of what is left. -/
structure Bo (w W : World) (B B2 O : Nat) (u v : Value) (bf bg : Int) (D : List (Int × Int)) (R : List Int) (v1 v2 : Value) : Prop where
  z : Bz w W u v bf bg
  o : W.heap[O]? = some (.cells #[v1, v2] TPo (0, 0))
  w1 : OwnsW W B v1 D
  w2 : OwnsI W B2 v2 R
  lt : w.heap.size + 2 < O ∧ O < B ∧ B ≤ B2 ∧ B2 ≤ W.heap.size
section
variable {w W W' : World} {B B2 O : Nat} {u v : Value} {bf bg : Int} {D : List (Int × Int)} {R : List Int} {v1 v2 : Value}
theorem Bo.next (h : Bo w W B B2 O u v bf bg D R v1 v2) (hb : Below W.heap.size W W') : Bo w W' B B2 O u v bf bg D R v1 v2 :=
  ⟨h.z.next hb, (hb.block _ (by have := h.lt; omega)).trans h.o, ownsR_kept h.w1 hb, ownsR_kept h.w2 hb, by have := h.lt; have := hb.size; omega⟩
theorem Bo.o0 (h : Bo w W B B2 O u v bf bg D R v1 v2) : W.cell? ⟨O, 0, none⟩ = some v1 := cell_of_row _ _ 0 _ _ _ h.o
theorem Bo.o1 (h : Bo w W B B2 O u v bf bg D R v1 v2) : W.cell? ⟨O, 1, none⟩ = some v2 := cell_of_row _ _ 1 _ _ _ h.o
theorem Bo.fo (h : Bo w W B B2 O u v bf bg D R v1 v2) (i : Nat) : W.frozen? ⟨O, i, none⟩ = false := frozen_of_row _ _ i _ _ h.o
/-- Low blocks. -/
theorem Bo.zset (h : Bo w W B B2 O u v bf bg D R v1 v2) {i : Nat} {x : Value} (hos : W'.os = W.os) (htp : W'.tape = W.tape) (hout : W'.output = W.output) (hsz : W.heap.size ≤ W'.heap.size) (hb : ∀ j, j < B → W'.heap[j]? = W.heap[j]?) : Bz w (W'.setCell ⟨O, i, none⟩ x) u v bf bg := by
  have hO := h.lt
  have hs : ∀ j, j ≠ O → (W'.setCell ⟨O, i, none⟩ x).heap[j]? = W'.heap[j]? := fun j hj => heap_setCell_other _ _ _ _ hj
  have hz := h.z.y.below
  exact ⟨⟨(hs _ (by omega)).trans ((hb _ (by omega)).trans h.z.y.b), (hs _ (by omega)).trans ((hb _ (by omega)).trans h.z.y.z), ⟨hos.trans hz.os, htp.trans hz.tape, hout.trans hz.output, by simpa using Nat.le_trans hz.size hsz, fun k hk => (hs _ (by omega)).trans ((hb _ (by omega)).trans (hz.block k hk))⟩⟩, (hs _ (by omega)).trans ((hb _ (by omega)).trans h.z.t)⟩
/-- One more that waits is left. -/
theorem Bo.moreW (h : Bo w W B B2 O u v bf bg D R v1 (.slice none 0 0)) {v1' : Value} {D' : List (Int × Int)} (ho : OwnsW W' B v1' D') (hg : W.grownBy W' v1.ownBlock) :
    Bo w (W'.setCell ⟨O, 0, none⟩ v1') B B2 O u v bf bg D' R v1' (.slice none 0 0) := by
  have hO := h.lt
  have hb : ∀ j, j < B → W'.heap[j]? = W.heap[j]? := fun j hj => hg.block j (by omega) (fun e => by have := (World.ownsRow.lt h.w1 j e.symm).1; omega)
  have hs : ∀ j, j ≠ O → (W'.setCell ⟨O, 0, none⟩ v1').heap[j]? = W'.heap[j]? := fun j hj => heap_setCell_other _ _ _ _ hj
  exact ⟨h.zset hg.os hg.tape hg.output hg.size hb, heap_setCell_same _ O 0 _ _ _ ((hb _ (by omega)).trans h.o), ownsR_heap ho (fun j hj => hs j (by have := (World.ownsRow.lt ho j hj).1; omega)), ownsR_heap h.w2 (fun j hj => by simp [Value.ownBlock] at hj), by have := hg.size; simp; omega⟩
/-- One more that is ready is left. -/
theorem Bo.moreI (h : Bo w W B B2 O u v bf bg D R v1 v2) {v2' : Value} {R' : List Int} (ho : OwnsI W' B2 v2' R') (hg : W.grownBy W' v2.ownBlock) (h1 : ∀ j, v1.ownBlock = some j → j < B2) :
    Bo w (W'.setCell ⟨O, 1, none⟩ v2') B B2 O u v bf bg D R' v1 v2' := by
  have hO := h.lt
  have hb : ∀ j, j < B2 → W'.heap[j]? = W.heap[j]? := fun j hj => hg.block j (by omega) (fun e => by have := (World.ownsRow.lt h.w2 j e.symm).1; omega)
  have hs : ∀ j, j ≠ O → (W'.setCell ⟨O, 1, none⟩ v2').heap[j]? = W'.heap[j]? := fun j hj => heap_setCell_other _ _ _ _ hj
  exact ⟨h.zset hg.os hg.tape hg.output hg.size (fun j hj => hb j (by omega)), heap_setCell_same _ O 1 _ _ _ ((hb _ (by omega)).trans h.o), ownsR_heap h.w1 (fun j hj => (hs j (by have := (World.ownsRow.lt h.w1 j hj).1; omega)).trans (hb j (h1 j hj))), ownsR_heap ho (fun j hj => hs j (by have := (World.ownsRow.lt ho j hj).1; omega)), by have := hg.size; simp; omega⟩
end
theorem butW_app (x : Int × Int) (D E : List (Int × Int)) : butW x (D ++ E) = butW x D ++ butW x E := by simp [butW]
theorem butI_app (x : Int) (D E : List Int) : butI x (D ++ E) = butI x D ++ butI x E := by simp [butI]
theorem butW_len (x : Int × Int) (D : List (Int × Int)) : (butW x D).length ≤ D.length := List.length_filter_le _ _
theorem butI_len (x : Int) (R : List Int) : (butI x R).length ≤ R.length := List.length_filter_le _ _
end Go.Proofs.YtlhblhgbpaipaaaGreat.Pl

/- RefPoll5 -/
namespace Go.Proofs.YtlhblhgbpaipaaaGreat.Pl
open Go.RowKit
set_option linter.unusedVariables false
set_option linter.unusedSimpArgs false

set_option maxRecDepth 100000 in
set_option maxHeartbeats 4000000 in
theorem rtake_is {w : World} {u v : Value} {D : List (Int × Int)} {lo lo' : Nat} {R : List Int} (hu : WSees w lo u D) (hv : ISees w lo' v R) (hbd : D.length ≤ 1000) (hbr : R.length ≤ 1000) {bf bg : Int} (hb : bestD R D (65536, 0) = (bf, bg)) :
    Calls Tryz.prog 34 #[.agg #[u, v]] w fun x w' => Below w.heap.size w w' ∧ ((bf = 65536 ∧ x = .returned (.tuple #[.agg #[u, v], .int .i64 0, .int .i64 0, .bool false])) ∨
      (bf ≠ 65536 ∧ ∃ v1 v2, x = .returned (.tuple #[.agg #[v1, v2], .int .i64 bf, .int .i64 bg, .bool true]) ∧ OwnsW w' w.heap.size v1 (butW (bf, bg) D) ∧ OwnsI w' w.heap.size v2 (butI bf R))) := by
  have HU := Lib.hid hu
  have HV := Lib.hid hv
  have HB := Lib.hid hb
  clear hb
  obtain ⟨a, cap, rfl, _, hmx, _, _⟩ := hu
  obtain ⟨b, capb, rfl, _, hmxb, _, _⟩ := hv
  obtain ⟨W, hW, hz⟩ := bz_new w (.slice a D.length cap) (.slice b R.length capb)
  have H0 := Lib.hid hz
  clear hz
  go_enter Tryz.func34, Tryz.ntmps34
  go_wp2_with fail
  rw [← hW]
  clear hW
  go_loopw [18] (fun q wr => ∃ (k : Nat) (xf xg : Int), k ≤ D.length ∧ q = .int .i64 k ∧ bestD R (D.take k) (65536, 0) = (xf, xg) ∧ Bz w wr (.slice a D.length cap) (.slice b R.length capb) xf xg) (fun q _ => D.length - (intOf q).toNat)
  case atStart => exact ⟨0, 65536, 0, Nat.zero_le _, rfl, by simp [bestD], H0.out⟩
  case round =>
    obtain ⟨k, xf, xg, hk, rfl, hbk, hz⟩ := hrel
    have H := Lib.hid hz
    have HK := Lib.hid hbk
    clear H0 hz hbk
    by_cases hlt : k < D.length
    · obtain ⟨⟨y1, y2⟩, hx⟩ : ∃ x, D[k]? = some x := ⟨_, List.getElem?_eq_getElem hlt⟩
      obtain ⟨c, rfl, c0, c1⟩ := (HU.out.below H.out.y.below).at hx
      have HX := Lib.hid (show bestD R (D.take (k + 1)) (65536, 0) = if y1 ∈ R ∧ y1 < xf then (y1, y2) else (xf, xg) by rw [take_one hx, bestD_app, HK.out])
      have hA := heap_alloc_new wr (.cells #[.int .i64 y1, .int .i64 y2] TW)
      have H1 := Lib.hid (And.intro (H.out.next (below_alloc (w := wr) (.cells #[.int .i64 y1, .int .i64 y2] TW))) hA)
      have z0 := H1.out.1.y.c0
      have z1 := H1.out.1.y.c1
      clear hx hA
      go_wp2_with fail
      clear c0 c1 z0 z1
      generalize (wr.alloc (.cells #[.int .i64 y1, .int .i64 y2] TW)) = W1 at *
      by_cases hq : y1 ∈ R
      · refine (ris_is (HV.out.below H1.out.1.y.below) (by omega) y1 (r := true) (by simpa using hq)).mono ?_
        rintro e w2 ⟨rfl, hb2⟩
        have H2 := Lib.hid (And.intro (H1.out.1.next hb2) ((hb2.block _ (Array.getElem?_eq_some_iff.1 H1.out.2).1).trans H1.out.2))
        clear hb2 H1
        have e0 := H2.out.1.e0
        have e1 := H2.out.1.e1
        have fe := H2.out.1.fe
        have x0 : w2.cell? ⟨wr.heap.size, 0, none⟩ = some (.int .i64 y1) := cell_of_row _ _ 0 _ _ _ H2.out.2
        have x1 : w2.cell? ⟨wr.heap.size, 1, none⟩ = some (.int .i64 y2) := cell_of_row _ _ 1 _ _ _ H2.out.2
        by_cases hl : y1 < xf
        · have HN : Hid (bestD R (D.take (k + 1)) (65536, 0) = (y1, y2)) := Lib.hid (by rw [HX.out, if_pos ⟨hq, hl⟩])
          clear hq
          go_wp2_with fail
          have H3 := Lib.hid (H2.out.1.set y1 y2)
          go_roundw
          case rel => exact ⟨k + 1, y1, y2, by omega, by go_num, HN.out, H3.out⟩
          case measure => simp [intOf]; omega
        · have HN : Hid (bestD R (D.take (k + 1)) (65536, 0) = (xf, xg)) := Lib.hid (by rw [HX.out, if_neg (fun h => hl h.2)])
          clear hq
          go_wp2_with fail
          go_roundw
          case rel => exact ⟨k + 1, xf, xg, by omega, by go_num, HN.out, H2.out.1⟩
          case measure => simp [intOf]; omega
      · refine (ris_is (HV.out.below H1.out.1.y.below) (by omega) y1 (r := false) (by simpa using hq)).mono ?_
        rintro e w2 ⟨rfl, hb2⟩
        have H2 := Lib.hid (H1.out.1.next hb2)
        clear hb2 H1
        have HN : Hid (bestD R (D.take (k + 1)) (65536, 0) = (xf, xg)) := Lib.hid (by rw [HX.out, if_neg (fun h => hq h.1)])
        clear hq
        go_wp2_with fail
        go_roundw
        case rel => exact ⟨k + 1, xf, xg, by omega, by go_num, HN.out, H2.out⟩
        case measure => simp [intOf]; omega
    · obtain rfl : k = D.length := by omega
      have hbk := HK.out
      rw [List.take_length, HB.out] at hbk
      obtain ⟨rfl, rfl⟩ : bf = xf ∧ bg = xg := by cases hbk; exact ⟨rfl, rfl⟩
      clear hbk HK
      have e0 := H.out.e0
      have e1 := H.out.e1
      have z0 := H.out.y.c0
      have z1 := H.out.y.c1
      by_cases h6 : bf = 65536
      · have y0 := H.out.y.d0
        have y1 := H.out.y.d1
        have fy := H.out.y.fz
        have h6b : (bf == 65536) = true := by simpa using h6
        have H6 := Lib.hid h6
        clear h6
        go_wp2_with fail
        refine bodyPost_ret (results_tp4 rfl _ _ (w.heap.size + 1) (.slice a D.length cap) (.slice b R.length capb) (.int .i64 0) (.int .i64 0) (.bool false) (tp_set H.out.y.z _ _) rfl rfl rfl rfl) rfl ⟨below_set2 H.out.y.below (by omega), .inl ⟨H6.out, rfl⟩⟩
      · have h6b : (bf == 65536) = false := by simpa using h6
        have H6 := Lib.hid h6
        have HA := Lib.hid (And.intro (H.out.next (below_alloc (w := wr) (.cells #[.slice none 0 0, .slice none 0 0] TPo))) (And.intro (heap_alloc_new wr (.cells #[.slice none 0 0, .slice none 0 0] TPo)) (And.intro H.out.lt (World.size_alloc wr (.cells #[.slice none 0 0, .slice none 0 0] TPo)))))
        clear h6
        have z0' := HA.out.1.y.c0
        have z1' := HA.out.1.y.c1
        go_wp2_with fail
        have HO := Lib.hid (show Bo w (wr.alloc (.cells #[.slice none 0 0, .slice none 0 0] TPo)) (wr.heap.size + 1) (wr.heap.size + 1) wr.heap.size (.slice a D.length cap) (.slice b R.length capb) bf bg [] [] (.slice none 0 0) (.slice none 0 0) from
          ⟨HA.out.1, HA.out.2.1, World.ownsRow_nil _ _ _ _, World.ownsRow_nil _ _ _ _, by have := HA.out.2.2.1; have := HA.out.2.2.2; omega⟩)
        clear HA e0 e1 z0 z1 z0' z1'
        obtain ⟨O, hO⟩ : ∃ O, wr.heap.size = O := ⟨_, rfl⟩
        rw [hO] at HO ⊢
        clear H
        generalize (wr.alloc (.cells #[.slice none 0 0, .slice none 0 0] TPo)) = W1 at *
        clear hO
        have o0 := HO.out.o0
        have z0 := HO.out.z.y.c0
        go_wp2_with fail
        clear o0 z0
        go_loopw [42] (fun q wr => ∃ (k : Nat) (v1 : Value), k ≤ D.length ∧ q = .int .i64 k ∧ Bo w wr (O + 1) (O + 1) O (.slice a D.length cap) (.slice b R.length capb) bf bg (butW (bf, bg) (D.take k)) [] v1 (.slice none 0 0)) (fun q _ => D.length - (intOf q).toNat)
        case atStart => exact ⟨0, .slice none 0 0, Nat.zero_le _, rfl, by simpa [butW] using HO.out⟩
        case round =>
          clear HO
          obtain ⟨k, v1, hk, rfl, hz⟩ := hrel
          obtain ⟨oa, oc, hov, _⟩ := rsees_own hz.w1 (Nat.le_refl _)
          obtain ⟨m, hm⟩ : ∃ m, (butW (bf, bg) (D.take k)).length = m := ⟨_, rfl⟩
          replace hov : v1 = .slice oa m oc := hov.trans (congrArg (fun n => Value.slice oa n oc) hm)
          have HM := Lib.hid (show (butW (bf, bg) (D.take k)).length ≤ 1000 by have := butW_len (bf, bg) (D.take k); rw [List.length_take] at this; omega)
          subst hov
          have H := Lib.hid hz
          clear hz hm
          by_cases hlt : k < D.length
          · obtain ⟨⟨y1, y2⟩, hx⟩ : ∃ x, D[k]? = some x := ⟨_, List.getElem?_eq_getElem hlt⟩
            obtain ⟨c, rfl, c0, c1⟩ := (HU.out.below H.out.z.y.below).at hx
            have HX := Lib.hid (take_one hx)
            have hA := heap_alloc_new wr (.cells #[.int .i64 y1, .int .i64 y2] TW)
            have H1 := Lib.hid (And.intro (H.out.next (below_alloc (w := wr) (.cells #[.int .i64 y1, .int .i64 y2] TW))) hA)
            have e0 := H1.out.1.z.e0
            have e1 := H1.out.1.z.e1
            obtain ⟨be, hbe⟩ : ∃ be, (!decide ((y1, y2) = (bf, bg))) = be := ⟨_, rfl⟩
            have hneq : ∀ W, (binOp .neq TW (.agg #[.int .i64 y1, .int .i64 y2]) (.agg #[.int .i64 bf, .int .i64 bg])).run Tryz.prog W = .ok (.bool be) W := fun W => by rw [← hbe]; exact neq_tw (y1, y2) (bf, bg) W
            have HBE := Lib.hid hbe
            clear hx hA hbe
            cases be with
            | true =>
              have HS : Hid (butW (bf, bg) (D.take (k + 1)) = butW (bf, bg) (D.take k) ++ [(y1, y2)]) := Lib.hid (by rw [HX.out, butW_app]; congr 1; unfold butW; rw [List.filter_cons, if_pos HBE.out]; rfl)
              have o0 := H1.out.1.o0
              go_wp2_with (refine wpList_append_oneW rfl (.tmp 50) (.tmp 52) rfl (wr.alloc (.cells #[.int .i64 y1, .int .i64 y2] TW)) (O + 1) (.slice oa m oc) (butW (bf, bg) (D.take k)) (y1, y2) (wr.heap.size + 1) (by simp) rfl H1.out.1.w1 rfl (by have := HM.out; omega) (by have := H1.out.1.lt; omega) ?_)
              intro v' w3 ho3 hg3
              rw [← HS.out] at ho3
              have H3 := Lib.hid (H1.out.1.moreW ho3 hg3)
              have hb3 := (hg3.block O (by have := H1.out.1.lt; omega) (fun e => by have := (World.ownsRow.lt H1.out.1.w1 O e.symm).1; omega)).trans H1.out.1.o
              obtain ⟨oa3, oc3, hov3, _⟩ := rsees_own ho3 (Nat.le_refl _)
              obtain ⟨m3, hm3⟩ : ∃ m3, (butW (bf, bg) (D.take (k + 1))).length = m3 := ⟨_, rfl⟩
              replace hov3 : v' = .slice oa3 m3 oc3 := hov3.trans (congrArg (fun n => Value.slice oa3 n oc3) hm3)
              subst hov3
              have o3 : w3.cell? ⟨O, 0, none⟩ = some (.slice oa m oc) := cell_of_row _ _ 0 _ _ _ hb3
              have fo : w3.frozen? ⟨O, 0, none⟩ = false := frozen_of_row _ _ 0 _ _ hb3
              clear ho3 hg3 hb3 hm3 c0 c1 e0 e1 o0 hneq
              go_wp2_with fail
              go_roundw
              case rel => exact ⟨k + 1, _, by omega, by go_num, H3.out⟩
              case measure => simp [intOf]; omega
            | false =>
              have HS : Hid (butW (bf, bg) (D.take (k + 1)) = butW (bf, bg) (D.take k)) := Lib.hid (by rw [HX.out, butW_app]; unfold butW; rw [List.filter_cons, if_neg (by rw [HBE.out]; decide)]; simp)
              go_wp2_with fail
              go_roundw
              case rel => exact ⟨k + 1, _, by omega, by go_num, by rw [HS.out]; exact H1.out.1⟩
              case measure => simp [intOf]; omega
          · obtain rfl : k = D.length := by omega
            rw [List.take_length] at H
            have z1 := H.out.z.y.c1
            go_wp2_with fail
            have hmb : ∀ j, (Value.slice oa m oc).ownBlock = some j → j < wr.heap.size := fun j hj => (World.ownsRow.lt H.out.w1 j hj).2
            have H4 := Lib.hid (show Bo w wr (O + 1) wr.heap.size O (.slice a D.length cap) (.slice b R.length capb) bf bg (butW (bf, bg) D) [] (.slice oa m oc) (.slice none 0 0) from
              ⟨H.out.z, H.out.o, H.out.w1, World.ownsRow_nil _ _ _ _, by have := H.out.lt; omega⟩)
            have HMB := Lib.hid hmb
            clear H z1 hmb
            obtain ⟨B2, hB2⟩ : ∃ B2, wr.heap.size = B2 := ⟨_, rfl⟩
            rw [hB2] at H4 HMB
            clear hB2
            go_loopw [59] (fun q wr => ∃ (k : Nat) (v2 : Value), k ≤ R.length ∧ q = .int .i64 k ∧ Bo w wr (O + 1) B2 O (.slice a D.length cap) (.slice b R.length capb) bf bg (butW (bf, bg) D) (butI bf (R.take k)) (.slice oa m oc) v2) (fun q _ => R.length - (intOf q).toNat)
            case atStart => exact ⟨0, .slice none 0 0, Nat.zero_le _, rfl, by simpa [butI] using H4.out⟩
            case round =>
              clear H4
              obtain ⟨k, v2, hk2, rfl, hz⟩ := hrel
              obtain ⟨pa, pc, hpv, _⟩ := rsees_own hz.w2 (Nat.le_refl _)
              obtain ⟨n, hn⟩ : ∃ n, (butI bf (R.take k)).length = n := ⟨_, rfl⟩
              replace hpv : v2 = .slice pa n pc := hpv.trans (congrArg (fun n => Value.slice pa n pc) hn)
              have HN := Lib.hid (show (butI bf (R.take k)).length ≤ 1000 by have := butI_len bf (R.take k); rw [List.length_take] at this; omega)
              subst hpv
              have H := Lib.hid hz
              clear hz hn
              have e0 := H.out.z.e0
              by_cases hlt2 : k < R.length
              · obtain ⟨y, hx⟩ : ∃ x, R[k]? = some x := ⟨_, List.getElem?_eq_getElem hlt2⟩
                obtain ⟨c, rfl, c0⟩ := (HV.out.below H.out.z.y.below).at hx
                have HX := Lib.hid (take_one hx)
                clear hx
                by_cases hyb : y = bf
                · have hyq : (y == bf) = true := by simpa using hyb
                  have HS : Hid (butI bf (R.take (k + 1)) = butI bf (R.take k)) := Lib.hid (by rw [HX.out, butI_app]; simp [butI, hyb])
                  clear hyb
                  go_wp2_with fail
                  go_roundw
                  case rel => exact ⟨k + 1, _, by omega, by go_num, by rw [HS.out]; exact H.out⟩
                  case measure => simp [intOf]; omega
                · have hyq : (y == bf) = false := by simpa using hyb
                  have HS : Hid (butI bf (R.take (k + 1)) = butI bf (R.take k) ++ [y]) := Lib.hid (by rw [HX.out, butI_app]; simp [butI, hyb])
                  have o1 := H.out.o1
                  clear hyb
                  go_wp2_with (refine wpList_append_oneI rfl (.tmp 68) (.tmp 70) rfl wr B2 (.slice pa n pc) (butI bf (R.take k)) y wr.heap.size rfl rfl H.out.w2 rfl (by have := HN.out; omega) H.out.lt.2.2.2 ?_)
                  intro v' w3 ho3 hg3
                  rw [← HS.out] at ho3
                  have H3 := Lib.hid (H.out.moreI ho3 hg3 HMB.out)
                  have hb3 := (hg3.block O (by have := H.out.lt; omega) (fun e => by have := (World.ownsRow.lt H.out.w2 O e.symm).1; have := H.out.lt; omega)).trans H.out.o
                  obtain ⟨oa3, oc3, hov3, _⟩ := rsees_own ho3 (Nat.le_refl _)
                  obtain ⟨m3, hm3⟩ : ∃ m3, (butI bf (R.take (k + 1))).length = m3 := ⟨_, rfl⟩
                  replace hov3 : v' = .slice oa3 m3 oc3 := hov3.trans (congrArg (fun n => Value.slice oa3 n oc3) hm3)
                  subst hov3
                  have o3 : w3.cell? ⟨O, 1, none⟩ = some (.slice pa n pc) := cell_of_row _ _ 1 _ _ _ hb3
                  have fo : w3.frozen? ⟨O, 1, none⟩ = false := frozen_of_row _ _ 1 _ _ hb3
                  clear ho3 hg3 hb3 hm3 c0 e0 o1
                  go_wp2_with fail
                  go_roundw
                  case rel => exact ⟨k + 1, _, by omega, by go_num, H3.out⟩
                  case measure => simp [intOf]; omega
              · obtain rfl : k = R.length := by omega
                rw [List.take_length] at H
                have e1 := H.out.z.e1
                have o0 := H.out.o0
                have o1 := H.out.o1
                have y0 := H.out.z.y.d0
                have y1 := H.out.z.y.d1
                have fy := H.out.z.y.fz
                go_wp2_with fail
                go_region
                go_wp2_with fail
                have hdr : Below wr.heap.size wr wr.drew := ⟨rfl, rfl, rfl, Nat.le_refl _, fun _ _ => rfl⟩
                have HZ := Lib.hid (H.out.next hdr)
                refine bodyPost_ret (results_tp4 rfl _ _ (w.heap.size + 1) (.slice oa m oc) (.slice pa n pc) (.int .i64 bf) (.int .i64 bg) (.bool true) (tp_set HZ.out.z.y.z _ _) rfl rfl rfl rfl) rfl ⟨below_set2 HZ.out.z.y.below (by omega), .inr ⟨H6.out, _, _, rfl, ?_, ?_⟩⟩
                · exact ownsR_lower (ownsR_heap HZ.out.w1 (fun j hj => set2_other (by have := (World.ownsRow.lt HZ.out.w1 j hj).1; have := HZ.out.lt; omega))) (by have := HZ.out.lt; omega)
                · exact ownsR_lower (ownsR_heap HZ.out.w2 (fun j hj => set2_other (by have := (World.ownsRow.lt HZ.out.w2 j hj).1; have := HZ.out.lt; omega))) (by have := HZ.out.lt; omega)
end Go.Proofs.YtlhblhgbpaipaaaGreat.Pl
