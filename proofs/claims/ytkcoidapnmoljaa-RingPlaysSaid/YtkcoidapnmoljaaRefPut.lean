/-
  hostlerref06: Put and Ready, over a row, who is next, and the streak.
-/
import Derived.Test.YtkcoidapnmoljaaRefRow
import Derived.Deep.RegionHeld3
import Derived.Deep.AppendLies
namespace Go.Proofs.Ytkcoidapnmoljaa.Rng
open Go.RowKit
open Go.Proofs.Ytkcoidapnmoljaa.Ints
set_option linter.unusedVariables false

/-- The document's ring as a value. -/
def RV (s : Value) (is : Bool) (nx st : Int) : Value := .agg #[s, .bool is, .int .i64 nx, .int .i64 st]

theorem ref_one (W : World) (n : Nat) (hn : n = W.heap.size) (g : Int) : Ref (W.alloc (.cells #[.int .i64 g] 3)) 0 (.slice (some ⟨n, 0, none⟩) 1 1) [g] := by
  subst hn
  refine ⟨_, 1, rfl, Nat.le_refl _, ⟨_, 1, rfl, by simp [maxLen], (fun h => by cases h), fun i x hx => ⟨_, rfl, ?_⟩⟩, fun c e => by cases e; simp⟩
  have hi : i = 0 := by have := (List.getElem?_eq_some_iff.1 hx).1; simp at this; omega
  subst hi
  simp at hx; subst hx
  exact cell_of_row _ _ 0 _ _ _ (heap_alloc_new _ _)

abbrev TR : TypeId := 44
/-- What a block of four cells tells. -/
theorem four {w : World} {B : Nat} {a b c d : Value} (h : w.heap[B]? = some (.cells #[a, b, c, d] TR (0, 0))) :
    w.cell? ⟨B, 0, none⟩ = some a ∧ w.cell? ⟨B, 1, none⟩ = some b ∧ w.cell? ⟨B, 2, none⟩ = some c ∧ w.cell? ⟨B, 3, none⟩ = some d ∧ ∀ o, w.frozen? ⟨B, o, none⟩ = false :=
  ⟨cell_of_row _ _ 0 _ _ _ h, cell_of_row _ _ 1 _ _ _ h, cell_of_row _ _ 2 _ _ _ h, cell_of_row _ _ 3 _ _ _ h, fun o => frozen_of_row _ _ o _ _ h⟩
theorem four_set {w : World} {B : Nat} {a b c d a' b' c' d' : Value} (h : w.heap[B]? = some (.cells #[a, b, c, d] TR (0, 0))) :
    ((((w.setCell ⟨B, 0, none⟩ a').setCell ⟨B, 1, none⟩ b').setCell ⟨B, 2, none⟩ c').setCell ⟨B, 3, none⟩ d').heap[B]? = some (.cells #[a', b', c', d'] TR (0, 0)) :=
  heap_setCell_same _ B 3 _ _ _ (heap_setCell_same _ B 2 _ _ _ (heap_setCell_same _ B 1 _ _ _ (heap_setCell_same _ B 0 _ _ _ h)))
theorem four_other {w : World} {B k i j l m : Nat} {a b c d : Value} (h : k ≠ B) : ((((w.setCell ⟨B, i, none⟩ a).setCell ⟨B, j, none⟩ b).setCell ⟨B, l, none⟩ c).setCell ⟨B, m, none⟩ d).heap[k]? = w.heap[k]? :=
  (heap_setCell_other _ _ _ _ h).trans ((heap_setCell_other _ _ _ _ h).trans ((heap_setCell_other _ _ _ _ h).trans (heap_setCell_other _ _ _ _ h)))
theorem one_other {w : World} {B i k : Nat} {v : Value} (h : k ≠ B) : (w.setCell ⟨B, i, none⟩ v).heap[k]? = w.heap[k]? := heap_setCell_other _ _ _ _ h
theorem four_size {w : World} {B i j l m : Nat} {a b c d : Value} : ((((w.setCell ⟨B, i, none⟩ a).setCell ⟨B, j, none⟩ b).setCell ⟨B, l, none⟩ c).setCell ⟨B, m, none⟩ d).heap.size = w.heap.size := by simp
theorem results_rv {fn : Func} {p q : Tmp} (h : fn.results = #[.cell p TR, .tmp q]) (tmps : Array Value) (w : World) (B : Nat) (a b c d x : Value) (hB : w.heap[B]? = some (.cells #[a, b, c, d] TR (0, 0)))
    (hp : tmps.getD p undef = .pointer (some ⟨B, 0, none⟩)) (hq : tmps.getD q undef = x) : (results fn tmps).run Try.prog w = .ok (.tuple #[.agg #[a, b, c, d], x]) w := by
  obtain ⟨c0, c1, c2, c3, _⟩ := four hB
  have hp' : tmps[p]?.getD undef = .pointer (some ⟨B, 0, none⟩) := by simpa using hp
  have hq' : tmps[q]?.getD undef = x := by simpa using hq
  clear hB hp hq
  simp [results, h, hp', hq', asAddr, go_sem, c0, c1, c2, c3]

/-- Two blocks behind w, and what is known of a world behind them. -/
theorem two_blocks (w w1 : World) (A B : Obj) (h : Below (((w.alloc A).alloc B).heap.size) ((w.alloc A).alloc B) w1) :
    w1.heap[w.heap.size]? = some A ∧ w1.heap[w.heap.size + 1]? = some B ∧ Below w.heap.size w w1 ∧ w.heap.size + 2 ≤ w1.heap.size := by
  have hs : ((w.alloc A).alloc B).heap.size = w.heap.size + 2 := by simp
  have hsz := h.size
  refine ⟨(h.block _ (by omega)).trans (heap_alloc2_old _ _ _), (h.block _ (by omega)).trans ?_, ?_, by omega⟩
  · have := heap_alloc_new (w.alloc A) B
    simpa using this
  · exact ((Below.refl w.heap.size w).alloc (Nat.le_refl _) A |>.alloc (by simp) B).trans (h.mono (by omega))

set_option maxRecDepth 100000 in
set_option maxHeartbeats 1000000 in
theorem rput_room {w : World} {s : Value} {row : List Int} {lo : Nat} (is : Bool) (nx st : Int) (hs : Ref w lo s row) (hlo : lo ≤ w.heap.size) (hn : row.length < 256) (g : Int) :
    Calls Try.prog 29 #[RV s is nx st, .int .i64 g] w fun e w' => ∃ s', e = .returned (.tuple #[RV s' is nx st, .slice none 0 0]) ∧ Ref w' w.heap.size s' (row ++ [g]) ∧ Below w.heap.size w w' := by
  have HS := Lib.hid hs
  obtain ⟨a, cap, rfl, _, _, _⟩ := hs
  have b1 : ((row.length : Int) == 256) = false := by rw [beq_eq_false_iff_ne]; omega
  have b2 : (row.length == 256) = false := by rw [beq_eq_false_iff_ne]; omega
  unfold RV
  go_enter Try.func29, Try.ntmps29
  go_wp2_with fail
  refine (join_is (Ref.below HS.out ((((Below.refl w.heap.size w).alloc (Nat.le_refl _) _).alloc (by simp) _).alloc (by simp; omega) _)) (ref_one _ _ (by simp) g) (by simp; omega)).mono ?_
  rintro e w1 ⟨o, rfl, ho, hb⟩
  obtain ⟨hA, hB2, hbw, hsz⟩ := two_blocks w w1 _ _ (Below.trans ((Below.refl _ _).alloc (Nat.le_refl _) _) (hb.mono (by simp)))
  obtain ⟨x0, x1, x2, x3, xf⟩ := four hA
  obtain ⟨y0, y1, y2, y3, yf⟩ := four hB2
  obtain ⟨a', c', rfl, _, _, _⟩ := Owns.parts ho
  have ho' : Owns w1 (w.heap.size + 2) (.slice a' (row.length + 1) c') (row ++ [g]) := by have := ho.lower (base' := w.heap.size + 2) (by simp); simpa using this
  have HO := Lib.hid (And.intro ho' (And.intro hA (And.intro hB2 hbw)))
  clear ho hb hA hB2 hbw ho'
  go_wp2_with fail
  refine bodyPost_ret (results_rv rfl _ _ (w.heap.size + 1) (.slice a' (row.length + 1) c') (.bool is) (.int .i64 nx) (.int .i64 st) (.slice none 0 0) (four_set ((one_other (by omega)).trans HO.out.2.2.1)) rfl rfl) rfl ⟨.slice a' (row.length + 1) c', rfl, Owns.ref (HO.out.1.kept fun j _ hj => (four_other (by omega)).trans (one_other (by omega))) (by omega), ?_⟩
  refine ⟨HO.out.2.2.2.os, HO.out.2.2.2.tape, HO.out.2.2.2.output, by rw [four_size]; simpa using HO.out.2.2.2.size, fun j hj => ?_⟩
  exact (four_other (by omega)).trans ((one_other (by omega)).trans (HO.out.2.2.2.block j hj))

theorem ref_at {w w' : World} {lo : Nat} {v : Value} {xs : List Int} (h : Ref w lo v xs) (hsz : w.heap.size ≤ w'.heap.size) (hb : ∀ j, v.ownBlock = some j → w'.heap[j]? = w.heap[j]?) : Ref w' lo v xs := by
  obtain ⟨a, cap, rfl, hc, hs, hl⟩ := h
  exact ⟨a, cap, rfl, hc, hs.kept hb, fun c e => ⟨(hl c e).1, Nat.lt_of_lt_of_le (hl c e).2 hsz⟩⟩
theorem owns_of {w : World} {base n : Nat} {v : Value} {xs : List Int} {l : List Value} (h : w.ownsRow base 3 1 v n l) (hn : xs.length = n) (hl : l = xs.map (Value.int .i64)) : Owns w base v xs := by
  subst hn hl; exact h
theorem ownsRow_of {w : World} {base n : Nat} {v : Value} {xs : List Int} (h : Owns w base v xs) (hn : xs.length = n) : w.ownsRow base 3 1 v n (xs.map (Value.int .i64)) := by
  subst hn; exact h
theorem four_cell {w : World} {A B k i j l m : Nat} {a b c d : Value} (h : A ≠ B) : ((((w.setCell ⟨B, i, none⟩ a).setCell ⟨B, j, none⟩ b).setCell ⟨B, l, none⟩ c).setCell ⟨B, m, none⟩ d).cell? ⟨A, k, none⟩ = w.cell? ⟨A, k, none⟩ :=
  World.cell?_of_block (four_other h)

set_option maxRecDepth 100000 in
set_option maxHeartbeats 1000000 in
theorem rput_full {w : World} {s : Value} {row : List Int} {lo : Nat} (is : Bool) (nx st : Int) (hs : Ref w lo s row) (hlo : lo ≤ w.heap.size) (hn : row.length = 256) (g : Int) :
    Calls Try.prog 29 #[RV s is nx st, .int .i64 g] w fun e w' => ∃ s' o, e = .returned (.tuple #[RV s' is nx st, o]) ∧ Ref w' lo s' (row.drop 128) ∧ Ref w' w.heap.size o (row.take 128 ++ [g]) ∧ Below w.heap.size w w' ∧ ∀ j, s'.ownBlock = some j → s.ownBlock = some j := by
  obtain ⟨i0, hi, hz0, hz1, hz2⟩ := info_parts infoInt
  have HS := Lib.hid hs
  obtain ⟨a, cap, rfl, _, _, hla⟩ := hs
  rw [hn] at HS ⊢
  have HN := Lib.hid hn
  clear hn
  have hla' : ∀ j, (Value.slice a 256 cap).ownBlock = some j → j < w.heap.size := fun j hj => by
    cases a with
    | none => simp [Value.ownBlock] at hj
    | some c => simp [Value.ownBlock] at hj; subst hj; exact (hla c rfl).2
  have HLA := Lib.hid hla'
  clear hla hla'
  unfold RV
  go_enter Try.func29, Try.ntmps29
  go_wp2_with fail
  refine (rtake_is (Ref.below HS.out (((Below.refl w.heap.size w).alloc (Nat.le_refl _) _).alloc (by simp) _)) 128 (by rw [HN.out]; omega)).mono ?_
  rintro e w1 ⟨o, r, rfl, ho, hr, hb, hob⟩
  obtain ⟨hA, hB2, hbw, hsz⟩ := two_blocks w w1 _ _ hb
  obtain ⟨x0, x1, x2, x3, xf⟩ := four hA
  obtain ⟨ao, co, rfl, _, _, _⟩ := Owns.parts ho
  have ho' : Owns w1 (w.heap.size + 2) (.slice ao 128 co) (row.take 128) := by
    have e1 : (row.take 128).length = 128 := by rw [List.length_take, HN.out]; omega
    have := ho.lower (base' := w.heap.size + 2) (by simp); rw [e1] at this; exact this
  have HOB := Lib.hid hob
  clear hob
  have HR := Lib.hid hr
  obtain ⟨ar, cr, rfl, _, _, hlr⟩ := hr
  have e1 : (row.take 128).length = 128 := by rw [List.length_take, HN.out]; omega
  have e2 : (row.drop 128).length = 128 := by rw [List.length_drop, HN.out]
  rw [e1, e2] at *
  have HO := Lib.hid (And.intro ho' (And.intro hA (And.intro hB2 hbw)))
  clear ho hb hA hB2 hbw ho' hlr e1 e2
  have hr' : Ref w1 lo (.slice ar 128 cr) (row.drop 128) := by
    have e2 : (row.drop 128).length = 128 := by rw [List.length_drop, HN.out]
    have := HR.out; rw [e2] at this; exact this
  have HR2 := Lib.hid hr'
  clear HR hr'
  go_wp2_with fail
  have hAW : (w1.setCell ⟨w.heap.size, 0, none⟩ (.slice ar 128 cr)).heap[w.heap.size]? = some (.cells #[.slice ar 128 cr, .bool is, .int .i64 nx, .int .i64 st] TR (0, 0)) := heap_setCell_same _ _ 0 _ _ _ HO.out.2.1
  have hoth : ∀ k, k ≠ w.heap.size → (w1.setCell ⟨w.heap.size, 0, none⟩ (.slice ar 128 cr)).heap[k]? = w1.heap[k]? := fun k hk => one_other hk
  have hBW : (w1.setCell ⟨w.heap.size, 0, none⟩ (.slice ar 128 cr)).heap[w.heap.size + 1]? = some (.cells #[.slice none 0 0, .bool false, .int .i64 0, .int .i64 0] TR (0, 0)) := (hoth _ (by omega)).trans HO.out.2.2.1
  have hOW : Owns (w1.setCell ⟨w.heap.size, 0, none⟩ (.slice ar 128 cr)) (w.heap.size + 2) (.slice ao 128 co) (row.take 128) := HO.out.1.kept fun j _ hj => hoth j (by omega)
  have hbW : Below w.heap.size w (w1.setCell ⟨w.heap.size, 0, none⟩ (.slice ar 128 cr)) := ⟨HO.out.2.2.2.os, HO.out.2.2.2.tape, HO.out.2.2.2.output, by simpa using HO.out.2.2.2.size, fun j hj => (hoth j (by omega)).trans (HO.out.2.2.2.block j hj)⟩
  have hRW : Ref (w1.setCell ⟨w.heap.size, 0, none⟩ (.slice ar 128 cr)) lo (.slice ar 128 cr) (row.drop 128) := ref_at HR2.out (by simp) (fun j hj => hoth j (by have := HLA.out j (HOB.out j (own_len hj)); omega))
  have hszW : w.heap.size + 2 ≤ (w1.setCell ⟨w.heap.size, 0, none⟩ (.slice ar 128 cr)).heap.size := by simpa using hsz
  have HJ : Hid (∀ j, (Value.slice ar 128 cr).ownBlock = some j → j < w.heap.size) := Lib.hid fun j hj => HLA.out j (HOB.out j (own_len hj))
  have HJ2 : Hid (∀ j, (Value.slice ar 128 cr).ownBlock = some j → (Value.slice a 256 cap).ownBlock = some j) := Lib.hid fun j hj => HOB.out j (own_len hj)
  clear hsz HO HR2 HOB HLA hoth xf x0 x1 x2 x3
  generalize (w1.setCell ⟨w.heap.size, 0, none⟩ (.slice ar 128 cr)) = W at *
  obtain ⟨x0, x1, x2, x3, _⟩ := four hAW
  obtain ⟨y0, y1, y2, y3, yf⟩ := four hBW
  have H := Lib.hid (And.intro hAW (And.intro hBW (And.intro hOW (And.intro hbW hRW))))
  clear hAW hBW hOW hbW hRW
  have hlt := (Array.getElem?_eq_some_iff.1 H.out.2.1).1
  have p0 : (W.alloc (.cells #[.int .i64 g] 3)).cell? ⟨w.heap.size, 0, none⟩ = some (.slice ar 128 cr) := Lib.cell?_alloc_some _ x0
  have p1 : (W.alloc (.cells #[.int .i64 g] 3)).cell? ⟨w.heap.size, 1, none⟩ = some (.bool is) := Lib.cell?_alloc_some _ x1
  have p2 : (W.alloc (.cells #[.int .i64 g] 3)).cell? ⟨w.heap.size, 2, none⟩ = some (.int .i64 nx) := Lib.cell?_alloc_some _ x2
  have p3 : (W.alloc (.cells #[.int .i64 g] 3)).cell? ⟨w.heap.size, 3, none⟩ = some (.int .i64 st) := Lib.cell?_alloc_some _ x3
  go_region_law (refine step_append_lies _ (by rfl) _ _ _ (by rfl) (w.heap.size + 2) 3 i0 _ 1 8 Try.underlying25 hi hz0 hz1 hz2 rfl (by omega) (.slice ao 128 co) 128 ((row.take 128).map (Value.int .i64)) (by rfl) ((ownsRow_of (H.out.2.2.1) (by rw [List.length_take, HN.out]; omega)).alloc _).drew ⟨W.heap.size, 0, none⟩ 1 1 [.int .i64 g] (by rfl) (by rfl) (World.news_of_block (cs := #[.int .i64 g]) (t := 3) (fr := (0, 0)) (heap_alloc_new W _)) (by simp [Value.oneCell']) (by omega) (by unfold maxLen; omega) (by omega) (by simp; omega) (W.heap.size + 1) (by simp) ?_; intro gg cap' w2 hown2 hgrow hat hlt2; have hBk := (hgrow.block (w.heap.size + 1) (by simp; omega) (fun e => by have := (H.out.2.2.1.block e.symm).1; omega)).trans ((heap_alloc_old _ _ hlt).trans H.out.2.1); have hAk := (hgrow.block w.heap.size (by simp; omega) (fun e => by have := (H.out.2.2.1.block e.symm).1; omega)).trans ((heap_alloc_old _ _ (by omega)).trans H.out.1); obtain ⟨v0, v1, v2, v3, vf⟩ := four hBk; obtain ⟨u0, u1, u2, u3, _⟩ := four hAk; have HK := Lib.hid (And.intro hown2 (And.intro hgrow (And.intro hBk hAk))); clear hown2 hgrow hBk hAk)
  all_goals
    (go_wp2_with fail
     refine bodyPost_ret (results_rv rfl _ _ (w.heap.size + 1) (.slice ar 128 cr) (.bool is) (.int .i64 nx) (.int .i64 st) (.slice (some ⟨gg, 0, none⟩) 129 cap') (four_set HK.out.2.2.1) rfl rfl) rfl ⟨_, _, rfl, ?_, ?_, ?_, HJ2.out⟩
     · refine ref_at H.out.2.2.2.2 (by rw [four_size]; have := HK.out.2.1.size; simp at this; omega) fun j hj => ?_
       have hj2 := HJ.out j hj
       exact (four_other (by omega)).trans ((HK.out.2.1.block j (by simp; omega) (fun e => by have := (H.out.2.2.1.block e.symm).1; omega)).trans (heap_alloc_old _ _ (by omega)))
     · refine Owns.ref (Owns.kept (owns_of HK.out.1 (by rw [List.length_append, List.length_take, HN.out]; rfl) (by simp)) fun j _ hj => four_other (by omega)) (by omega)
     · have hX := (H.out.2.2.2.1).alloc (by omega) (.cells #[.int .i64 g] 3)
       have hY : Below w.heap.size w (W.alloc (.cells #[.int .i64 g] 3)).drew := ⟨hX.os, hX.tape, hX.output, hX.size, hX.block⟩
       have hZ := below_own hY HK.out.2.1 (fun j hj => by have := (H.out.2.2.1.block hj).1; omega) (by simp; omega)
       exact ⟨hZ.os, hZ.tape, hZ.output, by rw [four_size]; exact hZ.size, fun j hj => (four_other (by omega)).trans (hZ.block j hj)⟩)
end Go.Proofs.Ytkcoidapnmoljaa.Rng
