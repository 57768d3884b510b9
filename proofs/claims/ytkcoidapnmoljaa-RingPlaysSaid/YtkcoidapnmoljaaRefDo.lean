/-
  hostlerlaw06.do: an act, of both rings.
-/
import Derived.Test.YtkcoidapnmoljaaRingBoth
namespace Go.Proofs.Ytkcoidapnmoljaa.Rng
open Go.RowKit
open Go.Proofs.Ytkcoidapnmoljaa.Ints
set_option linter.unusedVariables false

abbrev TA : TypeId := 46
/-- How an act ends: both rings hold the same. -/
def DoEnd (w : World) (b lo : Nat) (e : Ending) (w' : World) : Prop :=
  ∃ row nxt st a c, e = .returned (.tuple #[RV (.slice a row.length c) nxt.isSome (nxt.getD 0) st, .bool true]) ∧ IsR w' b row nxt st ∧ Ref w' lo (.slice a row.length c) row ∧ w.grownBy w' (some b)

theorem three_blocks (w w1 : World) (A B C : Obj) (h : Below ((((w.alloc A).alloc B).alloc C).heap.size) (((w.alloc A).alloc B).alloc C) w1) :
    w1.heap[w.heap.size]? = some A ∧ w1.heap[w.heap.size + 1]? = some B ∧ w1.heap[w.heap.size + 2]? = some C ∧ Below w.heap.size w w1 ∧ w.heap.size + 3 ≤ w1.heap.size := by
  have hs : (((w.alloc A).alloc B).alloc C).heap.size = w.heap.size + 3 := by simp
  have hsz := h.size
  have h2 := ((Below.refl _ ((w.alloc A).alloc B)).alloc (Nat.le_refl _) C).trans (h.mono (by simp))
  obtain ⟨a, b, c, _⟩ := two_blocks w w1 A B h2
  refine ⟨a, b, (h.block _ (by omega)).trans ?_, c, by omega⟩
  have := heap_alloc_new ((w.alloc A).alloc B) C
  simpa using this
theorem below_three (w : World) (A B C : Obj) : Below w.heap.size w (((w.alloc A).alloc B).alloc C) := (below_two w A B).alloc (by simp; omega) C

theorem act_cells {w : World} {B : Nat} {a b c : Value} (h : w.heap[B]? = some (.cells #[a, b, c] TA (0, 0))) :
    w.cell? ⟨B, 0, none⟩ = some a ∧ w.cell? ⟨B, 1, none⟩ = some b ∧ w.cell? ⟨B, 2, none⟩ = some c :=
  ⟨cell_of_row _ _ 0 _ _ _ h, cell_of_row _ _ 1 _ _ _ h, cell_of_row _ _ 2 _ _ _ h⟩

/-- The act's state ahead of the region that plays the ring's deed: the document's has been played. -/
structure DoSt (w W : World) (b lo B8 : Nat) (row0 : List Int) (nxt0 : Option Int) (st0 : Int) (a : Option Addr) (c : Nat) (a2 : Option Addr) (c2 : Nat) (told row : List Int) (is : Bool) (nx st k g n : Int) : Prop where
  ring : IsR W b row0 nxt0 st0
  ref : Ref W lo (.slice a row.length c) row
  told : Ref W lo (.slice a2 told.length c2) told
  c8 : W.heap[B8]? = some (.cells #[.slice a row.length c, .bool is, .int .i64 nx, .int .i64 st] TR (0, 0))
  c5 : W.heap[w.heap.size + 1]? = some (.cells #[.int .u8 k, .int .i64 g, .int .u16 n] TA (0, 0))
  c6 : W.heap[w.heap.size + 1 + 1]? = some (.cells #[.slice none 0 0, .bool false, .int .i64 0, .int .i64 0] TR (0, 0))
  below : Below w.heap.size w W
  apart : ∀ j, (Value.slice a row.length c).ownBlock = some j → j ≠ w.heap.size + 1 + 1
  blo : b < lo
  low : lo ≤ w.heap.size
  b8 : w.heap.size + 3 ≤ B8

theorem dost_mk {w w1 : World} {A : Obj} {s : Value} {b lo : Nat} {row0 : List Int} {nxt0 : Option Int} {st0 : Int} {a : Option Addr} {c : Nat} {a2 : Option Addr} {c2 : Nat} {told row row1 : List Int} {is : Bool} {nx st k g n : Int}
    (r : IsR w b row0 nxt0 st0) (hs0 : Ref w lo s row1) (blo : b < lo) (low : lo ≤ w.heap.size)
    (hb : Below ((((w.alloc A).alloc (.cells #[.int .u8 k, .int .i64 g, .int .u16 n] TA)).alloc (.cells #[.slice none 0 0, .bool false, .int .i64 0, .int .i64 0] TR)).heap.size) (((w.alloc A).alloc (.cells #[.int .u8 k, .int .i64 g, .int .u16 n] TA)).alloc (.cells #[.slice none 0 0, .bool false, .int .i64 0, .int .i64 0] TR)) w1)
    (hr : Ref w1 lo (.slice a row.length c) row) (hs : Ref w1 lo (.slice a2 told.length c2) told)
    (hap : ∀ j, (Value.slice a row.length c).ownBlock = some j → s.ownBlock = some j ∨ (((w.alloc A).alloc (.cells #[.int .u8 k, .int .i64 g, .int .u16 n] TA)).alloc (.cells #[.slice none 0 0, .bool false, .int .i64 0, .int .i64 0] TR)).heap.size ≤ j) :
    DoSt w (w1.alloc (.cells #[.slice a row.length c, .bool is, .int .i64 nx, .int .i64 st] TR)) b lo w1.heap.size row0 nxt0 st0 a c a2 c2 told row is nx st k g n := by
  obtain ⟨hA, hB, hC, hbw, hsz⟩ := three_blocks w w1 _ _ _ hb
  have hal : Below w1.heap.size w1 (w1.alloc (.cells #[.slice a row.length c, .bool is, .int .i64 nx, .int .i64 st] TR)) := (Below.refl _ _).alloc (Nat.le_refl _) _
  refine ⟨(r.below hbw).below hal, hr.below hal, hs.below hal, heap_alloc_new _ _, (hal.block _ (by omega)).trans hB, (hal.block _ (by omega)).trans hC, hbw.trans (hal.mono hbw.size), fun j hj => ?_, blo, low, hsz⟩
  rcases hap j hj with h | h
  · have := ref_block hs0 h; omega
  · simp at h; omega

section
variable {w W : World} {b lo B8 : Nat} {row0 : List Int} {nxt0 : Option Int} {st0 : Int} {a : Option Addr} {c : Nat} {a2 : Option Addr} {c2 : Nat} {told row : List Int} {is : Bool} {nx st k g n : Int}
theorem DoSt.lt8 (D : DoSt w W b lo B8 row0 nxt0 st0 a c a2 c2 told row is nx st k g n) : B8 < W.heap.size := (Array.getElem?_eq_some_iff.1 D.c8).1
theorem DoSt.lt6 (D : DoSt w W b lo B8 row0 nxt0 st0 a c a2 c2 told row is nx st k g n) : w.heap.size + 1 + 1 < W.heap.size := (Array.getElem?_eq_some_iff.1 D.c6).1
/-- The cells that the region reads or writes, in a world in which the ring alone has changed. -/
theorem DoSt.cells (D : DoSt w W b lo B8 row0 nxt0 st0 a c a2 c2 told row is nx st k g n) {w' : World} (hg : W.grownBy w' (some b)) :
    (w'.cell? ⟨B8, 0, none⟩ = some (.slice a row.length c) ∧ w'.cell? ⟨B8, 1, none⟩ = some (.bool is) ∧ w'.cell? ⟨B8, 2, none⟩ = some (.int .i64 nx) ∧ w'.cell? ⟨B8, 3, none⟩ = some (.int .i64 st) ∧ w'.cell? ⟨w.heap.size + 1, 1, none⟩ = some (.int .i64 g)) ∧
    (w'.cell? ⟨w.heap.size + 1 + 1, 0, none⟩ = some (.slice none 0 0) ∧ w'.cell? ⟨w.heap.size + 1 + 1, 1, none⟩ = some (.bool false) ∧ w'.cell? ⟨w.heap.size + 1 + 1, 2, none⟩ = some (.int .i64 0) ∧ w'.cell? ⟨w.heap.size + 1 + 1, 3, none⟩ = some (.int .i64 0) ∧ ∀ o, w'.frozen? ⟨w.heap.size + 1 + 1, o, none⟩ = false) := by
  have hbl := D.blo
  have hlo := D.low
  have hl6 := D.lt6
  have hb8 := D.b8
  have h8 : B8 ≠ b := by omega
  have e8 := four ((hg.block _ D.lt8 (fun e => h8 (Option.some.inj e))).trans D.c8)
  have e5 := act_cells ((hg.block _ (by omega) (fun e => by have := Option.some.inj e; omega)).trans D.c5)
  have e6 := four ((hg.block _ D.lt6 (fun e => by have := Option.some.inj e; omega)).trans D.c6)
  exact ⟨⟨e8.1, e8.2.1, e8.2.2.1, e8.2.2.2.1, e5.2.1⟩, e6⟩
theorem DoSt.cells4 (D : DoSt w W b lo B8 row0 nxt0 st0 a c a2 c2 told row is nx st k g n) {w' : World} (hg : W.grownBy w' (some b)) (v1 v2 v3 v4 : Value) :
    ((((w'.setCell ⟨w.heap.size + 1 + 1, 0, none⟩ v1).setCell ⟨w.heap.size + 1 + 1, 1, none⟩ v2).setCell ⟨w.heap.size + 1 + 1, 2, none⟩ v3).setCell ⟨w.heap.size + 1 + 1, 3, none⟩ v4).cell? ⟨B8, 0, none⟩ = some (.slice a row.length c) ∧
    ((((w'.setCell ⟨w.heap.size + 1 + 1, 0, none⟩ v1).setCell ⟨w.heap.size + 1 + 1, 1, none⟩ v2).setCell ⟨w.heap.size + 1 + 1, 2, none⟩ v3).setCell ⟨w.heap.size + 1 + 1, 3, none⟩ v4).cell? ⟨B8, 1, none⟩ = some (.bool is) ∧
    ((((w'.setCell ⟨w.heap.size + 1 + 1, 0, none⟩ v1).setCell ⟨w.heap.size + 1 + 1, 1, none⟩ v2).setCell ⟨w.heap.size + 1 + 1, 2, none⟩ v3).setCell ⟨w.heap.size + 1 + 1, 3, none⟩ v4).cell? ⟨B8, 2, none⟩ = some (.int .i64 nx) ∧
    ((((w'.setCell ⟨w.heap.size + 1 + 1, 0, none⟩ v1).setCell ⟨w.heap.size + 1 + 1, 1, none⟩ v2).setCell ⟨w.heap.size + 1 + 1, 2, none⟩ v3).setCell ⟨w.heap.size + 1 + 1, 3, none⟩ v4).cell? ⟨B8, 3, none⟩ = some (.int .i64 st) ∧
    ((((w'.setCell ⟨w.heap.size + 1 + 1, 0, none⟩ v1).setCell ⟨w.heap.size + 1 + 1, 1, none⟩ v2).setCell ⟨w.heap.size + 1 + 1, 2, none⟩ v3).setCell ⟨w.heap.size + 1 + 1, 3, none⟩ v4).cell? ⟨w.heap.size + 1, 1, none⟩ = some (.int .i64 g) := by
  have hb8 := D.b8
  obtain ⟨⟨s0, s1, s2, s3, s5⟩, _⟩ := D.cells hg
  exact ⟨(four_cell (by omega)).trans s0, (four_cell (by omega)).trans s1, (four_cell (by omega)).trans s2, (four_cell (by omega)).trans s3, (four_cell (by omega)).trans s5⟩
theorem DoSt.fin (D : DoSt w W b lo B8 row0 nxt0 st0 a c a2 c2 told row is nx st k g n) {w2 w3 : World} {nxt' : Option Int} {st' : Int} (hg : W.grownBy w2 (some b)) (hr : IsR w2 b row nxt' st') (hd : Drawn w2 w3) (v1 v2 v3 v4 : Value) :
    ((((w3.setCell ⟨w.heap.size + 1 + 1, 0, none⟩ v1).setCell ⟨w.heap.size + 1 + 1, 1, none⟩ v2).setCell ⟨w.heap.size + 1 + 1, 2, none⟩ v3).setCell ⟨w.heap.size + 1 + 1, 3, none⟩ v4).heap[w.heap.size + 1 + 1]? = some (.cells #[v1, v2, v3, v4] TR (0, 0)) ∧
    IsR ((((w3.setCell ⟨w.heap.size + 1 + 1, 0, none⟩ v1).setCell ⟨w.heap.size + 1 + 1, 1, none⟩ v2).setCell ⟨w.heap.size + 1 + 1, 2, none⟩ v3).setCell ⟨w.heap.size + 1 + 1, 3, none⟩ v4) b row nxt' st' ∧
    Ref ((((w3.setCell ⟨w.heap.size + 1 + 1, 0, none⟩ v1).setCell ⟨w.heap.size + 1 + 1, 1, none⟩ v2).setCell ⟨w.heap.size + 1 + 1, 2, none⟩ v3).setCell ⟨w.heap.size + 1 + 1, 3, none⟩ v4) lo (.slice a row.length c) row ∧
    w.grownBy ((((w3.setCell ⟨w.heap.size + 1 + 1, 0, none⟩ v1).setCell ⟨w.heap.size + 1 + 1, 1, none⟩ v2).setCell ⟨w.heap.size + 1 + 1, 2, none⟩ v3).setCell ⟨w.heap.size + 1 + 1, 3, none⟩ v4) (some b) := by
  have hbl := D.blo
  have hlo := D.low
  have hl6 := D.lt6
  have e6 := ((congrArg (fun h => h[w.heap.size + 1 + 1]?) hd.heap).trans (hg.block _ D.lt6 (fun e => by have := Option.some.inj e; omega))).trans D.c6
  have hr3 : IsR w3 b row nxt' st' := hr.heap (congrArg (fun h => h[b]?) hd.heap)
  have hg3 : W.grownBy w3 (some b) := ⟨hd.os.trans hg.os, hd.tape.trans hg.tape, hd.output.trans hg.output, by rw [hd.heap]; exact hg.size, fun j hj hne => (congrArg (fun h => h[j]?) hd.heap).trans (hg.block j hj hne)⟩
  have hf3 : Ref w3 lo (.slice a row.length c) row := D.ref.grown hg3 hbl
  refine ⟨four_set e6, hr3.heap (four_other (by omega)), ref_four_at hf3 D.apart, ?_⟩
  have h1 : w.grownBy w3 (some b) := ⟨hg3.os.trans D.below.os, hg3.tape.trans D.below.tape, hg3.output.trans D.below.output, Nat.le_trans D.below.size hg3.size, fun j hj hne => (hg3.block j (Nat.lt_of_lt_of_le hj D.below.size) hne).trans (D.below.block j hj)⟩
  exact ⟨h1.os, h1.tape, h1.output, by rw [four_size]; exact h1.size, fun j hj hne => (four_other (by omega)).trans (h1.block j hj hne)⟩
end
theorem grown_drawn {w w1 w2 : World} {r : Option Nat} (h : w.grownBy w1 r) (hd : Drawn w1 w2) : w.grownBy w2 r :=
  ⟨hd.os.trans h.os, hd.tape.trans h.tape, hd.output.trans h.output, by rw [hd.heap]; exact h.size, fun j hj hne => (congrArg (fun h => h[j]?) hd.heap).trans (h.block j hj hne)⟩
theorem grown_pre {w w' : World} {r : Option Nat} (h : w.drew.grownBy w' r) : w.grownBy w' r := ⟨h.os, h.tape, h.output, h.size, h.block⟩
theorem same_x {w : World} {a a2 : Option Addr} {n m c c2 : Nat} {xs : List Int} (hv : Sees w (.slice a n c) xs) (hu : Sees w (.slice a2 m c2) xs) :
    Calls Try.prog 14 #[.slice a n c, .slice a2 m c2] w fun e w' => e = .returned (.bool true) ∧ Drawn w w' :=
  (same_any hv hu).mono fun e w' ⟨he, hd⟩ => ⟨by rw [he]; exact ret_bool (by simp), hd⟩

set_option maxRecDepth 100000 in
set_option maxHeartbeats 2000000 in
theorem do_put {w : World} {s : Value} {b lo : Nat} {row : List Int} {nxt : Option Int} {st : Int} (k g n : Int) (r : IsR w b row nxt st) (hs : Ref w lo s row) (hlb : b < lo) (hlo : lo ≤ w.heap.size) (hk : 0 ≤ k) (h9 : k % 9 = 0 ∨ k % 9 = 1) :
    Calls Try.prog 21 #[.pointer (some ⟨b, 0, none⟩), RV s nxt.isSome (nxt.getD 0) st, .agg #[.int .u8 k, .int .i64 g, .int .u16 n]] w (DoEnd w b lo) := by
  have hl := row_le r
  have HR := Lib.hid r
  have HS := Lib.hid hs
  obtain ⟨a, cap, rfl, _⟩ := hs
  obtain ⟨is, his⟩ : ∃ is, nxt.isSome = is := ⟨_, rfl⟩
  obtain ⟨nx, hnx⟩ : ∃ nx, nxt.getD 0 = nx := ⟨_, rfl⟩
  obtain ⟨told, ht⟩ : ∃ told, (putL row g).1 = told := ⟨_, rfl⟩
  obtain ⟨row', hr'⟩ : ∃ row', (putL row g).2 = row' := ⟨_, rfl⟩
  have htl := (putL_le hl g).1
  rw [ht] at htl
  have HE := Lib.hid (And.intro his (And.intro hnx (And.intro ht hr')))
  rw [his, hnx]
  clear his hnx ht hr' r
  unfold RV
  rcases h9 with h9 | h9
  all_goals
    have ek : k.tmod 9 = k % 9 := Int.tmod_eq_emod_of_nonneg hk
    rw [h9] at ek
    clear h9
    go_enter Try.func21, Try.ntmps21
    go_wp2_with fail
    refine (doc_put is nx st (Ref.below HS.out (below_three w _ _ _)) (by simp; omega) hl g).mono ?_
    rintro e w1 ⟨a1, c1, a2, c2, rfl, hr, hs, hb, hap⟩
    rw [HE.out.2.2.2] at hr hap ⊢
    rw [HE.out.2.2.1] at hs ⊢
    have D := Lib.hid (dost_mk (is := is) (nx := nx) (st := st) HR.out HS.out hlb hlo hb hr hs hap)
    obtain ⟨hA, hB, hC, hbw, hsz⟩ := three_blocks w w1 _ _ _ hb
    obtain ⟨z0, z1, z2⟩ := act_cells hB
    obtain ⟨y0, y1, y2, y3, yf⟩ := four hC
    clear hr hs hb hA hB hC hbw hap
    go_wp2_with fail
    clear z0 z1 z2 y0 y1 y2 y3 yf
    generalize hB8 : w1.heap.size = B8 at *
    generalize (w1.alloc (.cells #[.slice a1 row'.length c1, .bool is, .int .i64 nx, .int .i64 st] TR)) = W at *
    have hS := (D.out.cells (w' := W.drew) (grown_drew (World.grownBy.refl _ _))).1
    have hRd := Lib.hid (isr_drew D.out.ring)
    go_region_held3 (fun w' => w'.cell? ⟨B8, 0, none⟩ = some (.slice a1 row'.length c1) ∧ w'.cell? ⟨B8, 1, none⟩ = some (.bool is) ∧ w'.cell? ⟨B8, 2, none⟩ = some (.int .i64 nx) ∧ w'.cell? ⟨B8, 3, none⟩ = some (.int .i64 st) ∧ w'.cell? ⟨w.heap.size + 1, 1, none⟩ = some (.int .i64 g))
      (first | (with_reducible exact hT _ _ _ _) | (with_reducible exact hS))
      (first
        | (go_at_call 15; refine (ring_put hRd.out g).mono ?_; rintro e w2 ⟨a3, c3, rfl, hs2, hr2, hg2⟩; rw [HE.out.2.2.1] at hs2 ⊢; rw [HE.out.2.2.2] at hr2; have HD := Lib.hid (And.intro hs2 (And.intro hr2 (grown_pre hg2))); clear hS; have hS := (D.out.cells HD.out.2.2).1; clear hs2 hr2 hg2)
        | (go_at_call 14; refine (same_x HD.out.1 ((D.out.told.grown HD.out.2.2 hlb).sees)).mono ?_; rintro e w3 ⟨rfl, hd⟩; have HD3 := Lib.hid (And.intro hd (grown_drawn HD.out.2.2 hd)); clear hS; obtain ⟨hS, u0, u1, u2, u3, uf⟩ := D.out.cells HD3.out.2; have hT := D.out.cells4 HD3.out.2; clear hd))
    have FH := Lib.hid (D.out.fin HD.out.2.2 HD.out.2.1 HD3.out.1 (.slice a1 row'.length c1) (.bool is) (.int .i64 nx) (.int .i64 st))
    clear hS hT u0 u1 u2 u3 uf
    go_wp2_with fail
    refine bodyPost_ret (results_rv rfl _ _ (w.heap.size + 1 + 1) _ _ _ _ (.bool true) FH.out.1 rfl rfl) rfl ⟨row', nxt, st, a1, c1, ?_, FH.out.2.1, FH.out.2.2.1, FH.out.2.2.2⟩
    rw [HE.out.1, HE.out.2.1]; rfl
end Go.Proofs.Ytkcoidapnmoljaa.Rng
