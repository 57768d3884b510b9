/-
  hostlerlaw06.do: Get, and a copy that goes on.
-/
import Derived.Test.YtkcoidapnmoljaaRefDo2
namespace Go.Proofs.Ytkcoidapnmoljaa.Rng
open Go.RowKit
open Go.Proofs.Ytkcoidapnmoljaa.Ints
set_option linter.unusedVariables false

section
variable {w : World} {b lo : Nat} {row row' : List Int} {nxt nxt' : Option Int} {st st' x : Int} {is is' ok : Bool} {nx nx' : Int} {s : Value}
theorem doc_get' (hs : Ref w lo s row) (hlo : lo ≤ w.heap.size) (hn : row.length ≤ 256) (h0 : 0 ≤ st) (h4 : st ≤ 4) (hq : getL row nxt st = (x, ok, row', nxt', st')) (his : nxt.isSome = is) (hnx : nxt.getD 0 = nx) (his' : nxt'.isSome = is') (hnx' : nxt'.getD 0 = nx') :
    Calls Try.prog 33 #[RV s is nx st] w fun e w' => ∃ a c, e = .returned (.tuple #[.agg #[.slice a row'.length c, .bool is', .int .i64 nx', .int .i64 st'], .int .i64 x, .bool ok]) ∧ Ref w' lo (.slice a row'.length c) row' ∧ Below w.heap.size w w' ∧ ∀ j, (Value.slice a row'.length c).ownBlock = some j → s.ownBlock = some j ∨ w.heap.size ≤ j := by
  subst his hnx his' hnx'
  have := doc_get nxt st hs hlo hn h0 h4
  rw [hq] at this
  exact this
theorem ring_get' (r : IsR w b row nxt st) (hq : getL row nxt st = (x, ok, row', nxt', st')) : Calls Try.prog 13 #[.pointer (some ⟨b, 0, none⟩)] w fun e w' => e = .returned (.tuple #[.int .i64 x, .bool ok]) ∧ IsR w' b row' nxt' st' ∧ w.grownBy w' (some b) := by
  have := ring_get r
  rw [hq] at this
  exact this
theorem streak_in (r : IsR w b row nxt st) : 0 ≤ st ∧ st ≤ 4 := by obtain ⟨_, _, _, _, a, c, _⟩ := r; exact ⟨a, c⟩
end

set_option maxRecDepth 100000 in
set_option maxHeartbeats 2000000 in
theorem do_get {w : World} {s : Value} {b lo : Nat} {row : List Int} {nxt : Option Int} {st : Int} (k g n : Int) (r : IsR w b row nxt st) (hs : Ref w lo s row) (hlb : b < lo) (hlo : lo ≤ w.heap.size) (hk : 0 ≤ k) (h9 : k % 9 = 5 ∨ k % 9 = 6) :
    Calls Try.prog 21 #[.pointer (some ⟨b, 0, none⟩), RV s nxt.isSome (nxt.getD 0) st, .agg #[.int .u8 k, .int .i64 g, .int .u16 n]] w (DoEnd w b lo) := by
  have hl := row_le r
  have HR := Lib.hid r
  have HS := Lib.hid hs
  obtain ⟨a, cap, rfl, _⟩ := hs
  obtain ⟨is, his⟩ : ∃ is, nxt.isSome = is := ⟨_, rfl⟩
  obtain ⟨nx, hnx⟩ : ∃ nx, nxt.getD 0 = nx := ⟨_, rfl⟩
  obtain ⟨x, ok, row', nxt', st', hq⟩ : ∃ x ok row' nxt' st', getL row nxt st = (x, ok, row', nxt', st') := ⟨_, _, _, _, _, rfl⟩
  obtain ⟨is', his'⟩ : ∃ is', nxt'.isSome = is' := ⟨_, rfl⟩
  obtain ⟨nx', hnx'⟩ : ∃ nx', nxt'.getD 0 = nx' := ⟨_, rfl⟩
  have HE := Lib.hid (And.intro his (And.intro hnx (And.intro hq (And.intro his' hnx'))))
  rw [his, hnx]
  clear his hnx hq his' hnx' r
  unfold RV
  rcases h9 with h9 | h9
  all_goals
    have ek : k.tmod 9 = k % 9 := Int.tmod_eq_emod_of_nonneg hk
    rw [h9] at ek
    clear h9
    go_enter Try.func21, Try.ntmps21
    go_wp2_with fail
    refine (doc_get' (Ref.below HS.out (below_three w _ _ _)) (by simp; omega) hl (streak_in HR.out).1 (streak_in HR.out).2 HE.out.2.2.1 HE.out.1 HE.out.2.1 HE.out.2.2.2.1 HE.out.2.2.2.2).mono ?_
    rintro e w1 ⟨a1, c1, rfl, hr, hb, hap⟩
    have D := Lib.hid (dost_mk (is := is') (nx := nx') (st := st') (told := []) HR.out HS.out hlb hlo hb hr (ref_nil _ _) hap)
    obtain ⟨hA, hB, hC, hbw, hsz⟩ := three_blocks w w1 _ _ _ hb
    obtain ⟨z0, z1, z2⟩ := act_cells hB
    obtain ⟨y0, y1, y2, y3, yf⟩ := four hC
    clear hr hb hA hB hC hbw hap
    go_wp2_with fail
    clear z0 z1 z2 y0 y1 y2 y3 yf
    generalize hB8 : w1.heap.size = B8 at *
    generalize (w1.alloc (.cells #[.slice a1 row'.length c1, .bool is', .int .i64 nx', .int .i64 st'] TR)) = W at *
    refine (ring_get' D.out.ring HE.out.2.2.1).mono ?_
    rintro e w2 ⟨rfl, hr2, hg2⟩
    obtain ⟨⟨x0, x1, x2, x3, z1⟩, u0, u1, u2, u3, uf⟩ := D.out.cells hg2
    have FH := Lib.hid (D.out.fin hg2 hr2 (Drawn.refl w2) (.slice a1 row'.length c1) (.bool is') (.int .i64 nx') (.int .i64 st'))
    clear hr2 hg2
    go_wp2_with fail
    refine bodyPost_ret (results_rv rfl _ _ (w.heap.size + 1 + 1) _ _ _ _ (.bool true) FH.out.1 rfl rfl) rfl ⟨row', nxt', st', a1, c1, ?_, FH.out.2.1, FH.out.2.2.1, FH.out.2.2.2⟩
    rw [HE.out.2.2.2.1, HE.out.2.2.2.2]; rfl

theorem below_grown {w a b : World} {B c : Nat} (h : Below B w a) (k : a.grownBy b (some c)) (hc : B ≤ c) (hB : B ≤ a.heap.size) : Below B w b :=
  below_own h k (fun j e => by have := Option.some.inj e; omega) hB

set_option maxRecDepth 100000 in
set_option maxHeartbeats 2000000 in
theorem do_copy {w : World} {s : Value} {b lo : Nat} {row : List Int} {nxt : Option Int} {st : Int} (k g n : Int) (r : IsR w b row nxt st) (hs : Ref w lo s row) (hlb : b < lo) (hlo : lo ≤ w.heap.size) (hk : 0 ≤ k) (h9 : k % 9 = 8) :
    Calls Try.prog 21 #[.pointer (some ⟨b, 0, none⟩), RV s nxt.isSome (nxt.getD 0) st, .agg #[.int .u8 k, .int .i64 g, .int .u16 n]] w (DoEnd w b lo) := by
  have HR := Lib.hid r
  have HS := Lib.hid hs
  have HVB : Hid (∀ j, s.ownBlock = some j → j < w.heap.size) := Lib.hid fun j hj => ref_block hs hj
  obtain ⟨a, cap, rfl, _⟩ := hs
  obtain ⟨is, his⟩ : ∃ is, nxt.isSome = is := ⟨_, rfl⟩
  obtain ⟨nx, hnx⟩ : ∃ nx, nxt.getD 0 = nx := ⟨_, rfl⟩
  have HE := Lib.hid (And.intro his hnx)
  rw [his, hnx]
  clear his hnx r
  unfold RV
  have ek : k.tmod 9 = k % 9 := Int.tmod_eq_emod_of_nonneg hk
  rw [h9] at ek
  clear h9
  go_enter Try.func21, Try.ntmps21
  go_wp2_with fail
  refine (copy_is (HR.out.below (below_three w _ _ _))).mono ?_
  rintro e w1 ⟨rfl, hr1, hg1⟩
  have hb1 := below_none (Below.refl _ _) hg1 (Nat.le_refl _)
  have hs3 : ((((w.alloc (.cells #[.slice a row.length cap, .bool is, .int .i64 nx, .int .i64 st] TR)).alloc (.cells #[.int .u8 k, .int .i64 g, .int .u16 n] TA)).alloc (.cells #[.slice none 0 0, .bool false, .int .i64 0, .int .i64 0] TR))).heap.size = w.heap.size + 3 := by simp
  rw [hs3] at hr1
  obtain ⟨hA, hB, hC, hbw, hsz⟩ := three_blocks w w1 _ _ _ hb1
  have H1 := Lib.hid (And.intro hr1 (And.intro hb1 (And.intro hA hC)))
  obtain ⟨z0, z1, z2⟩ := act_cells hB
  clear hr1 hg1 hb1 hA hB hC hbw
  go_wp2_with fail
  refine (ring_put H1.out.1 g).mono ?_
  rintro e w2 ⟨a2, c2, rfl, hs2, hr2, hg2⟩
  have H2 := Lib.hid (And.intro hr2 (below_grown H1.out.2.1 hg2 (by simp) H1.out.2.1.size))
  clear hs2 hr2 hg2
  go_wp2_with fail
  refine (ring_get H2.out.1).mono ?_
  rintro e w3 ⟨rfl, hr3, hg3⟩
  have H3 := Lib.hid (And.intro hr3 (below_grown H2.out.2 hg3 (by simp) H2.out.2.size))
  clear hr3 hg3
  go_wp2_with fail
  refine (ring_steal H3.out.1).mono ?_
  rintro e w4 ⟨a4, c4, rfl, hs4, hr4, hg4⟩
  have hb4 := below_grown H3.out.2 hg4 (by simp) H3.out.2.size
  obtain ⟨hA, hB, hC, hbw, hsz4⟩ := three_blocks w w4 _ _ _ hb4
  obtain ⟨x0, x1, x2, x3, xf⟩ := four hA
  obtain ⟨u0, u1, u2, u3, uf⟩ := four hC
  have H4 := Lib.hid (And.intro hC hbw)
  have hbl := HR.out.lt
  clear hs4 hr4 hg4 hb4 hA hB hC hbw H1 H2 H3 z0 z1 z2
  go_wp2_with fail
  refine bodyPost_ret (results_rv rfl _ _ (w.heap.size + 1 + 1) _ _ _ _ (.bool true) (four_set H4.out.1) rfl rfl) rfl ⟨row, nxt, st, a, cap, ?_, ?_, ?_, ?_⟩
  · rw [HE.out.1, HE.out.2]; rfl
  · exact (HR.out.below H4.out.2).heap (four_other (by omega))
  · refine ref_four_at (Ref.below HS.out H4.out.2) ?_
    intro j hj; have := HVB.out j hj; omega
  · have := below_four (B := w.heap.size + 1 + 1) (i := 0) (j := 1) (l := 2) (m := 3) (a := .slice a row.length cap) (b := .bool is) (c := .int .i64 nx) (d := .int .i64 st) H4.out.2 (by omega)
    exact ⟨this.os, this.tape, this.output, this.size, fun j hj _ => this.block j hj⟩
end Go.Proofs.Ytkcoidapnmoljaa.Rng
