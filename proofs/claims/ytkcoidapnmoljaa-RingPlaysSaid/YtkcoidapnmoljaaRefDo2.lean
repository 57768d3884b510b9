/-
  hostlerlaw06.do: Ready, Steal, Get, a copy.
-/
import Derived.Test.YtkcoidapnmoljaaRefDo
namespace Go.Proofs.Ytkcoidapnmoljaa.Rng
open Go.RowKit
open Go.Proofs.Ytkcoidapnmoljaa.Ints
set_option linter.unusedVariables false

section
variable {w : World} {b lo : Nat} {row told row' : List Int} {nxt nxt' : Option Int} {st st' : Int} {is is' : Bool} {nx nx' : Int} {s : Value}
theorem doc_ready' (hs : Ref w lo s row) (hlo : lo ≤ w.heap.size) (hn : row.length ≤ 256) (g : Int) (hq : readyL row nxt g = (told, row')) (his : nxt.isSome = is) (hnx : nxt.getD 0 = nx) :
    Calls Try.prog 30 #[RV s is nx st, .int .i64 g] w (DocEnd w s lo told row' true g st) := by
  subst his hnx
  have := doc_ready nxt st hs hlo hn g
  rwa [hq] at this
theorem ring_ready' (r : IsR w b row nxt st) (g : Int) (hq : readyL row nxt g = (told, row')) : Calls Try.prog 12 #[.pointer (some ⟨b, 0, none⟩), .int .i64 g] w (RingEnd w b told row' (some g) st) := by
  have := ring_ready r g
  rwa [hq] at this
theorem doc_steal' (hs : Ref w lo s row) (hlo : lo ≤ w.heap.size) (hn : row.length ≤ 256) (hq : stealL row nxt st = (told, row', nxt', st')) (his : nxt.isSome = is) (hnx : nxt.getD 0 = nx) (his' : nxt'.isSome = is') (hnx' : nxt'.getD 0 = nx') :
    Calls Try.prog 32 #[RV s is nx st] w (DocEnd w s lo told row' is' nx' st') := by
  subst his hnx his' hnx'
  have := doc_steal nxt st hs hlo hn
  rwa [hq] at this
theorem ring_steal' (r : IsR w b row nxt st) (hq : stealL row nxt st = (told, row', nxt', st')) : Calls Try.prog 19 #[.pointer (some ⟨b, 0, none⟩)] w (RingEnd w b told row' nxt' st') := by
  have := ring_steal r
  rwa [hq] at this
end

set_option maxRecDepth 100000 in
set_option maxHeartbeats 2000000 in
theorem do_ready {w : World} {s : Value} {b lo : Nat} {row : List Int} {nxt : Option Int} {st : Int} (k g n : Int) (r : IsR w b row nxt st) (hs : Ref w lo s row) (hlb : b < lo) (hlo : lo ≤ w.heap.size) (hk : 0 ≤ k) (h9 : k % 9 = 2 ∨ k % 9 = 3) :
    Calls Try.prog 21 #[.pointer (some ⟨b, 0, none⟩), RV s nxt.isSome (nxt.getD 0) st, .agg #[.int .u8 k, .int .i64 g, .int .u16 n]] w (DoEnd w b lo) := by
  have hl := row_le r
  have HR := Lib.hid r
  have HS := Lib.hid hs
  obtain ⟨a, cap, rfl, _⟩ := hs
  obtain ⟨is, his⟩ : ∃ is, nxt.isSome = is := ⟨_, rfl⟩
  obtain ⟨nx, hnx⟩ : ∃ nx, nxt.getD 0 = nx := ⟨_, rfl⟩
  obtain ⟨told, row', hq⟩ : ∃ told row', readyL row nxt g = (told, row') := ⟨_, _, rfl⟩
  have HE := Lib.hid (And.intro his (And.intro hnx hq))
  rw [his, hnx]
  clear his hnx hq r
  unfold RV
  rcases h9 with h9 | h9
  all_goals
    have ek : k.tmod 9 = k % 9 := Int.tmod_eq_emod_of_nonneg hk
    rw [h9] at ek
    clear h9
    go_enter Try.func21, Try.ntmps21
    go_wp2_with fail
    refine (doc_ready' (Ref.below HS.out (below_three w _ _ _)) (by simp; omega) hl g HE.out.2.2 HE.out.1 HE.out.2.1).mono ?_
    rintro e w1 ⟨a1, c1, a2, c2, rfl, hr, hs, hb, hap⟩
    have D := Lib.hid (dost_mk (is := true) (nx := g) (st := st) HR.out HS.out hlb hlo hb hr hs hap)
    obtain ⟨hA, hB, hC, hbw, hsz⟩ := three_blocks w w1 _ _ _ hb
    obtain ⟨z0, z1, z2⟩ := act_cells hB
    obtain ⟨y0, y1, y2, y3, yf⟩ := four hC
    clear hr hs hb hA hB hC hbw hap
    go_wp2_with fail
    clear z0 z1 z2 y0 y1 y2 y3 yf
    generalize hB8 : w1.heap.size = B8 at *
    generalize (w1.alloc (.cells #[.slice a1 row'.length c1, .bool true, .int .i64 g, .int .i64 st] TR)) = W at *
    have hS := (D.out.cells (w' := W.drew) (grown_drew (World.grownBy.refl _ _))).1
    have hRd := Lib.hid (isr_drew D.out.ring)
    go_region_held3 (fun w' => w'.cell? ⟨B8, 0, none⟩ = some (.slice a1 row'.length c1) ∧ w'.cell? ⟨B8, 1, none⟩ = some (.bool true) ∧ w'.cell? ⟨B8, 2, none⟩ = some (.int .i64 g) ∧ w'.cell? ⟨B8, 3, none⟩ = some (.int .i64 st) ∧ w'.cell? ⟨w.heap.size + 1, 1, none⟩ = some (.int .i64 g))
      (first | (with_reducible exact hT _ _ _ _) | (with_reducible exact hS))
      (first
        | (go_at_call 12; refine (ring_ready' hRd.out g HE.out.2.2).mono ?_; rintro e w2 ⟨a3, c3, rfl, hs2, hr2, hg2⟩; have HD := Lib.hid (And.intro hs2 (And.intro hr2 (grown_pre hg2))); clear hS; have hS := (D.out.cells HD.out.2.2).1; clear hs2 hr2 hg2)
        | (go_at_call 14; refine (same_x HD.out.1 ((D.out.told.grown HD.out.2.2 hlb).sees)).mono ?_; rintro e w3 ⟨rfl, hd⟩; have HD3 := Lib.hid (And.intro hd (grown_drawn HD.out.2.2 hd)); clear hS; obtain ⟨hS, u0, u1, u2, u3, uf⟩ := D.out.cells HD3.out.2; have hT := D.out.cells4 HD3.out.2; clear hd))
    have FH := Lib.hid (D.out.fin HD.out.2.2 HD.out.2.1 HD3.out.1 (.slice a1 row'.length c1) (.bool true) (.int .i64 g) (.int .i64 st))
    clear hS hT u0 u1 u2 u3 uf
    go_wp2_with fail
    refine bodyPost_ret (results_rv rfl _ _ (w.heap.size + 1 + 1) _ _ _ _ (.bool true) FH.out.1 rfl rfl) rfl ⟨row', some g, st, a1, c1, rfl, FH.out.2.1, FH.out.2.2.1, FH.out.2.2.2⟩

set_option maxRecDepth 100000 in
set_option maxHeartbeats 2000000 in
theorem do_steal {w : World} {s : Value} {b lo : Nat} {row : List Int} {nxt : Option Int} {st : Int} (k g n : Int) (r : IsR w b row nxt st) (hs : Ref w lo s row) (hlb : b < lo) (hlo : lo ≤ w.heap.size) (hk : 0 ≤ k) (h9 : k % 9 = 7) :
    Calls Try.prog 21 #[.pointer (some ⟨b, 0, none⟩), RV s nxt.isSome (nxt.getD 0) st, .agg #[.int .u8 k, .int .i64 g, .int .u16 n]] w (DoEnd w b lo) := by
  have hl := row_le r
  have HR := Lib.hid r
  have HS := Lib.hid hs
  obtain ⟨a, cap, rfl, _⟩ := hs
  obtain ⟨is, his⟩ : ∃ is, nxt.isSome = is := ⟨_, rfl⟩
  obtain ⟨nx, hnx⟩ : ∃ nx, nxt.getD 0 = nx := ⟨_, rfl⟩
  obtain ⟨told, row', nxt', st', hq⟩ : ∃ told row' nxt' st', stealL row nxt st = (told, row', nxt', st') := ⟨_, _, _, _, rfl⟩
  obtain ⟨is', his'⟩ : ∃ is', nxt'.isSome = is' := ⟨_, rfl⟩
  obtain ⟨nx', hnx'⟩ : ∃ nx', nxt'.getD 0 = nx' := ⟨_, rfl⟩
  have HE := Lib.hid (And.intro his (And.intro hnx (And.intro hq (And.intro his' hnx'))))
  rw [his, hnx]
  clear his hnx hq his' hnx' r
  unfold RV
  all_goals
    have ek : k.tmod 9 = k % 9 := Int.tmod_eq_emod_of_nonneg hk
    rw [h9] at ek
    clear h9
    go_enter Try.func21, Try.ntmps21
    go_wp2_with fail
    refine (doc_steal' (Ref.below HS.out (below_three w _ _ _)) (by simp; omega) hl HE.out.2.2.1 HE.out.1 HE.out.2.1 HE.out.2.2.2.1 HE.out.2.2.2.2).mono ?_
    rintro e w1 ⟨a1, c1, a2, c2, rfl, hr, hs, hb, hap⟩
    have D := Lib.hid (dost_mk (is := is') (nx := nx') (st := st') HR.out HS.out hlb hlo hb hr hs hap)
    obtain ⟨hA, hB, hC, hbw, hsz⟩ := three_blocks w w1 _ _ _ hb
    obtain ⟨z0, z1, z2⟩ := act_cells hB
    obtain ⟨y0, y1, y2, y3, yf⟩ := four hC
    clear hr hs hb hA hB hC hbw hap
    go_wp2_with fail
    clear z0 z1 z2 y0 y1 y2 y3 yf
    generalize hB8 : w1.heap.size = B8 at *
    generalize (w1.alloc (.cells #[.slice a1 row'.length c1, .bool is', .int .i64 nx', .int .i64 st'] TR)) = W at *
    have hS := (D.out.cells (w' := W.drew) (grown_drew (World.grownBy.refl _ _))).1
    have hRd := Lib.hid (isr_drew D.out.ring)
    go_region_held3 (fun w' => w'.cell? ⟨B8, 0, none⟩ = some (.slice a1 row'.length c1) ∧ w'.cell? ⟨B8, 1, none⟩ = some (.bool is') ∧ w'.cell? ⟨B8, 2, none⟩ = some (.int .i64 nx') ∧ w'.cell? ⟨B8, 3, none⟩ = some (.int .i64 st') ∧ w'.cell? ⟨w.heap.size + 1, 1, none⟩ = some (.int .i64 g))
      (first | (with_reducible exact hT _ _ _ _) | (with_reducible exact hS))
      (first
        | (go_at_call 19; refine (ring_steal' hRd.out HE.out.2.2.1).mono ?_; rintro e w2 ⟨a3, c3, rfl, hs2, hr2, hg2⟩; have HD := Lib.hid (And.intro hs2 (And.intro hr2 (grown_pre hg2))); clear hS; have hS := (D.out.cells HD.out.2.2).1; clear hs2 hr2 hg2)
        | (go_at_call 14; refine (same_x HD.out.1 ((D.out.told.grown HD.out.2.2 hlb).sees)).mono ?_; rintro e w3 ⟨rfl, hd⟩; have HD3 := Lib.hid (And.intro hd (grown_drawn HD.out.2.2 hd)); clear hS; obtain ⟨hS, u0, u1, u2, u3, uf⟩ := D.out.cells HD3.out.2; have hT := D.out.cells4 HD3.out.2; clear hd))
    have FH := Lib.hid (D.out.fin HD.out.2.2 HD.out.2.1 HD3.out.1 (.slice a1 row'.length c1) (.bool is') (.int .i64 nx') (.int .i64 st'))
    clear hS hT u0 u1 u2 u3 uf
    go_wp2_with fail
    refine bodyPost_ret (results_rv rfl _ _ (w.heap.size + 1 + 1) _ _ _ _ (.bool true) FH.out.1 rfl rfl) rfl ⟨row', nxt', st', a1, c1, ?_, FH.out.2.1, FH.out.2.2.1, FH.out.2.2.2⟩
    rw [HE.out.2.2.2.1, HE.out.2.2.2.2]; rfl
end Go.Proofs.Ytkcoidapnmoljaa.Rng
