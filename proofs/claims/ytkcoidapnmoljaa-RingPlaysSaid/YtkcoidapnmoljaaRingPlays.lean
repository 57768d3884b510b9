/-
  The law RingPlays.
-/
import Derived.Test.YtkcoidapnmoljaaRefDo4
import Derived.Test.YtkcoidapnmoljaaArgs
import Derived.Test.YtkcoidapnmoljaaRegionOwn
namespace Go.Proofs.Ytkcoidapnmoljaa.Rng
open Go.RowKit
open Go.Proofs.Ytkcoidapnmoljaa.Ints
set_option linter.unusedVariables false
set_option linter.unusedSimpArgs false

theorem add_next (c : Addr) (n j : Nat) (hj : j ≠ 0) : c.add (n + j) = ⟨(c.add n).block, (c.add n).off + j, none⟩ := by
  unfold Addr.add
  by_cases hn : n = 0
  · subst hn; simp [hj]
  · simp [hn, Nat.add_assoc]

theorem do_is {w : World} {s : Value} {b lo : Nat} {row : List Int} {nxt : Option Int} {st : Int} (k g n : Int) (r : IsR w b row nxt st) (hs : Ref w lo s row) (hlb : b < lo) (hlo : lo ≤ w.heap.size) (hk : 0 ≤ k) (hn : 0 ≤ n) {is : Bool} {nx : Int} (his : nxt.isSome = is) (hnx : nxt.getD 0 = nx) :
    Calls Try.prog 21 #[.pointer (some ⟨b, 0, none⟩), .agg #[s, .bool is, .int .i64 nx, .int .i64 st], .agg #[.int .u8 k, .int .i64 g, .int .u16 n]] w (DoEnd w b lo) := by
  subst his hnx
  rcases (show (k % 9 = 0 ∨ k % 9 = 1) ∨ (k % 9 = 2 ∨ k % 9 = 3) ∨ k % 9 = 4 ∨ (k % 9 = 5 ∨ k % 9 = 6) ∨ k % 9 = 7 ∨ k % 9 = 8 by omega) with h | h | h | h | h | h
  · exact do_put k g n r hs hlb hlo hk h
  · exact do_ready k g n r hs hlb hlo hk h
  · exact do_all k g n r hs hlb hlo hk hn h
  · exact do_get k g n r hs hlb hlo hk h
  · exact do_steal k g n r hs hlb hlo hk h
  · exact do_copy k g n r hs hlb hlo hk h

theorem list_x {w : World} {b : Nat} {row J : List Int} {nxt : Option Int} {st : Int} (r : IsR w b row nxt st) (hJ : row ++ nxt.toList = J) :
    Calls Try.prog 17 #[.pointer (some ⟨b, 0, none⟩)] w fun e w' => ∃ a c, e = .returned (.slice a J.length c) ∧ Sees w' (.slice a J.length c) J ∧ w.grownBy w' none := by
  subst hJ
  refine (list_is r).mono ?_
  rintro e w' ⟨v, rfl, ho, hg⟩
  obtain ⟨a, c, rfl, _⟩ := Owns.parts ho
  exact ⟨a, c, rfl, ho.sees, hg⟩
theorem len_j {w : World} {b : Nat} {row J : List Int} {nxt : Option Int} {st : Int} (r : IsR w b row nxt st) (hJ : row ++ nxt.toList = J) :
    Calls Try.prog 16 #[.pointer (some ⟨b, 0, none⟩)] w fun e w' => e = .returned (.int .i64 J.length) ∧ w = w' :=
  len_is r _ (by subst hJ; cases nxt <;> simp)

theorem next_is {w : World} {b : Nat} {row : List Int} {nxt : Option Int} {st : Int} {is : Bool} {nx : Int} (r : IsR w b row nxt st) (his : nxt.isSome = is) (hnx : nxt.getD 0 = nx) :
    Calls Try.prog 20 #[.pointer (some ⟨b, 0, none⟩)] w fun e w' => e = .returned (.tuple #[.int .i64 nx, .bool is]) ∧ w = w' := by
  subst his hnx
  cases nxt with
  | none => exact next_none r
  | some g => exact next_some r

/-- The law's state: both rings hold the same; the document's lies in block B. -/
def Plays (w wr : World) (b B : Nat) : Prop :=
  ∃ row nxt st a c, IsR wr b row nxt st ∧ wr.heap[B]? = some (.cells #[.slice a row.length c, .bool nxt.isSome, .int .i64 (nxt.getD 0), .int .i64 st] TR (0, 0)) ∧ Ref wr (B + 1) (.slice a row.length c) row ∧ Below w.heap.size w wr

theorem doc_list' {w : World} {s : Value} {lo : Nat} {row J : List Int} {nxt : Option Int} {st : Int} {is : Bool} {nx : Int} (hs : Ref w lo s row) (hn : row.length ≤ 256) (hJ : row ++ nxt.toList = J) (his : nxt.isSome = is) (hnx : nxt.getD 0 = nx) :
    Calls Try.prog 22 #[.agg #[s, .bool is, .int .i64 nx, .int .i64 st]] w fun e w' => ∃ a c, e = .returned (.slice a J.length c) ∧ Sees w' (.slice a J.length c) J ∧ Below w.heap.size w w' := by
  subst his hnx; exact doc_list nxt st hs hn hJ

theorem do_fin3 {W : World} {b lo B : Nat} {row : List Int} {nxt : Option Int} {st : Int} {v : Value} {z0 z1 z2 z3 : Value} (e6 : W.heap[B]? = some (.cells #[z0, z1, z2, z3] TR (0, 0))) (hr : IsR W b row nxt st) (hf : Ref W lo v row) (hv : ∀ j, v.ownBlock = some j → j ≠ B) (hb : b ≠ B) (v1 v2 v3 v4 : Value) :
    ((((W.setCell ⟨B, 0, none⟩ v1).setCell ⟨B, 1, none⟩ v2).setCell ⟨B, 2, none⟩ v3).setCell ⟨B, 3, none⟩ v4).heap[B]? = some (.cells #[v1, v2, v3, v4] TR (0, 0)) ∧
    IsR ((((W.setCell ⟨B, 0, none⟩ v1).setCell ⟨B, 1, none⟩ v2).setCell ⟨B, 2, none⟩ v3).setCell ⟨B, 3, none⟩ v4) b row nxt st ∧
    Ref ((((W.setCell ⟨B, 0, none⟩ v1).setCell ⟨B, 1, none⟩ v2).setCell ⟨B, 2, none⟩ v3).setCell ⟨B, 3, none⟩ v4) lo v row :=
  ⟨four_set e6, hr.heap (four_other hb), ref_four_at hf hv⟩

theorem grown_pre0 {w w' : World} {r : Option Nat} (h : w.drew.grownBy w' r) : w.grownBy w' r := ⟨h.os, h.tape, h.output, h.size, h.block⟩

set_option maxRecDepth 100000 in
set_option maxHeartbeats 4000000 in
theorem plays_short (a : Option Addr) (len cap : Nat) (z : Nat → Int × Int × Int) (w : World) (hl : len ≤ 60) (hnil : a = none → len = 0)
    (hc : ∀ b, a = some b → ∀ i, i < len → w.cell? (b.add (i * 3)) = some (.int .u8 (z i).1) ∧ w.cell? (b.add (i * 3 + 1)) = some (.int .i64 (z i).2.1) ∧ w.cell? (b.add (i * 3 + 2)) = some (.int .u16 (z i).2.2))
    (hz : ∀ i, i < len → 0 ≤ (z i).1 ∧ 0 ≤ (z i).2.2) :
    Calls Try.prog 7 #[.slice a len cap] w fun e w' => e = .returned (.bool true) ∧ Below w.heap.size w w' := by
  have hlt : ¬ (60 < len) := by omega
  have HC := Lib.hid hc
  have HN := Lib.hid hnil
  have HZ := Lib.hid hz
  clear hc hnil hz
  go_enter Try.func7, Try.ntmps7
  go_wp2_with fail
  refine (lives_is w).mono ?_
  rintro e w0 ⟨rfl, hb⟩
  have HB := Lib.hid hb
  clear hb
  go_wp2_with fail
  refine (new_is w0).mono ?_
  rintro e w1 ⟨rfl, hr, hg⟩
  have hb1 := below_none HB.out hg HB.out.size
  have hw0 : w.heap.size ≤ w0.heap.size := HB.out.size
  have hbB := hr.lt
  have P0 : Plays w (w1.alloc (.cells #[.slice none 0 0, .bool false, .int .i64 0, .int .i64 0] TR)) w0.heap.size w1.heap.size :=
    ⟨[], none, 0, none, 0, hr.below ((Below.refl _ _).alloc (Nat.le_refl _) _), heap_alloc_new _ _, ref_nil _ _, hb1.alloc hb1.size _⟩
  have P := Lib.hid P0
  clear P0 hr hg hb1 HB
  go_wp2_with fail
  generalize (w1.alloc (.cells #[.slice none 0 0, .bool false, .int .i64 0, .int .i64 0] TR)) = W at *
  generalize w0.heap.size = b at *
  generalize w1.heap.size = B at *
  go_loopw [22] (fun q wr => ∃ k : Nat, k ≤ len ∧ q = .int .i64 k ∧ Plays w wr b B) (fun q _ => len - (intOf q).toNat)
  case atStart => exact ⟨0, Nat.zero_le _, rfl, P.out⟩
  case round =>
    clear P
    obtain ⟨k, hk, rfl, hP⟩ := hrel
    have HP := Lib.hid hP
    clear hP
    by_cases hlen : k < len
    · obtain ⟨c, rfl⟩ : ∃ c, a = some c := by
        cases a with
        | none => exact absurd (HN.out rfl) (by omega)
        | some c => exact ⟨c, rfl⟩
      obtain ⟨row, nxt, st, a0, c0, hr, hB, hf, hbl⟩ := HP.out
      obtain ⟨h0, h1, h2⟩ := HC.out c rfl k hlen
      have HZk := Lib.hid (HZ.out k hlen)
      have x0 := cell_later hbl h0
      have x1 := cell_later hbl h1
      have x2 := cell_later hbl h2
      generalize z k = x at x0 x1 x2 HZk
      obtain ⟨p, g, n⟩ := x
      dsimp only at x0 x1 x2 HZk
      rw [add_next c _ 1 (by decide)] at x1
      rw [add_next c _ 2 (by decide)] at x2
      obtain ⟨is, his⟩ : ∃ is, nxt.isSome = is := ⟨_, rfl⟩
      obtain ⟨nx, hnx⟩ : ∃ nx, nxt.getD 0 = nx := ⟨_, rfl⟩
      rw [his, hnx] at hB
      obtain ⟨y0, y1, y2, y3, yf⟩ := four hB
      have hBlt := (Array.getElem?_eq_some_iff.1 hB).1
      have HE := Lib.hid (And.intro his hnx)
      have hal : Below wr.heap.size wr (wr.alloc (.cells #[.int .u8 p, .int .i64 g, .int .u16 n] TA)) := (Below.refl _ _).alloc (Nat.le_refl _) _
      have H0 := Lib.hid (And.intro (hr.below hal) (And.intro (hf.below hal) (And.intro ((hal.block B hBlt).trans hB) (hbl.trans (hal.mono hbl.size)))))
      clear h0 h1 h2 hr hB hf hbl his hnx HP hal
      go_wp2_with fail
      clear x0 x1 x2 y0 y1 y2 y3 yf
      generalize (wr.alloc (.cells #[.int .u8 p, .int .i64 g, .int .u16 n] TA)) = W1 at *
      have hsW1 : B < W1.heap.size := (Array.getElem?_eq_some_iff.1 H0.out.2.2.1).1
      refine (do_is p g n H0.out.1 H0.out.2.1 (by omega) hsW1 HZk.out.1 HZk.out.2 HE.out.1 HE.out.2).mono ?_
      rintro e w2 ⟨row2, nxt2, st2, a2, c2, rfl, hr2, hf2, hg2⟩
      unfold RV
      obtain ⟨is2, his2⟩ : ∃ is2, nxt2.isSome = is2 := ⟨_, rfl⟩
      obtain ⟨nx2, hnx2⟩ : ∃ nx2, nxt2.getD 0 = nx2 := ⟨_, rfl⟩
      obtain ⟨J, hJ⟩ : ∃ J, row2 ++ nxt2.toList = J := ⟨_, rfl⟩
      have hl2 := row_le hr2
      rw [his2, hnx2]
      have hB2 : w2.heap[B]? = _ := (hg2.block B hsW1 (fun e => by have := Option.some.inj e; omega)).trans H0.out.2.2.1
      obtain ⟨y0, y1, y2, y3, yf⟩ := four hB2
      have hb2 : Below w.heap.size w w2 := below_grown H0.out.2.2.2 hg2 (by omega) H0.out.2.2.2.size
      have F := Lib.hid (do_fin3 (b := b) hB2 hr2 hf2 (fun j hj => by have := own_low hf2 hj; omega) (by omega) (.slice a2 row2.length c2) (.bool is2) (.int .i64 nx2) (.int .i64 st2))
      have hd : (is2 = false ∧ nx2 = 0) ∨ is2 = true := by cases nxt2 with
        | none => left; exact ⟨his2.symm, hnx2.symm⟩
        | some q => right; exact his2.symm
      have hb3 := below_four (B := B) (i := 0) (j := 1) (l := 2) (m := 3) (a := .slice a2 row2.length c2) (b := .bool is2) (c := .int .i64 nx2) (d := .int .i64 st2) hb2 (by omega)
      have HQ := Lib.hid (And.intro his2 (And.intro hnx2 (And.intro hJ (And.intro hl2 hb3))))
      clear hr2 hf2 hg2 his2 hnx2 hJ hl2 hB2 hb2 hb3 H0 HE HZk
      go_wp2_with fail
      clear y0 y1 y2 y3 yf
      generalize ((((w2.setCell ⟨B, 0, none⟩ (.slice a2 row2.length c2)).setCell ⟨B, 1, none⟩ (.bool is2)).setCell ⟨B, 2, none⟩ (.int .i64 nx2)).setCell ⟨B, 3, none⟩ (.int .i64 st2)) = w3 at *
      refine (next_is F.out.2.1 HQ.out.1 HQ.out.2.1).mono ?_
      rintro e w4 ⟨rfl, rfl⟩
      obtain ⟨y0, y1, y2, y3, _⟩ := four F.out.1
      go_wp2_with fail
      refine (doc_list' F.out.2.2 HQ.out.2.2.2.1 HQ.out.2.2.1 HQ.out.1 HQ.out.2.1).mono ?_
      rintro e w4 ⟨aJ, cJ, rfl, hsJ, hb4⟩
      have hB3lt := (Array.getElem?_eq_some_iff.1 F.out.1).1
      have hB4 := (hb4.block B hB3lt).trans F.out.1
      have G := Lib.hid (And.intro (F.out.2.1.below hb4) (And.intro hB4 (And.intro (F.out.2.2.below hb4) (And.intro (HQ.out.2.2.2.2.trans (hb4.mono HQ.out.2.2.2.2.size)) (And.intro hsJ (isr_drew (F.out.2.1.below hb4)))))))
      clear y0 y1 y2 y3 hsJ hb4 hB4 hB3lt F
      go_wp2_with fail
      rcases hd with ⟨rfl, rfl⟩ | rfl
      · obtain ⟨_, z1, z2, z3, _⟩ := four (w := w4.drew) (B := B) G.out.2.1
        have hS := And.intro z1 (And.intro z2 z3)
        clear z1 z2 z3
        refine wp_region_held_drew (S := fun w' => w'.cell? ⟨B, 1, none⟩ = some (.bool false) ∧ w'.cell? ⟨B, 2, none⟩ = some (.int .i64 0) ∧ w'.cell? ⟨B, 3, none⟩ = some (.int .i64 st2)) (by kernel_rfl) hS (fun hHeld => ?_)
        refine Own.yes (i := 0) (d := (some 40)) (v := ?_) rfl rfl (by kernel_rfl) (by kernel_rfl) (by kernel_rfl) (fun _ _ _ h => h) rfl ?_ hHeld ?_
        rotate_left
        · (intro w hSw; (try dsimp only at hSw); go_simp; try with_reducible rfl)
        simp only [Act.put, List.setIfInBounds_toArray, List.set_cons_zero, List.set_cons_succ]
        refine Own.yes (i := 1) (d := (some 41)) (v := ?_) rfl rfl (by kernel_rfl) (by kernel_rfl) (by kernel_rfl) (fun _ _ _ h => h) rfl ?_ hHeld ?_
        rotate_left
        · (intro w hSw; (try dsimp only at hSw); go_simp; try with_reducible rfl)
        simp only [Act.put, List.setIfInBounds_toArray, List.set_cons_zero, List.set_cons_succ]
        refine Own.yes (i := 2) (d := (some 42)) (v := ?_) rfl rfl (by kernel_rfl) (by kernel_rfl) (by kernel_rfl) (fun _ _ _ h => h) rfl ?_ hHeld ?_
        rotate_left
        · (intro w hSw; (try dsimp only at hSw); go_simp; try with_reducible rfl)
        simp only [Act.put, List.setIfInBounds_toArray, List.set_cons_zero, List.set_cons_succ]
        refine Own.yes (i := 3) (d := (some 43)) (v := ?_) rfl rfl (by kernel_rfl) (by kernel_rfl) (by kernel_rfl) (fun _ _ _ h => h) rfl ?_ hHeld ?_
        rotate_left
        · (intro w hSw; (try dsimp only at hSw); go_simp; try with_reducible rfl)
        simp only [Act.put, List.setIfInBounds_toArray, List.set_cons_zero, List.set_cons_succ]
        refine Own.yes (i := 5) (d := (some 45)) (v := ?_) rfl rfl (by kernel_rfl) (by kernel_rfl) (by kernel_rfl) (fun _ _ _ h => h) rfl ?_ hHeld ?_
        rotate_left
        · (intro w hSw; (try dsimp only at hSw); go_simp; try with_reducible rfl)
        simp only [Act.put, List.setIfInBounds_toArray, List.set_cons_zero, List.set_cons_succ]
        refine Own.yes (i := 6) (d := (some 46)) (v := ?_) rfl rfl (by kernel_rfl) (by kernel_rfl) (by kernel_rfl) (fun _ _ _ h => h) rfl ?_ hHeld ?_
        rotate_left
        · (intro w hSw; (try dsimp only at hSw); go_simp; try with_reducible rfl)
        simp only [Act.put, List.setIfInBounds_toArray, List.set_cons_zero, List.set_cons_succ]
        refine Own.call (i := 4) (d := (some 44)) rfl rfl (by kernel_rfl) rfl ?_ (len_j G.out.2.2.2.2.2 HQ.out.2.2.1) ?_
        · go_simp
        rintro e w5 ⟨rfl, rfl⟩
        refine ⟨_, rfl, hS, fun hHeld => ?_⟩
        simp only [Act.put, List.setIfInBounds_toArray, List.set_cons_zero, List.set_cons_succ]
        refine Own.yes (i := 7) (d := (some 47)) (v := ?_) rfl rfl (by kernel_rfl) (by kernel_rfl) (by kernel_rfl) (fun _ _ _ h => h) rfl ?_ hHeld ?_
        rotate_left
        · (intro w hSw; (try dsimp only at hSw); go_simp; try with_reducible rfl)
        simp only [Act.put, List.setIfInBounds_toArray, List.set_cons_zero, List.set_cons_succ]
        refine Own.yes (i := 8) (d := (some 48)) (v := ?_) rfl rfl (by kernel_rfl) (by kernel_rfl) (by kernel_rfl) (fun _ _ _ h => h) rfl ?_ hHeld ?_
        rotate_left
        · (intro w hSw; (try dsimp only at hSw); go_simp; try with_reducible rfl)
        simp only [Act.put, List.setIfInBounds_toArray, List.set_cons_zero, List.set_cons_succ]
        refine Own.yes (i := 9) (d := (some 49)) (v := ?_) rfl rfl (by kernel_rfl) (by kernel_rfl) (by kernel_rfl) (fun _ _ _ h => h) rfl ?_ hHeld ?_
        rotate_left
        · (intro w hSw; (try dsimp only at hSw); go_simp; try with_reducible rfl)
        simp only [Act.put, List.setIfInBounds_toArray, List.set_cons_zero, List.set_cons_succ]
        refine Own.yes (i := 10) (d := (some 50)) (v := ?_) rfl rfl (by kernel_rfl) (by kernel_rfl) (by kernel_rfl) (fun _ _ _ h => h) rfl ?_ hHeld ?_
        rotate_left
        · (intro w hSw; (try dsimp only at hSw); go_simp; try with_reducible rfl)
        simp only [Act.put, List.setIfInBounds_toArray, List.set_cons_zero, List.set_cons_succ]
        refine Own.yes (i := 12) (d := (some 52)) (v := ?_) rfl rfl (by kernel_rfl) (by kernel_rfl) (by kernel_rfl) (fun _ _ _ h => h) rfl ?_ hHeld ?_
        rotate_left
        · (intro w hSw; (try dsimp only at hSw); go_simp; try with_reducible rfl)
        simp only [Act.put, List.setIfInBounds_toArray, List.set_cons_zero, List.set_cons_succ]
        refine Own.call (i := 11) (d := (some 51)) rfl rfl (by kernel_rfl) rfl ?_ (list_x G.out.2.2.2.2.2 HQ.out.2.2.1) ?_
        · go_simp
        rintro e w5 ⟨a5, c5, rfl, hs5, hg5⟩
        (have hg5' := grown_pre0 hg5; have H5 := Lib.hid (And.intro hs5 hg5'); have hB5 := (hg5'.block B (Array.getElem?_eq_some_iff.1 G.out.2.1).1 (by simp)).trans G.out.2.1; clear hS hHeld; obtain ⟨_, z1, z2, z3, _⟩ := four hB5; have hS := And.intro z1 (And.intro z2 z3); clear hs5 hg5 hg5' hB5 z1 z2 z3)
        refine ⟨_, rfl, hS, fun hHeld => ?_⟩
        simp only [Act.put, List.setIfInBounds_toArray, List.set_cons_zero, List.set_cons_succ]
        refine Own.call (i := 13) (d := (some 53)) rfl rfl (by kernel_rfl) rfl ?_ (same_x H5.out.1 (G.out.2.2.2.2.1.below (below_none (Below.refl _ _) H5.out.2 (Nat.le_refl _)))) ?_
        · go_simp
        rintro e w6 ⟨rfl, hd⟩
        (have hg6 := grown_drawn H5.out.2 hd; have H6 := Lib.hid hg6; have hB6 := (hg6.block B (Array.getElem?_eq_some_iff.1 G.out.2.1).1 (by simp)).trans G.out.2.1; clear hS hHeld; obtain ⟨_, z1, z2, z3, _⟩ := four hB6; have hS := And.intro z1 (And.intro z2 z3); clear hg6 hB6 z1 z2 z3 hd)
        refine ⟨_, rfl, hS, fun hHeld => ?_⟩
        simp only [Act.put, List.setIfInBounds_toArray, List.set_cons_zero, List.set_cons_succ]
        refine Own.yes (i := 14) (d := (some 54)) (v := ?_) rfl rfl (by kernel_rfl) (by kernel_rfl) (by kernel_rfl) (fun _ _ _ h => h) rfl ?_ hHeld ?_
        rotate_left
        · (intro w hSw; (try dsimp only at hSw); go_simp; try with_reducible rfl)
        simp only [Act.put, List.setIfInBounds_toArray, List.set_cons_zero, List.set_cons_succ]
        refine Own.yes (i := 15) (d := (some 55)) (v := ?_) rfl rfl (by kernel_rfl) (by kernel_rfl) (by kernel_rfl) (fun _ _ _ h => h) rfl ?_ hHeld ?_
        rotate_left
        · (intro w hSw; (try dsimp only at hSw); go_simp; try with_reducible rfl)
        simp only [Act.put, List.setIfInBounds_toArray, List.set_cons_zero, List.set_cons_succ]
        refine Own.yes (i := 16) (d := (some 56)) (v := ?_) rfl rfl (by kernel_rfl) (by kernel_rfl) (by kernel_rfl) (fun _ _ _ h => h) rfl ?_ hHeld ?_
        rotate_left
        · (intro w hSw; (try dsimp only at hSw); go_simp; try with_reducible rfl)
        simp only [Act.put, List.setIfInBounds_toArray, List.set_cons_zero, List.set_cons_succ]
        refine Own.yes (i := 17) (d := (some 57)) (v := ?_) rfl rfl (by kernel_rfl) (by kernel_rfl) (by kernel_rfl) (fun _ _ _ h => h) rfl ?_ hHeld ?_
        rotate_left
        · (intro w hSw; (try dsimp only at hSw); go_simp; try with_reducible rfl)
        simp only [Act.put, List.setIfInBounds_toArray, List.set_cons_zero, List.set_cons_succ]
        refine Own.yes (i := 18) (d := (some 58)) (v := ?_) rfl rfl (by kernel_rfl) (by kernel_rfl) (by kernel_rfl) (fun _ _ _ h => h) rfl ?_ hHeld ?_
        rotate_left
        · (intro w hSw; (try dsimp only at hSw); go_simp; try with_reducible rfl)
        simp only [Act.put, List.setIfInBounds_toArray, List.set_cons_zero, List.set_cons_succ]
        refine Own.yes (i := 19) (d := (some 59)) (v := ?_) rfl rfl (by kernel_rfl) (by kernel_rfl) (by kernel_rfl) (fun _ _ _ h => h) rfl ?_ hHeld ?_
        rotate_left
        · (intro w hSw; (try dsimp only at hSw); go_simp; try with_reducible rfl)
        simp only [Act.put, List.setIfInBounds_toArray, List.set_cons_zero, List.set_cons_succ]
        refine Own.yes (i := 20) (d := (some 60)) (v := ?_) rfl rfl (by kernel_rfl) (by kernel_rfl) (by kernel_rfl) (fun _ _ _ h => h) rfl ?_ hHeld ?_
        rotate_left
        · (intro w hSw; (try dsimp only at hSw); go_simp; try with_reducible rfl)
        simp only [Act.put, List.setIfInBounds_toArray, List.set_cons_zero, List.set_cons_succ]
        refine Own.yes (i := 21) (d := (some 61)) (v := ?_) rfl rfl (by kernel_rfl) (by kernel_rfl) (by kernel_rfl) (fun _ _ _ h => h) rfl ?_ hHeld ?_
        rotate_left
        · (intro w hSw; (try dsimp only at hSw); go_simp; try with_reducible rfl)
        simp only [Act.put, List.setIfInBounds_toArray, List.set_cons_zero, List.set_cons_succ]
        refine Own.yes (i := 22) (d := (some 62)) (v := ?_) rfl rfl (by kernel_rfl) (by kernel_rfl) (by kernel_rfl) (fun _ _ _ h => h) rfl ?_ hHeld ?_
        rotate_left
        · (intro w hSw; (try dsimp only at hSw); go_simp; try with_reducible rfl)
        simp only [Act.put, List.setIfInBounds_toArray, List.set_cons_zero, List.set_cons_succ]
        refine Own.yes (i := 23) (d := (some 63)) (v := ?_) rfl rfl (by kernel_rfl) (by kernel_rfl) (by kernel_rfl) (fun _ _ _ h => h) rfl ?_ hHeld ?_
        rotate_left
        · (intro w hSw; (try dsimp only at hSw); go_simp; try with_reducible rfl)
        simp only [Act.put, List.setIfInBounds_toArray, List.set_cons_zero, List.set_cons_succ]
        refine Own.yes (i := 24) (d := (some 64)) (v := ?_) rfl rfl (by kernel_rfl) (by kernel_rfl) (by kernel_rfl) (fun _ _ _ h => h) rfl ?_ hHeld ?_
        rotate_left
        · (intro w hSw; (try dsimp only at hSw); go_simp; try with_reducible rfl)
        simp only [Act.put, List.setIfInBounds_toArray, List.set_cons_zero, List.set_cons_succ]
        refine Own.no (i := 25) (d := (some 65)) rfl rfl (by kernel_rfl) (by kernel_rfl) (by kernel_rfl) (fun _ _ _ h => h) rfl hHeld ?_
        simp only [Act.put, List.setIfInBounds_toArray, List.set_cons_zero, List.set_cons_succ]
        refine Own.no (i := 26) (d := (some 66)) rfl rfl (by kernel_rfl) (by kernel_rfl) (by kernel_rfl) (fun _ _ _ h => h) rfl hHeld ?_
        simp only [Act.put, List.setIfInBounds_toArray, List.set_cons_zero, List.set_cons_succ]
        refine Own.no (i := 27) (d := (some 67)) rfl rfl (by kernel_rfl) (by kernel_rfl) (by kernel_rfl) (fun _ _ _ h => h) rfl hHeld ?_
        simp only [Act.put, List.setIfInBounds_toArray, List.set_cons_zero, List.set_cons_succ]
        refine Own.no (i := 28) (d := (some 68)) rfl rfl (by kernel_rfl) (by kernel_rfl) (by kernel_rfl) (fun _ _ _ h => h) rfl hHeld ?_
        simp only [Act.put, List.setIfInBounds_toArray, List.set_cons_zero, List.set_cons_succ]
        refine Own.yes (i := 29) (d := (some 69)) (v := ?_) rfl rfl (by kernel_rfl) (by kernel_rfl) (by kernel_rfl) (fun _ _ _ h => h) rfl ?_ hHeld ?_
        rotate_left
        · (intro w hSw; (try dsimp only at hSw); go_simp; try with_reducible rfl)
        simp only [Act.put, List.setIfInBounds_toArray, List.set_cons_zero, List.set_cons_succ]
        refine Own.yes (i := 30) (d := (some 70)) (v := ?_) rfl rfl (by kernel_rfl) (by kernel_rfl) (by kernel_rfl) (fun _ _ _ h => h) rfl ?_ hHeld ?_
        rotate_left
        · (intro w hSw; (try dsimp only at hSw); go_simp; try with_reducible rfl)
        simp only [Act.put, List.setIfInBounds_toArray, List.set_cons_zero, List.set_cons_succ]
        refine Own.yes (i := 31) (d := (some 71)) (v := ?_) rfl rfl (by kernel_rfl) (by kernel_rfl) (by kernel_rfl) (fun _ _ _ h => h) rfl ?_ hHeld ?_
        rotate_left
        · (intro w hSw; (try dsimp only at hSw); go_simp; try with_reducible rfl)
        simp only [Act.put, List.setIfInBounds_toArray, List.set_cons_zero, List.set_cons_succ]
        refine Own.yes (i := 32) (d := (some 72)) (v := ?_) rfl rfl (by kernel_rfl) (by kernel_rfl) (by kernel_rfl) (fun _ _ _ h => h) rfl ?_ hHeld ?_
        rotate_left
        · (intro w hSw; (try dsimp only at hSw); go_simp; try with_reducible rfl)
        simp only [Act.put, List.setIfInBounds_toArray, List.set_cons_zero, List.set_cons_succ]
        refine Own.yes (i := 33) (d := (some 73)) (v := ?_) rfl rfl (by kernel_rfl) (by kernel_rfl) (by kernel_rfl) (fun _ _ _ h => h) rfl ?_ hHeld ?_
        rotate_left
        · (intro w hSw; (try dsimp only at hSw); go_simp; try with_reducible rfl)
        simp only [Act.put, List.setIfInBounds_toArray, List.set_cons_zero, List.set_cons_succ]
        refine Own.yes (i := 34) (d := (some 74)) (v := ?_) rfl rfl (by kernel_rfl) (by kernel_rfl) (by kernel_rfl) (fun _ _ _ h => h) rfl ?_ hHeld ?_
        rotate_left
        · (intro w hSw; (try dsimp only at hSw); go_simp; try with_reducible rfl)
        simp only [Act.put, List.setIfInBounds_toArray, List.set_cons_zero, List.set_cons_succ]
        refine Own.yes (i := 35) (d := (some 75)) (v := ?_) rfl rfl (by kernel_rfl) (by kernel_rfl) (by kernel_rfl) (fun _ _ _ h => h) rfl ?_ hHeld ?_
        rotate_left
        · (intro w hSw; (try dsimp only at hSw); go_simp; try with_reducible rfl)
        simp only [Act.put, List.setIfInBounds_toArray, List.set_cons_zero, List.set_cons_succ]
        refine Own.yes (i := 36) (d := (some 76)) (v := ?_) rfl rfl (by kernel_rfl) (by kernel_rfl) (by kernel_rfl) (fun _ _ _ h => h) rfl ?_ hHeld ?_
        rotate_left
        · (intro w hSw; (try dsimp only at hSw); go_simp; try with_reducible rfl)
        simp only [Act.put, List.setIfInBounds_toArray, List.set_cons_zero, List.set_cons_succ]
        refine Own.yes (i := 37) (d := (some 77)) (v := ?_) rfl rfl (by kernel_rfl) (by kernel_rfl) (by kernel_rfl) (fun _ _ _ h => h) rfl ?_ hHeld ?_
        rotate_left
        · (intro w hSw; (try dsimp only at hSw); go_simp; try with_reducible rfl)
        simp only [Act.put, List.setIfInBounds_toArray, List.set_cons_zero, List.set_cons_succ]
        refine Own.yes (i := 38) (d := (some 78)) (v := ?_) rfl rfl (by kernel_rfl) (by kernel_rfl) (by kernel_rfl) (fun _ _ _ h => h) rfl ?_ hHeld ?_
        rotate_left
        · (intro w hSw; (try dsimp only at hSw); go_simp; try with_reducible rfl)
        simp only [Act.put, List.setIfInBounds_toArray, List.set_cons_zero, List.set_cons_succ]
        refine Own.yes (i := 39) (d := (some 79)) (v := ?_) rfl rfl (by kernel_rfl) (by kernel_rfl) (by kernel_rfl) (fun _ _ _ h => h) rfl ?_ hHeld ?_
        rotate_left
        · (intro w hSw; (try dsimp only at hSw); go_simp; try with_reducible rfl)
        simp only [Act.put, List.setIfInBounds_toArray, List.set_cons_zero, List.set_cons_succ]
        refine Own.yes (i := 40) (d := (some 80)) (v := ?_) rfl rfl (by kernel_rfl) (by kernel_rfl) (by kernel_rfl) (fun _ _ _ h => h) rfl ?_ hHeld ?_
        rotate_left
        · (intro w hSw; (try dsimp only at hSw); go_simp; try with_reducible rfl)
        simp only [Act.put, List.setIfInBounds_toArray, List.set_cons_zero, List.set_cons_succ]
        refine Own.yes (i := 42) (d := (some 82)) (v := ?_) rfl rfl (by kernel_rfl) (by kernel_rfl) (by kernel_rfl) (fun _ _ _ h => h) rfl ?_ hHeld ?_
        rotate_left
        · (intro w hSw; (try dsimp only at hSw); go_simp; try with_reducible rfl)
        simp only [Act.put, List.setIfInBounds_toArray, List.set_cons_zero, List.set_cons_succ]
        refine Own.yes (i := 43) (d := (some 83)) (v := ?_) rfl rfl (by kernel_rfl) (by kernel_rfl) (by kernel_rfl) (fun _ _ _ h => h) rfl ?_ hHeld ?_
        rotate_left
        · (intro w hSw; (try dsimp only at hSw); go_simp; try with_reducible rfl)
        simp only [Act.put, List.setIfInBounds_toArray, List.set_cons_zero, List.set_cons_succ]
        refine Own.call (i := 41) (d := (some 81)) rfl rfl (by kernel_rfl) rfl ?_ (streak_is (G.out.1.below (below_none (Below.refl _ _) H6.out (Nat.le_refl _)))) ?_
        · go_simp
        rintro e w7 ⟨rfl, rfl⟩
        refine ⟨_, rfl, hS, fun hHeld => ?_⟩
        simp only [Act.put, List.setIfInBounds_toArray, List.set_cons_zero, List.set_cons_succ]
        refine Own.yes (i := 44) (d := (some 84)) (v := ?_) rfl rfl (by kernel_rfl) (by kernel_rfl) (by kernel_rfl) (fun _ _ _ h => h) rfl ?_ hHeld ?_
        rotate_left
        · (intro w hSw; (try dsimp only at hSw); go_simp; try with_reducible rfl)
        simp only [Act.put, List.setIfInBounds_toArray, List.set_cons_zero, List.set_cons_succ]
        refine Own.yes (i := 45) (d := (some 85)) (v := ?_) rfl rfl (by kernel_rfl) (by kernel_rfl) (by kernel_rfl) (fun _ _ _ h => h) rfl ?_ hHeld ?_
        rotate_left
        · (intro w hSw; (try dsimp only at hSw); go_simp; try with_reducible rfl)
        simp only [Act.put, List.setIfInBounds_toArray, List.set_cons_zero, List.set_cons_succ]
        refine wpAnyH_done (by kernel_rfl) ?_ _
        have hgf := H6.out
        have HF := Lib.hid (show Plays w w6 b B from ⟨row2, nxt2, st2, a2, c2, G.out.1.below (below_none (Below.refl _ _) hgf (Nat.le_refl _)), by rw [HQ.out.1, HQ.out.2.1]; exact (hgf.block B (Array.getElem?_eq_some_iff.1 G.out.2.1).1 (by simp)).trans G.out.2.1, G.out.2.2.1.below (below_none (Below.refl _ _) hgf (Nat.le_refl _)), below_none G.out.2.2.2.1 hgf G.out.2.2.2.1.size⟩)
        clear hgf hS
        go_wp2_with fail
        go_roundw
        case rel => exact ⟨k + 1, by omega, by go_num, HF.out⟩
        case measure => simp [intOf]; omega
      · obtain ⟨_, z1, z2, z3, _⟩ := four (w := w4.drew) (B := B) G.out.2.1
        have hS := And.intro z1 (And.intro z2 z3)
        clear z1 z2 z3
        refine wp_region_held_drew (S := fun w' => w'.cell? ⟨B, 1, none⟩ = some (.bool true) ∧ w'.cell? ⟨B, 2, none⟩ = some (.int .i64 nx2) ∧ w'.cell? ⟨B, 3, none⟩ = some (.int .i64 st2)) (by kernel_rfl) hS (fun hHeld => ?_)
        refine Own.yes (i := 0) (d := (some 40)) (v := ?_) rfl rfl (by kernel_rfl) (by kernel_rfl) (by kernel_rfl) (fun _ _ _ h => h) rfl ?_ hHeld ?_
        rotate_left
        · (intro w hSw; (try dsimp only at hSw); go_simp; try with_reducible rfl)
        simp only [Act.put, List.setIfInBounds_toArray, List.set_cons_zero, List.set_cons_succ]
        refine Own.yes (i := 1) (d := (some 41)) (v := ?_) rfl rfl (by kernel_rfl) (by kernel_rfl) (by kernel_rfl) (fun _ _ _ h => h) rfl ?_ hHeld ?_
        rotate_left
        · (intro w hSw; (try dsimp only at hSw); go_simp; try with_reducible rfl)
        simp only [Act.put, List.setIfInBounds_toArray, List.set_cons_zero, List.set_cons_succ]
        refine Own.yes (i := 2) (d := (some 42)) (v := ?_) rfl rfl (by kernel_rfl) (by kernel_rfl) (by kernel_rfl) (fun _ _ _ h => h) rfl ?_ hHeld ?_
        rotate_left
        · (intro w hSw; (try dsimp only at hSw); go_simp; try with_reducible rfl)
        simp only [Act.put, List.setIfInBounds_toArray, List.set_cons_zero, List.set_cons_succ]
        refine Own.yes (i := 3) (d := (some 43)) (v := ?_) rfl rfl (by kernel_rfl) (by kernel_rfl) (by kernel_rfl) (fun _ _ _ h => h) rfl ?_ hHeld ?_
        rotate_left
        · (intro w hSw; (try dsimp only at hSw); go_simp; try with_reducible rfl)
        simp only [Act.put, List.setIfInBounds_toArray, List.set_cons_zero, List.set_cons_succ]
        refine Own.yes (i := 5) (d := (some 45)) (v := ?_) rfl rfl (by kernel_rfl) (by kernel_rfl) (by kernel_rfl) (fun _ _ _ h => h) rfl ?_ hHeld ?_
        rotate_left
        · (intro w hSw; (try dsimp only at hSw); go_simp; try with_reducible rfl)
        simp only [Act.put, List.setIfInBounds_toArray, List.set_cons_zero, List.set_cons_succ]
        refine Own.yes (i := 6) (d := (some 46)) (v := ?_) rfl rfl (by kernel_rfl) (by kernel_rfl) (by kernel_rfl) (fun _ _ _ h => h) rfl ?_ hHeld ?_
        rotate_left
        · (intro w hSw; (try dsimp only at hSw); go_simp; try with_reducible rfl)
        simp only [Act.put, List.setIfInBounds_toArray, List.set_cons_zero, List.set_cons_succ]
        refine Own.call (i := 4) (d := (some 44)) rfl rfl (by kernel_rfl) rfl ?_ (len_j G.out.2.2.2.2.2 HQ.out.2.2.1) ?_
        · go_simp
        rintro e w5 ⟨rfl, rfl⟩
        refine ⟨_, rfl, hS, fun hHeld => ?_⟩
        simp only [Act.put, List.setIfInBounds_toArray, List.set_cons_zero, List.set_cons_succ]
        refine Own.yes (i := 7) (d := (some 47)) (v := ?_) rfl rfl (by kernel_rfl) (by kernel_rfl) (by kernel_rfl) (fun _ _ _ h => h) rfl ?_ hHeld ?_
        rotate_left
        · (intro w hSw; (try dsimp only at hSw); go_simp; try with_reducible rfl)
        simp only [Act.put, List.setIfInBounds_toArray, List.set_cons_zero, List.set_cons_succ]
        refine Own.yes (i := 8) (d := (some 48)) (v := ?_) rfl rfl (by kernel_rfl) (by kernel_rfl) (by kernel_rfl) (fun _ _ _ h => h) rfl ?_ hHeld ?_
        rotate_left
        · (intro w hSw; (try dsimp only at hSw); go_simp; try with_reducible rfl)
        simp only [Act.put, List.setIfInBounds_toArray, List.set_cons_zero, List.set_cons_succ]
        refine Own.yes (i := 9) (d := (some 49)) (v := ?_) rfl rfl (by kernel_rfl) (by kernel_rfl) (by kernel_rfl) (fun _ _ _ h => h) rfl ?_ hHeld ?_
        rotate_left
        · (intro w hSw; (try dsimp only at hSw); go_simp; try with_reducible rfl)
        simp only [Act.put, List.setIfInBounds_toArray, List.set_cons_zero, List.set_cons_succ]
        refine Own.yes (i := 10) (d := (some 50)) (v := ?_) rfl rfl (by kernel_rfl) (by kernel_rfl) (by kernel_rfl) (fun _ _ _ h => h) rfl ?_ hHeld ?_
        rotate_left
        · (intro w hSw; (try dsimp only at hSw); go_simp; try with_reducible rfl)
        simp only [Act.put, List.setIfInBounds_toArray, List.set_cons_zero, List.set_cons_succ]
        refine Own.yes (i := 12) (d := (some 52)) (v := ?_) rfl rfl (by kernel_rfl) (by kernel_rfl) (by kernel_rfl) (fun _ _ _ h => h) rfl ?_ hHeld ?_
        rotate_left
        · (intro w hSw; (try dsimp only at hSw); go_simp; try with_reducible rfl)
        simp only [Act.put, List.setIfInBounds_toArray, List.set_cons_zero, List.set_cons_succ]
        refine Own.call (i := 11) (d := (some 51)) rfl rfl (by kernel_rfl) rfl ?_ (list_x G.out.2.2.2.2.2 HQ.out.2.2.1) ?_
        · go_simp
        rintro e w5 ⟨a5, c5, rfl, hs5, hg5⟩
        (have hg5' := grown_pre0 hg5; have H5 := Lib.hid (And.intro hs5 hg5'); have hB5 := (hg5'.block B (Array.getElem?_eq_some_iff.1 G.out.2.1).1 (by simp)).trans G.out.2.1; clear hS hHeld; obtain ⟨_, z1, z2, z3, _⟩ := four hB5; have hS := And.intro z1 (And.intro z2 z3); clear hs5 hg5 hg5' hB5 z1 z2 z3)
        refine ⟨_, rfl, hS, fun hHeld => ?_⟩
        simp only [Act.put, List.setIfInBounds_toArray, List.set_cons_zero, List.set_cons_succ]
        refine Own.call (i := 13) (d := (some 53)) rfl rfl (by kernel_rfl) rfl ?_ (same_x H5.out.1 (G.out.2.2.2.2.1.below (below_none (Below.refl _ _) H5.out.2 (Nat.le_refl _)))) ?_
        · go_simp
        rintro e w6 ⟨rfl, hd⟩
        (have hg6 := grown_drawn H5.out.2 hd; have H6 := Lib.hid hg6; have hB6 := (hg6.block B (Array.getElem?_eq_some_iff.1 G.out.2.1).1 (by simp)).trans G.out.2.1; clear hS hHeld; obtain ⟨_, z1, z2, z3, _⟩ := four hB6; have hS := And.intro z1 (And.intro z2 z3); clear hg6 hB6 z1 z2 z3 hd)
        refine ⟨_, rfl, hS, fun hHeld => ?_⟩
        simp only [Act.put, List.setIfInBounds_toArray, List.set_cons_zero, List.set_cons_succ]
        refine Own.yes (i := 14) (d := (some 54)) (v := ?_) rfl rfl (by kernel_rfl) (by kernel_rfl) (by kernel_rfl) (fun _ _ _ h => h) rfl ?_ hHeld ?_
        rotate_left
        · (intro w hSw; (try dsimp only at hSw); go_simp; try with_reducible rfl)
        simp only [Act.put, List.setIfInBounds_toArray, List.set_cons_zero, List.set_cons_succ]
        refine Own.yes (i := 15) (d := (some 55)) (v := ?_) rfl rfl (by kernel_rfl) (by kernel_rfl) (by kernel_rfl) (fun _ _ _ h => h) rfl ?_ hHeld ?_
        rotate_left
        · (intro w hSw; (try dsimp only at hSw); go_simp; try with_reducible rfl)
        simp only [Act.put, List.setIfInBounds_toArray, List.set_cons_zero, List.set_cons_succ]
        refine Own.yes (i := 16) (d := (some 56)) (v := ?_) rfl rfl (by kernel_rfl) (by kernel_rfl) (by kernel_rfl) (fun _ _ _ h => h) rfl ?_ hHeld ?_
        rotate_left
        · (intro w hSw; (try dsimp only at hSw); go_simp; try with_reducible rfl)
        simp only [Act.put, List.setIfInBounds_toArray, List.set_cons_zero, List.set_cons_succ]
        refine Own.yes (i := 17) (d := (some 57)) (v := ?_) rfl rfl (by kernel_rfl) (by kernel_rfl) (by kernel_rfl) (fun _ _ _ h => h) rfl ?_ hHeld ?_
        rotate_left
        · (intro w hSw; (try dsimp only at hSw); go_simp; try with_reducible rfl)
        simp only [Act.put, List.setIfInBounds_toArray, List.set_cons_zero, List.set_cons_succ]
        refine Own.yes (i := 18) (d := (some 58)) (v := ?_) rfl rfl (by kernel_rfl) (by kernel_rfl) (by kernel_rfl) (fun _ _ _ h => h) rfl ?_ hHeld ?_
        rotate_left
        · (intro w hSw; (try dsimp only at hSw); go_simp; try with_reducible rfl)
        simp only [Act.put, List.setIfInBounds_toArray, List.set_cons_zero, List.set_cons_succ]
        refine Own.yes (i := 19) (d := (some 59)) (v := ?_) rfl rfl (by kernel_rfl) (by kernel_rfl) (by kernel_rfl) (fun _ _ _ h => h) rfl ?_ hHeld ?_
        rotate_left
        · (intro w hSw; (try dsimp only at hSw); go_simp; try with_reducible rfl)
        simp only [Act.put, List.setIfInBounds_toArray, List.set_cons_zero, List.set_cons_succ]
        refine Own.yes (i := 20) (d := (some 60)) (v := ?_) rfl rfl (by kernel_rfl) (by kernel_rfl) (by kernel_rfl) (fun _ _ _ h => h) rfl ?_ hHeld ?_
        rotate_left
        · (intro w hSw; (try dsimp only at hSw); go_simp; try with_reducible rfl)
        simp only [Act.put, List.setIfInBounds_toArray, List.set_cons_zero, List.set_cons_succ]
        refine Own.yes (i := 21) (d := (some 61)) (v := ?_) rfl rfl (by kernel_rfl) (by kernel_rfl) (by kernel_rfl) (fun _ _ _ h => h) rfl ?_ hHeld ?_
        rotate_left
        · (intro w hSw; (try dsimp only at hSw); go_simp; try with_reducible rfl)
        simp only [Act.put, List.setIfInBounds_toArray, List.set_cons_zero, List.set_cons_succ]
        refine Own.yes (i := 22) (d := (some 62)) (v := ?_) rfl rfl (by kernel_rfl) (by kernel_rfl) (by kernel_rfl) (fun _ _ _ h => h) rfl ?_ hHeld ?_
        rotate_left
        · (intro w hSw; (try dsimp only at hSw); go_simp; try with_reducible rfl)
        simp only [Act.put, List.setIfInBounds_toArray, List.set_cons_zero, List.set_cons_succ]
        refine Own.yes (i := 23) (d := (some 63)) (v := ?_) rfl rfl (by kernel_rfl) (by kernel_rfl) (by kernel_rfl) (fun _ _ _ h => h) rfl ?_ hHeld ?_
        rotate_left
        · (intro w hSw; (try dsimp only at hSw); go_simp; try with_reducible rfl)
        simp only [Act.put, List.setIfInBounds_toArray, List.set_cons_zero, List.set_cons_succ]
        refine Own.yes (i := 24) (d := (some 64)) (v := ?_) rfl rfl (by kernel_rfl) (by kernel_rfl) (by kernel_rfl) (fun _ _ _ h => h) rfl ?_ hHeld ?_
        rotate_left
        · (intro w hSw; (try dsimp only at hSw); go_simp; try with_reducible rfl)
        simp only [Act.put, List.setIfInBounds_toArray, List.set_cons_zero, List.set_cons_succ]
        refine Own.yes (i := 25) (d := (some 65)) (v := ?_) rfl rfl (by kernel_rfl) (by kernel_rfl) (by kernel_rfl) (fun _ _ _ h => h) rfl ?_ hHeld ?_
        rotate_left
        · (intro w hSw; (try dsimp only at hSw); go_simp; try with_reducible rfl)
        simp only [Act.put, List.setIfInBounds_toArray, List.set_cons_zero, List.set_cons_succ]
        refine Own.yes (i := 26) (d := (some 66)) (v := ?_) rfl rfl (by kernel_rfl) (by kernel_rfl) (by kernel_rfl) (fun _ _ _ h => h) rfl ?_ hHeld ?_
        rotate_left
        · (intro w hSw; (try dsimp only at hSw); go_simp; try with_reducible rfl)
        simp only [Act.put, List.setIfInBounds_toArray, List.set_cons_zero, List.set_cons_succ]
        refine Own.yes (i := 27) (d := (some 67)) (v := ?_) rfl rfl (by kernel_rfl) (by kernel_rfl) (by kernel_rfl) (fun _ _ _ h => h) rfl ?_ hHeld ?_
        rotate_left
        · (intro w hSw; (try dsimp only at hSw); go_simp; try with_reducible rfl)
        simp only [Act.put, List.setIfInBounds_toArray, List.set_cons_zero, List.set_cons_succ]
        refine Own.yes (i := 28) (d := (some 68)) (v := ?_) rfl rfl (by kernel_rfl) (by kernel_rfl) (by kernel_rfl) (fun _ _ _ h => h) rfl ?_ hHeld ?_
        rotate_left
        · (intro w hSw; (try dsimp only at hSw); go_simp; try with_reducible rfl)
        simp only [Act.put, List.setIfInBounds_toArray, List.set_cons_zero, List.set_cons_succ]
        refine Own.yes (i := 29) (d := (some 69)) (v := ?_) rfl rfl (by kernel_rfl) (by kernel_rfl) (by kernel_rfl) (fun _ _ _ h => h) rfl ?_ hHeld ?_
        rotate_left
        · (intro w hSw; (try dsimp only at hSw); go_simp; try with_reducible rfl)
        simp only [Act.put, List.setIfInBounds_toArray, List.set_cons_zero, List.set_cons_succ]
        refine Own.yes (i := 30) (d := (some 70)) (v := ?_) rfl rfl (by kernel_rfl) (by kernel_rfl) (by kernel_rfl) (fun _ _ _ h => h) rfl ?_ hHeld ?_
        rotate_left
        · (intro w hSw; (try dsimp only at hSw); go_simp; try with_reducible rfl)
        simp only [Act.put, List.setIfInBounds_toArray, List.set_cons_zero, List.set_cons_succ]
        refine Own.yes (i := 31) (d := (some 71)) (v := ?_) rfl rfl (by kernel_rfl) (by kernel_rfl) (by kernel_rfl) (fun _ _ _ h => h) rfl ?_ hHeld ?_
        rotate_left
        · (intro w hSw; (try dsimp only at hSw); go_simp; try with_reducible rfl)
        simp only [Act.put, List.setIfInBounds_toArray, List.set_cons_zero, List.set_cons_succ]
        refine Own.yes (i := 32) (d := (some 72)) (v := ?_) rfl rfl (by kernel_rfl) (by kernel_rfl) (by kernel_rfl) (fun _ _ _ h => h) rfl ?_ hHeld ?_
        rotate_left
        · (intro w hSw; (try dsimp only at hSw); go_simp; try with_reducible rfl)
        simp only [Act.put, List.setIfInBounds_toArray, List.set_cons_zero, List.set_cons_succ]
        refine Own.yes (i := 33) (d := (some 73)) (v := ?_) rfl rfl (by kernel_rfl) (by kernel_rfl) (by kernel_rfl) (fun _ _ _ h => h) rfl ?_ hHeld ?_
        rotate_left
        · (intro w hSw; (try dsimp only at hSw); go_simp; try with_reducible rfl)
        simp only [Act.put, List.setIfInBounds_toArray, List.set_cons_zero, List.set_cons_succ]
        refine Own.yes (i := 34) (d := (some 74)) (v := ?_) rfl rfl (by kernel_rfl) (by kernel_rfl) (by kernel_rfl) (fun _ _ _ h => h) rfl ?_ hHeld ?_
        rotate_left
        · (intro w hSw; (try dsimp only at hSw); go_simp; try with_reducible rfl)
        simp only [Act.put, List.setIfInBounds_toArray, List.set_cons_zero, List.set_cons_succ]
        refine Own.no (i := 35) (d := (some 75)) rfl rfl (by kernel_rfl) (by kernel_rfl) (by kernel_rfl) (fun _ _ _ h => h) rfl hHeld ?_
        simp only [Act.put, List.setIfInBounds_toArray, List.set_cons_zero, List.set_cons_succ]
        refine Own.no (i := 36) (d := (some 76)) rfl rfl (by kernel_rfl) (by kernel_rfl) (by kernel_rfl) (fun _ _ _ h => h) rfl hHeld ?_
        simp only [Act.put, List.setIfInBounds_toArray, List.set_cons_zero, List.set_cons_succ]
        refine Own.yes (i := 37) (d := (some 77)) (v := ?_) rfl rfl (by kernel_rfl) (by kernel_rfl) (by kernel_rfl) (fun _ _ _ h => h) rfl ?_ hHeld ?_
        rotate_left
        · (intro w hSw; (try dsimp only at hSw); go_simp; try with_reducible rfl)
        simp only [Act.put, List.setIfInBounds_toArray, List.set_cons_zero, List.set_cons_succ]
        refine Own.yes (i := 38) (d := (some 78)) (v := ?_) rfl rfl (by kernel_rfl) (by kernel_rfl) (by kernel_rfl) (fun _ _ _ h => h) rfl ?_ hHeld ?_
        rotate_left
        · (intro w hSw; (try dsimp only at hSw); go_simp; try with_reducible rfl)
        simp only [Act.put, List.setIfInBounds_toArray, List.set_cons_zero, List.set_cons_succ]
        refine Own.yes (i := 39) (d := (some 79)) (v := ?_) rfl rfl (by kernel_rfl) (by kernel_rfl) (by kernel_rfl) (fun _ _ _ h => h) rfl ?_ hHeld ?_
        rotate_left
        · (intro w hSw; (try dsimp only at hSw); go_simp; try with_reducible rfl)
        simp only [Act.put, List.setIfInBounds_toArray, List.set_cons_zero, List.set_cons_succ]
        refine Own.yes (i := 40) (d := (some 80)) (v := ?_) rfl rfl (by kernel_rfl) (by kernel_rfl) (by kernel_rfl) (fun _ _ _ h => h) rfl ?_ hHeld ?_
        rotate_left
        · (intro w hSw; (try dsimp only at hSw); go_simp; try with_reducible rfl)
        simp only [Act.put, List.setIfInBounds_toArray, List.set_cons_zero, List.set_cons_succ]
        refine Own.yes (i := 42) (d := (some 82)) (v := ?_) rfl rfl (by kernel_rfl) (by kernel_rfl) (by kernel_rfl) (fun _ _ _ h => h) rfl ?_ hHeld ?_
        rotate_left
        · (intro w hSw; (try dsimp only at hSw); go_simp; try with_reducible rfl)
        simp only [Act.put, List.setIfInBounds_toArray, List.set_cons_zero, List.set_cons_succ]
        refine Own.yes (i := 43) (d := (some 83)) (v := ?_) rfl rfl (by kernel_rfl) (by kernel_rfl) (by kernel_rfl) (fun _ _ _ h => h) rfl ?_ hHeld ?_
        rotate_left
        · (intro w hSw; (try dsimp only at hSw); go_simp; try with_reducible rfl)
        simp only [Act.put, List.setIfInBounds_toArray, List.set_cons_zero, List.set_cons_succ]
        refine Own.call (i := 41) (d := (some 81)) rfl rfl (by kernel_rfl) rfl ?_ (streak_is (G.out.1.below (below_none (Below.refl _ _) H6.out (Nat.le_refl _)))) ?_
        · go_simp
        rintro e w7 ⟨rfl, rfl⟩
        refine ⟨_, rfl, hS, fun hHeld => ?_⟩
        simp only [Act.put, List.setIfInBounds_toArray, List.set_cons_zero, List.set_cons_succ]
        refine Own.yes (i := 44) (d := (some 84)) (v := ?_) rfl rfl (by kernel_rfl) (by kernel_rfl) (by kernel_rfl) (fun _ _ _ h => h) rfl ?_ hHeld ?_
        rotate_left
        · (intro w hSw; (try dsimp only at hSw); go_simp; try with_reducible rfl)
        simp only [Act.put, List.setIfInBounds_toArray, List.set_cons_zero, List.set_cons_succ]
        refine Own.yes (i := 45) (d := (some 85)) (v := ?_) rfl rfl (by kernel_rfl) (by kernel_rfl) (by kernel_rfl) (fun _ _ _ h => h) rfl ?_ hHeld ?_
        rotate_left
        · (intro w hSw; (try dsimp only at hSw); go_simp; try with_reducible rfl)
        simp only [Act.put, List.setIfInBounds_toArray, List.set_cons_zero, List.set_cons_succ]
        refine wpAnyH_done (by kernel_rfl) ?_ _
        have hgf := H6.out
        have HF := Lib.hid (show Plays w w6 b B from ⟨row2, nxt2, st2, a2, c2, G.out.1.below (below_none (Below.refl _ _) hgf (Nat.le_refl _)), by rw [HQ.out.1, HQ.out.2.1]; exact (hgf.block B (Array.getElem?_eq_some_iff.1 G.out.2.1).1 (by simp)).trans G.out.2.1, G.out.2.2.1.below (below_none (Below.refl _ _) hgf (Nat.le_refl _)), below_none G.out.2.2.2.1 hgf G.out.2.2.2.1.size⟩)
        clear hgf hS
        go_wp2_with fail
        go_roundw
        case rel => exact ⟨k + 1, by omega, by go_num, HF.out⟩
        case measure => simp [intOf]; omega
    · obtain rfl : k = len := by omega
      obtain ⟨_, _, _, _, _, _, _, _, hbl⟩ := HP.out
      go_wp2
      go_ret
      exact ⟨rfl, hbl⟩

set_option maxRecDepth 100000 in
set_option maxHeartbeats 1000000 in
theorem plays_long (a : Option Addr) (len cap : Nat) (w : World) (hl : 60 < len) (hm : len ≤ maxLen) :
    Calls Try.prog 7 #[.slice a len cap] w fun e w' => e = .returned (.bool true) ∧ Below w.heap.size w w' := by
  unfold maxLen at hm
  go_enter Try.func7, Try.ntmps7
  go_wp2_with fail
  refine (lives_is w).mono ?_
  rintro e w0 ⟨rfl, hb⟩
  have HB := Lib.hid hb
  clear hb
  go_wp2_with fail
  refine (lives_is w0).mono ?_
  rintro e w1 ⟨rfl, hb⟩
  have HB1 := Lib.hid hb
  clear hb
  go_wp2_with fail
  go_ret
  exact ⟨rfl, HB.out.trans (HB1.out.mono HB.out.size)⟩

theorem plays_any (a : Option Addr) (len cap : Nat) (w : World) (ha : Args.IsFlat [.u8, .i64, .u16] w a len) :
    Calls Try.prog 7 #[.slice a len cap] w fun e w' => e = .returned (.bool true) ∧ Below w.heap.size w w' := by
  obtain ⟨hm, hnil, f, hf⟩ := ha
  by_cases hl : 60 < len
  · exact plays_long a len cap w hl hm
  · refine plays_short a len cap (fun i => ((f i).getD 0 0, (f i).getD 1 0, (f i).getD 2 0)) w (by omega) hnil (fun b hb i hi => ?_) (fun i hi => ?_)
    · obtain ⟨x, y, z, e, _⟩ := Args.fits3 (hf i hi).1
      have h := (hf i hi).2 b hb
      rw [e] at h
      have h0 := (h 0 (.int .u8 x) rfl).1
      have h1 := (h 1 (.int .i64 y) rfl).1
      have h2 := (h 2 (.int .u16 z) rfl).1
      simp only [e, List.getD_cons_zero, List.getD_cons_succ]
      exact ⟨h0, h1, h2⟩
    · obtain ⟨x, y, z, e, hx, _, hz⟩ := Args.fits3 (hf i hi).1
      simp only [e, List.getD_cons_zero, List.getD_cons_succ]
      exact ⟨(bounds_u8 hx).1, (bounds_u16 hz).1⟩
end Go.Proofs.Ytkcoidapnmoljaa.Rng
