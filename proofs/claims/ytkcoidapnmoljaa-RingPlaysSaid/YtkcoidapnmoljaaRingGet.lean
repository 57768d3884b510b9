/-
  Package ring: Get, Steal.
-/
import Derived.Test.YtkcoidapnmoljaaRingPut
namespace Go.Proofs.Ytkcoidapnmoljaa.Rng
open Go.RowKit
open Go.Proofs.Ytkcoidapnmoljaa.Ints
set_option linter.unusedVariables false

theorem owns_one {w : World} {base : Nat} {v : Value} {x : Int} (h : Owns w base v [x]) : ∃ g c, v = .slice (some ⟨g, 0, none⟩) 1 c ∧ w.cell? ⟨g, 0, none⟩ = some (.int .i64 x) ∧ base ≤ g := by
  rcases h.2 with ⟨_, hn⟩ | ⟨g, cap, cur, rfl, hb, hg, hn, hm, hsz, ht⟩
  · simp at hn
  · refine ⟨g, cap, rfl, ?_, hb⟩
    rw [cell_of_row w g 0 cur _ _ hg]
    have : (cur.toList.take ([x].length * 1))[0]? = some (Value.int .i64 x) := by rw [ht]; rfl
    simpa [List.getElem?_take] using this

section
variable {w : World} {b : Nat}
theorem get_lone {g st : Int} (r : IsR w b [] (some g) st) :
    Calls Try.prog 13 #[.pointer (some ⟨b, 0, none⟩)] w fun e w' => e = .returned (.tuple #[.int .i64 g, .bool true]) ∧ IsR w' b [] none 0 ∧ w.grownBy w' (some b) := by
  obtain ⟨c7, c8, ⟨nx, c9⟩, c10, f⟩ := cells_is r
  simp only [List.length_nil, Option.isSome_some, Option.getD_some] at c7 c8 c9
  have R := Lib.hid r
  clear r
  go_enter Try.func13, Try.ntmps13
  go_wp2_with fail
  refine (take_is (setStreakIs R.out 0 (by decide) (by decide))).mono ?_
  rintro e w1 ⟨rfl, hr, hg⟩
  have HR := Lib.hid hr
  have HG := Lib.hid (grown_trans (grown_set (World.grownBy.refl w (some b)) 260 (.int .i64 0)) hg (fun j hj => .inr hj))
  clear hr hg
  go_wp2
  go_ret2
  exact ⟨rfl, HR.out, HG.out⟩

theorem get_next {row : List Int} {g st : Int} (r : IsR w b row (some g) st) (hn : row ≠ []) (hs : st < 4) :
    Calls Try.prog 13 #[.pointer (some ⟨b, 0, none⟩)] w fun e w' => e = .returned (.tuple #[.int .i64 g, .bool true]) ∧ IsR w' b row none (st + 1) ∧ w.grownBy w' (some b) := by
  obtain ⟨c7, c8, ⟨nx, c9⟩, c10, f⟩ := cells_is r
  simp only [Option.isSome_some, Option.getD_some] at c8 c9
  have h0 : 0 ≤ st := by obtain ⟨_, _, _, _, h, _⟩ := r; exact h
  have hl : 0 < row.length := List.length_pos_iff.2 hn
  have b1 : ((row.length : Int) == 0) = false := by rw [beq_eq_false_iff_ne]; omega
  have b2 : (row.length == 0) = false := by rw [beq_eq_false_iff_ne]; omega
  have b3 : row.isEmpty = false := by rw [List.isEmpty_eq_false_iff]; exact hn
  have b4 : (row == []) = false := by cases row with | nil => exact absurd rfl hn | cons => rfl
  have R := Lib.hid r
  clear r hn
  go_enter Try.func13, Try.ntmps13
  go_wp2_with fail
  refine (take_is (setStreakIs R.out (st + 1) (by omega) (by omega))).mono ?_
  rintro e w1 ⟨rfl, hr, hg⟩
  have HR := Lib.hid hr
  have HG := Lib.hid (grown_trans (grown_set (World.grownBy.refl w (some b)) 260 (.int .i64 (st + 1))) hg (fun j hj => .inr hj))
  clear hr hg
  go_wp2
  go_ret2
  exact ⟨rfl, HR.out, HG.out⟩

theorem get_none {st : Int} (r : IsR w b [] none st) :
    Calls Try.prog 13 #[.pointer (some ⟨b, 0, none⟩)] w fun e w' => e = .returned (.tuple #[.int .i64 0, .bool false]) ∧ w = w' := by
  obtain ⟨c7, c8, ⟨nx, c9⟩, c10, f⟩ := cells_is r
  simp only [List.length_nil, Option.isSome_none] at c7 c8
  clear c9 r
  go_enter Try.func13, Try.ntmps13
  go_wp2
  go_ret2
  exact ⟨rfl, rfl⟩

theorem get_first {row : List Int} {x st : Int} (r : IsR w b (x :: row) none st) :
    Calls Try.prog 13 #[.pointer (some ⟨b, 0, none⟩)] w fun e w' => e = .returned (.tuple #[.int .i64 x, .bool true]) ∧ IsR w' b row none 0 ∧ w.grownBy w' (some b) := by
  obtain ⟨c7, c8, ⟨nx, c9⟩, c10, f⟩ := cells_is r
  simp only [Option.isSome_none] at c8
  have b1 : (((x :: row).length : Int) == 0) = false := by rw [beq_eq_false_iff_ne]; simp; omega
  have hb := r.lt
  have R := Lib.hid r
  clear r c9
  generalize (x :: row).length = n at *
  go_enter Try.func13, Try.ntmps13
  go_wp2_with fail
  refine (pop_is (setStreakIs R.out 0 (by decide) (by decide)) 1 (by simp)).mono ?_
  rintro e w1 ⟨v, rfl, ho, hr, hg⟩
  obtain ⟨g, c, rfl, cg, hgb⟩ := owns_one (show Owns w1 _ v [x] by simpa using ho)
  have hr' : IsR w1 b row none 0 := by simpa using hr
  obtain ⟨d7, d8, ⟨nx', d9⟩, d10, f'⟩ := cells_is hr'
  simp only [Option.isSome_none] at d8
  have HR := Lib.hid hr'
  have HG := Lib.hid (grown_trans (grown_set (World.grownBy.refl w (some b)) 260 (.int .i64 0)) hg (fun j hj => .inr hj))
  clear hr hg hr' ho d7 d9 d10 f' c10 c7 c8
  go_wp2
  go_ret2
  exact ⟨rfl, HR.out, HG.out⟩

theorem get_turn {row : List Int} {x g st : Int} (r : IsR w b (x :: row) (some g) st) (hs : ¬ st < 4) :
    Calls Try.prog 13 #[.pointer (some ⟨b, 0, none⟩)] w fun e w' => e = .returned (.tuple #[.int .i64 x, .bool true]) ∧ IsR w' b (row ++ [g]) none 0 ∧ w.grownBy w' (some b) := by
  obtain ⟨c7, c8, ⟨nx, c9⟩, c10, f⟩ := cells_is r
  simp only [Option.isSome_some] at c8
  have hrl : row.length < 256 := by obtain ⟨_, _, _, r, _⟩ := r; have := r.size; simp at this; omega
  have b1 : (((x :: row).length : Int) == 0) = false := by rw [beq_eq_false_iff_ne]; simp; omega
  have hb := r.lt
  have R := Lib.hid r
  clear r c9
  generalize (x :: row).length = n at *
  go_enter Try.func13, Try.ntmps13
  go_wp2_with fail
  refine (pop_is (setStreakIs R.out 0 (by decide) (by decide)) 1 (by simp)).mono ?_
  rintro e w1 ⟨v, rfl, ho, hr, hg⟩
  obtain ⟨gb, c, rfl, cg, hgb⟩ := owns_one (show Owns w1 _ v [x] by simpa using ho)
  have hr' : IsR w1 b row (some g) 0 := by simpa using hr
  obtain ⟨d7, d8, ⟨nx', d9⟩, d10, f'⟩ := cells_is hr'
  simp only [Option.isSome_some] at d8
  have HR := Lib.hid hr'
  have HG := Lib.hid (grown_trans (grown_set (World.grownBy.refl w (some b)) 260 (.int .i64 0)) hg (fun j hj => .inr hj))
  clear hr hg hr' ho d7 d9 d10 f' c10 c7 c8
  go_wp2_with fail
  refine (take_is HR.out).mono ?_
  rintro e w2 ⟨rfl, hr2, hg2⟩
  have HR2 := Lib.hid hr2
  have HG2 := Lib.hid (grown_trans HG.out hg2 (fun j hj => .inr hj))
  clear hr2 hg2
  go_wp2_with fail
  refine (push_is HR2.out hrl g).mono ?_
  rintro e w3 ⟨rfl, hr3, hg3⟩
  have HR3 := Lib.hid hr3
  have HG3 := Lib.hid (grown_trans HG2.out hg3 (fun j hj => .inr hj))
  clear hr3 hg3
  go_wp2
  go_ret2
  exact ⟨rfl, HR3.out, HG3.out⟩

theorem steal_next {g st : Int} (r : IsR w b [] (some g) st) :
    Calls Try.prog 19 #[.pointer (some ⟨b, 0, none⟩)] w fun e w' => ∃ v, e = .returned v ∧ Owns w' w.heap.size v [g] ∧ IsR w' b [] none 0 ∧ w.grownBy w' (some b) := by
  obtain ⟨c7, c8, ⟨nx, c9⟩, c10, f⟩ := cells_is r
  simp only [List.length_nil, Option.isSome_some, Option.getD_some] at c7 c8 c9
  have R := Lib.hid r
  clear r
  go_enter Try.func19, Try.ntmps19
  go_wp2_with fail
  refine (take_is (setStreakIs R.out 0 (by decide) (by decide))).mono ?_
  rintro e w1 ⟨rfl, hr, hg⟩
  have HR := Lib.hid hr
  have HG := Lib.hid (grown_trans (grown_set (World.grownBy.refl w (some b)) 260 (.int .i64 0)) hg (fun j hj => .inr hj))
  clear hr hg
  go_wp2
  go_ret
  exact ⟨_, rfl, World.ownsRow_lit w1 #[.int .i64 g] 1 HG.out.size (by decide) rfl, HR.out.below ((Below.refl _ _).alloc (Nat.le_refl _) _), grown_trans HG.out (World.grownBy_alloc w1 _ none) (fun j hj => by cases hj)⟩

theorem steal_row {row : List Int} {nxt : Option Int} {st : Int} (r : IsR w b row nxt st) (h : row ≠ [] ∨ nxt = none) :
    Calls Try.prog 19 #[.pointer (some ⟨b, 0, none⟩)] w fun e w' => ∃ v, e = .returned v ∧ Owns w' w.heap.size v (row.take ((row.length + 1) / 2)) ∧ IsR w' b (row.drop ((row.length + 1) / 2)) nxt st ∧ w.grownBy w' (some b) := by
  obtain ⟨c7, c8, ⟨nx, c9⟩, c10, f⟩ := cells_is r
  have hrl : row.length ≤ 256 := by obtain ⟨_, _, _, r, _⟩ := r; exact r.size
  have hd : ((row.length : Int) + 1).tdiv 2 = (((row.length + 1) / 2 : Nat) : Int) := by
    rw [Int.tdiv_eq_ediv_of_nonneg (by omega)]; omega
  have hd2 : ((row.length : Int) + 1) / 2 = (((row.length + 1) / 2 : Nat) : Int) := by omega
  have HP := Lib.hid (pop_is r ((row.length + 1) / 2) (by omega))
  by_cases hn : row = []
  · have hx : nxt = none := h.resolve_left (fun e => e hn)
    subst hn; subst hx
    simp only [List.length_nil, Option.isSome_none] at c7 c8
    clear c9 r h hd hd2
    go_enter Try.func19, Try.ntmps19
    go_wp2_with fail
    refine HP.out.mono ?_
    rintro e w1 ⟨v, rfl, ho, hr, hg⟩
    go_wp2
    go_ret
    exact ⟨_, rfl, ho, hr, hg⟩
  · have b1 : ((row.length : Int) == 0) = false := by rw [beq_eq_false_iff_ne]; have := List.length_pos_iff.2 hn; omega
    generalize nxt.isSome = is at c8
    have hd' := Lib.hid hd
    have hd2' := Lib.hid hd2
    clear c9 r h hd hd2 hn
    go_enter Try.func19, Try.ntmps19
    go_wp2_with fail
    rw [hd2'.out]
    refine HP.out.mono ?_
    rintro e w1 ⟨v, rfl, ho, hr, hg⟩
    have HO := Lib.hid ho
    have HR := Lib.hid hr
    have HG := Lib.hid hg
    clear ho hr hg
    go_wp2
    go_ret
    exact ⟨_, rfl, HO.out, HR.out, HG.out⟩
end
end Go.Proofs.Ytkcoidapnmoljaa.Rng
