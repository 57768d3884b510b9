/-
  Package ring: Put, Ready, Get, Steal, Streak.
-/
import Derived.Test.YtkcoidapnmoljaaRingPop
namespace Go.Proofs.Ytkcoidapnmoljaa.Rng
open Go.RowKit
open Go.Proofs.Ytkcoidapnmoljaa.Ints
set_option linter.unusedVariables false

theorem put_room {w : World} {b : Nat} {row : List Int} {nxt : Option Int} {st : Int} (r : IsR w b row nxt st) (hn : row.length < 256) (g : Int) :
    Calls Try.prog 15 #[.pointer (some ⟨b, 0, none⟩), .int .i64 g] w fun e w' => e = .returned (.slice none 0 0) ∧ IsR w' b (row ++ [g]) nxt st ∧ w.grownBy w' (some b) := by
  have b1 : ((row.length : Int) == 256) = false := by rw [beq_eq_false_iff_ne]; omega
  have b2 : (row.length == 256) = false := by rw [beq_eq_false_iff_ne]; omega
  have c2 : w.cell? ⟨b, 257, none⟩ = some (.int .i64 row.length) := by obtain ⟨_, _, _, r, _⟩ := r; exact r.c257
  have R := Lib.hid r
  clear r
  go_enter Try.func15, Try.ntmps15
  go_wp2_with fail
  refine (push_is R.out hn g).mono ?_
  rintro e w' ⟨rfl, hr, hg⟩
  have HR := Lib.hid hr
  have HG := Lib.hid hg
  clear hr hg
  go_wp2
  go_ret
  exact ⟨rfl, HR.out, HG.out⟩

theorem put_full {w : World} {b : Nat} {row : List Int} {nxt : Option Int} {st : Int} (r : IsR w b row nxt st) (hn : row.length = 256) (g : Int) :
    Calls Try.prog 15 #[.pointer (some ⟨b, 0, none⟩), .int .i64 g] w fun e w' => ∃ v, e = .returned v ∧ Owns w' w.heap.size v (row.take 128 ++ [g]) ∧ IsR w' b (row.drop 128) nxt st ∧ w.grownBy w' (some b) := by
  have c2 : w.cell? ⟨b, 257, none⟩ = some (.int .i64 256) := by obtain ⟨_, _, _, r, _⟩ := r; have := r.c257; rw [hn] at this; exact this
  have R := Lib.hid r
  have hlt := r.lt
  have hn2 : 128 ≤ row.length := by omega
  clear r
  clear hn
  go_enter Try.func15, Try.ntmps15
  go_wp2_with fail
  refine (pop_is R.out 128 hn2).mono ?_
  rintro e w1 ⟨v, rfl, ho, hr, hg⟩
  have hsz := hg.size
  have HR := Lib.hid hr
  have HG := Lib.hid hg
  have HO := Lib.hid ho
  clear hr hg ho
  go_wp2_with (refine wpList_append_one rfl _ _ rfl w1 w.heap.size v (row.take 128) g rfl HO.out rfl ?ql hsz ?_)
  case ql => simp; omega
  intro v' w2 ho2 hg2
  have hb : ∀ j, v.ownBlock = some j → w.heap.size ≤ j := fun j hj => (HO.out.block hj).1
  have HR2 := Lib.hid (HR.out.heap (hg2.block b HR.out.lt (fun e => by have := hb b e.symm; omega)))
  have HG2 := Lib.hid (grown_trans HG.out hg2 (fun j hj => .inl (hb j hj)))
  have HO2 := Lib.hid ho2
  clear ho2 hg2 hb
  go_wp2
  go_ret
  exact ⟨_, rfl, HO2.out, HR2.out, HG2.out⟩

theorem streak_is {w : World} {b : Nat} {row : List Int} {nxt : Option Int} {st : Int} (r : IsR w b row nxt st) :
    Calls Try.prog 23 #[.pointer (some ⟨b, 0, none⟩)] w fun e w' => e = .returned (.int .i64 st) ∧ w = w' := by
  obtain ⟨_, _, _, r, _⟩ := r
  have c := r.c260
  go_enter Try.func23, Try.ntmps23
  go_wp2
  go_ret
  exact ⟨rfl, rfl⟩

theorem setNextIs {w : World} {b : Nat} {row : List Int} {nxt : Option Int} {st : Int} (r : IsR w b row nxt st) (g : Int) :
    IsR ((w.setCell ⟨b, 259, none⟩ (.int .i64 g)).setCell ⟨b, 258, none⟩ (.bool true)) b row (some g) st := by
  obtain ⟨s, h, nx, r, a, c, d⟩ := r
  exact ⟨s, h, g, (r.setNext g).setIs true, a, c, d⟩

theorem cells_is {w : World} {b : Nat} {row : List Int} {nxt : Option Int} {st : Int} (r : IsR w b row nxt st) :
    w.cell? ⟨b, 257, none⟩ = some (.int .i64 row.length) ∧ w.cell? ⟨b, 258, none⟩ = some (.bool nxt.isSome) ∧ (∃ nx, w.cell? ⟨b, 259, none⟩ = some (.int .i64 (nxt.getD nx))) ∧ w.cell? ⟨b, 260, none⟩ = some (.int .i64 st) ∧ ∀ i, w.frozen? ⟨b, i, none⟩ = false := by
  obtain ⟨s, h, nx, r, a, c, d⟩ := r
  exact ⟨r.c257, r.c258, ⟨nx, r.c259⟩, r.c260, r.free⟩

theorem setStreakIs {w : World} {b : Nat} {row : List Int} {nxt : Option Int} {st : Int} (r : IsR w b row nxt st) (t : Int) (h0 : 0 ≤ t) (h4 : t ≤ 4) :
    IsR (w.setCell ⟨b, 260, none⟩ (.int .i64 t)) b row nxt t := by
  obtain ⟨s, h, nx, r, a, c, d⟩ := r
  exact ⟨s, h, nx, r.setStreak t, h0, h4, d⟩

theorem ready_none {w : World} {b : Nat} {row : List Int} {st : Int} (r : IsR w b row none st) (g : Int) :
    Calls Try.prog 12 #[.pointer (some ⟨b, 0, none⟩), .int .i64 g] w fun e w' => e = .returned (.slice none 0 0) ∧ IsR w' b row (some g) st ∧ w.grownBy w' (some b) := by
  obtain ⟨c7, c8, ⟨nx, c9⟩, c10, f⟩ := cells_is r
  have R := Lib.hid r
  clear r
  go_enter Try.func12, Try.ntmps12
  go_wp2_with fail
  refine (next_none R.out).mono ?_
  rintro e w' ⟨rfl, rfl⟩
  go_wp2
  go_ret
  exact ⟨rfl, setNextIs R.out g, grown_set (grown_set (World.grownBy.refl _ _) _ _) _ _⟩

theorem ready_room {w : World} {b : Nat} {row : List Int} {old st : Int} (r : IsR w b row (some old) st) (hn : row.length < 256) (g : Int) :
    Calls Try.prog 12 #[.pointer (some ⟨b, 0, none⟩), .int .i64 g] w fun e w' => e = .returned (.slice none 0 0) ∧ IsR w' b (row ++ [old]) (some g) st ∧ w.grownBy w' (some b) := by
  obtain ⟨c7, c8, ⟨nx, c9⟩, c10, f⟩ := cells_is r
  have R := Lib.hid r
  clear r
  go_enter Try.func12, Try.ntmps12
  go_wp2_with fail
  refine (next_some R.out).mono ?_
  rintro e w' ⟨rfl, rfl⟩
  go_wp2_with fail
  refine (put_room (setNextIs R.out g) hn old).mono ?_
  rintro e w1 ⟨rfl, hr, hg⟩
  have HR := Lib.hid hr
  have HG := Lib.hid (grown_trans (grown_set (grown_set (World.grownBy.refl w (some b)) 259 (.int .i64 g)) 258 (.bool true)) hg (fun j hj => .inr hj))
  clear hr hg
  go_wp2
  go_ret
  exact ⟨rfl, HR.out, HG.out⟩

theorem ready_full {w : World} {b : Nat} {row : List Int} {old st : Int} (r : IsR w b row (some old) st) (hn : row.length = 256) (g : Int) :
    Calls Try.prog 12 #[.pointer (some ⟨b, 0, none⟩), .int .i64 g] w fun e w' => ∃ v, e = .returned v ∧ Owns w' w.heap.size v (row.take 128 ++ [old]) ∧ IsR w' b (row.drop 128) (some g) st ∧ w.grownBy w' (some b) := by
  obtain ⟨c7, c8, ⟨nx, c9⟩, c10, f⟩ := cells_is r
  have R := Lib.hid r
  have hn' := Lib.hid hn
  clear r hn
  go_enter Try.func12, Try.ntmps12
  go_wp2_with fail
  refine (next_some R.out).mono ?_
  rintro e w' ⟨rfl, rfl⟩
  go_wp2_with fail
  refine (put_full (setNextIs R.out g) hn'.out old).mono ?_
  rintro e w1 ⟨v, rfl, ho, hr, hg⟩
  have HO := Lib.hid (show Owns w1 w.heap.size v (row.take 128 ++ [old]) by simpa using ho)
  have HR := Lib.hid hr
  have HG := Lib.hid (grown_trans (grown_set (grown_set (World.grownBy.refl w (some b)) 259 (.int .i64 g)) 258 (.bool true)) hg (fun j hj => .inr hj))
  clear hr hg ho
  go_wp2
  go_ret
  exact ⟨_, rfl, HO.out, HR.out, HG.out⟩
end Go.Proofs.Ytkcoidapnmoljaa.Rng
