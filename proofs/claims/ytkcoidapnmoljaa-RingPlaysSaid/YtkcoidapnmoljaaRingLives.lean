/-
  The laws' helpers: row, lives.
-/
import Derived.Test.YtkcoidapnmoljaaRingNew
namespace Go.Proofs.Ytkcoidapnmoljaa.Rng
open Go.RowKit
open Go.Proofs.Ytkcoidapnmoljaa.Ints
set_option linter.unusedVariables false

/-- n numbers from f on. -/
def upFrom (f : Int) (n : Nat) : List Int := (List.range n).map fun i : Nat => f + (i : Int)
theorem upFrom_succ (f : Int) (n : Nat) : upFrom f (n + 1) = upFrom f n ++ [f + n] := by simp [upFrom, List.range_succ]
theorem upFrom_len (f : Int) (n : Nat) : (upFrom f n).length = n := by simp [upFrom]
theorem upFrom_get (f : Int) (n i : Nat) (h : i < n) : (upFrom f n)[i]? = some (f + i) := by simp [upFrom, h]

set_option maxHeartbeats 400000 in
theorem row_is (w : World) (f : Int) (n : Nat) (h1 : -1000000000000 ≤ f) (h2 : f ≤ 1000000000000) (hn : n ≤ 1000000) :
    Calls Try.prog 11 #[.int .i64 f, .int .i64 n] w fun e w' => ∃ v, e = .returned v ∧ Owns w' w.heap.size v (upFrom f n) ∧ w.grownBy w' none := by
  go_enter Try.func11, Try.ntmps11
  go_wp2
  go_loopw [5, 8] (fun ov i wr => ∃ k : Nat, k ≤ n ∧ i = .int .i64 k ∧ Owns wr w.heap.size ov (upFrom f k) ∧ w.grownBy wr none) (fun _ i _ => n - (intOf i).toNat)
  case atStart => exact ⟨0, Nat.zero_le _, rfl, World.ownsRow_nil _ _ _ _, World.grownBy.refl _ _⟩
  case round =>
    obtain ⟨k, hk, rfl, ho, hg⟩ := hrel
    have HO := Lib.hid ho
    have HG := Lib.hid hg
    have hsz := hg.size
    clear ho hg
    by_cases hlen : k < n
    · go_wp2_with (refine wpList_append_one rfl _ _ rfl wr w.heap.size u5 (upFrom f k) (f + k) rfl HO.out rfl ?ql hsz ?_)
      case ql => rw [upFrom_len]; omega
      intro v' w3 ho3 hg3
      rw [← upFrom_succ] at ho3
      have HO3 := Lib.hid ho3
      have HG3 : Hid (w.grownBy w3 none) := Lib.hid (grown_trans HG.out hg3 (fun j hj => .inl (HO.out.block hj).1))
      clear ho3 hg3
      go_wp2
      go_roundw
      case rel => exact ⟨k + 1, by omega, by go_num, HO3.out, HG3.out⟩
      case measure => simp [intOf]; omega
    · obtain rfl : k = n := by omega
      go_wp2
      go_ret
      exact ⟨_, rfl, HO.out, HG.out⟩

theorem below_step {w a b : World} {x B : Nat} (h : Below B w a) (k : a.grownBy b (some x)) (hx : B ≤ x) (hB : B ≤ a.heap.size) : Below B w b :=
  ⟨k.os.trans h.os, k.tape.trans h.tape, k.output.trans h.output, Nat.le_trans h.size k.size, fun j hj => (k.block j (by omega) (fun e => by have := Option.some.inj e; omega)).trans (h.block j hj)⟩
theorem below_none {w a b : World} {B : Nat} (h : Below B w a) (k : a.grownBy b none) (hB : B ≤ a.heap.size) : Below B w b :=
  ⟨k.os.trans h.os, k.tape.trans h.tape, k.output.trans h.output, Nat.le_trans h.size k.size, fun j hj => (k.block j (by omega) (by simp)).trans (h.block j hj)⟩

theorem lives_is (w : World) : Calls Try.prog 8 #[] w fun e w' => e = .returned (.bool true) ∧ Below w.heap.size w w' := by
  go_enter Try.func8, Try.ntmps8
  go_wp2_with fail
  refine (new_is w).mono ?_
  rintro e w1 ⟨rfl, hr, hg⟩
  have H1 := Lib.hid (And.intro hr (below_none (Below.refl w.heap.size w) hg (Nat.le_refl _)))
  clear hr hg
  go_wp2_with fail
  refine (ready_none H1.out.1 1).mono ?_
  rintro e w2 ⟨rfl, hr, hg⟩
  have H2 := Lib.hid (And.intro hr (below_step H1.out.2 hg (Nat.le_refl _) H1.out.2.size))
  clear hr hg
  go_wp2_with fail
  refine (put_room H2.out.1 (by simp) 2).mono ?_
  rintro e w3 ⟨rfl, hr, hg⟩
  have H3 := Lib.hid (And.intro hr (below_step H2.out.2 hg (Nat.le_refl _) H2.out.2.size))
  clear hr hg
  go_wp2_with fail
  refine (get_next H3.out.1 (by simp) (by decide)).mono ?_
  rintro e w4 ⟨rfl, hr, hg⟩
  have H4 := Lib.hid (And.intro hr (below_step H3.out.2 hg (Nat.le_refl _) H3.out.2.size))
  clear hr hg
  go_wp2_with fail
  refine (ready_none H4.out.1 3).mono ?_
  rintro e w5 ⟨rfl, hr, hg⟩
  have H5 := Lib.hid (And.intro hr (below_step H4.out.2 hg (Nat.le_refl _) H4.out.2.size))
  clear hr hg
  go_wp2_with fail
  refine (ready_room H5.out.1 (by simp) 4).mono ?_
  rintro e w6 ⟨rfl, hr, hg⟩
  have H6 := Lib.hid (And.intro hr (below_step H5.out.2 hg (Nat.le_refl _) H5.out.2.size))
  clear hr hg
  go_wp2_with fail
  refine (next_some H6.out.1).mono ?_
  rintro e w7 ⟨rfl, rfl⟩
  go_wp2_with fail
  refine (list_is H6.out.1).mono ?_
  rintro e w8 ⟨v, rfl, ho, hg⟩
  have HS := Lib.hid (show Sees w8 v [2, 3, 4] by simpa using ho.sees)
  have HB := Lib.hid (below_none H6.out.2 hg H6.out.2.size)
  clear ho hg
  go_wp2_with fail
  refine (same_any (HS.out.below ((Below.refl _ _).alloc (Nat.le_refl _) _)) (Owns.sees (show Owns _ w8.heap.size _ [2, 3, 4] from World.ownsRow_lit w8 #[.int .i64 2, .int .i64 3, .int .i64 4] 3 (Nat.le_refl _) (by decide) rfl))).mono ?_
  rintro e w9 ⟨rfl, hd⟩
  have HD := Lib.hid hd
  clear hd
  go_wp2
  go_ret
  exact ⟨rfl, (HB.out.alloc HB.out.size _).trans (HD.out.below _)⟩
end Go.Proofs.Ytkcoidapnmoljaa.Rng
