/-
  The library's sort at uint16: order2Ordered, medianOrdered, medianAdjacentOrdered, choosePivotOrdered: a place in the range, and a hint.
-/
import Derived.Test.YtefpbfdbpckcmaaSoPins
namespace Go.Proofs.Ytefpbfdbpckcmaa.So
open Go.RowKit Go.Sort
set_option linter.unusedVariables false

/-- The row as it is; how many swaps were counted, in block sb; else nothing is other than in w0. -/
structure Cnt (w0 : World) (b off : Nat) (d : Array Int) (sb s : Nat) (w : World) : Prop where
  holds : Holds (Value.int .u16) w b off d
  sw : w.heap[sb]? = some (.cells #[.int .i64 s] 3 (0, 0))
  grown : w0.grownBy w (some sb)
theorem Cnt.drewN {w0 w : World} {b off sb s : Nat} {d : Array Int} (h : Cnt w0 b off d sb s w) (q : Nat) : Cnt w0 b off d sb s (w.drewN q) :=
  ⟨h.holds, h.sw, ⟨h.grown.os, h.grown.tape, h.grown.output, h.grown.size, h.grown.block⟩⟩
theorem Cnt.put {w0 w : World} {b off sb s : Nat} {d : Array Int} (h : Cnt w0 b off d sb s w) (hne : sb ≠ b) (s' : Nat) : Cnt w0 b off d sb s' (w.setCell ⟨sb, 0, none⟩ (.int .i64 s')) := by
  refine ⟨fun t ht => ?_, ?_, grownBy_trans h.grown ⟨rfl, rfl, rfl, by simp, fun k hk hk2 => heap_setCell_other w _ _ _ (fun e => hk2 (by rw [e]))⟩⟩
  · have hh : (w.setCell ⟨sb, 0, none⟩ (.int .i64 (s' : Int))).heap[b]? = w.heap[b]? := heap_setCell_other _ _ _ _ (Ne.symm hne)
    exact ⟨(World.cell?_of_block (a := ⟨b, off + t, none⟩) hh).trans (h.holds t ht).1, (World.frozen?_of_block (a := ⟨b, off + t, none⟩) hh).trans (h.holds t ht).2⟩
  · exact heap_setCell_same w sb 0 _ _ _ h.sw

set_option maxRecDepth 100000 in
set_option maxHeartbeats 2000000 in
theorem order2_is {w0 w : World} {b off cap n sb s x y : Nat} {d : Array Int} (hn : d.size = n) (h : Cnt w0 b off d sb s w) (hne : sb ≠ b) (hx : x < n) (hy : y < n) (hs : s ≤ 1000) (hsz : n < 1152921504606846976) :
    Calls Try.prog 55 #[.slice (some ⟨b, off, none⟩) n cap, .int .i64 x, .int .i64 y, .pointer (some ⟨sb, 0, none⟩)] w fun e w' => ∃ p q s' : Nat, e = .returned (.tuple #[.int .i64 p, .int .i64 q]) ∧ (p = x ∧ q = y ∨ p = y ∧ q = x) ∧ s' ≤ s + 1 ∧ Cnt w0 b off d sb s' w' := by
  have H := Lib.hid (And.intro h hn)
  obtain ⟨G, hG⟩ : ∃ G : Nat → Int, ∀ t, G t = d[t]! := ⟨fun t => d[t]!, fun _ => rfl⟩
  have hcw : ∀ t, t < n → w.cell? ⟨b, off + t, none⟩ = some (.int .u16 (G t)) := fun t ht => by rw [hG]; exact (h.holds t (by omega)).1
  have c0 : w.cell? ⟨sb, 0, none⟩ = some (.int .i64 s) := cell_of_row _ _ 0 _ _ _ h.sw
  have f0 : w.frozen? ⟨sb, 0, none⟩ = false := frozen_of_row _ _ 0 _ _ h.sw
  clear h hn hG
  go_enter Try.func55, Try.ntmps55
  go_wp2
  go_quiet (first | (go_at_call 44; refine Calls.quiet_of_same (less_is _ _ _)))
  go_wp2
  · go_ret2
    exact ⟨y, x, s + 1, rfl, .inr ⟨rfl, rfl⟩, by omega, (H.out.1.drewN nq).put hne (s + 1)⟩
  · go_ret2
    exact ⟨x, y, s, rfl, .inl ⟨rfl, rfl⟩, by omega, H.out.1.drewN nq⟩

set_option maxRecDepth 100000 in
set_option maxHeartbeats 2000000 in
theorem median_is {w0 w : World} {b off cap n sb s x y z : Nat} {d : Array Int} (hn : d.size = n) (h : Cnt w0 b off d sb s w) (hne : sb ≠ b) (hx : x < n) (hy : y < n) (hz : z < n) (hs : s ≤ 900) (hsz : n < 1152921504606846976) :
    Calls Try.prog 53 #[.slice (some ⟨b, off, none⟩) n cap, .int .i64 x, .int .i64 y, .int .i64 z, .pointer (some ⟨sb, 0, none⟩)] w fun e w' => ∃ p s' : Nat, e = .returned (.int .i64 p) ∧ (p = x ∨ p = y ∨ p = z) ∧ s' ≤ s + 3 ∧ Cnt w0 b off d sb s' w' := by
  have H := Lib.hid h
  have HN := Lib.hid hn
  clear h hn
  go_enter Try.func53, Try.ntmps53
  go_wp2_with fail
  refine (order2_is HN.out H.out hne hx hy (by omega) hsz).mono ?_
  rintro e w1 ⟨p1, q1, s1, rfl, hpq1, hs1, h1⟩
  have H1 := Lib.hid (And.intro h1 hpq1)
  clear h1 hpq1 H
  go_wp2_with fail
  refine (order2_is HN.out H1.out.1 hne (by rcases H1.out.2 with h | h <;> omega) hz (by omega) hsz).mono ?_
  rintro e w2 ⟨p2, q2, s2, rfl, hpq2, hs2, h2⟩
  have H2 := Lib.hid (And.intro h2 hpq2)
  clear h2 hpq2
  go_wp2_with fail
  refine (order2_is HN.out H2.out.1 hne (by rcases H1.out.2 with h | h <;> omega) (by rcases H2.out.2 with h | h <;> rcases H1.out.2 with k | k <;> omega) (by omega) hsz).mono ?_
  rintro e w3 ⟨p3, q3, s3, rfl, hpq3, hs3, h3⟩
  have H3 := Lib.hid (And.intro h3 hpq3)
  clear h3 hpq3
  go_wp2
  go_ret
  exact ⟨q3, s3, rfl, by rcases H1.out.2 with h | h <;> rcases H2.out.2 with k | k <;> rcases H3.out.2 with l | l <;> omega, by omega, H3.out.1⟩

set_option maxRecDepth 100000 in
set_option maxHeartbeats 2000000 in
theorem medadj_is {w0 w : World} {b off cap n sb s x : Nat} {d : Array Int} (hn : d.size = n) (h : Cnt w0 b off d sb s w) (hne : sb ≠ b) (hx : 1 ≤ x) (hy : x + 1 < n) (hs : s ≤ 900) (hsz : n < 1152921504606846976) :
    Calls Try.prog 52 #[.slice (some ⟨b, off, none⟩) n cap, .int .i64 x, .pointer (some ⟨sb, 0, none⟩)] w fun e w' => ∃ p s' : Nat, e = .returned (.int .i64 p) ∧ x ≤ p + 1 ∧ p ≤ x + 1 ∧ s' ≤ s + 3 ∧ Cnt w0 b off d sb s' w' := by
  have H := Lib.hid h
  have HN := Lib.hid hn
  clear h hn
  obtain ⟨m, hm⟩ : ∃ m, m = x - 1 := ⟨_, rfl⟩
  obtain ⟨q, hq⟩ : ∃ q, q = x + 1 := ⟨_, rfl⟩
  have e1 : (x : Int) - 1 = (m : Int) := by omega
  have e2 : (x : Int) + 1 = (q : Int) := by omega
  have hmn : m < n := by omega
  have hqn : q < n := by omega
  have HM := Lib.hid (And.intro hm hq)
  clear hm hq
  go_enter Try.func52, Try.ntmps52
  go_wp2_with fail
  refine (median_is HN.out H.out hne hmn (by omega) hqn hs hsz).mono ?_
  rintro e w1 ⟨p1, s1, rfl, hp, hs1, h1⟩
  have H1 := Lib.hid h1
  have HP := Lib.hid hp
  clear h1 H hp e1 e2
  go_wp2
  go_ret
  exact ⟨p1, s1, rfl, by have := HP.out; have := HM.out; omega, by have := HP.out; have := HM.out; omega, hs1, H1.out⟩
end Go.Proofs.Ytefpbfdbpckcmaa.So
