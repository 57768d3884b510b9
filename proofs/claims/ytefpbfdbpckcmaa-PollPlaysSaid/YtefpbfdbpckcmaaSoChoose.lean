/-
  The library's sort at uint16: choosePivotOrdered, of more than twelve.
-/
import Derived.Test.YtefpbfdbpckcmaaSoPivot
namespace Go.Proofs.Ytefpbfdbpckcmaa.So
open Go.RowKit Go.Sort
set_option linter.unusedVariables false

theorem row_of_cnt {w w1 w' : World} {b off s : Nat} {d : Array Int} {o : Obj} (h : Cnt w1 b off d w.heap.size s w') (h1 : w1 = w.alloc o) : Row w b off d w' := by
  subst h1
  exact ⟨h.holds, ⟨h.grown.os, h.grown.tape, h.grown.output, by have := h.grown.size; simp at this; omega, fun k hk _ => (h.grown.block k (by simp; omega) (fun e => by have := Option.some.inj e; omega)).trans (heap_alloc_old _ _ hk)⟩⟩

set_option maxRecDepth 100000 in
set_option maxHeartbeats 2000000 in
theorem choose_is {w : World} {b off cap n lo hi : Nat} {d : Array Int} (hn : d.size = n) (hH : Holds (Value.int .u16) w b off d) (hbw : b < w.heap.size) (hlo : lo + 12 < hi) (hhi : hi ≤ n) (hsz : n < 1152921504606846976) :
    Calls Try.prog 41 #[.slice (some ⟨b, off, none⟩) n cap, .int .i64 lo, .int .i64 hi] w fun e w' => ∃ p h : Nat, e = .returned (.tuple #[.int .i64 p, .int .i64 h]) ∧ lo ≤ p ∧ p < hi ∧ h ≤ 2 ∧ Row w b off d w' := by
  obtain ⟨l, hl⟩ : ∃ l, l = hi - lo := ⟨_, rfl⟩
  obtain ⟨q, hq⟩ : ∃ q, q = l / 4 := ⟨_, rfl⟩
  obtain ⟨i, hi'⟩ : ∃ i, i = lo + q := ⟨_, rfl⟩
  obtain ⟨j, hj'⟩ : ∃ j, j = lo + q * 2 := ⟨_, rfl⟩
  obtain ⟨k, hk'⟩ : ∃ k, k = lo + q * 3 := ⟨_, rfl⟩
  have e1 : (hi : Int) - (lo : Int) = (l : Int) := by omega
  have e2 : (l : Int) / 4 = (q : Int) := by omega
  have e2' : (l : Int).tdiv 4 = (q : Int) := by rw [Int.tdiv_eq_ediv_of_nonneg (by omega)]; exact e2
  have e3 : (lo : Int) + (q : Int) = (i : Int) := by omega
  have e4 : (lo : Int) + (q : Int) * 2 = (j : Int) := by omega
  have e5 : (lo : Int) + (q : Int) * 3 = (k : Int) := by omega
  have h8 : (8 : Int) ≤ (l : Int) := by omega
  have hqn : q < n := by omega
  have hln : l ≤ n := by omega
  have bi : lo + 1 ≤ i ∧ i + 1 < hi := by omega
  have bj : lo + 1 ≤ j ∧ j + 1 < hi := by omega
  have bk : lo + 1 ≤ k ∧ k + 1 < hi := by omega
  have hC : Cnt (w.alloc (.cells #[.int .i64 0] 3)) b off d w.heap.size 0 (w.alloc (.cells #[.int .i64 0] 3)) :=
    ⟨fun t ht => by
      have hb : (w.alloc (.cells #[.int .i64 0] 3)).heap[b]? = w.heap[b]? := heap_alloc_old _ _ hbw
      exact ⟨(World.cell?_of_block (a := ⟨b, off + t, none⟩) hb).trans (hH t ht).1, (World.frozen?_of_block (a := ⟨b, off + t, none⟩) hb).trans (hH t ht).2⟩, heap_alloc_new _ _, ⟨rfl, rfl, rfl, Nat.le_refl _, fun _ _ _ => rfl⟩⟩
  have HC := Lib.hid hC
  have HN := Lib.hid hn
  have HB := Lib.hid (And.intro hl (And.intro hq (And.intro hi' (And.intro hj' hk'))))
  have hne : w.heap.size ≠ b := by omega
  clear hC hn hH hl hq hi' hj' hk'
  by_cases h50 : 50 ≤ l
  · have h50' : (50 : Int) ≤ (l : Int) := by omega
    go_enter Try.func41, Try.ntmps41
    go_wp2_with fail
    refine (medadj_is HN.out HC.out hne (x := i) (by omega) (by omega) (by omega) hsz).mono ?_
    rintro e w1 ⟨p1, s1, rfl, ha1, hb1, hs1, h1⟩
    have H1 := Lib.hid h1
    clear h1
    go_wp2_with fail
    refine (medadj_is HN.out H1.out hne (x := j) (by omega) (by omega) (by omega) hsz).mono ?_
    rintro e w2 ⟨p2, s2, rfl, ha2, hb2, hs2, h2⟩
    have H2 := Lib.hid h2
    clear h2
    go_wp2_with fail
    refine (medadj_is HN.out H2.out hne (x := k) (by omega) (by omega) (by omega) hsz).mono ?_
    rintro e w3 ⟨p3, s3, rfl, ha3, hb3, hs3, h3⟩
    have H3 := Lib.hid h3
    clear h3
    go_wp2_with fail
    refine (median_is HN.out H3.out hne (by omega) (by omega) (by omega) (by omega) hsz).mono ?_
    rintro e w4 ⟨p4, s4, rfl, hp4, hs4, h4⟩
    have c0 : w4.cell? ⟨w.heap.size, 0, none⟩ = some (.int .i64 s4) := cell_of_row _ _ 0 _ _ _ h4.sw
    have HR := Lib.hid (row_of_cnt h4 rfl)
    have HP := Lib.hid (show lo ≤ p4 ∧ p4 < hi by omega)
    clear h4 hp4
    rcases (show s4 = 0 ∨ s4 = 12 ∨ (((s4 : Int) == 0) = false ∧ ((s4 : Int) == 12) = false) by by_cases ha : s4 = 0; (exact .inl ha); by_cases hb : s4 = 12; (exact .inr (.inl hb)); exact .inr (.inr ⟨by simp; omega, by simp; omega⟩)) with rfl | rfl | ⟨hq0, hq1⟩
    · go_wp2
      go_ret2
      exact ⟨p4, 1, rfl, HP.out.1, HP.out.2, by decide, HR.out⟩
    · go_wp2
      go_ret2
      exact ⟨p4, 2, rfl, HP.out.1, HP.out.2, by decide, HR.out⟩
    · go_wp2
      go_ret2
      exact ⟨p4, 0, rfl, HP.out.1, HP.out.2, by decide, HR.out⟩
  · have h50' : ¬ (50 : Int) ≤ (l : Int) := by omega
    go_enter Try.func41, Try.ntmps41
    go_wp2_with fail
    refine (median_is HN.out HC.out hne (by omega) (by omega) (by omega) (by omega) hsz).mono ?_
    rintro e w4 ⟨p4, s4, rfl, hp4, hs4, h4⟩
    have c0 : w4.cell? ⟨w.heap.size, 0, none⟩ = some (.int .i64 s4) := cell_of_row _ _ 0 _ _ _ h4.sw
    have HR := Lib.hid (row_of_cnt h4 rfl)
    have HP := Lib.hid (show lo ≤ p4 ∧ p4 < hi by omega)
    clear h4 hp4
    rcases (show s4 = 0 ∨ s4 = 12 ∨ (((s4 : Int) == 0) = false ∧ ((s4 : Int) == 12) = false) by by_cases ha : s4 = 0; (exact .inl ha); by_cases hb : s4 = 12; (exact .inr (.inl hb)); exact .inr (.inr ⟨by simp; omega, by simp; omega⟩)) with rfl | rfl | ⟨hq0, hq1⟩
    · go_wp2
      go_ret2
      exact ⟨p4, 1, rfl, HP.out.1, HP.out.2, by decide, HR.out⟩
    · go_wp2
      go_ret2
      exact ⟨p4, 2, rfl, HP.out.1, HP.out.2, by decide, HR.out⟩
    · go_wp2
      go_ret2
      exact ⟨p4, 0, rfl, HP.out.1, HP.out.2, by decide, HR.out⟩
end Go.Proofs.Ytefpbfdbpckcmaa.So
