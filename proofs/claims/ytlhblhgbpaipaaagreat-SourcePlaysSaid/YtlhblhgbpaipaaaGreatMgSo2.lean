import Derived.Test.YtlhblhgbpaipaaaGreatSoPins
import Derived.Test.YtlhblhgbpaipaaaGreatMgSo
import Derived.Shelf.SlGeneric
import Derived.Shelf.SlSortCmp.Xorshift
import Derived.Ground.SlsfProg
import Derived.Laws.Bits64b
/- SoPivot -/
namespace Go.Proofs.YtlhblhgbpaipaaaGreat.So
open Go.RowKit Go.Sort
set_option linter.unusedVariables false

/-- The row as it is; how many swaps were counted, in block sb; else nothing is other than in w0. -/
structure Cnt (w0 : World) (b off : Nat) (d : Array Int) (sb s : Nat) (w : World) : Prop where
  holds : Holds (Value.int .u16) w b off d
  sw : w.heap[sb]? = some (.cells #[.int .i64 s] 3 (0, 0))
  grown : w0.grownBy w (some sb)
theorem Cnt.drewN {w0 w : World} {b off sb s : Nat} {d : Array Int} (h : Cnt w0 b off d sb s w) (q : Nat) : Cnt w0 b off d sb s (w.drewN q) :=
  ⟨h.holds, h.sw, ⟨h.grown.os, h.grown.tape, h.grown.output, h.grown.size, h.grown.block⟩⟩
theorem Cnt.put {w0 w : World} {b off sb s : Nat} {d : Array Int} (h : Cnt w0 b off d sb s w) (hne : sb ≠ b) (s' : Nat) : Cnt w0 b off d sb s' (w.setCell ⟨sb, 0, none⟩ (.int .i64 s')) := by
  refine ⟨fun t ht => ?_, ?_, grownBy_trans h.grown ⟨rfl, rfl, rfl, by simp, fun k hk hk2 => heap_setCell_other w _ _ _ (fun e => hk2 (by rw [e]))⟩⟩
  · have hh : (w.setCell ⟨sb, 0, none⟩ (.int .i64 (s' : Int))).heap[b]? = w.heap[b]? := heap_setCell_other _ _ _ _ (Ne.symm hne)
    exact ⟨(World.cell?_of_block (a := ⟨b, off + t, none⟩) hh).trans (h.holds t ht).1, (World.frozen?_of_block (a := ⟨b, off + t, none⟩) hh).trans (h.holds t ht).2⟩
  · exact heap_setCell_same w sb 0 _ _ _ h.sw

set_option maxRecDepth 100000 in
set_option maxHeartbeats 2000000 in
theorem order2_is {w0 w : World} {b off cap n sb s x y : Nat} {d : Array Int} (hn : d.size = n) (h : Cnt w0 b off d sb s w) (hne : sb ≠ b) (hx : x < n) (hy : y < n) (hs : s ≤ 1000) (hsz : n < 1152921504606846976) :
    Calls Tryz.prog 110 #[.slice (some ⟨b, off, none⟩) n cap, .int .i64 x, .int .i64 y, .pointer (some ⟨sb, 0, none⟩)] w fun e w' => ∃ p q s' : Nat, e = .returned (.tuple #[.int .i64 p, .int .i64 q]) ∧ (p = x ∧ q = y ∨ p = y ∧ q = x) ∧ s' ≤ s + 1 ∧ Cnt w0 b off d sb s' w' := by
  have H := Lib.hid (And.intro h hn)
  obtain ⟨G, hG⟩ : ∃ G : Nat → Int, ∀ t, G t = d[t]! := ⟨fun t => d[t]!, fun _ => rfl⟩
  have hcw : ∀ t, t < n → w.cell? ⟨b, off + t, none⟩ = some (.int .u16 (G t)) := fun t ht => by rw [hG]; exact (h.holds t (by omega)).1
  have c0 : w.cell? ⟨sb, 0, none⟩ = some (.int .i64 s) := cell_of_row _ _ 0 _ _ _ h.sw
  have f0 : w.frozen? ⟨sb, 0, none⟩ = false := frozen_of_row _ _ 0 _ _ h.sw
  clear h hn hG
  go_enter Tryz.func110, Tryz.ntmps110
  go_wp2
  go_quiet (first | (go_at_call 96; refine Calls.quiet_of_same (less_is _ _ _)))
  go_wp2
  · go_ret2
    exact ⟨y, x, s + 1, rfl, .inr ⟨rfl, rfl⟩, by omega, (H.out.1.drewN nq).put hne (s + 1)⟩
  · go_ret2
    exact ⟨x, y, s, rfl, .inl ⟨rfl, rfl⟩, by omega, H.out.1.drewN nq⟩

set_option maxRecDepth 100000 in
set_option maxHeartbeats 2000000 in
theorem median_is {w0 w : World} {b off cap n sb s x y z : Nat} {d : Array Int} (hn : d.size = n) (h : Cnt w0 b off d sb s w) (hne : sb ≠ b) (hx : x < n) (hy : y < n) (hz : z < n) (hs : s ≤ 900) (hsz : n < 1152921504606846976) :
    Calls Tryz.prog 108 #[.slice (some ⟨b, off, none⟩) n cap, .int .i64 x, .int .i64 y, .int .i64 z, .pointer (some ⟨sb, 0, none⟩)] w fun e w' => ∃ p s' : Nat, e = .returned (.int .i64 p) ∧ (p = x ∨ p = y ∨ p = z) ∧ s' ≤ s + 3 ∧ Cnt w0 b off d sb s' w' := by
  have H := Lib.hid h
  have HN := Lib.hid hn
  clear h hn
  go_enter Tryz.func108, Tryz.ntmps108
  go_wp2_with fail
  refine (order2_is HN.out H.out hne hx hy (by omega) hsz).mono ?_
  rintro e w1 ⟨p1, q1, s1, rfl, hpq1, hs1, h1⟩
  have H1 := Lib.hid (And.intro h1 hpq1)
  clear h1 hpq1 H
  go_wp2_with fail
  refine (order2_is HN.out H1.out.1 hne (by rcases H1.out.2 with h | h <;> omega) hz (by omega) hsz).mono ?_
  rintro e w2 ⟨p2, q2, s2, rfl, hpq2, hs2, h2⟩
  have H2 := Lib.hid (And.intro h2 hpq2)
  clear h2 hpq2
  go_wp2_with fail
  refine (order2_is HN.out H2.out.1 hne (by rcases H1.out.2 with h | h <;> omega) (by rcases H2.out.2 with h | h <;> rcases H1.out.2 with k | k <;> omega) (by omega) hsz).mono ?_
  rintro e w3 ⟨p3, q3, s3, rfl, hpq3, hs3, h3⟩
  have H3 := Lib.hid (And.intro h3 hpq3)
  clear h3 hpq3
  go_wp2
  go_ret
  exact ⟨q3, s3, rfl, by rcases H1.out.2 with h | h <;> rcases H2.out.2 with k | k <;> rcases H3.out.2 with l | l <;> omega, by omega, H3.out.1⟩

set_option maxRecDepth 100000 in
set_option maxHeartbeats 2000000 in
theorem medadj_is {w0 w : World} {b off cap n sb s x : Nat} {d : Array Int} (hn : d.size = n) (h : Cnt w0 b off d sb s w) (hne : sb ≠ b) (hx : 1 ≤ x) (hy : x + 1 < n) (hs : s ≤ 900) (hsz : n < 1152921504606846976) :
    Calls Tryz.prog 107 #[.slice (some ⟨b, off, none⟩) n cap, .int .i64 x, .pointer (some ⟨sb, 0, none⟩)] w fun e w' => ∃ p s' : Nat, e = .returned (.int .i64 p) ∧ x ≤ p + 1 ∧ p ≤ x + 1 ∧ s' ≤ s + 3 ∧ Cnt w0 b off d sb s' w' := by
  have H := Lib.hid h
  have HN := Lib.hid hn
  clear h hn
  obtain ⟨m, hm⟩ : ∃ m, m = x - 1 := ⟨_, rfl⟩
  obtain ⟨q, hq⟩ : ∃ q, q = x + 1 := ⟨_, rfl⟩
  have e1 : (x : Int) - 1 = (m : Int) := by omega
  have e2 : (x : Int) + 1 = (q : Int) := by omega
  have hmn : m < n := by omega
  have hqn : q < n := by omega
  have HM := Lib.hid (And.intro hm hq)
  clear hm hq
  go_enter Tryz.func107, Tryz.ntmps107
  go_wp2_with fail
  refine (median_is HN.out H.out hne hmn (by omega) hqn hs hsz).mono ?_
  rintro e w1 ⟨p1, s1, rfl, hp, hs1, h1⟩
  have H1 := Lib.hid h1
  have HP := Lib.hid hp
  clear h1 H hp e1 e2
  go_wp2
  go_ret
  exact ⟨p1, s1, rfl, by have := HP.out; have := HM.out; omega, by have := HP.out; have := HM.out; omega, hs1, H1.out⟩
end Go.Proofs.YtlhblhgbpaipaaaGreat.So

/- SoChoose -/
namespace Go.Proofs.YtlhblhgbpaipaaaGreat.So
open Go.RowKit Go.Sort
set_option linter.unusedVariables false

theorem row_of_cnt {w w1 w' : World} {b off s : Nat} {d : Array Int} {o : Obj} (h : Cnt w1 b off d w.heap.size s w') (h1 : w1 = w.alloc o) : Row w b off d w' := by
  subst h1
  exact ⟨h.holds, ⟨h.grown.os, h.grown.tape, h.grown.output, by have := h.grown.size; simp at this; omega, fun k hk _ => (h.grown.block k (by simp; omega) (fun e => by have := Option.some.inj e; omega)).trans (heap_alloc_old _ _ hk)⟩⟩

set_option maxRecDepth 100000 in
set_option maxHeartbeats 2000000 in
theorem choose_is {w : World} {b off cap n lo hi : Nat} {d : Array Int} (hn : d.size = n) (hH : Holds (Value.int .u16) w b off d) (hbw : b < w.heap.size) (hlo : lo + 12 < hi) (hhi : hi ≤ n) (hsz : n < 1152921504606846976) :
    Calls Tryz.prog 93 #[.slice (some ⟨b, off, none⟩) n cap, .int .i64 lo, .int .i64 hi] w fun e w' => ∃ p h : Nat, e = .returned (.tuple #[.int .i64 p, .int .i64 h]) ∧ lo ≤ p ∧ p < hi ∧ h ≤ 2 ∧ Row w b off d w' := by
  obtain ⟨l, hl⟩ : ∃ l, l = hi - lo := ⟨_, rfl⟩
  obtain ⟨q, hq⟩ : ∃ q, q = l / 4 := ⟨_, rfl⟩
  obtain ⟨i, hi'⟩ : ∃ i, i = lo + q := ⟨_, rfl⟩
  obtain ⟨j, hj'⟩ : ∃ j, j = lo + q * 2 := ⟨_, rfl⟩
  obtain ⟨k, hk'⟩ : ∃ k, k = lo + q * 3 := ⟨_, rfl⟩
  have e1 : (hi : Int) - (lo : Int) = (l : Int) := by omega
  have e2 : (l : Int) / 4 = (q : Int) := by omega
  have e2' : (l : Int).tdiv 4 = (q : Int) := by rw [Int.tdiv_eq_ediv_of_nonneg (by omega)]; exact e2
  have e3 : (lo : Int) + (q : Int) = (i : Int) := by omega
  have e4 : (lo : Int) + (q : Int) * 2 = (j : Int) := by omega
  have e5 : (lo : Int) + (q : Int) * 3 = (k : Int) := by omega
  have h8 : (8 : Int) ≤ (l : Int) := by omega
  have hqn : q < n := by omega
  have hln : l ≤ n := by omega
  have bi : lo + 1 ≤ i ∧ i + 1 < hi := by omega
  have bj : lo + 1 ≤ j ∧ j + 1 < hi := by omega
  have bk : lo + 1 ≤ k ∧ k + 1 < hi := by omega
  have hC : Cnt (w.alloc (.cells #[.int .i64 0] 3)) b off d w.heap.size 0 (w.alloc (.cells #[.int .i64 0] 3)) :=
    ⟨fun t ht => by
      have hb : (w.alloc (.cells #[.int .i64 0] 3)).heap[b]? = w.heap[b]? := heap_alloc_old _ _ hbw
      exact ⟨(World.cell?_of_block (a := ⟨b, off + t, none⟩) hb).trans (hH t ht).1, (World.frozen?_of_block (a := ⟨b, off + t, none⟩) hb).trans (hH t ht).2⟩, heap_alloc_new _ _, ⟨rfl, rfl, rfl, Nat.le_refl _, fun _ _ _ => rfl⟩⟩
  have HC := Lib.hid hC
  have HN := Lib.hid hn
  have HB := Lib.hid (And.intro hl (And.intro hq (And.intro hi' (And.intro hj' hk'))))
  have hne : w.heap.size ≠ b := by omega
  clear hC hn hH hl hq hi' hj' hk'
  by_cases h50 : 50 ≤ l
  · have h50' : (50 : Int) ≤ (l : Int) := by omega
    go_enter Tryz.func93, Tryz.ntmps93
    go_wp2_with fail
    refine (medadj_is HN.out HC.out hne (x := i) (by omega) (by omega) (by omega) hsz).mono ?_
    rintro e w1 ⟨p1, s1, rfl, ha1, hb1, hs1, h1⟩
    have H1 := Lib.hid h1
    clear h1
    go_wp2_with fail
    refine (medadj_is HN.out H1.out hne (x := j) (by omega) (by omega) (by omega) hsz).mono ?_
    rintro e w2 ⟨p2, s2, rfl, ha2, hb2, hs2, h2⟩
    have H2 := Lib.hid h2
    clear h2
    go_wp2_with fail
    refine (medadj_is HN.out H2.out hne (x := k) (by omega) (by omega) (by omega) hsz).mono ?_
    rintro e w3 ⟨p3, s3, rfl, ha3, hb3, hs3, h3⟩
    have H3 := Lib.hid h3
    clear h3
    go_wp2_with fail
    refine (median_is HN.out H3.out hne (by omega) (by omega) (by omega) (by omega) hsz).mono ?_
    rintro e w4 ⟨p4, s4, rfl, hp4, hs4, h4⟩
    have c0 : w4.cell? ⟨w.heap.size, 0, none⟩ = some (.int .i64 s4) := cell_of_row _ _ 0 _ _ _ h4.sw
    have HR := Lib.hid (row_of_cnt h4 rfl)
    have HP := Lib.hid (show lo ≤ p4 ∧ p4 < hi by omega)
    clear h4 hp4
    rcases (show s4 = 0 ∨ s4 = 12 ∨ (((s4 : Int) == 0) = false ∧ ((s4 : Int) == 12) = false) by by_cases ha : s4 = 0; (exact .inl ha); by_cases hb : s4 = 12; (exact .inr (.inl hb)); exact .inr (.inr ⟨by simp; omega, by simp; omega⟩)) with rfl | rfl | ⟨hq0, hq1⟩
    · go_wp2
      go_ret2
      exact ⟨p4, 1, rfl, HP.out.1, HP.out.2, by decide, HR.out⟩
    · go_wp2
      go_ret2
      exact ⟨p4, 2, rfl, HP.out.1, HP.out.2, by decide, HR.out⟩
    · go_wp2
      go_ret2
      exact ⟨p4, 0, rfl, HP.out.1, HP.out.2, by decide, HR.out⟩
  · have h50' : ¬ (50 : Int) ≤ (l : Int) := by omega
    go_enter Tryz.func93, Tryz.ntmps93
    go_wp2_with fail
    refine (median_is HN.out HC.out hne (by omega) (by omega) (by omega) (by omega) hsz).mono ?_
    rintro e w4 ⟨p4, s4, rfl, hp4, hs4, h4⟩
    have c0 : w4.cell? ⟨w.heap.size, 0, none⟩ = some (.int .i64 s4) := cell_of_row _ _ 0 _ _ _ h4.sw
    have HR := Lib.hid (row_of_cnt h4 rfl)
    have HP := Lib.hid (show lo ≤ p4 ∧ p4 < hi by omega)
    clear h4 hp4
    rcases (show s4 = 0 ∨ s4 = 12 ∨ (((s4 : Int) == 0) = false ∧ ((s4 : Int) == 12) = false) by by_cases ha : s4 = 0; (exact .inl ha); by_cases hb : s4 = 12; (exact .inr (.inl hb)); exact .inr (.inr ⟨by simp; omega, by simp; omega⟩)) with rfl | rfl | ⟨hq0, hq1⟩
    · go_wp2
      go_ret2
      exact ⟨p4, 1, rfl, HP.out.1, HP.out.2, by decide, HR.out⟩
    · go_wp2
      go_ret2
      exact ⟨p4, 2, rfl, HP.out.1, HP.out.2, by decide, HR.out⟩
    · go_wp2
      go_ret2
      exact ⟨p4, 0, rfl, HP.out.1, HP.out.2, by decide, HR.out⟩
end Go.Proofs.YtlhblhgbpaipaaaGreat.So

/- SoShelf -/
namespace Go.Proofs.YtlhblhgbpaipaaaGreat.So
open Go.Shelf
def bitsL_ren : Go.Shelf.Ren := ⟨fun | 15 => 85 | 28 => 99 | 29 => 100 | n => n, fun | 39 => 151 | 3 => 3 | 53 => 165 | 55 => 27 | 4 => 4 | 5 => 5 | 9 => 9 | n => n, fun | n => n⟩
theorem bitsL : Go.Proofs.SlLaysF0.n15 Tryz.prog bitsL_ren := {
  mixed := by kernel_rfl
  f15 := Tryz.func85.trans (congrArg some (by kernel_rfl))
  f28 := Tryz.func99.trans (congrArg some (by kernel_rfl))
  f29 := Tryz.func100.trans (congrArg some (by kernel_rfl))
  t3 := Tryz.underlying3
  a3 := Tryz.isAgg3
  z3 := Tryz.sizeOf3
  v3 := Tryz.zeroValue3
  t4 := Tryz.underlying4
  a4 := Tryz.isAgg4
  z4 := Tryz.sizeOf4
  v4 := Tryz.zeroValue4
  t5 := Tryz.underlying5
  a5 := Tryz.isAgg5
  z5 := Tryz.sizeOf5
  v5 := Tryz.zeroValue5
  t9 := Tryz.underlying9
  a9 := Tryz.isAgg9
  z9 := Tryz.sizeOf9
  v9 := Tryz.zeroValue9
  t39 := Tryz.underlying151
  a39 := Tryz.isAgg151
  z39 := Tryz.sizeOf151
  v39 := Tryz.zeroValue151
  t53 := Tryz.underlying165
  a53 := Tryz.isAgg165
  z53 := Tryz.sizeOf165
  v53 := Tryz.zeroValue165
  t55 := Tryz.underlying27
  a55 := Tryz.isAgg27
  z55 := Tryz.sizeOf27
  v55 := Tryz.zeroValue27 }
def powL_ren : Go.Shelf.Ren := ⟨fun | 47 => 105 | 15 => 85 | 28 => 99 | 29 => 100 | n => n, fun | 3 => 3 | 39 => 151 | 53 => 165 | 55 => 27 | 4 => 4 | 5 => 5 | 9 => 9 | n => n, fun | n => n⟩
theorem powL : Go.Proofs.SlLaysF0.n47 Tryz.prog powL_ren := {
  mixed := by kernel_rfl
  f15 := Tryz.func85.trans (congrArg some (by kernel_rfl))
  f28 := Tryz.func99.trans (congrArg some (by kernel_rfl))
  f29 := Tryz.func100.trans (congrArg some (by kernel_rfl))
  f47 := Tryz.func105.trans (congrArg some (by kernel_rfl))
  t3 := Tryz.underlying3
  a3 := Tryz.isAgg3
  z3 := Tryz.sizeOf3
  v3 := Tryz.zeroValue3
  t4 := Tryz.underlying4
  a4 := Tryz.isAgg4
  z4 := Tryz.sizeOf4
  v4 := Tryz.zeroValue4
  t5 := Tryz.underlying5
  a5 := Tryz.isAgg5
  z5 := Tryz.sizeOf5
  v5 := Tryz.zeroValue5
  t9 := Tryz.underlying9
  a9 := Tryz.isAgg9
  z9 := Tryz.sizeOf9
  v9 := Tryz.zeroValue9
  t39 := Tryz.underlying151
  a39 := Tryz.isAgg151
  z39 := Tryz.sizeOf151
  v39 := Tryz.zeroValue151
  t53 := Tryz.underlying165
  a53 := Tryz.isAgg165
  z53 := Tryz.sizeOf165
  v53 := Tryz.zeroValue165
  t55 := Tryz.underlying27
  a55 := Tryz.isAgg27
  z55 := Tryz.sizeOf27
  v55 := Tryz.zeroValue27 }
def xorL_ren : Go.Shelf.Ren := ⟨fun | 48 => 106 | n => n, fun | 76 => 174 | 55 => 27 | 0 => 0 | 66 => 168 | 39 => 151 | n => n, fun | n => n⟩
theorem xorL : Go.Proofs.SlLaysF0.n48 Tryz.prog xorL_ren := {
  mixed := by kernel_rfl
  f48 := Tryz.func106.trans (congrArg some (by kernel_rfl))
  t0 := Tryz.underlying0
  a0 := Tryz.isAgg0
  z0 := Tryz.sizeOf0
  v0 := Tryz.zeroValue0
  t39 := Tryz.underlying151
  a39 := Tryz.isAgg151
  z39 := Tryz.sizeOf151
  v39 := Tryz.zeroValue151
  t55 := Tryz.underlying27
  a55 := Tryz.isAgg27
  z55 := Tryz.sizeOf27
  v55 := Tryz.zeroValue27
  t66 := Tryz.underlying168
  a66 := Tryz.isAgg168
  z66 := Tryz.sizeOf168
  v66 := Tryz.zeroValue168
  t76 := Tryz.underlying174
  a76 := Tryz.isAgg174
  z76 := Tryz.sizeOf174
  v76 := Tryz.zeroValue174 }
end Go.Proofs.YtlhblhgbpaipaaaGreat.So

/- SoBreak -/
namespace Go.Proofs.YtlhblhgbpaipaaaGreat.So
open Go.RowKit Go.Sort
set_option linter.unusedVariables false

theorem pow2_is (l : Nat) (h0 : 0 < l) (hl : l < 4611686018427387904) (w : World) : Calls Tryz.prog 105 #[.int .i64 l] w fun e w' => ∃ M : Nat, e = .returned (.int .u64 M) ∧ 0 < M ∧ M ≤ 2 * l ∧ w = w' := by
  have h := AnyF.nextPowerOfTwo (P := Tryz.prog) powL l hl w
  change Calls Tryz.prog 105 _ _ _ at h
  refine h.mono ?_
  rintro e w' ⟨rfl, rfl⟩
  exact ⟨_, rfl, by rw [Nat.one_shiftLeft]; exact Nat.two_pow_pos _, by rw [Nat.one_shiftLeft]; exact two_pow_bitsLen_le h0, rfl⟩
theorem len_is (n : Nat) (hn : n < 4611686018427387904) (w : World) : Calls Tryz.prog 85 #[.int .u64 n] w fun e w' => e = .returned (.int .i64 (bitsLen n : Nat)) ∧ w = w' := by
  have h := Any.bits_Len (SlLaysF0.n15.bits (P := Tryz.prog) (ρ := bitsL_ren) { bitsL with }) (n : Int) w (by omega) (by omega)
  rw [Int.toNat_natCast, bitLen_eq _ (by omega)] at h
  change Calls Tryz.prog 85 _ _ _ at h
  refine h.mono ?_
  rintro e w' ⟨rfl, rfl⟩
  exact ⟨rfl, rfl⟩
def Big64 (Y : Nat) : Prop := Y < 18446744073709551616
theorem xor_is {R X : Nat} (hX : Big64 X) (w : World) (hB : w.heap[R]? = some (.cells #[.int .u64 X] 168 (0, 0))) :
    Calls Tryz.prog 106 #[.pointer (some ⟨R, 0, none⟩)] w fun e w' => ∃ Y : Nat, e = .returned (.int .u64 Y) ∧ Big64 Y ∧ w'.heap[R]? = some (.cells #[.int .u64 Y] 168 (0, 0)) ∧ w.grownBy w' (some R) := by
  have h := AnyF.xorshift_Next (P := Tryz.prog) xorL R 0 X hX w (cell_of_row _ _ 0 _ _ _ hB) (frozen_of_row _ _ 0 _ _ hB)
  change Calls Tryz.prog 106 _ _ _ at h
  refine h.mono ?_
  rintro e w' ⟨rfl, rfl⟩
  refine ⟨_, rfl, xorNextN_lt X hX, ?_, ?_⟩
  · exact heap_setCell_same w R 0 _ _ _ hB
  · exact ⟨rfl, rfl, rfl, by show w.heap.size ≤ (w.setCell _ _).heap.size; simp, fun k hk hne => heap_setCell_other w _ _ _ (fun e => hne (by rw [e]))⟩
theorem and_lt (Y m : Nat) (hY : Big64 Y) (hm : m < 18446744073709551616) : ∃ o : Nat, bits .and .u64 (Y : Int) (m : Int) = (o : Int) ∧ o ≤ m := by
  exact ⟨Y &&& m, bits_and_u64_nat Y m hY hm, Nat.and_le_right⟩

/-- What a round of breakPatterns keeps. -/
structure Brk (w : World) (b off n lo hi R : Nat) (d dk : Array Int) (r : Nat) (wr : World) : Prop where
  size : dk.size = n
  perm : PermIn lo hi d dk
  holds : Holds (Value.int .u16) wr b off dk
  rnd : wr.heap[R]? = some (.cells #[.int .u64 r] 168 (0, 0))
  grown : w.grownBy wr (some b)
  big : Big64 r
theorem Brk.next {w : World} {b off n lo hi R : Nat} {d dk : Array Int} {r r' : Nat} {wr w' : World} (h : Brk w b off n lo hi R d dk r wr) (hR : w.heap.size ≤ R) (hne : R ≠ b) (hbl : b < wr.heap.size) (hY : Big64 r') (hB : w'.heap[R]? = some (.cells #[.int .u64 r'] 168 (0, 0))) (hg : wr.grownBy w' (some R)) :
    Brk w b off n lo hi R d dk r' w' := by
  have hb : w'.heap[b]? = wr.heap[b]? := hg.block b hbl (fun e => hne (Option.some.inj e).symm)
  refine ⟨h.size, h.perm, fun t ht => ⟨(World.cell?_of_block (a := ⟨b, off + t, none⟩) hb).trans (h.holds t ht).1, (World.frozen?_of_block (a := ⟨b, off + t, none⟩) hb).trans (h.holds t ht).2⟩, hB, ?_, hY⟩
  exact ⟨hg.os.trans h.grown.os, hg.tape.trans h.grown.tape, hg.output.trans h.grown.output, Nat.le_trans h.grown.size hg.size, fun k hk hne2 => (hg.block k (Nat.lt_of_lt_of_le hk h.grown.size) (fun e => by have := Option.some.inj e; omega)).trans (h.grown.block k hk hne2)⟩
theorem Brk.swap {w : World} {b off n lo hi R : Nat} {d dk : Array Int} {r : Nat} {wr : World} (h : Brk w b off n lo hi R d dk r wr) (hne : R ≠ b) (i j : Nat) (hi1 : lo ≤ i) (hi2 : i < hi) (hj1 : lo ≤ j) (hj2 : j < hi) (hh : hi ≤ n) (x y : Int) (hx : x = dk[j]!) (hy : y = dk[i]!) :
    Brk w b off n lo hi R d (swp dk i j) r ((wr.drew.setCell ⟨b, off + i, none⟩ (.int .u16 x)).setCell ⟨b, off + j, none⟩ (.int .u16 y)) := by
  have hR : Row w b off dk wr.drew := ⟨h.holds, ⟨h.grown.os, h.grown.tape, h.grown.output, h.grown.size, h.grown.block⟩⟩
  have hs := h.size
  have hS := hR.swap i j (by omega) (by omega) x y hx hy
  refine ⟨by rw [size_swp]; exact hs, permIn_trans _ _ _ _ _ h.perm (swp_permIn _ _ _ _ _ hi1 hi2 hj1 hj2 (by omega)), hS.holds, ?_, hS.grown, h.big⟩
  exact (heap_setCell_other _ _ _ _ hne).trans ((heap_setCell_other _ _ _ _ hne).trans h.rnd)

set_option maxRecDepth 100000 in
set_option maxHeartbeats 2000000 in
theorem break_is {w : World} {b off cap n lo hi : Nat} {d : Array Int} (hn : d.size = n) (hH : Holds (Value.int .u16) w b off d) (hbw : b < w.heap.size) (hlo : lo + 12 < hi) (hhi : hi ≤ n) (hsz : n < 1152921504606846976) :
    Calls Tryz.prog 92 #[.slice (some ⟨b, off, none⟩) n cap, .int .i64 lo, .int .i64 hi] w fun e w' => e = .returned (.tuple #[]) ∧ ∃ d', d'.size = n ∧ PermIn lo hi d d' ∧ Row w b off d' w' := by
  obtain ⟨l, hl⟩ : ∃ l, l = hi - lo := ⟨_, rfl⟩
  obtain ⟨q, hq⟩ : ∃ q, q = l / 4 := ⟨_, rfl⟩
  obtain ⟨m, hm⟩ : ∃ m, m = lo + q * 2 := ⟨_, rfl⟩
  obtain ⟨m0, hm0⟩ : ∃ m0, m0 = m - 1 := ⟨_, rfl⟩
  obtain ⟨m1, hm1⟩ : ∃ m1, m1 = m + 1 := ⟨_, rfl⟩
  have e1 : (hi : Int) - (lo : Int) = (l : Int) := by omega
  have e2 : (l : Int) / 4 = (q : Int) := by omega
  have e2' : (l : Int).tdiv 4 = (q : Int) := by rw [Int.tdiv_eq_ediv_of_nonneg (by omega)]; exact e2
  have e3 : (lo : Int) + (q : Int) * 2 = (m : Int) := by omega
  have e4 : (m : Int) - 1 = (m0 : Int) := by omega
  have e5 : (m : Int) + 1 = (m1 : Int) := by omega
  have h8 : (8 : Int) ≤ (l : Int) := by omega
  have hqn : q < n := by omega
  have hln : l ≤ n := by omega
  have hl0 : 0 < l := by omega
  have hmb : lo ≤ m0 ∧ m1 < hi := by omega
  have hmn : m < n := by omega
  have hR0 : Row w b off d w := ⟨hH, ⟨rfl, rfl, rfl, Nat.le_refl _, fun _ _ _ => rfl⟩⟩
  have HR0 := Lib.hid hR0
  have HN := Lib.hid hn
  have HB := Lib.hid (And.intro hl (And.intro hq (And.intro hm (And.intro hm0 hm1))))
  have hne : w.heap.size ≠ b := by omega
  clear hR0 hn hH hl hq hm hm0 hm1
  go_enter Tryz.func92, Tryz.ntmps92
  go_wp2_with fail
  refine (pow2_is l hl0 (by omega) _).mono ?_
  rintro e w' ⟨M, rfl, hM0, hM, rfl⟩
  obtain ⟨M1, hM1⟩ : ∃ M1, M1 = M - 1 := ⟨_, rfl⟩
  have e6 : (M : Int) - 1 = (M1 : Int) := by omega
  have hw6 : IntKind.u64.wrap ((M : Int) - 1) = (M1 : Int) := by rw [IntKind.wrap_u64]; omega
  have hM1l : M1 < 2 * l := by omega
  have HW1 : Hid (Brk w b off n lo hi w.heap.size d d l (w.alloc (.cells #[.int .u64 l] 168))) := Lib.hid (by
    have hb : (w.alloc (.cells #[.int .u64 (l : Int)] 168)).heap[b]? = w.heap[b]? := heap_alloc_old _ _ hbw
    exact ⟨HN.out, permIn_refl _ _ _, fun t ht => ⟨(World.cell?_of_block (a := ⟨b, off + t, none⟩) hb).trans (HR0.out.holds t ht).1, (World.frozen?_of_block (a := ⟨b, off + t, none⟩) hb).trans (HR0.out.holds t ht).2⟩, heap_alloc_new _ _, World.grownBy_alloc _ _ _, by unfold Big64; omega⟩)
  clear hM1 e6
  go_wp2_with fail
  clear e1 e2 e2' 
  go_loopw [9, 10] (fun vi _ wr => ∃ (i r : Nat) (dk : Array Int), vi = .int .i64 i ∧ m0 ≤ i ∧ i ≤ m1 + 1 ∧ Brk w b off n lo hi w.heap.size d dk r wr) (fun vi _ _ => m1 + 1 - (intOf vi).toNat)
  case atStart => exact ⟨m0, l, d, rfl, Nat.le_refl _, by have := HB.out; omega, HW1.out⟩
  case round =>
    clear HW1 HR0
    obtain ⟨i, r, dk, rfl, hi0, hi1, hB⟩ := hrel
    have HK := Lib.hid hB
    clear hB
    have e2 : (l : Int) / 4 = (q : Int) := by have := HB.out; omega
    have e2' : (l : Int).tdiv 4 = (q : Int) := by rw [Int.tdiv_eq_ediv_of_nonneg (by omega)]; exact e2
    by_cases hlt : i ≤ m1
    · have hlt' : (i : Int) ≤ (m1 : Int) := by omega
      go_wp2_with fail
      clear e2 e2'
      refine (xor_is HK.out.big wr HK.out.rnd).mono ?_
      rintro e w3 ⟨Y, rfl, hY, hB3, hg3⟩
      obtain ⟨o, ho, hom⟩ := and_lt Y M1 hY (by omega)
      have hwo : IntKind.i64.wrap (o : Int) = (o : Int) := by rw [IntKind.wrap_i64]; omega
      have H3 := Lib.hid (HK.out.next (Nat.le_refl _) hne (Nat.lt_of_lt_of_le hbw HK.out.grown.size) hY hB3 hg3)
      clear hY hB3 hg3
      obtain ⟨G, hG⟩ : ∃ G : Nat → Int, ∀ t, G t = dk[t]! := ⟨fun t => dk[t]!, fun _ => rfl⟩
      have hcw : ∀ t, t < n → w3.cell? ⟨b, off + t, none⟩ = some (.int .u16 (G t)) := fun t ht => by rw [hG]; exact (H3.out.holds t (by have := H3.out.size; omega)).1
      have hfw : ∀ t, t < n → w3.frozen? ⟨b, off + t, none⟩ = false := fun t ht => (H3.out.holds t (by have := H3.out.size; omega)).2
      have HG := Lib.hid hG
      have hin : i < n := by omega
      clear hG
      by_cases hol : l ≤ o
      · obtain ⟨o2, ho2⟩ : ∃ o2, o2 = o - l := ⟨_, rfl⟩
        obtain ⟨x, hx⟩ : ∃ x, x = lo + o2 := ⟨_, rfl⟩
        have f1 : (o : Int) - (l : Int) = (o2 : Int) := by omega
        have f2 : (lo : Int) + (o2 : Int) = (x : Int) := by omega
        have f3 : IntKind.i64.wrap ((lo : Int) + (o2 : Int)) = (x : Int) := by rw [IntKind.wrap_i64]; omega
        have hxb : lo ≤ x ∧ x < hi := by have := HB.out; omega
        have hxn : x < n := by omega
        clear ho2 hx
        obtain ⟨v', hv'⟩ : ∃ v', ((w3.setCell ⟨b, off + i, none⟩ (.int .u16 (G x))).drew).cell? ⟨b, off + x, none⟩ = some v' := ⟨_, (((Row.mk (w0 := w) H3.out.holds H3.out.grown).set i (by have := H3.out.size; omega) (G x)).drew).cell x (by have := H3.out.size; simp; omega)⟩
        go_wp2
        go_region
        all_goals go_wp2
        go_roundw
        case rel => exact ⟨i + 1, Y, swp dk i x, by go_num, by omega, by omega, H3.out.swap hne i x (by omega) (by omega) hxb.1 hxb.2 hhi _ _ (HG.out _) (HG.out _)⟩
        case measure => simp [intOf] <;> omega
      · obtain ⟨x, hx⟩ : ∃ x, x = lo + o := ⟨_, rfl⟩
        have f2 : (lo : Int) + (o : Int) = (x : Int) := by omega
        have f3 : IntKind.i64.wrap ((lo : Int) + (o : Int)) = (x : Int) := by rw [IntKind.wrap_i64]; omega
        have hxb : lo ≤ x ∧ x < hi := by have := HB.out; omega
        have hxn : x < n := by omega
        clear hx
        obtain ⟨v', hv'⟩ : ∃ v', ((w3.setCell ⟨b, off + i, none⟩ (.int .u16 (G x))).drew).cell? ⟨b, off + x, none⟩ = some v' := ⟨_, (((Row.mk (w0 := w) H3.out.holds H3.out.grown).set i (by have := H3.out.size; omega) (G x)).drew).cell x (by have := H3.out.size; simp; omega)⟩
        go_wp2
        go_region
        all_goals go_wp2
        go_roundw
        case rel => exact ⟨i + 1, Y, swp dk i x, by go_num, by omega, by omega, H3.out.swap hne i x (by omega) (by omega) hxb.1 hxb.2 hhi _ _ (HG.out _) (HG.out _)⟩
        case measure => simp [intOf] <;> omega
    · have hlt' : ¬ (i : Int) ≤ (m1 : Int) := by omega
      go_wp2
      go_end0
      exact ⟨rfl, dk, HK.out.size, HK.out.perm, HK.out.holds, HK.out.grown⟩
end Go.Proofs.YtlhblhgbpaipaaaGreat.So

/- SoHeap2 -/
namespace Go.Proofs.YtlhblhgbpaipaaaGreat.So
open Go.RowKit Go.Sort
set_option linter.unusedVariables false

section
variable (lt : Int → Int → Bool)
theorem sift_size (hi first r : Nat) (d : Array Int) : (siftDown lt hi first r d).size = d.size := by
  fun_induction siftDown lt hi first r d <;> simp_all [size_swp]
theorem build_go {hi first k : Nat} {d : Array Int} : heapBuild lt hi first (k + 1) d = heapBuild lt hi first k (siftDown lt hi first k d) := rfl
theorem pop_go {first k : Nat} {d : Array Int} : heapPop lt first (k + 1) d = heapPop lt first k (siftDown lt k first 0 (swp d first (first + k))) := rfl
end
theorem sift0_is {b off cap n hi first : Nat} {d : Array Int} {w : World} (hn : d.size = n) (hH : Holds (Value.int .u16) w b off d) (hhi : first + hi ≤ n) (hsz : n < 1152921504606846976) :
    Calls Tryz.prog 104 #[.slice (some ⟨b, off, none⟩) n cap, .int .i64 0, .int .i64 hi, .int .i64 first] w fun e w' => e = .returned (.tuple #[]) ∧ Row w b off (siftDown ltInt hi first 0 d) w' :=
  sift_is (lo := 0) hn hH (Nat.zero_le _) hhi hsz

set_option maxRecDepth 100000 in
set_option maxHeartbeats 2000000 in
theorem heap_is {b off cap n lo hi : Nat} {d : Array Int} {w : World} (hn : d.size = n) (hH : Holds (Value.int .u16) w b off d) (hlo : lo < hi) (hhi : hi ≤ n) (hsz : n < 1152921504606846976) :
    Calls Tryz.prog 91 #[.slice (some ⟨b, off, none⟩) n cap, .int .i64 lo, .int .i64 hi] w fun e w' => e = .returned (.tuple #[]) ∧ Row w b off (heapSort ltInt d lo hi) w' := by
  have H0 := Lib.hid (And.intro hH hn)
  clear hH hn
  obtain ⟨l, hl⟩ : ∃ l : Nat, l = hi - lo := ⟨_, rfl⟩
  have hl2 : (hi : Int) - (lo : Int) = (l : Int) := by omega
  have hl0 : 0 < l := by omega
  have hl1 : lo + l = hi := by omega
  have HL := Lib.hid hl
  have HL1 := Lib.hid hl1
  clear hl hl1
  go_enter Tryz.func91, Tryz.ntmps91
  go_wp2
  go_loopw [9] (fun vi wr => ∃ (k : Nat) (dk : Array Int), vi = .int .i64 ((k : Int) - 1) ∧ k ≤ n ∧ dk.size = n ∧ Row w b off dk wr ∧ heapBuild ltInt l lo k dk = heapBuild ltInt l lo ((l - 1) / 2 + 1) d) (fun vi _ => (intOf vi + 1).toNat)
  case atStart => exact ⟨(l - 1) / 2 + 1, d, by congr 1; omega, by omega, H0.out.2, ⟨H0.out.1, ⟨rfl, rfl, rfl, Nat.le_refl _, fun _ _ _ => rfl⟩⟩, rfl⟩
  case round =>
    clear H0
    obtain ⟨k, dk, rfl, hkn, hsk, hR, hO⟩ := hrel
    have HK := Lib.hid (And.intro hsk (And.intro hR hO))
    clear hsk hR hO
    rcases k with _ | j
    · have e0 : ((0 : Nat) : Int) - 1 = -1 := rfl
      rw [e0]
      clear e0
      go_wp2
      go_loopw [10] (fun vi wr => ∃ (k : Nat) (dk : Array Int), vi = .int .i64 ((k : Int) - 1) ∧ k ≤ l ∧ dk.size = n ∧ Row w b off dk wr ∧ heapPop ltInt lo k dk = heapPop ltInt lo l (heapBuild ltInt l lo ((l - 1) / 2 + 1) d)) (fun vi _ => (intOf vi + 1).toNat)
      case atStart => exact ⟨l, dk, rfl, Nat.le_refl _, HK.out.1, HK.out.2.1, by rw [← HK.out.2.2]; rfl⟩
      case round =>
        clear HK
        obtain ⟨k, dj, rfl, hkl, hsk, hR, hO⟩ := hrel
        have HK := Lib.hid (And.intro hsk (And.intro hR hO))
        rcases k with _ | j
        · have e0 : ((0 : Nat) : Int) - 1 = -1 := rfl
          rw [e0]
          clear e0 hsk hR hO
          go_wp2
          go_end0
          exact ⟨rfl, HK.out.2.1.cong (by unfold Sort.heapSort; rw [← HL.out, ← HK.out.2.2]; rfl)⟩
        · have e0 : ((j + 1 : Nat) : Int) - 1 = (j : Int) := by omega
          rw [e0]
          have hfj : lo + j < n := by have := HL1.out; omega
          have hw1 : IntKind.i64.wrap ((lo : Int) + (j : Int)) = (lo : Int) + (j : Int) := by rw [IntKind.wrap_i64]; omega
          obtain ⟨G, hG⟩ : ∃ G : Nat → Int, ∀ t, G t = dj[t]! := ⟨fun t => dj[t]!, fun _ => rfl⟩
          have hcw : ∀ t, t < n → wr.cell? ⟨b, off + t, none⟩ = some (.int .u16 (G t)) := fun t ht => by rw [hG]; exact hR.cell t (by omega)
          have hfw : ∀ t, t < n → wr.frozen? ⟨b, off + t, none⟩ = false := fun t ht => hR.froz t (by omega)
          have HG := Lib.hid hG
          have hj0 : (0 : Int) ≤ (j : Int) := by omega
          have hln : lo < n := by omega
          obtain ⟨v', hv'⟩ : ∃ v', ((wr.setCell ⟨b, off + lo, none⟩ (.int .u16 (G (lo + j)))).drew).cell? ⟨b, off + (lo + j), none⟩ = some v' := ⟨_, ((hR.set lo (by omega) (G (lo + j))).drew).cell (lo + j) (by simp; omega)⟩
          clear e0 hsk hR hO hG
          go_wp2
          go_region
          all_goals go_wp2_with fail
          have HS := Lib.hid ((HK.out.2.1.drew).swap lo (lo + j) (by rw [HK.out.1]; omega) (by rw [HK.out.1]; omega) _ _ (HG.out _) (HG.out _))
          refine (sift0_is (n := n) (by rw [size_swp]; exact HK.out.1) HS.out.holds (by omega) hsz).mono ?_
          rintro e w3 ⟨rfl, h3⟩
          have H3 := Lib.hid (HS.out.trans h3)
          clear h3 hcw hfw
          go_wp2
          go_roundw
          case rel => exact ⟨j, _, rfl, by omega, by rw [sift_size, size_swp]; exact HK.out.1, H3.out, by rw [← HK.out.2.2, pop_go]⟩
          case measure => simp [intOf] <;> omega
    · have e0 : ((j + 1 : Nat) : Int) - 1 = (j : Int) := by omega
      rw [e0]
      have hj0 : (0 : Int) ≤ (j : Int) := by omega
      clear e0
      go_wp2_with fail
      refine (sift_is (n := n) HK.out.1 HK.out.2.1.holds (by omega) (by have := HL1.out; omega) hsz).mono ?_
      rintro e w3 ⟨rfl, h3⟩
      have H3 := Lib.hid (HK.out.2.1.trans h3)
      clear h3
      go_wp2
      go_roundw
      case rel => exact ⟨j, _, rfl, by omega, by rw [sift_size]; exact HK.out.1, H3.out, by rw [← HK.out.2.2, build_go]⟩
      case measure => simp [intOf] <;> omega
end Go.Proofs.YtlhblhgbpaipaaaGreat.So
