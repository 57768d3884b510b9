/-
  The law RingHalves.
-/
import Derived.Test.YtkcoidapnmoljaaRingFull
namespace Go.Proofs.Ytkcoidapnmoljaa.Rng
open Go.RowKit
open Go.Proofs.Ytkcoidapnmoljaa.Ints
set_option linter.unusedVariables false

theorem up_steal (k h q : Nat) (hh : h = (k + 1) / 2) (hq : h + q = k) : (upFrom 0 k).take (((upFrom 0 k).length + 1) / 2) = upFrom 0 h ∧ (upFrom 0 k).drop (((upFrom 0 k).length + 1) / 2) = upFrom h q := by
  rw [upFrom_len, ← hh, up_take _ _ _ (by omega), up_drop 0 k h q hq, Int.zero_add]
  exact ⟨rfl, rfl⟩
theorem next_any {w : World} {b : Nat} {row : List Int} {nxt : Option Int} {st : Int} (r : IsR w b row nxt st) (x : Int) (y : Bool) (hx : nxt.getD 0 = x) (hy : nxt.isSome = y) :
    Calls Try.prog 20 #[.pointer (some ⟨b, 0, none⟩)] w fun e w' => e = .returned (.tuple #[.int .i64 x, .bool y]) ∧ w = w' := by
  subst hx hy
  cases nxt with
  | none => exact next_none r
  | some g => exact next_some r
theorem list_pre {w : World} {b : Nat} {nxt : Option Int} {st f : Int} {q z : Nat} (r : IsR w b (upFrom f q) nxt st) (hz : z = q + nxt.toList.length) :
    Calls Try.prog 17 #[.pointer (some ⟨b, 0, none⟩)] w fun e w' => ∃ a c, e = .returned (.slice a z c) ∧ (q : Int) ≤ (c : Int) ∧ Sees w' (.slice a q c) (upFrom f q) ∧ w.grownBy w' none := by
  refine (list_is r).mono ?_
  rintro e w' ⟨v, rfl, ho, hg⟩
  obtain ⟨a, c, rfl, hc, hs, _⟩ := Owns.parts ho
  have hl : (upFrom f q ++ nxt.toList).length = z := by rw [List.length_append, upFrom_len, hz]
  rw [hl] at hc
  refine ⟨a, c, by rw [hl], by omega, ?_, hg⟩
  have := Sees.take hs q (by rw [hl]; omega)
  rwa [List.take_left' (upFrom_len _ _)] at this
theorem row_sees (w : World) (f : Int) (n : Nat) (h1 : -1000000000000 ≤ f) (h2 : f ≤ 1000000000000) (hn : n ≤ 1000000) : Calls Try.prog 11 #[.int .i64 f, .int .i64 n] w fun e w' => ∃ v, e = .returned v ∧ Sees w' v (upFrom f n) ∧ w.grownBy w' none :=
  (row_is w f n h1 h2 hn).mono fun e w' ⟨v, h, ho, hg⟩ => ⟨v, h, ho.sees, hg⟩
theorem row_hq (w : World) (h q : Nat) (h1 : h < 257) (h2 : q < 257) : Calls Try.prog 11 #[.int .i64 h, .int .i64 q] w fun e w' => ∃ v, e = .returned v ∧ Sees w' v (upFrom h q) ∧ w.grownBy w' none := row_sees w h q (by omega) (by omega) (by omega)
theorem sees_one {w : World} {v : Value} {xs : List Int} (h : Sees w v xs) : ∃ a c, v = .slice a xs.length c ∧ Sees w (.slice a xs.length c) xs := by
  obtain ⟨a, c, rfl, r⟩ := h; exact ⟨a, c, rfl, a, c, rfl, r⟩
theorem len_z {w : World} {b : Nat} {nxt : Option Int} {st f : Int} {q z : Nat} (r : IsR w b (upFrom f q) nxt st) (hz : z = q + nxt.toList.length) :
    Calls Try.prog 16 #[.pointer (some ⟨b, 0, none⟩)] w fun e w' => e = .returned (.int .i64 (z : Int)) ∧ w = w' := by
  refine len_is r _ ?_
  rw [upFrom_len, hz]
  cases nxt <;> simp

set_option maxRecDepth 100000 in
set_option maxHeartbeats 2000000 in
theorem halves_zero_none (m k : Nat) (hm : m < 65536) (hk : m % 257 = k) (h0 : k = 0) (w : World) : Calls Try.prog 6 #[.int .u16 m, .bool false] w fun e w' => e = .returned (.bool true) ∧ Below w.heap.size w w' := by
  have ek : (m : Int).tmod 257 = (k : Int) := by rw [Int.tmod_eq_emod_of_nonneg (by omega)]; omega
  have ek2 : (m : Int) % 257 = (k : Int) := by omega
  have hk40 : k < 257 := by omega
  have e0 : upFrom 0 k = [] := by rw [h0]; rfl
  have hkz : ((k : Int) == 0) = true := by rw [h0]; rfl
  have E0 := Lib.hid e0
  have HK := Lib.hid h0
  clear h0 e0
  go_enter Try.func6, Try.ntmps6
  go_wp2_with fail
  refine (lives_is w).mono ?_
  rintro e w0 ⟨rfl, hb⟩
  have HB := Lib.hid hb
  clear hb
  go_wp2_with fail
  refine (new_is w0).mono ?_
  rintro e w1 ⟨rfl, hr, hg⟩
  have hrb : w.heap.size ≤ w0.heap.size := HB.out.size
  have H1 := Lib.hid (And.intro hr (below_none HB.out hg HB.out.size))
  clear hr hg
  generalize w0.heap.size = b at *
  clear HB
  go_wp2_with fail
  refine (row_is w1 0 k (by decide) (by decide) (by omega)).mono ?_
  rintro e w2 ⟨v, rfl, ho, hg⟩
  have H2 := Lib.hid (And.intro (H1.out.1.heap (hg.block b H1.out.1.lt (by simp))) (below_none H1.out.2 hg H1.out.2.size))
  have HO := Lib.hid ho
  clear hg ho
  go_wp2_with fail
  refine (putall_own H2.out.1 HO.out H1.out.1.lt (by rw [upFrom_len]; omega) k (by rw [upFrom_len]; simp; omega)).mono ?_
  rintro e w3 ⟨v3, a3, c3, rfl, rfl, hc, ho, hr, hg⟩
  have hr3 : IsR w3 b (upFrom 0 k) none 0 := by simpa [up_take] using hr
  have H3 := Lib.hid (And.intro hr3 (below_step H2.out.2 hg hrb H2.out.2.size))
  rw [show (upFrom 0 k).length - k = 0 from by simp [upFrom_len]]
  clear hr hr3 hg ho HO hc
  go_wp2_with fail
  have H4 := H3
  have H4' : Hid (IsR w3 b [] none 0 ∧ Below w.heap.size w w3) := Lib.hid (by have := H4.out; rwa [E0.out] at this)
  clear H4 H3
  refine (steal_row H4'.out.1 (.inr rfl)).mono ?_
  rintro e w5 ⟨v5, rfl, ho, hr, hg⟩
  obtain ⟨a5, c5, rfl, _⟩ := sees_one (Owns.sees (show Owns w5 _ v5 [] from ho))
  have H5 := Lib.hid (And.intro (show IsR w5 b [] none 0 from hr) (below_step H4'.out.2 hg hrb H4'.out.2.size))
  clear hr hg ho
  go_wp2_with fail
  refine (len_is H5.out.1 0 rfl).mono ?_
  rintro e w6 ⟨rfl, rfl⟩
  go_wp2_with fail
  go_ret
  exact ⟨rfl, H5.out.2⟩

set_option maxRecDepth 100000 in
set_option maxHeartbeats 2000000 in
theorem halves_zero_next (m k : Nat) (hm : m < 65536) (hk : m % 257 = k) (h0 : k = 0) (w : World) : Calls Try.prog 6 #[.int .u16 m, .bool true] w fun e w' => e = .returned (.bool true) ∧ Below w.heap.size w w' := by
  have ek : (m : Int).tmod 257 = (k : Int) := by rw [Int.tmod_eq_emod_of_nonneg (by omega)]; omega
  have ek2 : (m : Int) % 257 = (k : Int) := by omega
  have hk40 : k < 257 := by omega
  have e0 : upFrom 0 k = [] := by rw [h0]; rfl
  have hkz : ((k : Int) == 0) = true := by rw [h0]; rfl
  have E0 := Lib.hid e0
  have HK := Lib.hid h0
  clear h0 e0
  go_enter Try.func6, Try.ntmps6
  go_wp2_with fail
  refine (lives_is w).mono ?_
  rintro e w0 ⟨rfl, hb⟩
  have HB := Lib.hid hb
  clear hb
  go_wp2_with fail
  refine (new_is w0).mono ?_
  rintro e w1 ⟨rfl, hr, hg⟩
  have hrb : w.heap.size ≤ w0.heap.size := HB.out.size
  have H1 := Lib.hid (And.intro hr (below_none HB.out hg HB.out.size))
  clear hr hg
  generalize w0.heap.size = b at *
  clear HB
  go_wp2_with fail
  refine (row_is w1 0 k (by decide) (by decide) (by omega)).mono ?_
  rintro e w2 ⟨v, rfl, ho, hg⟩
  have H2 := Lib.hid (And.intro (H1.out.1.heap (hg.block b H1.out.1.lt (by simp))) (below_none H1.out.2 hg H1.out.2.size))
  have HO := Lib.hid ho
  clear hg ho
  go_wp2_with fail
  refine (putall_own H2.out.1 HO.out H1.out.1.lt (by rw [upFrom_len]; omega) k (by rw [upFrom_len]; simp; omega)).mono ?_
  rintro e w3 ⟨v3, a3, c3, rfl, rfl, hc, ho, hr, hg⟩
  have hr3 : IsR w3 b (upFrom 0 k) none 0 := by simpa [up_take] using hr
  have H3 := Lib.hid (And.intro hr3 (below_step H2.out.2 hg hrb H2.out.2.size))
  rw [show (upFrom 0 k).length - k = 0 from by simp [upFrom_len]]
  clear hr hr3 hg ho HO hc
  go_wp2_with fail
  refine (ready_none H3.out.1 9999).mono ?_
  rintro e w4 ⟨rfl, hr, hg⟩
  have H4 := Lib.hid (And.intro hr (below_step H3.out.2 hg hrb H3.out.2.size))
  clear hr hg
  go_wp2_with fail
  have H4' : Hid (IsR w4 b [] (some 9999) 0 ∧ Below w.heap.size w w4) := Lib.hid (by have := H4.out; rwa [E0.out] at this)
  clear H4 H3
  refine (steal_next H4'.out.1).mono ?_
  rintro e w5 ⟨v5, rfl, ho, hr, hg⟩
  obtain ⟨gb, c5, rfl, cg, hgb⟩ := owns_one ho
  have H5 := Lib.hid (And.intro hr (below_step H4'.out.2 hg hrb H4'.out.2.size))
  clear hr hg ho
  go_wp2_with fail
  refine (len_is H5.out.1 0 rfl).mono ?_
  rintro e w6 ⟨rfl, rfl⟩
  go_wp2_with fail
  go_ret
  exact ⟨rfl, H5.out.2⟩

set_option maxRecDepth 100000 in
set_option maxHeartbeats 2000000 in
theorem halves_pos_none (m k : Nat) (hm : m < 65536) (hk : m % 257 = k) (hpos : 0 < k) (w : World) : Calls Try.prog 6 #[.int .u16 m, .bool false] w fun e w' => e = .returned (.bool true) ∧ Below w.heap.size w w' := by
  have ek : (m : Int).tmod 257 = (k : Int) := by rw [Int.tmod_eq_emod_of_nonneg (by omega)]; omega
  have ek2 : (m : Int) % 257 = (k : Int) := by omega
  have hk40 : k < 257 := by omega
  go_enter Try.func6, Try.ntmps6
  go_wp2_with fail
  refine (lives_is w).mono ?_
  rintro e w0 ⟨rfl, hb⟩
  have HB := Lib.hid hb
  clear hb
  go_wp2_with fail
  refine (new_is w0).mono ?_
  rintro e w1 ⟨rfl, hr, hg⟩
  have hrb : w.heap.size ≤ w0.heap.size := HB.out.size
  have H1 := Lib.hid (And.intro hr (below_none HB.out hg HB.out.size))
  clear hr hg
  generalize w0.heap.size = b at *
  clear HB
  go_wp2_with fail
  refine (row_is w1 0 k (by decide) (by decide) (by omega)).mono ?_
  rintro e w2 ⟨v, rfl, ho, hg⟩
  have H2 := Lib.hid (And.intro (H1.out.1.heap (hg.block b H1.out.1.lt (by simp))) (below_none H1.out.2 hg H1.out.2.size))
  have HO := Lib.hid ho
  clear hg ho
  go_wp2_with fail
  refine (putall_own H2.out.1 HO.out H1.out.1.lt (by rw [upFrom_len]; omega) k (by rw [upFrom_len]; simp; omega)).mono ?_
  rintro e w3 ⟨v3, a3, c3, rfl, rfl, hc, ho, hr, hg⟩
  have hr3 : IsR w3 b (upFrom 0 k) none 0 := by simpa [up_take] using hr
  have H3 := Lib.hid (And.intro hr3 (below_step H2.out.2 hg hrb H2.out.2.size))
  rw [show (upFrom 0 k).length - k = 0 from by simp [upFrom_len]]
  clear hr hr3 hg ho HO hc
  go_wp2_with fail
  have H4 := H3
  obtain ⟨h, hh⟩ : ∃ h : Nat, h = (k + 1) / 2 := ⟨_, rfl⟩
  obtain ⟨q, hq⟩ : ∃ q : Nat, q = k / 2 := ⟨_, rfl⟩
  have hkq : h + q = k := by omega
  have hq257 : q < 257 := by omega
  have hh257 : h < 257 := by omega
  have hd1 : ((k : Int) + 1).tdiv 2 = (h : Int) := by rw [Int.tdiv_eq_ediv_of_nonneg (by omega)]; omega
  have hd2 : ((k : Int) + 1) / 2 = (h : Int) := by omega
  have hd3 : (k : Int).tdiv 2 = (q : Int) := by rw [Int.tdiv_eq_ediv_of_nonneg (by omega)]; omega
  have hd4 : (k : Int) / 2 = (q : Int) := by omega
  have hw1 : IntKind.i64.wrap ((k : Int) + 1) = (k : Int) + 1 := by rw [IntKind.wrap_i64]; omega
  have hw2 : IntKind.i64.wrap (h : Int) = (h : Int) := by rw [IntKind.wrap_i64]; omega
  have hw3 : IntKind.i64.wrap (q : Int) = (q : Int) := by rw [IntKind.wrap_i64]; omega
  have hkz : ((k : Int) == 0) = false := by rw [beq_eq_false_iff_ne]; omega
  obtain ⟨es1, es2⟩ := up_steal k h q hh hkq
  refine (steal_row H4.out.1 (.inl (fun e => by have := congrArg List.length e; rw [upFrom_len] at this; simp at this; omega))).mono ?_
  rintro e w5 ⟨v5, rfl, ho, hr, hg⟩
  rw [es1] at ho
  rw [es2] at hr
  have H5 := Lib.hid (And.intro hr (below_step H4.out.2 hg hrb H4.out.2.size))
  have HO5 := Lib.hid ho
  have HHH := Lib.hid (And.intro hh hq)
  clear hr hg ho es1 es2 hh hq
  go_wp2_with fail
  refine (next_any H5.out.1 0 false rfl rfl).mono ?_
  rintro e w6 ⟨rfl, rfl⟩
  go_wp2_with fail
  refine (list_pre H5.out.1 (z := q + 0) rfl).mono ?_
  rintro e w7 ⟨a7, c7, rfl, hc7, hs7, hg7⟩
  have H7 := Lib.hid (And.intro (H5.out.1.heap (hg7.block b H5.out.1.lt (by simp))) (below_none H5.out.2 hg7 H5.out.2.size))
  have HS7 := Lib.hid hs7
  have HO7 := Lib.hid (HO5.out.grown hg7 (by simp))
  clear hs7 hg7
  go_wp2_with fail
  refine (row_sees w7 0 h (by decide) (by decide) (by omega)).mono ?_
  rintro e w8 ⟨v8, rfl, hs8, hg8⟩
  have HB8 : Hid (Below w7.heap.size w7 w8) := Lib.hid (below_of_none (a := w7) hg8 ⟨rfl, rfl, rfl, rfl⟩)
  have HS8 := Lib.hid hs8
  clear hs8 hg8
  go_wp2_with fail
  refine (same_any (HO7.out.sees.below HB8.out) HS8.out).mono ?_
  rintro e w9 ⟨rfl, hd⟩
  have HB9 := Lib.hid (below_drawn HB8.out hd)
  have H9 := Lib.hid (And.intro (H7.out.1.below HB9.out) (below_wide H7.out.2 HB9.out H7.out.2.size))
  have HS9 := Lib.hid (HS7.out.below HB9.out)
  clear hd
  go_wp2_with fail
  go_region_with (first
      | (go_at_call 11; refine (row_hq _ h q hh257 hq257).mono ?_; rintro e w10 ⟨v10, rfl, hs10, hg10⟩; have HS10 := Lib.hid hs10; have HB10 : Hid (Below w9.heap.size w9 w10) := Lib.hid (below_of_none (a := w9) hg10 ⟨rfl, rfl, rfl, rfl⟩); clear hs10 hg10)
      | (go_at_call 14; refine (same_any (HS9.out.below HB10.out) HS10.out).mono ?_; rintro e w11 ⟨rfl, hd⟩; have HB11 := Lib.hid (below_drawn HB10.out hd); clear hd)
      | (go_at_call 16; refine (len_z (H9.out.1.below HB11.out) (z := q + 0) rfl).mono ?_; rintro e w12 ⟨rfl, rfl⟩))
  all_goals (go_wp2_with fail; go_ret; exact ⟨rfl, below_wide H9.out.2 HB11.out H9.out.2.size⟩)

set_option maxRecDepth 100000 in
set_option maxHeartbeats 2000000 in
theorem halves_pos_next (m k : Nat) (hm : m < 65536) (hk : m % 257 = k) (hpos : 0 < k) (w : World) : Calls Try.prog 6 #[.int .u16 m, .bool true] w fun e w' => e = .returned (.bool true) ∧ Below w.heap.size w w' := by
  have ek : (m : Int).tmod 257 = (k : Int) := by rw [Int.tmod_eq_emod_of_nonneg (by omega)]; omega
  have ek2 : (m : Int) % 257 = (k : Int) := by omega
  have hk40 : k < 257 := by omega
  go_enter Try.func6, Try.ntmps6
  go_wp2_with fail
  refine (lives_is w).mono ?_
  rintro e w0 ⟨rfl, hb⟩
  have HB := Lib.hid hb
  clear hb
  go_wp2_with fail
  refine (new_is w0).mono ?_
  rintro e w1 ⟨rfl, hr, hg⟩
  have hrb : w.heap.size ≤ w0.heap.size := HB.out.size
  have H1 := Lib.hid (And.intro hr (below_none HB.out hg HB.out.size))
  clear hr hg
  generalize w0.heap.size = b at *
  clear HB
  go_wp2_with fail
  refine (row_is w1 0 k (by decide) (by decide) (by omega)).mono ?_
  rintro e w2 ⟨v, rfl, ho, hg⟩
  have H2 := Lib.hid (And.intro (H1.out.1.heap (hg.block b H1.out.1.lt (by simp))) (below_none H1.out.2 hg H1.out.2.size))
  have HO := Lib.hid ho
  clear hg ho
  go_wp2_with fail
  refine (putall_own H2.out.1 HO.out H1.out.1.lt (by rw [upFrom_len]; omega) k (by rw [upFrom_len]; simp; omega)).mono ?_
  rintro e w3 ⟨v3, a3, c3, rfl, rfl, hc, ho, hr, hg⟩
  have hr3 : IsR w3 b (upFrom 0 k) none 0 := by simpa [up_take] using hr
  have H3 := Lib.hid (And.intro hr3 (below_step H2.out.2 hg hrb H2.out.2.size))
  rw [show (upFrom 0 k).length - k = 0 from by simp [upFrom_len]]
  clear hr hr3 hg ho HO hc
  go_wp2_with fail
  refine (ready_none H3.out.1 9999).mono ?_
  rintro e w4 ⟨rfl, hr, hg⟩
  have H4 := Lib.hid (And.intro hr (below_step H3.out.2 hg hrb H3.out.2.size))
  clear hr hg
  go_wp2_with fail
  obtain ⟨h, hh⟩ : ∃ h : Nat, h = (k + 1) / 2 := ⟨_, rfl⟩
  obtain ⟨q, hq⟩ : ∃ q : Nat, q = k / 2 := ⟨_, rfl⟩
  have hkq : h + q = k := by omega
  have hq257 : q < 257 := by omega
  have hh257 : h < 257 := by omega
  have hd1 : ((k : Int) + 1).tdiv 2 = (h : Int) := by rw [Int.tdiv_eq_ediv_of_nonneg (by omega)]; omega
  have hd2 : ((k : Int) + 1) / 2 = (h : Int) := by omega
  have hd3 : (k : Int).tdiv 2 = (q : Int) := by rw [Int.tdiv_eq_ediv_of_nonneg (by omega)]; omega
  have hd4 : (k : Int) / 2 = (q : Int) := by omega
  have hw1 : IntKind.i64.wrap ((k : Int) + 1) = (k : Int) + 1 := by rw [IntKind.wrap_i64]; omega
  have hw2 : IntKind.i64.wrap (h : Int) = (h : Int) := by rw [IntKind.wrap_i64]; omega
  have hw3 : IntKind.i64.wrap (q : Int) = (q : Int) := by rw [IntKind.wrap_i64]; omega
  have hkz : ((k : Int) == 0) = false := by rw [beq_eq_false_iff_ne]; omega
  obtain ⟨es1, es2⟩ := up_steal k h q hh hkq
  refine (steal_row H4.out.1 (.inl (fun e => by have := congrArg List.length e; rw [upFrom_len] at this; simp at this; omega))).mono ?_
  rintro e w5 ⟨v5, rfl, ho, hr, hg⟩
  rw [es1] at ho
  rw [es2] at hr
  have H5 := Lib.hid (And.intro hr (below_step H4.out.2 hg hrb H4.out.2.size))
  have HO5 := Lib.hid ho
  have HHH := Lib.hid (And.intro hh hq)
  clear hr hg ho es1 es2 hh hq
  go_wp2_with fail
  refine (next_any H5.out.1 9999 true rfl rfl).mono ?_
  rintro e w6 ⟨rfl, rfl⟩
  go_wp2_with fail
  refine (list_pre H5.out.1 (z := q + 1) rfl).mono ?_
  rintro e w7 ⟨a7, c7, rfl, hc7, hs7, hg7⟩
  have H7 := Lib.hid (And.intro (H5.out.1.heap (hg7.block b H5.out.1.lt (by simp))) (below_none H5.out.2 hg7 H5.out.2.size))
  have HS7 := Lib.hid hs7
  have HO7 := Lib.hid (HO5.out.grown hg7 (by simp))
  clear hs7 hg7
  go_wp2_with fail
  refine (row_sees w7 0 h (by decide) (by decide) (by omega)).mono ?_
  rintro e w8 ⟨v8, rfl, hs8, hg8⟩
  have HB8 : Hid (Below w7.heap.size w7 w8) := Lib.hid (below_of_none (a := w7) hg8 ⟨rfl, rfl, rfl, rfl⟩)
  have HS8 := Lib.hid hs8
  clear hs8 hg8
  go_wp2_with fail
  refine (same_any (HO7.out.sees.below HB8.out) HS8.out).mono ?_
  rintro e w9 ⟨rfl, hd⟩
  have HB9 := Lib.hid (below_drawn HB8.out hd)
  have H9 := Lib.hid (And.intro (H7.out.1.below HB9.out) (below_wide H7.out.2 HB9.out H7.out.2.size))
  have HS9 := Lib.hid (HS7.out.below HB9.out)
  clear hd
  go_wp2_with fail
  go_region_with (first
      | (go_at_call 11; refine (row_hq _ h q hh257 hq257).mono ?_; rintro e w10 ⟨v10, rfl, hs10, hg10⟩; have HS10 := Lib.hid hs10; have HB10 : Hid (Below w9.heap.size w9 w10) := Lib.hid (below_of_none (a := w9) hg10 ⟨rfl, rfl, rfl, rfl⟩); clear hs10 hg10)
      | (go_at_call 14; refine (same_any (HS9.out.below HB10.out) HS10.out).mono ?_; rintro e w11 ⟨rfl, hd⟩; have HB11 := Lib.hid (below_drawn HB10.out hd); clear hd)
      | (go_at_call 16; refine (len_z (H9.out.1.below HB11.out) (z := q + 1) rfl).mono ?_; rintro e w12 ⟨rfl, rfl⟩))
  all_goals (go_wp2_with fail; go_ret; exact ⟨rfl, below_wide H9.out.2 HB11.out H9.out.2.size⟩)

theorem halves_any (a : Int) (nb : Bool) (h : 0 ≤ a ∧ a ≤ 65535) (w : World) : Calls Try.prog 6 #[.int .u16 a, .bool nb] w fun e w' => e = .returned (.bool true) ∧ Below w.heap.size w w' := by
  obtain ⟨m, rfl⟩ : ∃ m : Nat, a = m := ⟨a.toNat, by omega⟩
  rcases Nat.eq_zero_or_pos (m % 257) with h0 | h0 <;> cases nb
  · exact halves_zero_none m _ (by omega) rfl h0 w
  · exact halves_zero_next m _ (by omega) rfl h0 w
  · exact halves_pos_none m _ (by omega) rfl h0 w
  · exact halves_pos_next m _ (by omega) rfl h0 w
end Go.Proofs.Ytkcoidapnmoljaa.Rng
