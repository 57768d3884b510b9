/-
  The library's sort at uint16: breakPatternsOrdered, of more than twelve: some permutation.
-/
import Derived.Test.YtefpbfdbpckcmaaSoChoose
import Derived.Test.YtefpbfdbpckcmaaSoShelf
import Derived.Laws.Bits64b
namespace Go.Proofs.Ytefpbfdbpckcmaa.So
open Go.RowKit Go.Sort
set_option linter.unusedVariables false

theorem pow2_is (l : Nat) (h0 : 0 < l) (hl : l < 4611686018427387904) (w : World) : Calls Try.prog 50 #[.int .i64 l] w fun e w' => ∃ M : Nat, e = .returned (.int .u64 M) ∧ 0 < M ∧ M ≤ 2 * l ∧ w = w' := by
  have h := AnyF.nextPowerOfTwo (P := Try.prog) powL l hl w
  change Calls Try.prog 50 _ _ _ at h
  refine h.mono ?_
  rintro e w' ⟨rfl, rfl⟩
  exact ⟨_, rfl, by rw [Nat.one_shiftLeft]; exact Nat.two_pow_pos _, by rw [Nat.one_shiftLeft]; exact two_pow_bitsLen_le h0, rfl⟩
theorem len_is (n : Nat) (hn : n < 4611686018427387904) (w : World) : Calls Try.prog 37 #[.int .u64 n] w fun e w' => e = .returned (.int .i64 (bitsLen n : Nat)) ∧ w = w' := by
  have h := Any.bits_Len (SlLaysF0.n15.bits (P := Try.prog) (ρ := bitsL_ren) { bitsL with }) (n : Int) w (by omega) (by omega)
  rw [Int.toNat_natCast, bitLen_eq _ (by omega)] at h
  change Calls Try.prog 37 _ _ _ at h
  refine h.mono ?_
  rintro e w' ⟨rfl, rfl⟩
  exact ⟨rfl, rfl⟩
def Big64 (Y : Nat) : Prop := Y < 18446744073709551616
theorem xor_is {R X : Nat} (hX : Big64 X) (w : World) (hB : w.heap[R]? = some (.cells #[.int .u64 X] 91 (0, 0))) :
    Calls Try.prog 51 #[.pointer (some ⟨R, 0, none⟩)] w fun e w' => ∃ Y : Nat, e = .returned (.int .u64 Y) ∧ Big64 Y ∧ w'.heap[R]? = some (.cells #[.int .u64 Y] 91 (0, 0)) ∧ w.grownBy w' (some R) := by
  have h := AnyF.xorshift_Next (P := Try.prog) xorL R 0 X hX w (cell_of_row _ _ 0 _ _ _ hB) (frozen_of_row _ _ 0 _ _ hB)
  change Calls Try.prog 51 _ _ _ at h
  refine h.mono ?_
  rintro e w' ⟨rfl, rfl⟩
  refine ⟨_, rfl, xorNextN_lt X hX, ?_, ?_⟩
  · exact heap_setCell_same w R 0 _ _ _ hB
  · exact ⟨rfl, rfl, rfl, by show w.heap.size ≤ (w.setCell _ _).heap.size; simp, fun k hk hne => heap_setCell_other w _ _ _ (fun e => hne (by rw [e]))⟩
theorem and_lt (Y m : Nat) (hY : Big64 Y) (hm : m < 18446744073709551616) : ∃ o : Nat, bits .and .u64 (Y : Int) (m : Int) = (o : Int) ∧ o ≤ m := by
  exact ⟨Y &&& m, bits_and_u64_nat Y m hY hm, Nat.and_le_right⟩

/-- What a round of breakPatterns keeps. -/
structure Brk (w : World) (b off n lo hi R : Nat) (d dk : Array Int) (r : Nat) (wr : World) : Prop where
  size : dk.size = n
  perm : PermIn lo hi d dk
  holds : Holds (Value.int .u16) wr b off dk
  rnd : wr.heap[R]? = some (.cells #[.int .u64 r] 91 (0, 0))
  grown : w.grownBy wr (some b)
  big : Big64 r
theorem Brk.next {w : World} {b off n lo hi R : Nat} {d dk : Array Int} {r r' : Nat} {wr w' : World} (h : Brk w b off n lo hi R d dk r wr) (hR : w.heap.size ≤ R) (hne : R ≠ b) (hbl : b < wr.heap.size) (hY : Big64 r') (hB : w'.heap[R]? = some (.cells #[.int .u64 r'] 91 (0, 0))) (hg : wr.grownBy w' (some R)) :
    Brk w b off n lo hi R d dk r' w' := by
  have hb : w'.heap[b]? = wr.heap[b]? := hg.block b hbl (fun e => hne (Option.some.inj e).symm)
  refine ⟨h.size, h.perm, fun t ht => ⟨(World.cell?_of_block (a := ⟨b, off + t, none⟩) hb).trans (h.holds t ht).1, (World.frozen?_of_block (a := ⟨b, off + t, none⟩) hb).trans (h.holds t ht).2⟩, hB, ?_, hY⟩
  exact ⟨hg.os.trans h.grown.os, hg.tape.trans h.grown.tape, hg.output.trans h.grown.output, Nat.le_trans h.grown.size hg.size, fun k hk hne2 => (hg.block k (Nat.lt_of_lt_of_le hk h.grown.size) (fun e => by have := Option.some.inj e; omega)).trans (h.grown.block k hk hne2)⟩
theorem Brk.swap {w : World} {b off n lo hi R : Nat} {d dk : Array Int} {r : Nat} {wr : World} (h : Brk w b off n lo hi R d dk r wr) (hne : R ≠ b) (i j : Nat) (hi1 : lo ≤ i) (hi2 : i < hi) (hj1 : lo ≤ j) (hj2 : j < hi) (hh : hi ≤ n) (x y : Int) (hx : x = dk[j]!) (hy : y = dk[i]!) :
    Brk w b off n lo hi R d (swp dk i j) r ((wr.drew.setCell ⟨b, off + i, none⟩ (.int .u16 x)).setCell ⟨b, off + j, none⟩ (.int .u16 y)) := by
  have hR : Row w b off dk wr.drew := ⟨h.holds, ⟨h.grown.os, h.grown.tape, h.grown.output, h.grown.size, h.grown.block⟩⟩
  have hs := h.size
  have hS := hR.swap i j (by omega) (by omega) x y hx hy
  refine ⟨by rw [size_swp]; exact hs, permIn_trans _ _ _ _ _ h.perm (swp_permIn _ _ _ _ _ hi1 hi2 hj1 hj2 (by omega)), hS.holds, ?_, hS.grown, h.big⟩
  exact (heap_setCell_other _ _ _ _ hne).trans ((heap_setCell_other _ _ _ _ hne).trans h.rnd)

set_option maxRecDepth 100000 in
set_option maxHeartbeats 2000000 in
theorem break_is {w : World} {b off cap n lo hi : Nat} {d : Array Int} (hn : d.size = n) (hH : Holds (Value.int .u16) w b off d) (hbw : b < w.heap.size) (hlo : lo + 12 < hi) (hhi : hi ≤ n) (hsz : n < 1152921504606846976) :
    Calls Try.prog 40 #[.slice (some ⟨b, off, none⟩) n cap, .int .i64 lo, .int .i64 hi] w fun e w' => e = .returned (.tuple #[]) ∧ ∃ d', d'.size = n ∧ PermIn lo hi d d' ∧ Row w b off d' w' := by
  obtain ⟨l, hl⟩ : ∃ l, l = hi - lo := ⟨_, rfl⟩
  obtain ⟨q, hq⟩ : ∃ q, q = l / 4 := ⟨_, rfl⟩
  obtain ⟨m, hm⟩ : ∃ m, m = lo + q * 2 := ⟨_, rfl⟩
  obtain ⟨m0, hm0⟩ : ∃ m0, m0 = m - 1 := ⟨_, rfl⟩
  obtain ⟨m1, hm1⟩ : ∃ m1, m1 = m + 1 := ⟨_, rfl⟩
  have e1 : (hi : Int) - (lo : Int) = (l : Int) := by omega
  have e2 : (l : Int) / 4 = (q : Int) := by omega
  have e2' : (l : Int).tdiv 4 = (q : Int) := by rw [Int.tdiv_eq_ediv_of_nonneg (by omega)]; exact e2
  have e3 : (lo : Int) + (q : Int) * 2 = (m : Int) := by omega
  have e4 : (m : Int) - 1 = (m0 : Int) := by omega
  have e5 : (m : Int) + 1 = (m1 : Int) := by omega
  have h8 : (8 : Int) ≤ (l : Int) := by omega
  have hqn : q < n := by omega
  have hln : l ≤ n := by omega
  have hl0 : 0 < l := by omega
  have hmb : lo ≤ m0 ∧ m1 < hi := by omega
  have hmn : m < n := by omega
  have hR0 : Row w b off d w := ⟨hH, ⟨rfl, rfl, rfl, Nat.le_refl _, fun _ _ _ => rfl⟩⟩
  have HR0 := Lib.hid hR0
  have HN := Lib.hid hn
  have HB := Lib.hid (And.intro hl (And.intro hq (And.intro hm (And.intro hm0 hm1))))
  have hne : w.heap.size ≠ b := by omega
  clear hR0 hn hH hl hq hm hm0 hm1
  go_enter Try.func40, Try.ntmps40
  go_wp2_with fail
  refine (pow2_is l hl0 (by omega) _).mono ?_
  rintro e w' ⟨M, rfl, hM0, hM, rfl⟩
  obtain ⟨M1, hM1⟩ : ∃ M1, M1 = M - 1 := ⟨_, rfl⟩
  have e6 : (M : Int) - 1 = (M1 : Int) := by omega
  have hw6 : IntKind.u64.wrap ((M : Int) - 1) = (M1 : Int) := by rw [IntKind.wrap_u64]; omega
  have hM1l : M1 < 2 * l := by omega
  have HW1 : Hid (Brk w b off n lo hi w.heap.size d d l (w.alloc (.cells #[.int .u64 l] 91))) := Lib.hid (by
    have hb : (w.alloc (.cells #[.int .u64 (l : Int)] 91)).heap[b]? = w.heap[b]? := heap_alloc_old _ _ hbw
    exact ⟨HN.out, permIn_refl _ _ _, fun t ht => ⟨(World.cell?_of_block (a := ⟨b, off + t, none⟩) hb).trans (HR0.out.holds t ht).1, (World.frozen?_of_block (a := ⟨b, off + t, none⟩) hb).trans (HR0.out.holds t ht).2⟩, heap_alloc_new _ _, World.grownBy_alloc _ _ _, by unfold Big64; omega⟩)
  clear hM1 e6
  go_wp2_with fail
  clear e1 e2 e2' 
  go_loopw [9, 10] (fun vi _ wr => ∃ (i r : Nat) (dk : Array Int), vi = .int .i64 i ∧ m0 ≤ i ∧ i ≤ m1 + 1 ∧ Brk w b off n lo hi w.heap.size d dk r wr) (fun vi _ _ => m1 + 1 - (intOf vi).toNat)
  case atStart => exact ⟨m0, l, d, rfl, Nat.le_refl _, by have := HB.out; omega, HW1.out⟩
  case round =>
    clear HW1 HR0
    obtain ⟨i, r, dk, rfl, hi0, hi1, hB⟩ := hrel
    have HK := Lib.hid hB
    clear hB
    have e2 : (l : Int) / 4 = (q : Int) := by have := HB.out; omega
    have e2' : (l : Int).tdiv 4 = (q : Int) := by rw [Int.tdiv_eq_ediv_of_nonneg (by omega)]; exact e2
    by_cases hlt : i ≤ m1
    · have hlt' : (i : Int) ≤ (m1 : Int) := by omega
      go_wp2_with fail
      clear e2 e2'
      refine (xor_is HK.out.big wr HK.out.rnd).mono ?_
      rintro e w3 ⟨Y, rfl, hY, hB3, hg3⟩
      obtain ⟨o, ho, hom⟩ := and_lt Y M1 hY (by omega)
      have hwo : IntKind.i64.wrap (o : Int) = (o : Int) := by rw [IntKind.wrap_i64]; omega
      have H3 := Lib.hid (HK.out.next (Nat.le_refl _) hne (Nat.lt_of_lt_of_le hbw HK.out.grown.size) hY hB3 hg3)
      clear hY hB3 hg3
      obtain ⟨G, hG⟩ : ∃ G : Nat → Int, ∀ t, G t = dk[t]! := ⟨fun t => dk[t]!, fun _ => rfl⟩
      have hcw : ∀ t, t < n → w3.cell? ⟨b, off + t, none⟩ = some (.int .u16 (G t)) := fun t ht => by rw [hG]; exact (H3.out.holds t (by have := H3.out.size; omega)).1
      have hfw : ∀ t, t < n → w3.frozen? ⟨b, off + t, none⟩ = false := fun t ht => (H3.out.holds t (by have := H3.out.size; omega)).2
      have HG := Lib.hid hG
      have hin : i < n := by omega
      clear hG
      by_cases hol : l ≤ o
      · obtain ⟨o2, ho2⟩ : ∃ o2, o2 = o - l := ⟨_, rfl⟩
        obtain ⟨x, hx⟩ : ∃ x, x = lo + o2 := ⟨_, rfl⟩
        have f1 : (o : Int) - (l : Int) = (o2 : Int) := by omega
        have f2 : (lo : Int) + (o2 : Int) = (x : Int) := by omega
        have f3 : IntKind.i64.wrap ((lo : Int) + (o2 : Int)) = (x : Int) := by rw [IntKind.wrap_i64]; omega
        have hxb : lo ≤ x ∧ x < hi := by have := HB.out; omega
        have hxn : x < n := by omega
        clear ho2 hx
        obtain ⟨v', hv'⟩ : ∃ v', ((w3.setCell ⟨b, off + i, none⟩ (.int .u16 (G x))).drew).cell? ⟨b, off + x, none⟩ = some v' := ⟨_, (((Row.mk (w0 := w) H3.out.holds H3.out.grown).set i (by have := H3.out.size; omega) (G x)).drew).cell x (by have := H3.out.size; simp; omega)⟩
        go_wp2
        go_region
        all_goals go_wp2
        go_roundw
        case rel => exact ⟨i + 1, Y, swp dk i x, by go_num, by omega, by omega, H3.out.swap hne i x (by omega) (by omega) hxb.1 hxb.2 hhi _ _ (HG.out _) (HG.out _)⟩
        case measure => simp [intOf] <;> omega
      · obtain ⟨x, hx⟩ : ∃ x, x = lo + o := ⟨_, rfl⟩
        have f2 : (lo : Int) + (o : Int) = (x : Int) := by omega
        have f3 : IntKind.i64.wrap ((lo : Int) + (o : Int)) = (x : Int) := by rw [IntKind.wrap_i64]; omega
        have hxb : lo ≤ x ∧ x < hi := by have := HB.out; omega
        have hxn : x < n := by omega
        clear hx
        obtain ⟨v', hv'⟩ : ∃ v', ((w3.setCell ⟨b, off + i, none⟩ (.int .u16 (G x))).drew).cell? ⟨b, off + x, none⟩ = some v' := ⟨_, (((Row.mk (w0 := w) H3.out.holds H3.out.grown).set i (by have := H3.out.size; omega) (G x)).drew).cell x (by have := H3.out.size; simp; omega)⟩
        go_wp2
        go_region
        all_goals go_wp2
        go_roundw
        case rel => exact ⟨i + 1, Y, swp dk i x, by go_num, by omega, by omega, H3.out.swap hne i x (by omega) (by omega) hxb.1 hxb.2 hhi _ _ (HG.out _) (HG.out _)⟩
        case measure => simp [intOf] <;> omega
    · have hlt' : ¬ (i : Int) ≤ (m1 : Int) := by omega
      go_wp2
      go_end0
      exact ⟨rfl, dk, HK.out.size, HK.out.perm, HK.out.holds, HK.out.grown⟩
end Go.Proofs.Ytefpbfdbpckcmaa.So
