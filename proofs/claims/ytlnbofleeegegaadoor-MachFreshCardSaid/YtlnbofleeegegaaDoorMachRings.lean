/-
  The walk over MachRings.
-/
import Derived.Test.YtlnbofleeegegaaDoorMachLaw2
namespace Go.Proofs.YtlnbofleeegegaaDoor.Mch
open Go.RowKit
set_option linter.unusedVariables false

abbrev T : TypeId := 31
/-- A fresh machine at a place, with a processor and a ring. -/
abbrev fm (place p i : Int) : Array Value := #[.int .i64 place, .int .i64 p, .int .i64 (-1), .int .i64 (-1), .int .i64 (-1), .int .i64 (-1), .int .i64 i, .bool false, .bool false, .slice none 0 0, .int .i64 0, .int .i64 0, .int .i64 0, .int .i64 0, .int .i64 0, .int .i64 0, .int .u64 0, .int .i64 0]

theorem heap_of_below {B g : Nat} {w w' : World} {o : Obj} (hb : Below B w w') (hg : g < B) (h : w.heap[g]? = some o) : w'.heap[g]? = some o := (hb.block g hg).trans h
theorem heap_alloc_keep {w : World} {g : Nat} {o : Obj} (o' : Obj) (h : w.heap[g]? = some o) : (w.alloc o').heap[g]? = some o := by
  have := (Array.getElem?_eq_some_iff.1 h).1
  rw [heap_alloc_old (h := this)]; exact h
theorem lt_of_heap {w : World} {g : Nat} {o : Obj} (h : w.heap[g]? = some o) : g < w.heap.size := (Array.getElem?_eq_some_iff.1 h).1
theorem fresh_fm (w : World) : Calls Tryd.prog 8 #[] w fun e w' => e = .returned (.agg (fm 16 (-1) 0)) ∧ w.alloc (.cells (fm 16 (-1) 0) T) = w' := fresh_any w
theorem lock_fm (place p i n r : Int) (hr : lockOf place p i n = r) (hn : n ≤ 4611686018427387904) (hi : i ≤ 9223372036854775807) (w : World) (hT : Table w) :
    Calls Tryd.prog 9 #[.agg (fm place p i), .int .i64 n] w fun e w' => e = .returned (.int .i64 r) ∧ Below w.heap.size w w' := by
  rw [← hr]; exact lock_any place p _ _ _ _ i _ _ _ _ _ _ _ _ _ _ _ n hn hi w hT

set_option maxHeartbeats 1000000 in
theorem rings_any (p i n : Int) (hp : 0 ≤ p ∧ p ≤ 255) (hi : 0 ≤ i ∧ i ≤ 255) (hn : 0 ≤ n ∧ n ≤ 255) (w : World) (hT : Table w) :
    Calls Tryd.prog 3 #[.int .u8 p, .int .u8 i, .int .u8 n] w fun e w' => e = .returned (.bool true) ∧ Below w.heap.size w w' := by
  obtain ⟨hp0, hp1⟩ := hp; obtain ⟨hi0, hi1⟩ := hi; obtain ⟨hn0, hn1⟩ := hn
  go_enter Tryd.func3, Tryd.ntmps3
  go_wp2_with fail
  refine (lives_any _ hT).mono ?_
  rintro e w1 ⟨rfl, hb1⟩
  have hT1 := hT.below hb1
  go_wp2_with fail
  refine (fresh_fm _).mono ?_
  rintro e w' ⟨rfl, rfl⟩
  go_wp2_with (first | (refine Big.wpList_store_new rfl rfl 31 _ _ rfl _ _ _ _ _ rfl ?_ rfl (by exact szM) (by rfl) (by rfl) ?_; next => (simp; done)) | (refine Big.wpList_load_new rfl 31 _ rfl _ _ _ _ rfl ?_ aggM (by exact szM) ?_; next => (simp; done)))
  have hk1 : 1 ≤ 1 + n % 64 ∧ 1 + n % 64 ≤ 64 := by omega
  generalize 1 + n % 64 = k at *
  obtain ⟨hk1, hk2⟩ := hk1
  have hA : 0 ≤ p % k ∧ p % k < k := ⟨Int.emod_nonneg _ (by omega), Int.emod_lt_of_pos _ (by omega)⟩
  generalize p % k = A at *
  obtain ⟨hA0, hA1⟩ := hA
  have r28 : lockOf 28 A 0 k = A + 1 := by rw [lockOf_is hk1]; simp [refOf, hA0, hA1]
  have r3 : lockOf 3 A 0 k = A + 1 := by rw [lockOf_is hk1]; simp [refOf, hA0, hA1]
  have r9 : lockOf 9 (-1) A k = A + 1 := by rw [lockOf_is hk1]; simp [refOf, hA0, hA1]
  have r23 : lockOf 23 (-1) 0 k = 0 := by rw [lockOf_is hk1]; simp [refOf]
  have r25 : lockOf 25 (-1) 0 k = k + 1 := by rw [lockOf_is hk1]; simp [refOf]
  obtain ⟨a, ha⟩ : ∃ a, a = w1.heap.size + 1 := ⟨_, rfl⟩
  have hB2 : Below w.heap.size w ((w1.alloc (.cells (fm 16 (-1) 0) T)).alloc (.cells (fm 28 A 0) T)) := (hb1.alloc hb1.size _).alloc (by simp; have := hb1.size; omega) _
  have hT2 : Table ((w1.alloc (.cells (fm 16 (-1) 0) T)).alloc (.cells (fm 28 A 0) T)) := (hT1.alloc _).alloc _
  have hG2 : ((w1.alloc (.cells (fm 16 (-1) 0) T)).alloc (.cells (fm 28 A 0) T)).heap[w1.heap.size + 1]? = some (.cells (fm 28 A 0) T (0, 0)) := heap_alloc2_new _ _ _
  have hs2 : ((w1.alloc (.cells (fm 16 (-1) 0) T)).alloc (.cells (fm 28 A 0) T)).heap.size = a + 1 := by rw [ha]; simp
  rw [← ha] at hG2 ⊢
  have hwa : w.heap.size ≤ a := by rw [ha]; have := hb1.size; omega
  clear hT1 ha
  generalize (w1.alloc (.cells (fm 16 (-1) 0) T)).alloc (.cells (fm 28 A 0) T) = W2 at *
  clear hb1
  refine (lock_fm 28 A 0 k _ r28 (by omega) (by omega) _ hT2).mono ?_
  rintro e w3 ⟨rfl, hb3⟩
  have hG3 := heap_of_below hb3 (lt_of_heap hG2) hG2
  have hT3 := hT2.below hb3
  have hB3 := hB2.trans (hb3.mono hB2.size)
  clear hb3 hB2 hT2 hG2 hs2
  have c0 : w3.cell? ⟨a, 0, none⟩ = some (.int .i64 28) := cell_of_row w3 a 0 _ _ _ hG3
  have f0 : ∀ j, w3.frozen? ⟨a, j, none⟩ = false := fun j => frozen_of_row w3 a j _ _ hG3
  go_wp2_with fail
  clear c0 f0
  have hG4 : (w3.setCell ⟨a, 0, none⟩ (.int .i64 3)).heap[a]? = some (.cells (fm 3 A 0) T (0, 0)) := heap_setCell_same w3 a 0 _ T _ hG3
  have hB4 : Below w.heap.size w (w3.setCell ⟨a, 0, none⟩ (.int .i64 3)) := hB3.setCell hwa _
  clear hG3 hB3 hT3
  generalize w3.setCell ⟨a, 0, none⟩ (.int .i64 3) = W4 at *
  refine (fresh_fm _).mono ?_
  rintro e w' ⟨rfl, rfl⟩
  have c1 : ∀ o o', ((W4.alloc o).alloc o').cell? ⟨a, 1, none⟩ = some (.int .i64 A) := fun o o' => cell_of_row _ a 1 _ _ _ (heap_alloc_keep o' (heap_alloc_keep o hG4))
  have hB : 0 ≤ i % k ∧ i % k < k := ⟨Int.emod_nonneg _ (by omega), Int.emod_lt_of_pos _ (by omega)⟩
  have hJ : 0 ≤ (A - i) % k ∧ (A - i) % k < k := ⟨Int.emod_nonneg _ (by omega), Int.emod_lt_of_pos _ (by omega)⟩
  have r6 : lockOf 6 (i % k) ((A - i) % k) k = A + 1 := by
    rw [lockOf_is hk1]
    unfold refOf
    (repeat rw [if_neg (by omega)])
    rw [if_pos rfl, if_pos ⟨hB.1, hB.2, hJ.1⟩, ← Int.add_emod, show i + (A - i) = A from by omega, Int.emod_eq_of_lt hA0 hA1]
  clear r28
  go_wp2_with (first | (refine Big.wpList_store_new rfl rfl 31 _ _ rfl _ _ _ _ _ rfl ?_ rfl (by exact szM) (by rfl) (by rfl) ?_; next => (simp; done)) | (refine Big.wpList_load_new rfl 31 _ rfl _ _ _ _ rfl ?_ aggM (by exact szM) ?_; next => (simp; done)))
  go_region
  generalize i % k = B at *
  generalize (A - i) % k = J at *
  obtain ⟨b, hb⟩ : ∃ b, b = W4.heap.size + 1 := ⟨_, rfl⟩
  have hwb : w.heap.size ≤ b := by rw [hb]; have := hB4.size; omega
  have hab : a < b := by rw [hb]; have := lt_of_heap hG4; omega
  have gb : (((W4.alloc (.cells (fm 16 (-1) 0) T)).alloc (.cells (fm 6 B J) T)).drew).heap[W4.heap.size + 1]? = some (.cells (fm 6 B J) T (0, 0)) := heap_alloc2_new _ _ _
  have ga : (((W4.alloc (.cells (fm 16 (-1) 0) T)).alloc (.cells (fm 6 B J) T)).drew).heap[a]? = some (.cells (fm 3 A 0) T (0, 0)) := heap_alloc_keep _ (heap_alloc_keep _ hG4)
  have hB5 : Below w.heap.size w (((W4.alloc (.cells (fm 16 (-1) 0) T)).alloc (.cells (fm 6 B J) T)).drew) := ((hB4.alloc hB4.size _).alloc (by simp; have := hB4.size; omega) _).drew
  rw [← hb] at gb ⊢
  clear hb hB4 hG4 c1
  generalize (((W4.alloc (.cells (fm 16 (-1) 0) T)).alloc (.cells (fm 6 B J) T)).drew) = W5 at *
  go_wp2_with fail
  refine (fresh_fm _).mono ?_
  rintro e w' ⟨rfl, rfl⟩
  have c1 : ∀ o o', ((W5.alloc o).alloc o').cell? ⟨a, 1, none⟩ = some (.int .i64 A) := fun o o' => cell_of_row _ a 1 _ _ _ (heap_alloc_keep o' (heap_alloc_keep o ga))
  go_wp2_with (first | (refine Big.wpList_store_new rfl rfl 31 _ _ rfl _ _ _ _ _ rfl ?_ rfl (by exact szM) (by rfl) (by rfl) ?_; next => (simp; done)) | (refine Big.wpList_load_new rfl 31 _ rfl _ _ _ _ rfl ?_ aggM (by exact szM) ?_; next => (simp; done)))
  clear c1
  obtain ⟨c, hc⟩ : ∃ c, c = W5.heap.size + 1 := ⟨_, rfl⟩
  have hwc : w.heap.size ≤ c := by rw [hc]; have := hB5.size; omega
  have gc : ((W5.alloc (.cells (fm 16 (-1) 0) T)).alloc (.cells (fm 9 (-1) A) T)).heap[W5.heap.size + 1]? = some (.cells (fm 9 (-1) A) T (0, 0)) := heap_alloc2_new _ _ _
  have ga6 : ((W5.alloc (.cells (fm 16 (-1) 0) T)).alloc (.cells (fm 9 (-1) A) T)).heap[a]? = some (.cells (fm 3 A 0) T (0, 0)) := heap_alloc_keep _ (heap_alloc_keep _ ga)
  have gb6 : ((W5.alloc (.cells (fm 16 (-1) 0) T)).alloc (.cells (fm 9 (-1) A) T)).heap[b]? = some (.cells (fm 6 B J) T (0, 0)) := heap_alloc_keep _ (heap_alloc_keep _ gb)
  have hB6 : Below w.heap.size w ((W5.alloc (.cells (fm 16 (-1) 0) T)).alloc (.cells (fm 9 (-1) A) T)) := (hB5.alloc hB5.size _).alloc (by simp; have := hB5.size; omega) _
  rw [← hc] at gc ⊢
  clear hc hB5 ga gb
  generalize (W5.alloc (.cells (fm 16 (-1) 0) T)).alloc (.cells (fm 9 (-1) A) T) = W6 at *
  refine (fresh_fm _).mono ?_
  rintro e w' ⟨rfl, rfl⟩
  go_wp2_with fail
  refine (fresh_fm _).mono ?_
  rintro e w' ⟨rfl, rfl⟩
  have hB7 : Below w.heap.size w ((W6.alloc (.cells (fm 16 (-1) 0) T)).alloc (.cells (fm 16 (-1) 0) T)) := (hB6.alloc hB6.size _).alloc (by simp; have := hB6.size; omega) _
  have ga7 : ((W6.alloc (.cells (fm 16 (-1) 0) T)).alloc (.cells (fm 16 (-1) 0) T)).heap[a]? = some (.cells (fm 3 A 0) T (0, 0)) := heap_alloc_keep _ (heap_alloc_keep _ ga6)
  have gb7 : ((W6.alloc (.cells (fm 16 (-1) 0) T)).alloc (.cells (fm 16 (-1) 0) T)).heap[b]? = some (.cells (fm 6 B J) T (0, 0)) := heap_alloc_keep _ (heap_alloc_keep _ gb6)
  have gc7 : ((W6.alloc (.cells (fm 16 (-1) 0) T)).alloc (.cells (fm 16 (-1) 0) T)).heap[c]? = some (.cells (fm 9 (-1) A) T (0, 0)) := heap_alloc_keep _ (heap_alloc_keep _ gc)
  clear hB6 ga6 gb6 gc
  generalize (W6.alloc (.cells (fm 16 (-1) 0) T)).alloc (.cells (fm 16 (-1) 0) T) = W7 at *
  have d1 : A + 1 ≤ k := by omega
  have d2 : 1 ≤ A + 1 := by omega
  have ga8 : ∀ o o', ((W7.alloc o).alloc o').heap[a]? = some (.cells (fm 3 A 0) T (0, 0)) := fun o o' => heap_alloc_keep _ (heap_alloc_keep _ ga7)
  go_wp2_with (first | (refine Big.wpList_store_new rfl rfl 31 _ _ rfl _ _ _ _ _ rfl ?_ rfl (by exact szM) (by rfl) (by rfl) ?_; next => (simp; done)) | (refine Big.wpList_store_new2 rfl rfl 31 _ _ rfl _ _ _ _ _ _ rfl ?_ rfl (by exact szM) (by rfl) (by rfl) ?_; next => (simp; done)) | (refine Big.wpList_load_blk rfl 31 _ rfl a _ _ _ (ga8 _ _) rfl aggM (by exact szM) ?_))
  have hB8 : Below w.heap.size w ((W7.alloc (.cells (fm 23 (-1) 0) T)).alloc (.cells (fm 25 (-1) 0) T)) := (hB7.alloc hB7.size _).alloc (by simp; have := hB7.size; omega) _
  have gb8 : ((W7.alloc (.cells (fm 23 (-1) 0) T)).alloc (.cells (fm 25 (-1) 0) T)).heap[b]? = some (.cells (fm 6 B J) T (0, 0)) := heap_alloc_keep _ (heap_alloc_keep _ gb7)
  have gc8 : ((W7.alloc (.cells (fm 23 (-1) 0) T)).alloc (.cells (fm 25 (-1) 0) T)).heap[c]? = some (.cells (fm 9 (-1) A) T (0, 0)) := heap_alloc_keep _ (heap_alloc_keep _ gc7)
  have gs8 : ((W7.alloc (.cells (fm 23 (-1) 0) T)).alloc (.cells (fm 25 (-1) 0) T)).heap[W7.heap.size]? = some (.cells (fm 23 (-1) 0) T (0, 0)) := heap_alloc2_old _ _ _
  have gw8 : ((W7.alloc (.cells (fm 23 (-1) 0) T)).alloc (.cells (fm 25 (-1) 0) T)).heap[W7.heap.size + 1]? = some (.cells (fm 25 (-1) 0) T (0, 0)) := heap_alloc2_new _ _ _
  clear ga8 ga7 gb7 gc7 hB7
  generalize (W7.alloc (.cells (fm 23 (-1) 0) T)).alloc (.cells (fm 25 (-1) 0) T) = W8 at *
  refine (lock_fm 3 A 0 k _ r3 (by omega) (by omega) W8 (hT.below hB8)).mono ?_
  rintro e W9 ⟨rfl, hb⟩
  have hB9 := hB8.trans (hb.mono hB8.size)
  have gb9 := heap_of_below hb (lt_of_heap gb8) gb8
  have gc9 := heap_of_below hb (lt_of_heap gc8) gc8
  have gs9 := heap_of_below hb (lt_of_heap gs8) gs8
  have gw9 := heap_of_below hb (lt_of_heap gw8) gw8
  clear hb hB8 gb8 gc8 gs8 gw8
  go_wp2_with (refine Big.wpList_load_blk_g rfl 31 _ rfl b _ _ _ gb9 rfl aggM (by exact szM) ?_)
  refine (lock_fm 6 B J k _ r6 (by omega) (by omega) W9 (hT.below hB9)).mono ?_
  rintro e W10 ⟨rfl, hb⟩
  have hB10 := hB9.trans (hb.mono hB9.size)
  have gc10 := heap_of_below hb (lt_of_heap gc9) gc9
  have gs10 := heap_of_below hb (lt_of_heap gs9) gs9
  have gw10 := heap_of_below hb (lt_of_heap gw9) gw9
  clear hb hB9 gc9 gs9 gw9
  go_wp2_with (refine Big.wpList_load_blk_g rfl 31 _ rfl c _ _ _ gc10 rfl aggM (by exact szM) ?_)
  refine (lock_fm 9 (-1) A k _ r9 (by omega) (by omega) W10 (hT.below hB10)).mono ?_
  rintro e W11 ⟨rfl, hb⟩
  have hB11 := hB10.trans (hb.mono hB10.size)
  have gs11 := heap_of_below hb (lt_of_heap gs10) gs10
  have gw11 := heap_of_below hb (lt_of_heap gw10) gw10
  clear hb hB10 gs10 gw10
  go_wp2_with (refine Big.wpList_load_blk_g rfl 31 _ rfl W7.heap.size _ _ _ gs11 rfl aggM (by exact szM) ?_)
  refine (lock_fm 23 (-1) 0 k _ r23 (by omega) (by omega) W11 (hT.below hB11)).mono ?_
  rintro e W12 ⟨rfl, hb⟩
  have hB12 := hB11.trans (hb.mono hB11.size)
  have gw12 := heap_of_below hb (lt_of_heap gw11) gw11
  clear hb hB11 gw11
  go_wp2_with (refine Big.wpList_load_blk_g rfl 31 _ rfl (W7.heap.size + 1) _ _ _ gw12 rfl aggM (by exact szM) ?_)
  refine (lock_fm 25 (-1) 0 k _ r25 (by omega) (by omega) W12 (hT.below hB12)).mono ?_
  rintro e W13 ⟨rfl, hb⟩
  have hB13 := hB12.trans (hb.mono hB12.size)
  clear hb hB12 
  go_wp2
  go_ret
  exact ⟨rfl, hB13⟩
end Go.Proofs.YtlnbofleeegegaaDoor.Mch
