/-
  The walk over MachFresh.
-/
import Derived.Test.YtlnbofleeegegaaDoorMachRings
import Derived.Test.YtlnbofleeegegaaDoorInts
import Derived.Deep.DeepCutAuto
namespace Go.Proofs.YtlnbofleeegegaaDoor.Mch
open Go.RowKit
open Go.Proofs.YtlnbofleeegegaaDoor.Ints
set_option linter.unusedVariables false

/-- A fresh machine at a place, with a Rest. -/
abbrev fr (place : Int) (v : Value) : Array Value := #[.int .i64 place, .int .i64 (-1), .int .i64 (-1), .int .i64 (-1), .int .i64 (-1), .int .i64 (-1), .int .i64 0, .bool false, .bool false, v, .int .i64 0, .int .i64 0, .int .i64 0, .int .i64 0, .int .i64 0, .int .i64 0, .int .u64 0, .int .i64 0]

def busyB (place : Int) : Bool := !(place == 0) && !(place == 16)

set_option maxHeartbeats 400000 in
theorem busy_any (place : Int) (v : Value) (w : World) :
    Calls Tryd.prog 11 #[.agg (fr place v)] w fun e w' => e = .returned (.bool (busyB place)) ∧ Below w.heap.size w w' := by
  by_cases h0 : place = 0
  · subst h0
    go_enter Tryd.func11, Tryd.ntmps11
    go_wp2
    go_ret
    exact ⟨rfl, (Below.refl _ _).alloc (Nat.le_refl _) _⟩
  · have b1 : (place == 0) = false := by simpa using h0
    have b2 : (place != 0) = true := by simpa using h0
    have e : busyB place = (place != 16) := by unfold busyB; rw [b1]; rfl
    rw [e]; clear e h0
    go_enter Tryd.func11, Tryd.ntmps11
    go_wp2
    go_ret
    exact ⟨rfl, (Below.refl _ _).alloc (Nat.le_refl _) _⟩

theorem setRow_heap' {w : World} {g : Nat} {cur cs : Array Value} {t : TypeId} {f : Nat × Nat} (h : w.heap[g]? = some (.cells cur t f)) : (w.setRow g cs).heap[g]? = some (.cells cs t f) := by
  simp only [World.setRow, Array.getElem?_modify, ↓reduceIte]; rw [h]; rfl
theorem setRow_other' {w : World} {g k : Nat} {cs : Array Value} (h : k ≠ g) : (w.setRow g cs).heap[k]? = w.heap[k]? := by
  simp only [World.setRow, Array.getElem?_modify]; rw [if_neg (by omega)]
theorem below_setRow' {B g : Nat} {w0 w : World} (hb : Below B w0 w) (hg : B ≤ g) (cs : Array Value) : Below B w0 (w.setRow g cs) :=
  hb.trans ⟨rfl, rfl, rfl, by simp [World.setRow], fun k hk => setRow_other' (by omega)⟩

set_option maxHeartbeats 400000 in
theorem copy_any (place : Int) {v : Value} {xs : List Int} {w : World} (hv : Sees w v xs) (hbig : xs.length * 8 ≤ 140737488355328) (hone : v.oneCell' = true) :
    Calls Tryd.prog 12 #[.agg (fr place v)] w fun e w' => ∃ v', e = .returned (.agg (fr place v')) ∧ Owns w' w.heap.size v' xs ∧ Below w.heap.size w w' := by
  go_enter Tryd.func12, Tryd.ntmps12
  go_wp2_with fail
  refine (clone_any ((hv.below ((Below.refl _ _).alloc (Nat.le_refl _) _)).below ((Below.refl _ _).alloc (Nat.le_refl _) _)) hbig).mono ?_
  rintro e w1 ⟨v', rfl, ho, hb⟩
  have hs : ∀ (o o' : Obj), ((w.alloc o).alloc o').heap.size = w.heap.size + 1 + 1 := fun o o' => by simp
  rw [hs] at ho hb
  have h1 : w1.heap[w.heap.size]? = some (.cells (fr place v) T (0, 0)) := (hb.block _ (by omega)).trans (heap_alloc2_old _ _ _)
  have h2 : w1.heap[w.heap.size + 1]? = some (.cells #[.int .i64 0, .int .i64 0, .int .i64 0, .int .i64 0, .int .i64 0, .int .i64 0, .int .i64 0, .bool false, .bool false, .slice none 0 0, .int .i64 0, .int .i64 0, .int .i64 0, .int .i64 0, .int .i64 0, .int .i64 0, .int .u64 0, .int .i64 0] T (0, 0)) := (hb.block _ (by omega)).trans (heap_alloc2_new _ _ _)
  have hB : Below w.heap.size w w1 := ⟨hb.os, hb.tape, hb.output, by have := hb.size; rw [hs] at this; omega, fun k hk => (hb.block k (by omega)).trans (by rw [heap_alloc_old (h := by simp; omega), heap_alloc_old (h := hk)])⟩
  have hone' := ho.one
  have hL : (w1.setCell ⟨w.heap.size, 9, none⟩ v').heap[w.heap.size]? = some (.cells (fr place v') T (0, 0)) := heap_setCell_same w1 _ 9 _ T _ h1
  have hZ := (heap_setCell_other w1 ⟨w.heap.size, 9, none⟩ (w.heap.size + 1) v' (by simp)).trans h2
  have c9 : w1.cell? ⟨w.heap.size, 9, none⟩ = some v := cell_of_row w1 _ 9 _ _ _ h1
  have f9 : w1.frozen? ⟨w.heap.size, 9, none⟩ = false := frozen_of_row w1 _ 9 _ _ h1
  have hD := setRow_heap' (cs := fr place v') hZ
  have hO : Owns ((w1.setCell ⟨w.heap.size, 9, none⟩ v').setRow (w.heap.size + 1) (fr place v')) w.heap.size v' xs := by
    refine (ho.kept fun g hg hge => ?_).lower (by omega)
    rw [setRow_other' (by omega), heap_setCell_other _ _ _ _ (by simp; omega)]
  have hE : Below w.heap.size w ((w1.setCell ⟨w.heap.size, 9, none⟩ v').setRow (w.heap.size + 1) (fr place v')) := below_setRow' (hB.setCell (Nat.le_refl _) _) (by omega) _
  have hO' := Lib.hid hO
  have hE' := Lib.hid hE
  clear hO hE ho hb hB h1 h2 hs hv
  obtain ⟨a', n', c', rfl⟩ : ∃ a n c, v' = .slice a n c := by
    obtain ⟨a, c, h, _⟩ := hO'.out.sees
    exact ⟨a, _, c, h⟩
  go_wp2_with (first | (refine Big.wpList_load_blk rfl 31 _ rfl w.heap.size _ _ _ hL rfl aggM (by exact szM) ?_) | (refine Big.wpList_store_blk rfl rfl 31 _ _ rfl (w.heap.size + 1) _ _ _ hZ rfl rfl (by exact szM) (by rfl) (by rfl) ?_))
  refine bodyPost_ret (Big.results_cell_blk rfl _ _ (w.heap.size + 1) T _ _ hD rfl aggM (by exact szM)) rfl ⟨_, rfl, hO'.out, hE'.out⟩

set_option maxRecDepth 100000 in
set_option maxHeartbeats 400000 in
theorem fresh_long (place : Int) (a : Option Addr) (n c : Nat) (hn : 60 < n) (w : World) (hT : Table w) :
    Calls Tryd.prog 5 #[.int .i64 place, .slice a n c] w fun e w' => e = .returned (.bool true) ∧ Below w.heap.size w w' := by
  go_enter Tryd.func5, Tryd.ntmps5
  go_wp2_with fail
  refine (lives_any _ hT).mono ?_
  rintro e w1 ⟨rfl, hb⟩
  go_wp2_with fail
  refine (lives_any _ (hT.below hb)).mono ?_
  rintro e w2 ⟨rfl, hb2⟩
  go_wp2
  go_ret
  exact ⟨rfl, hb.trans (hb2.mono hb.size)⟩

set_option maxRecDepth 100000 in
set_option maxHeartbeats 1000000 in
theorem fresh_some (place : Int) {b : Addr} {c : Nat} {xs : List Int} {w : World} (hv : Sees w (.slice (some b) xs.length c) xs) (hn : xs.length ≤ 60) (hT : Table w) :
    Calls Tryd.prog 5 #[.int .i64 place, .slice (some b) xs.length c] w fun e w' => e = .returned (.bool true) ∧ Below w.heap.size w w' := by
  have hno : ¬ 60 < xs.length := by omega
  go_enter Tryd.func5, Tryd.ntmps5
  go_wp2_with fail
  refine (lives_any _ hT).mono ?_
  rintro e w1 ⟨rfl, hb1⟩
  go_wp2_with fail
  refine (fresh_fm _).mono ?_
  rintro e w' ⟨rfl, rfl⟩
  go_wp2_with (first | (refine Big.wpList_store_new rfl rfl 31 _ _ rfl _ _ _ _ _ rfl ?_ rfl (by exact szM) (by rfl) (by rfl) ?_; next => (simp; done)) | (refine Big.wpList_load_blk_g rfl 31 _ rfl (w1.heap.size + 1) _ _ _ (heap_alloc2_new _ _ _) rfl aggM (by exact szM) ?_))
  refine (busy_any 16 (.slice none 0 0) _).mono ?_
  rw [show busyB 16 = false from rfl]
  rintro e w2 ⟨rfl, hb2⟩
  obtain ⟨f, hf⟩ : ∃ f, f = w1.heap.size + 1 := ⟨_, rfl⟩
  have hwf : w.heap.size ≤ f := by rw [hf]; have := hb1.size; omega
  have hF2 : w2.heap[w1.heap.size + 1]? = some (.cells (fr 16 (.slice none 0 0)) T (0, 0)) := heap_of_below hb2 (by simp) (heap_alloc2_new _ _ _)
  have hB2 : Below w.heap.size w w2 := ((hb1.alloc hb1.size _).alloc (by simp; have := hb1.size; omega) _).trans (hb2.mono (by simp; have := hb1.size; omega))
  rw [← hf] at hF2 ⊢
  clear hf hb1 hb2
  have c0 : w2.cell? ⟨f, 0, none⟩ = some (.int .i64 16) := cell_of_row w2 f 0 _ _ _ hF2
  have f0 : w2.frozen? ⟨f, 0, none⟩ = false := frozen_of_row w2 f 0 _ _ hF2
  have hF3 : (w2.setCell ⟨f, 0, none⟩ (.int .i64 place)).heap[f]? = some (.cells (fr place (.slice none 0 0)) T (0, 0)) := heap_setCell_same w2 f 0 _ T _ hF2
  have hB3 : Below w.heap.size w (w2.setCell ⟨f, 0, none⟩ (.int .i64 place)) := hB2.setCell hwf _
  have hvA := Lib.hid (hv.below hB3)
  obtain ⟨i0, hi, hz0, hz1, hz2⟩ := info_parts infoInt
  have hvH := Lib.hid hv
  clear hv
  go_upto_region 7 with (fail)
  clear c0 f0 hF2 hB2
  generalize w2.setCell ⟨f, 0, none⟩ (.int .i64 place) = W3 at *
  have hlt3 := lt_of_heap hF3
  obtain ⟨_, _, hab, _, _, hc⟩ := hvA.out
  have A : Hid (∀ i x, xs[i]? = some x → W3.cell? (b.add i) = some (.int .i64 x)) := Lib.hid fun i x h => by obtain ⟨_, e, h⟩ := hc i x h; cases hab; cases e; exact h
  clear hab hc
  go_wp2_with (at_builtin; refine wpList_append_own _ rfl _ _ 24 rfl W3.heap.size 3 i0 (.int .i64 0) 1 8 Tryd.underlying24 hi hz0 hz1 hz2 rfl (by decide) _ _ _ rfl (World.ownsRow_made W3 #[] 0 (Nat.le_refl _) (Nat.zero_le _) rfl) b xs.length c (xs.map (Value.int .i64)) rfl ?qc1 ?qc2 ?qc3 ?qc4 ?qc5 ?qc6 ?_)
  case qc1 => simp
  case qc2 =>
    intro j u hj
    refine Lib.cell?_alloc_some _ ?_
    rw [List.getElem?_map] at hj
    obtain ⟨x, h, rfl⟩ := Option.map_eq_some_iff.1 hj
    exact A.out j x h
  case qc3 => intro u hu; obtain ⟨x, _, rfl⟩ := List.mem_map.1 hu; rfl
  case qc4 => unfold maxLen; omega
  case qc5 => omega
  case qc6 => simp
  intro v' w3 hown hgrow _
  have hO3 : Owns w3 W3.heap.size v' xs := by simpa [Owns] using hown
  have hF4 : w3.heap[f]? = some (.cells (fr place (.slice none 0 0)) T (0, 0)) :=
    (hgrow.block f (by simp; omega) (by simp [Value.ownBlock]; omega)).trans (heap_alloc_keep _ hF3)
  have hB4 : Below w.heap.size w w3 := (hB3.alloc hB3.size _).grown hgrow (by simp; have := hB3.size; omega) (by intro k hk; simp [Value.ownBlock] at hk; have := hB3.size; omega)
  clear hown hgrow hF3 hvA A
  obtain ⟨a', c', rfl⟩ : ∃ a c, v' = .slice a xs.length c := by
    obtain ⟨a, c, h, _⟩ := hO3.sees
    exact ⟨a, c, h⟩
  have c9 : w3.cell? ⟨f, 9, none⟩ = some (.slice none 0 0) := cell_of_row w3 f 9 _ _ _ hF4
  have f9 : w3.frozen? ⟨f, 9, none⟩ = false := frozen_of_row w3 f 9 _ _ hF4
  have hO3' := Lib.hid hO3
  clear hO3
  go_upto_region 8 with (fail)
  have hF5 : (w3.setCell ⟨f, 9, none⟩ (.slice a' xs.length c')).heap[f]? = some (.cells (fr place (.slice a' xs.length c')) T (0, 0)) := heap_setCell_same w3 f 9 _ T _ hF4
  have hB5 : Below w.heap.size w (w3.setCell ⟨f, 9, none⟩ (.slice a' xs.length c')) := hB4.setCell hwf _
  have hO5 : Owns (w3.setCell ⟨f, 9, none⟩ (.slice a' xs.length c')) W3.heap.size (.slice a' xs.length c') xs :=
    hO3'.out.kept fun g hg hge => heap_setCell_other _ _ _ _ (by simp; omega)
  clear c9 f9 hF4 hB4 hO3'
  generalize w3.setCell ⟨f, 9, none⟩ (.slice a' xs.length c') = W4 at *
  go_wp2_with (refine Big.wpList_load_blk rfl 31 _ rfl f _ _ _ hF5 rfl aggM (by exact szM) ?_)
  refine (copy_any place hO5.sees (by omega) rfl).mono ?_
  rintro e w5 ⟨v2, rfl, hO2, hb5⟩
  have hf4 := lt_of_heap hF5
  have hone2 := hO2.one
  obtain ⟨a2, c2, rfl⟩ : ∃ a c, v2 = .slice a xs.length c := by
    obtain ⟨a, c, h, _⟩ := hO2.sees
    exact ⟨a, c, h⟩
  go_upto_region 9 with (first | (refine Big.wpList_store_new rfl rfl 31 _ _ rfl _ _ _ _ _ rfl ?_ rfl (by exact szM) (by rfl) (by rfl) ?_; next => (simp; done)))
  have hC : (w5.alloc (.cells (fr place (.slice a2 xs.length c2)) T)).heap[w5.heap.size]? = some (.cells (fr place (.slice a2 xs.length c2)) T (0, 0)) := heap_alloc_new _ _
  have hb6 : Below W4.heap.size W4 (w5.alloc (.cells (fr place (.slice a2 xs.length c2)) T)) := hb5.alloc hb5.size _
  have hF6 := heap_of_below hb6 hf4 hF5
  have hB6 := hB5.trans (hb6.mono hB5.size)
  have hO6 := hO5.below hb6
  have hP6 := hO2.below ((Below.refl _ _).alloc (Nat.le_refl _) (.cells (fr place (.slice a2 xs.length c2)) T))
  have hfc : f < w5.heap.size := Nat.lt_of_lt_of_le hf4 hb5.size
  have h24 : ∀ g, (Value.slice a' xs.length c').ownBlock = some g → W3.heap.size ≤ g ∧ g < W4.heap.size := fun g hg => hO5.block hg
  have hsz5 := hb5.size
  clear hO2 hO5 hB5 hF5 hb5 hb6 hone2
  generalize (w5.alloc (.cells (fr place (.slice a2 xs.length c2)) T)) = W6 at *
  generalize w5.heap.size = cc at *
  have c9 : W6.cell? ⟨f, 9, none⟩ = some (.slice a' xs.length c') := cell_of_row W6 f 9 _ _ _ hF6
  go_wp2_with fail
  have hv6 : Sees W6 (.slice (some b) xs.length c) xs := hvH.out.below hB6
  have hvlt : ∀ g, (Value.slice (some b) xs.length c).ownBlock = some g → xs ≠ [] → g < w.heap.size := by
    intro g hg hne
    obtain ⟨_, _, e, _, _, hc⟩ := hvH.out
    cases xs with
    | nil => exact absurd rfl hne
    | cons x t =>
      obtain ⟨b', e', h⟩ := hc 0 x rfl
      cases e; cases e'
      have := cell_lt h
      rw [block_add] at this
      simp [Value.ownBlock] at hg
      omega
  clear hvH
  have HF := Lib.hid hF6
  have HC := Lib.hid hC
  have HB := Lib.hid hB6
  have HO := Lib.hid hO6
  have HP := Lib.hid hP6
  have HV := Lib.hid hv6
  have H24 := Lib.hid h24
  have HVL := Lib.hid hvlt
  clear hF6 hC hB6 hO6 hP6 hv6 h24 hvlt
  go_loopw [100] (fun i wr => ∃ (k : Nat) (ys : List Int), k ≤ xs.length ∧ i = .int .i64 k ∧ ys.length = xs.length ∧ Owns wr W3.heap.size (.slice a' xs.length c') ys ∧ W6.grownBy wr (Value.slice a' xs.length c').ownBlock) (fun i _ => xs.length - (intOf i).toNat)
  case atStart => exact ⟨0, xs, Nat.zero_le _, rfl, rfl, HO.out, World.grownBy.refl _ _⟩
  case round =>
    obtain ⟨k, ys, hk, rfl, hyl, ho, hg⟩ := hrel
    have HY := Lib.hid hyl
    have HO2 := Lib.hid ho
    have HG := Lib.hid hg
    have hFr : wr.heap[f]? = some (.cells (fr place (.slice a' xs.length c')) T (0, 0)) := (hg.block f (lt_of_heap HF.out) (fun e => by have := (H24.out f e.symm).1; omega)).trans HF.out
    have c9r : wr.cell? ⟨f, 9, none⟩ = some (.slice a' xs.length c') := cell_of_row wr f 9 _ _ _ hFr
    clear hyl ho hg c9
    by_cases hlen : k < xs.length
    · obtain ⟨g, rfl⟩ : ∃ g, a' = some ⟨g, 0, none⟩ := by
        rcases HO2.out.2 with ⟨e, h0⟩ | ⟨g, cap, cur, e, _⟩
        · rw [HY.out] at h0; omega
        · simp only [Value.slice.injEq] at e; exact ⟨g, e.1⟩
      have hlen2 : k < ys.length := by rw [HY.out]; exact hlen
      obtain ⟨y, hy⟩ : ∃ y, ys[k]? = some y := ⟨_, List.getElem?_eq_getElem hlen2⟩
      have HO3 : World.ownsRow wr W3.heap.size 3 1 (.slice (some ⟨g, 0, none⟩) xs.length c') xs.length (ys.map (Value.int .i64)) := by
        have := HO2.out; unfold Owns at this; rw [HY.out] at this; exact this
      have ck : wr.cell? ⟨g, k, none⟩ = some (.int .i64 y) := by rw [World.ownsRow.cellAt HO3 k (by omega), List.getElem?_map, hy]; rfl
      have fk : wr.frozen? ⟨g, k, none⟩ = false := World.ownsRow.frozenAt HO3 k
      have HST := Lib.hid (World.ownsRow.stored HO3 k (.int .i64 (wrap64 (y + 1))))
      clear HO3 hy hlen2
      go_wp2
      go_roundw
      case rel => exact ⟨k + 1, ys.set k (wrap64 (y + 1)), by omega, by go_num, by simpa using HY.out, by
          have := HST.out
          unfold Owns
          rw [List.length_set, HY.out, List.map_set]; exact this.1,
          ⟨HG.out.os, HG.out.tape, HG.out.output, by simpa using HG.out.size, fun j hj hne => by
            rw [heap_setCell_other _ _ _ _ (fun e => hne (by rw [e]; rfl))]; exact HG.out.block j hj hne⟩⟩
      case measure => simp [intOf]; omega
    · obtain rfl : k = xs.length := by omega
      have hCr : wr.heap[cc]? = some (.cells (fr place (.slice a2 xs.length c2)) T (0, 0)) := (HG.out.block cc (lt_of_heap HC.out) (fun e => by have := (H24.out cc e.symm).2; omega)).trans HC.out
      have c9c : wr.cell? ⟨cc, 9, none⟩ = some (.slice a2 xs.length c2) := cell_of_row wr cc 9 _ _ _ hCr
      have hP : Sees wr (.slice a2 xs.length c2) xs := HP.out.sees.kept fun g hg => HG.out.block g (HP.out.block hg).2 (fun e => by have := (H24.out g e.symm).2; have := (HP.out.block hg).1; omega)
      have hV : Sees wr (.slice (some b) xs.length c) xs := by
        by_cases hne : xs = []
        · subst hne
          obtain ⟨_, _, _, _, hn, _⟩ := HV.out
          exact ⟨_, _, rfl, by simp [maxLen], (fun h => by cases h), fun i x h => by simp at h⟩
        · exact HV.out.kept fun g hg => HG.out.block g (Nat.lt_of_lt_of_le (HVL.out g hg hne) HB.out.size) (fun e => by have := (H24.out g e.symm).1; have := HVL.out g hg hne; have := hB3.size; omega)
      have hBr : Below w.heap.size w wr := HB.out.grown HG.out HB.out.size (fun g hg => by have := (H24.out g hg).1; have := hB3.size; omega)
      have HBr := Lib.hid hBr
      have hFr' := Lib.hid hFr
      clear hBr hFr
      go_wp2_with fail
      refine (same_any hP hV).mono ?_
      rw [show decide (xs = xs) = true from by simp]
      rintro e w7 ⟨rfl, hd⟩
      have hC7 : w7.heap[cc]? = some (.cells (fr place (.slice a2 xs.length c2)) T (0, 0)) := by rw [hd.heap]; exact hCr
      have c0c : w7.cell? ⟨cc, 0, none⟩ = some (.int .i64 place) := cell_of_row w7 cc 0 _ _ _ hC7
      have c0f : w7.cell? ⟨f, 0, none⟩ = some (.int .i64 place) := by rw [hd.cell]; exact cell_of_row wr f 0 _ _ _ hFr'.out
      have HB7 := Lib.hid (HBr.out.trans (hd.below _))
      have HBr7 := Lib.hid ((hd.below wr.heap.size).size)
      clear hP hV hCr c9c c9r hd
      go_wp2_with (refine Big.wpList_load_blk_g rfl 31 _ rfl cc _ _ _ hC7 rfl aggM (by exact szM) ?_)
      refine (busy_any place _ _).mono ?_
      rintro e w8 ⟨rfl, hb8⟩
      have HB8 := Lib.hid (HB7.out.trans (hb8.mono HB7.out.size))
      clear hb8
      by_cases h0 : place = 0
      · have b1 : (place != 0) = false := by simpa using h0
        have b2 : (place == 0) = true := by simpa using h0
        rw [show busyB place = false from by unfold busyB; rw [b2]; rfl]
        clear h0
        go_wp2
        go_ret
        exact ⟨rfl, HB8.out⟩
      · have b1 : (place != 0) = true := by simpa using h0
        have b2 : (place == 0) = false := by simpa using h0
        rw [show busyB place = (place != 16) from by unfold busyB; rw [b2]; rfl]
        clear h0
        go_wp2
        go_ret
        exact ⟨ret_bool (by simp), HB8.out⟩
end Go.Proofs.YtlnbofleeegegaaDoor.Mch
