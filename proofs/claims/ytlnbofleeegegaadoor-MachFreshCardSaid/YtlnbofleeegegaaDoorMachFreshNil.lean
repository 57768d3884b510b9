/-
  The walk over MachFresh, at nil; and both ways together.
-/
import Derived.Test.YtlnbofleeegegaaDoorMachFresh
import Derived.Laws.AppendOwnNone
import Derived.Test.YtlnbofleeegegaaDoorArgs
namespace Go.Proofs.YtlnbofleeegegaaDoor.Mch
open Go.RowKit
open Go.Proofs.YtlnbofleeegegaaDoor.Ints
set_option linter.unusedVariables false

theorem append_none' {P : Program} {w : World} {ops : Array Oper} {rest : List Oper} {o : Oper} {a : Act} {Q : Exit → Act → World → Prop} (hgd : o.guard = none) (s x : Operand) (t : TypeId)
    (ho : o.op = .call { callee := .builtin .append, args := #[s, x], argTypes := #[t, t] })
    (base : Nat) (e : TypeId) (i : TypeInfo) (size : Nat) (ht : P.underlying t = some (.slice e)) (hi : P.info? e = some i)
    (v : Value) (n : Nat) (xs : List Value) (hs : a.eval s = v) (hown : w.ownsRow base e size v n xs) (hx : a.eval x = .slice none 0 0)
    (h : ∀ v', w.ownsRow base e size v' n xs → wpList P ops Q rest (a.put o.dst v') w) : wpList P ops Q (o :: rest) a w :=
  wpList_append_own_none hgd s x t ho base e i size ht hi v n xs hs hown hx (h v hown)

set_option maxRecDepth 100000 in
set_option maxHeartbeats 1000000 in
theorem fresh_nil (place : Int) {xs : List Int} {w : World} (hv : Sees w (.slice none xs.length 0) xs) (hn : xs.length ≤ 60) (hT : Table w) :
    Calls Tryd.prog 5 #[.int .i64 place, .slice none xs.length 0] w fun e w' => e = .returned (.bool true) ∧ Below w.heap.size w w' := by
  have hno : ¬ 60 < xs.length := by omega
  go_enter Tryd.func5, Tryd.ntmps5
  go_wp2_with fail
  refine (lives_any _ hT).mono ?_
  rintro e w1 ⟨rfl, hb1⟩
  go_wp2_with fail
  refine (fresh_fm _).mono ?_
  rintro e w' ⟨rfl, rfl⟩
  go_wp2_with (first | (refine Big.wpList_store_new rfl rfl 31 _ _ rfl _ _ _ _ _ rfl ?_ rfl (by exact szM) (by rfl) (by rfl) ?_; next => (simp; done)) | (refine Big.wpList_load_blk_g rfl 31 _ rfl (w1.heap.size + 1) _ _ _ (heap_alloc2_new _ _ _) rfl aggM (by exact szM) ?_))
  refine (busy_any 16 (.slice none 0 0) _).mono ?_
  rw [show busyB 16 = false from rfl]
  rintro e w2 ⟨rfl, hb2⟩
  obtain ⟨f, hf⟩ : ∃ f, f = w1.heap.size + 1 := ⟨_, rfl⟩
  have hwf : w.heap.size ≤ f := by rw [hf]; have := hb1.size; omega
  have hF2 : w2.heap[w1.heap.size + 1]? = some (.cells (fr 16 (.slice none 0 0)) T (0, 0)) := heap_of_below hb2 (by simp) (heap_alloc2_new _ _ _)
  have hB2 : Below w.heap.size w w2 := ((hb1.alloc hb1.size _).alloc (by simp; have := hb1.size; omega) _).trans (hb2.mono (by simp; have := hb1.size; omega))
  rw [← hf] at hF2 ⊢
  clear hf hb1 hb2
  have c0 : w2.cell? ⟨f, 0, none⟩ = some (.int .i64 16) := cell_of_row w2 f 0 _ _ _ hF2
  have f0 : w2.frozen? ⟨f, 0, none⟩ = false := frozen_of_row w2 f 0 _ _ hF2
  have hF3 : (w2.setCell ⟨f, 0, none⟩ (.int .i64 place)).heap[f]? = some (.cells (fr place (.slice none 0 0)) T (0, 0)) := heap_setCell_same w2 f 0 _ T _ hF2
  have hB3 : Below w.heap.size w (w2.setCell ⟨f, 0, none⟩ (.int .i64 place)) := hB2.setCell hwf _
  have hvA := Lib.hid (hv.below hB3)
  obtain ⟨i0, hi, hz0, hz1, hz2⟩ := info_parts infoInt
  have hvH := Lib.hid hv
  clear hv
  go_upto_region 7 with (fail)
  clear c0 f0 hF2 hB2
  generalize w2.setCell ⟨f, 0, none⟩ (.int .i64 place) = W3 at *
  have hlt3 := lt_of_heap hF3
  have hxs : Hid (xs = []) := Lib.hid (by
    cases xs with
    | nil => rfl
    | cons x t =>
      obtain ⟨_, _, e, _, _, hc⟩ := hvA.out
      obtain ⟨_, e', _⟩ := hc 0 x rfl
      cases e; cases e')
  go_wp2_with (at_builtin; refine append_none' rfl _ _ 24 rfl W3.heap.size 3 i0 1 Tryd.underlying24 hi _ _ _ rfl (World.ownsRow_made W3 #[] 0 (Nat.le_refl _) (Nat.zero_le _) rfl) (by show Value.slice none xs.length 0 = _; rw [hxs.out]; rfl) ?_)
  intro v' hown
  have hO3 : Owns (W3.alloc (.cells #[] 3)) W3.heap.size v' xs := by rw [hxs.out]; exact hown
  have hF4 : (W3.alloc (.cells #[] 3)).heap[f]? = some (.cells (fr place (.slice none 0 0)) T (0, 0)) := heap_alloc_keep _ hF3
  have hB4 : Below w.heap.size w (W3.alloc (.cells #[] 3)) := hB3.alloc hB3.size _
  clear hown hF3 hvA
  generalize W3.alloc (.cells #[] 3) = w3 at *
  obtain ⟨a', c', rfl⟩ : ∃ a c, v' = .slice a xs.length c := by
    obtain ⟨a, c, h, _⟩ := hO3.sees
    exact ⟨a, c, h⟩
  have c9 : w3.cell? ⟨f, 9, none⟩ = some (.slice none 0 0) := cell_of_row w3 f 9 _ _ _ hF4
  have f9 : w3.frozen? ⟨f, 9, none⟩ = false := frozen_of_row w3 f 9 _ _ hF4
  have hO3' := Lib.hid hO3
  clear hO3
  go_upto_region 8 with (fail)
  have hF5 : (w3.setCell ⟨f, 9, none⟩ (.slice a' xs.length c')).heap[f]? = some (.cells (fr place (.slice a' xs.length c')) T (0, 0)) := heap_setCell_same w3 f 9 _ T _ hF4
  have hB5 : Below w.heap.size w (w3.setCell ⟨f, 9, none⟩ (.slice a' xs.length c')) := hB4.setCell hwf _
  have hO5 : Owns (w3.setCell ⟨f, 9, none⟩ (.slice a' xs.length c')) W3.heap.size (.slice a' xs.length c') xs :=
    hO3'.out.kept fun g hg hge => heap_setCell_other _ _ _ _ (by simp; omega)
  clear c9 f9 hF4 hB4 hO3'
  generalize w3.setCell ⟨f, 9, none⟩ (.slice a' xs.length c') = W4 at *
  go_wp2_with (refine Big.wpList_load_blk rfl 31 _ rfl f _ _ _ hF5 rfl aggM (by exact szM) ?_)
  refine (copy_any place hO5.sees (by omega) rfl).mono ?_
  rintro e w5 ⟨v2, rfl, hO2, hb5⟩
  have hf4 := lt_of_heap hF5
  have hone2 := hO2.one
  obtain ⟨a2, c2, rfl⟩ : ∃ a c, v2 = .slice a xs.length c := by
    obtain ⟨a, c, h, _⟩ := hO2.sees
    exact ⟨a, c, h⟩
  go_upto_region 9 with (first | (refine Big.wpList_store_new rfl rfl 31 _ _ rfl _ _ _ _ _ rfl ?_ rfl (by exact szM) (by rfl) (by rfl) ?_; next => (simp; done)))
  have hC : (w5.alloc (.cells (fr place (.slice a2 xs.length c2)) T)).heap[w5.heap.size]? = some (.cells (fr place (.slice a2 xs.length c2)) T (0, 0)) := heap_alloc_new _ _
  have hb6 : Below W4.heap.size W4 (w5.alloc (.cells (fr place (.slice a2 xs.length c2)) T)) := hb5.alloc hb5.size _
  have hF6 := heap_of_below hb6 hf4 hF5
  have hB6 := hB5.trans (hb6.mono hB5.size)
  have hO6 := hO5.below hb6
  have hP6 := hO2.below ((Below.refl _ _).alloc (Nat.le_refl _) (.cells (fr place (.slice a2 xs.length c2)) T))
  have hfc : f < w5.heap.size := Nat.lt_of_lt_of_le hf4 hb5.size
  have h24 : ∀ g, (Value.slice a' xs.length c').ownBlock = some g → W3.heap.size ≤ g ∧ g < W4.heap.size := fun g hg => hO5.block hg
  have hsz5 := hb5.size
  clear hO2 hO5 hB5 hF5 hb5 hb6 hone2
  generalize (w5.alloc (.cells (fr place (.slice a2 xs.length c2)) T)) = W6 at *
  generalize w5.heap.size = cc at *
  have c9 : W6.cell? ⟨f, 9, none⟩ = some (.slice a' xs.length c') := cell_of_row W6 f 9 _ _ _ hF6
  go_wp2_with fail
  have hv6 : Sees W6 (.slice none xs.length 0) xs := hvH.out.below hB6
  have hvlt : ∀ g, (Value.slice none xs.length 0).ownBlock = some g → xs ≠ [] → g < w.heap.size := by
    intro g hg hne
    simp [Value.ownBlock] at hg
  clear hvH
  have HF := Lib.hid hF6
  have HC := Lib.hid hC
  have HB := Lib.hid hB6
  have HO := Lib.hid hO6
  have HP := Lib.hid hP6
  have HV := Lib.hid hv6
  have H24 := Lib.hid h24
  have HVL := Lib.hid hvlt
  clear hF6 hC hB6 hO6 hP6 hv6 h24 hvlt
  go_loopw [100] (fun i wr => ∃ (k : Nat) (ys : List Int), k ≤ xs.length ∧ i = .int .i64 k ∧ ys.length = xs.length ∧ Owns wr W3.heap.size (.slice a' xs.length c') ys ∧ W6.grownBy wr (Value.slice a' xs.length c').ownBlock) (fun i _ => xs.length - (intOf i).toNat)
  case atStart => exact ⟨0, xs, Nat.zero_le _, rfl, rfl, HO.out, World.grownBy.refl _ _⟩
  case round =>
    obtain ⟨k, ys, hk, rfl, hyl, ho, hg⟩ := hrel
    have HY := Lib.hid hyl
    have HO2 := Lib.hid ho
    have HG := Lib.hid hg
    have hFr : wr.heap[f]? = some (.cells (fr place (.slice a' xs.length c')) T (0, 0)) := (hg.block f (lt_of_heap HF.out) (fun e => by have := (H24.out f e.symm).1; omega)).trans HF.out
    have c9r : wr.cell? ⟨f, 9, none⟩ = some (.slice a' xs.length c') := cell_of_row wr f 9 _ _ _ hFr
    clear hyl ho hg c9
    by_cases hlen : k < xs.length
    · obtain ⟨g, rfl⟩ : ∃ g, a' = some ⟨g, 0, none⟩ := by
        rcases HO2.out.2 with ⟨e, h0⟩ | ⟨g, cap, cur, e, _⟩
        · rw [HY.out] at h0; omega
        · simp only [Value.slice.injEq] at e; exact ⟨g, e.1⟩
      have hlen2 : k < ys.length := by rw [HY.out]; exact hlen
      obtain ⟨y, hy⟩ : ∃ y, ys[k]? = some y := ⟨_, List.getElem?_eq_getElem hlen2⟩
      have HO3 : World.ownsRow wr W3.heap.size 3 1 (.slice (some ⟨g, 0, none⟩) xs.length c') xs.length (ys.map (Value.int .i64)) := by
        have := HO2.out; unfold Owns at this; rw [HY.out] at this; exact this
      have ck : wr.cell? ⟨g, k, none⟩ = some (.int .i64 y) := by rw [World.ownsRow.cellAt HO3 k (by omega), List.getElem?_map, hy]; rfl
      have fk : wr.frozen? ⟨g, k, none⟩ = false := World.ownsRow.frozenAt HO3 k
      have HST := Lib.hid (World.ownsRow.stored HO3 k (.int .i64 (wrap64 (y + 1))))
      clear HO3 hy hlen2
      go_wp2
      go_roundw
      case rel => exact ⟨k + 1, ys.set k (wrap64 (y + 1)), by omega, by go_num, by simpa using HY.out, by
          have := HST.out
          unfold Owns
          rw [List.length_set, HY.out, List.map_set]; exact this.1,
          ⟨HG.out.os, HG.out.tape, HG.out.output, by simpa using HG.out.size, fun j hj hne => by
            rw [heap_setCell_other _ _ _ _ (fun e => hne (by rw [e]; rfl))]; exact HG.out.block j hj hne⟩⟩
      case measure => simp [intOf]; omega
    · obtain rfl : k = xs.length := by omega
      have hCr : wr.heap[cc]? = some (.cells (fr place (.slice a2 xs.length c2)) T (0, 0)) := (HG.out.block cc (lt_of_heap HC.out) (fun e => by have := (H24.out cc e.symm).2; omega)).trans HC.out
      have c9c : wr.cell? ⟨cc, 9, none⟩ = some (.slice a2 xs.length c2) := cell_of_row wr cc 9 _ _ _ hCr
      have hP : Sees wr (.slice a2 xs.length c2) xs := HP.out.sees.kept fun g hg => HG.out.block g (HP.out.block hg).2 (fun e => by have := (H24.out g e.symm).2; have := (HP.out.block hg).1; omega)
      have hV : Sees wr (.slice none xs.length 0) xs := by
        by_cases hne : xs = []
        · exact ⟨_, _, rfl, by rw [hne]; simp [maxLen], (fun _ => rfl), fun i x h => by rw [hne] at h; simp at h⟩
        · exact HV.out.kept fun g hg => HG.out.block g (Nat.lt_of_lt_of_le (HVL.out g hg hne) HB.out.size) (fun e => by have := (H24.out g e.symm).1; have := HVL.out g hg hne; have := hB3.size; omega)
      have hBr : Below w.heap.size w wr := HB.out.grown HG.out HB.out.size (fun g hg => by have := (H24.out g hg).1; have := hB3.size; omega)
      have HBr := Lib.hid hBr
      have hFr' := Lib.hid hFr
      clear hBr hFr
      go_wp2_with fail
      refine (same_any hP hV).mono ?_
      rw [show decide (xs = xs) = true from by simp]
      rintro e w7 ⟨rfl, hd⟩
      have hC7 : w7.heap[cc]? = some (.cells (fr place (.slice a2 xs.length c2)) T (0, 0)) := by rw [hd.heap]; exact hCr
      have c0c : w7.cell? ⟨cc, 0, none⟩ = some (.int .i64 place) := cell_of_row w7 cc 0 _ _ _ hC7
      have c0f : w7.cell? ⟨f, 0, none⟩ = some (.int .i64 place) := by rw [hd.cell]; exact cell_of_row wr f 0 _ _ _ hFr'.out
      have HB7 := Lib.hid (HBr.out.trans (hd.below _))
      have HBr7 := Lib.hid ((hd.below wr.heap.size).size)
      clear hP hV hCr c9c c9r hd
      go_wp2_with (refine Big.wpList_load_blk_g rfl 31 _ rfl cc _ _ _ hC7 rfl aggM (by exact szM) ?_)
      refine (busy_any place _ _).mono ?_
      rintro e w8 ⟨rfl, hb8⟩
      have HB8 := Lib.hid (HB7.out.trans (hb8.mono HB7.out.size))
      clear hb8
      by_cases h0 : place = 0
      · have b1 : (place != 0) = false := by simpa using h0
        have b2 : (place == 0) = true := by simpa using h0
        rw [show busyB place = false from by unfold busyB; rw [b2]; rfl]
        clear h0
        go_wp2
        go_ret
        exact ⟨rfl, HB8.out⟩
      · have b1 : (place != 0) = true := by simpa using h0
        have b2 : (place == 0) = false := by simpa using h0
        rw [show busyB place = (place != 16) from by unfold busyB; rw [b2]; rfl]
        clear h0
        go_wp2
        go_ret
        exact ⟨ret_bool (by simp), HB8.out⟩

theorem fresh_all (place : Int) {a : Option Addr} {n c : Nat} {xs : List Int} {w : World} (hv : Sees w (.slice a n c) xs) (hT : Table w) :
    Calls Tryd.prog 5 #[.int .i64 place, .slice a n c] w fun e w' => e = .returned (.bool true) ∧ Below w.heap.size w w' := by
  by_cases h : 60 < n
  · exact fresh_long place a n c h w hT
  · obtain ⟨a', c', e, _, hnil, _⟩ := id hv
    simp only [Value.slice.injEq] at e
    obtain ⟨rfl, rfl, rfl⟩ := e
    cases a with
    | none => obtain rfl := hnil rfl; exact fresh_nil place hv (by omega) hT
    | some b => exact fresh_some place hv (by omega) hT

theorem sees_of_flat {w : World} {a : Option Addr} {n c : Nat} (h : Args.IsFlat [.i64] w a n) (hc : a = none → c = 0) : ∃ xs, Sees w (.slice a n c) xs := by
  obtain ⟨hm, hnil, f, hf⟩ := h
  refine ⟨(List.range n).map fun i => (f i).getD 0 0, a, c, by simp, by simpa using hm, hc, fun i x hx => ?_⟩
  have hi : i < n := by have := (List.getElem?_eq_some_iff.1 hx).1; simpa using this
  obtain ⟨y, e, _⟩ := Args.fits1 (hf i hi).1
  have hxy : x = y := by simp [hi, e] at hx; exact hx.symm
  cases a with
  | none => exact absurd (hnil rfl) (by omega)
  | some b =>
    have := ((hf i hi).2 b rfl 0 (.int .i64 y) (by simp [e, Args.valsOf])).1
    exact ⟨b, rfl, by rw [hxy]; simpa using this⟩

theorem fresh_flat (place : Int) {a : Option Addr} {n c : Nat} {w : World} (h : Args.IsFlat [.i64] w a n) (hc : a = none → c = 0) (hT : Table w) :
    Calls Tryd.prog 5 #[.int .i64 place, .slice a n c] w fun e w' => e = .returned (.bool true) ∧ Below w.heap.size w w' := by
  obtain ⟨xs, hv⟩ := sees_of_flat h hc
  exact fresh_all place hv hT
end Go.Proofs.YtlnbofleeegegaaDoor.Mch
