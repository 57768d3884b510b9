/-
  Package heap: Remove.
-/
import Derived.Test.YtlnbjnkmhabdaaaHeapMore
namespace Go.Proofs.Ytlnbjnkmhabdaaa.Hp
open Go.RowKit Go.Shelf
set_option linter.unusedVariables false

set_option maxHeartbeats 1000000 in
theorem index_nil (f : Value) (w : World) :
    Calls Try.prog 35 #[.slice none 0 0, f] w fun e w' => e = .returned (.int .i64 (-1)) ∧ w = w' := by
  go_enter Try.func35, Try.ntmps35
  go_wp2
  refine wp_loop_rounds 1 ?_
  rw [rounds_succ]
  go_wp2
  go_ret
  exact ⟨rfl, rfl⟩
theorem del_nil (f : Value) (w : World) :
    Calls Try.prog 25 #[.slice none 0 0, f] w fun e w' => e = .returned (.slice none 0 0) ∧ w = w' := by
  go_enter Try.func25, Try.ntmps25
  go_wp2_with fail
  refine (index_nil f w).mono ?_
  rintro e w' ⟨rfl, rfl⟩
  go_wp2_with fail
  go_ret
  exact ⟨rfl, rfl⟩

/-- DeleteFunc at a heap's slice. -/
theorem del_is {w : World} {base b i : Nat} {v : Value} {es : List Ent} (h : IsHp w base b i v es) (g : Int) (B : Nat) (hB : w.cell? ⟨B, 0, none⟩ = some (.int .i64 g)) (hne : v.ownBlock ≠ some B) :
    Calls Try.prog 25 #[v, .func (.func 26) #[] #[.pointer (some ⟨B, 0, none⟩)]] w fun e w' =>
      ∃ a c, e = .returned (.slice a (keepG g es).length c) ∧ (.slice a (keepG g es).length c : Value).ownBlock = v.ownBlock ∧ ((a = none ∧ keepG g es = []) ∨ ∃ g0, a = some ⟨g0, 0, none⟩ ∧ Row3 w' g0 c (keepG g es)) ∧ w.grownBy w' v.ownBlock := by
  rcases h.row with ⟨rfl, rfl⟩ | ⟨g0, cap, rfl, r, _, _⟩
  · refine (del_nil _ w).mono ?_
    rintro e w' ⟨rfl, rfl⟩
    exact ⟨none, 0, rfl, rfl, .inl ⟨rfl, rfl⟩, World.grownBy.refl _ _⟩
  · refine (del_row g0 cap es g B w r hB (fun e => hne (by rw [e]; rfl))).mono ?_
    rintro e w' ⟨rfl, hr, hg⟩
    exact ⟨_, cap, rfl, rfl, .inr ⟨g0, rfl, hr⟩, hg⟩

theorem IsHp.lower {w : World} {base base' b i : Nat} {v : Value} {es : List Ent} (h : IsHp w base b i v es) (hb : base' ≤ base) : IsHp w base' b i v es := by
  refine ⟨h.cell, h.free, ?_⟩
  rcases h.row with h | ⟨g, cap, e, r, h1, h2⟩
  · exact .inl h
  · exact .inr ⟨g, cap, e, r, h1, Nat.le_trans hb h2⟩

set_option maxRecDepth 100000 in
set_option maxHeartbeats 2000000 in
theorem remove_is {w : World} {base b i : Nat} {v : Value} {es : List Ent} (h : IsHp w base b i v es) (hbase : base ≤ w.heap.size) (hbig : es.length ≤ 1000) (g : Int) :
    Calls Try.prog 13 #[.pointer (some ⟨b, i, none⟩), .int .i64 g] w fun e w' => ∃ v' es', e = .returned (.int .i64 ((es.length : Int) - (keepG g es).length)) ∧ IsHp w' base b i v' es' ∧ es'.Perm (keepG g es) ∧ Heapish es' ∧ HFr w w' b i v v' := by
  have hc := h.cell
  have hlt := h.lt
  have hal : w.grownBy (w.alloc (.cells #[.int .i64 g] 3)) none := World.grownBy_alloc _ _ _
  have H := Lib.hid h
  have H1 := Lib.hid (And.intro (h.grown hal) hal)
  obtain ⟨a, cap, hv⟩ := h.len
  obtain ⟨L, hL⟩ : ∃ L, keepG g es = L := ⟨_, rfl⟩
  have hLl : L.length ≤ es.length := by rw [← hL]; exact List.length_filter_le _ _
  rw [hL]
  have HL := Lib.hid hL
  have hcl : ∀ j, v.ownBlock = some j → j < w.heap.size := fun j hj => (h.ownlt j hj).1
  have hob : v.ownBlock ≠ some b := fun e => (h.ownlt b e).2.1 rfl
  have HOB := Lib.hid (And.intro hob hcl)
  clear hL h hal hob hcl
  subst hv
  go_enter Try.func13, Try.ntmps13
  go_wp2_with fail
  refine (del_is H1.out.1 g w.heap.size (cell_of_row _ _ 0 _ _ _ (heap_alloc_new _ _)) (fun e => by have := HOB.out.2 _ e; omega)).mono ?_
  rintro e w2 ⟨a2, c2, rfl, hob2, hrow, hg2⟩
  rw [HL.out] at hob2 hrow ⊢
  have hb2 := hg2.block b (by simp; omega) (fun e => HOB.out.1 e.symm)
  have hc2 : w2.cell? ⟨b, i, none⟩ = some (.slice a es.length cap) := (World.cell?_of_block (a := ⟨b, i, none⟩) hb2).trans H1.out.1.cell
  have hf2 : w2.frozen? ⟨b, i, none⟩ = false := (World.frozen?_of_block (a := ⟨b, i, none⟩) hb2).trans H1.out.1.free
  have H2 := Lib.hid (And.intro hob2 (And.intro hrow (And.intro hg2 hb2)))
  clear hob2 hrow hg2 hb2
  go_wp2_with fail
  have hF : HFr w (w2.setCell ⟨b, i, none⟩ (.slice none 0 0)) b i (.slice a es.length cap) (.slice none 0 0) := by
    refine ⟨H2.out.2.2.1.os.trans H1.out.2.os, H2.out.2.2.1.tape.trans H1.out.2.tape, H2.out.2.2.1.output.trans H1.out.2.output, by simpa using Nat.le_trans H1.out.2.size H2.out.2.2.1.size, fun k hk hkb hv => ?_, ?_, .inr (fun g h => by simp [Value.ownBlock] at h)⟩
    · exact (heap_setCell_other _ _ _ _ hkb).trans ((H2.out.2.2.1.block k (Nat.lt_of_lt_of_le hk H1.out.2.size) (fun e => hv e.symm)).trans (H1.out.2.block k hk (by simp)))
    · exact setCell_congr _ (H2.out.2.2.2.trans (H1.out.2.block b hlt (by simp)))
  have hrow3 : (a2 = none ∧ L = []) ∨ ∃ g0, a2 = some ⟨g0, 0, none⟩ ∧ g0 ≠ b ∧ g0 < (w2.setCell ⟨b, i, none⟩ (.slice none 0 0)).heap.size ∧ Row3 (w2.setCell ⟨b, i, none⟩ (.slice none 0 0)) g0 c2 L := by
    rcases H2.out.2.1 with h | ⟨g0, rfl, hr⟩
    · exact .inl h
    · have hgb : g0 ≠ b := fun e => HOB.out.1 (by rw [← H2.out.1, e]; rfl)
      exact .inr ⟨g0, rfl, hgb, by simpa using hr.lt, hr.heap (heap_setCell_other _ _ _ _ hgb)⟩
  have hI3 : IsHp (w2.setCell ⟨b, i, none⟩ (.slice none 0 0)) (w2.setCell ⟨b, i, none⟩ (.slice none 0 0)).heap.size b i (.slice none 0 0) [] :=
    ⟨World.cell?_setCell_same' _ _ _ (by rw [hc2]; rfl), by rw [World.frozen?_setCell]; exact hf2, .inl ⟨rfl, rfl⟩⟩
  have hb3 : base ≤ (w2.setCell ⟨b, i, none⟩ (.slice none 0 0)).heap.size := Nat.le_trans hbase hF.size
  have hself : (w2.setCell ⟨b, i, none⟩ (.slice none 0 0)).heap[b]? = ((w2.setCell ⟨b, i, none⟩ (.slice none 0 0)).setCell ⟨b, i, none⟩ (.slice none 0 0)).heap[b]? := (setCell_twice (.slice none 0 0) (.slice none 0 0) rfl).symm
  have H3 := Lib.hid (And.intro hF (And.intro hrow3 hI3))
  have HSF := Lib.hid hself
  clear hF hrow3 hI3 hself H1 H2 hc2 hf2
  generalize (w2.setCell ⟨b, i, none⟩ (.slice none 0 0)) = W at *
  go_loopw [25] (fun q wr => ∃ (k : Nat) (v' : Value) (es' : List Ent), k ≤ L.length ∧ q = .int .i64 k ∧ IsHp wr W.heap.size b i v' es' ∧ es'.Perm (L.take k) ∧ Heapish es' ∧ HFr W wr b i (.slice none 0 0) v') (fun q _ => L.length - (intOf q).toNat)
  case atStart => exact ⟨0, _, [], Nat.zero_le _, rfl, H3.out.2.2, by simp, heapish_nil, ⟨rfl, rfl, rfl, Nat.le_refl _, fun _ _ _ _ => rfl, HSF.out, .inl rfl⟩⟩
  case round =>
    obtain ⟨k, v', es', hk, rfl, hI, hp, hh, hf⟩ := hrel
    have HR := Lib.hid (And.intro hI (And.intro hp (And.intro hh hf)))
    clear hI hp hh hf
    by_cases hkl : k < L.length
    · obtain ⟨x, hx⟩ : ∃ x, L[k]? = some x := ⟨_, List.getElem?_eq_getElem hkl⟩
      obtain ⟨g0, rfl, hgb, hg0, hr0⟩ : ∃ g0, a2 = some ⟨g0, 0, none⟩ ∧ g0 ≠ b ∧ g0 < W.heap.size ∧ Row3 W g0 c2 L := by
        rcases H3.out.2.1 with ⟨_, h⟩ | h
        · rw [h] at hkl; simp at hkl
        · exact h
      have hle := hr0.le
      have hr1 := hr0.heap (HR.out.2.2.2.block g0 hg0 hgb (by simp [Value.ownBlock]))
      obtain ⟨c0, c1, c2'⟩ := hr1.cells hx
      have HX := Lib.hid hx
      have hpl : es'.length = k := by have := HR.out.2.1.length_eq; rw [List.length_take] at this; omega
      have hga : wr.grownBy (wr.alloc (.cells #[.int .i64 x.w, .int .u64 x.o, .int .i64 x.g] 24)) none := World.grownBy_alloc _ _ _
      have HA := Lib.hid (And.intro (HR.out.1.grown hga) hga)
      have hbsz : W.heap.size ≤ wr.heap.size := HR.out.2.2.2.size
      clear hx hr0 hr1 hga
      go_wp2_with fail
      refine (put_is HA.out.1 (by simp; omega) (by omega) x).mono ?_
      rintro e w4 ⟨v4, rfl, hp4, hf4⟩
      have hpl2 := put_law HR.out.2.2.1 x
      have hperm : (upL (es' ++ [x]) es'.length).Perm (L.take (k + 1)) := by
        rw [take_ent HX.out]
        exact hpl2.1.trans ((List.Perm.cons x HR.out.2.1).trans (List.perm_append_comm (l₁ := [x])))
      have H5 := Lib.hid (And.intro hp4 (And.intro hperm (And.intro hpl2.2 (HR.out.2.2.2.trans (hf4.pre HA.out.2 HR.out.1.lt)))))
      clear hp4 hf4 hpl2 hperm c0 c1 c2'
      go_wp2_with fail
      go_roundw
      case rel => exact ⟨k + 1, _, _, by omega, by go_num, H5.out⟩
      case measure => simp [intOf]; omega
    · obtain rfl : k = L.length := by omega
      go_wp2_with fail
      go_ret
      refine ⟨_, _, rfl, HR.out.1.lower hb3, by have := HR.out.2.1; rwa [List.take_length] at this, HR.out.2.2.1, H3.out.1.trans HR.out.2.2.2⟩
end Go.Proofs.Ytlnbjnkmhabdaaa.Hp
