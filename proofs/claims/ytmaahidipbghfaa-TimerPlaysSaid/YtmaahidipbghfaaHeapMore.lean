/-
  Package heap: Sorted, Copy.
-/
import Derived.Test.YtmaahidipbghfaaHeapSorted
import Derived.Laws.CopyRow
import Derived.Test.YtmaahidipbghfaaHeapEql
namespace Go.Proofs.Ytmaahidipbghfaa.Hp
open Go.RowKit Go.Shelf
set_option linter.unusedVariables false

theorem IsHp.sl {w : World} {base b i : Nat} {v : Value} {es : List Ent} (h : IsHp w base b i v es) : EntSl w.heap.size w v es := by
  rcases h.row with ⟨rfl, rfl⟩ | ⟨g, cap, rfl, r, _, _⟩
  · exact .inl ⟨rfl, rfl⟩
  · exact .inr ⟨g, cap, rfl, r.lt, r⟩

theorem sortedFunc_is (Bs : Nat) (sv : Value) (es : List Ent) (hbig : es.length ≤ 1000) (w : World) (hBs : Bs < w.heap.size) (hc : w.cell? ⟨Bs, 0, none⟩ = some sv) (hI : EntSl w.heap.size w sv es) :
    Calls Try.prog 33 #[.func (.func 41) #[] #[.pointer (some ⟨Bs, 0, none⟩)], .func (.func 35) #[] #[]] w fun e w' =>
      ∃ v, e = .returned v ∧ ESees w' v (srt es) ∧ Below w.heap.size w w' := by
  go_enter Try.func33, Try.ntmps33
  go_wp2_with fail
  refine (collect_is Bs sv es hbig w hBs hc hI).mono ?_
  rintro e w1 ⟨v, rfl, hr, hb⟩
  have H := Lib.hid (And.intro hr hb)
  clear hr hb
  go_wp2_with fail
  refine (sortf_is H.out.1 hbig).mono ?_
  rintro e w2 ⟨rfl, hs, hb2⟩
  have H2 := Lib.hid (And.intro hs (H.out.2.trans hb2))
  clear hs hb2
  go_wp2_with fail
  go_ret
  exact ⟨_, rfl, H2.out⟩

theorem sorted_is {w : World} {base b i : Nat} {v : Value} {es : List Ent} (h : IsHp w base b i v es) (hbig : es.length ≤ 1000) :
    Calls Try.prog 26 #[.pointer (some ⟨b, i, none⟩)] w fun e w' => ∃ a c, e = .returned (.slice a (srt es).length c) ∧ ESees w' (.slice a (srt es).length c) (srt es) ∧ Below w.heap.size w w' := by
  have hc := h.cell
  obtain ⟨a, cap, hv⟩ := h.len
  have hI := Lib.hid h.sl
  subst hv
  clear h
  go_enter Try.func26, Try.ntmps26
  go_wp2_with fail
  refine (vals_is _ a es.length cap rfl w).mono ?_
  rintro e w1 ⟨rfl, rfl⟩
  have hb1 : Below w.heap.size w (w.alloc (.cells #[.slice a es.length cap] 40)) := (Below.refl _ _).alloc (Nat.le_refl _) _
  have HB := Lib.hid hb1
  clear hb1
  go_wp2_with fail
  refine (sortedFunc_is w.heap.size (.slice a es.length cap) es hbig _ (by simp) (cell_of_row _ _ 0 _ _ _ (heap_alloc_new _ _)) (by
    rcases hI.out with ⟨e1, e2⟩ | ⟨g, cap', e1, e2, e3⟩
    · exact .inl ⟨e1, e2⟩
    · exact .inr ⟨g, cap', e1, by simp; omega, e3.heap (HB.out.block g e2)⟩)).mono ?_
  rintro e w2 ⟨v2, rfl, hs, hb2⟩
  have H2 := Lib.hid (And.intro hs (HB.out.trans (hb2.mono HB.out.size)))
  obtain ⟨a2, c2, rfl, _⟩ := id hs
  clear hs hb2
  go_wp2_with fail
  go_ret
  exact ⟨_, _, rfl, H2.out⟩

set_option maxHeartbeats 1000000 in
theorem clone_e {w : World} {v : Value} {es : List Ent} (hI : EntSl w.heap.size w v es) (hbig : es.length ≤ 1000) :
    Calls Try.prog 36 #[v] w fun e w' => ∃ v', e = .returned v' ∧ w'.ownsRow w.heap.size 30 3 v' es.length (flat es) ∧ Below w.heap.size w w' := by
  have q22 : ∀ (w : World) (a : Option Addr) (n c n' c' : Nat), (binOp .eql 40 (.slice a n c) (.slice none n' c')).run Try.prog w = .ok (.bool a.isNone) w := fun w a n c n' c' => Lib.run_eql_slice_nil w _ _ a n c n' c' Try.underlying40
  rcases hI with ⟨rfl, rfl⟩ | ⟨g, cap, rfl, hg, hr⟩
  · go_enter Try.func36, Try.ntmps36
    go_wp2
    go_ret
    exact ⟨_, rfl, World.ownsRow_nil _ _ _ _, Below.refl _ _⟩
  · obtain ⟨i0, hi, hz0, hz1, hz2⟩ := info_parts infoEnt
    have A : Hid (∀ j u, (flat es)[j]? = some u → w.cell? ⟨g, j, none⟩ = some u) := Lib.hid fun j u hu => by
      obtain ⟨cur, h1, h2, h3⟩ := hr.blk
      rw [cell_of_row w g j cur _ _ h1]
      have hj := (List.getElem?_eq_some_iff.1 hu).1
      rw [flat_len] at hj
      rw [← h3, List.getElem?_take_of_lt hj] at hu
      simpa using hu
    have hlt := hr.lt
    clear hr
    go_enter Try.func36, Try.ntmps36
    go_wp2_with (at_builtin; refine wpList_append_own _ rfl _ _ 40 rfl w.heap.size 30 i0 _ 3 24 Try.underlying40 hi hz0 hz1 hz2 rfl (by decide) _ _ _ rfl (World.ownsRow_made w #[] 0 (Nat.le_refl _) (Nat.zero_le _) rfl) ⟨g, 0, none⟩ es.length cap (flat es) rfl ?qc1 ?qc2 ?qc3 ?qc4 ?qc5 ?qc6 ?_)
    case qc1 => exact flat_len es
    case qc2 =>
      intro j u hj
      refine Lib.cell?_alloc_some _ ?_
      have hadd : (⟨g, 0, none⟩ : Addr).add j = ⟨g, j, none⟩ := by unfold Addr.add; split <;> simp_all
      rw [hadd]
      exact A.out j u hj
    case qc3 => intro u hu; simp only [flat, List.mem_flatMap] at hu; obtain ⟨x, _, hx⟩ := hu; exact flat_one x u (by simpa [flat] using hx)
    case qc4 => unfold maxLen; omega
    case qc5 => omega
    case qc6 => simp
    intro v' w1 hown hgrow hnil
    go_wp2
    go_ret
    refine ⟨v', rfl, by simpa using hown, ?_⟩
    exact ((Below.refl _ w).alloc (Nat.le_refl _) _).grown hgrow (by simp) (by intro k hk; simp [Value.ownBlock] at hk; omega)

theorem owned_esees {w : World} {base : Nat} {v : Value} {es : List Ent} (h : w.ownsRow base 30 3 v es.length (flat es)) : ESees w v es := by
  rcases h.2 with ⟨rfl, h0⟩ | ⟨g, cap, cur, rfl, h1, h2, h3, h4, _⟩
  · have : es = [] := List.length_eq_zero_iff.1 h0
    subst this; exact esees_nil w
  · exact (row3_of_owns h rfl).1.esees

theorem hcopy_is {w : World} {base b i : Nat} {v : Value} {es : List Ent} (h : IsHp w base b i v es) (hbig : es.length ≤ 1000) :
    Calls Try.prog 28 #[.pointer (some ⟨b, i, none⟩)] w fun e w' => ∃ B v', e = .returned (.pointer (some ⟨B, 0, none⟩)) ∧ w.heap.size ≤ B ∧ IsHp w' w.heap.size B 0 v' es ∧ Below w.heap.size w w' := by
  have hc := h.cell
  obtain ⟨a, cap, hv⟩ := h.len
  have hI := Lib.hid h.sl
  subst hv
  clear h
  go_enter Try.func28, Try.ntmps28
  go_wp2_with fail
  refine (clone_e hI.out hbig).mono ?_
  rintro e w1 ⟨v2, rfl, ho, hb⟩
  obtain ⟨a2, c2, rfl, _⟩ := owned_esees ho
  have H2 := Lib.hid (And.intro ho hb)
  clear hb ho
  go_wp2_with fail
  go_ret
  have hal : Below w1.heap.size w1 (w1.alloc (.cells #[.slice a2 es.length c2] 68)) := (Below.refl _ _).alloc (Nat.le_refl _) _
  refine ⟨w1.heap.size, .slice a2 es.length c2, rfl, H2.out.2.size, ⟨cell_of_row _ _ 0 _ _ _ (heap_alloc_new _ _), frozen_of_row _ _ 0 _ _ (heap_alloc_new _ _), ?_⟩, H2.out.2.trans (hal.mono H2.out.2.size)⟩
  rcases H2.out.1.2 with ⟨e1, h0⟩ | ⟨g, cap, cur, e1, h1, h2, h3, h4, _⟩
  · obtain ⟨h1, h2, h3⟩ := Value.slice.inj e1
    exact .inl ⟨e1, List.length_eq_zero_iff.1 h2⟩
  · obtain ⟨rfl, _, rfl⟩ := Value.slice.inj e1
    have hr := (row3_of_owns H2.out.1 rfl).1
    exact .inr ⟨g, _, rfl, hr.heap (hal.block g hr.lt), by have := hr.lt; omega, h1⟩
end Go.Proofs.Ytmaahidipbghfaa.Hp
