/-
  Package heap: Copy (for a seat that lacks Sorted).
-/
import Derived.Test.YtlhblhgbpaipaaaHeapPut
import Derived.Laws.CopyRow
import Derived.Shelf.Abstract
import Derived.OwnWalk
import Derived.Lib.Hide
import Derived.Test.YtlhblhgbpaipaaaHeapEql
namespace Go.Proofs.Ytlhblhgbpaipaaa.Hp
open Go.RowKit Go.Shelf
set_option linter.unusedVariables false

/-- The value is a slice of entries, in a block below n₀. -/
def EntSl (n₀ : Nat) (W : World) (v : Value) (es : List Ent) : Prop :=
  (v = .slice none 0 0 ∧ es = []) ∨ ∃ g cap, v = .slice (some ⟨g, 0, none⟩) es.length cap ∧ g < n₀ ∧ Row3 W g cap es
theorem IsHp.sl {w : World} {base b i : Nat} {v : Value} {es : List Ent} (h : IsHp w base b i v es) : EntSl w.heap.size w v es := by
  rcases h.row with ⟨rfl, rfl⟩ | ⟨g, cap, rfl, r, _, _⟩
  · exact .inl ⟨rfl, rfl⟩
  · exact .inr ⟨g, cap, rfl, r.lt, r⟩

set_option maxHeartbeats 1000000 in
theorem clone_e {w : World} {v : Value} {es : List Ent} (hI : EntSl w.heap.size w v es) (hbig : es.length ≤ 1000) :
    Calls Try.prog 46 #[v] w fun e w' => ∃ v', e = .returned v' ∧ w'.ownsRow w.heap.size 66 3 v' es.length (flat es) ∧ Below w.heap.size w w' := by
  have q22 : ∀ (w : World) (a : Option Addr) (n c n' c' : Nat), (binOp .eql 79 (.slice a n c) (.slice none n' c')).run Try.prog w = .ok (.bool a.isNone) w := fun w a n c n' c' => Lib.run_eql_slice_nil w _ _ a n c n' c' Try.underlying79
  rcases hI with ⟨rfl, rfl⟩ | ⟨g, cap, rfl, hg, hr⟩
  · go_enter Try.func46, Try.ntmps46
    go_wp2
    go_ret
    exact ⟨_, rfl, World.ownsRow_nil _ _ _ _, Below.refl _ _⟩
  · obtain ⟨i0, hi, hz0, hz1, hz2⟩ := info_parts infoEnt
    have A : Hid (∀ j u, (flat es)[j]? = some u → w.cell? ⟨g, j, none⟩ = some u) := Lib.hid fun j u hu => by
      obtain ⟨cur, h1, h2, h3⟩ := hr.blk
      rw [cell_of_row w g j cur _ _ h1]
      have hj := (List.getElem?_eq_some_iff.1 hu).1
      rw [flat_len] at hj
      rw [← h3, List.getElem?_take_of_lt hj] at hu
      simpa using hu
    have hlt := hr.lt
    clear hr
    go_enter Try.func46, Try.ntmps46
    go_wp2_with (at_builtin; refine wpList_append_own _ rfl _ _ 79 rfl w.heap.size 66 i0 _ 3 24 Try.underlying79 hi hz0 hz1 hz2 rfl (by decide) _ _ _ rfl (World.ownsRow_made w #[] 0 (Nat.le_refl _) (Nat.zero_le _) rfl) ⟨g, 0, none⟩ es.length cap (flat es) rfl ?qc1 ?qc2 ?qc3 ?qc4 ?qc5 ?qc6 ?_)
    case qc1 => exact flat_len es
    case qc2 =>
      intro j u hj
      refine Lib.cell?_alloc_some _ ?_
      have hadd : (⟨g, 0, none⟩ : Addr).add j = ⟨g, j, none⟩ := by unfold Addr.add; split <;> simp_all
      rw [hadd]
      exact A.out j u hj
    case qc3 => intro u hu; simp only [flat, List.mem_flatMap] at hu; obtain ⟨x, _, hx⟩ := hu; exact flat_one x u (by simpa [flat] using hx)
    case qc4 => unfold maxLen; omega
    case qc5 => omega
    case qc6 => simp
    intro v' w1 hown hgrow hnil
    go_wp2
    go_ret
    refine ⟨v', rfl, by simpa using hown, ?_⟩
    exact ((Below.refl _ w).alloc (Nat.le_refl _) _).grown hgrow (by simp) (by intro k hk; simp [Value.ownBlock] at hk; omega)

theorem owned_sl {w : World} {base : Nat} {v : Value} {es : List Ent} (h : w.ownsRow base 66 3 v es.length (flat es)) : ∃ a c, v = .slice a es.length c := by
  rcases h.2 with ⟨rfl, h0⟩ | ⟨g, cap, cur, rfl, _⟩
  · exact ⟨none, 0, by rw [h0]⟩
  · exact ⟨_, _, rfl⟩

theorem hcopy_is {w : World} {base b i : Nat} {v : Value} {es : List Ent} (h : IsHp w base b i v es) (hbig : es.length ≤ 1000) :
    Calls Try.prog 37 #[.pointer (some ⟨b, i, none⟩)] w fun e w' => ∃ B v', e = .returned (.pointer (some ⟨B, 0, none⟩)) ∧ w.heap.size ≤ B ∧ IsHp w' w.heap.size B 0 v' es ∧ Below w.heap.size w w' := by
  have hc := h.cell
  obtain ⟨a, cap, hv⟩ := h.len
  have hI := Lib.hid h.sl
  subst hv
  clear h
  go_enter Try.func37, Try.ntmps37
  go_wp2_with fail
  refine (clone_e hI.out hbig).mono ?_
  rintro e w1 ⟨v2, rfl, ho, hb⟩
  obtain ⟨a2, c2, rfl⟩ := owned_sl ho
  have H2 := Lib.hid (And.intro ho hb)
  clear hb ho
  go_wp2_with fail
  go_ret
  have hal : Below w1.heap.size w1 (w1.alloc (.cells #[.slice a2 es.length c2] 81)) := (Below.refl _ _).alloc (Nat.le_refl _) _
  refine ⟨w1.heap.size, .slice a2 es.length c2, rfl, H2.out.2.size, ⟨cell_of_row _ _ 0 _ _ _ (heap_alloc_new _ _), frozen_of_row _ _ 0 _ _ (heap_alloc_new _ _), ?_⟩, H2.out.2.trans (hal.mono H2.out.2.size)⟩
  rcases H2.out.1.2 with ⟨e1, h0⟩ | ⟨g, cap, cur, e1, h1, h2, h3, h4, _⟩
  · obtain ⟨h1, h2, h3⟩ := Value.slice.inj e1
    exact .inl ⟨e1, List.length_eq_zero_iff.1 h2⟩
  · obtain ⟨rfl, _, rfl⟩ := Value.slice.inj e1
    have hr := (row3_of_owns H2.out.1 rfl).1
    exact .inr ⟨g, _, rfl, hr.heap (hal.block g hr.lt), by have := hr.lt; omega, h1⟩
end Go.Proofs.Ytlhblhgbpaipaaa.Hp
