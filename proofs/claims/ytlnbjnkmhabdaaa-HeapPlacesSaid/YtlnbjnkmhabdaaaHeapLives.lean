/-
  Package heap: the law's example.
-/
import Derived.Test.YtlnbjnkmhabdaaaHeapEql
import Derived.Test.YtlnbjnkmhabdaaaHeapLen
namespace Go.Proofs.Ytlnbjnkmhabdaaa.Hp
open Go.RowKit
set_option linter.unusedVariables false

set_option maxRecDepth 100000 in
set_option maxHeartbeats 1000000 in
theorem lives_is (w : World) : Calls Try.prog 8 #[] w fun e w' => e = .returned (.bool true) ∧ Below w.heap.size w w' := by
  go_enter Try.func8, Try.ntmps8
  go_wp2_with fail
  have hn := hp_new w w.heap.size
  refine (put_is (base := w.heap.size) hn (by simp) (by simp) ⟨5, 1, 7⟩).mono ?_
  rintro e w1 ⟨v1, rfl, h1, f1⟩
  have hl1 := put_law heapish_nil ⟨5, 1, 7⟩
  have B1 := ((Below.refl w.heap.size w).alloc (Nat.le_refl _) _).trans (f1.below (B := w.heap.size) (Nat.le_refl _) hn.base_le (by simp))
  generalize upL ([] ++ [(⟨5, 1, 7⟩ : Ent)]) ([] : List Ent).length = es1 at *
  have H1 := Lib.hid (And.intro h1 (And.intro hl1 B1))
  clear h1 f1 hl1 B1 hn
  go_wp2_with fail
  have hb1 : w.heap.size ≤ w1.heap.size := H1.out.2.2.size
  have hlen1 : es1.length = 1 := by have := H1.out.2.1.1.length_eq; simpa using this
  refine (put_is H1.out.1 hb1 (by rw [hlen1]; decide) ⟨3, 2, 8⟩).mono ?_
  rintro e w2 ⟨v2, rfl, h2, f2⟩
  have hl2 := put_law H1.out.2.1.2 ⟨3, 2, 8⟩
  have B2 := H1.out.2.2.trans (f2.below (B := w.heap.size) (Nat.le_refl _) H1.out.1.base_le hb1)
  have hp2 := hl2.1.trans (H1.out.2.1.1.cons _)
  generalize upL (es1 ++ [(⟨3, 2, 8⟩ : Ent)]) es1.length = es2 at *
  have H2 := Lib.hid (And.intro h2 (And.intro (And.intro hp2 hl2.2) B2))
  clear h2 f2 hl2 B2 hp2 hlen1
  go_wp2_with fail
  have hb2 : w.heap.size ≤ w2.heap.size := H2.out.2.2.size
  have hlen2 : es2.length = 2 := by have := H2.out.2.1.1.length_eq; simpa using this
  refine (put_is H2.out.1 hb2 (by rw [hlen2]; decide) ⟨3, 1, 9⟩).mono ?_
  rintro e w3 ⟨v3, rfl, h3, f3⟩
  have hl3 := put_law H2.out.2.1.2 ⟨3, 1, 9⟩
  have B3 := H2.out.2.2.trans (f3.below (B := w.heap.size) (Nat.le_refl _) H2.out.1.base_le hb2)
  have hp3 := hl3.1.trans (H2.out.2.1.1.cons _)
  generalize upL (es2 ++ [(⟨3, 1, 9⟩ : Ent)]) es2.length = es3 at *
  obtain ⟨x, t, rfl⟩ : ∃ x t, es3 = x :: t := by
    cases es3 with
    | nil => simp at hp3
    | cons x t => exact ⟨x, t, rfl⟩
  have hx : x = ⟨3, 1, 9⟩ := by
    have hm := head_least hl3.2
    have h9 := hm ⟨3, 1, 9⟩ (hp3.mem_iff.2 (by simp))
    have hxm := hp3.mem_iff.1 (List.mem_cons_self (a := x) (l := t))
    refine le_anti h9 ?_
    simp at hxm
    rcases hxm with rfl | rfl | rfl <;> rw [le_iff] <;> decide
  subst hx
  have ht : t.length = 2 := by have := hp3.length_eq; simpa using this
  have htk := take_law hl3.2
  have htl : (takeL ((⟨3, 1, 9⟩ : Ent) :: t)).length = 2 := by have := htk.1.length_eq; simp at this; omega
  have H3 := Lib.hid (And.intro h3 (And.intro htl B3))
  have HT := Lib.hid ht
  clear h3 f3 hl3 B3 hp3 hlen2 htk htl ht
  go_wp2_with fail
  refine (take_some H3.out.1 (by rw [HT.out]; decide)).mono ?_
  rintro e w4 ⟨v4, rfl, h4, f4⟩
  have hb3 : w.heap.size ≤ w3.heap.size := H3.out.2.2.size
  have B4 := H3.out.2.2.trans (f4.below (B := w.heap.size) (Nat.le_refl _) H3.out.1.base_le hb3)
  have H4 := Lib.hid (And.intro h4 B4)
  have hb4 : w.heap.size ≤ w4.heap.size := B4.size
  clear h4 f4 B4
  go_wp2_with (first
    | (refine wpList_eql_ent (by rfl) _ _ (by rfl) ⟨3, 1, 9⟩ ⟨3, 1, 9⟩ (by rfl) (by rfl) true (by decide) ?_)
    | (go_at_call 14; refine (len_is (H4.out.1.below ((Below.refl _ _).alloc (Nat.le_refl _) _)) (by rw [H3.out.2.1]; decide)).mono ?_; rintro e w5 ⟨rfl, rfl⟩; rw [H3.out.2.1]))
  go_ret
  exact ⟨rfl, H4.out.2.alloc hb4 _⟩
end Go.Proofs.Ytlnbjnkmhabdaaa.Hp
