/-
  Package poll: Copy.
-/
import Derived.Test.YtefpbfdbpckcmaaPollDo
import Derived.Test.YtefpbfdbpckcmaaPollShelf
import Derived.Test.YtefpbfdbpckcmaaRegionOwn
import Derived.Deep.RegionHeld3
namespace Go.Proofs.Ytefpbfdbpckcmaa.Pl
open Go.RowKit
set_option linter.unusedVariables false
set_option linter.unusedSimpArgs false

theorem cloneF_is {w : World} {b : Nat} {l : List (Int × Value)} (h : MapU.IsMap w b l) : Calls Try.prog 29 #[.map (some b)] w fun e w' => e = .returned (.map (some w.heap.size)) ∧ MapU.IsMap w' w.heap.size l ∧ w.grownBy w' none ∧ w'.heap.size = w.heap.size + 1 := by
  obtain ⟨es, c, hb, hs, he⟩ := h
  have h := AnyW.maps_Clone (P := Try.prog) clF b es c w hb
  change Calls Try.prog 29 _ _ _ at h
  refine h.mono ?_
  rintro e w' ⟨rfl, rfl⟩
  exact ⟨rfl, ⟨es, c, heap_alloc_new _ _, hs, he⟩, World.grownBy_alloc _ _ _, by simp⟩
theorem cloneW_is {w : World} {b : Nat} {l : List (Int × Value)} (h : MapI.IsMap w b l) : Calls Try.prog 30 #[.map (some b)] w fun e w' => e = .returned (.map (some w.heap.size)) ∧ MapI.IsMap w' w.heap.size l ∧ w.grownBy w' none ∧ w'.heap.size = w.heap.size + 1 := by
  obtain ⟨es, c, hb, hs, he⟩ := h
  have h := AnyW.maps_Clone (P := Try.prog) clW b es c w hb
  change Calls Try.prog 30 _ _ _ at h
  refine h.mono ?_
  rintro e w' ⟨rfl, rfl⟩
  exact ⟨rfl, ⟨es, c, heap_alloc_new _ _, hs, he⟩, World.grownBy_alloc _ _ _, by simp⟩

theorem cells_of_cell {w : World} {b k : Nat} {v : Value} (h : w.cell? ⟨b, k, none⟩ = some v) : ∃ c e fr, w.heap[b]? = some (.cells c e fr) ∧ c[k]? = some v := by
  unfold World.cell? at h
  cases ho : w.heap[b]? with
  | none => simp [ho] at h
  | some o => cases o <;> simp [ho] at h ⊢; exact h
/-- What Copy reads. -/
abbrev CpS (pb fb wb : Nat) (F : List (Int × St)) (G : List (Int × Int)) (w' : World) : Prop := w'.cell? ⟨pb, 0, none⟩ = some (.map (some fb)) ∧ w'.cell? ⟨pb, 1, none⟩ = some (.map (some wb)) ∧ MapU.IsMap w' fb (enc St.val F) ∧ MapI.IsMap w' wb (enc u16 G)
theorem cps_kept {pb fb wb : Nat} {F : List (Int × St)} {G : List (Int × Int)} {a b : World} (h : CpS pb fb wb F G a) (hg : a.grownBy b none) : CpS pb fb wb F G b := by
  obtain ⟨h1, h2, h3, h4⟩ := h
  obtain ⟨_, _, _, hb, _⟩ := cells_of_cell h1
  have hl := (Array.getElem?_eq_some_iff.1 hb).1
  exact ⟨(World.cell?_of_block (a := ⟨pb, 0, none⟩) (hg.block pb hl (by simp))).trans h1, (World.cell?_of_block (a := ⟨pb, 1, none⟩) (hg.block pb hl (by simp))).trans h2, h3.grown hg (by simp), h4.grown hg (by simp)⟩

section
variable {w : World} {base pb fb wb : Nat} {F : List (Int × St)} {G : List (Int × Int)}
set_option maxRecDepth 100000 in
set_option maxHeartbeats 2000000 in
theorem pcopy_is (h : IsPl w base pb fb wb F G) : Calls Try.prog 17 #[.pointer (some ⟨pb, 0, none⟩)] w fun e w' => ∃ pb' fb' wb', e = .returned (.pointer (some ⟨pb', 0, none⟩)) ∧ IsPl w' w.heap.size pb' fb' wb' F G ∧ w.grownBy w' none := by
  have H := Lib.hid h
  clear h
  go_enter Try.func17, Try.ntmps17
  go_wp2_with fail
  have hS : CpS pb fb wb F G w.drew := ⟨H.out.c0, H.out.c1, H.out.drew.fds, H.out.drew.who⟩

  go_region_held3 (fun w' => w'.cell? ⟨pb, 0, none⟩ = some (.map (some fb)) ∧ w'.cell? ⟨pb, 1, none⟩ = some (.map (some wb)) ∧ MapU.IsMap w' fb (enc St.val F) ∧ MapI.IsMap w' wb (enc u16 G))
    (first | (with_reducible exact hS) | exact cps_kept hS (World.grownBy_alloc _ _ _))
    (first
      | (go_at_call 29; refine (cloneF_is hS.2.2.1).mono ?_; rintro e w1 ⟨rfl, hm1, hg1, hs1⟩; (have hS := cps_kept hS hg1); (have KF := Lib.hid (And.intro hm1 (And.intro hg1 hs1))); clear hm1 hg1 hs1)
      | (go_at_call 30; refine (cloneW_is hS.2.2.2).mono ?_; rintro e w2 ⟨rfl, hm2, hg2, hs2⟩; (have hS := cps_kept hS hg2); (have KW := Lib.hid (And.intro hm2 (And.intro hg2 hs2))); clear hm2 hg2 hs2))
  go_wp2_with fail
  go_ret
  have hg := World.grownBy_alloc w2 (.cells #[.map (some w.heap.size), .map (some w1.heap.size)] TP) none
  have s1 : w1.heap.size = w.heap.size + 1 := KF.out.2.2
  have s2 : w2.heap.size = w1.heap.size + 1 := KW.out.2.2
  have hgd : w.grownBy w1 none := grown_none (b := w.drew) ⟨rfl, rfl, rfl, Nat.le_refl _, fun _ _ _ => rfl⟩ KF.out.2.1
  refine ⟨w2.heap.size, w.heap.size, w1.heap.size, rfl, ⟨heap_alloc_new _ _, (KF.out.1.grown KW.out.2.1 (by simp)).grown hg (by simp), KW.out.1.grown hg (by simp), by omega, by omega⟩, grown_none hgd (grown_none KW.out.2.1 hg)⟩
end
end Go.Proofs.Ytefpbfdbpckcmaa.Pl
