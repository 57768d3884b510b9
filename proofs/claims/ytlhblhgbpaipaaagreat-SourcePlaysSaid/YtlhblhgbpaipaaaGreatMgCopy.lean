import Derived.Test.YtlhblhgbpaipaaaGreatRows
import Derived.Shelf.SlGeneric
import Derived.Shelf.SlMaps.Clone
import Derived.Ground.SlmcProg
import Derived.Test.YtlhblhgbpaipaaaGreatMgPoll
import Derived.Test.YtlhblhgbpaipaaaGreatMgTim5
import Derived.Deep.RegionHeld3
import Derived.Test.YtlhblhgbpaipaaaGreatSrcAny
/- PollShelf -/
namespace Go.Proofs.YtlhblhgbpaipaaaGreat.Pl
open Go.Shelf
def clF_ren : Go.Shelf.Ren := ⟨fun | 5 => 68 | 7 => 79 | n => n, fun | 23 => 99 | 25 => 37 | 3 => 113 | 4 => 4 | 20 => 20 | n => n, fun | n => n⟩
theorem clF : Go.Proofs.SlLaysW.n5 Tryz.prog clF_ren := {
  mixed := by kernel_rfl
  f5 := ⟨Tryz.f68.name, by decide, Tryz.func68.trans (congrArg some (by kernel_rfl))⟩
  f7 := Tryz.func79.trans (congrArg some (by kernel_rfl))
  t4 := Tryz.underlying4
  a4 := Tryz.isAgg4
  z4 := Tryz.sizeOf4
  v4 := Tryz.zeroValue4
  t20 := Tryz.underlying20
  a20 := Tryz.isAgg20
  z20 := Tryz.sizeOf20
  v20 := Tryz.zeroValue20
  t23 := Tryz.underlying99
  a23 := Tryz.isAgg99
  z23 := Tryz.sizeOf99
  v23 := Tryz.zeroValue99 }
def clW_ren : Go.Shelf.Ren := ⟨fun | 5 => 69 | 7 => 79 | n => n, fun | 23 => 100 | 25 => 3 | 3 => 37 | 4 => 4 | 20 => 20 | n => n, fun | n => n⟩
theorem clW : Go.Proofs.SlLaysW.n5 Tryz.prog clW_ren := {
  mixed := by kernel_rfl
  f5 := ⟨Tryz.f69.name, by decide, Tryz.func69.trans (congrArg some (by kernel_rfl))⟩
  f7 := Tryz.func79.trans (congrArg some (by kernel_rfl))
  t4 := Tryz.underlying4
  a4 := Tryz.isAgg4
  z4 := Tryz.sizeOf4
  v4 := Tryz.zeroValue4
  t20 := Tryz.underlying20
  a20 := Tryz.isAgg20
  z20 := Tryz.sizeOf20
  v20 := Tryz.zeroValue20
  t23 := Tryz.underlying100
  a23 := Tryz.isAgg100
  z23 := Tryz.sizeOf100
  v23 := Tryz.zeroValue100 }
end Go.Proofs.YtlhblhgbpaipaaaGreat.Pl

/- PollCopy -/
namespace Go.Proofs.YtlhblhgbpaipaaaGreat.Pl
open Go.RowKit
set_option linter.unusedVariables false
set_option linter.unusedSimpArgs false

theorem cloneF_is {w : World} {b : Nat} {l : List (Int × Value)} (h : MapU.IsMap w b l) : Calls Tryz.prog 68 #[.map (some b)] w fun e w' => e = .returned (.map (some w.heap.size)) ∧ MapU.IsMap w' w.heap.size l ∧ w.grownBy w' none ∧ w'.heap.size = w.heap.size + 1 := by
  obtain ⟨es, c, hb, hs, he⟩ := h
  have h := AnyW.maps_Clone (P := Tryz.prog) clF b es c w hb
  change Calls Tryz.prog 68 _ _ _ at h
  refine h.mono ?_
  rintro e w' ⟨rfl, rfl⟩
  exact ⟨rfl, ⟨es, c, heap_alloc_new _ _, hs, he⟩, World.grownBy_alloc _ _ _, by simp⟩
theorem cloneW_is {w : World} {b : Nat} {l : List (Int × Value)} (h : MapI.IsMap w b l) : Calls Tryz.prog 69 #[.map (some b)] w fun e w' => e = .returned (.map (some w.heap.size)) ∧ MapI.IsMap w' w.heap.size l ∧ w.grownBy w' none ∧ w'.heap.size = w.heap.size + 1 := by
  obtain ⟨es, c, hb, hs, he⟩ := h
  have h := AnyW.maps_Clone (P := Tryz.prog) clW b es c w hb
  change Calls Tryz.prog 69 _ _ _ at h
  refine h.mono ?_
  rintro e w' ⟨rfl, rfl⟩
  exact ⟨rfl, ⟨es, c, heap_alloc_new _ _, hs, he⟩, World.grownBy_alloc _ _ _, by simp⟩

theorem cells_of_cell {w : World} {b k : Nat} {v : Value} (h : w.cell? ⟨b, k, none⟩ = some v) : ∃ c e fr, w.heap[b]? = some (.cells c e fr) ∧ c[k]? = some v := by
  unfold World.cell? at h
  cases ho : w.heap[b]? with
  | none => simp [ho] at h
  | some o => cases o <;> simp [ho] at h ⊢; exact h
/-- What Copy reads. -/
abbrev CpS (pb fb wb : Nat) (F : List (Int × St)) (G : List (Int × Int)) (w' : World) : Prop := w'.cell? ⟨pb, 0, none⟩ = some (.map (some fb)) ∧ w'.cell? ⟨pb, 1, none⟩ = some (.map (some wb)) ∧ MapU.IsMap w' fb (enc St.val F) ∧ MapI.IsMap w' wb (enc u16 G)
theorem cps_kept {pb fb wb : Nat} {F : List (Int × St)} {G : List (Int × Int)} {a b : World} (h : CpS pb fb wb F G a) (hg : a.grownBy b none) : CpS pb fb wb F G b := by
  obtain ⟨h1, h2, h3, h4⟩ := h
  obtain ⟨_, _, _, hb, _⟩ := cells_of_cell h1
  have hl := (Array.getElem?_eq_some_iff.1 hb).1
  exact ⟨(World.cell?_of_block (a := ⟨pb, 0, none⟩) (hg.block pb hl (by simp))).trans h1, (World.cell?_of_block (a := ⟨pb, 1, none⟩) (hg.block pb hl (by simp))).trans h2, h3.grown hg (by simp), h4.grown hg (by simp)⟩

section
variable {w : World} {base pb fb wb : Nat} {F : List (Int × St)} {G : List (Int × Int)}
set_option maxRecDepth 100000 in
set_option maxHeartbeats 2000000 in
theorem pcopy_is (h : IsPl w base pb fb wb F G) : Calls Tryz.prog 53 #[.pointer (some ⟨pb, 0, none⟩)] w fun e w' => ∃ pb' fb' wb', e = .returned (.pointer (some ⟨pb', 0, none⟩)) ∧ IsPl w' w.heap.size pb' fb' wb' F G ∧ w.grownBy w' none := by
  have H := Lib.hid h
  clear h
  go_enter Tryz.func53, Tryz.ntmps53
  go_wp2_with fail
  have hS : CpS pb fb wb F G w.drew := ⟨H.out.c0, H.out.c1, H.out.drew.fds, H.out.drew.who⟩

  go_region_held3 (fun w' => w'.cell? ⟨pb, 0, none⟩ = some (.map (some fb)) ∧ w'.cell? ⟨pb, 1, none⟩ = some (.map (some wb)) ∧ MapU.IsMap w' fb (enc St.val F) ∧ MapI.IsMap w' wb (enc u16 G))
    (first | (with_reducible exact hS) | exact cps_kept hS (World.grownBy_alloc _ _ _))
    (first
      | (go_at_call 68; refine (cloneF_is hS.2.2.1).mono ?_; rintro e w1 ⟨rfl, hm1, hg1, hs1⟩; (have hS := cps_kept hS hg1); (have KF := Lib.hid (And.intro hm1 (And.intro hg1 hs1))); clear hm1 hg1 hs1)
      | (go_at_call 69; refine (cloneW_is hS.2.2.2).mono ?_; rintro e w2 ⟨rfl, hm2, hg2, hs2⟩; (have hS := cps_kept hS hg2); (have KW := Lib.hid (And.intro hm2 (And.intro hg2 hs2))); clear hm2 hg2 hs2))
  go_wp2_with fail
  go_ret
  have hg := World.grownBy_alloc w2 (.cells #[.map (some w.heap.size), .map (some w1.heap.size)] TP) none
  have s1 : w1.heap.size = w.heap.size + 1 := KF.out.2.2
  have s2 : w2.heap.size = w1.heap.size + 1 := KW.out.2.2
  have hgd : w.grownBy w1 none := grown_none (b := w.drew) ⟨rfl, rfl, rfl, Nat.le_refl _, fun _ _ _ => rfl⟩ KF.out.2.1
  refine ⟨w2.heap.size, w.heap.size, w1.heap.size, rfl, ⟨heap_alloc_new _ _, (KF.out.1.grown KW.out.2.1 (by simp)).grown hg (by simp), KW.out.1.grown hg (by simp), by omega, by omega⟩, grown_none hgd (grown_none KW.out.2.1 hg)⟩
end
end Go.Proofs.YtlhblhgbpaipaaaGreat.Pl

/- SrcCopy -/
namespace Go.Proofs.YtlhblhgbpaipaaaGreat.Src
open Go.RowKit
open Go.Proofs.YtlhblhgbpaipaaaGreat.Hp
open Go.Proofs.YtlhblhgbpaipaaaGreat.Tm (Tms Kept IsMin dueB min_ex)
open Go.Proofs.YtlhblhgbpaipaaaGreat.Pl (IsPl PFr St PR)
set_option linter.unusedVariables false
set_option linter.unusedSimpArgs false

theorem c4 {w : World} {B : Nat} {a b c d : Value} {T : TypeId} (h : w.heap[B]? = some (.cells #[a, b, c, d] T (0, 0))) : w.cell? ⟨B, 0, none⟩ = some a ∧ w.cell? ⟨B, 1, none⟩ = some b ∧ w.cell? ⟨B, 2, none⟩ = some c ∧ w.cell? ⟨B, 3, none⟩ = some d :=
  ⟨cell_of_row _ _ 0 _ _ _ h, cell_of_row _ _ 1 _ _ _ h, cell_of_row _ _ 2 _ _ _ h, cell_of_row _ _ 3 _ _ _ h⟩
set_option maxRecDepth 100000 in
set_option maxHeartbeats 2000000 in
theorem scopy_is {w : World} {base sb tb pb fb wb n : Nat} {now : Int} {M : List Ent} {order : Nat} {G : List Int} {F : List (Int × St)} {GP : List (Int × Int)} {X : Nat → Prop} (h : IsS w base sb tb pb fb wb n now M order G F GP X) (hs : M.length ≤ 1000) :
    Calls Tryz.prog 28 #[.pointer (some ⟨sb, 0, none⟩)] w fun e w' => ∃ sb' tb' pb' fb' wb' G', e = .returned (.pointer (some ⟨sb', 0, none⟩)) ∧ IsS w' w.heap.size sb' tb' pb' fb' wb' n now M order G' F GP (fun _ => False) ∧ w.grownBy w' none := by
  have H := Lib.hid h.drew
  have HN := Lib.hid h.now0
  obtain ⟨L, hL⟩ : ∃ L : Int, (GP.length : Int) = L := ⟨_, rfl⟩
  have HL := Lib.hid hL
  have hS : w.drew.cell? ⟨sb, 0, none⟩ = some (.int .i64 now) ∧ w.drew.cell? ⟨sb, 1, none⟩ = some (.pointer (some ⟨tb, 0, none⟩)) ∧ w.drew.cell? ⟨sb, 2, none⟩ = some (.pointer (some ⟨pb, 0, none⟩)) ∧ w.drew.cell? ⟨sb, 3, none⟩ = some (.int .i64 L) := by rw [← hL]; exact c4 h.drew.cells
  clear h hL
  go_enter Tryz.func28, Tryz.ntmps28
  go_wp2_with fail
  go_region_held3 (fun w' => w'.cell? ⟨sb, 0, none⟩ = some (.int .i64 now) ∧ w'.cell? ⟨sb, 1, none⟩ = some (.pointer (some ⟨tb, 0, none⟩)) ∧ w'.cell? ⟨sb, 2, none⟩ = some (.pointer (some ⟨pb, 0, none⟩)) ∧ w'.cell? ⟨sb, 3, none⟩ = some (.int .i64 L))
    (first | (with_reducible exact hS) | (with_reducible exact hSa))
    (first
      | (go_at_call 41; refine (tms_copy H.out.t hs).mono ?_; rintro e w1 ⟨tb', G', rfl, T, _, hg⟩; (have K1 := Lib.hid (And.intro (H.out.grown hg) (And.intro T (grown_drew hg)))); clear T hg; (have hS : w1.cell? ⟨sb, 0, none⟩ = some (.int .i64 now) ∧ w1.cell? ⟨sb, 1, none⟩ = some (.pointer (some ⟨tb, 0, none⟩)) ∧ w1.cell? ⟨sb, 2, none⟩ = some (.pointer (some ⟨pb, 0, none⟩)) ∧ w1.cell? ⟨sb, 3, none⟩ = some (.int .i64 L) := HL.out ▸ c4 K1.out.1.cells))
      | (go_at_call 53; refine (Pl.pcopy_is K1.out.1.p).mono ?_; rintro e w2 ⟨pb', fb', wb', rfl, P, hg⟩; (have K2 := Lib.hid (And.intro (K1.out.1.grown hg) (And.intro P hg))); clear P hg; (have hS : w2.cell? ⟨sb, 0, none⟩ = some (.int .i64 now) ∧ w2.cell? ⟨sb, 1, none⟩ = some (.pointer (some ⟨tb, 0, none⟩)) ∧ w2.cell? ⟨sb, 2, none⟩ = some (.pointer (some ⟨pb, 0, none⟩)) ∧ w2.cell? ⟨sb, 3, none⟩ = some (.int .i64 L) := HL.out ▸ c4 K2.out.1.cells); (have K3 := Lib.hid (K2.out.1.grown (World.grownBy_alloc w2 (.cells #[.int .i64 now, .pointer (some ⟨tb', 0, none⟩), .pointer (some ⟨pb', 0, none⟩), .int .i64 L] TSRC) none))); (have hSa : (w2.alloc (.cells #[.int .i64 now, .pointer (some ⟨tb', 0, none⟩), .pointer (some ⟨pb', 0, none⟩), .int .i64 L] TSRC)).cell? ⟨sb, 0, none⟩ = some (.int .i64 now) ∧ (w2.alloc (.cells #[.int .i64 now, .pointer (some ⟨tb', 0, none⟩), .pointer (some ⟨pb', 0, none⟩), .int .i64 L] TSRC)).cell? ⟨sb, 1, none⟩ = some (.pointer (some ⟨tb, 0, none⟩)) ∧ (w2.alloc (.cells #[.int .i64 now, .pointer (some ⟨tb', 0, none⟩), .pointer (some ⟨pb', 0, none⟩), .int .i64 L] TSRC)).cell? ⟨sb, 2, none⟩ = some (.pointer (some ⟨pb, 0, none⟩)) ∧ (w2.alloc (.cells #[.int .i64 now, .pointer (some ⟨tb', 0, none⟩), .pointer (some ⟨pb', 0, none⟩), .int .i64 L] TSRC)).cell? ⟨sb, 3, none⟩ = some (.int .i64 L) := by (have q := c4 K3.out.cells; rw [HL.out] at q; exact q))))
  go_wp2_with fail
  go_ret
  have hal := World.grownBy_alloc w2 (.cells #[.int .i64 now, .pointer (some ⟨tb', 0, none⟩), .pointer (some ⟨pb', 0, none⟩), .int .i64 L] TSRC) none
  have s1 := K1.out.2.2.size
  have hlt := K2.out.2.1.lt
  have hlo := K2.out.2.1.low
  have hs2 := K2.out.2.2.size
  have hg12 : w1.grownBy (w2.alloc (.cells #[.int .i64 now, .pointer (some ⟨tb', 0, none⟩), .pointer (some ⟨pb', 0, none⟩), .int .i64 L] TSRC)) none := Pl.grown_none K2.out.2.2 hal
  have hsz := World.size_alloc w2 (.cells #[.int .i64 now, .pointer (some ⟨tb', 0, none⟩), .pointer (some ⟨pb', 0, none⟩), .int .i64 L] TSRC)
  have hP := K2.out.2.1.grown hal
  refine ⟨w2.heap.size, tb', pb', fb', wb', G', rfl, ⟨by rw [HL.out]; exact heap_alloc_new _ _, K1.out.2.1.foreign hg12 (fun k hk => .inr ?_), ⟨hP.cells, hP.fds, hP.who, hP.apart, by omega, by omega, by omega⟩, by omega, fun k hk => hk.elim, by simp; omega, HN.out⟩, Pl.grown_none K1.out.2.2 hg12⟩
  rcases hk with rfl | rfl | rfl | rfl | hk
  · simp; omega
  · simp; omega
  · simp; omega
  · simp; omega
  · exact hk.elim
theorem vcopy_is {w : World} {base sb n : Nat} {now : Int} {D : List Tim} {order : Nat} {W : List (Int × Int)} {R : List Int} {X : Nat → Prop} (h : Sv w base sb n now D order W R X) (hD : D.length ≤ 900) :
    Calls Tryz.prog 28 #[.pointer (some ⟨sb, 0, none⟩)] w fun e w' => ∃ sb', e = .returned (.pointer (some ⟨sb', 0, none⟩)) ∧ Sv w' w.heap.size sb' n now D order W R (fun _ => False) ∧ w.grownBy w' none := by
  obtain ⟨tb, pb, fb, wb, M, G, F, GP, s, p, q⟩ := h
  refine (scopy_is s (by rw [p.length_eq, List.length_map]; omega)).mono ?_
  rintro e w' ⟨sb', tb', pb', fb', wb', G', h1, h2, h3⟩
  exact ⟨sb', h1, ⟨tb', pb', fb', wb', M, G', F, GP, h2, p, q⟩, h3⟩
end Go.Proofs.YtlhblhgbpaipaaaGreat.Src
