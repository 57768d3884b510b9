/-
  Package source: Due, Out, told.
-/
import Derived.Test.YtlhblhgbpaipaaaGreatSrcBase
namespace Go.Proofs.YtlhblhgbpaipaaaGreat.Src
open Go.RowKit
open Go.Proofs.YtlhblhgbpaipaaaGreat.Hp
open Go.Proofs.YtlhblhgbpaipaaaGreat.Tm (Tms Kept IsMin dueB)
open Go.Proofs.YtlhblhgbpaipaaaGreat.Pl (IsPl PFr St aput adel alook stOf dueL fullL)
set_option linter.unusedVariables false
section
variable {w : World} {base sb tb pb fb wb n : Nat} {now : Int} {M : List Ent} {order : Nat} {G : List Int} {F : List (Int × St)} {GP : List (Int × Int)} {X : Nat → Prop}
theorem IsS.cs (h : IsS w base sb tb pb fb wb n now M order G F GP X) : w.cell? ⟨sb, 1, none⟩ = some (.pointer (some ⟨tb, 0, none⟩)) ∧ w.cell? ⟨sb, 2, none⟩ = some (.pointer (some ⟨pb, 0, none⟩)) := ⟨h.c1, h.c2⟩
theorem IsS.drew (h : IsS w base sb tb pb fb wb n now M order G F GP X) : IsS w.drew base sb tb pb fb wb n now M order G F GP X := h.grown ⟨rfl, rfl, rfl, Nat.le_refl _, fun _ _ _ => rfl⟩
theorem grown_drew {a b : World} (h : a.drew.grownBy b none) : a.grownBy b none := ⟨h.os, h.tape, h.output, h.size, h.block⟩
set_option maxRecDepth 100000 in
set_option maxHeartbeats 2000000 in
theorem sdue_yes (h : IsS w base sb tb pb fb wb n now M order G F GP X) {m : Option Ent} (hm : IsMin M m) (hd : dueB m now = true) : Calls Tryz.prog 9 #[.pointer (some ⟨sb, 0, none⟩)] w fun e w' => e = .returned (.bool true) ∧ w.grownBy w' none := by
  have H := Lib.hid h
  have HM := Lib.hid hm
  have HD := Lib.hid hd
  clear h hm hd
  go_enter Tryz.func9, Tryz.ntmps9
  go_wp2_with fail
  refine wp_region_held_drew (S := (fun w' => w'.cell? ⟨sb, 1, none⟩ = some (.pointer (some ⟨tb, 0, none⟩)) ∧ w'.cell? ⟨sb, 2, none⟩ = some (.pointer (some ⟨pb, 0, none⟩)))) (by kernel_rfl) H.out.drew.cs (fun hHeld => ?_)
  refine Own.yes (i := 0) (d := (some 3)) (v := ?_) rfl rfl (by kernel_rfl) (by kernel_rfl) (by kernel_rfl) (fun _ _ _ h => h) rfl ?_ hHeld ?_
  rotate_left
  · (intro w hSw; (try dsimp only at hSw); go_simp; try with_reducible rfl)
  simp only [Act.put, List.setIfInBounds_toArray, List.set_cons_zero, List.set_cons_succ]
  refine Own.yes (i := 1) (d := (some 4)) (v := ?_) rfl rfl (by kernel_rfl) (by kernel_rfl) (by kernel_rfl) (fun _ _ _ h => h) rfl ?_ hHeld ?_
  rotate_left
  · (intro w hSw; (try dsimp only at hSw); go_simp; try with_reducible rfl)
  simp only [Act.put, List.setIfInBounds_toArray, List.set_cons_zero, List.set_cons_succ]
  refine Own.yes (i := 2) (d := (some 5)) (v := ?_) rfl rfl (by kernel_rfl) (by kernel_rfl) (by kernel_rfl) (fun _ _ _ h => h) rfl ?_ hHeld ?_
  rotate_left
  · (intro w hSw; (try dsimp only at hSw); go_simp; try with_reducible rfl)
  simp only [Act.put, List.setIfInBounds_toArray, List.set_cons_zero, List.set_cons_succ]
  refine Own.yes (i := 3) (d := (some 6)) (v := ?_) rfl rfl (by kernel_rfl) (by kernel_rfl) (by kernel_rfl) (fun _ _ _ h => h) rfl ?_ hHeld ?_
  rotate_left
  · (intro w hSw; (try dsimp only at hSw); go_simp; try with_reducible rfl)
  simp only [Act.put, List.setIfInBounds_toArray, List.set_cons_zero, List.set_cons_succ]
  refine Own.yes (i := 4) (d := (some 7)) (v := ?_) rfl rfl (by kernel_rfl) (by kernel_rfl) (by kernel_rfl) (fun _ _ _ h => h) rfl ?_ hHeld ?_
  rotate_left
  · (intro w hSw; (try dsimp only at hSw); go_simp; try with_reducible rfl)
  simp only [Act.put, List.setIfInBounds_toArray, List.set_cons_zero, List.set_cons_succ]
  refine Own.call (i := 5) (d := (some 8)) rfl rfl (by kernel_rfl) rfl ?_ (snow_is H.out.drew) ?_
  · go_simp
  rintro e w0 ⟨rfl, rfl⟩
  have hS := H.out.drew.cs
  refine ⟨_, rfl, hS, fun hHeld => ?_⟩
  simp only [Act.put, List.setIfInBounds_toArray, List.set_cons_zero, List.set_cons_succ]
  refine Own.call (i := 6) (d := (some 9)) rfl rfl (by kernel_rfl) rfl ?_ (Tm.tms_due H.out.drew.t HM.out now) ?_
  · go_simp
  rintro e w1 ⟨rfl, hg⟩
  rw [HD.out]
  have H1 := Lib.hid (And.intro (H.out.drew.grown hg) (grown_drew hg))
  clear hg hS hHeld
  have hS := H1.out.1.cs
  refine ⟨_, rfl, hS, fun hHeld => ?_⟩
  simp only [Act.put, List.setIfInBounds_toArray, List.set_cons_zero, List.set_cons_succ]
  refine Own.yes (i := 7) (d := (some 10)) (v := ?_) rfl rfl (by kernel_rfl) (by kernel_rfl) (by kernel_rfl) (fun _ _ _ h => h) rfl ?_ hHeld ?_
  rotate_left
  · (intro w hSw; (try dsimp only at hSw); go_simp; try with_reducible rfl)
  simp only [Act.put, List.setIfInBounds_toArray, List.set_cons_zero, List.set_cons_succ]
  refine Own.no (i := 8) (d := (some 11)) rfl rfl (by kernel_rfl) (by kernel_rfl) (by kernel_rfl) (fun _ _ _ h => h) rfl hHeld ?_
  simp only [Act.put, List.setIfInBounds_toArray, List.set_cons_zero, List.set_cons_succ]
  refine Own.no (i := 9) (d := (some 12)) rfl rfl (by kernel_rfl) (by kernel_rfl) (by kernel_rfl) (fun _ _ _ h => h) rfl hHeld ?_
  simp only [Act.put, List.setIfInBounds_toArray, List.set_cons_zero, List.set_cons_succ]
  refine Own.no (i := 10) (d := (some 13)) rfl rfl (by kernel_rfl) (by kernel_rfl) (by kernel_rfl) (fun _ _ _ h => h) rfl hHeld ?_
  simp only [Act.put, List.setIfInBounds_toArray, List.set_cons_zero, List.set_cons_succ]
  refine Own.no (i := 11) (d := (some 14)) rfl rfl (by kernel_rfl) (by kernel_rfl) (by kernel_rfl) (fun _ _ _ h => h) rfl hHeld ?_
  simp only [Act.put, List.setIfInBounds_toArray, List.set_cons_zero, List.set_cons_succ]
  refine Own.no (i := 12) (d := (some 15)) rfl rfl (by kernel_rfl) (by kernel_rfl) (by kernel_rfl) (fun _ _ _ h => h) rfl hHeld ?_
  simp only [Act.put, List.setIfInBounds_toArray, List.set_cons_zero, List.set_cons_succ]
  refine Own.yes (i := 13) (d := (some 16)) (v := ?_) rfl rfl (by kernel_rfl) (by kernel_rfl) (by kernel_rfl) (fun _ _ _ h => h) rfl ?_ hHeld ?_
  rotate_left
  · (intro w hSw; (try dsimp only at hSw); go_simp; try with_reducible rfl)
  simp only [Act.put, List.setIfInBounds_toArray, List.set_cons_zero, List.set_cons_succ]
  refine Own.yes (i := 14) (d := (some 2)) (v := ?_) rfl rfl (by kernel_rfl) (by kernel_rfl) (by kernel_rfl) (fun _ _ _ h => h) rfl ?_ hHeld ?_
  rotate_left
  · (intro w hSw; (try dsimp only at hSw); go_simp; try with_reducible rfl)
  simp only [Act.put, List.setIfInBounds_toArray, List.set_cons_zero, List.set_cons_succ]
  refine wpAnyH_done (by kernel_rfl) ?_ _
  go_wp2_with fail
  go_ret
  exact ⟨rfl, H1.out.2⟩
set_option maxRecDepth 100000 in
set_option maxHeartbeats 2000000 in
theorem sdue_no (h : IsS w base sb tb pb fb wb n now M order G F GP X) {m : Option Ent} (hm : IsMin M m) (hd : dueB m now = false) : Calls Tryz.prog 9 #[.pointer (some ⟨sb, 0, none⟩)] w fun e w' => e = .returned (.bool (dueL F)) ∧ w.grownBy w' none := by
  have H := Lib.hid h
  have HM := Lib.hid hm
  have HD := Lib.hid hd
  clear h hm hd
  go_enter Tryz.func9, Tryz.ntmps9
  go_wp2_with fail
  refine wp_region_held_drew (S := (fun w' => w'.cell? ⟨sb, 1, none⟩ = some (.pointer (some ⟨tb, 0, none⟩)) ∧ w'.cell? ⟨sb, 2, none⟩ = some (.pointer (some ⟨pb, 0, none⟩)))) (by kernel_rfl) H.out.drew.cs (fun hHeld => ?_)
  refine Own.yes (i := 0) (d := (some 3)) (v := ?_) rfl rfl (by kernel_rfl) (by kernel_rfl) (by kernel_rfl) (fun _ _ _ h => h) rfl ?_ hHeld ?_
  rotate_left
  · (intro w hSw; (try dsimp only at hSw); go_simp; try with_reducible rfl)
  simp only [Act.put, List.setIfInBounds_toArray, List.set_cons_zero, List.set_cons_succ]
  refine Own.yes (i := 1) (d := (some 4)) (v := ?_) rfl rfl (by kernel_rfl) (by kernel_rfl) (by kernel_rfl) (fun _ _ _ h => h) rfl ?_ hHeld ?_
  rotate_left
  · (intro w hSw; (try dsimp only at hSw); go_simp; try with_reducible rfl)
  simp only [Act.put, List.setIfInBounds_toArray, List.set_cons_zero, List.set_cons_succ]
  refine Own.yes (i := 2) (d := (some 5)) (v := ?_) rfl rfl (by kernel_rfl) (by kernel_rfl) (by kernel_rfl) (fun _ _ _ h => h) rfl ?_ hHeld ?_
  rotate_left
  · (intro w hSw; (try dsimp only at hSw); go_simp; try with_reducible rfl)
  simp only [Act.put, List.setIfInBounds_toArray, List.set_cons_zero, List.set_cons_succ]
  refine Own.yes (i := 3) (d := (some 6)) (v := ?_) rfl rfl (by kernel_rfl) (by kernel_rfl) (by kernel_rfl) (fun _ _ _ h => h) rfl ?_ hHeld ?_
  rotate_left
  · (intro w hSw; (try dsimp only at hSw); go_simp; try with_reducible rfl)
  simp only [Act.put, List.setIfInBounds_toArray, List.set_cons_zero, List.set_cons_succ]
  refine Own.yes (i := 4) (d := (some 7)) (v := ?_) rfl rfl (by kernel_rfl) (by kernel_rfl) (by kernel_rfl) (fun _ _ _ h => h) rfl ?_ hHeld ?_
  rotate_left
  · (intro w hSw; (try dsimp only at hSw); go_simp; try with_reducible rfl)
  simp only [Act.put, List.setIfInBounds_toArray, List.set_cons_zero, List.set_cons_succ]
  refine Own.call (i := 5) (d := (some 8)) rfl rfl (by kernel_rfl) rfl ?_ (snow_is H.out.drew) ?_
  · go_simp
  rintro e w0 ⟨rfl, rfl⟩
  have hS := H.out.drew.cs
  refine ⟨_, rfl, hS, fun hHeld => ?_⟩
  simp only [Act.put, List.setIfInBounds_toArray, List.set_cons_zero, List.set_cons_succ]
  refine Own.call (i := 6) (d := (some 9)) rfl rfl (by kernel_rfl) rfl ?_ (Tm.tms_due H.out.drew.t HM.out now) ?_
  · go_simp
  rintro e w1 ⟨rfl, hg⟩
  rw [HD.out]
  have H1 := Lib.hid (And.intro (H.out.drew.grown hg) (grown_drew hg))
  clear hg hS hHeld
  have hS := H1.out.1.cs
  refine ⟨_, rfl, hS, fun hHeld => ?_⟩
  simp only [Act.put, List.setIfInBounds_toArray, List.set_cons_zero, List.set_cons_succ]
  refine Own.yes (i := 7) (d := (some 10)) (v := ?_) rfl rfl (by kernel_rfl) (by kernel_rfl) (by kernel_rfl) (fun _ _ _ h => h) rfl ?_ hHeld ?_
  rotate_left
  · (intro w hSw; (try dsimp only at hSw); go_simp; try with_reducible rfl)
  simp only [Act.put, List.setIfInBounds_toArray, List.set_cons_zero, List.set_cons_succ]
  refine Own.yes (i := 8) (d := (some 11)) (v := ?_) rfl rfl (by kernel_rfl) (by kernel_rfl) (by kernel_rfl) (fun _ _ _ h => h) rfl ?_ hHeld ?_
  rotate_left
  · (intro w hSw; (try dsimp only at hSw); go_simp; try with_reducible rfl)
  simp only [Act.put, List.setIfInBounds_toArray, List.set_cons_zero, List.set_cons_succ]
  refine Own.yes (i := 9) (d := (some 12)) (v := ?_) rfl rfl (by kernel_rfl) (by kernel_rfl) (by kernel_rfl) (fun _ _ _ h => h) rfl ?_ hHeld ?_
  rotate_left
  · (intro w hSw; (try dsimp only at hSw); go_simp; try with_reducible rfl)
  simp only [Act.put, List.setIfInBounds_toArray, List.set_cons_zero, List.set_cons_succ]
  refine Own.yes (i := 10) (d := (some 13)) (v := ?_) rfl rfl (by kernel_rfl) (by kernel_rfl) (by kernel_rfl) (fun _ _ _ h => h) rfl ?_ hHeld ?_
  rotate_left
  · (intro w hSw; (try dsimp only at hSw); go_simp; try with_reducible rfl)
  simp only [Act.put, List.setIfInBounds_toArray, List.set_cons_zero, List.set_cons_succ]
  refine Own.yes (i := 11) (d := (some 14)) (v := ?_) rfl rfl (by kernel_rfl) (by kernel_rfl) (by kernel_rfl) (fun _ _ _ h => h) rfl ?_ hHeld ?_
  rotate_left
  · (intro w hSw; (try dsimp only at hSw); go_simp; try with_reducible rfl)
  simp only [Act.put, List.setIfInBounds_toArray, List.set_cons_zero, List.set_cons_succ]
  refine Own.call (i := 12) (d := (some 15)) rfl rfl (by kernel_rfl) rfl ?_ (Pl.pdue_is H1.out.1.p) ?_
  · go_simp
  rintro e w2 ⟨rfl, hg⟩
  have H2 := Lib.hid (And.intro (H1.out.1.grown hg) (Pl.grown_none H1.out.2 hg))
  clear hg hS hHeld
  have hS := H2.out.1.cs
  refine ⟨_, rfl, hS, fun hHeld => ?_⟩
  simp only [Act.put, List.setIfInBounds_toArray, List.set_cons_zero, List.set_cons_succ]
  refine Own.yes (i := 13) (d := (some 16)) (v := ?_) rfl rfl (by kernel_rfl) (by kernel_rfl) (by kernel_rfl) (fun _ _ _ h => h) rfl ?_ hHeld ?_
  rotate_left
  · (intro w hSw; (try dsimp only at hSw); go_simp; try with_reducible rfl)
  simp only [Act.put, List.setIfInBounds_toArray, List.set_cons_zero, List.set_cons_succ]
  refine Own.yes (i := 14) (d := (some 2)) (v := ?_) rfl rfl (by kernel_rfl) (by kernel_rfl) (by kernel_rfl) (fun _ _ _ h => h) rfl ?_ hHeld ?_
  rotate_left
  · (intro w hSw; (try dsimp only at hSw); go_simp; try with_reducible rfl)
  simp only [Act.put, List.setIfInBounds_toArray, List.set_cons_zero, List.set_cons_succ]
  refine wpAnyH_done (by kernel_rfl) ?_ _
  go_wp2_with fail
  go_ret
  exact ⟨rfl, H2.out.2⟩
set_option maxRecDepth 100000 in
set_option maxHeartbeats 2000000 in
theorem sout_yes (h : IsS w base sb tb pb fb wb n now M order G F GP X) (g : Int) (hd : decide (g ∈ G) = true) : Calls Tryz.prog 13 #[.pointer (some ⟨sb, 0, none⟩), .int .i64 g] w fun e w' => e = .returned (.bool true) ∧ w.grownBy w' none := by
  have H := Lib.hid h
  have HD := Lib.hid hd
  have c1 := h.c1
  clear h hd
  go_enter Tryz.func13, Tryz.ntmps13
  go_wp2_with fail
  refine (Tm.tms_has H.out.t g).mono ?_
  rintro e w1 ⟨rfl, hg⟩
  rw [HD.out]
  have H1 := Lib.hid (And.intro (H.out.grown hg) hg)
  clear hg c1
  have c2 := H1.out.1.c2
  go_wp2_with fail
  go_ret
  exact ⟨rfl, H1.out.2⟩
set_option maxRecDepth 100000 in
set_option maxHeartbeats 2000000 in
theorem sout_no (h : IsS w base sb tb pb fb wb n now M order G F GP X) (g : Int) (hd : decide (g ∈ G) = false) : Calls Tryz.prog 13 #[.pointer (some ⟨sb, 0, none⟩), .int .i64 g] w fun e w' => e = .returned (.bool (alook GP g).isSome) ∧ w.grownBy w' none := by
  have H := Lib.hid h
  have HD := Lib.hid hd
  have c1 := h.c1
  clear h hd
  go_enter Tryz.func13, Tryz.ntmps13
  go_wp2_with fail
  refine (Tm.tms_has H.out.t g).mono ?_
  rintro e w1 ⟨rfl, hg⟩
  rw [HD.out]
  have H1 := Lib.hid (And.intro (H.out.grown hg) hg)
  clear hg c1
  have c2 := H1.out.1.c2
  go_wp2_with fail
  refine (Pl.phas_is H1.out.1.p g).mono ?_
  rintro e w2 ⟨rfl, rfl⟩
  go_wp2_with fail
  go_ret
  exact ⟨rfl, H1.out.2⟩
/-- Is something due? -/
theorem sdue_is (h : IsS w base sb tb pb fb wb n now M order G F GP X) {m : Option Ent} (hm : IsMin M m) {r : Bool} (hr : (dueB m now || dueL F) = r) : Calls Tryz.prog 9 #[.pointer (some ⟨sb, 0, none⟩)] w fun e w' => e = .returned (.bool r) ∧ w.grownBy w' none := by
  subst hr
  by_cases hd : dueB m now = true
  · rw [hd, Bool.true_or]; exact sdue_yes h hm hd
  · have hd' : dueB m now = false := by simpa using hd
    rw [hd', Bool.false_or]; exact sdue_no h hm hd'
theorem sout_is (h : IsS w base sb tb pb fb wb n now M order G F GP X) (g : Int) {r : Bool} (hr : (decide (g ∈ G) || (alook GP g).isSome) = r) : Calls Tryz.prog 13 #[.pointer (some ⟨sb, 0, none⟩), .int .i64 g] w fun e w' => e = .returned (.bool r) ∧ w.grownBy w' none := by
  subst hr
  by_cases hd : decide (g ∈ G) = true
  · rw [hd, Bool.true_or]; exact sout_yes h g hd
  · have hd' : decide (g ∈ G) = false := by simpa using hd
    rw [hd', Bool.false_or]; exact sout_no h g hd'
set_option maxHeartbeats 1000000 in
theorem told_ok (h : IsS w base sb tb pb fb wb n now M order G F GP X) {m : Option Ent} (hm : IsMin M m) {r : Bool} (hr : (dueB m now || dueL F) = r) : Calls Tryz.prog 43 #[.pointer (some ⟨sb, 0, none⟩), .int .i64 0] w fun e w' => e = .returned (.tuple #[.bool r, .int .i64 0]) ∧ w.grownBy w' none := by
  have H := Lib.hid h
  have HM := Lib.hid (And.intro hm hr)
  clear h hm hr
  go_enter Tryz.func43, Tryz.ntmps43
  go_wp2_with fail
  refine (sdue_is H.out HM.out.1 HM.out.2).mono ?_
  rintro e w1 ⟨rfl, hg⟩
  have HG := Lib.hid hg
  clear hg
  go_wp2_with fail
  go_ret2
  exact ⟨rfl, HG.out⟩
set_option maxHeartbeats 1000000 in
theorem told_err (w : World) (sb : Nat) (x : Int) (hx : x ≠ 0) : Calls Tryz.prog 43 #[.pointer (some ⟨sb, 0, none⟩), .int .i64 x] w fun e w' => e = .returned (.tuple #[.bool false, .int .i64 x]) ∧ w = w' := by
  go_enter Tryz.func43, Tryz.ntmps43
  go_wp2
  go_ret2
  exact ⟨rfl, rfl⟩
end
end Go.Proofs.YtlhblhgbpaipaaaGreat.Src
