/-
  Package source: Tick, Sleep, Wait, Ready.
-/
import Derived.Test.YtlhblhgbpaipaaaGreatSrcDue
import Derived.Test.YtlhblhgbpaipaaaGreatTimerCopy
import Derived.Test.YtlhblhgbpaipaaaGreatMgPoll
namespace Go.Proofs.YtlhblhgbpaipaaaGreat.Src
open Go.RowKit
open Go.Proofs.YtlhblhgbpaipaaaGreat.Hp
open Go.Proofs.YtlhblhgbpaipaaaGreat.Tm (Tms Kept IsMin dueB)
open Go.Proofs.YtlhblhgbpaipaaaGreat.Pl (IsPl PFr St aput adel alook stOf dueL fullL)
set_option linter.unusedVariables false
theorem kept_refl (w : World) (base : Nat) (X : Nat → Prop) : Kept w w base X := ⟨Below.refl _ _, fun _ _ => rfl⟩
theorem Kept.grown {a b c : World} {base : Nat} {X : Nat → Prop} (h : Kept a b base X) (hg : b.grownBy c none) (hb : base ≤ a.heap.size) (hx : ∀ k, X k → k < a.heap.size) : Kept a c base X :=
  h.trans ⟨⟨hg.os, hg.tape, hg.output, hg.size, fun k hk => hg.block k (by have := h.below.size; omega) (by simp)⟩, fun k hk => hg.block k (Nat.lt_of_lt_of_le (hx k hk) h.below.size) (by simp)⟩
theorem mx_zero (d : Int) : 0 ≤ Clk.mx 0 d := by unfold Clk.mx; split <;> omega
section
variable {w : World} {base sb tb pb fb wb n : Nat} {now : Int} {M : List Ent} {order : Nat} {G : List Int} {F : List (Int × St)} {GP : List (Int × Int)} {X : Nat → Prop}
theorem IsS.i64 (h : IsS w base sb tb pb fb wb n now M order G F GP X) : Clk.I64 now := by have := h.now0; unfold Clk.I64; omega
theorem IsS.sat0 (h : IsS w base sb tb pb fb wb n now M order G F GP X) {d : Int} (hd : Clk.I64 d) : 0 ≤ Clk.sat now (Clk.mx 0 d) ∧ Clk.sat now (Clk.mx 0 d) ≤ 9223372036854775807 := by
  have := h.now0; have := mx_zero d; unfold Clk.sat; (repeat' split) <;> omega

set_option maxRecDepth 100000 in
set_option maxHeartbeats 2000000 in
theorem stick_is (h : IsS w base sb tb pb fb wb n now M order G F GP X) {d t : Int} (hd : Clk.I64 d) (ht : Clk.sat now (Clk.mx 0 d) = t) {m : Option Ent} (hm : IsMin M m) {r : Bool} (hr : (dueB m t || dueL F) = r) :
    Calls Tryz.prog 17 #[.pointer (some ⟨sb, 0, none⟩), .int .i64 d] w fun e w' => e = .returned (.bool r) ∧ IsS w' base sb tb pb fb wb n t M order G F GP X ∧ Kept w w' base X := by
  have ht0 := h.sat0 hd
  rw [ht] at ht0
  have H := Lib.hid h
  have HD := Lib.hid (And.intro hd (And.intro ht (And.intro hm (And.intro hr ht0))))
  clear h hd ht hm hr ht0
  go_enter Tryz.func17, Tryz.ntmps17
  go_wp2_with fail
  refine (Clk.tick_any ⟨sb, 0, none⟩ now d t HD.out.2.1 H.out.i64 HD.out.1 _ H.out.c0 (H.out.free 0)).mono ?_
  rintro e w1 ⟨rfl, rfl⟩
  have H1 := Lib.hid (H.out.time HD.out.2.2.2.2)
  generalize (w.setCell ⟨sb, 0, none⟩ (.int .i64 t)) = w1 at *
  go_wp2_with fail
  refine (sdue_is H1.out.1 HD.out.2.2.1 HD.out.2.2.2.1).mono ?_
  rintro e w2 ⟨rfl, hg⟩
  have H2 := Lib.hid (And.intro (H1.out.1.grown hg) (Kept.grown H1.out.2 hg H.out.low (fun k hk => H.out.xlt hk)))
  clear hg
  go_wp2_with fail
  go_ret
  exact ⟨rfl, H2.out⟩

set_option maxRecDepth 100000 in
set_option maxHeartbeats 2000000 in
theorem sready_err (h : IsS w base sb tb pb fb wb n now M order G F GP X) (fd : Int) (hf : fullL F fd = true) :
    Calls Tryz.prog 26 #[.pointer (some ⟨sb, 0, none⟩), .int .u16 fd] w fun e w' => e = .returned (.tuple #[.bool false, .int .i64 2]) ∧ w.grownBy w' none := by
  have c2 := h.c2
  have H := Lib.hid h
  have HF := Lib.hid hf
  clear h hf
  go_enter Tryz.func26, Tryz.ntmps26
  go_wp2_with fail
  refine (Pl.ready_full H.out.p fd HF.out).mono ?_
  rintro e w1 ⟨rfl, hg⟩
  have HG := Lib.hid hg
  clear hg c2
  go_wp2_with fail
  refine (told_err w1 sb 2 (by decide)).mono ?_
  rintro e w2 ⟨rfl, rfl⟩
  go_wp2_with fail
  go_ret2
  exact ⟨rfl, HG.out⟩
set_option maxRecDepth 100000 in
set_option maxHeartbeats 2000000 in
theorem sready_ok (h : IsS w base sb tb pb fb wb n now M order G F GP X) (fd : Int) (hf : fullL F fd = false) {m : Option Ent} (hm : IsMin M m) {r : Bool} (hr : (dueB m now || dueL (aput F fd { stOf F fd with ready := true })) = r) :
    Calls Tryz.prog 26 #[.pointer (some ⟨sb, 0, none⟩), .int .u16 fd] w fun e w' => e = .returned (.tuple #[.bool r, .int .i64 0]) ∧ IsS w' base sb tb pb fb wb n now M order G (aput F fd { stOf F fd with ready := true }) GP X ∧ Kept w w' base X := by
  have c2 := h.c2
  have H := Lib.hid h
  have HF := Lib.hid (And.intro hf (And.intro hm hr))
  clear h hf hm hr
  go_enter Tryz.func26, Tryz.ntmps26
  go_wp2_with fail
  refine (Pl.ready_ok H.out.p fd HF.out.1).mono ?_
  rintro e w1 ⟨rfl, P, hk⟩
  have H1 := Lib.hid (H.out.poll P hk rfl)
  clear P hk c2
  go_wp2_with fail
  refine (told_ok H1.out.1 HF.out.2.1 HF.out.2.2).mono ?_
  rintro e w2 ⟨rfl, hg⟩
  have H2 := Lib.hid (And.intro (H1.out.1.grown hg) (Kept.grown H1.out.2 hg H.out.low (fun k hk => H.out.xlt hk)))
  clear hg
  go_wp2_with fail
  go_ret2
  exact ⟨rfl, H2.out⟩

set_option maxRecDepth 100000 in
set_option maxHeartbeats 2000000 in
theorem swait_sleeps (h : IsS w base sb tb pb fb wb n now M order G F GP X) (fd g : Int) (hg : g ∈ G) :
    Calls Tryz.prog 23 #[.pointer (some ⟨sb, 0, none⟩), .int .u16 fd, .int .i64 g] w fun e w' => e = .returned (.tuple #[.bool false, .int .i64 8]) ∧ w.grownBy w' none := by
  have c1 := h.c1
  have H := Lib.hid h
  have HD : Hid (decide (g ∈ G) = true) := Lib.hid (by simpa using hg)
  clear h hg
  go_enter Tryz.func23, Tryz.ntmps23
  go_wp2_with fail
  refine (Tm.tms_has H.out.t g).mono ?_
  rintro e w1 ⟨rfl, hg⟩
  rw [HD.out]
  have HG := Lib.hid hg
  clear hg c1
  go_wp2_with fail
  go_ret2
  exact ⟨rfl, HG.out⟩
set_option maxRecDepth 100000 in
set_option maxHeartbeats 2000000 in
theorem swait_err (h : IsS w base sb tb pb fb wb n now M order G F GP X) (fd g x : Int) (hg : g ∉ G) (hx : x ≠ 0) (hc : ∀ w1, IsPl w1 base pb fb wb F GP → Calls Tryz.prog 49 #[.pointer (some ⟨pb, 0, none⟩), .int .u16 fd, .int .i64 g] w1 fun e w' => e = .returned (.int .i64 x) ∧ w1.grownBy w' none) :
    Calls Tryz.prog 23 #[.pointer (some ⟨sb, 0, none⟩), .int .u16 fd, .int .i64 g] w fun e w' => e = .returned (.tuple #[.bool false, .int .i64 x]) ∧ w.grownBy w' none := by
  have c1 := h.c1
  have H := Lib.hid h
  have HC := Lib.hid hc
  have HD : Hid (decide (g ∈ G) = false) := Lib.hid (by simpa using hg)
  clear h hg hc
  go_enter Tryz.func23, Tryz.ntmps23
  go_wp2_with fail
  refine (Tm.tms_has H.out.t g).mono ?_
  rintro e w1 ⟨rfl, hg⟩
  rw [HD.out]
  have H1 := Lib.hid (And.intro (H.out.grown hg) hg)
  have c2 := (H.out.grown hg).c2
  clear hg c1
  go_wp2_with fail
  refine (HC.out w1 H1.out.1.p).mono ?_
  rintro e w2 ⟨rfl, hg⟩
  have H2 := Lib.hid (Pl.grown_none H1.out.2 hg)
  clear hg c2
  go_wp2_with fail
  refine (told_err w2 sb x hx).mono ?_
  rintro e w3 ⟨rfl, rfl⟩
  go_wp2_with fail
  go_ret2
  exact ⟨rfl, H2.out⟩
set_option maxRecDepth 100000 in
set_option maxHeartbeats 2000000 in
theorem swait_ok (h : IsS w base sb tb pb fb wb n now M order G F GP X) (fd g : Int) (hg : g ∉ G) (hg0 : 0 ≤ g) (hg1 : g < 4096) (hs : (stOf F fd).waits = false) (hq : (alook GP g).isSome = false) (hf : fullL F fd = false) (hlen : GP.length < 1000000)
    {m : Option Ent} (hm : IsMin M m) {r : Bool} (hr : (dueB m now || dueL (aput F fd ⟨g, true, (stOf F fd).ready⟩)) = r) :
    Calls Tryz.prog 23 #[.pointer (some ⟨sb, 0, none⟩), .int .u16 fd, .int .i64 g] w fun e w' => e = .returned (.tuple #[.bool r, .int .i64 0]) ∧ IsS w' base sb tb pb fb wb n now M order G (aput F fd ⟨g, true, (stOf F fd).ready⟩) (aput GP g fd) X ∧ Kept w w' base X := by
  have c1 := h.c1
  have H := Lib.hid h
  have HM := Lib.hid (And.intro hm hr)
  have HS := Lib.hid (And.intro hg0 (And.intro hg1 (And.intro hs (And.intro hq hf))))
  have HD : Hid (decide (g ∈ G) = false) := Lib.hid (by simpa using hg)
  have HL : Hid ((aput GP g fd).length = GP.length + 1) := Lib.hid (by
    rw [Pl.aput_len, if_neg]
    intro hk
    obtain ⟨q, hq2⟩ := Option.isNone_iff_eq_none.1 (show (alook GP g).isNone = true by cases hh : alook GP g <;> simp_all) |> fun e => (⟨(), e⟩ : ∃ _ : Unit, alook GP g = none)
    exact Pl.alook_none.1 hq2 hk)
  have hw : IntKind.i64.wrap ((GP.length : Int) + 1) = ((aput GP g fd).length : Int) := by rw [IntKind.wrap_i64, HL.out]; omega
  clear h hg hm hr hs hq hf
  go_enter Tryz.func23, Tryz.ntmps23
  go_wp2_with fail
  refine (Tm.tms_has H.out.t g).mono ?_
  rintro e w1 ⟨rfl, hg⟩
  rw [HD.out]
  have H1 := Lib.hid (And.intro (H.out.grown hg) hg)
  have c2 := (H.out.grown hg).c2
  clear hg c1
  go_wp2_with fail
  refine (Pl.wait_ok H1.out.1.p fd g HS.out.1 HS.out.2.1 HS.out.2.2.1 HS.out.2.2.2.1 HS.out.2.2.2.2).mono ?_
  rintro e w2 ⟨rfl, P, hk⟩
  have c3 : w2.cell? ⟨sb, 3, none⟩ = some (.int .i64 GP.length) := (World.cell?_of_block (a := ⟨sb, 3, none⟩) (hk.block sb H1.out.1.lt H1.out.1.ne.2.1 H1.out.1.ne.2.2.1)).trans H1.out.1.c3
  have fz : w2.frozen? ⟨sb, 3, none⟩ = false := by
    have := H1.out.1.free 3
    unfold World.frozen? at this ⊢
    rw [hk.block sb H1.out.1.lt H1.out.1.ne.2.1 H1.out.1.ne.2.2.1]; exact this
  have H2 := Lib.hid (H1.out.1.poll2 P hk)
  clear P hk c2
  go_wp2_with fail
  have H3 : Hid (IsS (w2.setCell ⟨sb, 3, none⟩ (.int .i64 (aput GP g fd).length)) base sb tb pb fb wb n now M order G (aput F fd ⟨g, true, (stOf F fd).ready⟩) (aput GP g fd) X ∧ Kept w (w2.setCell ⟨sb, 3, none⟩ (.int .i64 (aput GP g fd).length)) base X) := Lib.hid ⟨H2.out.1, Kept.trans (kept_grown H.out H1.out.2) H2.out.2⟩
  clear H2 c3 fz
  generalize (w2.setCell ⟨sb, 3, none⟩ (.int .i64 (aput GP g fd).length)) = w3 at *
  refine (told_ok H3.out.1 HM.out.1 HM.out.2).mono ?_
  rintro e w4 ⟨rfl, hg⟩
  have H4 := Lib.hid (And.intro (H3.out.1.grown hg) (Kept.grown H3.out.2 hg H.out.low (fun k hk => H.out.xlt hk)))
  clear hg
  go_wp2_with fail
  go_ret2
  exact ⟨rfl, H4.out⟩
end
end Go.Proofs.YtlhblhgbpaipaaaGreat.Src
