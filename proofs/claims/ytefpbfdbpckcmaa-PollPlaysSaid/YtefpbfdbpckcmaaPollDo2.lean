/-
  Package poll: Wait that is full, or done; Ready.
-/
import Derived.Test.YtefpbfdbpckcmaaPollDo
namespace Go.Proofs.Ytefpbfdbpckcmaa.Pl
open Go.RowKit
set_option linter.unusedVariables false
set_option linter.unusedSimpArgs false

section
variable {w : World} {base pb fb wb : Nat} {F : List (Int × St)} {G : List (Int × Int)}
/-- Is there no room for one? -/
def fullL (F : List (Int × St)) (fd : Int) : Bool := !(alook F fd).isSome && decide (1024 ≤ F.length)
set_option maxRecDepth 100000 in
set_option maxHeartbeats 1000000 in
theorem wait_full (h : IsPl w base pb fb wb F G) (fd g : Int) (hg0 : 0 ≤ g) (hg1 : g < 4096) (hs : (stOf F fd).waits = false) (hq : (alook G g).isSome = false) (hf : fullL F fd = true) : Calls Try.prog 9 #[.pointer (some ⟨pb, 0, none⟩), .int .u16 fd, .int .i64 g] w fun e w' => e = .returned (.int .i64 2) ∧ w.grownBy w' none := by
  have c0 := h.c0
  have HM := Lib.hid h.fds
  have HL := Lib.hid (look_st F fd)
  have hlt := h.lt.1
  have HQ := Lib.hid hq
  have HF := Lib.hid hf
  generalize stOf F fd = s at *
  obtain ⟨sg, sw, sr⟩ := s
  have n0 : ¬ g < 0 := by omega
  have n1 : ¬ 4096 ≤ g := by omega
  have HA := Lib.hid (h.grown (World.grownBy_alloc w (.cells #[.int .i64 sg, .bool sw, .bool sr] TS) none))
  obtain rfl : sw = false := hs
  clear h hq hf
  go_enter Try.func9, Try.ntmps9
  go_wp2_with (at_lookup; refine MapU.wpList_look rfl _ _ 58 27 TS rfl Try.underlying58 Try.underlying27 HM.out rfl fd rfl (zeroS _) (St.val ⟨sg, false, sr⟩) HL.out ?_; unfold St.val)
  refine (phas_is HA.out g).mono ?_
  rintro e w1 ⟨rfl, rfl⟩
  rw [HQ.out]
  go_wp2_with fail
  refine (pfull_is HA.out fd).mono ?_
  rintro e w2 ⟨rfl, hg2⟩
  rw [show (!(alook F fd).isSome && decide (1024 ≤ F.length)) = true from HF.out]
  have HG := Lib.hid (grown_none (World.grownBy_alloc w _ none) hg2)
  clear hg2
  go_wp2_with fail
  refine bodyPost_ret (results_tmp rfl _ _ _) rfl ?_
  exact ⟨rfl, HG.out⟩
set_option maxRecDepth 100000 in
set_option maxHeartbeats 2000000 in
theorem wait_ok (h : IsPl w base pb fb wb F G) (fd g : Int) (hg0 : 0 ≤ g) (hg1 : g < 4096) (hs : (stOf F fd).waits = false) (hq : (alook G g).isSome = false) (hf : fullL F fd = false) : Calls Try.prog 9 #[.pointer (some ⟨pb, 0, none⟩), .int .u16 fd, .int .i64 g] w fun e w' => e = .returned (.int .i64 0) ∧ IsPl w' base pb fb wb (aput F fd ⟨g, true, (stOf F fd).ready⟩) (aput G g fd) ∧ PFr w w' fb wb := by
  have c0 := h.c0
  have H := Lib.hid h
  have HM := Lib.hid h.fds
  have HL := Lib.hid (look_st F fd)
  have hlt := h.lt.1
  have HQ := Lib.hid hq
  have HF := Lib.hid hf
  generalize stOf F fd = s at *
  obtain ⟨sg, sw, sr⟩ := s
  have n0 : ¬ g < 0 := by omega
  have n1 : ¬ 4096 ≤ g := by omega
  have HA := Lib.hid (h.grown (World.grownBy_alloc w (.cells #[.int .i64 sg, .bool sw, .bool sr] TS) none))
  obtain rfl : sw = false := hs
  clear h hq hf
  go_enter Try.func9, Try.ntmps9
  go_wp2_with (at_lookup; refine MapU.wpList_look rfl _ _ 58 27 TS rfl Try.underlying58 Try.underlying27 HM.out rfl fd rfl (zeroS _) (St.val ⟨sg, false, sr⟩) HL.out ?_; unfold St.val)
  refine (phas_is HA.out g).mono ?_
  rintro e w1 ⟨rfl, rfl⟩
  rw [HQ.out]
  go_wp2_with fail
  refine (pfull_is HA.out fd).mono ?_
  rintro e w2 ⟨rfl, hg2⟩
  rw [show (!(alook F fd).isSome && decide (1024 ≤ F.length)) = false from HF.out]
  have HS : Hid (w2.heap[w.heap.size]? = some (.cells #[.int .i64 sg, .bool false, .bool sr] TS (0, 0))) := Lib.hid ((hg2.block w.heap.size (by simp) (by simp)).trans (heap_alloc_new _ _))
  have HG := Lib.hid (grown_none (World.grownBy_alloc w _ none) hg2)
  have HP := Lib.hid (HA.out.grown hg2)
  clear hg2 c0
  have c0 := HP.out.c0
  have c1 := HP.out.c1
  have d2 : w2.cell? ⟨w.heap.size, 2, none⟩ = some (.bool sr) := cell_of_row _ _ 2 _ _ _ HS.out
  go_wp2_with fail
  refine wp_region_still_tail 9 (by kernel_rfl) (by kernel_rfl) ?_
  simp only [List.take_succ_cons, List.take_zero, List.drop_succ_cons, List.drop_zero]
  change wpStill _ _ w2.drew _ _ _
  repeat still_step
  refine wpStill_nil ?_
  have hdr : w2.grownBy w2.drew none := ⟨rfl, rfl, rfl, Nat.le_refl _, fun _ _ _ => rfl⟩
  have HP2 := Lib.hid HP.out.drew
  have HD := Lib.hid (grown_none HG.out hdr)
  clear hdr c0 c1 d2
  go_wp2_with (first
    | (at_mapUpdate; refine MapU.wpList_put rfl _ _ _ 58 27 TS rfl Try.underlying58 Try.underlying27 HP2.out.fds rfl fd rfl (St.val ⟨g, true, sr⟩) rfl ?_; intro w3 hm3 hg3; rw [enc_putU] at hm3; have HP3 := Lib.hid (HP2.out.putF hm3 hg3); have HG3 := Lib.hid hg3; have c1 := HP3.out.c1; clear hm3 hg3)
    | (at_mapUpdate; refine MapI.wpList_put rfl _ _ _ 59 3 27 rfl Try.underlying59 Try.underlying3 HP3.out.who rfl g rfl (u16 fd) rfl ?_; intro w4 hm4 hg4; rw [enc_put] at hm4; have HP4 := Lib.hid (HP3.out.putG hm4 hg4); have HG4 := Lib.hid hg4; clear hm4 hg4))
  go_ret
  exact ⟨rfl, HP4.out, (PFr.of HD.out (.inl rfl)).trans ((PFr.of HG3.out (.inr (.inl rfl))).trans (PFr.of HG4.out (.inr (.inr rfl))))⟩
set_option maxRecDepth 100000 in
set_option maxHeartbeats 1000000 in
theorem ready_full (h : IsPl w base pb fb wb F G) (fd : Int) (hf : fullL F fd = true) : Calls Try.prog 10 #[.pointer (some ⟨pb, 0, none⟩), .int .u16 fd] w fun e w' => e = .returned (.int .i64 2) ∧ w.grownBy w' none := by
  have H := Lib.hid h
  have HF := Lib.hid hf
  clear h hf
  go_enter Try.func10, Try.ntmps10
  go_wp2_with fail
  refine (pfull_is H.out fd).mono ?_
  rintro e w2 ⟨rfl, hg2⟩
  rw [show (!(alook F fd).isSome && decide (1024 ≤ F.length)) = true from HF.out]
  have HG := Lib.hid hg2
  clear hg2
  go_wp2_with fail
  refine bodyPost_ret (results_tmp rfl _ _ _) rfl ?_
  exact ⟨rfl, HG.out⟩
set_option maxRecDepth 100000 in
set_option maxHeartbeats 2000000 in
theorem ready_ok (h : IsPl w base pb fb wb F G) (fd : Int) (hf : fullL F fd = false) : Calls Try.prog 10 #[.pointer (some ⟨pb, 0, none⟩), .int .u16 fd] w fun e w' => e = .returned (.int .i64 0) ∧ IsPl w' base pb fb wb (aput F fd { stOf F fd with ready := true }) G ∧ PFr w w' fb wb := by
  have H := Lib.hid h
  have HF := Lib.hid hf
  have HL := Lib.hid (look_st F fd)
  generalize stOf F fd = s at *
  obtain ⟨sg, sw, sr⟩ := s
  clear h hf
  go_enter Try.func10, Try.ntmps10
  go_wp2_with fail
  refine (pfull_is H.out fd).mono ?_
  rintro e w2 ⟨rfl, hg2⟩
  rw [show (!(alook F fd).isSome && decide (1024 ≤ F.length)) = false from HF.out]
  have HG := Lib.hid hg2
  have HP := Lib.hid (H.out.grown hg2)
  have c0 := HP.out.c0
  have hlt := HP.out.lt.1
  clear hg2
  go_wp2_with (at_lookup; refine MapU.wpList_look rfl _ _ 58 27 TS rfl Try.underlying58 Try.underlying27 HP.out.fds rfl fd rfl (zeroS _) (St.val ⟨sg, sw, sr⟩) HL.out ?_; unfold St.val)
  have HS := Lib.hid (heap_alloc_new w2 (.cells #[.int .i64 sg, .bool sw, .bool true] TS))
  have HA := Lib.hid (grown_none HG.out (World.grownBy_alloc w2 (.cells #[.int .i64 sg, .bool sw, .bool true] TS) none))
  have HP3 := Lib.hid (HP.out.grown (World.grownBy_alloc w2 (.cells #[.int .i64 sg, .bool sw, .bool true] TS) none))
  clear c0 hlt
  generalize w2.alloc (.cells #[.int .i64 sg, .bool sw, .bool true] TS) = W at *
  have c0 := HP3.out.c0
  have d0 : W.cell? ⟨w2.heap.size, 0, none⟩ = some (.int .i64 sg) := cell_of_row _ _ 0 _ _ _ HS.out
  have d1 : W.cell? ⟨w2.heap.size, 1, none⟩ = some (.bool sw) := cell_of_row _ _ 1 _ _ _ HS.out
  have d2 : W.cell? ⟨w2.heap.size, 2, none⟩ = some (.bool true) := cell_of_row _ _ 2 _ _ _ HS.out
  refine wp_region_still_tail 6 (by kernel_rfl) (by kernel_rfl) ?_
  simp only [List.take_succ_cons, List.take_zero, List.drop_succ_cons, List.drop_zero]
  change wpStill _ _ W.drew _ _ _
  repeat still_step
  refine wpStill_nil ?_
  have hdr : W.grownBy W.drew none := ⟨rfl, rfl, rfl, Nat.le_refl _, fun _ _ _ => rfl⟩
  have HP4 := Lib.hid HP3.out.drew
  have HD := Lib.hid (grown_none HA.out hdr)
  clear hdr c0 d0 d1 d2
  go_wp2_with (at_mapUpdate; refine MapU.wpList_put rfl _ _ _ 58 27 TS rfl Try.underlying58 Try.underlying27 HP4.out.fds rfl fd rfl (St.val ⟨sg, sw, true⟩) rfl ?_; intro w5 hm5 hg5; rw [enc_putU] at hm5; have HP5 := Lib.hid (HP4.out.putF hm5 hg5); have HG5 := Lib.hid hg5; clear hm5 hg5)
  go_ret
  exact ⟨rfl, HP5.out, (PFr.of HD.out (.inl rfl)).trans (PFr.of HG5.out (.inr (.inl rfl)))⟩
end
end Go.Proofs.Ytefpbfdbpckcmaa.Pl
