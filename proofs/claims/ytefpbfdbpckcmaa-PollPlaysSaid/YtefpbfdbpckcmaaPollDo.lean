/-
  Package poll: New, Wait, Ready.
-/
import Derived.Test.YtefpbfdbpckcmaaPollAsk
namespace Go.Proofs.Ytefpbfdbpckcmaa.Pl
open Go.RowKit
set_option linter.unusedVariables false
set_option linter.unusedSimpArgs false

/-- Besides the two maps nothing that was there is other than it was. -/
structure PFr (w w' : World) (fb wb : Nat) : Prop where
  os : w'.os = w.os
  tape : w'.tape = w.tape
  output : w'.output = w.output
  size : w.heap.size ≤ w'.heap.size
  block : ∀ k, k < w.heap.size → k ≠ fb → k ≠ wb → w'.heap[k]? = w.heap[k]?
theorem PFr.refl (w : World) (fb wb : Nat) : PFr w w fb wb := ⟨rfl, rfl, rfl, Nat.le_refl _, fun _ _ _ _ => rfl⟩
theorem PFr.of {w w' : World} {fb wb : Nat} {r : Option Nat} (h : w.grownBy w' r) (hr : r = none ∨ r = some fb ∨ r = some wb) : PFr w w' fb wb :=
  ⟨h.os, h.tape, h.output, h.size, fun k hk h1 h2 => h.block k hk (fun e => by rcases hr with rfl | rfl | rfl <;> cases e <;> simp at h1 h2)⟩
theorem PFr.trans {a b c : World} {fb wb : Nat} (h : PFr a b fb wb) (k : PFr b c fb wb) : PFr a c fb wb :=
  ⟨k.os.trans h.os, k.tape.trans h.tape, k.output.trans h.output, Nat.le_trans h.size k.size, fun j hj h1 h2 => (k.block j (Nat.lt_of_lt_of_le hj h.size) h1 h2).trans (h.block j hj h1 h2)⟩
theorem PFr.below {w w' : World} {fb wb n : Nat} (h : PFr w w' fb wb) (h1 : n ≤ fb) (h2 : n ≤ wb) (hn : n ≤ w.heap.size) : Below n w w' :=
  ⟨h.os, h.tape, h.output, h.size, fun k hk => h.block k (by omega) (by omega) (by omega)⟩

section
variable {w : World} {base pb fb wb : Nat} {F : List (Int × St)} {G : List (Int × Int)}
theorem IsPl.putF {w' : World} (h : IsPl w base pb fb wb F G) {F' : List (Int × St)} (hm : MapU.IsMap w' fb (enc St.val F')) (hg : w.grownBy w' (some fb)) : IsPl w' base pb fb wb F' G :=
  ⟨(hg.block _ h.lt.1 (fun e => h.apart.1 (Option.some.inj e))).trans h.cells, hm, h.who.heap (hg.block _ h.lt.2.2 (fun e => h.apart.2.2 (Option.some.inj e).symm)), h.apart, h.low⟩
theorem IsPl.putG {w' : World} (h : IsPl w base pb fb wb F G) {G' : List (Int × Int)} (hm : MapI.IsMap w' wb (enc u16 G')) (hg : w.grownBy w' (some wb)) : IsPl w' base pb fb wb F G' :=
  ⟨(hg.block _ h.lt.1 (fun e => h.apart.2.1 (Option.some.inj e))).trans h.cells, h.fds.heap (hg.block _ h.lt.2.1 (fun e => h.apart.2.2 (Option.some.inj e))), hm, h.apart, h.low⟩
theorem IsPl.drew (h : IsPl w base pb fb wb F G) : IsPl w.drew base pb fb wb F G := h.kept rfl rfl rfl

set_option maxHeartbeats 1000000 in
theorem pnew_is (w : World) (base : Nat) (hb : base ≤ w.heap.size) : Calls Try.prog 8 #[] w fun e w' => ∃ pb fb wb, e = .returned (.pointer (some ⟨pb, 0, none⟩)) ∧ IsPl w' base pb fb wb [] [] ∧ w.grownBy w' none ∧ w.heap.size ≤ pb ∧ w.heap.size ≤ fb ∧ w.heap.size ≤ wb := by
  have hmm := @run_makeMap Try.prog
  go_enter Try.func8, Try.ntmps8
  go_wp2
  go_ret
  have e0 : ((((w.alloc (.map #[] 0)).alloc (.map #[] 0)).alloc (.cells #[.map (some w.heap.size), .map (some (w.heap.size + 1))] TP))).heap[w.heap.size]? = some (.map #[] 0) := (heap_alloc_old _ _ (by simp; omega)).trans ((heap_alloc_old _ _ (by simp)).trans (heap_alloc_new _ _))
  have e1 : ((((w.alloc (.map #[] 0)).alloc (.map #[] 0)).alloc (.cells #[.map (some w.heap.size), .map (some (w.heap.size + 1))] TP))).heap[w.heap.size + 1]? = some (.map #[] 0) := (heap_alloc_old _ _ (by simp)).trans (by have := heap_alloc_new (w.alloc (.map #[] 0)) (.map #[] 0); simpa using this)
  have e2 : ((((w.alloc (.map #[] 0)).alloc (.map #[] 0)).alloc (.cells #[.map (some w.heap.size), .map (some (w.heap.size + 1))] TP))).heap[w.heap.size + 2]? = some (.cells #[.map (some w.heap.size), .map (some (w.heap.size + 1))] TP (0, 0)) := by have := heap_alloc_new ((w.alloc (.map #[] 0)).alloc (.map #[] 0)) (.cells #[.map (some w.heap.size), .map (some (w.heap.size + 1))] TP); simpa using this
  refine ⟨w.heap.size + 2, w.heap.size, w.heap.size + 1, rfl, ⟨e2, ⟨#[], 0, e0, Go.MapKept.stamped_empty 0, rfl⟩, ⟨#[], 0, e1, Go.MapKept.stamped_empty 0, rfl⟩, by omega, by omega⟩, ?_, by omega, by omega, by omega⟩
  exact grown_none (grown_none (World.grownBy_alloc _ _ _) (World.grownBy_alloc _ _ _)) (World.grownBy_alloc _ _ _)

theorem st_flat (s : St) : s.val = .agg #[.int .i64 s.g, .bool s.waits, .bool s.ready] := rfl
abbrev boxS (w : World) (s : St) : World := w.alloc (.cells #[.int .i64 s.g, .bool s.waits, .bool s.ready] TS)
set_option maxRecDepth 100000 in
set_option maxHeartbeats 1000000 in
theorem wait_arg (h : IsPl w base pb fb wb F G) (fd g : Int) (hg : g < 0 ∨ 4096 ≤ g) : Calls Try.prog 9 #[.pointer (some ⟨pb, 0, none⟩), .int .u16 fd, .int .i64 g] w fun e w' => e = .returned (.int .i64 1) ∧ w.grownBy w' none := by
  have c0 := h.c0
  have HM := Lib.hid h.fds
  have HL := Lib.hid (look_st F fd)
  generalize stOf F fd = s at *
  obtain ⟨sg, sw, sr⟩ := s
  clear h
  rcases hg with hg | hg
  · go_enter Try.func9, Try.ntmps9
    go_wp2_with (at_lookup; refine MapU.wpList_look rfl _ _ 58 27 TS rfl Try.underlying58 Try.underlying27 HM.out rfl fd rfl (zeroS _) (St.val ⟨sg, sw, sr⟩) HL.out ?_; unfold St.val)
    refine bodyPost_ret (results_tmp rfl _ _ _) rfl ?_
    exact ⟨rfl, World.grownBy_alloc _ _ _⟩
  · have hg0 : ¬ g < 0 := by omega
    go_enter Try.func9, Try.ntmps9
    go_wp2_with (at_lookup; refine MapU.wpList_look rfl _ _ 58 27 TS rfl Try.underlying58 Try.underlying27 HM.out rfl fd rfl (zeroS _) (St.val ⟨sg, sw, sr⟩) HL.out ?_; unfold St.val)
    refine bodyPost_ret (results_tmp rfl _ _ _) rfl ?_
    exact ⟨rfl, World.grownBy_alloc _ _ _⟩
set_option maxRecDepth 100000 in
set_option maxHeartbeats 1000000 in
theorem wait_same (h : IsPl w base pb fb wb F G) (fd g : Int) (hg0 : 0 ≤ g) (hg1 : g < 4096) (hs : (stOf F fd).waits = true ∨ (alook G g).isSome = true) : Calls Try.prog 9 #[.pointer (some ⟨pb, 0, none⟩), .int .u16 fd, .int .i64 g] w fun e w' => e = .returned (.int .i64 8) ∧ w.grownBy w' none := by
  have c0 := h.c0
  have H := Lib.hid h
  have HM := Lib.hid h.fds
  have HL := Lib.hid (look_st F fd)
  have hlt := h.lt.1
  generalize stOf F fd = s at *
  obtain ⟨sg, sw, sr⟩ := s
  have n0 : ¬ g < 0 := by omega
  have n1 : ¬ 4096 ≤ g := by omega
  have HA := Lib.hid (h.grown (World.grownBy_alloc w (.cells #[.int .i64 sg, .bool sw, .bool sr] TS) none))
  clear h
  cases sw with
  | true =>
    clear hs
    go_enter Try.func9, Try.ntmps9
    go_wp2_with (at_lookup; refine MapU.wpList_look rfl _ _ 58 27 TS rfl Try.underlying58 Try.underlying27 HM.out rfl fd rfl (zeroS _) (St.val ⟨sg, true, sr⟩) HL.out ?_; unfold St.val)
    refine bodyPost_ret (results_tmp rfl _ _ _) rfl ?_
    exact ⟨rfl, World.grownBy_alloc _ _ _⟩
  | false =>
    have hq : (alook G g).isSome = true := by rcases hs with h | h; (cases h); exact h
    have HQ := Lib.hid hq
    clear hs hq
    go_enter Try.func9, Try.ntmps9
    go_wp2_with (at_lookup; refine MapU.wpList_look rfl _ _ 58 27 TS rfl Try.underlying58 Try.underlying27 HM.out rfl fd rfl (zeroS _) (St.val ⟨sg, false, sr⟩) HL.out ?_; unfold St.val)
    refine (phas_is HA.out g).mono ?_
    rintro e w1 ⟨rfl, rfl⟩
    rw [HQ.out]
    go_wp2_with fail
    refine bodyPost_ret (results_tmp rfl _ _ _) rfl ?_
    exact ⟨rfl, World.grownBy_alloc _ _ _⟩
end
end Go.Proofs.Ytefpbfdbpckcmaa.Pl
