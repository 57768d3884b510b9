import Derived.Test.YtlhblhgbpaipaaaGreatMgHeap
import Derived.Lib.SliceRun
import Derived.Laws.CopyRow
import Derived.Shelf.Abstract
import Derived.OwnWalk
import Derived.Lib.Hide
/- HeapTake -/
namespace Go.Proofs.YtlhblhgbpaipaaaGreat.Hp
open Go.RowKit
set_option linter.unusedVariables false

set_option maxHeartbeats 1000000 in
theorem first_none {w : World} {base b i : Nat} {v : Value} (h : IsHp w base b i v []) :
    Calls Tryz.prog 58 #[.pointer (some ⟨b, i, none⟩)] w fun e w' => e = .returned (.tuple #[(Ent.mk 0 0 0).agg, .bool false]) ∧ w.grownBy w' none := by
  obtain ⟨a, cap, rfl⟩ := h.len
  have hc := h.cell
  have hlt := h.lt
  simp only [List.length_nil] at hc
  clear h
  go_enter Tryz.func58, Tryz.ntmps58
  go_wp2
  exact bodyPost_ret (v := .tuple #[.agg #[.int .i64 0, .int .u64 0, .int .i64 0], .bool false]) (by simp [results, Tryz.results58, go_sem]) rfl ⟨rfl, World.grownBy_alloc _ _ _⟩

theorem IsHp.head {w : World} {base b i : Nat} {v : Value} {e : Ent} {es : List Ent} (h : IsHp w base b i v (e :: es)) : ∃ g cap, v = .slice (some ⟨g, 0, none⟩) (es.length + 1) cap ∧ Row3 w g cap (e :: es) ∧ g ≠ b ∧ base ≤ g := by
  rcases h.row with ⟨_, h1⟩ | h1
  · cases h1
  · exact h1

set_option maxHeartbeats 1000000 in
theorem first_some {w : World} {base b i : Nat} {v : Value} {e : Ent} {es : List Ent} (h : IsHp w base b i v (e :: es)) (hbig : es.length ≤ 1000000) :
    Calls Tryz.prog 58 #[.pointer (some ⟨b, i, none⟩)] w fun x w' => x = .returned (.tuple #[e.agg, .bool true]) ∧ w.grownBy w' none := by
  obtain ⟨g, cap, rfl, hr, hgb, hb⟩ := h.head
  have hc := h.cell
  have hlt := h.lt
  have hglt := hr.lt
  obtain ⟨c0, c1, c2⟩ := hr.cells (i := 0) (e := e) rfl
  simp only [Nat.zero_mul, Nat.zero_add] at c0 c1 c2
  have hn0 : ((es.length : Int) + 1 == 0) = false := by rw [beq_eq_false_iff_ne]; omega
  have hn1 : (es.length + 1 == 0) = false := by simp
  clear h hr
  go_enter Tryz.func58, Tryz.ntmps58
  go_wp2
  exact bodyPost_ret (v := .tuple #[e.agg, .bool true]) (by simp [results, Tryz.results58, go_sem]) rfl ⟨rfl, World.grownBy_alloc _ _ _⟩

theorem grown_cells {w w' : World} (h : w.grownBy w' none) : (∀ b o, b < w.heap.size → w'.cell? ⟨b, o, none⟩ = w.cell? ⟨b, o, none⟩) ∧ (∀ b o, b < w.heap.size → w'.frozen? ⟨b, o, none⟩ = w.frozen? ⟨b, o, none⟩) :=
  ⟨fun b o hb => World.cell?_of_block (a := ⟨b, o, none⟩) (h.block b hb (by simp)), fun b o hb => World.frozen?_of_block (a := ⟨b, o, none⟩) (h.block b hb (by simp))⟩

/-- An entry and a bool, the entry out of its variable. -/
theorem results_ent {fn : Func} {p q : Tmp} (h : fn.results = #[.cell p 90, .tmp q]) (tmps : Array Value) (w : World) (B : Nat) (e : Ent) (x : Bool) (hB : w.heap[B]? = some (.cells e.cells 90 (0, 0)))
    (hp : tmps.getD p undef = .pointer (some ⟨B, 0, none⟩)) (hq : tmps.getD q undef = .bool x) : (results fn tmps).run Tryz.prog w = .ok (.tuple #[e.agg, .bool x]) w := by
  have c0 : w.cell? ⟨B, 0, none⟩ = some (.int .i64 e.w) := cell_of_row _ _ 0 _ _ _ hB
  have c1 : w.cell? ⟨B, 1, none⟩ = some (.int .u64 e.o) := cell_of_row _ _ 1 _ _ _ hB
  have c2 : w.cell? ⟨B, 2, none⟩ = some (.int .i64 e.g) := cell_of_row _ _ 2 _ _ _ hB
  have hp' : tmps[p]?.getD undef = .pointer (some ⟨B, 0, none⟩) := by simpa using hp
  have hq' : tmps[q]?.getD undef = .bool x := by simpa using hq
  clear hB hp hq
  simp [results, h, hp', hq', asAddr, go_sem, c0, c1, c2]
/-- An entry stored into a variable. -/
theorem box_set {w : World} {B : Nat} {a b c : Value} (h : w.heap[B]? = some (.cells #[a, b, c] 90 (0, 0))) (e : Ent) :
    (((w.setCell ⟨B, 0, none⟩ (.int .i64 e.w)).setCell ⟨B, 1, none⟩ (.int .u64 e.o)).setCell ⟨B, 2, none⟩ (.int .i64 e.g)).heap[B]? = some (.cells e.cells 90 (0, 0)) :=
  heap_setCell_same _ B 2 _ _ _ (heap_setCell_same _ B 1 _ _ _ (heap_setCell_same _ B 0 _ _ _ h))
theorem box_other {w : World} {B k i j l : Nat} {a b c : Value} (h : k ≠ B) : (((w.setCell ⟨B, i, none⟩ a).setCell ⟨B, j, none⟩ b).setCell ⟨B, l, none⟩ c).heap[k]? = w.heap[k]? :=
  (heap_setCell_other _ _ _ _ h).trans ((heap_setCell_other _ _ _ _ h).trans (heap_setCell_other _ _ _ _ h))
theorem box_size {w : World} {B i j l : Nat} {a b c : Value} : (((w.setCell ⟨B, i, none⟩ a).setCell ⟨B, j, none⟩ b).setCell ⟨B, l, none⟩ c).heap.size = w.heap.size := by simp

set_option maxRecDepth 100000 in
set_option maxHeartbeats 1000000 in
theorem take_none {w : World} {base b i : Nat} {v : Value} (h : IsHp w base b i v []) :
    Calls Tryz.prog 62 #[.pointer (some ⟨b, i, none⟩)] w fun e w' => e = .returned (.tuple #[(Ent.mk 0 0 0).agg, .bool false]) ∧ w.grownBy w' none := by
  have H := Lib.hid h
  clear h
  go_enter Tryz.func62, Tryz.ntmps62
  go_wp2_with fail
  refine (first_none (H.out.grown (World.grownBy_alloc _ _ _))).mono ?_
  rintro e w1 ⟨rfl, hg⟩
  obtain ⟨hc, hf⟩ := grown_cells hg
  have hz : w.heap.size < w1.heap.size := by have := hg.size; simp at this; omega
  have hb2 := hg.block w.heap.size (by simp) (by simp)
  rw [heap_alloc_new] at hb2
  have HG := Lib.hid hg
  have HB2 := Lib.hid hb2
  clear hg hb2
  go_wp2_with fail
  refine bodyPost_ret (results_ent rfl _ _ w.heap.size ⟨0, 0, 0⟩ false ((heap_alloc_old _ _ (by simp; exact hz)).trans (box_set HB2.out ⟨0, 0, 0⟩)) rfl rfl) rfl ⟨rfl, HG.out.os, HG.out.tape, HG.out.output, by simp; omega, fun k hk _ => ?_⟩
  exact (heap_alloc_old _ _ (by simp; omega)).trans ((box_other (by omega)).trans ((HG.out.block k (by simp; omega) (by simp)).trans (heap_alloc_old _ _ hk)))

theorem run_cut_e (a : Option Addr) (len cap : Nat) (k : IntKind) (l : Int) (n : Nat) (e : l = n) (h1 : n ≤ cap) (w : World) :
    (Instr.slice 124 (.slice a len cap) none (some (.int k l)) none).run Tryz.prog w = .ok (.slice a n cap) w := by
  subst e
  obtain ⟨i0, hi, hz0, hz1, hz2⟩ := info_parts infoEnt
  have this : Program.elem Tryz.prog 124 = 90 := by kernel_rfl
  rw [run_slice_h (a := a) (len := len) (cap := cap) (ht := by rw [this]; exact Tryz.underlying124) (kh := k) (h := n) (h0 := by omega) (h2 := by omega)]
  cases a <;> simp [sliced, sizeOf, typeInfo, this, hi, hz1, Addr.add]

theorem downL_len (es : List Ent) : ∀ (d i : Nat), es.length - i = d → (downL es i).length = es.length := by
  intro d
  induction d using Nat.strongRecOn generalizing es with
  | _ d ih =>
    intro i hd
    rw [downL]
    split
    · rename_i h
      have := leastL_in h
      split
      · rw [ih _ (by subst hd; rw [swp_len]; omega) _ _ rfl, swp_len]
      · rfl
    · rfl

theorem down_r (w : World) (b i g cap : Nat) (es : List Ent) (r : Row3 w g cap es) (n : Nat) (hn : n = es.length) (hc : w.cell? ⟨b, i, none⟩ = some (.slice (some ⟨g, 0, none⟩) n cap)) (hgb : b ≠ g) (hbig : n ≤ 1000000) (j : Nat) (hj : j ≤ n) (x : Int) (hx : x = j) :
    Calls Tryz.prog 74 #[.pointer (some ⟨b, i, none⟩), .int .i64 x] w fun e w' => e = .returned (.tuple #[]) ∧ Row3 w' g cap (downL es j) ∧ w.grownBy w' (some g) := by
  subst hx hn; exact down_is w b i g cap es r hc hgb hbig j hj

/-- What is left behind Take. -/
def takeL (es : List Ent) : List Ent := downL ((es.set 0 es[es.length - 1]!).take (es.length - 1)) 0

set_option maxRecDepth 100000 in
set_option maxHeartbeats 2000000 in
theorem take_some {w : World} {base b i : Nat} {v : Value} {e : Ent} {es : List Ent} (h : IsHp w base b i v (e :: es)) (hbig : es.length ≤ 1000000) :
    Calls Tryz.prog 62 #[.pointer (some ⟨b, i, none⟩)] w fun x w' => ∃ v', x = .returned (.tuple #[e.agg, .bool true]) ∧ IsHp w' base b i v' (takeL (e :: es)) ∧ HFr w w' b i v v' := by
  have H := Lib.hid h
  obtain ⟨g, cap, rfl, hr, hgb, hb⟩ := h.head
  have hglt := hr.lt
  have hblt := h.lt
  have hcap := hr.le
  obtain ⟨n, hn⟩ : ∃ n, n = es.length := ⟨_, rfl⟩
  have hcut : ∀ W, (Instr.slice 124 (.slice (some ⟨g, 0, none⟩) (n + 1) cap) none (some (.int .i64 n)) none).run Tryz.prog W = .ok (.slice (some ⟨g, 0, none⟩) n cap) W := fun W => run_cut_e _ _ cap _ _ n rfl (by simp at hcap; omega) W
  have hsub : IntKind.i64.wrap ((n : Int) + 1 - 1) = (n : Int) := by rw [IntKind.wrap_i64]; omega
  rw [← hn] at hbig H ⊢
  have HN := Lib.hid hn
  have HR0 := Lib.hid hr
  clear h hr hn hcap
  go_enter Tryz.func62, Tryz.ntmps62
  go_wp2_with fail
  refine (first_some (H.out.grown (World.grownBy_alloc _ _ _)) (by rw [← HN.out]; exact hbig)).mono ?_
  rintro x w1 ⟨rfl, hg⟩
  have hz : w.heap.size < w1.heap.size := by have := hg.size; simp at this; omega
  have hb2 := hg.block w.heap.size (by simp) (by simp)
  rw [heap_alloc_new] at hb2
  have HG : Hid (w.grownBy w1 none) := Lib.hid ⟨hg.os, hg.tape, hg.output, by omega, fun k hk _ => (hg.block k (by simp; omega) (by simp)).trans (heap_alloc_old _ _ hk)⟩
  have HP := Lib.hid (H.out.grown HG.out)
  have HB2 := Lib.hid hb2
  clear hg hb2
  have hcw1 := HP.out.cell
  have hbw1 := HP.out.lt
  have hgw1 : g < w1.heap.size := (HP.out.ownlt g rfl).1
  go_wp2_with fail
  have HGW : Hid (w1.grownBy (w1.alloc (.cells #[.int .i64 e.w, .int .u64 e.o, .int .i64 e.g] 90)) none) := Lib.hid (World.grownBy_alloc _ _ _)
  have HY : Hid ((w1.alloc (.cells #[.int .i64 e.w, .int .u64 e.o, .int .i64 e.g] 90)).heap[w1.heap.size]? = some (.cells e.cells 90 (0, 0))) := Lib.hid (heap_alloc_new _ _)
  have HX : Hid ((w1.alloc (.cells #[.int .i64 e.w, .int .u64 e.o, .int .i64 e.g] 90)).heap[w.heap.size]? = some (.cells #[.int .i64 0, .int .u64 0, .int .i64 0] 90 (0, 0))) := Lib.hid ((heap_alloc_old _ _ hz).trans HB2.out)
  have hsz : (w1.alloc (.cells #[.int .i64 e.w, .int .u64 e.o, .int .i64 e.g] 90)).heap.size = w1.heap.size + 1 := by simp
  clear hcw1
  generalize (w1.alloc (.cells #[.int .i64 e.w, .int .u64 e.o, .int .i64 e.g] 90)) = W at *
  have HPW := Lib.hid (HP.out.grown HGW.out)
  have hr : Row3 W g cap (e :: es) := HR0.out.heap ((HGW.out.block g hgw1 (by simp)).trans (HG.out.block g hglt (by simp)))
  obtain ⟨x, hx⟩ : ∃ x, (e :: es)[n]! = x := ⟨_, rfl⟩
  have ex : (e :: es)[n]? = some x := by rw [← hx]; exact bang (by simp [HN.out])
  obtain ⟨x0, x1, x2⟩ := hr.cells ex
  obtain ⟨c0, c1, c2⟩ := hr.cells (i := 0) (e := e) rfl
  simp only [Nat.zero_mul, Nat.zero_add] at c0 c1 c2
  have hc := HPW.out.cell
  have hfr := hr.free
  have HR := Lib.hid hr
  have HXX := Lib.hid hx
  have HSZ := Lib.hid hsz
  clear hr hx ex hsz
  go_wp2_with fail
  go_region
  have hr1 : Row3 (((W.setCell ⟨g, 0, none⟩ (.int .i64 x.w)).setCell ⟨g, 1, none⟩ (.int .u64 x.o)).setCell ⟨g, 2, none⟩ (.int .i64 x.g)).drew g cap ((e :: es).set 0 x) := by
    have := HR.out.set (i := 0) (by simp) x
    simp only [Nat.zero_mul, Nat.zero_add] at this
    exact this.drew
  have hd1 : W.grownBy (((W.setCell ⟨g, 0, none⟩ (.int .i64 x.w)).setCell ⟨g, 1, none⟩ (.int .u64 x.o)).setCell ⟨g, 2, none⟩ (.int .i64 x.g)).drew (some g) :=
    grown_drew3 (grown_set3 (grown_set3 (grown_set3 (World.grownBy.refl _ _) _ _) _ _) _ _)
  have HR1 := Lib.hid hr1
  have HD1 := Lib.hid hd1
  clear hr1 hd1 x0 x1 x2 c0 c1 c2 hfr hc
  generalize (((W.setCell ⟨g, 0, none⟩ (.int .i64 x.w)).setCell ⟨g, 1, none⟩ (.int .u64 x.o)).setCell ⟨g, 2, none⟩ (.int .i64 x.g)).drew = V at *
  have hbW : b < W.heap.size := by rw [HSZ.out]; omega
  have hVb : V.heap[b]? = W.heap[b]? := HD1.out.block b hbW (fun e => hgb (Option.some.inj e).symm)
  have hc : V.cell? ⟨b, i, none⟩ = some (.slice (some ⟨g, 0, none⟩) (n + 1) cap) := (World.cell?_of_block (a := ⟨b, i, none⟩) hVb).trans HPW.out.cell
  have hf : V.frozen? ⟨b, i, none⟩ = false := (World.frozen?_of_block (a := ⟨b, i, none⟩) hVb).trans HPW.out.free
  have HVB := Lib.hid hVb
  have HCV := Lib.hid (And.intro hc hf)
  clear hVb
  go_wp2_with fail
  have hr2 : Row3 (V.setCell ⟨b, i, none⟩ (.slice (some ⟨g, 0, none⟩) n cap)) g cap (((e :: es).set 0 x).take n) := (HR1.out.take n (by simp [HN.out])).heap (heap_setCell_other _ _ _ _ hgb)
  refine (down_r _ b i g cap _ hr2 n (by simp [HN.out]) (World.cell?_setCell_same _ _ _ hc) (fun e => hgb e.symm) hbig 0 (Nat.zero_le _) _ rfl).mono ?_
  rintro y w3 ⟨rfl, hr3, hg3⟩
  have he3 : downL (((e :: es).set 0 x).take n) 0 = takeL (e :: es) := by
    unfold takeL
    rw [show (e :: es).length - 1 = n by simp [HN.out], HXX.out]
  rw [he3] at hr3
  have hsV := HD1.out.size
  have hs3 := hg3.size
  simp only [World.size_setCell] at hs3
  have hkeep : ∀ k, k ≠ g → k ≠ b → k < W.heap.size → w3.heap[k]? = W.heap[k]? := fun k h1 h2 h3 =>
    (hg3.block k (by simp; omega) (fun e => h1 (Option.some.inj e))).trans ((heap_setCell_other _ _ _ _ h2).trans (HD1.out.block k h3 (fun e => h1 (Option.some.inj e))))
  have hb3 : w3.heap[b]? = (V.setCell ⟨b, i, none⟩ (.slice (some ⟨g, 0, none⟩) n cap)).heap[b]? := hg3.block b (by simp; omega) (fun e => hgb (Option.some.inj e).symm)
  have hX3 := (hkeep w.heap.size (by omega) (by omega) (by rw [HSZ.out]; omega)).trans HX.out
  have hY3 := (hkeep w1.heap.size (by omega) (by omega) (by rw [HSZ.out]; omega)).trans HY.out
  have y0 : w3.cell? ⟨w1.heap.size, 0, none⟩ = some (.int .i64 e.w) := cell_of_row _ _ 0 _ _ _ hY3
  have y1 : w3.cell? ⟨w1.heap.size, 1, none⟩ = some (.int .u64 e.o) := cell_of_row _ _ 1 _ _ _ hY3
  have y2 : w3.cell? ⟨w1.heap.size, 2, none⟩ = some (.int .i64 e.g) := cell_of_row _ _ 2 _ _ _ hY3
  have z0 : w3.cell? ⟨w.heap.size, 0, none⟩ = some (.int .i64 0) := cell_of_row _ _ 0 _ _ _ hX3
  have z1 : w3.cell? ⟨w.heap.size, 1, none⟩ = some (.int .u64 0) := cell_of_row _ _ 1 _ _ _ hX3
  have z2 : w3.cell? ⟨w.heap.size, 2, none⟩ = some (.int .i64 0) := cell_of_row _ _ 2 _ _ _ hX3
  have fz : ∀ o, w3.frozen? ⟨w.heap.size, o, none⟩ = false := fun o => frozen_of_row _ _ o _ _ hX3
  have HX3 := Lib.hid hX3
  have HR3 := Lib.hid hr3
  have HE := Lib.hid (And.intro (And.intro hg3.os (And.intro hg3.tape hg3.output)) (And.intro (show w.heap.size ≤ w3.heap.size from by rw [HSZ.out] at hsV; omega) (And.intro hkeep hb3)))
  clear hr2 hr3 hg3 he3 hsV hs3 hkeep hb3 hX3 hY3 hc hf
  go_wp2_with fail
  refine bodyPost_ret (results_ent rfl _ _ w.heap.size e true (box_set HX3.out e) rfl rfl) rfl ⟨.slice (some ⟨g, 0, none⟩) n cap, rfl, ?_, ?_⟩
  · have hbB : ((((w3.setCell ⟨w.heap.size, 0, none⟩ (.int .i64 e.w)).setCell ⟨w.heap.size, 1, none⟩ (.int .u64 e.o)).setCell ⟨w.heap.size, 2, none⟩ (.int .i64 e.g))).heap[b]? = (V.setCell ⟨b, i, none⟩ (.slice (some ⟨g, 0, none⟩) n cap)).heap[b]? := (box_other (by omega)).trans HE.out.2.2.2
    refine ⟨(World.cell?_of_block (a := ⟨b, i, none⟩) hbB).trans (World.cell?_setCell_same _ _ _ HCV.out.1), (World.frozen?_of_block (a := ⟨b, i, none⟩) hbB).trans (by rw [World.frozen?_setCell]; exact HCV.out.2), .inr ⟨g, cap, ?_, HR3.out.heap (box_other (by omega)), hgb, hb⟩⟩
    unfold takeL; rw [downL_len _ _ _ rfl]; simp [HN.out]
  · refine ⟨HE.out.1.1.trans (HD1.out.os.trans (HGW.out.os.trans HG.out.os)), HE.out.1.2.1.trans (HD1.out.tape.trans (HGW.out.tape.trans HG.out.tape)), HE.out.1.2.2.trans (HD1.out.output.trans (HGW.out.output.trans HG.out.output)), by rw [box_size]; exact HE.out.2.1, fun k hk hkb hkv => ?_, ?_, .inl rfl⟩
    · have hkg : k ≠ g := fun e => hkv (by rw [e]; rfl)
      exact (box_other (by omega)).trans ((HE.out.2.2.1 k hkg hkb (by rw [HSZ.out]; omega)).trans ((HGW.out.block k (by omega) (by simp)).trans (HG.out.block k hk (by simp))))
    · exact (box_other (by omega)).trans (HE.out.2.2.2.trans (setCell_congr _ (HVB.out.trans ((HGW.out.block b hbw1 (by simp)).trans (HG.out.block b hblt (by simp))))))
end Go.Proofs.YtlhblhgbpaipaaaGreat.Hp

/- HeapLaw -/
namespace Go.Proofs.YtlhblhgbpaipaaaGreat.Hp
set_option linter.unusedVariables false

/-- One does not stand behind another one. -/
def le (a b : Ent) : Prop := aheadB b a = false
theorem le_iff (a b : Ent) : le a b ↔ a.w < b.w ∨ a.w = b.w ∧ (a.o < b.o ∨ a.o = b.o ∧ a.g ≤ b.g) := by
  unfold le aheadB; rw [decide_eq_false_iff_not]; omega
theorem le_refl (a : Ent) : le a a := by rw [le_iff]; omega
theorem le_trans {a b c : Ent} (h : le a b) (k : le b c) : le a c := by rw [le_iff] at *; omega
theorem le_of_ahead {a b : Ent} (h : aheadB a b = true) : le a b := by rw [le_iff]; unfold aheadB at h; rw [decide_eq_true_eq] at h; omega
theorem le_anti {a b : Ent} (h : le a b) (k : le b a) : a = b := by
  rw [le_iff] at h k
  cases a; cases b; simp at *; omega
theorem le_total (a b : Ent) : le a b ∨ le b a := by rw [le_iff, le_iff]; omega

theorem swp_get {es : List Ent} {i j : Nat} (hi : i < es.length) (hj : j < es.length) (k : Nat) : (swp es i j)[k]! = if k = j then es[i]! else if k = i then es[j]! else es[k]! := by
  unfold swp
  simp only [List.getElem!_eq_getElem?_getD]
  by_cases h1 : k = j
  · subst h1
    rw [List.getElem?_set_self (by simpa using hj), if_pos rfl]; rfl
  · rw [List.getElem?_set_ne (Ne.symm h1), if_neg h1]
    by_cases h2 : k = i
    · subst h2
      rw [List.getElem?_set_self hi, if_pos rfl]; rfl
    · rw [List.getElem?_set_ne (Ne.symm h2), if_neg h2]

theorem perm_set {α : Type} [DecidableEq α] (l : List α) (i : Nat) (h : i < l.length) (x : α) : (l[i] :: l.set i x).Perm (x :: l) := by
  induction l generalizing i with
  | nil => simp at h
  | cons y t ih =>
    cases i with
    | zero => exact List.Perm.swap _ _ _
    | succ i =>
      simp at h
      simp only [List.getElem_cons_succ, List.set_cons_succ]
      refine (List.Perm.swap _ _ _).trans (((ih i h).cons y).trans (List.Perm.swap _ _ _))
theorem swp_perm {es : List Ent} {i j : Nat} (hi : i < es.length) (hj : j < es.length) : (swp es i j).Perm es := by
  unfold swp
  have h1 := perm_set es i hi es[j]!
  have h2 := perm_set (es.set i es[j]!) j (by simpa using hj) es[i]!
  have e1 : es[i]! = es[i] := by simp [hi]
  have e2 : es[j]! = es[j] := by simp [hj]
  by_cases hij : i = j
  · subst hij
    rw [e1]
    simp
  · have e3 : (es.set i es[j]!)[j]'(by simpa using hj) = es[j] := by rw [List.getElem_set_ne hij]
    rw [e3] at h2
    rw [e1] at h2 ⊢
    rw [e2] at h1 h2 ⊢
    have h3 := h2.trans h1
    exact (List.perm_cons _).1 h3

/-- None under a place stands ahead of the one at it. -/
def Heapish (es : List Ent) : Prop := ∀ j, 0 < j → j < es.length → le es[(j - 1) / 4]! es[j]!

theorem upL_law (i : Nat) : ∀ (es : List Ent), i < es.length → (∀ j, 0 < j → j < es.length → j ≠ i → le es[(j - 1) / 4]! es[j]!) → (∀ j, 0 < j → j < es.length → (j - 1) / 4 = i → 0 < i → le es[(i - 1) / 4]! es[j]!) →
    (upL es i).Perm es ∧ Heapish (upL es i) := by
  induction i using Nat.strongRecOn with
  | _ i ih =>
    intro es hi h1 h2
    by_cases h0 : 0 < i
    · by_cases ha : aheadB es[i]! es[(i - 1) / 4]! = true
      · rw [upL_step h0 rfl ha]
        have hp : (i - 1) / 4 < es.length := by omega
        have hpi : (i - 1) / 4 < i := by omega
        obtain ⟨p, hpe⟩ : ∃ p, p = (i - 1) / 4 := ⟨_, rfl⟩
        rw [← hpe] at ha hp hpi ⊢
        have hlt := le_of_ahead ha
        have hA : ∀ j, 0 < j → j < (swp es i p).length → j ≠ p → le (swp es i p)[(j - 1) / 4]! (swp es i p)[j]! := fun j hj hjn hjp => by
          rw [swp_len] at hjn
          rw [swp_get hi hp, swp_get hi hp]
          by_cases hji : j = i
          · subst hji
            rw [← hpe]
            simpa [Nat.ne_of_gt hpi] using hlt
          · rw [if_neg hjp, if_neg hji]
            by_cases hq : (j - 1) / 4 = p
            · rw [if_pos hq]
              exact le_trans hlt (by have := h1 j hj hjn hji; rwa [hq] at this)
            · rw [if_neg hq]
              by_cases hqi : (j - 1) / 4 = i
              · rw [if_pos hqi, hpe]; exact h2 j hj hjn hqi h0
              · rw [if_neg hqi]; exact h1 j hj hjn hji
        have hB : ∀ j, 0 < j → j < (swp es i p).length → (j - 1) / 4 = p → 0 < p → le (swp es i p)[(p - 1) / 4]! (swp es i p)[j]! := fun j hj hjn hjq hp0 => by
          rw [swp_len] at hjn
          rw [swp_get hi hp, swp_get hi hp]
          have hpp : le es[(p - 1) / 4]! es[p]! := h1 p hp0 hp (by omega)
          rw [if_neg (show (p - 1) / 4 ≠ p by omega), if_neg (show (p - 1) / 4 ≠ i by omega), if_neg (show j ≠ p by omega)]
          by_cases hji : j = i
          · rw [if_pos hji]; exact hpp
          · rw [if_neg hji]
            exact le_trans hpp (by have := h1 j hj hjn hji; rwa [hjq] at this)
        obtain ⟨r1, r2⟩ := ih p hpi (swp es i p) (by rw [swp_len]; exact hp) hA hB
        exact ⟨r1.trans (swp_perm hi hp), r2⟩
      · have ha' : aheadB es[i]! es[(i - 1) / 4]! = false := by simpa using ha
        rw [upL_stop (fun _ => ha')]
        refine ⟨List.Perm.refl _, fun j hj hjn => ?_⟩
        by_cases hji : j = i
        · subst hji; exact ha'
        · exact h1 j hj hjn hji
    · rw [upL_stop (fun h => absurd h h0)]
      refine ⟨List.Perm.refl _, fun j hj hjn => h1 j hj hjn (by omega)⟩

theorem get_app {es : List Ent} {e : Ent} {j : Nat} (h : j < es.length) : (es ++ [e])[j]! = es[j]! := by
  simp [h, List.getElem?_append_left]

/-- Put: one more, and a heap. -/
theorem put_law {es : List Ent} (h : Heapish es) (e : Ent) : (upL (es ++ [e]) es.length).Perm (e :: es) ∧ Heapish (upL (es ++ [e]) es.length) := by
  have hA : ∀ j, 0 < j → j < (es ++ [e]).length → j ≠ es.length → le (es ++ [e])[(j - 1) / 4]! (es ++ [e])[j]! := fun j hj hjn hne => by
    simp at hjn
    rw [get_app (by omega), get_app (by omega)]
    exact h j hj (by omega)
  have hB : ∀ j, 0 < j → j < (es ++ [e]).length → (j - 1) / 4 = es.length → 0 < es.length → le (es ++ [e])[(es.length - 1) / 4]! (es ++ [e])[j]! := fun j hj hjn hq h0 => by
    simp at hjn; omega
  obtain ⟨r1, r2⟩ := upL_law es.length (es ++ [e]) (by simp) hA hB
  exact ⟨r1.trans (List.perm_append_singleton e es), r2⟩

theorem leastFrom_law (es : List Ent) (d : Nat) : ∀ k stop best, stop - k = d → (leastFrom es k stop best = best ∨ k ≤ leastFrom es k stop best ∧ leastFrom es k stop best < stop) ∧ le es[leastFrom es k stop best]! es[best]! ∧ ∀ j, k ≤ j → j < stop → le es[leastFrom es k stop best]! es[j]! := by
  induction d with
  | zero =>
    intro k stop best hd
    rw [leastFrom_stop (by omega)]
    exact ⟨.inl rfl, le_refl _, fun j h1 h2 => by omega⟩
  | succ d ih =>
    intro k stop best hd
    rw [leastFrom_step (by omega)]
    split
    · rename_i ha
      obtain ⟨a, b, c⟩ := ih (k + 1) stop k (by omega)
      refine ⟨.inr ?_, le_trans b (le_of_ahead ha), fun j h1 h2 => ?_⟩
      · rcases a with a | a <;> omega
      · by_cases hj : j = k
        · subst hj; exact b
        · exact c j (by omega) h2
    · rename_i ha
      have ha' : le es[best]! es[k]! := by unfold le; simpa using ha
      obtain ⟨a, b, c⟩ := ih (k + 1) stop best (by omega)
      refine ⟨?_, b, fun j h1 h2 => ?_⟩
      · rcases a with a | a
        · exact .inl a
        · exact .inr (by omega)
      · by_cases hj : j = k
        · subst hj; exact le_trans b ha'
        · exact c j (by omega) h2

theorem leastL_law {es : List Ent} {i : Nat} (h : 4 * i + 1 < es.length) : (leastL es i - 1) / 4 = i ∧ 0 < leastL es i ∧ leastL es i < es.length ∧ ∀ j, 0 < j → j < es.length → (j - 1) / 4 = i → le es[leastL es i]! es[j]! := by
  have hin := leastL_in h
  obtain ⟨a, b, c⟩ := leastFrom_law es _ (4 * i + 1) (min (4 * i + 5) es.length) (4 * i + 1) rfl
  have hr : leastL es i < 4 * i + 5 := by
    rcases a with a | a
    · unfold leastL; omega
    · unfold leastL; omega
  refine ⟨by omega, by omega, hin.2, fun j hj hjn hq => c j (by omega) (by omega)⟩

theorem downL_law (d : Nat) : ∀ (es : List Ent) (i : Nat), es.length - i = d → (∀ j, 0 < j → j < es.length → (j - 1) / 4 ≠ i → le es[(j - 1) / 4]! es[j]!) → (∀ j, 0 < j → j < es.length → (j - 1) / 4 = i → 0 < i → le es[(i - 1) / 4]! es[j]!) →
    (downL es i).Perm es ∧ Heapish (downL es i) := by
  induction d using Nat.strongRecOn with
  | _ d ih =>
    intro es i hd h1 h2
    by_cases hc : 4 * i + 1 < es.length
    · obtain ⟨k1, k2, k3, k4⟩ := leastL_law hc
      obtain ⟨k, hk⟩ : ∃ k, k = leastL es i := ⟨_, rfl⟩
      by_cases ha : aheadB es[leastL es i]! es[i]! = true
      · rw [downL_step hc ha]
        rw [← hk] at k1 k2 k3 k4 ha ⊢
        have hi : i < es.length := by omega
        have hlt := le_of_ahead ha
        have hA : ∀ j, 0 < j → j < (swp es i k).length → (j - 1) / 4 ≠ k → le (swp es i k)[(j - 1) / 4]! (swp es i k)[j]! := fun j hj hjn hq => by
          rw [swp_len] at hjn
          rw [swp_get hi k3, swp_get hi k3, if_neg hq]
          by_cases hqi : (j - 1) / 4 = i
          · rw [if_pos hqi]
            by_cases hjk : j = k
            · rw [if_pos hjk]; exact hlt
            · rw [if_neg hjk, if_neg (by omega)]; exact k4 j hj hjn hqi
          · rw [if_neg hqi, if_neg (show j ≠ k by rintro rfl; exact hqi k1)]
            by_cases hji : j = i
            · rw [if_pos hji]
              subst hji
              exact h2 k k2 k3 k1 hj
            · rw [if_neg hji]; exact h1 j hj hjn hqi
        have hB : ∀ j, 0 < j → j < (swp es i k).length → (j - 1) / 4 = k → 0 < k → le (swp es i k)[(k - 1) / 4]! (swp es i k)[j]! := fun j hj hjn hq h0 => by
          rw [swp_len] at hjn
          rw [swp_get hi k3, swp_get hi k3, if_neg (show (k - 1) / 4 ≠ k by omega), if_pos k1, if_neg (show j ≠ k by omega), if_neg (show j ≠ i by omega)]
          have := h1 j hj hjn (by omega)
          rwa [hq] at this
        obtain ⟨r1, r2⟩ := ih (es.length - k) (by omega) (swp es i k) k (by rw [swp_len]) hA hB
        exact ⟨r1.trans (swp_perm hi k3), r2⟩
      · have ha' : aheadB es[leastL es i]! es[i]! = false := by simpa using ha
        rw [downL_stop (fun _ => ha')]
        refine ⟨List.Perm.refl _, fun j hj hjn => ?_⟩
        by_cases hq : (j - 1) / 4 = i
        · rw [hq]; exact le_trans ha' (k4 j hj hjn hq)
        · exact h1 j hj hjn hq
    · rw [downL_stop (fun h => absurd h hc)]
      refine ⟨List.Perm.refl _, fun j hj hjn => h1 j hj hjn (by omega)⟩

/-- Take: the first one is out of it, and a heap is left. -/
theorem take_law {e : Ent} {es : List Ent} (h : Heapish (e :: es)) : (e :: takeL (e :: es)).Perm (e :: es) ∧ Heapish (takeL (e :: es)) := by
  have hn : (e :: es).length - 1 = es.length := by simp
  have hl : (((e :: es).set 0 (e :: es)[es.length]!).take es.length).length = es.length := by simp
  have hget : ∀ j, 0 < j → j < es.length → (((e :: es).set 0 (e :: es)[es.length]!).take es.length)[j]! = (e :: es)[j]! := fun j hj hjn => by
    simp only [List.getElem!_eq_getElem?_getD]
    rw [List.getElem?_take_of_lt hjn, List.getElem?_set_ne (by omega)]
  unfold takeL
  rw [hn]
  have hA : ∀ j, 0 < j → j < (((e :: es).set 0 (e :: es)[es.length]!).take es.length).length → (j - 1) / 4 ≠ 0 → le (((e :: es).set 0 (e :: es)[es.length]!).take es.length)[(j - 1) / 4]! (((e :: es).set 0 (e :: es)[es.length]!).take es.length)[j]! := fun j hj hjn hq => by
    rw [hl] at hjn
    rw [hget j hj hjn, hget ((j - 1) / 4) (by omega) (by omega)]
    exact h j hj (by simp; omega)
  obtain ⟨r1, r2⟩ := downL_law _ (((e :: es).set 0 (e :: es)[es.length]!).take es.length) 0 rfl hA (fun j hj hjn hq h0 => absurd h0 (by omega))
  refine ⟨?_, r2⟩
  refine (r1.cons e).trans ?_
  cases hes : es with
  | nil => simp
  | cons x t =>
    have hlast : (e :: x :: t)[(x :: t).length]! = (x :: t).getLast (by simp) := by
      simp [List.getLast_eq_getElem]
    rw [hlast]
    simp only [List.set_cons_zero, List.length_cons, List.take_succ_cons]
    have hd : (x :: t).take t.length = (x :: t).dropLast := by simp [List.dropLast_eq_take]
    rw [hd]
    refine List.Perm.cons e ?_
    have := List.dropLast_concat_getLast (show x :: t ≠ [] by simp)
    conv => rhs; rw [← this]
    exact (List.perm_append_singleton _ _).symm

/-- The first one is the least. -/
theorem head_least {e : Ent} {es : List Ent} (h : Heapish (e :: es)) : ∀ x ∈ e :: es, le e x := by
  have key : ∀ j, j < (e :: es).length → le e (e :: es)[j]! := by
    intro j
    induction j using Nat.strongRecOn with
    | _ j ih =>
      intro hj
      by_cases h0 : j = 0
      · subst h0; simpa using le_refl e
      · exact le_trans (ih ((j - 1) / 4) (by omega) (by omega)) (h j (by omega) hj)
  intro x hx
  obtain ⟨j, hj, rfl⟩ := List.getElem_of_mem hx
  have := key j hj
  rwa [getElem!_pos (e :: es) j hj] at this
theorem heapish_nil : Heapish [] := fun j _ h => by simp at h
end Go.Proofs.YtlhblhgbpaipaaaGreat.Hp

/- HeapEql -/
namespace Go.Proofs.YtlhblhgbpaipaaaGreat.Hp
open Go.RowKit
set_option linter.unusedVariables false

theorem eql_ent (a b : Ent) (w : World) : (binOp .eql 90 a.agg b.agg).run Tryz.prog w = .ok (.bool (decide (a = b))) w := by
  go_simp
  cases a; cases b
  simp only [Ent.mk.injEq]
  (repeat' split) <;> simp [*]
theorem neq_ent (a b : Ent) (w : World) : (binOp .neq 90 a.agg b.agg).run Tryz.prog w = .ok (.bool (!decide (a = b))) w := by
  go_simp
  cases a; cases b
  simp only [Ent.mk.injEq]
  (repeat' split) <;> simp [*]

/-- Two entries compared, under a guard that is met. -/
theorem wpList_eql_ent {ops : Array Oper} {rest : List Oper} {o : Oper} {a : Act} {w : World} {Q : Exit → Act → World → Prop} (hw : Region.wanted o (yielded ops a.tmps) = true) (x y : Operand) (ho : o.op = .binOp .eql 90 x y 90)
    (e f : Ent) (hx : a.eval x = e.agg) (hy : a.eval y = f.agg) (c : Bool) (hc : decide (e = f) = c)
    (h : wpList Tryz.prog ops Q rest (a.put o.dst (.bool c)) w) : wpList Tryz.prog ops Q (o :: rest) a w :=
  wpList_step fun _ hK => by
    have h2 : (execOp a.eval o).run Tryz.prog w = .ok (.value (.bool c)) w := by
      unfold execOp
      have hg : (eqGuard .eql 90 x y e.agg f.agg).run Tryz.prog w = .ok () w := by go_simp
      simp [ho, hx, hy, Sem.run_bind, hg, eql_ent, hc, Result.andThen]
    rw [if_pos hw]
    unfold Oper.wp
    rw [h2, Oper.upon_value]
    exact hK _ _ h

theorem HFr.below {w w' : World} {B b i : Nat} {v v' : Value} (h : HFr w w' b i v v') (hb : B ≤ b) (hv : ∀ g, v.ownBlock = some g → B ≤ g) (hB : B ≤ w.heap.size) : Below B w w' :=
  ⟨h.os, h.tape, h.output, h.size, fun k hk => h.block k (by omega) (by omega) (fun e => by have := hv k e; omega)⟩
theorem IsHp.base_le {w : World} {base b i : Nat} {v : Value} {es : List Ent} (h : IsHp w base b i v es) : ∀ g, v.ownBlock = some g → base ≤ g := fun g e => (h.ownlt g e).2.2
theorem hp_new (w : World) (base : Nat) : IsHp (w.alloc (.cells #[.slice none 0 0] 126)) base w.heap.size 0 (.slice none 0 0) [] :=
  ⟨cell_of_one (heap_alloc_new _ _), free_of_one (heap_alloc_new _ _), .inl ⟨rfl, rfl⟩⟩
end Go.Proofs.YtlhblhgbpaipaaaGreat.Hp

/- HeapMore -/
namespace Go.Proofs.YtlhblhgbpaipaaaGreat.Hp
open Go.RowKit Go.Shelf
set_option linter.unusedVariables false

/-- The value is a slice of entries, in a block below n₀. -/
def EntSl (n₀ : Nat) (W : World) (v : Value) (es : List Ent) : Prop :=
  (v = .slice none 0 0 ∧ es = []) ∨ ∃ g cap, v = .slice (some ⟨g, 0, none⟩) es.length cap ∧ g < n₀ ∧ Row3 W g cap es
theorem IsHp.sl {w : World} {base b i : Nat} {v : Value} {es : List Ent} (h : IsHp w base b i v es) : EntSl w.heap.size w v es := by
  rcases h.row with ⟨rfl, rfl⟩ | ⟨g, cap, rfl, r, _, _⟩
  · exact .inl ⟨rfl, rfl⟩
  · exact .inr ⟨g, cap, rfl, r.lt, r⟩

set_option maxHeartbeats 1000000 in
theorem clone_e {w : World} {v : Value} {es : List Ent} (hI : EntSl w.heap.size w v es) (hbig : es.length ≤ 1000) :
    Calls Tryz.prog 72 #[v] w fun e w' => ∃ v', e = .returned v' ∧ w'.ownsRow w.heap.size 90 3 v' es.length (flat es) ∧ Below w.heap.size w w' := by
  have q22 : ∀ (w : World) (a : Option Addr) (n c n' c' : Nat), (binOp .eql 124 (.slice a n c) (.slice none n' c')).run Tryz.prog w = .ok (.bool a.isNone) w := fun w a n c n' c' => Lib.run_eql_slice_nil w _ _ a n c n' c' Tryz.underlying124
  rcases hI with ⟨rfl, rfl⟩ | ⟨g, cap, rfl, hg, hr⟩
  · go_enter Tryz.func72, Tryz.ntmps72
    go_wp2
    go_ret
    exact ⟨_, rfl, World.ownsRow_nil _ _ _ _, Below.refl _ _⟩
  · obtain ⟨i0, hi, hz0, hz1, hz2⟩ := info_parts infoEnt
    have A : Hid (∀ j u, (flat es)[j]? = some u → w.cell? ⟨g, j, none⟩ = some u) := Lib.hid fun j u hu => by
      obtain ⟨cur, h1, h2, h3⟩ := hr.blk
      rw [cell_of_row w g j cur _ _ h1]
      have hj := (List.getElem?_eq_some_iff.1 hu).1
      rw [flat_len] at hj
      rw [← h3, List.getElem?_take_of_lt hj] at hu
      simpa using hu
    have hlt := hr.lt
    clear hr
    go_enter Tryz.func72, Tryz.ntmps72
    go_wp2_with (at_builtin; refine wpList_append_own _ rfl _ _ 124 rfl w.heap.size 90 i0 _ 3 24 Tryz.underlying124 hi hz0 hz1 hz2 rfl (by decide) _ _ _ rfl (World.ownsRow_made w #[] 0 (Nat.le_refl _) (Nat.zero_le _) rfl) ⟨g, 0, none⟩ es.length cap (flat es) rfl ?qc1 ?qc2 ?qc3 ?qc4 ?qc5 ?qc6 ?_)
    case qc1 => exact flat_len es
    case qc2 =>
      intro j u hj
      refine Lib.cell?_alloc_some _ ?_
      have hadd : (⟨g, 0, none⟩ : Addr).add j = ⟨g, j, none⟩ := by unfold Addr.add; split <;> simp_all
      rw [hadd]
      exact A.out j u hj
    case qc3 => intro u hu; simp only [flat, List.mem_flatMap] at hu; obtain ⟨x, _, hx⟩ := hu; exact flat_one x u (by simpa [flat] using hx)
    case qc4 => unfold maxLen; omega
    case qc5 => omega
    case qc6 => simp
    intro v' w1 hown hgrow hnil
    go_wp2
    go_ret
    refine ⟨v', rfl, by simpa using hown, ?_⟩
    exact ((Below.refl _ w).alloc (Nat.le_refl _) _).grown hgrow (by simp) (by intro k hk; simp [Value.ownBlock] at hk; omega)

theorem owned_sl {w : World} {base : Nat} {v : Value} {es : List Ent} (h : w.ownsRow base 90 3 v es.length (flat es)) : ∃ a c, v = .slice a es.length c := by
  rcases h.2 with ⟨rfl, h0⟩ | ⟨g, cap, cur, rfl, _⟩
  · exact ⟨none, 0, by rw [h0]⟩
  · exact ⟨_, _, rfl⟩

theorem hcopy_is {w : World} {base b i : Nat} {v : Value} {es : List Ent} (h : IsHp w base b i v es) (hbig : es.length ≤ 1000) :
    Calls Tryz.prog 59 #[.pointer (some ⟨b, i, none⟩)] w fun e w' => ∃ B v', e = .returned (.pointer (some ⟨B, 0, none⟩)) ∧ w.heap.size ≤ B ∧ IsHp w' w.heap.size B 0 v' es ∧ Below w.heap.size w w' := by
  have hc := h.cell
  obtain ⟨a, cap, hv⟩ := h.len
  have hI := Lib.hid h.sl
  subst hv
  clear h
  go_enter Tryz.func59, Tryz.ntmps59
  go_wp2_with fail
  refine (clone_e hI.out hbig).mono ?_
  rintro e w1 ⟨v2, rfl, ho, hb⟩
  obtain ⟨a2, c2, rfl⟩ := owned_sl ho
  have H2 := Lib.hid (And.intro ho hb)
  clear hb ho
  go_wp2_with fail
  go_ret
  have hal : Below w1.heap.size w1 (w1.alloc (.cells #[.slice a2 es.length c2] 126)) := (Below.refl _ _).alloc (Nat.le_refl _) _
  refine ⟨w1.heap.size, .slice a2 es.length c2, rfl, H2.out.2.size, ⟨cell_of_row _ _ 0 _ _ _ (heap_alloc_new _ _), frozen_of_row _ _ 0 _ _ (heap_alloc_new _ _), ?_⟩, H2.out.2.trans (hal.mono H2.out.2.size)⟩
  rcases H2.out.1.2 with ⟨e1, h0⟩ | ⟨g, cap, cur, e1, h1, h2, h3, h4, _⟩
  · obtain ⟨h1, h2, h3⟩ := Value.slice.inj e1
    exact .inl ⟨e1, List.length_eq_zero_iff.1 h2⟩
  · obtain ⟨rfl, _, rfl⟩ := Value.slice.inj e1
    have hr := (row3_of_owns H2.out.1 rfl).1
    exact .inr ⟨g, _, rfl, hr.heap (hal.block g hr.lt), by have := hr.lt; omega, h1⟩

theorem take_ent {es : List Ent} {k : Nat} {e : Ent} (h : es[k]? = some e) : es.take (k + 1) = es.take k ++ [e] := by
  rw [List.take_add_one, h]; rfl
/-- The entries in order. -/
def srt (es : List Ent) : List Ent := es.mergeSort fun x y => !(aheadB y x)
theorem srt_perm (es : List Ent) : (srt es).Perm es := List.mergeSort_perm _ _
theorem srt_len (es : List Ent) : (srt es).length = es.length := (srt_perm es).length_eq
theorem srt_sorted (es : List Ent) : (srt es).Pairwise le := by
  have h := List.pairwise_mergeSort (le := fun x y : Ent => !(aheadB y x)) (fun a b c h1 h2 => by
    have e1 : aheadB b a = false := by simpa using h1
    have e2 : aheadB c b = false := by simpa using h2
    have : aheadB c a = false := le_trans e1 e2
    simpa using this) (fun a b => by
    rcases le_total a b with h | h
    · have : aheadB b a = false := h
      simp [this]
    · have : aheadB a b = false := h
      simp [this]) es
  refine List.Pairwise.imp ?_ h
  intro a b hab
  have : aheadB b a = false := by simpa using hab
  exact this
theorem srt_unique {es fs : List Ent} (hp : fs.Perm es) (hs : fs.Pairwise le) : fs = srt es :=
  List.Perm.eq_of_pairwise (le := le) (fun a b _ _ h1 h2 => le_anti h1 h2) hs (srt_sorted es) (hp.trans (srt_perm es).symm)
end Go.Proofs.YtlhblhgbpaipaaaGreat.Hp

/- RefHeap -/
namespace Go.Proofs.YtlhblhgbpaipaaaGreat.Hp
open Go.RowKit Go.Shelf
set_option linter.unusedVariables false
set_option linter.unusedSimpArgs false

abbrev TE : TypeId := 51
/-- The value is a slice of the document's entries that owns its row. -/
def OwnsR (w : World) (base : Nat) (v : Value) (es : List Ent) : Prop := w.ownsRow base TE 3 v es.length (flat es)
/-- The value is a slice that reads as the document's entries, in a block from lo on. -/
def RSees (w : World) (lo : Nat) (v : Value) (es : List Ent) : Prop :=
  ∃ a cap, v = .slice a es.length cap ∧ es.length ≤ cap ∧ cap ≤ maxLen ∧ (∀ c, a = some c → lo ≤ c.block ∧ c.block < w.heap.size) ∧
    ∀ i e, es[i]? = some e → ∃ c, a = some c ∧ w.cell? (c.add (i * 3)) = some (.int .i64 e.w) ∧ w.cell? ⟨(c.add (i * 3)).block, (c.add (i * 3)).off + 1, none⟩ = some (.int .u64 e.o) ∧ w.cell? ⟨(c.add (i * 3)).block, (c.add (i * 3)).off + 2, none⟩ = some (.int .i64 e.g)

theorem infoE : (Tryz.prog.info? TE).map (fun i => (i.zero, i.size, i.bytes)) = some (some (.agg #[.int .i64 0, .int .u64 0, .int .i64 0]), 3, 24) := by kernel_rfl
theorem rsees_nil (w : World) (lo : Nat) : RSees w lo (.slice none 0 0) [] := ⟨none, 0, rfl, by simp, by simp [maxLen], (fun c h => by cases h), fun i e h => by simp at h⟩
theorem addr_block (a : Addr) (n : Nat) : (a.add n).block = a.block := by unfold Addr.add; split <;> rfl
theorem OwnsR.sees {w : World} {base lo : Nat} {v : Value} {es : List Ent} (h : OwnsR w base v es) (hb : lo ≤ base) : RSees w lo v es := by
  rcases h.2 with ⟨rfl, h0⟩ | ⟨g, cap, cur, rfl, h1, h2, h3, h4, h5, h6⟩
  · have : es = [] := List.length_eq_zero_iff.1 h0
    subst this; exact rsees_nil w lo
  · refine ⟨_, cap, rfl, h3, h4, fun c e => by cases e; exact ⟨Nat.le_trans hb h1, (Array.getElem?_eq_some_iff.1 h2).1⟩, fun i e hi => ⟨_, rfl, ?_⟩⟩
    have hadd : (⟨g, 0, none⟩ : Addr).add (i * 3) = ⟨g, i * 3, none⟩ := by unfold Addr.add; split <;> simp_all
    rw [hadd]
    have hil := (List.getElem?_eq_some_iff.1 hi).1
    obtain ⟨f0, f1, f2⟩ := flat_get hi
    have key : ∀ j u, j < es.length * 3 → (flat es)[j]? = some u → w.cell? ⟨g, j, none⟩ = some u := fun j u hj hu => by
      rw [cell_of_row w g j cur _ _ h2]
      rw [← h6, List.getElem?_take_of_lt hj] at hu
      simpa using hu
    exact ⟨key (i * 3) _ (by omega) f0, key (i * 3 + 1) _ (by omega) f1, key (i * 3 + 2) _ (by omega) f2⟩
theorem RSees.kept {w w' : World} {lo : Nat} {v : Value} {es : List Ent} (h : RSees w lo v es) (hs : w.heap.size ≤ w'.heap.size) (hb : ∀ j, v.ownBlock = some j → w'.heap[j]? = w.heap[j]?) : RSees w' lo v es := by
  obtain ⟨a, cap, rfl, h1, h2, h3, h4⟩ := h
  refine ⟨a, cap, rfl, h1, h2, fun c e => ⟨(h3 c e).1, Nat.lt_of_lt_of_le (h3 c e).2 hs⟩, fun i e hi => ?_⟩
  obtain ⟨c, rfl, c0, c1, c2⟩ := h4 i e hi
  have hc := hb c.block rfl
  exact ⟨c, rfl, (World.cell?_of_block (by rw [addr_block]; exact hc)).trans c0, (World.cell?_of_block (by show w'.heap[(c.add (i * 3)).block]? = _; rw [addr_block]; exact hc)).trans c1, (World.cell?_of_block (by show w'.heap[(c.add (i * 3)).block]? = _; rw [addr_block]; exact hc)).trans c2⟩
theorem RSees.own {w : World} {lo : Nat} {v : Value} {es : List Ent} (h : RSees w lo v es) {j : Nat} (hj : v.ownBlock = some j) : lo ≤ j ∧ j < w.heap.size := by
  obtain ⟨a, cap, rfl, h1, h2, h3, h4⟩ := h
  cases a with
  | none => simp [Value.ownBlock] at hj
  | some c => simp [Value.ownBlock] at hj; subst hj; exact h3 c rfl
theorem RSees.below {w w' : World} {lo : Nat} {v : Value} {es : List Ent} (h : RSees w lo v es) (hb : Below w.heap.size w w') : RSees w' lo v es :=
  h.kept hb.size fun j hj => hb.block j (h.own hj).2

theorem wpList_append_ent {ops : Array Oper} {rest : List Oper} {o : Oper} {a : Act} {Q : Exit → Act → World → Prop} (hgd : o.guard = none) (s x : Operand)
    (ho : o.op = .call { callee := .builtin .append, args := #[s, x], argTypes := #[114, 114] }) (W : World) (base : Nat) (v : Value) (es : List Ent) (e : Ent)
    (N : Nat) (hN : W.heap.size = N) (hs : a.eval s = v) (hown : OwnsR W base v es) (hx : a.eval x = .slice (some ⟨N, 0, none⟩) 1 1) (hlen : es.length ≤ 100000) (hbase : base ≤ W.heap.size)
    (h : ∀ v' w', OwnsR w' base v' (es ++ [e]) → W.grownBy w' v.ownBlock → wpList Tryz.prog ops Q rest (a.put o.dst v') w') : wpList Tryz.prog ops Q (o :: rest) a (W.alloc (.cells #[.int .i64 e.w, .int .u64 e.o, .int .i64 e.g] TE)) := by
  subst hN
  obtain ⟨i0, hi, hz0, hz1, hz2⟩ := info_parts infoE
  refine wpList_append_own _ hgd s x 114 ho base TE i0 _ 3 24 Tryz.underlying114 hi hz0 hz1 hz2 rfl (by decide) v es.length (flat es) hs (World.ownsRow.alloc hown _) ⟨W.heap.size, 0, none⟩ 1 1 [.int .i64 e.w, .int .u64 e.o, .int .i64 e.g] hx rfl (World.news_of_block (cs := #[.int .i64 e.w, .int .u64 e.o, .int .i64 e.g]) (heap_alloc_new _ _)) (by simp [Value.oneCell']) (by unfold maxLen; omega) (by omega) (by simp; omega) fun v' w' h1 h2 _ => h v' w' (by unfold OwnsR; rw [List.length_append, flat_append]; exact h1) ?_
  exact ⟨h2.os, h2.tape, h2.output, Nat.le_trans (by simp) h2.size, fun j hj hne => (h2.block j (by simp; omega) hne).trans (by rw [heap_alloc_old (h := hj)])⟩

/-- One more, in its place. -/
def ins (e : Ent) : List Ent → List Ent
  | [] => [e]
  | x :: t => if aheadB e x then e :: x :: t else x :: ins e t
theorem ins_at (e : Ent) : ∀ (p t : List Ent), (∀ x ∈ p, aheadB e x = false) → ins e (p ++ t) = p ++ ins e t
  | [], t, _ => rfl
  | x :: p, t, h => by
    rw [List.cons_append, ins, if_neg (by rw [h x (by simp)]; decide), ins_at e p t (fun y hy => h y (by simp [hy]))]; rfl
theorem ins_perm (e : Ent) : ∀ l, (ins e l).Perm (e :: l)
  | [] => List.Perm.refl _
  | x :: t => by
    unfold ins; split
    · exact List.Perm.refl _
    · exact (List.Perm.cons x (ins_perm e t)).trans (List.Perm.swap e x t)
theorem ins_sorted (e : Ent) : ∀ l, l.Pairwise le → (ins e l).Pairwise le
  | [], _ => by simp [ins]
  | x :: t, h => by
    obtain ⟨h1, h2⟩ := List.pairwise_cons.1 h
    unfold ins; split
    · rename_i ha
      refine List.pairwise_cons.2 ⟨fun y hy => ?_, h⟩
      rcases List.mem_cons.1 hy with rfl | hy
      · exact le_of_ahead ha
      · exact le_trans (le_of_ahead ha) (h1 y hy)
    · rename_i ha
      refine List.pairwise_cons.2 ⟨fun y hy => ?_, ins_sorted e t h2⟩
      rcases List.mem_cons.1 ((ins_perm e t).mem_iff.1 hy) with rfl | hy
      · have : aheadB y x = false := by simpa using ha
        exact this
      · exact h1 y hy
theorem ins_srt (e : Ent) (es : List Ent) : ins e (srt es) = srt (es ++ [e]) :=
  srt_unique ((ins_perm e _).trans ((List.Perm.cons e (srt_perm es)).trans (List.perm_append_comm (l₁ := [e])))) (ins_sorted e _ (srt_sorted es))

theorem drop_cons {es : List Ent} {k : Nat} {x : Ent} (h : es[k]? = some x) : es.drop k = x :: es.drop (k + 1) := by
  obtain ⟨h1, rfl⟩ := List.getElem?_eq_some_iff.1 h
  exact List.drop_eq_getElem_cons h1
theorem below_ownR {w a b : World} {v : Value} {es : List Ent} {B : Nat} (h : Below B w a) (ho : OwnsR a B v es) (k : a.grownBy b v.ownBlock) (hB : B ≤ a.heap.size) : Below B w b :=
  ⟨k.os.trans h.os, k.tape.trans h.tape, k.output.trans h.output, Nat.le_trans h.size k.size, fun j hj => (k.block j (by omega) (fun e => by have := (World.ownsRow.lt ho j e.symm).1; omega)).trans (h.block j hj)⟩

theorem below_ownR' {w a b : World} {v : Value} {es : List Ent} {B n : Nat} (h : Below n w a) (ho : OwnsR a B v es) (k : a.grownBy b v.ownBlock) (hB : n ≤ a.heap.size ∧ n ≤ B) : Below n w b :=
  ⟨k.os.trans h.os, k.tape.trans h.tape, k.output.trans h.output, Nat.le_trans h.size k.size, fun j hj => (k.block j (by omega) (fun e => by have := (World.ownsRow.lt ho j e.symm).1; omega)).trans (h.block j hj)⟩
theorem OwnsR.lower {w : World} {base base' : Nat} {v : Value} {es : List Ent} (h : OwnsR w base v es) (hb : base' ≤ base) : OwnsR w base' v es := by
  obtain ⟨h0, h⟩ := h
  refine ⟨h0, ?_⟩
  rcases h with h | ⟨g, cap, cur, e, h1, h2⟩
  · exact .inl h
  · exact .inr ⟨g, cap, cur, e, Nat.le_trans hb h1, h2⟩

set_option maxRecDepth 100000 in
set_option maxHeartbeats 2000000 in
theorem rput_is {w : World} {v : Value} {es : List Ent} {lo : Nat} (hv : RSees w lo v es) (hbig : es.length ≤ 1000) (e : Ent) :
    Calls Tryz.prog 70 #[v, e.agg] w fun x w' => ∃ v', x = .returned v' ∧ OwnsR w' w.heap.size v' (ins e es) ∧ Below w.heap.size w w' := by
  have HV := Lib.hid hv
  obtain ⟨a, cap, rfl, hle, hmx, _, _⟩ := hv
  have hcap : (es.length : Int) ≤ (cap : Int) := by omega
  go_enter Tryz.func70, Tryz.ntmps70
  go_wp2_with fail
  have hE : (w.alloc (.cells #[.int .i64 e.w, .int .u64 e.o, .int .i64 e.g] TE)).heap[w.heap.size]? = some (.cells e.cells TE (0, 0)) := heap_alloc_new _ _
  have hb0 : Below w.heap.size w (w.alloc (.cells #[.int .i64 e.w, .int .u64 e.o, .int .i64 e.g] TE)) := (Below.refl _ _).alloc (Nat.le_refl _) _
  have H0 := Lib.hid (And.intro hE hb0)
  clear hE hb0
  generalize (w.alloc (.cells #[.int .i64 e.w, .int .u64 e.o, .int .i64 e.g] TE)) = W at *
  go_loopw [5, 6, 11] (fun ov dv i wr => ∃ (k : Nat) (d : Bool) (out : List Ent), k ≤ es.length ∧ i = .int .i64 k ∧ dv = .bool d ∧ out.length ≤ k + 1 ∧ OwnsR wr (w.heap.size + 1) ov out ∧ wr.heap[w.heap.size]? = some (.cells e.cells TE (0, 0)) ∧ Below w.heap.size w wr ∧ ((d = false ∧ out = es.take k ∧ ∀ x ∈ es.take k, aheadB e x = false) ∨ (d = true ∧ out ++ es.drop k = ins e es))) (fun _ _ i _ => es.length - (intOf i).toNat)
  case atStart => exact ⟨0, false, [], Nat.zero_le _, rfl, rfl, by simp, World.ownsRow_nil _ _ _ _, H0.out.1, H0.out.2, .inl ⟨rfl, rfl, by simp⟩⟩
  case round =>
    obtain ⟨k, d, out, hk, rfl, rfl, hol, ho, hE, hb, hd⟩ := hrel
    obtain ⟨oa, oc, rfl, _⟩ := OwnsR.sees ho (Nat.le_refl _)
    have H := Lib.hid (And.intro ho (And.intro hE hb))
    have HD := Lib.hid hd
    have hsz := (Array.getElem?_eq_some_iff.1 hE).1
    clear H0 ho hb hd
    by_cases hlt : k < es.length
    · obtain ⟨x, hx⟩ : ∃ x, es[k]? = some x := ⟨_, List.getElem?_eq_getElem hlt⟩
      obtain ⟨c, rfl, c0, c1, c2⟩ : ∃ c, a = some c ∧ wr.cell? (c.add (k * 3)) = some (.int .i64 x.w) ∧ wr.cell? ⟨(c.add (k * 3)).block, (c.add (k * 3)).off + 1, none⟩ = some (.int .u64 x.o) ∧ wr.cell? ⟨(c.add (k * 3)).block, (c.add (k * 3)).off + 2, none⟩ = some (.int .i64 x.g) := by
        obtain ⟨_, _, e1, _, _, _, h⟩ := HV.out.below H.out.2.2
        obtain ⟨rfl, _, _⟩ := Value.slice.inj e1
        exact h k x hx
      have HX := Lib.hid hx
      have hX : (wr.alloc (.cells #[.int .i64 x.w, .int .u64 x.o, .int .i64 x.g] TE)).heap[wr.heap.size]? = some (.cells x.cells TE (0, 0)) := heap_alloc_new _ _
      have hal : Below wr.heap.size wr (wr.alloc (.cells #[.int .i64 x.w, .int .u64 x.o, .int .i64 x.g] TE)) := (Below.refl _ _).alloc (Nat.le_refl _) _
      have hE1 := (hal.block _ hsz).trans hE
      have H1 := Lib.hid (And.intro (World.ownsRow.alloc H.out.1 (.cells #[.int .i64 x.w, .int .u64 x.o, .int .i64 x.g] TE)) (And.intro hE1 (And.intro (H.out.2.2.trans (hal.mono H.out.2.2.size)) hX)))
      have hsz1 : wr.heap.size < (wr.alloc (.cells #[.int .i64 x.w, .int .u64 x.o, .int .i64 x.g] TE)).heap.size := by simp
      clear hx hX hal hE1
      cases d with
      | true =>
        have HD1 : Hid (out ++ es.drop k = ins e es) := Lib.hid (by rcases HD.out with ⟨h, _⟩ | ⟨_, h⟩; cases h; exact h)
        clear HD
        go_wp2_with (refine wpList_append_ent rfl _ _ rfl (wr.alloc (.cells #[.int .i64 x.w, .int .u64 x.o, .int .i64 x.g] TE)) (w.heap.size + 1) (.slice oa out.length oc) out x (wr.heap.size + 1) (by simp) rfl H1.out.1 rfl ?ql ?qb ?_)
        case ql => omega
        case qb => simp; omega
        intro v' w3 ho3 hg3
        have H3 := Lib.hid (And.intro ho3 (And.intro ((hg3.block _ (by simp; omega) (fun e => by have := (World.ownsRow.lt H1.out.1 _ e.symm).1; omega)).trans H1.out.2.1) (below_ownR' H1.out.2.2.1 H1.out.1 hg3 ⟨by first | omega | (simp; omega), by omega⟩)))
        clear ho3 hg3
        go_wp2
        go_roundw
        case rel => exact ⟨k + 1, true, out ++ [x], by omega, by go_num, rfl, by simp; omega, H3.out.1, H3.out.2.1, H3.out.2.2, .inr ⟨rfl, by rw [← HD1.out, drop_cons HX.out]; simp⟩⟩
        case measure => simp [intOf]; omega
      | false =>
        have HD1 : Hid (out = es.take k ∧ ∀ x ∈ es.take k, aheadB e x = false) := Lib.hid (by rcases HD.out with ⟨_, h⟩ | ⟨h, _⟩; exact h; cases h)
        clear HD
        have HOL : Hid (out.length ≤ k) := Lib.hid (by rw [HD1.out.1, List.length_take]; omega)
        have z0 : (wr.alloc (.cells #[.int .i64 x.w, .int .u64 x.o, .int .i64 x.g] TE)).cell? ⟨w.heap.size, 0, none⟩ = some (.int .i64 e.w) := cell_of_row _ _ 0 _ _ _ H1.out.2.1
        have z1 : (wr.alloc (.cells #[.int .i64 x.w, .int .u64 x.o, .int .i64 x.g] TE)).cell? ⟨w.heap.size, 1, none⟩ = some (.int .u64 e.o) := cell_of_row _ _ 1 _ _ _ H1.out.2.1
        have z2 : (wr.alloc (.cells #[.int .i64 x.w, .int .u64 x.o, .int .i64 x.g] TE)).cell? ⟨w.heap.size, 2, none⟩ = some (.int .i64 e.g) := cell_of_row _ _ 2 _ _ _ H1.out.2.1
        go_wp2_with fail
        refine (rahead_is e x _).mono ?_
        rintro e1 w2 ⟨rfl, hb2⟩
        have ho2 : OwnsR w2 (w.heap.size + 1) (.slice oa out.length oc) out := by
          have h := H1.out.1
          refine World.ownsRow.kept h (row := none) ⟨hb2.os, hb2.tape, hb2.output, hb2.size, fun k hk _ => hb2.block k hk⟩ ?_
          rcases (show (Value.slice oa out.length oc).ownBlock = none ∨ ∃ j, (Value.slice oa out.length oc).ownBlock = some j by cases (Value.slice oa out.length oc).ownBlock <;> simp) with h | ⟨j, h⟩
          · exact .inl h
          · exact .inr (by rw [h]; simp)
        have hE2 := (hb2.block w.heap.size (by simp; omega)).trans H1.out.2.1
        have hX2 := (hb2.block wr.heap.size hsz1).trans H1.out.2.2.2
        have hB2 := H1.out.2.2.1.trans (hb2.mono H1.out.2.2.1.size)
        have hs2 : wr.heap.size + 1 ≤ w2.heap.size := by have := hb2.size; simpa using this
        have H2 := Lib.hid (And.intro ho2 (And.intro hE2 (And.intro hX2 hB2)))
        have y0 : w2.cell? ⟨wr.heap.size, 0, none⟩ = some (.int .i64 x.w) := cell_of_row _ _ 0 _ _ _ hX2
        have y1 : w2.cell? ⟨wr.heap.size, 1, none⟩ = some (.int .u64 x.o) := cell_of_row _ _ 1 _ _ _ hX2
        have y2 : w2.cell? ⟨wr.heap.size, 2, none⟩ = some (.int .i64 x.g) := cell_of_row _ _ 2 _ _ _ hX2
        cases hax : aheadB e x with
        | false =>
          have HAX := Lib.hid hax
          clear ho2 hE2 hX2 hB2 hb2 z0 z1 z2 c0 c1 c2 hax
          go_wp2_with (refine wpList_append_ent rfl _ _ rfl w2 (w.heap.size + 1) (.slice oa out.length oc) out x w2.heap.size rfl rfl H2.out.1 rfl ?ql1 ?qb1 ?_)
          case ql1 => omega
          case qb1 => omega
          intro v' w3 ho3 hg3
          have H3 := Lib.hid (And.intro ho3 (And.intro ((hg3.block _ (by omega) (fun e => by have := (World.ownsRow.lt H2.out.1 _ e.symm).1; omega)).trans H2.out.2.1) (below_ownR' H2.out.2.2.2 H2.out.1 hg3 ⟨by first | omega | (simp; omega), by omega⟩)))
          clear ho3 hg3
          go_wp2
          go_roundw
          case rel => exact ⟨k + 1, false, out ++ [x], by omega, by go_num, rfl, by simp; omega, H3.out.1, H3.out.2.1, H3.out.2.2, .inl ⟨rfl, by rw [HD1.out.1, take_ent HX.out], fun y hy => by
            rw [take_ent HX.out] at hy
            rcases List.mem_append.1 hy with hy | hy
            · exact HD1.out.2 y hy
            · rw [List.mem_singleton.1 hy]; exact HAX.out⟩⟩
          case measure => simp [intOf]; omega
        | true =>
          have HAX := Lib.hid hax
          have z0 : w2.cell? ⟨w.heap.size, 0, none⟩ = some (.int .i64 e.w) := cell_of_row _ _ 0 _ _ _ hE2
          have z1 : w2.cell? ⟨w.heap.size, 1, none⟩ = some (.int .u64 e.o) := cell_of_row _ _ 1 _ _ _ hE2
          have z2 : w2.cell? ⟨w.heap.size, 2, none⟩ = some (.int .i64 e.g) := cell_of_row _ _ 2 _ _ _ hE2
          clear ho2 hE2 hX2 hB2 hb2 c0 c1 c2 hax
          go_wp2_with (refine wpList_append_ent rfl _ _ rfl w2 (w.heap.size + 1) (.slice oa out.length oc) out e w2.heap.size rfl rfl H2.out.1 rfl ?ql2 ?qb2 ?_)
          case ql2 => omega
          case qb2 => omega
          intro v' w3 ho3 hg3
          have hX3 := (hg3.block wr.heap.size (by omega) (fun e => by have := (World.ownsRow.lt H.out.1 _ e.symm).2; omega)).trans H2.out.2.2.1
          have H3 := Lib.hid (And.intro ho3 (And.intro ((hg3.block _ (by omega) (fun e => by have := (World.ownsRow.lt H2.out.1 _ e.symm).1; omega)).trans H2.out.2.1) (below_ownR' H2.out.2.2.2 H2.out.1 hg3 ⟨by first | omega | (simp; omega), by omega⟩)))
          have hs3 := hg3.size
          have y0 : w3.cell? ⟨wr.heap.size, 0, none⟩ = some (.int .i64 x.w) := cell_of_row _ _ 0 _ _ _ hX3
          have y1 : w3.cell? ⟨wr.heap.size, 1, none⟩ = some (.int .u64 x.o) := cell_of_row _ _ 1 _ _ _ hX3
          have y2 : w3.cell? ⟨wr.heap.size, 2, none⟩ = some (.int .i64 x.g) := cell_of_row _ _ 2 _ _ _ hX3
          clear ho3 hg3 hX3 z0 z1 z2
          go_wp2_with (refine wpList_append_ent rfl _ _ rfl w3 (w.heap.size + 1) v' (out ++ [e]) x w3.heap.size rfl rfl H3.out.1 rfl ?ql3 ?qb3 ?_)
          case ql3 => simp; omega
          case qb3 => omega
          intro v4 w4 ho4 hg4
          have H4 := Lib.hid (And.intro ho4 (And.intro ((hg4.block _ (by omega) (fun e => by have := (World.ownsRow.lt H3.out.1 _ e.symm).1; omega)).trans H3.out.2.1) (below_ownR' H3.out.2.2 H3.out.1 hg4 ⟨by first | omega | (simp; omega), by omega⟩)))
          clear ho4 hg4
          go_wp2
          go_roundw
          case rel => exact ⟨k + 1, true, out ++ [e, x], by omega, by go_num, rfl, by simp; have := HOL.out; omega, H4.out.1, H4.out.2.1, H4.out.2.2, .inr ⟨rfl, by
            have h := ins_at e (es.take k) (es.drop k) HD1.out.2
            rw [List.take_append_drop] at h
            rw [h, HD1.out.1, drop_cons HX.out, ins, if_pos HAX.out]; simp⟩⟩
          case measure => simp [intOf]; omega
    · obtain rfl : k = es.length := by omega
      cases d with
      | true =>
        have HD1 : Hid (out = ins e es) := Lib.hid (by rcases HD.out with ⟨h, _⟩ | ⟨_, h⟩; cases h; simpa using h)
        clear HD
        go_wp2_with fail
        go_ret
        exact ⟨_, rfl, by rw [← HD1.out]; exact OwnsR.lower H.out.1 (by omega), H.out.2.2⟩
      | false =>
        have HD1 : Hid (out ++ [e] = ins e es) := Lib.hid (by
          rcases HD.out with ⟨_, h1, h2⟩ | ⟨h, _⟩
          · have h := ins_at e es [] (by rw [List.take_length] at h2; exact h2)
            rw [List.append_nil] at h
            rw [h, h1, List.take_length]; rfl
          · cases h)
        clear HD
        have z0 : wr.cell? ⟨w.heap.size, 0, none⟩ = some (.int .i64 e.w) := cell_of_row _ _ 0 _ _ _ hE
        have z1 : wr.cell? ⟨w.heap.size, 1, none⟩ = some (.int .u64 e.o) := cell_of_row _ _ 1 _ _ _ hE
        have z2 : wr.cell? ⟨w.heap.size, 2, none⟩ = some (.int .i64 e.g) := cell_of_row _ _ 2 _ _ _ hE
        clear hE
        go_wp2_with (refine wpList_append_ent rfl _ _ rfl wr (w.heap.size + 1) (.slice oa out.length oc) out e wr.heap.size rfl rfl H.out.1 rfl ?ql4 ?qb4 ?_)
        case ql4 => omega
        case qb4 => omega
        intro v' w3 ho3 hg3
        have H3 := Lib.hid (And.intro ho3 (below_ownR' H.out.2.2 H.out.1 hg3 ⟨by omega, by omega⟩))
        clear ho3 hg3
        go_wp2
        go_ret
        exact ⟨_, rfl, by rw [← HD1.out]; exact OwnsR.lower H3.out.1 (by omega), H3.out.2⟩
end Go.Proofs.YtlhblhgbpaipaaaGreat.Hp
