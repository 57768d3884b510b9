/-
  Package heap: First, Take.
-/
import Derived.Test.YtmaahidipbghfaaHeapPut
import Derived.Lib.SliceRun
namespace Go.Proofs.Ytmaahidipbghfaa.Hp
open Go.RowKit
set_option linter.unusedVariables false

set_option maxHeartbeats 1000000 in
theorem first_none {w : World} {base b i : Nat} {v : Value} (h : IsHp w base b i v []) :
    Calls Try.prog 27 #[.pointer (some ⟨b, i, none⟩)] w fun e w' => e = .returned (.tuple #[(Ent.mk 0 0 0).agg, .bool false]) ∧ w.grownBy w' none := by
  obtain ⟨a, cap, rfl⟩ := h.len
  have hc := h.cell
  have hlt := h.lt
  simp only [List.length_nil] at hc
  clear h
  go_enter Try.func27, Try.ntmps27
  go_wp2
  exact bodyPost_ret (v := .tuple #[.agg #[.int .i64 0, .int .u64 0, .int .i64 0], .bool false]) (by simp [results, Try.results27, go_sem]) rfl ⟨rfl, World.grownBy_alloc _ _ _⟩

theorem IsHp.head {w : World} {base b i : Nat} {v : Value} {e : Ent} {es : List Ent} (h : IsHp w base b i v (e :: es)) : ∃ g cap, v = .slice (some ⟨g, 0, none⟩) (es.length + 1) cap ∧ Row3 w g cap (e :: es) ∧ g ≠ b ∧ base ≤ g := by
  rcases h.row with ⟨_, h1⟩ | h1
  · cases h1
  · exact h1

set_option maxHeartbeats 1000000 in
theorem first_some {w : World} {base b i : Nat} {v : Value} {e : Ent} {es : List Ent} (h : IsHp w base b i v (e :: es)) (hbig : es.length ≤ 1000000) :
    Calls Try.prog 27 #[.pointer (some ⟨b, i, none⟩)] w fun x w' => x = .returned (.tuple #[e.agg, .bool true]) ∧ w.grownBy w' none := by
  obtain ⟨g, cap, rfl, hr, hgb, hb⟩ := h.head
  have hc := h.cell
  have hlt := h.lt
  have hglt := hr.lt
  obtain ⟨c0, c1, c2⟩ := hr.cells (i := 0) (e := e) rfl
  simp only [Nat.zero_mul, Nat.zero_add] at c0 c1 c2
  have hn0 : ((es.length : Int) + 1 == 0) = false := by rw [beq_eq_false_iff_ne]; omega
  have hn1 : (es.length + 1 == 0) = false := by simp
  clear h hr
  go_enter Try.func27, Try.ntmps27
  go_wp2
  exact bodyPost_ret (v := .tuple #[e.agg, .bool true]) (by simp [results, Try.results27, go_sem]) rfl ⟨rfl, World.grownBy_alloc _ _ _⟩

theorem grown_cells {w w' : World} (h : w.grownBy w' none) : (∀ b o, b < w.heap.size → w'.cell? ⟨b, o, none⟩ = w.cell? ⟨b, o, none⟩) ∧ (∀ b o, b < w.heap.size → w'.frozen? ⟨b, o, none⟩ = w.frozen? ⟨b, o, none⟩) :=
  ⟨fun b o hb => World.cell?_of_block (a := ⟨b, o, none⟩) (h.block b hb (by simp)), fun b o hb => World.frozen?_of_block (a := ⟨b, o, none⟩) (h.block b hb (by simp))⟩

/-- An entry and a bool, the entry out of its variable. -/
theorem results_ent {fn : Func} {p q : Tmp} (h : fn.results = #[.cell p 30, .tmp q]) (tmps : Array Value) (w : World) (B : Nat) (e : Ent) (x : Bool) (hB : w.heap[B]? = some (.cells e.cells 30 (0, 0)))
    (hp : tmps.getD p undef = .pointer (some ⟨B, 0, none⟩)) (hq : tmps.getD q undef = .bool x) : (results fn tmps).run Try.prog w = .ok (.tuple #[e.agg, .bool x]) w := by
  have c0 : w.cell? ⟨B, 0, none⟩ = some (.int .i64 e.w) := cell_of_row _ _ 0 _ _ _ hB
  have c1 : w.cell? ⟨B, 1, none⟩ = some (.int .u64 e.o) := cell_of_row _ _ 1 _ _ _ hB
  have c2 : w.cell? ⟨B, 2, none⟩ = some (.int .i64 e.g) := cell_of_row _ _ 2 _ _ _ hB
  have hp' : tmps[p]?.getD undef = .pointer (some ⟨B, 0, none⟩) := by simpa using hp
  have hq' : tmps[q]?.getD undef = .bool x := by simpa using hq
  clear hB hp hq
  simp [results, h, hp', hq', asAddr, go_sem, c0, c1, c2]
/-- An entry stored into a variable. -/
theorem box_set {w : World} {B : Nat} {a b c : Value} (h : w.heap[B]? = some (.cells #[a, b, c] 30 (0, 0))) (e : Ent) :
    (((w.setCell ⟨B, 0, none⟩ (.int .i64 e.w)).setCell ⟨B, 1, none⟩ (.int .u64 e.o)).setCell ⟨B, 2, none⟩ (.int .i64 e.g)).heap[B]? = some (.cells e.cells 30 (0, 0)) :=
  heap_setCell_same _ B 2 _ _ _ (heap_setCell_same _ B 1 _ _ _ (heap_setCell_same _ B 0 _ _ _ h))
theorem box_other {w : World} {B k i j l : Nat} {a b c : Value} (h : k ≠ B) : (((w.setCell ⟨B, i, none⟩ a).setCell ⟨B, j, none⟩ b).setCell ⟨B, l, none⟩ c).heap[k]? = w.heap[k]? :=
  (heap_setCell_other _ _ _ _ h).trans ((heap_setCell_other _ _ _ _ h).trans (heap_setCell_other _ _ _ _ h))
theorem box_size {w : World} {B i j l : Nat} {a b c : Value} : (((w.setCell ⟨B, i, none⟩ a).setCell ⟨B, j, none⟩ b).setCell ⟨B, l, none⟩ c).heap.size = w.heap.size := by simp

set_option maxRecDepth 100000 in
set_option maxHeartbeats 1000000 in
theorem take_none {w : World} {base b i : Nat} {v : Value} (h : IsHp w base b i v []) :
    Calls Try.prog 25 #[.pointer (some ⟨b, i, none⟩)] w fun e w' => e = .returned (.tuple #[(Ent.mk 0 0 0).agg, .bool false]) ∧ w.grownBy w' none := by
  have H := Lib.hid h
  clear h
  go_enter Try.func25, Try.ntmps25
  go_wp2_with fail
  refine (first_none (H.out.grown (World.grownBy_alloc _ _ _))).mono ?_
  rintro e w1 ⟨rfl, hg⟩
  obtain ⟨hc, hf⟩ := grown_cells hg
  have hz : w.heap.size < w1.heap.size := by have := hg.size; simp at this; omega
  have hb2 := hg.block w.heap.size (by simp) (by simp)
  rw [heap_alloc_new] at hb2
  have HG := Lib.hid hg
  have HB2 := Lib.hid hb2
  clear hg hb2
  go_wp2_with fail
  refine bodyPost_ret (results_ent rfl _ _ w.heap.size ⟨0, 0, 0⟩ false ((heap_alloc_old _ _ (by simp; exact hz)).trans (box_set HB2.out ⟨0, 0, 0⟩)) rfl rfl) rfl ⟨rfl, HG.out.os, HG.out.tape, HG.out.output, by simp; omega, fun k hk _ => ?_⟩
  exact (heap_alloc_old _ _ (by simp; omega)).trans ((box_other (by omega)).trans ((HG.out.block k (by simp; omega) (by simp)).trans (heap_alloc_old _ _ hk)))

theorem run_cut_e (a : Option Addr) (len cap : Nat) (k : IntKind) (l : Int) (n : Nat) (e : l = n) (h1 : n ≤ cap) (w : World) :
    (Instr.slice 40 (.slice a len cap) none (some (.int k l)) none).run Try.prog w = .ok (.slice a n cap) w := by
  subst e
  obtain ⟨i0, hi, hz0, hz1, hz2⟩ := info_parts infoEnt
  have this : Program.elem Try.prog 40 = 30 := by kernel_rfl
  rw [run_slice_h (a := a) (len := len) (cap := cap) (ht := by rw [this]; exact Try.underlying40) (kh := k) (h := n) (h0 := by omega) (h2 := by omega)]
  cases a <;> simp [sliced, sizeOf, typeInfo, this, hi, hz1, Addr.add]

theorem downL_len (es : List Ent) : ∀ (d i : Nat), es.length - i = d → (downL es i).length = es.length := by
  intro d
  induction d using Nat.strongRecOn generalizing es with
  | _ d ih =>
    intro i hd
    rw [downL]
    split
    · rename_i h
      have := leastL_in h
      split
      · rw [ih _ (by subst hd; rw [swp_len]; omega) _ _ rfl, swp_len]
      · rfl
    · rfl

theorem down_r (w : World) (b i g cap : Nat) (es : List Ent) (r : Row3 w g cap es) (n : Nat) (hn : n = es.length) (hc : w.cell? ⟨b, i, none⟩ = some (.slice (some ⟨g, 0, none⟩) n cap)) (hgb : b ≠ g) (hbig : n ≤ 1000000) (j : Nat) (hj : j ≤ n) (x : Int) (hx : x = j) :
    Calls Try.prog 32 #[.pointer (some ⟨b, i, none⟩), .int .i64 x] w fun e w' => e = .returned (.tuple #[]) ∧ Row3 w' g cap (downL es j) ∧ w.grownBy w' (some g) := by
  subst hx hn; exact down_is w b i g cap es r hc hgb hbig j hj

/-- What is left behind Take. -/
def takeL (es : List Ent) : List Ent := downL ((es.set 0 es[es.length - 1]!).take (es.length - 1)) 0

set_option maxRecDepth 100000 in
set_option maxHeartbeats 2000000 in
theorem take_some {w : World} {base b i : Nat} {v : Value} {e : Ent} {es : List Ent} (h : IsHp w base b i v (e :: es)) (hbig : es.length ≤ 1000000) :
    Calls Try.prog 25 #[.pointer (some ⟨b, i, none⟩)] w fun x w' => ∃ v', x = .returned (.tuple #[e.agg, .bool true]) ∧ IsHp w' base b i v' (takeL (e :: es)) ∧ HFr w w' b i v v' := by
  have H := Lib.hid h
  obtain ⟨g, cap, rfl, hr, hgb, hb⟩ := h.head
  have hglt := hr.lt
  have hblt := h.lt
  have hcap := hr.le
  obtain ⟨n, hn⟩ : ∃ n, n = es.length := ⟨_, rfl⟩
  have hcut : ∀ W, (Instr.slice 40 (.slice (some ⟨g, 0, none⟩) (n + 1) cap) none (some (.int .i64 n)) none).run Try.prog W = .ok (.slice (some ⟨g, 0, none⟩) n cap) W := fun W => run_cut_e _ _ cap _ _ n rfl (by simp at hcap; omega) W
  have hsub : IntKind.i64.wrap ((n : Int) + 1 - 1) = (n : Int) := by rw [IntKind.wrap_i64]; omega
  rw [← hn] at hbig H ⊢
  have HN := Lib.hid hn
  have HR0 := Lib.hid hr
  clear h hr hn hcap
  go_enter Try.func25, Try.ntmps25
  go_wp2_with fail
  refine (first_some (H.out.grown (World.grownBy_alloc _ _ _)) (by rw [← HN.out]; exact hbig)).mono ?_
  rintro x w1 ⟨rfl, hg⟩
  have hz : w.heap.size < w1.heap.size := by have := hg.size; simp at this; omega
  have hb2 := hg.block w.heap.size (by simp) (by simp)
  rw [heap_alloc_new] at hb2
  have HG : Hid (w.grownBy w1 none) := Lib.hid ⟨hg.os, hg.tape, hg.output, by omega, fun k hk _ => (hg.block k (by simp; omega) (by simp)).trans (heap_alloc_old _ _ hk)⟩
  have HP := Lib.hid (H.out.grown HG.out)
  have HB2 := Lib.hid hb2
  clear hg hb2
  have hcw1 := HP.out.cell
  have hbw1 := HP.out.lt
  have hgw1 : g < w1.heap.size := (HP.out.ownlt g rfl).1
  go_wp2_with fail
  have HGW : Hid (w1.grownBy (w1.alloc (.cells #[.int .i64 e.w, .int .u64 e.o, .int .i64 e.g] 30)) none) := Lib.hid (World.grownBy_alloc _ _ _)
  have HY : Hid ((w1.alloc (.cells #[.int .i64 e.w, .int .u64 e.o, .int .i64 e.g] 30)).heap[w1.heap.size]? = some (.cells e.cells 30 (0, 0))) := Lib.hid (heap_alloc_new _ _)
  have HX : Hid ((w1.alloc (.cells #[.int .i64 e.w, .int .u64 e.o, .int .i64 e.g] 30)).heap[w.heap.size]? = some (.cells #[.int .i64 0, .int .u64 0, .int .i64 0] 30 (0, 0))) := Lib.hid ((heap_alloc_old _ _ hz).trans HB2.out)
  have hsz : (w1.alloc (.cells #[.int .i64 e.w, .int .u64 e.o, .int .i64 e.g] 30)).heap.size = w1.heap.size + 1 := by simp
  clear hcw1
  generalize (w1.alloc (.cells #[.int .i64 e.w, .int .u64 e.o, .int .i64 e.g] 30)) = W at *
  have HPW := Lib.hid (HP.out.grown HGW.out)
  have hr : Row3 W g cap (e :: es) := HR0.out.heap ((HGW.out.block g hgw1 (by simp)).trans (HG.out.block g hglt (by simp)))
  obtain ⟨x, hx⟩ : ∃ x, (e :: es)[n]! = x := ⟨_, rfl⟩
  have ex : (e :: es)[n]? = some x := by rw [← hx]; exact bang (by simp [HN.out])
  obtain ⟨x0, x1, x2⟩ := hr.cells ex
  obtain ⟨c0, c1, c2⟩ := hr.cells (i := 0) (e := e) rfl
  simp only [Nat.zero_mul, Nat.zero_add] at c0 c1 c2
  have hc := HPW.out.cell
  have hfr := hr.free
  have HR := Lib.hid hr
  have HXX := Lib.hid hx
  have HSZ := Lib.hid hsz
  clear hr hx ex hsz
  go_wp2_with fail
  go_region
  have hr1 : Row3 (((W.setCell ⟨g, 0, none⟩ (.int .i64 x.w)).setCell ⟨g, 1, none⟩ (.int .u64 x.o)).setCell ⟨g, 2, none⟩ (.int .i64 x.g)).drew g cap ((e :: es).set 0 x) := by
    have := HR.out.set (i := 0) (by simp) x
    simp only [Nat.zero_mul, Nat.zero_add] at this
    exact this.drew
  have hd1 : W.grownBy (((W.setCell ⟨g, 0, none⟩ (.int .i64 x.w)).setCell ⟨g, 1, none⟩ (.int .u64 x.o)).setCell ⟨g, 2, none⟩ (.int .i64 x.g)).drew (some g) :=
    grown_drew3 (grown_set3 (grown_set3 (grown_set3 (World.grownBy.refl _ _) _ _) _ _) _ _)
  have HR1 := Lib.hid hr1
  have HD1 := Lib.hid hd1
  clear hr1 hd1 x0 x1 x2 c0 c1 c2 hfr hc
  generalize (((W.setCell ⟨g, 0, none⟩ (.int .i64 x.w)).setCell ⟨g, 1, none⟩ (.int .u64 x.o)).setCell ⟨g, 2, none⟩ (.int .i64 x.g)).drew = V at *
  have hbW : b < W.heap.size := by rw [HSZ.out]; omega
  have hVb : V.heap[b]? = W.heap[b]? := HD1.out.block b hbW (fun e => hgb (Option.some.inj e).symm)
  have hc : V.cell? ⟨b, i, none⟩ = some (.slice (some ⟨g, 0, none⟩) (n + 1) cap) := (World.cell?_of_block (a := ⟨b, i, none⟩) hVb).trans HPW.out.cell
  have hf : V.frozen? ⟨b, i, none⟩ = false := (World.frozen?_of_block (a := ⟨b, i, none⟩) hVb).trans HPW.out.free
  have HVB := Lib.hid hVb
  have HCV := Lib.hid (And.intro hc hf)
  clear hVb
  go_wp2_with fail
  have hr2 : Row3 (V.setCell ⟨b, i, none⟩ (.slice (some ⟨g, 0, none⟩) n cap)) g cap (((e :: es).set 0 x).take n) := (HR1.out.take n (by simp [HN.out])).heap (heap_setCell_other _ _ _ _ hgb)
  refine (down_r _ b i g cap _ hr2 n (by simp [HN.out]) (World.cell?_setCell_same _ _ _ hc) (fun e => hgb e.symm) hbig 0 (Nat.zero_le _) _ rfl).mono ?_
  rintro y w3 ⟨rfl, hr3, hg3⟩
  have he3 : downL (((e :: es).set 0 x).take n) 0 = takeL (e :: es) := by
    unfold takeL
    rw [show (e :: es).length - 1 = n by simp [HN.out], HXX.out]
  rw [he3] at hr3
  have hsV := HD1.out.size
  have hs3 := hg3.size
  simp only [World.size_setCell] at hs3
  have hkeep : ∀ k, k ≠ g → k ≠ b → k < W.heap.size → w3.heap[k]? = W.heap[k]? := fun k h1 h2 h3 =>
    (hg3.block k (by simp; omega) (fun e => h1 (Option.some.inj e))).trans ((heap_setCell_other _ _ _ _ h2).trans (HD1.out.block k h3 (fun e => h1 (Option.some.inj e))))
  have hb3 : w3.heap[b]? = (V.setCell ⟨b, i, none⟩ (.slice (some ⟨g, 0, none⟩) n cap)).heap[b]? := hg3.block b (by simp; omega) (fun e => hgb (Option.some.inj e).symm)
  have hX3 := (hkeep w.heap.size (by omega) (by omega) (by rw [HSZ.out]; omega)).trans HX.out
  have hY3 := (hkeep w1.heap.size (by omega) (by omega) (by rw [HSZ.out]; omega)).trans HY.out
  have y0 : w3.cell? ⟨w1.heap.size, 0, none⟩ = some (.int .i64 e.w) := cell_of_row _ _ 0 _ _ _ hY3
  have y1 : w3.cell? ⟨w1.heap.size, 1, none⟩ = some (.int .u64 e.o) := cell_of_row _ _ 1 _ _ _ hY3
  have y2 : w3.cell? ⟨w1.heap.size, 2, none⟩ = some (.int .i64 e.g) := cell_of_row _ _ 2 _ _ _ hY3
  have z0 : w3.cell? ⟨w.heap.size, 0, none⟩ = some (.int .i64 0) := cell_of_row _ _ 0 _ _ _ hX3
  have z1 : w3.cell? ⟨w.heap.size, 1, none⟩ = some (.int .u64 0) := cell_of_row _ _ 1 _ _ _ hX3
  have z2 : w3.cell? ⟨w.heap.size, 2, none⟩ = some (.int .i64 0) := cell_of_row _ _ 2 _ _ _ hX3
  have fz : ∀ o, w3.frozen? ⟨w.heap.size, o, none⟩ = false := fun o => frozen_of_row _ _ o _ _ hX3
  have HX3 := Lib.hid hX3
  have HR3 := Lib.hid hr3
  have HE := Lib.hid (And.intro (And.intro hg3.os (And.intro hg3.tape hg3.output)) (And.intro (show w.heap.size ≤ w3.heap.size from by rw [HSZ.out] at hsV; omega) (And.intro hkeep hb3)))
  clear hr2 hr3 hg3 he3 hsV hs3 hkeep hb3 hX3 hY3 hc hf
  go_wp2_with fail
  refine bodyPost_ret (results_ent rfl _ _ w.heap.size e true (box_set HX3.out e) rfl rfl) rfl ⟨.slice (some ⟨g, 0, none⟩) n cap, rfl, ?_, ?_⟩
  · have hbB : ((((w3.setCell ⟨w.heap.size, 0, none⟩ (.int .i64 e.w)).setCell ⟨w.heap.size, 1, none⟩ (.int .u64 e.o)).setCell ⟨w.heap.size, 2, none⟩ (.int .i64 e.g))).heap[b]? = (V.setCell ⟨b, i, none⟩ (.slice (some ⟨g, 0, none⟩) n cap)).heap[b]? := (box_other (by omega)).trans HE.out.2.2.2
    refine ⟨(World.cell?_of_block (a := ⟨b, i, none⟩) hbB).trans (World.cell?_setCell_same _ _ _ HCV.out.1), (World.frozen?_of_block (a := ⟨b, i, none⟩) hbB).trans (by rw [World.frozen?_setCell]; exact HCV.out.2), .inr ⟨g, cap, ?_, HR3.out.heap (box_other (by omega)), hgb, hb⟩⟩
    unfold takeL; rw [downL_len _ _ _ rfl]; simp [HN.out]
  · refine ⟨HE.out.1.1.trans (HD1.out.os.trans (HGW.out.os.trans HG.out.os)), HE.out.1.2.1.trans (HD1.out.tape.trans (HGW.out.tape.trans HG.out.tape)), HE.out.1.2.2.trans (HD1.out.output.trans (HGW.out.output.trans HG.out.output)), by rw [box_size]; exact HE.out.2.1, fun k hk hkb hkv => ?_, ?_, .inl rfl⟩
    · have hkg : k ≠ g := fun e => hkv (by rw [e]; rfl)
      exact (box_other (by omega)).trans ((HE.out.2.2.1 k hkg hkb (by rw [HSZ.out]; omega)).trans ((HGW.out.block k (by omega) (by simp)).trans (HG.out.block k hk (by simp))))
    · exact (box_other (by omega)).trans (HE.out.2.2.2.trans (setCell_congr _ (HVB.out.trans ((HGW.out.block b hbw1 (by simp)).trans (HG.out.block b hblt (by simp))))))
end Go.Proofs.Ytmaahidipbghfaa.Hp
