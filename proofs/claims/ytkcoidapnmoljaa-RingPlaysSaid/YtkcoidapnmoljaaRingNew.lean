/-
  Package ring: New, Copy, List.
-/
import Derived.Test.YtkcoidapnmoljaaRingCut
import Derived.Test.YtkcoidapnmoljaaBig
namespace Go.Proofs.Ytkcoidapnmoljaa.Rng
open Go.RowKit
open Go.Proofs.Ytkcoidapnmoljaa.Ints
set_option linter.unusedVariables false

theorem rc_size {s : List Int} {h n : Nat} {is : Bool} {nx st : Int} (hs : s.length = 256) : (rcells s h n is nx st).size = 261 := by
  simp [rcells, tailCells, hs]
theorem rc_one {s : List Int} {h n : Nat} {is : Bool} {nx st : Int} : Big.oneB (rcells s h n is nx st).toList = true := by
  simp [Big.oneB, rcells, tailCells, Value.oneCell']
theorem aggR : Big.aggB Try.prog T = true := by kernel_rfl
theorem szR : Big.szB Try.prog T 261 = true := by kernel_rfl
def zeros : List Int := List.replicate 256 0
theorem zeros_len : zeros.length = 256 := List.length_replicate
theorem infoR : (Try.prog.info? T).map (fun i => i.zero) = some (some (.agg (rcells zeros 0 0 false 0 0))) := by kernel_rfl
theorem zero_of {P : Program} {t : TypeId} {C : Array Value} (h : (P.info? t).map (fun i => i.zero) = some (some (.agg C))) (w : World) : (zeroValue t).run P w = .ok (.agg C) w := by
  obtain ⟨i, hi, hz⟩ := Option.map_eq_some_iff.1 h
  simp [zeroValue, typeInfo, hi, hz]
theorem zeroR (w : World) : (zeroValue T).run Try.prog w = .ok (.agg (rcells zeros 0 0 false 0 0)) w := zero_of infoR w
theorem builtR : Try.prog.built T [(4, .int .i64 (-1))] = some (rcells zeros 0 0 false (-1) 0) := by kernel_rfl

theorem raw_new {w : World} {s : List Int} {h n : Nat} {is : Bool} {nx st : Int} (hs : s.length = 256) (hh : h < 256) (hn : n ≤ 256) : Raw (w.alloc (.cells (rcells s h n is nx st) T)) w.heap.size s h n is nx st :=
  ⟨heap_alloc_new _ _, hs, hh, hn⟩

theorem wpList_build_new {ops : Array Oper} {rest : List Oper} {o : Oper} {a : Act} {w : World} {Q : Exit → Act → World → Prop} (hg : o.guard = none) (ho : o.op = .build T #[(4, .const (.int .i64 (-1)))]) (C : Array Value)
    (hb : Try.prog.built T [(4, .int .i64 (-1))] = some C) (h : wpList Try.prog ops Q rest (a.put o.dst (.agg C)) w) : wpList Try.prog ops Q (o :: rest) a w :=
  Big.wpList_build_c hg T _ ho [(4, .int .i64 (-1))] C (by simp [Act.eval]) hb h

set_option maxRecDepth 100000 in
set_option maxHeartbeats 400000 in
theorem new_is (w : World) : Calls Try.prog 9 #[] w fun e w' => e = .returned (.pointer (some ⟨w.heap.size, 0, none⟩)) ∧ IsR w' w.heap.size [] none 0 ∧ w.grownBy w' none := by
  have HB := builtR
  have HR := Lib.hid (raw_new (w := w) (s := zeros) (h := 0) (n := 0) (is := false) (nx := -1) (st := 0) zeros_len (by decide) (by decide))
  generalize rcells zeros 0 0 false (-1) 0 = C at HB HR
  go_enter Try.func9, Try.ntmps9
  go_wp2_with (refine wpList_build_new rfl rfl C HB ?_)
  go_ret
  exact ⟨rfl, ⟨_, 0, -1, HR.out, by decide, by decide, fun i x hx => by simp at hx⟩, World.grownBy_alloc w _ none⟩

set_option maxHeartbeats 400000 in
theorem copy_is {w : World} {b : Nat} {row : List Int} {nxt : Option Int} {st : Int} (r : IsR w b row nxt st) :
    Calls Try.prog 28 #[.pointer (some ⟨b, 0, none⟩)] w fun e w' => e = .returned (.pointer (some ⟨w.heap.size, 0, none⟩)) ∧ IsR w' w.heap.size row nxt st ∧ w.grownBy w' none := by
  obtain ⟨s, h, nx, r, a, c, d⟩ := r
  have hz : Big.szB Try.prog T (rcells s h row.length nxt.isSome (nxt.getD nx) st).size = true := by rw [rc_size r.len]; exact szR
  have h1 : Big.oneB (rcells s h row.length nxt.isSome (nxt.getD nx) st).toList = true := rc_one
  have hs : (rcells zeros 0 0 false 0 0).size = (rcells s h row.length nxt.isSome (nxt.getD nx) st).size := by rw [rc_size r.len, rc_size zeros_len]
  have hb := r.blk
  have hr : ∀ W : World, Raw (W.alloc (.cells (rcells s h row.length nxt.isSome (nxt.getD nx) st) T)) W.heap.size s h row.length nxt.isSome (nxt.getD nx) st := fun W => raw_new r.len r.head r.size
  generalize rcells s h row.length nxt.isSome (nxt.getD nx) st = C at hz h1 hs hb hr
  have HZ := zeroR
  generalize rcells zeros 0 0 false 0 0 = Z at hs HZ
  have HR := Lib.hid hr
  clear hr r
  go_enter Try.func28, Try.ntmps28
  go_wp2_with (first | (refine Big.wpList_load_blk rfl T _ rfl b _ _ _ hb rfl aggR (by exact hz) ?_) | (refine Big.wpList_alloc_c rfl T rfl Z (by exact HZ) ?_) | (refine Big.wpList_store_new rfl rfl T _ _ rfl _ _ _ _ _ rfl ?_ rfl (by exact hz) (by exact hs) (by exact h1) ?_; next => (simp; done)))
  go_ret
  exact ⟨rfl, ⟨s, h, nx, HR.out w, a, c, d⟩, World.grownBy_alloc w _ none⟩

set_option maxHeartbeats 400000 in
theorem list_is {w : World} {b : Nat} {row : List Int} {nxt : Option Int} {st : Int} (r : IsR w b row nxt st) :
    Calls Try.prog 17 #[.pointer (some ⟨b, 0, none⟩)] w fun e w' => ∃ v, e = .returned v ∧ Owns w' w.heap.size v (row ++ nxt.toList) ∧ w.grownBy w' none := by
  have hrl : row.length ≤ 256 := by obtain ⟨_, _, _, r, _⟩ := r; exact r.size
  have R := Lib.hid r
  clear r
  go_enter Try.func17, Try.ntmps17
  go_wp2_with fail
  refine (copy_is R.out).mono ?_
  rintro e w1 ⟨rfl, hr, hg⟩
  obtain ⟨c7, c8, ⟨nx, c9⟩, c10, f⟩ := cells_is hr
  have hlt := hr.lt
  have HR := Lib.hid hr
  have HG := Lib.hid hg
  clear hr hg
  go_wp2_with fail
  refine (pop_is HR.out row.length (Nat.le_refl _)).mono ?_
  rintro e w2 ⟨v, rfl, ho, hr2, hg2⟩
  obtain ⟨d7, d8, ⟨nx2, d9⟩, d10, f2⟩ := cells_is hr2
  have HO := Lib.hid (show Owns w2 w1.heap.size v row by simpa using ho)
  have hsz2 := hg2.size
  have HG2 : Hid (w.grownBy w2 none) := Lib.hid (⟨hg2.os.trans HG.out.os, hg2.tape.trans HG.out.tape, hg2.output.trans HG.out.output, Nat.le_trans HG.out.size hg2.size, fun j hj _ => (hg2.block j (Nat.lt_of_lt_of_le hj HG.out.size) (fun e => by have := Option.some.inj e; omega)).trans (HG.out.block j hj (by simp))⟩)
  clear ho hr2 hg2 c7 c8 c9 c10 f d7 d10
  cases nxt with
  | none =>
    simp only [Option.isSome_none] at d8
    go_wp2
    go_ret
    exact ⟨_, rfl, by simpa using HO.out.lower HG.out.size, HG2.out⟩
  | some g =>
    simp only [Option.isSome_some, Option.getD_some] at d8 d9
    go_wp2_with (refine wpList_append_one rfl _ _ rfl w2 w1.heap.size v row g rfl HO.out rfl ?ql hsz2 ?_)
    case ql => omega
    intro v' w3 ho3 hg3
    have HO3 := Lib.hid (ho3.lower HG.out.size)
    have HG3 : Hid (w.grownBy w3 none) := Lib.hid (grown_trans HG2.out hg3 (fun j hj => .inl (Nat.le_trans HG.out.size (HO.out.block hj).1)))
    clear ho3 hg3
    go_wp2
    go_ret
    exact ⟨_, rfl, HO3.out, HG3.out⟩
end Go.Proofs.Ytkcoidapnmoljaa.Rng
