/-
  Small laws beside the kit's: a large struct stored into, and loaded out of, a block in one step.
-/
import Derived.Test.YtkcoidapnmoljaaRows
import Derived.WalkKit
import Derived.WalkSpells
import Derived.WalkLawsBesides
import Derived.Lib.Hide
import Derived.RegionTactic
import Derived.OpenShut
import Derived.Laws.CopyRow
namespace Go.Proofs.Ytkcoidapnmoljaa.Big
open Go.RowKit
set_option linter.unusedVariables false

theorem setRow_alloc (w : World) (cur vs : Array Value) (t : TypeId) : (w.alloc (.cells cur t)).setRow w.heap.size vs = w.alloc (.cells vs t) := by
  simp only [World.setRow, World.alloc]
  congr 1
  apply Array.ext_getElem?
  intro i
  rw [Array.getElem?_modify]
  by_cases h : w.heap.size = i
  · subst h; simp
  · rw [if_neg h]
    by_cases h2 : i < w.heap.size
    · rw [Array.getElem?_push_lt h2, Array.getElem?_push_lt h2]
    · rw [Array.getElem?_eq_none (by simp; omega), Array.getElem?_eq_none (by simp; omega)]

def aggB (P : Program) (ty : TypeId) : Bool := match P.underlying ty with | some (.struct _) => true | some (.array _ _) => true | _ => false
def szB (P : Program) (ty : TypeId) (n : Nat) : Bool := (P.info? ty).map (·.size) == some n
def oneB (vs : List Value) : Bool := vs.all (·.oneCell')

theorem oneB_nil : oneB [] = true := rfl
theorem oneB_cons (v : Value) (vs : List Value) : oneB (v :: vs) = (v.oneCell' && oneB vs) := rfl
theorem one_int (k : IntKind) (n : Int) : (Value.int k n).oneCell' = true := rfl
theorem one_bool (b : Bool) : (Value.bool b).oneCell' = true := rfl
theorem one_slice (a : Option Addr) (n c : Nat) : (Value.slice a n c).oneCell' = true := rfl
theorem one_pointer (a : Option Addr) : (Value.pointer a).oneCell' = true := rfl
theorem one_map (a : Option Nat) : (Value.map a).oneCell' = true := rfl
theorem one_string (a : ByteArray) : (Value.string a).oneCell' = true := rfl

theorem run_storeVar_row {P : Program} (w : World) (g : Nat) (ty t : TypeId) (cur vs : Array Value) (hg : w.heap[g]? = some (.cells cur t (0, 0))) (hz : szB P ty vs.size = true) (hs : cur.size = vs.size)
    (h1 : oneB vs.toList = true) : (storeVar ty ⟨g, 0, none⟩ (.agg vs)).run P w = .ok () (w.setRow g vs) := by
  obtain ⟨i, hi, hsz⟩ := Option.map_eq_some_iff.1 (show (P.info? ty).map (·.size) = some vs.size by simpa [szB] using hz)
  have hst := run_storeCells_at (P := P) g 0 t vs.toList 0 cur w hg (by simp; omega) (by unfold oneB at h1; exact List.all_eq_true.1 h1)
  have e : (cur.toList.take (0 + 0) ++ vs.toList ++ cur.toList.drop (0 + 0 + vs.toList.length)).toArray = vs := by
    simp
    rw [List.drop_eq_nil_of_le (by simp; omega)]; simp
  rw [e] at hst
  simp [storeVar, Sem.run_bind, sizeOf, typeInfo, hi, hsz, Value.cells, hst]

theorem run_storeVar_new {P : Program} (w : World) (n : Nat) (ty t : TypeId) (cur vs : Array Value) (hn : n = w.heap.size) (hz : szB P ty vs.size = true) (hs : cur.size = vs.size)
    (h1 : oneB vs.toList = true) : (storeVar ty ⟨n, 0, none⟩ (.agg vs)).run P (w.alloc (.cells cur t)) = .ok () (w.alloc (.cells vs t)) := by
  subst hn
  rw [run_storeVar_row _ _ _ t cur vs (heap_alloc_new w _) hz hs h1, setRow_alloc]

theorem run_loadVar_blk {P : Program} (w : World) (g : Nat) (ty t : TypeId) (cs : Array Value) (fr : Nat × Nat) (hg : w.heap[g]? = some (.cells cs t fr)) (ha : aggB P ty = true) (hi : szB P ty cs.size = true) :
    (loadVar ty ⟨g, 0, none⟩).run P w = .ok (.agg cs) w := by
  unfold aggB at ha
  have hi' : (P.info? ty).map (·.size) = some cs.size := by simpa [szB] using hi
  split at ha
  · rename_i fs hu; exact run_loadVar_row w g t ty cs fr _ hg hu rfl hi'
  · rename_i a b hu; exact run_loadVar_row w g t ty cs fr _ hg hu rfl hi'
  · cases ha

theorem run_loadVar_new {P : Program} (w : World) (n : Nat) (ty t : TypeId) (cs : Array Value) (hn : n = w.heap.size) (ha : aggB P ty = true) (hi : szB P ty cs.size = true) :
    (loadVar ty ⟨n, 0, none⟩).run P (w.alloc (.cells cs t)) = .ok (.agg cs) (w.alloc (.cells cs t)) := by
  subst hn
  exact run_loadVar_blk _ _ ty t cs (0, 0) (heap_alloc_new w _) ha hi

theorem wpList_store_new {P : Program} {ops : Array Oper} {rest : List Oper} {o : Oper} {a : Act} {Q : Exit → Act → World → Prop} (hgd : o.guard = none) (hd : o.dst = none) (ty : TypeId) (x y : Operand) (ho : o.op = .store ty x y)
    (w : World) (cur vs : Array Value) (t : TypeId) (n : Nat) (hx : a.eval x = .pointer (some ⟨n, 0, none⟩)) (hn : n = w.heap.size) (hy : a.eval y = .agg vs) (hz : szB P ty vs.size = true) (hs : cur.size = vs.size) (h1 : oneB vs.toList = true)
    (h : wpList P ops Q rest a (w.alloc (.cells vs t))) : wpList P ops Q (o :: rest) a (w.alloc (.cells cur t)) :=
  wpList_plain hgd fun _ hK => by
    have h2 : (execOp a.eval o).run P (w.alloc (.cells cur t)) = .ok .skip (w.alloc (.cells vs t)) := by
      unfold execOp
      simp only [ho, hx, hy, Instr.storeAt, Instr.sureAddr, Sem.run_bind, Sem.run_pure, Result.andThen_ok, run_storeVar_new w n ty t cur vs hn hz hs h1]
    unfold Oper.wp
    rw [h2, Oper.upon_skip, hd]
    exact hK _ _ h

theorem setRow_alloc_past (w : World) (o : Obj) (g : Nat) (vs : Array Value) (h : g < w.heap.size) : (w.alloc o).setRow g vs = (w.setRow g vs).alloc o := by
  simp only [World.setRow, World.alloc]
  congr 1
  apply Array.ext_getElem?
  intro i
  rw [Array.getElem?_modify]
  simp only [Array.getElem?_push, Array.size_modify, Array.getElem?_modify]
  by_cases hi : i = w.heap.size
  · subst hi
    simp only [↓reduceIte]
    rw [if_neg (by omega)]
  · simp only [if_neg hi]

/-- A store into the block before the newest one. -/
theorem wpList_store_new2 {P : Program} {ops : Array Oper} {rest : List Oper} {o : Oper} {a : Act} {Q : Exit → Act → World → Prop} (hgd : o.guard = none) (hd : o.dst = none) (ty : TypeId) (x y : Operand) (ho : o.op = .store ty x y)
    (w : World) (cur vs : Array Value) (t : TypeId) (ob : Obj) (n : Nat) (hx : a.eval x = .pointer (some ⟨n, 0, none⟩)) (hn : n = w.heap.size) (hy : a.eval y = .agg vs) (hz : szB P ty vs.size = true) (hs : cur.size = vs.size) (h1 : oneB vs.toList = true)
    (h : wpList P ops Q rest a ((w.alloc (.cells vs t)).alloc ob)) : wpList P ops Q (o :: rest) a ((w.alloc (.cells cur t)).alloc ob) :=
  wpList_plain hgd fun _ hK => by
    have h2 : (execOp a.eval o).run P ((w.alloc (.cells cur t)).alloc ob) = .ok .skip ((w.alloc (.cells vs t)).alloc ob) := by
      unfold execOp
      subst hn
      have := run_storeVar_row (P := P) ((w.alloc (.cells cur t)).alloc ob) w.heap.size ty t cur vs (heap_alloc2_old w _ _) hz hs h1
      rw [setRow_alloc_past _ _ _ _ (by simp), setRow_alloc] at this
      simp only [ho, hx, hy, Instr.storeAt, Instr.sureAddr, Sem.run_bind, Sem.run_pure, Result.andThen_ok, this]
    unfold Oper.wp
    rw [h2, Oper.upon_skip, hd]
    exact hK _ _ h

theorem wpList_store_blk {P : Program} {ops : Array Oper} {rest : List Oper} {o : Oper} {a : Act} {w : World} {Q : Exit → Act → World → Prop} (hgd : o.guard = none) (hd : o.dst = none) (ty : TypeId) (x y : Operand) (ho : o.op = .store ty x y)
    (g : Nat) (cur vs : Array Value) (t : TypeId) (hg : w.heap[g]? = some (.cells cur t (0, 0))) (hx : a.eval x = .pointer (some ⟨g, 0, none⟩)) (hy : a.eval y = .agg vs) (hz : szB P ty vs.size = true) (hs : cur.size = vs.size) (h1 : oneB vs.toList = true)
    (h : wpList P ops Q rest a (w.setRow g vs)) : wpList P ops Q (o :: rest) a w :=
  wpList_plain hgd fun _ hK => by
    have h2 : (execOp a.eval o).run P w = .ok .skip (w.setRow g vs) := by
      unfold execOp
      simp only [ho, hx, hy, Instr.storeAt, Instr.sureAddr, Sem.run_bind, Sem.run_pure, Result.andThen_ok, run_storeVar_row w g ty t cur vs hg hz hs h1]
    unfold Oper.wp
    rw [h2, Oper.upon_skip, hd]
    exact hK _ _ h

theorem wpList_load_new {P : Program} {ops : Array Oper} {rest : List Oper} {o : Oper} {a : Act} {Q : Exit → Act → World → Prop} (hgd : o.guard = none) (ty : TypeId) (x : Operand) (ho : o.op = .load ty x)
    (w : World) (cs : Array Value) (t : TypeId) (n : Nat) (hx : a.eval x = .pointer (some ⟨n, 0, none⟩)) (hn : n = w.heap.size) (ha : aggB P ty = true) (hz : szB P ty cs.size = true)
    (h : wpList P ops Q rest (a.put o.dst (.agg cs)) (w.alloc (.cells cs t))) : wpList P ops Q (o :: rest) a (w.alloc (.cells cs t)) :=
  wpList_plain hgd fun _ hK => by
    have h2 : (execOp a.eval o).run P (w.alloc (.cells cs t)) = .ok (.value (.agg cs)) (w.alloc (.cells cs t)) := by
      unfold execOp
      simp only [ho, hx, Instr.loadAt, Instr.sureAddr, Sem.run_bind, Sem.run_pure, Result.andThen_ok, run_loadVar_new w n ty t cs hn ha hz]
    unfold Oper.wp
    rw [h2, Oper.upon_value]
    exact hK _ _ h

theorem wpList_load_blk {P : Program} {ops : Array Oper} {rest : List Oper} {o : Oper} {a : Act} {w : World} {Q : Exit → Act → World → Prop} (hgd : o.guard = none) (ty : TypeId) (x : Operand) (ho : o.op = .load ty x)
    (g : Nat) (cs : Array Value) (t : TypeId) (fr : Nat × Nat) (hg : w.heap[g]? = some (.cells cs t fr)) (hx : a.eval x = .pointer (some ⟨g, 0, none⟩)) (ha : aggB P ty = true) (hz : szB P ty cs.size = true)
    (h : wpList P ops Q rest (a.put o.dst (.agg cs)) w) : wpList P ops Q (o :: rest) a w :=
  wpList_plain hgd fun _ hK => by
    have h2 : (execOp a.eval o).run P w = .ok (.value (.agg cs)) w := by
      unfold execOp
      simp only [ho, hx, Instr.loadAt, Instr.sureAddr, Sem.run_bind, Sem.run_pure, Result.andThen_ok, run_loadVar_blk w g ty t cs fr hg ha hz]
    unfold Oper.wp
    rw [h2, Oper.upon_value]
    exact hK _ _ h

/-- As wpList_load_blk, of an operation under a guard that is known to be met. -/
theorem wpList_load_blk_g {P : Program} {ops : Array Oper} {rest : List Oper} {o : Oper} {a : Act} {w : World} {Q : Exit → Act → World → Prop} (hw : Region.wanted o (yielded ops a.tmps) = true) (ty : TypeId) (x : Operand) (ho : o.op = .load ty x)
    (g : Nat) (cs : Array Value) (t : TypeId) (fr : Nat × Nat) (hg : w.heap[g]? = some (.cells cs t fr)) (hx : a.eval x = .pointer (some ⟨g, 0, none⟩)) (ha : aggB P ty = true) (hz : szB P ty cs.size = true)
    (h : wpList P ops Q rest (a.put o.dst (.agg cs)) w) : wpList P ops Q (o :: rest) a w :=
  wpList_step fun _ hK => by
    have h2 : (execOp a.eval o).run P w = .ok (.value (.agg cs)) w := by
      unfold execOp
      simp only [ho, hx, Instr.loadAt, Instr.sureAddr, Sem.run_bind, Sem.run_pure, Result.andThen_ok, run_loadVar_blk w g ty t cs fr hg ha hz]
    rw [if_pos hw]
    unfold Oper.wp
    rw [h2, Oper.upon_value]
    exact hK _ _ h

/-- A new variable of a large type. -/
theorem wpList_alloc_c {P : Program} {ops : Array Oper} {rest : List Oper} {o : Oper} {a : Act} {w : World} {Q : Exit → Act → World → Prop} (hgd : o.guard = none) (t : TypeId) (ho : o.op = .alloc t)
    (cells : Array Value) (hz : ∀ w, (zeroValue t).run P w = .ok (.agg cells) w)
    (h : wpList P ops Q rest (a.put o.dst (.pointer (some ⟨w.heap.size, 0, none⟩))) (w.alloc (.cells cells t))) : wpList P ops Q (o :: rest) a w :=
  wpList_plain hgd fun _ hK => by
    have h2 : (execOp a.eval o).run P w = .ok (.value (.pointer (some ⟨w.heap.size, 0, none⟩))) (w.alloc (.cells cells t)) := by
      unfold execOp
      simp only [ho]
      simp [Instr.alloc, Sem.run_bind, hz, newVar, newRow, Value.cells]
    unfold Oper.wp
    rw [h2, Oper.upon_value]
    exact hK _ _ h

/-- A large struct's literal. -/
theorem wpList_build_c {P : Program} {ops : Array Oper} {rest : List Oper} {o : Oper} {a : Act} {w : World} {Q : Exit → Act → World → Prop} (hg : o.guard = none) (t : TypeId) (parts : Array (Nat × Operand)) (ho : o.op = .build t parts)
    (vals : List (Nat × Value)) (cells : Array Value) (hv : (parts.map fun (i, x) => (i, a.eval x)).toList = vals) (hb : P.built t vals = some cells)
    (h : wpList P ops Q rest (a.put o.dst (.agg cells)) w) : wpList P ops Q (o :: rest) a w :=
  wpList_build hg t parts ho (by rw [hv, hb]; rfl) (by rw [hv, hb]; exact h)

/-- A result that lies in the newest block. -/
theorem results_cell_new {P : Program} {fn : Func} {p : Tmp} {ty : TypeId} (h : fn.results = #[.cell p ty]) (tmps : Array Value) (w : World) (t : TypeId) (cs : Array Value)
    (n : Nat) (hp : tmps.getD p undef = .pointer (some ⟨n, 0, none⟩)) (hn : n = w.heap.size) (ha : aggB P ty = true) (hz : szB P ty cs.size = true) :
    (results fn tmps).run P (w.alloc (.cells cs t)) = .ok (.agg cs) (w.alloc (.cells cs t)) := by
  have hp' : tmps[p]?.getD undef = .pointer (some ⟨n, 0, none⟩) := by simpa using hp
  simp [results, h, hp', asAddr, run_loadVar_new w n ty t cs hn ha hz]
theorem results_cell_blk {P : Program} {fn : Func} {p : Tmp} {ty : TypeId} (h : fn.results = #[.cell p ty]) (tmps : Array Value) (w : World) (g : Nat) (t : TypeId) (cs : Array Value) (fr : Nat × Nat) (hg : w.heap[g]? = some (.cells cs t fr))
    (hp : tmps.getD p undef = .pointer (some ⟨g, 0, none⟩)) (ha : aggB P ty = true) (hz : szB P ty cs.size = true) :
    (results fn tmps).run P w = .ok (.agg cs) w := by
  have hp' : tmps[p]?.getD undef = .pointer (some ⟨g, 0, none⟩) := by simpa using hp
  simp [results, h, hp', asAddr, run_loadVar_blk w g ty t cs fr hg ha hz]
end Go.Proofs.Ytkcoidapnmoljaa.Big
