/-
  A map that counts entries.
-/
import Derived.Test.YtlnbjnkmhabdaaaHeapEql
import Derived.MapKept
import Derived.OwnWalk
namespace Go.Proofs.Ytlnbjnkmhabdaaa.MapE
open Go.RowKit Go.MapKept
open Go.Proofs.Ytlnbjnkmhabdaaa.Hp
set_option linter.unusedVariables false

theorem agg_inj {a b : Ent} (h : a.agg = b.agg) : a = b := by
  cases a; cases b; simp at h; simp [h]
theorem run_equal_ent (a b : Ent) (w : World) : (Op.equal 24 a.agg b.agg).run Try.prog w = .ok (decide (a = b)) w := by
  unfold Op.equal Op.maxDepth
  go_simp
  cases a; cases b
  simp only [Ent.mk.injEq]
  (repeat' split) <;> simp [*]
theorem run_check (b : Bool) (e : Ent) (w : World) : (Instr.checkKey b 10000 24 e.agg).run Try.prog w = .ok () w := by kernel_rfl
theorem same_none {k v : Value} {fs : Array Field} : Instr.sameNow (.struct fs) k v = none := by
  unfold Instr.sameNow; rfl

theorem run_asking (e : Ent) (w : World) : ∀ (l : List MapEntry) (i : Nat), (∀ x ∈ l, ∃ y : Ent, x.key = y.agg) →
    (Instr.findAsking 24 e.agg l i).run Try.prog w = .ok none w ∧ (∀ x ∈ l, x.key ≠ e.agg) ∨ ∃ j x, (Instr.findAsking 24 e.agg l i).run Try.prog w = .ok (some (i + j, x.val)) w ∧ l[j]? = some x ∧ x.key = e.agg := by
  intro l
  induction l with
  | nil => intro i _; exact .inl ⟨by simp [Instr.findAsking], by simp⟩
  | cons x t ih =>
    intro i hk
    obtain ⟨y, hy⟩ := hk x (by simp)
    have hrun : (Instr.findAsking 24 e.agg (x :: t) i).run Try.prog w = if decide (e = y) = true then .ok (some (i, x.val)) w else (Instr.findAsking 24 e.agg t (i + 1)).run Try.prog w := by
      rw [Instr.findAsking]
      simp only [Sem.run_bind, hy, run_equal_ent, Result.andThen]
      split <;> simp_all
    by_cases h : e = y
    · subst h
      right
      refine ⟨0, x, ?_, rfl, hy⟩
      rw [hrun]; simp
    · rw [if_neg (by simpa using h)] at hrun
      rcases ih (i + 1) (fun z hz => hk z (by simp [hz])) with ⟨h1, h2⟩ | ⟨j, z, h1, h2, h3⟩
      · left
        refine ⟨by rw [hrun, h1], fun z hz => ?_⟩
        rcases List.mem_cons.1 hz with rfl | hz
        · rw [hy]; exact fun e2 => h (agg_inj e2).symm
        · exact h2 z hz
      · right
        refine ⟨j + 1, z, by rw [hrun, h1]; congr 3; omega, by simpa using h2, h3⟩

/-- The block holds a map that counts entries. -/
def IsCnt (w : World) (b : Nat) (c : Ent → Int) : Prop :=
  ∃ es clock, w.heap[b]? = some (.map es clock) ∧ Stamped es clock ∧ (∀ x ∈ es.toList, ∃ y : Ent, x.key = y.agg ∧ x.val = .int .i64 (c y)) ∧ ∀ e : Ent, (∀ x ∈ es.toList, x.key ≠ e.agg) → c e = 0

theorem IsCnt.lt {w : World} {b : Nat} {c : Ent → Int} (h : IsCnt w b c) : b < w.heap.size := by obtain ⟨es, k, hb, _⟩ := h; exact (Array.getElem?_eq_some_iff.1 hb).1
theorem IsCnt.heap {w w' : World} {b : Nat} {c : Ent → Int} (h : IsCnt w b c) (e : w'.heap[b]? = w.heap[b]?) : IsCnt w' b c := by
  obtain ⟨es, k, hb, r⟩ := h; exact ⟨es, k, e.trans hb, r⟩
theorem IsCnt.grown {w w' : World} {b : Nat} {c : Ent → Int} {r : Option Nat} (h : IsCnt w b c) (hg : w.grownBy w' r) (hr : r ≠ some b) : IsCnt w' b c := h.heap (hg.block b h.lt (fun e => hr e.symm))
theorem IsCnt.made (w : World) : IsCnt (w.alloc (.map #[] 0)) w.heap.size (fun _ => 0) := ⟨#[], 0, heap_alloc_new w _, stamped_empty 0, by simp, fun _ _ => rfl⟩

theorem zeroI (w : World) : (zeroValue 3).run Try.prog w = .ok (.int .i64 0) w := by kernel_rfl
theorem run_find (e : Ent) (w : World) (l : List MapEntry) (h : ∀ x ∈ l, ∃ y : Ent, x.key = y.agg) :
    (Instr.findKey 24 e.agg l).run Try.prog w = .ok none w ∧ (∀ x ∈ l, x.key ≠ e.agg) ∨ ∃ j x, (Instr.findKey 24 e.agg l).run Try.prog w = .ok (some (j, x.val)) w ∧ l[j]? = some x ∧ x.key = e.agg := by
  cases l with
  | nil => exact .inl ⟨by simp [Instr.findKey, run_underlying Try.underlying24, Instr.findNow, Result.andThen], by simp⟩
  | cons x t =>
    have hn : (Instr.findKey 24 e.agg (x :: t)).run Try.prog w = (Instr.findAsking 24 e.agg (x :: t)).run Try.prog w := by
      unfold Instr.findKey
      simp only [Sem.run_bind, run_underlying Try.underlying24, Result.andThen]
      rfl
    rcases run_asking e w (x :: t) 0 h with h1 | ⟨j, z, h1, h2⟩
    · exact .inl ⟨hn.trans h1.1, h1.2⟩
    · exact .inr ⟨j, z, by rw [hn, h1]; simp, h2⟩

section
variable {w : World} {b : Nat} {c : Ent → Int}
theorem run_look (h : IsCnt w b c) (e : Ent) : (Instr.lookup 33 (.map (some b)) e.agg false).run Try.prog w = .ok (.int .i64 (c e)) w := by
  obtain ⟨es, k, hb, hs, hk, hz⟩ := h
  have hkey : ∀ x ∈ es.toList, ∃ y : Ent, x.key = y.agg := fun x hx => by obtain ⟨y, h1, _⟩ := hk x hx; exact ⟨y, h1⟩
  rcases run_find e w es.toList hkey with ⟨h1, h2⟩ | ⟨j, x, h1, h2, h3⟩
  · rw [hz e h2]
    simp [Instr.lookup, run_underlying Try.underlying33, MapKept.run_getObj_map hb, run_check, h1, Result.andThen]
  · obtain ⟨y, h4, h5⟩ := hk x (List.mem_of_getElem? h2)
    have : y = e := agg_inj (by rw [← h4, h3])
    subst this
    simp [Instr.lookup, run_underlying Try.underlying33, MapKept.run_getObj_map hb, run_check, h1, h5, Result.andThen]

def upd (c : Ent → Int) (e : Ent) (v : Int) : Ent → Int := fun y => if y = e then v else c y

theorem same_agg (e : Ent) (w : World) : (Instr.keyThatStays e.agg e.agg).run Try.prog w = .ok e.agg w := by
  unfold Instr.keyThatStays
  have : Instr.sameBits 10000 e.agg e.agg = true := by
    simp [Instr.sameBits]
  rw [if_pos this]; rfl

theorem grown_setObj {w : World} {b : Nat} {o o' : Obj} (hb : w.heap[b]? = some o) : w.grownBy { w with heap := w.heap.setIfInBounds b o' } (some b) :=
  ⟨rfl, rfl, rfl, by simp, fun j hj hne => (heap_set hb).2 j (fun e => hne (by rw [e]))⟩

theorem born_find {es : Array MapEntry} {k j : Nat} {x : MapEntry} (hs : Stamped es k) (hj : es.toList[j]? = some x) : es.findIdx? (fun e => (e.born : Int) == (x.born : Int)) = some j := by
  have hlt := (List.getElem?_eq_some_iff.1 hj).1
  have hx := (List.getElem?_eq_some_iff.1 hj).2
  rw [Array.findIdx?_eq_some_iff_getElem]
  refine ⟨by simpa using hlt, ?_, fun i hi => ?_⟩
  · have : es[j]'(by simpa using hlt) = x := by simpa using hx
    rw [this]; simp
  · have hlt' : j < es.size := by simpa using hlt
    intro h
    have h0 : (((es[i]'(by omega)).born : Nat) : Int) = (x.born : Int) := by simpa using h
    have h1 : (es[i]'(by omega)).born = x.born := Int.ofNat.inj h0
    have hn := hs.2.1
    have a1 : (es.toList.map (·.born))[i]? = some x.born := by rw [List.getElem?_map]; simp [show i < es.size by omega, h1]
    have a2 : (es.toList.map (·.born))[j]? = some x.born := by rw [List.getElem?_map, hj]; rfl
    obtain ⟨l1, g1⟩ := List.getElem?_eq_some_iff.1 a1
    obtain ⟨l2, g2⟩ := List.getElem?_eq_some_iff.1 a2
    have := (List.getElem_inj hn).1 (g1.trans g2.symm)
    omega

theorem cnt_store {w2 : World} {es : Array MapEntry} {k j : Nat} {x : MapEntry} {e : Ent} (hb : w2.heap[b]? = some (.map es k)) (hs : Stamped es k) (hk : ∀ x ∈ es.toList, ∃ y : Ent, x.key = y.agg ∧ x.val = .int .i64 (c y)) (hz : ∀ e : Ent, (∀ x ∈ es.toList, x.key ≠ e.agg) → c e = 0)
    (hj : es.toList[j]? = some x) (hx : x.key = e.agg) (v : Int) : ∃ w3, (Instr.entryStore 33 (.map (some b)) (.int .i64 (x.born : Int)) (.int .i64 v)).run Try.prog w2 = .ok () w3 ∧ IsCnt w3 b (upd c e v) ∧ w2.grownBy w3 (some b) := by
  refine ⟨{ w2 with heap := w2.heap.setIfInBounds b (.map (es.modify j fun e => { e with val := .int .i64 v }) k) }, ?_, ⟨_, _, (heap_set hb).1, stamped_modify hs j (fun e => { e with val := .int .i64 v }) (fun _ _ => rfl) (fun _ _ _ => rfl), ?_, ?_⟩, grown_setObj hb⟩
  · simp [Instr.entryStore, MapKept.run_getObj_map hb, asInt, asIntOf, born_find hs hj, run_setObj_map _ hb, Result.andThen]
  · intro y hy
    obtain ⟨i, hi, rfl⟩ := List.getElem_of_mem hy
    have hi' : i < es.size := by simpa using hi
    have hyi : es.toList[i]? = some es[i] := by simp [hi']
    obtain ⟨u, h1, h2⟩ := hk es[i] (List.mem_of_getElem? hyi)
    by_cases hij : j = i
    · subst hij
      have hxe : es[j] = x := by rw [hj] at hyi; exact (Option.some.inj hyi).symm
      refine ⟨e, ?_, ?_⟩
      · simp; rw [hxe, hx]
      · simp [upd]
    · refine ⟨u, ?_, ?_⟩
      · simp [hij]; rw [h1]
      · have hne : u ≠ e := by
          rintro rfl
          have hn := hs.2.2
          have a1 : (es.toList.map (·.key))[i]? = some u.agg := by rw [List.getElem?_map, hyi]; simp [h1]
          have a2 : (es.toList.map (·.key))[j]? = some u.agg := by rw [List.getElem?_map, hj]; simp [hx]
          obtain ⟨l1, g1⟩ := List.getElem?_eq_some_iff.1 a1
          obtain ⟨l2, g2⟩ := List.getElem?_eq_some_iff.1 a2
          exact hij ((List.getElem_inj hn).1 (g2.trans g1.symm))
        simp [hij, upd, hne]; rw [h2]
  · intro u hu
    have hne : u ≠ e := by
      rintro rfl
      have hlt := (List.getElem?_eq_some_iff.1 hj).1
      have hlt' : j < es.size := by simpa using hlt
      have hmem : (es.modify j fun e => { e with val := .int .i64 v })[j]'(by simpa using hlt') ∈ (es.modify j fun e => { e with val := .int .i64 v }).toList := Array.mem_toList_iff.2 (Array.getElem_mem _)
      have := hu _ hmem
      simp [Array.getElem_modify] at this
      have hxe : es[j] = x := by have := (List.getElem?_eq_some_iff.1 hj).2; simpa using this
      rw [hxe, hx] at this
      exact this rfl
    simp only [upd, if_neg hne]
    refine hz u fun y hy => ?_
    obtain ⟨i, hi, rfl⟩ := List.getElem_of_mem hy
    have hi' : i < es.size := by simpa using hi
    have hmem : (es.modify j fun e => { e with val := .int .i64 v })[i]'(by simpa using hi') ∈ (es.modify j fun e => { e with val := .int .i64 v }).toList := Array.mem_toList_iff.2 (Array.getElem_mem _)
    have := hu _ hmem
    rw [Array.getElem_modify] at this
    split at this <;> simpa using this

/-- m[k] = .. of an entry: its place, and the store there. -/
theorem run_entry (h : IsCnt w b c) (e : Ent) : ∃ (w1 : World) (st : Int), (Instr.mapEntry 33 (.map (some b)) e.agg).run Try.prog w = .ok (.tuple #[.int .i64 (c e), .int .i64 st]) w1 ∧ IsCnt w1 b c ∧ w.grownBy w1 (some b) ∧
    ∀ (w2 : World) (v : Int), w2.heap[b]? = w1.heap[b]? → ∃ w3, (Instr.entryStore 33 (.map (some b)) (.int .i64 st) (.int .i64 v)).run Try.prog w2 = .ok () w3 ∧ IsCnt w3 b (upd c e v) ∧ w2.grownBy w3 (some b) := by
  obtain ⟨es, k, hb, hs, hk, hz⟩ := h
  have hkey : ∀ x ∈ es.toList, ∃ y : Ent, x.key = y.agg := fun x hx => by obtain ⟨y, h1, _⟩ := hk x hx; exact ⟨y, h1⟩
  rcases run_find e w es.toList hkey with ⟨h1, h2⟩ | ⟨j, x, h1, h2, h3⟩
  · have hpush := stamped_push (val := .int .i64 0) hs h2
    refine ⟨{ w with heap := w.heap.setIfInBounds b (.map (es.push { key := e.agg, val := .int .i64 0, born := k }) (k + 1)) }, k, ?_, ⟨_, _, (heap_set hb).1, hpush, ?_, ?_⟩, grown_setObj hb, ?_⟩
    · rw [hz e h2]
      simp [Instr.mapEntry, run_underlying Try.underlying33, MapKept.run_getObj_map hb, run_check, h1, run_setObj_map _ hb, Result.andThen, goInt]
    · intro x hx
      simp only [Array.toList_push, List.mem_append, List.mem_singleton] at hx
      rcases hx with hx | rfl
      · exact hk x hx
      · exact ⟨e, rfl, by rw [hz e h2]⟩
    · intro y hy
      exact hz y fun x hx => hy x (by simp [Array.toList_push]; exact .inl (by simpa using hx))
    · intro w2 v hw
      have hb2 := hw.trans (heap_set hb).1
      have hget : (es.push { key := e.agg, val := .int .i64 0, born := k : MapEntry }).toList[es.size]? = some { key := e.agg, val := .int .i64 0, born := k } := by simp
      exact cnt_store (x := { key := e.agg, val := .int .i64 0, born := k }) hb2 hpush (fun x hx => by
        simp only [Array.toList_push, List.mem_append, List.mem_singleton] at hx
        rcases hx with hx | rfl
        · exact hk x hx
        · exact ⟨e, rfl, by rw [hz e h2]⟩) (fun y hy => hz y fun x hx => hy x (by simp [Array.toList_push]; exact .inl (by simpa using hx))) hget rfl v
  · obtain ⟨y, h4, h5⟩ := hk x (List.mem_of_getElem? h2)
    have : y = e := agg_inj (by rw [← h4, h3])
    subst this
    have hj : es[j]? = some x := by simpa using h2
    have hsame : es.modify j (fun e => { e with key := y.agg }) = es := by
      apply Array.ext
      · simp
      · intro i h1 h2'
        rw [Array.getElem_modify]
        split
        · rename_i e1
          subst e1
          have : es[j] = x := by have := (Array.getElem?_eq_some_iff.1 hj).2; exact this
          rw [this, ← h3]
        · rfl
    refine ⟨{ w with heap := w.heap.setIfInBounds b (.map es k) }, x.born, ?_, ⟨es, k, (heap_set hb).1, hs, hk, hz⟩, grown_setObj hb, fun w2 v hw => cnt_store (hw.trans (heap_set hb).1) hs hk hz h2 h3 v⟩
    simp [Instr.mapEntry, run_underlying Try.underlying33, MapKept.run_getObj_map hb, run_check, h1, h3, h5, hj, same_agg, hsame, run_setObj_map _ hb, Result.andThen, goInt]
end
end Go.Proofs.Ytlnbjnkmhabdaaa.MapE
