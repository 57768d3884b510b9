/-
  Maps whose keys are ints, as lists of keys and values in the order of their coming.
-/
import Derived.Test.YtmaahidipbghfaaRows
import Derived.WalkKit
import Derived.WalkSpells
import Derived.Lib.Hide
import Derived.OwnWalk
import Derived.Maps.OwnOps
namespace Go.Proofs.Ytmaahidipbghfaa.MapI
open Go.RowKit Go.MapKept
set_option linter.unusedVariables false

abbrev ki (k : Int) : Value := .int .i64 k
def ent (p : Int × Value) : Value × Value := (ki p.1, p.2)

/-- Block b holds a map of these keys and values. -/
def IsMap (w : World) (b : Nat) (l : List (Int × Value)) : Prop :=
  ∃ es clock, w.heap[b]? = some (.map es clock) ∧ Stamped es clock ∧ es.toList.map (fun e => (e.key, e.val)) = l.map ent

/-- The pairs with k's value laid in. -/
def put (l : List (Int × Value)) (k : Int) (v : Value) : List (Int × Value) :=
  if k ∈ l.map (·.1) then l.map (fun p => if p.1 = k then (k, v) else p) else l ++ [(k, v)]
def del (l : List (Int × Value)) (k : Int) : List (Int × Value) := l.filter fun p => p.1 ≠ k
def look (l : List (Int × Value)) (k : Int) : Option Value := (l.find? fun p => p.1 = k).map (·.2)

section
variable {w : World} {b : Nat} {l : List (Int × Value)}
theorem IsMap.lt (h : IsMap w b l) : b < w.heap.size := by
  obtain ⟨es, c, hb, _⟩ := h; exact (Array.getElem?_eq_some_iff.1 hb).1
theorem IsMap.heap {w' : World} (h : IsMap w b l) (e : w'.heap[b]? = w.heap[b]?) : IsMap w' b l := by
  obtain ⟨es, c, hb, r⟩ := h; exact ⟨es, c, e.trans hb, r⟩
theorem IsMap.grown {w' : World} {r : Option Nat} (h : IsMap w b l) (hg : w.grownBy w' r) (hr : r ≠ some b) : IsMap w' b l := h.heap (hg.block b h.lt (fun e => hr e.symm))
theorem IsMap.below {w' : World} (h : IsMap w b l) (hb : Below w.heap.size w w') : IsMap w' b l := h.heap (hb.block b h.lt)
theorem IsMap.made (w : World) : IsMap (w.alloc (.map #[] 0)) w.heap.size [] := ⟨#[], 0, heap_alloc_new w _, stamped_empty 0, rfl⟩

theorem ent_get {es : Array MapEntry} (h : es.toList.map (fun e => (e.key, e.val)) = l.map ent) {j : Nat} {e : MapEntry} (he : es.toList[j]? = some e) : ∃ p, l[j]? = some p ∧ e.key = ki p.1 ∧ e.val = p.2 := by
  have h2 := congrArg (fun l => l[j]?) h
  simp only [List.getElem?_map, he, Option.map_some] at h2
  cases hp : l[j]? with
  | none => rw [hp] at h2; cases h2
  | some p => rw [hp] at h2; simp [ent] at h2; exact ⟨p, rfl, h2.1, h2.2⟩
theorem ent_keys {es : Array MapEntry} (h : es.toList.map (fun e => (e.key, e.val)) = l.map ent) : es.toList.map (·.key) = l.map (fun p => ki p.1) := by
  have h2 := congrArg (List.map Prod.fst) h
  simpa [List.map_map, Function.comp_def, ent] using h2
theorem ent_isKey {es : Array MapEntry} (h : es.toList.map (fun e => (e.key, e.val)) = l.map ent) : ∀ x ∈ es.toList, IsKey (.int .i64) x.key := by
  intro x hx
  have : x.key ∈ es.toList.map (·.key) := List.mem_map.2 ⟨x, hx, rfl⟩
  rw [ent_keys h] at this
  obtain ⟨p, _, e⟩ := List.mem_map.1 this
  rw [← e]; exact rfl
theorem ki_inj {a c : Int} (h : ki a = ki c) : a = c := by injection h
theorem nodup_keys {es : Array MapEntry} {c : Nat} (hs : Stamped es c) (h : es.toList.map (fun e => (e.key, e.val)) = l.map ent) : (l.map (·.1)).Nodup := by
  have h3 := hs.2.2
  rw [ent_keys h, show (fun p : Int × Value => ki p.1) = ki ∘ Prod.fst from rfl, ← List.map_map] at h3
  exact List.Pairwise.of_map _ (fun a c (hne : ki a ≠ ki c) e => hne (by rw [e])) h3
theorem IsMap.nodup (h : IsMap w b l) : (l.map (·.1)).Nodup := by
  obtain ⟨es, c, _, hs, he⟩ := h; exact nodup_keys hs he

/-- What findNow finds. -/
theorem find_spec {es : Array MapEntry} (h : es.toList.map (fun e => (e.key, e.val)) = l.map ent) (k : Int) :
    (Instr.findNow (.int .i64) (ki k) es.toList 0 = some none ∧ k ∉ l.map (·.1) ∧ look l k = none ∧ ∀ x ∈ es.toList, x.key ≠ ki k) ∨
    ∃ j e, Instr.findNow (.int .i64) (ki k) es.toList 0 = some (some (j, e.val)) ∧ es.toList[j]? = some e ∧ e.key = ki k ∧ k ∈ l.map (·.1) ∧ l[j]? = some (k, e.val) := by
  rcases findNow_spec (d := .int .i64) (k := ki k) rfl es.toList 0 (ent_isKey h) with ⟨h1, h2⟩ | ⟨j, e, h1, h2, h3⟩
  · have hk : k ∉ l.map (·.1) := by
      intro hm
      have : ki k ∈ es.toList.map (·.key) := by rw [ent_keys h]; obtain ⟨p, hp, rfl⟩ := List.mem_map.1 hm; exact List.mem_map.2 ⟨p, hp, rfl⟩
      obtain ⟨x, hx, e⟩ := List.mem_map.1 this
      exact h2 x hx e
    refine .inl ⟨h1, hk, ?_, h2⟩
    unfold look
    rw [List.find?_eq_none.2 (fun p hp => by simp; intro e; exact hk (List.mem_map.2 ⟨p, hp, e⟩))]; rfl
  · obtain ⟨p, hp, hpk, hpv⟩ := ent_get h h2
    have e1 : p.1 = k := ki_inj (by rw [← hpk, h3])
    have e2 : p = (k, e.val) := by rw [← e1, hpv]
    refine .inr ⟨j, e, by simpa using h1, h2, h3, List.mem_map.2 ⟨p, List.mem_of_getElem? hp, e1⟩, by rw [hp, e2]⟩
theorem look_mem {l : List (Int × Value)} {k : Int} {v : Value} (hn : (l.map (·.1)).Nodup) (h : (k, v) ∈ l) : look l k = some v := by
  induction l with
  | nil => cases h
  | cons p t ih =>
    simp only [List.map_cons, List.nodup_cons] at hn
    unfold look
    rcases List.mem_cons.1 h with rfl | h
    · simp
    · have : p.1 ≠ k := fun e => hn.1 (List.mem_map.2 ⟨_, h, e.symm⟩)
      rw [List.find?_cons_of_neg (by simpa using this)]
      exact ih hn.2 h

variable {P : Program} {t kt et : TypeId}
theorem run_look (h : IsMap w b l) (ht : P.underlying t = some (.map kt et)) (hk : P.underlying kt = some (.int .i64)) (k : Int) {z : Value} (hz : (zeroValue et).run P w = .ok z w) (ok : Bool) :
    (Instr.lookup t (.map (some b)) (ki k) ok).run P w = .ok (if ok then .tuple #[(look l k).getD z, .bool (look l k).isSome] else (look l k).getD z) w := by
  obtain ⟨es, c, hb, hs, he⟩ := h
  rcases find_spec he k with ⟨h1, h2, h3, _⟩ | ⟨j, e, h1, h2, h3, h4, h5⟩
  · rw [h3]
    simp [Instr.lookup, run_underlying ht, MapKept.run_getObj_map hb, run_checkKey (d := .int .i64) hk (k := ki k) rfl, run_findKey hk h1, hz, Result.andThen]
  · rw [look_mem (nodup_keys hs he) (List.mem_of_getElem? h5)]
    simp [Instr.lookup, run_underlying ht, MapKept.run_getObj_map hb, run_checkKey (d := .int .i64) hk (k := ki k) rfl, run_findKey hk h1, Result.andThen]

theorem grown_setObj {w : World} {b : Nat} {o o' : Obj} (hb : w.heap[b]? = some o) : w.grownBy { w with heap := w.heap.setIfInBounds b o' } (some b) :=
  ⟨rfl, rfl, rfl, by simp, fun j hj hne => (heap_set hb).2 j (fun e => hne (by rw [e]))⟩

theorem run_put (h : IsMap w b l) (ht : P.underlying t = some (.map kt et)) (hk : P.underlying kt = some (.int .i64)) (k : Int) (v : Value) :
    ∃ w', (Instr.mapUpdate t (.map (some b)) (ki k) v).run P w = .ok () w' ∧ IsMap w' b (put l k v) ∧ w.grownBy w' (some b) := by
  obtain ⟨es, c, hb, hs, he⟩ := h
  rcases find_spec he k with ⟨h1, h2, h3, h6⟩ | ⟨j, e, h1, h2, h3, h4, h5⟩
  · refine ⟨_, ?_, ⟨_, _, (heap_set hb).1, stamped_push (val := v) hs h6, ?_⟩, grown_setObj hb⟩
    · simp [Instr.mapUpdate, run_underlying ht, MapKept.run_getObj_map hb, run_checkKey (d := .int .i64) hk (k := ki k) rfl, run_findKey hk h1, run_setObj_map _ hb, Result.andThen]
    · unfold put
      rw [if_neg h2]
      simp [he, ent]
  · have hj : es[j]? = some e := by simpa using h2
    have hkey : ∀ e', es[j]? = some e' → ({ e' with key := ki k, val := v } : MapEntry).key = e'.key := fun e' he' => by rw [hj] at he'; cases he'; exact h3.symm
    refine ⟨_, ?_, ⟨_, _, (heap_set hb).1, stamped_modify hs j (fun e => { e with key := ki k, val := v }) (fun _ _ => rfl) (fun e' _ he' => hkey e' he'), ?_⟩, grown_setObj hb⟩
    · simp [Instr.mapUpdate, run_underlying ht, MapKept.run_getObj_map hb, run_checkKey (d := .int .i64) hk (k := ki k) rfl, run_findKey hk h1, hj, h3, run_keyThatStays (d := .int .i64) (k := ki k) rfl, run_setObj_map _ hb, Result.andThen]
    · unfold put
      rw [if_pos h4]
      have hn := nodup_keys hs he
      apply List.ext_getElem?
      intro i
      have hi := congrArg (fun l => l[i]?) he
      simp only [List.getElem?_map] at hi ⊢
      rw [Array.getElem?_toList, Array.getElem?_modify]
      by_cases hij : j = i
      · subst hij
        rw [if_pos rfl, hj, h5]
        simp [ent]
      · rw [if_neg hij, ← Array.getElem?_toList, hi]
        cases hp : l[i]? with
        | none => rfl
        | some p =>
          have hne : p.1 ≠ k := by
            intro e1
            have a1 : (l.map (·.1))[i]? = some k := by rw [List.getElem?_map, hp]; simp [e1]
            have a2 : (l.map (·.1))[j]? = some k := by rw [List.getElem?_map, h5]; rfl
            obtain ⟨l1, g1⟩ := List.getElem?_eq_some_iff.1 a1
            obtain ⟨l2, g2⟩ := List.getElem?_eq_some_iff.1 a2
            exact hij ((List.getElem_inj hn).1 (g2.trans g1.symm))
          simp [hne]

theorem run_del (h : IsMap w b l) (ht : P.underlying t = some (.map kt et)) (hk : P.underlying kt = some (.int .i64)) (k : Int) (ats : Array TypeId) (ty : TypeId) (ha : ats[0]? = some t) :
    ∃ w', (Builtin.delete_ ats ty #[.map (some b), ki k]).run P w = .ok (.tuple #[]) w' ∧ IsMap w' b (del l k) ∧ w.grownBy w' (some b) := by
  obtain ⟨es, c, hb, hs, he⟩ := h
  have hn := nodup_keys hs he
  rcases find_spec he k with ⟨h1, h2, h3, h6⟩ | ⟨j, e, h1, h2, h3, h4, h5⟩
  · refine ⟨_, ?_, ⟨_, _, (heap_set hb).1, hs, ?_⟩, grown_setObj hb⟩
    · simp [Builtin.delete_, ha, run_underlying ht, MapKept.run_getObj_map hb, run_checkKey (d := .int .i64) hk (k := ki k) rfl, run_findKey hk h1, run_setObj_map _ hb, Result.andThen]
    · rw [he, del, List.filter_eq_self.2]
      intro p hp; simp; intro e1; exact h2 (List.mem_map.2 ⟨p, hp, e1⟩)
  · refine ⟨_, ?_, ⟨_, _, (heap_set hb).1, stamped_erase hs j, ?_⟩, grown_setObj hb⟩
    · simp [Builtin.delete_, ha, run_underlying ht, MapKept.run_getObj_map hb, run_checkKey (d := .int .i64) hk (k := ki k) rfl, run_findKey hk h1, run_setObj_map _ hb, Result.andThen]
    · have hl : j < es.size := by have := (List.getElem?_eq_some_iff.1 h2).1; simpa using this
      have e1 : (es.eraseIdxIfInBounds j).toList = es.toList.eraseIdx j := by simp [Array.eraseIdxIfInBounds, hl]
      rw [e1, Go.ChangeMaps.map_eraseIdx, he, ← Go.ChangeMaps.map_eraseIdx]
      congr 1
      exact erase_filter hn h5
where
  erase_filter {l : List (Int × Value)} {j : Nat} {k : Int} {v : Value} (hn : (l.map (·.1)).Nodup) (h : l[j]? = some (k, v)) : l.eraseIdx j = del l k := by
    induction l generalizing j with
    | nil => simp at h
    | cons p t ih =>
      simp only [List.map_cons, List.nodup_cons] at hn
      cases j with
      | zero =>
        simp at h; subst h
        simp only [List.eraseIdx_cons_zero, del]
        rw [List.filter_cons_of_neg (by simp)]
        symm; rw [List.filter_eq_self]
        intro q hq; simp; intro e; exact hn.1 (List.mem_map.2 ⟨q, hq, e⟩)
      | succ j =>
        simp at h
        have hne : p.1 ≠ k := fun e => hn.1 (List.mem_map.2 ⟨_, List.mem_of_getElem? h, e.symm⟩)
        simp only [List.eraseIdx_cons_succ, del]
        rw [List.filter_cons_of_pos (by simpa using hne)]
        congr 1
        exact ih hn.2 h

theorem run_len (h : IsMap w b l) (ht : P.underlying t = some (.map kt et)) (ats : Array TypeId) (ty : TypeId) (ha : ats = #[t]) :
    (Builtin.len_ ats ty #[.map (some b)]).run P w = .ok (.int .i64 l.length) w := by
  obtain ⟨es, c, hb, hs, he⟩ := h
  have : es.size = l.length := by have := congrArg List.length he; simpa using this
  subst ha
  simp [Builtin.len_, run_underlying ht, MapKept.run_getObj_map hb, Result.andThen, this, goInt]
end

section
variable {P : Program} {ops : Array Oper} {rest : List Oper} {o : Oper} {a : Act} {w : World} {Q : Exit → Act → World → Prop}
/-- m[k], at the operation. -/
theorem wpList_look (hg : o.guard = none) (m x : Operand) (t kt et : TypeId) (hop : o.op = .lookup t m x false) (ht : P.underlying t = some (.map kt et)) (hk : P.underlying kt = some (.int .i64))
    {b : Nat} {l : List (Int × Value)} (h : IsMap w b l) (hm : a.eval m = .map (some b)) (k : Int) (hx : a.eval x = ki k) {z : Value} (hz : (zeroValue et).run P w = .ok z w) (v : Value) (hv : (look l k).getD z = v)
    (hK : wpList P ops Q rest (a.put o.dst v) w) : wpList P ops Q (o :: rest) a w := by
  refine wpList_plain hg fun K' hK' => ?_
  have hrun := run_look h ht hk k hz false
  rw [hv] at hrun
  unfold Oper.wp
  simp [execOp, hop, hm, hx, hrun, Result.andThen]
  exact hK' _ _ hK
/-- m[k] = v, at the operation. -/
theorem wpList_put (hg : o.guard = none) (m x y : Operand) (t kt et : TypeId) (hop : o.op = .mapUpdate t m x y) (ht : P.underlying t = some (.map kt et)) (hk : P.underlying kt = some (.int .i64))
    {b : Nat} {l : List (Int × Value)} (h : IsMap w b l) (hm : a.eval m = .map (some b)) (k : Int) (hx : a.eval x = ki k) (v : Value) (hv : a.eval y = v)
    (hK : ∀ w', IsMap w' b (put l k v) → w.grownBy w' (some b) → wpList P ops Q rest (a.put o.dst undef) w') : wpList P ops Q (o :: rest) a w := by
  refine wpList_plain hg fun K' hK' => ?_
  obtain ⟨w', hrun, r1, r2⟩ := run_put h ht hk k v
  unfold Oper.wp
  simp [execOp, hop, hm, hx, hv, hrun, Result.andThen]
  exact hK' _ _ (hK w' r1 r2)
end
end Go.Proofs.Ytmaahidipbghfaa.MapI
