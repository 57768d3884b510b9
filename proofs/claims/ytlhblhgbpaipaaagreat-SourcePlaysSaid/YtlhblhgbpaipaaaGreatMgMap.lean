import Derived.Test.YtlhblhgbpaipaaaGreatRows
import Derived.WalkKit
import Derived.WalkSpells
import Derived.Lib.Hide
import Derived.OwnWalk
import Derived.Maps.OwnOps
import Derived.Maps.RangeWalk
import Derived.BigFrame
import Derived.Sort.MapsRangeIn
/- MapI -/
namespace Go.Proofs.YtlhblhgbpaipaaaGreat.MapI
open Go.RowKit Go.MapKept
set_option linter.unusedVariables false

abbrev ki (k : Int) : Value := .int .i64 k
def ent (p : Int × Value) : Value × Value := (ki p.1, p.2)

/-- Block b holds a map of these keys and values. -/
def IsMap (w : World) (b : Nat) (l : List (Int × Value)) : Prop :=
  ∃ es clock, w.heap[b]? = some (.map es clock) ∧ Stamped es clock ∧ es.toList.map (fun e => (e.key, e.val)) = l.map ent

/-- The pairs with k's value laid in. -/
def put (l : List (Int × Value)) (k : Int) (v : Value) : List (Int × Value) :=
  if k ∈ l.map (·.1) then l.map (fun p => if p.1 = k then (k, v) else p) else l ++ [(k, v)]
def del (l : List (Int × Value)) (k : Int) : List (Int × Value) := l.filter fun p => p.1 ≠ k
def look (l : List (Int × Value)) (k : Int) : Option Value := (l.find? fun p => p.1 = k).map (·.2)

section
variable {w : World} {b : Nat} {l : List (Int × Value)}
theorem IsMap.lt (h : IsMap w b l) : b < w.heap.size := by
  obtain ⟨es, c, hb, _⟩ := h; exact (Array.getElem?_eq_some_iff.1 hb).1
theorem IsMap.heap {w' : World} (h : IsMap w b l) (e : w'.heap[b]? = w.heap[b]?) : IsMap w' b l := by
  obtain ⟨es, c, hb, r⟩ := h; exact ⟨es, c, e.trans hb, r⟩
theorem IsMap.grown {w' : World} {r : Option Nat} (h : IsMap w b l) (hg : w.grownBy w' r) (hr : r ≠ some b) : IsMap w' b l := h.heap (hg.block b h.lt (fun e => hr e.symm))
theorem IsMap.below {w' : World} (h : IsMap w b l) (hb : Below w.heap.size w w') : IsMap w' b l := h.heap (hb.block b h.lt)
theorem IsMap.made (w : World) : IsMap (w.alloc (.map #[] 0)) w.heap.size [] := ⟨#[], 0, heap_alloc_new w _, stamped_empty 0, rfl⟩

theorem ent_get {es : Array MapEntry} (h : es.toList.map (fun e => (e.key, e.val)) = l.map ent) {j : Nat} {e : MapEntry} (he : es.toList[j]? = some e) : ∃ p, l[j]? = some p ∧ e.key = ki p.1 ∧ e.val = p.2 := by
  have h2 := congrArg (fun l => l[j]?) h
  simp only [List.getElem?_map, he, Option.map_some] at h2
  cases hp : l[j]? with
  | none => rw [hp] at h2; cases h2
  | some p => rw [hp] at h2; simp [ent] at h2; exact ⟨p, rfl, h2.1, h2.2⟩
theorem ent_keys {es : Array MapEntry} (h : es.toList.map (fun e => (e.key, e.val)) = l.map ent) : es.toList.map (·.key) = l.map (fun p => ki p.1) := by
  have h2 := congrArg (List.map Prod.fst) h
  simpa [List.map_map, Function.comp_def, ent] using h2
theorem ent_isKey {es : Array MapEntry} (h : es.toList.map (fun e => (e.key, e.val)) = l.map ent) : ∀ x ∈ es.toList, IsKey (.int .i64) x.key := by
  intro x hx
  have : x.key ∈ es.toList.map (·.key) := List.mem_map.2 ⟨x, hx, rfl⟩
  rw [ent_keys h] at this
  obtain ⟨p, _, e⟩ := List.mem_map.1 this
  rw [← e]; exact rfl
theorem ki_inj {a c : Int} (h : ki a = ki c) : a = c := by injection h
theorem nodup_keys {es : Array MapEntry} {c : Nat} (hs : Stamped es c) (h : es.toList.map (fun e => (e.key, e.val)) = l.map ent) : (l.map (·.1)).Nodup := by
  have h3 := hs.2.2
  rw [ent_keys h, show (fun p : Int × Value => ki p.1) = ki ∘ Prod.fst from rfl, ← List.map_map] at h3
  exact List.Pairwise.of_map _ (fun a c (hne : ki a ≠ ki c) e => hne (by rw [e])) h3
theorem IsMap.nodup (h : IsMap w b l) : (l.map (·.1)).Nodup := by
  obtain ⟨es, c, _, hs, he⟩ := h; exact nodup_keys hs he

/-- What findNow finds. -/
theorem find_spec {es : Array MapEntry} (h : es.toList.map (fun e => (e.key, e.val)) = l.map ent) (k : Int) :
    (Instr.findNow (.int .i64) (ki k) es.toList 0 = some none ∧ k ∉ l.map (·.1) ∧ look l k = none ∧ ∀ x ∈ es.toList, x.key ≠ ki k) ∨
    ∃ j e, Instr.findNow (.int .i64) (ki k) es.toList 0 = some (some (j, e.val)) ∧ es.toList[j]? = some e ∧ e.key = ki k ∧ k ∈ l.map (·.1) ∧ l[j]? = some (k, e.val) := by
  rcases findNow_spec (d := .int .i64) (k := ki k) rfl es.toList 0 (ent_isKey h) with ⟨h1, h2⟩ | ⟨j, e, h1, h2, h3⟩
  · have hk : k ∉ l.map (·.1) := by
      intro hm
      have : ki k ∈ es.toList.map (·.key) := by rw [ent_keys h]; obtain ⟨p, hp, rfl⟩ := List.mem_map.1 hm; exact List.mem_map.2 ⟨p, hp, rfl⟩
      obtain ⟨x, hx, e⟩ := List.mem_map.1 this
      exact h2 x hx e
    refine .inl ⟨h1, hk, ?_, h2⟩
    unfold look
    rw [List.find?_eq_none.2 (fun p hp => by simp; intro e; exact hk (List.mem_map.2 ⟨p, hp, e⟩))]; rfl
  · obtain ⟨p, hp, hpk, hpv⟩ := ent_get h h2
    have e1 : p.1 = k := ki_inj (by rw [← hpk, h3])
    have e2 : p = (k, e.val) := by rw [← e1, hpv]
    refine .inr ⟨j, e, by simpa using h1, h2, h3, List.mem_map.2 ⟨p, List.mem_of_getElem? hp, e1⟩, by rw [hp, e2]⟩
theorem look_mem {l : List (Int × Value)} {k : Int} {v : Value} (hn : (l.map (·.1)).Nodup) (h : (k, v) ∈ l) : look l k = some v := by
  induction l with
  | nil => cases h
  | cons p t ih =>
    simp only [List.map_cons, List.nodup_cons] at hn
    unfold look
    rcases List.mem_cons.1 h with rfl | h
    · simp
    · have : p.1 ≠ k := fun e => hn.1 (List.mem_map.2 ⟨_, h, e.symm⟩)
      rw [List.find?_cons_of_neg (by simpa using this)]
      exact ih hn.2 h

variable {P : Program} {t kt et : TypeId}
theorem run_look (h : IsMap w b l) (ht : P.underlying t = some (.map kt et)) (hk : P.underlying kt = some (.int .i64)) (k : Int) {z : Value} (hz : (zeroValue et).run P w = .ok z w) (ok : Bool) :
    (Instr.lookup t (.map (some b)) (ki k) ok).run P w = .ok (if ok then .tuple #[(look l k).getD z, .bool (look l k).isSome] else (look l k).getD z) w := by
  obtain ⟨es, c, hb, hs, he⟩ := h
  rcases find_spec he k with ⟨h1, h2, h3, _⟩ | ⟨j, e, h1, h2, h3, h4, h5⟩
  · rw [h3]
    simp [Instr.lookup, run_underlying ht, MapKept.run_getObj_map hb, run_checkKey (d := .int .i64) hk (k := ki k) rfl, run_findKey hk h1, hz, Result.andThen]
  · rw [look_mem (nodup_keys hs he) (List.mem_of_getElem? h5)]
    simp [Instr.lookup, run_underlying ht, MapKept.run_getObj_map hb, run_checkKey (d := .int .i64) hk (k := ki k) rfl, run_findKey hk h1, Result.andThen]

theorem grown_setObj {w : World} {b : Nat} {o o' : Obj} (hb : w.heap[b]? = some o) : w.grownBy { w with heap := w.heap.setIfInBounds b o' } (some b) :=
  ⟨rfl, rfl, rfl, by simp, fun j hj hne => (heap_set hb).2 j (fun e => hne (by rw [e]))⟩

theorem run_put (h : IsMap w b l) (ht : P.underlying t = some (.map kt et)) (hk : P.underlying kt = some (.int .i64)) (k : Int) (v : Value) :
    ∃ w', (Instr.mapUpdate t (.map (some b)) (ki k) v).run P w = .ok () w' ∧ IsMap w' b (put l k v) ∧ w.grownBy w' (some b) := by
  obtain ⟨es, c, hb, hs, he⟩ := h
  rcases find_spec he k with ⟨h1, h2, h3, h6⟩ | ⟨j, e, h1, h2, h3, h4, h5⟩
  · refine ⟨_, ?_, ⟨_, _, (heap_set hb).1, stamped_push (val := v) hs h6, ?_⟩, grown_setObj hb⟩
    · simp [Instr.mapUpdate, run_underlying ht, MapKept.run_getObj_map hb, run_checkKey (d := .int .i64) hk (k := ki k) rfl, run_findKey hk h1, run_setObj_map _ hb, Result.andThen]
    · unfold put
      rw [if_neg h2]
      simp [he, ent]
  · have hj : es[j]? = some e := by simpa using h2
    have hkey : ∀ e', es[j]? = some e' → ({ e' with key := ki k, val := v } : MapEntry).key = e'.key := fun e' he' => by rw [hj] at he'; cases he'; exact h3.symm
    refine ⟨_, ?_, ⟨_, _, (heap_set hb).1, stamped_modify hs j (fun e => { e with key := ki k, val := v }) (fun _ _ => rfl) (fun e' _ he' => hkey e' he'), ?_⟩, grown_setObj hb⟩
    · simp [Instr.mapUpdate, run_underlying ht, MapKept.run_getObj_map hb, run_checkKey (d := .int .i64) hk (k := ki k) rfl, run_findKey hk h1, hj, h3, run_keyThatStays (d := .int .i64) (k := ki k) rfl, run_setObj_map _ hb, Result.andThen]
    · unfold put
      rw [if_pos h4]
      have hn := nodup_keys hs he
      apply List.ext_getElem?
      intro i
      have hi := congrArg (fun l => l[i]?) he
      simp only [List.getElem?_map] at hi ⊢
      rw [Array.getElem?_toList, Array.getElem?_modify]
      by_cases hij : j = i
      · subst hij
        rw [if_pos rfl, hj, h5]
        simp [ent]
      · rw [if_neg hij, ← Array.getElem?_toList, hi]
        cases hp : l[i]? with
        | none => rfl
        | some p =>
          have hne : p.1 ≠ k := by
            intro e1
            have a1 : (l.map (·.1))[i]? = some k := by rw [List.getElem?_map, hp]; simp [e1]
            have a2 : (l.map (·.1))[j]? = some k := by rw [List.getElem?_map, h5]; rfl
            obtain ⟨l1, g1⟩ := List.getElem?_eq_some_iff.1 a1
            obtain ⟨l2, g2⟩ := List.getElem?_eq_some_iff.1 a2
            exact hij ((List.getElem_inj hn).1 (g2.trans g1.symm))
          simp [hne]

theorem run_del (h : IsMap w b l) (ht : P.underlying t = some (.map kt et)) (hk : P.underlying kt = some (.int .i64)) (k : Int) (ats : Array TypeId) (ty : TypeId) (ha : ats[0]? = some t) :
    ∃ w', (Builtin.delete_ ats ty #[.map (some b), ki k]).run P w = .ok (.tuple #[]) w' ∧ IsMap w' b (del l k) ∧ w.grownBy w' (some b) := by
  obtain ⟨es, c, hb, hs, he⟩ := h
  have hn := nodup_keys hs he
  rcases find_spec he k with ⟨h1, h2, h3, h6⟩ | ⟨j, e, h1, h2, h3, h4, h5⟩
  · refine ⟨_, ?_, ⟨_, _, (heap_set hb).1, hs, ?_⟩, grown_setObj hb⟩
    · simp [Builtin.delete_, ha, run_underlying ht, MapKept.run_getObj_map hb, run_checkKey (d := .int .i64) hk (k := ki k) rfl, run_findKey hk h1, run_setObj_map _ hb, Result.andThen]
    · rw [he, del, List.filter_eq_self.2]
      intro p hp; simp; intro e1; exact h2 (List.mem_map.2 ⟨p, hp, e1⟩)
  · refine ⟨_, ?_, ⟨_, _, (heap_set hb).1, stamped_erase hs j, ?_⟩, grown_setObj hb⟩
    · simp [Builtin.delete_, ha, run_underlying ht, MapKept.run_getObj_map hb, run_checkKey (d := .int .i64) hk (k := ki k) rfl, run_findKey hk h1, run_setObj_map _ hb, Result.andThen]
    · have hl : j < es.size := by have := (List.getElem?_eq_some_iff.1 h2).1; simpa using this
      have e1 : (es.eraseIdxIfInBounds j).toList = es.toList.eraseIdx j := by simp [Array.eraseIdxIfInBounds, hl]
      rw [e1, Go.ChangeMaps.map_eraseIdx, he, ← Go.ChangeMaps.map_eraseIdx]
      congr 1
      exact erase_filter hn h5
where
  erase_filter {l : List (Int × Value)} {j : Nat} {k : Int} {v : Value} (hn : (l.map (·.1)).Nodup) (h : l[j]? = some (k, v)) : l.eraseIdx j = del l k := by
    induction l generalizing j with
    | nil => simp at h
    | cons p t ih =>
      simp only [List.map_cons, List.nodup_cons] at hn
      cases j with
      | zero =>
        simp at h; subst h
        simp only [List.eraseIdx_cons_zero, del]
        rw [List.filter_cons_of_neg (by simp)]
        symm; rw [List.filter_eq_self]
        intro q hq; simp; intro e; exact hn.1 (List.mem_map.2 ⟨q, hq, e⟩)
      | succ j =>
        simp at h
        have hne : p.1 ≠ k := fun e => hn.1 (List.mem_map.2 ⟨_, List.mem_of_getElem? h, e.symm⟩)
        simp only [List.eraseIdx_cons_succ, del]
        rw [List.filter_cons_of_pos (by simpa using hne)]
        congr 1
        exact ih hn.2 h

theorem run_len (h : IsMap w b l) (ht : P.underlying t = some (.map kt et)) (ats : Array TypeId) (ty : TypeId) (ha : ats = #[t]) :
    (Builtin.len_ ats ty #[.map (some b)]).run P w = .ok (.int .i64 l.length) w := by
  obtain ⟨es, c, hb, hs, he⟩ := h
  have : es.size = l.length := by have := congrArg List.length he; simpa using this
  subst ha
  simp [Builtin.len_, run_underlying ht, MapKept.run_getObj_map hb, Result.andThen, this, goInt]
end

section
variable {P : Program} {ops : Array Oper} {rest : List Oper} {o : Oper} {a : Act} {w : World} {Q : Exit → Act → World → Prop}
/-- m[k], at the operation. -/
theorem wpList_look (hg : o.guard = none) (m x : Operand) (t kt et : TypeId) (hop : o.op = .lookup t m x false) (ht : P.underlying t = some (.map kt et)) (hk : P.underlying kt = some (.int .i64))
    {b : Nat} {l : List (Int × Value)} (h : IsMap w b l) (hm : a.eval m = .map (some b)) (k : Int) (hx : a.eval x = ki k) {z : Value} (hz : (zeroValue et).run P w = .ok z w) (v : Value) (hv : (look l k).getD z = v)
    (hK : wpList P ops Q rest (a.put o.dst v) w) : wpList P ops Q (o :: rest) a w := by
  refine wpList_plain hg fun K' hK' => ?_
  have hrun := run_look h ht hk k hz false
  rw [hv] at hrun
  unfold Oper.wp
  simp [execOp, hop, hm, hx, hrun, Result.andThen]
  exact hK' _ _ hK
/-- m[k] = v, at the operation. -/
theorem wpList_put (hg : o.guard = none) (m x y : Operand) (t kt et : TypeId) (hop : o.op = .mapUpdate t m x y) (ht : P.underlying t = some (.map kt et)) (hk : P.underlying kt = some (.int .i64))
    {b : Nat} {l : List (Int × Value)} (h : IsMap w b l) (hm : a.eval m = .map (some b)) (k : Int) (hx : a.eval x = ki k) (v : Value) (hv : a.eval y = v)
    (hK : ∀ w', IsMap w' b (put l k v) → w.grownBy w' (some b) → wpList P ops Q rest (a.put o.dst undef) w') : wpList P ops Q (o :: rest) a w := by
  refine wpList_plain hg fun K' hK' => ?_
  obtain ⟨w', hrun, r1, r2⟩ := run_put h ht hk k v
  unfold Oper.wp
  simp [execOp, hop, hm, hx, hv, hrun, Result.andThen]
  exact hK' _ _ (hK w' r1 r2)
end
end Go.Proofs.YtlhblhgbpaipaaaGreat.MapI

/- MapIR -/
namespace Go.Proofs.YtlhblhgbpaipaaaGreat.MapI
open Go.RowKit Go.MapKept Go.ChangeMaps
set_option linter.unusedVariables false

/-- A range over block b's map by the iterator in block r: rest is still to come. -/
def Ran (w : World) (b r : Nat) (l rest : List (Int × Value)) : Prop :=
  ∃ es clock since seen c0, w.heap[b]? = some (.map es clock) ∧ Stamped es clock ∧ es.toList.map (fun e => (e.key, e.val)) = l.map ent ∧ w.heap[r]? = some (.mapIter (some b) since seen c0) ∧
    (∀ x ∈ es.toList, x.born < since) ∧ since ≤ c0 ∧ since ≤ clock ∧ (leftOf es seen).toList.map (fun e => (e.key, e.val)) = rest.map ent

theorem ent_inj : Function.Injective ent := fun p q h => by
  have h1 := congrArg Prod.fst h; have h2 := congrArg Prod.snd h
  exact Prod.ext (ki_inj h1) h2
theorem Ran.map {w : World} {b r : Nat} {l rest : List (Int × Value)} (h : Ran w b r l rest) : IsMap w b l := by
  obtain ⟨es, c, _, _, _, hb, hs, he, _⟩ := h; exact ⟨es, c, hb, hs, he⟩
theorem Ran.sub {w : World} {b r : Nat} {l rest : List (Int × Value)} (h : Ran w b r l rest) {p : Int × Value} (hp : p ∈ rest) : p ∈ l := by
  obtain ⟨es, c, _, seen, _, hb, hs, he, _, _, _, _, hl⟩ := h
  have h1 : ent p ∈ (leftOf es seen).toList.map (fun e => (e.key, e.val)) := by rw [hl]; exact List.mem_map.2 ⟨p, hp, rfl⟩
  obtain ⟨e, he1, he2⟩ := List.mem_map.1 h1
  have h2 : ent p ∈ es.toList.map (fun e => (e.key, e.val)) := List.mem_map.2 ⟨e, by unfold leftOf at he1; simp at he1 ⊢; exact he1.1, he2⟩
  rw [he] at h2
  obtain ⟨q, hq, hq2⟩ := List.mem_map.1 h2
  rw [← ent_inj hq2]; exact hq
theorem Ran.left_eq {w : World} {b r : Nat} {l rest : List (Int × Value)} (h : Ran w b r l rest) : w.rangeLeft b r = rest.length := by
  obtain ⟨es, c, _, seen, _, hb, hs, he, hr, _, _, _, hl⟩ := h
  simp only [World.rangeLeft, hb, hr]
  have := congrArg List.length hl
  simpa using this
theorem Ran.kept {w w' : World} {b r : Nat} {l rest : List (Int × Value)} (h : Ran w b r l rest) (hb : w'.heap[b]? = w.heap[b]?) (hr : w'.heap[r]? = w.heap[r]?) : Ran w' b r l rest := by
  obtain ⟨es, c, s, seen, c0, h1, h2, h3, h4, h5⟩ := h
  exact ⟨es, c, s, seen, c0, hb.trans h1, h2, h3, hr.trans h4, h5⟩
theorem Ran.lt {w : World} {b r : Nat} {l rest : List (Int × Value)} (h : Ran w b r l rest) : b < w.heap.size ∧ r < w.heap.size := by
  obtain ⟨es, c, s, seen, c0, h1, h2, h3, h4, h5⟩ := h
  exact ⟨(Array.getElem?_eq_some_iff.1 h1).1, (Array.getElem?_eq_some_iff.1 h4).1⟩
theorem Ran.ne {w : World} {b r : Nat} {l rest : List (Int × Value)} (h : Ran w b r l rest) : r ≠ b := by
  obtain ⟨es, c, s, seen, c0, h1, h2, h3, h4, h5⟩ := h
  intro e; rw [e, h1] at h4; cases h4

theorem run_range {P : Program} {w : World} {b : Nat} {l : List (Int × Value)} {t kt et : TypeId} (h : IsMap w b l) (ht : P.underlying t = some (.map kt et)) :
    ∃ w', (Instr.range t (.map (some b))).run P w = .ok (.pointer (some ⟨w.heap.size, 0, none⟩)) w' ∧ Ran w' b w.heap.size l l ∧ w.grownBy w' none ∧ w'.heap.size = w.heap.size + 1 := by
  obtain ⟨es, c, hb, hs, he⟩ := h
  refine ⟨w.alloc (.mapIter (some b) c #[] c), ?_, ⟨es, c, c, #[], c, (heap_alloc_old _ _ (Array.getElem?_eq_some_iff.1 hb).1).trans hb, hs, he, heap_alloc_new _ _, fun x hx => ?_, Nat.le_refl _, Nat.le_refl _, ?_⟩, World.grownBy_alloc _ _ _, by simp⟩
  · simp [Instr.range, run_underlying ht, MapKept.run_getObj_map hb, Result.andThen, go_sem]
  · exact hs.1 x hx
  · rw [← he]; unfold leftOf; congr 1; simp

theorem filter_kv : ∀ {A : List MapEntry} {rest : List (Int × Value)} {e : MapEntry} {k : Int}, A.map (fun e => (e.key, e.val)) = rest.map ent → e.key = ki k → (∀ x ∈ A, x.born = e.born ↔ x.key = e.key) →
    (A.filter fun x => !(x.born == e.born)).map (fun e => (e.key, e.val)) = (rest.filter fun p => p.1 ≠ k).map ent
  | [], [], _, _, _, _, _ => rfl
  | [], _ :: _, _, _, h, _, _ => by simp at h
  | _ :: _, [], _, _, h, _, _ => by simp at h
  | x :: A, p :: rest, e, k, h, hk, hb => by
    simp only [List.map_cons, List.cons.injEq] at h
    have ih := filter_kv (A := A) (rest := rest) h.2 hk (fun y hy => hb y (List.mem_cons_of_mem _ hy))
    have hx : x.key = ki p.1 := congrArg Prod.fst h.1
    have hx0 := hb x (List.mem_cons_self ..)
    by_cases hpk : p.1 = k
    · have : x.born = e.born := hx0.2 (by rw [hx, hk, hpk])
      rw [List.filter_cons_of_neg (by simp [this]), List.filter_cons_of_neg (by simp [hpk])]
      exact ih
    · have : x.born ≠ e.born := fun h1 => hpk (ki_inj (by rw [← hx, ← hk]; exact hx0.1 h1))
      rw [List.filter_cons_of_pos (by simp [this]), List.filter_cons_of_pos (by simpa using hpk), List.map_cons, List.map_cons, ih, h.1]
theorem born_key {es : Array MapEntry} {c : Nat} (hs : Stamped es c) {x e : MapEntry} (hx : x ∈ es.toList) (he : e ∈ es.toList) : x.born = e.born ↔ x.key = e.key := by
  have inj : ∀ {β : Type} (f : MapEntry → β), (es.toList.map f).Nodup → f x = f e → x = e := by
    intro β f hn hf
    obtain ⟨i, hi, rfl⟩ := List.getElem_of_mem hx
    obtain ⟨j, hj, rfl⟩ := List.getElem_of_mem he
    have : (es.toList.map f)[i]'(by simpa using hi) = (es.toList.map f)[j]'(by simpa using hj) := by simpa using hf
    have := (List.getElem_inj hn).1 this
    subst this; rfl
  exact ⟨fun h => by rw [inj _ hs.2.1 h], fun h => by rw [inj _ hs.2.2 h]⟩
theorem Ran.next {P : Program} {w : World} {b r : Nat} {l rest : List (Int × Value)} (h : Ran w b r l rest) (ty : TypeId) :
    (rest = [] ∧ (Instr.next (.pointer (some ⟨r, 0, none⟩)) false ty).run P w = .ok (.tuple #[.bool false]) w) ∨
    ∃ k v w', (k, v) ∈ rest ∧ (Instr.next (.pointer (some ⟨r, 0, none⟩)) false ty).run P w = .ok (.tuple #[.bool true, ki k, v]) w' ∧ Ran w' b r l (rest.filter fun p => p.1 ≠ k) ∧ w.grownBy w' (some r) ∧ w'.heap.size = w.heap.size ∧
      (Instr.entry (.pointer (some ⟨r, 0, none⟩))).run P w' = .ok (.tuple #[ki k, v]) w' := by
  have hne := h.ne
  obtain ⟨es, c, since, seen, c0, hb, hs, he, hr, hold, hsc, hsk, hl⟩ := h
  rcases run_next_at (P := P) w ty r b since c0 seen es c hr hb hold hsc with ⟨h0, hrun⟩ | ⟨e, hmem, w1, hw1, hrun⟩
  · left
    refine ⟨?_, hrun⟩
    have := congrArg List.length hl
    rw [List.length_map, List.length_map, Array.length_toList, h0] at this
    exact List.length_eq_zero_iff.1 this.symm
  · right
    have h1 : (e.key, e.val) ∈ rest.map ent := by rw [← hl]; exact List.mem_map.2 ⟨e, hmem, rfl⟩
    obtain ⟨⟨k, v⟩, hkv, hent⟩ := List.mem_map.1 h1
    have hek : e.key = ki k := (congrArg Prod.fst hent).symm
    have hev : e.val = v := (congrArg Prod.snd hent).symm
    have hes : e ∈ es.toList := by unfold leftOf at hmem; simp at hmem ⊢; exact hmem.1
    have hb1 : w1.heap[b]? = some (.map es c) := by rcases hw1 with rfl | rfl <;> exact hb
    have hr1 : w1.heap[r]? = some (.mapIter (some b) since seen c0) := by rcases hw1 with rfl | rfl <;> exact hr
    have hr2 : (setBlock w1 r (.mapIter (some b) since (seen.push e.born) c)).heap[r]? = some (.mapIter (some b) since (seen.push e.born) c) := (heap_set hr1).1
    have hb2 : (setBlock w1 r (.mapIter (some b) since (seen.push e.born) c)).heap[b]? = some (.map es c) := ((heap_set hr1).2 b (Ne.symm hne)).trans hb1
    refine ⟨k, v, _, hkv, by rw [hrun, hek, hev], ⟨es, c, since, seen.push e.born, c, hb2, hs, he, hr2, hold, hsk, hsk, ?_⟩, ?_, ?_, ?_⟩
    · have e1 : (leftOf es (seen.push e.born)).toList = (leftOf es seen).toList.filter fun x => !(x.born == e.born) := by
        unfold leftOf
        simp only [Array.toList_filter, List.filter_filter]
        congr 1
        funext x
        rw [Bool.eq_iff_iff]
        simp [and_comm]
      rw [e1]
      exact filter_kv hl hek (fun x hx => born_key hs (by unfold leftOf at hx; simp at hx ⊢; exact hx.1) hes)
    · have hg1 : w.grownBy w1 (some r) := by rcases hw1 with rfl | rfl <;> exact ⟨rfl, rfl, rfl, Nat.le_refl _, fun _ _ _ => rfl⟩
      have hg2 := grown_setObj hr1 (o' := .mapIter (some b) since (seen.push e.born) c)
      exact ⟨hg2.os.trans hg1.os, hg2.tape.trans hg1.tape, hg2.output.trans hg1.output, Nat.le_trans hg1.size hg2.size, fun j hj hne => (hg2.block j (Nat.lt_of_lt_of_le hj hg1.size) hne).trans (hg1.block j hj hne)⟩
    · have hg1 : w1.heap = w.heap := by rcases hw1 with rfl | rfl <;> rfl
      simp [setBlock, hg1]
    · rw [run_entry_at _ r b since seen es c e hr2 hb2 hes hs.2.1, hek, hev]

section
variable {P : Program} {w : World} {ops : Array Oper} {rs : List Oper} {o : Oper} {a : Act} {Q : Exit → Act → World → Prop}
/-- range m, at the operation. -/
theorem wpList_range (hg : o.guard = none) (m : Operand) (t kt et : TypeId) (hop : o.op = Op.range t m) (ht : P.underlying t = some (.map kt et)) {b : Nat} {l : List (Int × Value)} (h : IsMap w b l) (hm : a.eval m = .map (some b))
    (hK : ∀ w', Ran w' b w.heap.size l l → w.grownBy w' none → w'.heap.size = w.heap.size + 1 → wpList P ops Q rs (a.put o.dst (.pointer (some ⟨w.heap.size, 0, none⟩))) w') : wpList P ops Q (o :: rs) a w := by
  refine wpList_plain hg fun K' hK' => ?_
  obtain ⟨w', hrun, r1, r2, r3⟩ := run_range h ht
  unfold Oper.wp
  simp [execOp, hop, hm, hrun, Result.andThen]
  exact hK' _ _ (hK w' r1 r2 r3)
/-- The step, at the operation. -/
theorem wpList_next (hg : o.guard = none) (it : Operand) (hop : o.op = Op.next it false) {b r : Nat} {l rest : List (Int × Value)} (hit : a.eval it = .pointer (some ⟨r, 0, none⟩)) (h : Ran w b r l rest)
    (hDone : rest = [] → wpList P ops Q rs (a.put o.dst (.tuple #[.bool false])) w)
    (hMore : ∀ k v w', (k, v) ∈ rest → Ran w' b r l (rest.filter fun p => p.1 ≠ k) → w.grownBy w' (some r) → w'.heap.size = w.heap.size → (Instr.entry (.pointer (some ⟨r, 0, none⟩))).run P w' = .ok (.tuple #[ki k, v]) w' → wpList P ops Q rs (a.put o.dst (.tuple #[.bool true, ki k, v])) w') :
    wpList P ops Q (o :: rs) a w := by
  refine wpList_plain hg fun K' hK' => ?_
  unfold Oper.wp
  rcases h.next (P := P) o.type with ⟨h0, hrun⟩ | ⟨k, v, w', hkv, hrun, hr, hg', hsz, hen⟩
  · simp [execOp, hop, hit, hrun, Result.andThen]
    exact hK' _ _ (hDone h0)
  · simp [execOp, hop, hit, hrun, Result.andThen]
    exact hK' _ _ (hMore k v w' hkv hr hg' hsz hen)
end
section
variable {P : Program} {w : World} {ops : Array Oper} {rest : List Oper} {o : Oper} {a : Act} {Q : Exit → Act → World → Prop}
/-- v, ok := m[k], at the operation. -/
theorem wpList_lookok (hg : o.guard = none) (m x : Operand) (t kt et : TypeId) (hop : o.op = .lookup t m x true) (ht : P.underlying t = some (.map kt et)) (hk : P.underlying kt = some (.int .i64))
    {b : Nat} {l : List (Int × Value)} (h : IsMap w b l) (hm : a.eval m = .map (some b)) (k : Int) (hx : a.eval x = ki k) {z : Value} (hz : (zeroValue et).run P w = .ok z w) (v : Value) (hv : (look l k).getD z = v) (bo : Bool) (hb : (look l k).isSome = bo)
    (hK : wpList P ops Q rest (a.put o.dst (.tuple #[v, .bool bo])) w) : wpList P ops Q (o :: rest) a w := by
  refine wpList_plain hg fun K' hK' => ?_
  have hrun := run_look h ht hk k hz true
  rw [hv, hb] at hrun
  unfold Oper.wp
  simp [execOp, hop, hm, hx, hrun, Result.andThen]
  exact hK' _ _ hK
/-- delete(m, k), at the operation. -/
theorem wpList_mdel (hg : o.guard = none) (m x : Operand) (t kt et : TypeId) (hop : o.op = .call { callee := .builtin .delete, args := #[m, x], argTypes := #[t, kt] }) (ht : P.underlying t = some (.map kt et)) (hk : P.underlying kt = some (.int .i64))
    {b : Nat} {l : List (Int × Value)} (h : IsMap w b l) (hm : a.eval m = .map (some b)) (k : Int) (hx : a.eval x = ki k)
    (hK : ∀ w', IsMap w' b (del l k) → w.grownBy w' (some b) → wpList P ops Q rest (a.put o.dst (.tuple #[])) w') : wpList P ops Q (o :: rest) a w := by
  refine wpList_plain hg fun K' hK' => ?_
  obtain ⟨dst, op, ty, pos, after, guard⟩ := o
  simp only at hop
  subst hop
  obtain ⟨w', hrun, r1, r2⟩ := run_del h ht hk k #[t, kt] ty rfl
  unfold Oper.wp
  rw [BigFrame.execOp_builtin, BigFrame.builtin_delete]
  simp [hm, hx, hrun, Result.andThen]
  exact hK' _ _ (hK w' r1 r2)
end
section
variable {F : Fence} {n : Nat} {P : Program} {w : World} {ops : Array Oper} {rs : List Oper} {o : Oper} {a : Act} {Q : Exit → Act → World → Prop}
theorem wpListIn_range (hg : o.guard = none) (m : Operand) (t kt et : TypeId) (hop : o.op = Op.range t m) (ht : P.underlying t = some (.map kt et)) {b : Nat} {l : List (Int × Value)} (h : IsMap w b l) (hm : a.eval m = .map (some b))
    (hK : ∀ w', Ran w' b w.heap.size l l → w.grownBy w' none → w'.heap.size = w.heap.size + 1 → wpListIn F n P ops Q rs (a.put o.dst (.pointer (some ⟨w.heap.size, 0, none⟩))) w') : wpListIn F n P ops Q (o :: rs) a w := by
  refine wpListIn_plain hg fun K' hK' => ?_
  obtain ⟨w', hrun, r1, r2, r3⟩ := run_range h ht
  unfold Oper.wpIn
  refine ⟨by simp [Oper.about, hop], ?_⟩
  rw [Oper.semAt_plain F _ _ (by rw [hop]; intro c hc'; cases hc')]
  simp [execOp, hop, hm, hrun, Result.andThen]
  exact hK' _ _ (hK w' r1 r2 r3)
theorem wpListIn_next (hg : o.guard = none) (it : Operand) (hop : o.op = Op.next it false) {b r : Nat} {l rest : List (Int × Value)} (hit : a.eval it = .pointer (some ⟨r, 0, none⟩)) (h : Ran w b r l rest)
    (hDone : rest = [] → wpListIn F n P ops Q rs (a.put o.dst (.tuple #[.bool false])) w)
    (hMore : ∀ k v w', (k, v) ∈ rest → Ran w' b r l (rest.filter fun p => p.1 ≠ k) → w.grownBy w' (some r) → w'.heap.size = w.heap.size → (Instr.entry (.pointer (some ⟨r, 0, none⟩))).run P w' = .ok (.tuple #[ki k, v]) w' → wpListIn F n P ops Q rs (a.put o.dst (.tuple #[.bool true, ki k, v])) w') :
    wpListIn F n P ops Q (o :: rs) a w := by
  refine wpListIn_plain hg fun K' hK' => ?_
  unfold Oper.wpIn
  refine ⟨by simp [Oper.about, hop], ?_⟩
  rw [Oper.semAt_plain F _ _ (by rw [hop]; intro c hc'; cases hc')]
  rcases h.next (P := P) o.type with ⟨h0, hrun⟩ | ⟨k, v, w', hkv, hrun, hr, hg', hsz, hen⟩
  · simp [execOp, hop, hit, hrun, Result.andThen]
    exact hK' _ _ (hDone h0)
  · simp [execOp, hop, hit, hrun, Result.andThen]
    exact hK' _ _ (hMore k v w' hkv hr hg' hsz hen)
end
end Go.Proofs.YtlhblhgbpaipaaaGreat.MapI

/- MapU -/
namespace Go.Proofs.YtlhblhgbpaipaaaGreat.MapU
open Go.RowKit Go.MapKept
set_option linter.unusedVariables false

abbrev ki (k : Int) : Value := .int .u16 k
def ent (p : Int × Value) : Value × Value := (ki p.1, p.2)

/-- Block b holds a map of these keys and values. -/
def IsMap (w : World) (b : Nat) (l : List (Int × Value)) : Prop :=
  ∃ es clock, w.heap[b]? = some (.map es clock) ∧ Stamped es clock ∧ es.toList.map (fun e => (e.key, e.val)) = l.map ent

/-- The pairs with k's value laid in. -/
def put (l : List (Int × Value)) (k : Int) (v : Value) : List (Int × Value) :=
  if k ∈ l.map (·.1) then l.map (fun p => if p.1 = k then (k, v) else p) else l ++ [(k, v)]
def del (l : List (Int × Value)) (k : Int) : List (Int × Value) := l.filter fun p => p.1 ≠ k
def look (l : List (Int × Value)) (k : Int) : Option Value := (l.find? fun p => p.1 = k).map (·.2)

section
variable {w : World} {b : Nat} {l : List (Int × Value)}
theorem IsMap.lt (h : IsMap w b l) : b < w.heap.size := by
  obtain ⟨es, c, hb, _⟩ := h; exact (Array.getElem?_eq_some_iff.1 hb).1
theorem IsMap.heap {w' : World} (h : IsMap w b l) (e : w'.heap[b]? = w.heap[b]?) : IsMap w' b l := by
  obtain ⟨es, c, hb, r⟩ := h; exact ⟨es, c, e.trans hb, r⟩
theorem IsMap.grown {w' : World} {r : Option Nat} (h : IsMap w b l) (hg : w.grownBy w' r) (hr : r ≠ some b) : IsMap w' b l := h.heap (hg.block b h.lt (fun e => hr e.symm))
theorem IsMap.below {w' : World} (h : IsMap w b l) (hb : Below w.heap.size w w') : IsMap w' b l := h.heap (hb.block b h.lt)
theorem IsMap.made (w : World) : IsMap (w.alloc (.map #[] 0)) w.heap.size [] := ⟨#[], 0, heap_alloc_new w _, stamped_empty 0, rfl⟩

theorem ent_get {es : Array MapEntry} (h : es.toList.map (fun e => (e.key, e.val)) = l.map ent) {j : Nat} {e : MapEntry} (he : es.toList[j]? = some e) : ∃ p, l[j]? = some p ∧ e.key = ki p.1 ∧ e.val = p.2 := by
  have h2 := congrArg (fun l => l[j]?) h
  simp only [List.getElem?_map, he, Option.map_some] at h2
  cases hp : l[j]? with
  | none => rw [hp] at h2; cases h2
  | some p => rw [hp] at h2; simp [ent] at h2; exact ⟨p, rfl, h2.1, h2.2⟩
theorem ent_keys {es : Array MapEntry} (h : es.toList.map (fun e => (e.key, e.val)) = l.map ent) : es.toList.map (·.key) = l.map (fun p => ki p.1) := by
  have h2 := congrArg (List.map Prod.fst) h
  simpa [List.map_map, Function.comp_def, ent] using h2
theorem ent_isKey {es : Array MapEntry} (h : es.toList.map (fun e => (e.key, e.val)) = l.map ent) : ∀ x ∈ es.toList, IsKey (.int .u16) x.key := by
  intro x hx
  have : x.key ∈ es.toList.map (·.key) := List.mem_map.2 ⟨x, hx, rfl⟩
  rw [ent_keys h] at this
  obtain ⟨p, _, e⟩ := List.mem_map.1 this
  rw [← e]; exact rfl
theorem ki_inj {a c : Int} (h : ki a = ki c) : a = c := by injection h
theorem nodup_keys {es : Array MapEntry} {c : Nat} (hs : Stamped es c) (h : es.toList.map (fun e => (e.key, e.val)) = l.map ent) : (l.map (·.1)).Nodup := by
  have h3 := hs.2.2
  rw [ent_keys h, show (fun p : Int × Value => ki p.1) = ki ∘ Prod.fst from rfl, ← List.map_map] at h3
  exact List.Pairwise.of_map _ (fun a c (hne : ki a ≠ ki c) e => hne (by rw [e])) h3
theorem IsMap.nodup (h : IsMap w b l) : (l.map (·.1)).Nodup := by
  obtain ⟨es, c, _, hs, he⟩ := h; exact nodup_keys hs he

/-- What findNow finds. -/
theorem find_spec {es : Array MapEntry} (h : es.toList.map (fun e => (e.key, e.val)) = l.map ent) (k : Int) :
    (Instr.findNow (.int .u16) (ki k) es.toList 0 = some none ∧ k ∉ l.map (·.1) ∧ look l k = none ∧ ∀ x ∈ es.toList, x.key ≠ ki k) ∨
    ∃ j e, Instr.findNow (.int .u16) (ki k) es.toList 0 = some (some (j, e.val)) ∧ es.toList[j]? = some e ∧ e.key = ki k ∧ k ∈ l.map (·.1) ∧ l[j]? = some (k, e.val) := by
  rcases findNow_spec (d := .int .u16) (k := ki k) rfl es.toList 0 (ent_isKey h) with ⟨h1, h2⟩ | ⟨j, e, h1, h2, h3⟩
  · have hk : k ∉ l.map (·.1) := by
      intro hm
      have : ki k ∈ es.toList.map (·.key) := by rw [ent_keys h]; obtain ⟨p, hp, rfl⟩ := List.mem_map.1 hm; exact List.mem_map.2 ⟨p, hp, rfl⟩
      obtain ⟨x, hx, e⟩ := List.mem_map.1 this
      exact h2 x hx e
    refine .inl ⟨h1, hk, ?_, h2⟩
    unfold look
    rw [List.find?_eq_none.2 (fun p hp => by simp; intro e; exact hk (List.mem_map.2 ⟨p, hp, e⟩))]; rfl
  · obtain ⟨p, hp, hpk, hpv⟩ := ent_get h h2
    have e1 : p.1 = k := ki_inj (by rw [← hpk, h3])
    have e2 : p = (k, e.val) := by rw [← e1, hpv]
    refine .inr ⟨j, e, by simpa using h1, h2, h3, List.mem_map.2 ⟨p, List.mem_of_getElem? hp, e1⟩, by rw [hp, e2]⟩
theorem look_mem {l : List (Int × Value)} {k : Int} {v : Value} (hn : (l.map (·.1)).Nodup) (h : (k, v) ∈ l) : look l k = some v := by
  induction l with
  | nil => cases h
  | cons p t ih =>
    simp only [List.map_cons, List.nodup_cons] at hn
    unfold look
    rcases List.mem_cons.1 h with rfl | h
    · simp
    · have : p.1 ≠ k := fun e => hn.1 (List.mem_map.2 ⟨_, h, e.symm⟩)
      rw [List.find?_cons_of_neg (by simpa using this)]
      exact ih hn.2 h

variable {P : Program} {t kt et : TypeId}
theorem run_look (h : IsMap w b l) (ht : P.underlying t = some (.map kt et)) (hk : P.underlying kt = some (.int .u16)) (k : Int) {z : Value} (hz : (zeroValue et).run P w = .ok z w) (ok : Bool) :
    (Instr.lookup t (.map (some b)) (ki k) ok).run P w = .ok (if ok then .tuple #[(look l k).getD z, .bool (look l k).isSome] else (look l k).getD z) w := by
  obtain ⟨es, c, hb, hs, he⟩ := h
  rcases find_spec he k with ⟨h1, h2, h3, _⟩ | ⟨j, e, h1, h2, h3, h4, h5⟩
  · rw [h3]
    simp [Instr.lookup, run_underlying ht, MapKept.run_getObj_map hb, run_checkKey (d := .int .u16) hk (k := ki k) rfl, run_findKey hk h1, hz, Result.andThen]
  · rw [look_mem (nodup_keys hs he) (List.mem_of_getElem? h5)]
    simp [Instr.lookup, run_underlying ht, MapKept.run_getObj_map hb, run_checkKey (d := .int .u16) hk (k := ki k) rfl, run_findKey hk h1, Result.andThen]

theorem grown_setObj {w : World} {b : Nat} {o o' : Obj} (hb : w.heap[b]? = some o) : w.grownBy { w with heap := w.heap.setIfInBounds b o' } (some b) :=
  ⟨rfl, rfl, rfl, by simp, fun j hj hne => (heap_set hb).2 j (fun e => hne (by rw [e]))⟩

theorem run_put (h : IsMap w b l) (ht : P.underlying t = some (.map kt et)) (hk : P.underlying kt = some (.int .u16)) (k : Int) (v : Value) :
    ∃ w', (Instr.mapUpdate t (.map (some b)) (ki k) v).run P w = .ok () w' ∧ IsMap w' b (put l k v) ∧ w.grownBy w' (some b) := by
  obtain ⟨es, c, hb, hs, he⟩ := h
  rcases find_spec he k with ⟨h1, h2, h3, h6⟩ | ⟨j, e, h1, h2, h3, h4, h5⟩
  · refine ⟨_, ?_, ⟨_, _, (heap_set hb).1, stamped_push (val := v) hs h6, ?_⟩, grown_setObj hb⟩
    · simp [Instr.mapUpdate, run_underlying ht, MapKept.run_getObj_map hb, run_checkKey (d := .int .u16) hk (k := ki k) rfl, run_findKey hk h1, run_setObj_map _ hb, Result.andThen]
    · unfold put
      rw [if_neg h2]
      simp [he, ent]
  · have hj : es[j]? = some e := by simpa using h2
    have hkey : ∀ e', es[j]? = some e' → ({ e' with key := ki k, val := v } : MapEntry).key = e'.key := fun e' he' => by rw [hj] at he'; cases he'; exact h3.symm
    refine ⟨_, ?_, ⟨_, _, (heap_set hb).1, stamped_modify hs j (fun e => { e with key := ki k, val := v }) (fun _ _ => rfl) (fun e' _ he' => hkey e' he'), ?_⟩, grown_setObj hb⟩
    · simp [Instr.mapUpdate, run_underlying ht, MapKept.run_getObj_map hb, run_checkKey (d := .int .u16) hk (k := ki k) rfl, run_findKey hk h1, hj, h3, run_keyThatStays (d := .int .u16) (k := ki k) rfl, run_setObj_map _ hb, Result.andThen]
    · unfold put
      rw [if_pos h4]
      have hn := nodup_keys hs he
      apply List.ext_getElem?
      intro i
      have hi := congrArg (fun l => l[i]?) he
      simp only [List.getElem?_map] at hi ⊢
      rw [Array.getElem?_toList, Array.getElem?_modify]
      by_cases hij : j = i
      · subst hij
        rw [if_pos rfl, hj, h5]
        simp [ent]
      · rw [if_neg hij, ← Array.getElem?_toList, hi]
        cases hp : l[i]? with
        | none => rfl
        | some p =>
          have hne : p.1 ≠ k := by
            intro e1
            have a1 : (l.map (·.1))[i]? = some k := by rw [List.getElem?_map, hp]; simp [e1]
            have a2 : (l.map (·.1))[j]? = some k := by rw [List.getElem?_map, h5]; rfl
            obtain ⟨l1, g1⟩ := List.getElem?_eq_some_iff.1 a1
            obtain ⟨l2, g2⟩ := List.getElem?_eq_some_iff.1 a2
            exact hij ((List.getElem_inj hn).1 (g2.trans g1.symm))
          simp [hne]

theorem run_del (h : IsMap w b l) (ht : P.underlying t = some (.map kt et)) (hk : P.underlying kt = some (.int .u16)) (k : Int) (ats : Array TypeId) (ty : TypeId) (ha : ats[0]? = some t) :
    ∃ w', (Builtin.delete_ ats ty #[.map (some b), ki k]).run P w = .ok (.tuple #[]) w' ∧ IsMap w' b (del l k) ∧ w.grownBy w' (some b) := by
  obtain ⟨es, c, hb, hs, he⟩ := h
  have hn := nodup_keys hs he
  rcases find_spec he k with ⟨h1, h2, h3, h6⟩ | ⟨j, e, h1, h2, h3, h4, h5⟩
  · refine ⟨_, ?_, ⟨_, _, (heap_set hb).1, hs, ?_⟩, grown_setObj hb⟩
    · simp [Builtin.delete_, ha, run_underlying ht, MapKept.run_getObj_map hb, run_checkKey (d := .int .u16) hk (k := ki k) rfl, run_findKey hk h1, run_setObj_map _ hb, Result.andThen]
    · rw [he, del, List.filter_eq_self.2]
      intro p hp; simp; intro e1; exact h2 (List.mem_map.2 ⟨p, hp, e1⟩)
  · refine ⟨_, ?_, ⟨_, _, (heap_set hb).1, stamped_erase hs j, ?_⟩, grown_setObj hb⟩
    · simp [Builtin.delete_, ha, run_underlying ht, MapKept.run_getObj_map hb, run_checkKey (d := .int .u16) hk (k := ki k) rfl, run_findKey hk h1, run_setObj_map _ hb, Result.andThen]
    · have hl : j < es.size := by have := (List.getElem?_eq_some_iff.1 h2).1; simpa using this
      have e1 : (es.eraseIdxIfInBounds j).toList = es.toList.eraseIdx j := by simp [Array.eraseIdxIfInBounds, hl]
      rw [e1, Go.ChangeMaps.map_eraseIdx, he, ← Go.ChangeMaps.map_eraseIdx]
      congr 1
      exact erase_filter hn h5
where
  erase_filter {l : List (Int × Value)} {j : Nat} {k : Int} {v : Value} (hn : (l.map (·.1)).Nodup) (h : l[j]? = some (k, v)) : l.eraseIdx j = del l k := by
    induction l generalizing j with
    | nil => simp at h
    | cons p t ih =>
      simp only [List.map_cons, List.nodup_cons] at hn
      cases j with
      | zero =>
        simp at h; subst h
        simp only [List.eraseIdx_cons_zero, del]
        rw [List.filter_cons_of_neg (by simp)]
        symm; rw [List.filter_eq_self]
        intro q hq; simp; intro e; exact hn.1 (List.mem_map.2 ⟨q, hq, e⟩)
      | succ j =>
        simp at h
        have hne : p.1 ≠ k := fun e => hn.1 (List.mem_map.2 ⟨_, List.mem_of_getElem? h, e.symm⟩)
        simp only [List.eraseIdx_cons_succ, del]
        rw [List.filter_cons_of_pos (by simpa using hne)]
        congr 1
        exact ih hn.2 h

theorem run_len (h : IsMap w b l) (ht : P.underlying t = some (.map kt et)) (ats : Array TypeId) (ty : TypeId) (ha : ats = #[t]) :
    (Builtin.len_ ats ty #[.map (some b)]).run P w = .ok (.int .i64 l.length) w := by
  obtain ⟨es, c, hb, hs, he⟩ := h
  have : es.size = l.length := by have := congrArg List.length he; simpa using this
  subst ha
  simp [Builtin.len_, run_underlying ht, MapKept.run_getObj_map hb, Result.andThen, this, goInt]
end

section
variable {P : Program} {ops : Array Oper} {rest : List Oper} {o : Oper} {a : Act} {w : World} {Q : Exit → Act → World → Prop}
/-- m[k], at the operation. -/
theorem wpList_look (hg : o.guard = none) (m x : Operand) (t kt et : TypeId) (hop : o.op = .lookup t m x false) (ht : P.underlying t = some (.map kt et)) (hk : P.underlying kt = some (.int .u16))
    {b : Nat} {l : List (Int × Value)} (h : IsMap w b l) (hm : a.eval m = .map (some b)) (k : Int) (hx : a.eval x = ki k) {z : Value} (hz : (zeroValue et).run P w = .ok z w) (v : Value) (hv : (look l k).getD z = v)
    (hK : wpList P ops Q rest (a.put o.dst v) w) : wpList P ops Q (o :: rest) a w := by
  refine wpList_plain hg fun K' hK' => ?_
  have hrun := run_look h ht hk k hz false
  rw [hv] at hrun
  unfold Oper.wp
  simp [execOp, hop, hm, hx, hrun, Result.andThen]
  exact hK' _ _ hK
/-- m[k] = v, at the operation. -/
theorem wpList_put (hg : o.guard = none) (m x y : Operand) (t kt et : TypeId) (hop : o.op = .mapUpdate t m x y) (ht : P.underlying t = some (.map kt et)) (hk : P.underlying kt = some (.int .u16))
    {b : Nat} {l : List (Int × Value)} (h : IsMap w b l) (hm : a.eval m = .map (some b)) (k : Int) (hx : a.eval x = ki k) (v : Value) (hv : a.eval y = v)
    (hK : ∀ w', IsMap w' b (put l k v) → w.grownBy w' (some b) → wpList P ops Q rest (a.put o.dst undef) w') : wpList P ops Q (o :: rest) a w := by
  refine wpList_plain hg fun K' hK' => ?_
  obtain ⟨w', hrun, r1, r2⟩ := run_put h ht hk k v
  unfold Oper.wp
  simp [execOp, hop, hm, hx, hv, hrun, Result.andThen]
  exact hK' _ _ (hK w' r1 r2)
end
end Go.Proofs.YtlhblhgbpaipaaaGreat.MapU

/- MapUR -/
namespace Go.Proofs.YtlhblhgbpaipaaaGreat.MapU
open Go.RowKit Go.MapKept Go.ChangeMaps
set_option linter.unusedVariables false

/-- A range over block b's map by the iterator in block r: rest is still to come. -/
def Ran (w : World) (b r : Nat) (l rest : List (Int × Value)) : Prop :=
  ∃ es clock since seen c0, w.heap[b]? = some (.map es clock) ∧ Stamped es clock ∧ es.toList.map (fun e => (e.key, e.val)) = l.map ent ∧ w.heap[r]? = some (.mapIter (some b) since seen c0) ∧
    (∀ x ∈ es.toList, x.born < since) ∧ since ≤ c0 ∧ since ≤ clock ∧ (leftOf es seen).toList.map (fun e => (e.key, e.val)) = rest.map ent

theorem ent_inj : Function.Injective ent := fun p q h => by
  have h1 := congrArg Prod.fst h; have h2 := congrArg Prod.snd h
  exact Prod.ext (ki_inj h1) h2
theorem Ran.map {w : World} {b r : Nat} {l rest : List (Int × Value)} (h : Ran w b r l rest) : IsMap w b l := by
  obtain ⟨es, c, _, _, _, hb, hs, he, _⟩ := h; exact ⟨es, c, hb, hs, he⟩
theorem Ran.sub {w : World} {b r : Nat} {l rest : List (Int × Value)} (h : Ran w b r l rest) {p : Int × Value} (hp : p ∈ rest) : p ∈ l := by
  obtain ⟨es, c, _, seen, _, hb, hs, he, _, _, _, _, hl⟩ := h
  have h1 : ent p ∈ (leftOf es seen).toList.map (fun e => (e.key, e.val)) := by rw [hl]; exact List.mem_map.2 ⟨p, hp, rfl⟩
  obtain ⟨e, he1, he2⟩ := List.mem_map.1 h1
  have h2 : ent p ∈ es.toList.map (fun e => (e.key, e.val)) := List.mem_map.2 ⟨e, by unfold leftOf at he1; simp at he1 ⊢; exact he1.1, he2⟩
  rw [he] at h2
  obtain ⟨q, hq, hq2⟩ := List.mem_map.1 h2
  rw [← ent_inj hq2]; exact hq
theorem Ran.left_eq {w : World} {b r : Nat} {l rest : List (Int × Value)} (h : Ran w b r l rest) : w.rangeLeft b r = rest.length := by
  obtain ⟨es, c, _, seen, _, hb, hs, he, hr, _, _, _, hl⟩ := h
  simp only [World.rangeLeft, hb, hr]
  have := congrArg List.length hl
  simpa using this
theorem Ran.kept {w w' : World} {b r : Nat} {l rest : List (Int × Value)} (h : Ran w b r l rest) (hb : w'.heap[b]? = w.heap[b]?) (hr : w'.heap[r]? = w.heap[r]?) : Ran w' b r l rest := by
  obtain ⟨es, c, s, seen, c0, h1, h2, h3, h4, h5⟩ := h
  exact ⟨es, c, s, seen, c0, hb.trans h1, h2, h3, hr.trans h4, h5⟩
theorem Ran.lt {w : World} {b r : Nat} {l rest : List (Int × Value)} (h : Ran w b r l rest) : b < w.heap.size ∧ r < w.heap.size := by
  obtain ⟨es, c, s, seen, c0, h1, h2, h3, h4, h5⟩ := h
  exact ⟨(Array.getElem?_eq_some_iff.1 h1).1, (Array.getElem?_eq_some_iff.1 h4).1⟩
theorem Ran.ne {w : World} {b r : Nat} {l rest : List (Int × Value)} (h : Ran w b r l rest) : r ≠ b := by
  obtain ⟨es, c, s, seen, c0, h1, h2, h3, h4, h5⟩ := h
  intro e; rw [e, h1] at h4; cases h4

theorem run_range {P : Program} {w : World} {b : Nat} {l : List (Int × Value)} {t kt et : TypeId} (h : IsMap w b l) (ht : P.underlying t = some (.map kt et)) :
    ∃ w', (Instr.range t (.map (some b))).run P w = .ok (.pointer (some ⟨w.heap.size, 0, none⟩)) w' ∧ Ran w' b w.heap.size l l ∧ w.grownBy w' none ∧ w'.heap.size = w.heap.size + 1 := by
  obtain ⟨es, c, hb, hs, he⟩ := h
  refine ⟨w.alloc (.mapIter (some b) c #[] c), ?_, ⟨es, c, c, #[], c, (heap_alloc_old _ _ (Array.getElem?_eq_some_iff.1 hb).1).trans hb, hs, he, heap_alloc_new _ _, fun x hx => ?_, Nat.le_refl _, Nat.le_refl _, ?_⟩, World.grownBy_alloc _ _ _, by simp⟩
  · simp [Instr.range, run_underlying ht, MapKept.run_getObj_map hb, Result.andThen, go_sem]
  · exact hs.1 x hx
  · rw [← he]; unfold leftOf; congr 1; simp

theorem filter_kv : ∀ {A : List MapEntry} {rest : List (Int × Value)} {e : MapEntry} {k : Int}, A.map (fun e => (e.key, e.val)) = rest.map ent → e.key = ki k → (∀ x ∈ A, x.born = e.born ↔ x.key = e.key) →
    (A.filter fun x => !(x.born == e.born)).map (fun e => (e.key, e.val)) = (rest.filter fun p => p.1 ≠ k).map ent
  | [], [], _, _, _, _, _ => rfl
  | [], _ :: _, _, _, h, _, _ => by simp at h
  | _ :: _, [], _, _, h, _, _ => by simp at h
  | x :: A, p :: rest, e, k, h, hk, hb => by
    simp only [List.map_cons, List.cons.injEq] at h
    have ih := filter_kv (A := A) (rest := rest) h.2 hk (fun y hy => hb y (List.mem_cons_of_mem _ hy))
    have hx : x.key = ki p.1 := congrArg Prod.fst h.1
    have hx0 := hb x (List.mem_cons_self ..)
    by_cases hpk : p.1 = k
    · have : x.born = e.born := hx0.2 (by rw [hx, hk, hpk])
      rw [List.filter_cons_of_neg (by simp [this]), List.filter_cons_of_neg (by simp [hpk])]
      exact ih
    · have : x.born ≠ e.born := fun h1 => hpk (ki_inj (by rw [← hx, ← hk]; exact hx0.1 h1))
      rw [List.filter_cons_of_pos (by simp [this]), List.filter_cons_of_pos (by simpa using hpk), List.map_cons, List.map_cons, ih, h.1]
theorem born_key {es : Array MapEntry} {c : Nat} (hs : Stamped es c) {x e : MapEntry} (hx : x ∈ es.toList) (he : e ∈ es.toList) : x.born = e.born ↔ x.key = e.key := by
  have inj : ∀ {β : Type} (f : MapEntry → β), (es.toList.map f).Nodup → f x = f e → x = e := by
    intro β f hn hf
    obtain ⟨i, hi, rfl⟩ := List.getElem_of_mem hx
    obtain ⟨j, hj, rfl⟩ := List.getElem_of_mem he
    have : (es.toList.map f)[i]'(by simpa using hi) = (es.toList.map f)[j]'(by simpa using hj) := by simpa using hf
    have := (List.getElem_inj hn).1 this
    subst this; rfl
  exact ⟨fun h => by rw [inj _ hs.2.1 h], fun h => by rw [inj _ hs.2.2 h]⟩
theorem Ran.next {P : Program} {w : World} {b r : Nat} {l rest : List (Int × Value)} (h : Ran w b r l rest) (ty : TypeId) :
    (rest = [] ∧ (Instr.next (.pointer (some ⟨r, 0, none⟩)) false ty).run P w = .ok (.tuple #[.bool false]) w) ∨
    ∃ k v w', (k, v) ∈ rest ∧ (Instr.next (.pointer (some ⟨r, 0, none⟩)) false ty).run P w = .ok (.tuple #[.bool true, ki k, v]) w' ∧ Ran w' b r l (rest.filter fun p => p.1 ≠ k) ∧ w.grownBy w' (some r) ∧ w'.heap.size = w.heap.size ∧
      (Instr.entry (.pointer (some ⟨r, 0, none⟩))).run P w' = .ok (.tuple #[ki k, v]) w' := by
  have hne := h.ne
  obtain ⟨es, c, since, seen, c0, hb, hs, he, hr, hold, hsc, hsk, hl⟩ := h
  rcases run_next_at (P := P) w ty r b since c0 seen es c hr hb hold hsc with ⟨h0, hrun⟩ | ⟨e, hmem, w1, hw1, hrun⟩
  · left
    refine ⟨?_, hrun⟩
    have := congrArg List.length hl
    rw [List.length_map, List.length_map, Array.length_toList, h0] at this
    exact List.length_eq_zero_iff.1 this.symm
  · right
    have h1 : (e.key, e.val) ∈ rest.map ent := by rw [← hl]; exact List.mem_map.2 ⟨e, hmem, rfl⟩
    obtain ⟨⟨k, v⟩, hkv, hent⟩ := List.mem_map.1 h1
    have hek : e.key = ki k := (congrArg Prod.fst hent).symm
    have hev : e.val = v := (congrArg Prod.snd hent).symm
    have hes : e ∈ es.toList := by unfold leftOf at hmem; simp at hmem ⊢; exact hmem.1
    have hb1 : w1.heap[b]? = some (.map es c) := by rcases hw1 with rfl | rfl <;> exact hb
    have hr1 : w1.heap[r]? = some (.mapIter (some b) since seen c0) := by rcases hw1 with rfl | rfl <;> exact hr
    have hr2 : (setBlock w1 r (.mapIter (some b) since (seen.push e.born) c)).heap[r]? = some (.mapIter (some b) since (seen.push e.born) c) := (heap_set hr1).1
    have hb2 : (setBlock w1 r (.mapIter (some b) since (seen.push e.born) c)).heap[b]? = some (.map es c) := ((heap_set hr1).2 b (Ne.symm hne)).trans hb1
    refine ⟨k, v, _, hkv, by rw [hrun, hek, hev], ⟨es, c, since, seen.push e.born, c, hb2, hs, he, hr2, hold, hsk, hsk, ?_⟩, ?_, ?_, ?_⟩
    · have e1 : (leftOf es (seen.push e.born)).toList = (leftOf es seen).toList.filter fun x => !(x.born == e.born) := by
        unfold leftOf
        simp only [Array.toList_filter, List.filter_filter]
        congr 1
        funext x
        rw [Bool.eq_iff_iff]
        simp [and_comm]
      rw [e1]
      exact filter_kv hl hek (fun x hx => born_key hs (by unfold leftOf at hx; simp at hx ⊢; exact hx.1) hes)
    · have hg1 : w.grownBy w1 (some r) := by rcases hw1 with rfl | rfl <;> exact ⟨rfl, rfl, rfl, Nat.le_refl _, fun _ _ _ => rfl⟩
      have hg2 := grown_setObj hr1 (o' := .mapIter (some b) since (seen.push e.born) c)
      exact ⟨hg2.os.trans hg1.os, hg2.tape.trans hg1.tape, hg2.output.trans hg1.output, Nat.le_trans hg1.size hg2.size, fun j hj hne => (hg2.block j (Nat.lt_of_lt_of_le hj hg1.size) hne).trans (hg1.block j hj hne)⟩
    · have hg1 : w1.heap = w.heap := by rcases hw1 with rfl | rfl <;> rfl
      simp [setBlock, hg1]
    · rw [run_entry_at _ r b since seen es c e hr2 hb2 hes hs.2.1, hek, hev]

section
variable {P : Program} {w : World} {ops : Array Oper} {rs : List Oper} {o : Oper} {a : Act} {Q : Exit → Act → World → Prop}
/-- range m, at the operation. -/
theorem wpList_range (hg : o.guard = none) (m : Operand) (t kt et : TypeId) (hop : o.op = Op.range t m) (ht : P.underlying t = some (.map kt et)) {b : Nat} {l : List (Int × Value)} (h : IsMap w b l) (hm : a.eval m = .map (some b))
    (hK : ∀ w', Ran w' b w.heap.size l l → w.grownBy w' none → w'.heap.size = w.heap.size + 1 → wpList P ops Q rs (a.put o.dst (.pointer (some ⟨w.heap.size, 0, none⟩))) w') : wpList P ops Q (o :: rs) a w := by
  refine wpList_plain hg fun K' hK' => ?_
  obtain ⟨w', hrun, r1, r2, r3⟩ := run_range h ht
  unfold Oper.wp
  simp [execOp, hop, hm, hrun, Result.andThen]
  exact hK' _ _ (hK w' r1 r2 r3)
/-- The step, at the operation. -/
theorem wpList_next (hg : o.guard = none) (it : Operand) (hop : o.op = Op.next it false) {b r : Nat} {l rest : List (Int × Value)} (hit : a.eval it = .pointer (some ⟨r, 0, none⟩)) (h : Ran w b r l rest)
    (hDone : rest = [] → wpList P ops Q rs (a.put o.dst (.tuple #[.bool false])) w)
    (hMore : ∀ k v w', (k, v) ∈ rest → Ran w' b r l (rest.filter fun p => p.1 ≠ k) → w.grownBy w' (some r) → w'.heap.size = w.heap.size → (Instr.entry (.pointer (some ⟨r, 0, none⟩))).run P w' = .ok (.tuple #[ki k, v]) w' → wpList P ops Q rs (a.put o.dst (.tuple #[.bool true, ki k, v])) w') :
    wpList P ops Q (o :: rs) a w := by
  refine wpList_plain hg fun K' hK' => ?_
  unfold Oper.wp
  rcases h.next (P := P) o.type with ⟨h0, hrun⟩ | ⟨k, v, w', hkv, hrun, hr, hg', hsz, hen⟩
  · simp [execOp, hop, hit, hrun, Result.andThen]
    exact hK' _ _ (hDone h0)
  · simp [execOp, hop, hit, hrun, Result.andThen]
    exact hK' _ _ (hMore k v w' hkv hr hg' hsz hen)
end
section
variable {P : Program} {w : World} {ops : Array Oper} {rest : List Oper} {o : Oper} {a : Act} {Q : Exit → Act → World → Prop}
/-- v, ok := m[k], at the operation. -/
theorem wpList_lookok (hg : o.guard = none) (m x : Operand) (t kt et : TypeId) (hop : o.op = .lookup t m x true) (ht : P.underlying t = some (.map kt et)) (hk : P.underlying kt = some (.int .u16))
    {b : Nat} {l : List (Int × Value)} (h : IsMap w b l) (hm : a.eval m = .map (some b)) (k : Int) (hx : a.eval x = ki k) {z : Value} (hz : (zeroValue et).run P w = .ok z w) (v : Value) (hv : (look l k).getD z = v) (bo : Bool) (hb : (look l k).isSome = bo)
    (hK : wpList P ops Q rest (a.put o.dst (.tuple #[v, .bool bo])) w) : wpList P ops Q (o :: rest) a w := by
  refine wpList_plain hg fun K' hK' => ?_
  have hrun := run_look h ht hk k hz true
  rw [hv, hb] at hrun
  unfold Oper.wp
  simp [execOp, hop, hm, hx, hrun, Result.andThen]
  exact hK' _ _ hK
/-- delete(m, k), at the operation. -/
theorem wpList_mdel (hg : o.guard = none) (m x : Operand) (t kt et : TypeId) (hop : o.op = .call { callee := .builtin .delete, args := #[m, x], argTypes := #[t, kt] }) (ht : P.underlying t = some (.map kt et)) (hk : P.underlying kt = some (.int .u16))
    {b : Nat} {l : List (Int × Value)} (h : IsMap w b l) (hm : a.eval m = .map (some b)) (k : Int) (hx : a.eval x = ki k)
    (hK : ∀ w', IsMap w' b (del l k) → w.grownBy w' (some b) → wpList P ops Q rest (a.put o.dst (.tuple #[])) w') : wpList P ops Q (o :: rest) a w := by
  refine wpList_plain hg fun K' hK' => ?_
  obtain ⟨dst, op, ty, pos, after, guard⟩ := o
  simp only at hop
  subst hop
  obtain ⟨w', hrun, r1, r2⟩ := run_del h ht hk k #[t, kt] ty rfl
  unfold Oper.wp
  rw [BigFrame.execOp_builtin, BigFrame.builtin_delete]
  simp [hm, hx, hrun, Result.andThen]
  exact hK' _ _ (hK w' r1 r2)
end
section
variable {F : Fence} {n : Nat} {P : Program} {w : World} {ops : Array Oper} {rs : List Oper} {o : Oper} {a : Act} {Q : Exit → Act → World → Prop}
theorem wpListIn_range (hg : o.guard = none) (m : Operand) (t kt et : TypeId) (hop : o.op = Op.range t m) (ht : P.underlying t = some (.map kt et)) {b : Nat} {l : List (Int × Value)} (h : IsMap w b l) (hm : a.eval m = .map (some b))
    (hK : ∀ w', Ran w' b w.heap.size l l → w.grownBy w' none → w'.heap.size = w.heap.size + 1 → wpListIn F n P ops Q rs (a.put o.dst (.pointer (some ⟨w.heap.size, 0, none⟩))) w') : wpListIn F n P ops Q (o :: rs) a w := by
  refine wpListIn_plain hg fun K' hK' => ?_
  obtain ⟨w', hrun, r1, r2, r3⟩ := run_range h ht
  unfold Oper.wpIn
  refine ⟨by simp [Oper.about, hop], ?_⟩
  rw [Oper.semAt_plain F _ _ (by rw [hop]; intro c hc'; cases hc')]
  simp [execOp, hop, hm, hrun, Result.andThen]
  exact hK' _ _ (hK w' r1 r2 r3)
theorem wpListIn_next (hg : o.guard = none) (it : Operand) (hop : o.op = Op.next it false) {b r : Nat} {l rest : List (Int × Value)} (hit : a.eval it = .pointer (some ⟨r, 0, none⟩)) (h : Ran w b r l rest)
    (hDone : rest = [] → wpListIn F n P ops Q rs (a.put o.dst (.tuple #[.bool false])) w)
    (hMore : ∀ k v w', (k, v) ∈ rest → Ran w' b r l (rest.filter fun p => p.1 ≠ k) → w.grownBy w' (some r) → w'.heap.size = w.heap.size → (Instr.entry (.pointer (some ⟨r, 0, none⟩))).run P w' = .ok (.tuple #[ki k, v]) w' → wpListIn F n P ops Q rs (a.put o.dst (.tuple #[.bool true, ki k, v])) w') :
    wpListIn F n P ops Q (o :: rs) a w := by
  refine wpListIn_plain hg fun K' hK' => ?_
  unfold Oper.wpIn
  refine ⟨by simp [Oper.about, hop], ?_⟩
  rw [Oper.semAt_plain F _ _ (by rw [hop]; intro c hc'; cases hc')]
  rcases h.next (P := P) o.type with ⟨h0, hrun⟩ | ⟨k, v, w', hkv, hrun, hr, hg', hsz, hen⟩
  · simp [execOp, hop, hit, hrun, Result.andThen]
    exact hK' _ _ (hDone h0)
  · simp [execOp, hop, hit, hrun, Result.andThen]
    exact hK' _ _ (hMore k v w' hkv hr hg' hsz hen)
end
end Go.Proofs.YtlhblhgbpaipaaaGreat.MapU
