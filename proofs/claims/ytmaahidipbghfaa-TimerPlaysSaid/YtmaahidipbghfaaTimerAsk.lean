/-
  Package timer: what asks: first, Next, Due, Has, Len.
-/
import Derived.Test.YtmaahidipbghfaaTimer
namespace Go.Proofs.Ytmaahidipbghfaa.Tm
open Go.RowKit
open Go.Proofs.Ytmaahidipbghfaa.Hp
open Go.Proofs.Ytmaahidipbghfaa.MapI
set_option linter.unusedVariables false

section
variable {w : World} {base tb lb hb : Nat} {vs : List Value} {Hs : List (List Ent)} {order : Nat} {G : List Int}

theorem head_all (hh : ∀ (i : Nat) es, Hs[i]? = some es → Heapish es) {l : Ent} (h : ∀ i, i < Hs.length → ∀ e t, Hs[i]? = some (e :: t) → le l e) : ∀ x ∈ Hs.flatten, le l x := by
  intro x hx
  obtain ⟨es, hes, hxe⟩ := List.mem_flatten.1 hx
  obtain ⟨i, hi, rfl⟩ := List.getElem_of_mem hes
  have h1 : Hs[i]? = some Hs[i] := List.getElem?_eq_getElem hi
  cases hc : Hs[i] with
  | nil => rw [hc] at hxe; simp at hxe
  | cons e t =>
    rw [hc] at hxe h1
    exact le_trans (h i hi e t h1) (head_least (hh i _ h1) x hxe)

theorem first_no (h : IsT w base tb lb hb vs Hs order G) (hm : Hs.flatten = []) :
    Calls Try.prog 24 #[.pointer (some ⟨tb, 0, none⟩)] w fun e w' => e = .returned (.pointer none) ∧ w.grownBy w' none := by
  refine (first_walk h).mono ?_
  rintro e w' ⟨r, l, rfl, hi⟩
  cases r with
  | none => exact ⟨rfl, hi.grown⟩
  | some j =>
    obtain ⟨_, t, h2, _⟩ := hi.yes j rfl
    have : l ∈ Hs.flatten := List.mem_flatten.2 ⟨_, List.mem_of_getElem? h2, by simp⟩
    rw [hm] at this; simp at this
theorem first_yes (h : IsT w base tb lb hb vs Hs order G) {x : Ent} (hm : IsMin Hs.flatten (some x)) :
    Calls Try.prog 24 #[.pointer (some ⟨tb, 0, none⟩)] w fun e w' => ∃ j t, e = .returned (.pointer (some ⟨lb, j, none⟩)) ∧ Hs[j]? = some (x :: t) ∧ w.grownBy w' none := by
  refine (first_walk h).mono ?_
  rintro e w' ⟨r, l, rfl, hi⟩
  cases r with
  | none =>
    obtain ⟨es, hes, hxe⟩ := List.mem_flatten.1 hm.1
    obtain ⟨i, hi2, rfl⟩ := List.getElem_of_mem hes
    have := hi.no rfl i (by rw [← h.len]; exact hi2)
    rw [List.getElem?_eq_getElem hi2] at this
    rw [Option.some.inj this] at hxe; simp at hxe
  | some j =>
    obtain ⟨_, t, h2, h3⟩ := hi.yes j rfl
    have hl : l ∈ Hs.flatten := List.mem_flatten.2 ⟨_, List.mem_of_getElem? h2, by simp⟩
    have hle := head_all h.heapish (fun i hi2 e t he => h3 i (by rw [← h.len]; exact hi2) e t he)
    have : l = x := le_anti (hle x hm.1) (hm.2 l hl)
    subst this
    exact ⟨j, t, rfl, h2, hi.grown⟩

set_option maxHeartbeats 1000000 in
theorem next_no (h : IsT w base tb lb hb vs Hs order G) (hm : Hs.flatten = []) :
    Calls Try.prog 15 #[.pointer (some ⟨tb, 0, none⟩)] w fun e w' => e = .returned (.tuple #[.int .i64 0, .bool false]) ∧ w.grownBy w' none := by
  have H := Lib.hid h
  have HM := Lib.hid hm
  clear h hm
  go_enter Try.func15, Try.ntmps15
  go_wp2_with fail
  refine (first_no H.out HM.out).mono ?_
  rintro e w1 ⟨rfl, hg⟩
  have HG := Lib.hid hg
  clear hg
  go_wp2_with fail
  go_ret2
  exact ⟨rfl, HG.out⟩

set_option maxHeartbeats 1000000 in
theorem next_yes (h : IsT w base tb lb hb vs Hs order G) {x : Ent} (hm : IsMin Hs.flatten (some x)) :
    Calls Try.prog 15 #[.pointer (some ⟨tb, 0, none⟩)] w fun e w' => e = .returned (.tuple #[.int .i64 x.w, .bool true]) ∧ w.grownBy w' none := by
  have H := Lib.hid h
  have HM := Lib.hid hm
  clear h hm
  go_enter Try.func15, Try.ntmps15
  go_wp2_with fail
  refine (first_yes H.out HM.out).mono ?_
  rintro e w1 ⟨j, t, rfl, hj, hg⟩
  have hjl : j < vs.length := by rw [← H.out.len]; exact (List.getElem?_eq_some_iff.1 hj).1
  obtain ⟨v, es, hv, hes, hp, hh, hlen⟩ := H.out.at hjl
  rw [hj] at hes
  cases hes
  have HP := Lib.hid (hp.grown hg)
  have HG := Lib.hid hg
  have hl := Lib.hid (show t.length ≤ 1000000 by simp at hlen; omega)
  clear hg hp hv hh hlen hj
  go_wp2_with fail
  refine (first_some HP.out hl.out).mono ?_
  rintro e w2 ⟨rfl, hg⟩
  have HG2 := Lib.hid (grown_none2 HG.out hg)
  clear hg
  go_wp2_with fail
  go_ret2
  exact ⟨rfl, grown_none2 HG2.out (World.grownBy_alloc _ _ _)⟩

/-- Is the least one due? -/
def dueB (m : Option Ent) (now : Int) : Bool := match m with | none => false | some x => decide (x.w ≤ now)

set_option maxHeartbeats 1000000 in
theorem due_is (h : IsT w base tb lb hb vs Hs order G) {m : Option Ent} (hm : IsMin Hs.flatten m) (now : Int) :
    Calls Try.prog 12 #[.pointer (some ⟨tb, 0, none⟩), .int .i64 now] w fun e w' => e = .returned (.bool (dueB m now)) ∧ w.grownBy w' none := by
  have H := Lib.hid h
  cases m with
  | none =>
    have HM := Lib.hid (show Hs.flatten = [] from hm)
    clear h hm
    go_enter Try.func12, Try.ntmps12
    go_wp2_with fail
    refine (next_no H.out HM.out).mono ?_
    rintro e w1 ⟨rfl, hg⟩
    have HG := Lib.hid hg
    clear hg
    go_wp2_with fail
    go_ret
    exact ⟨rfl, HG.out⟩
  | some x =>
    have HM := Lib.hid hm
    clear h hm
    go_enter Try.func12, Try.ntmps12
    go_wp2_with fail
    refine (next_yes H.out HM.out).mono ?_
    rintro e w1 ⟨rfl, hg⟩
    have HG := Lib.hid hg
    clear hg
    go_wp2_with fail
    go_ret
    exact ⟨rfl, HG.out⟩

theorem units_keys (G : List Int) : (units G).map (·.1) = G := by simp [units, Function.comp_def]
theorem look_units {G : List Int} (hn : G.Nodup) (g : Int) : (MapI.look (units G) g).isSome = decide (g ∈ G) ∧ (MapI.look (units G) g).getD (.agg #[]) = .agg #[] := by
  by_cases h : g ∈ G
  · have e : MapI.look (units G) g = some (.agg #[]) := MapI.look_mem (by rw [units_keys]; exact hn) (List.mem_map.2 ⟨g, h, rfl⟩)
    rw [e]
    simp [h]
  · have : MapI.look (units G) g = none := by
      unfold MapI.look
      rw [List.find?_eq_none.2]
      · rfl
      · intro p hp; simp; rintro rfl; exact h (by rw [← units_keys G]; exact List.mem_map.2 ⟨p, hp, rfl⟩)
    rw [this]; simp [h]
theorem zeroU (w : World) : (zeroValue 70).run Try.prog w = .ok (.agg #[]) w := by kernel_rfl

/-- _, is := m[k], at the operation. -/
theorem wpList_look_ok {P : Program} {ops : Array Oper} {rest : List Oper} {o : Oper} {a : Act} {w : World} {Q : Exit → Act → World → Prop} (hg : o.guard = none) (m x : Operand) (t kt et : TypeId) (hop : o.op = .lookup t m x true) (ht : P.underlying t = some (.map kt et)) (hk : P.underlying kt = some (.int .i64))
    {b : Nat} {l : List (Int × Value)} (h : IsMap w b l) (hm : a.eval m = .map (some b)) (k : Int) (hx : a.eval x = ki k) {z : Value} (hz : (zeroValue et).run P w = .ok z w) (v : Value) (hv : (MapI.look l k).getD z = v) (is : Bool) (hs : (MapI.look l k).isSome = is)
    (hK : wpList P ops Q rest (a.put o.dst (.tuple #[v, .bool is])) w) : wpList P ops Q (o :: rest) a w := by
  refine wpList_plain hg fun K' hK' => ?_
  have hrun := run_look h ht hk k hz true
  simp only [if_true, hv, hs] at hrun
  unfold Oper.wp
  simp [execOp, hop, hm, hx, hrun, Result.andThen]
  exact hK' _ _ hK

set_option maxHeartbeats 1000000 in
theorem has_is (h : IsT w base tb lb hb vs Hs order G) (g : Int) :
    Calls Try.prog 13 #[.pointer (some ⟨tb, 0, none⟩), .int .i64 g] w fun e w' => e = .returned (.bool (decide (g ∈ G))) ∧ w.grownBy w' none := by
  have c2 := h.c2
  have HM := Lib.hid h.map
  have HL := Lib.hid (look_units h.nodup g)
  clear h
  go_enter Try.func13, Try.ntmps13
  go_wp2_with (at_lookup; refine wpList_look_ok rfl _ _ 64 3 70 rfl Try.underlying64 Try.underlying3 HM.out rfl g rfl (zeroU _) (.agg #[]) HL.out.2 (decide (g ∈ G)) HL.out.1 ?_)
  go_ret
  exact ⟨rfl, World.grownBy_alloc _ _ _⟩

theorem tlen_is (h : IsT w base tb lb hb vs Hs order G) :
    Calls Try.prog 11 #[.pointer (some ⟨tb, 0, none⟩)] w fun e w' => e = .returned (.int .i64 G.length) ∧ w = w' := by
  have c2 := h.c2
  have hln : ∀ ty, (Builtin.len_ #[64] ty #[.map (some hb)]).run Try.prog w = .ok (.int .i64 G.length) w := fun ty => by
    have := run_len h.map Try.underlying64 _ ty rfl
    rwa [show (units G).length = G.length by simp [units]] at this
  clear h
  go_enter Try.func11, Try.ntmps11
  go_wp2
  go_ret
  exact ⟨rfl, rfl⟩
end
end Go.Proofs.Ytmaahidipbghfaa.Tm
