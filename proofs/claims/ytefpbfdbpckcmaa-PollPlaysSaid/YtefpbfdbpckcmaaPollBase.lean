/-
  Package poll: what its maps hold.
-/
import Derived.Test.YtefpbfdbpckcmaaMapIR
import Derived.Test.YtefpbfdbpckcmaaMapUR
import Derived.BigRegion
import Derived.Deep.QuietTactic
import Derived.BigQuiet
import Derived.StillTailTactics
import Derived.Deep.RegionHeld3
import Derived.Deep.DeepCutAuto
namespace Go.Proofs.Ytefpbfdbpckcmaa.Pl
open Go.RowKit
set_option linter.unusedVariables false
set_option linter.unusedSimpArgs false

/-- A descriptor's state. -/
structure St where
  g : Int
  waits : Bool
  ready : Bool
deriving DecidableEq
def St.val (s : St) : Value := .agg #[.int .i64 s.g, .bool s.waits, .bool s.ready]
def St.zero : St := ⟨0, false, false⟩

section
variable {α : Type}
def aput (l : List (Int × α)) (k : Int) (v : α) : List (Int × α) := if k ∈ l.map (·.1) then l.map (fun p => if p.1 = k then (k, v) else p) else l ++ [(k, v)]
def adel (l : List (Int × α)) (k : Int) : List (Int × α) := l.filter fun p => p.1 ≠ k
def alook (l : List (Int × α)) (k : Int) : Option α := (l.find? fun p => p.1 = k).map (·.2)
def enc (f : α → Value) (l : List (Int × α)) : List (Int × Value) := l.map fun p => (p.1, f p.2)
variable {f : α → Value} {l : List (Int × α)} {k j : Int} {v : α}
theorem enc_keys : (enc f l).map (·.1) = l.map (·.1) := by simp [enc, Function.comp_def]
theorem enc_len : (enc f l).length = l.length := by simp [enc]
theorem enc_put : MapI.put (enc f l) k (f v) = enc f (aput l k v) := by
  unfold MapI.put aput
  rw [enc_keys]
  by_cases h : k ∈ l.map (·.1)
  · rw [if_pos h, if_pos h]
    simp only [enc, List.map_map]
    apply List.map_congr_left
    intro p _
    simp only [Function.comp_def]
    split <;> rfl
  · rw [if_neg h, if_neg h]; simp [enc]
theorem enc_del : MapI.del (enc f l) k = enc f (adel l k) := by
  unfold MapI.del adel enc; rw [List.filter_map]; rfl
theorem enc_look : MapI.look (enc f l) k = (alook l k).map f := by
  unfold MapI.look alook enc
  induction l with
  | nil => rfl
  | cons p t ih =>
    by_cases h : p.1 = k
    · simp [h]
    · simp [h] at ih ⊢; exact ih
theorem enc_putU : MapU.put (enc f l) k (f v) = enc f (aput l k v) := enc_put
theorem enc_delU : MapU.del (enc f l) k = enc f (adel l k) := enc_del
theorem enc_lookU : MapU.look (enc f l) k = (alook l k).map f := enc_look

theorem alook_none : alook l k = none ↔ k ∉ l.map (·.1) := by
  unfold alook
  rw [Option.map_eq_none_iff, List.find?_eq_none]
  simp only [List.mem_map, not_exists, not_and]
  constructor
  · intro h p hp e; exact h p hp (by simpa using e)
  · intro h p hp e; exact h p hp (by simpa using e)
theorem alook_some_mem (h : alook l k = some v) : (k, v) ∈ l := by
  unfold alook at h
  obtain ⟨p, hp, rfl⟩ := Option.map_eq_some_iff.1 h
  have h1 := List.find?_some hp
  have h2 := List.mem_of_find?_eq_some hp
  have : p.1 = k := by simpa using h1
  rw [← this]; exact h2
theorem alook_mem (hn : (l.map (·.1)).Nodup) (h : (k, v) ∈ l) : alook l k = some v := by
  induction l with
  | nil => cases h
  | cons p t ih =>
    simp only [List.map_cons, List.nodup_cons] at hn
    rcases List.mem_cons.1 h with rfl | h
    · simp [alook]
    · have : p.1 ≠ k := fun e => hn.1 (by rw [e]; exact List.mem_map.2 ⟨_, h, rfl⟩)
      have e : alook (p :: t) k = alook t k := by simp [alook, this]
      rw [e]; exact ih hn.2 h
theorem alook_put : alook (aput l k v) j = if j = k then some v else alook l j := by
  unfold aput
  by_cases h : k ∈ l.map (·.1)
  · rw [if_pos h]
    induction l with
    | nil => simp at h
    | cons p t ih =>
      by_cases hp : p.1 = k
      · by_cases hj : j = k
        · simp [alook, hp, hj]
        · have hkj : ¬ k = j := fun e => hj e.symm
          have e1 : alook (List.map (fun p => if p.1 = k then (k, v) else p) (p :: t)) j = alook (List.map (fun p => if p.1 = k then (k, v) else p) t) j := by simp [alook, hp, hkj]
          have e2 : alook (p :: t) j = alook t j := by simp [alook, hp, hkj]
          rw [if_neg hj, e1, e2]
          by_cases ht : k ∈ t.map (·.1)
          · have := ih ht; rw [if_neg hj] at this; exact this
          · have : t.map (fun p => if p.1 = k then (k, v) else p) = t := by
              conv => rhs; rw [← List.map_id t]
              apply List.map_congr_left
              intro q hq
              have : q.1 ≠ k := fun e => ht (List.mem_map.2 ⟨q, hq, e⟩)
              simp [this]
            rw [this]
      · have ht : k ∈ t.map (·.1) := by simpa [Ne.symm hp, eq_comm] using h
        have := ih ht
        by_cases hpj : p.1 = j
        · have : j ≠ k := fun e => hp (by rw [hpj, e])
          simp [alook, hp, hpj, this]
        · have e1 : alook (List.map (fun p => if p.1 = k then (k, v) else p) (p :: t)) j = alook (List.map (fun p => if p.1 = k then (k, v) else p) t) j := by simp [alook, hp, hpj]
          have e2 : alook (p :: t) j = alook t j := by simp [alook, hpj]
          rw [e1, e2]; exact this
  · rw [if_neg h]
    have hk := alook_none.2 h
    by_cases hj : j = k
    · subst hj
      rw [if_pos rfl]
      unfold alook at hk ⊢
      rw [Option.map_eq_none_iff] at hk
      simp [List.find?_append, hk]
    · rw [if_neg hj]
      have hkj : ¬ k = j := fun e => hj e.symm
      simp [alook, List.find?_append, hkj]
theorem alook_del : alook (adel l k) j = if j = k then none else alook l j := by
  by_cases hj : j = k
  · subst hj
    rw [if_pos rfl, alook_none]
    simp [adel]
  · rw [if_neg hj]
    unfold adel
    induction l with
    | nil => rfl
    | cons p t ih =>
      by_cases hp : p.1 = k
      · rw [List.filter_cons_of_neg (by simp [hp])]
        have hkj : ¬ k = j := fun e => hj e.symm
        have : alook (p :: t) j = alook t j := by simp [alook, hp, hkj]
        rw [this]; exact ih
      · rw [List.filter_cons_of_pos (by simpa using hp)]
        by_cases hpj : p.1 = j
        · simp [alook, hpj]
        · have e1 : ∀ t', alook (p :: t') j = alook t' j := fun t' => by simp [alook, hpj]
          rw [e1, e1]; exact ih
theorem aput_keys : (aput l k v).map (·.1) = if k ∈ l.map (·.1) then l.map (·.1) else l.map (·.1) ++ [k] := by
  unfold aput
  by_cases h : k ∈ l.map (·.1)
  · rw [if_pos h, if_pos h, List.map_map]
    apply List.map_congr_left
    intro p _
    simp only [Function.comp_def]
    split
    · next e => exact e.symm
    · rfl
  · rw [if_neg h, if_neg h]; simp
theorem aput_len : (aput l k v).length = if k ∈ l.map (·.1) then l.length else l.length + 1 := by
  have := congrArg List.length (aput_keys (l := l) (k := k) (v := v))
  rw [List.length_map] at this
  rw [this]; split <;> simp
end
end Go.Proofs.Ytefpbfdbpckcmaa.Pl
