/-
  Package poll: what its maps keep to; who is due first. No program but in the contracts of Take.
-/
import Derived.Test.YtefpbfdbpckcmaaPollTake
namespace Go.Proofs.Ytefpbfdbpckcmaa.Pl
open Go.RowKit
set_option linter.unusedVariables false
set_option linter.unusedSimpArgs false

/-- The two maps belong together. -/
structure Inv (F : List (Int × St)) (G : List (Int × Int)) : Prop where
  ok : ∀ fd s, alook F fd = some s → (s.waits = true → alook G s.g = some fd ∧ 0 ≤ s.g ∧ s.g < 4096) ∧ (s.waits = false → s.g = 0 ∧ s.ready = true)
  who : ∀ g fd, alook G g = some fd → ∃ s, alook F fd = some s ∧ s.waits = true ∧ s.g = g
  size : F.length ≤ 1024
/-- The descriptor that is due first, and who waits for it. -/
def Least (F : List (Int × St)) : Option (Int × Int) → Prop
  | none => ∀ fd s, alook F fd = some s → (s.waits && s.ready) = false
  | some (fd, g) => ∃ s, alook F fd = some s ∧ s.waits = true ∧ s.ready = true ∧ s.g = g ∧ ∀ fd' s', alook F fd' = some s' → (s'.waits && s'.ready) = true → fd ≤ fd'

theorem stOf_some {F : List (Int × St)} {fd : Int} {s : St} (h : alook F fd = some s) : stOf F fd = s := by unfold stOf; rw [h]; rfl
theorem stOf_none {F : List (Int × St)} {fd : Int} (h : alook F fd = none) : stOf F fd = .zero := by unfold stOf; rw [h]; rfl
theorem key_look {F : List (Int × St)} {fd : Int} (h : fd ∈ F.map (·.1)) : ∃ s, alook F fd = some s := by
  cases hs : alook F fd with
  | some s => exact ⟨s, rfl⟩
  | none => exact absurd h (alook_none.1 hs)
theorem look_key {F : List (Int × St)} {fd : Int} {s : St} (h : alook F fd = some s) : fd ∈ F.map (·.1) := List.mem_map.2 ⟨_, alook_some_mem h, rfl⟩
theorem first_none {F : List (Int × St)} {s : List Int} (hp : s.Perm (F.map (·.1))) (h : firstDue F s = none) : Least F none := by
  intro fd st hs
  have h1 := List.find?_eq_none.1 h fd (hp.mem_iff.2 (look_key hs))
  rw [stOf_some hs] at h1
  simpa using h1
theorem first_some {F : List (Int × St)} {s : List Int} (hp : s.Perm (F.map (·.1))) (ho : s.Pairwise (· < ·)) {fd : Int} (h : firstDue F s = some fd) : Least F (some (fd, (stOf F fd).g)) := by
  have h1 := List.find?_some h
  have h2 := List.mem_of_find?_eq_some h
  obtain ⟨st, hst⟩ := key_look (hp.mem_iff.1 h2)
  rw [stOf_some hst] at h1
  have h3 : st.waits = true ∧ st.ready = true := by simpa using h1
  refine ⟨st, hst, h3.1, h3.2, by rw [stOf_some hst], fun fd' s' hs' hd' => ?_⟩
  have hm := hp.mem_iff.2 (look_key hs')
  obtain ⟨l1, l2, rfl, hno⟩ := (List.find?_eq_some_iff_append.1 h).2
  rcases List.mem_append.1 hm with hm | hm
  · have := hno fd' hm
    rw [stOf_some hs', hd'] at this
    simp at this
  · rcases List.mem_cons.1 hm with rfl | hm
    · exact Int.le_refl _
    · have := (List.pairwise_append.1 ho).2.1
      exact Int.le_of_lt ((List.pairwise_cons.1 this).1 fd' hm)
theorem least_uniq {F : List (Int × St)} {a b : Option (Int × Int)} (ha : Least F a) (hb : Least F b) : a = b := by
  rcases a with _ | ⟨f1, g1⟩ <;> rcases b with _ | ⟨f2, g2⟩
  · rfl
  · obtain ⟨s, h1, h2, h3, _⟩ := hb
    have := ha f2 s h1; rw [h2, h3] at this; cases this
  · obtain ⟨s, h1, h2, h3, _⟩ := ha
    have := hb f1 s h1; rw [h2, h3] at this; cases this
  · obtain ⟨s, h1, h2, h3, h4, h5⟩ := ha
    obtain ⟨s', k1, k2, k3, k4, k5⟩ := hb
    have e1 := h5 f2 s' k1 (by rw [k2, k3]; rfl)
    have e2 := k5 f1 s h1 (by rw [h2, h3]; rfl)
    have : f1 = f2 := by omega
    subst this
    rw [h1] at k1; cases k1
    rw [← h4, ← k4]
theorem dueL_least {F : List (Int × St)} (hn : (F.map (·.1)).Nodup) {m : Option (Int × Int)} (h : Least F m) : dueL F = m.isSome := by
  rcases m with _ | ⟨fd, g⟩
  · show dueL F = false
    unfold dueL
    rw [List.any_eq_false]
    intro p hp
    have := h p.1 p.2 (alook_mem hn hp)
    simpa using this
  · obtain ⟨s, h1, h2, h3, _⟩ := h
    exact List.any_eq_true.2 ⟨_, alook_some_mem h1, by simp [h2, h3]⟩
section
variable {w : World} {base pb fb wb : Nat} {F : List (Int × St)} {G : List (Int × Int)}
theorem ptake_none (h : IsPl w base pb fb wb F G) (hbig : F.length ≤ 2000) (hl : Least F none) : Calls Try.prog 11 #[.pointer (some ⟨pb, 0, none⟩)] w fun e w' => e = .returned (.tuple #[.int .u16 0, .int .i64 0, .bool false]) ∧ w.grownBy w' none := by
  refine (take_is h hbig).mono ?_
  rintro e w' ⟨s, hp, ho, ⟨h1, h2, h3⟩ | ⟨fd, h1, _⟩⟩
  · exact ⟨h2, h3⟩
  · have := least_uniq hl (first_some hp ho h1); cases this
theorem ptake_some (h : IsPl w base pb fb wb F G) (hbig : F.length ≤ 2000) {fd g : Int} (hl : Least F (some (fd, g))) : Calls Try.prog 11 #[.pointer (some ⟨pb, 0, none⟩)] w fun e w' => e = .returned (.tuple #[.int .u16 fd, .int .i64 g, .bool true]) ∧ IsPl w' base pb fb wb (adel F fd) (adel G g) ∧ PFr w w' fb wb := by
  refine (take_is h hbig).mono ?_
  rintro e w' ⟨s, hp, ho, ⟨h1, h2, h3⟩ | ⟨fd', h1, h2, h3, h4⟩⟩
  · have := least_uniq hl (first_none hp h1); cases this
  · have := least_uniq hl (first_some hp ho h1)
    cases this
    exact ⟨h2, h3, h4⟩
end

theorem inv_nil : Inv [] [] := ⟨fun fd s h => by simp [alook] at h, fun g fd h => by simp [alook] at h, by simp⟩
theorem fullL_len {F : List (Int × St)} {fd : Int} {v : St} (h : F.length ≤ 1024) (hf : fullL F fd = false) : (aput F fd v).length ≤ 1024 := by
  rw [aput_len]
  split
  · exact h
  · next hn =>
    have := alook_none.2 hn
    unfold fullL at hf
    rw [this] at hf
    simp at hf; omega
theorem inv_wait {F : List (Int × St)} {G : List (Int × Int)} (h : Inv F G) {fd g : Int} (h0 : 0 ≤ g) (h1 : g < 4096) (hs : (stOf F fd).waits = false) (hq : (alook G g).isSome = false) (hf : fullL F fd = false) :
    Inv (aput F fd ⟨g, true, (stOf F fd).ready⟩) (aput G g fd) := by
  have hg : alook G g = none := by cases hh : alook G g <;> simp_all
  refine ⟨fun fd' s hs' => ?_, fun g' fd' hg' => ?_, fullL_len h.size hf⟩
  · rw [alook_put] at hs'
    by_cases e : fd' = fd
    · rw [if_pos e] at hs'
      cases hs'
      exact ⟨fun _ => ⟨by rw [alook_put, if_pos rfl, e], h0, h1⟩, (fun h => by cases h)⟩
    · rw [if_neg e] at hs'
      refine ⟨fun hw => ?_, (h.ok fd' s hs').2⟩
      obtain ⟨k1, k2, k3⟩ := (h.ok fd' s hs').1 hw
      refine ⟨?_, k2, k3⟩
      rw [alook_put, if_neg (fun e2 => by rw [e2, hg] at k1; cases k1)]; exact k1
  · rw [alook_put] at hg'
    by_cases e : g' = g
    · rw [if_pos e] at hg'
      cases hg'
      exact ⟨_, by rw [alook_put, if_pos rfl], rfl, e.symm⟩
    · rw [if_neg e] at hg'
      obtain ⟨s, k1, k2, k3⟩ := h.who g' fd' hg'
      refine ⟨s, ?_, k2, k3⟩
      rw [alook_put, if_neg (fun e2 => by rw [e2] at k1; rw [stOf_some k1, k2] at hs; cases hs)]; exact k1
theorem inv_ready {F : List (Int × St)} {G : List (Int × Int)} (h : Inv F G) {fd : Int} (hf : fullL F fd = false) : Inv (aput F fd { stOf F fd with ready := true }) G := by
  refine ⟨fun fd' s hs' => ?_, fun g' fd' hg' => ?_, fullL_len h.size hf⟩
  · rw [alook_put] at hs'
    by_cases e : fd' = fd
    · rw [if_pos e] at hs'
      cases hs'
      cases hl : alook F fd with
      | none => rw [stOf_none hl]; exact ⟨(fun h => by cases h), fun _ => ⟨rfl, rfl⟩⟩
      | some s => rw [stOf_some hl, e]; exact ⟨(h.ok fd s hl).1, fun hw => ⟨((h.ok fd s hl).2 hw).1, rfl⟩⟩
    · rw [if_neg e] at hs'
      exact h.ok fd' s hs'
  · obtain ⟨s, k1, k2, k3⟩ := h.who g' fd' hg'
    by_cases e : fd' = fd
    · subst e
      exact ⟨_, by rw [alook_put, if_pos rfl], by rw [stOf_some k1]; exact k2, by rw [stOf_some k1]; exact k3⟩
    · exact ⟨s, by rw [alook_put, if_neg e]; exact k1, k2, k3⟩
theorem inv_take {F : List (Int × St)} {G : List (Int × Int)} (h : Inv F G) {fd g : Int} (hl : Least F (some (fd, g))) : Inv (adel F fd) (adel G g) := by
  obtain ⟨s0, a1, a2, a3, a4, a5⟩ := hl
  refine ⟨fun fd' s hs' => ?_, fun g' fd' hg' => ?_, Nat.le_trans (List.length_filter_le _ _) h.size⟩
  · rw [alook_del] at hs'
    by_cases e : fd' = fd
    · rw [if_pos e] at hs'; cases hs'
    · rw [if_neg e] at hs'
      refine ⟨fun hw => ?_, (h.ok fd' s hs').2⟩
      obtain ⟨k1, k2, k3⟩ := (h.ok fd' s hs').1 hw
      refine ⟨?_, k2, k3⟩
      rw [alook_del, if_neg (fun e2 => ?_)]
      · exact k1
      · have := ((h.ok fd s0 a1).1 a2).1
        rw [a4, ← e2, k1] at this
        exact e (Option.some.inj this)
  · rw [alook_del] at hg'
    by_cases e : g' = g
    · rw [if_pos e] at hg'; cases hg'
    · rw [if_neg e] at hg'
      obtain ⟨s, k1, k2, k3⟩ := h.who g' fd' hg'
      refine ⟨s, ?_, k2, k3⟩
      rw [alook_del, if_neg (fun e2 => by rw [e2, a1] at k1; cases k1; exact e (by rw [← k3, a4]))]
      exact k1
end Go.Proofs.Ytefpbfdbpckcmaa.Pl
