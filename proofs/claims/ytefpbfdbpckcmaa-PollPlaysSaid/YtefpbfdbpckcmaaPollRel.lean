/-
  The document's rows and the poll's maps: what they have in common. No program.
-/
import Derived.Test.YtefpbfdbpckcmaaPollLaw
import Derived.Test.YtefpbfdbpckcmaaPollLeast
namespace Go.Proofs.Ytefpbfdbpckcmaa.Pl
open Go.RowKit
set_option linter.unusedVariables false
set_option linter.unusedSimpArgs false

/-- The document's poll: who waits for what (descriptor, goroutine), and what is ready. -/
structure PR (F : List (Int × St)) (G : List (Int × Int)) (W : List (Int × Int)) (R : List Int) : Prop where
  inv : Inv F G
  nd : (F.map (·.1)).Nodup
  wf : (W.map (·.1)).Nodup
  wg : (W.map (·.2)).Nodup
  rn : R.Nodup
  rdy : ∀ fd, (stOf F fd).ready = true ↔ fd ∈ R
  wts : ∀ fd g, (fd, g) ∈ W ↔ ∃ s, alook F fd = some s ∧ s.waits = true ∧ s.g = g
  rng : ∀ x ∈ W, 0 ≤ x.1 ∧ x.1 < 65536
def whoD (W : List (Int × Int)) (fd : Int) : Int := (alook W fd).getD (-1)
def hasD (W : List (Int × Int)) (g : Int) : Bool := W.any fun x => decide (x.2 = g)
def lenD (W : List (Int × Int)) (R : List Int) : Nat := R.length + (W.filter fun x => !decide (x.1 ∈ R)).length
def fullD (W : List (Int × Int)) (R : List Int) (fd : Int) : Bool := !decide (fd ∈ R) && decide (whoD W fd < 0) && decide (1024 ≤ lenD W R)
/-- The best one of the first ones. -/
def bestD (R : List Int) : List (Int × Int) → Int × Int → Int × Int
  | [], b => b
  | x :: t, b => bestD R t (if x.1 ∈ R ∧ x.1 < b.1 then x else b)
section
variable {F : List (Int × St)} {G W : List (Int × Int)} {R : List Int}
theorem PR.nil : PR [] [] [] [] :=
  ⟨inv_nil, List.nodup_nil, List.nodup_nil, List.nodup_nil, List.nodup_nil, fun fd => by simp [stOf, alook, St.zero], fun fd g => by simp [alook], by simp⟩
theorem PR.look (h : PR F G W R) (fd : Int) : alook W fd = if (stOf F fd).waits then some (stOf F fd).g else none := by
  cases hf : alook F fd with
  | none =>
    rw [stOf_none hf]
    show alook W fd = none
    rw [alook_none]
    intro hm
    obtain ⟨p, hp, rfl⟩ := List.mem_map.1 hm
    obtain ⟨s, h1, _⟩ := (h.wts p.1 p.2).1 hp
    rw [hf] at h1; cases h1
  | some s =>
    rw [stOf_some hf]
    by_cases hw : s.waits = true
    · rw [if_pos hw]
      exact alook_mem h.wf ((h.wts fd s.g).2 ⟨s, hf, hw, rfl⟩)
    · rw [if_neg hw, alook_none]
      intro hm
      obtain ⟨p, hp, rfl⟩ := List.mem_map.1 hm
      obtain ⟨s', h1, h2, _⟩ := (h.wts p.1 p.2).1 hp
      rw [hf] at h1; cases h1; exact hw h2
theorem PR.zero (h : PR F G W R) {fd : Int} (hw : (stOf F fd).waits = false) : (stOf F fd).g = 0 := by
  cases hf : alook F fd with
  | none => rw [stOf_none hf]; rfl
  | some s => rw [stOf_some hf] at hw ⊢; exact ((h.inv.ok fd s hf).2 hw).1
theorem PR.pos (h : PR F G W R) {fd : Int} (hw : (stOf F fd).waits = true) : 0 ≤ (stOf F fd).g ∧ (stOf F fd).g < 4096 := by
  cases hf : alook F fd with
  | none => rw [stOf_none hf] at hw; cases hw
  | some s => rw [stOf_some hf] at hw ⊢; exact ((h.inv.ok fd s hf).1 hw).2
theorem PR.who_no (h : PR F G W R) {fd : Int} (hw : (stOf F fd).waits = false) : whoD W fd = -1 := by
  unfold whoD; rw [h.look, if_neg (by simp [hw])]; rfl
theorem PR.who_yes (h : PR F G W R) {fd : Int} (hw : (stOf F fd).waits = true) : whoD W fd = (stOf F fd).g := by
  unfold whoD; rw [h.look, if_pos hw]; rfl
theorem PR.who (h : PR F G W R) (fd : Int) : (stOf F fd).waits = decide (0 ≤ whoD W fd) := by
  by_cases hw : (stOf F fd).waits = true
  · rw [h.who_yes hw, hw]; have := h.pos hw; simp; omega
  · have hw' : (stOf F fd).waits = false := by simpa using hw
    rw [h.who_no hw', hw']; rfl
theorem PR.ready (h : PR F G W R) (fd : Int) : (stOf F fd).ready = decide (fd ∈ R) := by
  rw [Bool.eq_iff_iff]; simpa using h.rdy fd
theorem PR.has (h : PR F G W R) (g : Int) : (alook G g).isSome = hasD W g := by
  rw [Bool.eq_iff_iff]
  unfold hasD
  rw [List.any_eq_true]
  constructor
  · intro hs
    obtain ⟨fd, hfd⟩ := Option.isSome_iff_exists.1 hs
    obtain ⟨s, h1, h2, h3⟩ := h.inv.who g fd hfd
    exact ⟨(fd, g), (h.wts fd g).2 ⟨s, h1, h2, h3⟩, by simp⟩
  · rintro ⟨⟨fd, g'⟩, hm, hg⟩
    obtain rfl : g' = g := by simpa using hg
    obtain ⟨s, h1, h2, h3⟩ := (h.wts fd g').1 hm
    have := ((h.inv.ok fd s h1).1 h2).1
    rw [h3] at this; rw [this]; rfl
theorem PR.keys (h : PR F G W R) (fd : Int) : fd ∈ F.map (·.1) ↔ fd ∈ R ∨ fd ∈ W.map (·.1) := by
  constructor
  · intro hm
    obtain ⟨s, hs⟩ := key_look hm
    by_cases hw : s.waits = true
    · exact .inr (List.mem_map.2 ⟨(fd, s.g), (h.wts fd s.g).2 ⟨s, hs, hw, rfl⟩, rfl⟩)
    · refine .inl ((h.rdy fd).1 ?_)
      rw [stOf_some hs]
      exact ((h.inv.ok fd s hs).2 (by simpa using hw)).2
  · rintro (hm | hm)
    · have := (h.rdy fd).2 hm
      cases hf : alook F fd with
      | none => rw [stOf_none hf] at this; cases this
      | some s => exact look_key hf
    · obtain ⟨p, hp, rfl⟩ := List.mem_map.1 hm
      obtain ⟨s, h1, _⟩ := (h.wts p.1 p.2).1 hp
      exact look_key h1
theorem PR.len (h : PR F G W R) : F.length = lenD W R := by
  have hp : (F.map (·.1)).Perm (R ++ (W.filter fun x => !decide (x.1 ∈ R)).map (·.1)) := by
    refine (List.perm_ext_iff_of_nodup h.nd ?_).2 fun fd => ?_
    · rw [List.nodup_append]
      refine ⟨h.rn, (List.filter_sublist.map _).nodup h.wf, fun a ha b hb e => ?_⟩
      subst e
      obtain ⟨p, hp, e⟩ := List.mem_map.1 hb
      have := (List.mem_filter.1 hp).2
      rw [e] at this
      simp [ha] at this
    · rw [h.keys, List.mem_append]
      constructor
      · rintro (q | q)
        · exact .inl q
        · by_cases hr : fd ∈ R
          · exact .inl hr
          · obtain ⟨p, hp, rfl⟩ := List.mem_map.1 q
            exact .inr (List.mem_map.2 ⟨p, List.mem_filter.2 ⟨hp, by simpa using hr⟩, rfl⟩)
      · rintro (q | q)
        · exact .inl q
        · obtain ⟨p, hp, rfl⟩ := List.mem_map.1 q
          exact .inr (List.mem_map.2 ⟨p, (List.mem_filter.1 hp).1, rfl⟩)
  have := hp.length_eq
  simpa [lenD] using this
theorem PR.full (h : PR F G W R) (fd : Int) : fullL F fd = fullD W R fd := by
  have hk : (alook F fd).isSome = (decide (fd ∈ R) || decide (0 ≤ whoD W fd)) := by
    rw [← h.ready, ← h.who]
    cases hf : alook F fd with
    | none => rw [stOf_none hf]; rfl
    | some s =>
      rw [stOf_some hf]
      by_cases hw : s.waits = true
      · simp [hw]
      · simp [((h.inv.ok fd s hf).2 (by simpa using hw)).2]
  unfold fullL fullD
  rw [hk, ← h.len]
  by_cases h1 : fd ∈ R
  · simp [h1]
  · by_cases h2 : 0 ≤ whoD W fd
    · have : ¬ whoD W fd < 0 := by omega
      simp [h1, h2, this]
    · have : whoD W fd < 0 := by omega
      simp [h1, h2, this]
/-- One more waits. -/
theorem PR.put (h : PR F G W R) {fd g : Int} (h0 : 0 ≤ g) (h1 : g < 4096) (hs : (stOf F fd).waits = false) (hq : (alook G g).isSome = false) (hf : fullL F fd = false) (hr : 0 ≤ fd ∧ fd < 65536) :
    PR (aput F fd ⟨g, true, (stOf F fd).ready⟩) (aput G g fd) (W ++ [(fd, g)]) R := by
  have hwf : alook W fd = none := by rw [h.look, if_neg (by simp [hs])]
  have hwg : hasD W g = false := by rw [← h.has]; exact hq
  refine ⟨inv_wait h.inv h0 h1 hs hq hf, ?_, ?_, ?_, h.rn, fun fd' => ?_, fun fd' g' => ?_, fun x hx => ?_⟩
  · rw [aput_keys]
    split
    · exact h.nd
    · next hn => exact List.nodup_append.2 ⟨h.nd, by simp, fun a ha b hb e => hn (by simp at hb; rw [← hb, ← e]; exact ha)⟩
  · rw [List.map_append]
    exact List.nodup_append.2 ⟨h.wf, by simp, fun a ha b hb e => alook_none.1 hwf (by simp at hb; rw [← hb, ← e]; exact ha)⟩
  · rw [List.map_append]
    refine List.nodup_append.2 ⟨h.wg, by simp, fun a ha b hb e => ?_⟩
    obtain ⟨p, hp, rfl⟩ := List.mem_map.1 ha
    simp at hb
    have : hasD W g = true := List.any_eq_true.2 ⟨p, hp, by simp [e, hb]⟩
    rw [hwg] at this; cases this
  · rw [show stOf (aput F fd ⟨g, true, (stOf F fd).ready⟩) fd' = if fd' = fd then ⟨g, true, (stOf F fd).ready⟩ else stOf F fd' by unfold stOf; rw [alook_put]; split <;> rfl]
    by_cases e : fd' = fd
    · rw [if_pos e, e]; exact h.rdy fd
    · rw [if_neg e]; exact h.rdy fd'
  · rw [List.mem_append, alook_put]
    by_cases e : fd' = fd
    · subst e
      rw [if_pos rfl]
      constructor
      · rintro (q | q)
        · exact absurd (List.mem_map.2 ⟨_, q, rfl⟩) (alook_none.1 hwf)
        · simp at q; exact ⟨_, rfl, rfl, q.symm⟩
      · rintro ⟨s, e1, _, e3⟩
        cases e1; right; simp; exact e3.symm
    · rw [if_neg e, ← h.wts fd' g']
      constructor
      · rintro (q | q)
        · exact q
        · simp at q; exact absurd q.1 e
      · exact .inl
  · rcases List.mem_append.1 hx with q | q
    · exact h.rng x q
    · simp at q; subst q; exact hr
/-- One more is ready. -/
theorem PR.mark (h : PR F G W R) {fd : Int} (hf : fullL F fd = false) :
    PR (aput F fd { stOf F fd with ready := true }) G W (if fd ∈ R then R else R ++ [fd]) := by
  have hst : ∀ fd', stOf (aput F fd { stOf F fd with ready := true }) fd' = if fd' = fd then { stOf F fd with ready := true } else stOf F fd' := fun fd' => by unfold stOf; rw [alook_put]; split <;> rfl
  refine ⟨inv_ready h.inv hf, ?_, h.wf, h.wg, ?_, fun fd' => ?_, fun fd' g' => ?_, h.rng⟩
  · rw [aput_keys]
    split
    · exact h.nd
    · next hn => exact List.nodup_append.2 ⟨h.nd, by simp, fun a ha b hb e => hn (by simp at hb; rw [← hb, ← e]; exact ha)⟩
  · split
    · exact h.rn
    · next hn => exact List.nodup_append.2 ⟨h.rn, by simp, fun a ha b hb e => hn (by simp at hb; rw [← hb, ← e]; exact ha)⟩
  · rw [hst]
    by_cases e : fd' = fd
    · subst e
      rw [if_pos rfl]
      by_cases hr : fd' ∈ R
      · rw [if_pos hr]; simpa using hr
      · rw [if_neg hr]; simp
    · rw [if_neg e, h.rdy]
      by_cases hr : fd ∈ R
      · rw [if_pos hr]
      · rw [if_neg hr, List.mem_append]; simp [e]
  · rw [h.wts, alook_put]
    by_cases e : fd' = fd
    · subst e
      rw [if_pos rfl]
      constructor
      · rintro ⟨s, e1, e2, e3⟩
        exact ⟨_, rfl, by rw [stOf_some e1]; exact e2, by rw [stOf_some e1]; exact e3⟩
      · rintro ⟨s, e1, e2, e3⟩
        cases e1
        cases hl : alook F fd' with
        | none => rw [stOf_none hl] at e2; cases e2
        | some s => rw [stOf_some hl] at e2 e3; exact ⟨s, rfl, e2, e3⟩
    · rw [if_neg e]
/-- The one that is due first is taken. -/
theorem PR.take (h : PR F G W R) {fd g : Int} (hl : Least F (some (fd, g))) :
    PR (adel F fd) (adel G g) (W.filter fun x => !decide (x = (fd, g))) (R.filter fun x => !decide (x = fd)) := by
  have hst : ∀ fd', stOf (adel F fd) fd' = if fd' = fd then .zero else stOf F fd' := fun fd' => by unfold stOf; rw [alook_del]; split <;> rfl
  obtain ⟨s0, a1, a2, a3, a4, a5⟩ := id hl
  refine ⟨inv_take h.inv hl, ?_, (List.filter_sublist.map _).nodup h.wf, (List.filter_sublist.map _).nodup h.wg, List.filter_sublist.nodup h.rn, fun fd' => ?_, fun fd' g' => ?_, fun x hx => h.rng x (List.mem_filter.1 hx).1⟩
  · exact (List.filter_sublist.map _).nodup h.nd
  · rw [hst, List.mem_filter, ← h.rdy]
    by_cases e : fd' = fd
    · rw [if_pos e]; simp [e, St.zero]
    · rw [if_neg e]; simp [e]
  · rw [List.mem_filter, h.wts, alook_del]
    by_cases e : fd' = fd
    · subst e
      rw [if_pos rfl]
      constructor
      · rintro ⟨⟨s, e1, e2, e3⟩, q⟩
        rw [a1] at e1; cases e1
        simp [← e3, a4] at q
      · rintro ⟨s, e1, _⟩; cases e1
    · rw [if_neg e]
      constructor
      · exact fun q => q.1
      · intro q; exact ⟨q, by simp [e]⟩
/-- What the document's Take chooses. -/
theorem best_inv (R : List Int) : ∀ (L : List (Int × Int)) (b : Int × Int), (bestD R L b = b ∨ (bestD R L b ∈ L ∧ (bestD R L b).1 ∈ R)) ∧ (bestD R L b).1 ≤ b.1 ∧ (∀ x ∈ L, x.1 ∈ R → (bestD R L b).1 ≤ x.1)
  | [], b => ⟨.inl rfl, Int.le_refl _, by simp⟩
  | x :: t, b => by
    unfold bestD
    by_cases hc : x.1 ∈ R ∧ x.1 < b.1
    · rw [if_pos hc]
      obtain ⟨h1, h2, h3⟩ := best_inv R t x
      refine ⟨.inr ?_, by omega, fun y hy hr => ?_⟩
      · rcases h1 with h1 | h1
        · rw [h1]; exact ⟨by simp, hc.1⟩
        · exact ⟨List.mem_cons_of_mem _ h1.1, h1.2⟩
      · rcases List.mem_cons.1 hy with rfl | hy
        · exact h2
        · exact h3 y hy hr
    · rw [if_neg hc]
      obtain ⟨h1, h2, h3⟩ := best_inv R t b
      refine ⟨?_, h2, fun y hy hr => ?_⟩
      · rcases h1 with h1 | h1
        · exact .inl h1
        · exact .inr ⟨List.mem_cons_of_mem _ h1.1, h1.2⟩
      · rcases List.mem_cons.1 hy with rfl | hy
        · have : ¬ y.1 < b.1 := fun q => hc ⟨hr, q⟩
          omega
        · exact h3 y hy hr
theorem PR.none_iff (h : PR F G W R) (hb : (bestD R W (65536, 0)).1 = 65536) : Least F none := by
  intro fd s hs
  obtain ⟨h1, h2, h3⟩ := best_inv R W (65536, 0)
  by_cases hw : s.waits = true ∧ s.ready = true
  · exfalso
    have hm := (h.wts fd s.g).2 ⟨s, hs, hw.1, rfl⟩
    have hr := (h.rdy fd).1 (by rw [stOf_some hs]; exact hw.2)
    have := h3 _ hm hr
    have := h.rng _ hm
    simp at *; omega
  · cases hh1 : s.waits <;> cases hh2 : s.ready <;> simp_all
theorem PR.some_iff (h : PR F G W R) (hb : (bestD R W (65536, 0)).1 ≠ 65536) : Least F (some (bestD R W (65536, 0))) := by
  obtain ⟨h1, h2, h3⟩ := best_inv R W (65536, 0)
  rcases h1 with h1 | ⟨hm, hr⟩
  · exact absurd (by rw [h1]) hb
  · obtain ⟨s, e1, e2, e3⟩ := (h.wts _ _).1 (show ((bestD R W (65536, 0)).1, (bestD R W (65536, 0)).2) ∈ W from hm)
    refine ⟨s, e1, e2, ?_, e3, fun fd' s' hs' hd => ?_⟩
    · have := (h.rdy _).2 hr
      rw [stOf_some e1] at this; exact this
    · have hd' : s'.waits = true ∧ s'.ready = true := by simpa using hd
      exact h3 (fd', s'.g) ((h.wts fd' s'.g).2 ⟨s', hs', hd'.1, rfl⟩) ((h.rdy fd').1 (by rw [stOf_some hs']; exact hd'.2))
theorem PR.due (h : PR F G W R) : dueL F = decide ((bestD R W (65536, 0)).1 ≠ 65536) := by
  by_cases hb : (bestD R W (65536, 0)).1 = 65536
  · rw [dueL_least h.nd (h.none_iff hb)]; simp [hb]
  · rw [dueL_least h.nd (h.some_iff hb)]; simp [hb]
end
end Go.Proofs.Ytefpbfdbpckcmaa.Pl
