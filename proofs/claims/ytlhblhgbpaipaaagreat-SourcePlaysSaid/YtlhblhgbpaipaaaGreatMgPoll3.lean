import Derived.Test.YtlhblhgbpaipaaaGreatMgPoll2
/- PollLaw -/
namespace Go.Proofs.YtlhblhgbpaipaaaGreat.Pl
open Go.RowKit
set_option linter.unusedVariables false
set_option linter.unusedSimpArgs false

/-- The two maps belong together. -/
structure Inv (F : List (Int × St)) (G : List (Int × Int)) : Prop where
  ok : ∀ fd s, alook F fd = some s → (s.waits = true → alook G s.g = some fd ∧ 0 ≤ s.g ∧ s.g < 4096) ∧ (s.waits = false → s.g = 0 ∧ s.ready = true)
  who : ∀ g fd, alook G g = some fd → ∃ s, alook F fd = some s ∧ s.waits = true ∧ s.g = g
  size : F.length ≤ 1024
/-- The descriptor that is due first, and who waits for it. -/
def Least (F : List (Int × St)) : Option (Int × Int) → Prop
  | none => ∀ fd s, alook F fd = some s → (s.waits && s.ready) = false
  | some (fd, g) => ∃ s, alook F fd = some s ∧ s.waits = true ∧ s.ready = true ∧ s.g = g ∧ ∀ fd' s', alook F fd' = some s' → (s'.waits && s'.ready) = true → fd ≤ fd'

theorem stOf_some {F : List (Int × St)} {fd : Int} {s : St} (h : alook F fd = some s) : stOf F fd = s := by unfold stOf; rw [h]; rfl
theorem stOf_none {F : List (Int × St)} {fd : Int} (h : alook F fd = none) : stOf F fd = .zero := by unfold stOf; rw [h]; rfl
theorem key_look {F : List (Int × St)} {fd : Int} (h : fd ∈ F.map (·.1)) : ∃ s, alook F fd = some s := by
  cases hs : alook F fd with
  | some s => exact ⟨s, rfl⟩
  | none => exact absurd h (alook_none.1 hs)
theorem look_key {F : List (Int × St)} {fd : Int} {s : St} (h : alook F fd = some s) : fd ∈ F.map (·.1) := List.mem_map.2 ⟨_, alook_some_mem h, rfl⟩
theorem first_none {F : List (Int × St)} {s : List Int} (hp : s.Perm (F.map (·.1))) (h : firstDue F s = none) : Least F none := by
  intro fd st hs
  have h1 := List.find?_eq_none.1 h fd (hp.mem_iff.2 (look_key hs))
  rw [stOf_some hs] at h1
  simpa using h1
theorem first_some {F : List (Int × St)} {s : List Int} (hp : s.Perm (F.map (·.1))) (ho : s.Pairwise (· < ·)) {fd : Int} (h : firstDue F s = some fd) : Least F (some (fd, (stOf F fd).g)) := by
  have h1 := List.find?_some h
  have h2 := List.mem_of_find?_eq_some h
  obtain ⟨st, hst⟩ := key_look (hp.mem_iff.1 h2)
  rw [stOf_some hst] at h1
  have h3 : st.waits = true ∧ st.ready = true := by simpa using h1
  refine ⟨st, hst, h3.1, h3.2, by rw [stOf_some hst], fun fd' s' hs' hd' => ?_⟩
  have hm := hp.mem_iff.2 (look_key hs')
  obtain ⟨l1, l2, rfl, hno⟩ := (List.find?_eq_some_iff_append.1 h).2
  rcases List.mem_append.1 hm with hm | hm
  · have := hno fd' hm
    rw [stOf_some hs', hd'] at this
    simp at this
  · rcases List.mem_cons.1 hm with rfl | hm
    · exact Int.le_refl _
    · have := (List.pairwise_append.1 ho).2.1
      exact Int.le_of_lt ((List.pairwise_cons.1 this).1 fd' hm)
theorem least_uniq {F : List (Int × St)} {a b : Option (Int × Int)} (ha : Least F a) (hb : Least F b) : a = b := by
  rcases a with _ | ⟨f1, g1⟩ <;> rcases b with _ | ⟨f2, g2⟩
  · rfl
  · obtain ⟨s, h1, h2, h3, _⟩ := hb
    have := ha f2 s h1; rw [h2, h3] at this; cases this
  · obtain ⟨s, h1, h2, h3, _⟩ := ha
    have := hb f1 s h1; rw [h2, h3] at this; cases this
  · obtain ⟨s, h1, h2, h3, h4, h5⟩ := ha
    obtain ⟨s', k1, k2, k3, k4, k5⟩ := hb
    have e1 := h5 f2 s' k1 (by rw [k2, k3]; rfl)
    have e2 := k5 f1 s h1 (by rw [h2, h3]; rfl)
    have : f1 = f2 := by omega
    subst this
    rw [h1] at k1; cases k1
    rw [← h4, ← k4]
theorem dueL_least {F : List (Int × St)} (hn : (F.map (·.1)).Nodup) {m : Option (Int × Int)} (h : Least F m) : dueL F = m.isSome := by
  rcases m with _ | ⟨fd, g⟩
  · show dueL F = false
    unfold dueL
    rw [List.any_eq_false]
    intro p hp
    have := h p.1 p.2 (alook_mem hn hp)
    simpa using this
  · obtain ⟨s, h1, h2, h3, _⟩ := h
    exact List.any_eq_true.2 ⟨_, alook_some_mem h1, by simp [h2, h3]⟩
section
variable {w : World} {base pb fb wb : Nat} {F : List (Int × St)} {G : List (Int × Int)}
theorem ptake_none (h : IsPl w base pb fb wb F G) (hbig : F.length ≤ 2000) (hl : Least F none) : Calls Tryz.prog 47 #[.pointer (some ⟨pb, 0, none⟩)] w fun e w' => e = .returned (.tuple #[.int .u16 0, .int .i64 0, .bool false]) ∧ w.grownBy w' none := by
  refine (take_is h hbig).mono ?_
  rintro e w' ⟨s, hp, ho, ⟨h1, h2, h3⟩ | ⟨fd, h1, _⟩⟩
  · exact ⟨h2, h3⟩
  · have := least_uniq hl (first_some hp ho h1); cases this
theorem ptake_some (h : IsPl w base pb fb wb F G) (hbig : F.length ≤ 2000) {fd g : Int} (hl : Least F (some (fd, g))) : Calls Tryz.prog 47 #[.pointer (some ⟨pb, 0, none⟩)] w fun e w' => e = .returned (.tuple #[.int .u16 fd, .int .i64 g, .bool true]) ∧ IsPl w' base pb fb wb (adel F fd) (adel G g) ∧ PFr w w' fb wb := by
  refine (take_is h hbig).mono ?_
  rintro e w' ⟨s, hp, ho, ⟨h1, h2, h3⟩ | ⟨fd', h1, h2, h3, h4⟩⟩
  · have := least_uniq hl (first_none hp h1); cases this
  · have := least_uniq hl (first_some hp ho h1)
    cases this
    exact ⟨h2, h3, h4⟩
end

theorem inv_nil : Inv [] [] := ⟨fun fd s h => by simp [alook] at h, fun g fd h => by simp [alook] at h, by simp⟩
theorem fullL_len {F : List (Int × St)} {fd : Int} {v : St} (h : F.length ≤ 1024) (hf : fullL F fd = false) : (aput F fd v).length ≤ 1024 := by
  rw [aput_len]
  split
  · exact h
  · next hn =>
    have := alook_none.2 hn
    unfold fullL at hf
    rw [this] at hf
    simp at hf; omega
theorem inv_wait {F : List (Int × St)} {G : List (Int × Int)} (h : Inv F G) {fd g : Int} (h0 : 0 ≤ g) (h1 : g < 4096) (hs : (stOf F fd).waits = false) (hq : (alook G g).isSome = false) (hf : fullL F fd = false) :
    Inv (aput F fd ⟨g, true, (stOf F fd).ready⟩) (aput G g fd) := by
  have hg : alook G g = none := by cases hh : alook G g <;> simp_all
  refine ⟨fun fd' s hs' => ?_, fun g' fd' hg' => ?_, fullL_len h.size hf⟩
  · rw [alook_put] at hs'
    by_cases e : fd' = fd
    · rw [if_pos e] at hs'
      cases hs'
      exact ⟨fun _ => ⟨by rw [alook_put, if_pos rfl, e], h0, h1⟩, (fun h => by cases h)⟩
    · rw [if_neg e] at hs'
      refine ⟨fun hw => ?_, (h.ok fd' s hs').2⟩
      obtain ⟨k1, k2, k3⟩ := (h.ok fd' s hs').1 hw
      refine ⟨?_, k2, k3⟩
      rw [alook_put, if_neg (fun e2 => by rw [e2, hg] at k1; cases k1)]; exact k1
  · rw [alook_put] at hg'
    by_cases e : g' = g
    · rw [if_pos e] at hg'
      cases hg'
      exact ⟨_, by rw [alook_put, if_pos rfl], rfl, e.symm⟩
    · rw [if_neg e] at hg'
      obtain ⟨s, k1, k2, k3⟩ := h.who g' fd' hg'
      refine ⟨s, ?_, k2, k3⟩
      rw [alook_put, if_neg (fun e2 => by rw [e2] at k1; rw [stOf_some k1, k2] at hs; cases hs)]; exact k1
theorem inv_ready {F : List (Int × St)} {G : List (Int × Int)} (h : Inv F G) {fd : Int} (hf : fullL F fd = false) : Inv (aput F fd { stOf F fd with ready := true }) G := by
  refine ⟨fun fd' s hs' => ?_, fun g' fd' hg' => ?_, fullL_len h.size hf⟩
  · rw [alook_put] at hs'
    by_cases e : fd' = fd
    · rw [if_pos e] at hs'
      cases hs'
      cases hl : alook F fd with
      | none => rw [stOf_none hl]; exact ⟨(fun h => by cases h), fun _ => ⟨rfl, rfl⟩⟩
      | some s => rw [stOf_some hl, e]; exact ⟨(h.ok fd s hl).1, fun hw => ⟨((h.ok fd s hl).2 hw).1, rfl⟩⟩
    · rw [if_neg e] at hs'
      exact h.ok fd' s hs'
  · obtain ⟨s, k1, k2, k3⟩ := h.who g' fd' hg'
    by_cases e : fd' = fd
    · subst e
      exact ⟨_, by rw [alook_put, if_pos rfl], by rw [stOf_some k1]; exact k2, by rw [stOf_some k1]; exact k3⟩
    · exact ⟨s, by rw [alook_put, if_neg e]; exact k1, k2, k3⟩
theorem inv_take {F : List (Int × St)} {G : List (Int × Int)} (h : Inv F G) {fd g : Int} (hl : Least F (some (fd, g))) : Inv (adel F fd) (adel G g) := by
  obtain ⟨s0, a1, a2, a3, a4, a5⟩ := hl
  refine ⟨fun fd' s hs' => ?_, fun g' fd' hg' => ?_, Nat.le_trans (List.length_filter_le _ _) h.size⟩
  · rw [alook_del] at hs'
    by_cases e : fd' = fd
    · rw [if_pos e] at hs'; cases hs'
    · rw [if_neg e] at hs'
      refine ⟨fun hw => ?_, (h.ok fd' s hs').2⟩
      obtain ⟨k1, k2, k3⟩ := (h.ok fd' s hs').1 hw
      refine ⟨?_, k2, k3⟩
      rw [alook_del, if_neg (fun e2 => ?_)]
      · exact k1
      · have := ((h.ok fd s0 a1).1 a2).1
        rw [a4, ← e2, k1] at this
        exact e (Option.some.inj this)
  · rw [alook_del] at hg'
    by_cases e : g' = g
    · rw [if_pos e] at hg'; cases hg'
    · rw [if_neg e] at hg'
      obtain ⟨s, k1, k2, k3⟩ := h.who g' fd' hg'
      refine ⟨s, ?_, k2, k3⟩
      rw [alook_del, if_neg (fun e2 => by rw [e2, a1] at k1; cases k1; exact e (by rw [← k3, a4]))]
      exact k1
end Go.Proofs.YtlhblhgbpaipaaaGreat.Pl

/- PollLeast -/
namespace Go.Proofs.YtlhblhgbpaipaaaGreat.Pl
open Go.RowKit
set_option linter.unusedVariables false
set_option linter.unusedSimpArgs false

theorem least_list (p : Int → Bool) : ∀ l : List Int, (∀ x ∈ l, p x = false) ∨ ∃ x ∈ l, p x = true ∧ ∀ y ∈ l, p y = true → x ≤ y
  | [] => .inl (by simp)
  | a :: l => by
    rcases least_list p l with h | ⟨x, hx, hp, hm⟩
    · cases ha : p a with
      | false => exact .inl (fun x hx => by rcases List.mem_cons.1 hx with rfl | hx; exact ha; exact h x hx)
      | true => exact .inr ⟨a, by simp, ha, fun y hy hpy => by
          rcases List.mem_cons.1 hy with rfl | hy
          · exact Int.le_refl _
          · rw [h y hy] at hpy; cases hpy⟩
    · cases ha : p a with
      | false => exact .inr ⟨x, List.mem_cons_of_mem _ hx, hp, fun y hy hpy => by
          rcases List.mem_cons.1 hy with rfl | hy
          · rw [ha] at hpy; cases hpy
          · exact hm y hy hpy⟩
      | true =>
        by_cases hax : a ≤ x
        · exact .inr ⟨a, by simp, ha, fun y hy hpy => by
            rcases List.mem_cons.1 hy with rfl | hy
            · exact Int.le_refl _
            · exact Int.le_trans hax (hm y hy hpy)⟩
        · exact .inr ⟨x, List.mem_cons_of_mem _ hx, hp, fun y hy hpy => by
            rcases List.mem_cons.1 hy with rfl | hy
            · omega
            · exact hm y hy hpy⟩
theorem least_ex (F : List (Int × St)) : ∃ m, Least F m := by
  rcases least_list (fun fd => (stOf F fd).waits && (stOf F fd).ready) (F.map (·.1)) with h | ⟨x, hx, hp, hm⟩
  · exact ⟨none, fun fd s hs => by have := h fd (look_key hs); rwa [stOf_some hs] at this⟩
  · obtain ⟨s, hs⟩ := key_look hx
    rw [stOf_some hs] at hp
    have hp2 : s.waits = true ∧ s.ready = true := by simpa using hp
    exact ⟨some (x, s.g), s, hs, hp2.1, hp2.2, rfl, fun fd' s' hs' hd' => hm fd' (look_key hs') (by simp only [stOf_some hs']; exact hd')⟩
end Go.Proofs.YtlhblhgbpaipaaaGreat.Pl

/- PollRel -/
namespace Go.Proofs.YtlhblhgbpaipaaaGreat.Pl
open Go.RowKit
set_option linter.unusedVariables false
set_option linter.unusedSimpArgs false

/-- The document's poll: who waits for what (descriptor, goroutine), and what is ready. -/
structure PR (F : List (Int × St)) (G : List (Int × Int)) (W : List (Int × Int)) (R : List Int) : Prop where
  inv : Inv F G
  nd : (F.map (·.1)).Nodup
  wf : (W.map (·.1)).Nodup
  wg : (W.map (·.2)).Nodup
  rn : R.Nodup
  rdy : ∀ fd, (stOf F fd).ready = true ↔ fd ∈ R
  wts : ∀ fd g, (fd, g) ∈ W ↔ ∃ s, alook F fd = some s ∧ s.waits = true ∧ s.g = g
  rng : ∀ x ∈ W, 0 ≤ x.1 ∧ x.1 < 65536
def whoD (W : List (Int × Int)) (fd : Int) : Int := (alook W fd).getD (-1)
def hasD (W : List (Int × Int)) (g : Int) : Bool := W.any fun x => decide (x.2 = g)
def lenD (W : List (Int × Int)) (R : List Int) : Nat := R.length + (W.filter fun x => !decide (x.1 ∈ R)).length
def fullD (W : List (Int × Int)) (R : List Int) (fd : Int) : Bool := !decide (fd ∈ R) && decide (whoD W fd < 0) && decide (1024 ≤ lenD W R)
/-- The best one of the first ones. -/
def bestD (R : List Int) : List (Int × Int) → Int × Int → Int × Int
  | [], b => b
  | x :: t, b => bestD R t (if x.1 ∈ R ∧ x.1 < b.1 then x else b)
section
variable {F : List (Int × St)} {G W : List (Int × Int)} {R : List Int}
theorem PR.nil : PR [] [] [] [] :=
  ⟨inv_nil, List.nodup_nil, List.nodup_nil, List.nodup_nil, List.nodup_nil, fun fd => by simp [stOf, alook, St.zero], fun fd g => by simp [alook], by simp⟩
theorem PR.look (h : PR F G W R) (fd : Int) : alook W fd = if (stOf F fd).waits then some (stOf F fd).g else none := by
  cases hf : alook F fd with
  | none =>
    rw [stOf_none hf]
    show alook W fd = none
    rw [alook_none]
    intro hm
    obtain ⟨p, hp, rfl⟩ := List.mem_map.1 hm
    obtain ⟨s, h1, _⟩ := (h.wts p.1 p.2).1 hp
    rw [hf] at h1; cases h1
  | some s =>
    rw [stOf_some hf]
    by_cases hw : s.waits = true
    · rw [if_pos hw]
      exact alook_mem h.wf ((h.wts fd s.g).2 ⟨s, hf, hw, rfl⟩)
    · rw [if_neg hw, alook_none]
      intro hm
      obtain ⟨p, hp, rfl⟩ := List.mem_map.1 hm
      obtain ⟨s', h1, h2, _⟩ := (h.wts p.1 p.2).1 hp
      rw [hf] at h1; cases h1; exact hw h2
theorem PR.zero (h : PR F G W R) {fd : Int} (hw : (stOf F fd).waits = false) : (stOf F fd).g = 0 := by
  cases hf : alook F fd with
  | none => rw [stOf_none hf]; rfl
  | some s => rw [stOf_some hf] at hw ⊢; exact ((h.inv.ok fd s hf).2 hw).1
theorem PR.pos (h : PR F G W R) {fd : Int} (hw : (stOf F fd).waits = true) : 0 ≤ (stOf F fd).g ∧ (stOf F fd).g < 4096 := by
  cases hf : alook F fd with
  | none => rw [stOf_none hf] at hw; cases hw
  | some s => rw [stOf_some hf] at hw ⊢; exact ((h.inv.ok fd s hf).1 hw).2
theorem PR.who_no (h : PR F G W R) {fd : Int} (hw : (stOf F fd).waits = false) : whoD W fd = -1 := by
  unfold whoD; rw [h.look, if_neg (by simp [hw])]; rfl
theorem PR.who_yes (h : PR F G W R) {fd : Int} (hw : (stOf F fd).waits = true) : whoD W fd = (stOf F fd).g := by
  unfold whoD; rw [h.look, if_pos hw]; rfl
theorem PR.who (h : PR F G W R) (fd : Int) : (stOf F fd).waits = decide (0 ≤ whoD W fd) := by
  by_cases hw : (stOf F fd).waits = true
  · rw [h.who_yes hw, hw]; have := h.pos hw; simp; omega
  · have hw' : (stOf F fd).waits = false := by simpa using hw
    rw [h.who_no hw', hw']; rfl
theorem PR.ready (h : PR F G W R) (fd : Int) : (stOf F fd).ready = decide (fd ∈ R) := by
  rw [Bool.eq_iff_iff]; simpa using h.rdy fd
theorem PR.has (h : PR F G W R) (g : Int) : (alook G g).isSome = hasD W g := by
  rw [Bool.eq_iff_iff]
  unfold hasD
  rw [List.any_eq_true]
  constructor
  · intro hs
    obtain ⟨fd, hfd⟩ := Option.isSome_iff_exists.1 hs
    obtain ⟨s, h1, h2, h3⟩ := h.inv.who g fd hfd
    exact ⟨(fd, g), (h.wts fd g).2 ⟨s, h1, h2, h3⟩, by simp⟩
  · rintro ⟨⟨fd, g'⟩, hm, hg⟩
    obtain rfl : g' = g := by simpa using hg
    obtain ⟨s, h1, h2, h3⟩ := (h.wts fd g').1 hm
    have := ((h.inv.ok fd s h1).1 h2).1
    rw [h3] at this; rw [this]; rfl
theorem PR.keys (h : PR F G W R) (fd : Int) : fd ∈ F.map (·.1) ↔ fd ∈ R ∨ fd ∈ W.map (·.1) := by
  constructor
  · intro hm
    obtain ⟨s, hs⟩ := key_look hm
    by_cases hw : s.waits = true
    · exact .inr (List.mem_map.2 ⟨(fd, s.g), (h.wts fd s.g).2 ⟨s, hs, hw, rfl⟩, rfl⟩)
    · refine .inl ((h.rdy fd).1 ?_)
      rw [stOf_some hs]
      exact ((h.inv.ok fd s hs).2 (by simpa using hw)).2
  · rintro (hm | hm)
    · have := (h.rdy fd).2 hm
      cases hf : alook F fd with
      | none => rw [stOf_none hf] at this; cases this
      | some s => exact look_key hf
    · obtain ⟨p, hp, rfl⟩ := List.mem_map.1 hm
      obtain ⟨s, h1, _⟩ := (h.wts p.1 p.2).1 hp
      exact look_key h1
theorem PR.len (h : PR F G W R) : F.length = lenD W R := by
  have hp : (F.map (·.1)).Perm (R ++ (W.filter fun x => !decide (x.1 ∈ R)).map (·.1)) := by
    refine (List.perm_ext_iff_of_nodup h.nd ?_).2 fun fd => ?_
    · rw [List.nodup_append]
      refine ⟨h.rn, (List.filter_sublist.map _).nodup h.wf, fun a ha b hb e => ?_⟩
      subst e
      obtain ⟨p, hp, e⟩ := List.mem_map.1 hb
      have := (List.mem_filter.1 hp).2
      rw [e] at this
      simp [ha] at this
    · rw [h.keys, List.mem_append]
      constructor
      · rintro (q | q)
        · exact .inl q
        · by_cases hr : fd ∈ R
          · exact .inl hr
          · obtain ⟨p, hp, rfl⟩ := List.mem_map.1 q
            exact .inr (List.mem_map.2 ⟨p, List.mem_filter.2 ⟨hp, by simpa using hr⟩, rfl⟩)
      · rintro (q | q)
        · exact .inl q
        · obtain ⟨p, hp, rfl⟩ := List.mem_map.1 q
          exact .inr (List.mem_map.2 ⟨p, (List.mem_filter.1 hp).1, rfl⟩)
  have := hp.length_eq
  simpa [lenD] using this
theorem PR.full (h : PR F G W R) (fd : Int) : fullL F fd = fullD W R fd := by
  have hk : (alook F fd).isSome = (decide (fd ∈ R) || decide (0 ≤ whoD W fd)) := by
    rw [← h.ready, ← h.who]
    cases hf : alook F fd with
    | none => rw [stOf_none hf]; rfl
    | some s =>
      rw [stOf_some hf]
      by_cases hw : s.waits = true
      · simp [hw]
      · simp [((h.inv.ok fd s hf).2 (by simpa using hw)).2]
  unfold fullL fullD
  rw [hk, ← h.len]
  by_cases h1 : fd ∈ R
  · simp [h1]
  · by_cases h2 : 0 ≤ whoD W fd
    · have : ¬ whoD W fd < 0 := by omega
      simp [h1, h2, this]
    · have : whoD W fd < 0 := by omega
      simp [h1, h2, this]
/-- One more waits. -/
theorem PR.put (h : PR F G W R) {fd g : Int} (h0 : 0 ≤ g) (h1 : g < 4096) (hs : (stOf F fd).waits = false) (hq : (alook G g).isSome = false) (hf : fullL F fd = false) (hr : 0 ≤ fd ∧ fd < 65536) :
    PR (aput F fd ⟨g, true, (stOf F fd).ready⟩) (aput G g fd) (W ++ [(fd, g)]) R := by
  have hwf : alook W fd = none := by rw [h.look, if_neg (by simp [hs])]
  have hwg : hasD W g = false := by rw [← h.has]; exact hq
  refine ⟨inv_wait h.inv h0 h1 hs hq hf, ?_, ?_, ?_, h.rn, fun fd' => ?_, fun fd' g' => ?_, fun x hx => ?_⟩
  · rw [aput_keys]
    split
    · exact h.nd
    · next hn => exact List.nodup_append.2 ⟨h.nd, by simp, fun a ha b hb e => hn (by simp at hb; rw [← hb, ← e]; exact ha)⟩
  · rw [List.map_append]
    exact List.nodup_append.2 ⟨h.wf, by simp, fun a ha b hb e => alook_none.1 hwf (by simp at hb; rw [← hb, ← e]; exact ha)⟩
  · rw [List.map_append]
    refine List.nodup_append.2 ⟨h.wg, by simp, fun a ha b hb e => ?_⟩
    obtain ⟨p, hp, rfl⟩ := List.mem_map.1 ha
    simp at hb
    have : hasD W g = true := List.any_eq_true.2 ⟨p, hp, by simp [e, hb]⟩
    rw [hwg] at this; cases this
  · rw [show stOf (aput F fd ⟨g, true, (stOf F fd).ready⟩) fd' = if fd' = fd then ⟨g, true, (stOf F fd).ready⟩ else stOf F fd' by unfold stOf; rw [alook_put]; split <;> rfl]
    by_cases e : fd' = fd
    · rw [if_pos e, e]; exact h.rdy fd
    · rw [if_neg e]; exact h.rdy fd'
  · rw [List.mem_append, alook_put]
    by_cases e : fd' = fd
    · subst e
      rw [if_pos rfl]
      constructor
      · rintro (q | q)
        · exact absurd (List.mem_map.2 ⟨_, q, rfl⟩) (alook_none.1 hwf)
        · simp at q; exact ⟨_, rfl, rfl, q.symm⟩
      · rintro ⟨s, e1, _, e3⟩
        cases e1; right; simp; exact e3.symm
    · rw [if_neg e, ← h.wts fd' g']
      constructor
      · rintro (q | q)
        · exact q
        · simp at q; exact absurd q.1 e
      · exact .inl
  · rcases List.mem_append.1 hx with q | q
    · exact h.rng x q
    · simp at q; subst q; exact hr
/-- One more is ready. -/
theorem PR.mark (h : PR F G W R) {fd : Int} (hf : fullL F fd = false) :
    PR (aput F fd { stOf F fd with ready := true }) G W (if fd ∈ R then R else R ++ [fd]) := by
  have hst : ∀ fd', stOf (aput F fd { stOf F fd with ready := true }) fd' = if fd' = fd then { stOf F fd with ready := true } else stOf F fd' := fun fd' => by unfold stOf; rw [alook_put]; split <;> rfl
  refine ⟨inv_ready h.inv hf, ?_, h.wf, h.wg, ?_, fun fd' => ?_, fun fd' g' => ?_, h.rng⟩
  · rw [aput_keys]
    split
    · exact h.nd
    · next hn => exact List.nodup_append.2 ⟨h.nd, by simp, fun a ha b hb e => hn (by simp at hb; rw [← hb, ← e]; exact ha)⟩
  · split
    · exact h.rn
    · next hn => exact List.nodup_append.2 ⟨h.rn, by simp, fun a ha b hb e => hn (by simp at hb; rw [← hb, ← e]; exact ha)⟩
  · rw [hst]
    by_cases e : fd' = fd
    · subst e
      rw [if_pos rfl]
      by_cases hr : fd' ∈ R
      · rw [if_pos hr]; simpa using hr
      · rw [if_neg hr]; simp
    · rw [if_neg e, h.rdy]
      by_cases hr : fd ∈ R
      · rw [if_pos hr]
      · rw [if_neg hr, List.mem_append]; simp [e]
  · rw [h.wts, alook_put]
    by_cases e : fd' = fd
    · subst e
      rw [if_pos rfl]
      constructor
      · rintro ⟨s, e1, e2, e3⟩
        exact ⟨_, rfl, by rw [stOf_some e1]; exact e2, by rw [stOf_some e1]; exact e3⟩
      · rintro ⟨s, e1, e2, e3⟩
        cases e1
        cases hl : alook F fd' with
        | none => rw [stOf_none hl] at e2; cases e2
        | some s => rw [stOf_some hl] at e2 e3; exact ⟨s, rfl, e2, e3⟩
    · rw [if_neg e]
/-- The one that is due first is taken. -/
theorem PR.take (h : PR F G W R) {fd g : Int} (hl : Least F (some (fd, g))) :
    PR (adel F fd) (adel G g) (W.filter fun x => !decide (x = (fd, g))) (R.filter fun x => !decide (x = fd)) := by
  have hst : ∀ fd', stOf (adel F fd) fd' = if fd' = fd then .zero else stOf F fd' := fun fd' => by unfold stOf; rw [alook_del]; split <;> rfl
  obtain ⟨s0, a1, a2, a3, a4, a5⟩ := id hl
  refine ⟨inv_take h.inv hl, ?_, (List.filter_sublist.map _).nodup h.wf, (List.filter_sublist.map _).nodup h.wg, List.filter_sublist.nodup h.rn, fun fd' => ?_, fun fd' g' => ?_, fun x hx => h.rng x (List.mem_filter.1 hx).1⟩
  · exact (List.filter_sublist.map _).nodup h.nd
  · rw [hst, List.mem_filter, ← h.rdy]
    by_cases e : fd' = fd
    · rw [if_pos e]; simp [e, St.zero]
    · rw [if_neg e]; simp [e]
  · rw [List.mem_filter, h.wts, alook_del]
    by_cases e : fd' = fd
    · subst e
      rw [if_pos rfl]
      constructor
      · rintro ⟨⟨s, e1, e2, e3⟩, q⟩
        rw [a1] at e1; cases e1
        simp [← e3, a4] at q
      · rintro ⟨s, e1, _⟩; cases e1
    · rw [if_neg e]
      constructor
      · exact fun q => q.1
      · intro q; exact ⟨q, by simp [e]⟩
/-- What the document's Take chooses. -/
theorem best_inv (R : List Int) : ∀ (L : List (Int × Int)) (b : Int × Int), (bestD R L b = b ∨ (bestD R L b ∈ L ∧ (bestD R L b).1 ∈ R)) ∧ (bestD R L b).1 ≤ b.1 ∧ (∀ x ∈ L, x.1 ∈ R → (bestD R L b).1 ≤ x.1)
  | [], b => ⟨.inl rfl, Int.le_refl _, by simp⟩
  | x :: t, b => by
    unfold bestD
    by_cases hc : x.1 ∈ R ∧ x.1 < b.1
    · rw [if_pos hc]
      obtain ⟨h1, h2, h3⟩ := best_inv R t x
      refine ⟨.inr ?_, by omega, fun y hy hr => ?_⟩
      · rcases h1 with h1 | h1
        · rw [h1]; exact ⟨by simp, hc.1⟩
        · exact ⟨List.mem_cons_of_mem _ h1.1, h1.2⟩
      · rcases List.mem_cons.1 hy with rfl | hy
        · exact h2
        · exact h3 y hy hr
    · rw [if_neg hc]
      obtain ⟨h1, h2, h3⟩ := best_inv R t b
      refine ⟨?_, h2, fun y hy hr => ?_⟩
      · rcases h1 with h1 | h1
        · exact .inl h1
        · exact .inr ⟨List.mem_cons_of_mem _ h1.1, h1.2⟩
      · rcases List.mem_cons.1 hy with rfl | hy
        · have : ¬ y.1 < b.1 := fun q => hc ⟨hr, q⟩
          omega
        · exact h3 y hy hr
theorem PR.none_iff (h : PR F G W R) (hb : (bestD R W (65536, 0)).1 = 65536) : Least F none := by
  intro fd s hs
  obtain ⟨h1, h2, h3⟩ := best_inv R W (65536, 0)
  by_cases hw : s.waits = true ∧ s.ready = true
  · exfalso
    have hm := (h.wts fd s.g).2 ⟨s, hs, hw.1, rfl⟩
    have hr := (h.rdy fd).1 (by rw [stOf_some hs]; exact hw.2)
    have := h3 _ hm hr
    have := h.rng _ hm
    simp at *; omega
  · cases hh1 : s.waits <;> cases hh2 : s.ready <;> simp_all
theorem PR.some_iff (h : PR F G W R) (hb : (bestD R W (65536, 0)).1 ≠ 65536) : Least F (some (bestD R W (65536, 0))) := by
  obtain ⟨h1, h2, h3⟩ := best_inv R W (65536, 0)
  rcases h1 with h1 | ⟨hm, hr⟩
  · exact absurd (by rw [h1]) hb
  · obtain ⟨s, e1, e2, e3⟩ := (h.wts _ _).1 (show ((bestD R W (65536, 0)).1, (bestD R W (65536, 0)).2) ∈ W from hm)
    refine ⟨s, e1, e2, ?_, e3, fun fd' s' hs' hd => ?_⟩
    · have := (h.rdy _).2 hr
      rw [stOf_some e1] at this; exact this
    · have hd' : s'.waits = true ∧ s'.ready = true := by simpa using hd
      exact h3 (fd', s'.g) ((h.wts fd' s'.g).2 ⟨s', hs', hd'.1, rfl⟩) ((h.rdy fd').1 (by rw [stOf_some hs']; exact hd'.2))
theorem PR.due (h : PR F G W R) : dueL F = decide ((bestD R W (65536, 0)).1 ≠ 65536) := by
  by_cases hb : (bestD R W (65536, 0)).1 = 65536
  · rw [dueL_least h.nd (h.none_iff hb)]; simp [hb]
  · rw [dueL_least h.nd (h.some_iff hb)]; simp [hb]
end
end Go.Proofs.YtlhblhgbpaipaaaGreat.Pl
