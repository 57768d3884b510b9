/-
  Package source beside the document's: each deed in one form.
-/
import Derived.Test.YtlhblhgbpaipaaaGreatRefSrc5
import Derived.Test.YtlhblhgbpaipaaaGreatMgSrc2
namespace Go.Proofs.YtlhblhgbpaipaaaGreat.Src
open Go.RowKit
open Go.Proofs.YtlhblhgbpaipaaaGreat.Hp
open Go.Proofs.YtlhblhgbpaipaaaGreat.Tm (Tms Kept IsMin dueB min_ex)
open Go.Proofs.YtlhblhgbpaipaaaGreat.Pl (IsPl PFr St aput adel alook stOf dueL fullL bestD takeA leftW leftI leftF leftG putW markR whoD hasD fullD readyF waitF PR)
set_option linter.unusedVariables false
set_option linter.unusedSimpArgs false

theorem srt_min {M : List Ent} : (∀ x t, srt M = x :: t → IsMin M (some x)) ∧ (srt M = [] → IsMin M none) := by
  have hp := srt_perm M
  constructor
  · intro x t h
    refine ⟨hp.mem_iff.1 (by rw [h]; simp), fun y hy => ?_⟩
    have hs := srt_sorted M
    rw [h] at hs
    have hy' := hp.mem_iff.2 hy
    rw [h] at hy'
    rcases List.mem_cons.1 hy' with rfl | hy'
    · exact le_refl _
    · exact (List.pairwise_cons.1 hs).1 y hy'
  · intro h
    rw [h] at hp
    exact hp.symm.eq_nil
theorem anyG_mem {D : List Tim} {g : Int} : anyG D g = true ↔ g ∈ (D.map (·.e)).map (·.g) := by
  unfold anyG
  rw [List.any_eq_true]
  simp only [List.map_map, List.mem_map, Function.comp]
  constructor
  · rintro ⟨x, hx, h⟩; exact ⟨x, hx, by simpa using h⟩
  · rintro ⟨x, hx, h⟩; exact ⟨x, hx, by simpa using h⟩
theorem min_uniq {M : List Ent} {a b : Option Ent} (ha : IsMin M a) (hb : IsMin M b) : a = b := by
  cases a with
  | none =>
    have h : M = [] := ha
    subst h
    cases b with
    | none => rfl
    | some y => exact absurd hb.1 (by simp)
  | some x =>
    cases b with
    | none => have h : M = [] := hb; subst h; exact absurd ha.1 (by simp)
    | some y => rw [le_anti (ha.2 y hb.1) (hb.2 x ha.1)]
theorem dueB_takeD {M : List Ent} {D : List Tim} {m : Option Ent} (hm : IsMin M m) (hp : M.Perm (D.map (·.e))) (now : Int) : dueB m now = (takeD D now).2.1 := by
  have hm' : IsMin (D.map (·.e)) m := Tm.IsMin.perm hm hp
  unfold takeD
  rw [sel_all]
  cases hL : srt (D.map (·.e)) with
  | nil => obtain rfl := min_uniq hm' (srt_min.2 hL); rfl
  | cons x t =>
    obtain rfl := min_uniq hm' (srt_min.1 x t hL)
    show decide (x.w ≤ now) = _
    by_cases h : x.w ≤ now
    · simp [h]
    · simp [h]
theorem map_but {D : List Tim} {x : Ent} (hn : ((D.map (·.e)).map (·.g)).Nodup) : (but x D).map (·.e) = (D.map (·.e)).erase x := by
  have hn2 : (D.map (·.e)).Nodup := (List.pairwise_map.1 hn).imp (fun h e => h (by rw [e]))
  rw [hn2.erase_eq_filter]
  unfold but
  rw [List.filter_map]
  congr 1
/-- A source behind a pointer that holds the document's rows. -/
def Sv (w : World) (base sb n : Nat) (now : Int) (D : List Tim) (order : Nat) (W : List (Int × Int)) (R : List Int) (X : Nat → Prop) : Prop :=
  ∃ tb pb fb wb M G F GP, IsS w base sb tb pb fb wb n now M order G F GP X ∧ M.Perm (D.map (·.e)) ∧ PR F GP W R
section
variable {w : World} {base sb n : Nat} {now : Int} {D : List Tim} {order : Nat} {W : List (Int × Int)} {R : List Int} {X : Nat → Prop}
theorem Sv.grown {w' : World} (h : Sv w base sb n now D order W R X) (hg : w.grownBy w' none) : Sv w' base sb n now D order W R X := by
  obtain ⟨tb, pb, fb, wb, M, G, F, GP, s, p, r⟩ := h; exact ⟨tb, pb, fb, wb, M, G, F, GP, s.grown hg, p, r⟩
theorem Sv.more {w' : World} {X' : Nat → Prop} (h : Sv w base sb n now D order W R X) (hg : w.grownBy w' none) (hX : ∀ k, X' k → X k ∨ w.heap.size ≤ k ∧ k < w'.heap.size) : Sv w' base sb n now D order W R X' := by
  obtain ⟨tb, pb, fb, wb, M, G, F, GP, s, p, r⟩ := h; exact ⟨tb, pb, fb, wb, M, G, F, GP, s.more hg hX, p, r⟩
theorem Sv.foreign {w' : World} (h : Sv w base sb n now D order W R X) (hch : ∀ k, k < w.heap.size → ¬ X k → w'.heap[k]? = w.heap[k]?) (hs : w.heap.size ≤ w'.heap.size) : Sv w' base sb n now D order W R X := by
  obtain ⟨tb, pb, fb, wb, M, G, F, GP, s, p, r⟩ := h; exact ⟨tb, pb, fb, wb, M, G, F, GP, s.foreign hch hs, p, r⟩
theorem Sv.low (h : Sv w base sb n now D order W R X) : base ≤ w.heap.size := by obtain ⟨_, _, _, _, _, _, _, _, s, _⟩ := h; exact s.low
theorem Sv.xlt (h : Sv w base sb n now D order W R X) {k : Nat} (hk : X k) : k < w.heap.size := by obtain ⟨_, _, _, _, _, _, _, _, s, _⟩ := h; exact s.xlt hk
theorem Sv.kept {w' : World} (h : Sv w base sb n now D order W R X) (hg : w.grownBy w' none) : Kept w w' base X := by obtain ⟨_, _, _, _, _, _, _, _, s, _⟩ := h; exact kept_grown s hg
theorem Sv.i64 (h : Sv w base sb n now D order W R X) : Clk.I64 now := by obtain ⟨_, _, _, _, _, _, _, _, s, _⟩ := h; exact s.i64
theorem mem_anyG {tb pb fb wb : Nat} {M : List Ent} {G : List Int} {F : List (Int × St)} {GP : List (Int × Int)} (s : IsS w base sb tb pb fb wb n now M order G F GP X) (p : M.Perm (D.map (·.e))) (g : Int) : decide (g ∈ G) = anyG D g := by
  rw [Bool.eq_iff_iff, decide_eq_true_eq, anyG_mem, ← (p.map (·.g)).mem_iff, s.t.keys.mem_iff]
theorem nodupD {tb pb fb wb : Nat} {M : List Ent} {G : List Int} {F : List (Int × St)} {GP : List (Int × Int)} (s : IsS w base sb tb pb fb wb n now M order G F GP X) (p : M.Perm (D.map (·.e))) : ((D.map (·.e)).map (·.g)).Nodup :=
  (p.map (·.g)).nodup_iff.1 (s.t.keys.symm.nodup_iff.1 s.t.nodup)
theorem gpW {tb pb fb wb : Nat} {M : List Ent} {G : List Int} {F : List (Int × St)} {GP : List (Int × Int)} (s : IsS w base sb tb pb fb wb n now M order G F GP X) (r : PR F GP W R) : GP.length = W.length := by
  have hp : (GP.map (·.1)).Perm (W.map (·.2)) := by
    refine (List.perm_ext_iff_of_nodup s.p.nodupG r.wg).2 fun g => ?_
    have h1 : g ∈ GP.map (·.1) ↔ (alook GP g).isSome = true := by
      cases hh : alook GP g with
      | none => simp [Pl.alook_none.1 hh] <;> exact fun x hx => Pl.alook_none.1 hh (List.mem_map.2 ⟨_, hx, rfl⟩)
      | some v => simp only [Option.isSome_some, iff_true]; exact List.mem_map.2 ⟨_, Pl.alook_some_mem hh, rfl⟩
    rw [h1, r.has]
    unfold hasD
    rw [List.any_eq_true, List.mem_map]
    constructor
    · rintro ⟨x, hx, e⟩; exact ⟨x, hx, by simpa using e⟩
    · rintro ⟨x, hx, e⟩; exact ⟨x, hx, by simpa using e⟩
  simpa using hp.length_eq
theorem due_eq {M : List Ent} {F : List (Int × St)} {GP : List (Int × Int)} {m : Option Ent} (hm : IsMin M m) (p : M.Perm (D.map (·.e))) (r : PR F GP W R) (t : Int) : (dueB m t || dueL F) = dueS t D W R := by
  unfold dueS
  rw [dueB_takeD hm p, r.dueA (y := (takeA (bestD R W (65536, 0))).1) (z := (takeA (bestD R W (65536, 0))).2.1) (ok := (takeA (bestD R W (65536, 0))).2.2) rfl]
theorem vnow_is (h : Sv w base sb n now D order W R X) : Calls Tryz.prog 8 #[.pointer (some ⟨sb, 0, none⟩)] w fun e w' => e = .returned (.int .i64 now) ∧ w = w' := by
  obtain ⟨_, _, _, _, _, _, _, _, s, _⟩ := h; exact snow_is s
theorem vdue_is (h : Sv w base sb n now D order W R X) {r : Bool} (hr : dueS now D W R = r) : Calls Tryz.prog 9 #[.pointer (some ⟨sb, 0, none⟩)] w fun e w' => e = .returned (.bool r) ∧ w.grownBy w' none := by
  obtain ⟨_, _, _, _, M, _, _, _, s, p, q⟩ := h
  obtain ⟨m, hm⟩ := min_ex M
  exact sdue_is s hm ((due_eq hm p q now).trans hr)
theorem vlen_is (h : Sv w base sb n now D order W R X) (hb : D.length + W.length < 1000000) {L : Int} (hL : (D.length : Int) + W.length = L) : Calls Tryz.prog 11 #[.pointer (some ⟨sb, 0, none⟩)] w fun e w' => e = .returned (.int .i64 L) ∧ w.grownBy w' none := by
  obtain ⟨_, _, _, _, M, G, _, GP, s, p, q⟩ := h
  have h1 : G.length = D.length := by rw [← s.t.keys.length_eq, List.length_map, p.length_eq, List.length_map]
  have h2 := gpW s q
  have := slen_is s (by omega)
  rw [h1, h2, hL] at this
  exact this
theorem vout_is (h : Sv w base sb n now D order W R X) (g : Int) {r : Bool} (hr : outS D W g = r) : Calls Tryz.prog 13 #[.pointer (some ⟨sb, 0, none⟩), .int .i64 g] w fun e w' => e = .returned (.bool r) ∧ w.grownBy w' none := by
  obtain ⟨_, _, _, _, M, G, _, GP, s, p, q⟩ := h
  exact sout_is s g (by rw [mem_anyG s p, q.has]; exact hr)
theorem vnext_no (h : Sv w base sb n now D order W R X) (hL : srt (D.map (·.e)) = []) : Calls Tryz.prog 15 #[.pointer (some ⟨sb, 0, none⟩)] w fun e w' => e = .returned (.tuple #[.int .i64 0, .bool false]) ∧ w.grownBy w' none := by
  obtain ⟨_, _, _, _, M, G, _, GP, s, p, q⟩ := h
  have h1 : D.map (·.e) = [] := srt_min.2 hL
  rw [h1] at p
  obtain rfl := p.eq_nil
  exact snext_no s
theorem vnext_yes (h : Sv w base sb n now D order W R X) {x : Ent} {t : List Ent} (hL : srt (D.map (·.e)) = x :: t) : Calls Tryz.prog 15 #[.pointer (some ⟨sb, 0, none⟩)] w fun e w' => e = .returned (.tuple #[.int .i64 x.w, .bool true]) ∧ w.grownBy w' none := by
  obtain ⟨_, _, _, _, M, G, _, GP, s, p, q⟩ := h
  exact snext_yes s (Tm.IsMin.perm (srt_min.1 x t hL) p.symm)
/-- Tick. -/
theorem vtick_is (h : Sv w base sb n now D order W R X) {d t : Int} (hd : Clk.I64 d) (ht : Clk.sat now (Clk.mx 0 d) = t) {r : Bool} (hr : dueS t D W R = r) :
    Calls Tryz.prog 17 #[.pointer (some ⟨sb, 0, none⟩), .int .i64 d] w fun e w' => e = .returned (.bool r) ∧ Sv w' base sb n t D order W R X ∧ Kept w w' base X := by
  obtain ⟨tb, pb, fb, wb, M, G, F, GP, s, p, q⟩ := h
  obtain ⟨m, hm⟩ := min_ex M
  refine (stick_is s hd ht hm ((due_eq hm p q t).trans hr)).mono ?_
  rintro e w' ⟨h1, h2, h3⟩
  exact ⟨h1, ⟨tb, pb, fb, wb, M, G, F, GP, h2, p, q⟩, h3⟩
/-- Ready. -/
theorem vready_is (h : Sv w base sb n now D order W R X) (fd : Int) {e : Int} {R' : List Int} (hm : markR W R fd = (e, R')) {r : Bool} (hr : (if e = 0 then dueS now D W R' else false) = r) :
    Calls Tryz.prog 26 #[.pointer (some ⟨sb, 0, none⟩), .int .u16 fd] w fun x w' => x = .returned (.tuple #[.bool r, .int .i64 e]) ∧ Sv w' base sb n now D order W R' X ∧ Kept w w' base X := by
  have h0 := h
  obtain ⟨tb, pb, fb, wb, M, G, F, GP, s, p, q⟩ := h
  obtain ⟨m, hmin⟩ := min_ex M
  have hfe := q.full fd
  by_cases hf : fullL F fd = true
  · unfold markR at hm
    rw [if_pos (by rw [← hfe]; exact hf)] at hm
    cases hm
    obtain rfl : r = false := hr.symm
    refine (sready_err s fd hf).mono ?_
    rintro x w' ⟨h1, h2⟩
    exact ⟨h1, h0.grown h2, h0.kept h2⟩
  · have hf' : fullL F fd = false := by simpa using hf
    have hq2 : PR (aput F fd { stOf F fd with ready := true }) GP W R' := by
      refine q.markA (e := e) ?_ hm
      unfold readyF
      rw [if_neg hf]
      unfold markR at hm
      rw [if_neg (by rw [← hfe]; exact hf)] at hm
      cases hm; rfl
    obtain rfl : e = 0 := by
      unfold markR at hm
      rw [if_neg (by rw [← hfe]; exact hf)] at hm
      cases hm; rfl
    rw [if_pos rfl] at hr
    refine (sready_ok s fd hf' hmin ((due_eq hmin p hq2 now).trans hr)).mono ?_
    rintro x w' ⟨h1, h2, h3⟩
    exact ⟨h1, ⟨tb, pb, fb, wb, M, G, _, GP, h2, p, hq2⟩, h3⟩
/-- Wait. -/
theorem vwait_is (h : Sv w base sb n now D order W R X) (hW : W.length < 1000) (fd g : Int) (hfd : 0 ≤ fd ∧ fd < 65536) {e : Int} {W' : List (Int × Int)} (hm : waitS D W R fd g = (e, W')) {r : Bool} (hr : (if e = 0 then dueS now D W' R else false) = r) :
    Calls Tryz.prog 23 #[.pointer (some ⟨sb, 0, none⟩), .int .u16 fd, .int .i64 g] w fun x w' => x = .returned (.tuple #[.bool r, .int .i64 e]) ∧ Sv w' base sb n now D order W' R X ∧ Kept w w' base X := by
  have h0 := h
  obtain ⟨tb, pb, fb, wb, M, G, F, GP, s, p, q⟩ := h
  obtain ⟨m, hmin⟩ := min_ex M
  have hGa := mem_anyG s p g
  have hrange := s.t.range
  unfold waitS at hm
  by_cases hbad : g < 0 ∨ 4095 < g
  · rw [if_pos hbad] at hm
    cases hm
    obtain rfl : r = false := hr.symm
    have hg : g ∉ G := fun hg => by have := hrange g hg; omega
    refine (swait_err s fd g 1 hg (by decide) (fun w1 P => Pl.wait_arg P fd g (by omega))).mono ?_
    rintro x w' ⟨h1, h2⟩
    exact ⟨h1, h0.grown h2, h0.kept h2⟩
  · rw [if_neg hbad] at hm
    by_cases hg : g ∈ G
    · have hany : anyG D g = true := by rw [← hGa]; simpa using hg
      rw [if_pos (by unfold outS; rw [hany]; rfl)] at hm
      cases hm
      obtain rfl : r = false := hr.symm
      refine (swait_sleeps s fd g hg).mono ?_
      rintro x w' ⟨h1, h2⟩
      exact ⟨h1, h0.grown h2, h0.kept h2⟩
    · have hany : anyG D g = false := by rw [← hGa]; simpa using hg
      have hout : outS D W g = hasD W g := by unfold outS; rw [hany]; rfl
      rw [hout] at hm
      by_cases hh : hasD W g = true
      · rw [if_pos hh] at hm
        cases hm
        obtain rfl : r = false := hr.symm
        refine (swait_err s fd g 8 hg (by decide) (fun w1 P => Pl.wait_same P fd g (by omega) (by omega) (.inr (by rw [q.has]; exact hh)))).mono ?_
        rintro x w' ⟨h1, h2⟩
        exact ⟨h1, h0.grown h2, h0.kept h2⟩
      · rw [if_neg hh] at hm
        obtain ⟨e2, F2, G2, hw2⟩ : ∃ e F' G', waitF F GP fd g = (e, F', G') := ⟨_, _, _, rfl⟩
        have he : e2 = e := by have := q.putE fd g; rw [hw2, hm] at this; exact this
        subst he
        have hq2 := q.putA hfd hw2 hm
        unfold waitF at hw2
        rw [if_neg hbad] at hw2
        by_cases hs : (stOf F fd).waits = true ∨ (alook GP g).isSome = true
        · rw [if_pos hs] at hw2
          cases hw2
          obtain rfl : r = false := hr.symm
          have hWW : W' = W := by
            unfold putW at hm
            rw [if_neg hbad] at hm
            split at hm
            · cases hm; rfl
            · split at hm <;> cases hm
          subst hWW
          refine (swait_err s fd g 8 hg (by decide) (fun w1 P => Pl.wait_same P fd g (by omega) (by omega) hs)).mono ?_
          rintro x w' ⟨h1, h2⟩
          exact ⟨h1, h0.grown h2, h0.kept h2⟩
        · rw [if_neg hs] at hw2
          have hs1 : (stOf F fd).waits = false := by simpa using fun e => hs (.inl e)
          have hs2 : (alook GP g).isSome = false := by simpa using fun e => hs (.inr e)
          by_cases hf : fullL F fd = true
          · rw [if_pos hf] at hw2
            cases hw2
            obtain rfl : r = false := hr.symm
            have hWW : W' = W := by
              unfold putW at hm
              rw [if_neg hbad] at hm
              split at hm
              · cases hm
              · split at hm
                · cases hm; rfl
                · cases hm
            subst hWW
            refine (swait_err s fd g 2 hg (by decide) (fun w1 P => Pl.wait_full P fd g (by omega) (by omega) hs1 hs2 hf)).mono ?_
            rintro x w' ⟨h1, h2⟩
            exact ⟨h1, h0.grown h2, h0.kept h2⟩
          · rw [if_neg hf] at hw2
            cases hw2
            rw [if_pos rfl] at hr
            refine (swait_ok s fd g hg (by omega) (by omega) hs1 hs2 (by simpa using hf) (by have := gpW s q; omega) hmin ((due_eq hmin p hq2 now).trans hr)).mono ?_
            rintro x w' ⟨h1, h2, h3⟩
            exact ⟨h1, ⟨tb, pb, fb, wb, M, G, _, _, h2, p, hq2⟩, h3⟩
/-- Sleep. -/
theorem vsleep_is (h : Sv w base sb n now D order W R X) (hD : D.length ≤ 900) (p g d : Int) (hd : Clk.I64 d) {t : Int} (ht : Clk.sat now (Clk.mx 0 d) = t) (ho : order < 4611686018427387904) {e : Int} {D' : List Tim} {o' : Nat} (hm : sleepS n D order W p g t = (e, D', o')) {r : Bool} (hr : (if e = 0 then dueS now D' W R else false) = r) :
    Calls Tryz.prog 16 #[.pointer (some ⟨sb, 0, none⟩), .int .i64 p, .int .i64 g, .int .i64 d] w fun x w' => x = .returned (.tuple #[.bool r, .int .i64 e]) ∧ Sv w' base sb n now D' o' W R X ∧ Kept w w' base X := by
  have h0 := h
  obtain ⟨tb, pb, fb, wb, M, G, F, GP, s, pm, q⟩ := h
  have hGa := mem_anyG s pm g
  have hML : M.length = D.length := by rw [pm.length_eq, List.length_map]
  have hgp : (alook GP g).isSome = true → 0 ≤ g ∧ g < 4096 := fun hq => by
    obtain ⟨fd', hf'⟩ := Option.isSome_iff_exists.1 hq
    obtain ⟨s', h1, h2, h3⟩ := q.inv.who g fd' hf'
    have := (q.inv.ok fd' s' h1).1 h2
    rw [h3] at this
    exact this.2
  unfold sleepS at hm
  by_cases hbad : p < 0 ∨ (n : Int) ≤ p ∨ g < 0 ∨ 4095 < g
  · rw [if_pos hbad] at hm
    cases hm
    obtain rfl : r = false := hr.symm
    by_cases hq : (alook GP g).isSome = true
    · have hg := hgp hq
      refine (sleep_polls s p g d hq hg (by omega) ho (y := 1) (by rw [if_pos (by omega)])).mono ?_
      rintro x w' ⟨h1, h2⟩
      exact ⟨h1, h0.grown h2, h0.kept h2⟩
    · refine (sleep_err s p g d 1 (by simpa using hq) hd (by decide) (fun w1 t T => (Tm.tms_add_arg T p g t (by omega)).mono (fun e w' h => ⟨h.1, h.2 ▸ grown_refl _⟩))).mono ?_
      rintro x w' ⟨h1, h2⟩
      exact ⟨h1, h0.grown h2, h0.kept h2⟩
  · rw [if_neg hbad] at hm
    by_cases hq : (alook GP g).isSome = true
    · have hg := hgp hq
      rw [if_pos (by unfold outS; rw [← q.has, hq]; simp)] at hm
      cases hm
      obtain rfl : r = false := hr.symm
      refine (sleep_polls s p g d hq hg (by omega) ho (y := 8) (by rw [if_neg (by omega)])).mono ?_
      rintro x w' ⟨h1, h2⟩
      exact ⟨h1, h0.grown h2, h0.kept h2⟩
    · have hq' : (alook GP g).isSome = false := by simpa using hq
      by_cases hg : g ∈ G
      · have hany : anyG D g = true := by rw [← hGa]; simpa using hg
        rw [if_pos (by unfold outS; rw [hany]; rfl)] at hm
        cases hm
        obtain rfl : r = false := hr.symm
        refine (sleep_err s p g d 8 hq' hd (by decide) (fun w1 t T => Tm.tms_add_same T p g t (by omega) (by omega) hg)).mono ?_
        rintro x w' ⟨h1, h2⟩
        exact ⟨h1, h0.grown h2, h0.kept h2⟩
      · have hany : anyG D g = false := by rw [← hGa]; simpa using hg
        rw [if_neg (by unfold outS; rw [hany, ← q.has, hq']; decide)] at hm
        cases hm
        rw [if_pos rfl] at hr
        obtain ⟨m, hmin⟩ := min_ex (M ++ [⟨t, order, g⟩])
        obtain ⟨m0, hmin0⟩ := min_ex M
        have hp2 : (M ++ [(⟨t, order, g⟩ : Ent)]).Perm ((D ++ [(⟨p, ⟨t, order, g⟩⟩ : Tim)]).map fun x => x.e) := by
          rw [List.map_append]; exact pm.append (List.Perm.refl _)
        refine (sleep_ok s p g d t hq' hd ht (by omega) (by omega) (by omega) (by omega) hg ho hmin ((due_eq hmin hp2 q now).trans hr)).mono ?_
        rintro x w' ⟨h1, h2, h3⟩
        exact ⟨h1, ⟨tb, pb, fb, wb, _, _, F, GP, h2, hp2, q⟩, h3⟩
/-- Take. -/
theorem vtake_is (h : Sv w base sb n now D order W R X) (hW : W.length < 1000) {g : Int} {ok : Bool} {D' : List Tim} {W' : List (Int × Int)} {R' : List Int} (hm : takeS now D W R = (g, ok, D', W', R')) :
    Calls Tryz.prog 18 #[.pointer (some ⟨sb, 0, none⟩)] w fun x w' => x = .returned (.tuple #[.int .i64 g, .bool ok]) ∧ Sv w' base sb n now D' order W' R' X ∧ Kept w w' base X := by
  have h0 := h
  obtain ⟨tb, pb, fb, wb, M, G, F, GP, s, p, q⟩ := h
  obtain ⟨m, hmin⟩ := min_ex M
  have hdb := dueB_takeD hmin p now
  unfold takeS at hm
  by_cases hd : (takeD D now).2.1 = true
  · rw [if_pos hd] at hm
    rw [hd] at hdb
    cases m with
    | none => cases hdb
    | some x =>
      have hx : x.w ≤ now := by simpa [dueB] using hdb
      have hm2 : takeD D now = (x, true, but x D) := by
        have hmx := Tm.IsMin.perm hmin p
        unfold takeD at hd ⊢
        rw [sel_all] at hd ⊢
        cases hL : srt (D.map (·.e)) with
        | nil => rw [hL] at hd; cases hd
        | cons y t =>
          obtain rfl : x = y := Option.some.inj (min_uniq hmx (srt_min.1 y t hL))
          simp [hx]
      rw [hm2] at hm
      obtain ⟨rfl, rfl, rfl, rfl, rfl⟩ : x.g = g ∧ true = ok ∧ but x D = D' ∧ W = W' ∧ R = R' := by cases hm; exact ⟨rfl, rfl, rfl, rfl, rfl⟩
      refine (stake_timer s hmin hx).mono ?_
      rintro e w' ⟨h1, h2, h3⟩
      refine ⟨h1, ⟨tb, pb, fb, wb, _, _, F, GP, h2, ?_, q⟩, h3⟩
      rw [map_but (nodupD s p)]
      exact p.erase x
  · rw [if_neg hd] at hm
    have hd' : dueB m now = false := by rw [hdb]; simpa using hd
    obtain ⟨rfl, rfl, rfl, rfl, rfl⟩ : (takeA (bestD R W (65536, 0))).2.1 = g ∧ (takeA (bestD R W (65536, 0))).2.2 = ok ∧ D = D' ∧ leftW (bestD R W (65536, 0)) W = W' ∧ leftI (bestD R W (65536, 0)) R = R' := by cases hm; exact ⟨rfl, rfl, rfl, rfl, rfl⟩
    have hl := q.bestL
    have hq2 := q.takeL
    have hsz := q.inv.size
    unfold takeA
    by_cases hb : (bestD R W (65536, 0)).1 = 65536
    · rw [if_pos hb] at hl
      simp only [if_pos hb]
      refine (stake_none s hmin hd' (by omega) hl).mono ?_
      rintro e w' ⟨h1, h2⟩
      unfold leftF leftG at hq2
      simp only [if_pos hb] at hq2
      exact ⟨h1, ⟨tb, pb, fb, wb, M, G, F, GP, s.grown h2, p, hq2⟩, h0.kept h2⟩
    · rw [if_neg hb] at hl
      simp only [if_neg hb]
      have hgp : alook GP (bestD R W (65536, 0)).2 = some (bestD R W (65536, 0)).1 := by
        obtain ⟨s1, e1, e2, e3, e4, e5⟩ := hl
        have := ((q.inv.ok _ s1 e1).1 e2).1
        rw [e4] at this; exact this
      have hlen : GP.length = (adel GP (bestD R W (65536, 0)).2).length + 1 := by
        have h1 : (bestD R W (65536, 0)).2 ∈ GP.map (·.1) := List.mem_map.2 ⟨_, Pl.alook_some_mem hgp, rfl⟩
        have hn := s.p.nodupG
        have e : ((GP.map (·.1)).filter fun y => decide (y ≠ (bestD R W (65536, 0)).2)) = (GP.map (·.1)).erase (bestD R W (65536, 0)).2 := by
          rw [hn.erase_eq_filter]; congr 1; funext y; rw [Bool.eq_iff_iff]; simp
        have h2 := congrArg List.length e
        rw [List.filter_map, List.length_map, List.length_erase_of_mem h1, List.length_map] at h2
        have h3 := List.length_pos_of_mem h1
        rw [List.length_map] at h3
        have h4 : (adel GP (bestD R W (65536, 0)).2).length = GP.length - 1 := h2
        omega
      refine (stake_poll s hmin hd' (by omega) hl hlen (by have := gpW s q; omega)).mono ?_
      rintro e w' ⟨h1, h2, h3⟩
      unfold leftF leftG at hq2
      simp only [if_neg hb] at hq2
      exact ⟨h1, ⟨tb, pb, fb, wb, M, G, _, _, h2, p, hq2⟩, h3⟩
end
end Go.Proofs.YtlhblhgbpaipaaaGreat.Src
