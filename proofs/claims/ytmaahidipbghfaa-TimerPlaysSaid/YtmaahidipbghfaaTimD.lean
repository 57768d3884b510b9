/-
  Package timer beside the document's row: each processor's heap holds the row's entries of that processor.
-/
import Derived.Test.YtmaahidipbghfaaRefTim7
import Derived.Test.YtmaahidipbghfaaTimerTms
import Derived.Test.YtmaahidipbghfaaTimerOf
import Derived.Test.YtmaahidipbghfaaTimerCopy
namespace Go.Proofs.Ytmaahidipbghfaa.Tm
open Go.RowKit
open Go.Proofs.Ytmaahidipbghfaa.Hp
set_option linter.unusedVariables false
set_option linter.unusedSimpArgs false

theorem sel_cons (p : Int) (x : Tim) (t : List Tim) : sel p (x :: t) = if x.p = p ∨ p < 0 then x.e :: sel p t else sel p t := by
  unfold sel
  rw [List.filter_cons]
  by_cases h : x.p = p ∨ p < 0
  · rw [if_pos h, if_pos (by simpa using h)]; rfl
  · rw [if_neg h, if_neg (by simpa using h)]
/-- Heaps that hold each processor's part hold all. -/
theorem flat_perm : ∀ (Hs : List (List Ent)) (k : Nat) (D : List Tim), (∀ (i : Nat) (es : List Ent), Hs[i]? = some es → es.Perm (sel ((k + i : Nat) : Int) D)) → (∀ x ∈ D, (k : Int) ≤ x.p ∧ x.p < k + Hs.length) → Hs.flatten.Perm (D.map (·.e))
  | [], k, D, _, hr => by
    cases D with
    | nil => exact List.Perm.refl _
    | cons x t => have := hr x (by simp); simp at this; omega
  | es :: Hs, k, D, h, hr => by
    have h0 := h 0 es rfl
    have ih := flat_perm Hs (k + 1) (D.filter fun x => !decide (x.p = k)) (fun i fs hi => by
      have := h (i + 1) fs hi
      refine this.trans (List.Perm.of_eq ?_)
      rw [show k + (i + 1) = k + 1 + i by omega]
      unfold sel
      rw [List.filter_filter]
      congr 1
      apply List.filter_congr
      intro x _
      rw [Bool.eq_iff_iff]; simp; omega) (fun x hx => by
      have h1 := List.mem_filter.1 hx
      have := hr x h1.1
      simp at this h1
      omega)
    show (es ++ Hs.flatten).Perm _
    refine (h0.append ih).trans ?_
    clear h h0 ih hr
    induction D with
    | nil => simp [sel]
    | cons x t iht =>
      rw [sel_cons, List.filter_cons]
      by_cases hx : x.p = k
      · rw [if_pos (by left; simpa using hx), if_neg (by simp [hx])]
        exact List.Perm.cons _ iht
      · rw [if_neg (by simp; omega), if_pos (by simp [hx])]
        simp only [List.map_cons]
        exact List.perm_middle.trans (List.Perm.cons _ iht)
theorem anyG_mem {D : List Tim} {g : Int} : anyG D g = true ↔ g ∈ (D.map (·.e)).map (·.g) := by
  unfold anyG
  rw [List.any_eq_true]
  simp only [List.map_map, List.mem_map, Function.comp]
  constructor
  · rintro ⟨x, hx, h⟩; exact ⟨x, hx, by simpa using h⟩
  · rintro ⟨x, hx, h⟩; exact ⟨x, hx, by simpa using h⟩
/-- The first of the row in order is the least. -/
theorem srt_min {M : List Ent} : (∀ x t, srt M = x :: t → IsMin M (some x)) ∧ (srt M = [] → IsMin M none) := by
  have hp := srt_perm M
  constructor
  · intro x t h
    refine ⟨hp.mem_iff.1 (by rw [h]; simp), fun y hy => ?_⟩
    have hs := srt_sorted M
    rw [h] at hs
    have hy' := hp.mem_iff.2 hy
    rw [h] at hy'
    rcases List.mem_cons.1 hy' with rfl | hy'
    · exact le_refl _
    · exact (List.pairwise_cons.1 hs).1 y hy'
  · intro h
    rw [h] at hp
    exact hp.symm.eq_nil

/-- Timers behind a pointer that hold the document's row. -/
def TmD (w : World) (base tb n : Nat) (D : List Tim) (order : Nat) (F : Nat → Prop) : Prop :=
  ∃ lb hb vs Hs G, IsT w base tb lb hb vs Hs order G ∧ vs.length = n ∧ (∀ (i : Nat) (es : List Ent), Hs[i]? = some es → es.Perm (sel (i : Int) D)) ∧ (∀ x ∈ D, 0 ≤ x.p ∧ x.p < n) ∧ ∀ k, F k → k < w.heap.size ∧ k ≠ tb ∧ k ≠ lb ∧ k ≠ hb ∧ ∀ v ∈ vs, v.ownBlock ≠ some k
section
variable {w : World} {base tb n : Nat} {D : List Tim} {order : Nat} {F : Nat → Prop}
theorem TmD.tms (T : TmD w base tb n D order F) : ∃ G, Tms w base tb n (D.map (·.e)) order G F := by
  obtain ⟨lb, hb, vs, Hs, G, h, e, p, r, f⟩ := T
  refine ⟨G, lb, hb, vs, Hs, h, e, flat_perm Hs 0 D (fun i es hi => by simpa using p i es hi) (fun x hx => ?_), f⟩
  have := r x hx
  have hl := h.len
  simp; omega
theorem TmD.grown {w' : World} (T : TmD w base tb n D order F) (hg : w.grownBy w' none) : TmD w' base tb n D order F := by
  obtain ⟨lb, hb, vs, Hs, G, h, e, p, r, f⟩ := T
  exact ⟨lb, hb, vs, Hs, G, h.grown hg, e, p, r, fun k hk => ⟨Nat.lt_of_lt_of_le (f k hk).1 hg.size, (f k hk).2⟩⟩
theorem TmD.foreign {w' : World} {F' : Nat → Prop} (T : TmD w base tb n D order F) (hg : w.grownBy w' none) (hF : ∀ k, F' k → F k ∨ w.heap.size ≤ k ∧ k < w'.heap.size) : TmD w' base tb n D order F' := by
  obtain ⟨lb, hb, vs, Hs, G, h, e, p, r, f⟩ := T
  refine ⟨lb, hb, vs, Hs, G, h.grown hg, e, p, r, fun k hk => ?_⟩
  rcases hF k hk with h1 | ⟨h1, h2⟩
  · exact ⟨Nat.lt_of_lt_of_le (f k h1).1 hg.size, (f k h1).2⟩
  · exact ⟨h2, by have := h.tlt; omega, by have := h.llt; omega, by have := h.map.lt; omega, fun v hv e => by have := (h.own hv e).1; omega⟩
/-- Foreign blocks may change. -/
theorem TmD.other {w' : World} {B : Nat} (T : TmD w base tb n D order F) (hB : F B) (h : ∀ k, k < w.heap.size → k ≠ B → w'.heap[k]? = w.heap[k]?) (hs : w.heap.size ≤ w'.heap.size) : TmD w' base tb n D order F := by
  obtain ⟨lb, hb, vs, Hs, G, h1, e, p, r, f⟩ := T
  obtain ⟨f0, f1, f2, f3, f4⟩ := f B hB
  exact ⟨lb, hb, vs, Hs, G, ⟨⟨(h tb h1.tlt (Ne.symm f1)).trans h1.tcells, (h lb h1.llt (Ne.symm f2)).trans h1.lcells, h1.len, h1.pos, h1.top, fun i v es e1 e2 => (h1.heaps i v es e1 e2).heap (h lb h1.llt (Ne.symm f2)) (fun g hg => h g (h1.own (List.mem_of_getElem? e1) hg).1 (fun e3 => f4 v (List.mem_of_getElem? e1) (by rw [hg, e3]))), h1.apart, h1.map.heap (h hb h1.map.lt (Ne.symm f3)), h1.low⟩, h1.heapish, h1.keys, h1.range, h1.ord⟩, e, p, r, fun k hk => ⟨Nat.lt_of_lt_of_le (f k hk).1 hs, (f k hk).2⟩⟩
theorem TmD.keptN {w' : World} (T : TmD w base tb n D order F) (hb : base ≤ w.heap.size) (hg : w.grownBy w' none) : Kept w w' base F := by
  obtain ⟨G, h⟩ := T.tms; exact kept_none h hb hg
theorem tmd_new (w : World) (base : Nat) (hb0 : base ≤ w.heap.size) (p : Int) (n : Nat) (hn : (n : Int) = if p < 1 then 1 else if 64 < p then 64 else p) :
    Calls Try.prog 8 #[.int .i64 p] w fun e w' => ∃ tb, e = .returned (.pointer (some ⟨tb, 0, none⟩)) ∧ TmD w' base tb n [] 0 (fun _ => False) ∧ w.grownBy w' none := by
  refine (new_is w base hb0 p n hn).mono ?_
  rintro e w' ⟨tb, lb, hb, rfl, h, hg, _⟩
  refine ⟨tb, rfl, ⟨lb, hb, _, _, _, h, by simp, fun i es hi => ?_, by simp, fun k hk => hk.elim⟩, hg⟩
  have : es = [] := by
    have := List.mem_of_getElem? hi
    exact (List.mem_replicate.1 this).2
  subst this; simp [sel]
theorem TmD.nodup (T : TmD w base tb n D order F) : ((D.map (·.e)).map (·.g)).Nodup := by
  obtain ⟨G, h⟩ := T.tms; exact h.keys.symm.nodup_iff.1 h.nodup
theorem tmd_len (T : TmD w base tb n D order F) {L : Int} (hL : (D.length : Int) = L) : Calls Try.prog 11 #[.pointer (some ⟨tb, 0, none⟩)] w fun e w' => e = .returned (.int .i64 L) ∧ w = w' := by
  obtain ⟨G, h⟩ := T.tms
  have : (G.length : Int) = L := by rw [← h.keys.length_eq, ← hL]; simp
  exact this ▸ tms_len h
theorem tmd_has (T : TmD w base tb n D order F) (g : Int) {r : Bool} (hr : anyG D g = r) : Calls Try.prog 13 #[.pointer (some ⟨tb, 0, none⟩), .int .i64 g] w fun e w' => e = .returned (.bool r) ∧ w.grownBy w' none := by
  obtain ⟨G, h⟩ := T.tms
  have : decide (g ∈ G) = r := by
    rw [← hr, Bool.eq_iff_iff, anyG_mem, decide_eq_true_eq, h.keys.mem_iff]
  exact this ▸ tms_has h g
theorem tmd_next_no (T : TmD w base tb n D order F) (hL : srt (sel (-1) D) = []) : Calls Try.prog 15 #[.pointer (some ⟨tb, 0, none⟩)] w fun e w' => e = .returned (.tuple #[.int .i64 0, .bool false]) ∧ w.grownBy w' none := by
  obtain ⟨G, h⟩ := T.tms
  rw [sel_all] at hL
  exact tms_next_no h (srt_min.2 hL)
theorem tmd_next_yes (T : TmD w base tb n D order F) {x : Ent} {t : List Ent} (hL : srt (sel (-1) D) = x :: t) : Calls Try.prog 15 #[.pointer (some ⟨tb, 0, none⟩)] w fun e w' => e = .returned (.tuple #[.int .i64 x.w, .bool true]) ∧ w.grownBy w' none := by
  obtain ⟨G, h⟩ := T.tms
  rw [sel_all] at hL
  exact tms_next_yes h (srt_min.1 x t hL)
theorem tmd_due (T : TmD w base tb n D order F) (now : Int) {r : Bool} (hr : (match srt (sel (-1) D) with | [] => false | x :: _ => decide (x.w ≤ now)) = r) : Calls Try.prog 12 #[.pointer (some ⟨tb, 0, none⟩), .int .i64 now] w fun e w' => e = .returned (.bool r) ∧ w.grownBy w' none := by
  obtain ⟨G, h⟩ := T.tms
  rw [sel_all] at hr
  cases hL : srt (D.map (·.e)) with
  | nil =>
    rw [hL] at hr
    exact hr ▸ tms_due h (srt_min.2 hL) now
  | cons x t =>
    rw [hL] at hr
    exact hr ▸ tms_due h (srt_min.1 x t hL) now
theorem tmd_of (T : TmD w base tb n D order F) (hbig : D.length ≤ 1000) (p : Nat) {L : List Ent} (hL : srt (sel (p : Int) D) = L) {m : Nat} (hm : L.length = m) :
    Calls Try.prog 14 #[.pointer (some ⟨tb, 0, none⟩), .int .i64 p] w fun e w' => ∃ a c, e = .returned (.slice a m c) ∧ ESees w' (.slice a m c) L ∧ w.grownBy w' none := by
  obtain ⟨lb, hb, vs, Hs, G, h, e, pm, r, f⟩ := T
  by_cases hp : p < n
  · obtain ⟨es, hes⟩ : ∃ es, Hs[p]? = some es := ⟨_, List.getElem?_eq_getElem (by have := h.len; omega)⟩
    have hpm := pm p es hes
    have hlen : es.length ≤ 1000 := by
      rw [hpm.length_eq]; unfold sel; rw [List.length_map]
      exact Nat.le_trans (List.length_filter_le _ _) hbig
    refine of_in h hes hlen ?_ hm
    rw [← hL]
    exact (srt_unique ((srt_perm es).trans hpm) (srt_sorted es))
  · have h0 : sel (p : Int) D = [] := by
      unfold sel
      rw [List.map_eq_nil_iff, List.filter_eq_nil_iff]
      intro x hx
      have := r x hx
      simp; omega
    rw [h0] at hL
    have hL' : L = [] := by rw [← hL]; simp [srt]
    subst hL'
    obtain rfl : m = 0 := hm.symm
    refine (of_out h p (by right; omega)).mono ?_
    rintro x w' ⟨rfl, rfl⟩
    exact ⟨_, _, rfl, esees_nil _, rfl, rfl, rfl, Nat.le_refl _, fun _ _ _ => rfl⟩
theorem tmd_of_neg (T : TmD w base tb n D order F) : Calls Try.prog 14 #[.pointer (some ⟨tb, 0, none⟩), .int .i64 (-1)] w fun e w' => e = .returned (.slice none 0 0) ∧ w = w' := by
  obtain ⟨lb, hb, vs, Hs, G, h, e, pm, r, f⟩ := T
  exact of_out h (-1) (.inl (by decide))
theorem tmd_copy (T : TmD w base tb n D order F) (hbig : D.length ≤ 1000) : Calls Try.prog 18 #[.pointer (some ⟨tb, 0, none⟩)] w fun e w' => ∃ tb', e = .returned (.pointer (some ⟨tb', 0, none⟩)) ∧ TmD w' w.heap.size tb' n D order (fun _ => False) ∧ w.grownBy w' none := by
  obtain ⟨lb, hb, vs, Hs, G, h, e, p, r, f⟩ := T
  refine (tcopy_is h (fun es hes => ?_)).mono ?_
  · obtain ⟨i, hi⟩ := List.getElem?_of_mem hes
    rw [(p i es hi).length_eq]; unfold sel; rw [List.length_map]
    exact Nat.le_trans (List.length_filter_le _ _) hbig
  · rintro x w' ⟨tb', lb', hb', vs', G', rfl, h', _, hl, hg⟩
    exact ⟨tb', rfl, ⟨lb', hb', vs', Hs, G', h', by rw [hl, e], p, r, fun k hk => hk.elim⟩, hg⟩
/-- Add, in one form. -/
theorem tmd_add (T : TmD w base tb n D order F) (hb : base ≤ w.heap.size) (p g when : Int) {e : Int} {D' : List Tim} {o' : Nat} (hr : addD n D order p g when = (e, D', o')) (ho : order < 4611686018427387904) :
    Calls Try.prog 9 #[.pointer (some ⟨tb, 0, none⟩), .int .i64 p, .int .i64 g, .int .i64 when] w fun x w' => x = .returned (.int .i64 e) ∧ TmD w' base tb n D' o' F ∧ Kept w w' base F := by
  have T0 := T
  obtain ⟨G0, hTms⟩ := T.tms
  unfold addD at hr
  by_cases hbad : p < 0 ∨ (n : Int) ≤ p ∨ g < 0 ∨ 4095 < g
  · rw [if_pos hbad] at hr; cases hr
    refine (tms_add_arg hTms p g when (by omega)).mono ?_
    rintro x w' ⟨rfl, rfl⟩
    exact ⟨rfl, T0, T0.keptN hb ⟨rfl, rfl, rfl, Nat.le_refl _, fun _ _ _ => rfl⟩⟩
  · rw [if_neg hbad] at hr
    have hmem : anyG D g = true ↔ g ∈ G0 := by rw [anyG_mem, hTms.keys.mem_iff]
    by_cases hq : anyG D g = true
    · rw [if_pos hq] at hr; cases hr
      refine (tms_add_same hTms p g when (by omega) (by omega) (hmem.1 hq)).mono ?_
      rintro x w' ⟨rfl, hg⟩
      exact ⟨rfl, T0.grown hg, T0.keptN hb hg⟩
    · rw [if_neg hq] at hr; cases hr
      obtain ⟨q, rfl⟩ : ∃ q : Nat, p = q := ⟨p.toNat, by omega⟩
      obtain ⟨lb, hb', vs, Hs, G, h, en, pm, r, f⟩ := T
      have hng : g ∉ G := by
        intro hg
        refine hq (anyG_mem.2 ?_)
        have h1 := flat_perm Hs 0 D (fun i es hi => by simpa using pm i es hi) (fun x hx => by have := r x hx; have hl := h.len; simp; omega)
        exact ((h1.map (·.g)).mem_iff.1 (h.keys.mem_iff.2 hg))
      refine (add_ok h hb q g when (by omega) (by omega) (by omega) hng ho).mono ?_
      rintro x w' ⟨v', es, es', rfl, hj, hp, h', fr⟩
      refine ⟨rfl, ⟨lb, hb', _, _, _, h', by simpa using en, fun i fs hi => ?_, fun x hx => ?_, fun k hk => ?_⟩, ⟨fr.below h.toIsTm (Nat.le_refl _) hb, fun k hk => fr.block k (f k hk).1 (f k hk).2.1 (f k hk).2.2.1 (f k hk).2.2.2.1 (f k hk).2.2.2.2⟩⟩
      · rw [sel_append, sel_cons]
        rw [List.getElem?_set] at hi
        by_cases hiq : q = i
        · subst hiq
          rw [if_pos rfl] at hi
          have hqH : q < Hs.length := (List.getElem?_eq_some_iff.1 hj).1
          rw [if_pos hqH] at hi
          cases hi
          rw [if_pos (.inl rfl)]
          have h3 := pm q es hj
          refine hp.trans ?_
          refine (List.Perm.cons _ h3).trans ?_
          exact (List.perm_append_singleton _ _).symm
        · rw [if_neg hiq] at hi
          rw [if_neg (by simp; omega)]
          simpa [sel] using pm i fs hi
      · rcases List.mem_append.1 hx with hx | hx
        · exact r x hx
        · simp at hx; subst hx; show (0 : Int) ≤ q ∧ (q : Int) < n; omega
      · obtain ⟨f0, f1, f2, f3, f4⟩ := f k hk
        exact ⟨Nat.lt_of_lt_of_le f0 fr.size, f1, f2, f3, fun v hv e2 => by
          rcases fr.own v hv k e2 with ⟨u, hu, hu2⟩ | h5
          · exact f4 u hu hu2
          · omega⟩
theorem sel_but (p : Int) (x : Ent) (D : List Tim) : sel p (but x D) = (sel p D).filter fun y => !decide (y = x) := by
  unfold sel but
  rw [List.filter_map, List.filter_filter, List.filter_filter]
  congr 1
  apply List.filter_congr
  intro y _
  simp [Bool.and_comm, Function.comp]
theorem filter_first {x : Ent} {t : List Ent} (hn : ((x :: t).map (·.g)).Nodup) : ((x :: t).filter fun y => !decide (y = x)) = t := by
  rw [List.filter_cons, if_neg (by simp), List.filter_eq_self]
  intro y hy
  have : y ≠ x := by
    rintro rfl
    simp only [List.map_cons, List.nodup_cons] at hn
    exact hn.1 (List.mem_map.2 ⟨y, hy, rfl⟩)
  simpa using this
/-- Take, in one form. -/
theorem tmd_take (T : TmD w base tb n D order F) (hb : base ≤ w.heap.size) (now : Int) {x : Ent} {ok : Bool} {D' : List Tim} (hr : takeD D now = (x, ok, D')) :
    Calls Try.prog 10 #[.pointer (some ⟨tb, 0, none⟩), .int .i64 now] w fun e w' => e = .returned (.tuple #[x.agg, .bool ok]) ∧ TmD w' base tb n D' order F ∧ Kept w w' base F := by
  have T0 := T
  obtain ⟨G0, hTms⟩ := T.tms
  unfold takeD at hr
  rw [sel_all] at hr
  cases hL : srt (D.map (·.e)) with
  | nil =>
    rw [hL] at hr; cases hr
    refine (tms_take_no hTms (srt_min.2 hL) now rfl).mono ?_
    rintro e w' ⟨rfl, hg⟩
    exact ⟨rfl, T0.grown hg, T0.keptN hb hg⟩
  | cons y t =>
    rw [hL] at hr
    have hmin := srt_min.1 y t hL
    by_cases hy : y.w ≤ now
    · simp only [if_pos hy] at hr; cases hr
      obtain ⟨lb, hb', vs, Hs, G, h, en, pm, r, f⟩ := T
      have hfp := flat_perm Hs 0 D (fun i es hi => by simpa using pm i es hi) (fun x hx => by have := r x hx; have hl := h.len; simp; omega)
      have hnd : ((D.map (·.e)).map (·.g)).Nodup := T0.nodup
      have huniq : ∀ a ∈ D, ∀ b ∈ D, a.e.g = b.e.g → a = b := by
        intro a ha b hb2 e
        rw [List.map_map] at hnd
        obtain ⟨i, hi⟩ := List.getElem?_of_mem ha
        obtain ⟨j, hj⟩ := List.getElem?_of_mem hb2
        have hil := (List.getElem?_eq_some_iff.1 hi).1
        have hjl := (List.getElem?_eq_some_iff.1 hj).1
        have : i = j := (List.getElem_inj hnd (i := i) (j := j) (h₀ := by simpa using hil) (h₁ := by simpa using hjl)).1 (by
          simp only [List.getElem_map, Function.comp]
          rw [(List.getElem?_eq_some_iff.1 hi).2, (List.getElem?_eq_some_iff.1 hj).2]; exact e)
        subst this
        rw [hi] at hj; exact Option.some.inj hj
      refine (ttake_yes h (hmin.perm hfp.symm) now hy).mono ?_
      rintro e w' ⟨j, t', es', v', rfl, hj, hp, h', fr⟩
      refine ⟨rfl, ⟨lb, hb', _, _, _, h', by simpa using en, fun i fs hi => ?_, fun x hx => r x (List.mem_filter.1 hx).1, fun k hk => ?_⟩, ⟨fr.below h.toIsTm (Nat.le_refl _) hb, fun k hk => fr.block k (f k hk).1 (f k hk).2.1 (f k hk).2.2.1 (f k hk).2.2.2.1 (f k hk).2.2.2.2⟩⟩
      · rw [sel_but]
        rw [List.getElem?_set] at hi
        have hjp := pm j _ hj
        have hsub : ∀ q : Int, ((sel q D).map (·.g)).Nodup := fun q => by
          unfold sel
          exact ((List.filter_sublist.map _).map _).nodup hnd
        by_cases hij : j = i
        · subst hij
          rw [if_pos rfl] at hi
          have hjH : j < Hs.length := (List.getElem?_eq_some_iff.1 hj).1
          rw [if_pos hjH] at hi
          cases hi
          have h2 := hjp.filter fun z => !decide (z = x)
          rw [filter_first ((hjp.map (·.g)).symm.nodup_iff.1 (hsub j))] at h2
          exact hp.trans h2
        · rw [if_neg hij] at hi
          have h3 := pm i fs hi
          refine h3.trans (List.Perm.of_eq ?_)
          symm
          rw [List.filter_eq_self]
          intro z hz
          have hne : z ≠ x := by
            rintro rfl
            have hxj : z ∈ sel (j : Int) D := hjp.mem_iff.1 (by simp)
            unfold sel at hz hxj
            obtain ⟨a, ha, hae⟩ := List.mem_map.1 hz
            obtain ⟨b, hb2, hbe⟩ := List.mem_map.1 hxj
            obtain ⟨ha1, ha2⟩ := List.mem_filter.1 ha
            obtain ⟨hb3, hb4⟩ := List.mem_filter.1 hb2
            have := huniq a ha1 b hb3 (by rw [hae, hbe])
            subst this
            simp at ha2 hb4
            omega
          simpa using hne
      · obtain ⟨f0, f1, f2, f3, f4⟩ := f k hk
        exact ⟨Nat.lt_of_lt_of_le f0 fr.size, f1, f2, f3, fun v hv e2 => by
          rcases fr.own v hv k e2 with ⟨u, hu, hu2⟩ | h5
          · exact f4 u hu hu2
          · omega⟩
    · simp only [if_neg hy] at hr; cases hr
      refine (tms_take_no hTms hmin now (by simpa [dueB] using hy)).mono ?_
      rintro e w' ⟨rfl, hg⟩
      exact ⟨rfl, T0.grown hg, T0.keptN hb hg⟩
end
end Go.Proofs.Ytmaahidipbghfaa.Tm
