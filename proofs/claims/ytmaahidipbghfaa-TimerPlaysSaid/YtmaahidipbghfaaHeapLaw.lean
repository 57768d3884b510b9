/-
  The plain law of a heap: entries by places, up and down.
-/
import Derived.Test.YtmaahidipbghfaaHeapTake
namespace Go.Proofs.Ytmaahidipbghfaa.Hp
set_option linter.unusedVariables false

/-- One does not stand behind another one. -/
def le (a b : Ent) : Prop := aheadB b a = false
theorem le_iff (a b : Ent) : le a b ↔ a.w < b.w ∨ a.w = b.w ∧ (a.o < b.o ∨ a.o = b.o ∧ a.g ≤ b.g) := by
  unfold le aheadB; rw [decide_eq_false_iff_not]; omega
theorem le_refl (a : Ent) : le a a := by rw [le_iff]; omega
theorem le_trans {a b c : Ent} (h : le a b) (k : le b c) : le a c := by rw [le_iff] at *; omega
theorem le_of_ahead {a b : Ent} (h : aheadB a b = true) : le a b := by rw [le_iff]; unfold aheadB at h; rw [decide_eq_true_eq] at h; omega
theorem le_anti {a b : Ent} (h : le a b) (k : le b a) : a = b := by
  rw [le_iff] at h k
  cases a; cases b; simp at *; omega
theorem le_total (a b : Ent) : le a b ∨ le b a := by rw [le_iff, le_iff]; omega

theorem swp_get {es : List Ent} {i j : Nat} (hi : i < es.length) (hj : j < es.length) (k : Nat) : (swp es i j)[k]! = if k = j then es[i]! else if k = i then es[j]! else es[k]! := by
  unfold swp
  simp only [List.getElem!_eq_getElem?_getD]
  by_cases h1 : k = j
  · subst h1
    rw [List.getElem?_set_self (by simpa using hj), if_pos rfl]; rfl
  · rw [List.getElem?_set_ne (Ne.symm h1), if_neg h1]
    by_cases h2 : k = i
    · subst h2
      rw [List.getElem?_set_self hi, if_pos rfl]; rfl
    · rw [List.getElem?_set_ne (Ne.symm h2), if_neg h2]

theorem perm_set {α : Type} [DecidableEq α] (l : List α) (i : Nat) (h : i < l.length) (x : α) : (l[i] :: l.set i x).Perm (x :: l) := by
  induction l generalizing i with
  | nil => simp at h
  | cons y t ih =>
    cases i with
    | zero => exact List.Perm.swap _ _ _
    | succ i =>
      simp at h
      simp only [List.getElem_cons_succ, List.set_cons_succ]
      refine (List.Perm.swap _ _ _).trans (((ih i h).cons y).trans (List.Perm.swap _ _ _))
theorem swp_perm {es : List Ent} {i j : Nat} (hi : i < es.length) (hj : j < es.length) : (swp es i j).Perm es := by
  unfold swp
  have h1 := perm_set es i hi es[j]!
  have h2 := perm_set (es.set i es[j]!) j (by simpa using hj) es[i]!
  have e1 : es[i]! = es[i] := by simp [hi]
  have e2 : es[j]! = es[j] := by simp [hj]
  by_cases hij : i = j
  · subst hij
    rw [e1]
    simp
  · have e3 : (es.set i es[j]!)[j]'(by simpa using hj) = es[j] := by rw [List.getElem_set_ne hij]
    rw [e3] at h2
    rw [e1] at h2 ⊢
    rw [e2] at h1 h2 ⊢
    have h3 := h2.trans h1
    exact (List.perm_cons _).1 h3

/-- None under a place stands ahead of the one at it. -/
def Heapish (es : List Ent) : Prop := ∀ j, 0 < j → j < es.length → le es[(j - 1) / 4]! es[j]!

theorem upL_law (i : Nat) : ∀ (es : List Ent), i < es.length → (∀ j, 0 < j → j < es.length → j ≠ i → le es[(j - 1) / 4]! es[j]!) → (∀ j, 0 < j → j < es.length → (j - 1) / 4 = i → 0 < i → le es[(i - 1) / 4]! es[j]!) →
    (upL es i).Perm es ∧ Heapish (upL es i) := by
  induction i using Nat.strongRecOn with
  | _ i ih =>
    intro es hi h1 h2
    by_cases h0 : 0 < i
    · by_cases ha : aheadB es[i]! es[(i - 1) / 4]! = true
      · rw [upL_step h0 rfl ha]
        have hp : (i - 1) / 4 < es.length := by omega
        have hpi : (i - 1) / 4 < i := by omega
        obtain ⟨p, hpe⟩ : ∃ p, p = (i - 1) / 4 := ⟨_, rfl⟩
        rw [← hpe] at ha hp hpi ⊢
        have hlt := le_of_ahead ha
        have hA : ∀ j, 0 < j → j < (swp es i p).length → j ≠ p → le (swp es i p)[(j - 1) / 4]! (swp es i p)[j]! := fun j hj hjn hjp => by
          rw [swp_len] at hjn
          rw [swp_get hi hp, swp_get hi hp]
          by_cases hji : j = i
          · subst hji
            rw [← hpe]
            simpa [Nat.ne_of_gt hpi] using hlt
          · rw [if_neg hjp, if_neg hji]
            by_cases hq : (j - 1) / 4 = p
            · rw [if_pos hq]
              exact le_trans hlt (by have := h1 j hj hjn hji; rwa [hq] at this)
            · rw [if_neg hq]
              by_cases hqi : (j - 1) / 4 = i
              · rw [if_pos hqi, hpe]; exact h2 j hj hjn hqi h0
              · rw [if_neg hqi]; exact h1 j hj hjn hji
        have hB : ∀ j, 0 < j → j < (swp es i p).length → (j - 1) / 4 = p → 0 < p → le (swp es i p)[(p - 1) / 4]! (swp es i p)[j]! := fun j hj hjn hjq hp0 => by
          rw [swp_len] at hjn
          rw [swp_get hi hp, swp_get hi hp]
          have hpp : le es[(p - 1) / 4]! es[p]! := h1 p hp0 hp (by omega)
          rw [if_neg (show (p - 1) / 4 ≠ p by omega), if_neg (show (p - 1) / 4 ≠ i by omega), if_neg (show j ≠ p by omega)]
          by_cases hji : j = i
          · rw [if_pos hji]; exact hpp
          · rw [if_neg hji]
            exact le_trans hpp (by have := h1 j hj hjn hji; rwa [hjq] at this)
        obtain ⟨r1, r2⟩ := ih p hpi (swp es i p) (by rw [swp_len]; exact hp) hA hB
        exact ⟨r1.trans (swp_perm hi hp), r2⟩
      · have ha' : aheadB es[i]! es[(i - 1) / 4]! = false := by simpa using ha
        rw [upL_stop (fun _ => ha')]
        refine ⟨List.Perm.refl _, fun j hj hjn => ?_⟩
        by_cases hji : j = i
        · subst hji; exact ha'
        · exact h1 j hj hjn hji
    · rw [upL_stop (fun h => absurd h h0)]
      refine ⟨List.Perm.refl _, fun j hj hjn => h1 j hj hjn (by omega)⟩

theorem get_app {es : List Ent} {e : Ent} {j : Nat} (h : j < es.length) : (es ++ [e])[j]! = es[j]! := by
  simp [h, List.getElem?_append_left]

/-- Put: one more, and a heap. -/
theorem put_law {es : List Ent} (h : Heapish es) (e : Ent) : (upL (es ++ [e]) es.length).Perm (e :: es) ∧ Heapish (upL (es ++ [e]) es.length) := by
  have hA : ∀ j, 0 < j → j < (es ++ [e]).length → j ≠ es.length → le (es ++ [e])[(j - 1) / 4]! (es ++ [e])[j]! := fun j hj hjn hne => by
    simp at hjn
    rw [get_app (by omega), get_app (by omega)]
    exact h j hj (by omega)
  have hB : ∀ j, 0 < j → j < (es ++ [e]).length → (j - 1) / 4 = es.length → 0 < es.length → le (es ++ [e])[(es.length - 1) / 4]! (es ++ [e])[j]! := fun j hj hjn hq h0 => by
    simp at hjn; omega
  obtain ⟨r1, r2⟩ := upL_law es.length (es ++ [e]) (by simp) hA hB
  exact ⟨r1.trans (List.perm_append_singleton e es), r2⟩

theorem leastFrom_law (es : List Ent) (d : Nat) : ∀ k stop best, stop - k = d → (leastFrom es k stop best = best ∨ k ≤ leastFrom es k stop best ∧ leastFrom es k stop best < stop) ∧ le es[leastFrom es k stop best]! es[best]! ∧ ∀ j, k ≤ j → j < stop → le es[leastFrom es k stop best]! es[j]! := by
  induction d with
  | zero =>
    intro k stop best hd
    rw [leastFrom_stop (by omega)]
    exact ⟨.inl rfl, le_refl _, fun j h1 h2 => by omega⟩
  | succ d ih =>
    intro k stop best hd
    rw [leastFrom_step (by omega)]
    split
    · rename_i ha
      obtain ⟨a, b, c⟩ := ih (k + 1) stop k (by omega)
      refine ⟨.inr ?_, le_trans b (le_of_ahead ha), fun j h1 h2 => ?_⟩
      · rcases a with a | a <;> omega
      · by_cases hj : j = k
        · subst hj; exact b
        · exact c j (by omega) h2
    · rename_i ha
      have ha' : le es[best]! es[k]! := by unfold le; simpa using ha
      obtain ⟨a, b, c⟩ := ih (k + 1) stop best (by omega)
      refine ⟨?_, b, fun j h1 h2 => ?_⟩
      · rcases a with a | a
        · exact .inl a
        · exact .inr (by omega)
      · by_cases hj : j = k
        · subst hj; exact le_trans b ha'
        · exact c j (by omega) h2

theorem leastL_law {es : List Ent} {i : Nat} (h : 4 * i + 1 < es.length) : (leastL es i - 1) / 4 = i ∧ 0 < leastL es i ∧ leastL es i < es.length ∧ ∀ j, 0 < j → j < es.length → (j - 1) / 4 = i → le es[leastL es i]! es[j]! := by
  have hin := leastL_in h
  obtain ⟨a, b, c⟩ := leastFrom_law es _ (4 * i + 1) (min (4 * i + 5) es.length) (4 * i + 1) rfl
  have hr : leastL es i < 4 * i + 5 := by
    rcases a with a | a
    · unfold leastL; omega
    · unfold leastL; omega
  refine ⟨by omega, by omega, hin.2, fun j hj hjn hq => c j (by omega) (by omega)⟩

theorem downL_law (d : Nat) : ∀ (es : List Ent) (i : Nat), es.length - i = d → (∀ j, 0 < j → j < es.length → (j - 1) / 4 ≠ i → le es[(j - 1) / 4]! es[j]!) → (∀ j, 0 < j → j < es.length → (j - 1) / 4 = i → 0 < i → le es[(i - 1) / 4]! es[j]!) →
    (downL es i).Perm es ∧ Heapish (downL es i) := by
  induction d using Nat.strongRecOn with
  | _ d ih =>
    intro es i hd h1 h2
    by_cases hc : 4 * i + 1 < es.length
    · obtain ⟨k1, k2, k3, k4⟩ := leastL_law hc
      obtain ⟨k, hk⟩ : ∃ k, k = leastL es i := ⟨_, rfl⟩
      by_cases ha : aheadB es[leastL es i]! es[i]! = true
      · rw [downL_step hc ha]
        rw [← hk] at k1 k2 k3 k4 ha ⊢
        have hi : i < es.length := by omega
        have hlt := le_of_ahead ha
        have hA : ∀ j, 0 < j → j < (swp es i k).length → (j - 1) / 4 ≠ k → le (swp es i k)[(j - 1) / 4]! (swp es i k)[j]! := fun j hj hjn hq => by
          rw [swp_len] at hjn
          rw [swp_get hi k3, swp_get hi k3, if_neg hq]
          by_cases hqi : (j - 1) / 4 = i
          · rw [if_pos hqi]
            by_cases hjk : j = k
            · rw [if_pos hjk]; exact hlt
            · rw [if_neg hjk, if_neg (by omega)]; exact k4 j hj hjn hqi
          · rw [if_neg hqi, if_neg (show j ≠ k by rintro rfl; exact hqi k1)]
            by_cases hji : j = i
            · rw [if_pos hji]
              subst hji
              exact h2 k k2 k3 k1 hj
            · rw [if_neg hji]; exact h1 j hj hjn hqi
        have hB : ∀ j, 0 < j → j < (swp es i k).length → (j - 1) / 4 = k → 0 < k → le (swp es i k)[(k - 1) / 4]! (swp es i k)[j]! := fun j hj hjn hq h0 => by
          rw [swp_len] at hjn
          rw [swp_get hi k3, swp_get hi k3, if_neg (show (k - 1) / 4 ≠ k by omega), if_pos k1, if_neg (show j ≠ k by omega), if_neg (show j ≠ i by omega)]
          have := h1 j hj hjn (by omega)
          rwa [hq] at this
        obtain ⟨r1, r2⟩ := ih (es.length - k) (by omega) (swp es i k) k (by rw [swp_len]) hA hB
        exact ⟨r1.trans (swp_perm hi k3), r2⟩
      · have ha' : aheadB es[leastL es i]! es[i]! = false := by simpa using ha
        rw [downL_stop (fun _ => ha')]
        refine ⟨List.Perm.refl _, fun j hj hjn => ?_⟩
        by_cases hq : (j - 1) / 4 = i
        · rw [hq]; exact le_trans ha' (k4 j hj hjn hq)
        · exact h1 j hj hjn hq
    · rw [downL_stop (fun h => absurd h hc)]
      refine ⟨List.Perm.refl _, fun j hj hjn => h1 j hj hjn (by omega)⟩

/-- Take: the first one is out of it, and a heap is left. -/
theorem take_law {e : Ent} {es : List Ent} (h : Heapish (e :: es)) : (e :: takeL (e :: es)).Perm (e :: es) ∧ Heapish (takeL (e :: es)) := by
  have hn : (e :: es).length - 1 = es.length := by simp
  have hl : (((e :: es).set 0 (e :: es)[es.length]!).take es.length).length = es.length := by simp
  have hget : ∀ j, 0 < j → j < es.length → (((e :: es).set 0 (e :: es)[es.length]!).take es.length)[j]! = (e :: es)[j]! := fun j hj hjn => by
    simp only [List.getElem!_eq_getElem?_getD]
    rw [List.getElem?_take_of_lt hjn, List.getElem?_set_ne (by omega)]
  unfold takeL
  rw [hn]
  have hA : ∀ j, 0 < j → j < (((e :: es).set 0 (e :: es)[es.length]!).take es.length).length → (j - 1) / 4 ≠ 0 → le (((e :: es).set 0 (e :: es)[es.length]!).take es.length)[(j - 1) / 4]! (((e :: es).set 0 (e :: es)[es.length]!).take es.length)[j]! := fun j hj hjn hq => by
    rw [hl] at hjn
    rw [hget j hj hjn, hget ((j - 1) / 4) (by omega) (by omega)]
    exact h j hj (by simp; omega)
  obtain ⟨r1, r2⟩ := downL_law _ (((e :: es).set 0 (e :: es)[es.length]!).take es.length) 0 rfl hA (fun j hj hjn hq h0 => absurd h0 (by omega))
  refine ⟨?_, r2⟩
  refine (r1.cons e).trans ?_
  cases hes : es with
  | nil => simp
  | cons x t =>
    have hlast : (e :: x :: t)[(x :: t).length]! = (x :: t).getLast (by simp) := by
      simp [List.getLast_eq_getElem]
    rw [hlast]
    simp only [List.set_cons_zero, List.length_cons, List.take_succ_cons]
    have hd : (x :: t).take t.length = (x :: t).dropLast := by simp [List.dropLast_eq_take]
    rw [hd]
    refine List.Perm.cons e ?_
    have := List.dropLast_concat_getLast (show x :: t ≠ [] by simp)
    conv => rhs; rw [← this]
    exact (List.perm_append_singleton _ _).symm

/-- The first one is the least. -/
theorem head_least {e : Ent} {es : List Ent} (h : Heapish (e :: es)) : ∀ x ∈ e :: es, le e x := by
  have key : ∀ j, j < (e :: es).length → le e (e :: es)[j]! := by
    intro j
    induction j using Nat.strongRecOn with
    | _ j ih =>
      intro hj
      by_cases h0 : j = 0
      · subst h0; simpa using le_refl e
      · exact le_trans (ih ((j - 1) / 4) (by omega) (by omega)) (h j (by omega) hj)
  intro x hx
  obtain ⟨j, hj, rfl⟩ := List.getElem_of_mem hx
  have := key j hj
  rwa [getElem!_pos (e :: es) j hj] at this
theorem heapish_nil : Heapish [] := fun j _ h => by simp at h
end Go.Proofs.Ytmaahidipbghfaa.Hp
