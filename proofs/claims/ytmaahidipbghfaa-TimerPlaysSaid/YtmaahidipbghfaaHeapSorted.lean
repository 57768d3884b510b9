/-
  Package heap: Sorted.
-/
import Derived.Test.YtmaahidipbghfaaHeapApp
import Derived.Test.YtmaahidipbghfaaHeapLaw
import Derived.Test.YtmaahidipbghfaaHeapShelf
namespace Go.Proofs.Ytmaahidipbghfaa.Hp
open Go.RowKit Go.Shelf
set_option linter.unusedVariables false

/-- The value is a slice that reads as the entries. -/
def ESees (w : World) (v : Value) (es : List Ent) : Prop :=
  ∃ a cap, v = .slice a es.length cap ∧ es.length ≤ cap ∧ cap ≤ maxLen ∧ ∀ i e, es[i]? = some e → ∃ g, a = some ⟨g, 0, none⟩ ∧ w.cell? ⟨g, i * 3, none⟩ = some (.int .i64 e.w) ∧ w.cell? ⟨g, i * 3 + 1, none⟩ = some (.int .u64 e.o) ∧ w.cell? ⟨g, i * 3 + 2, none⟩ = some (.int .i64 e.g)
theorem ESees.below {w w' : World} {v : Value} {es : List Ent} (h : ESees w v es) (hb : Below w.heap.size w w') : ESees w' v es := by
  obtain ⟨a, cap, hv, h1, h2, hc⟩ := h
  refine ⟨a, cap, hv, h1, h2, fun i e hi => ?_⟩
  obtain ⟨g, ha, c0, c1, c2⟩ := hc i e hi
  exact ⟨g, ha, cell_later hb c0, cell_later hb c1, cell_later hb c2⟩
theorem Row3.esees {w : World} {g cap : Nat} {es : List Ent} (r : Row3 w g cap es) : ESees w (.slice (some ⟨g, 0, none⟩) es.length cap) es :=
  ⟨_, cap, rfl, r.le, r.max, fun i e hi => ⟨g, rfl, r.cells hi⟩⟩
theorem esees_nil (w : World) : ESees w (.slice none 0 0) [] := ⟨none, 0, rfl, by simp, by simp [maxLen], fun i e h => by simp at h⟩

def ltE : Ent → Ent → Bool := ltOf ordI
theorem ltE_is (a b : Ent) : ltE a b = aheadB a b := ordI_lt a b
theorem swoE : Go.Sort.SWO (ltOf ordI) where
  irrefl x := by
    show ltE x x = false
    rw [ltE_is]; exact le_refl x
  trans x y z h1 h2 := by
    change ltE x y = true at h1; change ltE y z = true at h2; show ltE x z = true
    rw [ltE_is] at *; unfold aheadB at *; rw [decide_eq_true_eq] at *; omega
  ntrans x y z h1 h2 := by
    change ltE x y = false at h1; change ltE y z = false at h2; show ltE x z = false
    rw [ltE_is] at *
    exact le_trans h2 h1
theorem totE : ∀ x y : Ent, ltOf ordI x y = false → ltOf ordI y x = false → x = y := by
  intro x y h1 h2
  change ltE x y = false at h1; change ltE y x = false at h2
  rw [ltE_is] at *
  exact le_anti h2 h1
/-- The entries in order. -/
def srt (es : List Ent) : List Ent := es.mergeSort fun x y => !(ltOf ordI) y x
theorem srt_perm (es : List Ent) : (srt es).Perm es := List.mergeSort_perm _ _
theorem srt_len (es : List Ent) : (srt es).length = es.length := (srt_perm es).length_eq
theorem srt_sorted (es : List Ent) : (srt es).Pairwise le := by
  have h := List.pairwise_mergeSort (le := fun x y : Ent => !(ltOf ordI) y x) (fun a b c h1 h2 => by
    have e1 : ltE b a = false := by simpa [ltE] using h1
    have e2 : ltE c b = false := by simpa [ltE] using h2
    have : ltE c a = false := by rw [ltE_is] at *; exact le_trans e1 e2
    simpa [ltE] using this) (fun a b => by
    rcases le_total a b with h | h
    · have : ltE b a = false := by rw [ltE_is]; exact h
      simp [show ltOf ordI b a = false from this]
    · have : ltE a b = false := by rw [ltE_is]; exact h
      simp [show ltOf ordI a b = false from this]) es
  refine List.Pairwise.imp ?_ h
  intro a b hab
  have : ltE b a = false := by simpa [ltE] using hab
  rw [ltE_is] at this; exact this
theorem srt_unique {es fs : List Ent} (hp : fs.Perm es) (hs : fs.Pairwise le) : fs = srt es :=
  List.Perm.eq_of_pairwise (le := le) (fun a b _ _ h1 h2 => le_anti h1 h2) hs (srt_sorted es) (hp.trans (srt_perm es).symm)

open Go.Sort in
theorem holds_ent {w : World} {base g cap : Nat} {es : List Ent} (h : w.ownsRow base 30 3 (.slice (some ⟨g, 0, none⟩) es.length cap) es.length (flat es)) : HoldsK Ent.vals 3 w g 0 es.toArray := by
  intro j hj
  rw [size_flatK] at hj
  have hj' : j < es.length * 3 := by simpa using hj
  have hd : j / 3 < es.length := by omega
  have e : (flatK Ent.vals 3 es.toArray)[j]! = (Ent.vals es[j / 3])[j % 3]! := by
    rw [get_flatK _ _ _ _ (by simpa using hj')]
    congr 2
    simp [hd]
  rw [e, Nat.zero_add]
  refine ⟨?_, World.ownsRow.frozenAt h j⟩
  rw [World.ownsRow.cellAt h j (by simpa using hj')]
  obtain ⟨f0, f1, f2⟩ := flat_get (List.getElem?_eq_getElem hd)
  clear e
  generalize es[j / 3] = x at *
  rcases (show j % 3 = 0 ∨ j % 3 = 1 ∨ j % 3 = 2 by omega) with hm | hm | hm
  · exact (congrArg (fun t => (flat es)[t]?) (show j = j / 3 * 3 by omega)).trans (f0.trans (by rw [hm]; rfl))
  · exact (congrArg (fun t => (flat es)[t]?) (show j = j / 3 * 3 + 1 by omega)).trans (f1.trans (by rw [hm]; rfl))
  · exact (congrArg (fun t => (flat es)[t]?) (show j = j / 3 * 3 + 2 by omega)).trans (f2.trans (by rw [hm]; rfl))

open Go.Sort in
theorem sort_below (w : World) (base g n : Nat) (d : Array Ent) (os : Array Obj) (h : base ≤ g) (hg : g < w.heap.size) : Below base w (sortWorldK Ent.vals 3 w g 0 n d os) := by
  unfold sortWorldK putRowK putRow mapBlock Go.Sort.ahead grow
  refine ⟨rfl, rfl, rfl, by simp, fun k hk => ?_⟩
  simp only [Array.getElem?_append, Array.size_modify, Array.getElem?_modify]
  rw [if_pos (by omega), if_neg (by omega)]

set_option maxHeartbeats 1000000 in
theorem sortf_is {w : World} {base : Nat} {v : Value} {es : List Ent} (h : w.ownsRow base 30 3 v es.length (flat es)) (hbig : es.length ≤ 1000) :
    Calls Try.prog 40 #[v, .func (.func 35) #[] #[]] w fun e w' => e = .returned (.tuple #[]) ∧ ESees w' v (srt es) ∧ Below base w w' := by
  cases hes : es with
  | nil =>
    obtain ⟨a, cap, rfl, hc⟩ : ∃ a cap, v = .slice a 0 cap ∧ cap ≤ maxLen := by
      rcases h.2 with ⟨rfl, _⟩ | ⟨g, cap, cur, rfl, _, _, _, hm, _⟩
      · exact ⟨none, 0, rfl, by simp [maxLen]⟩
      · exact ⟨_, cap, by rw [hes]; rfl, hm⟩
    have hcon := AnyF.slices_SortFunc_none (P := Try.prog) { sortE with } a cap (.func (.func 35) #[] #[]) w
    refine Calls.mono hcon ?_
    rintro e w' ⟨rfl, rfl⟩
    exact ⟨rfl, ⟨a, cap, by simp [srt], by simp [srt], hc, fun i e hi => by simp [srt] at hi⟩, Below.refl _ _⟩
  | cons x t =>
    obtain ⟨g, cap, cur, hv, hb, hg, hle, hmx, _⟩ : ∃ g cap cur, v = .slice (some ⟨g, 0, none⟩) es.length cap ∧ base ≤ g ∧ w.heap[g]? = some (.cells cur 30 (0, 0)) ∧ es.length ≤ cap ∧ cap ≤ maxLen ∧ True := by
      rcases h.2 with ⟨rfl, h0⟩ | ⟨g, cap, cur, rfl, h1, h2, h3, h4, _⟩
      · rw [hes] at h0; simp at h0
      · exact ⟨g, cap, cur, rfl, h1, h2, h3, h4, trivial⟩
    subst hv
    rw [← hes]
    have hlt := (Array.getElem?_eq_some_iff.1 hg).1
    have hH := holds_ent h
    have eg : ∀ args w, (callFunc 35 args).run Try.prog w = .ok (.enter 35 args) w := enters_of Try.func35 (by kernel_rfl) rfl
    have hcmp : CmpLays Try.prog 35 #[] Ent.vals 3 ordI g 0 es.toArray.size w := fun _ _ _ _ x y => (order_grown x y _).mono fun e w' ⟨he, hw⟩ => ⟨he, hw⟩
    have hcon := AnyQ.slices_SortFunc_total (P := Try.prog) sortE 3 Try.isAgg30 Try.sizeOf30 Ent.vals (fun _ => rfl) (fun x v hv => by simp [Ent.vals] at hv; rcases hv with rfl | rfl | rfl <;> rfl) ordI swoE 35 #[] g 0 cap es.toArray w eg hcmp hH hlt (by simp; omega) totE
    have hsz : es.toArray.size = es.length := by simp
    rw [hsz] at hcon
    refine Calls.mono hcon ?_
    rintro e w' ⟨rfl, n, os, rfl⟩
    have hH2 := holdsK_sortWorldK_c Ent.vals 3 w g 0 es.toArray (srt es).toArray n os hH hlt (by simp [srt_len])
    refine ⟨rfl, ⟨_, cap, by rw [srt_len], by rw [srt_len]; exact hle, hmx, fun i e hi => ⟨g, rfl, ?_⟩⟩, sort_below w base g n _ os hb hlt⟩
    have hi' := (List.getElem?_eq_some_iff.1 hi).1
    have he : (srt es).toArray[i]! = e := by
      have := (List.getElem?_eq_some_iff.1 hi).2
      simp [hi', this]
    have h0 := (hH2.cell (i := i) (c := 0) (by simpa using hi') (by omega)).1
    have h1 := (hH2.cell (i := i) (c := 1) (by simpa using hi') (by omega)).1
    have h2 := (hH2.cell (i := i) (c := 2) (by simpa using hi') (by omega)).1
    rw [he] at h0 h1 h2
    simp only [Nat.zero_add, Nat.add_zero] at h0 h1 h2
    exact ⟨h0, h1, h2⟩
end Go.Proofs.Ytmaahidipbghfaa.Hp
