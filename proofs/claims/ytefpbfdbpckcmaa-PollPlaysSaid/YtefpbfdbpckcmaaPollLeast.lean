/-
  The poll laws' example.
-/
import Derived.Test.YtefpbfdbpckcmaaPollLaw
namespace Go.Proofs.Ytefpbfdbpckcmaa.Pl
open Go.RowKit
set_option linter.unusedVariables false
set_option linter.unusedSimpArgs false

theorem least_list (p : Int → Bool) : ∀ l : List Int, (∀ x ∈ l, p x = false) ∨ ∃ x ∈ l, p x = true ∧ ∀ y ∈ l, p y = true → x ≤ y
  | [] => .inl (by simp)
  | a :: l => by
    rcases least_list p l with h | ⟨x, hx, hp, hm⟩
    · cases ha : p a with
      | false => exact .inl (fun x hx => by rcases List.mem_cons.1 hx with rfl | hx; exact ha; exact h x hx)
      | true => exact .inr ⟨a, by simp, ha, fun y hy hpy => by
          rcases List.mem_cons.1 hy with rfl | hy
          · exact Int.le_refl _
          · rw [h y hy] at hpy; cases hpy⟩
    · cases ha : p a with
      | false => exact .inr ⟨x, List.mem_cons_of_mem _ hx, hp, fun y hy hpy => by
          rcases List.mem_cons.1 hy with rfl | hy
          · rw [ha] at hpy; cases hpy
          · exact hm y hy hpy⟩
      | true =>
        by_cases hax : a ≤ x
        · exact .inr ⟨a, by simp, ha, fun y hy hpy => by
            rcases List.mem_cons.1 hy with rfl | hy
            · exact Int.le_refl _
            · exact Int.le_trans hax (hm y hy hpy)⟩
        · exact .inr ⟨x, List.mem_cons_of_mem _ hx, hp, fun y hy hpy => by
            rcases List.mem_cons.1 hy with rfl | hy
            · omega
            · exact hm y hy hpy⟩
theorem least_ex (F : List (Int × St)) : ∃ m, Least F m := by
  rcases least_list (fun fd => (stOf F fd).waits && (stOf F fd).ready) (F.map (·.1)) with h | ⟨x, hx, hp, hm⟩
  · exact ⟨none, fun fd s hs => by have := h fd (look_key hs); rwa [stOf_some hs] at this⟩
  · obtain ⟨s, hs⟩ := key_look hx
    rw [stOf_some hs] at hp
    have hp2 : s.waits = true ∧ s.ready = true := by simpa using hp
    exact ⟨some (x, s.g), s, hs, hp2.1, hp2.2, rfl, fun fd' s' hs' hd' => hm fd' (look_key hs') (by simp only [stOf_some hs']; exact hd')⟩
end Go.Proofs.Ytefpbfdbpckcmaa.Pl
