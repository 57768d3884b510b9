/-
  hostlerref06: Ready.
-/
import Derived.Test.YtkcoidapnmoljaaRefPut
namespace Go.Proofs.Ytkcoidapnmoljaa.Rng
open Go.RowKit
open Go.Proofs.Ytkcoidapnmoljaa.Ints
set_option linter.unusedVariables false

theorem below_two (w : World) (A B : Obj) : Below w.heap.size w ((w.alloc A).alloc B) := ((Below.refl w.heap.size w).alloc (Nat.le_refl _) A).alloc (by simp) B

set_option maxRecDepth 100000 in
set_option maxHeartbeats 1000000 in
theorem rready_none {w : World} {s : Value} {row : List Int} {lo : Nat} (nx st : Int) (hs : Ref w lo s row) (hlo : lo ≤ w.heap.size) (g : Int) :
    Calls Try.prog 30 #[RV s false nx st, .int .i64 g] w fun e w' => e = .returned (.tuple #[RV s true g st, .slice none 0 0]) ∧ Ref w' lo s row ∧ Below w.heap.size w w' := by
  have HS := Lib.hid hs
  obtain ⟨a, cap, rfl, _, _, _⟩ := hs
  unfold RV
  go_enter Try.func30, Try.ntmps30
  go_wp2_with fail
  exact bodyPost_ret (results_rv rfl _ _ (w.heap.size + 1) (.slice a row.length cap) (.bool true) (.int .i64 g) (.int .i64 st) (.slice none 0 0) (heap_alloc2_new _ _ _) rfl rfl) rfl ⟨rfl, Ref.below HS.out (below_two w _ _), below_two w _ _⟩

set_option maxRecDepth 100000 in
set_option maxHeartbeats 1000000 in
theorem rready_room {w : World} {s : Value} {row : List Int} {lo : Nat} (nx st : Int) (hs : Ref w lo s row) (hlo : lo ≤ w.heap.size) (hn : row.length < 256) (g : Int) :
    Calls Try.prog 30 #[RV s true nx st, .int .i64 g] w fun e w' => ∃ s', e = .returned (.tuple #[RV s' true g st, .slice none 0 0]) ∧ Ref w' w.heap.size s' (row ++ [nx]) ∧ Below w.heap.size w w' := by
  have HS := Lib.hid hs
  obtain ⟨a, cap, rfl, _, _, _⟩ := hs
  unfold RV
  go_enter Try.func30, Try.ntmps30
  go_wp2_with fail
  refine (rput_room true g st (Ref.below HS.out (below_two w _ _)) (by simp; omega) hn nx).mono ?_
  rintro e w1 ⟨s', rfl, hr, hb⟩
  unfold RV
  obtain ⟨hA, hB2, hbw, hsz⟩ := two_blocks w w1 _ _ hb
  have HR := Lib.hid hr
  obtain ⟨a', c', rfl, _, _, _⟩ := hr
  obtain ⟨y0, y1, y2, y3, yf⟩ := four hB2
  have H := Lib.hid (And.intro hB2 hbw)
  clear hA hB2 hbw hb
  go_wp2_with fail
  refine bodyPost_ret (results_rv rfl _ _ (w.heap.size + 1) _ (.bool true) (.int .i64 g) (.int .i64 st) (.slice none 0 0) (four_set H.out.1) rfl rfl) rfl ⟨_, rfl, ?_, ?_⟩
  · have h3 : Ref w1 (w.heap.size + 2) (.slice a' (row.length + 1) c') (row ++ [nx]) := by
      have := Ref.lower (lo' := w.heap.size + 2) HR.out (by simp); simpa using this
    exact Ref.lower (Ref.kept h3 (by rw [four_size]; exact Nat.le_refl _) (fun j hj _ => four_other (by omega))) (by omega)
  · exact ⟨H.out.2.os, H.out.2.tape, H.out.2.output, by rw [four_size]; exact H.out.2.size, fun j hj => (four_other (by omega)).trans (H.out.2.block j hj)⟩

theorem ref_block {w : World} {lo : Nat} {v : Value} {xs : List Int} (h : Ref w lo v xs) {j : Nat} (hj : v.ownBlock = some j) : j < w.heap.size := by
  obtain ⟨a, cap, rfl, _, _, hl⟩ := h
  cases a with
  | none => simp [Value.ownBlock] at hj
  | some c => simp [Value.ownBlock] at hj; subst hj; exact (hl c rfl).2

set_option maxRecDepth 100000 in
set_option maxHeartbeats 1000000 in
theorem rready_full {w : World} {s : Value} {row : List Int} {lo : Nat} (nx st : Int) (hs : Ref w lo s row) (hlo : lo ≤ w.heap.size) (hn : row.length = 256) (g : Int) :
    Calls Try.prog 30 #[RV s true nx st, .int .i64 g] w fun e w' => ∃ s' o, e = .returned (.tuple #[RV s' true g st, o]) ∧ Ref w' lo s' (row.drop 128) ∧ Ref w' w.heap.size o (row.take 128 ++ [nx]) ∧ Below w.heap.size w w' ∧ ∀ j, s'.ownBlock = some j → s.ownBlock = some j := by
  have HS := Lib.hid hs
  have HL : Hid (∀ j, s.ownBlock = some j → j < w.heap.size) := Lib.hid fun j hj => ref_block hs hj
  obtain ⟨a, cap, rfl, _, _, _⟩ := hs
  have HN := Lib.hid hn
  clear hn
  unfold RV
  go_enter Try.func30, Try.ntmps30
  go_wp2_with fail
  refine (rput_full true g st (Ref.below HS.out (below_two w _ _)) (by simp; omega) HN.out nx).mono ?_
  rintro e w1 ⟨s', o, rfl, hr, ho, hb, hob⟩
  unfold RV
  obtain ⟨hA, hB2, hbw, hsz⟩ := two_blocks w w1 _ _ hb
  obtain ⟨a', c', rfl, _⟩ := id hr
  obtain ⟨a2, c2, rfl, _⟩ := id ho
  have e1 : (row.take 128 ++ [nx]).length = 129 := by rw [List.length_append, List.length_take, HN.out]; rfl
  have e2 : (row.drop 128).length = 128 := by rw [List.length_drop, HN.out]
  rw [e2] at hr hob ⊢
  rw [e1] at ho ⊢
  have HR := Lib.hid hr
  have HO := Lib.hid ho
  have HOB := Lib.hid hob
  clear e1 e2 hr ho
  obtain ⟨y0, y1, y2, y3, yf⟩ := four hB2
  have H := Lib.hid (And.intro hB2 hbw)
  clear hA hB2 hbw hb hob
  go_wp2_with fail
  refine bodyPost_ret (results_rv rfl _ _ (w.heap.size + 1) _ (.bool true) (.int .i64 g) (.int .i64 st) _ (four_set H.out.1) rfl rfl) rfl ⟨_, _, rfl, ?_, ?_, ?_, HOB.out⟩
  · refine ref_at HR.out (by rw [four_size]; exact Nat.le_refl _) fun j hj => ?_
    have hj2 := HL.out j (HOB.out j hj)
    exact four_other (by omega)
  · have h3 := Ref.lower (lo' := w.heap.size + 2) HO.out (by simp)
    refine Ref.lower (Ref.kept h3 (by rw [four_size]; exact Nat.le_refl _) fun j hj _ => ?_) (by omega)
    exact four_other (by omega)
  · exact ⟨H.out.2.os, H.out.2.tape, H.out.2.output, by rw [four_size]; exact H.out.2.size, fun j hj => (four_other (by omega)).trans (H.out.2.block j hj)⟩
end Go.Proofs.Ytkcoidapnmoljaa.Rng
