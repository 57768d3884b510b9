/-
  The library's sort at uint16: insertionSortOrdered.
-/
import Derived.Test.YtefpbfdbpckcmaaSoBase
namespace Go.Proofs.Ytefpbfdbpckcmaa.So
open Go.RowKit Go.Sort
set_option linter.unusedVariables false

section
variable (lt : Int → Int → Bool)
theorem inner_go {a j : Nat} {d : Array Int} (hj : a < j) (hl : lt d[j]! d[j - 1]! = true) : insInner lt a j d = insInner lt a (j - 1) (swp d j (j - 1)) := by
  cases j with
  | zero => omega
  | succ k => rw [insInner, if_pos (by simpa using ⟨hj, hl⟩)]; rfl
theorem inner_end {a j : Nat} {d : Array Int} (h : j ≤ a ∨ lt d[j]! d[j - 1]! = false) : insInner lt a j d = d := by
  cases j with
  | zero => rfl
  | succ k =>
    rw [insInner, if_neg]
    intro hc
    simp only [Bool.and_eq_true, decide_eq_true_eq] at hc
    rcases h with h | h
    · omega
    · rw [show k + 1 - 1 = k from rfl] at h; rw [h] at hc; exact absurd hc.2 (by decide)
theorem outer_go {a b i : Nat} {d : Array Int} (h : i < b) : insOuter lt a b i d = insOuter lt a b (i + 1) (insInner lt a i d) := by rw [insOuter, if_pos h]
theorem outer_end {a b i : Nat} {d : Array Int} (h : ¬ i < b) : insOuter lt a b i d = d := by rw [insOuter, if_neg h]
end

set_option maxRecDepth 100000 in
set_option maxHeartbeats 2000000 in
theorem ins_is {b off cap n lo hi : Nat} {d : Array Int} {w : World} (hn : d.size = n) (hH : Holds (Value.int .u16) w b off d) (hlo : lo ≤ hi) (hhi : hi ≤ n) (hsz : n < 4611686018427387904) :
    Calls Try.prog 38 #[.slice (some ⟨b, off, none⟩) n cap, .int .i64 lo, .int .i64 hi] w fun e w' => e = .returned (.tuple #[]) ∧ Row w b off (insertionSort ltInt d lo hi) w' := by
  have H0 := Lib.hid (And.intro hH hn)
  clear hH hn
  go_enter Try.func38, Try.ntmps38
  go_wp2
  go_loopw [6] (fun vi wr => ∃ (i : Nat) (dk : Array Int), vi = .int .i64 i ∧ lo < i ∧ i ≤ hi + 1 ∧ dk.size = n ∧ Row w b off dk wr ∧ insOuter ltInt lo hi i dk = insOuter ltInt lo hi (lo + 1) d) (fun vi _ => hi + 1 - (intOf vi).toNat)
  case atStart => exact ⟨lo + 1, d, by go_num, by omega, by omega, H0.out.2, ⟨H0.out.1, ⟨rfl, rfl, rfl, Nat.le_refl _, fun _ _ _ => rfl⟩⟩, rfl⟩
  case round =>
    clear H0
    obtain ⟨i, dk, rfl, hai, hib, hsk, hR, hO⟩ := hrel
    have HK := Lib.hid (And.intro hsk (And.intro hR hO))
    clear hsk hR hO
    by_cases hlt : i < hi
    · go_wp2
      obtain ⟨wo, hwo⟩ : ∃ wo : World, wo = wr := ⟨_, rfl⟩
      rw [← hwo] at HK
      have HW := Lib.hid hwo
      clear hwo
      go_loopw [7] (fun vj wr2 => ∃ (j : Nat) (dj : Array Int), vj = .int .i64 j ∧ lo ≤ j ∧ j ≤ i ∧ dj.size = n ∧ Row w b off dj wr2 ∧ insInner ltInt lo j dj = insInner ltInt lo i dk) (fun vj _ => (intOf vj).toNat)
      case atStart => exact ⟨i, dk, rfl, by omega, Nat.le_refl _, HK.out.1, HW.out ▸ HK.out.2.1, rfl⟩
      case round =>
        obtain ⟨j, dj, rfl, haj, hji, hsj, hR2, hI⟩ := hrel
        obtain ⟨G, hG⟩ : ∃ G : Nat → Int, ∀ t, G t = dj[t]! := ⟨fun t => dj[t]!, fun _ => rfl⟩
        have hcw : ∀ t, t < n → wr.cell? ⟨b, off + t, none⟩ = some (.int .u16 (G t)) := fun t ht => by rw [hG]; exact hR2.cell t (by omega)
        have hfw : ∀ t, t < n → wr.frozen? ⟨b, off + t, none⟩ = false := fun t ht => hR2.froz t (by omega)
        have HR := Lib.hid (And.intro hR2 (And.intro hsj hI))
        have HG := Lib.hid hG
        clear hR2 hI hG hsj
        go_wp2
        by_cases hja : lo < j
        · go_quiet (first | (go_at_call 44; refine Calls.quiet_of_same (less_is _ _ _)))
          go_wp2
          · have hl : ltInt (G j) (G (j - 1)) = true := by assumption
            have HL := Lib.hid hl
            clear hl
            go_region
            all_goals go_wp2
            go_roundw
            case rel =>
              refine ⟨j - 1, swp dj j (j - 1), by congr 1; omega, by omega, by omega, by rw [size_swp]; exact HR.out.2.1, ?_, ?_⟩
              · exact ((HR.out.1.drewN nq).drew).swap j (j - 1) (by rw [HR.out.2.1]; omega) (by rw [HR.out.2.1]; omega) _ _ (HG.out _) (HG.out _)
              · rw [← HR.out.2.2, inner_go ltInt hja (by rw [← HG.out, ← HG.out]; exact HL.out)]
            case measure => simp [intOf]; omega
          · have hl : ltInt (G j) (G (j - 1)) = false := by assumption
            go_roundw
            case rel => exact ⟨i + 1, dj, by go_num, by omega, by omega, HR.out.2.1, HR.out.1.drewN nq, by rw [← HK.out.2.2, outer_go ltInt hlt, ← HR.out.2.2, inner_end ltInt (.inr (by rw [← HG.out, ← HG.out]; exact hl))]⟩
            case measure => simp [intOf]; omega
        · go_quiet (first | (go_at_call 44; refine Calls.quiet_of_same (less_is _ _ _)))
          go_wp2
          go_roundw
          case rel => exact ⟨i + 1, dj, by go_num, by omega, by omega, HR.out.2.1, HR.out.1.drewN nq, by rw [← HK.out.2.2, outer_go ltInt hlt, ← HR.out.2.2, inner_end ltInt (.inl (by omega))]⟩
          case measure => simp [intOf]; omega
    · go_wp2
      go_end0
      exact ⟨rfl, HK.out.2.1.cong (by unfold Sort.insertionSort; rw [← HK.out.2.2, outer_end ltInt hlt])⟩
end Go.Proofs.Ytefpbfdbpckcmaa.So
