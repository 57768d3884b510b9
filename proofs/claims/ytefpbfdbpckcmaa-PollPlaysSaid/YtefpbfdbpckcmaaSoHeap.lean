/-
  The library's sort at uint16: reverseRangeOrdered, siftDownOrdered, heapSortOrdered.
-/
import Derived.Test.YtefpbfdbpckcmaaSoIns
namespace Go.Proofs.Ytefpbfdbpckcmaa.So
open Go.RowKit Go.Sort
set_option linter.unusedVariables false

theorem rev_go {i j : Nat} {d : Array Int} (h : i < j) : reverseLoop i j d = reverseLoop (i + 1) (j - 1) (swp d i j) := by rw [reverseLoop, if_pos h]
theorem rev_end {i j : Nat} {d : Array Int} (h : ¬ i < j) : reverseLoop i j d = d := by rw [reverseLoop, if_neg h]

set_option maxRecDepth 100000 in
set_option maxHeartbeats 2000000 in
theorem rev_is {b off cap n lo hi : Nat} {d : Array Int} {w : World} (hn : d.size = n) (hH : Holds (Value.int .u16) w b off d) (hlo : lo < hi) (hhi : hi ≤ n) (hsz : n < 4611686018427387904) :
    Calls Try.prog 42 #[.slice (some ⟨b, off, none⟩) n cap, .int .i64 lo, .int .i64 hi] w fun e w' => e = .returned (.tuple #[]) ∧ Row w b off (reverseRange d lo hi) w' := by
  have H0 := Lib.hid (And.intro hH hn)
  clear hH hn
  go_enter Try.func42, Try.ntmps42
  go_wp2
  go_loopw [6, 7] (fun vi vj wr => ∃ (i j : Nat) (dk : Array Int), vi = .int .i64 i ∧ vj = .int .i64 j ∧ i ≤ j + 1 ∧ j < n ∧ dk.size = n ∧ Row w b off dk wr ∧ reverseLoop i j dk = reverseLoop lo (hi - 1) d) (fun vi vj _ => (intOf vj + 1 - intOf vi).toNat)
  case atStart => exact ⟨lo, hi - 1, d, rfl, by congr 1; omega, by omega, by omega, H0.out.2, ⟨H0.out.1, ⟨rfl, rfl, rfl, Nat.le_refl _, fun _ _ _ => rfl⟩⟩, rfl⟩
  case round =>
    clear H0
    obtain ⟨i, j, dk, rfl, rfl, hij, hjn, hsk, hR, hO⟩ := hrel
    obtain ⟨G, hG⟩ : ∃ G : Nat → Int, ∀ t, G t = dk[t]! := ⟨fun t => dk[t]!, fun _ => rfl⟩
    have hcw : ∀ t, t < n → wr.cell? ⟨b, off + t, none⟩ = some (.int .u16 (G t)) := fun t ht => by rw [hG]; exact hR.cell t (by omega)
    have hfw : ∀ t, t < n → wr.frozen? ⟨b, off + t, none⟩ = false := fun t ht => hR.froz t (by omega)
    have HK := Lib.hid (And.intro hsk (And.intro hR hO))
    have HG := Lib.hid hG
    clear hsk hR hO hG
    by_cases hlt : i < j
    · go_wp2
      go_region
      all_goals go_wp2
      go_roundw
      case rel => exact ⟨i + 1, j - 1, swp dk i j, by go_num, by congr 1; omega, by omega, by omega, by rw [size_swp]; exact HK.out.1, (HK.out.2.1.drew).swap i j (by rw [HK.out.1]; omega) (by rw [HK.out.1]; omega) _ _ (HG.out _) (HG.out _), by rw [← HK.out.2.2, rev_go hlt]⟩
      case measure => simp [intOf]; omega
    · go_wp2
      go_end0
      exact ⟨rfl, HK.out.2.1.cong (by unfold Sort.reverseRange; rw [← HK.out.2.2, rev_end hlt])⟩

section
variable (lt : Int → Int → Bool)
theorem sift_end {hi first r : Nat} {d : Array Int} (h : hi ≤ 2 * r + 1) : siftDown lt hi first r d = d := by rw [siftDown, dif_pos h]
theorem sift_right {hi first r : Nat} {d : Array Int} (h : 2 * r + 1 + 1 < hi) (hl : lt d[first + (2 * r + 1)]! d[first + (2 * r + 1) + 1]! = true) :
    siftDown lt hi first r d = if lt d[first + r]! d[first + (2 * r + 2)]! then siftDown lt hi first (2 * r + 2) (swp d (first + r) (first + (2 * r + 2))) else d := by
  rw [siftDown, dif_neg (by omega), if_pos (by simp [h, hl])]
  cases hb : lt d[first + r]! d[first + (2 * r + 2)]!
  · simp
  · simp [show 2 * r + 2 < hi by omega]
theorem sift_left {hi first r : Nat} {d : Array Int} (h0 : 2 * r + 1 < hi) (h : ¬ (2 * r + 1 + 1 < hi) ∨ lt d[first + (2 * r + 1)]! d[first + (2 * r + 1) + 1]! = false) :
    siftDown lt hi first r d = if lt d[first + r]! d[first + (2 * r + 1)]! then siftDown lt hi first (2 * r + 1) (swp d (first + r) (first + (2 * r + 1))) else d := by
  rw [siftDown, dif_neg (by omega), if_neg (by rcases h with h | h <;> simp [h])]
  cases hb : lt d[first + r]! d[first + (2 * r + 1)]! <;> simp
end

set_option maxRecDepth 100000 in
set_option maxHeartbeats 2000000 in
theorem sift_is {b off cap n lo hi first : Nat} {d : Array Int} {w : World} (hn : d.size = n) (hH : Holds (Value.int .u16) w b off d) (hlo : lo ≤ n) (hhi : first + hi ≤ n) (hsz : n < 1152921504606846976) :
    Calls Try.prog 49 #[.slice (some ⟨b, off, none⟩) n cap, .int .i64 lo, .int .i64 hi, .int .i64 first] w fun e w' => e = .returned (.tuple #[]) ∧ Row w b off (siftDown ltInt hi first lo d) w' := by
  have H0 := Lib.hid (And.intro hH hn)
  clear hH hn
  go_enter Try.func49, Try.ntmps49
  go_wp2
  go_loopw [8, 9] (fun vi _ wr => ∃ (r : Nat) (dk : Array Int), vi = .int .i64 r ∧ r ≤ n ∧ dk.size = n ∧ Row w b off dk wr ∧ siftDown ltInt hi first r dk = siftDown ltInt hi first lo d) (fun vi _ _ => n - (intOf vi).toNat)
  case atStart => exact ⟨lo, d, rfl, by omega, H0.out.2, ⟨H0.out.1, ⟨rfl, rfl, rfl, Nat.le_refl _, fun _ _ _ => rfl⟩⟩, rfl⟩
  case round =>
    clear H0
    obtain ⟨r, dk, rfl, hrn, hsk, hR, hO⟩ := hrel
    obtain ⟨G, hG⟩ : ∃ G : Nat → Int, ∀ t, G t = dk[t]! := ⟨fun t => dk[t]!, fun _ => rfl⟩
    have hcw : ∀ t, t < n → wr.cell? ⟨b, off + t, none⟩ = some (.int .u16 (G t)) := fun t ht => by rw [hG]; exact hR.cell t (by omega)
    have hfw : ∀ t, t < n → wr.frozen? ⟨b, off + t, none⟩ = false := fun t ht => hR.froz t (by omega)
    have HK := Lib.hid (And.intro hsk (And.intro hR hO))
    have HG := Lib.hid hG
    clear hsk hR hO hG
    by_cases hend : hi ≤ 2 * r + 1
    · have he : (hi : Int) ≤ 2 * (r : Int) + 1 := by omega
      go_wp2
      go_end0
      exact ⟨rfl, HK.out.2.1.cong (by rw [← HK.out.2.2, sift_end ltInt hend])⟩
    · have he : ¬ (hi : Int) ≤ 2 * (r : Int) + 1 := by omega
      obtain ⟨c, hc⟩ : ∃ c : Nat, c = 2 * r + 1 := ⟨_, rfl⟩
      have hc2 : 2 * (r : Int) + 1 = (c : Int) := by omega
      have hw0 : IntKind.i64.wrap ((c : Int) + 1) = (c : Int) + 1 := by rw [IntKind.wrap_i64]; omega
      have hw1 : IntKind.i64.wrap ((first : Int) + (c : Int)) = (first : Int) + (c : Int) := by rw [IntKind.wrap_i64]; omega
      have hw2 : IntKind.i64.wrap ((first : Int) + (c : Int) + 1) = (first : Int) + (c : Int) + 1 := by rw [IntKind.wrap_i64]; omega
      have hw3 : IntKind.i64.wrap ((first : Int) + (r : Int)) = (first : Int) + (r : Int) := by rw [IntKind.wrap_i64]; omega
      have hw4 : IntKind.i64.wrap ((first : Int) + ((c : Int) + 1)) = (first : Int) + ((c : Int) + 1) := by rw [IntKind.wrap_i64]; omega
      have hi0 : (0 : Int) ≤ (first : Int) + (r : Int) := by omega
      have hi1 : (first : Int) + (r : Int) < (n : Int) := by omega
      have hi2 : (0 : Int) ≤ (first : Int) + (c : Int) := by omega
      have hi3 : (first : Int) + (c : Int) < (n : Int) := by omega
      have ht1 : ((first : Int) + (r : Int)).toNat = first + r := by omega
      have ht2 : ((first : Int) + (c : Int)).toNat = first + c := by omega
      have HC := Lib.hid hc
      have hcl : c < hi := by omega
      have hrc : r < c := by omega
      clear hc he hend
      go_wp2
      clear hc2
      by_cases hg : c + 1 < hi
      · have hg' : (c : Int) + 1 < (hi : Int) := by omega
        have hi4 : (0 : Int) ≤ (first : Int) + ((c : Int) + 1) := by omega
        have hi5 : (first : Int) + ((c : Int) + 1) < (n : Int) := by omega
        have ht3 : ((first : Int) + ((c : Int) + 1)).toNat = first + (c + 1) := by omega
        go_quiet (first | (go_at_call 44; refine Calls.quiet_of_same (less_is _ _ _)))
        go_wp2
        · have hl : ltInt (G (first + c)) (G (first + c + 1)) = true := by assumption
          have HL := Lib.hid hl
          clear hl
          have hR2 := HK.out.2.1.drewN nq
          clear hcw hfw
          generalize wr.drewN nq = W2 at *
          have hcw : ∀ t, t < n → W2.cell? ⟨b, off + t, none⟩ = some (.int .u16 (G t)) := fun t ht => by rw [HG.out]; exact hR2.cell t (by have := HK.out.1; omega)
          have hfw : ∀ t, t < n → W2.frozen? ⟨b, off + t, none⟩ = false := fun t ht => hR2.froz t (by have := HK.out.1; omega)
          have HR2 := Lib.hid hR2
          clear hR2
          go_quiet (first | (go_at_call 44; refine Calls.quiet_of_same (less_is _ _ _)))
          go_wp2
          · have hl2' : (!ltInt (G (first + r)) (G (first + c + 1))) = true := by assumption
            have hl2 : ltInt (G (first + r)) (G (first + (c + 1))) = false := by simpa [Nat.add_assoc] using hl2'
            refine bodyPost_ret (results_none rfl _ _ _) rfl ?_
            exact ⟨rfl, (HR2.out.drewN _).cong (by rw [← HK.out.2.2, (sift_right ltInt (show 2 * r + 1 + 1 < hi by have := HC.out; omega) (show ltInt dk[first + (2 * r + 1)]! dk[first + (2 * r + 1) + 1]! = true by rw [← HC.out, ← HG.out, ← HG.out]; exact HL.out)), show 2 * r + 2 = c + 1 by have := HC.out; omega, ← HG.out, ← HG.out, if_neg (by rw [hl2]; decide)])⟩
          · have hl2' : (!ltInt (G (first + r)) (G (first + c + 1))) = false := by assumption
            have hl2 : ltInt (G (first + r)) (G (first + (c + 1))) = true := by simpa [Nat.add_assoc] using hl2'
            clear hl2'
            have HL2 := Lib.hid hl2
            clear hl2
            go_region
            all_goals go_wp2
            go_roundw
            case rel =>
              refine ⟨(c + 1), swp dk (first + r) (first + (c + 1)), by first | rfl | go_num, by omega, by rw [size_swp]; exact HK.out.1, ?_, ?_⟩
              · exact ((HR2.out.drewN _).drew).swap (first + r) (first + (c + 1)) (by rw [HK.out.1]; omega) (by rw [HK.out.1]; omega) _ _ (HG.out _) (HG.out _)
              · rw [← HK.out.2.2, (sift_right ltInt (show 2 * r + 1 + 1 < hi by have := HC.out; omega) (show ltInt dk[first + (2 * r + 1)]! dk[first + (2 * r + 1) + 1]! = true by rw [← HC.out, ← HG.out, ← HG.out]; exact HL.out)), show 2 * r + 2 = c + 1 by have := HC.out; omega, ← HG.out, ← HG.out, if_pos HL2.out]
            case measure => simp [intOf]; omega
        · have hl : ltInt (G (first + c)) (G (first + c + 1)) = false := by assumption
          have HL := Lib.hid hl
          clear hl
          have hR2 := HK.out.2.1.drewN nq
          clear hcw hfw
          generalize wr.drewN nq = W2 at *
          have hcw : ∀ t, t < n → W2.cell? ⟨b, off + t, none⟩ = some (.int .u16 (G t)) := fun t ht => by rw [HG.out]; exact hR2.cell t (by have := HK.out.1; omega)
          have hfw : ∀ t, t < n → W2.frozen? ⟨b, off + t, none⟩ = false := fun t ht => hR2.froz t (by have := HK.out.1; omega)
          have HR2 := Lib.hid hR2
          clear hR2
          go_quiet (first | (go_at_call 44; refine Calls.quiet_of_same (less_is _ _ _)))
          go_wp2
          · have hl2' : (!ltInt (G (first + r)) (G (first + c))) = true := by assumption
            have hl2 : ltInt (G (first + r)) (G (first + c)) = false := by simpa [Nat.add_assoc] using hl2'
            refine bodyPost_ret (results_none rfl _ _ _) rfl ?_
            exact ⟨rfl, (HR2.out.drewN _).cong (by rw [← HK.out.2.2, (sift_left ltInt (show 2 * r + 1 < hi by have := HC.out; omega) (.inr (show ltInt dk[first + (2 * r + 1)]! dk[first + (2 * r + 1) + 1]! = false by rw [← HC.out, ← HG.out, ← HG.out]; exact HL.out))), ← HC.out, ← HG.out, ← HG.out, if_neg (by rw [hl2]; decide)])⟩
          · have hl2' : (!ltInt (G (first + r)) (G (first + c))) = false := by assumption
            have hl2 : ltInt (G (first + r)) (G (first + c)) = true := by simpa [Nat.add_assoc] using hl2'
            clear hl2'
            have HL2 := Lib.hid hl2
            clear hl2
            go_region
            all_goals go_wp2
            go_roundw
            case rel =>
              refine ⟨c, swp dk (first + r) (first + c), by first | rfl | go_num, by omega, by rw [size_swp]; exact HK.out.1, ?_, ?_⟩
              · exact ((HR2.out.drewN _).drew).swap (first + r) (first + c) (by rw [HK.out.1]; omega) (by rw [HK.out.1]; omega) _ _ (HG.out _) (HG.out _)
              · rw [← HK.out.2.2, (sift_left ltInt (show 2 * r + 1 < hi by have := HC.out; omega) (.inr (show ltInt dk[first + (2 * r + 1)]! dk[first + (2 * r + 1) + 1]! = false by rw [← HC.out, ← HG.out, ← HG.out]; exact HL.out))), ← HC.out, ← HG.out, ← HG.out, if_pos HL2.out]
            case measure => simp [intOf]; omega
      · have hg' : ¬ (c : Int) + 1 < (hi : Int) := by omega
        go_quiet (first | (go_at_call 44; refine Calls.quiet_of_same (less_is _ _ _)))
        go_wp2
        have hR2 := HK.out.2.1.drewN nq
        clear hcw hfw
        generalize wr.drewN nq = W2 at *
        have hcw : ∀ t, t < n → W2.cell? ⟨b, off + t, none⟩ = some (.int .u16 (G t)) := fun t ht => by rw [HG.out]; exact hR2.cell t (by have := HK.out.1; omega)
        have hfw : ∀ t, t < n → W2.frozen? ⟨b, off + t, none⟩ = false := fun t ht => hR2.froz t (by have := HK.out.1; omega)
        have HR2 := Lib.hid hR2
        clear hR2
        go_quiet (first | (go_at_call 44; refine Calls.quiet_of_same (less_is _ _ _)))
        go_wp2
        · have hl2' : (!ltInt (G (first + r)) (G (first + c))) = true := by assumption
          have hl2 : ltInt (G (first + r)) (G (first + c)) = false := by simpa [Nat.add_assoc] using hl2'
          refine bodyPost_ret (results_none rfl _ _ _) rfl ?_
          exact ⟨rfl, (HR2.out.drewN _).cong (by rw [← HK.out.2.2, (sift_left ltInt (show 2 * r + 1 < hi by have := HC.out; omega) (.inl (by have := HC.out; omega))), ← HC.out, ← HG.out, ← HG.out, if_neg (by rw [hl2]; decide)])⟩
        · have hl2' : (!ltInt (G (first + r)) (G (first + c))) = false := by assumption
          have hl2 : ltInt (G (first + r)) (G (first + c)) = true := by simpa [Nat.add_assoc] using hl2'
          clear hl2'
          have HL2 := Lib.hid hl2
          clear hl2
          go_region
          all_goals go_wp2
          go_roundw
          case rel =>
            refine ⟨c, swp dk (first + r) (first + c), by first | rfl | go_num, by omega, by rw [size_swp]; exact HK.out.1, ?_, ?_⟩
            · exact ((HR2.out.drewN _).drew).swap (first + r) (first + c) (by rw [HK.out.1]; omega) (by rw [HK.out.1]; omega) _ _ (HG.out _) (HG.out _)
            · rw [← HK.out.2.2, (sift_left ltInt (show 2 * r + 1 < hi by have := HC.out; omega) (.inl (by have := HC.out; omega))), ← HC.out, ← HG.out, ← HG.out, if_pos HL2.out]
          case measure => simp [intOf]; omega
end Go.Proofs.Ytefpbfdbpckcmaa.So
