/-
  The library's sort at uint16: partialInsertionSortOrdered.
-/
import Derived.Test.YtlhblhgbpaipaaaGreatSoPart
import Derived.Deep.DeepCutAuto
namespace Go.Proofs.YtlhblhgbpaipaaaGreat.So
open Go.RowKit Go.Sort
set_option linter.unusedVariables false

theorem ret_b {x y : Bool} (h : x = y) : Ending.returned (.bool x) = .returned (.bool y) := by rw [h]
theorem scan_go {d : Array Int} {b i : Nat} (h : i < b) (hp : (!ltInt d[i]! d[i - 1]!) = true) : scanSorted ltInt d b i = scanSorted ltInt d b (i + 1) := by rw [scanSorted, if_pos (by simp only [hp, decide_eq_true h]; rfl)]
theorem scan_stop {d : Array Int} {b i : Nat} (hp : (!ltInt d[i]! d[i - 1]!) = false) : scanSorted ltInt d b i = i := by rw [scanSorted, if_neg (by rw [hp]; simp)]
theorem scan_out {d : Array Int} {b i : Nat} (h : ¬ i < b) : scanSorted ltInt d b i = i := by rw [scanSorted, if_neg (by simp [h])]
theorem sdn_go {d : Array Int} {j : Nat} (h : 1 ≤ j) (hp : (!ltInt d[j]! d[j - 1]!) = false) : shiftDown ltInt j d = shiftDown ltInt (j - 1) (swp d j (j - 1)) := by
  obtain ⟨k, rfl⟩ : ∃ k, j = k + 1 := ⟨j - 1, by omega⟩
  rw [Nat.add_sub_cancel] at *
  rw [shiftDown, if_neg (by rw [hp]; decide)]
theorem sdn_stop {d : Array Int} {j : Nat} (hp : j = 0 ∨ (!ltInt d[j]! d[j - 1]!) = true) : shiftDown ltInt j d = d := by
  cases j with
  | zero => rfl
  | succ k =>
    rcases hp with h | h
    · omega
    · rw [Nat.add_sub_cancel] at h; rw [shiftDown, if_pos h]
theorem sup_go {d : Array Int} {b j : Nat} (h : j < b) (hp : (!ltInt d[j]! d[j - 1]!) = false) : shiftUp ltInt b j d = shiftUp ltInt b (j + 1) (swp d j (j - 1)) := by rw [shiftUp, if_pos h, if_neg (by rw [hp]; decide)]
theorem sup_stop {d : Array Int} {b j : Nat} (h : ¬ j < b ∨ (!ltInt d[j]! d[j - 1]!) = true) : shiftUp ltInt b j d = d := by
  rw [shiftUp]
  by_cases hb : j < b
  · rw [if_pos hb]
    rcases h with h | h
    · exact absurd hb h
    · rw [if_pos h]
  · rw [if_neg hb]
/-- What a step makes of the row. -/
def stepD (lo i : Nat) (d : Array Int) : Array Int := if i - lo ≥ 2 then shiftDown ltInt (i - 1) d else d
def stepU (hi i : Nat) (d : Array Int) : Array Int := if hi - i ≥ 2 then shiftUp ltInt hi (i + 1) d else d
theorem pins_step {lo hi s i i2 : Nat} {d : Array Int} (h : scanSorted ltInt d hi i = i2) (h1 : i2 ≠ hi) (h2 : ¬ hi - lo < 50) :
    partialIns ltInt lo hi (s + 1) i d = partialIns ltInt lo hi s i2 (stepU hi i2 (stepD lo i2 (swp d i2 (i2 - 1)))) := by
  rw [partialIns_succ, h, if_neg h1, if_neg h2]; rfl
theorem pins_yes {lo hi s i : Nat} {d : Array Int} (h : scanSorted ltInt d hi i = hi) : partialIns ltInt lo hi (s + 1) i d = (d, true) := by rw [partialIns_succ, if_pos h]
theorem pins_no {lo hi s i i2 : Nat} {d : Array Int} (h : scanSorted ltInt d hi i = i2) (h1 : i2 ≠ hi) (h2 : hi - lo < 50) : partialIns ltInt lo hi (s + 1) i d = (d, false) := by rw [partialIns_succ, h, if_neg h1, if_pos h2]
theorem stepD_size (lo i : Nat) (d : Array Int) (h : ∀ j e, (shiftDown ltInt j e).size = e.size) : (stepD lo i d).size = d.size := by
  unfold stepD; split
  · exact h _ _
  · rfl
theorem sdn_size : ∀ (j : Nat) (d : Array Int), (shiftDown ltInt j d).size = d.size
  | 0, d => rfl
  | j + 1, d => by
    rw [shiftDown]; split
    · rfl
    · rw [sdn_size, size_swp]
theorem sup_size (b : Nat) : ∀ (k j : Nat) (d : Array Int), b - j = k → (shiftUp ltInt b j d).size = d.size
  | 0, j, d, h => by rw [shiftUp, if_neg (by omega)]
  | k + 1, j, d, h => by
    rw [shiftUp, if_pos (by omega)]; split
    · rfl
    · rw [sup_size b k _ _ (by omega), size_swp]
theorem stepU_size (hi i : Nat) (d : Array Int) : (stepU hi i d).size = d.size := by
  unfold stepU; split
  · exact sup_size _ _ _ _ rfl
  · rfl

set_option maxRecDepth 100000 in
set_option maxHeartbeats 8000000 in
theorem pins_is {b off cap n lo hi : Nat} {d : Array Int} {w : World} (hn : d.size = n) (hH : Holds (Value.int .u16) w b off d) (hlo : lo < hi) (hhi : hi ≤ n) (hsz : n < 1152921504606846976) :
    Calls Tryz.prog 95 #[.slice (some ⟨b, off, none⟩) n cap, .int .i64 lo, .int .i64 hi] w fun e w' => e = .returned (.bool (partialInsertionSort ltInt d lo hi).2) ∧ Row w b off (partialInsertionSort ltInt d lo hi).1 w' := by
  have hR0 : Row w b off d w := ⟨hH, ⟨rfl, rfl, rfl, Nat.le_refl _, fun _ _ _ => rfl⟩⟩
  have H0 := Lib.hid (And.intro hR0 hn)
  have HP := Lib.hid (show partialInsertionSort ltInt d lo hi = partialIns ltInt lo hi 5 (lo + 1) d from rfl)
  clear hR0 hH hn
  go_enter Tryz.func95, Tryz.ntmps95
  go_wp2
  go_loopw [7, 8, 9, 10] (fun vi vj _ _ wr => ∃ (i k s : Nat) (dk : Array Int), vi = .int .i64 i ∧ vj = .int .i64 k ∧ k + s = 5 ∧ lo < i ∧ i ≤ hi ∧ dk.size = n ∧ Row w b off dk wr ∧ partialIns ltInt lo hi s i dk = partialIns ltInt lo hi 5 (lo + 1) d) (fun _ vj _ _ _ => 5 - (intOf vj).toNat)
  case atStart => exact ⟨lo + 1, 0, 5, d, by go_num, rfl, rfl, by omega, by omega, H0.out.2, H0.out.1, rfl⟩
  case round =>
    clear H0
    obtain ⟨i, k, s, dk, rfl, rfl, hks, hli, hih, hsk, hR, hO⟩ := hrel
    have HK := Lib.hid (And.intro hsk (And.intro hR hO))
    have HKS := Lib.hid hks
    clear hsk hR hO hks
    by_cases hk5 : k < 5
    · obtain ⟨s', hs'⟩ : ∃ s', s = s' + 1 := ⟨s - 1, by have := HKS.out; omega⟩
      subst hs'
      obtain ⟨wo, hwo⟩ : ∃ wo : World, wo = wr := ⟨_, rfl⟩
      rw [← hwo] at HK
      have HW := Lib.hid hwo
      clear hwo
      go_wp2
      go_loopw [7] (fun vi wr2 => ∃ i2 : Nat, vi = .int .i64 i2 ∧ i ≤ i2 ∧ i2 ≤ hi ∧ Row w b off dk wr2 ∧ scanSorted ltInt dk hi i2 = scanSorted ltInt dk hi i) (fun vi _ => hi - (intOf vi).toNat)
      case atStart => exact ⟨i, rfl, Nat.le_refl _, hih, HW.out ▸ HK.out.2.1, rfl⟩
      case round =>
        obtain ⟨i2, rfl, hii, hi2h, hR2, hS⟩ := hrel
        obtain ⟨G, hG⟩ : ∃ G : Nat → Int, ∀ t, G t = dk[t]! := ⟨fun t => dk[t]!, fun _ => rfl⟩
        have hcw : ∀ t, t < n → wr.cell? ⟨b, off + t, none⟩ = some (.int .u16 (G t)) := fun t ht => by rw [hG]; exact hR2.cell t (by have := HK.out.1; omega)
        have hfw : ∀ t, t < n → wr.frozen? ⟨b, off + t, none⟩ = false := fun t ht => hR2.froz t (by have := HK.out.1; omega)
        have HG3 := Lib.hid hG
        clear hG
        have HR3 := Lib.hid (And.intro hR2 hS)
        clear hR2 hS
        go_wp2
        by_cases hlt : i2 < hi
        · have hin : i2 < n := by omega
          have hbq : ((i2 : Int) == (hi : Int)) = false := by simp; omega
          go_quiet (first | (go_at_call 96; refine Calls.quiet_of_same (less_is _ _ _)))
          go_wp2_with fail
          · have hl : (!ltInt (G i2) (G (i2 - 1))) = true := by assumption
            go_roundw
            case rel => exact ⟨i2 + 1, by go_num, by omega, by omega, HR3.out.1.drewN _, by rw [← HR3.out.2]; exact (scan_go hlt (by rw [← HG3.out, ← HG3.out]; exact hl)).symm⟩
            case measure => simp [intOf] <;> omega
          · have hl : (!ltInt (G i2) (G (i2 - 1))) = false := by assumption
            have h50 : (hi : Int) - (lo : Int) < 50 := by assumption
            have HU := Lib.hid (show scanSorted ltInt dk hi i = i2 by rw [← HR3.out.2]; exact scan_stop (by rw [← HG3.out, ← HG3.out]; exact hl))
            refine bodyPost_ret (results_tmp rfl _ _ _) rfl ?_
            exact ⟨ret_b (by rw [HP.out, ← HK.out.2.2, pins_no HU.out (by omega) (by omega)]), (HR3.out.1.drewN _).cong (by rw [HP.out, ← HK.out.2.2, pins_no HU.out (by omega) (by omega)])⟩
          · have hl : (!ltInt (G i2) (G (i2 - 1))) = false := by assumption
            have h50 : 50 ≤ (hi : Int) - (lo : Int) := by assumption
            have HU := Lib.hid (show scanSorted ltInt dk hi i = i2 by rw [← HR3.out.2]; exact scan_stop (by rw [← HG3.out, ← HG3.out]; exact hl))
            have HPS := Lib.hid (pins_step (s := s') HU.out (show i2 ≠ hi by omega) (show ¬ hi - lo < 50 by omega))
            clear hl
            go_region
            have HSW := Lib.hid ((HR3.out.1.drewN nq).drew.swap i2 (i2 - 1) (by have := HK.out.1; omega) (by have := HK.out.1; omega) _ _ (HG3.out _) (HG3.out _))
            have HS5 := Lib.hid (show (swp dk i2 (i2 - 1)).size = n by rw [size_swp]; exact HK.out.1)
            obtain ⟨d5, hd5⟩ : ∃ d5, swp dk i2 (i2 - 1) = d5 := ⟨_, rfl⟩
            rw [hd5] at HSW HS5 HPS
            clear hcw hfw hd5 h50 HR3 HG3
            go_upto_if 61 with fail
            go_cut [9] (fun _ wc => Row w b off (stepD lo i2 d5) wc)
            case first =>
              by_cases h2 : 2 ≤ i2 - lo
              · have h2' : (2 : Int) ≤ (i2 : Int) - (lo : Int) := by omega
                have HD := Lib.hid (show stepD lo i2 d5 = shiftDown ltInt (i2 - 1) d5 by unfold stepD; rw [if_pos h2])
                go_wp2
                clear h2'
                go_loopw [9] (fun vj wr2 => ∃ (j : Nat) (dj : Array Int), vj = .int .i64 j ∧ j < n ∧ dj.size = n ∧ Row w b off dj wr2 ∧ shiftDown ltInt j dj = shiftDown ltInt (i2 - 1) d5) (fun vj _ => (intOf vj).toNat)
                case atStart => exact ⟨i2 - 1, d5, by congr 1; omega, by omega, HS5.out, HSW.out, rfl⟩
                case round =>
                  obtain ⟨j, dj, rfl, hjn, hsj, hR2, hS⟩ := hrel
                  obtain ⟨G, hG⟩ : ∃ G : Nat → Int, ∀ t, G t = dj[t]! := ⟨fun t => dj[t]!, fun _ => rfl⟩
                  have hcw : ∀ t, t < n → wr.cell? ⟨b, off + t, none⟩ = some (.int .u16 (G t)) := fun t ht => by rw [hG]; exact hR2.cell t (by have := hsj; omega)
                  have hfw : ∀ t, t < n → wr.frozen? ⟨b, off + t, none⟩ = false := fun t ht => hR2.froz t (by have := hsj; omega)
                  have HG6 := Lib.hid hG
                  clear hG
                  have HR6 := Lib.hid (And.intro hR2 (And.intro hsj hS))
                  clear hR2 hS hsj
                  by_cases hj1 : 1 ≤ j
                  · have hj1' : (1 : Int) ≤ (j : Int) := by omega
                    go_wp2
                    go_quiet (first | (go_at_call 96; refine Calls.quiet_of_same (less_is _ _ _)))
                    go_wp2_with fail
                    · have hl : (!ltInt (G j) (G (j - 1))) = true := by assumption
                      have HE := Lib.hid (show stepD lo i2 d5 = dj by rw [HD.out, ← HR6.out.2.2]; exact sdn_stop (.inr (by rw [← HG6.out, ← HG6.out]; exact hl)))
                      have HF := Lib.hid (HR6.out.1.drewN nq)
                      clear hl
                      go_meet
                      rw [HE.out]; exact HF.out
                    · have hl : (!ltInt (G j) (G (j - 1))) = false := by assumption
                      have HL := Lib.hid hl
                      clear hl
                      go_region
                      all_goals go_wp2_with fail
                      go_roundw
                      case rel => exact ⟨j - 1, swp dj j (j - 1), by congr 1; omega, by omega, by rw [size_swp]; exact HR6.out.2.1, (HR6.out.1.drewN nq).drew.swap j (j - 1) (by rw [HR6.out.2.1]; omega) (by rw [HR6.out.2.1]; omega) _ _ (HG6.out _) (HG6.out _), by rw [← HR6.out.2.2]; exact (sdn_go hj1 (by rw [← HG6.out, ← HG6.out]; exact HL.out)).symm⟩
                      case measure => simp [intOf] <;> omega
                  · have hj1' : ¬ (1 : Int) ≤ (j : Int) := by omega
                    have HE := Lib.hid (show stepD lo i2 d5 = dj by rw [HD.out, ← HR6.out.2.2]; exact sdn_stop (.inl (by omega)))
                    go_wp2
                    go_meet
                    rw [HE.out]; exact HR6.out.1
              · have h2' : ¬ (2 : Int) ≤ (i2 : Int) - (lo : Int) := by omega
                have HD := Lib.hid (show stepD lo i2 d5 = d5 by unfold stepD; rw [if_neg h2])
                go_wp2
                go_meet
                rw [HD.out]; exact HSW.out
            case rest =>
              have HC := Lib.hid hcut
              have HS7 := Lib.hid (show (stepD lo i2 d5).size = n by rw [stepD_size _ _ _ sdn_size]; exact HS5.out)
              obtain ⟨d7, hd7⟩ : ∃ d7, stepD lo i2 d5 = d7 := ⟨_, rfl⟩
              rw [hd7] at HC HS7 HPS
              clear hcut hd7 HSW HS5
              by_cases h2 : 2 ≤ hi - i2
              · have h2' : (2 : Int) ≤ (hi : Int) - (i2 : Int) := by omega
                have HD := Lib.hid (show stepU hi i2 d7 = shiftUp ltInt hi (i2 + 1) d7 by unfold stepU; rw [if_pos h2])
                go_wp2
                clear h2'
                go_loopw [10] (fun vj wr2 => ∃ (j : Nat) (dj : Array Int), vj = .int .i64 j ∧ 1 ≤ j ∧ j ≤ hi ∧ dj.size = n ∧ Row w b off dj wr2 ∧ shiftUp ltInt hi j dj = shiftUp ltInt hi (i2 + 1) d7) (fun vj _ => hi - (intOf vj).toNat)
                case atStart => exact ⟨i2 + 1, d7, by go_num, by omega, by omega, HS7.out, HC.out, rfl⟩
                case round =>
                  obtain ⟨j, dj, rfl, hj1, hjh, hsj, hR2, hS⟩ := hrel
                  obtain ⟨G, hG⟩ : ∃ G : Nat → Int, ∀ t, G t = dj[t]! := ⟨fun t => dj[t]!, fun _ => rfl⟩
                  have hcw : ∀ t, t < n → wr.cell? ⟨b, off + t, none⟩ = some (.int .u16 (G t)) := fun t ht => by rw [hG]; exact hR2.cell t (by have := hsj; omega)
                  have hfw : ∀ t, t < n → wr.frozen? ⟨b, off + t, none⟩ = false := fun t ht => hR2.froz t (by have := hsj; omega)
                  have HG6 := Lib.hid hG
                  clear hG
                  have HR6 := Lib.hid (And.intro hR2 (And.intro hsj hS))
                  clear hR2 hS hsj
                  by_cases hjh2 : j < hi
                  · have hjn : j < n := by omega
                    go_wp2
                    go_quiet (first | (go_at_call 96; refine Calls.quiet_of_same (less_is _ _ _)))
                    go_wp2_with fail
                    · have hl : (!ltInt (G j) (G (j - 1))) = true := by assumption
                      have HE := Lib.hid (show stepU hi i2 d7 = dj by rw [HD.out, ← HR6.out.2.2]; exact sup_stop (.inr (by rw [← HG6.out, ← HG6.out]; exact hl)))
                      have HF := Lib.hid (HR6.out.1.drewN nq)
                      clear hl
                      go_roundw
                      case rel => exact ⟨i2, k + 1, s', stepU hi i2 d7, rfl, by go_num, by have := HKS.out; omega, by omega, by omega, by rw [stepU_size]; exact HS7.out, by rw [HE.out]; exact HF.out, by rw [← HK.out.2.2, HPS.out]⟩
                      case measure => simp [intOf] <;> omega
                    · have hl : (!ltInt (G j) (G (j - 1))) = false := by assumption
                      have HL := Lib.hid hl
                      clear hl
                      go_region
                      all_goals go_wp2_with fail
                      go_roundw
                      case rel => exact ⟨j + 1, swp dj j (j - 1), by go_num, by omega, by omega, by rw [size_swp]; exact HR6.out.2.1, (HR6.out.1.drewN nq).drew.swap j (j - 1) (by rw [HR6.out.2.1]; omega) (by rw [HR6.out.2.1]; omega) _ _ (HG6.out _) (HG6.out _), by rw [← HR6.out.2.2]; exact (sup_go hjh2 (by rw [← HG6.out, ← HG6.out]; exact HL.out)).symm⟩
                      case measure => simp [intOf] <;> omega
                  · have HE := Lib.hid (show stepU hi i2 d7 = dj by rw [HD.out, ← HR6.out.2.2]; exact sup_stop (.inl hjh2))
                    have HF := HR6.out.1
                    have HF := Lib.hid HF
                    go_wp2
                    go_roundw
                    case rel => exact ⟨i2, k + 1, s', stepU hi i2 d7, rfl, by go_num, by have := HKS.out; omega, by omega, by omega, by rw [stepU_size]; exact HS7.out, by rw [HE.out]; exact HF.out, by rw [← HK.out.2.2, HPS.out]⟩
                    case measure => simp [intOf] <;> omega
              · have h2' : ¬ (2 : Int) ≤ (hi : Int) - (i2 : Int) := by omega
                have HD := Lib.hid (show stepU hi i2 d7 = d7 by unfold stepU; rw [if_neg h2])
                have HE := HD
                have HF := HC
                go_wp2
                go_roundw
                case rel => exact ⟨i2, k + 1, s', stepU hi i2 d7, rfl, by go_num, by have := HKS.out; omega, by omega, by omega, by rw [stepU_size]; exact HS7.out, by rw [HE.out]; exact HF.out, by rw [← HK.out.2.2, HPS.out]⟩
                case measure => simp [intOf] <;> omega
        · obtain rfl : i2 = hi := by omega
          go_quiet (first | (go_at_call 96; refine Calls.quiet_of_same (less_is _ _ _)))
          go_wp2_with fail
          have HU := Lib.hid (show scanSorted ltInt dk i2 i = i2 by rw [← HR3.out.2]; exact scan_out hlt)
          refine bodyPost_ret (results_tmp rfl _ _ _) rfl ?_
          exact ⟨ret_b (by rw [HP.out, ← HK.out.2.2, pins_yes HU.out]), (HR3.out.1.drewN _).cong (by rw [HP.out, ← HK.out.2.2, pins_yes HU.out])⟩
    · obtain rfl : s = 0 := by have := HKS.out; omega
      have hk5' : ¬ (k : Int) < 5 := by omega
      go_wp2
      go_ret
      exact ⟨ret_b (by rw [HP.out, ← HK.out.2.2]; rfl), HK.out.2.1.cong (by rw [HP.out, ← HK.out.2.2]; rfl)⟩
end Go.Proofs.YtlhblhgbpaipaaaGreat.So
