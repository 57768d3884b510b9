/-
  The library's sort at uint16: partitionEqualOrdered.
-/
import Derived.Test.YtlhblhgbpaipaaaGreatMgSo
namespace Go.Proofs.YtlhblhgbpaipaaaGreat.So
open Go.RowKit Go.Sort
set_option linter.unusedVariables false

theorem ret_is {a b : Int} (h : a = b) : Ending.returned (.int .i64 a) = .returned (.int .i64 b) := by rw [h]
theorem up_go {p : Int → Bool} {d : Array Int} {j i : Nat} (h : i ≤ j) (hp : p d[i]! = true) : scanUp p d j i = scanUp p d j (i + 1) := by rw [scanUp, if_pos (by simp [h, hp])]
theorem up_stop {p : Int → Bool} {d : Array Int} {j i : Nat} (hp : p d[i]! = false) : scanUp p d j i = i := by rw [scanUp, if_neg (by simp [hp])]
theorem up_out {p : Int → Bool} {d : Array Int} {j i : Nat} (h : ¬ i ≤ j) : scanUp p d j i = i := by rw [scanUp, if_neg (by simp [h])]
theorem down_go {p : Int → Bool} {d : Array Int} {j i : Nat} (h0 : 0 < j) (h : i ≤ j) (hp : p d[j]! = true) : scanDown p d i j = scanDown p d i (j - 1) := by
  obtain ⟨k, rfl⟩ : ∃ k, j = k + 1 := ⟨j - 1, by omega⟩
  rw [scanDown, if_pos (by simp [h, hp])]; rfl
theorem down_stop {p : Int → Bool} {d : Array Int} {j i : Nat} (hp : p d[j]! = false) : scanDown p d i j = j := by
  cases j with
  | zero => rfl
  | succ k => rw [scanDown, if_neg (by simp [hp])]
theorem down_out {p : Int → Bool} {d : Array Int} {j i : Nat} (h : ¬ i ≤ j) : scanDown p d i j = j := by
  cases j with
  | zero => rfl
  | succ k => rw [scanDown, if_neg (by simp [h])]

/-- The places where the two scans stop are not one: the tests are each other's opposite. -/
theorem scans_apart (p q : Int → Bool) (hq : ∀ x, q x = !p x) (d : Array Int) (i j : Nat) (hi : 0 < i) (hij : i ≤ j + 1) (h : scanUp p d j i ≤ scanDown q d (scanUp p d j i) j) : scanUp p d j i < scanDown q d (scanUp p d j i) j :=
  (round_facts p q hq d (i - 1) (j + 1) i j (by omega) hij (fun t h1 h2 => by omega) (fun t h1 h2 => by omega)).2.2.2.2.2.2 (by omega) |>.2.2

set_option maxRecDepth 100000 in
set_option maxHeartbeats 4000000 in
theorem peq_is {b off cap n lo hi pv : Nat} {d : Array Int} {w : World} (hn : d.size = n) (hH : Holds (Value.int .u16) w b off d) (hlo : lo ≤ pv) (hpv : pv < hi) (hhi : hi ≤ n) (hsz : n < 1152921504606846976) :
    Calls Tryz.prog 97 #[.slice (some ⟨b, off, none⟩) n cap, .int .i64 lo, .int .i64 hi, .int .i64 pv] w fun e w' => e = .returned (.int .i64 (partitionEqual ltInt d lo hi pv).1) ∧ Row w b off (partitionEqual ltInt d lo hi pv).2 w' := by
  have HP := Lib.hid (show partitionEqual ltInt d lo hi pv = partEqLoop ltInt lo (lo + 1) (hi - 1) (swp d lo pv) from rfl)
  have hR0 : Row w b off d w := ⟨hH, ⟨rfl, rfl, rfl, Nat.le_refl _, fun _ _ _ => rfl⟩⟩
  have H0 := Lib.hid (And.intro hR0 hn)
  obtain ⟨G, hG⟩ : ∃ G : Nat → Int, ∀ t, G t = d[t]! := ⟨fun t => d[t]!, fun _ => rfl⟩
  have hcw : ∀ t, t < n → w.cell? ⟨b, off + t, none⟩ = some (.int .u16 (G t)) := fun t ht => by rw [hG]; exact hR0.cell t (by omega)
  have hfw : ∀ t, t < n → w.frozen? ⟨b, off + t, none⟩ = false := fun t ht => hR0.froz t (by omega)
  obtain ⟨v', hv'⟩ : ∃ v', ((w.setCell ⟨b, off + lo, none⟩ (.int .u16 (G pv))).drew).cell? ⟨b, off + pv, none⟩ = some v' := ⟨_, ((hR0.set lo (by omega) (G pv)).drew).cell pv (by simp; omega)⟩
  have HG := Lib.hid hG
  have hln : lo < n := by omega
  have hpn : pv < n := by omega
  clear hR0 hG hH hn
  go_enter Tryz.func97, Tryz.ntmps97
  go_wp2
  go_region
  all_goals go_wp2
  have H1 := Lib.hid ((H0.out.1.drew).swap lo pv (by rw [H0.out.2]; omega) (by rw [H0.out.2]; omega) _ _ (HG.out _) (HG.out _))
  clear hcw hfw hv' v' 
  go_loopw [9, 10] (fun vi vj wr => ∃ (i j : Nat) (dk : Array Int), vi = .int .i64 i ∧ vj = .int .i64 j ∧ lo < i ∧ i ≤ j + 1 ∧ j < hi ∧ dk.size = n ∧ Row w b off dk wr ∧ partEqLoop ltInt lo i j dk = partEqLoop ltInt lo (lo + 1) (hi - 1) (swp d lo pv)) (fun vi vj _ => (intOf vj + 1 - intOf vi).toNat)
  case atStart => exact ⟨lo + 1, hi - 1, _, by go_num, by congr 1; omega, by omega, by omega, by omega, by rw [size_swp]; exact H0.out.2, H1.out, rfl⟩
  case round =>
    clear H0 H1 HG
    obtain ⟨i, j, dk, rfl, rfl, hli, hij, hjh, hsk, hR, hO⟩ := hrel
    have HK := Lib.hid (And.intro hsk (And.intro hR hO))
    have HLT := Lib.hid (scans_apart (fun x => !ltInt dk[lo]! x) (fun x => ltInt dk[lo]! x) (fun x => by simp) dk i j (by omega) hij)
    clear hsk hR hO
    obtain ⟨wo, hwo⟩ : ∃ wo : World, wo = wr := ⟨_, rfl⟩
    rw [← hwo] at HK
    have HW := Lib.hid hwo
    clear hwo
    go_wp2
    go_loopw [9] (fun vi wr2 => ∃ i2 : Nat, vi = .int .i64 i2 ∧ i ≤ i2 ∧ i2 ≤ j + 1 ∧ Row w b off dk wr2 ∧ scanUp (fun x => !ltInt dk[lo]! x) dk j i2 = scanUp (fun x => !ltInt dk[lo]! x) dk j i) (fun vi _ => j + 1 - (intOf vi).toNat)
    case atStart => exact ⟨i, rfl, Nat.le_refl _, hij, HW.out ▸ HK.out.2.1, rfl⟩
    case round =>
      obtain ⟨i2, rfl, hii, hi2j, hR2, hS⟩ := hrel
      obtain ⟨G, hG⟩ : ∃ G : Nat → Int, ∀ t, G t = dk[t]! := ⟨fun t => dk[t]!, fun _ => rfl⟩
      have hcw : ∀ t, t < n → wr.cell? ⟨b, off + t, none⟩ = some (.int .u16 (G t)) := fun t ht => by rw [hG]; exact hR2.cell t (by have := HK.out.1; omega)
      have hfw : ∀ t, t < n → wr.frozen? ⟨b, off + t, none⟩ = false := fun t ht => hR2.froz t (by have := HK.out.1; omega)
      have HR3 := Lib.hid (And.intro hR2 hS)
      have HG3 := Lib.hid hG
      clear hR2 hS hG
      go_wp2
      by_cases hle : i2 ≤ j
      · have hin : i2 < n := by omega
        go_quiet (first | (go_at_call 96; refine Calls.quiet_of_same (less_is _ _ _)))
        go_wp2
        · have hl : (!ltInt (G lo) (G i2)) = true := by assumption
          go_roundw
          case rel => exact ⟨i2 + 1, by go_num, by omega, by omega, HR3.out.1.drewN _, by rw [← HR3.out.2]; exact (up_go hle (by rw [← HG3.out, ← HG3.out]; exact hl)).symm⟩
          case measure => simp [intOf] <;> omega
        · have hl : (!ltInt (G lo) (G i2)) = false := by assumption
          have HU := Lib.hid (show scanUp (fun x => !ltInt dk[lo]! x) dk j i = i2 by rw [← HR3.out.2]; exact up_stop (by rw [← HG3.out, ← HG3.out]; exact hl))
          have HRU := Lib.hid (HR3.out.1.drewN nq)
          clear hl hcw hfw HR3 HG3
          generalize wr.drewN nq = W3 at *
          have hi1 : 0 < i2 := by omega
          go_loopw [10] (fun vj wr2 => ∃ j2 : Nat, vj = .int .i64 j2 ∧ j2 ≤ j ∧ i2 ≤ j2 + 1 ∧ Row w b off dk wr2 ∧ scanDown (fun x => ltInt dk[lo]! x) dk i2 j2 = scanDown (fun x => ltInt dk[lo]! x) dk i2 j) (fun vj _ => (intOf vj).toNat)
          case atStart => exact ⟨j, rfl, Nat.le_refl _, hi2j, HRU.out, rfl⟩
          case round =>
            obtain ⟨j2, rfl, hjj, hij2, hR2, hS⟩ := hrel
            obtain ⟨G, hG⟩ : ∃ G : Nat → Int, ∀ t, G t = dk[t]! := ⟨fun t => dk[t]!, fun _ => rfl⟩
            have hcw : ∀ t, t < n → wr.cell? ⟨b, off + t, none⟩ = some (.int .u16 (G t)) := fun t ht => by rw [hG]; exact hR2.cell t (by have := HK.out.1; omega)
            have hfw : ∀ t, t < n → wr.frozen? ⟨b, off + t, none⟩ = false := fun t ht => hR2.froz t (by have := HK.out.1; omega)
            have HR4 := Lib.hid (And.intro hR2 hS)
            have HG4 := Lib.hid hG
            clear hR2 hS hG
            go_wp2
            by_cases hle2 : i2 ≤ j2
            · have hjn : j2 < n := by omega
              go_quiet (first | (go_at_call 96; refine Calls.quiet_of_same (less_is _ _ _)))
              go_wp2_with fail
              · have hl : ltInt (G lo) (G j2) = true := by assumption
                go_roundw
                case rel => exact ⟨j2 - 1, by congr 1; omega, by omega, by omega, HR4.out.1.drewN _, by rw [← HR4.out.2]; exact (down_go (by omega) hle2 (by rw [← HG4.out, ← HG4.out]; exact hl)).symm⟩
                case measure => simp [intOf] <;> omega
              · have hl : ltInt (G lo) (G j2) = false := by assumption
                have HD := Lib.hid (show scanDown (fun x => ltInt dk[lo]! x) dk i2 j = j2 by rw [← HR4.out.2]; exact down_stop (by rw [← HG4.out, ← HG4.out]; exact hl))
                have HRD := Lib.hid (HR4.out.1.drewN nq)
                have hgt : ¬ j2 < i2 := by omega
                have hji : i2 < j2 := by
                  have h := HLT.out (by rw [HU.out, HD.out]; exact hle2)
                  rw [HU.out, HD.out] at h; exact h
                go_region
                all_goals go_wp2_with fail
                go_roundw
                case rel => exact ⟨i2 + 1, j2 - 1, swp dk i2 j2, by go_num, by congr 1; omega, by omega, by omega, by omega, by rw [size_swp]; exact HK.out.1, (HR4.out.1.drewN nq).drew.swap i2 j2 (by rw [HK.out.1]; omega) (by rw [HK.out.1]; omega) _ _ (HG4.out _) (HG4.out _), by rw [← HK.out.2.2, partEqLoop_eq ltInt lo i j dk, HU.out, HD.out, if_neg hgt]⟩
                case measure => simp [intOf] <;> omega
            · go_quiet (first | (go_at_call 96; refine Calls.quiet_of_same (less_is _ _ _)))
              go_wp2_with fail
              have HD := Lib.hid (show scanDown (fun x => ltInt dk[lo]! x) dk i2 j = j2 by rw [← HR4.out.2]; exact down_out hle2)
              have HRD := Lib.hid (HR4.out.1.drewN nq)
              clear hcw hfw HR4 HG4
              have hgt : j2 < i2 := by omega
              go_wp2_with fail
              go_ret
              exact ⟨ret_is (by rw [HP.out, ← HK.out.2.2, partEqLoop_eq ltInt lo i j dk, HU.out, HD.out, if_pos hgt]), HRD.out.cong (by rw [HP.out, ← HK.out.2.2, partEqLoop_eq ltInt lo i j dk, HU.out, HD.out, if_pos hgt])⟩
      · go_quiet (first | (go_at_call 96; refine Calls.quiet_of_same (less_is _ _ _)))
        go_wp2
        have HU := Lib.hid (show scanUp (fun x => !ltInt dk[lo]! x) dk j i = i2 by rw [← HR3.out.2]; exact up_out hle)
        have HRU := Lib.hid (HR3.out.1.drewN nq)
        clear hcw hfw HR3 HG3
        generalize wr.drewN nq = W3 at *
        have hi1 : 0 < i2 := by omega
        go_loopw [10] (fun vj wr2 => ∃ j2 : Nat, vj = .int .i64 j2 ∧ j2 ≤ j ∧ i2 ≤ j2 + 1 ∧ Row w b off dk wr2 ∧ scanDown (fun x => ltInt dk[lo]! x) dk i2 j2 = scanDown (fun x => ltInt dk[lo]! x) dk i2 j) (fun vj _ => (intOf vj).toNat)
        case atStart => exact ⟨j, rfl, Nat.le_refl _, hi2j, HRU.out, rfl⟩
        case round =>
          obtain ⟨j2, rfl, hjj, hij2, hR2, hS⟩ := hrel
          obtain ⟨G, hG⟩ : ∃ G : Nat → Int, ∀ t, G t = dk[t]! := ⟨fun t => dk[t]!, fun _ => rfl⟩
          have hcw : ∀ t, t < n → wr.cell? ⟨b, off + t, none⟩ = some (.int .u16 (G t)) := fun t ht => by rw [hG]; exact hR2.cell t (by have := HK.out.1; omega)
          have hfw : ∀ t, t < n → wr.frozen? ⟨b, off + t, none⟩ = false := fun t ht => hR2.froz t (by have := HK.out.1; omega)
          have HR4 := Lib.hid (And.intro hR2 hS)
          have HG4 := Lib.hid hG
          clear hR2 hS hG
          go_wp2
          by_cases hle2 : i2 ≤ j2
          · omega
          · go_quiet (first | (go_at_call 96; refine Calls.quiet_of_same (less_is _ _ _)))
            go_wp2_with fail
            have HD := Lib.hid (show scanDown (fun x => ltInt dk[lo]! x) dk i2 j = j2 by rw [← HR4.out.2]; exact down_out hle2)
            have HRD := Lib.hid (HR4.out.1.drewN nq)
            clear hcw hfw HR4 HG4
            have hgt : j2 < i2 := by omega
            go_wp2_with fail
            go_ret
            exact ⟨ret_is (by rw [HP.out, ← HK.out.2.2, partEqLoop_eq ltInt lo i j dk, HU.out, HD.out, if_pos hgt]), HRD.out.cong (by rw [HP.out, ← HK.out.2.2, partEqLoop_eq ltInt lo i j dk, HU.out, HD.out, if_pos hgt])⟩
end Go.Proofs.YtlhblhgbpaipaaaGreat.So
