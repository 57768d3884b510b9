/-
  The library's sort at uint16: partitionOrdered.
-/
import Derived.Test.YtlhblhgbpaipaaaGreatSoPeq
namespace Go.Proofs.YtlhblhgbpaipaaaGreat.So
open Go.RowKit Go.Sort
set_option linter.unusedVariables false

theorem ret_ib {a b : Int} {x y : Bool} (h : a = b) (k : x = y) : Ending.returned (.tuple #[.int .i64 a, .bool x]) = .returned (.tuple #[.int .i64 b, .bool y]) := by rw [h, k]
theorem part_yes {d d1 : Array Int} {lo hi pv i j i2 j2 : Nat} (h1 : d1 = swp d lo pv) (hi' : i = lo + 1) (hj : j = hi - 1) (hU : scanUp (fun x => ltInt x d1[lo]!) d1 j i = i2) (hD : scanDown (fun x => !ltInt x d1[lo]!) d1 i2 j = j2) (h : j2 < i2) :
    Sort.partition ltInt d lo hi pv = (j2, true, swp d1 j2 lo) := by
  subst h1 hi' hj
  unfold Sort.partition
  simp only [hU, hD, if_pos (show i2 > j2 from h)]
theorem part_no {d d1 : Array Int} {lo hi pv i j i2 j2 : Nat} (h1 : d1 = swp d lo pv) (hi' : i = lo + 1) (hj : j = hi - 1) (hU : scanUp (fun x => ltInt x d1[lo]!) d1 j i = i2) (hD : scanDown (fun x => !ltInt x d1[lo]!) d1 i2 j = j2) (h : ¬ j2 < i2) :
    Sort.partition ltInt d lo hi pv = ((partLoop ltInt lo (i2 + 1) (j2 - 1) (swp d1 i2 j2)).1, false, swp (partLoop ltInt lo (i2 + 1) (j2 - 1) (swp d1 i2 j2)).2 (partLoop ltInt lo (i2 + 1) (j2 - 1) (swp d1 i2 j2)).1 lo) := by
  subst h1 hi' hj
  unfold Sort.partition
  simp only [hU, hD, if_neg (show ¬ i2 > j2 from h)]

set_option maxRecDepth 100000 in
set_option maxHeartbeats 8000000 in
theorem part_is {b off cap n lo hi pv : Nat} {d : Array Int} {w : World} (hn : d.size = n) (hH : Holds (Value.int .u16) w b off d) (hlo : lo ≤ pv) (hpv : pv < hi) (hhi : hi ≤ n) (hsz : n < 1152921504606846976) :
    Calls Tryz.prog 98 #[.slice (some ⟨b, off, none⟩) n cap, .int .i64 lo, .int .i64 hi, .int .i64 pv] w fun e w' => e = .returned (.tuple #[.int .i64 (Sort.partition ltInt d lo hi pv).1, .bool (Sort.partition ltInt d lo hi pv).2.1]) ∧ Row w b off (Sort.partition ltInt d lo hi pv).2.2 w' := by
  have hR0 : Row w b off d w := ⟨hH, ⟨rfl, rfl, rfl, Nat.le_refl _, fun _ _ _ => rfl⟩⟩
  have H0 := Lib.hid (And.intro hR0 hn)
  obtain ⟨G, hG⟩ : ∃ G : Nat → Int, ∀ t, G t = d[t]! := ⟨fun t => d[t]!, fun _ => rfl⟩
  have hcw : ∀ t, t < n → w.cell? ⟨b, off + t, none⟩ = some (.int .u16 (G t)) := fun t ht => by rw [hG]; exact hR0.cell t (by omega)
  have hfw : ∀ t, t < n → w.frozen? ⟨b, off + t, none⟩ = false := fun t ht => hR0.froz t (by omega)
  obtain ⟨v', hv'⟩ : ∃ v', ((w.setCell ⟨b, off + lo, none⟩ (.int .u16 (G pv))).drew).cell? ⟨b, off + pv, none⟩ = some v' := ⟨_, ((hR0.set lo (by omega) (G pv)).drew).cell pv (by simp; omega)⟩
  have HG := Lib.hid hG
  have hln : lo < n := by omega
  have hpn : pv < n := by omega
  obtain ⟨i, hi'⟩ : ∃ i, i = lo + 1 := ⟨_, rfl⟩
  obtain ⟨j, hj'⟩ : ∃ j, j = hi - 1 := ⟨_, rfl⟩
  have e1 : (lo : Int) + 1 = (i : Int) := by omega
  have e2 : (hi : Int) - 1 = (j : Int) := by omega
  have hij : i ≤ j + 1 := by omega
  have hli : lo < i := by omega
  have hjh : j < hi := by omega
  have HI := Lib.hid (And.intro hi' hj')
  clear hR0 hG hH hn hi' hj'
  go_enter Tryz.func98, Tryz.ntmps98
  go_wp2
  go_region
  all_goals go_wp2
  have h1 := (H0.out.1.drew).swap lo pv (by rw [H0.out.2]; omega) (by rw [H0.out.2]; omega) _ _ (HG.out _) (HG.out _)
  obtain ⟨d1, hd1⟩ : ∃ d1, d1 = swp d lo pv := ⟨_, rfl⟩
  rw [← hd1] at h1
  have H1 := Lib.hid h1
  have HS1 := Lib.hid (show d1.size = n by rw [hd1, size_swp]; exact H0.out.2)
  have HD1 := Lib.hid hd1
  have HLT1 := Lib.hid (scans_apart (fun x => ltInt x d1[lo]!) (fun x => !ltInt x d1[lo]!) (fun x => by simp) d1 i j (by omega) hij)
  clear hcw hfw hv' v' e1 e2 hd1 h1 H0 HG
  go_loopw [10] (fun vi wr2 => ∃ i2 : Nat, vi = .int .i64 i2 ∧ i ≤ i2 ∧ i2 ≤ j + 1 ∧ Row w b off d1 wr2 ∧ scanUp (fun x => ltInt x d1[lo]!) d1 j i2 = scanUp (fun x => ltInt x d1[lo]!) d1 j i) (fun vi _ => j + 1 - (intOf vi).toNat)
  case atStart => exact ⟨i, rfl, Nat.le_refl _, hij, H1.out, rfl⟩
  case round =>
    obtain ⟨i2, rfl, hii, hi2j, hR2, hS⟩ := hrel
    obtain ⟨G, hG⟩ : ∃ G : Nat → Int, ∀ t, G t = d1[t]! := ⟨fun t => d1[t]!, fun _ => rfl⟩
    have hcw : ∀ t, t < n → wr.cell? ⟨b, off + t, none⟩ = some (.int .u16 (G t)) := fun t ht => by rw [hG]; exact hR2.cell t (by have := HS1.out; omega)
    have hfw : ∀ t, t < n → wr.frozen? ⟨b, off + t, none⟩ = false := fun t ht => hR2.froz t (by have := HS1.out; omega)
    have HR3 := Lib.hid (And.intro hR2 hS)
    have HG3 := Lib.hid hG
    clear hR2 hS hG
    go_wp2
    by_cases hle : i2 ≤ j
    · have hin : i2 < n := by omega
      go_quiet (first | (go_at_call 96; refine Calls.quiet_of_same (less_is _ _ _)))
      go_wp2
      · have hl : ltInt (G i2) (G lo) = true := by assumption
        go_roundw
        case rel => exact ⟨i2 + 1, by go_num, by omega, by omega, HR3.out.1.drewN _, by rw [← HR3.out.2]; exact (up_go hle (by rw [← HG3.out, ← HG3.out]; exact hl)).symm⟩
        case measure => simp [intOf] <;> omega
      · have hl : ltInt (G i2) (G lo) = false := by assumption
        have HU := Lib.hid (show scanUp (fun x => ltInt x d1[lo]!) d1 j i = i2 by rw [← HR3.out.2]; exact up_stop (by rw [← HG3.out, ← HG3.out]; exact hl))
        have HRU := Lib.hid (HR3.out.1.drewN nq)
        clear hl hcw hfw HR3 HG3
        generalize wr.drewN nq = W3 at *
        have hi1 : 0 < i2 := by omega
        go_loopw [11] (fun vj wr2 => ∃ j2 : Nat, vj = .int .i64 j2 ∧ j2 ≤ j ∧ i2 ≤ j2 + 1 ∧ Row w b off d1 wr2 ∧ scanDown (fun x => !ltInt x d1[lo]!) d1 i2 j2 = scanDown (fun x => !ltInt x d1[lo]!) d1 i2 j) (fun vj _ => (intOf vj).toNat)
        case atStart => exact ⟨j, rfl, Nat.le_refl _, hi2j, HRU.out, rfl⟩
        case round =>
          obtain ⟨j2, rfl, hjj, hij2, hR2, hS⟩ := hrel
          obtain ⟨G, hG⟩ : ∃ G : Nat → Int, ∀ t, G t = d1[t]! := ⟨fun t => d1[t]!, fun _ => rfl⟩
          have hcw : ∀ t, t < n → wr.cell? ⟨b, off + t, none⟩ = some (.int .u16 (G t)) := fun t ht => by rw [hG]; exact hR2.cell t (by have := HS1.out; omega)
          have hfw : ∀ t, t < n → wr.frozen? ⟨b, off + t, none⟩ = false := fun t ht => hR2.froz t (by have := HS1.out; omega)
          have HR4 := Lib.hid (And.intro hR2 hS)
          have HG4 := Lib.hid hG
          clear hR2 hS hG
          go_wp2
          by_cases hle2 : i2 ≤ j2
          · have hjn : j2 < n := by omega
            go_quiet (first | (go_at_call 96; refine Calls.quiet_of_same (less_is _ _ _)))
            go_wp2_with fail
            · have hl : (!ltInt (G j2) (G lo)) = true := by assumption
              go_roundw
              case rel => exact ⟨j2 - 1, by congr 1; omega, by omega, by omega, HR4.out.1.drewN _, by rw [← HR4.out.2]; exact (down_go (by omega) hle2 (by rw [← HG4.out, ← HG4.out]; exact hl)).symm⟩
              case measure => simp [intOf] <;> omega
            · have hl : (!ltInt (G j2) (G lo)) = false := by assumption
              have HD := Lib.hid (show scanDown (fun x => !ltInt x d1[lo]!) d1 i2 j = j2 by rw [← HR4.out.2]; exact down_stop (by rw [← HG4.out, ← HG4.out]; exact hl))
              have HRD := Lib.hid (HR4.out.1.drewN nq)
              have hgt : ¬ j2 < i2 := by omega
              have hji : i2 < j2 := by
                have h := HLT1.out (by rw [HU.out, HD.out]; exact hle2)
                rw [HU.out, HD.out] at h; exact h
              go_region
              all_goals go_wp2_with fail
              have HSW := Lib.hid ((HR4.out.1.drewN nq).drew.swap i2 j2 (by rw [HS1.out]; omega) (by rw [HS1.out]; omega) _ _ (HG4.out _) (HG4.out _))
              obtain ⟨r0, hr0⟩ : ∃ r0, partLoop ltInt lo (i2 + 1) (j2 - 1) (swp d1 i2 j2) = r0 := ⟨_, rfl⟩
              have HPN := Lib.hid (show Sort.partition ltInt d lo hi pv = (r0.1, false, swp r0.2 r0.1 lo) by rw [← hr0]; exact part_no HD1.out HI.out.1 HI.out.2 HU.out HD.out hgt)
              have HR0 := Lib.hid hr0
              clear hr0 hcw hfw
              go_loopw [10, 11] (fun vi vj wr => ∃ (i j : Nat) (dk : Array Int), vi = .int .i64 i ∧ vj = .int .i64 j ∧ lo < i ∧ i ≤ j + 1 ∧ j < hi ∧ dk.size = n ∧ Row w b off dk wr ∧ partLoop ltInt lo i j dk = r0) (fun vi vj _ => (intOf vj + 1 - intOf vi).toNat)
              case atStart => exact ⟨i2 + 1, j2 - 1, _, by go_num, by congr 1; omega, by omega, by omega, by omega, by rw [size_swp]; exact HS1.out, HSW.out, HR0.out⟩
              case round =>
                clear HSW HR0 HU HD HRU HRD HR4 HG4 HI HD1 HLT1 H1 HS1
                obtain ⟨i, j, dk, rfl, rfl, hli, hij, hjh, hsk, hR, hO⟩ := hrel
                have HK := Lib.hid (And.intro hsk (And.intro hR hO))
                have HLT := Lib.hid (scans_apart (fun x => ltInt x dk[lo]!) (fun x => !ltInt x dk[lo]!) (fun x => by simp) dk i j (by omega) hij)
                clear hsk hR hO
                obtain ⟨wo, hwo⟩ : ∃ wo : World, wo = wr := ⟨_, rfl⟩
                rw [← hwo] at HK
                have HW := Lib.hid hwo
                clear hwo
                go_wp2
                go_loopw [10] (fun vi wr2 => ∃ i2 : Nat, vi = .int .i64 i2 ∧ i ≤ i2 ∧ i2 ≤ j + 1 ∧ Row w b off dk wr2 ∧ scanUp (fun x => ltInt x dk[lo]!) dk j i2 = scanUp (fun x => ltInt x dk[lo]!) dk j i) (fun vi _ => j + 1 - (intOf vi).toNat)
                case atStart => exact ⟨i, rfl, Nat.le_refl _, hij, HW.out ▸ HK.out.2.1, rfl⟩
                case round =>
                  obtain ⟨i2, rfl, hii, hi2j, hR2, hS⟩ := hrel
                  obtain ⟨G, hG⟩ : ∃ G : Nat → Int, ∀ t, G t = dk[t]! := ⟨fun t => dk[t]!, fun _ => rfl⟩
                  have hcw : ∀ t, t < n → wr.cell? ⟨b, off + t, none⟩ = some (.int .u16 (G t)) := fun t ht => by rw [hG]; exact hR2.cell t (by have := HK.out.1; omega)
                  have hfw : ∀ t, t < n → wr.frozen? ⟨b, off + t, none⟩ = false := fun t ht => hR2.froz t (by have := HK.out.1; omega)
                  have HR5 := Lib.hid (And.intro hR2 hS)
                  have HG5 := Lib.hid hG
                  clear hR2 hS hG
                  go_wp2
                  by_cases hle : i2 ≤ j
                  · have hin : i2 < n := by omega
                    go_quiet (first | (go_at_call 96; refine Calls.quiet_of_same (less_is _ _ _)))
                    go_wp2
                    · have hl : ltInt (G i2) (G lo) = true := by assumption
                      go_roundw
                      case rel => exact ⟨i2 + 1, by go_num, by omega, by omega, HR5.out.1.drewN _, by rw [← HR5.out.2]; exact (up_go hle (by rw [← HG5.out, ← HG5.out]; exact hl)).symm⟩
                      case measure => simp [intOf] <;> omega
                    · have hl : ltInt (G i2) (G lo) = false := by assumption
                      have HU := Lib.hid (show scanUp (fun x => ltInt x dk[lo]!) dk j i = i2 by rw [← HR5.out.2]; exact up_stop (by rw [← HG5.out, ← HG5.out]; exact hl))
                      have HRU := Lib.hid (HR5.out.1.drewN nq)
                      clear hl hcw hfw HR5 HG5
                      generalize wr.drewN nq = W5 at *
                      have hi1 : 0 < i2 := by omega
                      go_loopw [11] (fun vj wr2 => ∃ j2 : Nat, vj = .int .i64 j2 ∧ j2 ≤ j ∧ i2 ≤ j2 + 1 ∧ Row w b off dk wr2 ∧ scanDown (fun x => !ltInt x dk[lo]!) dk i2 j2 = scanDown (fun x => !ltInt x dk[lo]!) dk i2 j) (fun vj _ => (intOf vj).toNat)
                      case atStart => exact ⟨j, rfl, Nat.le_refl _, hi2j, HRU.out, rfl⟩
                      case round =>
                        obtain ⟨j2, rfl, hjj, hij2, hR2, hS⟩ := hrel
                        obtain ⟨G, hG⟩ : ∃ G : Nat → Int, ∀ t, G t = dk[t]! := ⟨fun t => dk[t]!, fun _ => rfl⟩
                        have hcw : ∀ t, t < n → wr.cell? ⟨b, off + t, none⟩ = some (.int .u16 (G t)) := fun t ht => by rw [hG]; exact hR2.cell t (by have := HK.out.1; omega)
                        have hfw : ∀ t, t < n → wr.frozen? ⟨b, off + t, none⟩ = false := fun t ht => hR2.froz t (by have := HK.out.1; omega)
                        have HR6 := Lib.hid (And.intro hR2 hS)
                        have HG6 := Lib.hid hG
                        clear hR2 hS hG
                        go_wp2
                        by_cases hle2 : i2 ≤ j2
                        · have hjn : j2 < n := by omega
                          go_quiet (first | (go_at_call 96; refine Calls.quiet_of_same (less_is _ _ _)))
                          go_wp2_with fail
                          · have hl : (!ltInt (G j2) (G lo)) = true := by assumption
                            go_roundw
                            case rel => exact ⟨j2 - 1, by congr 1; omega, by omega, by omega, HR6.out.1.drewN _, by rw [← HR6.out.2]; exact (down_go (by omega) hle2 (by rw [← HG6.out, ← HG6.out]; exact hl)).symm⟩
                            case measure => simp [intOf] <;> omega
                          · have hl : (!ltInt (G j2) (G lo)) = false := by assumption
                            have HD := Lib.hid (show scanDown (fun x => !ltInt x dk[lo]!) dk i2 j = j2 by rw [← HR6.out.2]; exact down_stop (by rw [← HG6.out, ← HG6.out]; exact hl))
                            have HRD := Lib.hid (HR6.out.1.drewN nq)
                            have hgt : ¬ j2 < i2 := by omega
                            have hji : i2 < j2 := by
                              have h := HLT.out (by rw [HU.out, HD.out]; exact hle2)
                              rw [HU.out, HD.out] at h; exact h
                            go_region
                            all_goals go_wp2_with fail
                            go_roundw
                            case rel => exact ⟨i2 + 1, j2 - 1, swp dk i2 j2, by go_num, by congr 1; omega, by omega, by omega, by omega, by rw [size_swp]; exact HK.out.1, (HR6.out.1.drewN nq).drew.swap i2 j2 (by rw [HK.out.1]; omega) (by rw [HK.out.1]; omega) _ _ (HG6.out _) (HG6.out _), by rw [← HK.out.2.2, partLoop_eq ltInt lo i j dk, HU.out, HD.out, if_neg hgt]⟩
                            case measure => simp [intOf] <;> omega
                        · go_quiet (first | (go_at_call 96; refine Calls.quiet_of_same (less_is _ _ _)))
                          go_wp2_with fail
                          have HD := Lib.hid (show scanDown (fun x => !ltInt x dk[lo]!) dk i2 j = j2 by rw [← HR6.out.2]; exact down_out hle2)
                          have HRD := Lib.hid (HR6.out.1.drewN nq)
                          clear hcw hfw HR6 HG6
                          have hgt : j2 < i2 := by omega
                          generalize wr.drewN nq = W9 at *
                          obtain ⟨G, hG⟩ : ∃ G : Nat → Int, ∀ t, G t = dk[t]! := ⟨fun t => dk[t]!, fun _ => rfl⟩
                          have hcw : ∀ t, t < n → W9.cell? ⟨b, off + t, none⟩ = some (.int .u16 (G t)) := fun t ht => by rw [hG]; exact HRD.out.cell t (by have := HK.out.1; omega)
                          have hfw : ∀ t, t < n → W9.frozen? ⟨b, off + t, none⟩ = false := fun t ht => HRD.out.froz t (by have := HK.out.1; omega)
                          obtain ⟨v', hv'⟩ : ∃ v', ((W9.setCell ⟨b, off + j2, none⟩ (.int .u16 (G lo))).drew).cell? ⟨b, off + lo, none⟩ = some v' := ⟨_, ((HRD.out.set j2 (by have := HK.out.1; omega) (G lo)).drew).cell lo (by have := HK.out.1; simp; omega)⟩
                          have HG9 := Lib.hid hG
                          have hjn : j2 < n := by omega
                          clear hG
                          go_wp2_with fail
                          go_region
                          all_goals go_wp2_with fail
                          go_ret2
                          have HE := Lib.hid (show r0 = (j2, dk) by rw [← HK.out.2.2, partLoop_eq ltInt lo i j dk, HU.out, HD.out, if_pos hgt])
                          exact ⟨ret_ib (by rw [HPN.out, HE.out]) (by rw [HPN.out]), (HRD.out.drew.swap j2 lo (by have := HK.out.1; omega) (by have := HK.out.1; omega) _ _ (HG9.out _) (HG9.out _)).cong (by rw [HPN.out, HE.out])⟩
                  · go_quiet (first | (go_at_call 96; refine Calls.quiet_of_same (less_is _ _ _)))
                    go_wp2
                    have HU := Lib.hid (show scanUp (fun x => ltInt x dk[lo]!) dk j i = i2 by rw [← HR5.out.2]; exact up_out hle)
                    have HRU := Lib.hid (HR5.out.1.drewN nq)
                    clear hcw hfw HR5 HG5
                    generalize wr.drewN nq = W5 at *
                    have hi1 : 0 < i2 := by omega
                    go_loopw [11] (fun vj wr2 => ∃ j2 : Nat, vj = .int .i64 j2 ∧ j2 ≤ j ∧ i2 ≤ j2 + 1 ∧ Row w b off dk wr2 ∧ scanDown (fun x => !ltInt x dk[lo]!) dk i2 j2 = scanDown (fun x => !ltInt x dk[lo]!) dk i2 j) (fun vj _ => (intOf vj).toNat)
                    case atStart => exact ⟨j, rfl, Nat.le_refl _, hi2j, HRU.out, rfl⟩
                    case round =>
                      obtain ⟨j2, rfl, hjj, hij2, hR2, hS⟩ := hrel
                      obtain ⟨G, hG⟩ : ∃ G : Nat → Int, ∀ t, G t = dk[t]! := ⟨fun t => dk[t]!, fun _ => rfl⟩
                      have hcw : ∀ t, t < n → wr.cell? ⟨b, off + t, none⟩ = some (.int .u16 (G t)) := fun t ht => by rw [hG]; exact hR2.cell t (by have := HK.out.1; omega)
                      have hfw : ∀ t, t < n → wr.frozen? ⟨b, off + t, none⟩ = false := fun t ht => hR2.froz t (by have := HK.out.1; omega)
                      have HR6 := Lib.hid (And.intro hR2 hS)
                      have HG6 := Lib.hid hG
                      clear hR2 hS hG
                      go_wp2
                      by_cases hle2 : i2 ≤ j2
                      · omega
                      · go_quiet (first | (go_at_call 96; refine Calls.quiet_of_same (less_is _ _ _)))
                        go_wp2_with fail
                        have HD := Lib.hid (show scanDown (fun x => !ltInt x dk[lo]!) dk i2 j = j2 by rw [← HR6.out.2]; exact down_out hle2)
                        have HRD := Lib.hid (HR6.out.1.drewN nq)
                        clear hcw hfw HR6 HG6
                        have hgt : j2 < i2 := by omega
                        generalize wr.drewN nq = W9 at *
                        obtain ⟨G, hG⟩ : ∃ G : Nat → Int, ∀ t, G t = dk[t]! := ⟨fun t => dk[t]!, fun _ => rfl⟩
                        have hcw : ∀ t, t < n → W9.cell? ⟨b, off + t, none⟩ = some (.int .u16 (G t)) := fun t ht => by rw [hG]; exact HRD.out.cell t (by have := HK.out.1; omega)
                        have hfw : ∀ t, t < n → W9.frozen? ⟨b, off + t, none⟩ = false := fun t ht => HRD.out.froz t (by have := HK.out.1; omega)
                        obtain ⟨v', hv'⟩ : ∃ v', ((W9.setCell ⟨b, off + j2, none⟩ (.int .u16 (G lo))).drew).cell? ⟨b, off + lo, none⟩ = some v' := ⟨_, ((HRD.out.set j2 (by have := HK.out.1; omega) (G lo)).drew).cell lo (by have := HK.out.1; simp; omega)⟩
                        have HG9 := Lib.hid hG
                        have hjn : j2 < n := by omega
                        clear hG
                        go_wp2_with fail
                        go_region
                        all_goals go_wp2_with fail
                        go_ret2
                        have HE := Lib.hid (show r0 = (j2, dk) by rw [← HK.out.2.2, partLoop_eq ltInt lo i j dk, HU.out, HD.out, if_pos hgt])
                        exact ⟨ret_ib (by rw [HPN.out, HE.out]) (by rw [HPN.out]), (HRD.out.drew.swap j2 lo (by have := HK.out.1; omega) (by have := HK.out.1; omega) _ _ (HG9.out _) (HG9.out _)).cong (by rw [HPN.out, HE.out])⟩
          · go_quiet (first | (go_at_call 96; refine Calls.quiet_of_same (less_is _ _ _)))
            go_wp2_with fail
            have HD := Lib.hid (show scanDown (fun x => !ltInt x d1[lo]!) d1 i2 j = j2 by rw [← HR4.out.2]; exact down_out hle2)
            have HRD := Lib.hid (HR4.out.1.drewN nq)
            clear hcw hfw HR4 HG4
            have hgt : j2 < i2 := by omega
            generalize wr.drewN nq = W9 at *
            obtain ⟨G, hG⟩ : ∃ G : Nat → Int, ∀ t, G t = d1[t]! := ⟨fun t => d1[t]!, fun _ => rfl⟩
            have hcw : ∀ t, t < n → W9.cell? ⟨b, off + t, none⟩ = some (.int .u16 (G t)) := fun t ht => by rw [hG]; exact HRD.out.cell t (by have := HS1.out; omega)
            have hfw : ∀ t, t < n → W9.frozen? ⟨b, off + t, none⟩ = false := fun t ht => HRD.out.froz t (by have := HS1.out; omega)
            obtain ⟨v', hv'⟩ : ∃ v', ((W9.setCell ⟨b, off + j2, none⟩ (.int .u16 (G lo))).drew).cell? ⟨b, off + lo, none⟩ = some v' := ⟨_, ((HRD.out.set j2 (by have := HS1.out; omega) (G lo)).drew).cell lo (by have := HS1.out; simp; omega)⟩
            have HG9 := Lib.hid hG
            have hjn : j2 < n := by omega
            clear hG
            go_wp2_with fail
            go_region
            all_goals go_wp2_with fail
            go_ret2
            have HE := Lib.hid (show Sort.partition ltInt d lo hi pv = (j2, true, swp d1 j2 lo) from part_yes HD1.out HI.out.1 HI.out.2 HU.out HD.out hgt)
            exact ⟨ret_ib (by rw [HE.out]) (by rw [HE.out]), (HRD.out.drew.swap j2 lo (by have := HS1.out; omega) (by have := HS1.out; omega) _ _ (HG9.out _) (HG9.out _)).cong (by rw [HE.out])⟩
    · go_quiet (first | (go_at_call 96; refine Calls.quiet_of_same (less_is _ _ _)))
      go_wp2
      have HU := Lib.hid (show scanUp (fun x => ltInt x d1[lo]!) d1 j i = i2 by rw [← HR3.out.2]; exact up_out hle)
      have HRU := Lib.hid (HR3.out.1.drewN nq)
      clear hcw hfw HR3 HG3
      generalize wr.drewN nq = W3 at *
      have hi1 : 0 < i2 := by omega
      go_loopw [11] (fun vj wr2 => ∃ j2 : Nat, vj = .int .i64 j2 ∧ j2 ≤ j ∧ i2 ≤ j2 + 1 ∧ Row w b off d1 wr2 ∧ scanDown (fun x => !ltInt x d1[lo]!) d1 i2 j2 = scanDown (fun x => !ltInt x d1[lo]!) d1 i2 j) (fun vj _ => (intOf vj).toNat)
      case atStart => exact ⟨j, rfl, Nat.le_refl _, hi2j, HRU.out, rfl⟩
      case round =>
        obtain ⟨j2, rfl, hjj, hij2, hR2, hS⟩ := hrel
        obtain ⟨G, hG⟩ : ∃ G : Nat → Int, ∀ t, G t = d1[t]! := ⟨fun t => d1[t]!, fun _ => rfl⟩
        have hcw : ∀ t, t < n → wr.cell? ⟨b, off + t, none⟩ = some (.int .u16 (G t)) := fun t ht => by rw [hG]; exact hR2.cell t (by have := HS1.out; omega)
        have hfw : ∀ t, t < n → wr.frozen? ⟨b, off + t, none⟩ = false := fun t ht => hR2.froz t (by have := HS1.out; omega)
        have HR4 := Lib.hid (And.intro hR2 hS)
        have HG4 := Lib.hid hG
        clear hR2 hS hG
        go_wp2
        by_cases hle2 : i2 ≤ j2
        · omega
        · go_quiet (first | (go_at_call 96; refine Calls.quiet_of_same (less_is _ _ _)))
          go_wp2_with fail
          have HD := Lib.hid (show scanDown (fun x => !ltInt x d1[lo]!) d1 i2 j = j2 by rw [← HR4.out.2]; exact down_out hle2)
          have HRD := Lib.hid (HR4.out.1.drewN nq)
          clear hcw hfw HR4 HG4
          have hgt : j2 < i2 := by omega
          generalize wr.drewN nq = W9 at *
          obtain ⟨G, hG⟩ : ∃ G : Nat → Int, ∀ t, G t = d1[t]! := ⟨fun t => d1[t]!, fun _ => rfl⟩
          have hcw : ∀ t, t < n → W9.cell? ⟨b, off + t, none⟩ = some (.int .u16 (G t)) := fun t ht => by rw [hG]; exact HRD.out.cell t (by have := HS1.out; omega)
          have hfw : ∀ t, t < n → W9.frozen? ⟨b, off + t, none⟩ = false := fun t ht => HRD.out.froz t (by have := HS1.out; omega)
          obtain ⟨v', hv'⟩ : ∃ v', ((W9.setCell ⟨b, off + j2, none⟩ (.int .u16 (G lo))).drew).cell? ⟨b, off + lo, none⟩ = some v' := ⟨_, ((HRD.out.set j2 (by have := HS1.out; omega) (G lo)).drew).cell lo (by have := HS1.out; simp; omega)⟩
          have HG9 := Lib.hid hG
          have hjn : j2 < n := by omega
          clear hG
          go_wp2_with fail
          go_region
          all_goals go_wp2_with fail
          go_ret2
          have HE := Lib.hid (show Sort.partition ltInt d lo hi pv = (j2, true, swp d1 j2 lo) from part_yes HD1.out HI.out.1 HI.out.2 HU.out HD.out hgt)
          exact ⟨ret_ib (by rw [HE.out]) (by rw [HE.out]), (HRD.out.drew.swap j2 lo (by have := HS1.out; omega) (by have := HS1.out; omega) _ _ (HG9.out _) (HG9.out _)).cong (by rw [HE.out])⟩
end Go.Proofs.YtlhblhgbpaipaaaGreat.So
