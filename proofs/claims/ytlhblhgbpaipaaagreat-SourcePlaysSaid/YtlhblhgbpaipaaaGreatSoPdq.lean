/-
  The library's sort at uint16: pdqsortOrdered sorts.
-/
import Derived.Test.YtlhblhgbpaipaaaGreatMgSo2
import Derived.Sort.LotD3
namespace Go.Proofs.YtlhblhgbpaipaaaGreat.So
open Go.RowKit Go.Sort
set_option linter.unusedVariables false

/-- Where the loop of pdqsort stands: the row, and that sorting what is left sorts all. -/
structure St (w : World) (b off n lo hi : Nat) (d : Array Int) (p q : Nat) (dk : Array Int) (wr : World) : Prop where
  size : dk.size = n
  row : Row w b off dk wr
  below : Sort.Below ltInt p q dk
  go : ∀ R, PermIn p q dk R → SortedIn ltInt p q R → PermIn lo hi d R ∧ SortedIn ltInt lo hi R
section
variable {w : World} {b off n lo hi : Nat} {d : Array Int} {p q : Nat} {dk : Array Int} {wr : World}
theorem St.step (h : St w b off n lo hi d p q dk wr) {d2 : Array Int} {w2 : World} (hq : q ≤ n) (hp : PermIn p q dk d2) (hr : Row wr b off d2 w2) : St w b off n lo hi d p q d2 w2 :=
  ⟨hp.1.trans h.size, h.row.trans hr, h.below.perm (by rw [h.size]; exact hq) hp, fun R k1 k2 => h.go R (permIn_trans _ _ _ _ _ hp k1) k2⟩
theorem St.move (h : St w b off n lo hi d p q dk wr) {w2 : World} (hr : Row wr b off dk w2) : St w b off n lo hi d p q dk w2 := ⟨h.size, h.row.trans hr, h.below, h.go⟩
theorem St.lt (h : St w b off n lo hi d p q dk wr) (hb : b < w.heap.size) : b < wr.heap.size := Nat.lt_of_lt_of_le hb h.row.grown.size
/-- What is left was sorted: all is. -/
theorem St.done (h : St w b off n lo hi d p q dk wr) {d2 : Array Int} {w2 : World} (hp : PermIn p q dk d2) (hs : SortedIn ltInt p q d2) (hr : Row wr b off d2 w2) : ∃ d', d'.size = n ∧ PermIn lo hi d d' ∧ SortedIn ltInt lo hi d' ∧ Row w b off d' w2 :=
  ⟨d2, hp.1.trans h.size, (h.go d2 hp hs).1, (h.go d2 hp hs).2, h.row.trans hr⟩
end

/-- pdqsort sorts what is shorter than N. -/
def PdqAt (N : Nat) : Prop := ∀ {b off cap n lo hi lim : Nat} {d : Array Int} {w : World}, hi - lo < N → d.size = n → Holds (Value.int .u16) w b off d → b < w.heap.size → lo ≤ hi → hi ≤ n → n < 1152921504606846976 → lim < 1152921504606846976 → Sort.Below ltInt lo hi d →
    Calls Tryz.prog 84 #[.slice (some ⟨b, off, none⟩) n cap, .int .i64 lo, .int .i64 hi, .int .i64 lim] w fun e w' => e = .returned (.tuple #[]) ∧ ∃ d', d'.size = n ∧ PermIn lo hi d d' ∧ SortedIn ltInt lo hi d' ∧ Row w b off d' w'

set_option maxRecDepth 100000 in
set_option maxHeartbeats 8000000 in
theorem pdq_is : ∀ N : Nat, PdqAt N := by
  intro N
  induction N with
  | zero => intro _ _ _ _ _ _ _ _ _ h; exact absurd h (Nat.not_lt_zero _)
  | succ N ih =>
    intro b off cap n lo hi lim d w hN hn hH hbw hlo hhi hsz hlim hBel
    have IH : Hid (PdqAt N) := Lib.hid ih
    have H0 : Hid (St w b off n lo hi d lo hi d w) := Lib.hid ⟨hn, ⟨hH, ⟨rfl, rfl, rfl, Nat.le_refl _, fun _ _ _ => rfl⟩⟩, hBel, fun R h1 h2 => ⟨h1, h2⟩⟩
    clear ih hn hH hBel
    go_enter Tryz.func84, Tryz.ntmps84
    go_wp2
    go_loopg [1, 2, 3, 8, 9] (hi - lo) (fun k s1 s2 s3 s8 s9 wr => ∃ (p q l2 : Nat) (wb wp : Bool) (dk : Array Int), s1 = .int .i64 p ∧ s2 = .int .i64 q ∧ s3 = .int .i64 l2 ∧ s8 = .bool wb ∧ s9 = .bool wp ∧ p ≤ q ∧ q ≤ n ∧ q - p ≤ k ∧ k ≤ hi - lo ∧ l2 ≤ lim ∧ St w b off n lo hi d p q dk wr)
    case atStart => exact ⟨lo, hi, lim, true, true, d, rfl, rfl, rfl, rfl, rfl, hlo, hhi, Nat.le_refl _, Nat.le_refl _, Nat.le_refl _, H0.out⟩
    case round =>
      clear H0
      obtain ⟨p, q, l2, wb, wp, dk, rfl, rfl, rfl, rfl, rfl, hpq, hqn, hk, hkN, hl2, hS⟩ := hrel
      have HS := Lib.hid hS
      clear hS
      by_cases h12 : q - p ≤ 12
      · have h12z : (q : Int) - (p : Int) ≤ 12 := by omega
        go_wp2_with fail
        refine (ins_is HS.out.size HS.out.row.holds hpq hqn (by omega)).mono ?_
        rintro e w1 ⟨rfl, h1⟩
        have hso := insertionSort_holds swo_ltInt dk p q hpq (by rw [HS.out.size]; exact hqn)
        have HF := Lib.hid (HS.out.done hso.1 hso.2 h1)
        clear h1 hso
        go_wp2_with fail
        refine bodyPost_ret (results_none rfl _ _ _) rfl ?_
        exact ⟨rfl, HF.out⟩
      · have h12z : ¬ ((q : Int) - (p : Int) ≤ 12) := by omega
        have h12n : p + 12 < q := by omega
        by_cases hl0 : l2 = 0
        · subst hl0
          go_wp2_with fail
          refine (heap_is HS.out.size HS.out.row.holds (by omega) hqn hsz).mono ?_
          rintro e w1 ⟨rfl, h1⟩
          have hso := heapSort_holds swo_ltInt dk p q hpq (by rw [HS.out.size]; exact hqn)
          have HF := Lib.hid (HS.out.done hso.1 hso.2 h1)
          clear h1 hso
          go_wp2_with fail
          refine bodyPost_ret (results_none rfl _ _ _) rfl ?_
          exact ⟨rfl, HF.out⟩
        · have hl0z : ((l2 : Int) == 0) = false := by simp; omega
          go_upto_if 35 with fail
          go_cut [3] (fun s3 wc => ∃ (l3 : Nat) (d1 : Array Int), s3 = .int .i64 l3 ∧ l3 ≤ lim ∧ St w b off n lo hi d p q d1 wc)
          case first =>
            cases wb with
            | false =>
              go_wp2_with fail
              refine (break_is HS.out.size HS.out.row.holds (HS.out.lt hbw) h12n hqn hsz).mono ?_
              rintro e w1 ⟨rfl, d1, hs1, hp1, h1⟩
              have HF := Lib.hid (HS.out.step hqn hp1 h1)
              clear h1 hp1 hs1
              go_wp2_with fail
              go_meet
              exact ⟨l2 - 1, d1, by congr 1; omega, by omega, HF.out⟩
            | true =>
              go_wp2_with fail
              go_meet
              exact ⟨l2, dk, rfl, hl2, HS.out⟩
          case rest =>
            obtain ⟨l3, d1, rfl, hl3, hS1⟩ := hcut
            have HS1 := Lib.hid hS1
            clear hS1 HS hl0z
            go_upto_if 50 with (go_at_call 93; refine (choose_is HS1.out.size HS1.out.row.holds (HS1.out.lt hbw) h12n hqn hsz).mono ?_; rintro e w2 ⟨pv, hv, rfl, hpv1, hpv2, hhv, h2⟩; have HS2 := Lib.hid (HS1.out.move h2); clear h2)
            go_cut [11, 12] (fun s11 s12 wc => ∃ (pv hv : Nat) (d2 : Array Int), s11 = .int .i64 pv ∧ s12 = .int .i64 hv ∧ p ≤ pv ∧ pv < q ∧ hv ≤ 2 ∧ St w b off n lo hi d p q d2 wc)
            case first =>
              by_cases hv2 : hv = 2
              · subst hv2
                go_wp2_with fail
                refine (rev_is HS2.out.size HS2.out.row.holds (by omega) hqn (by omega)).mono ?_
                rintro e w3 ⟨rfl, h3⟩
                have HF := Lib.hid (HS2.out.step hqn (reverseRange_holds d1 p q hpq (by rw [HS2.out.size]; exact hqn)) h3)
                clear h3
                go_wp2_with fail
                go_meet
                exact ⟨q - 1 - (pv - p), 1, _, by congr 1; omega, rfl, by omega, by omega, by decide, HF.out⟩
              · have hv2z : ((hv : Int) == 2) = false := by simp; omega
                go_wp2_with fail
                go_meet
                exact ⟨pv, hv, d1, rfl, rfl, hpv1, hpv2, hhv, HS2.out⟩
            case rest =>
              clear hpv1 hpv2 hhv HS1 HS2
              obtain ⟨pv, hv, d2, rfl, rfl, hpv1, hpv2, hhv, hS2⟩ := hcut
              have HS2 := Lib.hid hS2
              clear hS2
              go_upto_region 15 with fail
              go_cut [68] (fun s68 wx => (∃ v : Bool, s68 = .bool v) ∧ St w b off n lo hi d p q d2 wx)
              case first =>
                have hz : hv = 1 ∨ ((hv : Int) == 1) = false := by
                  by_cases e : hv = 1
                  · exact .inl e
                  · exact .inr (by simp; omega)
                rcases hz with rfl | hz <;> cases wb <;> cases wp <;> (go_wp2_with fail; go_meet; exact ⟨⟨_, rfl⟩, HS2.out⟩)
              case rest =>
                obtain ⟨⟨vb, rfl⟩, hS3⟩ := hcut
                have HS3 := Lib.hid hS3
                clear hS3 HS2
                go_upto_if 68 with fail
                go_cut [72] (fun _ wx => ∃ d3, St w b off n lo hi d p q d3 wx)
                case first =>
                  cases vb with
                  | false =>
                    go_wp2_with fail
                    go_meet
                    exact ⟨d2, HS3.out⟩
                  | true =>
                    go_wp2_with fail
                    refine (pins_is HS3.out.size HS3.out.row.holds (by omega) hqn hsz).mono ?_
                    rintro e w4 ⟨rfl, h4⟩
                    have hpi := partialInsertionSort_holds swo_ltInt d2 p q (by omega) (by rw [HS3.out.size]; exact hqn) HS3.out.below
                    cases hr : (partialInsertionSort ltInt d2 p q).2 with
                    | true =>
                      have HF := Lib.hid (HS3.out.done hpi.1 (hpi.2 hr) h4)
                      clear h4 hpi hr
                      go_wp2_with fail
                      refine bodyPost_ret (results_none rfl _ _ _) rfl ?_
                      exact ⟨rfl, HF.out⟩
                    | false =>
                      have HF := Lib.hid (HS3.out.step hqn hpi.1 h4)
                      clear h4 hpi hr
                      go_wp2_with fail
                      go_meet
                      exact ⟨_, HF.out⟩
                case rest =>
                  clear HS3
                  obtain ⟨d3, hS4⟩ := hcut
                  have HS4 := Lib.hid hS4
                  have hsz4 := hS4.size
                  clear hS4
                  obtain ⟨G, hG⟩ : ∃ G : Nat → Int, ∀ t, G t = d3[t]! := ⟨fun t => d3[t]!, fun _ => rfl⟩
                  have hcw : ∀ t, t < n → wc.cell? ⟨b, off + t, none⟩ = some (.int .u16 (G t)) := fun t ht => by rw [hG]; exact HS4.out.row.cell t (by omega)
                  have hfw : ∀ t, t < n → wc.frozen? ⟨b, off + t, none⟩ = false := fun t ht => HS4.out.row.froz t (by omega)
                  have HG := Lib.hid hG
                  have hpvn : pv < n := by omega
                  clear hG hsz4
                  go_upto_region 17 with fail
                  go_cut [87] (fun s87 wx => ∃ v : Bool, s87 = .bool v ∧ (v = true → 0 < p ∧ ltInt d3[p - 1]! d3[pv]! = false) ∧ St w b off n lo hi d p q d3 wx)
                  case first =>
                    rcases Nat.eq_zero_or_pos p with hp0 | hp0
                    · have hp0z : decide ((0 : Int) < (p : Int)) = false := decide_eq_false (by omega)
                      go_big_quiet (first | (go_at_call 96; refine Calls.quiet_of_same (less_is _ _ _)))
                      go_wp2_with fail
                      go_meet
                      exact ⟨_, rfl, (fun h => by cases h), HS4.out.move ((HS4.out.row.here).drewN _)⟩
                    · have hp0z : (0 : Int) < (p : Int) := by omega
                      have hp1n : p - 1 < n := by omega
                      go_big_quiet (first | (go_at_call 96; refine Calls.quiet_of_same (less_is _ _ _)))
                      go_wp2_with fail
                      go_meet
                      exact ⟨_, rfl, (fun h => ⟨hp0, by rw [← HG.out, ← HG.out]; simpa using h⟩), HS4.out.move ((HS4.out.row.here).drewN _)⟩
                  case rest =>
                    clear hcw hfw HG HS4
                    obtain ⟨v, rfl, hv3, hS5⟩ := hcut
                    have HS5 := Lib.hid hS5
                    have hqs : q ≤ d3.size := by rw [hS5.size]; exact hqn
                    clear hS5
                    cases v with
                    | true =>
                      obtain ⟨hp0, hnl⟩ := hv3 rfl
                      obtain ⟨mid, d4, hx⟩ : ∃ mid d4, partitionEqual ltInt d3 p q pv = (mid, d4) := ⟨_, _, rfl⟩
                      obtain ⟨r1, r2, r3, r4, r5⟩ := round_eq swo_ltInt (partitionEqual_holds ltInt) hp0 hpv1 hpv2 hqs HS5.out.below hnl hx
                      have hc := peq_is (cap := cap) HS5.out.size HS5.out.row.holds hpv1 hpv2 hqn hsz
                      rw [hx] at hc
                      have HR := Lib.hid (And.intro r3 (And.intro r4 r5))
                      clear r3 r4 r5 hx hv3 hnl
                      go_wp2_with fail
                      refine hc.mono ?_
                      rintro e w5 ⟨rfl, h5⟩
                      have HF : Hid (St w b off n lo hi d mid q d4 w5) := Lib.hid ⟨HR.out.1.trans HS5.out.size, HS5.out.row.trans h5, HR.out.2.1, fun R k1 k2 => HS5.out.go R (HR.out.2.2 R k1 k2).1 (HR.out.2.2 R k1 k2).2⟩
                      clear h5 hc
                      go_wp2_with fail
                      go_roundg (q - mid)
                      case measure => omega
                      case rel => exact ⟨mid, q, l3, wb, wp, d4, rfl, rfl, rfl, rfl, rfl, r2, hqn, Nat.le_refl _, by omega, hl3, HF.out⟩
                    | false =>
                      obtain ⟨mid, ap, d4, hx⟩ : ∃ mid ap d4, Sort.partition ltInt d3 p q pv = (mid, ap, d4) := ⟨(Sort.partition ltInt d3 p q pv).1, (Sort.partition ltInt d3 p q pv).2.1, (Sort.partition ltInt d3 p q pv).2.2, rfl⟩
                      obtain ⟨r1, r2, r3, r4, r5, r6, r7⟩ := round_part swo_ltInt (partition_holds ltInt) hpv1 hpv2 hqs HS5.out.below hx
                      have hc := part_is (cap := cap) HS5.out.size HS5.out.row.holds hpv1 hpv2 hqn hsz
                      rw [hx] at hc
                      have HR := Lib.hid (And.intro (r3.trans HS5.out.size) (And.intro r4 (And.intro r5 (And.intro r6 r7))))
                      obtain ⟨m1, hm1⟩ : ∃ m1, m1 = mid + 1 := ⟨_, rfl⟩
                      have e1 : (mid : Int) + 1 = (m1 : Int) := by omega
                      have HM := Lib.hid hm1
                      have hm1q : m1 ≤ q := by omega
                      have hmid1 : mid < m1 := by omega
                      clear r3 r4 r5 r6 r7 hx hv3 hm1
                      go_wp2_with fail
                      refine hc.mono ?_
                      rintro e w6 ⟨rfl, h6⟩
                      have H6 := Lib.hid (HS5.out.row.trans h6)
                      clear h6 hc
                      by_cases h4 : mid - p < q - mid
                      · have h4z : (mid : Int) - (p : Int) < (q : Int) - (mid : Int) := by omega
                        go_wp2_with fail
                        refine (IH.out (by omega) HR.out.1 H6.out.holds (Nat.lt_of_lt_of_le hbw H6.out.grown.size) r1 (by omega) hsz (by omega) HR.out.2.1).mono ?_
                        rintro e w7 ⟨rfl, L, hL, hpL, hsL, h7⟩
                        have HF : Hid (St w b off n lo hi d m1 q L w7) := Lib.hid (by
                          obtain ⟨k1, k2⟩ := HR.out.2.2.2.1 L hpL hsL
                          rw [← HM.out] at k1 k2
                          exact ⟨hL, H6.out.trans h7, k1, fun R a1 a2 => HS5.out.go R (k2 R a1 a2).1 (k2 R a1 a2).2⟩)
                        clear h7 hpL hsL hL
                        go_wp2_with fail
                        go_roundg (q - m1)
                        case measure => omega
                        case rel => exact ⟨m1, q, l3, _, _, L, rfl, rfl, rfl, rfl, rfl, hm1q, hqn, Nat.le_refl _, by omega, hl3, HF.out⟩
                      · have h4z : ¬ (mid : Int) - (p : Int) < (q : Int) - (mid : Int) := by omega
                        go_wp2_with fail
                        refine (IH.out (by omega) HR.out.1 H6.out.holds (Nat.lt_of_lt_of_le hbw H6.out.grown.size) hm1q hqn hsz (by omega) (by rw [HM.out]; exact HR.out.2.2.1)).mono ?_
                        rintro e w7 ⟨rfl, L, hL, hpL, hsL, h7⟩
                        have HF : Hid (St w b off n lo hi d p mid L w7) := Lib.hid (by
                          rw [HM.out] at hpL hsL
                          obtain ⟨k1, k2⟩ := HR.out.2.2.2.2 L hpL hsL
                          exact ⟨hL, H6.out.trans h7, k1, fun R a1 a2 => HS5.out.go R (k2 R a1 a2).1 (k2 R a1 a2).2⟩)
                        clear h7 hpL hsL hL
                        go_wp2_with fail
                        go_roundg (mid - p)
                        case measure => omega
                        case rel => exact ⟨p, mid, l3, _, _, L, rfl, rfl, rfl, rfl, rfl, r1, by omega, Nat.le_refl _, by omega, hl3, HF.out⟩
end Go.Proofs.YtlhblhgbpaipaaaGreat.So
