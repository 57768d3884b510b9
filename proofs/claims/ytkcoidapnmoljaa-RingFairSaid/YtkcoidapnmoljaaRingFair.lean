/-
  The law RingFair.
-/
import Derived.Test.YtkcoidapnmoljaaRingLives
import Derived.Deep.DeepCutAuto
namespace Go.Proofs.Ytkcoidapnmoljaa.Rng
open Go.RowKit
open Go.Proofs.Ytkcoidapnmoljaa.Ints
set_option linter.unusedVariables false

def FairInv (k j : Nat) (row : List Int) (st : Int) : Prop :=
  row.length = k ∧ st = (if k = 0 then 0 else ((j % 5 : Nat) : Int)) ∧ ∃ big, row = (upFrom 1 k).drop (j / 5) ++ big ∧ ∀ x ∈ big, 1000 ≤ x

theorem fair_start (k : Nat) : FairInv k 0 (upFrom 1 k) 0 := ⟨upFrom_len _ _, by split <;> rfl, [], by simp, by simp⟩
theorem fair_lone {k j : Nat} {row : List Int} {st : Int} (h : FairInv k j row st) (hk : k = 0) : FairInv k (j + 1) row 0 ∧ row = [] := by
  subst hk
  obtain ⟨h1, h2, h3⟩ := h
  have e := List.length_eq_zero_iff.1 h1
  subst e
  exact ⟨⟨rfl, by simp, [], by simp [upFrom], by simp⟩, rfl⟩
theorem fair_next {k j : Nat} {row : List Int} {st : Int} (h : FairInv k j row st) (hk : 0 < k) (hj : j % 5 < 4) : FairInv k (j + 1) row (st + 1) ∧ row ≠ [] ∧ st < 4 := by
  obtain ⟨h1, h2, big, h3, h4⟩ := h
  rw [if_neg (by omega)] at h2
  refine ⟨⟨h1, ?_, big, ?_, h4⟩, ?_, ?_⟩
  · rw [if_neg (by omega), h2]; omega
  · rw [show (j + 1) / 5 = j / 5 from by omega]; exact h3
  · intro e; subst e; simp at h1; omega
  · rw [h2]; omega
theorem fair_turn {k j : Nat} {row : List Int} {st : Int} (h : FairInv k j row st) (hk : 0 < k) (hj : j % 5 = 4) :
    ∃ x rest, row = x :: rest ∧ ¬ st < 4 ∧ FairInv k (j + 1) (rest ++ [1000 + (j : Int)]) 0 ∧ (j / 5 < k → x = ((j / 5 + 1 : Nat) : Int)) ∧ (k ≤ j / 5 → 1000 ≤ x) := by
  obtain ⟨h1, h2, big, h3, h4⟩ := h
  rw [if_neg (by omega)] at h2
  obtain ⟨x, rest, rfl⟩ : ∃ x rest, row = x :: rest := by
    cases row with
    | nil => simp at h1; omega
    | cons x rest => exact ⟨x, rest, rfl⟩
  have hst : ¬ st < 4 := by rw [h2]; omega
  have e5 : (j + 1) / 5 = j / 5 + 1 := by omega
  have hl : (rest ++ [1000 + (j : Int)]).length = k := by simpa using h1
  have hs : (0 : Int) = (if k = 0 then 0 else (((j + 1) % 5 : Nat) : Int)) := by rw [if_neg (by omega)]; omega
  refine ⟨x, rest, rfl, hst, ?_⟩
  by_cases hlt : j / 5 < k
  · have hx : (upFrom 1 k)[j / 5]? = some (1 + ((j / 5 : Nat) : Int)) := upFrom_get 1 k _ hlt
    rw [drop_cons hx] at h3
    simp only [List.cons_append, List.cons.injEq] at h3
    obtain ⟨rfl, rfl⟩ := h3
    refine ⟨⟨hl, hs, big ++ [1000 + (j : Int)], by rw [e5, List.append_assoc], ?_⟩, fun _ => by omega, fun h => by omega⟩
    intro y hy
    rcases List.mem_append.1 hy with h | h
    · exact h4 y h
    · simp at h; omega
  · have e0 : (upFrom 1 k).drop (j / 5) = [] := List.drop_eq_nil_of_le (by rw [upFrom_len]; omega)
    rw [e0, List.nil_append] at h3
    subst h3
    refine ⟨⟨hl, hs, rest ++ [1000 + (j : Int)], ?_, ?_⟩, fun h => by omega, fun _ => h4 x (by simp)⟩
    · rw [List.drop_eq_nil_of_le (by rw [upFrom_len]; omega), List.nil_append]
    · intro y hy
      rcases List.mem_append.1 hy with h | h
      · exact h4 y (by simp [h])
      · simp at h; omega

set_option maxRecDepth 100000 in
set_option maxHeartbeats 2000000 in
theorem fair_is (m : Nat) (hm : m < 256) (w : World) : Calls Try.prog 3 #[.int .u8 m] w fun e w' => e = .returned (.bool true) ∧ Below w.heap.size w w' := by
  obtain ⟨k, hk⟩ : ∃ k : Nat, k = m % 40 := ⟨_, rfl⟩
  have ek : (m : Int).tmod 40 = (k : Int) := by rw [Int.tmod_eq_emod_of_nonneg (by omega)]; omega
  have ek2 : (m : Int) % 40 = (k : Int) := by omega
  have ek3 : m % 40 = k := hk.symm
  have hk40 : k < 40 := by omega
  clear hk
  go_enter Try.func3, Try.ntmps3
  go_wp2_with fail
  refine (lives_is w).mono ?_
  rintro e w0 ⟨rfl, hb⟩
  have HB := Lib.hid hb
  clear hb
  go_wp2_with fail
  refine (new_is w0).mono ?_
  rintro e w1 ⟨rfl, hr, hg⟩
  have hrb : w.heap.size ≤ w0.heap.size := HB.out.size
  have H1 := Lib.hid (And.intro hr (below_none HB.out hg HB.out.size))
  clear hr hg
  generalize w0.heap.size = b at *
  clear HB
  go_wp2_with fail
  refine (row_is w1 1 k (by decide) (by decide) (by omega)).mono ?_
  rintro e w2 ⟨v, rfl, ho, hg⟩
  obtain ⟨a, cap, rfl, hcap, hs, hblk⟩ := Owns.parts ho
  have hr2 : IsR w2 b [] none 0 := H1.out.1.heap (hg.block b H1.out.1.lt (by simp))
  have H2 := Lib.hid (And.intro hr2 (below_none H1.out.2 hg H1.out.2.size))
  have HS := Lib.hid hs
  have HN : Hid (∀ c, a = some c → c.block ≠ b ∧ c.block < w2.heap.size) := Lib.hid fun c hc => ⟨fun e => by have h1 := (hblk c hc).1; have h2 := H1.out.1.lt; omega, (hblk c hc).2⟩
  have HCap := Lib.hid hcap
  clear hr2 hg hs hblk ho hcap
  go_wp2_with fail
  refine (putall_is H2.out.1 a cap HS.out HCap.out HN.out (by rw [upFrom_len]; omega) k (by rw [upFrom_len]; simp; omega)).mono ?_
  rintro e w3 ⟨v, rfl, ho, hr, hg⟩
  have hr3 : IsR w3 b (upFrom 1 k) none 0 := by
    have : (upFrom 1 k).take k = upFrom 1 k := by rw [List.take_of_length_le]; rw [upFrom_len]; exact Nat.le_refl _
    simpa [this] using hr
  obtain ⟨a2, cap2, rfl, _⟩ := Owns.parts ho
  have e0 : ((upFrom 1 k).drop k).length = 0 := by simp [upFrom_len]
  rw [e0]
  have H3 := Lib.hid (And.intro hr3 (below_step H2.out.2 hg hrb H2.out.2.size))
  clear hr hr3 hg ho e0 HS HN HCap
  go_wp2_with fail
  refine (ready_none H3.out.1 1000).mono ?_
  rintro e w4 ⟨rfl, hr, hg⟩
  have H4 := Lib.hid (And.intro hr (below_step H3.out.2 hg hrb H3.out.2.size))
  clear hr hg
  go_wp2_with fail
  go_loopw [5, 6, 28] (fun nx fd i wr => ∃ j f : Nat, j ≤ 5 * k + 5 ∧ i = .int .i64 j ∧ nx = .int .i64 (1000 + (j : Int)) ∧ fd = .int .i64 f ∧ f = min (j / 5) k ∧ ∃ row st, IsR wr b row (some (1000 + (j : Int))) st ∧ FairInv k j row st ∧ Below w.heap.size w wr) (fun _ _ i _ => 5 * k + 5 - (intOf i).toNat)
  case atStart => exact ⟨0, 0, Nat.zero_le _, rfl, rfl, rfl, by simp, _, 0, H4.out.1, fair_start k, H4.out.2⟩
  case round =>
    obtain ⟨j, f, hj, rfl, rfl, rfl, hf, row, st, hr, hi, hb⟩ := hrel
    have HR := Lib.hid hr
    have HI := Lib.hid hi
    have HB := Lib.hid hb
    have HF := Lib.hid hf
    have hfk : f ≤ 40 := by omega
    clear hr hi hb hf
    by_cases hlen : j < 5 * k + 5
    · by_cases hk0 : k = 0
      · obtain ⟨hi1, rfl⟩ := fair_lone HI.out hk0
        have HI1 := Lib.hid hi1
        have HK0 := Lib.hid hk0
        clear hi1 hk0
        go_wp2_with fail
        refine (get_lone HR.out).mono ?_
        rintro e w5 ⟨rfl, hr, hg⟩
        have H5 := Lib.hid (And.intro hr (below_step HB.out hg hrb HB.out.size))
        clear hr hg
        go_wp2_with fail
        refine (ready_none H5.out.1 _).mono ?_
        rintro e w6 ⟨rfl, hr, hg⟩
        rw [show 1000 + (j : Int) + 1 = 1000 + ((j + 1 : Nat) : Int) from by omega] at hr
        have H6 := Lib.hid (And.intro hr (below_step H5.out.2 hg hrb H5.out.2.size))
        clear hr hg
        go_wp2_with fail
        go_roundw
        case rel => exact ⟨j + 1, f, by omega, by go_num, by go_num, rfl, by have := HF.out; have := HK0.out; omega, _, _, H6.out.1, HI1.out, H6.out.2⟩
        case measure => simp [intOf]; omega
      · by_cases hj5 : j % 5 < 4
        · obtain ⟨hi1, hne, hst⟩ := fair_next HI.out (by omega) hj5
          have HI1 := Lib.hid hi1
          clear hi1
          go_wp2_with fail
          refine (get_next HR.out hne hst).mono ?_
          rintro e w5 ⟨rfl, hr, hg⟩
          have H5 := Lib.hid (And.intro hr (below_step HB.out hg hrb HB.out.size))
          clear hr hg hne hst
          go_wp2_with fail
          refine (ready_none H5.out.1 _).mono ?_
          rintro e w6 ⟨rfl, hr, hg⟩
          rw [show 1000 + (j : Int) + 1 = 1000 + ((j + 1 : Nat) : Int) from by omega] at hr
          have H6 := Lib.hid (And.intro hr (below_step H5.out.2 hg hrb H5.out.2.size))
          clear hr hg
          go_wp2_with fail
          go_roundw
          case rel => exact ⟨j + 1, f, by omega, by go_num, by go_num, rfl, by have := HF.out; omega, _, _, H6.out.1, HI1.out, H6.out.2⟩
          case measure => simp [intOf]; omega
        · obtain ⟨x, rest, rfl, hst, hi1, hx1, hx2⟩ := fair_turn HI.out (by omega) (by omega)
          have HI1 := Lib.hid hi1
          clear hi1
          by_cases hjk : j / 5 < k
          · have ex := hx1 hjk
            subst ex
            clear hx1 hx2
            go_wp2_with fail
            refine (get_turn HR.out (by omega)).mono ?_
            rintro e w5 ⟨rfl, hr, hg⟩
            have H5 := Lib.hid (And.intro hr (below_step HB.out hg hrb HB.out.size))
            have ef : f + 1 = j / 5 + 1 := by have := HF.out; omega
            rw [← ef]
            clear hr hg
            go_wp2_with fail
            refine (ready_none H5.out.1 _).mono ?_
            rintro e w6 ⟨rfl, hr, hg⟩
            rw [show 1000 + (j : Int) + 1 = 1000 + ((j + 1 : Nat) : Int) from by omega] at hr
            have H6 := Lib.hid (And.intro hr (below_step H5.out.2 hg hrb H5.out.2.size))
            clear hr hg
            go_wp2_with fail
            go_roundw
            case rel => exact ⟨j + 1, f + 1, by omega, by go_num, by go_num, by go_num, by have := HF.out; omega, _, _, H6.out.1, HI1.out, H6.out.2⟩
            case measure => simp [intOf]; omega
          · have ex := hx2 (by omega)
            clear hx1 hx2
            go_wp2_with fail
            refine (get_turn HR.out (by omega)).mono ?_
            rintro e w5 ⟨rfl, hr, hg⟩
            have H5 := Lib.hid (And.intro hr (below_step HB.out hg hrb HB.out.size))
            clear hr hg
            go_wp2_with fail
            refine (ready_none H5.out.1 _).mono ?_
            rintro e w6 ⟨rfl, hr, hg⟩
            rw [show 1000 + (j : Int) + 1 = 1000 + ((j + 1 : Nat) : Int) from by omega] at hr
            have H6 := Lib.hid (And.intro hr (below_step H5.out.2 hg hrb H5.out.2.size))
            clear hr hg
            go_wp2_with fail
            go_roundw
            case rel => exact ⟨j + 1, f, by omega, by go_num, by go_num, rfl, by have := HF.out; omega, _, _, H6.out.1, HI1.out, H6.out.2⟩
            case measure => simp [intOf]; omega
    · obtain rfl : f = k := by have := HF.out; omega
      clear HF
      go_wp2_with fail
      go_ret
      exact ⟨rfl, HB.out⟩
theorem fair_any (a : Int) (h : 0 ≤ a ∧ a ≤ 255) (w : World) : Calls Try.prog 3 #[.int .u8 a] w fun e w' => e = .returned (.bool true) ∧ Below w.heap.size w w' := by
  obtain ⟨m, rfl⟩ : ∃ m : Nat, a = m := ⟨a.toNat, by omega⟩
  exact fair_is m (by omega) w
end Go.Proofs.Ytkcoidapnmoljaa.Rng
