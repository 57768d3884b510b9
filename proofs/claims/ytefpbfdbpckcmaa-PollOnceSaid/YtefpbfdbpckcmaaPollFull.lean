/-
  The law PollFull.
-/
import Derived.Test.YtefpbfdbpckcmaaPollLives
namespace Go.Proofs.Ytefpbfdbpckcmaa.Pl
open Go.RowKit
set_option linter.unusedVariables false
set_option linter.unusedSimpArgs false

theorem wf_u16 {x : Int} (h : (Lit.int .u16 x).wf = true) : 0 ≤ x ∧ x < 65536 := by
  simp [Lit.wf, IntKind.min, IntKind.max, IntKind.signed, IntKind.bits] at h
  omega

/-- The first i descriptors: k that are ready, then such that are waited for. -/
def stF (k : Nat) (j : Nat) : St := if j < k then ⟨0, false, true⟩ else ⟨j, true, false⟩
def FF (k i : Nat) : List (Int × St) := (List.range i).map fun (j : Nat) => ((j : Int), stF k j)
def GG (k i : Nat) : List (Int × Int) := ((List.range i).filter fun (j : Nat) => decide (k ≤ j)).map fun (j : Nat) => ((j : Int), (j : Int))
theorem FF_succ (k i : Nat) : FF k (i + 1) = FF k i ++ [((i : Int), stF k i)] := by simp [FF, List.range_succ]
theorem GG_succ (k i : Nat) : GG k (i + 1) = if k ≤ i then GG k i ++ [((i : Int), (i : Int))] else GG k i := by
  unfold GG
  rw [List.range_succ, List.filter_append, List.map_append]
  by_cases h : k ≤ i <;> simp [h]
theorem FF_len (k i : Nat) : (FF k i).length = i := by simp [FF]
theorem FF_no {k i : Nat} {x : Int} (h : x < 0 ∨ (i : Int) ≤ x) : alook (FF k i) x = none := by
  rw [alook_none]
  intro hm
  obtain ⟨p, hp, rfl⟩ := List.mem_map.1 hm
  obtain ⟨j, hj, rfl⟩ := List.mem_map.1 hp
  have := List.mem_range.1 hj
  simp at h; omega
theorem FF_nodup (k i : Nat) : ((FF k i).map (·.1)).Nodup := by
  have : (FF k i).map (·.1) = (List.range i).map (fun (j : Nat) => (j : Int)) := by simp [FF, Function.comp_def]
  rw [this]
  exact List.Pairwise.map _ (fun a b (h : a ≠ b) e => h (by omega)) List.nodup_range
theorem FF_yes {k i j : Nat} (h : j < i) : alook (FF k i) (j : Int) = some (stF k j) :=
  alook_mem (FF_nodup k i) (List.mem_map.2 ⟨j, List.mem_range.2 h, rfl⟩)
theorem GG_no {k i : Nat} {x : Int} (h : x < (k : Int) ∨ (i : Int) ≤ x) : alook (GG k i) x = none := by
  rw [alook_none]
  intro hm
  obtain ⟨p, hp, rfl⟩ := List.mem_map.1 hm
  obtain ⟨j, hj, rfl⟩ := List.mem_map.1 hp
  have h2 := List.mem_filter.1 hj
  have := List.mem_range.1 h2.1
  have h3 : k ≤ j := by simpa using h2.2
  simp at h; omega
theorem GG_yes {k i j : Nat} (h : j < i) (hk : k ≤ j) : (alook (GG k i) (j : Int)).isSome = true := by
  cases hs : alook (GG k i) (j : Int) with
  | some _ => rfl
  | none => exact absurd (show (j : Int) ∈ (GG k i).map (·.1) from List.mem_map.2 ⟨((j : Int), (j : Int)), List.mem_map.2 ⟨j, List.mem_filter.2 ⟨List.mem_range.2 h, by simpa using hk⟩, rfl⟩, rfl⟩) (alook_none.1 hs)
theorem aput_new {α : Type} {l : List (Int × α)} {k : Int} {v : α} (h : alook l k = none) : aput l k v = l ++ [(k, v)] := by unfold aput; rw [if_neg (alook_none.1 h)]
theorem full_no {k i : Nat} {x : Int} (h : i < 1024) : fullL (FF k i) x = false := by unfold fullL; rw [FF_len]; simp; intro _; omega
theorem due_no (k i : Nat) : dueL (FF k i) = false := by
  unfold dueL; rw [List.any_eq_false]
  intro p hp
  obtain ⟨j, _, rfl⟩ := List.mem_map.1 hp
  unfold stF; split <;> simp

set_option maxRecDepth 100000 in
set_option maxHeartbeats 4000000 in
theorem full_any (r fd g : Int) (w : World) (hr : 0 ≤ r ∧ r < 65536) (hf : 0 ≤ fd ∧ fd < 65536) :
    Calls Try.prog 5 #[.int .u16 r, .int .u16 fd, .int .i64 g] w fun e w' => e = .returned (.bool true) ∧ Below w.heap.size w w' := by
  obtain ⟨k, hk⟩ : ∃ k : Nat, r % 1025 = (k : Int) := ⟨(r % 1025).toNat, by omega⟩
  obtain ⟨f, rfl⟩ := Int.eq_ofNat_of_zero_le hf.1
  have hk2 : k ≤ 1024 := by omega
  have hk3 : r.tmod 1025 = (k : Int) := by rw [Int.tmod_eq_emod_of_nonneg hr.1]; exact hk
  have hkw : IntKind.i64.wrap (k : Int) = (k : Int) := by rw [IntKind.wrap_i64]; omega
  have hf2 : f < 65536 := by omega
  have hwf : IntKind.i64.wrap (f : Int) = (f : Int) := by rw [IntKind.wrap_i64]; omega
  go_enter Try.func5, Try.ntmps5
  go_wp2_with fail
  refine (lives_is w).mono ?_
  rintro e w0 ⟨rfl, hb⟩
  have HB := Lib.hid hb
  clear hb
  go_wp2_with fail
  refine (pnew_is w0 w.heap.size HB.out.size).mono ?_
  rintro e w1 ⟨pb, fb, wb, rfl, P, hg, h1, h2, h3⟩
  have T1 : Hid (IsPl w1 w.heap.size pb fb wb (FF k 0) (GG k 0) ∧ Below w.heap.size w w1 ∧ w.heap.size ≤ fb ∧ w.heap.size ≤ wb) := Lib.hid ⟨P, below_next HB.out hg HB.out.size, Nat.le_trans HB.out.size h2, Nat.le_trans HB.out.size h3⟩
  have HW := Lib.hid (And.intro T1.out.2.2.1 T1.out.2.2.2)
  clear P hg h1 h2 h3 hk hr
  go_wp2_with fail
  clear hk3 hkw
  go_loopw [9, 10, 20] (fun _ _ q wr => ∃ i : Nat, i ≤ 1024 ∧ q = .int .i64 i ∧ IsPl wr w.heap.size pb fb wb (FF k i) (GG k i) ∧ Below w.heap.size w wr) (fun _ _ q _ => 1024 - (intOf q).toNat)
  case atStart => exact ⟨0, Nat.zero_le _, rfl, T1.out.1, T1.out.2.1⟩
  case round =>
    clear T1 HB
    obtain ⟨i, hi, rfl, hP, hb⟩ := hrel
    have T := Lib.hid (And.intro hP hb)
    clear hP hb
    by_cases hlt : i < 1024
    · have hwu : IntKind.u16.wrap (i : Int) = (i : Int) := by simp [IntKind.wrap, IntKind.bits, IntKind.signed]; omega
      by_cases hik : i < k
      · have hik' : (i : Int) < (k : Int) := by omega
        go_wp2_with fail
        refine (ready_ok T.out.1 i (full_no hlt)).mono ?_
        rintro e w2 ⟨rfl, P, hk⟩
        have T2 : Hid (IsPl w2 w.heap.size pb fb wb (FF k (i + 1)) (GG k (i + 1)) ∧ Below w.heap.size w w2) := Lib.hid ⟨by
          rw [stOf_none (FF_no (.inr (Int.le_refl _))), aput_new (FF_no (.inr (Int.le_refl _)))] at P
          rw [FF_succ, GG_succ, if_neg (by omega)]
          unfold stF; rw [if_pos hik]; exact P, below_pfr T.out.2 hk T.out.2.size HW.out.1 HW.out.2⟩
        clear P hk hwu
        go_wp2_with fail
        go_roundw
        case rel => exact ⟨i + 1, by omega, by go_num, T2.out⟩
        case measure => simp [intOf] <;> omega
      · have hik' : ¬ (i : Int) < (k : Int) := by omega
        go_wp2_with fail
        refine (wait_ok T.out.1 i i (by omega) (by omega) (by rw [stOf_none (FF_no (.inr (Int.le_refl _)))]; rfl) (by rw [GG_no (.inr (Int.le_refl _))]; rfl) (full_no hlt)).mono ?_
        rintro e w2 ⟨rfl, P, hk⟩
        have T2 : Hid (IsPl w2 w.heap.size pb fb wb (FF k (i + 1)) (GG k (i + 1)) ∧ Below w.heap.size w w2) := Lib.hid ⟨by
          rw [stOf_none (FF_no (.inr (Int.le_refl _))), aput_new (FF_no (.inr (Int.le_refl _))), aput_new (GG_no (.inr (Int.le_refl _)))] at P
          rw [FF_succ, GG_succ, if_pos (by omega)]
          unfold stF; rw [if_neg hik]; exact P, below_pfr T.out.2 hk T.out.2.size HW.out.1 HW.out.2⟩
        clear P hk hwu
        go_wp2_with fail
        go_roundw
        case rel => exact ⟨i + 1, by omega, by go_num, T2.out⟩
        case measure => simp [intOf] <;> omega
    · obtain rfl : i = 1024 := by omega
      go_wp2_with fail
      refine (plen_is T.out.1).mono ?_
      rintro e w2 ⟨rfl, rfl⟩
      rw [FF_len]
      go_wp2_with fail
      refine (pdue_is T.out.1).mono ?_
      rintro e w2 ⟨rfl, hg⟩
      rw [due_no]
      have T2 := Lib.hid (And.intro (T.out.1.grown hg) (below_next T.out.2 hg T.out.2.size))
      clear hg T
      go_wp2_with fail
      by_cases hf1 : 1024 ≤ f
      · have hf1' : (1024 : Int) ≤ (f : Int) := by omega
        have hfull : fullL (FF k 1024) f = true := by unfold fullL; rw [FF_no (.inr (by omega)), FF_len]; rfl
        have hst : stOf (FF k 1024) (f : Int) = .zero := stOf_none (FF_no (.inr (by omega)))
        have HF := Lib.hid (And.intro hfull hst)
        clear hfull hst
        refine (ready_full T2.out.1 f HF.out.1).mono ?_
        rintro e w3 ⟨rfl, hg⟩
        have T3 := Lib.hid (And.intro (T2.out.1.grown hg) (below_next T2.out.2 hg T2.out.2.size))
        clear hg T2
        go_wp2_with fail
        refine (plen_is T3.out.1).mono ?_
        rintro e w4 ⟨rfl, rfl⟩
        rw [FF_len]
        go_wp2_with fail
        refine (pis_is T3.out.1 f).mono ?_
        rintro e w4 ⟨rfl, rfl⟩
        rw [HF.out.2]
        -- the switch
        rcases (show g < 0 ∨ 4096 ≤ g ∨ (0 ≤ g ∧ g < 4096 ∧ (k : Int) ≤ g ∧ g < 1024) ∨ (0 ≤ g ∧ g < 4096 ∧ g < (k : Int)) ∨ (0 ≤ g ∧ g < 4096 ∧ (k : Int) ≤ g ∧ 1024 ≤ g) by omega) with hg0 | hg0 | ⟨hg0, hg1, hg2, hg3⟩ | ⟨hg0, hg1, hg2⟩ | ⟨hg0, hg1, hg2, hg3⟩
        · have hkf : (k : Int) ≤ (f : Int) := by omega
          go_wp2_with fail
          refine (wait_arg T3.out.1 f g (.inl hg0)).mono ?_
          rintro e w5 ⟨rfl, hg⟩
          have TZ := Lib.hid (below_next T3.out.2 hg T3.out.2.size)
          clear hg
          go_wp2_with fail
          go_ret
          exact ⟨rfl, TZ.out⟩
        · have hkf : (k : Int) ≤ (f : Int) := by omega
          have n0 : ¬ g < 0 := by omega
          go_wp2_with fail
          refine (wait_arg T3.out.1 f g (.inr hg0)).mono ?_
          rintro e w5 ⟨rfl, hg⟩
          have TZ := Lib.hid (below_next T3.out.2 hg T3.out.2.size)
          clear hg
          go_wp2_with fail
          go_ret
          exact ⟨rfl, TZ.out⟩
        · have hkf : (k : Int) ≤ (f : Int) := by omega
          have n0 : ¬ g < 0 := by omega
          have n1 : ¬ 4096 ≤ g := by omega
          go_wp2_with fail
          refine (wait_same T3.out.1 f g hg0 hg1 (.inr (by obtain ⟨j, rfl⟩ := Int.eq_ofNat_of_zero_le hg0; exact GG_yes (by omega) (by omega)))).mono ?_
          rintro e w5 ⟨rfl, hg⟩
          have TZ := Lib.hid (below_next T3.out.2 hg T3.out.2.size)
          clear hg
          go_wp2_with fail
          go_ret
          exact ⟨rfl, TZ.out⟩
        · have hkf : (k : Int) ≤ (f : Int) := by omega
          have n0 : ¬ g < 0 := by omega
          have n1 : ¬ 4096 ≤ g := by omega
          have n2 : ¬ (k : Int) ≤ g := by omega
          go_wp2_with fail
          refine (wait_full T3.out.1 f g hg0 hg1 (by rw [HF.out.2]; rfl) (by rw [GG_no (.inl hg2)]; rfl) HF.out.1).mono ?_
          rintro e w5 ⟨rfl, hg⟩
          have TZ := Lib.hid (below_next T3.out.2 hg T3.out.2.size)
          clear hg
          go_wp2_with fail
          go_ret
          exact ⟨rfl, TZ.out⟩
        · have hkf : (k : Int) ≤ (f : Int) := by omega
          have n0 : ¬ g < 0 := by omega
          have n1 : ¬ 4096 ≤ g := by omega
          have n3 : ¬ g < 1024 := by omega
          go_wp2_with fail
          refine (wait_full T3.out.1 f g hg0 hg1 (by rw [HF.out.2]; rfl) (by rw [GG_no (.inr hg3)]; rfl) HF.out.1).mono ?_
          rintro e w5 ⟨rfl, hg⟩
          have TZ := Lib.hid (below_next T3.out.2 hg T3.out.2.size)
          clear hg
          go_wp2_with fail
          go_ret
          exact ⟨rfl, TZ.out⟩
      · have hf1' : ¬ (1024 : Int) ≤ (f : Int) := by omega
        have hf2' : (f : Int) < 1024 := by omega
        refine (ready_ok T2.out.1 f (by unfold fullL; rw [FF_yes (by omega)]; rfl)).mono ?_
        rintro e w3 ⟨rfl, P, hk⟩
        rw [stOf_some (FF_yes (show f < 1024 by omega))] at P
        have T3 := Lib.hid (And.intro P (below_pfr T2.out.2 hk T2.out.2.size HW.out.1 HW.out.2))
        have hln : (aput (FF k 1024) (f : Int) { stF k f with ready := true }).length = 1024 := by rw [aput_len, if_pos (look_key (FF_yes (show f < 1024 by omega))), FF_len]
        have hst : stOf (aput (FF k 1024) (f : Int) { stF k f with ready := true }) (f : Int) = { stF k f with ready := true } := stOf_some (by rw [alook_put, if_pos rfl])
        have hfull : fullL (aput (FF k 1024) (f : Int) { stF k f with ready := true }) f = false := by unfold fullL; rw [alook_put, if_pos rfl]; rfl
        have HF := Lib.hid (And.intro hfull (And.intro hst hln))
        clear hfull hst hln P hk T2
        go_wp2_with fail
        refine (plen_is T3.out.1).mono ?_
        rintro e w4 ⟨rfl, rfl⟩
        rw [HF.out.2.2]
        rcases (show g < 0 ∨ 4096 ≤ g ∨ (0 ≤ g ∧ g < 4096 ∧ k ≤ f) ∨ (0 ≤ g ∧ g < 4096 ∧ f < k ∧ (k : Int) ≤ g ∧ g < 1024) ∨ (0 ≤ g ∧ g < 4096 ∧ f < k ∧ g < (k : Int)) ∨ (0 ≤ g ∧ g < 4096 ∧ f < k ∧ (k : Int) ≤ g ∧ 1024 ≤ g) by omega) with hg0 | hg0 | ⟨hg0, hg1, hkf⟩ | ⟨hg0, hg1, hkf, hg2, hg3⟩ | ⟨hg0, hg1, hkf, hg2⟩ | ⟨hg0, hg1, hkf, hg2, hg3⟩
        · skip
          go_wp2_with fail
          refine (wait_arg T3.out.1 f g (.inl hg0)).mono ?_
          rintro e w5 ⟨rfl, hg⟩
          have TZ := Lib.hid (below_next T3.out.2 hg T3.out.2.size)
          clear hg
          go_wp2_with fail
          go_ret
          exact ⟨rfl, TZ.out⟩
        · skip
          have n0 : ¬ g < 0 := by omega
          go_wp2_with fail
          refine (wait_arg T3.out.1 f g (.inr hg0)).mono ?_
          rintro e w5 ⟨rfl, hg⟩
          have TZ := Lib.hid (below_next T3.out.2 hg T3.out.2.size)
          clear hg
          go_wp2_with fail
          go_ret
          exact ⟨rfl, TZ.out⟩
        · have hkf' : (k : Int) ≤ (f : Int) := by omega
          have n0 : ¬ g < 0 := by omega
          have n1 : ¬ 4096 ≤ g := by omega
          go_wp2_with fail
          refine (wait_same T3.out.1 f g hg0 hg1 (.inl (by rw [HF.out.2.1]; unfold stF; rw [if_neg (by omega)]))).mono ?_
          rintro e w5 ⟨rfl, hg⟩
          have TZ := Lib.hid (below_next T3.out.2 hg T3.out.2.size)
          clear hg
          go_wp2_with fail
          go_ret
          exact ⟨rfl, TZ.out⟩
        · have hkf' : ¬ (k : Int) ≤ (f : Int) := by omega
          have n0 : ¬ g < 0 := by omega
          have n1 : ¬ 4096 ≤ g := by omega
          go_wp2_with fail
          refine (wait_same T3.out.1 f g hg0 hg1 (.inr (by obtain ⟨j, rfl⟩ := Int.eq_ofNat_of_zero_le hg0; exact GG_yes (by omega) (by omega)))).mono ?_
          rintro e w5 ⟨rfl, hg⟩
          have TZ := Lib.hid (below_next T3.out.2 hg T3.out.2.size)
          clear hg
          go_wp2_with fail
          go_ret
          exact ⟨rfl, TZ.out⟩
        · have hkf' : ¬ (k : Int) ≤ (f : Int) := by omega
          have n0 : ¬ g < 0 := by omega
          have n1 : ¬ 4096 ≤ g := by omega
          have n2 : ¬ (k : Int) ≤ g := by omega
          go_wp2_with fail
          refine (wait_ok T3.out.1 f g hg0 hg1 (by rw [HF.out.2.1]; unfold stF; rw [if_pos (by omega)]) (by rw [GG_no (.inl hg2)]; rfl) HF.out.1).mono ?_
          rintro e w5 ⟨rfl, P, hk⟩
          have TZ := Lib.hid (below_pfr T3.out.2 hk T3.out.2.size HW.out.1 HW.out.2)
          clear hk P
          go_wp2_with fail
          go_ret
          exact ⟨rfl, TZ.out⟩
        · have hkf' : ¬ (k : Int) ≤ (f : Int) := by omega
          have n0 : ¬ g < 0 := by omega
          have n1 : ¬ 4096 ≤ g := by omega
          have n3 : ¬ g < 1024 := by omega
          go_wp2_with fail
          refine (wait_ok T3.out.1 f g hg0 hg1 (by rw [HF.out.2.1]; unfold stF; rw [if_pos (by omega)]) (by rw [GG_no (.inr hg3)]; rfl) HF.out.1).mono ?_
          rintro e w5 ⟨rfl, P, hk⟩
          have TZ := Lib.hid (below_pfr T3.out.2 hk T3.out.2.size HW.out.1 HW.out.2)
          clear hk P
          go_wp2_with fail
          go_ret
          exact ⟨rfl, TZ.out⟩
end Go.Proofs.Ytefpbfdbpckcmaa.Pl
