/-
  Package poll: Take.
-/
import Derived.Test.YtefpbfdbpckcmaaPollDo2
import Derived.Test.YtefpbfdbpckcmaaPollSorted
import Derived.OwnWalk
namespace Go.Proofs.Ytefpbfdbpckcmaa.Pl
open Go.RowKit
set_option linter.unusedVariables false
set_option linter.unusedSimpArgs false

/-- Of rising descriptors the first that is due. -/
def firstDue (F : List (Int × St)) (s : List Int) : Option Int := s.find? fun fd => (stOf F fd).waits && (stOf F fd).ready
theorem find_take {p : Int → Bool} : ∀ {s : List Int} {i : Nat} {x : Int}, (∀ j y, j < i → s[j]? = some y → p y = false) → s[i]? = some x → p x = true → s.find? p = some x
  | [], _, _, _, h, _ => by simp at h
  | y :: t, 0, x, _, h, hp => by
    have : y = x := by simpa using h
    subst this; simp [hp]
  | y :: t, i + 1, x, hb, h, hp => by
    have h0 := hb 0 y (by omega) rfl
    rw [List.find?_cons_of_neg (by simp [h0])]
    exact find_take (i := i) (fun j z hj hz => hb (j + 1) z (by omega) (by simpa using hz)) (by simpa using h) hp
theorem find_none {p : Int → Bool} {s : List Int} (h : ∀ j y, j < s.length → s[j]? = some y → p y = false) : s.find? p = none := by
  rw [List.find?_eq_none]
  intro x hx
  obtain ⟨i, hi, rfl⟩ := List.getElem_of_mem hx
  simpa using h i _ hi (List.getElem?_eq_getElem hi)
section
variable {w : World} {base pb fb wb : Nat} {F : List (Int × St)} {G : List (Int × Int)}
set_option maxRecDepth 100000 in
set_option maxHeartbeats 2000000 in
theorem take_is (h : IsPl w base pb fb wb F G) (hbig : F.length ≤ 2000) : Calls Try.prog 11 #[.pointer (some ⟨pb, 0, none⟩)] w fun e w' => ∃ s : List Int, s.Perm (F.map (·.1)) ∧ s.Pairwise (· < ·) ∧
    ((firstDue F s = none ∧ e = .returned (.tuple #[.int .u16 0, .int .i64 0, .bool false]) ∧ w.grownBy w' none) ∨
     ∃ fd, firstDue F s = some fd ∧ e = .returned (.tuple #[.int .u16 fd, .int .i64 (stOf F fd).g, .bool true]) ∧ IsPl w' base pb fb wb (adel F fd) (adel G (stOf F fd).g) ∧ PFr w w' fb wb) := by
  have c0 := h.c0
  have H := Lib.hid h
  have hlt := h.lt.1
  clear h
  go_enter Try.func11, Try.ntmps11
  go_wp2_with fail
  refine (keys_is fb _).mono ?_
  rintro e w1 ⟨rfl, rfl⟩
  go_wp2_with fail
  have hm1 : MapU.IsMap (w.alloc (.cells #[.map (some fb)] 58)) fb (enc St.val F) := H.out.fds.heap (heap_alloc_old _ _ H.out.lt.2.1)
  refine (sorted_is w.heap.size fb (enc St.val F) (by rw [enc_len]; exact hbig) _ (by simp) (cell_of_row _ _ 0 _ _ _ (heap_alloc_new _ _)) hm1).mono ?_
  rintro e w2 ⟨v, s, rfl, hp, hsort, hnum, hb⟩
  have hg2 : w.grownBy w2 none := grown_none (World.grownBy_alloc w (.cells #[.map (some fb)] 58) none) ⟨hb.os, hb.tape, hb.output, hb.size, fun k hk _ => hb.block k hk⟩
  rw [enc_keys] at hp
  obtain ⟨a, cap, rfl, hcap, _⟩ := id hnum
  have K := Lib.hid (And.intro hp (And.intro hsort (And.intro hnum hg2)))
  have HP := Lib.hid (H.out.grown hg2)
  have hsl : s.length ≤ 2000 := by have := K.out.1.length_eq; simp at this; omega
  have hcap2 : (s.length : Int) ≤ (cap : Int) := by omega
  clear hm1 hp hsort hnum hb hg2 c0 hlt
  go_wp2_with fail
  go_loopw [6, 7, 15] (fun _ _ vi wr => ∃ k : Nat, k ≤ s.length ∧ vi = .int .i64 k ∧ (∀ j y, j < k → s[j]? = some y → ((stOf F y).waits && (stOf F y).ready) = false) ∧ w2.grownBy wr none) (fun _ _ vi _ => s.length - (intOf vi).toNat)
  case atStart => exact ⟨0, Nat.zero_le _, rfl, fun j y hj => absurd hj (Nat.not_lt_zero _), ⟨rfl, rfl, rfl, Nat.le_refl _, fun _ _ _ => rfl⟩⟩
  case round =>
    obtain ⟨k, hk, rfl, hno, hg⟩ := hrel
    have HN := Lib.hid (And.intro hno hg)
    have HR := Lib.hid (HP.out.grown hg)
    have hnum : Nums wr (w.alloc (.cells #[.map (some fb)] 58)).heap.size (.slice a s.length cap) s := K.out.2.2.1.kept hg.size (fun j _ hj => hg.block j hj (by simp))
    clear hno hg
    by_cases hlt : k < s.length
    · obtain ⟨x, hx⟩ : ∃ x, s[k]? = some x := ⟨_, List.getElem?_eq_getElem hlt⟩
      obtain ⟨g, rfl, hcell⟩ : ∃ g, a = some ⟨g, 0, none⟩ ∧ wr.cell? ⟨g, k, none⟩ = some (.int .u16 x) := by
        obtain ⟨a2, c2, e, _, h⟩ := hnum
        obtain ⟨rfl, _, _⟩ := Value.slice.inj e
        obtain ⟨g, h1, _, _, h2⟩ := h k x hx
        exact ⟨g, h1, h2⟩
      have HX := Lib.hid hx
      have c0 := HR.out.c0
      have hltp := HR.out.lt.1
      have HL := Lib.hid (look_st F x)
      obtain ⟨sg, sw, sr, hst⟩ : ∃ sg sw sr, stOf F x = ⟨sg, sw, sr⟩ := ⟨_, _, _, rfl⟩
      have HST := Lib.hid hst
      rw [hst] at HL
      have HA := Lib.hid (World.grownBy_alloc wr (.cells #[.int .i64 sg, .bool sw, .bool sr] TS) none)
      have HB := Lib.hid (heap_alloc_new wr (.cells #[.int .i64 sg, .bool sw, .bool sr] TS))
      have hkc : (k : Int) < (s.length : Int) := by omega
      clear hx hst hnum
      have hcase : (sw && sr) = true ∨ (sw && sr) = false := by cases (sw && sr) <;> simp
      rcases hcase with hdue | hdue
      · obtain ⟨rfl, rfl⟩ : sw = true ∧ sr = true := by simpa using hdue
        clear hdue
        go_wp2_with (first
          | (at_lookup; refine MapU.wpList_look rfl _ _ 58 27 TS rfl Try.underlying58 Try.underlying27 HR.out.fds rfl x rfl (zeroS _) (St.val ⟨sg, true, true⟩) HL.out ?_; unfold St.val)
          | (refine MapU.wpList_mdel rfl _ _ 58 27 TS rfl Try.underlying58 Try.underlying27 (HR.out.grown HA.out).fds rfl x rfl ?_; intro w3 hm3 hg3; rw [enc_delU] at hm3; have HP3 := Lib.hid ((HR.out.grown HA.out).putF hm3 hg3); have HG3 := Lib.hid hg3; have HS3 := Lib.hid ((hg3.block wr.heap.size (by simp) (fun e => by have := Option.some.inj e; have := HR.out.lt.2.1; omega)).trans HB.out); clear hm3 hg3; have c1 := HP3.out.c1; have d0 : w3.cell? ⟨wr.heap.size, 0, none⟩ = some (.int .i64 sg) := cell_of_row _ _ 0 _ _ _ HS3.out))
        refine wp_region_still_tail 6 (by kernel_rfl) (by kernel_rfl) ?_
        simp only [List.take_succ_cons, List.take_zero, List.drop_succ_cons, List.drop_zero]
        change wpStill _ _ w3.drew _ _ _
        repeat still_step
        refine wpStill_nil ?_
        have hdr : w3.grownBy w3.drew none := ⟨rfl, rfl, rfl, Nat.le_refl _, fun _ _ _ => rfl⟩
        have HP4 := Lib.hid HP3.out.drew
        have HD := Lib.hid hdr
        clear hdr c0 c1 d0 hcell
        go_wp2_with (refine MapI.wpList_mdel rfl _ _ 59 3 27 rfl Try.underlying59 Try.underlying3 HP4.out.who rfl sg rfl ?_; intro w5 hm5 hg5; rw [enc_del] at hm5; have HP5 := Lib.hid (HP4.out.putG hm5 hg5); have HG5 := Lib.hid hg5; have HS5 := Lib.hid ((hg5.block wr.heap.size (Array.getElem?_eq_some_iff.1 HS3.out).1 (fun e => by have := Option.some.inj e; have := HR.out.lt.2.2; omega)).trans HS3.out); clear hm5 hg5; have d0 : w5.cell? ⟨wr.heap.size, 0, none⟩ = some (.int .i64 sg) := cell_of_row _ _ 0 _ _ _ HS5.out)
        go_quiet (fail)
        go_wp2_with fail
        have hP6 : IsPl (w5.drewN nq) base pb fb wb (adel F x) (adel G sg) := HP5.out.kept rfl rfl rfl
        have hfd : firstDue F s = some x := find_take HN.out.1 HX.out (by rw [HST.out]; rfl)
        have hfr : PFr w (w5.drewN nq) fb wb := ((PFr.of (grown_none K.out.2.2.2 (grown_none HN.out.2 HA.out)) (.inl rfl)).trans ((PFr.of HG3.out (.inr (.inl rfl))).trans ((PFr.of HD.out (.inl rfl)).trans (PFr.of HG5.out (.inr (.inr rfl)))))).trans (PFr.of (w := w5) (r := none) ⟨rfl, rfl, rfl, Nat.le_refl _, fun _ _ _ => rfl⟩ (.inl rfl))
        have HZ := Lib.hid (And.intro hP6 (And.intro hfd hfr))
        clear hP6 hfd hfr d0
        refine bodyPost_ret (results_tmp3 rfl _ _ _) rfl ?_
        exact ⟨s, K.out.1, K.out.2.1, .inr ⟨x, HZ.out.2.1, by rw [HST.out]; rfl, by rw [HST.out]; exact HZ.out.1, HZ.out.2.2⟩⟩
      · rcases (show sw = false ∨ (sw = true ∧ sr = false) by cases sw <;> simp_all) with rfl | ⟨rfl, rfl⟩
        · go_wp2_with (at_lookup; refine MapU.wpList_look rfl _ _ 58 27 TS rfl Try.underlying58 Try.underlying27 HR.out.fds rfl x rfl (zeroS _) (St.val ⟨sg, false, sr⟩) HL.out ?_; unfold St.val)
          go_roundw
          case rel => exact ⟨k + 1, by omega, by go_num, fun j y hj hy => by
            by_cases hjk : j = k
            · subst hjk; rw [HX.out] at hy; cases hy; rw [HST.out]; rfl
            · exact HN.out.1 j y (by omega) hy, grown_none HN.out.2 HA.out⟩
          case measure => simp [intOf] <;> omega
        · go_wp2_with (at_lookup; refine MapU.wpList_look rfl _ _ 58 27 TS rfl Try.underlying58 Try.underlying27 HR.out.fds rfl x rfl (zeroS _) (St.val ⟨sg, true, false⟩) HL.out ?_; unfold St.val)
          go_roundw
          case rel => exact ⟨k + 1, by omega, by go_num, fun j y hj hy => by
            by_cases hjk : j = k
            · subst hjk; rw [HX.out] at hy; cases hy; rw [HST.out]; rfl
            · exact HN.out.1 j y (by omega) hy, grown_none HN.out.2 HA.out⟩
          case measure => simp [intOf] <;> omega
    · obtain rfl : k = s.length := by omega
      have hfd : firstDue F s = none := find_none HN.out.1
      have HZ := Lib.hid hfd
      clear hfd hnum
      go_wp2_with fail
      go_ret3
      exact ⟨s, K.out.1, K.out.2.1, .inl ⟨HZ.out, rfl, grown_none K.out.2.2.2 HN.out.2⟩⟩
end
end Go.Proofs.Ytefpbfdbpckcmaa.Pl
