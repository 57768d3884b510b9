/-
  hostlerref11: Len, full; Put and Mark that are refused.
-/
import Derived.Test.YtefpbfdbpckcmaaRefPoll
namespace Go.Proofs.Ytefpbfdbpckcmaa.Pl
open Go.RowKit
set_option linter.unusedVariables false
set_option linter.unusedSimpArgs false

/-- The block in which a call has laid the document's poll. -/
structure Bx (w W : World) (u v : Value) : Prop where
  b : W.heap[w.heap.size]? = some (.cells #[u, v] TPo (0, 0))
  below : Below w.heap.size w W
theorem bx_new (w : World) (u v : Value) : Bx w (w.alloc (.cells #[u, v] TPo)) u v := ⟨heap_alloc_new _ _, below_alloc _⟩
theorem Bx.lt {w W : World} {u v : Value} (h : Bx w W u v) : w.heap.size < W.heap.size := (Array.getElem?_eq_some_iff.1 h.b).1
theorem Bx.next {w W W' : World} {u v : Value} (h : Bx w W u v) (hb : Below W.heap.size W W') : Bx w W' u v := ⟨(hb.block _ h.lt).trans h.b, h.below.trans (hb.mono (Nat.le_of_lt h.lt))⟩
theorem Bx.c0 {w W : World} {u v : Value} (h : Bx w W u v) : W.cell? ⟨w.heap.size, 0, none⟩ = some u := cell_of_row _ _ 0 _ _ _ h.b
theorem Bx.c1 {w W : World} {u v : Value} (h : Bx w W u v) : W.cell? ⟨w.heap.size, 1, none⟩ = some v := cell_of_row _ _ 1 _ _ _ h.b

set_option maxRecDepth 100000 in
set_option maxHeartbeats 2000000 in
theorem rlen_is {w : World} {u v : Value} {D : List (Int × Int)} {R : List Int} {lo lo' : Nat} (hu : WSees w lo u D) (hv : ISees w lo' v R) (hbd : D.length ≤ 1000) (hbr : R.length ≤ 1000) {m : Nat} (hm : lenD D R = m) :
    Calls Try.prog 19 #[.agg #[u, v]] w fun x w' => x = .returned (.int .i64 m) ∧ Below w.heap.size w w' := by
  have HU := Lib.hid hu
  have HV := Lib.hid hv
  have HM := Lib.hid hm
  obtain ⟨a, cap, rfl, _, hmx, _, _⟩ := hu
  obtain ⟨b, capb, rfl, _, hmxb, _, _⟩ := hv
  clear hm
  go_enter Try.func19, Try.ntmps19
  go_wp2_with fail
  have H0 := Lib.hid (bx_new w (.slice a D.length cap) (.slice b R.length capb))
  generalize (w.alloc (.cells #[.slice a D.length cap, .slice b R.length capb] TPo)) = W at *
  go_loopw [3, 12] (fun nv q wr => ∃ k c : Nat, k ≤ D.length ∧ q = .int .i64 k ∧ nv = .int .i64 c ∧ c = R.length + ((D.take k).filter fun x => !decide (x.1 ∈ R)).length ∧ Bx w wr (.slice a D.length cap) (.slice b R.length capb)) (fun _ q _ => D.length - (intOf q).toNat)
  case atStart => exact ⟨0, R.length, Nat.zero_le _, rfl, rfl, by simp, H0.out⟩
  case round =>
    obtain ⟨k, c, hk, rfl, rfl, hc, hb⟩ := hrel
    have H := Lib.hid hb
    have HC := Lib.hid hc
    have hcb : c ≤ 2000 := by
      have := List.length_filter_le (fun x : Int × Int => !decide (x.1 ∈ R)) (D.take k)
      rw [List.length_take] at this
      omega
    clear H0 hb hc
    by_cases hlt : k < D.length
    · obtain ⟨x, hx⟩ : ∃ x, D[k]? = some x := ⟨_, List.getElem?_eq_getElem hlt⟩
      obtain ⟨ad, rfl, c0, c1⟩ := (HU.out.below H.out.below).at hx
      have HX := Lib.hid (take_one hx)
      have H1 := Lib.hid (H.out.next (below_alloc (w := wr) (.cells #[.int .i64 x.1, .int .i64 x.2] TW)))
      have z0 := H1.out.c0
      have z1 := H1.out.c1
      clear hx
      go_wp2_with fail
      clear c0 c1 z0 z1 H
      generalize (wr.alloc (.cells #[.int .i64 x.1, .int .i64 x.2] TW)) = W1 at *
      by_cases hq : x.1 ∈ R
      · refine (ris_is (HV.out.below H1.out.below) (by omega) x.1 (r := true) (by simpa using hq)).mono ?_
        rintro e w2 ⟨rfl, hb2⟩
        have HN : Hid (c = R.length + ((D.take (k + 1)).filter fun x => !decide (x.1 ∈ R)).length) := Lib.hid (by rw [HX.out, List.filter_append, List.length_append, HC.out]; simp [hq])
        have H2 := Lib.hid (H1.out.next hb2)
        clear hb2 hq
        go_wp2_with fail
        go_roundw
        case rel => exact ⟨k + 1, c, by omega, by go_num, rfl, HN.out, H2.out⟩
        case measure => simp [intOf]; omega
      · refine (ris_is (HV.out.below H1.out.below) (by omega) x.1 (r := false) (by simpa using hq)).mono ?_
        rintro e w2 ⟨rfl, hb2⟩
        have HN : Hid (c + 1 = R.length + ((D.take (k + 1)).filter fun x => !decide (x.1 ∈ R)).length) := Lib.hid (by rw [HX.out, List.filter_append, List.length_append, HC.out]; simp [hq]; omega)
        have H2 := Lib.hid (H1.out.next hb2)
        clear hb2 hq
        go_wp2_with fail
        go_roundw
        case rel => exact ⟨k + 1, c + 1, by omega, by go_num, by go_num, HN.out, H2.out⟩
        case measure => simp [intOf]; omega
    · obtain rfl : k = D.length := by omega
      have hc := HC.out
      rw [List.take_length] at hc
      obtain rfl : c = m := by rw [← HM.out]; exact hc
      clear hc
      go_wp2_with fail
      go_ret
      exact ⟨rfl, H.out.below⟩

set_option maxRecDepth 100000 in
set_option maxHeartbeats 2000000 in
theorem rfull_is {w : World} {u v : Value} {D : List (Int × Int)} {R : List Int} {lo lo' : Nat} (hu : WSees w lo u D) (hv : ISees w lo' v R) (hbd : D.length ≤ 1000) (hbr : R.length ≤ 1000) (fd : Int) {r : Bool} (hr : fullD D R fd = r) :
    Calls Try.prog 28 #[.agg #[u, v], .int .i64 fd] w fun x w' => x = .returned (.bool r) ∧ Below w.heap.size w w' := by
  have HU := Lib.hid hu
  have HV := Lib.hid hv
  obtain ⟨a, cap, rfl, _, hmx, _, _⟩ := hu
  obtain ⟨b, capb, rfl, _, hmxb, _, _⟩ := hv
  by_cases h1 : fd ∈ R
  · obtain rfl : r = false := by rw [← hr]; simp [fullD, h1]
    have H1 : Hid (decide (fd ∈ R) = true) := Lib.hid (by simpa using h1)
    clear hr h1
    go_enter Try.func28, Try.ntmps28
    go_wp2_with fail
    have HB := Lib.hid (bx_new w (.slice a D.length cap) (.slice b R.length capb))
    generalize (w.alloc (.cells #[.slice a D.length cap, .slice b R.length capb] TPo)) = W at *
    refine (ris_is (HV.out.below HB.out.below) (by omega) fd H1.out).mono ?_
    rintro e w2 ⟨rfl, hb2⟩
    have H2 := Lib.hid (HB.out.next hb2)
    clear hb2
    go_wp2_with fail
    go_ret
    exact ⟨rfl, H2.out.below⟩
  · have H1 : Hid (decide (fd ∈ R) = false) := Lib.hid (by simpa using h1)
    obtain ⟨y, hy⟩ : ∃ y, whoD D fd = y := ⟨_, rfl⟩
    obtain ⟨L, hL⟩ : ∃ L, lenD D R = L := ⟨_, rfl⟩
    have HY := Lib.hid (And.intro hy hL)
    by_cases hy0 : y < 0
    · have hr2 : decide (1024 ≤ L) = r := by rw [← hr]; unfold fullD; rw [hy, hL]; simp [h1, hy0]
      have hLi : decide ((1024 : Int) ≤ (L : Int)) = r := by rw [← hr2]; congr 1; simp only [eq_iff_iff]; omega
      clear hr h1 hy hL hr2
      go_enter Try.func28, Try.ntmps28
      go_wp2_with fail
      have HB := Lib.hid (bx_new w (.slice a D.length cap) (.slice b R.length capb))
      generalize (w.alloc (.cells #[.slice a D.length cap, .slice b R.length capb] TPo)) = W at *
      refine (ris_is (HV.out.below HB.out.below) (by omega) fd H1.out).mono ?_
      rintro e w2 ⟨rfl, hb2⟩
      have H2 := Lib.hid (HB.out.next hb2)
      have z0 := H2.out.c0
      have z1 := H2.out.c1
      clear hb2
      go_wp2_with fail
      refine (rwho_is (HU.out.below H2.out.below) (by omega) fd HY.out.1).mono ?_
      rintro e w3 ⟨rfl, hb3⟩
      have H3 := Lib.hid (H2.out.next hb3)
      clear hb3 z0 z1
      have z0 := H3.out.c0
      have z1 := H3.out.c1
      go_wp2_with fail
      refine (rlen_is (HU.out.below H3.out.below) (HV.out.below H3.out.below) hbd hbr HY.out.2).mono ?_
      rintro e w4 ⟨rfl, hb4⟩
      have H4 := Lib.hid (H3.out.next hb4)
      clear hb4 z0 z1
      subst hLi
      go_wp2_with fail
      go_ret
      exact ⟨rfl, H4.out.below⟩
    · obtain rfl : r = false := by rw [← hr]; unfold fullD; rw [hy]; simp [hy0]
      clear hr h1 hy hL
      go_enter Try.func28, Try.ntmps28
      go_wp2_with fail
      have HB := Lib.hid (bx_new w (.slice a D.length cap) (.slice b R.length capb))
      generalize (w.alloc (.cells #[.slice a D.length cap, .slice b R.length capb] TPo)) = W at *
      refine (ris_is (HV.out.below HB.out.below) (by omega) fd H1.out).mono ?_
      rintro e w2 ⟨rfl, hb2⟩
      have H2 := Lib.hid (HB.out.next hb2)
      have z0 := H2.out.c0
      have z1 := H2.out.c1
      clear hb2
      go_wp2_with fail
      refine (rwho_is (HU.out.below H2.out.below) (by omega) fd HY.out.1).mono ?_
      rintro e w3 ⟨rfl, hb3⟩
      have H3 := Lib.hid (H2.out.next hb3)
      clear hb3 z0 z1
      go_wp2_with fail
      go_ret
      exact ⟨rfl, H3.out.below⟩
end Go.Proofs.Ytefpbfdbpckcmaa.Pl
