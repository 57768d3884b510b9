/-
  The law TimerNext.
-/
import Derived.Test.YtmaahidipbghfaaTimerOf
import Derived.Test.YtmaahidipbghfaaTimerWhen
namespace Go.Proofs.Ytmaahidipbghfaa.Tm
open Go.RowKit
open Go.Proofs.Ytmaahidipbghfaa.Hp
open Go.Proofs.Ytmaahidipbghfaa.MapI
set_option linter.unusedVariables false

/-- The least time of some entries; 0: there are none. -/
def LeastW (l : List Ent) (t : Int) (has : Bool) : Prop :=
  (has = false ∧ t = 0 ∧ l = []) ∨ (has = true ∧ (∃ x ∈ l, x.w = t) ∧ ∀ x ∈ l, t ≤ x.w)
theorem leastw_nil : LeastW [] 0 false := .inl ⟨rfl, rfl, rfl⟩
theorem leastw_same {l : List Ent} {t : Int} {b : Bool} (h : LeastW l t b) : LeastW (l ++ []) t b := by simpa using h
theorem leastw_keep {l m : List Ent} {t : Int} {y : Ent} (h : LeastW l t true) (hy : ∀ x ∈ m, y.w ≤ x.w) (hle : t ≤ y.w) : LeastW (l ++ m) t true := by
  rcases h with ⟨e, _⟩ | ⟨_, ⟨x, hx, e⟩, h2⟩
  · cases e
  · refine .inr ⟨rfl, ⟨x, List.mem_append_left _ hx, e⟩, fun z hz => ?_⟩
    rcases List.mem_append.1 hz with h3 | h3
    · exact h2 z h3
    · exact Int.le_trans hle (hy z h3)
theorem leastw_new {l m : List Ent} {t : Int} {b : Bool} {y : Ent} (h : LeastW l t b) (hm : y ∈ m) (hy : ∀ x ∈ m, y.w ≤ x.w) (hle : b = true → y.w ≤ t) : LeastW (l ++ m) y.w true := by
  refine .inr ⟨rfl, ⟨y, List.mem_append_right _ hm, rfl⟩, fun z hz => ?_⟩
  rcases List.mem_append.1 hz with h3 | h3
  · rcases h with ⟨_, _, e⟩ | ⟨e, _, h2⟩
    · rw [e] at h3; simp at h3
    · exact Int.le_trans (hle e) (h2 z h3)
  · exact hy z h3
theorem leastw_min {l : List Ent} {t : Int} {b : Bool} {x : Ent} (h : LeastW l t b) (hm : IsMin l (some x)) : b = true ∧ t = x.w := by
  rcases h with ⟨_, _, e⟩ | ⟨e, ⟨y, hy, e2⟩, h2⟩
  · have := hm.1; rw [e] at this; simp at this
  · refine ⟨e, ?_⟩
    have h3 := h2 x hm.1
    have h4 := hm.2 y hy
    rw [le_iff] at h4
    omega
theorem srt_first {es : List Ent} {y : Ent} {t : List Ent} (h : srt es = y :: t) : y ∈ es ∧ ∀ x ∈ es, y.w ≤ x.w := by
  have hp := srt_perm es
  have hs := srt_sorted es
  rw [h] at hp hs
  refine ⟨hp.mem_iff.1 (by simp), fun x hx => ?_⟩
  rcases List.mem_cons.1 (hp.mem_iff.2 hx) with rfl | h2
  · exact Int.le_refl _
  · have := (List.pairwise_cons.1 hs).1 x h2
    rw [le_iff] at this
    omega
theorem srt_none {es : List Ent} (h : srt es = []) : es = [] := by
  have := srt_perm es; rw [h] at this; exact this.symm.eq_nil
theorem take_flat {Hs : List (List Ent)} {p : Nat} {es : List Ent} (h : Hs[p]? = some es) : (Hs.take (p + 1)).flatten = (Hs.take p).flatten ++ es := by
  rw [List.take_add_one, h]; simp

set_option maxRecDepth 100000 in
set_option maxHeartbeats 4000000 in
theorem next_short (a : Option Addr) (len cap : Nat) (z : Nat → Int) (w : World) (hl : len ≤ 40) (hnil : a = none → len = 0) (hc : ∀ b, a = some b → ∀ i, i < len → w.cell? (b.add i) = some (.int .i64 (z i))) (hz : ∀ i, i < len → -9223372036854775808 ≤ z i ∧ z i < 9223372036854775808) :
    Calls Try.prog 5 #[.slice a len cap] w fun e w' => e = .returned (.bool true) ∧ Below w.heap.size w w' := by
  have hlt : ¬ (40 < len) := by omega
  have HC := Lib.hid hc
  have HN := Lib.hid hnil
  have HZ := Lib.hid hz
  clear hc hnil hz
  go_enter Try.func5, Try.ntmps5
  go_wp2_with fail
  refine (lives_is w).mono ?_
  rintro e w0 ⟨rfl, hb⟩
  have HB := Lib.hid hb
  clear hb
  go_wp2_with fail
  refine (tms_new w0 5 5 rfl).mono ?_
  rintro e w1 ⟨tb, rfl, T, hg⟩
  have O : Hid (Tms w1 w0.heap.size tb 5 (Ms z 0) 0 (Gs 0) (fun _ => False) ∧ Below w.heap.size w w1 ∧ w0.heap.size ≤ w1.heap.size) := Lib.hid ⟨T, below_more HB.out hg HB.out.size, hg.size⟩
  have hbase : w.heap.size ≤ w0.heap.size := HB.out.size
  clear T hg
  go_wp2_with fail
  generalize w0.heap.size = base at *
  go_loopw [23] (fun q wr => ∃ (k : Nat), k ≤ len ∧ q = .int .i64 k ∧ Tms wr base tb 5 (Ms z k) k (Gs k) (fun _ => False) ∧ Below w.heap.size w wr ∧ base ≤ wr.heap.size) (fun q _ => len - (intOf q).toNat)
  case atStart => exact ⟨0, Nat.zero_le _, rfl, O.out.1, O.out.2.1, O.out.2.2⟩
  case round =>
    clear O
    obtain ⟨k, hk, rfl, hT, hB, hS⟩ := hrel
    have T := Lib.hid hT
    have B := Lib.hid hB
    clear hT hB
    by_cases hlen : k < len
    · obtain ⟨c, rfl⟩ : ∃ c, a = some c := by
        cases a with
        | none => exact absurd (HN.out rfl) (by omega)
        | some c => exact ⟨c, rfl⟩
      have hcx : wr.cell? (c.add k) = some (.int .i64 (z k)) := cell_later B.out (HC.out c rfl k hlen)
      have hp0 : 0 ≤ (k : Int) % 5 := by omega
      have hp1 : (k : Int) % 5 < 5 := by omega
      go_wp2_with fail
      refine (tms_add_ok T.out hS _ _ _ hp0 (by omega) (by omega) (by omega) (Gs_not k) (by omega)).mono ?_
      rintro e w2 ⟨rfl, T2, hk2⟩
      rw [← Ms_succ, ← Gs_succ] at T2
      have B2 := hk2.grown hbase B.out
      have hS2 : base ≤ w2.heap.size := Nat.le_trans hS hk2.below.size
      obtain ⟨lb, hb, vs, Hs, hI, hvs, hper, _⟩ := T2
      have hmin : ∃ x, IsMin Hs.flatten (some x) ∧ -9223372036854775808 ≤ x.w ∧ x.w < 9223372036854775808 := by
        obtain ⟨m, hm⟩ := min_ex Hs.flatten
        cases m with
        | none =>
          have e : Hs.flatten = [] := hm
          have := hper.length_eq
          rw [e] at this; simp [Ms] at this
        | some x =>
          obtain ⟨i, hi, rfl⟩ := List.mem_map.1 (hper.mem_iff.1 hm.1)
          have := List.mem_range.1 hi
          exact ⟨_, hm, HZ.out i (by omega)⟩
      obtain ⟨x, hx, hxl, hxh⟩ := hmin
      have hflen : Hs.flatten.length ≤ 1000 := by rw [hper.length_eq]; simp [Ms]; omega
      have hHl : Hs.length = 5 := by rw [hI.hlen]; exact hvs
      have R := Lib.hid (And.intro hI B2)
      have RX := Lib.hid (And.intro hx (And.intro hper (And.intro hvs (And.intro hflen hHl))))
      clear hk2 hcx hI B2 hx hper hvs hflen hHl T B hS
      go_wp2_with fail
      go_loopw [6, 7, 34] (fun t b q wX => ∃ (p : Nat) (t' : Int) (b' : Bool), p ≤ 5 ∧ q = .int .i64 p ∧ t = .int .i64 t' ∧ b = .bool b' ∧ LeastW (Hs.take p).flatten t' b' ∧ IsT wX base tb lb hb vs Hs (k + 1) (Gs (k + 1)) ∧ Below w.heap.size w wX ∧ base ≤ wX.heap.size) (fun _ _ q _ => 5 - (intOf q).toNat)
      case atStart => exact ⟨0, 0, false, by omega, rfl, rfl, rfl, by simpa using leastw_nil, R.out.1, R.out.2, hS2⟩
      case round =>
        clear R hS2
        obtain ⟨p, t, b, hp, rfl, rfl, rfl, hL, hI, hB, hS⟩ := hrel
        have R := Lib.hid (And.intro hI (And.intro hB hL))
        clear hI hB hL
        by_cases hp5 : p < 5
        · obtain ⟨es, hes⟩ : ∃ es, Hs[p]? = some es := ⟨_, List.getElem?_eq_getElem (by have := RX.out.2.2.2.2; omega)⟩
          have hesl : es.length ≤ 1000 := by
            have := (List.sublist_flatten_of_mem (List.mem_of_getElem? hes)).length_le
            have := RX.out.2.2.2.1; omega
          obtain ⟨L, hL⟩ : ∃ L, srt es = L := ⟨_, rfl⟩
          obtain ⟨m, hm⟩ : ∃ m, L.length = m := ⟨_, rfl⟩
          have HE := Lib.hid (And.intro hes (And.intro hesl (And.intro hL hm)))
          clear hes hesl hL hm
          go_wp2_with fail
          refine (of_in R.out.1 HE.out.1 HE.out.2.1 HE.out.2.2.1 HE.out.2.2.2).mono ?_
          rintro e w3 ⟨a3, c3, rfl, hs3, hg3⟩
          have hS3 : base ≤ w3.heap.size := Nat.le_trans hS hg3.size
          have R3 := Lib.hid (And.intro (R.out.1.grown hg3) (And.intro (below_more R.out.2.1 hg3 R.out.2.1.size) R.out.2.2))
          have HS3 := Lib.hid hs3
          clear R hs3 hg3
          rcases L with _ | ⟨y, L'⟩
          · obtain rfl : m = 0 := by have := HE.out.2.2.2; simpa using this.symm
            go_wp2_with fail
            go_roundw
            case rel => exact ⟨p + 1, t, b, by omega, by go_num, rfl, rfl, by rw [take_flat HE.out.1, srt_none HE.out.2.2.1]; exact leastw_same R3.out.2.2, R3.out.1, R3.out.2.1, hS3⟩
            case measure => simp [intOf]; omega
          · obtain ⟨q, rfl⟩ : ∃ q, m = q + 1 := ⟨L'.length, by have := HE.out.2.2.2; simpa using this.symm⟩
            have hq0 : (0 : Int) < (q : Int) + 1 := by omega
            obtain ⟨hc3, g, rfl, y0⟩ : q + 1 ≤ c3 ∧ ∃ g, a3 = some ⟨g, 0, none⟩ ∧ w3.cell? ⟨g, 0, none⟩ = some (.int .i64 y.w) := by
              obtain ⟨a', c', e, h1, _, h2⟩ := HS3.out
              obtain ⟨rfl, h4, rfl⟩ := Value.slice.inj e
              obtain ⟨g, h5, h6, _⟩ := h2 0 y rfl
              exact ⟨by omega, g, h5, by simpa using h6⟩
            have hy := srt_first HE.out.2.2.1
            cases b with
            | false =>
              go_wp2_with fail
              go_roundw
              case rel => exact ⟨p + 1, y.w, true, by omega, by go_num, rfl, rfl, by rw [take_flat HE.out.1]; exact leastw_new R3.out.2.2 hy.1 hy.2 (fun h => by cases h), R3.out.1, R3.out.2.1, hS3⟩
              case measure => simp [intOf]; omega
            | true =>
              by_cases hlt2 : y.w < t
              · go_wp2_with fail
                go_roundw
                case rel => exact ⟨p + 1, y.w, true, by omega, by go_num, rfl, rfl, by rw [take_flat HE.out.1]; exact leastw_new R3.out.2.2 hy.1 hy.2 (fun _ => by omega), R3.out.1, R3.out.2.1, hS3⟩
                case measure => simp [intOf]; omega
              · go_wp2_with fail
                go_roundw
                case rel => exact ⟨p + 1, t, true, by omega, by go_num, rfl, rfl, by rw [take_flat HE.out.1]; exact leastw_keep R3.out.2.2 hy.2 (by omega), R3.out.1, R3.out.2.1, hS3⟩
                case measure => simp [intOf]; omega
        · obtain rfl : p = 5 := by omega
          obtain ⟨rfl, rfl⟩ := leastw_min (by rw [List.take_of_length_le (by have := RX.out.2.2.2.2; omega)] at R; exact R.out.2.2) RX.out.1
          have R2 := Lib.hid (And.intro R.out.1 R.out.2.1)
          clear R
          go_wp2_with fail
          refine (next_yes R2.out.1 RX.out.1).mono ?_
          rintro e w3 ⟨rfl, hg3⟩
          have hS3 : base ≤ w3.heap.size := Nat.le_trans hS hg3.size
          have R3 := Lib.hid (And.intro (R2.out.1.grown hg3) (below_more R2.out.2 hg3 R2.out.2.size))
          have hd1 : dueB (some x) x.w = true := by simp [dueB]
          have hd2 : dueB (some x) (x.w - 1) = false := by simp [dueB]; omega
          have HD := Lib.hid (And.intro hd1 hd2)
          clear R2 hg3 hS hd1 hd2
          go_wp2_with fail
          refine (due_is R3.out.1 RX.out.1 x.w).mono ?_
          rintro e w4 ⟨rfl, hg4⟩
          rw [HD.out.1]
          have hS4 : base ≤ w4.heap.size := Nat.le_trans hS3 hg4.size
          have R4 := Lib.hid (And.intro (R3.out.1.grown hg4) (below_more R3.out.2 hg4 R3.out.2.size))
          clear R3 hg4 hS3
          by_cases hmn : -9223372036854775808 < x.w
          · have hw1 : IntKind.i64.wrap (x.w - 1) = x.w - 1 := by rw [IntKind.wrap_i64]; omega
            go_wp2_with fail
            refine (due_is R4.out.1 RX.out.1 (x.w - 1)).mono ?_
            rintro e w5 ⟨rfl, hg5⟩
            rw [HD.out.2]
            have hS5 : base ≤ w5.heap.size := Nat.le_trans hS4 hg5.size
            have R5 := Lib.hid (And.intro (R4.out.1.grown hg5) (below_more R4.out.2 hg5 R4.out.2.size))
            clear R4 hg5 hS4
            go_wp2_with fail
            go_roundw
            case rel => exact ⟨k + 1, by omega, by go_num, ⟨lb, hb, vs, Hs, R5.out.1, RX.out.2.2.1, RX.out.2.1, fun _ h => h.elim⟩, R5.out.2, hS5⟩
            case measure => simp [intOf]; omega
          · go_wp2_with fail
            go_roundw
            case rel => exact ⟨k + 1, by omega, by go_num, ⟨lb, hb, vs, Hs, R4.out.1, RX.out.2.2.1, RX.out.2.1, fun _ h => h.elim⟩, R4.out.2, hS4⟩
            case measure => simp [intOf]; omega
    · obtain rfl : k = len := by omega
      have hgl : ((Gs k).length : Int) = (k : Int) := by simp [Gs]
      go_wp2_with fail
      refine (tms_len T.out).mono ?_
      rintro e w4 ⟨rfl, rfl⟩
      rw [hgl]
      go_wp2_with fail
      go_ret
      exact ⟨by simp, B.out⟩

set_option maxRecDepth 100000 in
set_option maxHeartbeats 1000000 in
theorem next_long (a : Option Addr) (len cap : Nat) (w : World) (hl : 40 < len) (hm : len ≤ maxLen) :
    Calls Try.prog 5 #[.slice a len cap] w fun e w' => e = .returned (.bool true) ∧ Below w.heap.size w w' := by
  unfold maxLen at hm
  go_enter Try.func5, Try.ntmps5
  go_wp2_with fail
  refine (lives_is w).mono ?_
  rintro e w0 ⟨rfl, hb⟩
  have HB := Lib.hid hb
  clear hb
  go_wp2_with fail
  refine (lives_is w0).mono ?_
  rintro e w1 ⟨rfl, hb⟩
  have HB1 := Lib.hid hb
  clear hb
  go_wp2_with fail
  go_ret
  exact ⟨rfl, HB.out.trans (HB1.out.mono HB.out.size)⟩

theorem next_any (a : Option Addr) (len cap : Nat) (w : World) (ha : Args.IsFlat [.i64] w a len) :
    Calls Try.prog 5 #[.slice a len cap] w fun e w' => e = .returned (.bool true) ∧ Below w.heap.size w w' := by
  obtain ⟨hm, hnil, f, hf⟩ := ha
  by_cases hl : 40 < len
  · exact next_long a len cap w hl hm
  · have hx : ∀ i, i < len → ∃ x, f i = [x] ∧ (Lit.int .i64 x).wf = true := fun i hi => Args.fits1 (hf i hi).1
    refine next_short a len cap (fun i => (f i).getD 0 0) w (by omega) hnil (fun b hb i hi => ?_) (fun i hi => ?_)
    · obtain ⟨x, e, _⟩ := hx i hi
      have := ((hf i hi).2 b hb 0 (.int .i64 x) (by simp [e, Args.valsOf])).1
      simpa [List.getD, hi, e] using this
    · obtain ⟨x, e, h⟩ := hx i hi
      simp only [e, List.getD_cons_zero]
      have := bounds_i64 h
      omega
end Go.Proofs.Ytmaahidipbghfaa.Tm
