/-
  The law SourceNext.
-/
import Derived.Test.YtlhblhgbpaipaaaSrcLives
import Derived.Test.YtlhblhgbpaipaaaArgs
namespace Go.Proofs.Ytlhblhgbpaipaaa.Src
open Go.RowKit
open Go.Proofs.Ytlhblhgbpaipaaa.Hp
open Go.Proofs.Ytlhblhgbpaipaaa.Tm (Tms Kept IsMin dueB min_ex)
open Go.Proofs.Ytlhblhgbpaipaaa.Pl (IsPl PFr St aput adel alook stOf dueL fullL)
set_option linter.unusedVariables false
set_option linter.unusedSimpArgs false

/-- The least time of some entries; 0: there are none. -/
def LeastW (l : List Ent) (t : Int) (has : Bool) : Prop :=
  (has = false ∧ t = 0 ∧ l = []) ∨ (has = true ∧ (∃ x ∈ l, x.w = t) ∧ ∀ x ∈ l, t ≤ x.w)
theorem leastw_keep {l : List Ent} {t : Int} {y : Ent} (h : LeastW l t true) (hle : t ≤ y.w) : LeastW (l ++ [y]) t true := by
  rcases h with ⟨e, _⟩ | ⟨_, ⟨x, hx, e⟩, h2⟩
  · cases e
  · refine .inr ⟨rfl, ⟨x, List.mem_append_left _ hx, e⟩, fun z hz => ?_⟩
    rcases List.mem_append.1 hz with h3 | h3
    · exact h2 z h3
    · simp at h3; subst h3; exact hle
theorem leastw_new {l : List Ent} {t : Int} {b : Bool} {y : Ent} (h : LeastW l t b) (hle : b = true → y.w ≤ t) : LeastW (l ++ [y]) y.w true := by
  refine .inr ⟨rfl, ⟨y, by simp, rfl⟩, fun z hz => ?_⟩
  rcases List.mem_append.1 hz with h3 | h3
  · rcases h with ⟨_, _, e⟩ | ⟨e, _, h2⟩
    · rw [e] at h3; simp at h3
    · exact Int.le_trans (hle e) (h2 z h3)
  · simp at h3; subst h3; exact Int.le_refl _
theorem leastw_min {l : List Ent} {t : Int} {b : Bool} {x : Ent} (h : LeastW l t b) (hm : IsMin l (some x)) : b = true ∧ t = x.w := by
  rcases h with ⟨_, _, e⟩ | ⟨e, ⟨y, hy, e2⟩, h2⟩
  · have := hm.1; rw [e] at this; simp at this
  · refine ⟨e, ?_⟩
    have h3 := h2 x hm.1
    have h4 := hm.2 y hy
    rw [le_iff] at h4
    omega

/-- Five, and so much later. -/
def wh (d : Int) : Int := Clk.sat 5 (Clk.mx 0 d)
def Es (z : Nat → Int) (k : Nat) : List Ent := (List.range k).map fun i => ⟨wh (z i), i, i⟩
def Gk (k : Nat) : List Int := (List.range k).map fun (i : Nat) => (i : Int)
theorem Es_succ (z : Nat → Int) (k : Nat) : Es z (k + 1) = Es z k ++ [⟨wh (z k), k, k⟩] := by simp [Es, List.range_succ]
theorem Gk_succ (k : Nat) : Gk (k + 1) = Gk k ++ [(k : Int)] := by simp [Gk, List.range_succ]
theorem Gk_not (k : Nat) : (k : Int) ∉ Gk k := by
  intro h; obtain ⟨i, hi, e⟩ := List.mem_map.1 h
  have := List.mem_range.1 hi; omega
def FL (j : Nat) : List (Int × St) := (List.range j).map fun (i : Nat) => ((i : Int), ⟨100 + (i : Int), true, false⟩)
def PL (j : Nat) : List (Int × Int) := (List.range j).map fun (i : Nat) => (100 + (i : Int), (i : Int))
theorem FL_not (j : Nat) : (j : Int) ∉ (FL j).map (·.1) := by
  intro h; simp [FL] at h; obtain ⟨a, h1, h2⟩ := h; omega
theorem PL_not (j : Nat) : 100 + (j : Int) ∉ (PL j).map (·.1) := by
  intro h; simp [PL] at h; obtain ⟨i, hi, e⟩ := h; omega
theorem FL_succ (j : Nat) : aput (FL j) (j : Int) ⟨100 + j, true, (stOf (FL j) j).ready⟩ = FL (j + 1) := by
  unfold aput
  rw [if_neg (FL_not j), Pl.stOf_none (Pl.alook_none.2 (FL_not j))]
  simp [FL, List.range_succ, St.zero]
theorem PL_succ (j : Nat) : aput (PL j) (100 + (j : Int)) (j : Int) = PL (j + 1) := by
  unfold aput
  rw [if_neg (PL_not j)]
  simp [PL, List.range_succ]
theorem FL_due (j : Nat) : dueL (FL j) = false := by
  unfold dueL
  rw [List.any_eq_false]
  intro p hp
  obtain ⟨i, _, rfl⟩ := List.mem_map.1 hp
  simp
theorem FL_full (j : Nat) (hj : j < 1000) : fullL (FL j) (j : Int) = false := by
  unfold fullL
  have : (FL j).length = j := by simp [FL]
  simp [this]; intro _; omega

set_option maxRecDepth 100000 in
set_option maxHeartbeats 4000000 in
theorem next_short (a : Option Addr) (len cap : Nat) (z : Nat → Int) (y : Int) (w : World) (hy : 0 ≤ y ∧ y < 256) (hl : len ≤ 40) (hnil : a = none → len = 0) (hc : ∀ b, a = some b → ∀ i, i < len → w.cell? (b.add i) = some (.int .i64 (z i))) (hz : ∀ i, i < len → -9223372036854775808 ≤ z i ∧ z i < 9223372036854775808) :
    Calls Try.prog 3 #[.slice a len cap, .int .u8 y] w fun e w' => e = .returned (.bool true) ∧ Below w.heap.size w w' := by
  have hlt : ¬ (40 < len) := by omega
  have HC := Lib.hid hc
  have HN := Lib.hid hnil
  have HZ := Lib.hid hz
  clear hc hnil hz
  go_enter Try.func3, Try.ntmps3
  go_wp2_with fail
  refine (lives_is w).mono ?_
  rintro e w0 ⟨rfl, hb⟩
  have HB := Lib.hid hb
  clear hb
  go_wp2_with fail
  refine (snew_is w0 3 3 (by decide)).mono ?_
  rintro e w1 ⟨sb, tb, pb, fb, wb, rfl, I, hg⟩
  have H1 := Lib.hid (And.intro I (And.intro (grown_below hg) hg.size))
  clear I hg
  go_wp2_with fail
  refine (stick_is H1.out.1 (d := 5) (t := 5) (by unfold Clk.I64; omega) (by decide) min0 (r := false) (by decide)).mono ?_
  rintro e w2 ⟨rfl, I, hk⟩
  have O : Hid (IsS w2 w0.heap.size sb tb pb fb wb 3 5 (Es z 0) 0 (Gk 0) (FL 0) (PL 0) (fun _ => False) ∧ Below w.heap.size w w2) := Lib.hid ⟨I, HB.out.trans ((H1.out.2.1.trans hk.below).mono HB.out.size)⟩
  clear I hk H1
  go_wp2_with fail
  have hbase : w.heap.size ≤ w0.heap.size := HB.out.size
  generalize w0.heap.size = base at *
  go_loopw [6, 7, 31] (fun t b q wr => ∃ (k : Nat) (t' : Int) (b' : Bool), k ≤ len ∧ q = .int .i64 k ∧ t = .int .i64 t' ∧ b = .bool b' ∧ LeastW (Es z k) t' b' ∧ IsS wr base sb tb pb fb wb 3 5 (Es z k) k (Gk k) (FL 0) (PL 0) (fun _ => False) ∧ Below w.heap.size w wr) (fun _ _ q _ => len - (intOf q).toNat)
  case atStart => exact ⟨0, 0, false, Nat.zero_le _, rfl, rfl, rfl, .inl ⟨rfl, rfl, rfl⟩, O.out.1, O.out.2⟩
  case round =>
    clear O
    obtain ⟨k, t, b, hk, rfl, rfl, rfl, hL, hI, hB⟩ := hrel
    have R := Lib.hid (And.intro hI (And.intro hB hL))
    clear hI hB hL
    by_cases hlen : k < len
    · obtain ⟨c, rfl⟩ : ∃ c, a = some c := by
        cases a with
        | none => exact absurd (HN.out rfl) (by omega)
        | some c => exact ⟨c, rfl⟩
      have hcx : wr.cell? (c.add k) = some (.int .i64 (z k)) := cell_later R.out.2.1 (HC.out c rfl k hlen)
      have hzk := HZ.out k hlen
      obtain ⟨d, hd⟩ : ∃ d, d = z k := ⟨_, rfl⟩
      rw [← hd] at hcx hzk
      have HD := Lib.hid hd
      clear hd
      have hp0 : 0 ≤ (k : Int) % 3 := by omega
      have hp1 : (k : Int) % 3 < 3 := by omega
      obtain ⟨m, hm⟩ := min_ex (Es z k ++ [⟨wh d, k, k⟩])
      have HM := Lib.hid hm
      clear hm
      go_wp2_with fail
      refine (sleep_ok R.out.1 _ k d (wh d) rfl (by unfold Clk.I64; omega) rfl hp0 hp1 (by omega) (by omega) (Gk_not k) (by omega) HM.out rfl).mono ?_
      rintro e w3 ⟨rfl, I, hk3⟩
      have R3 : Hid (IsS w3 base sb tb pb fb wb 3 5 (Es z (k + 1)) (k + 1) (Gk (k + 1)) (FL 0) (PL 0) (fun _ => False) ∧ Below w.heap.size w w3 ∧ LeastW (Es z k) t b ∧ Es z (k + 1) = Es z k ++ [⟨wh d, k, k⟩]) := Lib.hid ⟨by rw [Es_succ, Gk_succ, ← HD.out]; exact I, R.out.2.1.trans (hk3.below.mono hbase), R.out.2.2, by rw [Es_succ, ← HD.out]⟩
      clear I hk3 R hcx
      obtain ⟨v, hv⟩ : ∃ v, wh d = v := ⟨_, rfl⟩
      obtain ⟨m1, hm1⟩ : ∃ m1, (if 0 < d then d else 0) = m1 := ⟨_, rfl⟩
      obtain ⟨m2, hm2⟩ : ∃ m2, mn m1 9223372036854775802 = m2 := ⟨_, rfl⟩
      have hmax : ∀ (ts : Array TypeId) (t : TypeId) (W : World), (Builtin.max_ ts t #[.int .i64 0, .int .i64 d]).run Try.prog W = .ok (.int .i64 m1) W := fun ts t W => Tm.max_is hm1
      have hmin : ∀ (ts : Array TypeId) (t : TypeId) (W : World), (Builtin.min_ ts t #[.int .i64 m1, .int .i64 9223372036854775802]).run Try.prog W = .ok (.int .i64 m2) W := fun ts t W => run_min_is ts t _ _ _ _ _ hm2 W
      have hw5 : IntKind.i64.wrap (5 + m2) = v := by
        rw [IntKind.wrap_i64]
        unfold wh Clk.sat Clk.mx at hv
        unfold mn at hm2
        (repeat' split at hv) <;> (repeat' split at hm1) <;> (repeat' split at hm2) <;> omega
      rw [hv] at R3
      clear hm1 hm2 hv
      cases b with
      | false =>
        go_wp2_with fail
        go_roundw
        case rel => exact ⟨k + 1, v, true, by omega, by go_num, rfl, rfl, by rw [R3.out.2.2.2]; exact leastw_new R3.out.2.2.1 (fun h => by cases h), R3.out.1, R3.out.2.1⟩
        case measure => simp [intOf]; omega
      | true =>
        by_cases hlt2 : v < t
        · go_wp2_with fail
          go_roundw
          case rel => exact ⟨k + 1, v, true, by omega, by go_num, rfl, rfl, by rw [R3.out.2.2.2]; exact leastw_new R3.out.2.2.1 (fun _ => by show v ≤ t; omega), R3.out.1, R3.out.2.1⟩
          case measure => simp [intOf]; omega
        · go_wp2_with fail
          go_roundw
          case rel => exact ⟨k + 1, t, true, by omega, by go_num, rfl, rfl, by rw [R3.out.2.2.2]; exact leastw_keep R3.out.2.2.1 (by show t ≤ v; omega), R3.out.1, R3.out.2.1⟩
          case measure => simp [intOf]; omega
    · obtain rfl : k = len := by omega
      obtain ⟨m, hm⟩ : ∃ m : Nat, y % 9 = (m : Int) := ⟨(y % 9).toNat, by omega⟩
      have hm8 : m ≤ 8 := by omega
      have ek : y.tmod 9 = (m : Int) := by rw [← hm]; exact Int.tmod_eq_emod_of_nonneg hy.1
      have hwm : IntKind.i64.wrap (m : Int) = (m : Int) := by rw [IntKind.wrap_i64]; omega
      clear hm
      go_wp2_with fail
      go_loopw [63] (fun q wx => ∃ (j : Nat), j ≤ m ∧ q = .int .i64 j ∧ IsS wx base sb tb pb fb wb 3 5 (Es z k) k (Gk k) (FL j) (PL j) (fun _ => False) ∧ Below w.heap.size w wx) (fun q _ => m - (intOf q).toNat)
      case atStart => exact ⟨0, Nat.zero_le _, rfl, R.out.1, R.out.2.1⟩
      case round =>
        obtain ⟨j, hj, rfl, hI, hB⟩ := hrel
        have R2 := Lib.hid (And.intro hI hB)
        clear hI hB
        by_cases hjm : j < m
        · have hw : IntKind.u16.wrap (j : Int) = (j : Int) := by rw [IntKind.wrap_u16]; omega
          have hw2 : IntKind.i64.wrap (100 + (j : Int)) = 100 + (j : Int) := by rw [IntKind.wrap_i64]; omega
          obtain ⟨mq, hmq⟩ := min_ex (Es z k)
          have HM := Lib.hid hmq
          clear hmq
          have hnot : (100 + (j : Int)) ∉ Gk k := by
            intro h; obtain ⟨q, hq, e⟩ := List.mem_map.1 h
            have := List.mem_range.1 hq; omega
          have hpl : (PL j).length < 1000000 := by simp [PL]; omega
          have HQ := Lib.hid (And.intro hnot hpl)
          clear hnot hpl
          go_wp2_with fail
          refine (swait_ok R2.out.1 j (100 + (j : Int)) HQ.out.1 (by omega) (by omega) (by rw [Pl.stOf_none (Pl.alook_none.2 (FL_not j))]; rfl) (by rw [Pl.alook_none.2 (PL_not j)]; rfl) (FL_full j (by omega)) HQ.out.2 HM.out rfl).mono ?_
          rintro e w4 ⟨rfl, I, hk4⟩
          rw [FL_succ, PL_succ] at I
          have R3 := Lib.hid (And.intro I (R2.out.2.trans (hk4.below.mono hbase)))
          clear I hk4
          go_wp2_with fail
          go_roundw
          case rel => exact ⟨j + 1, by omega, by go_num, R3.out.1, R3.out.2⟩
          case measure => simp [intOf]; omega
        · obtain rfl : j = m := by omega
          have hgl : ((Gk k).length : Int) = (k : Int) := by simp [Gk]
          have hpl : ((PL j).length : Int) = (j : Int) := by simp [PL]
          have hbd : (Gk k).length + (PL j).length < 1000000 := by omega
          have hw3 : IntKind.i64.wrap ((k : Int) + (j : Int)) = (k : Int) + (j : Int) := by rw [IntKind.wrap_i64]; omega
          have HL := Lib.hid (And.intro hgl (And.intro hpl hbd))
          clear hgl hpl hbd
          have hlw := R.out.2.2
          obtain ⟨mq, hmq⟩ := min_ex (Es z k)
          cases mq with
          | none =>
            have e0 : Es z k = [] := hmq
            have hbt : b = false ∧ t = 0 := by
              rcases hlw with ⟨h1, h2, _⟩ | ⟨_, ⟨x, hx, _⟩, _⟩
              · exact ⟨h1, h2⟩
              · rw [e0] at hx; simp at hx
            obtain ⟨rfl, rfl⟩ := hbt
            have R4 : Hid (IsS wr base sb tb pb fb wb 3 5 [] k (Gk k) (FL j) (PL j) (fun _ => False) ∧ Below w.heap.size w wr) := Lib.hid ⟨by rw [← e0]; exact R2.out.1, R2.out.2⟩
            clear hlw hmq e0 R R2
            go_wp2_with fail
            refine (snext_no R4.out.1).mono ?_
            rintro e w4 ⟨rfl, hg⟩
            have R5 := Lib.hid (And.intro (R4.out.1.grown hg) (R4.out.2.trans ((grown_below hg).mono R4.out.2.size)))
            clear hg R4
            go_wp2_with fail
            refine (sdue_is R5.out.1 min0 (r := false) (by rw [FL_due]; rfl)).mono ?_
            rintro e w5 ⟨rfl, hg⟩
            have R6 := Lib.hid (And.intro (R5.out.1.grown hg) (R5.out.2.trans ((grown_below hg).mono R5.out.2.size)))
            clear hg R5
            go_wp2_with fail
            refine (slen_is R6.out.1 HL.out.2.2).mono ?_
            rintro e w6 ⟨rfl, hg⟩
            rw [HL.out.1, HL.out.2.1]
            have R7 := Lib.hid (R6.out.2.trans ((grown_below hg).mono R6.out.2.size))
            clear hg R6
            go_wp2_with fail
            go_ret
            exact ⟨rfl, R7.out⟩
          | some x =>
            obtain ⟨rfl, rfl⟩ := leastw_min hlw hmq
            have HM := Lib.hid hmq
            have R4 := Lib.hid (And.intro R2.out.1 R2.out.2)
            clear hlw hmq R R2
            go_wp2_with fail
            refine (snext_yes R4.out.1 HM.out).mono ?_
            rintro e w4 ⟨rfl, hg⟩
            have R5 := Lib.hid (And.intro (R4.out.1.grown hg) (R4.out.2.trans ((grown_below hg).mono R4.out.2.size)))
            clear hg R4
            by_cases hle : x.w ≤ 5
            · go_wp2_with fail
              refine (sdue_is R5.out.1 HM.out (r := true) (by simp [dueB, hle])).mono ?_
              rintro e w5 ⟨rfl, hg⟩
              have R6 := Lib.hid (And.intro (R5.out.1.grown hg) (R5.out.2.trans ((grown_below hg).mono R5.out.2.size)))
              clear hg R5
              go_wp2_with fail
              refine (slen_is R6.out.1 HL.out.2.2).mono ?_
              rintro e w6 ⟨rfl, hg⟩
              rw [HL.out.1, HL.out.2.1]
              have R7 := Lib.hid (R6.out.2.trans ((grown_below hg).mono R6.out.2.size))
              clear hg R6
              go_wp2_with fail
              go_ret
              exact ⟨rfl, R7.out⟩
            · go_wp2_with fail
              refine (sdue_is R5.out.1 HM.out (r := false) (by rw [FL_due]; simp [dueB, hle])).mono ?_
              rintro e w5 ⟨rfl, hg⟩
              have R6 := Lib.hid (And.intro (R5.out.1.grown hg) (R5.out.2.trans ((grown_below hg).mono R5.out.2.size)))
              clear hg R5
              go_wp2_with fail
              refine (slen_is R6.out.1 HL.out.2.2).mono ?_
              rintro e w6 ⟨rfl, hg⟩
              rw [HL.out.1, HL.out.2.1]
              have R7 := Lib.hid (R6.out.2.trans ((grown_below hg).mono R6.out.2.size))
              clear hg R6
              go_wp2_with fail
              go_ret
              exact ⟨by simp [hle], R7.out⟩

set_option maxRecDepth 100000 in
set_option maxHeartbeats 1000000 in
theorem next_long (a : Option Addr) (len cap : Nat) (y : Int) (w : World) (hl : 40 < len) (hm : len ≤ maxLen) :
    Calls Try.prog 3 #[.slice a len cap, .int .u8 y] w fun e w' => e = .returned (.bool true) ∧ Below w.heap.size w w' := by
  unfold maxLen at hm
  go_enter Try.func3, Try.ntmps3
  go_wp2_with fail
  refine (lives_is w).mono ?_
  rintro e w0 ⟨rfl, hb⟩
  have HB := Lib.hid hb
  clear hb
  go_wp2_with fail
  refine (lives_is w0).mono ?_
  rintro e w1 ⟨rfl, hb⟩
  have HB1 := Lib.hid (HB.out.trans (hb.mono HB.out.size))
  clear hb
  go_wp2_with fail
  refine bodyPost_ret (results_tmp rfl _ _ _) rfl ?_
  exact ⟨rfl, HB1.out⟩
theorem wf8 {x : Int} (h : (Lit.int .u8 x).wf = true) : 0 ≤ x ∧ x < 256 := by
  simp [Lit.wf, IntKind.min, IntKind.max, IntKind.signed, IntKind.bits] at h
  omega
theorem next_any (a : Option Addr) (len cap : Nat) (y : Int) (w : World) (hy : 0 ≤ y ∧ y < 256) (ha : Args.IsFlat [.i64] w a len) :
    Calls Try.prog 3 #[.slice a len cap, .int .u8 y] w fun e w' => e = .returned (.bool true) ∧ Below w.heap.size w w' := by
  obtain ⟨hm, hnil, f, hf⟩ := ha
  by_cases hl : 40 < len
  · exact next_long a len cap y w hl hm
  · have hx : ∀ i, i < len → ∃ x, f i = [x] ∧ (Lit.int .i64 x).wf = true := fun i hi => Args.fits1 (hf i hi).1
    refine next_short a len cap (fun i => (f i).getD 0 0) y w hy (by omega) hnil (fun b hb i hi => ?_) (fun i hi => ?_)
    · obtain ⟨x, e, _⟩ := hx i hi
      have := ((hf i hi).2 b hb 0 (.int .i64 x) (by simp [e, Args.valsOf])).1
      simpa [List.getD, hi, e] using this
    · obtain ⟨x, e, h⟩ := hx i hi
      simp only [e, List.getD_cons_zero]
      have := bounds_i64 h
      omega
end Go.Proofs.Ytlhblhgbpaipaaa.Src
