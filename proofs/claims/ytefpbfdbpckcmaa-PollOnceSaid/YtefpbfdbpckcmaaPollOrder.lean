/-
  The law PollOrder.
-/
import Derived.Test.YtefpbfdbpckcmaaPollFull
import Derived.Test.YtefpbfdbpckcmaaArgs
namespace Go.Proofs.Ytefpbfdbpckcmaa.Pl
open Go.RowKit
set_option linter.unusedVariables false
set_option linter.unusedSimpArgs false

def nRdy (F : List (Int × St)) : Nat := F.countP fun p => p.2.ready
theorem count_del {α : Type} {q : Int × α → Bool} {k : Int} {v : α} : ∀ {F : List (Int × α)}, (F.map (·.1)).Nodup → (k, v) ∈ F → q (k, v) = true → (adel F k).countP q + 1 = F.countP q
  | [], _, h, _ => by cases h
  | p :: t, hn, h, hr => by
    simp only [List.map_cons, List.nodup_cons] at hn
    rcases List.mem_cons.1 h with rfl | h
    · have : adel ((k, v) :: t) k = t := by
        unfold adel
        rw [List.filter_cons_of_neg (by simp)]
        exact List.filter_eq_self.2 (fun q hq => by simp; intro e; exact hn.1 (by rw [← e]; exact List.mem_map.2 ⟨q, hq, rfl⟩))
      rw [this, List.countP_cons_of_pos hr]
    · have hp : p.1 ≠ k := fun e => hn.1 (by rw [e]; exact List.mem_map.2 ⟨_, h, rfl⟩)
      have e : adel (p :: t) k = p :: adel t k := by unfold adel; rw [List.filter_cons_of_pos (by simpa using hp)]
      have ih := count_del hn.2 h hr
      rw [e, List.countP_cons, List.countP_cons]; omega
theorem aput_last {α : Type} {F : List (Int × α)} {k : Int} {v v' : α} (h : alook F k = none) : aput (F ++ [(k, v)]) k v' = F ++ [(k, v')] := by
  have hk := alook_none.1 h
  unfold aput
  rw [if_pos (by simp)]
  rw [List.map_append]
  congr 1
  · conv => rhs; rw [← List.map_id F]
    apply List.map_congr_left
    intro p hp
    have : p.1 ≠ k := fun e => hk (List.mem_map.2 ⟨p, hp, e⟩)
    simp [this]
  · simp

theorem alook_app {α : Type} {F : List (Int × α)} {k : Int} {v : α} (h : alook F k = none) : alook (F ++ [(k, v)]) k = some v := by
  rw [← aput_new h, alook_put, if_pos rfl]

/-- Behind i waits. -/
structure PO (f : Nat → Int) (i : Nat) (F : List (Int × St)) (G : List (Int × Int)) : Prop where
  all : ∀ p ∈ F, p.2.waits = true ∧ ∃ j : Nat, p.2.g = (j : Int) ∧ j < i ∧ f j = p.1
  keys : ∀ g ∈ G.map (·.1), g < (i : Int)
  len : F.length ≤ i
theorem PO.new {f : Nat → Int} {i : Nat} {F : List (Int × St)} {G : List (Int × Int)} (h : PO f i F G) (b : Bool) : PO f (i + 1) (F ++ [(f i, ⟨i, true, b⟩)]) (G ++ [((i : Int), f i)]) := by
  refine ⟨fun p hp => ?_, fun g hg => ?_, by have := h.len; simp; omega⟩
  · rcases List.mem_append.1 hp with hp | hp
    · obtain ⟨h1, j, h2, h3, h4⟩ := h.all p hp
      exact ⟨h1, j, h2, by omega, h4⟩
    · obtain rfl := List.mem_singleton.1 hp
      exact ⟨rfl, i, rfl, by omega, rfl⟩
  · rw [List.map_append] at hg
    rcases List.mem_append.1 hg with hg | hg
    · have := h.keys g hg; omega
    · simp at hg; omega
theorem PO.up {f : Nat → Int} {i : Nat} {F : List (Int × St)} {G : List (Int × Int)} (h : PO f i F G) : PO f (i + 1) F G := by
  refine ⟨fun p hp => ?_, fun g hg => by have := h.keys g hg; omega, by have := h.len; omega⟩
  obtain ⟨h1, j, h2, h3, h4⟩ := h.all p hp
  exact ⟨h1, j, h2, by omega, h4⟩
theorem PO.free {f : Nat → Int} {i : Nat} {F : List (Int × St)} {G : List (Int × Int)} (h : PO f i F G) {x : Int} (hw : (stOf F x).waits = false) : alook F x = none := by
  cases hs : alook F x with
  | none => rfl
  | some s =>
    have := (h.all _ (alook_some_mem hs)).1
    rw [stOf_some hs] at hw
    simp only at this
    rw [hw] at this; cases this
theorem PO.noG {f : Nat → Int} {i : Nat} {F : List (Int × St)} {G : List (Int × Int)} (h : PO f i F G) : alook G (i : Int) = none :=
  alook_none.2 (fun hm => by have := h.keys _ hm; omega)
theorem nRdy_app (F : List (Int × St)) (p : Int × St) : nRdy (F ++ [p]) = nRdy F + if p.2.ready then 1 else 0 := by
  unfold nRdy; rw [List.countP_append]; simp [List.countP_cons]

set_option maxRecDepth 100000 in
set_option maxHeartbeats 4000000 in
theorem order_short (a : Option Addr) (len cap : Nat) (f : Nat → Int) (rd : Int) (w : World) (hl : len ≤ 60) (hnil : a = none → len = 0) (hfit : ∀ i, i < len → 0 ≤ f i ∧ f i < 65536)
    (hc : ∀ b, a = some b → ∀ i, i < len → w.cell? (b.add i) = some (.int .u16 (f i))) :
    Calls Try.prog 3 #[.slice a len cap, .int .u64 rd] w fun e w' => e = .returned (.bool true) ∧ Below w.heap.size w w' := by
  have hlt : ¬ (60 < len) := by omega
  have HC := Lib.hid hc
  have HN := Lib.hid hnil
  have HF := Lib.hid hfit
  clear hc hnil hfit
  go_enter Try.func3, Try.ntmps3
  go_wp2_with fail
  refine (lives_is w).mono ?_
  rintro e w0 ⟨rfl, hb⟩
  have HB := Lib.hid hb
  clear hb
  go_wp2_with fail
  refine (pnew_is w0 w.heap.size HB.out.size).mono ?_
  rintro e w1 ⟨pb, fb, wb, rfl, P, hg, h1, h2, h3⟩
  have T1 : Hid (IsPl w1 w.heap.size pb fb wb [] [] ∧ Below w.heap.size w w1) := Lib.hid ⟨P, below_next HB.out hg HB.out.size⟩
  have HW := Lib.hid (And.intro (Nat.le_trans HB.out.size h2) (Nat.le_trans HB.out.size h3))
  clear P hg h1 h2 h3
  go_wp2_with fail
  go_loopw [6, 7, 8, 27] (fun sw _ _ q wr => ∃ (i : Nat) (F : List (Int × St)) (G : List (Int × Int)), i ≤ len ∧ q = .int .i64 i ∧ sw = .int .i64 (nRdy F) ∧ PO f i F G ∧ IsPl wr w.heap.size pb fb wb F G ∧ Below w.heap.size w wr) (fun _ _ _ q _ => len - (intOf q).toNat)
  case atStart => exact ⟨0, [], [], Nat.zero_le _, rfl, rfl, ⟨by simp, by simp, by simp⟩, T1.out⟩
  case round =>
    clear T1 HB
    obtain ⟨i, F, G, hi, rfl, rfl, hPO, hP, hb⟩ := hrel
    have T := Lib.hid (And.intro hPO (And.intro hP hb))
    have hn60 : nRdy F ≤ 60 := Nat.le_trans List.countP_le_length (by have := hPO.len; omega)
    clear hPO hP hb
    by_cases hlen : i < len
    · obtain ⟨c, rfl⟩ : ∃ c, a = some c := by
        cases a with
        | none => exact absurd (HN.out rfl) (by omega)
        | some c => exact ⟨c, rfl⟩
      have hcx : wr.cell? (c.add i) = some (.int .u16 (f i)) := cell_later T.out.2.2 (HC.out c rfl i hlen)
      obtain ⟨n, hn⟩ : ∃ n, nRdy F = n := ⟨_, rfl⟩
      have HNR := Lib.hid hn
      rw [hn] at hn60
      rw [hn]
      clear hn
      cases hw : (stOf F (f i)).waits with
      | true =>
        have HWT := Lib.hid hw
        clear hw
        go_wp2_with fail
        refine (wait_same T.out.2.1 (f i) i (by omega) (by omega) (.inl HWT.out)).mono ?_
        rintro e w2 ⟨rfl, hg⟩
        have T2 := Lib.hid (And.intro (T.out.2.1.grown hg) (below_next T.out.2.2 hg T.out.2.2.size))
        clear hg hcx
        go_wp2_with fail
        go_roundw
        case rel => exact ⟨i + 1, F, G, by omega, by go_num, by rw [HNR.out], T.out.1.up, T2.out⟩
        case measure => simp [intOf] <;> omega
      | false =>
        have hno := T.out.1.free hw
        have HNO := Lib.hid (And.intro hno hw)
        have hfull : fullL F (f i) = false := by unfold fullL; rw [hno]; simp; have := T.out.1.len; omega
        have HFU := Lib.hid hfull
        clear hno hw hfull
        go_wp2_with fail
        refine (wait_ok T.out.2.1 (f i) i (by omega) (by omega) HNO.out.2 (by rw [T.out.1.noG]; rfl) HFU.out).mono ?_
        rintro e w2 ⟨rfl, P, hk⟩
        rw [stOf_none HNO.out.1, aput_new HNO.out.1, aput_new T.out.1.noG] at P
        have T2 : Hid (IsPl w2 w.heap.size pb fb wb (F ++ [(f i, ⟨i, true, false⟩)]) (G ++ [((i : Int), f i)]) ∧ Below w.heap.size w w2) := Lib.hid ⟨P, below_pfr T.out.2.2 hk T.out.2.2.size HW.out.1 HW.out.2⟩
        clear P hk hcx
        go_wp2_with fail
        · refine (ready_ok T2.out.1 (f i) (by unfold fullL; rw [alook_app HNO.out.1]; rfl)).mono ?_
          rintro e w3 ⟨rfl, P, hk⟩
          rw [stOf_some (alook_app HNO.out.1), aput_last HNO.out.1] at P
          have T3 : Hid (IsPl w3 w.heap.size pb fb wb (F ++ [(f i, ⟨i, true, true⟩)]) (G ++ [((i : Int), f i)]) ∧ Below w.heap.size w w3) := Lib.hid ⟨P, below_pfr T2.out.2 hk T2.out.2.size HW.out.1 HW.out.2⟩
          clear P hk T2
          go_wp2_with fail
          go_roundw
          case rel => exact ⟨i + 1, _, _, by omega, by go_num, by rw [nRdy_app, HNR.out]; simp, T.out.1.new true, T3.out⟩
          case measure => simp [intOf] <;> omega
        · go_roundw
          case rel => exact ⟨i + 1, _, _, by omega, by go_num, by rw [nRdy_app, HNR.out]; simp, T.out.1.new false, T2.out⟩
          case measure => simp [intOf] <;> omega
    · obtain rfl : i = len := by omega
      go_wp2_with fail
      obtain ⟨N, hN⟩ : ∃ N, nRdy F = N := ⟨_, rfl⟩
      have T3 : Hid (nRdy F = N - 0 ∧ (∀ p ∈ F, p.2.waits = true ∧ ∃ j : Nat, p.2.g = (j : Int) ∧ j < i ∧ f j = p.1) ∧ F.length ≤ 60 ∧ IsPl wr w.heap.size pb fb wb F G ∧ Below w.heap.size w wr) := Lib.hid ⟨hN, T.out.1.all, by have := T.out.1.len; omega, T.out.2⟩
      rw [hN] at hn60
      rw [hN]
      clear T hN
      go_loopw [9, 10, 11, 12, 51] (fun sl _ _ _ q wr => ∃ (j : Nat) (last : Int) (F : List (Int × St)) (G : List (Int × Int)), j ≤ N ∧ q = .int .i64 j ∧ sl = .int .i64 last ∧ -1 ≤ last ∧ last < 65536 ∧ (∀ p ∈ F, p.2.ready = true → last < p.1) ∧ nRdy F = N - j ∧
        (∀ p ∈ F, p.2.waits = true ∧ ∃ j : Nat, p.2.g = (j : Int) ∧ j < i ∧ f j = p.1) ∧ F.length ≤ 60 ∧ IsPl wr w.heap.size pb fb wb F G ∧ Below w.heap.size w wr) (fun _ _ _ _ q _ => N - (intOf q).toNat)
      case atStart => exact ⟨0, -1, F, G, Nat.zero_le _, rfl, rfl, by decide, by decide, fun p hp _ => by
        obtain ⟨_, j, _, h3, h4⟩ := T3.out.2.1 p hp
        have := (HF.out j h3).1; omega, T3.out⟩
      case round =>
        clear T3
        obtain ⟨j, last, F, G, hj, rfl, rfl, hl0, hl1, hlast, hcnt, hall, hF, hP, hb⟩ := hrel
        have T := Lib.hid (And.intro hlast (And.intro hcnt (And.intro hall (And.intro hP hb))))
        obtain ⟨m, hm⟩ := least_ex F
        have HM := Lib.hid hm
        clear hlast hcnt hall hP hb hm
        by_cases hjn : j < N
        · obtain ⟨⟨fd, g⟩, rfl⟩ : ∃ x, m = some x := by
            cases m with
            | some x => exact ⟨x, rfl⟩
            | none =>
              exfalso
              have h1 := T.out.2.1
              have : nRdy F = 0 := List.countP_eq_zero.2 (fun p hp => by
                have := HM.out p.1 p.2 (alook_mem T.out.2.2.2.1.nodup hp)
                rw [(T.out.2.2.1 p hp).1] at this
                simpa using this)
              omega
          obtain ⟨s, hs1, hs2, hs3, hs4, hs5⟩ := HM.out
          have hmem := alook_some_mem hs1
          obtain ⟨_, jj, hg1, hg2, hg3⟩ := T.out.2.2.1 _ hmem
          have hfr := HF.out jj hg2
          have hlf : last < fd := T.out.1 _ hmem hs3
          obtain rfl : g = (jj : Int) := by rw [← hs4]; exact hg1
          obtain ⟨c, rfl⟩ : ∃ c, a = some c := by
            cases a with
            | none => exact absurd (HN.out rfl) (by omega)
            | some c => exact ⟨c, rfl⟩
          obtain ⟨x, hxf⟩ : ∃ x, f jj = x := ⟨_, rfl⟩
          have hxfd : fd = x := by rw [← hxf]; exact hg3.symm
          subst hxfd
          rw [hxf] at hfr
          have hwf : IntKind.i64.wrap fd = fd := by rw [IntKind.wrap_i64]; omega
          have hfd0 : ¬ fd ≤ last := by omega
          have HS := Lib.hid (And.intro hs1 (And.intro hs3 (And.intro hs5 (And.intro hg2 hxf))))
          clear hs1 hs2 hs3 hs4 hs5 hmem hg1 hg3 hxf
          go_wp2_with fail
          refine (ptake_some T.out.2.2.2.1 (by omega) HM.out).mono ?_
          rintro e w3 ⟨rfl, P, hk⟩
          have T3 := Lib.hid (And.intro P (below_pfr T.out.2.2.2.2 hk T.out.2.2.2.2.size HW.out.1 HW.out.2))
          have hcx : w3.cell? (c.add jj) = some (.int .u16 fd) := by rw [← HS.out.2.2.2.2]; exact cell_later T3.out.2 (HC.out c rfl jj HS.out.2.2.2.1)
          have hjl : (jj : Int) < (i : Int) := by omega
          clear P hk
          go_wp2_with fail
          go_roundw
          case rel =>
            refine ⟨j + 1, fd, adel F fd, adel G jj, by omega, by go_num, rfl, by omega, by omega, fun p hp hr => ?_, ?_, fun p hp => T.out.2.2.1 p (List.mem_filter.1 hp).1, Nat.le_trans (List.length_filter_le _ _) hF, T3.out⟩
            · have h1 := (List.mem_filter.1 hp).1
              have h2 : p.1 ≠ fd := by simpa using (List.mem_filter.1 hp).2
              have := HS.out.2.2.1 p.1 p.2 (alook_mem T.out.2.2.2.1.nodup h1) (by rw [(T.out.2.2.1 p h1).1, hr]; rfl)
              omega
            · have := count_del (q := fun p => p.2.ready) T.out.2.2.2.1.nodup (alook_some_mem HS.out.1) HS.out.2.1
              have h2 := T.out.2.1
              unfold nRdy at *
              omega
          case measure => simp [intOf] <;> omega
        · obtain rfl : j = N := by omega
          obtain rfl : m = none := by
            rcases m with _ | ⟨fd, g⟩
            · rfl
            · exfalso
              obtain ⟨s, hs1, hs2, hs3, _⟩ := HM.out
              have := (List.countP_pos_iff (p := fun p : Int × St => p.2.ready)).2 ⟨_, alook_some_mem hs1, hs3⟩
              have h2 := T.out.2.1
              unfold nRdy at h2
              omega
          have hdl := dueL_least T.out.2.2.2.1.nodup HM.out
          have HDL := Lib.hid hdl
          clear hdl
          go_wp2_with fail
          refine (ptake_none T.out.2.2.2.1 (by omega) HM.out).mono ?_
          rintro e w3 ⟨rfl, hg⟩
          have T3 := Lib.hid (And.intro (T.out.2.2.2.1.grown hg) (below_next T.out.2.2.2.2 hg T.out.2.2.2.2.size))
          clear hg
          go_wp2_with fail
          refine (pdue_is T3.out.1).mono ?_
          rintro e w4 ⟨rfl, hg⟩
          rw [HDL.out]
          have HZ := Lib.hid (below_next T3.out.2 hg T3.out.2.size)
          clear hg
          go_wp2_with fail
          go_ret
          exact ⟨rfl, HZ.out⟩

set_option maxRecDepth 100000 in
set_option maxHeartbeats 1000000 in
theorem order_long (a : Option Addr) (len cap : Nat) (rd : Int) (w : World) (hl : 60 < len) (hm : len ≤ maxLen) :
    Calls Try.prog 3 #[.slice a len cap, .int .u64 rd] w fun e w' => e = .returned (.bool true) ∧ Below w.heap.size w w' := by
  unfold maxLen at hm
  go_enter Try.func3, Try.ntmps3
  go_wp2_with fail
  refine (lives_is w).mono ?_
  rintro e w0 ⟨rfl, hb⟩
  have HB := Lib.hid hb
  clear hb
  go_wp2_with fail
  refine (lives_is w0).mono ?_
  rintro e w1 ⟨rfl, hb⟩
  have HB1 := Lib.hid (HB.out.trans (hb.mono HB.out.size))
  clear hb
  go_wp2_with fail
  refine bodyPost_ret (results_tmp rfl _ _ _) rfl ?_
  exact ⟨rfl, HB1.out⟩
theorem order_any (a : Option Addr) (len cap : Nat) (rd : Int) (w : World) (ha : Args.IsFlat [.u16] w a len) :
    Calls Try.prog 3 #[.slice a len cap, .int .u64 rd] w fun e w' => e = .returned (.bool true) ∧ Below w.heap.size w w' := by
  obtain ⟨hm, hnil, f, hf⟩ := ha
  by_cases hl : 60 < len
  · exact order_long a len cap rd w hl hm
  · have hx : ∀ i, i < len → ∃ x, f i = [x] ∧ (Lit.int .u16 x).wf = true := fun i hi => Args.fits1 (hf i hi).1
    refine order_short a len cap (fun i => (f i).getD 0 0) rd w (by omega) hnil (fun i hi => ?_) (fun b hb i hi => ?_)
    · obtain ⟨x, e, hw⟩ := hx i hi
      simpa [e] using wf_u16 hw
    · obtain ⟨x, e, _⟩ := hx i hi
      have := ((hf i hi).2 b hb 0 (.int .u16 x) (by simp [e, Args.valsOf])).1
      simpa [List.getD, hi, e] using this
end Go.Proofs.Ytefpbfdbpckcmaa.Pl
