/-
  The law SourceOnce: the walk.
-/
import Derived.Test.YtlhblhgbpaipaaaSrcOnce
namespace Go.Proofs.Ytlhblhgbpaipaaa.Src
open Go.RowKit
open Go.Proofs.Ytlhblhgbpaipaaa.Hp
open Go.Proofs.Ytlhblhgbpaipaaa.Tm (Tms Kept IsMin dueB min_ex)
open Go.Proofs.Ytlhblhgbpaipaaa.Pl (IsPl PFr St aput adel alook stOf dueL fullL enc u16)
set_option linter.unusedVariables false
set_option linter.unusedSimpArgs false

theorem zeroI64 (w : World) : (zeroValue 2).run Try.prog w = .ok (.int .i64 0) w := by kernel_rfl
theorem zeroI (w : World) : (zeroValue 3).run Try.prog w = .ok (.int .i64 0) w := by kernel_rfl
abbrev Sx (A : Nat) (gg dd : Int) (w : World) : Prop := w.cell? ⟨A, 2, none⟩ = some (.int .i64 gg) ∧ w.cell? ⟨A, 3, none⟩ = some (.int .i64 dd)
theorem cell_block_lt {w : World} {a : Addr} {v : Value} (h : w.cell? a = some v) : a.block < w.heap.size := by
  unfold World.cell? at h
  split at h
  · rename_i e; exact (Array.getElem?_eq_some_iff.1 e).1
  · cases h
theorem sx_put {A m1 : Nat} {gg dd : Int} {w w5 : World} (h : Sx A gg dd w) (hg : w.grownBy w5 (some m1)) (hA : m1 < A) : Sx A gg dd w5 := by
  have hb := hg.block A (cell_block_lt h.1) (fun e => by have := Option.some.inj e; omega)
  exact ⟨(World.cell?_of_block (a := ⟨A, 2, none⟩) hb).trans h.1, (World.cell?_of_block (a := ⟨A, 3, none⟩) hb).trans h.2⟩
theorem wp_mput {P : Program} {o : Oper} {a : Act} {w w' : World} {K : Act → World → Prop} {Q : Exit → Act → World → Prop} {m x y : Operand} {t : TypeId} {vm vx vy : Value} (hop : o.op = .mapUpdate t m x y) (hm : a.eval m = vm) (hx : a.eval x = vx) (hv : a.eval y = vy)
    (hrun : (Instr.mapUpdate t vm vx vy).run P w = .ok () w') (h : K (a.put o.dst undef) w') : o.wp P a w K Q := by
  unfold Oper.wp
  simp [execOp, hop, hm, hx, hv, hrun, Result.andThen]
  exact h
theorem kept_drew {a b : World} {base : Nat} {X : Nat → Prop} (h : Kept a b base X) : Kept a b.drew base X := ⟨⟨h.below.os, h.below.tape, h.below.output, h.below.size, h.below.block⟩, h.far⟩
theorem kept_add {a b c : World} {base sb tb pb fb wb n n' : Nat} {now now' : Int} {M M' : List Ent} {order order' : Nat} {G G' : List Int} {F F' : List (Int × St)} {GP GP' : List (Int × Int)} {X : Nat → Prop} (h : Kept a b base X) (_ : IsS b base sb tb pb fb wb n' now' M' order' G' F' GP' X) (k : IsS a base sb tb pb fb wb n now M order G F GP X) (hg : b.grownBy c none) : Kept a c base X :=
  Kept.grown h hg k.low (fun _ hk => k.xlt hk)

set_option maxRecDepth 100000 in
set_option maxHeartbeats 8000000 in
theorem once_short (a : Option Addr) (len cap : Nat) (kd pp g d fd : Nat → Int) (w : World) (hl : len ≤ 50) (hnil : a = none → len = 0) (hfit : ∀ i, i < len → 0 ≤ kd i ∧ Clk.I64 (d i))
    (hc : ∀ b, a = some b → ∀ i, i < len → w.cell? (b.add (i * 5)) = some (.int .u8 (kd i)) ∧ w.cell? (b.add (i * 5 + 1)) = some (.int .i64 (pp i)) ∧ w.cell? (b.add (i * 5 + 2)) = some (.int .i64 (g i)) ∧ w.cell? (b.add (i * 5 + 3)) = some (.int .i64 (d i)) ∧ w.cell? (b.add (i * 5 + 4)) = some (.int .u16 (fd i))) :
    Calls Try.prog 6 #[.slice a len cap] w fun e w' => e = .returned (.bool true) ∧ Below w.heap.size w w' := by
  have hmm := @run_makeMap Try.prog
  have hlt : ¬ (50 < len) := by omega
  have HC := Lib.hid hc
  have HN := Lib.hid hnil
  have HF := Lib.hid hfit
  clear hc hnil hfit
  go_enter Try.func6, Try.ntmps6
  go_wp2_with fail
  refine (lives_is w).mono ?_
  rintro e w0 ⟨rfl, hb⟩
  have HB := Lib.hid hb
  clear hb
  go_wp2_with fail
  refine (snew_is w0 4 4 (by decide)).mono ?_
  rintro e w1 ⟨sb, tb, pb, fb, wb, rfl, I, hg⟩
  have hO : Oc w (((w1.alloc (.map #[] 0)).alloc (.map #[] 0)).alloc (.map #[] 0)) w0.heap.size sb tb pb fb wb 0 [] 0 [] [] [] [] [] w1.heap.size (w1.heap.size + 1) (w1.heap.size + 2) 0 := by
    have hga : w1.grownBy (((w1.alloc (.map #[] 0)).alloc (.map #[] 0)).alloc (.map #[] 0)) none := Pl.grown_none (World.grownBy_alloc _ _ _) (Pl.grown_none (World.grownBy_alloc _ _ _) (World.grownBy_alloc _ _ _))
    have h0 := HB.out.size
    have h1 := hg.size
    refine ⟨I.more hga (fun k hk => by rcases hk with q | q | q <;> (right; simp; omega)), Pl.inv_nil, by simp, (HB.out.trans ((grown_below hg).mono h0)).trans ⟨hga.os, hga.tape, hga.output, hga.size, fun k hk => hga.block k (by omega) (by simp)⟩, h0, ?_, ?_, ?_, rfl, by simp, by simp, fun fd s e => by simp [alook] at e, by omega, by omega⟩
    · have := (MapI.IsMap.made w1).heap (w' := ((w1.alloc (.map #[] 0)).alloc (.map #[] 0)).alloc (.map #[] 0)) ((heap_alloc_old _ _ (by simp; omega)).trans (heap_alloc_old _ _ (by simp)))
      simpa [enc] using this
    · have := (MapI.IsMap.made (w1.alloc (.map #[] 0))).heap (w' := ((w1.alloc (.map #[] 0)).alloc (.map #[] 0)).alloc (.map #[] 0)) (heap_alloc_old _ _ (by simp))
      simpa [enc] using this
    · have := MapU.IsMap.made ((w1.alloc (.map #[] 0)).alloc (.map #[] 0))
      simpa [enc] using this
  have O := Lib.hid hO
  clear I hg hO HB
  go_wp2_with fail
  clear hmm
  generalize (((w1.alloc (.map #[] 0)).alloc (.map #[] 0)).alloc (.map #[] 0)) = W at *
  generalize w1.heap.size + 2 = m3 at *
  generalize w1.heap.size + 1 = m2 at *
  generalize w1.heap.size = m1 at *
  generalize w0.heap.size = base at *
  go_loopw [35] (fun q wr => ∃ (i : Nat) (now : Int) (M : List Ent) (order : Nat) (G : List Int) (F : List (Int × St)) (GP U Rd : List (Int × Int)), i ≤ len ∧ q = .int .i64 i ∧ Oc w wr base sb tb pb fb wb now M order G F GP U Rd m1 m2 m3 i) (fun q _ => len - (intOf q).toNat)
  case atStart => exact ⟨0, 0, [], 0, [], [], [], [], [], Nat.zero_le _, rfl, O.out⟩
  case round =>
    clear O
    obtain ⟨i, now, M, order, G, F, GP, U, Rd, hi, rfl, hO⟩ := hrel
    have O := Lib.hid hO
    clear hO
    by_cases hlen : i < len
    · obtain ⟨c, rfl⟩ : ∃ c, a = some c := by
        cases a with
        | none => exact absurd (HN.out rfl) (by omega)
        | some c => exact ⟨c, rfl⟩
      obtain ⟨h0, h1, h2, h3, h4⟩ := HC.out c rfl i hlen
      have hfi := HF.out i hlen
      have x0 := cell_later O.out.below h0
      have x1 := cell_later O.out.below h1
      have x2 := cell_later O.out.below h2
      have x3 := cell_later O.out.below h3
      have x4 := cell_later O.out.below h4
      generalize kd i = y at x0 hfi
      generalize pp i = p at x1
      generalize g i = gg at x2
      generalize d i = dd at x3 hfi
      generalize fd i = f at x4
      rw [add_off c _ 1 (by decide)] at x1
      rw [add_off c _ 2 (by decide)] at x2
      rw [add_off c _ 3 (by decide)] at x3
      rw [add_off c _ 4 (by decide)] at x4
      have hact := heap_alloc_new wr (.cells #[.int .u8 y, .int .i64 p, .int .i64 gg, .int .i64 dd, .int .u16 f] TAct)
      have H3 := Lib.hid (And.intro (O.out.grown (World.grownBy_alloc wr (.cells #[.int .u8 y, .int .i64 p, .int .i64 gg, .int .i64 dd, .int .u16 f] TAct) none)) hact)
      have H3x : Hid (IsS (wr.alloc (.cells #[.int .u8 y, .int .i64 p, .int .i64 gg, .int .i64 dd, .int .u16 f] TAct)) base sb tb pb fb wb 4 now M order G F GP (fun k => M3 m1 m2 m3 k ∨ k = wr.heap.size)) := Lib.hid (O.out.s.more (World.grownBy_alloc _ _ _) (fun k hk => by rcases hk with q | q; exact .inl q; exact .inr (by simp; omega)))
      obtain ⟨m, hm, hm0, hm5⟩ : ∃ m, y % 8 = m ∧ 0 ≤ m ∧ m ≤ 7 := ⟨_, rfl, by omega, by omega⟩
      have ek : y.tmod 8 = m := by rw [← hm]; exact Int.tmod_eq_emod_of_nonneg hfi.1
      have HFR := Lib.hid hfi.2
      have hsz : wr.heap.size < (wr.alloc (.cells #[.int .u8 y, .int .i64 p, .int .i64 gg, .int .i64 dd, .int .u16 f] TAct)).heap.size := by simp
      have hmA : m1 < wr.heap.size := O.out.mu.lt
      have hmm : (m = 0 ∨ m = 1) ∨ m = 2 ∨ m = 3 ∨ m = 4 ∨ (m = 5 ∨ m = 6) ∨ m = 7 := by omega
      clear hm h0 h1 h2 h3 h4 hact hfi hm0 hm5
      rcases hmm with (rfl | rfl) | rfl | rfl | rfl | (rfl | rfl) | rfl
      · as_aux_lemma =>
          go_wp2_with fail
          clear x0 x1 x2 x3 x4
          obtain ⟨A, hA⟩ : ∃ A, A = wr.heap.size := ⟨_, rfl⟩
          rw [← hA] at H3 hsz H3x hmA
          try rw [← hA]
          generalize (wr.alloc (.cells #[.int .u8 y, .int .i64 p, .int .i64 gg, .int .i64 dd, .int .u16 f] TAct)) = W1 at *
          clear hA
          obtain ⟨_, _, z2, z3, z4⟩ := act5 H3.out.2
          have hres : (alook GP gg).isSome = true ∨ ((alook GP gg).isSome = false ∧ (p < 0 ∨ ((4 : Nat) : Int) ≤ p ∨ gg < 0 ∨ 4096 ≤ gg)) ∨ ((alook GP gg).isSome = false ∧ 0 ≤ p ∧ p < ((4 : Nat) : Int) ∧ gg ∈ G) ∨ ((alook GP gg).isSome = false ∧ 0 ≤ p ∧ p < ((4 : Nat) : Int) ∧ 0 ≤ gg ∧ gg < 4096 ∧ gg ∉ G) := by
            cases (alook GP gg).isSome <;> by_cases hG : gg ∈ G <;> simp [hG] <;> omega
          rcases hres with hq | ⟨hq, hb⟩ | ⟨hq, hp0, hp4, hG⟩ | ⟨hq, hp0, hp4, hg0, hg1, hG⟩
          · have hgr : 0 ≤ gg ∧ gg < 4096 := by
              obtain ⟨fd', hf'⟩ := Option.isSome_iff_exists.1 hq
              obtain ⟨s, h1, h2, h3⟩ := H3.out.1.inv.who gg fd' hf'
              have := (H3.out.1.inv.ok fd' s h1).1 h2
              rw [h3] at this
              exact this.2
            obtain ⟨x, hx⟩ : ∃ x : Int, (if p < 0 ∨ ((4 : Nat) : Int) ≤ p then 1 else 8) = x := ⟨_, rfl⟩
            have hx0 : x ≠ 0 := by rw [← hx]; split <;> decide
            have HX := Lib.hid (And.intro hx (And.intro hgr hq))
            clear hx hgr hq
            refine (sleep_polls H3.out.1.s p gg dd HX.out.2.2 HX.out.2.1 (by have := H3.out.1.bnd; omega) (by have := H3.out.1.bnd; omega) HX.out.1).mono ?_
            rintro e w4 ⟨rfl, hg⟩
            have H4 := Lib.hid ((H3.out.1.grown hg).up)
            clear hg z2 z3 z4
            go_wp2_with fail
            have hbd : (G).length + (GP).length < 1000000 := by have := H4.out.bnd; omega
            have hU : (U).length = (G).length := by rw [← List.length_map (f := (·.1)), H4.out.ukeys]
            have hsl := slen_is H4.out.s hbd
            obtain ⟨L1, hL1⟩ : ∃ L : Nat, (G).length = L := ⟨_, rfl⟩
            obtain ⟨L2, hL2⟩ : ∃ L : Nat, (GP).length = L := ⟨_, rfl⟩
            rw [hL1, hL2] at hsl hbd
            rw [hL1] at hU
            refine hsl.mono ?_
            rintro e wz ⟨rfl, hg⟩
            have HZ := Lib.hid (H4.out.grown hg)
            have hln1 : ∀ ty, (Builtin.len_ #[45] ty #[.map (some m1)]).run Try.prog wz = .ok (.int .i64 L1) wz := fun ty => by
              have := MapI.run_len HZ.out.mu Try.underlying45 _ ty rfl
              simpa [enc, hU] using this
            have hln2 : ∀ ty, (Builtin.len_ #[46] ty #[.map (some m2)]).run Try.prog wz = .ok (.int .i64 L2) wz := fun ty => by
              have := MapI.run_len HZ.out.mo Try.underlying46 _ ty rfl
              simpa [enc, hL2] using this
            have hwl : IntKind.i64.wrap ((L1 : Int) + (L2 : Int)) = (L1 : Int) + (L2 : Int) := by rw [IntKind.wrap_i64]; omega
            clear hg hbd hU hL1 hL2 hsl
            go_wp2_with fail
            try go_frame
            go_roundw
            case rel => exact ⟨i + 1, now, M, order, G, F, GP, U, Rd, by omega, by go_num, HZ.out⟩
            case measure => simp [intOf] <;> omega
          · have HX := Lib.hid (And.intro hq hb)
            clear hq hb
            refine (sleep_err H3.out.1.s p gg dd 1 HX.out.1 HFR.out (by decide) (fun w1 t T => (Tm.tms_add_arg T p gg t HX.out.2).mono (fun e w' h => ⟨h.1, h.2 ▸ grown_refl _⟩))).mono ?_
            rintro e w4 ⟨rfl, hg⟩
            have H4 := Lib.hid ((H3.out.1.grown hg).up)
            clear hg z2 z3 z4
            go_wp2_with fail
            have hbd : (G).length + (GP).length < 1000000 := by have := H4.out.bnd; omega
            have hU : (U).length = (G).length := by rw [← List.length_map (f := (·.1)), H4.out.ukeys]
            have hsl := slen_is H4.out.s hbd
            obtain ⟨L1, hL1⟩ : ∃ L : Nat, (G).length = L := ⟨_, rfl⟩
            obtain ⟨L2, hL2⟩ : ∃ L : Nat, (GP).length = L := ⟨_, rfl⟩
            rw [hL1, hL2] at hsl hbd
            rw [hL1] at hU
            refine hsl.mono ?_
            rintro e wz ⟨rfl, hg⟩
            have HZ := Lib.hid (H4.out.grown hg)
            have hln1 : ∀ ty, (Builtin.len_ #[45] ty #[.map (some m1)]).run Try.prog wz = .ok (.int .i64 L1) wz := fun ty => by
              have := MapI.run_len HZ.out.mu Try.underlying45 _ ty rfl
              simpa [enc, hU] using this
            have hln2 : ∀ ty, (Builtin.len_ #[46] ty #[.map (some m2)]).run Try.prog wz = .ok (.int .i64 L2) wz := fun ty => by
              have := MapI.run_len HZ.out.mo Try.underlying46 _ ty rfl
              simpa [enc, hL2] using this
            have hwl : IntKind.i64.wrap ((L1 : Int) + (L2 : Int)) = (L1 : Int) + (L2 : Int) := by rw [IntKind.wrap_i64]; omega
            clear hg hbd hU hL1 hL2 hsl
            go_wp2_with fail
            try go_frame
            go_roundw
            case rel => exact ⟨i + 1, now, M, order, G, F, GP, U, Rd, by omega, by go_num, HZ.out⟩
            case measure => simp [intOf] <;> omega
          · have HX := Lib.hid (And.intro hq (And.intro hp0 (And.intro hp4 hG)))
            clear hq hp0 hp4 hG
            refine (sleep_err H3.out.1.s p gg dd 8 HX.out.1 HFR.out (by decide) (fun w1 t T => Tm.tms_add_same T p gg t HX.out.2.1 HX.out.2.2.1 HX.out.2.2.2)).mono ?_
            rintro e w4 ⟨rfl, hg⟩
            have H4 := Lib.hid ((H3.out.1.grown hg).up)
            clear hg z2 z3 z4
            go_wp2_with fail
            have hbd : (G).length + (GP).length < 1000000 := by have := H4.out.bnd; omega
            have hU : (U).length = (G).length := by rw [← List.length_map (f := (·.1)), H4.out.ukeys]
            have hsl := slen_is H4.out.s hbd
            obtain ⟨L1, hL1⟩ : ∃ L : Nat, (G).length = L := ⟨_, rfl⟩
            obtain ⟨L2, hL2⟩ : ∃ L : Nat, (GP).length = L := ⟨_, rfl⟩
            rw [hL1, hL2] at hsl hbd
            rw [hL1] at hU
            refine hsl.mono ?_
            rintro e wz ⟨rfl, hg⟩
            have HZ := Lib.hid (H4.out.grown hg)
            have hln1 : ∀ ty, (Builtin.len_ #[45] ty #[.map (some m1)]).run Try.prog wz = .ok (.int .i64 L1) wz := fun ty => by
              have := MapI.run_len HZ.out.mu Try.underlying45 _ ty rfl
              simpa [enc, hU] using this
            have hln2 : ∀ ty, (Builtin.len_ #[46] ty #[.map (some m2)]).run Try.prog wz = .ok (.int .i64 L2) wz := fun ty => by
              have := MapI.run_len HZ.out.mo Try.underlying46 _ ty rfl
              simpa [enc, hL2] using this
            have hwl : IntKind.i64.wrap ((L1 : Int) + (L2 : Int)) = (L1 : Int) + (L2 : Int) := by rw [IntKind.wrap_i64]; omega
            clear hg hbd hU hL1 hL2 hsl
            go_wp2_with fail
            try go_frame
            go_roundw
            case rel => exact ⟨i + 1, now, M, order, G, F, GP, U, Rd, by omega, by go_num, HZ.out⟩
            case measure => simp [intOf] <;> omega
          · have HX := Lib.hid (And.intro hq (And.intro hp0 (And.intro hp4 (And.intro hg0 (And.intro hg1 hG)))))
            clear hp0 hp4 hg0 hg1 hG hq
            obtain ⟨t, ht⟩ : ∃ t, Clk.sat now (Clk.mx 0 dd) = t := ⟨_, rfl⟩
            obtain ⟨mq, hmq⟩ := min_ex (M ++ [⟨t, order, gg⟩])
            have HT := Lib.hid (And.intro ht hmq)
            clear hmq
            obtain ⟨v1, hv1⟩ : ∃ v, (if 0 < dd then dd else 0) = v := ⟨_, rfl⟩
            obtain ⟨v2, hv2⟩ : ∃ v, 9223372036854775807 - now = v := ⟨_, rfl⟩
            obtain ⟨v3, hv3⟩ : ∃ v, mn v1 v2 = v := ⟨_, rfl⟩
            have hnow := H3.out.1.s.now0
            have hmax : ∀ (ts : Array TypeId) (t : TypeId) (W : World), (Builtin.max_ ts t #[.int .i64 0, .int .i64 dd]).run Try.prog W = .ok (.int .i64 v1) W := fun ts t W => Tm.max_is hv1
            have hw2 : IntKind.i64.wrap (9223372036854775807 - now) = v2 := by rw [IntKind.wrap_i64]; omega
            have hmin : ∀ (ts : Array TypeId) (t : TypeId) (W : World), (Builtin.min_ ts t #[.int .i64 v1, .int .i64 v2]).run Try.prog W = .ok (.int .i64 v3) W := fun ts t W => run_min_is ts t _ _ _ _ _ hv3 W
            have hw5 : IntKind.i64.wrap (now + v3) = t := by
              rw [IntKind.wrap_i64]
              have hd := HFR.out
              unfold Clk.I64 at hd
              unfold Clk.sat Clk.mx at ht
              unfold mn at hv3
              (repeat' split at ht) <;> (repeat' split at hv1) <;> (repeat' split at hv3) <;> omega
            clear ht hv1 hv2 hv3 hnow
            refine (sleep_ok H3x.out p gg dd t HX.out.1 HFR.out HT.out.1 HX.out.2.1 HX.out.2.2.1 HX.out.2.2.2.1 HX.out.2.2.2.2.1 HX.out.2.2.2.2.2 (by have := H3.out.1.bnd; omega) HT.out.2 rfl).mono ?_
            rintro e w4 ⟨rfl, hs4, hk4⟩
            have hA := (hk4.far A (.inr rfl)).trans H3.out.2
            have z23 : Sx A gg dd w4.drew := ⟨cell_of_row _ _ 2 _ _ _ hA, cell_of_row _ _ 3 _ _ _ hA⟩
            have hk4' := kept_less (X' := M3 m1 m2 m3) hk4 (fun k q => .inl q)
            have K4 := Lib.hid (And.intro (hs4.less (X' := M3 m1 m2 m3) (fun k q => .inl q)) (And.intro hk4' (H3.out.1.mu.heap (hk4'.far m1 (.inl rfl)))))
            clear hs4 hk4 hk4' hA z2 z3 z4
            go_wp2_with fail
            have hS : Sx A gg dd w4.drew := z23
            refine wp_region_held_drew (S := fun w' => w'.cell? ⟨A, 2, none⟩ = some (.int .i64 gg) ∧ w'.cell? ⟨A, 3, none⟩ = some (.int .i64 dd)) (by kernel_rfl) hS (fun hHeld => ?_)
            refine Own.yes (i := 0) (d := (some 58)) (v := ?_) rfl rfl (by kernel_rfl) (by kernel_rfl) (by kernel_rfl) (fun _ _ _ h => h) rfl ?_ hHeld ?_
            rotate_left
            · (intro w hSw; (try dsimp only at hSw); go_simp; try with_reducible rfl)
            simp only [Act.put, List.setIfInBounds_toArray, List.set_cons_zero, List.set_cons_succ]
            refine Own.yes (i := 1) (d := (some 59)) (v := ?_) rfl rfl (by kernel_rfl) (by kernel_rfl) (by kernel_rfl) (fun _ _ _ h => h) rfl ?_ hHeld ?_
            rotate_left
            · (intro w hSw; (try dsimp only at hSw); go_simp; try with_reducible rfl)
            simp only [Act.put, List.setIfInBounds_toArray, List.set_cons_zero, List.set_cons_succ]
            refine Own.yes (i := 2) (d := (some 60)) (v := ?_) rfl rfl (by kernel_rfl) (by kernel_rfl) (by kernel_rfl) (fun _ _ _ h => h) rfl ?_ hHeld ?_
            rotate_left
            · (intro w hSw; (try dsimp only at hSw); go_simp; try with_reducible rfl)
            simp only [Act.put, List.setIfInBounds_toArray, List.set_cons_zero, List.set_cons_succ]
            refine Own.yes (i := 3) (d := (some 61)) (v := ?_) rfl rfl (by kernel_rfl) (by kernel_rfl) (by kernel_rfl) (fun _ _ _ h => h) rfl ?_ hHeld ?_
            rotate_left
            · (intro w hSw; (try dsimp only at hSw); go_simp; try with_reducible rfl)
            simp only [Act.put, List.setIfInBounds_toArray, List.set_cons_zero, List.set_cons_succ]
            refine Own.yes (i := 5) (d := (some 63)) (v := ?_) rfl rfl (by kernel_rfl) (by kernel_rfl) (by kernel_rfl) (fun _ _ _ h => h) rfl ?_ hHeld ?_
            rotate_left
            · (intro w hSw; (try dsimp only at hSw); go_simp; try with_reducible rfl)
            simp only [Act.put, List.setIfInBounds_toArray, List.set_cons_zero, List.set_cons_succ]
            refine Own.yes (i := 6) (d := (some 64)) (v := ?_) rfl rfl (by kernel_rfl) (by kernel_rfl) (by kernel_rfl) (fun _ _ _ h => h) rfl ?_ hHeld ?_
            rotate_left
            · (intro w hSw; (try dsimp only at hSw); go_simp; try with_reducible rfl)
            simp only [Act.put, List.setIfInBounds_toArray, List.set_cons_zero, List.set_cons_succ]
            refine Own.yes (i := 7) (d := (some 65)) (v := ?_) rfl rfl (by kernel_rfl) (by kernel_rfl) (by kernel_rfl) (fun _ _ _ h => h) rfl ?_ hHeld ?_
            rotate_left
            · (intro w hSw; (try dsimp only at hSw); go_simp; try with_reducible rfl)
            simp only [Act.put, List.setIfInBounds_toArray, List.set_cons_zero, List.set_cons_succ]
            refine Own.yes (i := 8) (d := (some 66)) (v := ?_) rfl rfl (by kernel_rfl) (by kernel_rfl) (by kernel_rfl) (fun _ _ _ h => h) rfl ?_ hHeld ?_
            rotate_left
            · (intro w hSw; (try dsimp only at hSw); go_simp; try with_reducible rfl)
            simp only [Act.put, List.setIfInBounds_toArray, List.set_cons_zero, List.set_cons_succ]
            refine Own.call (i := 4) (d := (some 62)) rfl rfl (by kernel_rfl) rfl ?_ (snow_is K4.out.1.drew) ?_
            · go_simp
            rintro e w5 ⟨rfl, rfl⟩
            have hS : Sx A gg dd w4.drew := z23
            refine ⟨_, rfl, hS, fun hHeld => ?_⟩
            simp only [Act.put, List.setIfInBounds_toArray, List.set_cons_zero, List.set_cons_succ]
            refine Own.call (i := 9) (d := (some 67)) rfl rfl (by kernel_rfl) rfl ?_ (snow_is K4.out.1.drew) ?_
            · go_simp
            rintro e w5 ⟨rfl, rfl⟩
            have hS : Sx A gg dd w4.drew := z23
            refine ⟨_, rfl, hS, fun hHeld => ?_⟩
            simp only [Act.put, List.setIfInBounds_toArray, List.set_cons_zero, List.set_cons_succ]
            refine Own.yes (i := 10) (d := (some 68)) (v := ?_) rfl rfl (by kernel_rfl) (by kernel_rfl) (by kernel_rfl) (fun _ _ _ h => h) rfl ?_ hHeld ?_
            rotate_left
            · (intro w hSw; (try dsimp only at hSw); go_simp; try with_reducible rfl)
            simp only [Act.put, List.setIfInBounds_toArray, List.set_cons_zero, List.set_cons_succ]
            refine Own.yes (i := 11) (d := (some 69)) (v := ?_) rfl rfl (by kernel_rfl) (by kernel_rfl) (by kernel_rfl) (fun _ _ _ h => h) rfl ?_ hHeld ?_
            rotate_left
            · (intro w hSw; (try dsimp only at hSw); go_simp; try with_reducible rfl)
            simp only [Act.put, List.setIfInBounds_toArray, List.set_cons_zero, List.set_cons_succ]
            refine Own.yes (i := 12) (d := (some 70)) (v := ?_) rfl rfl (by kernel_rfl) (by kernel_rfl) (by kernel_rfl) (fun _ _ _ h => h) rfl ?_ hHeld ?_
            rotate_left
            · (intro w hSw; (try dsimp only at hSw); go_simp; try with_reducible rfl)
            simp only [Act.put, List.setIfInBounds_toArray, List.set_cons_zero, List.set_cons_succ]
            refine wpAnyH_all (rs := [13]) (by kernel_rfl) (by simp) ?_
            intro j hj
            obtain rfl : j = 13 := by simpa using hj
            refine Own.op rfl rfl ?_
            obtain ⟨w5, hrun, hm5, hg5⟩ := MapI.run_put (K4.out.2.2.heap (w' := w4.drew) rfl) Try.underlying45 Try.underlying3 gg (i64v t)
            rw [show MapI.put (enc i64v U) gg (i64v t) = enc i64v (aput U gg t) from Pl.enc_put] at hm5
            have hz23 : Sx A gg dd w5 := sx_put z23 hg5 hmA
            refine wp_mput (m := .tmp 58) (x := .tmp 60) (y := .tmp 70) rfl rfl rfl rfl hrun ⟨hz23, ?_⟩
            have H4 := Lib.hid (H3.out.1.sleep HX.out.2.2.2.2.2 HX.out.1 K4.out.1.drew (kept_drew K4.out.2.1) hm5 hg5)
            clear hm5 hg5 hz23 hrun z23 hS hHeld hmax hmin hw2 hw5
            simp only [Act.put, List.setIfInBounds_toArray, List.set_cons_zero, List.set_cons_succ]
            refine wpAnyH_done (by kernel_rfl) ?_ _
            go_wp2_with fail
            have hbd : ((G ++ [gg])).length + (GP).length < 1000000 := by have := H4.out.bnd; omega
            have hU : ((aput U gg t)).length = ((G ++ [gg])).length := by rw [← List.length_map (f := (·.1)), H4.out.ukeys]
            have hsl := slen_is H4.out.s hbd
            obtain ⟨L1, hL1⟩ : ∃ L : Nat, ((G ++ [gg])).length = L := ⟨_, rfl⟩
            obtain ⟨L2, hL2⟩ : ∃ L : Nat, (GP).length = L := ⟨_, rfl⟩
            rw [hL1, hL2] at hsl hbd
            rw [hL1] at hU
            refine hsl.mono ?_
            rintro e wz ⟨rfl, hg⟩
            have HZ := Lib.hid (H4.out.grown hg)
            have hln1 : ∀ ty, (Builtin.len_ #[45] ty #[.map (some m1)]).run Try.prog wz = .ok (.int .i64 L1) wz := fun ty => by
              have := MapI.run_len HZ.out.mu Try.underlying45 _ ty rfl
              simpa [enc, hU] using this
            have hln2 : ∀ ty, (Builtin.len_ #[46] ty #[.map (some m2)]).run Try.prog wz = .ok (.int .i64 L2) wz := fun ty => by
              have := MapI.run_len HZ.out.mo Try.underlying46 _ ty rfl
              simpa [enc, hL2] using this
            have hwl : IntKind.i64.wrap ((L1 : Int) + (L2 : Int)) = (L1 : Int) + (L2 : Int) := by rw [IntKind.wrap_i64]; omega
            clear hg hbd hU hL1 hL2 hsl
            go_wp2_with fail
            try go_frame
            go_roundw
            case rel => exact ⟨i + 1, now, (M ++ [⟨t, order, gg⟩]), (order + 1), (G ++ [gg]), F, GP, (aput U gg t), Rd, by omega, by go_num, HZ.out⟩
            case measure => simp [intOf] <;> omega
      · as_aux_lemma =>
          go_wp2_with fail
          clear x0 x1 x2 x3 x4
          obtain ⟨A, hA⟩ : ∃ A, A = wr.heap.size := ⟨_, rfl⟩
          rw [← hA] at H3 hsz H3x hmA
          try rw [← hA]
          generalize (wr.alloc (.cells #[.int .u8 y, .int .i64 p, .int .i64 gg, .int .i64 dd, .int .u16 f] TAct)) = W1 at *
          clear hA
          obtain ⟨_, _, z2, z3, z4⟩ := act5 H3.out.2
          have hres : (alook GP gg).isSome = true ∨ ((alook GP gg).isSome = false ∧ (p < 0 ∨ ((4 : Nat) : Int) ≤ p ∨ gg < 0 ∨ 4096 ≤ gg)) ∨ ((alook GP gg).isSome = false ∧ 0 ≤ p ∧ p < ((4 : Nat) : Int) ∧ gg ∈ G) ∨ ((alook GP gg).isSome = false ∧ 0 ≤ p ∧ p < ((4 : Nat) : Int) ∧ 0 ≤ gg ∧ gg < 4096 ∧ gg ∉ G) := by
            cases (alook GP gg).isSome <;> by_cases hG : gg ∈ G <;> simp [hG] <;> omega
          rcases hres with hq | ⟨hq, hb⟩ | ⟨hq, hp0, hp4, hG⟩ | ⟨hq, hp0, hp4, hg0, hg1, hG⟩
          · have hgr : 0 ≤ gg ∧ gg < 4096 := by
              obtain ⟨fd', hf'⟩ := Option.isSome_iff_exists.1 hq
              obtain ⟨s, h1, h2, h3⟩ := H3.out.1.inv.who gg fd' hf'
              have := (H3.out.1.inv.ok fd' s h1).1 h2
              rw [h3] at this
              exact this.2
            obtain ⟨x, hx⟩ : ∃ x : Int, (if p < 0 ∨ ((4 : Nat) : Int) ≤ p then 1 else 8) = x := ⟨_, rfl⟩
            have hx0 : x ≠ 0 := by rw [← hx]; split <;> decide
            have HX := Lib.hid (And.intro hx (And.intro hgr hq))
            clear hx hgr hq
            refine (sleep_polls H3.out.1.s p gg dd HX.out.2.2 HX.out.2.1 (by have := H3.out.1.bnd; omega) (by have := H3.out.1.bnd; omega) HX.out.1).mono ?_
            rintro e w4 ⟨rfl, hg⟩
            have H4 := Lib.hid ((H3.out.1.grown hg).up)
            clear hg z2 z3 z4
            go_wp2_with fail
            have hbd : (G).length + (GP).length < 1000000 := by have := H4.out.bnd; omega
            have hU : (U).length = (G).length := by rw [← List.length_map (f := (·.1)), H4.out.ukeys]
            have hsl := slen_is H4.out.s hbd
            obtain ⟨L1, hL1⟩ : ∃ L : Nat, (G).length = L := ⟨_, rfl⟩
            obtain ⟨L2, hL2⟩ : ∃ L : Nat, (GP).length = L := ⟨_, rfl⟩
            rw [hL1, hL2] at hsl hbd
            rw [hL1] at hU
            refine hsl.mono ?_
            rintro e wz ⟨rfl, hg⟩
            have HZ := Lib.hid (H4.out.grown hg)
            have hln1 : ∀ ty, (Builtin.len_ #[45] ty #[.map (some m1)]).run Try.prog wz = .ok (.int .i64 L1) wz := fun ty => by
              have := MapI.run_len HZ.out.mu Try.underlying45 _ ty rfl
              simpa [enc, hU] using this
            have hln2 : ∀ ty, (Builtin.len_ #[46] ty #[.map (some m2)]).run Try.prog wz = .ok (.int .i64 L2) wz := fun ty => by
              have := MapI.run_len HZ.out.mo Try.underlying46 _ ty rfl
              simpa [enc, hL2] using this
            have hwl : IntKind.i64.wrap ((L1 : Int) + (L2 : Int)) = (L1 : Int) + (L2 : Int) := by rw [IntKind.wrap_i64]; omega
            clear hg hbd hU hL1 hL2 hsl
            go_wp2_with fail
            try go_frame
            go_roundw
            case rel => exact ⟨i + 1, now, M, order, G, F, GP, U, Rd, by omega, by go_num, HZ.out⟩
            case measure => simp [intOf] <;> omega
          · have HX := Lib.hid (And.intro hq hb)
            clear hq hb
            refine (sleep_err H3.out.1.s p gg dd 1 HX.out.1 HFR.out (by decide) (fun w1 t T => (Tm.tms_add_arg T p gg t HX.out.2).mono (fun e w' h => ⟨h.1, h.2 ▸ grown_refl _⟩))).mono ?_
            rintro e w4 ⟨rfl, hg⟩
            have H4 := Lib.hid ((H3.out.1.grown hg).up)
            clear hg z2 z3 z4
            go_wp2_with fail
            have hbd : (G).length + (GP).length < 1000000 := by have := H4.out.bnd; omega
            have hU : (U).length = (G).length := by rw [← List.length_map (f := (·.1)), H4.out.ukeys]
            have hsl := slen_is H4.out.s hbd
            obtain ⟨L1, hL1⟩ : ∃ L : Nat, (G).length = L := ⟨_, rfl⟩
            obtain ⟨L2, hL2⟩ : ∃ L : Nat, (GP).length = L := ⟨_, rfl⟩
            rw [hL1, hL2] at hsl hbd
            rw [hL1] at hU
            refine hsl.mono ?_
            rintro e wz ⟨rfl, hg⟩
            have HZ := Lib.hid (H4.out.grown hg)
            have hln1 : ∀ ty, (Builtin.len_ #[45] ty #[.map (some m1)]).run Try.prog wz = .ok (.int .i64 L1) wz := fun ty => by
              have := MapI.run_len HZ.out.mu Try.underlying45 _ ty rfl
              simpa [enc, hU] using this
            have hln2 : ∀ ty, (Builtin.len_ #[46] ty #[.map (some m2)]).run Try.prog wz = .ok (.int .i64 L2) wz := fun ty => by
              have := MapI.run_len HZ.out.mo Try.underlying46 _ ty rfl
              simpa [enc, hL2] using this
            have hwl : IntKind.i64.wrap ((L1 : Int) + (L2 : Int)) = (L1 : Int) + (L2 : Int) := by rw [IntKind.wrap_i64]; omega
            clear hg hbd hU hL1 hL2 hsl
            go_wp2_with fail
            try go_frame
            go_roundw
            case rel => exact ⟨i + 1, now, M, order, G, F, GP, U, Rd, by omega, by go_num, HZ.out⟩
            case measure => simp [intOf] <;> omega
          · have HX := Lib.hid (And.intro hq (And.intro hp0 (And.intro hp4 hG)))
            clear hq hp0 hp4 hG
            refine (sleep_err H3.out.1.s p gg dd 8 HX.out.1 HFR.out (by decide) (fun w1 t T => Tm.tms_add_same T p gg t HX.out.2.1 HX.out.2.2.1 HX.out.2.2.2)).mono ?_
            rintro e w4 ⟨rfl, hg⟩
            have H4 := Lib.hid ((H3.out.1.grown hg).up)
            clear hg z2 z3 z4
            go_wp2_with fail
            have hbd : (G).length + (GP).length < 1000000 := by have := H4.out.bnd; omega
            have hU : (U).length = (G).length := by rw [← List.length_map (f := (·.1)), H4.out.ukeys]
            have hsl := slen_is H4.out.s hbd
            obtain ⟨L1, hL1⟩ : ∃ L : Nat, (G).length = L := ⟨_, rfl⟩
            obtain ⟨L2, hL2⟩ : ∃ L : Nat, (GP).length = L := ⟨_, rfl⟩
            rw [hL1, hL2] at hsl hbd
            rw [hL1] at hU
            refine hsl.mono ?_
            rintro e wz ⟨rfl, hg⟩
            have HZ := Lib.hid (H4.out.grown hg)
            have hln1 : ∀ ty, (Builtin.len_ #[45] ty #[.map (some m1)]).run Try.prog wz = .ok (.int .i64 L1) wz := fun ty => by
              have := MapI.run_len HZ.out.mu Try.underlying45 _ ty rfl
              simpa [enc, hU] using this
            have hln2 : ∀ ty, (Builtin.len_ #[46] ty #[.map (some m2)]).run Try.prog wz = .ok (.int .i64 L2) wz := fun ty => by
              have := MapI.run_len HZ.out.mo Try.underlying46 _ ty rfl
              simpa [enc, hL2] using this
            have hwl : IntKind.i64.wrap ((L1 : Int) + (L2 : Int)) = (L1 : Int) + (L2 : Int) := by rw [IntKind.wrap_i64]; omega
            clear hg hbd hU hL1 hL2 hsl
            go_wp2_with fail
            try go_frame
            go_roundw
            case rel => exact ⟨i + 1, now, M, order, G, F, GP, U, Rd, by omega, by go_num, HZ.out⟩
            case measure => simp [intOf] <;> omega
          · have HX := Lib.hid (And.intro hq (And.intro hp0 (And.intro hp4 (And.intro hg0 (And.intro hg1 hG)))))
            clear hp0 hp4 hg0 hg1 hG hq
            obtain ⟨t, ht⟩ : ∃ t, Clk.sat now (Clk.mx 0 dd) = t := ⟨_, rfl⟩
            obtain ⟨mq, hmq⟩ := min_ex (M ++ [⟨t, order, gg⟩])
            have HT := Lib.hid (And.intro ht hmq)
            clear hmq
            obtain ⟨v1, hv1⟩ : ∃ v, (if 0 < dd then dd else 0) = v := ⟨_, rfl⟩
            obtain ⟨v2, hv2⟩ : ∃ v, 9223372036854775807 - now = v := ⟨_, rfl⟩
            obtain ⟨v3, hv3⟩ : ∃ v, mn v1 v2 = v := ⟨_, rfl⟩
            have hnow := H3.out.1.s.now0
            have hmax : ∀ (ts : Array TypeId) (t : TypeId) (W : World), (Builtin.max_ ts t #[.int .i64 0, .int .i64 dd]).run Try.prog W = .ok (.int .i64 v1) W := fun ts t W => Tm.max_is hv1
            have hw2 : IntKind.i64.wrap (9223372036854775807 - now) = v2 := by rw [IntKind.wrap_i64]; omega
            have hmin : ∀ (ts : Array TypeId) (t : TypeId) (W : World), (Builtin.min_ ts t #[.int .i64 v1, .int .i64 v2]).run Try.prog W = .ok (.int .i64 v3) W := fun ts t W => run_min_is ts t _ _ _ _ _ hv3 W
            have hw5 : IntKind.i64.wrap (now + v3) = t := by
              rw [IntKind.wrap_i64]
              have hd := HFR.out
              unfold Clk.I64 at hd
              unfold Clk.sat Clk.mx at ht
              unfold mn at hv3
              (repeat' split at ht) <;> (repeat' split at hv1) <;> (repeat' split at hv3) <;> omega
            clear ht hv1 hv2 hv3 hnow
            refine (sleep_ok H3x.out p gg dd t HX.out.1 HFR.out HT.out.1 HX.out.2.1 HX.out.2.2.1 HX.out.2.2.2.1 HX.out.2.2.2.2.1 HX.out.2.2.2.2.2 (by have := H3.out.1.bnd; omega) HT.out.2 rfl).mono ?_
            rintro e w4 ⟨rfl, hs4, hk4⟩
            have hA := (hk4.far A (.inr rfl)).trans H3.out.2
            have z23 : Sx A gg dd w4.drew := ⟨cell_of_row _ _ 2 _ _ _ hA, cell_of_row _ _ 3 _ _ _ hA⟩
            have hk4' := kept_less (X' := M3 m1 m2 m3) hk4 (fun k q => .inl q)
            have K4 := Lib.hid (And.intro (hs4.less (X' := M3 m1 m2 m3) (fun k q => .inl q)) (And.intro hk4' (H3.out.1.mu.heap (hk4'.far m1 (.inl rfl)))))
            clear hs4 hk4 hk4' hA z2 z3 z4
            go_wp2_with fail
            have hS : Sx A gg dd w4.drew := z23
            refine wp_region_held_drew (S := fun w' => w'.cell? ⟨A, 2, none⟩ = some (.int .i64 gg) ∧ w'.cell? ⟨A, 3, none⟩ = some (.int .i64 dd)) (by kernel_rfl) hS (fun hHeld => ?_)
            refine Own.yes (i := 0) (d := (some 58)) (v := ?_) rfl rfl (by kernel_rfl) (by kernel_rfl) (by kernel_rfl) (fun _ _ _ h => h) rfl ?_ hHeld ?_
            rotate_left
            · (intro w hSw; (try dsimp only at hSw); go_simp; try with_reducible rfl)
            simp only [Act.put, List.setIfInBounds_toArray, List.set_cons_zero, List.set_cons_succ]
            refine Own.yes (i := 1) (d := (some 59)) (v := ?_) rfl rfl (by kernel_rfl) (by kernel_rfl) (by kernel_rfl) (fun _ _ _ h => h) rfl ?_ hHeld ?_
            rotate_left
            · (intro w hSw; (try dsimp only at hSw); go_simp; try with_reducible rfl)
            simp only [Act.put, List.setIfInBounds_toArray, List.set_cons_zero, List.set_cons_succ]
            refine Own.yes (i := 2) (d := (some 60)) (v := ?_) rfl rfl (by kernel_rfl) (by kernel_rfl) (by kernel_rfl) (fun _ _ _ h => h) rfl ?_ hHeld ?_
            rotate_left
            · (intro w hSw; (try dsimp only at hSw); go_simp; try with_reducible rfl)
            simp only [Act.put, List.setIfInBounds_toArray, List.set_cons_zero, List.set_cons_succ]
            refine Own.yes (i := 3) (d := (some 61)) (v := ?_) rfl rfl (by kernel_rfl) (by kernel_rfl) (by kernel_rfl) (fun _ _ _ h => h) rfl ?_ hHeld ?_
            rotate_left
            · (intro w hSw; (try dsimp only at hSw); go_simp; try with_reducible rfl)
            simp only [Act.put, List.setIfInBounds_toArray, List.set_cons_zero, List.set_cons_succ]
            refine Own.yes (i := 5) (d := (some 63)) (v := ?_) rfl rfl (by kernel_rfl) (by kernel_rfl) (by kernel_rfl) (fun _ _ _ h => h) rfl ?_ hHeld ?_
            rotate_left
            · (intro w hSw; (try dsimp only at hSw); go_simp; try with_reducible rfl)
            simp only [Act.put, List.setIfInBounds_toArray, List.set_cons_zero, List.set_cons_succ]
            refine Own.yes (i := 6) (d := (some 64)) (v := ?_) rfl rfl (by kernel_rfl) (by kernel_rfl) (by kernel_rfl) (fun _ _ _ h => h) rfl ?_ hHeld ?_
            rotate_left
            · (intro w hSw; (try dsimp only at hSw); go_simp; try with_reducible rfl)
            simp only [Act.put, List.setIfInBounds_toArray, List.set_cons_zero, List.set_cons_succ]
            refine Own.yes (i := 7) (d := (some 65)) (v := ?_) rfl rfl (by kernel_rfl) (by kernel_rfl) (by kernel_rfl) (fun _ _ _ h => h) rfl ?_ hHeld ?_
            rotate_left
            · (intro w hSw; (try dsimp only at hSw); go_simp; try with_reducible rfl)
            simp only [Act.put, List.setIfInBounds_toArray, List.set_cons_zero, List.set_cons_succ]
            refine Own.yes (i := 8) (d := (some 66)) (v := ?_) rfl rfl (by kernel_rfl) (by kernel_rfl) (by kernel_rfl) (fun _ _ _ h => h) rfl ?_ hHeld ?_
            rotate_left
            · (intro w hSw; (try dsimp only at hSw); go_simp; try with_reducible rfl)
            simp only [Act.put, List.setIfInBounds_toArray, List.set_cons_zero, List.set_cons_succ]
            refine Own.call (i := 4) (d := (some 62)) rfl rfl (by kernel_rfl) rfl ?_ (snow_is K4.out.1.drew) ?_
            · go_simp
            rintro e w5 ⟨rfl, rfl⟩
            have hS : Sx A gg dd w4.drew := z23
            refine ⟨_, rfl, hS, fun hHeld => ?_⟩
            simp only [Act.put, List.setIfInBounds_toArray, List.set_cons_zero, List.set_cons_succ]
            refine Own.call (i := 9) (d := (some 67)) rfl rfl (by kernel_rfl) rfl ?_ (snow_is K4.out.1.drew) ?_
            · go_simp
            rintro e w5 ⟨rfl, rfl⟩
            have hS : Sx A gg dd w4.drew := z23
            refine ⟨_, rfl, hS, fun hHeld => ?_⟩
            simp only [Act.put, List.setIfInBounds_toArray, List.set_cons_zero, List.set_cons_succ]
            refine Own.yes (i := 10) (d := (some 68)) (v := ?_) rfl rfl (by kernel_rfl) (by kernel_rfl) (by kernel_rfl) (fun _ _ _ h => h) rfl ?_ hHeld ?_
            rotate_left
            · (intro w hSw; (try dsimp only at hSw); go_simp; try with_reducible rfl)
            simp only [Act.put, List.setIfInBounds_toArray, List.set_cons_zero, List.set_cons_succ]
            refine Own.yes (i := 11) (d := (some 69)) (v := ?_) rfl rfl (by kernel_rfl) (by kernel_rfl) (by kernel_rfl) (fun _ _ _ h => h) rfl ?_ hHeld ?_
            rotate_left
            · (intro w hSw; (try dsimp only at hSw); go_simp; try with_reducible rfl)
            simp only [Act.put, List.setIfInBounds_toArray, List.set_cons_zero, List.set_cons_succ]
            refine Own.yes (i := 12) (d := (some 70)) (v := ?_) rfl rfl (by kernel_rfl) (by kernel_rfl) (by kernel_rfl) (fun _ _ _ h => h) rfl ?_ hHeld ?_
            rotate_left
            · (intro w hSw; (try dsimp only at hSw); go_simp; try with_reducible rfl)
            simp only [Act.put, List.setIfInBounds_toArray, List.set_cons_zero, List.set_cons_succ]
            refine wpAnyH_all (rs := [13]) (by kernel_rfl) (by simp) ?_
            intro j hj
            obtain rfl : j = 13 := by simpa using hj
            refine Own.op rfl rfl ?_
            obtain ⟨w5, hrun, hm5, hg5⟩ := MapI.run_put (K4.out.2.2.heap (w' := w4.drew) rfl) Try.underlying45 Try.underlying3 gg (i64v t)
            rw [show MapI.put (enc i64v U) gg (i64v t) = enc i64v (aput U gg t) from Pl.enc_put] at hm5
            have hz23 : Sx A gg dd w5 := sx_put z23 hg5 hmA
            refine wp_mput (m := .tmp 58) (x := .tmp 60) (y := .tmp 70) rfl rfl rfl rfl hrun ⟨hz23, ?_⟩
            have H4 := Lib.hid (H3.out.1.sleep HX.out.2.2.2.2.2 HX.out.1 K4.out.1.drew (kept_drew K4.out.2.1) hm5 hg5)
            clear hm5 hg5 hz23 hrun z23 hS hHeld hmax hmin hw2 hw5
            simp only [Act.put, List.setIfInBounds_toArray, List.set_cons_zero, List.set_cons_succ]
            refine wpAnyH_done (by kernel_rfl) ?_ _
            go_wp2_with fail
            have hbd : ((G ++ [gg])).length + (GP).length < 1000000 := by have := H4.out.bnd; omega
            have hU : ((aput U gg t)).length = ((G ++ [gg])).length := by rw [← List.length_map (f := (·.1)), H4.out.ukeys]
            have hsl := slen_is H4.out.s hbd
            obtain ⟨L1, hL1⟩ : ∃ L : Nat, ((G ++ [gg])).length = L := ⟨_, rfl⟩
            obtain ⟨L2, hL2⟩ : ∃ L : Nat, (GP).length = L := ⟨_, rfl⟩
            rw [hL1, hL2] at hsl hbd
            rw [hL1] at hU
            refine hsl.mono ?_
            rintro e wz ⟨rfl, hg⟩
            have HZ := Lib.hid (H4.out.grown hg)
            have hln1 : ∀ ty, (Builtin.len_ #[45] ty #[.map (some m1)]).run Try.prog wz = .ok (.int .i64 L1) wz := fun ty => by
              have := MapI.run_len HZ.out.mu Try.underlying45 _ ty rfl
              simpa [enc, hU] using this
            have hln2 : ∀ ty, (Builtin.len_ #[46] ty #[.map (some m2)]).run Try.prog wz = .ok (.int .i64 L2) wz := fun ty => by
              have := MapI.run_len HZ.out.mo Try.underlying46 _ ty rfl
              simpa [enc, hL2] using this
            have hwl : IntKind.i64.wrap ((L1 : Int) + (L2 : Int)) = (L1 : Int) + (L2 : Int) := by rw [IntKind.wrap_i64]; omega
            clear hg hbd hU hL1 hL2 hsl
            go_wp2_with fail
            try go_frame
            go_roundw
            case rel => exact ⟨i + 1, now, (M ++ [⟨t, order, gg⟩]), (order + 1), (G ++ [gg]), F, GP, (aput U gg t), Rd, by omega, by go_num, HZ.out⟩
            case measure => simp [intOf] <;> omega
      · as_aux_lemma =>
          go_wp2_with fail
          clear x0 x1 x2 x3 x4
          obtain ⟨A, hA⟩ : ∃ A, A = wr.heap.size := ⟨_, rfl⟩
          rw [← hA] at H3 hsz H3x hmA
          try rw [← hA]
          generalize (wr.alloc (.cells #[.int .u8 y, .int .i64 p, .int .i64 gg, .int .i64 dd, .int .u16 f] TAct)) = W1 at *
          clear hA
          obtain ⟨_, _, z2, z3, z4⟩ := act5 H3.out.2
          have hres : gg ∈ G ∨ (gg ∉ G ∧ (gg < 0 ∨ 4096 ≤ gg)) ∨ (gg ∉ G ∧ 0 ≤ gg ∧ gg < 4096 ∧ ((stOf F f).waits = true ∨ (alook GP gg).isSome = true)) ∨ (gg ∉ G ∧ 0 ≤ gg ∧ gg < 4096 ∧ (stOf F f).waits = false ∧ (alook GP gg).isSome = false ∧ fullL F f = true) ∨ (gg ∉ G ∧ 0 ≤ gg ∧ gg < 4096 ∧ (stOf F f).waits = false ∧ (alook GP gg).isSome = false ∧ fullL F f = false) := by
            cases (stOf F f).waits <;> cases (alook GP gg).isSome <;> cases fullL F f <;> by_cases hG : gg ∈ G <;> simp [hG] <;> omega
          rcases hres with hG | ⟨hG, hb⟩ | ⟨hG, hg0, hg1, hs⟩ | ⟨hG, hg0, hg1, hs, hq, hf⟩ | ⟨hG, hg0, hg1, hs, hq, hf⟩
          · have HX := Lib.hid hG
            clear hG
            refine (swait_sleeps H3.out.1.s f gg HX.out).mono ?_
            rintro e w4 ⟨rfl, hg⟩
            have H4 := Lib.hid ((H3.out.1.grown hg).up)
            clear hg z2 z3 z4
            go_wp2_with fail
            have hbd : (G).length + (GP).length < 1000000 := by have := H4.out.bnd; omega
            have hU : (U).length = (G).length := by rw [← List.length_map (f := (·.1)), H4.out.ukeys]
            have hsl := slen_is H4.out.s hbd
            obtain ⟨L1, hL1⟩ : ∃ L : Nat, (G).length = L := ⟨_, rfl⟩
            obtain ⟨L2, hL2⟩ : ∃ L : Nat, (GP).length = L := ⟨_, rfl⟩
            rw [hL1, hL2] at hsl hbd
            rw [hL1] at hU
            refine hsl.mono ?_
            rintro e wz ⟨rfl, hg⟩
            have HZ := Lib.hid (H4.out.grown hg)
            have hln1 : ∀ ty, (Builtin.len_ #[45] ty #[.map (some m1)]).run Try.prog wz = .ok (.int .i64 L1) wz := fun ty => by
              have := MapI.run_len HZ.out.mu Try.underlying45 _ ty rfl
              simpa [enc, hU] using this
            have hln2 : ∀ ty, (Builtin.len_ #[46] ty #[.map (some m2)]).run Try.prog wz = .ok (.int .i64 L2) wz := fun ty => by
              have := MapI.run_len HZ.out.mo Try.underlying46 _ ty rfl
              simpa [enc, hL2] using this
            have hwl : IntKind.i64.wrap ((L1 : Int) + (L2 : Int)) = (L1 : Int) + (L2 : Int) := by rw [IntKind.wrap_i64]; omega
            clear hg hbd hU hL1 hL2 hsl
            go_wp2_with fail
            try go_frame
            go_roundw
            case rel => exact ⟨i + 1, now, M, order, G, F, GP, U, Rd, by omega, by go_num, HZ.out⟩
            case measure => simp [intOf] <;> omega
          · have HX := Lib.hid (And.intro hG hb)
            clear hG hb
            refine (swait_err H3.out.1.s f gg 1 HX.out.1 (by decide) (fun w1 P => Pl.wait_arg P f gg HX.out.2)).mono ?_
            rintro e w4 ⟨rfl, hg⟩
            have H4 := Lib.hid ((H3.out.1.grown hg).up)
            clear hg z2 z3 z4
            go_wp2_with fail
            have hbd : (G).length + (GP).length < 1000000 := by have := H4.out.bnd; omega
            have hU : (U).length = (G).length := by rw [← List.length_map (f := (·.1)), H4.out.ukeys]
            have hsl := slen_is H4.out.s hbd
            obtain ⟨L1, hL1⟩ : ∃ L : Nat, (G).length = L := ⟨_, rfl⟩
            obtain ⟨L2, hL2⟩ : ∃ L : Nat, (GP).length = L := ⟨_, rfl⟩
            rw [hL1, hL2] at hsl hbd
            rw [hL1] at hU
            refine hsl.mono ?_
            rintro e wz ⟨rfl, hg⟩
            have HZ := Lib.hid (H4.out.grown hg)
            have hln1 : ∀ ty, (Builtin.len_ #[45] ty #[.map (some m1)]).run Try.prog wz = .ok (.int .i64 L1) wz := fun ty => by
              have := MapI.run_len HZ.out.mu Try.underlying45 _ ty rfl
              simpa [enc, hU] using this
            have hln2 : ∀ ty, (Builtin.len_ #[46] ty #[.map (some m2)]).run Try.prog wz = .ok (.int .i64 L2) wz := fun ty => by
              have := MapI.run_len HZ.out.mo Try.underlying46 _ ty rfl
              simpa [enc, hL2] using this
            have hwl : IntKind.i64.wrap ((L1 : Int) + (L2 : Int)) = (L1 : Int) + (L2 : Int) := by rw [IntKind.wrap_i64]; omega
            clear hg hbd hU hL1 hL2 hsl
            go_wp2_with fail
            try go_frame
            go_roundw
            case rel => exact ⟨i + 1, now, M, order, G, F, GP, U, Rd, by omega, by go_num, HZ.out⟩
            case measure => simp [intOf] <;> omega
          · have HX := Lib.hid (And.intro hG (And.intro hg0 (And.intro hg1 hs)))
            clear hG hg0 hg1 hs
            refine (swait_err H3.out.1.s f gg 8 HX.out.1 (by decide) (fun w1 P => Pl.wait_same P f gg HX.out.2.1 HX.out.2.2.1 HX.out.2.2.2)).mono ?_
            rintro e w4 ⟨rfl, hg⟩
            have H4 := Lib.hid ((H3.out.1.grown hg).up)
            clear hg z2 z3 z4
            go_wp2_with fail
            have hbd : (G).length + (GP).length < 1000000 := by have := H4.out.bnd; omega
            have hU : (U).length = (G).length := by rw [← List.length_map (f := (·.1)), H4.out.ukeys]
            have hsl := slen_is H4.out.s hbd
            obtain ⟨L1, hL1⟩ : ∃ L : Nat, (G).length = L := ⟨_, rfl⟩
            obtain ⟨L2, hL2⟩ : ∃ L : Nat, (GP).length = L := ⟨_, rfl⟩
            rw [hL1, hL2] at hsl hbd
            rw [hL1] at hU
            refine hsl.mono ?_
            rintro e wz ⟨rfl, hg⟩
            have HZ := Lib.hid (H4.out.grown hg)
            have hln1 : ∀ ty, (Builtin.len_ #[45] ty #[.map (some m1)]).run Try.prog wz = .ok (.int .i64 L1) wz := fun ty => by
              have := MapI.run_len HZ.out.mu Try.underlying45 _ ty rfl
              simpa [enc, hU] using this
            have hln2 : ∀ ty, (Builtin.len_ #[46] ty #[.map (some m2)]).run Try.prog wz = .ok (.int .i64 L2) wz := fun ty => by
              have := MapI.run_len HZ.out.mo Try.underlying46 _ ty rfl
              simpa [enc, hL2] using this
            have hwl : IntKind.i64.wrap ((L1 : Int) + (L2 : Int)) = (L1 : Int) + (L2 : Int) := by rw [IntKind.wrap_i64]; omega
            clear hg hbd hU hL1 hL2 hsl
            go_wp2_with fail
            try go_frame
            go_roundw
            case rel => exact ⟨i + 1, now, M, order, G, F, GP, U, Rd, by omega, by go_num, HZ.out⟩
            case measure => simp [intOf] <;> omega
          · have HX := Lib.hid (And.intro hG (And.intro hg0 (And.intro hg1 (And.intro hs (And.intro hq hf)))))
            clear hG hg0 hg1 hs hq hf
            refine (swait_err H3.out.1.s f gg 2 HX.out.1 (by decide) (fun w1 P => Pl.wait_full P f gg HX.out.2.1 HX.out.2.2.1 HX.out.2.2.2.1 HX.out.2.2.2.2.1 HX.out.2.2.2.2.2)).mono ?_
            rintro e w4 ⟨rfl, hg⟩
            have H4 := Lib.hid ((H3.out.1.grown hg).up)
            clear hg z2 z3 z4
            go_wp2_with fail
            have hbd : (G).length + (GP).length < 1000000 := by have := H4.out.bnd; omega
            have hU : (U).length = (G).length := by rw [← List.length_map (f := (·.1)), H4.out.ukeys]
            have hsl := slen_is H4.out.s hbd
            obtain ⟨L1, hL1⟩ : ∃ L : Nat, (G).length = L := ⟨_, rfl⟩
            obtain ⟨L2, hL2⟩ : ∃ L : Nat, (GP).length = L := ⟨_, rfl⟩
            rw [hL1, hL2] at hsl hbd
            rw [hL1] at hU
            refine hsl.mono ?_
            rintro e wz ⟨rfl, hg⟩
            have HZ := Lib.hid (H4.out.grown hg)
            have hln1 : ∀ ty, (Builtin.len_ #[45] ty #[.map (some m1)]).run Try.prog wz = .ok (.int .i64 L1) wz := fun ty => by
              have := MapI.run_len HZ.out.mu Try.underlying45 _ ty rfl
              simpa [enc, hU] using this
            have hln2 : ∀ ty, (Builtin.len_ #[46] ty #[.map (some m2)]).run Try.prog wz = .ok (.int .i64 L2) wz := fun ty => by
              have := MapI.run_len HZ.out.mo Try.underlying46 _ ty rfl
              simpa [enc, hL2] using this
            have hwl : IntKind.i64.wrap ((L1 : Int) + (L2 : Int)) = (L1 : Int) + (L2 : Int) := by rw [IntKind.wrap_i64]; omega
            clear hg hbd hU hL1 hL2 hsl
            go_wp2_with fail
            try go_frame
            go_roundw
            case rel => exact ⟨i + 1, now, M, order, G, F, GP, U, Rd, by omega, by go_num, HZ.out⟩
            case measure => simp [intOf] <;> omega
          · have HX := Lib.hid (And.intro hG (And.intro hg0 (And.intro hg1 (And.intro hs (And.intro hq hf)))))
            clear hG hg0 hg1 hs hq hf
            obtain ⟨mq, hmq⟩ := min_ex M
            have HT := Lib.hid hmq
            clear hmq
            refine (swait_ok H3x.out f gg HX.out.1 HX.out.2.1 HX.out.2.2.1 HX.out.2.2.2.1 HX.out.2.2.2.2.1 HX.out.2.2.2.2.2 (by have := H3.out.1.bnd; omega) HT.out rfl).mono ?_
            rintro e w4 ⟨rfl, hs4, hk4⟩
            have z4' : w4.cell? ⟨A, 4, none⟩ = some (.int .u16 f) := (World.cell?_of_block (a := ⟨A, 4, none⟩) (hk4.far A (.inr rfl))).trans z4
            have z2' : w4.cell? ⟨A, 2, none⟩ = some (.int .i64 gg) := (World.cell?_of_block (a := ⟨A, 2, none⟩) (hk4.far A (.inr rfl))).trans z2
            have hk4' := kept_less (X' := M3 m1 m2 m3) hk4 (fun k q => .inl q)
            have K4 := Lib.hid (And.intro (hs4.less (X' := M3 m1 m2 m3) (fun k q => .inl q)) (And.intro hk4' (H3.out.1.mo.heap (hk4'.far m2 (.inr (.inl rfl))))))
            clear hs4 hk4 hk4' z2 z3 z4
            go_wp2_with (at_mapUpdate; refine MapI.wpList_put rfl _ _ _ 46 3 31 rfl Try.underlying46 Try.underlying3 K4.out.2.2 rfl gg rfl (Pl.u16 f) rfl ?_; intro w5 hm5 hg5; rw [Pl.enc_put] at hm5; have H4 := Lib.hid (H3.out.1.wait HX.out.1 HX.out.2.1 HX.out.2.2.1 HX.out.2.2.2.1 HX.out.2.2.2.2.1 HX.out.2.2.2.2.2 K4.out.1 K4.out.2.1 hm5 hg5); clear hm5 hg5)
            try clear z4' z2'
            have hbd : (G).length + ((aput GP gg f)).length < 1000000 := by have := H4.out.bnd; omega
            have hU : (U).length = (G).length := by rw [← List.length_map (f := (·.1)), H4.out.ukeys]
            have hsl := slen_is H4.out.s hbd
            obtain ⟨L1, hL1⟩ : ∃ L : Nat, (G).length = L := ⟨_, rfl⟩
            obtain ⟨L2, hL2⟩ : ∃ L : Nat, ((aput GP gg f)).length = L := ⟨_, rfl⟩
            rw [hL1, hL2] at hsl hbd
            rw [hL1] at hU
            refine hsl.mono ?_
            rintro e wz ⟨rfl, hg⟩
            have HZ := Lib.hid (H4.out.grown hg)
            have hln1 : ∀ ty, (Builtin.len_ #[45] ty #[.map (some m1)]).run Try.prog wz = .ok (.int .i64 L1) wz := fun ty => by
              have := MapI.run_len HZ.out.mu Try.underlying45 _ ty rfl
              simpa [enc, hU] using this
            have hln2 : ∀ ty, (Builtin.len_ #[46] ty #[.map (some m2)]).run Try.prog wz = .ok (.int .i64 L2) wz := fun ty => by
              have := MapI.run_len HZ.out.mo Try.underlying46 _ ty rfl
              simpa [enc, hL2] using this
            have hwl : IntKind.i64.wrap ((L1 : Int) + (L2 : Int)) = (L1 : Int) + (L2 : Int) := by rw [IntKind.wrap_i64]; omega
            clear hg hbd hU hL1 hL2 hsl
            go_wp2_with fail
            try go_frame
            go_roundw
            case rel => exact ⟨i + 1, now, M, order, G, (aput F f ⟨gg, true, (stOf F f).ready⟩), (aput GP gg f), U, Rd, by omega, by go_num, HZ.out⟩
            case measure => simp [intOf] <;> omega
      · as_aux_lemma =>
          go_wp2_with fail
          clear x0 x1 x2 x3 x4
          obtain ⟨A, hA⟩ : ∃ A, A = wr.heap.size := ⟨_, rfl⟩
          rw [← hA] at H3 hsz H3x hmA
          try rw [← hA]
          generalize (wr.alloc (.cells #[.int .u8 y, .int .i64 p, .int .i64 gg, .int .i64 dd, .int .u16 f] TAct)) = W1 at *
          clear hA
          obtain ⟨_, _, z2, z3, z4⟩ := act5 H3.out.2
          obtain ⟨t, ht⟩ : ∃ t, Clk.sat now (Clk.mx 0 dd) = t := ⟨_, rfl⟩
          obtain ⟨mq, hmq⟩ := min_ex M
          have HT := Lib.hid (And.intro ht hmq)
          clear ht hmq
          refine (stick_is H3.out.1.s HFR.out HT.out.1 HT.out.2 rfl).mono ?_
          rintro e w4 ⟨rfl, hs4, hk4⟩
          have H4 := Lib.hid (H3.out.1.tick hs4 hk4)
          clear hs4 hk4 z2 z3 z4
          go_wp2_with fail
          have hbd : (G).length + (GP).length < 1000000 := by have := H4.out.bnd; omega
          have hU : (U).length = (G).length := by rw [← List.length_map (f := (·.1)), H4.out.ukeys]
          have hsl := slen_is H4.out.s hbd
          obtain ⟨L1, hL1⟩ : ∃ L : Nat, (G).length = L := ⟨_, rfl⟩
          obtain ⟨L2, hL2⟩ : ∃ L : Nat, (GP).length = L := ⟨_, rfl⟩
          rw [hL1, hL2] at hsl hbd
          rw [hL1] at hU
          refine hsl.mono ?_
          rintro e wz ⟨rfl, hg⟩
          have HZ := Lib.hid (H4.out.grown hg)
          have hln1 : ∀ ty, (Builtin.len_ #[45] ty #[.map (some m1)]).run Try.prog wz = .ok (.int .i64 L1) wz := fun ty => by
            have := MapI.run_len HZ.out.mu Try.underlying45 _ ty rfl
            simpa [enc, hU] using this
          have hln2 : ∀ ty, (Builtin.len_ #[46] ty #[.map (some m2)]).run Try.prog wz = .ok (.int .i64 L2) wz := fun ty => by
            have := MapI.run_len HZ.out.mo Try.underlying46 _ ty rfl
            simpa [enc, hL2] using this
          have hwl : IntKind.i64.wrap ((L1 : Int) + (L2 : Int)) = (L1 : Int) + (L2 : Int) := by rw [IntKind.wrap_i64]; omega
          clear hg hbd hU hL1 hL2 hsl
          go_wp2_with fail
          try go_frame
          go_roundw
          case rel => exact ⟨i + 1, t, M, order, G, F, GP, U, Rd, by omega, by go_num, HZ.out⟩
          case measure => simp [intOf] <;> omega
      · as_aux_lemma =>
          go_wp2_with fail
          clear x0 x1 x2 x3 x4
          obtain ⟨A, hA⟩ : ∃ A, A = wr.heap.size := ⟨_, rfl⟩
          rw [← hA] at H3 hsz H3x hmA
          try rw [← hA]
          generalize (wr.alloc (.cells #[.int .u8 y, .int .i64 p, .int .i64 gg, .int .i64 dd, .int .u16 f] TAct)) = W1 at *
          clear hA
          obtain ⟨_, _, z2, z3, z4⟩ := act5 H3.out.2
          have hres : fullL F f = true ∨ fullL F f = false := by cases fullL F f <;> simp
          rcases hres with hf | hf
          · have HX := Lib.hid hf
            clear hf
            refine (sready_err H3.out.1.s f HX.out).mono ?_
            rintro e w4 ⟨rfl, hg⟩
            have H4 := Lib.hid ((H3.out.1.grown hg).up)
            clear hg z2 z3 z4
            go_wp2_with fail
            have hbd : (G).length + (GP).length < 1000000 := by have := H4.out.bnd; omega
            have hU : (U).length = (G).length := by rw [← List.length_map (f := (·.1)), H4.out.ukeys]
            have hsl := slen_is H4.out.s hbd
            obtain ⟨L1, hL1⟩ : ∃ L : Nat, (G).length = L := ⟨_, rfl⟩
            obtain ⟨L2, hL2⟩ : ∃ L : Nat, (GP).length = L := ⟨_, rfl⟩
            rw [hL1, hL2] at hsl hbd
            rw [hL1] at hU
            refine hsl.mono ?_
            rintro e wz ⟨rfl, hg⟩
            have HZ := Lib.hid (H4.out.grown hg)
            have hln1 : ∀ ty, (Builtin.len_ #[45] ty #[.map (some m1)]).run Try.prog wz = .ok (.int .i64 L1) wz := fun ty => by
              have := MapI.run_len HZ.out.mu Try.underlying45 _ ty rfl
              simpa [enc, hU] using this
            have hln2 : ∀ ty, (Builtin.len_ #[46] ty #[.map (some m2)]).run Try.prog wz = .ok (.int .i64 L2) wz := fun ty => by
              have := MapI.run_len HZ.out.mo Try.underlying46 _ ty rfl
              simpa [enc, hL2] using this
            have hwl : IntKind.i64.wrap ((L1 : Int) + (L2 : Int)) = (L1 : Int) + (L2 : Int) := by rw [IntKind.wrap_i64]; omega
            clear hg hbd hU hL1 hL2 hsl
            go_wp2_with fail
            try go_frame
            go_roundw
            case rel => exact ⟨i + 1, now, M, order, G, F, GP, U, Rd, by omega, by go_num, HZ.out⟩
            case measure => simp [intOf] <;> omega
          · obtain ⟨mq, hmq⟩ := min_ex M
            have HX := Lib.hid (And.intro hf hmq)
            clear hf hmq
            refine (sready_ok H3x.out f HX.out.1 HX.out.2 rfl).mono ?_
            rintro e w4 ⟨rfl, hs4, hk4⟩
            have z4' : w4.cell? ⟨A, 4, none⟩ = some (.int .u16 f) := (World.cell?_of_block (a := ⟨A, 4, none⟩) (hk4.far A (.inr rfl))).trans z4
            have hk4' := kept_less (X' := M3 m1 m2 m3) hk4 (fun k q => .inl q)
            have K4 := Lib.hid (And.intro (hs4.less (X' := M3 m1 m2 m3) (fun k q => .inl q)) (And.intro hk4' (H3.out.1.mr.heap (hk4'.far m3 (.inr (.inr rfl))))))
            clear hs4 hk4 hk4' z2 z3 z4
            go_wp2_with (at_mapUpdate; refine MapU.wpList_put rfl _ _ _ 47 31 3 rfl Try.underlying47 Try.underlying31 K4.out.2.2 rfl f rfl (i64v 1) rfl ?_; intro w5 hm5 hg5; rw [Pl.enc_putU] at hm5; have H4 := Lib.hid (H3.out.1.ready HX.out.1 K4.out.1 K4.out.2.1 hm5 hg5); clear hm5 hg5)
            try clear z4'
            have hbd : (G).length + (GP).length < 1000000 := by have := H4.out.bnd; omega
            have hU : (U).length = (G).length := by rw [← List.length_map (f := (·.1)), H4.out.ukeys]
            have hsl := slen_is H4.out.s hbd
            obtain ⟨L1, hL1⟩ : ∃ L : Nat, (G).length = L := ⟨_, rfl⟩
            obtain ⟨L2, hL2⟩ : ∃ L : Nat, (GP).length = L := ⟨_, rfl⟩
            rw [hL1, hL2] at hsl hbd
            rw [hL1] at hU
            refine hsl.mono ?_
            rintro e wz ⟨rfl, hg⟩
            have HZ := Lib.hid (H4.out.grown hg)
            have hln1 : ∀ ty, (Builtin.len_ #[45] ty #[.map (some m1)]).run Try.prog wz = .ok (.int .i64 L1) wz := fun ty => by
              have := MapI.run_len HZ.out.mu Try.underlying45 _ ty rfl
              simpa [enc, hU] using this
            have hln2 : ∀ ty, (Builtin.len_ #[46] ty #[.map (some m2)]).run Try.prog wz = .ok (.int .i64 L2) wz := fun ty => by
              have := MapI.run_len HZ.out.mo Try.underlying46 _ ty rfl
              simpa [enc, hL2] using this
            have hwl : IntKind.i64.wrap ((L1 : Int) + (L2 : Int)) = (L1 : Int) + (L2 : Int) := by rw [IntKind.wrap_i64]; omega
            clear hg hbd hU hL1 hL2 hsl
            go_wp2_with fail
            try go_frame
            go_roundw
            case rel => exact ⟨i + 1, now, M, order, G, (aput F f { stOf F f with ready := true }), GP, U, (aput Rd f 1), by omega, by go_num, HZ.out⟩
            case measure => simp [intOf] <;> omega
      · as_aux_lemma =>
          go_wp2_with fail
          clear x0 x1 x2 x3 x4
          obtain ⟨A, hA⟩ : ∃ A, A = wr.heap.size := ⟨_, rfl⟩
          rw [← hA] at H3 hsz H3x hmA
          try rw [← hA]
          generalize (wr.alloc (.cells #[.int .u8 y, .int .i64 p, .int .i64 gg, .int .i64 dd, .int .u16 f] TAct)) = W1 at *
          clear hA
          obtain ⟨_, _, z2, z3, z4⟩ := act5 H3.out.2
          obtain ⟨mq, hmq⟩ := min_ex M
          obtain ⟨dq, hdq⟩ : ∃ d, dueB mq now = d := ⟨_, rfl⟩
          cases dq with
          | true =>
            obtain ⟨⟨xw, xo, xg⟩, rfl, hxw⟩ : ∃ x : Ent, mq = some x ∧ x.w ≤ now := by
              cases mq with
              | none => cases hdq
              | some x => exact ⟨x, rfl, by simpa [dueB] using hdq⟩
            have hxG : xg ∈ G := H3.out.1.s.t.keys.mem_iff.1 (List.mem_map.2 ⟨_, hmq.1, rfl⟩)
            have hu : alook U xg = some xw := H3.out.1.uw _ hmq.1
            have ho : alook GP xg = none := H3.out.1.dis xg hxG
            have HX := Lib.hid (And.intro hmq hxw)
            have HL := Lib.hid (And.intro (show (MapI.look (enc i64v U) xg).getD (.int .i64 0) = .int .i64 xw by rw [Pl.enc_look, hu]; rfl) (And.intro (show (MapI.look (enc i64v U) xg).isSome = true by rw [Pl.enc_look, hu]; rfl) (And.intro (show (MapI.look (enc Pl.u16 GP) xg).getD (.int .u16 0) = .int .u16 0 by rw [Pl.enc_look, ho]; rfl) (show (MapI.look (enc Pl.u16 GP) xg).isSome = false by rw [Pl.enc_look, ho]; rfl))))
            have HO := Lib.hid (show (decide (xg ∈ G.filter fun y => y ≠ xg) || (alook GP xg).isSome) = false by rw [ho]; simp)
            have HD := Lib.hid (adel_absent ho)
            have hxn : ¬ now < xw := by have : xw ≤ now := hxw; omega
            clear hmq hxw hdq hxG hu ho
            refine (stake_timer H3.out.1.s HX.out.1 HX.out.2).mono ?_
            rintro e w4 ⟨rfl, hs4, hk4⟩
            have K4 := Lib.hid (And.intro hs4 (And.intro hk4 (And.intro (H3.out.1.mu.heap (hk4.far m1 (.inl rfl))) (H3.out.1.mo.heap (hk4.far m2 (.inr (.inl rfl)))))))
            clear hs4 hk4 z2 z3 z4
            go_wp2_with (first
              | (at_lookup; refine MapI.wpList_lookok rfl (.tmp 120) _ 45 3 2 rfl Try.underlying45 Try.underlying3 K4.out.2.2.1 rfl xg rfl (zeroI64 _) (.int .i64 xw) HL.out.1 true HL.out.2.1 ?_)
              | (at_lookup; refine MapI.wpList_lookok rfl (.tmp 126) _ 46 3 31 rfl Try.underlying46 Try.underlying3 K4.out.2.2.2 rfl xg rfl (Pl.zeroN _) (.int .u16 0) HL.out.2.2.1 false HL.out.2.2.2 ?_))
            refine (snow_is K4.out.1).mono ?_
            rintro e w5 ⟨rfl, rfl⟩
            go_wp2_with fail
            refine (sout_is K4.out.1 xg HO.out).mono ?_
            rintro e w5 ⟨rfl, hg⟩
            have K5 := Lib.hid (And.intro (K4.out.1.grown hg) (And.intro (kept_add K4.out.2.1 K4.out.1 H3.out.1.s hg) (And.intro (K4.out.2.2.1.grown hg (by simp)) (K4.out.2.2.2.grown hg (by simp)))))
            clear hg
            go_wp2_with (first
              | (refine MapI.wpList_mdel rfl (.tmp 157) _ 45 3 2 rfl Try.underlying45 Try.underlying3 K5.out.2.2.1 rfl xg rfl ?_; intro w6 hm6 hg6; rw [Pl.enc_del] at hm6; have K6 := Lib.hid (And.intro hm6 (And.intro hg6 (K5.out.2.2.2.grown hg6 (fun e => H3.out.1.ne.1 (Option.some.inj e))))); clear hm6 hg6)
              | (refine MapI.wpList_mdel rfl (.tmp 159) _ 46 3 31 rfl Try.underlying46 Try.underlying3 K6.out.2.2 rfl xg rfl ?_; intro w7 hm7 hg7; rw [Pl.enc_del, HD.out] at hm7; have H4 := Lib.hid (H3.out.1.takeT (x := ⟨xw, xo, xg⟩) HX.out.1.1 K5.out.1 K5.out.2.1 K6.out.1 K6.out.2.1 hm7 hg7); clear hm7 hg7))
            have hbd : ((G.filter fun y => y ≠ xg)).length + (GP).length < 1000000 := by have := H4.out.bnd; omega
            have hU : ((adel U xg)).length = ((G.filter fun y => y ≠ xg)).length := by rw [← List.length_map (f := (·.1)), H4.out.ukeys]
            have hsl := slen_is H4.out.s hbd
            obtain ⟨L1, hL1⟩ : ∃ L : Nat, ((G.filter fun y => y ≠ xg)).length = L := ⟨_, rfl⟩
            obtain ⟨L2, hL2⟩ : ∃ L : Nat, (GP).length = L := ⟨_, rfl⟩
            rw [hL1, hL2] at hsl hbd
            rw [hL1] at hU
            refine hsl.mono ?_
            rintro e wz ⟨rfl, hg⟩
            have HZ := Lib.hid (H4.out.grown hg)
            have hln1 : ∀ ty, (Builtin.len_ #[45] ty #[.map (some m1)]).run Try.prog wz = .ok (.int .i64 L1) wz := fun ty => by
              have := MapI.run_len HZ.out.mu Try.underlying45 _ ty rfl
              simpa [enc, hU] using this
            have hln2 : ∀ ty, (Builtin.len_ #[46] ty #[.map (some m2)]).run Try.prog wz = .ok (.int .i64 L2) wz := fun ty => by
              have := MapI.run_len HZ.out.mo Try.underlying46 _ ty rfl
              simpa [enc, hL2] using this
            have hwl : IntKind.i64.wrap ((L1 : Int) + (L2 : Int)) = (L1 : Int) + (L2 : Int) := by rw [IntKind.wrap_i64]; omega
            clear hg hbd hU hL1 hL2 hsl
            go_wp2_with fail
            try go_frame
            go_roundw
            case rel => exact ⟨i + 1, now, (M.erase ⟨xw, xo, xg⟩), order, (G.filter fun y => y ≠ xg), F, GP, (adel U xg), Rd, by omega, by go_num, HZ.out⟩
            case measure => simp [intOf] <;> omega
          | false =>
            obtain ⟨l, hl⟩ := Pl.least_ex F
            rcases l with _ | ⟨fd, xg⟩
            · have HX := Lib.hid (And.intro hmq (And.intro hdq hl))
              clear hmq hdq hl
              refine (stake_none H3.out.1.s HX.out.1 HX.out.2.1 (by have := H3.out.1.inv.size; omega) HX.out.2.2).mono ?_
              rintro e w4 ⟨rfl, hg⟩
              have H4 := Lib.hid ((H3.out.1.grown hg).up)
              clear hg z2 z3 z4
              go_wp2_with fail
              go_roundw
              case rel => exact ⟨i + 1, now, M, order, G, F, GP, U, Rd, by omega, by go_num, H4.out⟩
              case measure => simp [intOf] <;> omega
            · have hgp : alook GP xg = some fd := by
                obtain ⟨s, h1, h2, h3, h4, h5⟩ := hl
                have := ((H3.out.1.inv.ok fd s h1).1 h2).1
                rw [h4] at this; exact this
              have hnG : xg ∉ G := fun q => by have := H3.out.1.dis xg q; rw [hgp] at this; cases this
              have hu : alook U xg = none := H3.out.1.no hnG
              have hrd : alook Rd fd = some 1 := by
                obtain ⟨s, h1, h2, h3, h4, h5⟩ := hl
                exact H3.out.1.rd fd s h1 h3
              have hgl : GP.length = (adel GP xg).length + 1 := (adel_one H3.out.1.s.p.nodupG hgp).symm
              have HX := Lib.hid (And.intro hmq (And.intro hdq (And.intro hl hgl)))
              have HL := Lib.hid (And.intro (show (MapI.look (enc i64v U) xg).getD (.int .i64 0) = .int .i64 0 by rw [Pl.enc_look, hu]; rfl) (And.intro (show (MapI.look (enc i64v U) xg).isSome = false by rw [Pl.enc_look, hu]; rfl) (And.intro (show (MapI.look (enc Pl.u16 GP) xg).getD (.int .u16 0) = .int .u16 fd by rw [Pl.enc_look, hgp]; rfl) (show (MapI.look (enc Pl.u16 GP) xg).isSome = true by rw [Pl.enc_look, hgp]; rfl))))
              have HR := Lib.hid (show (MapU.look (enc i64v Rd) fd).getD (.int .i64 0) = .int .i64 1 by rw [Pl.enc_lookU, hrd]; rfl)
              have HO := Lib.hid (show (decide (xg ∈ G) || (alook (adel GP xg) xg).isSome) = false by rw [Pl.alook_del, if_pos rfl]; simpa using hnG)
              have HD := Lib.hid (adel_absent hu)
              clear hmq hdq hl hgp hnG hu hrd hgl
              refine (stake_poll H3.out.1.s HX.out.1 HX.out.2.1 (by have := H3.out.1.inv.size; omega) HX.out.2.2.1 HX.out.2.2.2 (by have := H3.out.1.bnd; omega)).mono ?_
              rintro e w4 ⟨rfl, hs4, hk4⟩
              have K4 := Lib.hid (And.intro hs4 (And.intro hk4 (And.intro (H3.out.1.mu.heap (hk4.far m1 (.inl rfl))) (And.intro (H3.out.1.mo.heap (hk4.far m2 (.inr (.inl rfl)))) (H3.out.1.mr.heap (hk4.far m3 (.inr (.inr rfl))))))))
              have hlk : (Instr.lookup 47 (.map (some m3)) (.int .u16 fd) false).run Try.prog w4 = .ok (.int .i64 1) w4 := by
                have := MapU.run_look K4.out.2.2.2.2 Try.underlying47 Try.underlying31 fd (zeroI w4) false
                rw [HR.out] at this
                simpa using this
              clear hs4 hk4 z2 z3 z4
              go_wp2_with (first
                | (at_lookup; refine MapI.wpList_lookok rfl (.tmp 120) _ 45 3 2 rfl Try.underlying45 Try.underlying3 K4.out.2.2.1 rfl xg rfl (zeroI64 _) (.int .i64 0) HL.out.1 false HL.out.2.1 ?_)
                | (at_lookup; refine MapI.wpList_lookok rfl (.tmp 126) _ 46 3 31 rfl Try.underlying46 Try.underlying3 K4.out.2.2.2.1 rfl xg rfl (Pl.zeroN _) (.int .u16 fd) HL.out.2.2.1 true HL.out.2.2.2 ?_))
              refine (sout_is K4.out.1 xg HO.out).mono ?_
              rintro e w5 ⟨rfl, hg⟩
              have K5 := Lib.hid (And.intro (K4.out.1.grown hg) (And.intro (kept_add K4.out.2.1 K4.out.1 H3.out.1.s hg) (And.intro (K4.out.2.2.1.grown hg (by simp)) (And.intro (K4.out.2.2.2.1.grown hg (by simp)) (K4.out.2.2.2.2.grown hg (by simp))))))
              clear hg
              go_wp2_with (first
                | (refine MapI.wpList_mdel rfl (.tmp 157) _ 45 3 2 rfl Try.underlying45 Try.underlying3 K5.out.2.2.1 rfl xg rfl ?_; intro w6 hm6 hg6; rw [Pl.enc_del, HD.out] at hm6; have K6 := Lib.hid (And.intro hm6 (And.intro hg6 (And.intro (K5.out.2.2.2.1.grown hg6 (fun e => H3.out.1.ne.1 (Option.some.inj e))) (K5.out.2.2.2.2.grown hg6 (fun e => H3.out.1.ne.2.1 (Option.some.inj e)))))); clear hm6 hg6)
                | (refine MapI.wpList_mdel rfl (.tmp 159) _ 46 3 31 rfl Try.underlying46 Try.underlying3 K6.out.2.2.1 rfl xg rfl ?_; intro w7 hm7 hg7; rw [Pl.enc_del] at hm7; have K7 := Lib.hid (And.intro hm7 (And.intro hg7 (K6.out.2.2.2.grown hg7 (fun e => H3.out.1.ne.2.2 (Option.some.inj e))))); clear hm7 hg7)
                | (refine MapU.wpList_mdel rfl (.tmp 162) _ 47 31 3 rfl Try.underlying47 Try.underlying31 K7.out.2.2 rfl fd rfl ?_; intro w8 hm8 hg8; rw [Pl.enc_delU] at hm8; have H4 := Lib.hid (H3.out.1.takeP HX.out.2.2.1 K5.out.1 K5.out.2.1 K6.out.1 K6.out.2.1 K7.out.1 K7.out.2.1 hm8 hg8); clear hm8 hg8))
              have hbd : (G).length + ((adel GP xg)).length < 1000000 := by have := H4.out.bnd; omega
              have hU : (U).length = (G).length := by rw [← List.length_map (f := (·.1)), H4.out.ukeys]
              have hsl := slen_is H4.out.s hbd
              obtain ⟨L1, hL1⟩ : ∃ L : Nat, (G).length = L := ⟨_, rfl⟩
              obtain ⟨L2, hL2⟩ : ∃ L : Nat, ((adel GP xg)).length = L := ⟨_, rfl⟩
              rw [hL1, hL2] at hsl hbd
              rw [hL1] at hU
              refine hsl.mono ?_
              rintro e wz ⟨rfl, hg⟩
              have HZ := Lib.hid (H4.out.grown hg)
              have hln1 : ∀ ty, (Builtin.len_ #[45] ty #[.map (some m1)]).run Try.prog wz = .ok (.int .i64 L1) wz := fun ty => by
                have := MapI.run_len HZ.out.mu Try.underlying45 _ ty rfl
                simpa [enc, hU] using this
              have hln2 : ∀ ty, (Builtin.len_ #[46] ty #[.map (some m2)]).run Try.prog wz = .ok (.int .i64 L2) wz := fun ty => by
                have := MapI.run_len HZ.out.mo Try.underlying46 _ ty rfl
                simpa [enc, hL2] using this
              have hwl : IntKind.i64.wrap ((L1 : Int) + (L2 : Int)) = (L1 : Int) + (L2 : Int) := by rw [IntKind.wrap_i64]; omega
              clear hg hbd hU hL1 hL2 hsl
              go_wp2_with fail
              try go_frame
              go_roundw
              case rel => exact ⟨i + 1, now, M, order, G, (adel F fd), (adel GP xg), U, (adel Rd fd), by omega, by go_num, HZ.out⟩
              case measure => simp [intOf] <;> omega
      · as_aux_lemma =>
          go_wp2_with fail
          clear x0 x1 x2 x3 x4
          obtain ⟨A, hA⟩ : ∃ A, A = wr.heap.size := ⟨_, rfl⟩
          rw [← hA] at H3 hsz H3x hmA
          try rw [← hA]
          generalize (wr.alloc (.cells #[.int .u8 y, .int .i64 p, .int .i64 gg, .int .i64 dd, .int .u16 f] TAct)) = W1 at *
          clear hA
          obtain ⟨_, _, z2, z3, z4⟩ := act5 H3.out.2
          obtain ⟨mq, hmq⟩ := min_ex M
          obtain ⟨dq, hdq⟩ : ∃ d, dueB mq now = d := ⟨_, rfl⟩
          cases dq with
          | true =>
            obtain ⟨⟨xw, xo, xg⟩, rfl, hxw⟩ : ∃ x : Ent, mq = some x ∧ x.w ≤ now := by
              cases mq with
              | none => cases hdq
              | some x => exact ⟨x, rfl, by simpa [dueB] using hdq⟩
            have hxG : xg ∈ G := H3.out.1.s.t.keys.mem_iff.1 (List.mem_map.2 ⟨_, hmq.1, rfl⟩)
            have hu : alook U xg = some xw := H3.out.1.uw _ hmq.1
            have ho : alook GP xg = none := H3.out.1.dis xg hxG
            have HX := Lib.hid (And.intro hmq hxw)
            have HL := Lib.hid (And.intro (show (MapI.look (enc i64v U) xg).getD (.int .i64 0) = .int .i64 xw by rw [Pl.enc_look, hu]; rfl) (And.intro (show (MapI.look (enc i64v U) xg).isSome = true by rw [Pl.enc_look, hu]; rfl) (And.intro (show (MapI.look (enc Pl.u16 GP) xg).getD (.int .u16 0) = .int .u16 0 by rw [Pl.enc_look, ho]; rfl) (show (MapI.look (enc Pl.u16 GP) xg).isSome = false by rw [Pl.enc_look, ho]; rfl))))
            have HO := Lib.hid (show (decide (xg ∈ G.filter fun y => y ≠ xg) || (alook GP xg).isSome) = false by rw [ho]; simp)
            have HD := Lib.hid (adel_absent ho)
            have hxn : ¬ now < xw := by have : xw ≤ now := hxw; omega
            clear hmq hxw hdq hxG hu ho
            refine (stake_timer H3.out.1.s HX.out.1 HX.out.2).mono ?_
            rintro e w4 ⟨rfl, hs4, hk4⟩
            have K4 := Lib.hid (And.intro hs4 (And.intro hk4 (And.intro (H3.out.1.mu.heap (hk4.far m1 (.inl rfl))) (H3.out.1.mo.heap (hk4.far m2 (.inr (.inl rfl)))))))
            clear hs4 hk4 z2 z3 z4
            go_wp2_with (first
              | (at_lookup; refine MapI.wpList_lookok rfl (.tmp 120) _ 45 3 2 rfl Try.underlying45 Try.underlying3 K4.out.2.2.1 rfl xg rfl (zeroI64 _) (.int .i64 xw) HL.out.1 true HL.out.2.1 ?_)
              | (at_lookup; refine MapI.wpList_lookok rfl (.tmp 126) _ 46 3 31 rfl Try.underlying46 Try.underlying3 K4.out.2.2.2 rfl xg rfl (Pl.zeroN _) (.int .u16 0) HL.out.2.2.1 false HL.out.2.2.2 ?_))
            refine (snow_is K4.out.1).mono ?_
            rintro e w5 ⟨rfl, rfl⟩
            go_wp2_with fail
            refine (sout_is K4.out.1 xg HO.out).mono ?_
            rintro e w5 ⟨rfl, hg⟩
            have K5 := Lib.hid (And.intro (K4.out.1.grown hg) (And.intro (kept_add K4.out.2.1 K4.out.1 H3.out.1.s hg) (And.intro (K4.out.2.2.1.grown hg (by simp)) (K4.out.2.2.2.grown hg (by simp)))))
            clear hg
            go_wp2_with (first
              | (refine MapI.wpList_mdel rfl (.tmp 157) _ 45 3 2 rfl Try.underlying45 Try.underlying3 K5.out.2.2.1 rfl xg rfl ?_; intro w6 hm6 hg6; rw [Pl.enc_del] at hm6; have K6 := Lib.hid (And.intro hm6 (And.intro hg6 (K5.out.2.2.2.grown hg6 (fun e => H3.out.1.ne.1 (Option.some.inj e))))); clear hm6 hg6)
              | (refine MapI.wpList_mdel rfl (.tmp 159) _ 46 3 31 rfl Try.underlying46 Try.underlying3 K6.out.2.2 rfl xg rfl ?_; intro w7 hm7 hg7; rw [Pl.enc_del, HD.out] at hm7; have H4 := Lib.hid (H3.out.1.takeT (x := ⟨xw, xo, xg⟩) HX.out.1.1 K5.out.1 K5.out.2.1 K6.out.1 K6.out.2.1 hm7 hg7); clear hm7 hg7))
            have hbd : ((G.filter fun y => y ≠ xg)).length + (GP).length < 1000000 := by have := H4.out.bnd; omega
            have hU : ((adel U xg)).length = ((G.filter fun y => y ≠ xg)).length := by rw [← List.length_map (f := (·.1)), H4.out.ukeys]
            have hsl := slen_is H4.out.s hbd
            obtain ⟨L1, hL1⟩ : ∃ L : Nat, ((G.filter fun y => y ≠ xg)).length = L := ⟨_, rfl⟩
            obtain ⟨L2, hL2⟩ : ∃ L : Nat, (GP).length = L := ⟨_, rfl⟩
            rw [hL1, hL2] at hsl hbd
            rw [hL1] at hU
            refine hsl.mono ?_
            rintro e wz ⟨rfl, hg⟩
            have HZ := Lib.hid (H4.out.grown hg)
            have hln1 : ∀ ty, (Builtin.len_ #[45] ty #[.map (some m1)]).run Try.prog wz = .ok (.int .i64 L1) wz := fun ty => by
              have := MapI.run_len HZ.out.mu Try.underlying45 _ ty rfl
              simpa [enc, hU] using this
            have hln2 : ∀ ty, (Builtin.len_ #[46] ty #[.map (some m2)]).run Try.prog wz = .ok (.int .i64 L2) wz := fun ty => by
              have := MapI.run_len HZ.out.mo Try.underlying46 _ ty rfl
              simpa [enc, hL2] using this
            have hwl : IntKind.i64.wrap ((L1 : Int) + (L2 : Int)) = (L1 : Int) + (L2 : Int) := by rw [IntKind.wrap_i64]; omega
            clear hg hbd hU hL1 hL2 hsl
            go_wp2_with fail
            try go_frame
            go_roundw
            case rel => exact ⟨i + 1, now, (M.erase ⟨xw, xo, xg⟩), order, (G.filter fun y => y ≠ xg), F, GP, (adel U xg), Rd, by omega, by go_num, HZ.out⟩
            case measure => simp [intOf] <;> omega
          | false =>
            obtain ⟨l, hl⟩ := Pl.least_ex F
            rcases l with _ | ⟨fd, xg⟩
            · have HX := Lib.hid (And.intro hmq (And.intro hdq hl))
              clear hmq hdq hl
              refine (stake_none H3.out.1.s HX.out.1 HX.out.2.1 (by have := H3.out.1.inv.size; omega) HX.out.2.2).mono ?_
              rintro e w4 ⟨rfl, hg⟩
              have H4 := Lib.hid ((H3.out.1.grown hg).up)
              clear hg z2 z3 z4
              go_wp2_with fail
              go_roundw
              case rel => exact ⟨i + 1, now, M, order, G, F, GP, U, Rd, by omega, by go_num, H4.out⟩
              case measure => simp [intOf] <;> omega
            · have hgp : alook GP xg = some fd := by
                obtain ⟨s, h1, h2, h3, h4, h5⟩ := hl
                have := ((H3.out.1.inv.ok fd s h1).1 h2).1
                rw [h4] at this; exact this
              have hnG : xg ∉ G := fun q => by have := H3.out.1.dis xg q; rw [hgp] at this; cases this
              have hu : alook U xg = none := H3.out.1.no hnG
              have hrd : alook Rd fd = some 1 := by
                obtain ⟨s, h1, h2, h3, h4, h5⟩ := hl
                exact H3.out.1.rd fd s h1 h3
              have hgl : GP.length = (adel GP xg).length + 1 := (adel_one H3.out.1.s.p.nodupG hgp).symm
              have HX := Lib.hid (And.intro hmq (And.intro hdq (And.intro hl hgl)))
              have HL := Lib.hid (And.intro (show (MapI.look (enc i64v U) xg).getD (.int .i64 0) = .int .i64 0 by rw [Pl.enc_look, hu]; rfl) (And.intro (show (MapI.look (enc i64v U) xg).isSome = false by rw [Pl.enc_look, hu]; rfl) (And.intro (show (MapI.look (enc Pl.u16 GP) xg).getD (.int .u16 0) = .int .u16 fd by rw [Pl.enc_look, hgp]; rfl) (show (MapI.look (enc Pl.u16 GP) xg).isSome = true by rw [Pl.enc_look, hgp]; rfl))))
              have HR := Lib.hid (show (MapU.look (enc i64v Rd) fd).getD (.int .i64 0) = .int .i64 1 by rw [Pl.enc_lookU, hrd]; rfl)
              have HO := Lib.hid (show (decide (xg ∈ G) || (alook (adel GP xg) xg).isSome) = false by rw [Pl.alook_del, if_pos rfl]; simpa using hnG)
              have HD := Lib.hid (adel_absent hu)
              clear hmq hdq hl hgp hnG hu hrd hgl
              refine (stake_poll H3.out.1.s HX.out.1 HX.out.2.1 (by have := H3.out.1.inv.size; omega) HX.out.2.2.1 HX.out.2.2.2 (by have := H3.out.1.bnd; omega)).mono ?_
              rintro e w4 ⟨rfl, hs4, hk4⟩
              have K4 := Lib.hid (And.intro hs4 (And.intro hk4 (And.intro (H3.out.1.mu.heap (hk4.far m1 (.inl rfl))) (And.intro (H3.out.1.mo.heap (hk4.far m2 (.inr (.inl rfl)))) (H3.out.1.mr.heap (hk4.far m3 (.inr (.inr rfl))))))))
              have hlk : (Instr.lookup 47 (.map (some m3)) (.int .u16 fd) false).run Try.prog w4 = .ok (.int .i64 1) w4 := by
                have := MapU.run_look K4.out.2.2.2.2 Try.underlying47 Try.underlying31 fd (zeroI w4) false
                rw [HR.out] at this
                simpa using this
              clear hs4 hk4 z2 z3 z4
              go_wp2_with (first
                | (at_lookup; refine MapI.wpList_lookok rfl (.tmp 120) _ 45 3 2 rfl Try.underlying45 Try.underlying3 K4.out.2.2.1 rfl xg rfl (zeroI64 _) (.int .i64 0) HL.out.1 false HL.out.2.1 ?_)
                | (at_lookup; refine MapI.wpList_lookok rfl (.tmp 126) _ 46 3 31 rfl Try.underlying46 Try.underlying3 K4.out.2.2.2.1 rfl xg rfl (Pl.zeroN _) (.int .u16 fd) HL.out.2.2.1 true HL.out.2.2.2 ?_))
              refine (sout_is K4.out.1 xg HO.out).mono ?_
              rintro e w5 ⟨rfl, hg⟩
              have K5 := Lib.hid (And.intro (K4.out.1.grown hg) (And.intro (kept_add K4.out.2.1 K4.out.1 H3.out.1.s hg) (And.intro (K4.out.2.2.1.grown hg (by simp)) (And.intro (K4.out.2.2.2.1.grown hg (by simp)) (K4.out.2.2.2.2.grown hg (by simp))))))
              clear hg
              go_wp2_with (first
                | (refine MapI.wpList_mdel rfl (.tmp 157) _ 45 3 2 rfl Try.underlying45 Try.underlying3 K5.out.2.2.1 rfl xg rfl ?_; intro w6 hm6 hg6; rw [Pl.enc_del, HD.out] at hm6; have K6 := Lib.hid (And.intro hm6 (And.intro hg6 (And.intro (K5.out.2.2.2.1.grown hg6 (fun e => H3.out.1.ne.1 (Option.some.inj e))) (K5.out.2.2.2.2.grown hg6 (fun e => H3.out.1.ne.2.1 (Option.some.inj e)))))); clear hm6 hg6)
                | (refine MapI.wpList_mdel rfl (.tmp 159) _ 46 3 31 rfl Try.underlying46 Try.underlying3 K6.out.2.2.1 rfl xg rfl ?_; intro w7 hm7 hg7; rw [Pl.enc_del] at hm7; have K7 := Lib.hid (And.intro hm7 (And.intro hg7 (K6.out.2.2.2.grown hg7 (fun e => H3.out.1.ne.2.2 (Option.some.inj e))))); clear hm7 hg7)
                | (refine MapU.wpList_mdel rfl (.tmp 162) _ 47 31 3 rfl Try.underlying47 Try.underlying31 K7.out.2.2 rfl fd rfl ?_; intro w8 hm8 hg8; rw [Pl.enc_delU] at hm8; have H4 := Lib.hid (H3.out.1.takeP HX.out.2.2.1 K5.out.1 K5.out.2.1 K6.out.1 K6.out.2.1 K7.out.1 K7.out.2.1 hm8 hg8); clear hm8 hg8))
              have hbd : (G).length + ((adel GP xg)).length < 1000000 := by have := H4.out.bnd; omega
              have hU : (U).length = (G).length := by rw [← List.length_map (f := (·.1)), H4.out.ukeys]
              have hsl := slen_is H4.out.s hbd
              obtain ⟨L1, hL1⟩ : ∃ L : Nat, (G).length = L := ⟨_, rfl⟩
              obtain ⟨L2, hL2⟩ : ∃ L : Nat, ((adel GP xg)).length = L := ⟨_, rfl⟩
              rw [hL1, hL2] at hsl hbd
              rw [hL1] at hU
              refine hsl.mono ?_
              rintro e wz ⟨rfl, hg⟩
              have HZ := Lib.hid (H4.out.grown hg)
              have hln1 : ∀ ty, (Builtin.len_ #[45] ty #[.map (some m1)]).run Try.prog wz = .ok (.int .i64 L1) wz := fun ty => by
                have := MapI.run_len HZ.out.mu Try.underlying45 _ ty rfl
                simpa [enc, hU] using this
              have hln2 : ∀ ty, (Builtin.len_ #[46] ty #[.map (some m2)]).run Try.prog wz = .ok (.int .i64 L2) wz := fun ty => by
                have := MapI.run_len HZ.out.mo Try.underlying46 _ ty rfl
                simpa [enc, hL2] using this
              have hwl : IntKind.i64.wrap ((L1 : Int) + (L2 : Int)) = (L1 : Int) + (L2 : Int) := by rw [IntKind.wrap_i64]; omega
              clear hg hbd hU hL1 hL2 hsl
              go_wp2_with fail
              try go_frame
              go_roundw
              case rel => exact ⟨i + 1, now, M, order, G, (adel F fd), (adel GP xg), U, (adel Rd fd), by omega, by go_num, HZ.out⟩
              case measure => simp [intOf] <;> omega
      · as_aux_lemma =>
          go_wp2_with fail
          clear x0 x1 x2 x3 x4
          obtain ⟨A, hA⟩ : ∃ A, A = wr.heap.size := ⟨_, rfl⟩
          rw [← hA] at H3 hsz H3x hmA
          try rw [← hA]
          generalize (wr.alloc (.cells #[.int .u8 y, .int .i64 p, .int .i64 gg, .int .i64 dd, .int .u16 f] TAct)) = W1 at *
          clear hA
          obtain ⟨_, _, z2, z3, z4⟩ := act5 H3.out.2
          have H4 := Lib.hid H3.out.1.up
          have hbd : (G).length + (GP).length < 1000000 := by have := H4.out.bnd; omega
          have hU : (U).length = (G).length := by rw [← List.length_map (f := (·.1)), H4.out.ukeys]
          have hsl := slen_is H4.out.s hbd
          obtain ⟨L1, hL1⟩ : ∃ L : Nat, (G).length = L := ⟨_, rfl⟩
          obtain ⟨L2, hL2⟩ : ∃ L : Nat, (GP).length = L := ⟨_, rfl⟩
          rw [hL1, hL2] at hsl hbd
          rw [hL1] at hU
          refine hsl.mono ?_
          rintro e wz ⟨rfl, hg⟩
          have HZ := Lib.hid (H4.out.grown hg)
          have hln1 : ∀ ty, (Builtin.len_ #[45] ty #[.map (some m1)]).run Try.prog wz = .ok (.int .i64 L1) wz := fun ty => by
            have := MapI.run_len HZ.out.mu Try.underlying45 _ ty rfl
            simpa [enc, hU] using this
          have hln2 : ∀ ty, (Builtin.len_ #[46] ty #[.map (some m2)]).run Try.prog wz = .ok (.int .i64 L2) wz := fun ty => by
            have := MapI.run_len HZ.out.mo Try.underlying46 _ ty rfl
            simpa [enc, hL2] using this
          have hwl : IntKind.i64.wrap ((L1 : Int) + (L2 : Int)) = (L1 : Int) + (L2 : Int) := by rw [IntKind.wrap_i64]; omega
          clear hg hbd hU hL1 hL2 hsl
          go_wp2_with fail
          try go_frame
          go_roundw
          case rel => exact ⟨i + 1, now, M, order, G, F, GP, U, Rd, by omega, by go_num, HZ.out⟩
          case measure => simp [intOf] <;> omega
    · obtain rfl : i = len := by omega
      have HZ := Lib.hid O.out.below
      clear O
      go_wp2_with fail
      go_ret
      exact ⟨rfl, HZ.out⟩
end Go.Proofs.Ytlhblhgbpaipaaa.Src
