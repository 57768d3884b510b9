/-
  The law SourceTells.
-/
import Derived.Test.YtlhblhgbpaipaaaSrcLives
import Derived.Test.YtlhblhgbpaipaaaArgs
import Derived.Deep.CutBlock
namespace Go.Proofs.Ytlhblhgbpaipaaa.Src
open Go.RowKit
open Go.Proofs.Ytlhblhgbpaipaaa.Hp
open Go.Proofs.Ytlhblhgbpaipaaa.Tm (Tms Kept IsMin dueB min_ex)
open Go.Proofs.Ytlhblhgbpaipaaa.Pl (IsPl PFr St aput adel alook stOf dueL fullL)
set_option linter.unusedVariables false
set_option linter.unusedSimpArgs false

abbrev TAct : TypeId := 38
theorem act5 {w : World} {B : Nat} {a b c d e : Value} (h : w.heap[B]? = some (.cells #[a, b, c, d, e] TAct (0, 0))) : w.cell? ⟨B, 0, none⟩ = some a ∧ w.cell? ⟨B, 1, none⟩ = some b ∧ w.cell? ⟨B, 2, none⟩ = some c ∧ w.cell? ⟨B, 3, none⟩ = some d ∧ w.cell? ⟨B, 4, none⟩ = some e :=
  ⟨cell_of_row _ _ 0 _ _ _ h, cell_of_row _ _ 1 _ _ _ h, cell_of_row _ _ 2 _ _ _ h, cell_of_row _ _ 3 _ _ _ h, cell_of_row _ _ 4 _ _ _ h⟩
theorem add_off (c : Addr) (i r : Nat) (h : r ≠ 0) : c.add (i + r) = ⟨(c.add i).block, (c.add i).off + r, none⟩ := by
  unfold Addr.add
  by_cases hi : i = 0
  · simp [hi, h]
  · simp [hi, Nat.add_assoc]
/-- What holds at the loop's head. -/
structure Tl (w wr : World) (base sb tb pb fb wb : Nat) (now : Int) (M : List Ent) (order : Nat) (G : List Int) (F : List (Int × St)) (GP : List (Int × Int)) (i : Nat) : Prop where
  s : IsS wr base sb tb pb fb wb 4 now M order G F GP (fun _ => False)
  inv : Pl.Inv F GP
  bnd : M.length ≤ i ∧ order ≤ i ∧ G.length ≤ i ∧ GP.length ≤ i
  below : Below w.heap.size w wr
  low : w.heap.size ≤ base
section
variable {w wr : World} {base sb tb pb fb wb : Nat} {now : Int} {M : List Ent} {order : Nat} {G : List Int} {F : List (Int × St)} {GP : List (Int × Int)} {i : Nat}
theorem Tl.grown (h : Tl w wr base sb tb pb fb wb now M order G F GP i) {w' : World} (hg : wr.grownBy w' none) : Tl w w' base sb tb pb fb wb now M order G F GP i :=
  ⟨h.s.grown hg, h.inv, h.bnd, h.below.trans ⟨hg.os, hg.tape, hg.output, hg.size, fun k hk => hg.block k (Nat.lt_of_lt_of_le hk h.below.size) (by simp)⟩, h.low⟩
theorem Tl.up (h : Tl w wr base sb tb pb fb wb now M order G F GP i) : Tl w wr base sb tb pb fb wb now M order G F GP (i + 1) := ⟨h.s, h.inv, by have := h.bnd; omega, h.below, h.low⟩
theorem Tl.deed (h : Tl w wr base sb tb pb fb wb now M order G F GP i) {w' : World} {now' : Int} {M' : List Ent} {order' : Nat} {G' : List Int} {F' : List (Int × St)} {GP' : List (Int × Int)} (hs : IsS w' base sb tb pb fb wb 4 now' M' order' G' F' GP' (fun _ => False)) (hk : Kept wr w' base (fun _ => False)) (hi : Pl.Inv F' GP') (hb : M'.length ≤ i + 1 ∧ order' ≤ i + 1 ∧ G'.length ≤ i + 1 ∧ GP'.length ≤ i + 1) : Tl w w' base sb tb pb fb wb now' M' order' G' F' GP' (i + 1) :=
  ⟨hs, hi, hb, h.below.trans (hk.below.mono h.low), h.low⟩
end
theorem aput_le {α : Type} (l : List (Int × α)) (k : Int) (v : α) : (aput l k v).length ≤ l.length + 1 := by rw [Pl.aput_len]; split <;> omega

set_option maxRecDepth 100000 in
set_option maxHeartbeats 8000000 in
theorem tells_short (a : Option Addr) (len cap : Nat) (kd pp g d fd : Nat → Int) (w : World) (hl : len ≤ 50) (hnil : a = none → len = 0) (hfit : ∀ i, i < len → 0 ≤ kd i ∧ Clk.I64 (d i))
    (hc : ∀ b, a = some b → ∀ i, i < len → w.cell? (b.add (i * 5)) = some (.int .u8 (kd i)) ∧ w.cell? (b.add (i * 5 + 1)) = some (.int .i64 (pp i)) ∧ w.cell? (b.add (i * 5 + 2)) = some (.int .i64 (g i)) ∧ w.cell? (b.add (i * 5 + 3)) = some (.int .i64 (d i)) ∧ w.cell? (b.add (i * 5 + 4)) = some (.int .u16 (fd i))) :
    Calls Try.prog 4 #[.slice a len cap] w fun e w' => e = .returned (.bool true) ∧ Below w.heap.size w w' := by
  have hlt : ¬ (50 < len) := by omega
  have HC := Lib.hid hc
  have HN := Lib.hid hnil
  have HF := Lib.hid hfit
  clear hc hnil hfit
  go_enter Try.func4, Try.ntmps4
  go_wp2_with fail
  refine (lives_is w).mono ?_
  rintro e w0 ⟨rfl, hb⟩
  have HB := Lib.hid hb
  clear hb
  go_wp2_with fail
  refine (snew_is w0 4 4 (by decide)).mono ?_
  rintro e w1 ⟨sb, tb, pb, fb, wb, rfl, I, hg⟩
  have O : Hid (Tl w w1 w0.heap.size sb tb pb fb wb 0 [] 0 [] [] [] 0) := Lib.hid ⟨I, Pl.inv_nil, by simp, HB.out.trans ((grown_below hg).mono HB.out.size), HB.out.size⟩
  clear I hg HB
  go_wp2_with fail
  generalize w0.heap.size = base at *
  go_loopw [22] (fun q wr => ∃ (i : Nat) (now : Int) (M : List Ent) (order : Nat) (G : List Int) (F : List (Int × St)) (GP : List (Int × Int)), i ≤ len ∧ q = .int .i64 i ∧ Tl w wr base sb tb pb fb wb now M order G F GP i) (fun q _ => len - (intOf q).toNat)
  case atStart => exact ⟨0, 0, [], 0, [], [], [], Nat.zero_le _, rfl, O.out⟩
  case round =>
    clear O
    obtain ⟨i, now, M, order, G, F, GP, hi, rfl, hO⟩ := hrel
    have O := Lib.hid hO
    clear hO
    by_cases hlen : i < len
    · obtain ⟨c, rfl⟩ : ∃ c, a = some c := by
        cases a with
        | none => exact absurd (HN.out rfl) (by omega)
        | some c => exact ⟨c, rfl⟩
      obtain ⟨h0, h1, h2, h3, h4⟩ := HC.out c rfl i hlen
      have hfi := HF.out i hlen
      have x0 := cell_later O.out.below h0
      have x1 := cell_later O.out.below h1
      have x2 := cell_later O.out.below h2
      have x3 := cell_later O.out.below h3
      have x4 := cell_later O.out.below h4
      generalize kd i = y at x0 hfi
      generalize pp i = p at x1
      generalize g i = gg at x2
      generalize d i = dd at x3 hfi
      generalize fd i = f at x4
      rw [add_off c _ 1 (by decide)] at x1
      rw [add_off c _ 2 (by decide)] at x2
      rw [add_off c _ 3 (by decide)] at x3
      rw [add_off c _ 4 (by decide)] at x4
      have hact := heap_alloc_new wr (.cells #[.int .u8 y, .int .i64 p, .int .i64 gg, .int .i64 dd, .int .u16 f] TAct)
      have H1 := Lib.hid (And.intro (O.out.grown (World.grownBy_alloc wr (.cells #[.int .u8 y, .int .i64 p, .int .i64 gg, .int .i64 dd, .int .u16 f] TAct) none)) hact)
      obtain ⟨m, hm, hm0, hm5⟩ : ∃ m, y % 5 = m ∧ 0 ≤ m ∧ m ≤ 4 := ⟨_, rfl, by omega, by omega⟩
      have ek : y.tmod 5 = m := by rw [← hm]; exact Int.tmod_eq_emod_of_nonneg hfi.1
      have HFR := Lib.hid hfi.2
      obtain ⟨L, hL⟩ : ∃ L : Int, (G.length : Int) + (GP.length : Int) = L := ⟨_, rfl⟩
      obtain ⟨mn, hmn⟩ := min_ex M
      obtain ⟨r0, hr0⟩ : ∃ r, (dueB mn now || dueL F) = r := ⟨_, rfl⟩
      have HM := Lib.hid (And.intro hmn (And.intro hr0 hL))
      obtain ⟨A, hA⟩ : ∃ A, A = wr.heap.size := ⟨_, rfl⟩
      rw [← hA] at H1
      clear hm h0 h1 h2 h3 h4 hact hfi hmn hr0 hL
      go_wp2_with fail
      clear x0 x1 x2 x3 x4
      rw [← hA]
      generalize (wr.alloc (.cells #[.int .u8 y, .int .i64 p, .int .i64 gg, .int .i64 dd, .int .u16 f] TAct)) = W1 at *
      clear hA
      have hbd : G.length + GP.length < 1000000 := by have := H1.out.1.bnd; omega
      refine (slen_is H1.out.1.s hbd).mono ?_
      rintro e w2 ⟨rfl, hg⟩
      rw [HM.out.2.2]
      have H2 := Lib.hid (And.intro (H1.out.1.grown hg) ((hg.block A (Array.getElem?_eq_some_iff.1 H1.out.2).1 (by simp)).trans H1.out.2))
      clear hg H1
      go_wp2_with fail
      refine (snow_is H2.out.1.s).mono ?_
      rintro e w2 ⟨rfl, rfl⟩
      go_wp2_with fail
      refine (sdue_is H2.out.1.s HM.out.1 HM.out.2.1).mono ?_
      rintro e w3 ⟨rfl, hg⟩
      have H3 := Lib.hid (And.intro (H2.out.1.grown hg) ((hg.block A (Array.getElem?_eq_some_iff.1 H2.out.2).1 (by simp)).trans H2.out.2))
      clear hg H2
      obtain ⟨z0, z1, z2, z3, z4⟩ := act5 H3.out.2
      have hmm : m = 0 ∨ m = 1 ∨ m = 2 ∨ m = 3 ∨ m = 4 := by omega
      clear hm0 hm5
      rcases hmm with rfl | rfl | rfl | rfl | rfl
      · have hres : (alook GP gg).isSome = true ∨ ((alook GP gg).isSome = false ∧ (p < 0 ∨ ((4 : Nat) : Int) ≤ p ∨ gg < 0 ∨ 4096 ≤ gg)) ∨ ((alook GP gg).isSome = false ∧ 0 ≤ p ∧ p < ((4 : Nat) : Int) ∧ gg ∈ G) ∨ ((alook GP gg).isSome = false ∧ 0 ≤ p ∧ p < ((4 : Nat) : Int) ∧ 0 ≤ gg ∧ gg < 4096 ∧ gg ∉ G) := by
          cases (alook GP gg).isSome <;> by_cases hG : gg ∈ G <;> simp [hG] <;> omega
        rcases hres with hq | ⟨hq, hb⟩ | ⟨hq, hp0, hp4, hG⟩ | ⟨hq, hp0, hp4, hg0, hg1, hG⟩
        · have hgr : 0 ≤ gg ∧ gg < 4096 := by
            obtain ⟨fd', hf'⟩ := Option.isSome_iff_exists.1 hq
            obtain ⟨s, h1, h2, h3⟩ := H3.out.1.inv.who gg fd' hf'
            have := (H3.out.1.inv.ok fd' s h1).1 h2
            rw [h3] at this
            exact this.2
          obtain ⟨x, hx⟩ : ∃ x : Int, (if p < 0 ∨ ((4 : Nat) : Int) ≤ p then 1 else 8) = x := ⟨_, rfl⟩
          have hx0 : x ≠ 0 := by rw [← hx]; split <;> decide
          have HX := Lib.hid (And.intro hx (And.intro hgr hq))
          clear hx hgr hq
          go_wp2_with fail
          refine (sleep_polls H3.out.1.s p gg dd HX.out.2.2 HX.out.2.1 (by have := H3.out.1.bnd; omega) (by have := H3.out.1.bnd; omega) HX.out.1).mono ?_
          rintro e w4 ⟨rfl, hg⟩
          have H4 := Lib.hid (H3.out.1.grown hg)
          clear hg z0 z1 z2 z3 z4
          go_wp2_with fail
          refine (slen_is H4.out.s hbd).mono ?_
          rintro e w5 ⟨rfl, hg⟩
          rw [HM.out.2.2]
          have H5 := Lib.hid (H4.out.grown hg)
          clear hg H4
          go_wp2_with fail
          refine (snow_is H5.out.s).mono ?_
          rintro e w6 ⟨rfl, rfl⟩
          go_wp2_with fail
          refine (sdue_is H5.out.s HM.out.1 HM.out.2.1).mono ?_
          rintro e w6 ⟨rfl, hg⟩
          have H6 := Lib.hid (H5.out.grown hg)
          clear hg H5
          cases r0
          · go_wp2_with fail
            go_roundw
            case rel => exact ⟨i + 1, now, M, order, G, F, GP, by omega, by go_num, H6.out.up⟩
            case measure => simp [intOf] <;> omega
          · go_wp2_with fail
            go_roundw
            case rel => exact ⟨i + 1, now, M, order, G, F, GP, by omega, by go_num, H6.out.up⟩
            case measure => simp [intOf] <;> omega
        · have HX := Lib.hid (And.intro hq hb)
          clear hq hb
          go_wp2_with fail
          refine (sleep_err H3.out.1.s p gg dd 1 HX.out.1 HFR.out (by decide) (fun w1 t T => (Tm.tms_add_arg T p gg t HX.out.2).mono (fun e w' h => ⟨h.1, h.2 ▸ grown_refl _⟩))).mono ?_
          rintro e w4 ⟨rfl, hg⟩
          have H4 := Lib.hid (H3.out.1.grown hg)
          clear hg z0 z1 z2 z3 z4
          go_wp2_with fail
          refine (slen_is H4.out.s hbd).mono ?_
          rintro e w5 ⟨rfl, hg⟩
          rw [HM.out.2.2]
          have H5 := Lib.hid (H4.out.grown hg)
          clear hg H4
          go_wp2_with fail
          refine (snow_is H5.out.s).mono ?_
          rintro e w6 ⟨rfl, rfl⟩
          go_wp2_with fail
          refine (sdue_is H5.out.s HM.out.1 HM.out.2.1).mono ?_
          rintro e w6 ⟨rfl, hg⟩
          have H6 := Lib.hid (H5.out.grown hg)
          clear hg H5
          cases r0
          · go_wp2_with fail
            go_roundw
            case rel => exact ⟨i + 1, now, M, order, G, F, GP, by omega, by go_num, H6.out.up⟩
            case measure => simp [intOf] <;> omega
          · go_wp2_with fail
            go_roundw
            case rel => exact ⟨i + 1, now, M, order, G, F, GP, by omega, by go_num, H6.out.up⟩
            case measure => simp [intOf] <;> omega
        · have HX := Lib.hid (And.intro hq (And.intro hp0 (And.intro hp4 hG)))
          clear hq hp0 hp4 hG
          go_wp2_with fail
          refine (sleep_err H3.out.1.s p gg dd 8 HX.out.1 HFR.out (by decide) (fun w1 t T => Tm.tms_add_same T p gg t HX.out.2.1 HX.out.2.2.1 HX.out.2.2.2)).mono ?_
          rintro e w4 ⟨rfl, hg⟩
          have H4 := Lib.hid (H3.out.1.grown hg)
          clear hg z0 z1 z2 z3 z4
          go_wp2_with fail
          refine (slen_is H4.out.s hbd).mono ?_
          rintro e w5 ⟨rfl, hg⟩
          rw [HM.out.2.2]
          have H5 := Lib.hid (H4.out.grown hg)
          clear hg H4
          go_wp2_with fail
          refine (snow_is H5.out.s).mono ?_
          rintro e w6 ⟨rfl, rfl⟩
          go_wp2_with fail
          refine (sdue_is H5.out.s HM.out.1 HM.out.2.1).mono ?_
          rintro e w6 ⟨rfl, hg⟩
          have H6 := Lib.hid (H5.out.grown hg)
          clear hg H5
          cases r0
          · go_wp2_with fail
            go_roundw
            case rel => exact ⟨i + 1, now, M, order, G, F, GP, by omega, by go_num, H6.out.up⟩
            case measure => simp [intOf] <;> omega
          · go_wp2_with fail
            go_roundw
            case rel => exact ⟨i + 1, now, M, order, G, F, GP, by omega, by go_num, H6.out.up⟩
            case measure => simp [intOf] <;> omega
        · have HX := Lib.hid (And.intro hq (And.intro hp0 (And.intro hp4 (And.intro hg0 (And.intro hg1 hG)))))
          clear hq hp0 hp4 hg0 hg1 hG
          obtain ⟨t, ht⟩ : ∃ t, Clk.sat now (Clk.mx 0 dd) = t := ⟨_, rfl⟩
          have HT := Lib.hid ht
          clear ht
          obtain ⟨mq, hmq⟩ := min_ex (M ++ [⟨t, order, gg⟩])
          obtain ⟨r1, hr1⟩ : ∃ r, (dueB mq now || dueL F) = r := ⟨_, rfl⟩
          have HM1 := Lib.hid (And.intro hmq hr1)
          clear hmq hr1
          go_wp2_with fail
          refine (sleep_ok H3.out.1.s p gg dd t HX.out.1 HFR.out HT.out HX.out.2.1 HX.out.2.2.1 HX.out.2.2.2.1 HX.out.2.2.2.2.1 HX.out.2.2.2.2.2 (by have := H3.out.1.bnd; omega) HM1.out.1 HM1.out.2).mono ?_
          rintro e w4 ⟨rfl, hs4, hk4⟩
          have H4 := Lib.hid (H3.out.1.deed hs4 hk4 H3.out.1.inv (by have := H3.out.1.bnd; simp; omega))
          clear hs4 hk4 z0 z1 z2 z3 z4
          go_wp2_with fail
          refine (sdue_is H4.out.s HM1.out.1 HM1.out.2).mono ?_
          rintro e w5 ⟨rfl, hg⟩
          have H5 := Lib.hid (H4.out.grown hg)
          clear hg H4
          cases r1
          · go_wp2_with fail
            go_roundw
            case rel => exact ⟨i + 1, now, M ++ [⟨t, order, gg⟩], order + 1, G ++ [gg], F, GP, by omega, by go_num, H5.out⟩
            case measure => simp [intOf] <;> omega
          · go_wp2_with fail
            go_roundw
            case rel => exact ⟨i + 1, now, M ++ [⟨t, order, gg⟩], order + 1, G ++ [gg], F, GP, by omega, by go_num, H5.out⟩
            case measure => simp [intOf] <;> omega
      · have hres : (alook GP gg).isSome = true ∨ ((alook GP gg).isSome = false ∧ (p < 0 ∨ ((4 : Nat) : Int) ≤ p ∨ gg < 0 ∨ 4096 ≤ gg)) ∨ ((alook GP gg).isSome = false ∧ 0 ≤ p ∧ p < ((4 : Nat) : Int) ∧ gg ∈ G) ∨ ((alook GP gg).isSome = false ∧ 0 ≤ p ∧ p < ((4 : Nat) : Int) ∧ 0 ≤ gg ∧ gg < 4096 ∧ gg ∉ G) := by
          cases (alook GP gg).isSome <;> by_cases hG : gg ∈ G <;> simp [hG] <;> omega
        rcases hres with hq | ⟨hq, hb⟩ | ⟨hq, hp0, hp4, hG⟩ | ⟨hq, hp0, hp4, hg0, hg1, hG⟩
        · have hgr : 0 ≤ gg ∧ gg < 4096 := by
            obtain ⟨fd', hf'⟩ := Option.isSome_iff_exists.1 hq
            obtain ⟨s, h1, h2, h3⟩ := H3.out.1.inv.who gg fd' hf'
            have := (H3.out.1.inv.ok fd' s h1).1 h2
            rw [h3] at this
            exact this.2
          obtain ⟨x, hx⟩ : ∃ x : Int, (if p < 0 ∨ ((4 : Nat) : Int) ≤ p then 1 else 8) = x := ⟨_, rfl⟩
          have hx0 : x ≠ 0 := by rw [← hx]; split <;> decide
          have HX := Lib.hid (And.intro hx (And.intro hgr hq))
          clear hx hgr hq
          go_wp2_with fail
          refine (sleep_polls H3.out.1.s p gg dd HX.out.2.2 HX.out.2.1 (by have := H3.out.1.bnd; omega) (by have := H3.out.1.bnd; omega) HX.out.1).mono ?_
          rintro e w4 ⟨rfl, hg⟩
          have H4 := Lib.hid (H3.out.1.grown hg)
          clear hg z0 z1 z2 z3 z4
          go_wp2_with fail
          refine (slen_is H4.out.s hbd).mono ?_
          rintro e w5 ⟨rfl, hg⟩
          rw [HM.out.2.2]
          have H5 := Lib.hid (H4.out.grown hg)
          clear hg H4
          go_wp2_with fail
          refine (snow_is H5.out.s).mono ?_
          rintro e w6 ⟨rfl, rfl⟩
          go_wp2_with fail
          refine (sdue_is H5.out.s HM.out.1 HM.out.2.1).mono ?_
          rintro e w6 ⟨rfl, hg⟩
          have H6 := Lib.hid (H5.out.grown hg)
          clear hg H5
          cases r0
          · go_wp2_with fail
            go_roundw
            case rel => exact ⟨i + 1, now, M, order, G, F, GP, by omega, by go_num, H6.out.up⟩
            case measure => simp [intOf] <;> omega
          · go_wp2_with fail
            go_roundw
            case rel => exact ⟨i + 1, now, M, order, G, F, GP, by omega, by go_num, H6.out.up⟩
            case measure => simp [intOf] <;> omega
        · have HX := Lib.hid (And.intro hq hb)
          clear hq hb
          go_wp2_with fail
          refine (sleep_err H3.out.1.s p gg dd 1 HX.out.1 HFR.out (by decide) (fun w1 t T => (Tm.tms_add_arg T p gg t HX.out.2).mono (fun e w' h => ⟨h.1, h.2 ▸ grown_refl _⟩))).mono ?_
          rintro e w4 ⟨rfl, hg⟩
          have H4 := Lib.hid (H3.out.1.grown hg)
          clear hg z0 z1 z2 z3 z4
          go_wp2_with fail
          refine (slen_is H4.out.s hbd).mono ?_
          rintro e w5 ⟨rfl, hg⟩
          rw [HM.out.2.2]
          have H5 := Lib.hid (H4.out.grown hg)
          clear hg H4
          go_wp2_with fail
          refine (snow_is H5.out.s).mono ?_
          rintro e w6 ⟨rfl, rfl⟩
          go_wp2_with fail
          refine (sdue_is H5.out.s HM.out.1 HM.out.2.1).mono ?_
          rintro e w6 ⟨rfl, hg⟩
          have H6 := Lib.hid (H5.out.grown hg)
          clear hg H5
          cases r0
          · go_wp2_with fail
            go_roundw
            case rel => exact ⟨i + 1, now, M, order, G, F, GP, by omega, by go_num, H6.out.up⟩
            case measure => simp [intOf] <;> omega
          · go_wp2_with fail
            go_roundw
            case rel => exact ⟨i + 1, now, M, order, G, F, GP, by omega, by go_num, H6.out.up⟩
            case measure => simp [intOf] <;> omega
        · have HX := Lib.hid (And.intro hq (And.intro hp0 (And.intro hp4 hG)))
          clear hq hp0 hp4 hG
          go_wp2_with fail
          refine (sleep_err H3.out.1.s p gg dd 8 HX.out.1 HFR.out (by decide) (fun w1 t T => Tm.tms_add_same T p gg t HX.out.2.1 HX.out.2.2.1 HX.out.2.2.2)).mono ?_
          rintro e w4 ⟨rfl, hg⟩
          have H4 := Lib.hid (H3.out.1.grown hg)
          clear hg z0 z1 z2 z3 z4
          go_wp2_with fail
          refine (slen_is H4.out.s hbd).mono ?_
          rintro e w5 ⟨rfl, hg⟩
          rw [HM.out.2.2]
          have H5 := Lib.hid (H4.out.grown hg)
          clear hg H4
          go_wp2_with fail
          refine (snow_is H5.out.s).mono ?_
          rintro e w6 ⟨rfl, rfl⟩
          go_wp2_with fail
          refine (sdue_is H5.out.s HM.out.1 HM.out.2.1).mono ?_
          rintro e w6 ⟨rfl, hg⟩
          have H6 := Lib.hid (H5.out.grown hg)
          clear hg H5
          cases r0
          · go_wp2_with fail
            go_roundw
            case rel => exact ⟨i + 1, now, M, order, G, F, GP, by omega, by go_num, H6.out.up⟩
            case measure => simp [intOf] <;> omega
          · go_wp2_with fail
            go_roundw
            case rel => exact ⟨i + 1, now, M, order, G, F, GP, by omega, by go_num, H6.out.up⟩
            case measure => simp [intOf] <;> omega
        · have HX := Lib.hid (And.intro hq (And.intro hp0 (And.intro hp4 (And.intro hg0 (And.intro hg1 hG)))))
          clear hq hp0 hp4 hg0 hg1 hG
          obtain ⟨t, ht⟩ : ∃ t, Clk.sat now (Clk.mx 0 dd) = t := ⟨_, rfl⟩
          have HT := Lib.hid ht
          clear ht
          obtain ⟨mq, hmq⟩ := min_ex (M ++ [⟨t, order, gg⟩])
          obtain ⟨r1, hr1⟩ : ∃ r, (dueB mq now || dueL F) = r := ⟨_, rfl⟩
          have HM1 := Lib.hid (And.intro hmq hr1)
          clear hmq hr1
          go_wp2_with fail
          refine (sleep_ok H3.out.1.s p gg dd t HX.out.1 HFR.out HT.out HX.out.2.1 HX.out.2.2.1 HX.out.2.2.2.1 HX.out.2.2.2.2.1 HX.out.2.2.2.2.2 (by have := H3.out.1.bnd; omega) HM1.out.1 HM1.out.2).mono ?_
          rintro e w4 ⟨rfl, hs4, hk4⟩
          have H4 := Lib.hid (H3.out.1.deed hs4 hk4 H3.out.1.inv (by have := H3.out.1.bnd; simp; omega))
          clear hs4 hk4 z0 z1 z2 z3 z4
          go_wp2_with fail
          refine (sdue_is H4.out.s HM1.out.1 HM1.out.2).mono ?_
          rintro e w5 ⟨rfl, hg⟩
          have H5 := Lib.hid (H4.out.grown hg)
          clear hg H4
          cases r1
          · go_wp2_with fail
            go_roundw
            case rel => exact ⟨i + 1, now, M ++ [⟨t, order, gg⟩], order + 1, G ++ [gg], F, GP, by omega, by go_num, H5.out⟩
            case measure => simp [intOf] <;> omega
          · go_wp2_with fail
            go_roundw
            case rel => exact ⟨i + 1, now, M ++ [⟨t, order, gg⟩], order + 1, G ++ [gg], F, GP, by omega, by go_num, H5.out⟩
            case measure => simp [intOf] <;> omega
      · have hres : gg ∈ G ∨ (gg ∉ G ∧ (gg < 0 ∨ 4096 ≤ gg)) ∨ (gg ∉ G ∧ 0 ≤ gg ∧ gg < 4096 ∧ ((stOf F f).waits = true ∨ (alook GP gg).isSome = true)) ∨ (gg ∉ G ∧ 0 ≤ gg ∧ gg < 4096 ∧ (stOf F f).waits = false ∧ (alook GP gg).isSome = false ∧ fullL F f = true) ∨ (gg ∉ G ∧ 0 ≤ gg ∧ gg < 4096 ∧ (stOf F f).waits = false ∧ (alook GP gg).isSome = false ∧ fullL F f = false) := by
          cases (stOf F f).waits <;> cases (alook GP gg).isSome <;> cases fullL F f <;> by_cases hG : gg ∈ G <;> simp [hG] <;> omega
        rcases hres with hG | ⟨hG, hb⟩ | ⟨hG, hg0, hg1, hs⟩ | ⟨hG, hg0, hg1, hs, hq, hf⟩ | ⟨hG, hg0, hg1, hs, hq, hf⟩
        · have HX := Lib.hid hG
          clear hG
          go_wp2_with fail
          refine (swait_sleeps H3.out.1.s f gg HX.out).mono ?_
          rintro e w4 ⟨rfl, hg⟩
          have H4 := Lib.hid (H3.out.1.grown hg)
          clear hg z0 z1 z2 z3 z4
          go_wp2_with fail
          refine (slen_is H4.out.s hbd).mono ?_
          rintro e w5 ⟨rfl, hg⟩
          rw [HM.out.2.2]
          have H5 := Lib.hid (H4.out.grown hg)
          clear hg H4
          go_wp2_with fail
          refine (snow_is H5.out.s).mono ?_
          rintro e w6 ⟨rfl, rfl⟩
          go_wp2_with fail
          refine (sdue_is H5.out.s HM.out.1 HM.out.2.1).mono ?_
          rintro e w6 ⟨rfl, hg⟩
          have H6 := Lib.hid (H5.out.grown hg)
          clear hg H5
          cases r0
          · go_wp2_with fail
            go_roundw
            case rel => exact ⟨i + 1, now, M, order, G, F, GP, by omega, by go_num, H6.out.up⟩
            case measure => simp [intOf] <;> omega
          · go_wp2_with fail
            go_roundw
            case rel => exact ⟨i + 1, now, M, order, G, F, GP, by omega, by go_num, H6.out.up⟩
            case measure => simp [intOf] <;> omega
        · have HX := Lib.hid (And.intro hG hb)
          clear hG hb
          go_wp2_with fail
          refine (swait_err H3.out.1.s f gg 1 HX.out.1 (by decide) (fun w1 P => Pl.wait_arg P f gg HX.out.2)).mono ?_
          rintro e w4 ⟨rfl, hg⟩
          have H4 := Lib.hid (H3.out.1.grown hg)
          clear hg z0 z1 z2 z3 z4
          go_wp2_with fail
          refine (slen_is H4.out.s hbd).mono ?_
          rintro e w5 ⟨rfl, hg⟩
          rw [HM.out.2.2]
          have H5 := Lib.hid (H4.out.grown hg)
          clear hg H4
          go_wp2_with fail
          refine (snow_is H5.out.s).mono ?_
          rintro e w6 ⟨rfl, rfl⟩
          go_wp2_with fail
          refine (sdue_is H5.out.s HM.out.1 HM.out.2.1).mono ?_
          rintro e w6 ⟨rfl, hg⟩
          have H6 := Lib.hid (H5.out.grown hg)
          clear hg H5
          cases r0
          · go_wp2_with fail
            go_roundw
            case rel => exact ⟨i + 1, now, M, order, G, F, GP, by omega, by go_num, H6.out.up⟩
            case measure => simp [intOf] <;> omega
          · go_wp2_with fail
            go_roundw
            case rel => exact ⟨i + 1, now, M, order, G, F, GP, by omega, by go_num, H6.out.up⟩
            case measure => simp [intOf] <;> omega
        · have HX := Lib.hid (And.intro hG (And.intro hg0 (And.intro hg1 hs)))
          clear hG hg0 hg1 hs
          go_wp2_with fail
          refine (swait_err H3.out.1.s f gg 8 HX.out.1 (by decide) (fun w1 P => Pl.wait_same P f gg HX.out.2.1 HX.out.2.2.1 HX.out.2.2.2)).mono ?_
          rintro e w4 ⟨rfl, hg⟩
          have H4 := Lib.hid (H3.out.1.grown hg)
          clear hg z0 z1 z2 z3 z4
          go_wp2_with fail
          refine (slen_is H4.out.s hbd).mono ?_
          rintro e w5 ⟨rfl, hg⟩
          rw [HM.out.2.2]
          have H5 := Lib.hid (H4.out.grown hg)
          clear hg H4
          go_wp2_with fail
          refine (snow_is H5.out.s).mono ?_
          rintro e w6 ⟨rfl, rfl⟩
          go_wp2_with fail
          refine (sdue_is H5.out.s HM.out.1 HM.out.2.1).mono ?_
          rintro e w6 ⟨rfl, hg⟩
          have H6 := Lib.hid (H5.out.grown hg)
          clear hg H5
          cases r0
          · go_wp2_with fail
            go_roundw
            case rel => exact ⟨i + 1, now, M, order, G, F, GP, by omega, by go_num, H6.out.up⟩
            case measure => simp [intOf] <;> omega
          · go_wp2_with fail
            go_roundw
            case rel => exact ⟨i + 1, now, M, order, G, F, GP, by omega, by go_num, H6.out.up⟩
            case measure => simp [intOf] <;> omega
        · have HX := Lib.hid (And.intro hG (And.intro hg0 (And.intro hg1 (And.intro hs (And.intro hq hf)))))
          clear hG hg0 hg1 hs hq hf
          go_wp2_with fail
          refine (swait_err H3.out.1.s f gg 2 HX.out.1 (by decide) (fun w1 P => Pl.wait_full P f gg HX.out.2.1 HX.out.2.2.1 HX.out.2.2.2.1 HX.out.2.2.2.2.1 HX.out.2.2.2.2.2)).mono ?_
          rintro e w4 ⟨rfl, hg⟩
          have H4 := Lib.hid (H3.out.1.grown hg)
          clear hg z0 z1 z2 z3 z4
          go_wp2_with fail
          refine (slen_is H4.out.s hbd).mono ?_
          rintro e w5 ⟨rfl, hg⟩
          rw [HM.out.2.2]
          have H5 := Lib.hid (H4.out.grown hg)
          clear hg H4
          go_wp2_with fail
          refine (snow_is H5.out.s).mono ?_
          rintro e w6 ⟨rfl, rfl⟩
          go_wp2_with fail
          refine (sdue_is H5.out.s HM.out.1 HM.out.2.1).mono ?_
          rintro e w6 ⟨rfl, hg⟩
          have H6 := Lib.hid (H5.out.grown hg)
          clear hg H5
          cases r0
          · go_wp2_with fail
            go_roundw
            case rel => exact ⟨i + 1, now, M, order, G, F, GP, by omega, by go_num, H6.out.up⟩
            case measure => simp [intOf] <;> omega
          · go_wp2_with fail
            go_roundw
            case rel => exact ⟨i + 1, now, M, order, G, F, GP, by omega, by go_num, H6.out.up⟩
            case measure => simp [intOf] <;> omega
        · have HX := Lib.hid (And.intro hG (And.intro hg0 (And.intro hg1 (And.intro hs (And.intro hq hf)))))
          clear hG hg0 hg1 hs hq hf
          obtain ⟨mq, hmq⟩ := min_ex M
          obtain ⟨r1, hr1⟩ : ∃ r, (dueB mq now || dueL (aput F f ⟨gg, true, (stOf F f).ready⟩)) = r := ⟨_, rfl⟩
          have HM1 := Lib.hid (And.intro hmq hr1)
          clear hmq hr1
          go_wp2_with fail
          refine (swait_ok H3.out.1.s f gg HX.out.1 HX.out.2.1 HX.out.2.2.1 HX.out.2.2.2.1 HX.out.2.2.2.2.1 HX.out.2.2.2.2.2 (by have := H3.out.1.bnd; omega) HM1.out.1 HM1.out.2).mono ?_
          rintro e w4 ⟨rfl, hs4, hk4⟩
          have H4 := Lib.hid (H3.out.1.deed hs4 hk4 (Pl.inv_wait H3.out.1.inv HX.out.2.1 HX.out.2.2.1 HX.out.2.2.2.1 HX.out.2.2.2.2.1 HX.out.2.2.2.2.2) (by have := H3.out.1.bnd; have := aput_le GP gg f; omega))
          clear hs4 hk4 z0 z1 z2 z3 z4
          go_wp2_with fail
          refine (sdue_is H4.out.s HM1.out.1 HM1.out.2).mono ?_
          rintro e w5 ⟨rfl, hg⟩
          have H5 := Lib.hid (H4.out.grown hg)
          clear hg H4
          cases r1
          · go_wp2_with fail
            go_roundw
            case rel => exact ⟨i + 1, now, M, order, G, (aput F f ⟨gg, true, (stOf F f).ready⟩), aput GP gg f, by omega, by go_num, H5.out⟩
            case measure => simp [intOf] <;> omega
          · go_wp2_with fail
            go_roundw
            case rel => exact ⟨i + 1, now, M, order, G, (aput F f ⟨gg, true, (stOf F f).ready⟩), aput GP gg f, by omega, by go_num, H5.out⟩
            case measure => simp [intOf] <;> omega
      · obtain ⟨t, ht⟩ : ∃ t, Clk.sat now (Clk.mx 0 dd) = t := ⟨_, rfl⟩
        have HT := Lib.hid ht
        clear ht
        obtain ⟨mq, hmq⟩ := min_ex M
        obtain ⟨r1, hr1⟩ : ∃ r, (dueB mq t || dueL F) = r := ⟨_, rfl⟩
        have HM1 := Lib.hid (And.intro hmq hr1)
        clear hmq hr1
        go_wp2_with fail
        refine (stick_is H3.out.1.s HFR.out HT.out HM1.out.1 HM1.out.2).mono ?_
        rintro e w4 ⟨rfl, hs4, hk4⟩
        have H4 := Lib.hid (H3.out.1.deed hs4 hk4 H3.out.1.inv (by have := H3.out.1.bnd; omega))
        clear hs4 hk4 z0 z1 z2 z3 z4
        go_wp2_with fail
        refine (sdue_is H4.out.s HM1.out.1 HM1.out.2).mono ?_
        rintro e w5 ⟨rfl, hg⟩
        have H5 := Lib.hid (H4.out.grown hg)
        clear hg H4
        cases r1
        · go_wp2_with fail
          go_roundw
          case rel => exact ⟨i + 1, t, M, order, G, F, GP, by omega, by go_num, H5.out⟩
          case measure => simp [intOf] <;> omega
        · go_wp2_with fail
          go_roundw
          case rel => exact ⟨i + 1, t, M, order, G, F, GP, by omega, by go_num, H5.out⟩
          case measure => simp [intOf] <;> omega
      · have hres : fullL F f = true ∨ fullL F f = false := by cases fullL F f <;> simp
        rcases hres with hf | hf
        · have HX := Lib.hid hf
          clear hf
          go_wp2_with fail
          refine (sready_err H3.out.1.s f HX.out).mono ?_
          rintro e w4 ⟨rfl, hg⟩
          have H4 := Lib.hid (H3.out.1.grown hg)
          clear hg z0 z1 z2 z3 z4
          go_wp2_with fail
          refine (slen_is H4.out.s hbd).mono ?_
          rintro e w5 ⟨rfl, hg⟩
          rw [HM.out.2.2]
          have H5 := Lib.hid (H4.out.grown hg)
          clear hg H4
          go_wp2_with fail
          refine (snow_is H5.out.s).mono ?_
          rintro e w6 ⟨rfl, rfl⟩
          go_wp2_with fail
          refine (sdue_is H5.out.s HM.out.1 HM.out.2.1).mono ?_
          rintro e w6 ⟨rfl, hg⟩
          have H6 := Lib.hid (H5.out.grown hg)
          clear hg H5
          cases r0
          · go_wp2_with fail
            go_roundw
            case rel => exact ⟨i + 1, now, M, order, G, F, GP, by omega, by go_num, H6.out.up⟩
            case measure => simp [intOf] <;> omega
          · go_wp2_with fail
            go_roundw
            case rel => exact ⟨i + 1, now, M, order, G, F, GP, by omega, by go_num, H6.out.up⟩
            case measure => simp [intOf] <;> omega
        · have HX := Lib.hid hf
          clear hf
          obtain ⟨mq, hmq⟩ := min_ex M
          obtain ⟨r1, hr1⟩ : ∃ r, (dueB mq now || dueL (aput F f { stOf F f with ready := true })) = r := ⟨_, rfl⟩
          have HM1 := Lib.hid (And.intro hmq hr1)
          clear hmq hr1
          go_wp2_with fail
          refine (sready_ok H3.out.1.s f HX.out HM1.out.1 HM1.out.2).mono ?_
          rintro e w4 ⟨rfl, hs4, hk4⟩
          have H4 := Lib.hid (H3.out.1.deed hs4 hk4 (Pl.inv_ready H3.out.1.inv HX.out) (by have := H3.out.1.bnd; omega))
          clear hs4 hk4 z0 z1 z2 z3 z4
          go_wp2_with fail
          refine (sdue_is H4.out.s HM1.out.1 HM1.out.2).mono ?_
          rintro e w5 ⟨rfl, hg⟩
          have H5 := Lib.hid (H4.out.grown hg)
          clear hg H4
          cases r1
          · go_wp2_with fail
            go_roundw
            case rel => exact ⟨i + 1, now, M, order, G, (aput F f { stOf F f with ready := true }), GP, by omega, by go_num, H5.out⟩
            case measure => simp [intOf] <;> omega
          · go_wp2_with fail
            go_roundw
            case rel => exact ⟨i + 1, now, M, order, G, (aput F f { stOf F f with ready := true }), GP, by omega, by go_num, H5.out⟩
            case measure => simp [intOf] <;> omega
    · obtain rfl : i = len := by omega
      have HZ := Lib.hid O.out.below
      clear O
      go_wp2_with fail
      go_ret
      exact ⟨rfl, HZ.out⟩

set_option maxRecDepth 100000 in
set_option maxHeartbeats 1000000 in
theorem tells_long (a : Option Addr) (len cap : Nat) (w : World) (hl : 50 < len) (hm : len ≤ maxLen) :
    Calls Try.prog 4 #[.slice a len cap] w fun e w' => e = .returned (.bool true) ∧ Below w.heap.size w w' := by
  unfold maxLen at hm
  go_enter Try.func4, Try.ntmps4
  go_wp2_with fail
  refine (lives_is w).mono ?_
  rintro e w0 ⟨rfl, hb⟩
  have HB := Lib.hid hb
  clear hb
  go_wp2_with fail
  refine (lives_is w0).mono ?_
  rintro e w1 ⟨rfl, hb⟩
  have HB1 := Lib.hid (HB.out.trans (hb.mono HB.out.size))
  clear hb
  go_wp2_with fail
  refine bodyPost_ret (results_tmp rfl _ _ _) rfl ?_
  exact ⟨rfl, HB1.out⟩
theorem wf_u8 {x : Int} (h : (Lit.int .u8 x).wf = true) : 0 ≤ x ∧ x < 256 := by
  simp [Lit.wf, IntKind.min, IntKind.max, IntKind.signed, IntKind.bits] at h
  omega
theorem tells_any (a : Option Addr) (len cap : Nat) (w : World) (ha : Args.IsFlat [.u8, .i64, .i64, .i64, .u16] w a len) :
    Calls Try.prog 4 #[.slice a len cap] w fun e w' => e = .returned (.bool true) ∧ Below w.heap.size w w' := by
  obtain ⟨hm, hnil, f, hf⟩ := ha
  by_cases hl : 50 < len
  · exact tells_long a len cap w hl hm
  · refine tells_short a len cap (fun i => (f i).getD 0 0) (fun i => (f i).getD 1 0) (fun i => (f i).getD 2 0) (fun i => (f i).getD 3 0) (fun i => (f i).getD 4 0) w (by omega) hnil (fun i hi => ?_) (fun b hb i hi => ?_)
    · obtain ⟨x, y, z, u, v, e, h1, _, _, h4, _⟩ := Args.fits5 (hf i hi).1
      simp only [e, List.getD_cons_zero, List.getD_cons_succ]
      have := bounds_i64 h4
      exact ⟨(wf_u8 h1).1, by unfold Clk.I64; omega⟩
    · obtain ⟨x, y, z, u, v, e, _⟩ := Args.fits5 (hf i hi).1
      have h := (hf i hi).2 b hb
      rw [e] at h
      have h0 := (h 0 (.int .u8 x) rfl).1
      have h1 := (h 1 (.int .i64 y) rfl).1
      have h2 := (h 2 (.int .i64 z) rfl).1
      have h3 := (h 3 (.int .i64 u) rfl).1
      have h4 := (h 4 (.int .u16 v) rfl).1
      simp only [e, List.getD_cons_zero, List.getD_cons_succ]
      exact ⟨h0, h1, h2, h3, h4⟩
end Go.Proofs.Ytlhblhgbpaipaaa.Src
