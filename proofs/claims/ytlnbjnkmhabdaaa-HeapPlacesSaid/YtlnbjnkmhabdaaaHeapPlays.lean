/-
  The law HeapPlays.
-/
import Derived.Test.YtlnbjnkmhabdaaaHeapDoc
import Derived.Test.YtlnbjnkmhabdaaaArgs
import Derived.Test.YtlnbjnkmhabdaaaRegionOwn
import Derived.Deep.DeepCutAuto
import Derived.Deep.CutBlock
import Derived.Outline
namespace Go.Proofs.Ytlnbjnkmhabdaaa.Hp
open Go.RowKit Go.Shelf
set_option linter.unusedVariables false
set_option linter.unusedSimpArgs false

theorem add_next2 (c : Addr) (n j : Nat) (hj : j ≠ 0) : c.add (n + j) = ⟨(c.add n).block, (c.add n).off + j, none⟩ := by
  unfold Addr.add
  by_cases hn : n = 0
  · subst hn; simp [hj]
  · simp [hn, Nat.add_assoc]
abbrev TA : TypeId := 45

theorem len_y {w : World} {base b i : Nat} {v : Value} {es : List Ent} (h : IsHp w base b i v es) (hbig : es.length ≤ 1000000) {m : Nat} (hm : es.length = m) :
    Calls Try.prog 14 #[.pointer (some ⟨b, i, none⟩)] w fun e w' => e = .returned (.int .i64 m) ∧ w = w' := by subst hm; exact len_is h hbig
theorem remove_y {w : World} {base b i : Nat} {v : Value} {es : List Ent} (h : IsHp w base b i v es) (hbase : base ≤ w.heap.size) (hbig : es.length ≤ 1000) (g : Int) {r : Int} (hr : (es.length : Int) - (keepG g es).length = r) :
    Calls Try.prog 13 #[.pointer (some ⟨b, i, none⟩), .int .i64 g] w fun e w' => ∃ v' es', e = .returned (.int .i64 r) ∧ IsHp w' base b i v' es' ∧ es'.Perm (keepG g es) ∧ Heapish es' ∧ HFr w w' b i v v' := by subst hr; exact remove_is h hbase hbig g
theorem rrem_y {w : World} {v : Value} {es : List Ent} {lo : Nat} (hv : RSees w lo v es) (hbig : es.length ≤ 1000) (g : Int) {r : Int} (hr : (es.length : Int) - (keepG g es).length = r) :
    Calls Try.prog 16 #[v, .int .i64 g] w fun x w' => ∃ v', x = .returned (.tuple #[v', .int .i64 r]) ∧ OwnsR w' w.heap.size v' (keepG g es) ∧ Below w.heap.size w w' := by
  subst hr
  refine (rrem_is hv hbig g).mono ?_
  rintro e w' ⟨v', n, rfl, rfl, h⟩
  exact ⟨v', rfl, h⟩
theorem take_cp {w : World} {base b : Nat} {v : Value} {es : List Ent} (h : IsHp w base b 0 v es) (hbig : es.length ≤ 1000) (hb : base ≤ b) (hw : base ≤ w.heap.size) :
    Calls Try.prog 12 #[.pointer (some ⟨b, 0, none⟩)] w fun e w' => ∃ (x : Ent) (is : Bool) (v' : Value) (es' : List Ent), e = .returned (.tuple #[x.agg, .bool is]) ∧ IsHp w' base b 0 v' es' ∧ es'.length ≤ es.length ∧ Below base w w' := by
  cases es with
  | nil =>
    refine (take_none h).mono ?_
    rintro e w' ⟨rfl, hg⟩
    exact ⟨_, _, v, [], rfl, h.grown hg, Nat.le_refl _, hg.os, hg.tape, hg.output, hg.size, fun j hj => hg.block j (by omega) (by simp)⟩
  | cons x t =>
    refine (take_some h (by simp at hbig; omega)).mono ?_
    rintro e w' ⟨v', rfl, hp, hf⟩
    exact ⟨_, _, v', _, rfl, hp, by
      have e1 : (takeL (x :: t)).length = t.length := by
        unfold takeL; rw [downL_len _ _ 0 rfl]; simp
      rw [e1]; simp, hf.below hb h.base_le hw⟩
theorem takeL_len (x : Ent) (t : List Ent) : (takeL (x :: t)).length = t.length := by
  unfold takeL; rw [downL_len _ _ 0 rfl]; simp
theorem add_zero' (c : Addr) : c.add (0 * 3) = c := by simp [Addr.add]
theorem sorted_y {w : World} {base b i : Nat} {v : Value} {es L : List Ent} (h : IsHp w base b i v es) (hbig : es.length ≤ 1000) (hL : srt es = L) {n : Nat} (hn : L.length = n) :
    Calls Try.prog 15 #[.pointer (some ⟨b, i, none⟩)] w fun e w' => ∃ a c, e = .returned (.slice a n c) ∧ ESees w' (.slice a n c) L ∧ Below w.heap.size w w' := by subst hL hn; exact sorted_is h hbig

theorem run_cut_r (a : Option Addr) (len cap : Nat) (h1 : 1 ≤ len) (h2 : len ≤ cap) (w : World) :
    (Instr.slice 43 (.slice a len cap) (some (.int .i64 1)) none none).run Try.prog w = .ok (.slice (if cap = 1 then a else a.map (·.add 3)) (len - 1) (cap - 1)) w := by
  obtain ⟨i0, hi, hz0, hz1, hz2⟩ := info_parts infoE
  have this : Program.elem Try.prog 43 = TE := by kernel_rfl
  rw [run_slice_l (a := a) (len := len) (cap := cap) (ht := by rw [this]; exact Try.underlying43) (kl := .i64) (l := 1) (h0 := by omega) (h1 := by omega)]
  simp [sliced, sizeOf, typeInfo, this, hi, hz1]

theorem keepG_perm' {g : Int} {es fs : List Ent} (h : es.Perm fs) : (keepG g es).Perm (keepG g fs) := h.filter _
theorem six_drewN {w : World} {a1 a2 a3 a4 a5 a6 : Addr} {v1 v2 v3 v4 v5 v6 : Value} (h : w.cell? a1 = some v1 ∧ w.cell? a2 = some v2 ∧ w.cell? a3 = some v3 ∧ w.cell? a4 = some v4 ∧ w.cell? a5 = some v5 ∧ w.cell? a6 = some v6) (n : Nat) :
    (w.drewN n).cell? a1 = some v1 ∧ (w.drewN n).cell? a2 = some v2 ∧ (w.drewN n).cell? a3 = some v3 ∧ (w.drewN n).cell? a4 = some v4 ∧ (w.drewN n).cell? a5 = some v5 ∧ (w.drewN n).cell? a6 = some v6 := by
  simpa only [World.cell?_drewN] using h
theorem act4 {w : World} {B : Nat} {a b c d : Value} (h : w.heap[B]? = some (.cells #[a, b, c, d] TA (0, 0))) :
    w.cell? ⟨B, 0, none⟩ = some a ∧ w.cell? ⟨B, 1, none⟩ = some b ∧ w.cell? ⟨B, 2, none⟩ = some c ∧ w.cell? ⟨B, 3, none⟩ = some d :=
  ⟨cell_of_row _ _ 0 _ _ _ h, cell_of_row _ _ 1 _ _ _ h, cell_of_row _ _ 2 _ _ _ h, cell_of_row _ _ 3 _ _ _ h⟩

set_option maxRecDepth 100000 in
set_option maxHeartbeats 4000000 in
theorem plays_short (a : Option Addr) (len cap : Nat) (p : Nat → Int) (z : Nat → Ent) (w : World) (hl : len ≤ 80) (hnil : a = none → len = 0)
    (hc : ∀ b, a = some b → ∀ i, i < len → w.cell? (b.add (i * 4)) = some (.int .u8 (p i)) ∧ w.cell? (b.add (i * 4 + 1)) = some (.int .i64 (z i).w) ∧ w.cell? (b.add (i * 4 + 2)) = some (.int .u64 (z i).o) ∧ w.cell? (b.add (i * 4 + 3)) = some (.int .i64 (z i).g))
    (hp : ∀ i, i < len → 0 ≤ p i) :
    Calls Try.prog 6 #[.slice a len cap] w fun e w' => e = .returned (.bool true) ∧ Below w.heap.size w w' := by
  have hlt : ¬ (80 < len) := by omega
  have HC := Lib.hid hc
  have HN := Lib.hid hnil
  have HP := Lib.hid hp
  clear hc hnil hp
  go_enter Try.func6, Try.ntmps6
  go_wp2_with fail
  refine (lives_is w).mono ?_
  rintro e w0 ⟨rfl, hb⟩
  have HB := Lib.hid hb
  clear hb
  go_wp2_with fail
  have D0 : Doc w (w0.alloc (.cells #[.slice none 0 0] 32)) w0.heap.size (.slice none 0 0) (.slice none 0 0) [] (srt []) :=
    ⟨hp_new w0 w0.heap.size, heapish_nil, by simp [srt]; exact rsees_nil _ _, fun j hj => by simp [Value.ownBlock] at hj, HB.out.alloc HB.out.size _, HB.out.size⟩
  have D := Lib.hid D0
  clear D0 HB
  generalize (w0.alloc (.cells #[.slice none 0 0] 32)) = W at *
  generalize w0.heap.size = A at *
  go_loopw [4, 24] (fun u q wr => ∃ (k : Nat) (v : Value) (es : List Ent), k ≤ len ∧ q = .int .i64 k ∧ es.length ≤ k ∧ Doc w wr A v u es (srt es)) (fun _ q _ => len - (intOf q).toNat)
  case atStart => exact ⟨0, _, [], Nat.zero_le _, rfl, by simp, D.out⟩
  case round =>
    clear D
    obtain ⟨k, v, es, hk, rfl, hes, hD⟩ := hrel
    have hAlt := hD.ha.lt
    obtain ⟨ua, uc, hu, hucap, humx, _, _⟩ := hD.doc
    have HD := Lib.hid hD
    subst hu
    clear hD
    by_cases hlen : k < len
    · obtain ⟨c, rfl⟩ : ∃ c, a = some c := by
        cases a with
        | none => exact absurd (HN.out rfl) (by omega)
        | some c => exact ⟨c, rfl⟩
      obtain ⟨h0, h1, h2, h3⟩ := HC.out c rfl k hlen
      have hp0 := HP.out k hlen
      have x0 := cell_later HD.out.below h0
      have x1 := cell_later HD.out.below h1
      have x2 := cell_later HD.out.below h2
      have x3 := cell_later HD.out.below h3
      generalize z k = x at x1 x2 x3
      generalize p k = y at x0 hp0
      rw [add_next2 c _ 1 (by decide)] at x1
      rw [add_next2 c _ 2 (by decide)] at x2
      rw [add_next2 c _ 3 (by decide)] at x3
      clear h0 h1 h2 h3
      have hact : (wr.alloc (.cells #[.int .u8 y, .int .i64 x.w, .int .u64 x.o, .int .i64 x.g] TA)).heap[wr.heap.size]? = some (.cells #[.int .u8 y, .int .i64 x.w, .int .u64 x.o, .int .i64 x.g] TA (0, 0)) := heap_alloc_new _ _
      have hga : wr.grownBy (wr.alloc (.cells #[.int .u8 y, .int .i64 x.w, .int .u64 x.o, .int .i64 x.g] TA)) none := World.grownBy_alloc _ _ _
      have H1 := Lib.hid (And.intro (HD.out.none hga) hact)
      have hsz : wr.heap.size < (wr.alloc (.cells #[.int .u8 y, .int .i64 x.w, .int .u64 x.o, .int .i64 x.g] TA)).heap.size := by simp
      have hown : Hid (∀ j, v.ownBlock = some j → j < wr.heap.size) := Lib.hid fun j hj => (HD.out.ha.ownlt j hj).1
      obtain ⟨m, hm, hm0, hm6⟩ : ∃ m, y % 7 = m ∧ 0 ≤ m ∧ m ≤ 6 := ⟨_, rfl, by omega, by omega⟩
      have ek : y.tmod 7 = m := by rw [← hm]; exact Int.tmod_eq_emod_of_nonneg hp0
      clear hm
      obtain ⟨n, hn⟩ : ∃ n, (srt es).length = n := ⟨_, rfl⟩
      have hne : es.length = n := by rw [← hn, srt_len]
      have HNE := Lib.hid (And.intro hn hne)
      have hnk : n ≤ k := by omega
      rw [hn] at hucap H1 ⊢
      clear hact hga hn hne HD
      go_upto_block 2 with fail
      clear x0 x1 x2 x3
      generalize (wr.alloc (.cells #[.int .u8 y, .int .i64 x.w, .int .u64 x.o, .int .i64 x.g] TA)) = W1 at *
      obtain ⟨z0, z1, z2, z3⟩ := act4 H1.out.2
      go_cut [4, 7, 8, 9, 10, 11, 24] from 24 to 129 (fun u _ _ _ _ _ q wx => q = .int .i64 k ∧ ∃ (v' : Value) (es' : List Ent), es'.length ≤ k + 1 ∧ Doc w wx A v' u es' (srt es'))
      case first =>
        have hm7 : (m = 0 ∨ m = 1 ∨ m = 2) ∨ (m = 3 ∨ m = 4) ∨ m = 5 ∨ m = 6 := by omega
        clear ek hm0 hm6
        rcases hm7 with h7 | h7 | rfl | rfl
        · rcases h7 with rfl | rfl | rfl
          all_goals
            go_wp2_with fail
            refine (put_is H1.out.1.ha (Nat.le_of_lt H1.out.1.ha.lt) (by have := HNE.out.2; omega) x).mono ?_
            rintro e w2 ⟨v2, rfl, hp2, hf2⟩
            have hB := (hf2.block wr.heap.size hsz (by omega) (fun e => by have := hown.out _ e; omega)).trans H1.out.2
            have D2 := Lib.hid (H1.out.1.deed hp2 (put_law H1.out.1.ih x).2 hf2)
            obtain ⟨z0, z1, z2, z3⟩ := act4 hB
            have hlen2 := (put_law H1.out.1.ih x).1.length_eq
            have HL2 := Lib.hid hlen2
            clear hp2 hf2 hB hlen2
            go_wp2_with fail
            refine (rput_is D2.out.doc (by rw [HNE.out.1]; omega) x).mono ?_
            rintro e w3 ⟨u3, rfl, ho3, hb3⟩
            rw [srt_put H1.out.1.ih x] at ho3
            have D3 := Lib.hid (D2.out.row ho3 hb3)
            clear ho3 hb3 z0 z1 z2 z3
            go_wp2_with fail
            go_meet
            exact ⟨rfl, _, _, by rw [HL2.out, List.length_cons]; omega, D3.out⟩
        · rcases h7 with rfl | rfl
          all_goals
            rcases es with _ | ⟨e1, t⟩
            · obtain rfl : n = 0 := by have := HNE.out.2; simpa using this.symm
              have hz : ∀ W, (binOp .neq 24 (.agg #[.int .i64 0, .int .u64 0, .int .i64 0]) (.agg #[.int .i64 0, .int .u64 0, .int .i64 0])).run Try.prog W = .ok (.bool false) W := fun W => by go_simp
              go_wp2_with fail
              refine (take_none H1.out.1.ha).mono ?_
              rintro e w2 ⟨rfl, hg2⟩
              have D2 := Lib.hid ((H1.out.1.none hg2).none (World.grownBy_alloc w2 (.cells #[.int .i64 0, .int .u64 0, .int .i64 0] 24) none))
              have hcl := heap_alloc_new w2 (.cells #[.int .i64 0, .int .u64 0, .int .i64 0] 24)
              clear hg2 z0 z1 z2 z3
              go_wp2_with fail
              generalize (w2.alloc (.cells #[.int .i64 0, .int .u64 0, .int .i64 0] 24)) = W2 at *
              have y0 : W2.cell? ⟨w2.heap.size, 0, none⟩ = some (.int .i64 0) := cell_of_row _ _ 0 _ _ _ hcl
              have y1 : W2.cell? ⟨w2.heap.size, 1, none⟩ = some (.int .u64 0) := cell_of_row _ _ 1 _ _ _ hcl
              have y2 : W2.cell? ⟨w2.heap.size, 2, none⟩ = some (.int .i64 0) := cell_of_row _ _ 2 _ _ _ hcl
              clear hcl
              go_quiet (fail)
              go_wp2_with fail
              go_meet
              exact ⟨rfl, v, [], by simp, D2.out.drewN nq⟩
            · obtain ⟨q, rfl⟩ : ∃ q, n = q + 1 := ⟨t.length, by have := HNE.out.2; simpa using this.symm⟩
              have hq0 : decide ((0 : Int) < (q : Int) + 1) = true := by simp <;> omega
              have hq1 : (0 : Int) < (q : Int) + 1 := by omega
              have hqq : decide (0 < q + 1) = true := by simp
              have hz : ∀ W, (binOp .neq 28 (.agg #[.int .i64 e1.w, .int .u64 e1.o, .int .i64 e1.g]) (.agg #[.int .i64 e1.w, .int .u64 e1.o, .int .i64 e1.g])).run Try.prog W = .ok (.bool false) W := fun W => by go_simp
              have hsr := srt_head H1.out.1.ih
              go_wp2_with fail
              refine (take_some H1.out.1.ha (by have := HNE.out.2; simp at this; omega)).mono ?_
              rintro e w2 ⟨v2, rfl, hp2, hf2⟩
              have D2 := Lib.hid ((H1.out.1.deed hp2 (take_law H1.out.1.ih).2 hf2).none (World.grownBy_alloc w2 (.cells #[.int .i64 e1.w, .int .u64 e1.o, .int .i64 e1.g] 24) none))
              rw [hsr] at D2
              have hcl := heap_alloc_new w2 (.cells #[.int .i64 e1.w, .int .u64 e1.o, .int .i64 e1.g] 24)
              clear hp2 hf2 z0 z1 z2 z3 hsr
              go_wp2_with fail
              generalize (w2.alloc (.cells #[.int .i64 e1.w, .int .u64 e1.o, .int .i64 e1.g] 24)) = W2 at *
              have y0 : W2.cell? ⟨w2.heap.size, 0, none⟩ = some (.int .i64 e1.w) := cell_of_row _ _ 0 _ _ _ hcl
              have y1 : W2.cell? ⟨w2.heap.size, 1, none⟩ = some (.int .u64 e1.o) := cell_of_row _ _ 1 _ _ _ hcl
              have y2 : W2.cell? ⟨w2.heap.size, 2, none⟩ = some (.int .i64 e1.g) := cell_of_row _ _ 2 _ _ _ hcl
              obtain ⟨c', rfl, q0, q1, q2⟩ : ∃ c', ua = some c' ∧ W2.cell? c' = some (.int .i64 e1.w) ∧ W2.cell? ⟨c'.block, c'.off + 1, none⟩ = some (.int .u64 e1.o) ∧ W2.cell? ⟨c'.block, c'.off + 2, none⟩ = some (.int .i64 e1.g) := by
                obtain ⟨_, _, e, _, _, _, h⟩ := D2.out.doc
                obtain ⟨rfl, _, _⟩ := Value.slice.inj e
                have := h 0 e1 rfl
                simpa only [add_zero'] using this
              obtain ⟨X, hX⟩ : ∃ X, (if uc = 1 then some c' else (some c').map (·.add 3)) = X := ⟨_, rfl⟩
              have hcut' : ∀ W, (Instr.slice 43 (.slice (some c') (q + 1) uc) (some (.int .i64 1)) none none).run Try.prog W = .ok (.slice X q (uc - 1)) W := fun W => by rw [run_cut_r (some c') (q + 1) uc (by omega) hucap W, hX]; rfl
              have HX := Lib.hid hX
              clear hcl hX
              go_quiet (fail)
              go_wp2_with fail
              go_meet
              exact ⟨rfl, v2, takeL (e1 :: t), by rw [takeL_len]; have := HNE.out.2; simp at this; omega, (D2.out.drewN nq).cut _ (by rw [HX.out]; rfl)⟩
        · obtain ⟨r, hr⟩ : ∃ r : Int, (es.length : Int) - (keepG x.g es).length = r := ⟨_, rfl⟩
          have hr2 : ((srt es).length : Int) - (keepG x.g (srt es)).length = r := by rw [srt_len, (keepG_perm' (srt_perm es)).length_eq]; exact hr
          have HRR := Lib.hid (And.intro hr hr2)
          clear hr hr2
          go_wp2_with fail
          refine (rrem_y H1.out.1.doc (by rw [HNE.out.1]; have := HNE.out.2; omega) x.g HRR.out.2).mono ?_
          rintro e w2 ⟨u2, rfl, ho2, hb2⟩
          have D2 := Lib.hid (H1.out.1.row ho2 hb2)
          have hB := (hb2.block wr.heap.size hsz).trans H1.out.2
          obtain ⟨z0, z1, z2, z3⟩ := act4 hB
          obtain ⟨ua2, uc2, rfl, _⟩ := D2.out.doc
          clear ho2 hb2 hB
          go_wp2_with fail
          refine (remove_y D2.out.ha (Nat.le_of_lt D2.out.ha.lt) (by have := HNE.out.2; omega) x.g HRR.out.1).mono ?_
          rintro e w3 ⟨v3, es3, rfl, hp3, hq3, hh3, hf3⟩
          have D3 := Lib.hid (D2.out.deed hp3 hh3 hf3)
          have HQ := Lib.hid (And.intro (srt_keep hq3) (show es3.length ≤ es.length from by rw [hq3.length_eq]; exact List.length_filter_le _ _))
          clear hp3 hq3 hh3 hf3 z0 z1 z2 z3
          go_wp2_with fail
          go_meet
          exact ⟨rfl, v3, es3, by have := HQ.out.2; have := HNE.out.2; omega, by have := D3.out; rw [HQ.out.1] at this ⊢; exact this⟩
        · go_wp2_with fail
          refine (hcopy_is H1.out.1.ha (by have := HNE.out.2; omega)).mono ?_
          rintro e w2 ⟨B, v2, rfl, hB, hI2, hb2⟩
          have hact := (hb2.block wr.heap.size hsz).trans H1.out.2
          have H2 := Lib.hid (And.intro hI2 hb2)
          clear hI2 hb2 hact z0 z1 z2 z3
          go_wp2_with fail
          refine (take_cp H2.out.1 (by have := HNE.out.2; omega) hB H2.out.2.size).mono ?_
          rintro e w3 ⟨e3, i3, v3, es3, rfl, hI3, hl3, hb3⟩
          have hb13 := H2.out.2.trans hb3
          have hact := (hb13.block wr.heap.size hsz).trans H1.out.2
          obtain ⟨z0, z1, z2, z3⟩ := act4 hact
          have H3 := Lib.hid (And.intro hI3 hb13)
          clear hI3 hb3 hb13 hact
          go_wp2_with fail
          refine (put_is H3.out.1 H3.out.2.size (by have := HNE.out.2; omega) x).mono ?_
          rintro e w4 ⟨v4, rfl, hI4, hf4⟩
          have D4 := Lib.hid (H1.out.1.after (H3.out.2.trans (hf4.below (B := W1.heap.size) hB H3.out.1.base_le H3.out.2.size)))
          clear hI4 hf4 z0 z1 z2 z3
          go_wp2_with fail
          go_meet
          exact ⟨rfl, v, es, by have := HNE.out.2; omega, D4.out⟩
      case rest =>
        obtain ⟨rfl, v', es', hes', hDc⟩ := hcut
        obtain ⟨ua2, uc2, hu2, hucap2, _⟩ := hDc.doc
        subst hu2
        obtain ⟨n2, hn2⟩ : ∃ n2, (srt es').length = n2 := ⟨_, rfl⟩
        have hne2 : es'.length = n2 := by rw [← hn2, srt_len]
        have hn2k : n2 ≤ k + 1 := by omega
        rw [hn2] at hDc hucap2 ⊢
        have HDc := Lib.hid (And.intro hDc (And.intro hne2 hn2))
        clear hDc hn2 hne2 hown hsz H1 HNE z0 z1 z2 z3 hm0 hm6 ek hnk hucap
        rcases es' with _ | ⟨e1, t⟩
        · obtain rfl : n2 = 0 := by have := HDc.out.2.1; simpa using this.symm
          go_wp2_with fail
          refine (first_none HDc.out.1.ha).mono ?_
          rintro e w2 ⟨rfl, hg2⟩
          have D2 := (HDc.out.1.none hg2).none (World.grownBy_alloc w2 (.cells #[.int .i64 0, .int .u64 0, .int .i64 0] 24) none)
          have hcl := heap_alloc_new w2 (.cells #[.int .i64 0, .int .u64 0, .int .i64 0] 24)
          have G := Lib.hid (And.intro (D2.drewN 1) HDc.out.2.1)
          have HL := Lib.hid HDc.out.2.2
          clear hg2 D2
          go_wp2_with fail
          generalize (w2.alloc (.cells #[.int .i64 0, .int .u64 0, .int .i64 0] 24)) = W2 at *
          have hS : True ∧ W2.drew.cell? ⟨w2.heap.size, 0, none⟩ = some (.int .i64 0) := ⟨trivial, cell_of_row _ _ 0 _ _ _ hcl⟩
          have hlt2 := (Array.getElem?_eq_some_iff.1 hcl).1
          have K0 : ∀ {w' : World}, Below (W2.drewN 1).heap.size (W2.drewN 1) w' → True ∧ w'.cell? ⟨w2.heap.size, 0, none⟩ = some (.int .i64 0) := fun hb => ⟨trivial, (hb.cell (p := ⟨w2.heap.size, 0, none⟩) hlt2).trans hS.2⟩
          refine wp_region_held_drew (S := fun w' => True ∧ w'.cell? ⟨w2.heap.size, 0, none⟩ = some (.int .i64 0)) (by kernel_rfl) hS (fun hHeld => ?_)
          refine Own.yes (i := 1) (d := (some 103)) (v := ?_) rfl rfl (by kernel_rfl) (by kernel_rfl) (by kernel_rfl) (fun _ _ _ h => h) rfl ?_ hHeld ?_
          rotate_left
          · (intro w hSw; (try dsimp only at hSw); go_simp; try with_reducible rfl)
          simp only [Act.put, List.setIfInBounds_toArray, List.set_cons_zero, List.set_cons_succ]
          refine Own.yes (i := 2) (d := (some 104)) (v := ?_) rfl rfl (by kernel_rfl) (by kernel_rfl) (by kernel_rfl) (fun _ _ _ h => h) rfl ?_ hHeld ?_
          rotate_left
          · (intro w hSw; (try dsimp only at hSw); go_simp; try with_reducible rfl)
          simp only [Act.put, List.setIfInBounds_toArray, List.set_cons_zero, List.set_cons_succ]
          refine Own.call (i := 0) (d := (some 102)) rfl rfl (by kernel_rfl) rfl ?_ (len_y G.out.1.ha (by have := G.out.2; omega) G.out.2) ?_
          · go_simp
          rintro e w5 ⟨rfl, rfl⟩
          refine ⟨_, rfl, hS, fun hHeld => ?_⟩
          simp only [Act.put, List.setIfInBounds_toArray, List.set_cons_zero, List.set_cons_succ]
          refine Own.yes (i := 3) (d := (some 105)) (v := ?_) rfl rfl (by kernel_rfl) (by kernel_rfl) (by kernel_rfl) (fun _ _ _ h => h) rfl ?_ hHeld ?_
          rotate_left
          · (intro w hSw; (try dsimp only at hSw); go_simp; try with_reducible rfl)
          simp only [Act.put, List.setIfInBounds_toArray, List.set_cons_zero, List.set_cons_succ]
          refine Own.yes (i := 4) (d := (some 106)) (v := ?_) rfl rfl (by kernel_rfl) (by kernel_rfl) (by kernel_rfl) (fun _ _ _ h => h) rfl ?_ hHeld ?_
          rotate_left
          · (intro w hSw; (try dsimp only at hSw); go_simp; try with_reducible rfl)
          simp only [Act.put, List.setIfInBounds_toArray, List.set_cons_zero, List.set_cons_succ]
          refine Own.yes (i := 6) (d := (some 108)) (v := ?_) rfl rfl (by kernel_rfl) (by kernel_rfl) (by kernel_rfl) (fun _ _ _ h => h) rfl ?_ hHeld ?_
          rotate_left
          · (intro w hSw; (try dsimp only at hSw); go_simp; try with_reducible rfl)
          simp only [Act.put, List.setIfInBounds_toArray, List.set_cons_zero, List.set_cons_succ]
          refine Own.call (i := 5) (d := (some 107)) rfl rfl (by kernel_rfl) rfl ?_ (sorted_y G.out.1.ha (by have := G.out.2; omega) rfl HL.out) ?_
          · go_simp
          rintro e w5 ⟨a5, c5, rfl, hs5, hb5⟩
          (have H5 := Lib.hid (And.intro hs5 (G.out.1.after hb5)); clear hS hHeld; have hS := K0 hb5; have HS5 := Lib.hid hS; clear hs5 hb5)
          refine ⟨_, rfl, hS, fun hHeld => ?_⟩
          simp only [Act.put, List.setIfInBounds_toArray, List.set_cons_zero, List.set_cons_succ]
          refine Own.call (i := 7) (d := (some 109)) rfl rfl (by kernel_rfl) rfl ?_ (same_e H5.out.1 H5.out.2.doc (by rw [HL.out]; omega)) ?_
          · go_simp
          rintro e w6 ⟨rfl, n6, rfl⟩
          (have D6 := Lib.hid (H5.out.2.drewN n6); clear hS hHeld; have hS : True ∧ (w5.drewN n6).cell? ⟨w2.heap.size, 0, none⟩ = some (.int .i64 0) := ⟨trivial, (World.cell?_drewN _ _ _).trans HS5.out.2⟩)
          refine ⟨_, rfl, hS, fun hHeld => ?_⟩
          simp only [Act.put, List.setIfInBounds_toArray, List.set_cons_zero, List.set_cons_succ]
          refine Own.yes (i := 8) (d := (some 110)) (v := ?_) rfl rfl (by kernel_rfl) (by kernel_rfl) (by kernel_rfl) (fun _ _ _ h => h) rfl ?_ hHeld ?_
          rotate_left
          · (intro w hSw; (try dsimp only at hSw); go_simp; try with_reducible rfl)
          simp only [Act.put, List.setIfInBounds_toArray, List.set_cons_zero, List.set_cons_succ]
          refine Own.yes (i := 9) (d := (some 111)) (v := ?_) rfl rfl (by kernel_rfl) (by kernel_rfl) (by kernel_rfl) (fun _ _ _ h => h) rfl ?_ hHeld ?_
          rotate_left
          · (intro w hSw; (try dsimp only at hSw); go_simp; try with_reducible rfl)
          simp only [Act.put, List.setIfInBounds_toArray, List.set_cons_zero, List.set_cons_succ]
          refine Own.yes (i := 10) (d := (some 112)) (v := ?_) rfl rfl (by kernel_rfl) (by kernel_rfl) (by kernel_rfl) (fun _ _ _ h => h) rfl ?_ hHeld ?_
          rotate_left
          · (intro w hSw; (try dsimp only at hSw); go_simp; try with_reducible rfl)
          simp only [Act.put, List.setIfInBounds_toArray, List.set_cons_zero, List.set_cons_succ]
          refine Own.yes (i := 11) (d := (some 113)) (v := ?_) rfl rfl (by kernel_rfl) (by kernel_rfl) (by kernel_rfl) (fun _ _ _ h => h) rfl ?_ hHeld ?_
          rotate_left
          · (intro w hSw; (try dsimp only at hSw); go_simp; try with_reducible rfl)
          simp only [Act.put, List.setIfInBounds_toArray, List.set_cons_zero, List.set_cons_succ]
          refine Own.yes (i := 12) (d := (some 114)) (v := ?_) rfl rfl (by kernel_rfl) (by kernel_rfl) (by kernel_rfl) (fun _ _ _ h => h) rfl ?_ hHeld ?_
          rotate_left
          · (intro w hSw; (try dsimp only at hSw); go_simp; try with_reducible rfl)
          simp only [Act.put, List.setIfInBounds_toArray, List.set_cons_zero, List.set_cons_succ]
          refine Own.yes (i := 13) (d := (some 115)) (v := ?_) rfl rfl (by kernel_rfl) (by kernel_rfl) (by kernel_rfl) (fun _ _ _ h => h) rfl ?_ hHeld ?_
          rotate_left
          · (intro w hSw; (try dsimp only at hSw); go_simp; try with_reducible rfl)
          simp only [Act.put, List.setIfInBounds_toArray, List.set_cons_zero, List.set_cons_succ]
          refine Own.yes (i := 14) (d := (some 116)) (v := ?_) rfl rfl (by kernel_rfl) (by kernel_rfl) (by kernel_rfl) (fun _ _ _ h => h) rfl ?_ hHeld ?_
          rotate_left
          · (intro w hSw; (try dsimp only at hSw); go_simp; try with_reducible rfl)
          simp only [Act.put, List.setIfInBounds_toArray, List.set_cons_zero, List.set_cons_succ]
          refine Own.yes (i := 15) (d := (some 117)) (v := ?_) rfl rfl (by kernel_rfl) (by kernel_rfl) (by kernel_rfl) (fun _ _ _ h => h) rfl ?_ hHeld ?_
          rotate_left
          · (intro w hSw; (try dsimp only at hSw); go_simp; try with_reducible rfl)
          simp only [Act.put, List.setIfInBounds_toArray, List.set_cons_zero, List.set_cons_succ]
          refine Own.yes (i := 16) (d := (some 118)) (v := ?_) rfl rfl (by kernel_rfl) (by kernel_rfl) (by kernel_rfl) (fun _ _ _ h => h) rfl ?_ hHeld ?_
          rotate_left
          · (intro w hSw; (try dsimp only at hSw); go_simp; try with_reducible rfl)
          simp only [Act.put, List.setIfInBounds_toArray, List.set_cons_zero, List.set_cons_succ]
          refine Own.yes (i := 17) (d := (some 119)) (v := ?_) rfl rfl (by kernel_rfl) (by kernel_rfl) (by kernel_rfl) (fun _ _ _ h => h) rfl ?_ hHeld ?_
          rotate_left
          · (intro w hSw; (try dsimp only at hSw); go_simp; try with_reducible rfl)
          simp only [Act.put, List.setIfInBounds_toArray, List.set_cons_zero, List.set_cons_succ]
          refine Own.yes (i := 18) (d := (some 120)) (v := ?_) rfl rfl (by kernel_rfl) (by kernel_rfl) (by kernel_rfl) (fun _ _ _ h => h) rfl ?_ hHeld ?_
          rotate_left
          · (intro w hSw; (try dsimp only at hSw); go_simp; try with_reducible rfl)
          simp only [Act.put, List.setIfInBounds_toArray, List.set_cons_zero, List.set_cons_succ]
          refine Own.yes (i := 19) (d := (some 121)) (v := ?_) rfl rfl (by kernel_rfl) (by kernel_rfl) (by kernel_rfl) (fun _ _ _ h => h) rfl ?_ hHeld ?_
          rotate_left
          · (intro w hSw; (try dsimp only at hSw); go_simp; try with_reducible rfl)
          simp only [Act.put, List.setIfInBounds_toArray, List.set_cons_zero, List.set_cons_succ]
          refine Own.no (i := 20) (d := (some 122)) rfl rfl (by kernel_rfl) (by kernel_rfl) (by kernel_rfl) (fun _ _ _ h => h) rfl hHeld ?_
          simp only [Act.put, List.setIfInBounds_toArray, List.set_cons_zero, List.set_cons_succ]
          refine Own.no (i := 21) (d := (some 123)) rfl rfl (by kernel_rfl) (by kernel_rfl) (by kernel_rfl) (fun _ _ _ h => h) rfl hHeld ?_
          simp only [Act.put, List.setIfInBounds_toArray, List.set_cons_zero, List.set_cons_succ]
          refine Own.no (i := 22) (d := (some 124)) rfl rfl (by kernel_rfl) (by kernel_rfl) (by kernel_rfl) (fun _ _ _ h => h) rfl hHeld ?_
          simp only [Act.put, List.setIfInBounds_toArray, List.set_cons_zero, List.set_cons_succ]
          refine Own.no (i := 23) (d := (some 125)) rfl rfl (by kernel_rfl) (by kernel_rfl) (by kernel_rfl) (fun _ _ _ h => h) rfl hHeld ?_
          simp only [Act.put, List.setIfInBounds_toArray, List.set_cons_zero, List.set_cons_succ]
          refine Own.no (i := 24) (d := (some 126)) rfl rfl (by kernel_rfl) (by kernel_rfl) (by kernel_rfl) (fun _ _ _ h => h) rfl hHeld ?_
          simp only [Act.put, List.setIfInBounds_toArray, List.set_cons_zero, List.set_cons_succ]
          refine Own.yes (i := 25) (d := (some 127)) (v := ?_) rfl rfl (by kernel_rfl) (by kernel_rfl) (by kernel_rfl) (fun _ _ _ h => h) rfl ?_ hHeld ?_
          rotate_left
          · (intro w hSw; (try dsimp only at hSw); go_simp; try with_reducible rfl)
          simp only [Act.put, List.setIfInBounds_toArray, List.set_cons_zero, List.set_cons_succ]
          refine Own.yes (i := 26) (d := (some 128)) (v := ?_) rfl rfl (by kernel_rfl) (by kernel_rfl) (by kernel_rfl) (fun _ _ _ h => h) rfl ?_ hHeld ?_
          rotate_left
          · (intro w hSw; (try dsimp only at hSw); go_simp; try with_reducible rfl)
          simp only [Act.put, List.setIfInBounds_toArray, List.set_cons_zero, List.set_cons_succ]
          refine wpAnyH_done (by kernel_rfl) ?_ _
          clear hS
          go_wp2_with fail
          go_roundw
          case rel => exact ⟨k + 1, v', _, by omega, by go_num, by omega, D6.out⟩
          case measure => simp [intOf]; omega
        · obtain ⟨q, rfl⟩ : ∃ q, n2 = q + 1 := ⟨t.length, by have := HDc.out.2.1; simpa using this.symm⟩
          have hq0 : decide ((0 : Int) < (q : Int) + 1) = true := by simp <;> omega
          have hq1 : (0 : Int) < (q : Int) + 1 := by omega
          have hz : ∀ W, (binOp .neq 28 (.agg #[.int .i64 e1.w, .int .u64 e1.o, .int .i64 e1.g]) (.agg #[.int .i64 e1.w, .int .u64 e1.o, .int .i64 e1.g])).run Try.prog W = .ok (.bool false) W := fun W => by go_simp
          go_wp2_with fail
          refine (first_some HDc.out.1.ha (by have := HDc.out.2.1; simp at this; omega)).mono ?_
          rintro e w2 ⟨rfl, hg2⟩
          have D2 := (HDc.out.1.none hg2).none (World.grownBy_alloc w2 (.cells #[.int .i64 e1.w, .int .u64 e1.o, .int .i64 e1.g] 24) none)
          have hcl := heap_alloc_new w2 (.cells #[.int .i64 e1.w, .int .u64 e1.o, .int .i64 e1.g] 24)
          have G := Lib.hid (And.intro (D2.drewN 1) HDc.out.2.1)
          have HL := Lib.hid HDc.out.2.2
          clear hg2 D2
          go_wp2_with fail
          generalize (w2.alloc (.cells #[.int .i64 e1.w, .int .u64 e1.o, .int .i64 e1.g] 24)) = W2 at *
          obtain ⟨c', rfl, q0, q1, q2⟩ : ∃ c', ua2 = some c' ∧ (W2.drewN 1).cell? c' = some (.int .i64 e1.w) ∧ (W2.drewN 1).cell? ⟨c'.block, c'.off + 1, none⟩ = some (.int .u64 e1.o) ∧ (W2.drewN 1).cell? ⟨c'.block, c'.off + 2, none⟩ = some (.int .i64 e1.g) := by
            obtain ⟨_, _, e, _, _, _, h⟩ := G.out.1.doc
            obtain ⟨rfl, _, _⟩ := Value.slice.inj e
            have := h 0 e1 (by rw [srt_head G.out.1.ih]; rfl)
            simpa only [add_zero'] using this
          have hlt2 := (Array.getElem?_eq_some_iff.1 hcl).1
          have hltc : c'.block < (W2.drewN 1).heap.size := block_lt_of_cell q0
          have hS : W2.drew.cell? ⟨w2.heap.size, 0, none⟩ = some (.int .i64 e1.w) ∧ W2.drew.cell? ⟨w2.heap.size, 1, none⟩ = some (.int .u64 e1.o) ∧ W2.drew.cell? ⟨w2.heap.size, 2, none⟩ = some (.int .i64 e1.g) ∧ W2.drew.cell? c' = some (.int .i64 e1.w) ∧ W2.drew.cell? ⟨c'.block, c'.off + 1, none⟩ = some (.int .u64 e1.o) ∧ W2.drew.cell? ⟨c'.block, c'.off + 2, none⟩ = some (.int .i64 e1.g) :=
            ⟨cell_of_row _ _ 0 _ _ _ hcl, cell_of_row _ _ 1 _ _ _ hcl, cell_of_row _ _ 2 _ _ _ hcl, q0, q1, q2⟩
          have K0 : ∀ {w' : World}, Below (W2.drewN 1).heap.size (W2.drewN 1) w' → w'.cell? ⟨w2.heap.size, 0, none⟩ = some (.int .i64 e1.w) ∧ w'.cell? ⟨w2.heap.size, 1, none⟩ = some (.int .u64 e1.o) ∧ w'.cell? ⟨w2.heap.size, 2, none⟩ = some (.int .i64 e1.g) ∧ w'.cell? c' = some (.int .i64 e1.w) ∧ w'.cell? ⟨c'.block, c'.off + 1, none⟩ = some (.int .u64 e1.o) ∧ w'.cell? ⟨c'.block, c'.off + 2, none⟩ = some (.int .i64 e1.g) := fun hb =>
            ⟨(hb.cell (p := ⟨w2.heap.size, 0, none⟩) hlt2).trans hS.1, (hb.cell (p := ⟨w2.heap.size, 1, none⟩) hlt2).trans hS.2.1, (hb.cell (p := ⟨w2.heap.size, 2, none⟩) hlt2).trans hS.2.2.1, (hb.cell hltc).trans q0, (hb.cell (p := ⟨c'.block, c'.off + 1, none⟩) hltc).trans q1, (hb.cell (p := ⟨c'.block, c'.off + 2, none⟩) hltc).trans q2⟩
          clear q0 q1 q2 hlt2 hltc
          refine wp_region_held_drew (S := fun w' => w'.cell? ⟨w2.heap.size, 0, none⟩ = some (.int .i64 e1.w) ∧ w'.cell? ⟨w2.heap.size, 1, none⟩ = some (.int .u64 e1.o) ∧ w'.cell? ⟨w2.heap.size, 2, none⟩ = some (.int .i64 e1.g) ∧ w'.cell? c' = some (.int .i64 e1.w) ∧ w'.cell? ⟨c'.block, c'.off + 1, none⟩ = some (.int .u64 e1.o) ∧ w'.cell? ⟨c'.block, c'.off + 2, none⟩ = some (.int .i64 e1.g)) (by kernel_rfl) hS (fun hHeld => ?_)
          refine Own.yes (i := 1) (d := (some 103)) (v := ?_) rfl rfl (by kernel_rfl) (by kernel_rfl) (by kernel_rfl) (fun _ _ _ h => h) rfl ?_ hHeld ?_
          rotate_left
          · (intro w hSw; (try dsimp only at hSw); go_simp; try with_reducible rfl)
          simp only [Act.put, List.setIfInBounds_toArray, List.set_cons_zero, List.set_cons_succ]
          refine Own.yes (i := 2) (d := (some 104)) (v := ?_) rfl rfl (by kernel_rfl) (by kernel_rfl) (by kernel_rfl) (fun _ _ _ h => h) rfl ?_ hHeld ?_
          rotate_left
          · (intro w hSw; (try dsimp only at hSw); go_simp; try with_reducible rfl)
          simp only [Act.put, List.setIfInBounds_toArray, List.set_cons_zero, List.set_cons_succ]
          refine Own.call (i := 0) (d := (some 102)) rfl rfl (by kernel_rfl) rfl ?_ (len_y G.out.1.ha (by have := G.out.2; omega) G.out.2) ?_
          · go_simp
          rintro e w5 ⟨rfl, rfl⟩
          refine ⟨_, rfl, hS, fun hHeld => ?_⟩
          simp only [Act.put, List.setIfInBounds_toArray, List.set_cons_zero, List.set_cons_succ]
          refine Own.yes (i := 3) (d := (some 105)) (v := ?_) rfl rfl (by kernel_rfl) (by kernel_rfl) (by kernel_rfl) (fun _ _ _ h => h) rfl ?_ hHeld ?_
          rotate_left
          · (intro w hSw; (try dsimp only at hSw); go_simp; try with_reducible rfl)
          simp only [Act.put, List.setIfInBounds_toArray, List.set_cons_zero, List.set_cons_succ]
          refine Own.yes (i := 4) (d := (some 106)) (v := ?_) rfl rfl (by kernel_rfl) (by kernel_rfl) (by kernel_rfl) (fun _ _ _ h => h) rfl ?_ hHeld ?_
          rotate_left
          · (intro w hSw; (try dsimp only at hSw); go_simp; try with_reducible rfl)
          simp only [Act.put, List.setIfInBounds_toArray, List.set_cons_zero, List.set_cons_succ]
          refine Own.yes (i := 6) (d := (some 108)) (v := ?_) rfl rfl (by kernel_rfl) (by kernel_rfl) (by kernel_rfl) (fun _ _ _ h => h) rfl ?_ hHeld ?_
          rotate_left
          · (intro w hSw; (try dsimp only at hSw); go_simp; try with_reducible rfl)
          simp only [Act.put, List.setIfInBounds_toArray, List.set_cons_zero, List.set_cons_succ]
          refine Own.call (i := 5) (d := (some 107)) rfl rfl (by kernel_rfl) rfl ?_ (sorted_y G.out.1.ha (by have := G.out.2; omega) rfl HL.out) ?_
          · go_simp
          rintro e w5 ⟨a5, c5, rfl, hs5, hb5⟩
          (have H5 := Lib.hid (And.intro hs5 (G.out.1.after hb5)); clear hS hHeld; have hS := K0 hb5; have HS5 := Lib.hid hS; clear hs5 hb5)
          refine ⟨_, rfl, hS, fun hHeld => ?_⟩
          simp only [Act.put, List.setIfInBounds_toArray, List.set_cons_zero, List.set_cons_succ]
          refine Own.call (i := 7) (d := (some 109)) rfl rfl (by kernel_rfl) rfl ?_ (same_e H5.out.1 H5.out.2.doc (by rw [HL.out]; omega)) ?_
          · go_simp
          rintro e w6 ⟨rfl, n6, rfl⟩
          (have D6 := Lib.hid (H5.out.2.drewN n6); clear hS hHeld; have hS := six_drewN HS5.out n6)
          refine ⟨_, rfl, hS, fun hHeld => ?_⟩
          simp only [Act.put, List.setIfInBounds_toArray, List.set_cons_zero, List.set_cons_succ]
          refine Own.yes (i := 8) (d := (some 110)) (v := ?_) rfl rfl (by kernel_rfl) (by kernel_rfl) (by kernel_rfl) (fun _ _ _ h => h) rfl ?_ hHeld ?_
          rotate_left
          · (intro w hSw; (try dsimp only at hSw); go_simp; try with_reducible rfl)
          simp only [Act.put, List.setIfInBounds_toArray, List.set_cons_zero, List.set_cons_succ]
          refine Own.yes (i := 9) (d := (some 111)) (v := ?_) rfl rfl (by kernel_rfl) (by kernel_rfl) (by kernel_rfl) (fun _ _ _ h => h) rfl ?_ hHeld ?_
          rotate_left
          · (intro w hSw; (try dsimp only at hSw); go_simp; try with_reducible rfl)
          simp only [Act.put, List.setIfInBounds_toArray, List.set_cons_zero, List.set_cons_succ]
          refine Own.yes (i := 10) (d := (some 112)) (v := ?_) rfl rfl (by kernel_rfl) (by kernel_rfl) (by kernel_rfl) (fun _ _ _ h => h) rfl ?_ hHeld ?_
          rotate_left
          · (intro w hSw; (try dsimp only at hSw); go_simp; try with_reducible rfl)
          simp only [Act.put, List.setIfInBounds_toArray, List.set_cons_zero, List.set_cons_succ]
          refine Own.yes (i := 11) (d := (some 113)) (v := ?_) rfl rfl (by kernel_rfl) (by kernel_rfl) (by kernel_rfl) (fun _ _ _ h => h) rfl ?_ hHeld ?_
          rotate_left
          · (intro w hSw; (try dsimp only at hSw); go_simp; try with_reducible rfl)
          simp only [Act.put, List.setIfInBounds_toArray, List.set_cons_zero, List.set_cons_succ]
          refine Own.yes (i := 12) (d := (some 114)) (v := ?_) rfl rfl (by kernel_rfl) (by kernel_rfl) (by kernel_rfl) (fun _ _ _ h => h) rfl ?_ hHeld ?_
          rotate_left
          · (intro w hSw; (try dsimp only at hSw); go_simp; try with_reducible rfl)
          simp only [Act.put, List.setIfInBounds_toArray, List.set_cons_zero, List.set_cons_succ]
          refine Own.yes (i := 13) (d := (some 115)) (v := ?_) rfl rfl (by kernel_rfl) (by kernel_rfl) (by kernel_rfl) (fun _ _ _ h => h) rfl ?_ hHeld ?_
          rotate_left
          · (intro w hSw; (try dsimp only at hSw); go_simp; try with_reducible rfl)
          simp only [Act.put, List.setIfInBounds_toArray, List.set_cons_zero, List.set_cons_succ]
          refine Own.yes (i := 14) (d := (some 116)) (v := ?_) rfl rfl (by kernel_rfl) (by kernel_rfl) (by kernel_rfl) (fun _ _ _ h => h) rfl ?_ hHeld ?_
          rotate_left
          · (intro w hSw; (try dsimp only at hSw); go_simp; try with_reducible rfl)
          simp only [Act.put, List.setIfInBounds_toArray, List.set_cons_zero, List.set_cons_succ]
          refine Own.yes (i := 15) (d := (some 117)) (v := ?_) rfl rfl (by kernel_rfl) (by kernel_rfl) (by kernel_rfl) (fun _ _ _ h => h) rfl ?_ hHeld ?_
          rotate_left
          · (intro w hSw; (try dsimp only at hSw); go_simp; try with_reducible rfl)
          simp only [Act.put, List.setIfInBounds_toArray, List.set_cons_zero, List.set_cons_succ]
          refine Own.yes (i := 16) (d := (some 118)) (v := ?_) rfl rfl (by kernel_rfl) (by kernel_rfl) (by kernel_rfl) (fun _ _ _ h => h) rfl ?_ hHeld ?_
          rotate_left
          · (intro w hSw; (try dsimp only at hSw); go_simp; try with_reducible rfl)
          simp only [Act.put, List.setIfInBounds_toArray, List.set_cons_zero, List.set_cons_succ]
          refine Own.yes (i := 17) (d := (some 119)) (v := ?_) rfl rfl (by kernel_rfl) (by kernel_rfl) (by kernel_rfl) (fun _ _ _ h => h) rfl ?_ hHeld ?_
          rotate_left
          · (intro w hSw; (try dsimp only at hSw); go_simp; try with_reducible rfl)
          simp only [Act.put, List.setIfInBounds_toArray, List.set_cons_zero, List.set_cons_succ]
          refine Own.yes (i := 18) (d := (some 120)) (v := ?_) rfl rfl (by kernel_rfl) (by kernel_rfl) (by kernel_rfl) (fun _ _ _ h => h) rfl ?_ hHeld ?_
          rotate_left
          · (intro w hSw; (try dsimp only at hSw); go_simp; try with_reducible rfl)
          simp only [Act.put, List.setIfInBounds_toArray, List.set_cons_zero, List.set_cons_succ]
          refine Own.yes (i := 19) (d := (some 121)) (v := ?_) rfl rfl (by kernel_rfl) (by kernel_rfl) (by kernel_rfl) (fun _ _ _ h => h) rfl ?_ hHeld ?_
          rotate_left
          · (intro w hSw; (try dsimp only at hSw); go_simp; try with_reducible rfl)
          simp only [Act.put, List.setIfInBounds_toArray, List.set_cons_zero, List.set_cons_succ]
          refine Own.yes (i := 20) (d := (some 122)) (v := ?_) rfl rfl (by kernel_rfl) (by kernel_rfl) (by kernel_rfl) (fun _ _ _ h => h) rfl ?_ hHeld ?_
          rotate_left
          · (intro w hSw; (try dsimp only at hSw); go_simp; try with_reducible rfl)
          simp only [Act.put, List.setIfInBounds_toArray, List.set_cons_zero, List.set_cons_succ]
          refine Own.yes (i := 21) (d := (some 123)) (v := ?_) rfl rfl (by kernel_rfl) (by kernel_rfl) (by kernel_rfl) (fun _ _ _ h => h) rfl ?_ hHeld ?_
          rotate_left
          · (intro w hSw; (try dsimp only at hSw); go_simp; try with_reducible rfl)
          simp only [Act.put, List.setIfInBounds_toArray, List.set_cons_zero, List.set_cons_succ]
          refine Own.yes (i := 22) (d := (some 124)) (v := ?_) rfl rfl (by kernel_rfl) (by kernel_rfl) (by kernel_rfl) (fun _ _ _ h => h) rfl ?_ hHeld ?_
          rotate_left
          · (intro w hSw; (try dsimp only at hSw); go_simp; try with_reducible rfl)
          simp only [Act.put, List.setIfInBounds_toArray, List.set_cons_zero, List.set_cons_succ]
          refine Own.yes (i := 23) (d := (some 125)) (v := ?_) rfl rfl (by kernel_rfl) (by kernel_rfl) (by kernel_rfl) (fun _ _ _ h => h) rfl ?_ hHeld ?_
          rotate_left
          · (intro w hSw; (try dsimp only at hSw); go_simp; try with_reducible rfl)
          simp only [Act.put, List.setIfInBounds_toArray, List.set_cons_zero, List.set_cons_succ]
          refine Own.yes (i := 24) (d := (some 126)) (v := ?_) rfl rfl (by kernel_rfl) (by kernel_rfl) (by kernel_rfl) (fun _ _ _ h => h) rfl ?_ hHeld ?_
          rotate_left
          · (intro w hSw; (try dsimp only at hSw); go_simp; try with_reducible rfl)
          simp only [Act.put, List.setIfInBounds_toArray, List.set_cons_zero, List.set_cons_succ]
          refine Own.yes (i := 25) (d := (some 127)) (v := ?_) rfl rfl (by kernel_rfl) (by kernel_rfl) (by kernel_rfl) (fun _ _ _ h => h) rfl ?_ hHeld ?_
          rotate_left
          · (intro w hSw; (try dsimp only at hSw); go_simp; try with_reducible rfl)
          simp only [Act.put, List.setIfInBounds_toArray, List.set_cons_zero, List.set_cons_succ]
          refine Own.yes (i := 26) (d := (some 128)) (v := ?_) rfl rfl (by kernel_rfl) (by kernel_rfl) (by kernel_rfl) (fun _ _ _ h => h) rfl ?_ hHeld ?_
          rotate_left
          · (intro w hSw; (try dsimp only at hSw); go_simp; try with_reducible rfl)
          simp only [Act.put, List.setIfInBounds_toArray, List.set_cons_zero, List.set_cons_succ]
          refine wpAnyH_done (by kernel_rfl) ?_ _
          clear hS
          go_wp2_with fail
          go_roundw
          case rel => exact ⟨k + 1, v', _, by omega, by go_num, by omega, D6.out⟩
          case measure => simp [intOf]; omega
    · obtain rfl : k = len := by omega
      go_wp2_with fail
      go_ret
      exact ⟨rfl, HD.out.below⟩

set_option maxRecDepth 100000 in
set_option maxHeartbeats 1000000 in
theorem plays_long (a : Option Addr) (len cap : Nat) (w : World) (hl : 80 < len) (hm : len ≤ maxLen) :
    Calls Try.prog 6 #[.slice a len cap] w fun e w' => e = .returned (.bool true) ∧ Below w.heap.size w w' := by
  unfold maxLen at hm
  go_enter Try.func6, Try.ntmps6
  go_wp2_with fail
  refine (lives_is w).mono ?_
  rintro e w0 ⟨rfl, hb⟩
  have HB := Lib.hid hb
  clear hb
  go_wp2_with fail
  refine (lives_is w0).mono ?_
  rintro e w1 ⟨rfl, hb⟩
  have HB1 := Lib.hid hb
  clear hb
  go_wp2_with fail
  go_ret
  exact ⟨rfl, HB.out.trans (HB1.out.mono HB.out.size)⟩

theorem plays_any (a : Option Addr) (len cap : Nat) (w : World) (ha : Args.IsFlat [.u8, .i64, .u64, .i64] w a len) :
    Calls Try.prog 6 #[.slice a len cap] w fun e w' => e = .returned (.bool true) ∧ Below w.heap.size w w' := by
  obtain ⟨hm, hnil, f, hf⟩ := ha
  by_cases hl : 80 < len
  · exact plays_long a len cap w hl hm
  · refine plays_short a len cap (fun i => (f i).getD 0 0) (fun i => ⟨(f i).getD 1 0, (f i).getD 2 0, (f i).getD 3 0⟩) w (by omega) hnil (fun b hb i hi => ?_) (fun i hi => ?_)
    · obtain ⟨x, y, z, u, e, _⟩ := Args.fits4 (hf i hi).1
      have h := (hf i hi).2 b hb
      rw [e] at h
      have h0 := (h 0 (.int .u8 x) rfl).1
      have h1 := (h 1 (.int .i64 y) rfl).1
      have h2 := (h 2 (.int .u64 z) rfl).1
      have h3 := (h 3 (.int .i64 u) rfl).1
      simp only [e, List.getD_cons_zero, List.getD_cons_succ]
      exact ⟨h0, h1, h2, h3⟩
    · obtain ⟨x, y, z, u, e, hx, _⟩ := Args.fits4 (hf i hi).1
      simp only [e, List.getD_cons_zero, List.getD_cons_succ]
      exact (bounds_u8 hx).1
end Go.Proofs.Ytlnbjnkmhabdaaa.Hp
