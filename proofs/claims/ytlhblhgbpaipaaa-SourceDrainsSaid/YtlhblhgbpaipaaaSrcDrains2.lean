/-
  The law SourceDrains: the walk.
-/
import Derived.Test.YtlhblhgbpaipaaaSrcDrains
namespace Go.Proofs.Ytlhblhgbpaipaaa.Src
open Go.RowKit
open Go.Proofs.Ytlhblhgbpaipaaa.Hp
open Go.Proofs.Ytlhblhgbpaipaaa.Tm (Tms Kept IsMin dueB min_ex)
open Go.Proofs.Ytlhblhgbpaipaaa.Pl (IsPl PFr St aput adel alook stOf dueL fullL)
set_option linter.unusedVariables false
set_option linter.unusedSimpArgs false

theorem filter_one {l : List Int} (hn : l.Nodup) {x : Int} (hx : x ∈ l) : (l.filter fun y => y ≠ x).length + 1 = l.length := by
  have e : (l.filter fun y => y ≠ x) = l.erase x := by
    rw [hn.erase_eq_filter]; congr 1; funext y; rw [Bool.eq_iff_iff]; simp
  rw [e, List.length_erase_of_mem hx]
  have := List.length_pos_of_mem hx
  omega
theorem adel_one {l : List (Int × Int)} (hn : (l.map (·.1)).Nodup) {k v : Int} (hk : alook l k = some v) : (adel l k).length + 1 = l.length := by
  have h1 : k ∈ l.map (·.1) := List.mem_map.2 ⟨_, Pl.alook_some_mem hk, rfl⟩
  have h2 := filter_one hn h1
  rw [List.filter_map, List.length_map, List.length_map] at h2
  exact h2
theorem ready_step {F : List (Int × St)} {D : List Int} {j : Nat} {x : Int} (hx : D[j]? = some x) (h : ∀ fd ∈ D.take j, ∃ s, alook F fd = some s ∧ s.ready = true) : ∀ fd ∈ D.take (j + 1), ∃ s, alook (aput F x { stOf F x with ready := true }) fd = some s ∧ s.ready = true := by
  intro fd hfd
  rw [List.take_add_one, hx] at hfd
  rw [Pl.alook_put]
  by_cases q : fd = x
  · rw [if_pos q]; exact ⟨_, rfl, rfl⟩
  · rw [if_neg q]
    refine h fd ?_
    rcases List.mem_append.1 hfd with q2 | q2
    · exact q2
    · simp at q2; exact absurd q2 q
/-- What holds while all are taken. -/
structure Ta (w wr : World) (base sb tb pb fb wb : Nat) (M : List Ent) (order : Nat) (G : List Int) (F : List (Int × St)) (GP : List (Int × Int)) : Prop where
  s : IsS wr base sb tb pb fb wb 4 9223372036854775807 M order G F GP (fun _ => False)
  inv : Pl.Inv F GP
  all : ∀ fd s, alook F fd = some s → s.waits = true ∧ s.ready = true
  wle : ∀ x ∈ M, x.w ≤ 9223372036854775807
  below : Below w.heap.size w wr
  low : w.heap.size ≤ base
section
variable {w wr : World} {base sb tb pb fb wb : Nat} {M : List Ent} {order : Nat} {G : List Int} {F : List (Int × St)} {GP : List (Int × Int)}
theorem Ta.timer (h : Ta w wr base sb tb pb fb wb M order G F GP) {x : Ent} (hx : x ∈ M) {w' : World} (hs : IsS w' base sb tb pb fb wb 4 9223372036854775807 (M.erase x) order (G.filter fun y => y ≠ x.g) F GP (fun _ => False)) (hk : Kept wr w' base (fun _ => False)) :
    Ta w w' base sb tb pb fb wb (M.erase x) order (G.filter fun y => y ≠ x.g) F GP ∧ (G.filter fun y => y ≠ x.g).length + 1 = G.length :=
  ⟨⟨hs, h.inv, h.all, fun y hy => h.wle y (List.mem_of_mem_erase hy), h.below.trans (hk.below.mono h.low), h.low⟩, filter_one h.s.t.nodup (h.s.t.keys.mem_iff.1 (List.mem_map.2 ⟨x, hx, rfl⟩))⟩
theorem Ta.least (h : Ta w wr base sb tb pb fb wb M order G F GP) (hp : 0 < GP.length) : ∃ fd g, Pl.Least F (some (fd, g)) ∧ GP.length = (adel GP g).length + 1 := by
  obtain ⟨m, hm⟩ := Pl.least_ex F
  rcases m with _ | ⟨fd, g⟩
  · exfalso
    obtain ⟨⟨g, fd⟩, hmem⟩ := List.exists_mem_of_length_pos hp
    have h1 := Pl.alook_mem h.s.p.nodupG hmem
    obtain ⟨s, h2, h3, h4⟩ := h.inv.who g fd h1
    have h5 := hm fd s h2
    rw [(h.all fd s h2).1, (h.all fd s h2).2] at h5
    cases h5
  · refine ⟨fd, g, hm, ?_⟩
    obtain ⟨s, h1, h2, h3, h4, _⟩ := hm
    have h5 := ((h.inv.ok fd s h1).1 h2).1
    rw [h4] at h5
    exact (adel_one h.s.p.nodupG h5).symm
theorem Ta.poll (h : Ta w wr base sb tb pb fb wb M order G F GP) {fd g : Int} (hl : Pl.Least F (some (fd, g))) {w' : World} (hs : IsS w' base sb tb pb fb wb 4 9223372036854775807 M order G (adel F fd) (adel GP g) (fun _ => False)) (hk : Kept wr w' base (fun _ => False)) : Ta w w' base sb tb pb fb wb M order G (adel F fd) (adel GP g) :=
  ⟨hs, Pl.inv_take h.inv hl, fun k s e => by
    rw [Pl.alook_del] at e
    by_cases q : k = fd
    · rw [if_pos q] at e; cases e
    · rw [if_neg q] at e; exact h.all k s e, h.wle, h.below.trans (hk.below.mono h.low), h.low⟩
theorem Ta.grown (h : Ta w wr base sb tb pb fb wb M order G F GP) {w' : World} (hg : wr.grownBy w' none) : Ta w w' base sb tb pb fb wb M order G F GP :=
  ⟨h.s.grown hg, h.inv, h.all, h.wle, h.below.trans ⟨hg.os, hg.tape, hg.output, hg.size, fun k hk => hg.block k (Nat.lt_of_lt_of_le hk h.below.size) (by simp)⟩, h.low⟩
theorem Ta.none (h : Ta w wr base sb tb pb fb wb M order G F []) : Pl.Least F Option.none := fun fd s e => by
  have h1 := ((h.inv.ok fd s e).1 (h.all fd s e).1).1
  simp [alook] at h1
end

set_option maxRecDepth 100000 in
set_option maxHeartbeats 8000000 in
theorem drains_short (a : Option Addr) (len cap : Nat) (kd pp g d fd : Nat → Int) (w : World) (hl : len ≤ 50) (hnil : a = none → len = 0) (hfit : ∀ i, i < len → 0 ≤ kd i ∧ Clk.I64 (d i))
    (hc : ∀ b, a = some b → ∀ i, i < len → w.cell? (b.add (i * 5)) = some (.int .u8 (kd i)) ∧ w.cell? (b.add (i * 5 + 1)) = some (.int .i64 (pp i)) ∧ w.cell? (b.add (i * 5 + 2)) = some (.int .i64 (g i)) ∧ w.cell? (b.add (i * 5 + 3)) = some (.int .i64 (d i)) ∧ w.cell? (b.add (i * 5 + 4)) = some (.int .u16 (fd i))) :
    Calls Try.prog 5 #[.slice a len cap] w fun e w' => e = .returned (.bool true) ∧ Below w.heap.size w w' := by
  have hlt : ¬ (50 < len) := by omega
  have HC := Lib.hid hc
  have HN := Lib.hid hnil
  have HF := Lib.hid hfit
  clear hc hnil hfit
  go_enter Try.func5, Try.ntmps5
  go_wp2_with fail
  refine (lives_is w).mono ?_
  rintro e w0 ⟨rfl, hb⟩
  have HB := Lib.hid hb
  clear hb
  go_wp2_with fail
  refine (snew_is w0 4 4 (by decide)).mono ?_
  rintro e w1 ⟨sb, tb, pb, fb, wb, rfl, I, hg⟩
  have O : Hid (Dr w w1 w0.heap.size sb tb pb fb wb 0 [] 0 [] [] [] (.slice none 0 0) [] 0) := Lib.hid ⟨⟨I, Pl.inv_nil, by simp, HB.out.trans ((grown_below hg).mono HB.out.size), HB.out.size⟩, World.ownsRow_nil _ _ _ _, fun fd s e => by simp [alook] at e, fun fd => by simp [alook], by simp, by simp⟩
  clear I hg HB
  go_wp2_with fail
  generalize w0.heap.size = base at *
  go_loopw [4, 27] (fun fv q wr => ∃ (i : Nat) (v : Value) (M : List Ent) (order : Nat) (G : List Int) (F : List (Int × St)) (GP : List (Int × Int)) (D : List Int), i ≤ len ∧ q = .int .i64 i ∧ v = fv ∧ Dr w wr base sb tb pb fb wb 0 M order G F GP v D i) (fun _ q _ => len - (intOf q).toNat)
  case atStart => exact ⟨0, _, [], 0, [], [], [], [], Nat.zero_le _, rfl, rfl, O.out⟩
  case round =>
    clear O
    obtain ⟨i, v, M, order, G, F, GP, D, hi, rfl, rfl, hO⟩ := hrel
    have O := Lib.hid hO
    clear hO
    by_cases hlen : i < len
    · obtain ⟨c, rfl⟩ : ∃ c, a = some c := by
        cases a with
        | none => exact absurd (HN.out rfl) (by omega)
        | some c => exact ⟨c, rfl⟩
      obtain ⟨h0, h1, h2, h3, h4⟩ := HC.out c rfl i hlen
      have hfi := HF.out i hlen
      have x0 := cell_later O.out.t.below h0
      have x1 := cell_later O.out.t.below h1
      have x2 := cell_later O.out.t.below h2
      have x3 := cell_later O.out.t.below h3
      have x4 := cell_later O.out.t.below h4
      generalize kd i = y at x0 hfi
      generalize pp i = p at x1
      generalize g i = gg at x2
      generalize d i = dd at x3 hfi
      generalize fd i = f at x4
      rw [add_off c _ 1 (by decide)] at x1
      rw [add_off c _ 2 (by decide)] at x2
      rw [add_off c _ 3 (by decide)] at x3
      rw [add_off c _ 4 (by decide)] at x4
      have hact := heap_alloc_new wr (.cells #[.int .u8 y, .int .i64 p, .int .i64 gg, .int .i64 dd, .int .u16 f] TAct)
      have H3 := Lib.hid (And.intro (O.out.grown (World.grownBy_alloc wr (.cells #[.int .u8 y, .int .i64 p, .int .i64 gg, .int .i64 dd, .int .u16 f] TAct) none)) hact)
      obtain ⟨m, hm, hm0, hm5⟩ : ∃ m, y % 2 = m ∧ 0 ≤ m ∧ m ≤ 1 := ⟨_, rfl, by omega, by omega⟩
      have ek : y.tmod 2 = m := by rw [← hm]; exact Int.tmod_eq_emod_of_nonneg hfi.1
      have HFR := Lib.hid hfi.2
      have hsz : wr.heap.size < (wr.alloc (.cells #[.int .u8 y, .int .i64 p, .int .i64 gg, .int .i64 dd, .int .u16 f] TAct)).heap.size := by simp
      clear hm h0 h1 h2 h3 h4 hact hfi
      have H3x : Hid (IsS (wr.alloc (.cells #[.int .u8 y, .int .i64 p, .int .i64 gg, .int .i64 dd, .int .u16 f] TAct)) base sb tb pb fb wb 4 0 M order G F GP (fun k => v.ownBlock = some k ∨ k = wr.heap.size)) := Lib.hid (O.out.s.more (World.grownBy_alloc _ _ _) (fun k hk => by rcases hk with q | q; exact .inl q; exact .inr (by simp; omega)))
      have hmm : m = 0 ∨ m = 1 := by omega
      clear hm0 hm5
      rcases hmm with rfl | rfl
      · go_wp2_with fail
        clear x0 x1 x2 x3 x4
        obtain ⟨A, hA⟩ : ∃ A, A = wr.heap.size := ⟨_, rfl⟩
        rw [← hA] at H3 hsz H3x
        try rw [← hA]
        generalize (wr.alloc (.cells #[.int .u8 y, .int .i64 p, .int .i64 gg, .int .i64 dd, .int .u16 f] TAct)) = W1 at *
        clear hA
        obtain ⟨_, _, _, _, z4⟩ := act5 H3.out.2
        have hres : (alook GP gg).isSome = true ∨ ((alook GP gg).isSome = false ∧ (p < 0 ∨ ((4 : Nat) : Int) ≤ p ∨ gg < 0 ∨ 4096 ≤ gg)) ∨ ((alook GP gg).isSome = false ∧ 0 ≤ p ∧ p < ((4 : Nat) : Int) ∧ gg ∈ G) ∨ ((alook GP gg).isSome = false ∧ 0 ≤ p ∧ p < ((4 : Nat) : Int) ∧ 0 ≤ gg ∧ gg < 4096 ∧ gg ∉ G) := by
          cases (alook GP gg).isSome <;> by_cases hG : gg ∈ G <;> simp [hG] <;> omega
        rcases hres with hq | ⟨hq, hb⟩ | ⟨hq, hp0, hp4, hG⟩ | ⟨hq, hp0, hp4, hg0, hg1, hG⟩
        · have hgr : 0 ≤ gg ∧ gg < 4096 := by
            obtain ⟨fd', hf'⟩ := Option.isSome_iff_exists.1 hq
            obtain ⟨s, h1, h2, h3⟩ := H3.out.1.t.inv.who gg fd' hf'
            have := (H3.out.1.t.inv.ok fd' s h1).1 h2
            rw [h3] at this
            exact this.2
          obtain ⟨x, hx⟩ : ∃ x : Int, (if p < 0 ∨ ((4 : Nat) : Int) ≤ p then 1 else 8) = x := ⟨_, rfl⟩
          have HX := Lib.hid (And.intro hx (And.intro hgr hq))
          clear hx hgr hq
          refine (sleep_polls H3.out.1.s p gg dd HX.out.2.2 HX.out.2.1 (by have := H3.out.1.t.bnd; omega) (by have := H3.out.1.t.bnd; omega) HX.out.1).mono ?_
          rintro e w4 ⟨rfl, hg⟩
          have H4 := Lib.hid (H3.out.1.grown hg)
          clear hg z4
          go_wp2_with fail
          go_roundw
          case rel => exact ⟨i + 1, _, M, order, G, F, GP, D, by omega, by go_num, rfl, H4.out.up⟩
          case measure => simp [intOf] <;> omega
        · have HX := Lib.hid (And.intro hq hb)
          clear hq hb
          refine (sleep_err H3.out.1.s p gg dd 1 HX.out.1 HFR.out (by decide) (fun w1 t T => (Tm.tms_add_arg T p gg t HX.out.2).mono (fun e w' h => ⟨h.1, h.2 ▸ grown_refl _⟩))).mono ?_
          rintro e w4 ⟨rfl, hg⟩
          have H4 := Lib.hid (H3.out.1.grown hg)
          clear hg z4
          go_wp2_with fail
          go_roundw
          case rel => exact ⟨i + 1, _, M, order, G, F, GP, D, by omega, by go_num, rfl, H4.out.up⟩
          case measure => simp [intOf] <;> omega
        · have HX := Lib.hid (And.intro hq (And.intro hp0 (And.intro hp4 hG)))
          clear hq hp0 hp4 hG
          refine (sleep_err H3.out.1.s p gg dd 8 HX.out.1 HFR.out (by decide) (fun w1 t T => Tm.tms_add_same T p gg t HX.out.2.1 HX.out.2.2.1 HX.out.2.2.2)).mono ?_
          rintro e w4 ⟨rfl, hg⟩
          have H4 := Lib.hid (H3.out.1.grown hg)
          clear hg z4
          go_wp2_with fail
          go_roundw
          case rel => exact ⟨i + 1, _, M, order, G, F, GP, D, by omega, by go_num, rfl, H4.out.up⟩
          case measure => simp [intOf] <;> omega
        · have HX := Lib.hid (And.intro hq (And.intro hp0 (And.intro hp4 (And.intro hg0 (And.intro hg1 hG)))))
          clear hq hp0 hp4 hg0 hg1 hG
          obtain ⟨t, ht⟩ : ∃ t, Clk.sat 0 (Clk.mx 0 dd) = t := ⟨_, rfl⟩
          have ht2 := (H3.out.1.s.sat0 HFR.out).2
          rw [ht] at ht2
          obtain ⟨mq, hmq⟩ := min_ex (M ++ [⟨t, order, gg⟩])
          have HT := Lib.hid (And.intro ht (And.intro ht2 hmq))
          clear ht ht2 hmq
          refine (sleep_ok H3.out.1.s p gg dd t HX.out.1 HFR.out HT.out.1 HX.out.2.1 HX.out.2.2.1 HX.out.2.2.2.1 HX.out.2.2.2.2.1 HX.out.2.2.2.2.2 (by have := H3.out.1.t.bnd; omega) HT.out.2.2 rfl).mono ?_
          rintro e w4 ⟨rfl, hs4, hk4⟩
          have H4 := Lib.hid (H3.out.1.sleep hs4 hk4 HT.out.2.1)
          clear hs4 hk4 z4
          go_wp2_with fail
          go_roundw
          case rel => exact ⟨i + 1, _, _, _, _, F, GP, D, by omega, by go_num, rfl, H4.out⟩
          case measure => simp [intOf] <;> omega
      · go_wp2_with fail
        clear x0 x1 x2 x3 x4
        obtain ⟨A, hA⟩ : ∃ A, A = wr.heap.size := ⟨_, rfl⟩
        rw [← hA] at H3 hsz H3x
        try rw [← hA]
        generalize (wr.alloc (.cells #[.int .u8 y, .int .i64 p, .int .i64 gg, .int .i64 dd, .int .u16 f] TAct)) = W1 at *
        clear hA
        obtain ⟨_, _, _, _, z4⟩ := act5 H3.out.2
        have hres : gg ∈ G ∨ (gg ∉ G ∧ (gg < 0 ∨ 4096 ≤ gg)) ∨ (gg ∉ G ∧ 0 ≤ gg ∧ gg < 4096 ∧ ((stOf F f).waits = true ∨ (alook GP gg).isSome = true)) ∨ (gg ∉ G ∧ 0 ≤ gg ∧ gg < 4096 ∧ (stOf F f).waits = false ∧ (alook GP gg).isSome = false ∧ fullL F f = true) ∨ (gg ∉ G ∧ 0 ≤ gg ∧ gg < 4096 ∧ (stOf F f).waits = false ∧ (alook GP gg).isSome = false ∧ fullL F f = false) := by
          cases (stOf F f).waits <;> cases (alook GP gg).isSome <;> cases fullL F f <;> by_cases hG : gg ∈ G <;> simp [hG] <;> omega
        rcases hres with hG | ⟨hG, hb⟩ | ⟨hG, hg0, hg1, hs⟩ | ⟨hG, hg0, hg1, hs, hq, hf⟩ | ⟨hG, hg0, hg1, hs, hq, hf⟩
        · have HX := Lib.hid hG
          clear hG
          refine (swait_sleeps H3.out.1.s f gg HX.out).mono ?_
          rintro e w4 ⟨rfl, hg⟩
          have H4 := Lib.hid (H3.out.1.grown hg)
          clear hg z4
          go_wp2_with fail
          go_roundw
          case rel => exact ⟨i + 1, _, M, order, G, F, GP, D, by omega, by go_num, rfl, H4.out.up⟩
          case measure => simp [intOf] <;> omega
        · have HX := Lib.hid (And.intro hG hb)
          clear hG hb
          refine (swait_err H3.out.1.s f gg 1 HX.out.1 (by decide) (fun w1 P => Pl.wait_arg P f gg HX.out.2)).mono ?_
          rintro e w4 ⟨rfl, hg⟩
          have H4 := Lib.hid (H3.out.1.grown hg)
          clear hg z4
          go_wp2_with fail
          go_roundw
          case rel => exact ⟨i + 1, _, M, order, G, F, GP, D, by omega, by go_num, rfl, H4.out.up⟩
          case measure => simp [intOf] <;> omega
        · have HX := Lib.hid (And.intro hG (And.intro hg0 (And.intro hg1 hs)))
          clear hG hg0 hg1 hs
          refine (swait_err H3.out.1.s f gg 8 HX.out.1 (by decide) (fun w1 P => Pl.wait_same P f gg HX.out.2.1 HX.out.2.2.1 HX.out.2.2.2)).mono ?_
          rintro e w4 ⟨rfl, hg⟩
          have H4 := Lib.hid (H3.out.1.grown hg)
          clear hg z4
          go_wp2_with fail
          go_roundw
          case rel => exact ⟨i + 1, _, M, order, G, F, GP, D, by omega, by go_num, rfl, H4.out.up⟩
          case measure => simp [intOf] <;> omega
        · have HX := Lib.hid (And.intro hG (And.intro hg0 (And.intro hg1 (And.intro hs (And.intro hq hf)))))
          clear hG hg0 hg1 hs hq hf
          refine (swait_err H3.out.1.s f gg 2 HX.out.1 (by decide) (fun w1 P => Pl.wait_full P f gg HX.out.2.1 HX.out.2.2.1 HX.out.2.2.2.1 HX.out.2.2.2.2.1 HX.out.2.2.2.2.2)).mono ?_
          rintro e w4 ⟨rfl, hg⟩
          have H4 := Lib.hid (H3.out.1.grown hg)
          clear hg z4
          go_wp2_with fail
          go_roundw
          case rel => exact ⟨i + 1, _, M, order, G, F, GP, D, by omega, by go_num, rfl, H4.out.up⟩
          case measure => simp [intOf] <;> omega
        · have HX := Lib.hid (And.intro hG (And.intro hg0 (And.intro hg1 (And.intro hs (And.intro hq hf)))))
          clear hG hg0 hg1 hs hq hf
          obtain ⟨mq, hmq⟩ := min_ex M
          have HT := Lib.hid hmq
          clear hmq
          refine (swait_ok H3x.out f gg HX.out.1 HX.out.2.1 HX.out.2.2.1 HX.out.2.2.2.1 HX.out.2.2.2.2.1 HX.out.2.2.2.2.2 (by have := H3.out.1.t.bnd; omega) HT.out rfl).mono ?_
          rintro e w4 ⟨rfl, hs4, hk4⟩
          have hs4' := hs4.less (X' := fun k => v.ownBlock = some k) (fun k q => .inl q)
          have hk4' := kept_less (X' := fun k => v.ownBlock = some k) hk4 (fun k q => .inl q)
          have z4' : w4.cell? ⟨A, 4, none⟩ = some (.int .u16 f) := (World.cell?_of_block (a := ⟨A, 4, none⟩) (hk4.far A (.inr rfl))).trans z4
          have H4 := Lib.hid (And.intro hs4' (And.intro hk4' (H3.out.1.row.kept (fun k q => hk4'.far k q))))
          clear hs4' hk4'
          have hql : D.length ≤ 1000000 := by have := H3.out.1.dlen; omega
          have hsz4 : base ≤ w4.heap.size := hs4.low
          clear hs4 hk4 z4
          go_wp2_with (refine wpList_append16 rfl _ _ rfl w4 base v D f rfl H4.out.2.2 rfl hql hsz4 ?_; intro v' w5 ho5 hg5)
          have H5 := Lib.hid (H3.out.1.wait HX.out.2.1 HX.out.2.2.1 HX.out.2.2.2.1 HX.out.2.2.2.2.1 HX.out.2.2.2.2.2 H4.out.1 H4.out.2.1 ho5 hg5)
          clear ho5 hg5 hql hsz4 z4'
          go_roundw
          case rel => exact ⟨i + 1, v', _, _, _, _, _, _, by omega, by go_num, rfl, H5.out⟩
          case measure => simp [intOf] <;> omega
    · obtain rfl : i = len := by omega
      obtain ⟨m0, hm0⟩ := min_ex M
      have HM := Lib.hid hm0
      clear hm0
      go_wp2_with fail
      refine (stick_is O.out.s (d := 9223372036854775807) (t := 9223372036854775807) (by unfold Clk.I64; omega) (by decide) HM.out rfl).mono ?_
      rintro e w2 ⟨rfl, hs2, hk2⟩
      have O2 := Lib.hid (O.out.tick hs2 hk2)
      clear hs2 hk2 O
      obtain ⟨aD, cD, rfl, hcap, hnilD, hform⟩ := O2.out.row.form
      have HD := Lib.hid (And.intro hnilD hform)
      obtain ⟨nD, hnD⟩ : ∃ nD, D.length = nD := ⟨_, rfl⟩
      have HND := Lib.hid hnD
      have hdl := O2.out.dlen
      rw [hnD] at O2 hcap hdl ⊢
      clear hnilD hform hnD
      go_wp2_with fail
      go_loopw [64] (fun q wx => ∃ (j : Nat) (F' : List (Int × St)), j ≤ nD ∧ q = .int .i64 j ∧ Dr w wx base sb tb pb fb wb 9223372036854775807 M order G F' GP (.slice aD nD cD) D i ∧ (∀ fd ∈ D.take j, ∃ s, alook F' fd = some s ∧ s.ready = true)) (fun q _ => nD - (intOf q).toNat)
      case atStart => exact ⟨0, F, Nat.zero_le _, rfl, O2.out, by simp⟩
      case round =>
        clear O2
        obtain ⟨j, F', hj, rfl, hO, hrd⟩ := hrel
        have O3 := Lib.hid (And.intro hO hrd)
        clear hO hrd
        by_cases hjn : j < nD
        · obtain ⟨x, hx⟩ : ∃ x, D[j]? = some x := ⟨_, List.getElem?_eq_getElem (by rw [HND.out]; exact hjn)⟩
          obtain ⟨gD, rfl⟩ : ∃ gD : Nat, aD = some ⟨gD, 0, none⟩ := by
            cases aD with
            | none => exact absurd (HD.out.1 rfl) (by rw [HND.out]; omega)
            | some q => exact ⟨q.block, by rw [← HD.out.2 q rfl]⟩
          have hcx := O3.out.1.row.cell hx
          have HX := Lib.hid (And.intro hx (List.mem_of_getElem? hx))
          clear hx
          go_wp2_with fail
          refine (sready_ok O3.out.1.s x (O3.out.1.notfull HX.out.2) HM.out rfl).mono ?_
          rintro e w3 ⟨rfl, hs3, hk3⟩
          have O4 := Lib.hid (And.intro (O3.out.1.ready HX.out.2 (O3.out.1.notfull HX.out.2) hs3 hk3) (ready_step HX.out.1 O3.out.2))
          clear hs3 hk3 hcx O3
          go_wp2_with fail
          go_roundw
          case rel => exact ⟨j + 1, _, by omega, by go_num, O4.out.1, O4.out.2⟩
          case measure => simp [intOf]; omega
        · obtain rfl : j = nD := by omega
          obtain ⟨N, hN⟩ : ∃ N : Nat, G.length + GP.length = N := ⟨_, rfl⟩
          have hN2 : (G.length : Int) + (GP.length : Int) = (N : Int) := by omega
          have hbd : G.length + GP.length < 1000000 := by have := O3.out.1.t.bnd; omega
          have hT : Ta w wr base sb tb pb fb wb M order G F' GP := by
            refine ⟨O3.out.1.t.s, O3.out.1.t.inv, fun fd s e => ⟨O3.out.1.waits fd s e, ?_⟩, O3.out.1.wle, O3.out.1.t.below, O3.out.1.t.low⟩
            have h1 := (O3.out.1.keys fd).1 (by rw [e]; rfl)
            have h2 := O3.out.2
            rw [List.take_of_length_le (by rw [HND.out]; exact Nat.le_refl _)] at h2
            obtain ⟨s', e', hr⟩ := h2 fd h1
            rw [e] at e'; cases e'; exact hr
          have T := Lib.hid hT
          have HNN := Lib.hid (And.intro hN (And.intro hN2 hbd))
          have hNb : N < 1000000 := by omega
          clear hT O3 hN hN2 hbd HD HND hcap hdl
          go_wp2_with fail
          refine (slen_is T.out.s HNN.out.2.2).mono ?_
          rintro e w3 ⟨rfl, hg⟩
          rw [HNN.out.2.1]
          have T2 := Lib.hid (T.out.grown hg)
          clear hg T
          go_wp2_with fail
          go_loopw [75] (fun q wy => ∃ (k : Nat) (M' : List Ent) (G' : List Int) (F2 : List (Int × St)) (GP' : List (Int × Int)), k ≤ N ∧ q = .int .i64 k ∧ Ta w wy base sb tb pb fb wb M' order G' F2 GP' ∧ G'.length + GP'.length + k = N) (fun q _ => N - (intOf q).toNat)
          case atStart => exact ⟨0, M, G, F', GP, Nat.zero_le _, rfl, T2.out, HNN.out.1⟩
          case round =>
            clear T2
            obtain ⟨k, M', G', F2, GP', hk, rfl, hT, hsum⟩ := hrel
            have T := Lib.hid hT
            clear hT
            obtain ⟨mq, hmq⟩ := min_ex M'
            have HQ := Lib.hid hmq
            clear hmq
            by_cases hkN : k < N
            · cases mq with
              | some x =>
                go_wp2_with fail
                refine (stake_timer T.out.s HQ.out (T.out.wle x HQ.out.1)).mono ?_
                rintro e w4 ⟨rfl, hs4, hk4⟩
                have T4 := Lib.hid (T.out.timer HQ.out.1 hs4 hk4)
                clear hs4 hk4
                go_wp2_with fail
                go_roundw
                case rel => exact ⟨k + 1, _, _, F2, GP', by omega, by go_num, T4.out.1, by have := T4.out.2; omega⟩
                case measure => simp [intOf]; omega
              | none =>
                have hM0 : M' = [] := HQ.out
                have hG0 : G'.length = 0 := by
                  have := T.out.s.t.keys.length_eq
                  rw [hM0] at this; simpa using this.symm
                obtain ⟨fd, gq, hl, hlen2⟩ := T.out.least (by omega)
                have HL := Lib.hid (And.intro hl hlen2)
                have hlt2 : GP'.length < 1000000 := by omega
                clear hl
                go_wp2_with fail
                refine (stake_poll T.out.s HQ.out rfl (by have := T.out.inv.size; omega) HL.out.1 HL.out.2 hlt2).mono ?_
                rintro e w4 ⟨rfl, hs4, hk4⟩
                have T4 := Lib.hid (T.out.poll HL.out.1 hs4 hk4)
                clear hs4 hk4
                go_wp2_with fail
                go_roundw
                case rel => exact ⟨k + 1, M', G', _, _, by omega, by go_num, T4.out, by omega⟩
                case measure => simp [intOf]; omega
            · obtain rfl : k = N := by omega
              obtain rfl : G' = [] := List.length_eq_zero_iff.1 (by omega)
              obtain rfl : GP' = [] := List.length_eq_zero_iff.1 (by simp only [List.length_nil] at hsum; omega)
              obtain rfl : M' = [] := by
                have := T.out.s.t.keys.length_eq
                exact List.length_eq_zero_iff.1 (by simpa using this)
              have hdl0 : dueL F2 = false := Pl.dueL_least T.out.s.p.nodup T.out.none
              have HDL := Lib.hid hdl0
              clear hdl0
              go_wp2_with fail
              refine (stake_none T.out.s min0 rfl (by have := T.out.inv.size; omega) T.out.none).mono ?_
              rintro e w4 ⟨rfl, hg⟩
              have T4 := Lib.hid (T.out.grown hg)
              clear hg T
              go_wp2_with fail
              refine (slen_is T4.out.s (by simp)).mono ?_
              rintro e w5 ⟨rfl, hg⟩
              simp only [List.length_nil, Int.ofNat_zero, Int.add_zero]
              have T5 := Lib.hid (T4.out.grown hg)
              clear hg T4
              go_wp2_with fail
              refine (sdue_is T5.out.s min0 (r := false) (by rw [HDL.out]; rfl)).mono ?_
              rintro e w6 ⟨rfl, hg⟩
              have T6 := Lib.hid (T5.out.grown hg)
              clear hg T5
              go_wp2_with fail
              go_ret
              exact ⟨rfl, T6.out.below⟩

set_option maxRecDepth 100000 in
set_option maxHeartbeats 1000000 in
theorem drains_long (a : Option Addr) (len cap : Nat) (w : World) (hl : 50 < len) (hm : len ≤ maxLen) :
    Calls Try.prog 5 #[.slice a len cap] w fun e w' => e = .returned (.bool true) ∧ Below w.heap.size w w' := by
  unfold maxLen at hm
  go_enter Try.func5, Try.ntmps5
  go_wp2_with fail
  refine (lives_is w).mono ?_
  rintro e w0 ⟨rfl, hb⟩
  have HB := Lib.hid hb
  clear hb
  go_wp2_with fail
  refine (lives_is w0).mono ?_
  rintro e w1 ⟨rfl, hb⟩
  have HB1 := Lib.hid (HB.out.trans (hb.mono HB.out.size))
  clear hb
  go_wp2_with fail
  refine bodyPost_ret (results_tmp rfl _ _ _) rfl ?_
  exact ⟨rfl, HB1.out⟩
theorem drains_any (a : Option Addr) (len cap : Nat) (w : World) (ha : Args.IsFlat [.u8, .i64, .i64, .i64, .u16] w a len) :
    Calls Try.prog 5 #[.slice a len cap] w fun e w' => e = .returned (.bool true) ∧ Below w.heap.size w w' := by
  obtain ⟨hm, hnil, f, hf⟩ := ha
  by_cases hl : 50 < len
  · exact drains_long a len cap w hl hm
  · refine drains_short a len cap (fun i => (f i).getD 0 0) (fun i => (f i).getD 1 0) (fun i => (f i).getD 2 0) (fun i => (f i).getD 3 0) (fun i => (f i).getD 4 0) w (by omega) hnil (fun i hi => ?_) (fun b hb i hi => ?_)
    · obtain ⟨x, y, z, u, v, e, h1, _, _, h4, _⟩ := Args.fits5 (hf i hi).1
      simp only [e, List.getD_cons_zero, List.getD_cons_succ]
      have := bounds_i64 h4
      exact ⟨(wf_u8 h1).1, by unfold Clk.I64; omega⟩
    · obtain ⟨x, y, z, u, v, e, _⟩ := Args.fits5 (hf i hi).1
      have h := (hf i hi).2 b hb
      rw [e] at h
      have h0 := (h 0 (.int .u8 x) rfl).1
      have h1 := (h 1 (.int .i64 y) rfl).1
      have h2 := (h 2 (.int .i64 z) rfl).1
      have h3 := (h 3 (.int .i64 u) rfl).1
      have h4 := (h 4 (.int .u16 v) rfl).1
      simp only [e, List.getD_cons_zero, List.getD_cons_succ]
      exact ⟨h0, h1, h2, h3, h4⟩
end Go.Proofs.Ytlhblhgbpaipaaa.Src
