/-
  The law HeapPlaces.
-/
import Derived.Test.YtlnbjnkmhabdaaaHeapPlays
namespace Go.Proofs.Ytlnbjnkmhabdaaa.Hp
open Go.RowKit Go.Shelf
set_option linter.unusedVariables false
set_option linter.unusedSimpArgs false

theorem Doc.nil {w wr : World} {A : Nat} {v u : Value} {es D : List Ent} (P : Doc w wr A v u es D) : Doc w wr A v (.slice Option.none 0 0) es [] :=
  ⟨P.ha, P.ih, rsees_nil _ _, fun j _ hu => by simp [Value.ownBlock] at hu, P.below, P.low⟩
theorem list_y {w : World} {base b i : Nat} {v : Value} {es : List Ent} (h : IsHp w base b i v es) (hbig : es.length ≤ 1000) {n : Nat} (hn : es.length = n) :
    Calls Try.prog 21 #[.pointer (some ⟨b, i, none⟩)] w fun e w' => ∃ a c, e = .returned (.slice a n c) ∧ ESees w' (.slice a n c) es ∧ Below w.heap.size w w' := by subst hn; exact hlist_is h hbig
theorem ahead_y {a b : Ent} {r : Bool} (hr : aheadB a b = r) (w : World) : Calls Try.prog 9 #[.agg #[.int .i64 a.w, .int .u64 a.o, .int .i64 a.g], .agg #[.int .i64 b.w, .int .u64 b.o, .int .i64 b.g]] w fun e w' => e = .returned (.bool r) ∧ Below w.heap.size w w' := by subst hr; exact ahead_is a b w
theorem take_snoc {es : List Ent} {j : Nat} {x : Ent} (h : es[j]? = some x) : es.take (j + 1) = es.take j ++ [x] := by
  rw [List.take_add_one, h]; rfl

set_option maxRecDepth 100000 in
set_option maxHeartbeats 4000000 in
theorem places_short (a : Option Addr) (len cap : Nat) (p : Nat → Int) (z : Nat → Ent) (w : World) (hl : len ≤ 80) (hnil : a = none → len = 0)
    (hc : ∀ b, a = some b → ∀ i, i < len → w.cell? (b.add (i * 4)) = some (.int .u8 (p i)) ∧ w.cell? (b.add (i * 4 + 1)) = some (.int .i64 (z i).w) ∧ w.cell? (b.add (i * 4 + 2)) = some (.int .u64 (z i).o) ∧ w.cell? (b.add (i * 4 + 3)) = some (.int .i64 (z i).g))
    (hp : ∀ i, i < len → 0 ≤ p i) :
    Calls Try.prog 7 #[.slice a len cap] w fun e w' => e = .returned (.bool true) ∧ Below w.heap.size w w' := by
  have hlt : ¬ (80 < len) := by omega
  have HC := Lib.hid hc
  have HN := Lib.hid hnil
  have HP := Lib.hid hp
  clear hc hnil hp
  go_enter Try.func7, Try.ntmps7
  go_wp2_with fail
  refine (lives_is w).mono ?_
  rintro e w0 ⟨rfl, hb⟩
  have HB := Lib.hid hb
  clear hb
  go_wp2_with fail
  have D0 : Doc w (w0.alloc (.cells #[.slice none 0 0] 32)) w0.heap.size (.slice none 0 0) (.slice none 0 0) [] [] :=
    ⟨hp_new w0 w0.heap.size, heapish_nil, rsees_nil _ _, fun j hj => by simp [Value.ownBlock] at hj, HB.out.alloc HB.out.size _, HB.out.size⟩
  have D := Lib.hid D0
  clear D0 HB
  generalize (w0.alloc (.cells #[.slice none 0 0] 32)) = W at *
  generalize w0.heap.size = A at *
  go_loopw [21] (fun q wr => ∃ (k : Nat) (v : Value) (es : List Ent), k ≤ len ∧ q = .int .i64 k ∧ es.length ≤ k ∧ Doc w wr A v (.slice none 0 0) es []) (fun q _ => len - (intOf q).toNat)
  case atStart => exact ⟨0, _, [], Nat.zero_le _, rfl, by simp, D.out⟩
  case round =>
    clear D
    obtain ⟨k, v, es, hk, rfl, hes, hD⟩ := hrel
    have hAlt := hD.ha.lt
    have HD := Lib.hid hD
    clear hD
    by_cases hlen : k < len
    · obtain ⟨c, rfl⟩ : ∃ c, a = some c := by
        cases a with
        | none => exact absurd (HN.out rfl) (by omega)
        | some c => exact ⟨c, rfl⟩
      obtain ⟨h0, h1, h2, h3⟩ := HC.out c rfl k hlen
      have hp0 := HP.out k hlen
      have x0 := cell_later HD.out.below h0
      have x1 := cell_later HD.out.below h1
      have x2 := cell_later HD.out.below h2
      have x3 := cell_later HD.out.below h3
      generalize z k = x at x1 x2 x3
      generalize p k = y at x0 hp0
      rw [add_next2 c _ 1 (by decide)] at x1
      rw [add_next2 c _ 2 (by decide)] at x2
      rw [add_next2 c _ 3 (by decide)] at x3
      clear h0 h1 h2 h3
      have hact : (wr.alloc (.cells #[.int .u8 y, .int .i64 x.w, .int .u64 x.o, .int .i64 x.g] TA)).heap[wr.heap.size]? = some (.cells #[.int .u8 y, .int .i64 x.w, .int .u64 x.o, .int .i64 x.g] TA (0, 0)) := heap_alloc_new _ _
      have hga : wr.grownBy (wr.alloc (.cells #[.int .u8 y, .int .i64 x.w, .int .u64 x.o, .int .i64 x.g] TA)) none := World.grownBy_alloc _ _ _
      have H1 := Lib.hid (And.intro (HD.out.none hga) hact)
      obtain ⟨m, hm, hm0, hm6⟩ : ∃ m, y % 7 = m ∧ 0 ≤ m ∧ m ≤ 6 := ⟨_, rfl, by omega, by omega⟩
      have ek : y.tmod 7 = m := by rw [← hm]; exact Int.tmod_eq_emod_of_nonneg hp0
      clear hm
      clear hact hga HD
      go_upto_block 2 with fail
      clear x0 x1 x2 x3
      generalize (wr.alloc (.cells #[.int .u8 y, .int .i64 x.w, .int .u64 x.o, .int .i64 x.g] TA)) = W1 at *
      obtain ⟨z0, z1, z2, z3⟩ := act4 H1.out.2
      go_cut [21] from 21 to 77 (fun q wx => q = .int .i64 k ∧ ∃ (v' : Value) (es' : List Ent), es'.length ≤ k + 1 ∧ Doc w wx A v' (.slice none 0 0) es' [])
      case first =>
        have hm7 : (m = 0 ∨ m = 1 ∨ m = 2 ∨ m = 6) ∨ (m = 3 ∨ m = 4) ∨ m = 5 := by omega
        clear ek hm0 hm6
        rcases hm7 with h7 | h7 | rfl
        · rcases h7 with rfl | rfl | rfl | rfl
          all_goals
            go_wp2_with fail
            refine (put_is H1.out.1.ha (Nat.le_of_lt H1.out.1.ha.lt) (by omega) x).mono ?_
            rintro e w2 ⟨v2, rfl, hp2, hf2⟩
            have D2 := Lib.hid (H1.out.1.deed hp2 (put_law H1.out.1.ih x).2 hf2)
            have HL2 := Lib.hid (put_law H1.out.1.ih x).1.length_eq
            clear hp2 hf2 z0 z1 z2 z3
            go_wp2_with fail
            go_meet
            exact ⟨rfl, _, _, by rw [HL2.out, List.length_cons]; omega, D2.out⟩
        · rcases h7 with rfl | rfl
          all_goals
            rcases es with _ | ⟨e1, t⟩
            · go_wp2_with fail
              refine (take_none H1.out.1.ha).mono ?_
              rintro e w2 ⟨rfl, hg2⟩
              have D2 := Lib.hid (H1.out.1.none hg2)
              clear hg2 z0 z1 z2 z3
              go_wp2_with fail
              go_meet
              exact ⟨rfl, v, [], by simp, D2.out⟩
            · have hes2 : t.length ≤ k := by simp at hes; omega
              go_wp2_with fail
              refine (take_some H1.out.1.ha (by omega)).mono ?_
              rintro e w2 ⟨v2, rfl, hp2, hf2⟩
              have D2 := Lib.hid (H1.out.1.deed hp2 (take_law H1.out.1.ih).2 hf2)
              clear hp2 hf2 z0 z1 z2 z3
              go_wp2_with fail
              go_meet
              exact ⟨rfl, v2, takeL (e1 :: t), by rw [takeL_len]; omega, D2.out⟩
        · go_wp2_with fail
          refine (remove_is H1.out.1.ha (Nat.le_of_lt H1.out.1.ha.lt) (by omega) x.g).mono ?_
          rintro e w3 ⟨v3, es3, rfl, hp3, hq3, hh3, hf3⟩
          have D3 := Lib.hid (H1.out.1.deed hp3 hh3 hf3)
          have HQ := Lib.hid (show es3.length ≤ es.length from by rw [hq3.length_eq]; exact List.length_filter_le _ _)
          clear hp3 hq3 hh3 hf3 z0 z1 z2 z3
          go_wp2_with fail
          go_meet
          exact ⟨rfl, v3, es3, by have := HQ.out; omega, D3.out⟩
      case rest =>
        obtain ⟨rfl, v', es', hes', hDc⟩ := hcut
        obtain ⟨n, hn⟩ : ∃ n, es'.length = n := ⟨_, rfl⟩
        have HDc := Lib.hid (And.intro hDc hn)
        rw [hn] at hes'
        clear hDc hn H1 z0 z1 z2 z3 hm0 hm6 ek hes
        go_wp2_with fail
        refine (list_y HDc.out.1.ha (by have := HDc.out.2; omega) HDc.out.2).mono ?_
        rintro e w2 ⟨pa, pc, rfl, hs2, hb2⟩
        have H2 := Lib.hid (And.intro (HDc.out.1.after hb2) (And.intro hs2 HDc.out.2))
        have hcap2 : n ≤ pc := by obtain ⟨_, _, e, hc, _⟩ := hs2; cases e; rw [HDc.out.2] at hc; exact hc
        clear hs2 hb2 HDc
        go_wp2_with fail
        go_loopw [44] (fun q wX => ∃ (i : Nat), i ≤ n ∧ q = .int .i64 i ∧ Doc w wX A v' (.slice none 0 0) es' [] ∧ ESees wX (.slice pa n pc) es' ∧ es'.length = n) (fun q _ => n - (intOf q).toNat)
        case atStart => exact ⟨0, Nat.zero_le _, rfl, H2.out.1, H2.out.2.1, H2.out.2.2⟩
        case round =>
          clear H2
          obtain ⟨i, hi, rfl, hD2, hS2, hn⟩ := hrel
          have H2 := Lib.hid (And.intro hD2 (And.intro hS2 hn))
          clear hD2 hS2 hn
          by_cases hin : i < n
          · by_cases hi0 : 0 < i
            · obtain ⟨j, hj, hj2⟩ : ∃ j, (i - 1) / 4 = j ∧ j < i := ⟨_, rfl, by omega⟩
              have hq : ((i : Int) - 1).tdiv 4 = (j : Int) := by rw [Int.tdiv_eq_ediv_of_nonneg (by omega)]; omega
              have hjn : j < n := by omega
              have hw1 : IntKind.i64.wrap ((i : Int) - 1) = (i : Int) - 1 := by rw [IntKind.wrap_i64]; omega
              have hw2 : IntKind.i64.wrap (j : Int) = (j : Int) := by rw [IntKind.wrap_i64]; omega
              obtain ⟨x1, hx1⟩ : ∃ x, es'[i]? = some x := ⟨_, List.getElem?_eq_getElem (by have := H2.out.2.2; omega)⟩
              obtain ⟨x2, hx2⟩ : ∃ x, es'[j]? = some x := ⟨_, List.getElem?_eq_getElem (by have := H2.out.2.2; omega)⟩
              have hfa : aheadB x1 x2 = false := by
                have := H2.out.1.ih i hi0 (by have := H2.out.2.2; omega)
                rw [hj] at this
                unfold le at this
                simpa [List.getElem!_eq_getElem?_getD, hx1, hx2] using this
              have HFA := Lib.hid hfa
              obtain ⟨_, _, e, _, _, hcs⟩ := H2.out.2.1
              have ea := (Value.slice.inj e).1
              subst ea
              clear e
              obtain ⟨g, rfl, p0, p1, p2⟩ := hcs i x1 hx1
              obtain ⟨g2, e2, q0, q1, q2⟩ := hcs j x2 hx2
              obtain rfl : g = g2 := by simpa using e2
              clear e2 hfa hx1 hx2 hcs hj hj2
              have hil : (i : Int) < (n : Int) := by omega
              have hjl : (j : Int) < (n : Int) := by omega
              have hi0' : (0 : Int) < (i : Int) := by omega
              have hdi : decide ((0 : Int) < (i : Int)) = true := by simpa using hi0
              go_wp2_with fail
              have hS : wr.drew.cell? ⟨g, i * 3, none⟩ = some (.int .i64 x1.w) ∧ wr.drew.cell? ⟨g, i * 3 + 1, none⟩ = some (.int .u64 x1.o) ∧ wr.drew.cell? ⟨g, i * 3 + 2, none⟩ = some (.int .i64 x1.g) ∧ wr.drew.cell? ⟨g, j * 3, none⟩ = some (.int .i64 x2.w) ∧ wr.drew.cell? ⟨g, j * 3 + 1, none⟩ = some (.int .u64 x2.o) ∧ wr.drew.cell? ⟨g, j * 3 + 2, none⟩ = some (.int .i64 x2.g) := ⟨p0, p1, p2, q0, q1, q2⟩
              have K0 : ∀ {w' : World}, Below (wr.drewN 1).heap.size (wr.drewN 1) w' → w'.cell? ⟨g, i * 3, none⟩ = some (.int .i64 x1.w) ∧ w'.cell? ⟨g, i * 3 + 1, none⟩ = some (.int .u64 x1.o) ∧ w'.cell? ⟨g, i * 3 + 2, none⟩ = some (.int .i64 x1.g) ∧ w'.cell? ⟨g, j * 3, none⟩ = some (.int .i64 x2.w) ∧ w'.cell? ⟨g, j * 3 + 1, none⟩ = some (.int .u64 x2.o) ∧ w'.cell? ⟨g, j * 3 + 2, none⟩ = some (.int .i64 x2.g) := fun hb =>
                ⟨cell_later hb p0, cell_later hb p1, cell_later hb p2, cell_later hb q0, cell_later hb q1, cell_later hb q2⟩
              clear p0 p1 p2 q0 q1 q2
              refine wp_region_held_drew (S := fun w' => w'.cell? ⟨g, i * 3, none⟩ = some (.int .i64 x1.w) ∧ w'.cell? ⟨g, i * 3 + 1, none⟩ = some (.int .u64 x1.o) ∧ w'.cell? ⟨g, i * 3 + 2, none⟩ = some (.int .i64 x1.g) ∧ w'.cell? ⟨g, j * 3, none⟩ = some (.int .i64 x2.w) ∧ w'.cell? ⟨g, j * 3 + 1, none⟩ = some (.int .u64 x2.o) ∧ w'.cell? ⟨g, j * 3 + 2, none⟩ = some (.int .i64 x2.g)) (by kernel_rfl) hS (fun hHeld => ?_)
              refine Own.yes (i := 0) (d := (some 47)) (v := ?_) rfl rfl (by kernel_rfl) (by kernel_rfl) (by kernel_rfl) (fun _ _ _ h => h) rfl ?_ hHeld ?_
              rotate_left
              · (intro w hSw; (try dsimp only at hSw); go_simp; try with_reducible rfl)
              simp only [Act.put, List.setIfInBounds_toArray, List.set_cons_zero, List.set_cons_succ]
              refine Own.yes (i := 1) (d := (some 48)) (v := ?_) rfl rfl (by kernel_rfl) (by kernel_rfl) (by kernel_rfl) (fun _ _ _ h => h) rfl ?_ hHeld ?_
              rotate_left
              · (intro w hSw; (try dsimp only at hSw); go_simp; try with_reducible rfl)
              simp only [Act.put, List.setIfInBounds_toArray, List.set_cons_zero, List.set_cons_succ]
              refine Own.yes (i := 2) (d := (some 49)) (v := ?_) rfl rfl (by kernel_rfl) (by kernel_rfl) (by kernel_rfl) (fun _ _ _ h => h) rfl ?_ hHeld ?_
              rotate_left
              · (intro w hSw; (try dsimp only at hSw); go_simp; try with_reducible rfl)
              simp only [Act.put, List.setIfInBounds_toArray, List.set_cons_zero, List.set_cons_succ]
              refine Own.yes (i := 3) (d := (some 50)) (v := ?_) rfl rfl (by kernel_rfl) (by kernel_rfl) (by kernel_rfl) (fun _ _ _ h => h) rfl ?_ hHeld ?_
              rotate_left
              · (intro w hSw; (try dsimp only at hSw); go_simp; try with_reducible rfl)
              simp only [Act.put, List.setIfInBounds_toArray, List.set_cons_zero, List.set_cons_succ]
              refine Own.yes (i := 4) (d := (some 51)) (v := ?_) rfl rfl (by kernel_rfl) (by kernel_rfl) (by kernel_rfl) (fun _ _ _ h => h) rfl ?_ hHeld ?_
              rotate_left
              · (intro w hSw; (try dsimp only at hSw); go_simp; try with_reducible rfl)
              simp only [Act.put, List.setIfInBounds_toArray, List.set_cons_zero, List.set_cons_succ]
              refine Own.yes (i := 5) (d := (some 52)) (v := ?_) rfl rfl (by kernel_rfl) (by kernel_rfl) (by kernel_rfl) (fun _ _ _ h => h) rfl ?_ hHeld ?_
              rotate_left
              · (intro w hSw; (try dsimp only at hSw); go_simp; try with_reducible rfl)
              simp only [Act.put, List.setIfInBounds_toArray, List.set_cons_zero, List.set_cons_succ]
              refine Own.yes (i := 6) (d := (some 53)) (v := ?_) rfl rfl (by kernel_rfl) (by kernel_rfl) (by kernel_rfl) (fun _ _ _ h => h) rfl ?_ hHeld ?_
              rotate_left
              · (intro w hSw; (try dsimp only at hSw); go_simp; try with_reducible rfl)
              simp only [Act.put, List.setIfInBounds_toArray, List.set_cons_zero, List.set_cons_succ]
              refine Own.yes (i := 7) (d := (some 54)) (v := ?_) rfl rfl (by kernel_rfl) (by kernel_rfl) (by kernel_rfl) (fun _ _ _ h => h) rfl ?_ hHeld ?_
              rotate_left
              · (intro w hSw; (try dsimp only at hSw); go_simp; try with_reducible rfl)
              simp only [Act.put, List.setIfInBounds_toArray, List.set_cons_zero, List.set_cons_succ]
              refine Own.yes (i := 8) (d := (some 55)) (v := ?_) rfl rfl (by kernel_rfl) (by kernel_rfl) (by kernel_rfl) (fun _ _ _ h => h) rfl ?_ hHeld ?_
              rotate_left
              · (intro w hSw; (try dsimp only at hSw); go_simp; try with_reducible rfl)
              simp only [Act.put, List.setIfInBounds_toArray, List.set_cons_zero, List.set_cons_succ]
              refine Own.yes (i := 9) (d := (some 56)) (v := ?_) rfl rfl (by kernel_rfl) (by kernel_rfl) (by kernel_rfl) (fun _ _ _ h => h) rfl ?_ hHeld ?_
              rotate_left
              · (intro w hSw; (try dsimp only at hSw); go_simp; try with_reducible rfl)
              simp only [Act.put, List.setIfInBounds_toArray, List.set_cons_zero, List.set_cons_succ]
              refine Own.yes (i := 10) (d := (some 57)) (v := ?_) rfl rfl (by kernel_rfl) (by kernel_rfl) (by kernel_rfl) (fun _ _ _ h => h) rfl ?_ hHeld ?_
              rotate_left
              · (intro w hSw; (try dsimp only at hSw); go_simp; try with_reducible rfl)
              simp only [Act.put, List.setIfInBounds_toArray, List.set_cons_zero, List.set_cons_succ]
              refine Own.yes (i := 11) (d := (some 58)) (v := ?_) rfl rfl (by kernel_rfl) (by kernel_rfl) (by kernel_rfl) (fun _ _ _ h => h) rfl ?_ hHeld ?_
              rotate_left
              · (intro w hSw; (try dsimp only at hSw); go_simp; try with_reducible rfl)
              simp only [Act.put, List.setIfInBounds_toArray, List.set_cons_zero, List.set_cons_succ]
              refine Own.yes (i := 12) (d := (some 59)) (v := ?_) rfl rfl (by kernel_rfl) (by kernel_rfl) (by kernel_rfl) (fun _ _ _ h => h) rfl ?_ hHeld ?_
              rotate_left
              · (intro w hSw; (try dsimp only at hSw); go_simp; try with_reducible rfl)
              simp only [Act.put, List.setIfInBounds_toArray, List.set_cons_zero, List.set_cons_succ]
              refine Own.call (i := 13) (d := (some 60)) rfl rfl (by kernel_rfl) rfl ?_ (ahead_y HFA.out _) ?_
              · go_simp
              rintro e w5 ⟨rfl, hb5⟩
              (have H5 := Lib.hid hb5; clear hS hHeld; have hS := K0 hb5; clear hb5)
              refine ⟨_, rfl, hS, fun hHeld => ?_⟩
              simp only [Act.put, List.setIfInBounds_toArray, List.set_cons_zero, List.set_cons_succ]
              refine Own.yes (i := 14) (d := (some 61)) (v := ?_) rfl rfl (by kernel_rfl) (by kernel_rfl) (by kernel_rfl) (fun _ _ _ h => h) rfl ?_ hHeld ?_
              rotate_left
              · (intro w hSw; (try dsimp only at hSw); go_simp; try with_reducible rfl)
              simp only [Act.put, List.setIfInBounds_toArray, List.set_cons_zero, List.set_cons_succ]
              refine wpAnyH_done (by kernel_rfl) ?_ _
              have HK := Lib.hid (And.intro ((H2.out.1.drewN 1).after H5.out) (And.intro ((show ESees (wr.drewN 1) _ _ from H2.out.2.1).below H5.out) H2.out.2.2))
              clear hS H2
              go_wp2_with fail
              go_roundw
              case rel => exact ⟨i + 1, by omega, by go_num, HK.out.1, HK.out.2.1, HK.out.2.2⟩
              case measure => simp [intOf]; omega
            · obtain rfl : i = 0 := by omega
              go_wp2_with fail
              have hS : True := trivial
              refine wp_region_held_drew (S := fun w' => True) (by kernel_rfl) hS (fun hHeld => ?_)
              refine Own.yes (i := 0) (d := (some 47)) (v := ?_) rfl rfl (by kernel_rfl) (by kernel_rfl) (by kernel_rfl) (fun _ _ _ h => h) rfl ?_ hHeld ?_
              rotate_left
              · (intro w hSw; (try dsimp only at hSw); go_simp; try with_reducible rfl)
              simp only [Act.put, List.setIfInBounds_toArray, List.set_cons_zero, List.set_cons_succ]
              refine Own.yes (i := 1) (d := (some 48)) (v := ?_) rfl rfl (by kernel_rfl) (by kernel_rfl) (by kernel_rfl) (fun _ _ _ h => h) rfl ?_ hHeld ?_
              rotate_left
              · (intro w hSw; (try dsimp only at hSw); go_simp; try with_reducible rfl)
              simp only [Act.put, List.setIfInBounds_toArray, List.set_cons_zero, List.set_cons_succ]
              refine Own.yes (i := 2) (d := (some 49)) (v := ?_) rfl rfl (by kernel_rfl) (by kernel_rfl) (by kernel_rfl) (fun _ _ _ h => h) rfl ?_ hHeld ?_
              rotate_left
              · (intro w hSw; (try dsimp only at hSw); go_simp; try with_reducible rfl)
              simp only [Act.put, List.setIfInBounds_toArray, List.set_cons_zero, List.set_cons_succ]
              refine Own.no (i := 3) (d := (some 50)) rfl rfl (by kernel_rfl) (by kernel_rfl) (by kernel_rfl) (fun _ _ _ h => h) rfl hHeld ?_
              simp only [Act.put, List.setIfInBounds_toArray, List.set_cons_zero, List.set_cons_succ]
              refine Own.no (i := 4) (d := (some 51)) rfl rfl (by kernel_rfl) (by kernel_rfl) (by kernel_rfl) (fun _ _ _ h => h) rfl hHeld ?_
              simp only [Act.put, List.setIfInBounds_toArray, List.set_cons_zero, List.set_cons_succ]
              refine Own.no (i := 5) (d := (some 52)) rfl rfl (by kernel_rfl) (by kernel_rfl) (by kernel_rfl) (fun _ _ _ h => h) rfl hHeld ?_
              simp only [Act.put, List.setIfInBounds_toArray, List.set_cons_zero, List.set_cons_succ]
              refine Own.no (i := 6) (d := (some 53)) rfl rfl (by kernel_rfl) (by kernel_rfl) (by kernel_rfl) (fun _ _ _ h => h) rfl hHeld ?_
              simp only [Act.put, List.setIfInBounds_toArray, List.set_cons_zero, List.set_cons_succ]
              refine Own.no (i := 7) (d := (some 54)) rfl rfl (by kernel_rfl) (by kernel_rfl) (by kernel_rfl) (fun _ _ _ h => h) rfl hHeld ?_
              simp only [Act.put, List.setIfInBounds_toArray, List.set_cons_zero, List.set_cons_succ]
              refine Own.no (i := 8) (d := (some 55)) rfl rfl (by kernel_rfl) (by kernel_rfl) (by kernel_rfl) (fun _ _ _ h => h) rfl hHeld ?_
              simp only [Act.put, List.setIfInBounds_toArray, List.set_cons_zero, List.set_cons_succ]
              refine Own.no (i := 9) (d := (some 56)) rfl rfl (by kernel_rfl) (by kernel_rfl) (by kernel_rfl) (fun _ _ _ h => h) rfl hHeld ?_
              simp only [Act.put, List.setIfInBounds_toArray, List.set_cons_zero, List.set_cons_succ]
              refine Own.no (i := 10) (d := (some 57)) rfl rfl (by kernel_rfl) (by kernel_rfl) (by kernel_rfl) (fun _ _ _ h => h) rfl hHeld ?_
              simp only [Act.put, List.setIfInBounds_toArray, List.set_cons_zero, List.set_cons_succ]
              refine Own.no (i := 11) (d := (some 58)) rfl rfl (by kernel_rfl) (by kernel_rfl) (by kernel_rfl) (fun _ _ _ h => h) rfl hHeld ?_
              simp only [Act.put, List.setIfInBounds_toArray, List.set_cons_zero, List.set_cons_succ]
              refine Own.no (i := 12) (d := (some 59)) rfl rfl (by kernel_rfl) (by kernel_rfl) (by kernel_rfl) (fun _ _ _ h => h) rfl hHeld ?_
              simp only [Act.put, List.setIfInBounds_toArray, List.set_cons_zero, List.set_cons_succ]
              refine Own.no (i := 13) (d := (some 60)) rfl rfl (by kernel_rfl) (by kernel_rfl) (by kernel_rfl) (fun _ _ _ h => h) rfl hHeld ?_
              simp only [Act.put, List.setIfInBounds_toArray, List.set_cons_zero, List.set_cons_succ]
              refine Own.yes (i := 14) (d := (some 61)) (v := ?_) rfl rfl (by kernel_rfl) (by kernel_rfl) (by kernel_rfl) (fun _ _ _ h => h) rfl ?_ hHeld ?_
              rotate_left
              · (intro w hSw; (try dsimp only at hSw); go_simp; try with_reducible rfl)
              simp only [Act.put, List.setIfInBounds_toArray, List.set_cons_zero, List.set_cons_succ]
              refine wpAnyH_done (by kernel_rfl) ?_ _
              have HK := Lib.hid (And.intro (H2.out.1.drewN 1) (And.intro (show ESees (wr.drewN 1) _ _ from H2.out.2.1) H2.out.2.2))
              clear hS H2
              go_wp2_with fail
              go_roundw
              case rel => exact ⟨0 + 1, by omega, by go_num, HK.out.1, HK.out.2.1, HK.out.2.2⟩
              case measure => simp [intOf]; omega
          · obtain rfl : n = i := by omega
            go_wp2_with fail
            go_loopw [8, 65] (fun u q wX => ∃ (j : Nat), j ≤ n ∧ q = .int .i64 j ∧ Doc w wX A v' u es' (srt (es'.take j)) ∧ ESees wX (.slice pa n pc) es' ∧ es'.length = n) (fun _ q _ => n - (intOf q).toNat)
            case atStart => exact ⟨0, Nat.zero_le _, rfl, by simpa [srt] using H2.out.1, H2.out.2.1, H2.out.2.2⟩
            case round =>
              clear H2
              obtain ⟨j, hj, rfl, hD2, hS2, hn⟩ := hrel
              have H2 := Lib.hid (And.intro hD2 (And.intro hS2 hn))
              clear hD2 hS2 hn
              by_cases hjn : j < n
              · obtain ⟨x1, hx1⟩ : ∃ x, es'[j]? = some x := ⟨_, List.getElem?_eq_getElem (by have := H2.out.2.2; omega)⟩
                obtain ⟨_, _, e, _, _, hcs⟩ := H2.out.2.1
                have ea := (Value.slice.inj e).1
                subst ea
                clear e
                obtain ⟨g, rfl, p0, p1, p2⟩ := hcs j x1 hx1
                have HX := Lib.hid (take_snoc hx1)
                have hjl : (j : Int) < (n : Int) := by omega
                clear hx1 hcs
                have hga : wr.grownBy (wr.alloc (.cells #[.int .i64 x1.w, .int .u64 x1.o, .int .i64 x1.g] 24)) none := World.grownBy_alloc _ _ _
                have hE : (wr.alloc (.cells #[.int .i64 x1.w, .int .u64 x1.o, .int .i64 x1.g] 24)).heap[wr.heap.size]? = some (.cells x1.cells 24 (0, 0)) := heap_alloc_new _ _
                have D3 := Lib.hid (And.intro (H2.out.1.none hga) (And.intro (H2.out.2.1.below ⟨hga.os, hga.tape, hga.output, hga.size, fun q hq => hga.block q hq (by simp)⟩) H2.out.2.2))
                clear hga H2
                go_wp2_with fail
                clear p0 p1 p2
                refine (rput_is D3.out.1.doc (by rw [srt_len]; have := D3.out.2.2; simp; omega) x1).mono ?_
                rintro e w3 ⟨u3, rfl, ho3, hb3⟩
                rw [ins_srt, ← HX.out] at ho3
                have D4 := Lib.hid (And.intro (D3.out.1.row ho3 hb3) (And.intro (D3.out.2.1.below hb3) D3.out.2.2))
                clear ho3 hb3 D3
                go_wp2_with fail
                go_roundw
                case rel => exact ⟨j + 1, by omega, by go_num, D4.out.1, D4.out.2.1, D4.out.2.2⟩
                case measure => simp [intOf]; omega
              · obtain rfl : n = j := by omega
                have ht : es'.take n = es' := List.take_of_length_le (by have := H2.out.2.2; omega)
                rw [ht] at H2
                obtain ⟨L, hL⟩ : ∃ L, srt es' = L := ⟨_, rfl⟩
                have hLn : L.length = n := by rw [← hL, srt_len]; exact H2.out.2.2
                rw [hL] at H2
                have HL := Lib.hid (And.intro hL hLn)
                clear hL hLn ht
                go_wp2_with fail
                refine (sorted_y H2.out.1.ha (by have := H2.out.2.2; omega) HL.out.1 HL.out.2).mono ?_
                rintro e w5 ⟨a5, c5, rfl, hs5, hb5⟩
                have H5 := Lib.hid (And.intro hs5 (H2.out.1.after hb5))
                clear hs5 hb5 H2
                go_wp2_with fail
                refine (same_e H5.out.1 H5.out.2.doc (by rw [HL.out.2]; omega)).mono ?_
                rintro e w6 ⟨rfl, n6, rfl⟩
                have D6 := Lib.hid (H5.out.2.drewN n6).nil
                have HLL := Lib.hid (show es'.length = n from by rw [← srt_len, HL.out.1]; exact HL.out.2)
                clear H5
                go_wp2_with fail
                go_roundw
                case rel => exact ⟨k + 1, v', es', by omega, by go_num, by have := HLL.out; omega, D6.out⟩
                case measure => simp [intOf]; omega
    · obtain rfl : k = len := by omega
      have hbl := Lib.hid HD.out.below
      go_wp2_with fail
      go_ret
      exact ⟨rfl, hbl.out⟩

set_option maxRecDepth 100000 in
set_option maxHeartbeats 1000000 in
theorem places_long (a : Option Addr) (len cap : Nat) (w : World) (hl : 80 < len) (hm : len ≤ maxLen) :
    Calls Try.prog 7 #[.slice a len cap] w fun e w' => e = .returned (.bool true) ∧ Below w.heap.size w w' := by
  unfold maxLen at hm
  go_enter Try.func7, Try.ntmps7
  go_wp2_with fail
  refine (lives_is w).mono ?_
  rintro e w0 ⟨rfl, hb⟩
  have HB := Lib.hid hb
  clear hb
  go_wp2_with fail
  refine (lives_is w0).mono ?_
  rintro e w1 ⟨rfl, hb⟩
  have HB1 := Lib.hid hb
  clear hb
  go_wp2_with fail
  go_ret
  exact ⟨rfl, HB.out.trans (HB1.out.mono HB.out.size)⟩

theorem places_any (a : Option Addr) (len cap : Nat) (w : World) (ha : Args.IsFlat [.u8, .i64, .u64, .i64] w a len) :
    Calls Try.prog 7 #[.slice a len cap] w fun e w' => e = .returned (.bool true) ∧ Below w.heap.size w w' := by
  obtain ⟨hm, hnil, f, hf⟩ := ha
  by_cases hl : 80 < len
  · exact places_long a len cap w hl hm
  · refine places_short a len cap (fun i => (f i).getD 0 0) (fun i => ⟨(f i).getD 1 0, (f i).getD 2 0, (f i).getD 3 0⟩) w (by omega) hnil (fun b hb i hi => ?_) (fun i hi => ?_)
    · obtain ⟨x, y, z, u, e, _⟩ := Args.fits4 (hf i hi).1
      have h := (hf i hi).2 b hb
      rw [e] at h
      have h0 := (h 0 (.int .u8 x) rfl).1
      have h1 := (h 1 (.int .i64 y) rfl).1
      have h2 := (h 2 (.int .u64 z) rfl).1
      have h3 := (h 3 (.int .i64 u) rfl).1
      simp only [e, List.getD_cons_zero, List.getD_cons_succ]
      exact ⟨h0, h1, h2, h3⟩
    · obtain ⟨x, y, z, u, e, hx, _⟩ := Args.fits4 (hf i hi).1
      simp only [e, List.getD_cons_zero, List.getD_cons_succ]
      exact (bounds_u8 hx).1
end Go.Proofs.Ytlnbjnkmhabdaaa.Hp
