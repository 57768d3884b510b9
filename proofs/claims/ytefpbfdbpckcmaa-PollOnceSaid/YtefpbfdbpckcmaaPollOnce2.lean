/-
  The law PollOnce: the walk.
-/
import Derived.Test.YtefpbfdbpckcmaaPollOnce
import Derived.Deep.CutBlock
namespace Go.Proofs.Ytefpbfdbpckcmaa.Pl
open Go.RowKit
set_option linter.unusedVariables false
set_option linter.unusedSimpArgs false

section
variable {w wr : World} {pb fb wb m1 m2 : Nat} {F : List (Int × St)} {G Wt Rd : List (Int × Int)}
theorem On.take {wt wi w2 w3 : World} (h : On w wr pb fb wb m1 m2 F G Wt Rd) {fd g : Int} (hl : Least F (some (fd, g))) (hp : IsPl wt w.heap.size pb fb wb (adel F fd) (adel G g)) (hk : PFr wr wt fb wb) (hgi : wt.grownBy wi none)
    (hm1 : MapU.IsMap w2 m1 (enc i64 (adel Wt fd))) (hg1 : wi.grownBy w2 (some m1)) (hm2 : MapU.IsMap w3 m2 (enc i64 (adel Rd fd))) (hg2 : w2.grownBy w3 (some m2)) : On w w3 pb fb wb m1 m2 (adel F fd) (adel G g) (adel Wt fd) (adel Rd fd) := by
  have hpi := hp.grown hgi
  have lp := hpi.lt
  have s1 := hg1.size
  have hp2 : IsPl w2 w.heap.size pb fb wb (adel F fd) (adel G g) := hpi.kept (hg1.block _ lp.1 (fun e => h.ne.2.1 (Option.some.inj e).symm)) (hg1.block _ lp.2.1 (fun e => h.ne.2.2.1 (Option.some.inj e).symm)) (hg1.block _ lp.2.2 (fun e => h.ne.2.2.2.1 (Option.some.inj e).symm))
  have lp2 := hp2.lt
  refine ⟨hp2.kept (hg2.block _ lp2.1 (fun e => h.ne.2.2.2.2.1 (Option.some.inj e).symm)) (hg2.block _ lp2.2.1 (fun e => h.ne.2.2.2.2.2.1 (Option.some.inj e).symm)) (hg2.block _ lp2.2.2 (fun e => h.ne.2.2.2.2.2.2 (Option.some.inj e).symm)), inv_take h.inv hl, hm1.heap (hg2.block _ hm1.lt (fun e => h.ne.1 (Option.some.inj e))), hm2, fun x => ?_, fun x => ?_, fun p hp => h.rng p (List.mem_filter.1 hp).1, h.ne, ?_, h.low⟩
  · rw [alook_del, stOf_del]
    by_cases e : x = fd
    · rw [if_pos e, if_pos e]; rfl
    · rw [if_neg e, if_neg e]; exact h.hw x
  · rw [alook_del, stOf_del]
    by_cases e : x = fd
    · rw [if_pos e, if_pos e]; rfl
    · rw [if_neg e, if_neg e]; exact h.hr x
  · have b1 := below_next (below_pfr h.below hk h.below.size h.pl.low.2.1 h.pl.low.2.2) hgi (by have := hk.size; have := h.below.size; omega)
    have b2 : Below w.heap.size w w2 := b1.trans ⟨hg1.os, hg1.tape, hg1.output, hg1.size, fun k hk2 => hg1.block k (by have := b1.size; omega) (fun e => by have := Option.some.inj e; have := h.low.1; omega)⟩
    exact b2.trans ⟨hg2.os, hg2.tape, hg2.output, hg2.size, fun k hk2 => hg2.block k (by have := b2.size; omega) (fun e => by have := Option.some.inj e; have := h.low.2; omega)⟩
theorem zeroI (w : World) : (zeroValue 3).run Try.prog w = .ok (.int .i64 0) w := by kernel_rfl
theorem act3 {w : World} {B : Nat} {a b c : Value} (h : w.heap[B]? = some (.cells #[a, b, c] TAct (0, 0))) : w.cell? ⟨B, 0, none⟩ = some a ∧ w.cell? ⟨B, 1, none⟩ = some b ∧ w.cell? ⟨B, 2, none⟩ = some c :=
  ⟨cell_of_row _ _ 0 _ _ _ h, cell_of_row _ _ 1 _ _ _ h, cell_of_row _ _ 2 _ _ _ h⟩
theorem add_off (c : Addr) (i r : Nat) (h : r ≠ 0) : c.add (i + r) = ⟨(c.add i).block, (c.add i).off + r, none⟩ := by
  unfold Addr.add
  by_cases hi : i = 0
  · simp [hi, h]
  · simp [hi, Nat.add_assoc]
/-- The least descriptor that was seen, of those that are ready. -/
def Seen (Wt Rd : List (Int × Int)) (rest : List (Int × Value)) (ℓ : Int) : Prop :=
  (ℓ = -1 ∨ ∃ v, (ℓ, v) ∈ Wt ∧ alook Rd ℓ = some 1) ∧ ∀ p ∈ Wt, (p.1, i64 p.2) ∉ rest → alook Rd p.1 = some 1 → 0 ≤ ℓ ∧ ℓ ≤ p.1
end

theorem Seen.skip {Wt Rd : List (Int × Int)} {rest : List (Int × Value)} {ℓ k v : Int} (hn : (Wt.map (·.1)).Nodup) (h : Seen Wt Rd rest ℓ) (hk : (k, v) ∈ Wt) (hs : alook Rd k ≠ some 1 ∨ (0 ≤ ℓ ∧ ℓ ≤ k)) : Seen Wt Rd (rest.filter fun p => !decide (p.1 = k)) ℓ := by
  refine ⟨h.1, fun p hp hno hr => ?_⟩
  by_cases e : p.1 = k
  · rcases hs with hs | hs
    · rw [e] at hr; exact absurd hr hs
    · rw [e]; exact hs
  · exact h.2 p hp (fun hm => hno (List.mem_filter.2 ⟨hm, by simpa using e⟩)) hr
theorem Seen.take {Wt Rd : List (Int × Int)} {rest : List (Int × Value)} {ℓ k v : Int} (h : Seen Wt Rd rest ℓ) (hk : (k, v) ∈ Wt) (hr1 : alook Rd k = some 1) (h0 : 0 ≤ k) (hs : ℓ < 0 ∨ k < ℓ) : Seen Wt Rd (rest.filter fun p => !decide (p.1 = k)) k := by
  refine ⟨.inr ⟨v, hk, hr1⟩, fun p hp hno hr => ?_⟩
  by_cases e : p.1 = k
  · omega
  · have := h.2 p hp (fun hm => hno (List.mem_filter.2 ⟨hm, by simpa using e⟩)) hr
    omega
section
variable {w wr : World} {pb fb wb m1 m2 : Nat} {F : List (Int × St)} {G Wt Rd : List (Int × Int)}
theorem On.wt (h : On w wr pb fb wb m1 m2 F G Wt Rd) {k v : Int} (hk : (k, v) ∈ Wt) : ∃ s, alook F k = some s ∧ s.waits = true ∧ v = s.g + 1 := by
  have hn := h.mw.nodup
  rw [enc_keys] at hn
  have h1 := alook_mem hn hk
  rw [h.hw] at h1
  cases hs : alook F k with
  | none => rw [stOf_none hs] at h1; cases h1
  | some s =>
    rw [stOf_some hs] at h1
    cases hw : s.waits with
    | true => rw [hw] at h1; exact ⟨s, rfl, hw, (Option.some.inj h1).symm⟩
    | false => rw [hw] at h1; cases h1
theorem On.rd (h : On w wr pb fb wb m1 m2 F G Wt Rd) {k : Int} {s : St} (hs : alook F k = some s) : alook Rd k = some 1 ↔ s.ready = true := by
  rw [h.hr, stOf_some hs]
  cases s.ready <;> simp
theorem On.key (h : On w wr pb fb wb m1 m2 F G Wt Rd) {k : Int} {s : St} (hs : alook F k = some s) : 0 ≤ k ∧ k < 65536 := h.rng _ (alook_some_mem hs)
theorem On.seen_none (h : On w wr pb fb wb m1 m2 F G Wt Rd) (hl : Least F none) {ℓ : Int} (hs : Seen Wt Rd [] ℓ) : ℓ = -1 := by
  rcases hs.1 with h1 | ⟨v, hv, hr⟩
  · exact h1
  · obtain ⟨s, h1, h2, _⟩ := h.wt hv
    have := hl ℓ s h1
    rw [h2, (h.rd h1).1 hr] at this
    cases this
theorem On.seen_some (h : On w wr pb fb wb m1 m2 F G Wt Rd) {fd g : Int} (hl : Least F (some (fd, g))) {ℓ : Int} (hs : Seen Wt Rd [] ℓ) : ℓ = fd ∧ alook Wt fd = some (g + 1) := by
  obtain ⟨s, h1, h2, h3, h4, h5⟩ := hl
  have hw : alook Wt fd = some (g + 1) := by rw [h.hw, stOf_some h1, if_pos h2, h4]
  refine ⟨?_, hw⟩
  have h6 := hs.2 _ (alook_some_mem hw) (by simp) ((h.rd h1).2 h3)
  rcases hs.1 with h7 | ⟨v, hv, hr⟩
  · simp only at h6; omega
  · obtain ⟨s', k1, k2, _⟩ := h.wt hv
    have := h5 ℓ s' k1 (by rw [k2, (h.rd k1).1 hr]; rfl)
    simp only at h6; omega
end

set_option maxRecDepth 100000 in
set_option maxHeartbeats 4000000 in
theorem once_short (a : Option Addr) (len cap : Nat) (kd fd g : Nat → Int) (w : World) (hl : len ≤ 60) (hnil : a = none → len = 0) (hfit : ∀ i, i < len → 0 ≤ kd i ∧ 0 ≤ fd i ∧ fd i < 65536)
    (hc : ∀ b, a = some b → ∀ i, i < len → w.cell? (b.add (i * 3)) = some (.int .u8 (kd i)) ∧ w.cell? (b.add (i * 3 + 1)) = some (.int .u16 (fd i)) ∧ w.cell? (b.add (i * 3 + 2)) = some (.int .i64 (g i))) :
    Calls Try.prog 4 #[.slice a len cap] w fun e w' => e = .returned (.bool true) ∧ Below w.heap.size w w' := by
  have hmm := @run_makeMap Try.prog
  have hlt : ¬ (60 < len) := by omega
  have HC := Lib.hid hc
  have HN := Lib.hid hnil
  have HF := Lib.hid hfit
  clear hc hnil hfit
  go_enter Try.func4, Try.ntmps4
  go_wp2_with fail
  refine (lives_is w).mono ?_
  rintro e w0 ⟨rfl, hb⟩
  have HB := Lib.hid hb
  clear hb
  go_wp2_with fail
  refine (pnew_is w0 w.heap.size HB.out.size).mono ?_
  rintro e w1 ⟨pb, fb, wb, rfl, P, hg, h1, h2, h3⟩
  have hO : On w ((w1.alloc (.map #[] 0)).alloc (.map #[] 0)) pb fb wb w1.heap.size (w1.heap.size + 1) [] [] [] [] := by
    have hga : w1.grownBy ((w1.alloc (.map #[] 0)).alloc (.map #[] 0)) none := grown_none (World.grownBy_alloc _ _ _) (World.grownBy_alloc _ _ _)
    have lp := P.lt
    refine ⟨P.grown hga, inv_nil, (MapU.IsMap.made w1).heap (heap_alloc_old _ _ (by simp)), by have := MapU.IsMap.made (w1.alloc (.map #[] 0)); simpa [enc] using this, fun x => rfl, fun x => rfl, by simp, by omega, below_next (below_next HB.out hg HB.out.size) hga (Nat.le_trans HB.out.size hg.size), ?_⟩
    have := HB.out.size; have := hg.size
    constructor <;> omega
  have O := Lib.hid hO
  clear P hg h1 h2 h3 hO HB
  go_wp2_with fail
  clear hmm
  generalize ((w1.alloc (.map #[] 0)).alloc (.map #[] 0)) = W at *
  generalize w1.heap.size + 1 = m2 at *
  generalize w1.heap.size = m1 at *
  go_loopw [26] (fun q wr => ∃ (i : Nat) (F : List (Int × St)) (G Wt Rd : List (Int × Int)), i ≤ len ∧ q = .int .i64 i ∧ On w wr pb fb wb m1 m2 F G Wt Rd) (fun q _ => len - (intOf q).toNat)
  case atStart => exact ⟨0, [], [], [], [], Nat.zero_le _, rfl, O.out⟩
  case round =>
    clear O
    obtain ⟨i, F, G, Wt, Rd, hi, rfl, hO⟩ := hrel
    have O := Lib.hid hO
    clear hO
    by_cases hlen : i < len
    · obtain ⟨c, rfl⟩ : ∃ c, a = some c := by
        cases a with
        | none => exact absurd (HN.out rfl) (by omega)
        | some c => exact ⟨c, rfl⟩
      obtain ⟨h0, h1, h2⟩ := HC.out c rfl i hlen
      have hfi := HF.out i hlen
      have x0 := cell_later O.out.below h0
      have x1 := cell_later O.out.below h1
      have x2 := cell_later O.out.below h2
      generalize kd i = y at x0 hfi
      generalize fd i = f at x1 hfi
      generalize g i = gg at x2
      rw [add_off c _ 1 (by decide)] at x1
      rw [add_off c _ 2 (by decide)] at x2
      have hact := heap_alloc_new wr (.cells #[.int .u8 y, .int .u16 f, .int .i64 gg] TAct)
      have H1 := Lib.hid (And.intro (O.out.grown (World.grownBy_alloc wr (.cells #[.int .u8 y, .int .u16 f, .int .i64 gg] TAct) none)) hact)
      obtain ⟨m, hm, hm0, hm6⟩ : ∃ m, y % 6 = m ∧ 0 ≤ m ∧ m ≤ 5 := ⟨_, rfl, by omega, by omega⟩
      have ek : y.tmod 6 = m := by rw [← hm]; exact Int.tmod_eq_emod_of_nonneg hfi.1
      have hsz : wr.heap.size < (wr.alloc (.cells #[.int .u8 y, .int .u16 f, .int .i64 gg] TAct)).heap.size := by simp
      have HFR := Lib.hid (And.intro hfi.2.1 hfi.2.2)
      clear hm h0 h1 h2 hact hfi
      go_upto_block 2 with fail
      clear x0 x1 x2
      generalize (wr.alloc (.cells #[.int .u8 y, .int .u16 f, .int .i64 gg] TAct)) = W1 at *
      obtain ⟨z0, z1, z2⟩ := act3 H1.out.2
      have hm5 : (m = 0 ∨ m = 1) ∨ (m = 2 ∨ m = 3) ∨ m = 4 ∨ m = 5 := by omega
      clear hm0 hm6
      rcases hm5 with h5 | h5 | rfl | rfl
      · have hres : (gg < 0 ∨ 4096 ≤ gg) ∨ (0 ≤ gg ∧ gg < 4096 ∧ ((stOf F f).waits = true ∨ (alook G gg).isSome = true)) ∨ (0 ≤ gg ∧ gg < 4096 ∧ (stOf F f).waits = false ∧ (alook G gg).isSome = false ∧ fullL F f = true) ∨ (0 ≤ gg ∧ gg < 4096 ∧ (stOf F f).waits = false ∧ (alook G gg).isSome = false ∧ fullL F f = false) := by
          cases (stOf F f).waits <;> cases (alook G gg).isSome <;> cases fullL F f <;> simp <;> omega
        have HRS := Lib.hid hres
        clear hres
        rcases h5 with rfl | rfl
        all_goals
          rcases HRS.out with hg0 | ⟨hg0, hg1, hs⟩ | ⟨hg0, hg1, hs, hq, hf⟩ | ⟨hg0, hg1, hs, hq, hf⟩
          · go_wp2_with fail
            refine (wait_arg H1.out.1.pl f gg hg0).mono ?_
            rintro e w2 ⟨rfl, hg⟩
            have O2 := Lib.hid (H1.out.1.grown hg)
            clear hg
            go_wp2_with fail
            go_roundw
            case rel => exact ⟨i + 1, F, G, Wt, Rd, by omega, by go_num, O2.out⟩
            case measure => simp [intOf] <;> omega
          · have HS := Lib.hid hs
            clear hs
            go_wp2_with fail
            refine (wait_same H1.out.1.pl f gg hg0 hg1 HS.out).mono ?_
            rintro e w2 ⟨rfl, hg⟩
            have O2 := Lib.hid (H1.out.1.grown hg)
            clear hg
            go_wp2_with fail
            go_roundw
            case rel => exact ⟨i + 1, F, G, Wt, Rd, by omega, by go_num, O2.out⟩
            case measure => simp [intOf] <;> omega
          · have HS := Lib.hid (And.intro hs (And.intro hq hf))
            clear hs hq hf
            go_wp2_with fail
            refine (wait_full H1.out.1.pl f gg hg0 hg1 HS.out.1 HS.out.2.1 HS.out.2.2).mono ?_
            rintro e w2 ⟨rfl, hg⟩
            have O2 := Lib.hid (H1.out.1.grown hg)
            clear hg
            go_wp2_with fail
            go_roundw
            case rel => exact ⟨i + 1, F, G, Wt, Rd, by omega, by go_num, O2.out⟩
            case measure => simp [intOf] <;> omega
          · have HS := Lib.hid (And.intro hs (And.intro hq hf))
            clear hs hq hf
            go_wp2_with fail
            refine (wait_ok H1.out.1.pl f gg hg0 hg1 HS.out.1 HS.out.2.1 HS.out.2.2).mono ?_
            rintro e w2 ⟨rfl, P, hk⟩
            have hmw2 : MapU.IsMap w2 m1 (enc i64 Wt) := H1.out.1.mw.heap (hk.block _ H1.out.1.mw.lt H1.out.1.ne.2.2.1 H1.out.1.ne.2.2.2.1)
            have hac := (hk.block wr.heap.size hsz (by have := O.out.pl.lt; omega) (by have := O.out.pl.lt; omega)).trans H1.out.2
            obtain ⟨y0, y1, y2⟩ := act3 hac
            have K2 := Lib.hid (And.intro P (And.intro hk hmw2))
            clear P hk hmw2 hac z0 z1 z2
            go_wp2_with (at_mapUpdate; refine MapU.wpList_put rfl _ _ _ TM 27 3 rfl Try.underlying35 Try.underlying27 K2.out.2.2 rfl f rfl (i64 (gg + 1)) rfl ?_; intro w3 hm3 hg3; rw [enc_putU] at hm3; have HM3 := Lib.hid (And.intro hm3 hg3); clear hm3 hg3)
            go_roundw
            case rel => exact ⟨i + 1, _, _, _, Rd, by omega, by go_num, H1.out.1.wait hg0 hg1 HS.out.1 HS.out.2.1 HS.out.2.2 HFR.out K2.out.1 K2.out.2.1 HM3.out.1 HM3.out.2⟩
            case measure => simp [intOf] <;> omega
      · have hres : fullL F f = true ∨ fullL F f = false := by cases fullL F f <;> simp
        have HRS := Lib.hid hres
        clear hres
        rcases h5 with rfl | rfl
        all_goals
          rcases HRS.out with hf | hf
          · have HS := Lib.hid hf
            clear hf
            go_wp2_with fail
            refine (ready_full H1.out.1.pl f HS.out).mono ?_
            rintro e w2 ⟨rfl, hg⟩
            have O2 := Lib.hid (H1.out.1.grown hg)
            clear hg
            go_wp2_with fail
            go_roundw
            case rel => exact ⟨i + 1, F, G, Wt, Rd, by omega, by go_num, O2.out⟩
            case measure => simp [intOf] <;> omega
          · have HS := Lib.hid hf
            clear hf
            go_wp2_with fail
            refine (ready_ok H1.out.1.pl f HS.out).mono ?_
            rintro e w2 ⟨rfl, P, hk⟩
            have hmr2 : MapU.IsMap w2 m2 (enc i64 Rd) := H1.out.1.mr.heap (hk.block _ H1.out.1.mr.lt H1.out.1.ne.2.2.2.2.2.1 H1.out.1.ne.2.2.2.2.2.2)
            have hac := (hk.block wr.heap.size hsz (by have := O.out.pl.lt; omega) (by have := O.out.pl.lt; omega)).trans H1.out.2
            obtain ⟨y0, y1, y2⟩ := act3 hac
            have K2 := Lib.hid (And.intro P (And.intro hk hmr2))
            clear P hk hmr2 hac z0 z1 z2
            go_wp2_with (at_mapUpdate; refine MapU.wpList_put rfl _ _ _ TM 27 3 rfl Try.underlying35 Try.underlying27 K2.out.2.2 rfl f rfl (i64 1) rfl ?_; intro w3 hm3 hg3; rw [enc_putU] at hm3; have HM3 := Lib.hid (And.intro hm3 hg3); clear hm3 hg3)
            go_roundw
            case rel => exact ⟨i + 1, _, G, Wt, _, by omega, by go_num, H1.out.1.mark HS.out HFR.out K2.out.1 K2.out.2.1 HM3.out.1 HM3.out.2⟩
            case measure => simp [intOf] <;> omega
      · obtain ⟨mm, hmm⟩ := least_ex F
        have HM := Lib.hid hmm
        clear hmm
        rcases mm with _ | ⟨f', g'⟩
        · go_wp2_with fail
          refine (ptake_none H1.out.1.pl (by have := H1.out.1.inv.size; omega) HM.out).mono ?_
          rintro e w2 ⟨rfl, hg⟩
          have K2 := Lib.hid (And.intro (H1.out.1.grown hg) (And.intro (H1.out.1.mw.grown hg (by simp)) (H1.out.1.mr.grown hg (by simp))))
          clear hg
          go_wp2_with (at_range; refine MapU.wpList_range rfl _ TM 27 3 rfl Try.underlying35 K2.out.2.1 rfl ?_; intro wi hrg0 hg0 hs0)
          go_frame
          have HR0 := Lib.hid (And.intro hrg0 hg0)
          clear hrg0 hg0 hs0
          go_loopw [11, 12] (fun sl _ wr2 => ∃ (rest : List (Int × Value)) (ℓ : Int), MapU.Ran wr2 m1 w2.heap.size (enc i64 Wt) rest ∧ sl = .int .i64 ℓ ∧ -1 ≤ ℓ ∧ ℓ < 65536 ∧ Seen Wt Rd rest ℓ ∧ w2.grownBy wr2 none) (fun _ _ wr2 => wr2.rangeLeft m1 w2.heap.size)
          case atStart => exact ⟨_, -1, HR0.out.1, rfl, by decide, by decide, ⟨.inl rfl, fun p hp hn => absurd (List.mem_map.2 ⟨p, hp, rfl⟩) hn⟩, HR0.out.2⟩
          case round =>
            clear HR0
            obtain ⟨rest, ℓ, hrg, rfl, hl0, hl1, hsn, hg⟩ := hrel
            have HS := Lib.hid (And.intro hsn hg)
            clear hsn hg
            go_wp2_with (at_next; refine MapU.wpList_next rfl _ rfl rfl hrg ?_ ?_)
            · intro hr0
              subst hr0
              obtain rfl := H1.out.1.seen_none HM.out HS.out.1
              have O3 := Lib.hid (K2.out.1.grown HS.out.2)
              clear hrg
              go_wp2_with fail
              go_roundw
              case rel => exact ⟨i + 1, F, G, Wt, Rd, by omega, by go_num, O3.out⟩
              case measure => simp [intOf] <;> omega
            · intro k v wj hkv hrg2 hg2 hs2 hen
              obtain ⟨⟨pk, pv⟩, hp, he⟩ := List.mem_map.1 (hrg.sub hkv)
              obtain rfl : pk = k := congrArg Prod.fst he
              have hv : v = i64 pv := (congrArg Prod.snd he).symm
              subst hv
              obtain ⟨s, hs1, hs2', _⟩ := H1.out.1.wt hp
              have hkr := H1.out.1.key hs1
              have hgw : w2.grownBy wj none := ⟨hg2.os.trans HS.out.2.os, hg2.tape.trans HS.out.2.tape, hg2.output.trans HS.out.2.output, Nat.le_trans HS.out.2.size hg2.size, fun j hj hne => (hg2.block j (Nat.lt_of_lt_of_le hj HS.out.2.size) (fun e => by have := Option.some.inj e; omega)).trans (HS.out.2.block j hj hne)⟩
              have hmrj : MapU.IsMap wj m2 (enc i64 Rd) := K2.out.2.2.grown hgw (by simp)
              obtain ⟨rv, hrv, hrv2⟩ : ∃ rv : Int, (MapU.look (enc i64 Rd) pk).getD (.int .i64 0) = .int .i64 rv ∧ (rv = 1 ∧ alook Rd pk = some 1 ∨ rv = 0 ∧ alook Rd pk ≠ some 1) := by
                have hrd := H1.out.1.hr pk
                rw [enc_lookU, hrd]
                cases (stOf F pk).ready with
                | true => exact ⟨1, rfl, .inl ⟨rfl, by simp⟩⟩
                | false => exact ⟨0, rfl, .inr ⟨rfl, by simp⟩⟩
              have hlk : (Instr.lookup TM (.map (some m2)) (.int .u16 pk) false).run Try.prog wj = .ok (.int .i64 rv) wj := by
                have := MapU.run_look hmrj Try.underlying35 Try.underlying27 pk (zeroI wj) false
                rw [hrv] at this; exact this
              have hkw : IntKind.i64.wrap pk = pk := by rw [IntKind.wrap_i64]; omega
              have hk0 := hkr.1
              have HH := Lib.hid (And.intro hkv (And.intro hp (And.intro hgw (And.intro hrg hrg2))))
              have HL : Hid ((rest.filter fun p => !decide (p.1 = pk)).length < rest.length) := Lib.hid (List.length_filter_lt_length_iff_exists.2 ⟨_, hkv, by simp⟩)
              have HN2 : Hid ((Wt.map (·.1)).Nodup) := Lib.hid (by have := H1.out.1.mw.nodup; rwa [enc_keys] at this)
              clear hrg hrg2 hkv hp he hgw hmrj hrv hs1 hs2' hg2 hs2
              rcases hrv2 with ⟨rfl, hrv2⟩ | ⟨rfl, hrv2⟩
              · have HV := Lib.hid hrv2
                clear hrv2
                rcases (show ℓ < 0 ∨ (0 ≤ ℓ ∧ pk < ℓ) ∨ (0 ≤ ℓ ∧ ℓ ≤ pk) by omega) with hc | ⟨hc, hc2⟩ | ⟨hc, hc2⟩
                · go_wp2_with fail
                  go_roundw
                  case rel => exact ⟨_, pk, HH.out.2.2.2.2, rfl, by omega, by omega, HS.out.1.take HH.out.2.1 HV.out hkr.1 (.inl hc), HH.out.2.2.1⟩
                  case measure => rw [HH.out.2.2.2.2.left_eq, HH.out.2.2.2.1.left_eq]; simpa using HL.out
                · have hc1 : ¬ ℓ < 0 := by omega
                  go_wp2_with fail
                  go_roundw
                  case rel => exact ⟨_, pk, HH.out.2.2.2.2, rfl, by omega, by omega, HS.out.1.take HH.out.2.1 HV.out hkr.1 (.inr hc2), HH.out.2.2.1⟩
                  case measure => rw [HH.out.2.2.2.2.left_eq, HH.out.2.2.2.1.left_eq]; simpa using HL.out
                · have hc1 : ¬ ℓ < 0 := by omega
                  have hc3 : ¬ pk < ℓ := by omega
                  go_wp2_with fail
                  go_roundw
                  case rel => exact ⟨_, ℓ, HH.out.2.2.2.2, rfl, by omega, by omega, HS.out.1.skip HN2.out HH.out.2.1 (.inr ⟨hc, hc2⟩), HH.out.2.2.1⟩
                  case measure => rw [HH.out.2.2.2.2.left_eq, HH.out.2.2.2.1.left_eq]; simpa using HL.out
              · have HV := Lib.hid hrv2
                clear hrv2
                go_wp2_with fail
                go_roundw
                case rel => exact ⟨_, ℓ, HH.out.2.2.2.2, rfl, by omega, by omega, HS.out.1.skip HN2.out HH.out.2.1 (.inl HV.out), HH.out.2.2.1⟩
                case measure => rw [HH.out.2.2.2.2.left_eq, HH.out.2.2.2.1.left_eq]; simpa using HL.out
        · have hf0 : 0 ≤ f' ∧ f' < 65536 := by obtain ⟨s, h1, _⟩ := HM.out; exact H1.out.1.key h1
          have hg0 : 0 ≤ g' ∧ g' < 4096 := by obtain ⟨s, h1, h2, _, h4, _⟩ := HM.out; rw [← h4]; exact ((H1.out.1.inv.ok f' s h1).1 h2).2
          have hfw : IntKind.i64.wrap f' = f' := by rw [IntKind.wrap_i64]; omega
          have hf00 := hf0.1
          have hgg0 := hg0.1
          have hgg1 := hg0.2
          go_wp2_with fail
          refine (ptake_some H1.out.1.pl (by have := H1.out.1.inv.size; omega) HM.out).mono ?_
          rintro e w2 ⟨rfl, P, hk⟩
          have K2 := Lib.hid (And.intro (And.intro P hk) (And.intro (H1.out.1.mw.heap (hk.block _ H1.out.1.mw.lt H1.out.1.ne.2.2.1 H1.out.1.ne.2.2.2.1)) (H1.out.1.mr.heap (hk.block _ H1.out.1.mr.lt H1.out.1.ne.2.2.2.2.2.1 H1.out.1.ne.2.2.2.2.2.2))))
          clear P hk
          go_wp2_with (at_range; refine MapU.wpList_range rfl _ TM 27 3 rfl Try.underlying35 K2.out.2.1 rfl ?_; intro wi hrg0 hg0 hs0)
          go_frame
          have HR0 := Lib.hid (And.intro hrg0 hg0)
          clear hrg0 hg0 hs0
          go_loopw [11, 12] (fun sl _ wr2 => ∃ (rest : List (Int × Value)) (ℓ : Int), MapU.Ran wr2 m1 w2.heap.size (enc i64 Wt) rest ∧ sl = .int .i64 ℓ ∧ -1 ≤ ℓ ∧ ℓ < 65536 ∧ Seen Wt Rd rest ℓ ∧ w2.grownBy wr2 none) (fun _ _ wr2 => wr2.rangeLeft m1 w2.heap.size)
          case atStart => exact ⟨_, -1, HR0.out.1, rfl, by decide, by decide, ⟨.inl rfl, fun p hp hn => absurd (List.mem_map.2 ⟨p, hp, rfl⟩) hn⟩, HR0.out.2⟩
          case round =>
            clear HR0
            obtain ⟨rest, ℓ, hrg, rfl, hl0, hl1, hsn, hg⟩ := hrel
            have HS := Lib.hid (And.intro hsn hg)
            clear hsn hg
            go_wp2_with (at_next; refine MapU.wpList_next rfl _ rfl rfl hrg ?_ ?_)
            · intro hr0
              subst hr0
              obtain ⟨rfl, hwt⟩ := H1.out.1.seen_some HM.out HS.out.1
              have hlk : (Instr.lookup TM (.map (some m1)) (.int .u16 ℓ) false).run Try.prog wr = .ok (.int .i64 (g' + 1)) wr := by
                have := MapU.run_look hrg.map Try.underlying35 Try.underlying27 ℓ (zeroI wr) false
                rw [enc_lookU, hwt] at this; exact this
              have HG := Lib.hid hrg
              have hmr2 : MapU.IsMap wr m2 (enc i64 Rd) := K2.out.2.2.grown HS.out.2 (by simp)
              have HMR := Lib.hid hmr2
              clear hrg hwt hmr2
              go_wp2_with (first
                | (refine MapU.wpList_mdel rfl _ _ TM 27 3 rfl Try.underlying35 Try.underlying27 HG.out.map rfl ℓ rfl ?_; intro w3 hm3 hg3; rw [enc_delU] at hm3; have HM3 := Lib.hid (And.intro hm3 (And.intro hg3 (HMR.out.heap (hg3.block _ HMR.out.lt (fun e => H1.out.1.ne.1 (Option.some.inj e).symm))))); clear hm3 hg3)
                | (refine MapU.wpList_mdel rfl _ _ TM 27 3 rfl Try.underlying35 Try.underlying27 HM3.out.2.2 rfl ℓ rfl ?_; intro w4 hm4 hg4; rw [enc_delU] at hm4; have HM4 := Lib.hid (And.intro hm4 hg4); clear hm4 hg4))
              go_roundw
              case rel => exact ⟨i + 1, _, _, _, _, by omega, by go_num, H1.out.1.take HM.out K2.out.1.1 K2.out.1.2 HS.out.2 HM3.out.1 HM3.out.2.1 HM4.out.1 HM4.out.2⟩
              case measure => simp [intOf] <;> omega
            · intro k v wj hkv hrg2 hg2 hs2 hen
              obtain ⟨⟨pk, pv⟩, hp, he⟩ := List.mem_map.1 (hrg.sub hkv)
              obtain rfl : pk = k := congrArg Prod.fst he
              have hv : v = i64 pv := (congrArg Prod.snd he).symm
              subst hv
              obtain ⟨s, hs1, hs2', _⟩ := H1.out.1.wt hp
              have hkr := H1.out.1.key hs1
              have hgw : w2.grownBy wj none := ⟨hg2.os.trans HS.out.2.os, hg2.tape.trans HS.out.2.tape, hg2.output.trans HS.out.2.output, Nat.le_trans HS.out.2.size hg2.size, fun j hj hne => (hg2.block j (Nat.lt_of_lt_of_le hj HS.out.2.size) (fun e => by have := Option.some.inj e; omega)).trans (HS.out.2.block j hj hne)⟩
              have hmrj : MapU.IsMap wj m2 (enc i64 Rd) := K2.out.2.2.grown hgw (by simp)
              obtain ⟨rv, hrv, hrv2⟩ : ∃ rv : Int, (MapU.look (enc i64 Rd) pk).getD (.int .i64 0) = .int .i64 rv ∧ (rv = 1 ∧ alook Rd pk = some 1 ∨ rv = 0 ∧ alook Rd pk ≠ some 1) := by
                have hrd := H1.out.1.hr pk
                rw [enc_lookU, hrd]
                cases (stOf F pk).ready with
                | true => exact ⟨1, rfl, .inl ⟨rfl, by simp⟩⟩
                | false => exact ⟨0, rfl, .inr ⟨rfl, by simp⟩⟩
              have hlk : (Instr.lookup TM (.map (some m2)) (.int .u16 pk) false).run Try.prog wj = .ok (.int .i64 rv) wj := by
                have := MapU.run_look hmrj Try.underlying35 Try.underlying27 pk (zeroI wj) false
                rw [hrv] at this; exact this
              have hkw : IntKind.i64.wrap pk = pk := by rw [IntKind.wrap_i64]; omega
              have hk0 := hkr.1
              have HH := Lib.hid (And.intro hkv (And.intro hp (And.intro hgw (And.intro hrg hrg2))))
              have HL : Hid ((rest.filter fun p => !decide (p.1 = pk)).length < rest.length) := Lib.hid (List.length_filter_lt_length_iff_exists.2 ⟨_, hkv, by simp⟩)
              have HN2 : Hid ((Wt.map (·.1)).Nodup) := Lib.hid (by have := H1.out.1.mw.nodup; rwa [enc_keys] at this)
              clear hrg hrg2 hkv hp he hgw hmrj hrv hs1 hs2' hg2 hs2
              rcases hrv2 with ⟨rfl, hrv2⟩ | ⟨rfl, hrv2⟩
              · have HV := Lib.hid hrv2
                clear hrv2
                rcases (show ℓ < 0 ∨ (0 ≤ ℓ ∧ pk < ℓ) ∨ (0 ≤ ℓ ∧ ℓ ≤ pk) by omega) with hc | ⟨hc, hc2⟩ | ⟨hc, hc2⟩
                · go_wp2_with fail
                  go_roundw
                  case rel => exact ⟨_, pk, HH.out.2.2.2.2, rfl, by omega, by omega, HS.out.1.take HH.out.2.1 HV.out hkr.1 (.inl hc), HH.out.2.2.1⟩
                  case measure => rw [HH.out.2.2.2.2.left_eq, HH.out.2.2.2.1.left_eq]; simpa using HL.out
                · have hc1 : ¬ ℓ < 0 := by omega
                  go_wp2_with fail
                  go_roundw
                  case rel => exact ⟨_, pk, HH.out.2.2.2.2, rfl, by omega, by omega, HS.out.1.take HH.out.2.1 HV.out hkr.1 (.inr hc2), HH.out.2.2.1⟩
                  case measure => rw [HH.out.2.2.2.2.left_eq, HH.out.2.2.2.1.left_eq]; simpa using HL.out
                · have hc1 : ¬ ℓ < 0 := by omega
                  have hc3 : ¬ pk < ℓ := by omega
                  go_wp2_with fail
                  go_roundw
                  case rel => exact ⟨_, ℓ, HH.out.2.2.2.2, rfl, by omega, by omega, HS.out.1.skip HN2.out HH.out.2.1 (.inr ⟨hc, hc2⟩), HH.out.2.2.1⟩
                  case measure => rw [HH.out.2.2.2.2.left_eq, HH.out.2.2.2.1.left_eq]; simpa using HL.out
              · have HV := Lib.hid hrv2
                clear hrv2
                go_wp2_with fail
                go_roundw
                case rel => exact ⟨_, ℓ, HH.out.2.2.2.2, rfl, by omega, by omega, HS.out.1.skip HN2.out HH.out.2.1 (.inl HV.out), HH.out.2.2.1⟩
                case measure => rw [HH.out.2.2.2.2.left_eq, HH.out.2.2.2.1.left_eq]; simpa using HL.out
      · go_wp2_with fail
        go_roundw
        case rel => exact ⟨i + 1, F, G, Wt, Rd, by omega, by go_num, H1.out.1⟩
        case measure => simp [intOf] <;> omega
    · obtain rfl : i = len := by omega
      go_wp2_with fail
      refine (plen_is O.out.pl).mono ?_
      rintro e w2 ⟨rfl, rfl⟩
      have hsz := O.out.inv.size
      have HZ := Lib.hid O.out.below
      generalize F.length = n at *
      clear O
      go_wp2_with fail
      go_ret
      exact ⟨by simp; omega, HZ.out⟩
end Go.Proofs.Ytefpbfdbpckcmaa.Pl
