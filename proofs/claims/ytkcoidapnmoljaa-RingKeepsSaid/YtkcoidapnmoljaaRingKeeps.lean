/-
  The law RingKeeps.
-/
import Derived.Test.YtkcoidapnmoljaaRingAny
import Derived.Test.YtkcoidapnmoljaaArgs
namespace Go.Proofs.Ytkcoidapnmoljaa.Rng
open Go.RowKit
open Go.Proofs.Ytkcoidapnmoljaa.Ints
open Go.Proofs.Ytkcoidapnmoljaa.MapI
set_option linter.unusedVariables false

theorem zeroI (w : World) : (zeroValue 3).run Try.prog w = .ok (.int .i64 0) w := by kernel_rfl

theorem map_ne {w : World} {s m : Nat} {v : Value} {t : TypeId} {l : List (Int × Value)} (hs : w.heap[s]? = some (.cells #[v] t (0, 0))) (hm : IsMap w m l) : s ≠ m := by
  rintro rfl
  obtain ⟨es, c, h, _⟩ := hm
  rw [hs] at h; cases h
theorem sees_map {w w' : World} {v : Value} {xs : List Int} {m : Nat} {l : List (Int × Value)} (h : Sees w v xs) (hm : IsMap w m l) (hg : w.grownBy w' (some m)) : Sees w' v xs := by
  refine h.grown hg fun hx g hgb => ?_
  obtain ⟨a, cap, rfl, _, _, hc⟩ := h
  obtain ⟨x, hx0⟩ : ∃ x, xs[0]? = some x := by cases xs with
    | nil => exact absurd rfl hx
    | cons x t => exact ⟨x, rfl⟩
  obtain ⟨c, rfl, hcell⟩ := hc 0 x hx0
  have hb := cell_lt hcell
  rw [block_add] at hb
  simp [Value.ownBlock] at hgb
  subst hgb
  refine ⟨hb, fun e => ?_⟩
  have e := Option.some.inj e
  subst e
  obtain ⟨es, ck, h, _⟩ := hm
  unfold World.cell? at hcell
  rw [block_add, h] at hcell
  cases hcell

theorem take_in {T xs : List Int} {k : Nat} {x : Int} (hn : (T ++ xs).Nodup) (hx : xs[k]? = some x) : x ∉ T ++ xs.take k := by
  have e : (T ++ xs).Perm (x :: (T ++ xs.take k ++ xs.drop (k + 1))) := by
    rw [List.perm_iff_count]; intro a
    have h1 : xs = xs.take k ++ x :: xs.drop (k + 1) := by
      obtain ⟨hk, rfl⟩ := List.getElem?_eq_some_iff.1 hx
      rw [List.getElem_cons_drop hk, List.take_append_drop]
    have := congrArg (List.count a) h1
    simp only [List.count_append, List.count_cons] at *; omega
  have := e.nodup_iff.1 hn
  rw [List.nodup_cons] at this
  intro h; exact this.1 (List.mem_append_left _ h)

set_option maxHeartbeats 1000000 in
theorem tell_is {w : World} {s m : Nat} {T xs : List Int} {v : Value} (hs : w.heap[s]? = some (.cells #[.map (some m)] 38 (0, 0))) (hm : IsMap w m (ones T)) (hv : Sees w v xs) (hn : (T ++ xs).Nodup) (hbig : xs.length ≤ 1000000) :
    Calls Try.prog 18 #[v, .pointer (some ⟨s, 0, none⟩)] w fun e w' => e = .returned (.tuple #[]) ∧ IsMap w' m (ones (T ++ xs)) ∧ w.grownBy w' (some m) := by
  have hsm := map_ne hs hm
  have hslt : s < w.heap.size := (Array.getElem?_eq_some_iff.1 hs).1
  obtain ⟨a, cap, rfl, hmax, hnil, hc⟩ := id hv
  have HV := Lib.hid hv
  have HM := Lib.hid hm
  have HN := Lib.hid hn
  have HS := Lib.hid hs
  clear hv hm hn hs hmax hnil hc
  go_enter Try.func18, Try.ntmps18
  go_wp2
  go_loopw [7] (fun i wr => ∃ k : Nat, k ≤ xs.length ∧ i = .int .i64 k ∧ IsMap wr m (ones (T ++ xs.take k)) ∧ w.grownBy wr (some m)) (fun i _ => xs.length - (intOf i).toNat)
  case atStart => exact ⟨0, Nat.zero_le _, rfl, by simpa using HM.out, World.grownBy.refl _ _⟩
  case round =>
    obtain ⟨k, hk, rfl, hm, hg⟩ := hrel
    have HR := Lib.hid hm
    have HG := Lib.hid hg
    have hcs : wr.cell? ⟨s, 0, none⟩ = some (.map (some m)) := cell_of_row wr s 0 _ _ _ ((hg.block s hslt (fun e => hsm (Option.some.inj e))).trans HS.out)
    have hseen := sees_map HV.out HM.out hg
    clear hm hg
    by_cases hlen : k < xs.length
    · obtain ⟨x, hx⟩ : ∃ x, xs[k]? = some x := ⟨_, List.getElem?_eq_getElem hlen⟩
      obtain ⟨c, ha, hcx⟩ : ∃ c, a = some c ∧ wr.cell? (c.add k) = some (.int .i64 x) := by
        obtain ⟨_, _, e, _, _, h⟩ := hseen; cases e; exact h k x hx
      subst ha
      have HX : Hid (x ∉ T ++ xs.take k) := Lib.hid (take_in HN.out hx)
      have HT : Hid (T ++ xs.take k ++ [x] = T ++ xs.take (k + 1)) := Lib.hid (take_step hx)
      have HSE := Lib.hid hseen
      clear hx hseen
      go_wp2_with (first
        | (at_lookup; refine wpList_look rfl _ _ 38 3 3 rfl Try.underlying38 Try.underlying3 HR.out rfl x rfl (zeroI _) (.int .i64 0) (by rw [look_ones_not HX.out]; rfl) ?_)
        | (at_mapUpdate; refine wpList_put rfl _ _ _ 38 3 3 rfl Try.underlying38 Try.underlying3 HR.out rfl x rfl (.int .i64 1) rfl ?_; intro w2 hm2 hg2; rw [put_ones HX.out, HT.out] at hm2; have HM2 := Lib.hid hm2; have HG2 := Lib.hid (grown_trans HG.out hg2 (fun j hj => .inr hj)); clear hm2 hg2))
      go_roundw
      case rel => exact ⟨k + 1, by omega, by go_num, HM2.out, HG2.out⟩
      case measure => simp [intOf]; omega
    · obtain rfl : k = xs.length := by omega
      go_wp2
      go_end0
      exact ⟨rfl, by simpa using HR.out, HG.out⟩

/-- The law's state: the ring, the map, the variable that holds it. -/
structure Keep (w wr : World) (b m : Nat) (T row : List Int) (nxt : Option Int) (st : Int) (p : Nat) : Prop where
  ring : IsR wr b row nxt st
  map : IsMap wr m (ones T)
  var : wr.heap[m + 1]? = some (.cells #[.map (some m)] 38 (0, 0))
  kept : Kept T row nxt p
  below : Below w.heap.size w wr

section
variable {w wr : World} {b m : Nat} {T row : List Int} {nxt : Option Int} {st : Int} {p : Nat}
theorem Keep.cell (K : Keep w wr b m T row nxt st p) : wr.cell? ⟨m + 1, 0, none⟩ = some (.map (some m)) := cell_of_row wr (m + 1) 0 _ _ _ K.var
theorem Keep.varlt (K : Keep w wr b m T row nxt st p) : m + 1 < wr.heap.size := (Array.getElem?_eq_some_iff.1 K.var).1
/-- Behind a deed at the ring. -/
theorem Keep.deed (K : Keep w wr b m T row nxt st p) (hbm : b < m) (hB : w.heap.size ≤ b) {w1 : World} (hg : wr.grownBy w1 (some b)) :
    IsMap w1 m (ones T) ∧ w1.heap[m + 1]? = some (.cells #[.map (some m)] 38 (0, 0)) ∧ Below w.heap.size w w1 ∧ w1.cell? ⟨m + 1, 0, none⟩ = some (.map (some m)) := by
  have h2 : w1.heap[m + 1]? = some (.cells #[.map (some m)] 38 (0, 0)) := (hg.block _ K.varlt (fun e => by have := Option.some.inj e; omega)).trans K.var
  exact ⟨K.map.grown hg (fun e => by have := Option.some.inj e; omega), h2, below_step K.below hg hB K.below.size, cell_of_row w1 (m + 1) 0 _ _ _ h2⟩
/-- Behind what was told then. -/
theorem keep_mk (hbm : b < m) (hB : w.heap.size ≤ b) {w1 w2 : World} {T' : List Int} {q : Nat} (hr : IsR w1 b row nxt st) (h2 : w1.heap[m + 1]? = some (.cells #[.map (some m)] 38 (0, 0))) (hb : Below w.heap.size w w1) (hm : IsMap w2 m (ones T')) (hg : w1.grownBy w2 (some m)) (hk : Kept T' row nxt q) :
    Keep w w2 b m T' row nxt st q :=
  ⟨hr.heap (hg.block b hr.lt (fun e => by have := Option.some.inj e; omega)), hm, (hg.block _ (Array.getElem?_eq_some_iff.1 h2).1 (fun e => by have := Option.some.inj e; omega)).trans h2, hk, below_step hb hg (by omega) hb.size⟩
end
theorem kept_same {T row told row' : List Int} {nxt nxt' : Option Int} {p : Nat} (h : Kept T row nxt p) (hs : (told ++ row' ++ nxt'.toList).Perm (row ++ nxt.toList)) : Kept (T ++ told) row' nxt' p :=
  kept_step (n := 0) (new := []) h rfl (by rw [show row ++ nxt.toList ++ [] = row ++ nxt.toList from List.append_nil _]; exact hs)
theorem row_r (w : World) (f x : Int) (n : Nat) (hx : x = n) (h1 : -1000000000000 ≤ f) (h2 : f ≤ 1000000000000) (hn : n ≤ 1000000) :
    Calls Try.prog 11 #[.int .i64 f, .int .i64 x] w fun e w' => ∃ v, e = .returned v ∧ Owns w' w.heap.size v (upFrom f n) ∧ w.grownBy w' none := by subst hx; exact row_is w f n h1 h2 hn
theorem up_one (p : Nat) : [(p : Int)] = upFrom (p : Int) 1 := by simp [upFrom]
theorem up_none (f : Int) : upFrom f 0 = [] := rfl

set_option maxRecDepth 100000 in
set_option maxHeartbeats 4000000 in
theorem keeps_short (a : Option Addr) (len cap : Nat) (f : Nat → Int) (w : World) (hl : len ≤ 200) (hnil : a = none → len = 0) (hc : ∀ b, a = some b → ∀ i, i < len → w.cell? (b.add i) = some (.int .u8 (f i))) (hf : ∀ i, i < len → 0 ≤ f i ∧ f i ≤ 255) :
    Calls Try.prog 5 #[.slice a len cap] w fun e w' => e = .returned (.bool true) ∧ Below w.heap.size w w' := by
  have hmm := @run_makeMap Try.prog
  have hlt : ¬ (200 < len) := by omega
  have HC := Lib.hid hc
  have HF := Lib.hid hf
  have HN := Lib.hid hnil
  clear hc hf hnil
  go_enter Try.func5, Try.ntmps5
  go_wp2_with fail
  refine (lives_is w).mono ?_
  rintro e w0 ⟨rfl, hb⟩
  have HB := Lib.hid hb
  clear hb
  go_wp2_with fail
  refine (new_is w0).mono ?_
  rintro e w1 ⟨rfl, hr, hg⟩
  have H1 := Lib.hid (And.intro hr (below_none HB.out hg HB.out.size))
  clear hr hg
  go_wp2_with fail
  have hB : w.heap.size ≤ w0.heap.size := HB.out.size
  have hbm : w0.heap.size < w1.heap.size := H1.out.1.lt
  have hbW := ((Below.refl w1.heap.size w1).alloc (Nat.le_refl _) (.map #[] 0)).alloc (by simp) (.cells #[.map (some w1.heap.size)] 38)
  have K0 : Keep w ((w1.alloc (.map #[] 0)).alloc (.cells #[.map (some w1.heap.size)] 38)) w0.heap.size w1.heap.size [] [] none 0 0 :=
    ⟨H1.out.1.below hbW, (IsMap.made w1).heap (heap_alloc2_old _ _ _ |>.trans (heap_alloc_new _ _).symm), heap_alloc2_new _ _ _, kept_start, below_wide H1.out.2 hbW H1.out.2.size⟩
  have K := Lib.hid K0
  clear K0 hbW
  generalize ((w1.alloc (.map #[] 0)).alloc (.cells #[.map (some w1.heap.size)] 38)) = W at *
  generalize w0.heap.size = b at *
  generalize w1.heap.size = m at *
  clear H1 HB
  go_loopw [5, 26] (fun p i wr => ∃ (k pn : Nat) (T row : List Int) (nxt : Option Int) (st : Int), k ≤ len ∧ i = .int .i64 k ∧ p = .int .i64 pn ∧ pn ≤ 126 * k ∧ Keep w wr b m T row nxt st pn) (fun _ i _ => len - (intOf i).toNat)
  case atStart => exact ⟨0, 0, [], [], none, 0, Nat.zero_le _, rfl, rfl, by omega, K.out⟩
  case round =>
    clear K
    obtain ⟨k, pn, T, row, nxt, st, hk, rfl, rfl, hpn, hkeep⟩ := hrel
    have K := Lib.hid hkeep
    have hcs := hkeep.cell
    clear hkeep
    by_cases hlen : k < len
    · obtain ⟨c, rfl⟩ : ∃ c, a = some c := by
        cases a with
        | none => exact absurd (HN.out rfl) (by omega)
        | some c => exact ⟨c, rfl⟩
      have hx0 := HF.out k hlen
      have hcx : wr.cell? (c.add k) = some (.int .u8 (f k)) := cell_later K.out.below (HC.out c rfl k hlen)
      generalize f k = x at hx0 hcx
      rcases (show x % 6 = 0 ∨ x % 6 = 1 ∨ x % 6 = 2 ∨ x % 6 = 3 ∨ x % 6 = 4 ∨ x % 6 = 5 by omega) with h6 | h6 | h6 | h6 | h6 | h6
      all_goals have ek : x.tmod 6 = x % 6 := Int.tmod_eq_emod_of_nonneg hx0.1
      all_goals rw [h6] at ek
      · go_wp2_with fail
        refine (put_told K.out.ring pn).mono ?_
        rintro e w1 ⟨v, told, row1, nxt1, st1, rfl, hs, hb, hr, hp, hg⟩
        have D := Lib.hid (K.out.deed hbm hB hg)
        have HK := Lib.hid (kept_step K.out.kept (up_one pn) hp)
        have HS := Lib.hid hs
        have HR := Lib.hid hr
        have hcs1 := D.out.2.2.2
        clear hs hr hp hg hcs
        go_wp2_with fail
        refine (tell_is D.out.2.1 D.out.1 HS.out (kept_nodup HK.out) hb).mono ?_
        rintro e w2 ⟨rfl, hm2, hg2⟩
        have K2 := Lib.hid (keep_mk hbm hB HR.out D.out.2.1 D.out.2.2.1 hm2 hg2 HK.out)
        clear hm2 hg2
        go_wp2_with fail
        go_roundw
        case rel => exact ⟨k + 1, pn + 1, _, _, _, _, by omega, by go_num, by go_num, by omega, K2.out⟩
        case measure => simp [intOf]; omega
      · go_wp2_with fail
        refine (ready_told K.out.ring pn).mono ?_
        rintro e w1 ⟨v, told, row1, nxt1, st1, rfl, hs, hb, hr, hp, hg⟩
        have D := Lib.hid (K.out.deed hbm hB hg)
        have HK := Lib.hid (kept_step K.out.kept (up_one pn) hp)
        have HS := Lib.hid hs
        have HR := Lib.hid hr
        have hcs1 := D.out.2.2.2
        clear hs hr hp hg hcs
        go_wp2_with fail
        refine (tell_is D.out.2.1 D.out.1 HS.out (kept_nodup HK.out) hb).mono ?_
        rintro e w2 ⟨rfl, hm2, hg2⟩
        have K2 := Lib.hid (keep_mk hbm hB HR.out D.out.2.1 D.out.2.2.1 hm2 hg2 HK.out)
        clear hm2 hg2
        go_wp2_with fail
        go_roundw
        case rel => exact ⟨k + 1, pn + 1, _, _, _, _, by omega, by go_num, by go_num, by omega, K2.out⟩
        case measure => simp [intOf]; omega
      · obtain ⟨q, hq⟩ : ∃ q : Nat, q = (x / 6).toNat := ⟨_, rfl⟩
        have hd2 : x / 6 = (q : Int) := by omega
        have hd1 : x.tdiv 6 = (q : Int) := by rw [Int.tdiv_eq_ediv_of_nonneg hx0.1]; exact hd2
        have hq42 : q ≤ 42 := by omega
        have hw3 : IntKind.i64.wrap ((q : Int) * 3) = (q : Int) * 3 := by rw [IntKind.wrap_i64]; omega
        clear hq
        go_wp2_with fail
        refine (row_r _ _ _ (3 * q) (by push_cast; omega) (by omega) (by omega) (by omega)).mono ?_
        rintro e w3 ⟨v3, rfl, ho, hg3⟩
        have HO := Lib.hid ho
        have K3 : Hid (Keep w w3 b m T row nxt st pn) := Lib.hid ⟨K.out.ring.heap (hg3.block b K.out.ring.lt (by simp)), K.out.map.grown hg3 (by simp), (hg3.block _ K.out.varlt (by simp)).trans K.out.var, K.out.kept, below_none K.out.below hg3 K.out.below.size⟩
        clear ho hg3 hcs
        have hcs := K3.out.cell
        go_wp2_with fail
        refine (putall_told K3.out.ring _ HO.out K.out.ring.lt (by rw [upFrom_len]; omega)).mono ?_
        rintro e w1 ⟨v, told, row1, nxt1, st1, rfl, hs, hb, hr, hp, hg⟩
        have D := Lib.hid (K3.out.deed hbm hB hg)
        have HK := Lib.hid (kept_step K3.out.kept rfl hp)
        have HS := Lib.hid hs
        have HR := Lib.hid hr
        have hcs1 := D.out.2.2.2
        clear hs hr hp hg hcs
        go_wp2_with fail
        refine (tell_is D.out.2.1 D.out.1 HS.out (kept_nodup HK.out) hb).mono ?_
        rintro e w2 ⟨rfl, hm2, hg2⟩
        have K2 := Lib.hid (keep_mk hbm hB HR.out D.out.2.1 D.out.2.2.1 hm2 hg2 HK.out)
        clear hm2 hg2
        go_wp2_with fail
        go_roundw
        case rel => exact ⟨k + 1, pn + 3 * q, _, _, _, _, by omega, by go_num, by go_num, by omega, K2.out⟩
        case measure => simp [intOf]; omega
      · go_wp2_with fail
        refine (steal_told K.out.ring).mono ?_
        rintro e w1 ⟨v, told, row1, nxt1, st1, rfl, hs, hb, hr, hp, hg⟩
        have D := Lib.hid (K.out.deed hbm hB hg)
        have HK := Lib.hid (kept_same K.out.kept hp)
        have HS := Lib.hid hs
        have HR := Lib.hid hr
        have hcs1 := D.out.2.2.2
        clear hs hr hp hg hcs
        go_wp2_with fail
        refine (tell_is D.out.2.1 D.out.1 HS.out (kept_nodup HK.out) hb).mono ?_
        rintro e w2 ⟨rfl, hm2, hg2⟩
        have K2 := Lib.hid (keep_mk hbm hB HR.out D.out.2.1 D.out.2.2.1 hm2 hg2 HK.out)
        clear hm2 hg2
        go_wp2_with fail
        go_roundw
        case rel => exact ⟨k + 1, pn, _, _, _, _, by omega, by go_num, by go_num, by omega, K2.out⟩
        case measure => simp [intOf]; omega
      · go_wp2_with fail
        refine (get_told K.out.ring).mono ?_
        rintro e w1 ⟨g, is, row1, nxt1, st1, rfl, hr, hp, hg⟩
        have D := Lib.hid (K.out.deed hbm hB hg)
        have HK := Lib.hid (kept_same K.out.kept hp)
        have HR := Lib.hid hr
        have hcs1 := D.out.2.2.2
        clear hr hp hg hcs
        cases is with
        | false =>
          have K2 : Hid (Keep w w1 b m T row1 nxt1 st1 pn) := Lib.hid ⟨HR.out, D.out.1, D.out.2.1, by have := HK.out; simpa using this, D.out.2.2.1⟩
          go_wp2_with fail
          go_roundw
          case rel => exact ⟨k + 1, pn, _, _, _, _, by omega, by go_num, rfl, by omega, K2.out⟩
          case measure => simp [intOf]; omega
        | true =>
          have HX : Hid (g ∉ T) := Lib.hid (by
            have := kept_nodup HK.out
            intro h
            exact (List.nodup_append.1 this).2.2 g h g (by simp) rfl)
          go_wp2_with (first
            | (at_lookup; refine wpList_look rfl _ _ 38 3 3 rfl Try.underlying38 Try.underlying3 D.out.1 rfl g rfl (zeroI _) (.int .i64 0) (by rw [look_ones_not HX.out]; rfl) ?_)
            | (at_mapUpdate; refine wpList_put rfl _ _ _ 38 3 3 rfl Try.underlying38 Try.underlying3 D.out.1 rfl g rfl (.int .i64 1) rfl ?_; intro w2 hm2 hg2; rw [put_ones HX.out] at hm2; have K2 := Lib.hid (keep_mk hbm hB HR.out D.out.2.1 D.out.2.2.1 hm2 hg2 HK.out); clear hm2 hg2))
          go_roundw
          case rel => exact ⟨k + 1, pn, _, _, _, _, by omega, by go_num, rfl, by omega, K2.out⟩
          case measure => simp [intOf]; omega
      · go_wp2_with fail
        refine (get_told K.out.ring).mono ?_
        rintro e w1 ⟨g, is, row1, nxt1, st1, rfl, hr, hp, hg⟩
        have D := Lib.hid (K.out.deed hbm hB hg)
        have HK := Lib.hid (kept_same K.out.kept hp)
        have HR := Lib.hid hr
        have hcs1 := D.out.2.2.2
        clear hr hp hg hcs
        cases is with
        | false =>
          have K2 : Hid (Keep w w1 b m T row1 nxt1 st1 pn) := Lib.hid ⟨HR.out, D.out.1, D.out.2.1, by have := HK.out; simpa using this, D.out.2.2.1⟩
          go_wp2_with fail
          go_roundw
          case rel => exact ⟨k + 1, pn, _, _, _, _, by omega, by go_num, rfl, by omega, K2.out⟩
          case measure => simp [intOf]; omega
        | true =>
          have HX : Hid (g ∉ T) := Lib.hid (by
            have := kept_nodup HK.out
            intro h
            exact (List.nodup_append.1 this).2.2 g h g (by simp) rfl)
          go_wp2_with (first
            | (at_lookup; refine wpList_look rfl _ _ 38 3 3 rfl Try.underlying38 Try.underlying3 D.out.1 rfl g rfl (zeroI _) (.int .i64 0) (by rw [look_ones_not HX.out]; rfl) ?_)
            | (at_mapUpdate; refine wpList_put rfl _ _ _ 38 3 3 rfl Try.underlying38 Try.underlying3 D.out.1 rfl g rfl (.int .i64 1) rfl ?_; intro w2 hm2 hg2; rw [put_ones HX.out] at hm2; have K2 := Lib.hid (keep_mk hbm hB HR.out D.out.2.1 D.out.2.2.1 hm2 hg2 HK.out); clear hm2 hg2))
          go_roundw
          case rel => exact ⟨k + 1, pn, _, _, _, _, by omega, by go_num, rfl, by omega, K2.out⟩
          case measure => simp [intOf]; omega
    · obtain rfl : k = len := by omega
      clear hcs
      go_wp2_with fail
      refine (list_told K.out.ring).mono ?_
      rintro e w1 ⟨v, rfl, hs, hb, hg⟩
      have K1 := Lib.hid (And.intro (K.out.map.grown hg (by simp)) (And.intro ((hg.block _ K.out.varlt (by simp)).trans K.out.var) (below_none K.out.below hg K.out.below.size)))
      have HS := Lib.hid hs
      have hkept : Kept (T ++ (row ++ nxt.toList)) [] none pn := by have := K.out.kept; unfold Kept at this ⊢; simpa using this
      have HK := Lib.hid hkept
      clear hkept hs hg
      go_wp2_with fail
      refine (tell_is K1.out.2.1 K1.out.1 HS.out (kept_nodup HK.out) hb).mono ?_
      rintro e w2 ⟨rfl, hm2, hg2⟩
      have hs2 := (hg2.block _ (Array.getElem?_eq_some_iff.1 K1.out.2.1).1 (fun e => by have := Option.some.inj e; omega)).trans K1.out.2.1
      have hcs := cell_of_row w2 (m + 1) 0 _ _ _ hs2
      have HB2 := Lib.hid (below_step K1.out.2.2 hg2 (show w.heap.size ≤ m by omega) K1.out.2.2.size)
      have hlen : (ones (T ++ (row ++ nxt.toList))).length = pn := by
        have := HK.out; unfold Kept at this
        have := this.length_eq
        rw [ones_len]; simpa [upFrom_len] using this
      have hln : ∀ ty, (Builtin.len_ #[38] ty #[.map (some m)]).run Try.prog w2 = .ok (.int .i64 pn) w2 := fun ty => by
        rw [← hlen]; exact run_len hm2 Try.underlying38 _ ty rfl
      have HM := Lib.hid hm2
      clear hm2 hg2 hs2 hlen HS
      go_wp2_with fail
      go_loop [88] (fun i => ∃ j : Nat, j ≤ pn ∧ i = .int .i64 j) (fun i => pn - (intOf i).toNat)
      case atStart => exact ⟨0, Nat.zero_le _, rfl⟩
      case round =>
        obtain ⟨j, hj, rfl⟩ := hrel
        by_cases hlen : j < pn
        · have HL : Hid (MapI.look (ones (T ++ (row ++ nxt.toList))) (j : Int) = some (.int .i64 1)) := Lib.hid (look_ones (kept_nodup HK.out) (by
            have := HK.out; unfold Kept at this
            have := this.mem_iff.2 (mem_up hlen)
            simpa using this))
          go_wp2_with (at_lookup; refine wpList_look rfl _ _ 38 3 3 rfl Try.underlying38 Try.underlying3 HM.out rfl (j : Int) rfl (zeroI _) (.int .i64 1) (by rw [HL.out]; rfl) ?_)
          go_round
          case rel => exact ⟨j + 1, by omega, by go_num⟩
          case measure => simp [intOf]; omega
        · obtain rfl : j = pn := by omega
          go_wp2
          go_ret
          exact ⟨rfl, HB2.out⟩

set_option maxRecDepth 100000 in
set_option maxHeartbeats 1000000 in
theorem keeps_long (a : Option Addr) (len cap : Nat) (w : World) (hl : 200 < len) (hm : len ≤ maxLen) :
    Calls Try.prog 5 #[.slice a len cap] w fun e w' => e = .returned (.bool true) ∧ Below w.heap.size w w' := by
  unfold maxLen at hm
  go_enter Try.func5, Try.ntmps5
  go_wp2_with fail
  refine (lives_is w).mono ?_
  rintro e w0 ⟨rfl, hb⟩
  have HB := Lib.hid hb
  clear hb
  go_wp2_with fail
  refine (lives_is w0).mono ?_
  rintro e w1 ⟨rfl, hb⟩
  have HB1 := Lib.hid hb
  clear hb
  go_wp2_with fail
  go_ret
  exact ⟨rfl, below_wide HB.out HB1.out HB.out.size⟩

theorem keeps_any (a : Option Addr) (len cap : Nat) (w : World) (ha : Args.IsFlat [.u8] w a len) :
    Calls Try.prog 5 #[.slice a len cap] w fun e w' => e = .returned (.bool true) ∧ Below w.heap.size w w' := by
  obtain ⟨hm, hnil, f, hf⟩ := ha
  by_cases hl : 200 < len
  · exact keeps_long a len cap w hl hm
  · have hx : ∀ i, i < len → ∃ x, f i = [x] ∧ (Lit.int .u8 x).wf = true := fun i hi => Args.fits1 (hf i hi).1
    refine keeps_short a len cap (fun i => (f i).getD 0 0) w (by omega) hnil (fun b hb i hi => ?_) (fun i hi => ?_)
    · obtain ⟨x, e, _⟩ := hx i hi
      have := ((hf i hi).2 b hb 0 (.int .u8 x) (by simp [e, Args.valsOf])).1
      simpa [List.getD, hi, e] using this
    · obtain ⟨x, e, hw⟩ := hx i hi
      have := bounds_u8 hw
      simp [List.getD, e]; omega
end Go.Proofs.Ytkcoidapnmoljaa.Rng
