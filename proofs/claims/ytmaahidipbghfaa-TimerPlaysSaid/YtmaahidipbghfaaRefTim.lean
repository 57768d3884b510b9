/-
  hostlerref10: the document's timers in one row: New, Has, Of; hostlerlaw10.same.
-/
import Derived.Test.YtmaahidipbghfaaRefHeap
import Derived.Deep.QuietTactic
import Derived.BigQuiet
namespace Go.Proofs.Ytmaahidipbghfaa.Hp
open Go.RowKit Go.Shelf
set_option linter.unusedVariables false
set_option linter.unusedSimpArgs false

abbrev TT : TypeId := 77
abbrev TD : TypeId := 48
/-- A timer of the document: whose heap it stands in, and its entry. -/
structure Tim where
  p : Int
  e : Ent
deriving DecidableEq
def Tim.four (x : Tim) : List Value := [.int .i64 x.p, .int .i64 x.e.w, .int .u64 x.e.o, .int .i64 x.e.g]
def flatT (D : List Tim) : List Value := D.flatMap Tim.four
theorem flatT_len (D : List Tim) : (flatT D).length = D.length * 4 := by
  induction D with
  | nil => rfl
  | cons x t ih => show (x.four ++ flatT t).length = _; rw [List.length_append, ih]; simp [Tim.four]; omega
theorem flatT_append (D E : List Tim) : flatT (D ++ E) = flatT D ++ flatT E := by simp [flatT]
theorem flatT_get : ∀ {D : List Tim} {i : Nat} {x : Tim}, D[i]? = some x → (flatT D)[i * 4]? = some (.int .i64 x.p) ∧ (flatT D)[i * 4 + 1]? = some (.int .i64 x.e.w) ∧ (flatT D)[i * 4 + 2]? = some (.int .u64 x.e.o) ∧ (flatT D)[i * 4 + 3]? = some (.int .i64 x.e.g)
  | y :: t, 0, x, h => by cases h; exact ⟨rfl, rfl, rfl, rfl⟩
  | y :: t, i + 1, x, h => by
    obtain ⟨h0, h1, h2, h3⟩ := flatT_get (D := t) (i := i) (x := x) h
    have key : ∀ j, (flatT (y :: t))[j + 4]? = (flatT t)[j]? := fun j => rfl
    refine ⟨?_, ?_, ?_, ?_⟩
    · rw [show (i + 1) * 4 = i * 4 + 4 by omega, key]; exact h0
    · rw [show (i + 1) * 4 + 1 = (i * 4 + 1) + 4 by omega, key]; exact h1
    · rw [show (i + 1) * 4 + 2 = (i * 4 + 2) + 4 by omega, key]; exact h2
    · rw [show (i + 1) * 4 + 3 = (i * 4 + 3) + 4 by omega, key]; exact h3
def OwnsT (w : World) (base : Nat) (v : Value) (D : List Tim) : Prop := w.ownsRow base TT 4 v D.length (flatT D)
/-- The value is a slice that reads as the document's timers, in a block from lo on. -/
def TSees (w : World) (lo : Nat) (v : Value) (D : List Tim) : Prop :=
  ∃ a cap, v = .slice a D.length cap ∧ D.length ≤ cap ∧ cap ≤ maxLen ∧ (∀ c, a = some c → lo ≤ c.block ∧ c.block < w.heap.size) ∧
    ∀ i x, D[i]? = some x → ∃ c, a = some c ∧ w.cell? (c.add (i * 4)) = some (.int .i64 x.p) ∧ w.cell? ⟨(c.add (i * 4)).block, (c.add (i * 4)).off + 1, none⟩ = some (.int .i64 x.e.w) ∧ w.cell? ⟨(c.add (i * 4)).block, (c.add (i * 4)).off + 2, none⟩ = some (.int .u64 x.e.o) ∧ w.cell? ⟨(c.add (i * 4)).block, (c.add (i * 4)).off + 3, none⟩ = some (.int .i64 x.e.g)
theorem infoT : (Try.prog.info? TT).map (fun i => (i.zero, i.size, i.bytes)) = some (some (.agg #[.int .i64 0, .int .i64 0, .int .u64 0, .int .i64 0]), 4, 32) := by kernel_rfl
theorem tsees_nil (w : World) (lo : Nat) : TSees w lo (.slice none 0 0) [] := ⟨none, 0, rfl, by simp, by simp [maxLen], (fun c h => by cases h), fun i e h => by simp at h⟩
theorem OwnsT.sees {w : World} {base lo : Nat} {v : Value} {D : List Tim} (h : OwnsT w base v D) (hb : lo ≤ base) : TSees w lo v D := by
  rcases h.2 with ⟨rfl, h0⟩ | ⟨g, cap, cur, rfl, h1, h2, h3, h4, h5, h6⟩
  · have : D = [] := List.length_eq_zero_iff.1 h0
    subst this; exact tsees_nil w lo
  · refine ⟨_, cap, rfl, h3, h4, fun c e => by cases e; exact ⟨Nat.le_trans hb h1, (Array.getElem?_eq_some_iff.1 h2).1⟩, fun i e hi => ⟨_, rfl, ?_⟩⟩
    have hadd : (⟨g, 0, none⟩ : Addr).add (i * 4) = ⟨g, i * 4, none⟩ := by unfold Addr.add; split <;> simp_all
    rw [hadd]
    have hil := (List.getElem?_eq_some_iff.1 hi).1
    obtain ⟨f0, f1, f2, f3⟩ := flatT_get hi
    have key : ∀ j u, j < D.length * 4 → (flatT D)[j]? = some u → w.cell? ⟨g, j, none⟩ = some u := fun j u hj hu => by
      rw [cell_of_row w g j cur _ _ h2]
      rw [← h6, List.getElem?_take_of_lt hj] at hu
      simpa using hu
    exact ⟨key (i * 4) _ (by omega) f0, key (i * 4 + 1) _ (by omega) f1, key (i * 4 + 2) _ (by omega) f2, key (i * 4 + 3) _ (by omega) f3⟩
theorem TSees.kept {w w' : World} {lo : Nat} {v : Value} {D : List Tim} (h : TSees w lo v D) (hs : w.heap.size ≤ w'.heap.size) (hb : ∀ j, v.ownBlock = some j → w'.heap[j]? = w.heap[j]?) : TSees w' lo v D := by
  obtain ⟨a, cap, rfl, h1, h2, h3, h4⟩ := h
  refine ⟨a, cap, rfl, h1, h2, fun c e => ⟨(h3 c e).1, Nat.lt_of_lt_of_le (h3 c e).2 hs⟩, fun i e hi => ?_⟩
  obtain ⟨c, rfl, c0, c1, c2, c3⟩ := h4 i e hi
  have hc := hb c.block rfl
  have hc' : w'.heap[(c.add (i * 4)).block]? = w.heap[(c.add (i * 4)).block]? := by rw [addr_block]; exact hc
  exact ⟨c, rfl, (World.cell?_of_block hc').trans c0, (World.cell?_of_block (a := ⟨(c.add (i * 4)).block, _, none⟩) hc').trans c1, (World.cell?_of_block (a := ⟨(c.add (i * 4)).block, _, none⟩) hc').trans c2, (World.cell?_of_block (a := ⟨(c.add (i * 4)).block, _, none⟩) hc').trans c3⟩
theorem TSees.own {w : World} {lo : Nat} {v : Value} {D : List Tim} (h : TSees w lo v D) {j : Nat} (hj : v.ownBlock = some j) : lo ≤ j ∧ j < w.heap.size := by
  obtain ⟨a, cap, rfl, h1, h2, h3, h4⟩ := h
  cases a with
  | none => simp [Value.ownBlock] at hj
  | some c => simp [Value.ownBlock] at hj; subst hj; exact h3 c rfl
theorem TSees.below {w w' : World} {lo : Nat} {v : Value} {D : List Tim} (h : TSees w lo v D) (hb : Below w.heap.size w w') : TSees w' lo v D :=
  h.kept hb.size fun j hj => hb.block j (h.own hj).2
theorem TSees.lower {w : World} {lo lo' : Nat} {v : Value} {D : List Tim} (h : TSees w lo v D) (hl : lo' ≤ lo) : TSees w lo' v D := by
  obtain ⟨a, cap, rfl, h1, h2, h3, h4⟩ := h
  exact ⟨a, cap, rfl, h1, h2, fun c e => ⟨Nat.le_trans hl (h3 c e).1, (h3 c e).2⟩, h4⟩
/-- The document's timers as one value. -/
def docV (n : Int) (v : Value) (o : Int) : Value := .agg #[.int .i64 n, v, .int .u64 o]
/-- The entries of a processor; below 0: all. -/
def sel (p : Int) (D : List Tim) : List Ent := (D.filter fun x => decide (x.p = p) || decide (p < 0)).map (·.e)
theorem sel_append (p : Int) (D E : List Tim) : sel p (D ++ E) = sel p D ++ sel p E := by simp [sel]
theorem take_tim {D : List Tim} {j : Nat} {x : Tim} (h : D[j]? = some x) : D.take (j + 1) = D.take j ++ [x] := by
  rw [List.take_add_one, h]; rfl
theorem below_alloc {w : World} (o : Obj) : Below w.heap.size w (w.alloc o) := (Below.refl _ _).alloc (Nat.le_refl _) _

set_option maxRecDepth 100000 in
set_option maxHeartbeats 2000000 in
theorem rthas_is {w : World} {v : Value} {D : List Tim} {lo : Nat} (hv : TSees w lo v D) (hbig : D.length ≤ 1000) (n o g : Int) {r : Bool} (hr : (D.any fun y => decide (y.e.g = g)) = r) :
    Calls Try.prog 21 #[.agg #[.int .i64 n, v, .int .u64 o], .int .i64 g] w fun x w' => x = .returned (.bool r) ∧ Below w.heap.size w w' := by
  have HV := Lib.hid hv
  obtain ⟨a, cap, rfl, hle, hmx, _, _⟩ := hv
  have hcap : (D.length : Int) ≤ (cap : Int) := by omega
  go_enter Try.func21, Try.ntmps21
  go_wp2_with fail
  have H0 := Lib.hid (below_alloc (w := w) (.cells #[.int .i64 n, .slice a D.length cap, .int .u64 o] TD))
  generalize (w.alloc (.cells #[.int .i64 n, .slice a D.length cap, .int .u64 o] TD)) = W at *
  go_loopw [10] (fun q wr => ∃ k : Nat, k ≤ D.length ∧ q = .int .i64 k ∧ ((D.take k).any fun y => decide (y.e.g = g)) = false ∧ Below w.heap.size w wr) (fun q _ => D.length - (intOf q).toNat)
  case atStart => exact ⟨0, Nat.zero_le _, rfl, rfl, H0.out⟩
  case round =>
    obtain ⟨k, hk, rfl, hd, hb⟩ := hrel
    have H := Lib.hid hb
    have HD := Lib.hid hd
    clear H0 hb hd
    by_cases hlt : k < D.length
    · obtain ⟨x, hx⟩ : ∃ x, D[k]? = some x := ⟨_, List.getElem?_eq_getElem hlt⟩
      obtain ⟨c, rfl, c0, c1, c2, c3⟩ : ∃ c, a = some c ∧ wr.cell? (c.add (k * 4)) = some (.int .i64 x.p) ∧ wr.cell? ⟨(c.add (k * 4)).block, (c.add (k * 4)).off + 1, none⟩ = some (.int .i64 x.e.w) ∧ wr.cell? ⟨(c.add (k * 4)).block, (c.add (k * 4)).off + 2, none⟩ = some (.int .u64 x.e.o) ∧ wr.cell? ⟨(c.add (k * 4)).block, (c.add (k * 4)).off + 3, none⟩ = some (.int .i64 x.e.g) := by
        obtain ⟨_, _, e1, _, _, _, h⟩ := HV.out.below H.out
        obtain ⟨rfl, _, _⟩ := Value.slice.inj e1
        exact h k x hx
      have HX := Lib.hid (And.intro (take_tim hx) (List.mem_of_getElem? hx))
      have H1 := Lib.hid (H.out.trans ((below_alloc (w := wr) (.cells #[.int .i64 x.p, .int .i64 x.e.w, .int .u64 x.e.o, .int .i64 x.e.g] TT)).mono H.out.size))
      clear hx H
      by_cases hg : x.e.g = g
      · have hbq : (x.e.g == g) = true := by simpa using hg
        have hAny : (D.any fun y => decide (y.e.g = g)) = true := List.any_eq_true.2 ⟨x, HX.out.2, by simpa using hg⟩
        rw [hAny] at hr
        subst hr
        clear hg hAny
        go_wp2_with fail
        go_ret
        exact ⟨rfl, H1.out⟩
      · have hbq : (x.e.g == g) = false := by simpa using hg
        have HN2 : Hid (((D.take (k + 1)).any fun y => decide (y.e.g = g)) = false) := Lib.hid (by rw [HX.out.1, List.any_append, HD.out]; simpa using hg)
        clear hg
        go_wp2_with fail
        go_roundw
        case rel => exact ⟨k + 1, by omega, by go_num, HN2.out, H1.out⟩
        case measure => simp [intOf]; omega
    · obtain rfl : k = D.length := by omega
      have hd := HD.out
      rw [List.take_length] at hd
      rw [hd] at hr
      subst hr
      clear hd
      go_wp2_with fail
      go_ret
      exact ⟨rfl, H.out⟩

set_option maxRecDepth 100000 in
set_option maxHeartbeats 2000000 in
theorem rof_is {w : World} {v : Value} {D : List Tim} {lo : Nat} (hv : TSees w lo v D) (hbig : D.length ≤ 1000) (n o p : Int) {L : List Ent} (hL : srt (sel p D) = L) {m : Nat} (hm : L.length = m) :
    Calls Try.prog 20 #[.agg #[.int .i64 n, v, .int .u64 o], .int .i64 p] w fun x w' => ∃ b c, x = .returned (.slice b m c) ∧ RSees w' w.heap.size (.slice b m c) L ∧ Below w.heap.size w w' := by
  subst hL hm
  have HV := Lib.hid hv
  obtain ⟨a, cap, rfl, hle, hmx, _, _⟩ := hv
  have hcap : (D.length : Int) ≤ (cap : Int) := by omega
  go_enter Try.func20, Try.ntmps20
  go_wp2_with fail
  have H0 := Lib.hid (below_alloc (w := w) (.cells #[.int .i64 n, .slice a D.length cap, .int .u64 o] TD))
  generalize (w.alloc (.cells #[.int .i64 n, .slice a D.length cap, .int .u64 o] TD)) = W at *
  go_loopw [5, 11] (fun ov q wr => ∃ k : Nat, k ≤ D.length ∧ q = .int .i64 k ∧ RSees wr w.heap.size ov (srt (sel p (D.take k))) ∧ Below w.heap.size w wr) (fun _ q _ => D.length - (intOf q).toNat)
  case atStart => exact ⟨0, Nat.zero_le _, rfl, by simpa [sel, srt] using rsees_nil _ _, H0.out⟩
  case round =>
    obtain ⟨k, hk, rfl, hs, hb⟩ := hrel
    have H := Lib.hid (And.intro hs hb)
    clear H0 hs hb
    by_cases hlt : k < D.length
    · obtain ⟨x, hx⟩ : ∃ x, D[k]? = some x := ⟨_, List.getElem?_eq_getElem hlt⟩
      obtain ⟨c, rfl, c0, c1, c2, c3⟩ : ∃ c, a = some c ∧ wr.cell? (c.add (k * 4)) = some (.int .i64 x.p) ∧ wr.cell? ⟨(c.add (k * 4)).block, (c.add (k * 4)).off + 1, none⟩ = some (.int .i64 x.e.w) ∧ wr.cell? ⟨(c.add (k * 4)).block, (c.add (k * 4)).off + 2, none⟩ = some (.int .u64 x.e.o) ∧ wr.cell? ⟨(c.add (k * 4)).block, (c.add (k * 4)).off + 3, none⟩ = some (.int .i64 x.e.g) := by
        obtain ⟨_, _, e1, _, _, _, h⟩ := HV.out.below H.out.2
        obtain ⟨rfl, _, _⟩ := Value.slice.inj e1
        exact h k x hx
      have HX := Lib.hid (take_tim hx)
      have hal := below_alloc (w := wr) (.cells #[.int .i64 x.p, .int .i64 x.e.w, .int .u64 x.e.o, .int .i64 x.e.g] TT)
      have H1 := Lib.hid (And.intro (H.out.1.below hal) (H.out.2.trans (hal.mono H.out.2.size)))
      have HL := Lib.hid (show (srt (sel p (D.take k))).length ≤ 1000 by
        rw [srt_len]; unfold sel; rw [List.length_map]
        exact Nat.le_trans (List.length_filter_le _ _) (by rw [List.length_take]; omega))
      clear hx H hal
      by_cases hsel : x.p = p ∨ p < 0
      · have HS : Hid (sel p (D.take (k + 1)) = sel p (D.take k) ++ [x.e]) := Lib.hid (by
          rw [HX.out, sel_append]; congr 1; unfold sel
          rw [List.filter_cons, if_pos (by simpa using hsel)]; rfl)
        rcases (show x.p = p ∨ (x.p ≠ p ∧ p < 0) by omega) with hq | ⟨hq, hp0⟩
        · have hbq : (x.p == p) = true := by simpa using hq
          clear hsel hq
          go_wp2_with fail
          refine (rput_is H1.out.1 HL.out x.e).mono ?_
          rintro e w2 ⟨v2, rfl, ho2, hb2⟩
          rw [ins_srt, ← HS.out] at ho2
          have H2 := Lib.hid (And.intro (OwnsR.sees ho2 H1.out.2.size) (H1.out.2.trans (hb2.mono H1.out.2.size)))
          clear ho2 hb2
          go_wp2_with fail
          go_roundw
          case rel => exact ⟨k + 1, by omega, by go_num, H2.out.1, H2.out.2⟩
          case measure => simp [intOf]; omega
        · have hbq : (x.p == p) = false := by simpa using hq
          clear hsel hq
          go_wp2_with fail
          refine (rput_is H1.out.1 HL.out x.e).mono ?_
          rintro e w2 ⟨v2, rfl, ho2, hb2⟩
          rw [ins_srt, ← HS.out] at ho2
          have H2 := Lib.hid (And.intro (OwnsR.sees ho2 H1.out.2.size) (H1.out.2.trans (hb2.mono H1.out.2.size)))
          clear ho2 hb2
          go_wp2_with fail
          go_roundw
          case rel => exact ⟨k + 1, by omega, by go_num, H2.out.1, H2.out.2⟩
          case measure => simp [intOf]; omega
      · have HS : Hid (sel p (D.take (k + 1)) = sel p (D.take k)) := Lib.hid (by
          rw [HX.out, sel_append]; unfold sel
          rw [List.filter_cons, if_neg (by simpa using hsel)]; simp)
        have hbq : (x.p == p) = false := by simp; omega
        have hp0 : ¬ p < 0 := by omega
        clear hsel
        go_wp2_with fail
        go_roundw
        case rel => exact ⟨k + 1, by omega, by go_num, by rw [HS.out]; exact H1.out.1, H1.out.2⟩
        case measure => simp [intOf]; omega
    · obtain rfl : k = D.length := by omega
      have hs := H.out.1
      rw [List.take_length] at hs
      obtain ⟨b, c, hv2, _⟩ := id hs
      subst hv2
      have H2 := Lib.hid (And.intro hs H.out.2)
      clear hs H
      go_wp2_with fail
      go_ret
      exact ⟨_, _, rfl, H2.out⟩
end Go.Proofs.Ytmaahidipbghfaa.Hp
