import Derived.Test.YtlhblhgbpaipaaaGreatMgHeap2
import Derived.Deep.QuietTactic
import Derived.BigQuiet
import Derived.Deep.DeepCutAuto
/- RefTim -/
namespace Go.Proofs.YtlhblhgbpaipaaaGreat.Hp
open Go.RowKit Go.Shelf
set_option linter.unusedVariables false
set_option linter.unusedSimpArgs false

abbrev TT : TypeId := 53
abbrev TD : TypeId := 29
/-- A timer of the document: whose heap it stands in, and its entry. -/
structure Tim where
  p : Int
  e : Ent
deriving DecidableEq
def Tim.four (x : Tim) : List Value := [.int .i64 x.p, .int .i64 x.e.w, .int .u64 x.e.o, .int .i64 x.e.g]
def flatT (D : List Tim) : List Value := D.flatMap Tim.four
theorem flatT_len (D : List Tim) : (flatT D).length = D.length * 4 := by
  induction D with
  | nil => rfl
  | cons x t ih => show (x.four ++ flatT t).length = _; rw [List.length_append, ih]; simp [Tim.four]; omega
theorem flatT_append (D E : List Tim) : flatT (D ++ E) = flatT D ++ flatT E := by simp [flatT]
theorem flatT_get : ∀ {D : List Tim} {i : Nat} {x : Tim}, D[i]? = some x → (flatT D)[i * 4]? = some (.int .i64 x.p) ∧ (flatT D)[i * 4 + 1]? = some (.int .i64 x.e.w) ∧ (flatT D)[i * 4 + 2]? = some (.int .u64 x.e.o) ∧ (flatT D)[i * 4 + 3]? = some (.int .i64 x.e.g)
  | y :: t, 0, x, h => by cases h; exact ⟨rfl, rfl, rfl, rfl⟩
  | y :: t, i + 1, x, h => by
    obtain ⟨h0, h1, h2, h3⟩ := flatT_get (D := t) (i := i) (x := x) h
    have key : ∀ j, (flatT (y :: t))[j + 4]? = (flatT t)[j]? := fun j => rfl
    refine ⟨?_, ?_, ?_, ?_⟩
    · rw [show (i + 1) * 4 = i * 4 + 4 by omega, key]; exact h0
    · rw [show (i + 1) * 4 + 1 = (i * 4 + 1) + 4 by omega, key]; exact h1
    · rw [show (i + 1) * 4 + 2 = (i * 4 + 2) + 4 by omega, key]; exact h2
    · rw [show (i + 1) * 4 + 3 = (i * 4 + 3) + 4 by omega, key]; exact h3
def OwnsT (w : World) (base : Nat) (v : Value) (D : List Tim) : Prop := w.ownsRow base TT 4 v D.length (flatT D)
/-- The value is a slice that reads as the document's timers, in a block from lo on. -/
def TSees (w : World) (lo : Nat) (v : Value) (D : List Tim) : Prop :=
  ∃ a cap, v = .slice a D.length cap ∧ D.length ≤ cap ∧ cap ≤ maxLen ∧ (∀ c, a = some c → lo ≤ c.block ∧ c.block < w.heap.size) ∧
    ∀ i x, D[i]? = some x → ∃ c, a = some c ∧ w.cell? (c.add (i * 4)) = some (.int .i64 x.p) ∧ w.cell? ⟨(c.add (i * 4)).block, (c.add (i * 4)).off + 1, none⟩ = some (.int .i64 x.e.w) ∧ w.cell? ⟨(c.add (i * 4)).block, (c.add (i * 4)).off + 2, none⟩ = some (.int .u64 x.e.o) ∧ w.cell? ⟨(c.add (i * 4)).block, (c.add (i * 4)).off + 3, none⟩ = some (.int .i64 x.e.g)
theorem infoT : (Tryz.prog.info? TT).map (fun i => (i.zero, i.size, i.bytes)) = some (some (.agg #[.int .i64 0, .int .i64 0, .int .u64 0, .int .i64 0]), 4, 32) := by kernel_rfl
theorem tsees_nil (w : World) (lo : Nat) : TSees w lo (.slice none 0 0) [] := ⟨none, 0, rfl, by simp, by simp [maxLen], (fun c h => by cases h), fun i e h => by simp at h⟩
theorem OwnsT.sees {w : World} {base lo : Nat} {v : Value} {D : List Tim} (h : OwnsT w base v D) (hb : lo ≤ base) : TSees w lo v D := by
  rcases h.2 with ⟨rfl, h0⟩ | ⟨g, cap, cur, rfl, h1, h2, h3, h4, h5, h6⟩
  · have : D = [] := List.length_eq_zero_iff.1 h0
    subst this; exact tsees_nil w lo
  · refine ⟨_, cap, rfl, h3, h4, fun c e => by cases e; exact ⟨Nat.le_trans hb h1, (Array.getElem?_eq_some_iff.1 h2).1⟩, fun i e hi => ⟨_, rfl, ?_⟩⟩
    have hadd : (⟨g, 0, none⟩ : Addr).add (i * 4) = ⟨g, i * 4, none⟩ := by unfold Addr.add; split <;> simp_all
    rw [hadd]
    have hil := (List.getElem?_eq_some_iff.1 hi).1
    obtain ⟨f0, f1, f2, f3⟩ := flatT_get hi
    have key : ∀ j u, j < D.length * 4 → (flatT D)[j]? = some u → w.cell? ⟨g, j, none⟩ = some u := fun j u hj hu => by
      rw [cell_of_row w g j cur _ _ h2]
      rw [← h6, List.getElem?_take_of_lt hj] at hu
      simpa using hu
    exact ⟨key (i * 4) _ (by omega) f0, key (i * 4 + 1) _ (by omega) f1, key (i * 4 + 2) _ (by omega) f2, key (i * 4 + 3) _ (by omega) f3⟩
theorem TSees.kept {w w' : World} {lo : Nat} {v : Value} {D : List Tim} (h : TSees w lo v D) (hs : w.heap.size ≤ w'.heap.size) (hb : ∀ j, v.ownBlock = some j → w'.heap[j]? = w.heap[j]?) : TSees w' lo v D := by
  obtain ⟨a, cap, rfl, h1, h2, h3, h4⟩ := h
  refine ⟨a, cap, rfl, h1, h2, fun c e => ⟨(h3 c e).1, Nat.lt_of_lt_of_le (h3 c e).2 hs⟩, fun i e hi => ?_⟩
  obtain ⟨c, rfl, c0, c1, c2, c3⟩ := h4 i e hi
  have hc := hb c.block rfl
  have hc' : w'.heap[(c.add (i * 4)).block]? = w.heap[(c.add (i * 4)).block]? := by rw [addr_block]; exact hc
  exact ⟨c, rfl, (World.cell?_of_block hc').trans c0, (World.cell?_of_block (a := ⟨(c.add (i * 4)).block, _, none⟩) hc').trans c1, (World.cell?_of_block (a := ⟨(c.add (i * 4)).block, _, none⟩) hc').trans c2, (World.cell?_of_block (a := ⟨(c.add (i * 4)).block, _, none⟩) hc').trans c3⟩
theorem TSees.own {w : World} {lo : Nat} {v : Value} {D : List Tim} (h : TSees w lo v D) {j : Nat} (hj : v.ownBlock = some j) : lo ≤ j ∧ j < w.heap.size := by
  obtain ⟨a, cap, rfl, h1, h2, h3, h4⟩ := h
  cases a with
  | none => simp [Value.ownBlock] at hj
  | some c => simp [Value.ownBlock] at hj; subst hj; exact h3 c rfl
theorem TSees.below {w w' : World} {lo : Nat} {v : Value} {D : List Tim} (h : TSees w lo v D) (hb : Below w.heap.size w w') : TSees w' lo v D :=
  h.kept hb.size fun j hj => hb.block j (h.own hj).2
theorem TSees.lower {w : World} {lo lo' : Nat} {v : Value} {D : List Tim} (h : TSees w lo v D) (hl : lo' ≤ lo) : TSees w lo' v D := by
  obtain ⟨a, cap, rfl, h1, h2, h3, h4⟩ := h
  exact ⟨a, cap, rfl, h1, h2, fun c e => ⟨Nat.le_trans hl (h3 c e).1, (h3 c e).2⟩, h4⟩
/-- The document's timers as one value. -/
def docV (n : Int) (v : Value) (o : Int) : Value := .agg #[.int .i64 n, v, .int .u64 o]
/-- The entries of a processor; below 0: all. -/
def sel (p : Int) (D : List Tim) : List Ent := (D.filter fun x => decide (x.p = p) || decide (p < 0)).map (·.e)
theorem sel_append (p : Int) (D E : List Tim) : sel p (D ++ E) = sel p D ++ sel p E := by simp [sel]
theorem take_tim {D : List Tim} {j : Nat} {x : Tim} (h : D[j]? = some x) : D.take (j + 1) = D.take j ++ [x] := by
  rw [List.take_add_one, h]; rfl
theorem below_alloc {w : World} (o : Obj) : Below w.heap.size w (w.alloc o) := (Below.refl _ _).alloc (Nat.le_refl _) _

set_option maxRecDepth 100000 in
set_option maxHeartbeats 2000000 in
theorem rthas_is {w : World} {v : Value} {D : List Tim} {lo : Nat} (hv : TSees w lo v D) (hbig : D.length ≤ 1000) (n o g : Int) {r : Bool} (hr : (D.any fun y => decide (y.e.g = g)) = r) :
    Calls Tryz.prog 38 #[.agg #[.int .i64 n, v, .int .u64 o], .int .i64 g] w fun x w' => x = .returned (.bool r) ∧ Below w.heap.size w w' := by
  have HV := Lib.hid hv
  obtain ⟨a, cap, rfl, hle, hmx, _, _⟩ := hv
  have hcap : (D.length : Int) ≤ (cap : Int) := by omega
  go_enter Tryz.func38, Tryz.ntmps38
  go_wp2_with fail
  have H0 := Lib.hid (below_alloc (w := w) (.cells #[.int .i64 n, .slice a D.length cap, .int .u64 o] TD))
  generalize (w.alloc (.cells #[.int .i64 n, .slice a D.length cap, .int .u64 o] TD)) = W at *
  go_loopw [10] (fun q wr => ∃ k : Nat, k ≤ D.length ∧ q = .int .i64 k ∧ ((D.take k).any fun y => decide (y.e.g = g)) = false ∧ Below w.heap.size w wr) (fun q _ => D.length - (intOf q).toNat)
  case atStart => exact ⟨0, Nat.zero_le _, rfl, rfl, H0.out⟩
  case round =>
    obtain ⟨k, hk, rfl, hd, hb⟩ := hrel
    have H := Lib.hid hb
    have HD := Lib.hid hd
    clear H0 hb hd
    by_cases hlt : k < D.length
    · obtain ⟨x, hx⟩ : ∃ x, D[k]? = some x := ⟨_, List.getElem?_eq_getElem hlt⟩
      obtain ⟨c, rfl, c0, c1, c2, c3⟩ : ∃ c, a = some c ∧ wr.cell? (c.add (k * 4)) = some (.int .i64 x.p) ∧ wr.cell? ⟨(c.add (k * 4)).block, (c.add (k * 4)).off + 1, none⟩ = some (.int .i64 x.e.w) ∧ wr.cell? ⟨(c.add (k * 4)).block, (c.add (k * 4)).off + 2, none⟩ = some (.int .u64 x.e.o) ∧ wr.cell? ⟨(c.add (k * 4)).block, (c.add (k * 4)).off + 3, none⟩ = some (.int .i64 x.e.g) := by
        obtain ⟨_, _, e1, _, _, _, h⟩ := HV.out.below H.out
        obtain ⟨rfl, _, _⟩ := Value.slice.inj e1
        exact h k x hx
      have HX := Lib.hid (And.intro (take_tim hx) (List.mem_of_getElem? hx))
      have H1 := Lib.hid (H.out.trans ((below_alloc (w := wr) (.cells #[.int .i64 x.p, .int .i64 x.e.w, .int .u64 x.e.o, .int .i64 x.e.g] TT)).mono H.out.size))
      clear hx H
      by_cases hg : x.e.g = g
      · have hbq : (x.e.g == g) = true := by simpa using hg
        have hAny : (D.any fun y => decide (y.e.g = g)) = true := List.any_eq_true.2 ⟨x, HX.out.2, by simpa using hg⟩
        rw [hAny] at hr
        subst hr
        clear hg hAny
        go_wp2_with fail
        go_ret
        exact ⟨rfl, H1.out⟩
      · have hbq : (x.e.g == g) = false := by simpa using hg
        have HN2 : Hid (((D.take (k + 1)).any fun y => decide (y.e.g = g)) = false) := Lib.hid (by rw [HX.out.1, List.any_append, HD.out]; simpa using hg)
        clear hg
        go_wp2_with fail
        go_roundw
        case rel => exact ⟨k + 1, by omega, by go_num, HN2.out, H1.out⟩
        case measure => simp [intOf]; omega
    · obtain rfl : k = D.length := by omega
      have hd := HD.out
      rw [List.take_length] at hd
      rw [hd] at hr
      subst hr
      clear hd
      go_wp2_with fail
      go_ret
      exact ⟨rfl, H.out⟩

set_option maxRecDepth 100000 in
set_option maxHeartbeats 2000000 in
theorem rof_is {w : World} {v : Value} {D : List Tim} {lo : Nat} (hv : TSees w lo v D) (hbig : D.length ≤ 1000) (n o p : Int) {L : List Ent} (hL : srt (sel p D) = L) {m : Nat} (hm : L.length = m) :
    Calls Tryz.prog 55 #[.agg #[.int .i64 n, v, .int .u64 o], .int .i64 p] w fun x w' => ∃ b c, x = .returned (.slice b m c) ∧ RSees w' w.heap.size (.slice b m c) L ∧ Below w.heap.size w w' := by
  subst hL hm
  have HV := Lib.hid hv
  obtain ⟨a, cap, rfl, hle, hmx, _, _⟩ := hv
  have hcap : (D.length : Int) ≤ (cap : Int) := by omega
  go_enter Tryz.func55, Tryz.ntmps55
  go_wp2_with fail
  have H0 := Lib.hid (below_alloc (w := w) (.cells #[.int .i64 n, .slice a D.length cap, .int .u64 o] TD))
  generalize (w.alloc (.cells #[.int .i64 n, .slice a D.length cap, .int .u64 o] TD)) = W at *
  go_loopw [5, 11] (fun ov q wr => ∃ k : Nat, k ≤ D.length ∧ q = .int .i64 k ∧ RSees wr w.heap.size ov (srt (sel p (D.take k))) ∧ Below w.heap.size w wr) (fun _ q _ => D.length - (intOf q).toNat)
  case atStart => exact ⟨0, Nat.zero_le _, rfl, by simpa [sel, srt] using rsees_nil _ _, H0.out⟩
  case round =>
    obtain ⟨k, hk, rfl, hs, hb⟩ := hrel
    have H := Lib.hid (And.intro hs hb)
    clear H0 hs hb
    by_cases hlt : k < D.length
    · obtain ⟨x, hx⟩ : ∃ x, D[k]? = some x := ⟨_, List.getElem?_eq_getElem hlt⟩
      obtain ⟨c, rfl, c0, c1, c2, c3⟩ : ∃ c, a = some c ∧ wr.cell? (c.add (k * 4)) = some (.int .i64 x.p) ∧ wr.cell? ⟨(c.add (k * 4)).block, (c.add (k * 4)).off + 1, none⟩ = some (.int .i64 x.e.w) ∧ wr.cell? ⟨(c.add (k * 4)).block, (c.add (k * 4)).off + 2, none⟩ = some (.int .u64 x.e.o) ∧ wr.cell? ⟨(c.add (k * 4)).block, (c.add (k * 4)).off + 3, none⟩ = some (.int .i64 x.e.g) := by
        obtain ⟨_, _, e1, _, _, _, h⟩ := HV.out.below H.out.2
        obtain ⟨rfl, _, _⟩ := Value.slice.inj e1
        exact h k x hx
      have HX := Lib.hid (take_tim hx)
      have hal := below_alloc (w := wr) (.cells #[.int .i64 x.p, .int .i64 x.e.w, .int .u64 x.e.o, .int .i64 x.e.g] TT)
      have H1 := Lib.hid (And.intro (H.out.1.below hal) (H.out.2.trans (hal.mono H.out.2.size)))
      have HL := Lib.hid (show (srt (sel p (D.take k))).length ≤ 1000 by
        rw [srt_len]; unfold sel; rw [List.length_map]
        exact Nat.le_trans (List.length_filter_le _ _) (by rw [List.length_take]; omega))
      clear hx H hal
      by_cases hsel : x.p = p ∨ p < 0
      · have HS : Hid (sel p (D.take (k + 1)) = sel p (D.take k) ++ [x.e]) := Lib.hid (by
          rw [HX.out, sel_append]; congr 1; unfold sel
          rw [List.filter_cons, if_pos (by simpa using hsel)]; rfl)
        rcases (show x.p = p ∨ (x.p ≠ p ∧ p < 0) by omega) with hq | ⟨hq, hp0⟩
        · have hbq : (x.p == p) = true := by simpa using hq
          clear hsel hq
          go_wp2_with fail
          refine (rput_is H1.out.1 HL.out x.e).mono ?_
          rintro e w2 ⟨v2, rfl, ho2, hb2⟩
          rw [ins_srt, ← HS.out] at ho2
          have H2 := Lib.hid (And.intro (OwnsR.sees ho2 H1.out.2.size) (H1.out.2.trans (hb2.mono H1.out.2.size)))
          clear ho2 hb2
          go_wp2_with fail
          go_roundw
          case rel => exact ⟨k + 1, by omega, by go_num, H2.out.1, H2.out.2⟩
          case measure => simp [intOf]; omega
        · have hbq : (x.p == p) = false := by simpa using hq
          clear hsel hq
          go_wp2_with fail
          refine (rput_is H1.out.1 HL.out x.e).mono ?_
          rintro e w2 ⟨v2, rfl, ho2, hb2⟩
          rw [ins_srt, ← HS.out] at ho2
          have H2 := Lib.hid (And.intro (OwnsR.sees ho2 H1.out.2.size) (H1.out.2.trans (hb2.mono H1.out.2.size)))
          clear ho2 hb2
          go_wp2_with fail
          go_roundw
          case rel => exact ⟨k + 1, by omega, by go_num, H2.out.1, H2.out.2⟩
          case measure => simp [intOf]; omega
      · have HS : Hid (sel p (D.take (k + 1)) = sel p (D.take k)) := Lib.hid (by
          rw [HX.out, sel_append]; unfold sel
          rw [List.filter_cons, if_neg (by simpa using hsel)]; simp)
        have hbq : (x.p == p) = false := by simp; omega
        have hp0 : ¬ p < 0 := by omega
        clear hsel
        go_wp2_with fail
        go_roundw
        case rel => exact ⟨k + 1, by omega, by go_num, by rw [HS.out]; exact H1.out.1, H1.out.2⟩
        case measure => simp [intOf]; omega
    · obtain rfl : k = D.length := by omega
      have hs := H.out.1
      rw [List.take_length] at hs
      obtain ⟨b, c, hv2, _⟩ := id hs
      subst hv2
      have H2 := Lib.hid (And.intro hs H.out.2)
      clear hs H
      go_wp2_with fail
      go_ret
      exact ⟨_, _, rfl, H2.out⟩
end Go.Proofs.YtlhblhgbpaipaaaGreat.Hp

/- RefTim2 -/
namespace Go.Proofs.YtlhblhgbpaipaaaGreat.Hp
open Go.RowKit Go.Shelf
set_option linter.unusedVariables false
set_option linter.unusedSimpArgs false

/-- A result that lies in a cell: the document's timers. -/
theorem results_td1 {fn : Func} {p : Tmp} (h : fn.results = #[.cell p TD]) (tmps : Array Value) (w : World) (B : Nat) (x y z : Value) (hB : w.heap[B]? = some (.cells #[x, y, z] TD (0, 0)))
    (hp : tmps.getD p undef = .pointer (some ⟨B, 0, none⟩)) : (results fn tmps).run Tryz.prog w = .ok (.agg #[x, y, z]) w := by
  have c0 : w.cell? ⟨B, 0, none⟩ = some x := cell_of_row _ _ 0 _ _ _ hB
  have c1 : w.cell? ⟨B, 1, none⟩ = some y := cell_of_row _ _ 1 _ _ _ hB
  have c2 : w.cell? ⟨B, 2, none⟩ = some z := cell_of_row _ _ 2 _ _ _ hB
  have hp' : tmps[p]?.getD undef = .pointer (some ⟨B, 0, none⟩) := by simpa using hp
  clear hB hp
  simp [results, h, hp', asAddr, go_sem, c0, c1, c2]
theorem results_td2 {fn : Func} {p q : Tmp} (h : fn.results = #[.cell p TD, .tmp q]) (tmps : Array Value) (w : World) (B : Nat) (x y z u : Value) (hB : w.heap[B]? = some (.cells #[x, y, z] TD (0, 0)))
    (hp : tmps.getD p undef = .pointer (some ⟨B, 0, none⟩)) (hq : tmps.getD q undef = u) : (results fn tmps).run Tryz.prog w = .ok (.tuple #[.agg #[x, y, z], u]) w := by
  have c0 : w.cell? ⟨B, 0, none⟩ = some x := cell_of_row _ _ 0 _ _ _ hB
  have c1 : w.cell? ⟨B, 1, none⟩ = some y := cell_of_row _ _ 1 _ _ _ hB
  have c2 : w.cell? ⟨B, 2, none⟩ = some z := cell_of_row _ _ 2 _ _ _ hB
  have hp' : tmps[p]?.getD undef = .pointer (some ⟨B, 0, none⟩) := by simpa using hp
  have hq' : tmps[q]?.getD undef = u := by simpa using hq
  clear hB hp hq
  simp [results, h, hp', hq', asAddr, go_sem, c0, c1, c2]
theorem results_td3 {fn : Func} {p q r : Tmp} (h : fn.results = #[.cell p TD, .cell q TE, .tmp r]) (tmps : Array Value) (w : World) (B C : Nat) (x y z u : Value) (e : Ent) (hB : w.heap[B]? = some (.cells #[x, y, z] TD (0, 0)))
    (hC : w.heap[C]? = some (.cells e.cells TE (0, 0)))
    (hp : tmps.getD p undef = .pointer (some ⟨B, 0, none⟩)) (hq : tmps.getD q undef = .pointer (some ⟨C, 0, none⟩)) (hr : tmps.getD r undef = u) : (results fn tmps).run Tryz.prog w = .ok (.tuple #[.agg #[x, y, z], e.agg, u]) w := by
  have c0 : w.cell? ⟨B, 0, none⟩ = some x := cell_of_row _ _ 0 _ _ _ hB
  have c1 : w.cell? ⟨B, 1, none⟩ = some y := cell_of_row _ _ 1 _ _ _ hB
  have c2 : w.cell? ⟨B, 2, none⟩ = some z := cell_of_row _ _ 2 _ _ _ hB
  have d0 : w.cell? ⟨C, 0, none⟩ = some (.int .i64 e.w) := cell_of_row _ _ 0 _ _ _ hC
  have d1 : w.cell? ⟨C, 1, none⟩ = some (.int .u64 e.o) := cell_of_row _ _ 1 _ _ _ hC
  have d2 : w.cell? ⟨C, 2, none⟩ = some (.int .i64 e.g) := cell_of_row _ _ 2 _ _ _ hC
  have hp' : tmps[p]?.getD undef = .pointer (some ⟨B, 0, none⟩) := by simpa using hp
  have hq' : tmps[q]?.getD undef = .pointer (some ⟨C, 0, none⟩) := by simpa using hq
  have hr' : tmps[r]?.getD undef = u := by simpa using hr
  clear hB hC hp hq hr
  simp [results, h, hp', hq', hr', asAddr, go_sem, c0, c1, c2, d0, d1, d2]
theorem td_set {w : World} {B : Nat} {a b c : Value} (h : w.heap[B]? = some (.cells #[a, b, c] TD (0, 0))) (x y z : Value) :
    (((w.setCell ⟨B, 0, none⟩ x).setCell ⟨B, 1, none⟩ y).setCell ⟨B, 2, none⟩ z).heap[B]? = some (.cells #[x, y, z] TD (0, 0)) :=
  heap_setCell_same _ B 2 _ _ _ (heap_setCell_same _ B 1 _ _ _ (heap_setCell_same _ B 0 _ _ _ h))

set_option maxRecDepth 100000 in
set_option maxHeartbeats 1000000 in
theorem rnew_is (w : World) (p : Int) (n : Nat) (hn : (n : Int) = if p < 1 then 1 else if 64 < p then 64 else p) :
    Calls Tryz.prog 21 #[.int .i64 p] w fun e w' => e = .returned (.agg #[.int .i64 n, .slice none 0 0, .int .u64 0]) ∧ Below w.heap.size w w' := by
  by_cases h1 : p < 1
  · have e1 : (1 : Int) = n := by rw [hn, if_pos h1]
    have E1 := Lib.hid e1
    clear e1 hn
    go_enter Tryz.func21, Tryz.ntmps21
    go_wp2_with fail
    refine bodyPost_ret (results_td1 rfl _ _ w.heap.size (.int .i64 1) (.slice none 0 0) (.int .u64 0) (heap_alloc_new _ _) rfl) rfl ⟨by rw [← E1.out], below_alloc _⟩
  · by_cases h2 : 64 < p
    · have e1 : (64 : Int) = n := by rw [hn, if_neg h1, if_pos h2]
      have E1 := Lib.hid e1
      clear e1 hn
      go_enter Tryz.func21, Tryz.ntmps21
      go_wp2_with fail
      refine bodyPost_ret (results_td1 rfl _ _ w.heap.size (.int .i64 64) (.slice none 0 0) (.int .u64 0) (heap_alloc_new _ _) rfl) rfl ⟨by rw [← E1.out], below_alloc _⟩
    · have e1 : p = n := by rw [hn, if_neg h1, if_neg h2]
      have E1 := Lib.hid e1
      clear e1 hn
      go_enter Tryz.func21, Tryz.ntmps21
      go_wp2_with fail
      refine bodyPost_ret (results_td1 rfl _ _ w.heap.size (.int .i64 p) (.slice none 0 0) (.int .u64 0) (heap_alloc_new _ _) rfl) rfl ⟨by rw [← E1.out], below_alloc _⟩
end Go.Proofs.YtlhblhgbpaipaaaGreat.Hp

/- RefTim3 -/
namespace Go.Proofs.YtlhblhgbpaipaaaGreat.Hp
open Go.RowKit Go.Shelf
set_option linter.unusedVariables false
set_option linter.unusedSimpArgs false

theorem wpList_append_tim {ops : Array Oper} {rest : List Oper} {o : Oper} {a : Act} {Q : Exit → Act → World → Prop} (hgd : o.guard = none) (s x : Operand)
    (ho : o.op = .call { callee := .builtin .append, args := #[s, x], argTypes := #[26, 26] }) (W : World) (base : Nat) (v : Value) (D : List Tim) (e : Tim)
    (N : Nat) (hN : W.heap.size = N) (hs : a.eval s = v) (hown : OwnsT W base v D) (hx : a.eval x = .slice (some ⟨N, 0, none⟩) 1 1) (hlen : D.length ≤ 100000) (hbase : base ≤ W.heap.size)
    (h : ∀ v' w', OwnsT w' base v' (D ++ [e]) → W.grownBy w' v.ownBlock → wpList Tryz.prog ops Q rest (a.put o.dst v') w') : wpList Tryz.prog ops Q (o :: rest) a (W.alloc (.cells #[.int .i64 e.p, .int .i64 e.e.w, .int .u64 e.e.o, .int .i64 e.e.g] TT)) := by
  subst hN
  obtain ⟨i0, hi, hz0, hz1, hz2⟩ := info_parts infoT
  refine wpList_append_own _ hgd s x 26 ho base TT i0 _ 4 32 Tryz.underlying26 hi hz0 hz1 hz2 rfl (by decide) v D.length (flatT D) hs (World.ownsRow.alloc hown _) ⟨W.heap.size, 0, none⟩ 1 1 e.four hx rfl (World.news_of_block (cs := #[.int .i64 e.p, .int .i64 e.e.w, .int .u64 e.e.o, .int .i64 e.e.g]) (heap_alloc_new _ _)) (by simp [Value.oneCell', Tim.four]) (by unfold maxLen; omega) (by omega) (by simp; omega) fun v' w' h1 h2 _ => h v' w' (by unfold OwnsT; rw [List.length_append, flatT_append]; simpa [flatT] using h1) ?_
  exact ⟨h2.os, h2.tape, h2.output, Nat.le_trans (by simp) h2.size, fun j hj hne => (h2.block j (by simp; omega) hne).trans (by rw [heap_alloc_old (h := hj)])⟩
theorem neq_te (a b : Ent) (w : World) : (binOp .neq TE a.agg b.agg).run Tryz.prog w = .ok (.bool (!decide (a = b))) w := by
  go_simp
  cases a; cases b
  simp only [Ent.mk.injEq]
  (repeat' split) <;> simp [*]
theorem ownsT_kept {w w' : World} {base : Nat} {v : Value} {D : List Tim} (h : OwnsT w base v D) (hb : Below w.heap.size w w') : OwnsT w' base v D := by
  refine World.ownsRow.kept h (row := none) ⟨hb.os, hb.tape, hb.output, hb.size, fun k hk _ => hb.block k hk⟩ ?_
  cases v.ownBlock <;> simp
theorem below_ownT {w a b : World} {v : Value} {D : List Tim} {B n : Nat} (h : Below n w a) (ho : OwnsT a B v D) (k : a.grownBy b v.ownBlock) (hB : n ≤ a.heap.size ∧ n ≤ B) : Below n w b :=
  ⟨k.os.trans h.os, k.tape.trans h.tape, k.output.trans h.output, Nat.le_trans h.size k.size, fun j hj => (k.block j (by omega) (fun e => by have := (World.ownsRow.lt ho j e.symm).1; omega)).trans (h.block j hj)⟩

theorem box_setR {w : World} {B : Nat} {a b c : Value} (h : w.heap[B]? = some (.cells #[a, b, c] TE (0, 0))) (e : Ent) :
    (((w.setCell ⟨B, 0, none⟩ (.int .i64 e.w)).setCell ⟨B, 1, none⟩ (.int .u64 e.o)).setCell ⟨B, 2, none⟩ (.int .i64 e.g)).heap[B]? = some (.cells e.cells TE (0, 0)) :=
  heap_setCell_same _ B 2 _ _ _ (heap_setCell_same _ B 1 _ _ _ (heap_setCell_same _ B 0 _ _ _ h))

theorem below_box {w w1 : World} {B k i j l : Nat} {a b c : Value} (h : Below B w w1) (hk : B ≤ k) : Below B w (((w1.setCell ⟨k, i, none⟩ a).setCell ⟨k, j, none⟩ b).setCell ⟨k, l, none⟩ c) :=
  ⟨h.os, h.tape, h.output, by rw [box_size]; exact h.size, fun q hq => (box_other (by omega)).trans (h.block q hq)⟩

/-- The three blocks that Take lays first. -/
theorem take_blocks (w : World) (n o : Int) (v : Value) : ∃ W, W = ((w.alloc (.cells #[.int .i64 n, v, .int .u64 o] TD)).alloc (.cells #[.int .i64 0, .slice none 0 0, .int .u64 0] TD)).alloc (.cells #[.int .i64 0, .int .u64 0, .int .i64 0] TE) ∧
    W.heap[w.heap.size]? = some (.cells #[.int .i64 n, v, .int .u64 o] TD (0, 0)) ∧ W.heap[w.heap.size + 1]? = some (.cells #[.int .i64 0, .slice none 0 0, .int .u64 0] TD (0, 0)) ∧
    W.heap[w.heap.size + 2]? = some (.cells #[.int .i64 0, .int .u64 0, .int .i64 0] TE (0, 0)) ∧ Below w.heap.size w W ∧ W.heap.size = w.heap.size + 3 := by
  refine ⟨_, rfl, ?_, ?_, ?_, ?_, by simp⟩
  · exact (heap_alloc_old _ _ (by simp; omega)).trans ((heap_alloc_old _ _ (by simp)).trans (heap_alloc_new _ _))
  · refine (heap_alloc_old _ _ (by simp)).trans ?_
    have := heap_alloc_new (w.alloc (.cells #[.int .i64 n, v, .int .u64 o] TD)) (.cells #[.int .i64 0, .slice none 0 0, .int .u64 0] TD)
    simpa using this
  · have := heap_alloc_new ((w.alloc (.cells #[.int .i64 n, v, .int .u64 o] TD)).alloc (.cells #[.int .i64 0, .slice none 0 0, .int .u64 0] TD)) (.cells #[.int .i64 0, .int .u64 0, .int .i64 0] TE)
    simpa using this
  · exact (((Below.refl _ _).alloc (Nat.le_refl _) _).alloc (by simp) _).alloc (by simp; omega) _

set_option maxRecDepth 100000 in
set_option maxHeartbeats 2000000 in
theorem rtake_no {w : World} {v : Value} {D : List Tim} {lo : Nat} (hv : TSees w lo v D) (hbig : D.length ≤ 1000) (n o now : Int) {L : List Ent} (hL : srt (sel (-1) D) = L) (hno : ∀ x t, L = x :: t → now < x.w) :
    Calls Tryz.prog 33 #[.agg #[.int .i64 n, v, .int .u64 o], .int .i64 now] w fun x w' => x = .returned (.tuple #[.agg #[.int .i64 n, v, .int .u64 o], (Ent.mk 0 0 0).agg, .bool false]) ∧ Below w.heap.size w w' := by
  have HV := Lib.hid hv
  have HNO := Lib.hid hno
  obtain ⟨a, cap, rfl, hle, hmx, _, _⟩ := hv
  obtain ⟨W, hW, h0, h1, h2, hb, hs⟩ := take_blocks w n o (.slice a D.length cap)
  have H := Lib.hid (And.intro h0 (And.intro h1 (And.intro h2 (And.intro hb hs))))
  have hW' : Hid (W = _) := Lib.hid hW
  clear h0 h1 h2 hb hno hs
  go_enter Tryz.func33, Tryz.ntmps33
  go_wp2_with fail
  rw [← hW]
  clear hW hW'
  refine (rof_is (HV.out.below H.out.2.2.2.1) hbig n o (-1) hL rfl).mono ?_
  rintro e w1 ⟨b, c, rfl, hr, hb1⟩
  have hsz1 := hb1.size
  have K := Lib.hid (show w1.heap[w.heap.size]? = _ ∧ w1.heap[w.heap.size + 1]? = _ ∧ w1.heap[w.heap.size + 2]? = _ ∧ Below w.heap.size w w1 from
    ⟨(hb1.block _ (by have := H.out.2.2.2.2; omega)).trans H.out.1, (hb1.block _ (by have := H.out.2.2.2.2; omega)).trans H.out.2.1, (hb1.block _ (by have := H.out.2.2.2.2; omega)).trans H.out.2.2.1, H.out.2.2.2.1.trans (hb1.mono H.out.2.2.2.1.size)⟩)
  have HR := Lib.hid hr
  have z0 : w1.cell? ⟨w.heap.size, 0, none⟩ = some (.int .i64 n) := cell_of_row _ _ 0 _ _ _ K.out.1
  have z1 : w1.cell? ⟨w.heap.size, 1, none⟩ = some (.slice a D.length cap) := cell_of_row _ _ 1 _ _ _ K.out.1
  have z2 : w1.cell? ⟨w.heap.size, 2, none⟩ = some (.int .u64 o) := cell_of_row _ _ 2 _ _ _ K.out.1
  have y0 : w1.cell? ⟨w.heap.size + 1, 0, none⟩ = some (.int .i64 0) := cell_of_row _ _ 0 _ _ _ K.out.2.1
  have y1 : w1.cell? ⟨w.heap.size + 1, 1, none⟩ = some (.slice none 0 0) := cell_of_row _ _ 1 _ _ _ K.out.2.1
  have y2 : w1.cell? ⟨w.heap.size + 1, 2, none⟩ = some (.int .u64 0) := cell_of_row _ _ 2 _ _ _ K.out.2.1
  have x0 : w1.cell? ⟨w.heap.size + 2, 0, none⟩ = some (.int .i64 0) := cell_of_row _ _ 0 _ _ _ K.out.2.2.1
  have x1 : w1.cell? ⟨w.heap.size + 2, 1, none⟩ = some (.int .u64 0) := cell_of_row _ _ 1 _ _ _ K.out.2.2.1
  have x2 : w1.cell? ⟨w.heap.size + 2, 2, none⟩ = some (.int .i64 0) := cell_of_row _ _ 2 _ _ _ K.out.2.2.1
  have fy : ∀ i, w1.frozen? ⟨w.heap.size + 1, i, none⟩ = false := fun i => frozen_of_row _ _ i _ _ K.out.2.1
  have fx : ∀ i, w1.frozen? ⟨w.heap.size + 2, i, none⟩ = false := fun i => frozen_of_row _ _ i _ _ K.out.2.2.1
  have hne : w.heap.size + 1 ≠ w.heap.size + 2 := by omega
  have T := Lib.hid (td_set K.out.2.1 (.int .i64 n) (.slice a D.length cap) (.int .u64 o))
  clear hr hb1 H
  rcases L with _ | ⟨x, t⟩
  · go_wp2_with fail
    refine bodyPost_ret (results_td3 rfl _ _ (w.heap.size + 1) (w.heap.size + 2) (.int .i64 n) (.slice a D.length cap) (.int .u64 o) (.bool false) ⟨0, 0, 0⟩ ?_ ?_ rfl rfl rfl) rfl ⟨rfl, ?_⟩
    · exact (box_other (by omega)).trans T.out
    · exact box_setR (((box_other (by omega)).trans K.out.2.2.1)) ⟨0, 0, 0⟩
    · exact below_box (below_box K.out.2.2.2 (by omega)) (by omega)
  · have hn : now < x.w := HNO.out x t rfl
    obtain ⟨c', rfl, c0⟩ : ∃ c', b = some c' ∧ w1.cell? c' = some (.int .i64 x.w) := by
      obtain ⟨_, _, e, _, _, _, h⟩ := HR.out
      obtain ⟨rfl, _, _⟩ := Value.slice.inj e
      obtain ⟨c', h5, h6, _⟩ := h 0 x rfl
      exact ⟨c', h5, by simpa [Addr.add] using h6⟩
    obtain ⟨q, hq⟩ : ∃ q, (x :: t).length = q + 1 := ⟨t.length, rfl⟩
    have hcq : q + 1 ≤ c := by
      obtain ⟨_, _, e, h5, _⟩ := HR.out
      obtain ⟨_, _, rfl⟩ := Value.slice.inj e
      omega
    rw [hq]
    clear hq
    go_wp2_with fail
    refine bodyPost_ret (results_td3 rfl _ _ (w.heap.size + 1) (w.heap.size + 2) (.int .i64 n) (.slice a D.length cap) (.int .u64 o) (.bool false) ⟨0, 0, 0⟩ ?_ ?_ rfl rfl rfl) rfl ⟨rfl, ?_⟩
    · exact (box_other (by omega)).trans T.out
    · exact box_setR (((box_other (by omega)).trans K.out.2.2.1)) ⟨0, 0, 0⟩
    · exact below_box (below_box K.out.2.2.2 (by omega)) (by omega)
end Go.Proofs.YtlhblhgbpaipaaaGreat.Hp
