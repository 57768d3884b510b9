import Derived.Test.YtlhblhgbpaipaaaGreatRows
import Derived.WalkKit
import Derived.WalkSpells
import Derived.WalkLawsBesides
import Derived.Lib.Hide
import Derived.Test.YtlhblhgbpaipaaaGreatRefTim7
import Derived.Test.YtlhblhgbpaipaaaGreatPollAny
import Derived.Test.YtlhblhgbpaipaaaGreatMgTim5
import Derived.Deep.RegionHeld3
import Derived.Deep.DeepCutAuto
/- Clock -/
namespace Go.Proofs.YtlhblhgbpaipaaaGreat.Clk
open Go.RowKit

/-- Go's max of two. -/
def mx (a b : Int) : Int := if a < b then b else a
theorem max2_is (k k' : IntKind) (x y : Int) : Builtin.max2 (.int k x) (.int k' y) = pure (.int k (mx x y)) := by
  simp only [Builtin.max2, gt_iff_lt, mx]
theorem max_two (ats : Array TypeId) (ty : TypeId) (a b : Value) : Builtin.max_ ats ty #[a, b] = (Builtin.max2 a b >>= fun s => pure s) := by simp only [Builtin.max_, List.foldlM_cons, List.foldlM_nil]
attribute [local go_sem] max2_is max_two

/-- The sum, held at either end. -/
def sat (t d : Int) : Int := if 9223372036854775807 < t + d then 9223372036854775807 else if t + d < -9223372036854775808 then -9223372036854775808 else t + d

def I64 (t : Int) : Prop := -9223372036854775808 ≤ t ∧ t ≤ 9223372036854775807

theorem wrap_in {x : Int} (h : I64 x) : wrap64 x = x := by unfold wrap64; unfold I64 at h; omega

theorem sat_in {t d : Int} (_ht : I64 t) (_hd : I64 d) : I64 (sat t d) := by
  unfold sat I64 at *; (repeat' split) <;> omega

set_option maxHeartbeats 400000 in
theorem sum_any (t d : Int) (ht : I64 t) (hd : I64 d) (w : World) :
    Calls Tryz.prog 61 #[.int .i64 t, .int .i64 d] w fun e w' => e = .returned (.int .i64 (sat t d)) ∧ w = w' := by
  have H : Hid (0 < d ∧ wrap64 (t + d) < t ∧ sat t d = 9223372036854775807 ∨ 0 < d ∧ ¬ wrap64 (t + d) < t ∧ sat t d = wrap64 (t + d) ∨
      d < 0 ∧ t < wrap64 (t + d) ∧ sat t d = -9223372036854775808 ∨ d < 0 ∧ ¬ t < wrap64 (t + d) ∧ sat t d = wrap64 (t + d) ∨ d = 0 ∧ sat t d = wrap64 (t + d)) := by
    refine Lib.hid ?_
    unfold I64 at *; unfold sat wrap64
    (repeat' split) <;> omega
  clear ht hd
  rcases H.out with ⟨c1, c2, hs⟩ | ⟨c1, c2, hs⟩ | ⟨c1, c2, hs⟩ | ⟨c1, c2, hs⟩ | ⟨c1, hs⟩
  · rw [hs]; clear hs H
    go_enter Tryz.func61, Tryz.ntmps61
    go_wp2
    go_ret
    exact ⟨rfl, rfl⟩
  · rw [hs]; clear hs H
    have c3 : ¬ d < 0 := by omega
    go_enter Tryz.func61, Tryz.ntmps61
    go_wp2
    go_ret
    exact ⟨rfl, rfl⟩
  · rw [hs]; clear hs H
    have c3 : ¬ 0 < d := by omega
    go_enter Tryz.func61, Tryz.ntmps61
    go_wp2
    go_ret
    exact ⟨rfl, rfl⟩
  · rw [hs]; clear hs H
    have c3 : ¬ 0 < d := by omega
    go_enter Tryz.func61, Tryz.ntmps61
    go_wp2
    go_ret
    exact ⟨rfl, rfl⟩
  · rw [hs]; clear hs H
    have c3 : ¬ 0 < d := by omega
    have c4 : ¬ d < 0 := by omega
    clear c1
    go_enter Tryz.func61, Tryz.ntmps61
    go_wp2
    go_ret
    exact ⟨rfl, rfl⟩

theorem max_in {d : Int} (hd : I64 d) : I64 (mx 0 d) := by unfold I64 mx at *; split <;> omega

set_option maxHeartbeats 400000 in
theorem after_any (p : Addr) (t d : Int) (ht : I64 t) (hd : I64 d) (w : World) (hc : w.cell? p = some (.int .i64 t)) :
    Calls Tryz.prog 44 #[.pointer (some p), .int .i64 d] w fun e w' => e = .returned (.int .i64 (sat t (mx 0 d))) ∧ w = w' := by
  have h0 := max_in hd
  go_enter Tryz.func44, Tryz.ntmps44
  go_wp2_with (go_at_call 61; refine (sum_any t _ ht h0 _).mono ?_; rintro e w' ⟨rfl, rfl⟩)
  go_ret
  exact ⟨rfl, rfl⟩

set_option maxHeartbeats 400000 in
theorem tick_any (p : Addr) (t d r : Int) (hr : sat t (mx 0 d) = r) (ht : I64 t) (hd : I64 d) (w : World) (hc : w.cell? p = some (.int .i64 t)) (hf : w.frozen? p = false) :
    Calls Tryz.prog 45 #[.pointer (some p), .int .i64 d] w fun e w' => e = .returned (.int .i64 r) ∧ w.setCell p (.int .i64 r) = w' := by
  subst hr
  go_enter Tryz.func45, Tryz.ntmps45
  go_wp2_with (go_at_call 44; refine (after_any p t d ht hd _ hc).mono ?_; rintro e w' ⟨rfl, rfl⟩)
  go_ret
  exact ⟨rfl, rfl⟩

theorem now_any (p : Addr) (t : Int) (w : World) (hc : w.cell? p = some (.int .i64 t)) :
    Calls Tryz.prog 30 #[.pointer (some p)] w fun e w' => e = .returned (.int .i64 t) ∧ w = w' := by
  go_enter Tryz.func30, Tryz.ntmps30
  go_wp2
  go_ret
  exact ⟨rfl, rfl⟩

end Go.Proofs.YtlhblhgbpaipaaaGreat.Clk

/- RefSum -/
namespace Go.Proofs.YtlhblhgbpaipaaaGreat.Clk
open Go.RowKit
attribute [local go_sem] max2_is max_two

theorem ref_any (t d : Int) (ht : I64 t) (hd : I64 d) (w : World) :
    Calls Tryz.prog 50 #[.int .i64 t, .int .i64 d] w fun e w' => e = .returned (.int .i64 (sat t d)) ∧ w = w' := by
  have H : Hid (0 < d ∧ wrap64 (9223372036854775807 - d) < t ∧ sat t d = 9223372036854775807 ∨ 0 < d ∧ ¬ wrap64 (9223372036854775807 - d) < t ∧ sat t d = wrap64 (t + d) ∨
      d < 0 ∧ t < wrap64 (-9223372036854775808 - d) ∧ sat t d = -9223372036854775808 ∨ d < 0 ∧ ¬ t < wrap64 (-9223372036854775808 - d) ∧ sat t d = wrap64 (t + d) ∨ d = 0 ∧ sat t d = wrap64 (t + d)) := by
    refine Lib.hid ?_
    unfold I64 at *; unfold sat wrap64
    (repeat' split) <;> omega
  clear ht hd
  rcases H.out with ⟨c1, c2, hs⟩ | ⟨c1, c2, hs⟩ | ⟨c1, c2, hs⟩ | ⟨c1, c2, hs⟩ | ⟨c1, hs⟩
  · rw [hs]; clear hs H
    go_enter Tryz.func50, Tryz.ntmps50
    go_wp2
    go_ret
    exact ⟨rfl, rfl⟩
  · rw [hs]; clear hs H
    have c3 : ¬ d < 0 := by omega
    go_enter Tryz.func50, Tryz.ntmps50
    go_wp2
    go_ret
    exact ⟨rfl, rfl⟩
  · rw [hs]; clear hs H
    have c3 : ¬ 0 < d := by omega
    go_enter Tryz.func50, Tryz.ntmps50
    go_wp2
    go_ret
    exact ⟨rfl, rfl⟩
  · rw [hs]; clear hs H
    have c3 : ¬ 0 < d := by omega
    go_enter Tryz.func50, Tryz.ntmps50
    go_wp2
    go_ret
    exact ⟨rfl, rfl⟩
  · rw [hs]; clear hs H
    have c3 : ¬ 0 < d := by omega
    have c4 : ¬ d < 0 := by omega
    clear c1
    go_enter Tryz.func50, Tryz.ntmps50
    go_wp2
    go_ret
    exact ⟨rfl, rfl⟩

end Go.Proofs.YtlhblhgbpaipaaaGreat.Clk

/- RefSrc -/
namespace Go.Proofs.YtlhblhgbpaipaaaGreat.Src
open Go.RowKit
open Go.Proofs.YtlhblhgbpaipaaaGreat.Hp
open Go.Proofs.YtlhblhgbpaipaaaGreat.Pl (WSees ISees Fresh St aput adel alook stOf dueL fullL bestD takeA leftW leftI putW markR whoD hasD fullD)
set_option linter.unusedVariables false
set_option linter.unusedSimpArgs false

abbrev TS6 : TypeId := 35
/-- The document's rows, as three slices. -/
structure SS (w : World) (lo N : Nat) (D : List Tim) (W : List (Int × Int)) (R : List Int) (v1 v2 v3 : Value) : Prop where
  st : TSees w lo v1 D
  sw : WSees w lo v2 W
  sr : ISees w lo v3 R
  slo : lo ≤ w.heap.size
  b : D.length ≤ N ∧ W.length ≤ N ∧ R.length ≤ N ∧ N ≤ 500
theorem SS.below {w w' : World} {lo N : Nat} {D : List Tim} {W : List (Int × Int)} {R : List Int} {v1 v2 v3 : Value} (h : SS w lo N D W R v1 v2 v3) (hb : Below w.heap.size w w') : SS w' lo N D W R v1 v2 v3 :=
  ⟨h.st.below hb, h.sw.below hb, h.sr.below hb, Nat.le_trans h.slo hb.size, h.b⟩
theorem SS.up {w : World} {lo N : Nat} {D : List Tim} {W : List (Int × Int)} {R : List Int} {v1 v2 v3 : Value} (h : SS w lo N D W R v1 v2 v3) (hN : N < 500) : SS w lo (N + 1) D W R v1 v2 v3 :=
  ⟨h.st, h.sw, h.sr, h.slo, by have := h.b; omega⟩
theorem SS.own {w : World} {lo N : Nat} {D : List Tim} {W : List (Int × Int)} {R : List Int} {v1 v2 v3 : Value} (h : SS w lo N D W R v1 v2 v3) {j : Nat} (hj : v1.ownBlock = some j ∨ v2.ownBlock = some j ∨ v3.ownBlock = some j) : j < w.heap.size := by
  rcases hj with q | q | q
  · exact (h.st.own q).2
  · exact (Pl.RSees.own h.sw q).2
  · exact (Pl.RSees.own h.sr q).2
/-- Blocks that are none of the slices' may change. -/
theorem SS.kept {w w' : World} {lo N : Nat} {D : List Tim} {W : List (Int × Int)} {R : List Int} {v1 v2 v3 : Value} (h : SS w lo N D W R v1 v2 v3) (hs : w.heap.size ≤ w'.heap.size) (hb : ∀ j, (v1.ownBlock = some j ∨ v2.ownBlock = some j ∨ v3.ownBlock = some j) → w'.heap[j]? = w.heap[j]?) : SS w' lo N D W R v1 v2 v3 :=
  ⟨h.st.kept hs (fun j hj => hb j (.inl hj)), Pl.RSees.kept h.sw hs (fun j hj => hb j (.inr (.inl hj))), Pl.RSees.kept h.sr hs (fun j hj => hb j (.inr (.inr hj))), Nat.le_trans h.slo hs, h.b⟩
/-- The slices' blocks are elder ones', or new. -/
def Fr3 (w : World) (v1 v2 v3 u1 u2 u3 : Value) : Prop := ∀ j, (u1.ownBlock = some j ∨ u2.ownBlock = some j ∨ u3.ownBlock = some j) → (v1.ownBlock = some j ∨ v2.ownBlock = some j ∨ v3.ownBlock = some j) ∨ w.heap.size ≤ j
theorem Fr3.far {w W0 : World} {lo N : Nat} {D : List Tim} {W : List (Int × Int)} {R : List Int} {v1 v2 v3 u1 u2 u3 : Value} (h : Fr3 W0 v1 v2 v3 u1 u2 u3) (k : SS w lo N D W R v1 v2 v3) (hs : w.heap.size + 2 ≤ W0.heap.size) {j : Nat} (hj : u1.ownBlock = some j ∨ u2.ownBlock = some j ∨ u3.ownBlock = some j) : j ≠ w.heap.size ∧ j ≠ w.heap.size + 1 := by
  rcases h j hj with q | q
  · have := k.own q; omega
  · omega
theorem Fr3.mono {w W0 : World} {v1 v2 v3 u1 u2 u3 : Value} (h : Fr3 W0 v1 v2 v3 u1 u2 u3) (hs : w.heap.size ≤ W0.heap.size) : Fr3 w v1 v2 v3 u1 u2 u3 := fun j hj => by
  rcases h j hj with q | q
  · exact .inl q
  · exact .inr (Nat.le_trans hs q)
theorem fr3_refl (w : World) (v1 v2 v3 : Value) : Fr3 w v1 v2 v3 v1 v2 v3 := fun j h => .inl h
def dueS (now : Int) (D : List Tim) (W : List (Int × Int)) (R : List Int) : Bool := (takeD D now).2.1 || (takeA (bestD R W (65536, 0))).2.2
def outS (D : List Tim) (W : List (Int × Int)) (g : Int) : Bool := anyG D g || hasD W g
/-- The block in which a call has laid the document's source. -/
structure B6 (w W : World) (cs : Array Value) : Prop where
  b : W.heap[w.heap.size]? = some (.cells cs TS6 (0, 0))
  below : Below w.heap.size w W
theorem b6_new (w : World) (cs : Array Value) : B6 w (w.alloc (.cells cs TS6)) cs := ⟨heap_alloc_new _ _, below_alloc _⟩
section
variable {w W W' : World} {cs : Array Value}
theorem B6.lt (h : B6 w W cs) : w.heap.size < W.heap.size := (Array.getElem?_eq_some_iff.1 h.b).1
theorem B6.next (h : B6 w W cs) (hb : Below W.heap.size W W') : B6 w W' cs := ⟨(hb.block _ h.lt).trans h.b, h.below.trans (hb.mono (Nat.le_of_lt h.lt))⟩
theorem B6.six {a b c d e f : Value} (h : B6 w W #[a, b, c, d, e, f]) : W.cell? ⟨w.heap.size, 0, none⟩ = some a ∧ W.cell? ⟨w.heap.size, 1, none⟩ = some b ∧ W.cell? ⟨w.heap.size, 2, none⟩ = some c ∧ W.cell? ⟨w.heap.size, 3, none⟩ = some d ∧ W.cell? ⟨w.heap.size, 4, none⟩ = some e ∧ W.cell? ⟨w.heap.size, 5, none⟩ = some f :=
  ⟨cell_of_row _ _ 0 _ _ _ h.b, cell_of_row _ _ 1 _ _ _ h.b, cell_of_row _ _ 2 _ _ _ h.b, cell_of_row _ _ 3 _ _ _ h.b, cell_of_row _ _ 4 _ _ _ h.b, cell_of_row _ _ 5 _ _ _ h.b⟩
end
set_option maxRecDepth 100000 in
set_option maxHeartbeats 2000000 in
theorem rlen12 {w : World} {lo N : Nat} {D : List Tim} {W : List (Int × Int)} {R : List Int} {a1 a2 a3 : Option Addr} {m1 c1 m2 c2 m3 c3 : Nat} (h : SS w lo N D W R (.slice a1 m1 c1) (.slice a2 m2 c2) (.slice a3 m3 c3)) (now : Int) (n o : Nat) {L : Int} (hL : (D.length : Int) + W.length = L) :
    Calls Tryz.prog 12 #[.agg #[.int .i64 now, .int .i64 n, .slice a1 m1 c1, .int .u64 o, .slice a2 m2 c2, .slice a3 m3 c3]] w fun x w' => x = .returned (.int .i64 L) ∧ Below w.heap.size w w' := by
  obtain rfl := tsees_len h.st
  obtain rfl := Pl.wsees_len h.sw
  have hw : IntKind.i64.wrap ((D.length : Int) + W.length) = L := by rw [IntKind.wrap_i64]; have := h.b; omega
  clear h hL
  go_enter Tryz.func12, Tryz.ntmps12
  go_wp2_with fail
  go_ret
  exact ⟨rfl, below_alloc _⟩

set_option maxRecDepth 100000 in
set_option maxHeartbeats 2000000 in
theorem rout12 {w : World} {lo N : Nat} {D : List Tim} {W : List (Int × Int)} {R : List Int} {a1 a2 a3 : Option Addr} {m1 c1 m2 c2 m3 c3 : Nat} (h : SS w lo N D W R (.slice a1 m1 c1) (.slice a2 m2 c2) (.slice a3 m3 c3)) (now : Int) (n o : Nat) (g : Int) {r : Bool} (hr : outS D W g = r) :
    Calls Tryz.prog 14 #[.agg #[.int .i64 now, .int .i64 n, .slice a1 m1 c1, .int .u64 o, .slice a2 m2 c2, .slice a3 m3 c3], .int .i64 g] w fun x w' => x = .returned (.bool r) ∧ Below w.heap.size w w' := by
  have H := Lib.hid h
  clear h
  by_cases hg : anyG D g = true
  · obtain rfl : r = true := by rw [← hr]; unfold outS; rw [hg]; rfl
    have HG := Lib.hid hg
    clear hg hr
    go_enter Tryz.func14, Tryz.ntmps14
    go_wp2_with fail
    have B0 := Lib.hid (b6_new w #[.int .i64 now, .int .i64 n, .slice a1 m1 c1, .int .u64 o, .slice a2 m2 c2, .slice a3 m3 c3])
    generalize (w.alloc (.cells #[.int .i64 now, .int .i64 n, .slice a1 m1 c1, .int .u64 o, .slice a2 m2 c2, .slice a3 m3 c3] TS6)) = W0 at *
    refine (rthas_is (H.out.st.below B0.out.below) (by have := H.out.b; omega) n o g HG.out).mono ?_
    rintro e w1 ⟨rfl, hb⟩
    have B1 := Lib.hid (B0.out.next hb)
    clear hb
    go_wp2_with fail
    go_ret
    exact ⟨rfl, B1.out.below⟩
  · have hg' : anyG D g = false := by simpa using hg
    obtain rfl : r = hasD W g := by rw [← hr]; unfold outS; rw [hg']; rfl
    obtain ⟨r, hr⟩ : ∃ r, hasD W g = r := ⟨_, rfl⟩
    rw [hr]
    have HG := Lib.hid (And.intro hg' hr)
    clear hg hg' hr
    go_enter Tryz.func14, Tryz.ntmps14
    go_wp2_with fail
    have B0 := Lib.hid (b6_new w #[.int .i64 now, .int .i64 n, .slice a1 m1 c1, .int .u64 o, .slice a2 m2 c2, .slice a3 m3 c3])
    generalize (w.alloc (.cells #[.int .i64 now, .int .i64 n, .slice a1 m1 c1, .int .u64 o, .slice a2 m2 c2, .slice a3 m3 c3] TS6)) = W0 at *
    refine (rthas_is (H.out.st.below B0.out.below) (by have := H.out.b; omega) n o g HG.out.1).mono ?_
    rintro e w1 ⟨rfl, hb⟩
    have B1 := Lib.hid (B0.out.next hb)
    obtain ⟨z0, z1, z2, z3, z4, z5⟩ := B1.out.six
    clear hb
    go_wp2_with fail
    refine (Pl.rhas_is (H.out.sw.below B1.out.below) (by have := H.out.b; omega) g HG.out.2).mono ?_
    rintro e w2 ⟨rfl, hb⟩
    have B2 := Lib.hid (B1.out.next hb)
    clear hb z0 z1 z2 z3 z4 z5
    go_wp2_with fail
    go_ret
    exact ⟨rfl, B2.out.below⟩

set_option maxRecDepth 100000 in
set_option maxHeartbeats 2000000 in
theorem rdue12 {w : World} {lo N : Nat} {D : List Tim} {W : List (Int × Int)} {R : List Int} {a1 a2 a3 : Option Addr} {m1 c1 m2 c2 m3 c3 : Nat} (h : SS w lo N D W R (.slice a1 m1 c1) (.slice a2 m2 c2) (.slice a3 m3 c3)) (now : Int) (n o : Nat) {r : Bool} (hr : dueS now D W R = r) :
    Calls Tryz.prog 10 #[.agg #[.int .i64 now, .int .i64 n, .slice a1 m1 c1, .int .u64 o, .slice a2 m2 c2, .slice a3 m3 c3]] w fun x w' => x = .returned (.bool r) ∧ Below w.heap.size w w' := by
  have H := Lib.hid h
  clear h
  obtain ⟨⟨xw, xo, xg⟩, ok, Dn, htk⟩ : ∃ x ok D', takeD D now = (x, ok, D') := ⟨_, _, _, rfl⟩
  obtain ⟨x, y, ok2, htk2⟩ : ∃ x y ok, takeA (bestD R W (65536, 0)) = (x, y, ok) := ⟨_, _, _, rfl⟩
  have hr2 : (ok || ok2) = r := by rw [← hr]; unfold dueS; rw [htk, htk2]
  have HE := Lib.hid (And.intro htk htk2)
  clear htk htk2 hr
  go_enter Tryz.func10, Tryz.ntmps10
  go_wp2_with fail
  have B0 := Lib.hid (b6_new w #[.int .i64 now, .int .i64 n, .slice a1 m1 c1, .int .u64 o, .slice a2 m2 c2, .slice a3 m3 c3])
  generalize (w.alloc (.cells #[.int .i64 now, .int .i64 n, .slice a1 m1 c1, .int .u64 o, .slice a2 m2 c2, .slice a3 m3 c3] TS6)) = W0 at *
  refine (rtake_anyT (H.out.st.below B0.out.below) (Nat.le_trans H.out.slo B0.out.below.size) (by have := H.out.b; omega) n o now HE.out.1).mono ?_
  rintro e w1 ⟨b, m, c, rfl, _, _, hb⟩
  have B1 := Lib.hid (((B0.out.next hb).next (below_alloc (.cells #[.int .i64 n, .slice b m c, .int .u64 o] TD))).next (below_alloc (.cells #[.int .i64 xw, .int .u64 xo, .int .i64 xg] TE)))
  obtain ⟨z0, z1, z2, z3, z4, z5⟩ := B1.out.six
  clear hb
  unfold Ent.agg
  go_wp2_with fail
  generalize ((w1.alloc (.cells #[.int .i64 n, .slice b m c, .int .u64 o] TD)).alloc (.cells #[.int .i64 xw, .int .u64 xo, .int .i64 xg] TE)) = W1 at *
  clear z0 z1 z2 z3 z4 z5
  refine (Pl.rtake_any (H.out.sw.below B1.out.below) (H.out.sr.below B1.out.below) (Nat.le_trans H.out.slo B1.out.below.size) (by have := H.out.b; omega) (by have := H.out.b; omega) rfl HE.out.2).mono ?_
  rintro e w2 ⟨b1, k1, d1, b2, k2, d2, rfl, _, _, _, _, hb⟩
  have B2 := Lib.hid ((B1.out.next hb).next (below_alloc (.cells #[.slice b1 k1 d1, .slice b2 k2 d2] Pl.TPo)))
  clear hb
  cases ok with
  | true =>
    obtain rfl : r = true := hr2.symm
    go_wp2_with fail
    go_ret
    exact ⟨rfl, B2.out.below⟩
  | false =>
    obtain rfl : r = ok2 := hr2.symm
    go_wp2_with fail
    go_ret
    exact ⟨rfl, B2.out.below⟩
end Go.Proofs.YtlhblhgbpaipaaaGreat.Src

/- RefSrc2 -/
namespace Go.Proofs.YtlhblhgbpaipaaaGreat.Src
open Go.RowKit
open Go.Proofs.YtlhblhgbpaipaaaGreat.Hp
open Go.Proofs.YtlhblhgbpaipaaaGreat.Pl (WSees ISees Fresh St aput adel alook stOf dueL fullL bestD takeA leftW leftI putW markR whoD hasD fullD)
set_option linter.unusedVariables false
set_option linter.unusedSimpArgs false

/-- The two blocks that a deed of the document's lays first. -/
structure C6 (w W : World) (cs : Array Value) : Prop where
  b : W.heap[w.heap.size]? = some (.cells cs TS6 (0, 0))
  z : W.heap[w.heap.size + 1]? = some (.cells #[.int .i64 0, .int .i64 0, .slice none 0 0, .int .u64 0, .slice none 0 0, .slice none 0 0] TS6 (0, 0))
  below : Below w.heap.size w W
theorem c6_new (w : World) (cs : Array Value) : C6 w ((w.alloc (.cells cs TS6)).alloc (.cells #[.int .i64 0, .int .i64 0, .slice none 0 0, .int .u64 0, .slice none 0 0, .slice none 0 0] TS6)) cs :=
  ⟨(heap_alloc_old _ _ (by simp)).trans (heap_alloc_new _ _), by have := heap_alloc_new (w.alloc (.cells cs TS6)) (.cells #[.int .i64 0, .int .i64 0, .slice none 0 0, .int .u64 0, .slice none 0 0, .slice none 0 0] TS6); simpa using this, ((Below.refl _ _).alloc (Nat.le_refl _) _).alloc (by simp) _⟩
abbrev Six (W : World) (B : Nat) (a b c d e f : Value) : Prop := W.cell? ⟨B, 0, none⟩ = some a ∧ W.cell? ⟨B, 1, none⟩ = some b ∧ W.cell? ⟨B, 2, none⟩ = some c ∧ W.cell? ⟨B, 3, none⟩ = some d ∧ W.cell? ⟨B, 4, none⟩ = some e ∧ W.cell? ⟨B, 5, none⟩ = some f
theorem six_of {W : World} {B : Nat} {a b c d e f : Value} (h : W.heap[B]? = some (.cells #[a, b, c, d, e, f] TS6 (0, 0))) : Six W B a b c d e f :=
  ⟨cell_of_row _ _ 0 _ _ _ h, cell_of_row _ _ 1 _ _ _ h, cell_of_row _ _ 2 _ _ _ h, cell_of_row _ _ 3 _ _ _ h, cell_of_row _ _ 4 _ _ _ h, cell_of_row _ _ 5 _ _ _ h⟩
section
variable {w W W' : World} {cs : Array Value}
theorem C6.lt (h : C6 w W cs) : w.heap.size + 1 < W.heap.size := (Array.getElem?_eq_some_iff.1 h.z).1
theorem C6.next (h : C6 w W cs) (hb : Below W.heap.size W W') : C6 w W' cs := ⟨(hb.block _ (by have := h.lt; omega)).trans h.b, (hb.block _ h.lt).trans h.z, h.below.trans (hb.mono (by have := h.lt; omega))⟩
theorem C6.fb (h : C6 w W cs) (i : Nat) : W.frozen? ⟨w.heap.size, i, none⟩ = false := frozen_of_row _ _ i _ _ h.b
theorem C6.fz (h : C6 w W cs) (i : Nat) : W.frozen? ⟨w.heap.size + 1, i, none⟩ = false := frozen_of_row _ _ i _ _ h.z
end
/-- A struct of six cells is stored. -/
abbrev set6 (W : World) (B : Nat) (x0 x1 x2 x3 x4 x5 : Value) : World := (((((W.setCell ⟨B, 0, none⟩ x0).setCell ⟨B, 1, none⟩ x1).setCell ⟨B, 2, none⟩ x2).setCell ⟨B, 3, none⟩ x3).setCell ⟨B, 4, none⟩ x4).setCell ⟨B, 5, none⟩ x5
section
variable {w W : World} {B : Nat} {a b c d e f x0 x1 x2 x3 x4 x5 : Value}
theorem set6_same (h : W.heap[B]? = some (.cells #[a, b, c, d, e, f] TS6 (0, 0))) : (set6 W B x0 x1 x2 x3 x4 x5).heap[B]? = some (.cells #[x0, x1, x2, x3, x4, x5] TS6 (0, 0)) :=
  heap_setCell_same _ B 5 _ _ _ (heap_setCell_same _ B 4 _ _ _ (heap_setCell_same _ B 3 _ _ _ (heap_setCell_same _ B 2 _ _ _ (heap_setCell_same _ B 1 _ _ _ (heap_setCell_same _ B 0 _ _ _ h)))))
theorem set6_other {k : Nat} (hk : k ≠ B) : (set6 W B x0 x1 x2 x3 x4 x5).heap[k]? = W.heap[k]? :=
  (heap_setCell_other _ _ _ _ hk).trans ((heap_setCell_other _ _ _ _ hk).trans ((heap_setCell_other _ _ _ _ hk).trans ((heap_setCell_other _ _ _ _ hk).trans ((heap_setCell_other _ _ _ _ hk).trans (heap_setCell_other _ _ _ _ hk)))))
theorem below_set6 {n : Nat} (h : Below n w W) (hB : n ≤ B) : Below n w (set6 W B x0 x1 x2 x3 x4 x5) :=
  Pl.below_set1 (Pl.below_set1 (Pl.below_set1 (Pl.below_set1 (Pl.below_set1 (Pl.below_set1 h hB) hB) hB) hB) hB) hB
theorem set6_size : (set6 W B x0 x1 x2 x3 x4 x5).heap.size = W.heap.size := by simp
end
theorem results_ts3 {fn : Func} {p q r : Tmp} (h : fn.results = #[.cell p TS6, .tmp q, .tmp r]) (tmps : Array Value) (w : World) (B : Nat) (a b c d e f x y : Value) (hB : w.heap[B]? = some (.cells #[a, b, c, d, e, f] TS6 (0, 0)))
    (hp : tmps.getD p undef = .pointer (some ⟨B, 0, none⟩)) (hq : tmps.getD q undef = x) (hr : tmps.getD r undef = y) : (results fn tmps).run Tryz.prog w = .ok (.tuple #[.agg #[a, b, c, d, e, f], x, y]) w := by
  obtain ⟨c0, c1, c2, c3, c4, c5⟩ := six_of hB
  have hp' : tmps[p]?.getD undef = .pointer (some ⟨B, 0, none⟩) := by simpa using hp
  have hq' : tmps[q]?.getD undef = x := by simpa using hq
  have hr' : tmps[r]?.getD undef = y := by simpa using hr
  clear hB hp hq hr
  simp [results, h, hp', hq', hr', asAddr, go_sem, c0, c1, c2, c3, c4, c5]
theorem results_ts2 {fn : Func} {p q : Tmp} (h : fn.results = #[.cell p TS6, .tmp q]) (tmps : Array Value) (w : World) (B : Nat) (a b c d e f x : Value) (hB : w.heap[B]? = some (.cells #[a, b, c, d, e, f] TS6 (0, 0)))
    (hp : tmps.getD p undef = .pointer (some ⟨B, 0, none⟩)) (hq : tmps.getD q undef = x) : (results fn tmps).run Tryz.prog w = .ok (.tuple #[.agg #[a, b, c, d, e, f], x]) w := by
  obtain ⟨c0, c1, c2, c3, c4, c5⟩ := six_of hB
  have hp' : tmps[p]?.getD undef = .pointer (some ⟨B, 0, none⟩) := by simpa using hp
  have hq' : tmps[q]?.getD undef = x := by simpa using hq
  clear hB hp hq
  simp [results, h, hp', hq', asAddr, go_sem, c0, c1, c2, c3, c4, c5]
theorem results_ts1 {fn : Func} {p : Tmp} (h : fn.results = #[.cell p TS6]) (tmps : Array Value) (w : World) (B : Nat) (a b c d e f : Value) (hB : w.heap[B]? = some (.cells #[a, b, c, d, e, f] TS6 (0, 0)))
    (hp : tmps.getD p undef = .pointer (some ⟨B, 0, none⟩)) : (results fn tmps).run Tryz.prog w = .ok (.agg #[a, b, c, d, e, f]) w := by
  obtain ⟨c0, c1, c2, c3, c4, c5⟩ := six_of hB
  have hp' : tmps[p]?.getD undef = .pointer (some ⟨B, 0, none⟩) := by simpa using hp
  clear hB hp
  simp [results, h, hp', asAddr, go_sem, c0, c1, c2, c3, c4, c5]

set_option maxRecDepth 100000 in
set_option maxHeartbeats 2000000 in
theorem rready12 {w : World} {lo N : Nat} {D : List Tim} {W : List (Int × Int)} {R : List Int} {a1 a2 a3 : Option Addr} {m1 c1 m2 c2 m3 c3 : Nat} (h : SS w lo N D W R (.slice a1 m1 c1) (.slice a2 m2 c2) (.slice a3 m3 c3)) (hN : N < 500) (now : Int) (n o : Nat) (fd : Int) {e : Int} {R' : List Int} (hm : markR W R fd = (e, R')) {r : Bool} (hr : (if e = 0 then dueS now D W R' else false) = r) :
    Calls Tryz.prog 25 #[.agg #[.int .i64 now, .int .i64 n, .slice a1 m1 c1, .int .u64 o, .slice a2 m2 c2, .slice a3 m3 c3], .int .i64 fd] w fun x w' => ∃ b k c, x = .returned (.tuple #[.agg #[.int .i64 now, .int .i64 n, .slice a1 m1 c1, .int .u64 o, .slice a2 m2 c2, .slice b k c], .bool r, .int .i64 e]) ∧ SS w' lo (N + 1) D W R' (.slice a1 m1 c1) (.slice a2 m2 c2) (.slice b k c) ∧ Fr3 w (.slice a1 m1 c1) (.slice a2 m2 c2) (.slice a3 m3 c3) (.slice a1 m1 c1) (.slice a2 m2 c2) (.slice b k c) ∧ Below w.heap.size w w' := by
  have H := Lib.hid h
  have HM := Lib.hid hm
  clear h hm
  go_enter Tryz.func25, Tryz.ntmps25
  go_wp2_with fail
  have B0 := Lib.hid (c6_new w #[.int .i64 now, .int .i64 n, .slice a1 m1 c1, .int .u64 o, .slice a2 m2 c2, .slice a3 m3 c3])
  generalize ((w.alloc (.cells #[.int .i64 now, .int .i64 n, .slice a1 m1 c1, .int .u64 o, .slice a2 m2 c2, .slice a3 m3 c3] TS6)).alloc (.cells #[.int .i64 0, .int .i64 0, .slice none 0 0, .int .u64 0, .slice none 0 0, .slice none 0 0] TS6)) = W0 at *
  obtain ⟨z0, z1, z2, z3, z4, z5⟩ := six_of B0.out.b
  refine (Pl.rmark_any (H.out.sw.below B0.out.below) (H.out.sr.below B0.out.below) (Nat.le_trans H.out.slo B0.out.below.size) (by have := H.out.b; omega) (by have := H.out.b; omega) fd HM.out).mono ?_
  rintro x w2 ⟨b, k, c, rfl, hs2, hf2, hb2⟩
  have C2 := Lib.hid ((B0.out.next hb2).next (below_alloc (.cells #[.slice a2 m2 c2, .slice b k c] Pl.TPo)))
  have S2 := Lib.hid (And.intro (show SS (w2.alloc (.cells #[.slice a2 m2 c2, .slice b k c] Pl.TPo)) lo (N + 1) D W R' (.slice a1 m1 c1) (.slice a2 m2 c2) (.slice b k c) from ((⟨((H.out.below B0.out.below).below hb2).st, ((H.out.below B0.out.below).below hb2).sw, hs2, ((H.out.below B0.out.below).below hb2).slo, by have := H.out.b; have := Pl.markR_len HM.out; omega⟩ : SS w2 lo (N + 1) D W R' (.slice a1 m1 c1) (.slice a2 m2 c2) (.slice b k c)).below (below_alloc _))) (show Fr3 W0 (.slice a1 m1 c1) (.slice a2 m2 c2) (.slice a3 m3 c3) (.slice a1 m1 c1) (.slice a2 m2 c2) (.slice b k c) from fun j hj => by
    rcases hj with q | q | q
    · exact .inl (.inl q)
    · exact .inl (.inr (.inl q))
    · rcases hf2 j q with q2 | q2
      · exact .inl (.inr (.inr q2))
      · exact .inr q2))
  clear z0 z1 z2 z3 z4 z5 hs2 hf2 hb2
  obtain ⟨z0, z1, z2, z3, z4, z5⟩ := six_of C2.out.b
  obtain ⟨y0, y1, y2, y3, y4, y5⟩ := six_of C2.out.z
  have fb := C2.out.fb
  have fz := C2.out.fz
  by_cases he : e = 0
  · subst he
    rw [if_pos rfl] at hr
    have HR := Lib.hid hr
    clear hr
    go_wp2_with fail
    have hb3 : (((w2.alloc (.cells #[.slice a2 m2 c2, .slice b k c] Pl.TPo)).setCell ⟨w.heap.size, 4, none⟩ (.slice a2 m2 c2)).setCell ⟨w.heap.size, 5, none⟩ (.slice b k c)).heap[w.heap.size]? = some (.cells #[.int .i64 now, .int .i64 n, .slice a1 m1 c1, .int .u64 o, .slice a2 m2 c2, .slice b k c] TS6 (0, 0)) := heap_setCell_same _ _ 5 _ _ _ (heap_setCell_same _ _ 4 _ _ _ C2.out.b)
    have hs3 : ∀ j, j ≠ w.heap.size → (((w2.alloc (.cells #[.slice a2 m2 c2, .slice b k c] Pl.TPo)).setCell ⟨w.heap.size, 4, none⟩ (.slice a2 m2 c2)).setCell ⟨w.heap.size, 5, none⟩ (.slice b k c)).heap[j]? = (w2.alloc (.cells #[.slice a2 m2 c2, .slice b k c] Pl.TPo)).heap[j]? := fun j hj => (heap_setCell_other _ _ _ _ hj).trans (heap_setCell_other _ _ _ _ hj)
    have C3 := Lib.hid (show C6 w (((w2.alloc (.cells #[.slice a2 m2 c2, .slice b k c] Pl.TPo)).setCell ⟨w.heap.size, 4, none⟩ (.slice a2 m2 c2)).setCell ⟨w.heap.size, 5, none⟩ (.slice b k c)) #[.int .i64 now, .int .i64 n, .slice a1 m1 c1, .int .u64 o, .slice a2 m2 c2, .slice b k c] from
      ⟨hb3, (hs3 _ (by omega)).trans C2.out.z, ⟨C2.out.below.os, C2.out.below.tape, C2.out.below.output, by simpa using C2.out.below.size, fun j hj => (hs3 j (by omega)).trans (C2.out.below.block j hj)⟩⟩)
    have S3 := Lib.hid (S2.out.1.kept (w' := (((w2.alloc (.cells #[.slice a2 m2 c2, .slice b k c] Pl.TPo)).setCell ⟨w.heap.size, 4, none⟩ (.slice a2 m2 c2)).setCell ⟨w.heap.size, 5, none⟩ (.slice b k c))) (by simp) (fun j hj => hs3 j (S2.out.2.far H.out B0.out.lt hj).1))
    clear z0 z1 z2 z3 z4 z5 y0 y1 y2 y3 y4 y5 fb fz hb3 hs3
    generalize (((w2.alloc (.cells #[.slice a2 m2 c2, .slice b k c] Pl.TPo)).setCell ⟨w.heap.size, 4, none⟩ (.slice a2 m2 c2)).setCell ⟨w.heap.size, 5, none⟩ (.slice b k c)) = W3 at *
    have hS : Six W3.drew w.heap.size (.int .i64 now) (.int .i64 n) (.slice a1 m1 c1) (.int .u64 o) (.slice a2 m2 c2) (.slice b k c) := six_of (C3.out.next (below_drew (w := W3))).b
    go_region_held3 (fun w' => w'.cell? ⟨w.heap.size, 0, none⟩ = some (.int .i64 now) ∧ w'.cell? ⟨w.heap.size, 1, none⟩ = some (.int .i64 n) ∧ w'.cell? ⟨w.heap.size, 2, none⟩ = some (.slice a1 m1 c1) ∧ w'.cell? ⟨w.heap.size, 3, none⟩ = some (.int .u64 o) ∧ w'.cell? ⟨w.heap.size, 4, none⟩ = some (.slice a2 m2 c2) ∧ w'.cell? ⟨w.heap.size, 5, none⟩ = some (.slice b k c))
      (first | (with_reducible exact hS) | exact hSz)
      (first
        | (go_at_call 10; refine (rdue12 (S3.out.below (below_drew (w := W3))) _ n _ HR.out).mono ?_; rintro e w5 ⟨rfl, hb⟩; (have C5 := Lib.hid ((C3.out.next (below_drew (w := W3))).next hb)); (have S5 := Lib.hid ((S3.out.below (below_drew (w := W3))).below hb)); clear hb; (have hS : Six w5 w.heap.size (.int .i64 now) (.int .i64 n) (.slice a1 m1 c1) (.int .u64 o) (.slice a2 m2 c2) (.slice b k c) := six_of C5.out.b); (obtain ⟨y0, y1, y2, y3, y4, y5⟩ := six_of C5.out.z); (have fz := C5.out.fz); (have hSz : Six (set6 w5 (w.heap.size + 1) (.int .i64 now) (.int .i64 n) (.slice a1 m1 c1) (.int .u64 o) (.slice a2 m2 c2) (.slice b k c)) w.heap.size (.int .i64 now) (.int .i64 n) (.slice a1 m1 c1) (.int .u64 o) (.slice a2 m2 c2) (.slice b k c) := six_of ((set6_other (by omega)).trans C5.out.b))))
    all_goals (
      go_wp2_with fail
      refine bodyPost_ret (results_ts3 rfl _ _ (w.heap.size + 1) _ _ _ _ _ _ (.bool r) (.int .i64 0) (set6_same C5.out.z) rfl rfl rfl) rfl ⟨b, k, c, rfl, S5.out.kept (Nat.le_of_eq set6_size.symm) (fun j hj => set6_other (S2.out.2.far H.out B0.out.lt hj).2), S2.out.2.mono B0.out.below.size, below_set6 C5.out.below (by omega)⟩)
  · rw [if_neg he] at hr
    obtain rfl : r = false := hr.symm
    have hR : R' = R := by
      have := HM.out
      unfold markR at this
      split at this
      · cases this; rfl
      · cases this; exact absurd rfl he
    subst hR
    have heb : (e != 0) = true := by simpa using he
    have HE := Lib.hid he
    clear he
    go_wp2_with fail
    generalize (w2.alloc (.cells #[.slice a2 m2 c2, .slice b k c] Pl.TPo)) = W2 at *
    refine bodyPost_ret (results_ts3 rfl _ _ (w.heap.size + 1) _ _ _ _ _ _ (.bool false) (.int .i64 e) (set6_same C2.out.z) rfl rfl rfl) rfl ⟨a3, m3, c3, rfl, ?_, fr3_refl _ _ _ _, below_set6 C2.out.below (by omega)⟩
    exact ((H.out.below C2.out.below).up hN).kept (Nat.le_of_eq set6_size.symm) (fun j hj => set6_other (by have := H.out.own hj; omega))

end Go.Proofs.YtlhblhgbpaipaaaGreat.Src
