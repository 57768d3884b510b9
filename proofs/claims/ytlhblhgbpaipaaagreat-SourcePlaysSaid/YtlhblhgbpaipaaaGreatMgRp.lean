import Derived.Test.YtlhblhgbpaipaaaGreatMgPoll3
import Derived.Test.YtlhblhgbpaipaaaGreatMgPoll
/- RefPoll -/
namespace Go.Proofs.YtlhblhgbpaipaaaGreat.Pl
open Go.RowKit
set_option linter.unusedVariables false
set_option linter.unusedSimpArgs false

abbrev TW : TypeId := 117
abbrev TPo : TypeId := 33
abbrev i64 (x : Int) : Value := .int .i64 x
def flatW (D : List (Int × Int)) : List Value := D.flatMap fun x => [i64 x.1, i64 x.2]
def flatI (R : List Int) : List Value := R.map i64
theorem flatW_len (D : List (Int × Int)) : (flatW D).length = D.length * 2 := by
  induction D with
  | nil => rfl
  | cons x t ih => show (i64 x.1 :: i64 x.2 :: flatW t).length = _; simp [ih]; omega
theorem flatW_append (D E : List (Int × Int)) : flatW (D ++ E) = flatW D ++ flatW E := by simp [flatW]
theorem flatW_get : ∀ {D : List (Int × Int)} {i : Nat} {x : Int × Int}, D[i]? = some x → (flatW D)[i * 2]? = some (i64 x.1) ∧ (flatW D)[i * 2 + 1]? = some (i64 x.2)
  | y :: t, 0, x, h => by cases h; exact ⟨rfl, rfl⟩
  | y :: t, i + 1, x, h => by
    obtain ⟨h0, h1⟩ := flatW_get (D := t) (i := i) (x := x) h
    have key : ∀ j, (flatW (y :: t))[j + 2]? = (flatW t)[j]? := fun j => rfl
    refine ⟨?_, ?_⟩
    · rw [show (i + 1) * 2 = i * 2 + 2 by omega, key]; exact h0
    · rw [show (i + 1) * 2 + 1 = (i * 2 + 1) + 2 by omega, key]; exact h1
theorem flatW_one (D : List (Int × Int)) : ∀ u ∈ flatW D, u.oneCell' = true := by
  intro u hu
  obtain ⟨x, _, hx⟩ := List.mem_flatMap.1 hu
  simp at hx
  rcases hx with rfl | rfl <;> rfl
theorem flatI_one (R : List Int) : ∀ u ∈ flatI R, u.oneCell' = true := by
  intro u hu
  obtain ⟨x, _, rfl⟩ := List.mem_map.1 hu
  rfl

/-- The value is a slice of so many elements whose cells are those, in a block from lo on. -/
def RSees (w : World) (lo : Nat) (v : Value) (len : Nat) (cs : List Value) : Prop :=
  ∃ a cap, v = .slice a len cap ∧ len ≤ cap ∧ cap ≤ maxLen ∧ (∀ c, a = some c → lo ≤ c.block ∧ c.block < w.heap.size) ∧ ∀ j u, cs[j]? = some u → ∃ c, a = some c ∧ w.cell? (c.add j) = some u
def WSees (w : World) (lo : Nat) (v : Value) (D : List (Int × Int)) : Prop := RSees w lo v D.length (flatW D)
def ISees (w : World) (lo : Nat) (v : Value) (R : List Int) : Prop := RSees w lo v R.length (flatI R)
def OwnsW (w : World) (base : Nat) (v : Value) (D : List (Int × Int)) : Prop := w.ownsRow base TW 2 v D.length (flatW D)
def OwnsI (w : World) (base : Nat) (v : Value) (R : List Int) : Prop := w.ownsRow base 3 1 v R.length (flatI R)
theorem infoW : (Tryz.prog.info? TW).map (fun i => (i.zero, i.size, i.bytes)) = some (some (.agg #[.int .i64 0, .int .i64 0]), 2, 16) := by kernel_rfl
theorem infoInt : (Tryz.prog.info? 3).map (fun i => (i.zero, i.size, i.bytes)) = some (some (.int .i64 0), 1, 8) := by kernel_rfl
theorem rsees_nil (w : World) (lo : Nat) : RSees w lo (.slice none 0 0) 0 [] := ⟨none, 0, rfl, by simp, by simp [maxLen], (fun c h => by cases h), fun i e h => by simp at h⟩
theorem blockadd (a : Addr) (n : Nat) : (a.add n).block = a.block := by unfold Addr.add; split <;> rfl
theorem rsees_own {w : World} {base lo n len : Nat} {T : TypeId} {v : Value} {cs : List Value} (h : w.ownsRow base T n v len cs) (hb : lo ≤ base) : RSees w lo v len cs := by
  obtain ⟨h0, h⟩ := h
  rcases h with ⟨rfl, rfl⟩ | ⟨g, cap, cur, rfl, h1, h2, h3, h4, h5, h6⟩
  · have : cs = [] := List.length_eq_zero_iff.1 (by simpa using h0)
    subst this; exact rsees_nil w lo
  · refine ⟨_, cap, rfl, h3, h4, fun c e => by cases e; exact ⟨Nat.le_trans hb h1, (Array.getElem?_eq_some_iff.1 h2).1⟩, fun j u hj => ⟨_, rfl, ?_⟩⟩
    have hadd : (⟨g, 0, none⟩ : Addr).add j = ⟨g, j, none⟩ := by unfold Addr.add; split <;> simp_all
    rw [hadd, cell_of_row w g j cur _ _ h2]
    have hl : j < len * n := by have := (List.getElem?_eq_some_iff.1 hj).1; omega
    rw [← h6, List.getElem?_take_of_lt hl] at hj
    simpa using hj
theorem RSees.kept {w w' : World} {lo len : Nat} {v : Value} {cs : List Value} (h : RSees w lo v len cs) (hs : w.heap.size ≤ w'.heap.size) (hb : ∀ j, v.ownBlock = some j → w'.heap[j]? = w.heap[j]?) : RSees w' lo v len cs := by
  obtain ⟨a, cap, rfl, h1, h2, h3, h4⟩ := h
  refine ⟨a, cap, rfl, h1, h2, fun c e => ⟨(h3 c e).1, Nat.lt_of_lt_of_le (h3 c e).2 hs⟩, fun j u hj => ?_⟩
  obtain ⟨c, rfl, c0⟩ := h4 j u hj
  refine ⟨c, rfl, (World.cell?_of_block ?_).trans c0⟩
  rw [blockadd]; exact hb c.block rfl
theorem RSees.own {w : World} {lo len : Nat} {v : Value} {cs : List Value} (h : RSees w lo v len cs) {j : Nat} (hj : v.ownBlock = some j) : lo ≤ j ∧ j < w.heap.size := by
  obtain ⟨a, cap, rfl, h1, h2, h3, h4⟩ := h
  cases a with
  | none => simp [Value.ownBlock] at hj
  | some c => simp [Value.ownBlock] at hj; subst hj; exact h3 c rfl
theorem RSees.below {w w' : World} {lo len : Nat} {v : Value} {cs : List Value} (h : RSees w lo v len cs) (hb : Below w.heap.size w w') : RSees w' lo v len cs :=
  h.kept hb.size fun j hj => hb.block j (h.own hj).2
theorem WSees.below {w w' : World} {lo : Nat} {v : Value} {D : List (Int × Int)} (h : WSees w lo v D) (hb : Below w.heap.size w w') : WSees w' lo v D := RSees.below h hb
theorem ISees.below {w w' : World} {lo : Nat} {v : Value} {R : List Int} (h : ISees w lo v R) (hb : Below w.heap.size w w') : ISees w' lo v R := RSees.below h hb
theorem addoff (c : Addr) (i r : Nat) (h : r ≠ 0) : c.add (i + r) = ⟨(c.add i).block, (c.add i).off + r, none⟩ := by
  unfold Addr.add
  by_cases hi : i = 0
  · simp [hi, h]
  · simp [hi, Nat.add_assoc]
theorem WSees.at {w : World} {lo n cap : Nat} {a : Option Addr} {D : List (Int × Int)} (h : WSees w lo (.slice a n cap) D) {i : Nat} {x : Int × Int} (hi : D[i]? = some x) :
    ∃ c, a = some c ∧ w.cell? (c.add (i * 2)) = some (.int .i64 x.1) ∧ w.cell? ⟨(c.add (i * 2)).block, (c.add (i * 2)).off + 1, none⟩ = some (.int .i64 x.2) := by
  obtain ⟨_, _, e, _, _, _, hc⟩ := h
  obtain ⟨rfl, _, _⟩ := Value.slice.inj e
  obtain ⟨f0, f1⟩ := flatW_get hi
  obtain ⟨c, rfl, c0⟩ := hc _ _ f0
  obtain ⟨_, h5, c1⟩ := hc _ _ f1
  cases h5
  rw [addoff c _ 1 (by decide)] at c1
  exact ⟨c, rfl, c0, c1⟩
theorem ISees.at {w : World} {lo n cap : Nat} {a : Option Addr} {R : List Int} (h : ISees w lo (.slice a n cap) R) {i : Nat} {x : Int} (hi : R[i]? = some x) :
    ∃ c, a = some c ∧ w.cell? (c.add i) = some (.int .i64 x) := by
  obtain ⟨_, _, e, _, _, _, hc⟩ := h
  obtain ⟨rfl, _, _⟩ := Value.slice.inj e
  exact hc i _ (by unfold flatI; rw [List.getElem?_map, hi]; rfl)
theorem take_one {α : Type} {D : List α} {j : Nat} {x : α} (h : D[j]? = some x) : D.take (j + 1) = D.take j ++ [x] := by
  rw [List.take_add_one, h]; rfl
theorem below_alloc {w : World} (o : Obj) : Below w.heap.size w (w.alloc o) := (Below.refl _ _).alloc (Nat.le_refl _) _

set_option maxRecDepth 100000 in
set_option maxHeartbeats 2000000 in
theorem ris_is {w : World} {a0 : Option Addr} {n0 c0 : Nat} {v : Value} {R : List Int} {lo : Nat} (hv : ISees w lo v R) (hbig : R.length ≤ 100000) (fd : Int) {r : Bool} (hr : decide (fd ∈ R) = r) :
    Calls Tryz.prog 56 #[.agg #[.slice a0 n0 c0, v], .int .i64 fd] w fun x w' => x = .returned (.bool r) ∧ Below w.heap.size w w' := by
  have HV := Lib.hid hv
  obtain ⟨a, cap, rfl, hle, hmx, _, _⟩ := hv
  go_enter Tryz.func56, Tryz.ntmps56
  go_wp2_with fail
  have H0 := Lib.hid (below_alloc (w := w) (.cells #[.slice a0 n0 c0, .slice a R.length cap] TPo))
  generalize (w.alloc (.cells #[.slice a0 n0 c0, .slice a R.length cap] TPo)) = W at *
  go_loopw [10] (fun q wr => ∃ k : Nat, k ≤ R.length ∧ q = .int .i64 k ∧ fd ∉ R.take k ∧ Below w.heap.size w wr) (fun q _ => R.length - (intOf q).toNat)
  case atStart => exact ⟨0, Nat.zero_le _, rfl, by simp, H0.out⟩
  case round =>
    obtain ⟨k, hk, rfl, hd, hb⟩ := hrel
    have H := Lib.hid hb
    have HD := Lib.hid hd
    clear H0 hb hd
    by_cases hlt : k < R.length
    · obtain ⟨x, hx⟩ : ∃ x, R[k]? = some x := ⟨_, List.getElem?_eq_getElem hlt⟩
      obtain ⟨c, rfl, c0⟩ := (HV.out.below H.out).at hx
      have HX := Lib.hid (And.intro (take_one hx) (List.mem_of_getElem? hx))
      clear hx
      by_cases hg : x = fd
      · have hbq : (x == fd) = true := by simpa using hg
        have hmem : fd ∈ R := by rw [← hg]; exact HX.out.2
        obtain rfl : r = true := by rw [← hr]; simpa using hmem
        clear hg hmem hr
        go_wp2_with fail
        go_ret
        exact ⟨rfl, H.out⟩
      · have hbq : (x == fd) = false := by simpa using hg
        have HN2 : Hid (fd ∉ R.take (k + 1)) := Lib.hid (by rw [HX.out.1, List.mem_append]; simp [HD.out, Ne.symm hg])
        clear hg
        go_wp2_with fail
        go_roundw
        case rel => exact ⟨k + 1, by omega, by go_num, HN2.out, H.out⟩
        case measure => simp [intOf]; omega
    · obtain rfl : k = R.length := by omega
      have hd := HD.out
      rw [List.take_length] at hd
      obtain rfl : r = false := by rw [← hr]; simpa using hd
      clear hd hr
      go_wp2_with fail
      go_ret
      exact ⟨rfl, H.out⟩

theorem who_app {D : List (Int × Int)} {fd : Int} {k : Nat} {x : Int × Int} (hx : D[k]? = some x) (hd : alook (D.take k) fd = none) (hg : x.1 = fd) : whoD D fd = x.2 := by
  unfold whoD
  have e : D = D.take k ++ x :: D.drop (k + 1) := by
    conv => lhs; rw [← List.take_append_drop k D]
    congr 1
    rw [List.drop_eq_getElem?_toList_append, hx]; rfl
  rw [e]
  unfold alook at hd ⊢
  rw [Option.map_eq_none_iff] at hd
  rw [List.find?_append, hd]
  simp [hg]
theorem look_app {D : List (Int × Int)} {fd : Int} {k : Nat} {x : Int × Int} (hx : D[k]? = some x) (hd : alook (D.take k) fd = none) (hg : ¬ x.1 = fd) : alook (D.take (k + 1)) fd = none := by
  rw [take_one hx]
  unfold alook at hd ⊢
  rw [Option.map_eq_none_iff] at hd ⊢
  rw [List.find?_append, hd]
  simp [hg]
set_option maxRecDepth 100000 in
set_option maxHeartbeats 2000000 in
theorem rwho_is {w : World} {a0 : Option Addr} {n0 c0 : Nat} {v : Value} {D : List (Int × Int)} {lo : Nat} (hv : WSees w lo v D) (hbig : D.length ≤ 100000) (fd : Int) {r : Int} (hr : whoD D fd = r) :
    Calls Tryz.prog 65 #[.agg #[v, .slice a0 n0 c0], .int .i64 fd] w fun x w' => x = .returned (.int .i64 r) ∧ Below w.heap.size w w' := by
  have HV := Lib.hid hv
  obtain ⟨a, cap, rfl, hle, hmx, _, _⟩ := hv
  go_enter Tryz.func65, Tryz.ntmps65
  go_wp2_with fail
  have H0 := Lib.hid (below_alloc (w := w) (.cells #[.slice a D.length cap, .slice a0 n0 c0] TPo))
  generalize (w.alloc (.cells #[.slice a D.length cap, .slice a0 n0 c0] TPo)) = W at *
  go_loopw [10] (fun q wr => ∃ k : Nat, k ≤ D.length ∧ q = .int .i64 k ∧ alook (D.take k) fd = none ∧ Below w.heap.size w wr) (fun q _ => D.length - (intOf q).toNat)
  case atStart => exact ⟨0, Nat.zero_le _, rfl, by simp [alook], H0.out⟩
  case round =>
    obtain ⟨k, hk, rfl, hd, hb⟩ := hrel
    have H := Lib.hid hb
    have HD := Lib.hid hd
    clear H0 hb hd
    by_cases hlt : k < D.length
    · obtain ⟨x, hx⟩ : ∃ x, D[k]? = some x := ⟨_, List.getElem?_eq_getElem hlt⟩
      obtain ⟨c, rfl, c0, c1⟩ := (HV.out.below H.out).at hx
      have HX := Lib.hid hx
      have H1 := Lib.hid (H.out.trans ((below_alloc (w := wr) (.cells #[.int .i64 x.1, .int .i64 x.2] TW)).mono H.out.size))
      clear hx H
      by_cases hg : x.1 = fd
      · have hbq : (x.1 == fd) = true := by simpa using hg
        obtain rfl : r = x.2 := by rw [← hr]; exact who_app HX.out HD.out hg
        clear hg hr
        go_wp2_with fail
        go_ret
        exact ⟨rfl, H1.out⟩
      · have hbq : (x.1 == fd) = false := by simpa using hg
        have HN2 : Hid (alook (D.take (k + 1)) fd = none) := Lib.hid (look_app HX.out HD.out hg)
        clear hg
        go_wp2_with fail
        go_roundw
        case rel => exact ⟨k + 1, by omega, by go_num, HN2.out, H1.out⟩
        case measure => simp [intOf]; omega
    · obtain rfl : k = D.length := by omega
      have hd := HD.out
      rw [List.take_length] at hd
      obtain rfl : r = -1 := by rw [← hr]; unfold whoD; rw [hd]; rfl
      clear hd hr
      go_wp2_with fail
      go_ret
      exact ⟨rfl, H.out⟩

set_option maxRecDepth 100000 in
set_option maxHeartbeats 2000000 in
theorem rhas_is {w : World} {a0 : Option Addr} {n0 c0 : Nat} {v : Value} {D : List (Int × Int)} {lo : Nat} (hv : WSees w lo v D) (hbig : D.length ≤ 100000) (g : Int) {r : Bool} (hr : hasD D g = r) :
    Calls Tryz.prog 39 #[.agg #[v, .slice a0 n0 c0], .int .i64 g] w fun x w' => x = .returned (.bool r) ∧ Below w.heap.size w w' := by
  have HV := Lib.hid hv
  obtain ⟨a, cap, rfl, hle, hmx, _, _⟩ := hv
  go_enter Tryz.func39, Tryz.ntmps39
  go_wp2_with fail
  have H0 := Lib.hid (below_alloc (w := w) (.cells #[.slice a D.length cap, .slice a0 n0 c0] TPo))
  generalize (w.alloc (.cells #[.slice a D.length cap, .slice a0 n0 c0] TPo)) = W at *
  go_loopw [10] (fun q wr => ∃ k : Nat, k ≤ D.length ∧ q = .int .i64 k ∧ hasD (D.take k) g = false ∧ Below w.heap.size w wr) (fun q _ => D.length - (intOf q).toNat)
  case atStart => exact ⟨0, Nat.zero_le _, rfl, rfl, H0.out⟩
  case round =>
    obtain ⟨k, hk, rfl, hd, hb⟩ := hrel
    have H := Lib.hid hb
    have HD := Lib.hid hd
    clear H0 hb hd
    by_cases hlt : k < D.length
    · obtain ⟨x, hx⟩ : ∃ x, D[k]? = some x := ⟨_, List.getElem?_eq_getElem hlt⟩
      obtain ⟨c, rfl, c0, c1⟩ := (HV.out.below H.out).at hx
      have HX := Lib.hid (And.intro (take_one hx) (List.mem_of_getElem? hx))
      have H1 := Lib.hid (H.out.trans ((below_alloc (w := wr) (.cells #[.int .i64 x.1, .int .i64 x.2] TW)).mono H.out.size))
      clear hx H
      by_cases hg : x.2 = g
      · have hbq : (x.2 == g) = true := by simpa using hg
        obtain rfl : r = true := by rw [← hr]; exact List.any_eq_true.2 ⟨x, HX.out.2, by simpa using hg⟩
        clear hg hr
        go_wp2_with fail
        go_ret
        exact ⟨rfl, H1.out⟩
      · have hbq : (x.2 == g) = false := by simpa using hg
        have HN2 : Hid (hasD (D.take (k + 1)) g = false) := Lib.hid (by have := HD.out; unfold hasD at this ⊢; rw [HX.out.1, List.any_append, this]; simpa using hg)
        clear hg
        go_wp2_with fail
        go_roundw
        case rel => exact ⟨k + 1, by omega, by go_num, HN2.out, H1.out⟩
        case measure => simp [intOf]; omega
    · obtain rfl : k = D.length := by omega
      have hd := HD.out
      rw [List.take_length] at hd
      obtain rfl : r = false := by rw [← hr]; exact hd
      clear hd hr
      go_wp2_with fail
      go_ret
      exact ⟨rfl, H.out⟩
end Go.Proofs.YtlhblhgbpaipaaaGreat.Pl

/- RefPoll2 -/
namespace Go.Proofs.YtlhblhgbpaipaaaGreat.Pl
open Go.RowKit
set_option linter.unusedVariables false
set_option linter.unusedSimpArgs false

/-- The block in which a call has laid the document's poll. -/
structure Bx (w W : World) (u v : Value) : Prop where
  b : W.heap[w.heap.size]? = some (.cells #[u, v] TPo (0, 0))
  below : Below w.heap.size w W
theorem bx_new (w : World) (u v : Value) : Bx w (w.alloc (.cells #[u, v] TPo)) u v := ⟨heap_alloc_new _ _, below_alloc _⟩
theorem Bx.lt {w W : World} {u v : Value} (h : Bx w W u v) : w.heap.size < W.heap.size := (Array.getElem?_eq_some_iff.1 h.b).1
theorem Bx.next {w W W' : World} {u v : Value} (h : Bx w W u v) (hb : Below W.heap.size W W') : Bx w W' u v := ⟨(hb.block _ h.lt).trans h.b, h.below.trans (hb.mono (Nat.le_of_lt h.lt))⟩
theorem Bx.c0 {w W : World} {u v : Value} (h : Bx w W u v) : W.cell? ⟨w.heap.size, 0, none⟩ = some u := cell_of_row _ _ 0 _ _ _ h.b
theorem Bx.c1 {w W : World} {u v : Value} (h : Bx w W u v) : W.cell? ⟨w.heap.size, 1, none⟩ = some v := cell_of_row _ _ 1 _ _ _ h.b

set_option maxRecDepth 100000 in
set_option maxHeartbeats 2000000 in
theorem rlen_is {w : World} {u v : Value} {D : List (Int × Int)} {R : List Int} {lo lo' : Nat} (hu : WSees w lo u D) (hv : ISees w lo' v R) (hbd : D.length ≤ 1000) (hbr : R.length ≤ 1000) {m : Nat} (hm : lenD D R = m) :
    Calls Tryz.prog 78 #[.agg #[u, v]] w fun x w' => x = .returned (.int .i64 m) ∧ Below w.heap.size w w' := by
  have HU := Lib.hid hu
  have HV := Lib.hid hv
  have HM := Lib.hid hm
  obtain ⟨a, cap, rfl, _, hmx, _, _⟩ := hu
  obtain ⟨b, capb, rfl, _, hmxb, _, _⟩ := hv
  clear hm
  go_enter Tryz.func78, Tryz.ntmps78
  go_wp2_with fail
  have H0 := Lib.hid (bx_new w (.slice a D.length cap) (.slice b R.length capb))
  generalize (w.alloc (.cells #[.slice a D.length cap, .slice b R.length capb] TPo)) = W at *
  go_loopw [3, 12] (fun nv q wr => ∃ k c : Nat, k ≤ D.length ∧ q = .int .i64 k ∧ nv = .int .i64 c ∧ c = R.length + ((D.take k).filter fun x => !decide (x.1 ∈ R)).length ∧ Bx w wr (.slice a D.length cap) (.slice b R.length capb)) (fun _ q _ => D.length - (intOf q).toNat)
  case atStart => exact ⟨0, R.length, Nat.zero_le _, rfl, rfl, by simp, H0.out⟩
  case round =>
    obtain ⟨k, c, hk, rfl, rfl, hc, hb⟩ := hrel
    have H := Lib.hid hb
    have HC := Lib.hid hc
    have hcb : c ≤ 2000 := by
      have := List.length_filter_le (fun x : Int × Int => !decide (x.1 ∈ R)) (D.take k)
      rw [List.length_take] at this
      omega
    clear H0 hb hc
    by_cases hlt : k < D.length
    · obtain ⟨x, hx⟩ : ∃ x, D[k]? = some x := ⟨_, List.getElem?_eq_getElem hlt⟩
      obtain ⟨ad, rfl, c0, c1⟩ := (HU.out.below H.out.below).at hx
      have HX := Lib.hid (take_one hx)
      have H1 := Lib.hid (H.out.next (below_alloc (w := wr) (.cells #[.int .i64 x.1, .int .i64 x.2] TW)))
      have z0 := H1.out.c0
      have z1 := H1.out.c1
      clear hx
      go_wp2_with fail
      clear c0 c1 z0 z1 H
      generalize (wr.alloc (.cells #[.int .i64 x.1, .int .i64 x.2] TW)) = W1 at *
      by_cases hq : x.1 ∈ R
      · refine (ris_is (HV.out.below H1.out.below) (by omega) x.1 (r := true) (by simpa using hq)).mono ?_
        rintro e w2 ⟨rfl, hb2⟩
        have HN : Hid (c = R.length + ((D.take (k + 1)).filter fun x => !decide (x.1 ∈ R)).length) := Lib.hid (by rw [HX.out, List.filter_append, List.length_append, HC.out]; simp [hq])
        have H2 := Lib.hid (H1.out.next hb2)
        clear hb2 hq
        go_wp2_with fail
        go_roundw
        case rel => exact ⟨k + 1, c, by omega, by go_num, rfl, HN.out, H2.out⟩
        case measure => simp [intOf]; omega
      · refine (ris_is (HV.out.below H1.out.below) (by omega) x.1 (r := false) (by simpa using hq)).mono ?_
        rintro e w2 ⟨rfl, hb2⟩
        have HN : Hid (c + 1 = R.length + ((D.take (k + 1)).filter fun x => !decide (x.1 ∈ R)).length) := Lib.hid (by rw [HX.out, List.filter_append, List.length_append, HC.out]; simp [hq]; omega)
        have H2 := Lib.hid (H1.out.next hb2)
        clear hb2 hq
        go_wp2_with fail
        go_roundw
        case rel => exact ⟨k + 1, c + 1, by omega, by go_num, by go_num, HN.out, H2.out⟩
        case measure => simp [intOf]; omega
    · obtain rfl : k = D.length := by omega
      have hc := HC.out
      rw [List.take_length] at hc
      obtain rfl : c = m := by rw [← HM.out]; exact hc
      clear hc
      go_wp2_with fail
      go_ret
      exact ⟨rfl, H.out.below⟩

set_option maxRecDepth 100000 in
set_option maxHeartbeats 2000000 in
theorem rfull_is {w : World} {u v : Value} {D : List (Int × Int)} {R : List Int} {lo lo' : Nat} (hu : WSees w lo u D) (hv : ISees w lo' v R) (hbd : D.length ≤ 1000) (hbr : R.length ≤ 1000) (fd : Int) {r : Bool} (hr : fullD D R fd = r) :
    Calls Tryz.prog 66 #[.agg #[u, v], .int .i64 fd] w fun x w' => x = .returned (.bool r) ∧ Below w.heap.size w w' := by
  have HU := Lib.hid hu
  have HV := Lib.hid hv
  obtain ⟨a, cap, rfl, _, hmx, _, _⟩ := hu
  obtain ⟨b, capb, rfl, _, hmxb, _, _⟩ := hv
  by_cases h1 : fd ∈ R
  · obtain rfl : r = false := by rw [← hr]; simp [fullD, h1]
    have H1 : Hid (decide (fd ∈ R) = true) := Lib.hid (by simpa using h1)
    clear hr h1
    go_enter Tryz.func66, Tryz.ntmps66
    go_wp2_with fail
    have HB := Lib.hid (bx_new w (.slice a D.length cap) (.slice b R.length capb))
    generalize (w.alloc (.cells #[.slice a D.length cap, .slice b R.length capb] TPo)) = W at *
    refine (ris_is (HV.out.below HB.out.below) (by omega) fd H1.out).mono ?_
    rintro e w2 ⟨rfl, hb2⟩
    have H2 := Lib.hid (HB.out.next hb2)
    clear hb2
    go_wp2_with fail
    go_ret
    exact ⟨rfl, H2.out.below⟩
  · have H1 : Hid (decide (fd ∈ R) = false) := Lib.hid (by simpa using h1)
    obtain ⟨y, hy⟩ : ∃ y, whoD D fd = y := ⟨_, rfl⟩
    obtain ⟨L, hL⟩ : ∃ L, lenD D R = L := ⟨_, rfl⟩
    have HY := Lib.hid (And.intro hy hL)
    by_cases hy0 : y < 0
    · have hr2 : decide (1024 ≤ L) = r := by rw [← hr]; unfold fullD; rw [hy, hL]; simp [h1, hy0]
      have hLi : decide ((1024 : Int) ≤ (L : Int)) = r := by rw [← hr2]; congr 1; simp only [eq_iff_iff]; omega
      clear hr h1 hy hL hr2
      go_enter Tryz.func66, Tryz.ntmps66
      go_wp2_with fail
      have HB := Lib.hid (bx_new w (.slice a D.length cap) (.slice b R.length capb))
      generalize (w.alloc (.cells #[.slice a D.length cap, .slice b R.length capb] TPo)) = W at *
      refine (ris_is (HV.out.below HB.out.below) (by omega) fd H1.out).mono ?_
      rintro e w2 ⟨rfl, hb2⟩
      have H2 := Lib.hid (HB.out.next hb2)
      have z0 := H2.out.c0
      have z1 := H2.out.c1
      clear hb2
      go_wp2_with fail
      refine (rwho_is (HU.out.below H2.out.below) (by omega) fd HY.out.1).mono ?_
      rintro e w3 ⟨rfl, hb3⟩
      have H3 := Lib.hid (H2.out.next hb3)
      clear hb3 z0 z1
      have z0 := H3.out.c0
      have z1 := H3.out.c1
      go_wp2_with fail
      refine (rlen_is (HU.out.below H3.out.below) (HV.out.below H3.out.below) hbd hbr HY.out.2).mono ?_
      rintro e w4 ⟨rfl, hb4⟩
      have H4 := Lib.hid (H3.out.next hb4)
      clear hb4 z0 z1
      subst hLi
      go_wp2_with fail
      go_ret
      exact ⟨rfl, H4.out.below⟩
    · obtain rfl : r = false := by rw [← hr]; unfold fullD; rw [hy]; simp [hy0]
      clear hr h1 hy hL
      go_enter Tryz.func66, Tryz.ntmps66
      go_wp2_with fail
      have HB := Lib.hid (bx_new w (.slice a D.length cap) (.slice b R.length capb))
      generalize (w.alloc (.cells #[.slice a D.length cap, .slice b R.length capb] TPo)) = W at *
      refine (ris_is (HV.out.below HB.out.below) (by omega) fd H1.out).mono ?_
      rintro e w2 ⟨rfl, hb2⟩
      have H2 := Lib.hid (HB.out.next hb2)
      have z0 := H2.out.c0
      have z1 := H2.out.c1
      clear hb2
      go_wp2_with fail
      refine (rwho_is (HU.out.below H2.out.below) (by omega) fd HY.out.1).mono ?_
      rintro e w3 ⟨rfl, hb3⟩
      have H3 := Lib.hid (H2.out.next hb3)
      clear hb3 z0 z1
      go_wp2_with fail
      go_ret
      exact ⟨rfl, H3.out.below⟩
end Go.Proofs.YtlhblhgbpaipaaaGreat.Pl
