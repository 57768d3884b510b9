/-
  hostlerref06: PutAll, Get, Steal, List.
-/
import Derived.Test.YtkcoidapnmoljaaRefReady
import Derived.Outline
namespace Go.Proofs.Ytkcoidapnmoljaa.Rng
open Go.RowKit
open Go.Proofs.Ytkcoidapnmoljaa.Ints
set_option linter.unusedVariables false

theorem rtake_x {w : World} {v : Value} {xs : List Int} {lo : Nat} (hv : Ref w lo v xs) (x : Int) (n : Nat) (hx : x = n) (hbig : xs.length ≤ 100000) {F R : List Int} (hF : xs.take n = F) (hR : xs.drop n = R) :
    Calls Try.prog 35 #[v, .int .i64 x] w fun e w' => ∃ a c b d, e = .returned (.tuple #[.slice a F.length c, .slice b R.length d]) ∧ Owns w' w.heap.size (.slice a F.length c) F ∧ Ref w' lo (.slice b R.length d) R ∧ Below w.heap.size w w' ∧ ∀ g, (Value.slice b R.length d).ownBlock = some g → v.ownBlock = some g := by
  subst hx hF hR
  refine (rtake_is hv n hbig).mono ?_
  rintro e w' ⟨o, r, rfl, ho, hr, hb, hob⟩
  obtain ⟨a, c, rfl, _⟩ := Owns.parts ho
  obtain ⟨b, d, rfl, _⟩ := id hr
  exact ⟨a, c, b, d, rfl, ho, hr, hb, hob⟩
theorem join_x {w : World} {v u : Value} {xs ys J : List Int} {lo lo' : Nat} (hv : Ref w lo v xs) (hu : Ref w lo' u ys) (hbig : xs.length + ys.length ≤ 100000) (hJ : xs ++ ys = J) :
    Calls Try.prog 34 #[v, u] w fun e w' => ∃ a c, e = .returned (.slice a J.length c) ∧ Owns w' w.heap.size (.slice a J.length c) J ∧ Below w.heap.size w w' := by
  subst hJ
  refine (join_is hv hu hbig).mono ?_
  rintro e w' ⟨o, rfl, ho, hb⟩
  obtain ⟨a, c, rfl, _⟩ := Owns.parts ho
  exact ⟨a, c, rfl, ho, hb⟩

theorem results_rv3 {fn : Func} {p q q2 : Tmp} (h : fn.results = #[.cell p TR, .tmp q, .tmp q2]) (tmps : Array Value) (w : World) (B : Nat) (a b c d x y : Value) (hB : w.heap[B]? = some (.cells #[a, b, c, d] TR (0, 0)))
    (hp : tmps.getD p undef = .pointer (some ⟨B, 0, none⟩)) (hq : tmps.getD q undef = x) (hq2 : tmps.getD q2 undef = y) : (results fn tmps).run Try.prog w = .ok (.tuple #[.agg #[a, b, c, d], x, y]) w := by
  obtain ⟨c0, c1, c2, c3, _⟩ := four hB
  have hp' : tmps[p]?.getD undef = .pointer (some ⟨B, 0, none⟩) := by simpa using hp
  have hq' : tmps[q]?.getD undef = x := by simpa using hq
  have hq2' : tmps[q2]?.getD undef = y := by simpa using hq2
  clear hB hp hq hq2
  simp [results, h, hp', hq', hq2', asAddr, go_sem, c0, c1, c2, c3]

theorem below_one {w W : World} {B i : Nat} {v : Value} {n : Nat} (h : Below n w W) (hB : n ≤ B) : Below n w (W.setCell ⟨B, i, none⟩ v) :=
  ⟨h.os, h.tape, h.output, by simpa using h.size, fun j hj => (one_other (by omega)).trans (h.block j hj)⟩
theorem below_four {w W : World} {B i j l m : Nat} {a b c d : Value} {n : Nat} (h : Below n w W) (hB : n ≤ B) : Below n w ((((W.setCell ⟨B, i, none⟩ a).setCell ⟨B, j, none⟩ b).setCell ⟨B, l, none⟩ c).setCell ⟨B, m, none⟩ d) :=
  below_one (below_one (below_one (below_one h hB) hB) hB) hB
theorem ref_one_at {w : World} {B i : Nat} {x v : Value} {lo : Nat} {xs : List Int} (h : Ref w lo v xs) (hB : ∀ j, v.ownBlock = some j → j ≠ B) : Ref (w.setCell ⟨B, i, none⟩ x) lo v xs :=
  ref_at h (by simp) fun j hj => one_other (hB j hj)
theorem ref_four_at {w : World} {B i j l m : Nat} {a b c d v : Value} {lo : Nat} {xs : List Int} (h : Ref w lo v xs) (hB : ∀ j, v.ownBlock = some j → j ≠ B) : Ref ((((w.setCell ⟨B, i, none⟩ a).setCell ⟨B, j, none⟩ b).setCell ⟨B, l, none⟩ c).setCell ⟨B, m, none⟩ d) lo v xs :=
  ref_one_at (ref_one_at (ref_one_at (ref_one_at h hB) hB) hB) hB
theorem own_low {w : World} {lo : Nat} {v : Value} {xs : List Int} (h : Ref w lo v xs) {j : Nat} (hj : v.ownBlock = some j) : lo ≤ j := by
  obtain ⟨a, cap, rfl, _, _, hl⟩ := h
  cases a with
  | none => simp [Value.ownBlock] at hj
  | some c => simp [Value.ownBlock] at hj; subst hj; exact (hl c rfl).1

set_option maxRecDepth 100000 in
set_option maxHeartbeats 1000000 in
theorem rputall_is {w : World} {s v : Value} {row l : List Int} {lo lo2 : Nat} (is : Bool) (nx st : Int) (hs : Ref w lo s row) (hlo : lo ≤ w.heap.size) (hn : row.length ≤ 256) (hv : Ref w lo2 v l) (hl : l.length ≤ 90000) :
    Calls Try.prog 31 #[RV s is nx st, v] w fun e w' => ∃ s' o, e = .returned (.tuple #[RV s' is nx st, o]) ∧ Ref w' w.heap.size s' (row ++ l.take (256 - row.length)) ∧ Ref w' lo2 o (l.drop (256 - row.length)) ∧ Below w.heap.size w w' ∧ ∀ j, o.ownBlock = some j → v.ownBlock = some j := by
  obtain ⟨F, hF⟩ : ∃ F, l.take (256 - row.length) = F := ⟨_, rfl⟩
  obtain ⟨R, hR⟩ : ∃ R, l.drop (256 - row.length) = R := ⟨_, rfl⟩
  obtain ⟨J, hJ⟩ : ∃ J, row ++ F = J := ⟨_, rfl⟩
  have hFl : F.length ≤ 90000 := by rw [← hF, List.length_take]; omega
  rw [hF, hR, hJ]
  have HF := Lib.hid hF
  have HR := Lib.hid hR
  have HJ := Lib.hid hJ
  have HS := Lib.hid hs
  have HV := Lib.hid hv
  have HVB : Hid (∀ j, v.ownBlock = some j → j < w.heap.size) := Lib.hid fun j hj => ref_block hv hj
  obtain ⟨a, cap, rfl, _⟩ := hs
  obtain ⟨b, capb, rfl, _⟩ := hv
  clear hF hR hJ
  unfold RV
  go_enter Try.func31, Try.ntmps31
  go_wp2_with fail
  refine (rtake_x (Ref.below HV.out (below_two w _ _)) _ (256 - row.length) (by omega) (by omega) HF.out HR.out).mono ?_
  rintro e w1 ⟨fa, fc, ra, rc, rfl, ho, hr, hb, hob⟩
  obtain ⟨hA, hB2, hbw, hsz⟩ := two_blocks w w1 _ _ hb
  obtain ⟨x0, x1, x2, x3, xf⟩ := four hA
  have HO := Lib.hid (And.intro ho (And.intro hr (And.intro hob (And.intro hA (And.intro hB2 (And.intro hbw hsz))))))
  clear ho hr hob hb hA hB2 hbw hsz
  go_wp2_with fail
  refine (join_x (Ref.below HS.out HO.out.2.2.2.2.2.1) (Owns.ref (lo := 0) HO.out.1 (Nat.zero_le _)) (by omega) HJ.out).mono ?_
  rintro e w2 ⟨ja, jc, rfl, ho2, hb2⟩
  have hlt1 := HO.out.2.2.2.2.2.2
  have hA := (hb2.block _ (by omega)).trans HO.out.2.2.2.1
  have hB2 := (hb2.block _ (by omega)).trans HO.out.2.2.2.2.1
  have hbw := HO.out.2.2.2.2.2.1.trans (hb2.mono HO.out.2.2.2.2.2.1.size)
  have hr2 := Ref.below HO.out.2.1 hb2
  have hlt2 := hb2.size
  have hj : Owns w2 (w.heap.size + 2) (.slice ja J.length jc) J := ho2.lower (by omega)
  obtain ⟨x0, x1, x2, x3, xf⟩ := four hA
  obtain ⟨y0, y1, y2, y3, yf⟩ := four hB2
  have HO2 := Lib.hid (And.intro hj (And.intro hr2 (And.intro hA (And.intro hB2 hbw))))
  clear ho2 hb2 hA hB2 hbw hr2 hj
  go_wp2_with fail
  have hB3 : (w2.setCell ⟨w.heap.size, 0, none⟩ (.slice ja J.length jc)).heap[w.heap.size + 1]? = some (.cells #[.slice none 0 0, .bool false, .int .i64 0, .int .i64 0] TR (0, 0)) := (one_other (by omega)).trans HO2.out.2.2.2.1
  refine bodyPost_ret (results_rv rfl _ _ (w.heap.size + 1) (.slice ja J.length jc) (.bool is) (.int .i64 nx) (.int .i64 st) (.slice ra R.length rc) (four_set hB3) rfl rfl) rfl ⟨_, _, rfl, ?_, ?_, ?_, HO.out.2.2.1⟩
  · refine Ref.lower (ref_four_at (ref_one_at (Owns.ref (lo := w.heap.size + 2) HO2.out.1 (Nat.le_refl _)) ?_) ?_) (by omega)
    · intro j hj; have := (HO2.out.1.block hj).1; omega
    · intro j hj; have := (HO2.out.1.block hj).1; omega
  · refine ref_four_at (ref_one_at HO2.out.2.1 ?_) ?_
    · intro j hj; have := HVB.out j (HO.out.2.2.1 j hj); omega
    · intro j hj; have := HVB.out j (HO.out.2.2.1 j hj); omega
  · exact below_four (below_one HO2.out.2.2.2.2 (Nat.le_refl _)) (by omega)

set_option maxRecDepth 100000 in
set_option maxHeartbeats 1000000 in
theorem rlist_none {w : World} {s : Value} {row : List Int} {lo : Nat} (nx st : Int) (hs : Ref w lo s row) :
    Calls Try.prog 22 #[RV s false nx st] w fun e w' => ∃ a c, e = .returned (.slice a row.length c) ∧ Sees w' (.slice a row.length c) row ∧ Below w.heap.size w w' := by
  have HS := Lib.hid hs
  obtain ⟨a, cap, rfl, _⟩ := hs
  unfold RV
  go_enter Try.func22, Try.ntmps22
  go_wp2_with fail
  go_ret
  have hb := (Below.refl w.heap.size w).alloc (Nat.le_refl _) (.cells #[.slice a row.length cap, .bool false, .int .i64 nx, .int .i64 st] TR)
  exact ⟨_, _, rfl, (HS.out.sees).below hb, hb⟩

set_option maxRecDepth 100000 in
set_option maxHeartbeats 1000000 in
theorem rlist_some {w : World} {s : Value} {row : List Int} {lo : Nat} (nx st : Int) (hs : Ref w lo s row) (hn : row.length ≤ 256) {J : List Int} (hJ : row ++ [nx] = J) :
    Calls Try.prog 22 #[RV s true nx st] w fun e w' => ∃ a c, e = .returned (.slice a J.length c) ∧ Sees w' (.slice a J.length c) J ∧ Below w.heap.size w w' := by
  have HS := Lib.hid hs
  have HJ := Lib.hid hJ
  obtain ⟨a, cap, rfl, _⟩ := hs
  clear hJ
  unfold RV
  go_enter Try.func22, Try.ntmps22
  go_wp2_with fail
  refine (join_x (Ref.below HS.out (((Below.refl w.heap.size w).alloc (Nat.le_refl _) _).alloc (by simp) _)) (ref_one _ _ (by simp) nx) (by simp; omega) HJ.out).mono ?_
  rintro e w1 ⟨ja, jc, rfl, ho, hb⟩
  have H := Lib.hid (And.intro ho.sees ((((Below.refl w.heap.size w).alloc (Nat.le_refl _) _).alloc (by simp) _).trans (hb.mono (by simp; omega))))
  clear ho hb
  go_wp2_with fail
  go_ret
  exact ⟨_, _, rfl, H.out.1, H.out.2⟩
end Go.Proofs.Ytkcoidapnmoljaa.Rng
