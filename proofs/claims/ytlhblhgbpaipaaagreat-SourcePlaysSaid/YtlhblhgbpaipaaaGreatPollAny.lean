/-
  Package poll and hostlerref11: each deed in one form; both answer the same.
-/
import Derived.Test.YtlhblhgbpaipaaaGreatMgRp2
import Derived.Test.YtlhblhgbpaipaaaGreatMgPoll
namespace Go.Proofs.YtlhblhgbpaipaaaGreat.Pl
open Go.RowKit
set_option linter.unusedVariables false
set_option linter.unusedSimpArgs false

/-- What Mark, Ready answer; what is ready then. -/
def markR (W : List (Int × Int)) (R : List Int) (fd : Int) : Int × List Int := if fullD W R fd then (2, R) else (0, if fd ∈ R then R else R ++ [fd])
def readyF (F : List (Int × St)) (fd : Int) : Int × List (Int × St) := if fullL F fd then (2, F) else (0, aput F fd { stOf F fd with ready := true })
/-- What Put, Wait answer; who waits then. -/
def putW (W : List (Int × Int)) (R : List Int) (fd g : Int) : Int × List (Int × Int) :=
  if g < 0 ∨ 4095 < g then (1, W) else if 0 ≤ whoD W fd ∨ hasD W g = true then (8, W) else if fullD W R fd then (2, W) else (0, W ++ [(fd, g)])
def waitF (F : List (Int × St)) (G : List (Int × Int)) (fd g : Int) : Int × List (Int × St) × List (Int × Int) :=
  if g < 0 ∨ 4095 < g then (1, F, G) else if (stOf F fd).waits = true ∨ (alook G g).isSome = true then (8, F, G) else if fullL F fd then (2, F, G) else (0, aput F fd ⟨g, true, (stOf F fd).ready⟩, aput G g fd)
/-- What Take answers, of the best one; what is left. -/
def takeA (b : Int × Int) : Int × Int × Bool := if b.1 = 65536 then (0, 0, false) else (b.1, b.2, true)
def leftW (b : Int × Int) (W : List (Int × Int)) : List (Int × Int) := if b.1 = 65536 then W else butW b W
def leftI (b : Int × Int) (R : List Int) : List Int := if b.1 = 65536 then R else butI b.1 R
def leftF (b : Int × Int) (F : List (Int × St)) : List (Int × St) := if b.1 = 65536 then F else adel F b.1
def leftG (b : Int × Int) (G : List (Int × Int)) : List (Int × Int) := if b.1 = 65536 then G else adel G b.2
section
variable {F : List (Int × St)} {G W : List (Int × Int)} {R : List Int}
theorem PR.markA (h : PR F G W R) {fd e : Int} {F' : List (Int × St)} {R' : List Int} (h1 : readyF F fd = (e, F')) (h2 : markR W R fd = (e, R')) : PR F' G W R' := by
  unfold readyF at h1
  unfold markR at h2
  rw [h.full] at h1
  by_cases hf : fullD W R fd = true
  · rw [if_pos hf] at h1 h2; cases h1; cases h2; exact h
  · rw [if_neg hf] at h1 h2
    cases h1; cases h2
    exact h.mark (by rw [h.full]; simpa using hf)
theorem PR.markE (h : PR F G W R) (fd : Int) : (readyF F fd).1 = (markR W R fd).1 := by
  unfold readyF markR; rw [h.full]; split <;> rfl
theorem PR.waitQ (h : PR F G W R) (fd g : Int) : ((stOf F fd).waits = true ∨ (alook G g).isSome = true) = (0 ≤ whoD W fd ∨ hasD W g = true) := by
  rw [h.who, h.has]; simp
theorem PR.putE (h : PR F G W R) (fd g : Int) : (waitF F G fd g).1 = (putW W R fd g).1 := by
  unfold waitF putW; simp only [h.waitQ, h.full]; (repeat' split) <;> rfl
theorem PR.putA (h : PR F G W R) {fd g e : Int} (hr : 0 ≤ fd ∧ fd < 65536) {F' : List (Int × St)} {G' W' : List (Int × Int)} (h1 : waitF F G fd g = (e, F', G')) (h2 : putW W R fd g = (e, W')) : PR F' G' W' R := by
  unfold waitF at h1
  unfold putW at h2
  by_cases hg : g < 0 ∨ 4095 < g
  · rw [if_pos hg] at h1 h2; cases h1; cases h2; exact h
  · rw [if_neg hg] at h1 h2
    simp only [h.waitQ] at h1
    by_cases hq : 0 ≤ whoD W fd ∨ hasD W g = true
    · rw [if_pos hq] at h1 h2; cases h1; cases h2; exact h
    · rw [if_neg hq] at h1 h2
      rw [h.full] at h1
      by_cases hf : fullD W R fd = true
      · rw [if_pos hf] at h1 h2; cases h1; cases h2; exact h
      · rw [if_neg hf] at h1 h2
        cases h1; cases h2
        have hq' : ¬ ((stOf F fd).waits = true ∨ (alook G g).isSome = true) := by rw [h.waitQ]; exact hq
        exact h.put (by omega) (by omega) (by simpa using fun e => hq' (.inl e)) (by simpa using fun e => hq' (.inr e)) (by rw [h.full]; simpa using hf) hr
theorem PR.takeL (h : PR F G W R) : PR (leftF (bestD R W (65536, 0)) F) (leftG (bestD R W (65536, 0)) G) (leftW (bestD R W (65536, 0)) W) (leftI (bestD R W (65536, 0)) R) := by
  unfold leftF leftG leftW leftI
  by_cases hb : (bestD R W (65536, 0)).1 = 65536
  · simp only [if_pos hb]; exact h
  · simp only [if_neg hb]
    exact h.take (fd := (bestD R W (65536, 0)).1) (g := (bestD R W (65536, 0)).2) (h.some_iff hb)
end
section
variable {w : World} {base pb fb wb : Nat} {F : List (Int × St)} {G : List (Int × Int)}
theorem PFr.of_none {w w' : World} {fb wb : Nat} (h : w.grownBy w' none) : PFr w w' fb wb := .of h (.inl rfl)
theorem pready_any (h : IsPl w base pb fb wb F G) (fd : Int) {e : Int} {F' : List (Int × St)} (hr : readyF F fd = (e, F')) :
    Calls Tryz.prog 52 #[.pointer (some ⟨pb, 0, none⟩), .int .u16 fd] w fun x w' => x = .returned (.int .i64 e) ∧ IsPl w' base pb fb wb F' G ∧ PFr w w' fb wb := by
  unfold readyF at hr
  by_cases hf : fullL F fd = true
  · rw [if_pos hf] at hr; cases hr
    exact (ready_full h fd hf).mono fun x w' ⟨h1, h2⟩ => ⟨h1, h.grown h2, .of_none h2⟩
  · rw [if_neg hf] at hr; cases hr
    exact ready_ok h fd (by simpa using hf)
theorem pwait_any (h : IsPl w base pb fb wb F G) (fd g : Int) {e : Int} {F' : List (Int × St)} {G' : List (Int × Int)} (hr : waitF F G fd g = (e, F', G')) :
    Calls Tryz.prog 49 #[.pointer (some ⟨pb, 0, none⟩), .int .u16 fd, .int .i64 g] w fun x w' => x = .returned (.int .i64 e) ∧ IsPl w' base pb fb wb F' G' ∧ PFr w w' fb wb := by
  unfold waitF at hr
  by_cases hg : g < 0 ∨ 4095 < g
  · rw [if_pos hg] at hr; cases hr
    exact (wait_arg h fd g (by omega)).mono fun x w' ⟨h1, h2⟩ => ⟨h1, h.grown h2, .of_none h2⟩
  · rw [if_neg hg] at hr
    by_cases hq : (stOf F fd).waits = true ∨ (alook G g).isSome = true
    · rw [if_pos hq] at hr; cases hr
      exact (wait_same h fd g (by omega) (by omega) hq).mono fun x w' ⟨h1, h2⟩ => ⟨h1, h.grown h2, .of_none h2⟩
    · rw [if_neg hq] at hr
      have h1 : (stOf F fd).waits = false := by simpa using fun e => hq (.inl e)
      have h2 : (alook G g).isSome = false := by simpa using fun e => hq (.inr e)
      by_cases hf : fullL F fd = true
      · rw [if_pos hf] at hr; cases hr
        exact (wait_full h fd g (by omega) (by omega) h1 h2 hf).mono fun x w' ⟨h1, h2⟩ => ⟨h1, h.grown h2, .of_none h2⟩
      · rw [if_neg hf] at hr; cases hr
        exact wait_ok h fd g (by omega) (by omega) h1 h2 (by simpa using hf)
theorem ptake_any (h : IsPl w base pb fb wb F G) (hbig : F.length ≤ 2000) {b : Int × Int} (hb : if b.1 = 65536 then Least F none else Least F (some b)) {x y : Int} {ok : Bool} (hr : takeA b = (x, y, ok)) :
    Calls Tryz.prog 47 #[.pointer (some ⟨pb, 0, none⟩)] w fun e w' => e = .returned (.tuple #[.int .u16 x, .int .i64 y, .bool ok]) ∧ IsPl w' base pb fb wb (leftF b F) (leftG b G) ∧ PFr w w' fb wb := by
  unfold takeA at hr
  unfold leftF leftG
  by_cases h6 : b.1 = 65536
  · simp only [if_pos h6] at hr hb ⊢; cases hr
    exact (ptake_none h hbig hb).mono fun x w' ⟨h1, h2⟩ => ⟨h1, h.grown h2, .of_none h2⟩
  · simp only [if_neg h6] at hr hb ⊢; cases hr
    exact ptake_some h hbig hb
end
theorem PR.bestL {F : List (Int × St)} {G W : List (Int × Int)} {R : List Int} (h : PR F G W R) : if (bestD R W (65536, 0)).1 = 65536 then Least F none else Least F (some (bestD R W (65536, 0))) := by
  by_cases hb : (bestD R W (65536, 0)).1 = 65536
  · rw [if_pos hb]; exact h.none_iff hb
  · rw [if_neg hb]; exact h.some_iff hb

/-- A slice's block is an elder one's, or new. -/
def Fresh (w : World) (v v' : Value) : Prop := ∀ j, v'.ownBlock = some j → v.ownBlock = some j ∨ w.heap.size ≤ j
theorem fresh_own {w w' : World} {v v' : Value} {n len : Nat} {T : TypeId} {cs : List Value} (h : w'.ownsRow w.heap.size T n v' len cs) : Fresh w v v' := fun j hj => .inr (World.ownsRow.lt h j hj).1
theorem wsees_lower {w : World} {lo lo' : Nat} {v : Value} {D : List (Int × Int)} (h : WSees w lo v D) (hl : lo' ≤ lo) : WSees w lo' v D := by
  obtain ⟨a, cap, h1, h2, h3, h4, h5⟩ := h
  exact ⟨a, cap, h1, h2, h3, fun c e => ⟨Nat.le_trans hl (h4 c e).1, (h4 c e).2⟩, h5⟩
theorem isees_lower {w : World} {lo lo' : Nat} {v : Value} {R : List Int} (h : ISees w lo v R) (hl : lo' ≤ lo) : ISees w lo' v R := by
  obtain ⟨a, cap, h1, h2, h3, h4, h5⟩ := h
  exact ⟨a, cap, h1, h2, h3, fun c e => ⟨Nat.le_trans hl (h4 c e).1, (h4 c e).2⟩, h5⟩
section
variable {w : World} {lo n1 c1 n2 c2 : Nat} {a1 a2 : Option Addr} {D : List (Int × Int)} {R : List Int}
theorem wsees_len (h : WSees w lo (.slice a1 n1 c1) D) : n1 = D.length := by obtain ⟨_, _, e, _⟩ := h; exact (Value.slice.inj e).2.1
theorem isees_len (h : ISees w lo (.slice a2 n2 c2) R) : n2 = R.length := by obtain ⟨_, _, e, _⟩ := h; exact (Value.slice.inj e).2.1
theorem wsees_none (h : WSees w lo (.slice none n1 c1) D) : D = [] := by
  obtain ⟨_, _, e, _, _, _, hc⟩ := h
  obtain ⟨rfl, _, _⟩ := Value.slice.inj e
  cases D with
  | nil => rfl
  | cons x t => obtain ⟨_, h, _⟩ := hc 0 _ rfl; cases h
theorem isees_none (h : ISees w lo (.slice none n2 c2) R) : R = [] := by
  obtain ⟨_, _, e, _, _, _, hc⟩ := h
  obtain ⟨rfl, _, _⟩ := Value.slice.inj e
  cases R with
  | nil => rfl
  | cons x t => obtain ⟨_, h, _⟩ := hc 0 _ rfl; cases h
theorem owns_slice {w' : World} {base n len : Nat} {T : TypeId} {v : Value} {cs : List Value} (h : w'.ownsRow base T n v len cs) : ∃ a c, v = .slice a len c := by
  obtain ⟨a, c, e, _⟩ := rsees_own h (Nat.le_refl _); exact ⟨a, c, e⟩
/-- Mark, in one form. -/
theorem rmark_any (hu : WSees w lo (.slice a1 n1 c1) D) (hv : ISees w lo (.slice a2 n2 c2) R) (hlo : lo ≤ w.heap.size) (hbd : D.length ≤ 1000) (hbr : R.length ≤ 1000) (fd : Int) {e : Int} {R' : List Int} (hr : markR D R fd = (e, R')) :
    Calls Tryz.prog 51 #[.agg #[.slice a1 n1 c1, .slice a2 n2 c2], .int .i64 fd] w fun x w' => ∃ b n c, x = .returned (.tuple #[.agg #[.slice a1 n1 c1, .slice b n c], .int .i64 e]) ∧ ISees w' lo (.slice b n c) R' ∧ Fresh w (.slice a2 n2 c2) (.slice b n c) ∧ Below w.heap.size w w' := by
  obtain rfl := wsees_len hu
  obtain rfl := isees_len hv
  unfold markR at hr
  by_cases hf : fullD D R fd = true
  · rw [if_pos hf] at hr; cases hr
    exact (rmark_full hu hv hbd hbr fd hf).mono fun x w' ⟨h1, h2⟩ => ⟨_, _, _, h1, hv.below h2, fun j hj => .inl hj, h2⟩
  · rw [if_neg hf] at hr
    have hf' : fullD D R fd = false := by simpa using hf
    by_cases hi : fd ∈ R
    · rw [if_pos hi] at hr; cases hr
      exact (rmark_is hu hv hbd hbr fd hf' (by simpa using hi)).mono fun x w' ⟨h1, h2⟩ => ⟨_, _, _, h1, hv.below h2, fun j hj => .inl hj, h2⟩
    · rw [if_neg hi] at hr; cases hr
      cases a2 with
      | none =>
        obtain rfl := isees_none hv
        refine (rmark_nil hu hv hbd fd hf' (by simp)).mono ?_
        rintro x w' ⟨v', h1, h2, h3⟩
        obtain ⟨b, c, rfl⟩ := owns_slice h2
        exact ⟨b, _, c, h1, rsees_own h2 hlo, fresh_own h2, h3⟩
      | some ad =>
        refine (rmark_some hu hv hbd hbr fd hf' (by simpa using hi)).mono ?_
        rintro x w' ⟨v', h1, h2, h3⟩
        obtain ⟨b, c, rfl⟩ := owns_slice h2
        exact ⟨b, _, c, h1, rsees_own h2 hlo, fresh_own h2, h3⟩
/-- Put, in one form. -/
theorem rput_any (hu : WSees w lo (.slice a1 n1 c1) D) (hv : ISees w lo (.slice a2 n2 c2) R) (hlo : lo ≤ w.heap.size) (hbd : D.length ≤ 1000) (hbr : R.length ≤ 1000) (fd g : Int) {e : Int} {D' : List (Int × Int)} (hr : putW D R fd g = (e, D')) :
    Calls Tryz.prog 48 #[.agg #[.slice a1 n1 c1, .slice a2 n2 c2], .int .i64 fd, .int .i64 g] w fun x w' => ∃ b n c, x = .returned (.tuple #[.agg #[.slice b n c, .slice a2 n2 c2], .int .i64 e]) ∧ WSees w' lo (.slice b n c) D' ∧ Fresh w (.slice a1 n1 c1) (.slice b n c) ∧ Below w.heap.size w w' := by
  obtain rfl := wsees_len hu
  obtain rfl := isees_len hv
  unfold putW at hr
  by_cases hg : g < 0 ∨ 4095 < g
  · rw [if_pos hg] at hr; cases hr
    exact (rput_arg fd g hg).mono fun x w' ⟨h1, h2⟩ => ⟨_, _, _, h1, hu.below h2, fun j hj => .inl hj, h2⟩
  · rw [if_neg hg] at hr
    by_cases hq : 0 ≤ whoD D fd ∨ hasD D g = true
    · rw [if_pos hq] at hr; cases hr
      exact (rput_same hu hv hbd fd g (by omega) (by omega) hq).mono fun x w' ⟨h1, h2⟩ => ⟨_, _, _, h1, hu.below h2, fun j hj => .inl hj, h2⟩
    · rw [if_neg hq] at hr
      have hw : whoD D fd < 0 := by have : ¬ 0 ≤ whoD D fd := fun e => hq (.inl e); omega
      have hh : hasD D g = false := by simpa using fun e => hq (.inr e)
      by_cases hf : fullD D R fd = true
      · rw [if_pos hf] at hr; cases hr
        exact (rput_full hu hv hbd hbr fd g (by omega) (by omega) hw hh hf).mono fun x w' ⟨h1, h2⟩ => ⟨_, _, _, h1, hu.below h2, fun j hj => .inl hj, h2⟩
      · rw [if_neg hf] at hr; cases hr
        have hf' : fullD D R fd = false := by simpa using hf
        cases a1 with
        | none =>
          obtain rfl := wsees_none hu
          refine (rput_nil hu hv hbr fd g (by omega) (by omega) hw hh hf').mono ?_
          rintro x w' ⟨v', h1, h2, h3⟩
          obtain ⟨b, c, rfl⟩ := owns_slice h2
          exact ⟨b, _, c, h1, rsees_own h2 hlo, fresh_own h2, h3⟩
        | some ad =>
          refine (rput_some hu hv hbd hbr fd g (by omega) (by omega) hw hh hf').mono ?_
          rintro x w' ⟨v', h1, h2, h3⟩
          obtain ⟨b, c, rfl⟩ := owns_slice h2
          exact ⟨b, _, c, h1, rsees_own h2 hlo, fresh_own h2, h3⟩
/-- Take, in one form. -/
theorem rtake_any (hu : WSees w lo (.slice a1 n1 c1) D) (hv : ISees w lo (.slice a2 n2 c2) R) (hlo : lo ≤ w.heap.size) (hbd : D.length ≤ 1000) (hbr : R.length ≤ 1000) {b : Int × Int} (hb : bestD R D (65536, 0) = b) {y z : Int} {ok : Bool} (hr : takeA b = (y, z, ok)) :
    Calls Tryz.prog 34 #[.agg #[.slice a1 n1 c1, .slice a2 n2 c2]] w fun x w' => ∃ b1 m1 d1 b2 m2 d2, x = .returned (.tuple #[.agg #[.slice b1 m1 d1, .slice b2 m2 d2], .int .i64 y, .int .i64 z, .bool ok]) ∧ WSees w' lo (.slice b1 m1 d1) (leftW b D) ∧ ISees w' lo (.slice b2 m2 d2) (leftI b R) ∧ Fresh w (.slice a1 n1 c1) (.slice b1 m1 d1) ∧ Fresh w (.slice a2 n2 c2) (.slice b2 m2 d2) ∧ Below w.heap.size w w' := by
  obtain rfl := wsees_len hu
  obtain rfl := isees_len hv
  obtain ⟨bf, bg⟩ := b
  refine (rtake_is hu hv hbd hbr hb).mono ?_
  unfold takeA at hr
  unfold leftW leftI
  rintro x w' ⟨hbl, ⟨h6, rfl⟩ | ⟨h6, v1, v2, rfl, h1, h2⟩⟩
  · simp only [if_pos h6] at hr ⊢; cases hr
    exact ⟨_, _, _, _, _, _, rfl, hu.below hbl, hv.below hbl, fun j hj => .inl hj, fun j hj => .inl hj, hbl⟩
  · simp only [if_neg h6] at hr ⊢; cases hr
    obtain ⟨b1, d1, rfl⟩ := owns_slice h1
    obtain ⟨b2, d2, rfl⟩ := owns_slice h2
    exact ⟨_, _, _, _, _, _, rfl, rsees_own h1 hlo, rsees_own h2 hlo, fresh_own h1, fresh_own h2, hbl⟩
end
theorem PR.bestR {F : List (Int × St)} {G W : List (Int × Int)} {R : List Int} (h : PR F G W R) {y z : Int} {ok : Bool} (hr : takeA (bestD R W (65536, 0)) = (y, z, ok)) : 0 ≤ y ∧ y < 65536 := by
  unfold takeA at hr
  by_cases hb : (bestD R W (65536, 0)).1 = 65536
  · rw [if_pos hb] at hr; cases hr; decide
  · rw [if_neg hb] at hr; cases hr
    obtain ⟨h1, _⟩ := best_inv R W (65536, 0)
    rcases h1 with h1 | ⟨h1, _⟩
    · exact absurd (by rw [h1]) hb
    · exact h.rng _ h1
theorem PR.dueA {F : List (Int × St)} {G W : List (Int × Int)} {R : List Int} (h : PR F G W R) {y z : Int} {ok : Bool} (hr : takeA (bestD R W (65536, 0)) = (y, z, ok)) : dueL F = ok := by
  rw [h.due]
  unfold takeA at hr
  by_cases hb : (bestD R W (65536, 0)).1 = 65536
  · rw [if_pos hb] at hr; cases hr; simp [hb]
  · rw [if_neg hb] at hr; cases hr; simp [hb]
theorem leftW_len (b : Int × Int) (W : List (Int × Int)) : (leftW b W).length ≤ W.length := by unfold leftW; split; exact Nat.le_refl _; exact butW_len _ _
theorem leftI_len (b : Int × Int) (R : List Int) : (leftI b R).length ≤ R.length := by unfold leftI; split; exact Nat.le_refl _; exact butI_len _ _
theorem putW_len {W W' : List (Int × Int)} {R : List Int} {fd g e : Int} (h : putW W R fd g = (e, W')) : W'.length ≤ W.length + 1 := by
  unfold putW at h; (repeat' split at h) <;> cases h <;> simp
theorem markR_len {W : List (Int × Int)} {R R' : List Int} {fd e : Int} (h : markR W R fd = (e, R')) : R'.length ≤ R.length + 1 := by
  unfold markR at h; (repeat' split at h) <;> cases h <;> simp
end Go.Proofs.YtlhblhgbpaipaaaGreat.Pl
