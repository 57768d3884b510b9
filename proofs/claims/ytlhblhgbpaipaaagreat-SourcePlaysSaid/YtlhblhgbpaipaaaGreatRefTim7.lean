/-
  hostlerref10: Add and Take, each in one form.
-/
import Derived.Test.YtlhblhgbpaipaaaGreatRefTim6
namespace Go.Proofs.YtlhblhgbpaipaaaGreat.Hp
open Go.RowKit Go.Shelf
set_option linter.unusedVariables false
set_option linter.unusedSimpArgs false

def anyG (D : List Tim) (g : Int) : Bool := D.any fun y => decide (y.e.g = g)
/-- What Add answers; the row then, and how many were added. -/
def addD (n : Nat) (D : List Tim) (o : Nat) (p g when : Int) : Int × List Tim × Nat :=
  if p < 0 ∨ (n : Int) ≤ p ∨ g < 0 ∨ 4095 < g then (1, D, o) else if anyG D g = true then (8, D, o) else (0, D ++ [⟨p, ⟨when, o, g⟩⟩], o + 1)
/-- What Take answers; the row then. -/
def takeD (D : List Tim) (now : Int) : Ent × Bool × List Tim :=
  match srt (sel (-1) D) with
  | [] => (⟨0, 0, 0⟩, false, D)
  | x :: _ => if x.w ≤ now then (x, true, but x D) else (⟨0, 0, 0⟩, false, D)
theorem sel_all (D : List Tim) : sel (-1) D = D.map (·.e) := by
  unfold sel; rw [List.filter_eq_self.2]; intro x _; simp
/-- A slice's block is an elder one's, or new. -/
def FreshT (w : World) (v v' : Value) : Prop := ∀ j, v'.ownBlock = some j → v.ownBlock = some j ∨ w.heap.size ≤ j
theorem fresh_ownT {w w' : World} {v v' : Value} {D : List Tim} (h : OwnsT w' w.heap.size v' D) : FreshT w v v' := fun j hj => .inr (World.ownsRow.lt h j hj).1
theorem ownsT_slice {w' : World} {base : Nat} {v : Value} {D : List Tim} (h : OwnsT w' base v D) : ∃ a c, v = .slice a D.length c := by
  obtain ⟨a, c, e, _⟩ := OwnsT.sees h (Nat.le_refl _); exact ⟨a, c, e⟩
section
variable {w : World} {lo m cap : Nat} {a : Option Addr} {D : List Tim}
theorem tsees_len (h : TSees w lo (.slice a m cap) D) : m = D.length := by obtain ⟨_, _, e, _⟩ := h; exact (Value.slice.inj e).2.1
theorem tsees_none (h : TSees w lo (.slice none m cap) D) : D = [] := by
  obtain ⟨_, _, e, _, _, _, hc⟩ := h
  obtain ⟨rfl, _, _⟩ := Value.slice.inj e
  cases D with
  | nil => rfl
  | cons x t => obtain ⟨_, h, _⟩ := hc 0 _ rfl; cases h
theorem radd_any (hv : TSees w lo (.slice a m cap) D) (hlo : lo ≤ w.heap.size) (hbig : D.length ≤ 1000) (n o : Nat) (p g when : Int) {e : Int} {D' : List Tim} {o' : Nat} (hr : addD n D o p g when = (e, D', o')) (ho : o < 4611686018427387904) :
    Calls Tryz.prog 54 #[.agg #[.int .i64 n, .slice a m cap, .int .u64 o], .int .i64 p, .int .i64 g, .int .i64 when] w fun x w' => ∃ b m' c, x = .returned (.tuple #[.agg #[.int .i64 n, .slice b m' c, .int .u64 o'], .int .i64 e]) ∧ TSees w' lo (.slice b m' c) D' ∧ FreshT w (.slice a m cap) (.slice b m' c) ∧ Below w.heap.size w w' := by
  obtain rfl := tsees_len hv
  unfold addD at hr
  by_cases hb : p < 0 ∨ (n : Int) ≤ p ∨ g < 0 ∨ 4095 < g
  · rw [if_pos hb] at hr; cases hr
    exact (radd_arg hv n o p g when hb).mono fun x w' ⟨h1, h2⟩ => ⟨_, _, _, h1, hv.below h2, fun j hj => .inl hj, h2⟩
  · rw [if_neg hb] at hr
    by_cases hq : anyG D g = true
    · rw [if_pos hq] at hr; cases hr
      exact (radd_same hv hbig n o p g when (by omega) (by omega) (by omega) (by omega) hq).mono fun x w' ⟨h1, h2⟩ => ⟨_, _, _, h1, hv.below h2, fun j hj => .inl hj, h2⟩
    · rw [if_neg hq] at hr; cases hr
      have hq' : (D.any fun y => decide (y.e.g = g)) = false := by simpa [anyG] using hq
      have hw : IntKind.u64.wrap ((o : Int) + 1) = ((o + 1 : Nat) : Int) := by rw [IntKind.wrap_u64]; omega
      cases a with
      | none =>
        obtain rfl := tsees_none hv
        refine (radd_nil hv n o p g when (by omega) (by omega) (by omega) (by omega) hw).mono ?_
        rintro x w' ⟨v', h1, h2, h3⟩
        obtain ⟨b, c, rfl⟩ := ownsT_slice h2
        exact ⟨b, _, c, h1, OwnsT.sees h2 hlo, fresh_ownT h2, h3⟩
      | some ad =>
        refine (radd_some hv hbig n o p g when (by omega) (by omega) (by omega) (by omega) hq' hw).mono ?_
        rintro x w' ⟨v', h1, h2, h3⟩
        obtain ⟨b, c, rfl⟩ := ownsT_slice h2
        exact ⟨b, _, c, h1, OwnsT.sees h2 hlo, fresh_ownT h2, h3⟩
theorem rtake_anyT (hv : TSees w lo (.slice a m cap) D) (hlo : lo ≤ w.heap.size) (hbig : D.length ≤ 1000) (n o : Nat) (now : Int) {x : Ent} {ok : Bool} {D' : List Tim} (hr : takeD D now = (x, ok, D')) :
    Calls Tryz.prog 33 #[.agg #[.int .i64 n, .slice a m cap, .int .u64 o], .int .i64 now] w fun e w' => ∃ b m' c, e = .returned (.tuple #[.agg #[.int .i64 n, .slice b m' c, .int .u64 o], x.agg, .bool ok]) ∧ TSees w' lo (.slice b m' c) D' ∧ FreshT w (.slice a m cap) (.slice b m' c) ∧ Below w.heap.size w w' := by
  obtain rfl := tsees_len hv
  unfold takeD at hr
  cases hL : srt (sel (-1) D) with
  | nil =>
    rw [hL] at hr; cases hr
    exact (rtake_no hv hbig n o now hL (fun _ _ h => by cases h)).mono fun x w' ⟨h1, h2⟩ => ⟨_, _, _, h1, hv.below h2, fun j hj => .inl hj, h2⟩
  | cons y t =>
    rw [hL] at hr
    by_cases hy : y.w ≤ now
    · simp only [if_pos hy] at hr; cases hr
      refine (rtake_yes hv hbig n o now hL hy).mono ?_
      rintro x w' ⟨v', h1, h2, h3⟩
      obtain ⟨b, c, rfl⟩ := ownsT_slice h2
      exact ⟨b, _, c, h1, OwnsT.sees h2 hlo, fresh_ownT h2, h3⟩
    · simp only [if_neg hy] at hr; cases hr
      exact (rtake_no hv hbig n o now hL (fun _ _ h => by cases h; omega)).mono fun x w' ⟨h1, h2⟩ => ⟨_, _, _, h1, hv.below h2, fun j hj => .inl hj, h2⟩
end
theorem addD_len {n : Nat} {D D' : List Tim} {o o' : Nat} {p g when e : Int} (h : addD n D o p g when = (e, D', o')) : D'.length ≤ D.length + 1 ∧ o' ≤ o + 1 := by
  unfold addD at h; (repeat' split at h) <;> cases h <;> simp
theorem takeD_len {D D' : List Tim} {now : Int} {x : Ent} {ok : Bool} (h : takeD D now = (x, ok, D')) : D'.length ≤ D.length := by
  unfold takeD at h; (repeat' split at h) <;> cases h <;> first | exact Nat.le_refl _ | exact but_len _ _
end Go.Proofs.YtlhblhgbpaipaaaGreat.Hp
