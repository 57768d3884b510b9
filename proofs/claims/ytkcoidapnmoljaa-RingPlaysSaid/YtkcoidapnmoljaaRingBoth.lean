/-
  Both rings' deeds in one form: what is told, and what is left, as functions of the row, who is next, and the streak.
-/
import Derived.Test.YtkcoidapnmoljaaRefGet3
namespace Go.Proofs.Ytkcoidapnmoljaa.Rng
open Go.RowKit
open Go.Proofs.Ytkcoidapnmoljaa.Ints
set_option linter.unusedVariables false

def putL (row : List Int) (g : Int) : List Int × List Int := if row.length < 256 then ([], row ++ [g]) else (row.take 128 ++ [g], row.drop 128)
theorem putL_le {row : List Int} (h : row.length ≤ 256) (g : Int) : (putL row g).1.length ≤ 256 ∧ (putL row g).2.length ≤ 256 := by
  unfold putL; split
  · simp; omega
  · simp; omega

/-- How the ring's deed ends. -/
def RingEnd (w : World) (b : Nat) (told row : List Int) (nxt : Option Int) (st : Int) (e : Ending) (w' : World) : Prop :=
  ∃ a c, e = .returned (.slice a told.length c) ∧ Sees w' (.slice a told.length c) told ∧ IsR w' b row nxt st ∧ w.grownBy w' (some b)
/-- How the document's ends. -/
def DocEnd (w : World) (s : Value) (lo : Nat) (told row : List Int) (is : Bool) (nx st : Int) (e : Ending) (w' : World) : Prop :=
  ∃ a c a2 c2, e = .returned (.tuple #[.agg #[.slice a row.length c, .bool is, .int .i64 nx, .int .i64 st], .slice a2 told.length c2]) ∧ Ref w' lo (.slice a row.length c) row ∧ Ref w' lo (.slice a2 told.length c2) told ∧ Below w.heap.size w w' ∧ ∀ j, (Value.slice a row.length c).ownBlock = some j → s.ownBlock = some j ∨ w.heap.size ≤ j

theorem ringEnd_of {w w' : World} {b : Nat} {told row : List Int} {nxt : Option Int} {st : Int} {v : Value} (hs : Sees w' v told) (hr : IsR w' b row nxt st) (hg : w.grownBy w' (some b)) : RingEnd w b told row nxt st (.returned v) w' := by
  obtain ⟨a, c, rfl, _⟩ := id hs
  exact ⟨a, c, rfl, hs, hr, hg⟩
theorem docEnd_of {w w' : World} {lo : Nat} {told row : List Int} {is : Bool} {nx st : Int} {s v o : Value} (hr : Ref w' lo v row) (hs : Ref w' lo o told) (hb : Below w.heap.size w w') (ho : ∀ j, v.ownBlock = some j → s.ownBlock = some j ∨ w.heap.size ≤ j) : DocEnd w s lo told row is nx st (.returned (.tuple #[RV v is nx st, o])) w' := by
  obtain ⟨a, c, rfl, _⟩ := id hr
  obtain ⟨a2, c2, rfl, _⟩ := id hs
  exact ⟨a, c, a2, c2, rfl, hr, hs, hb, ho⟩

section
variable {w : World} {b : Nat} {row : List Int} {nxt : Option Int} {st : Int}
theorem ring_put (r : IsR w b row nxt st) (g : Int) : Calls Try.prog 15 #[.pointer (some ⟨b, 0, none⟩), .int .i64 g] w (RingEnd w b (putL row g).1 (putL row g).2 nxt st) := by
  have hl := row_le r
  unfold putL
  split
  · rename_i h
    refine (put_room r h g).mono ?_
    rintro e w' ⟨rfl, hr, hg⟩
    exact ringEnd_of (sees_nil _) hr hg
  · refine (put_full r (by omega) g).mono ?_
    rintro e w' ⟨v, rfl, ho, hr, hg⟩
    exact ringEnd_of ho.sees hr hg

def readyL (row : List Int) (nxt : Option Int) (g : Int) : List Int × List Int := match nxt with
  | none => ([], row)
  | some old => putL row old
theorem ring_ready (r : IsR w b row nxt st) (g : Int) : Calls Try.prog 12 #[.pointer (some ⟨b, 0, none⟩), .int .i64 g] w (RingEnd w b (readyL row nxt g).1 (readyL row nxt g).2 (some g) st) := by
  have hl := row_le r
  cases nxt with
  | none =>
    refine (ready_none r g).mono ?_
    rintro e w' ⟨rfl, hr, hg⟩
    exact ringEnd_of (sees_nil _) hr hg
  | some old =>
    unfold readyL putL
    dsimp only
    split
    · rename_i h
      refine (ready_room r h g).mono ?_
      rintro e w' ⟨rfl, hr, hg⟩
      exact ringEnd_of (sees_nil _) hr hg
    · refine (ready_full r (by omega) g).mono ?_
      rintro e w' ⟨v, rfl, ho, hr, hg⟩
      exact ringEnd_of ho.sees hr hg

theorem ring_putall {l : List Int} {v : Value} (r : IsR w b row nxt st) (base : Nat) (hl : Owns w base v l) (hb : b < base) (hbig : l.length ≤ 1000000) :
    Calls Try.prog 10 #[.pointer (some ⟨b, 0, none⟩), v] w (RingEnd w b (l.drop (256 - row.length)) (row ++ l.take (256 - row.length)) nxt st) := by
  refine (putall_own r hl hb hbig _ rfl).mono ?_
  rintro e w' ⟨v, a, c, rfl, rfl, hc, ho, hr, hg⟩
  by_cases h : l.length ≤ 256 - row.length
  · rw [Nat.min_eq_left h, List.drop_length] at ho
    rw [Nat.min_eq_left h, List.take_length] at hr
    rw [List.drop_of_length_le h, List.take_of_length_le h]
    refine ringEnd_of ?_ hr hg
    rw [Nat.min_eq_left h]; exact ho.sees
  · rw [Nat.min_eq_right (by omega)] at ho hr ⊢
    exact ringEnd_of ho.sees hr hg

def stealL (row : List Int) (nxt : Option Int) (st : Int) : List Int × List Int × Option Int × Int :=
  if row = [] then (match nxt with | none => ([], [], none, st) | some g => ([g], [], none, 0)) else (row.take ((row.length + 1) / 2), row.drop ((row.length + 1) / 2), nxt, st)
theorem ring_steal (r : IsR w b row nxt st) : Calls Try.prog 19 #[.pointer (some ⟨b, 0, none⟩)] w (RingEnd w b (stealL row nxt st).1 (stealL row nxt st).2.1 (stealL row nxt st).2.2.1 (stealL row nxt st).2.2.2) := by
  unfold stealL
  split
  · rename_i h
    subst h
    cases nxt with
    | none =>
      refine (steal_row r (.inr rfl)).mono ?_
      rintro e w' ⟨v, rfl, ho, hr, hg⟩
      exact ringEnd_of ho.sees hr hg
    | some g =>
      refine (steal_next r).mono ?_
      rintro e w' ⟨v, rfl, ho, hr, hg⟩
      exact ringEnd_of ho.sees hr hg
  · rename_i h
    refine (steal_row r (.inl h)).mono ?_
    rintro e w' ⟨v, rfl, ho, hr, hg⟩
    exact ringEnd_of ho.sees hr hg

/-- Get: who, whether there is one, the row, who is next, the streak. -/
def getL (row : List Int) (nxt : Option Int) (st : Int) : Int × Bool × List Int × Option Int × Int :=
  match row, nxt with
  | [], none => (0, false, [], none, st)
  | [], some g => (g, true, [], none, 0)
  | x :: R, none => (x, true, R, none, 0)
  | x :: R, some g => if st < 4 then (g, true, x :: R, none, st + 1) else (x, true, R ++ [g], none, 0)
def GetEnd (w : World) (b : Nat) (q : Int × Bool × List Int × Option Int × Int) (e : Ending) (w' : World) : Prop :=
  e = .returned (.tuple #[.int .i64 q.1, .bool q.2.1]) ∧ IsR w' b q.2.2.1 q.2.2.2.1 q.2.2.2.2 ∧ w.grownBy w' (some b)
theorem ring_get (r : IsR w b row nxt st) : Calls Try.prog 13 #[.pointer (some ⟨b, 0, none⟩)] w (GetEnd w b (getL row nxt st)) := by
  cases row with
  | nil =>
    cases nxt with
    | none => exact (get_none r).mono fun e w' ⟨he, hw⟩ => ⟨he, by subst hw; exact r, by subst hw; exact World.grownBy.refl _ _⟩
    | some g => exact (get_lone r).mono fun e w' h => h
  | cons x R =>
    cases nxt with
    | none => exact (get_first r).mono fun e w' h => h
    | some g =>
      by_cases hs : st < 4
      · have e1 : getL (x :: R) (some g) st = (g, true, x :: R, none, st + 1) := by simp [getL, hs]
        rw [e1]; exact (get_next r (by simp) hs).mono fun e w' h => h
      · have e1 : getL (x :: R) (some g) st = (x, true, R ++ [g], none, 0) := by simp [getL, hs]
        rw [e1]; exact (get_turn r hs).mono fun e w' h => h

variable {s v : Value} {lo lo2 : Nat}
theorem doc_put (is : Bool) (nx st : Int) (hs : Ref w lo s row) (hlo : lo ≤ w.heap.size) (hn : row.length ≤ 256) (g : Int) : Calls Try.prog 29 #[RV s is nx st, .int .i64 g] w (DocEnd w s lo (putL row g).1 (putL row g).2 is nx st) := by
  unfold putL
  split
  · rename_i h
    refine (rput_room is nx st hs hlo h g).mono ?_
    rintro e w' ⟨s', rfl, hr, hb⟩
    exact docEnd_of (hr.lower hlo) (ref_nil _ _) hb (fun j hj => .inr (own_low hr hj))
  · refine (rput_full is nx st hs hlo (by omega) g).mono ?_
    rintro e w' ⟨s', o, rfl, hr, ho, hb, hob⟩
    exact docEnd_of hr (ho.lower hlo) hb (fun j hj => .inl (hob j hj))
theorem doc_ready (nxt : Option Int) (st : Int) (hs : Ref w lo s row) (hlo : lo ≤ w.heap.size) (hn : row.length ≤ 256) (g : Int) : Calls Try.prog 30 #[RV s nxt.isSome (nxt.getD 0) st, .int .i64 g] w (DocEnd w s lo (readyL row nxt g).1 (readyL row nxt g).2 true g st) := by
  cases nxt with
  | none =>
    refine (rready_none 0 st hs hlo g).mono ?_
    rintro e w' ⟨rfl, hr, hb⟩
    exact docEnd_of hr (ref_nil _ _) hb (fun j hj => .inl hj)
  | some old =>
    unfold readyL putL
    dsimp only
    split
    · rename_i h
      refine (rready_room old st hs hlo h g).mono ?_
      rintro e w' ⟨s', rfl, hr, hb⟩
      exact docEnd_of (hr.lower hlo) (ref_nil _ _) hb (fun j hj => .inr (own_low hr hj))
    · refine (rready_full old st hs hlo (by omega) g).mono ?_
      rintro e w' ⟨s', o, rfl, hr, ho, hb, hob⟩
      exact docEnd_of hr (ho.lower hlo) hb (fun j hj => .inl (hob j hj))
theorem doc_putall {l : List Int} (is : Bool) (nx st : Int) (hs : Ref w lo s row) (hlo : lo ≤ w.heap.size) (hn : row.length ≤ 256) (hv : Ref w lo v l) (hl : l.length ≤ 90000) :
    Calls Try.prog 31 #[RV s is nx st, v] w (DocEnd w s lo (l.drop (256 - row.length)) (row ++ l.take (256 - row.length)) is nx st) := by
  refine (rputall_is is nx st hs hlo hn hv hl).mono ?_
  rintro e w' ⟨s', o, rfl, hr, ho, hb, _⟩
  exact docEnd_of (hr.lower hlo) ho hb (fun j hj => .inr (own_low hr hj))
theorem doc_steal (nxt : Option Int) (st : Int) (hs : Ref w lo s row) (hlo : lo ≤ w.heap.size) (hn : row.length ≤ 256) :
    Calls Try.prog 32 #[RV s nxt.isSome (nxt.getD 0) st] w (DocEnd w s lo (stealL row nxt st).1 (stealL row nxt st).2.1 (stealL row nxt st).2.2.1.isSome ((stealL row nxt st).2.2.1.getD 0) (stealL row nxt st).2.2.2) := by
  unfold stealL
  split
  · rename_i h
    subst h
    cases nxt with
    | none =>
      refine (rsteal_none 0 st hs).mono ?_
      rintro e w' ⟨rfl, hr, hb⟩
      exact docEnd_of hr (ref_nil _ _) hb (fun j hj => .inl hj)
    | some g =>
      refine (rsteal_next g st hs).mono ?_
      rintro e w' ⟨o, rfl, ho, hb⟩
      exact docEnd_of (ref_nil _ _) (ho.lower hlo) hb (fun j hj => by simp [Value.ownBlock] at hj)
  · rename_i h
    refine (rsteal_row nxt.isSome (nxt.getD 0) st hs hn h).mono ?_
    rintro e w' ⟨s', o, rfl, hr, ho, hb, hob⟩
    exact docEnd_of hr (ho.lower hlo) hb (fun j hj => .inl (hob j hj))
def DocGet (w : World) (s : Value) (lo : Nat) (q : Int × Bool × List Int × Option Int × Int) (e : Ending) (w' : World) : Prop :=
  ∃ a c, e = .returned (.tuple #[.agg #[.slice a q.2.2.1.length c, .bool q.2.2.2.1.isSome, .int .i64 (q.2.2.2.1.getD 0), .int .i64 q.2.2.2.2], .int .i64 q.1, .bool q.2.1]) ∧ Ref w' lo (.slice a q.2.2.1.length c) q.2.2.1 ∧ Below w.heap.size w w' ∧ ∀ j, (Value.slice a q.2.2.1.length c).ownBlock = some j → s.ownBlock = some j ∨ w.heap.size ≤ j
theorem docGet_of {w w' : World} {lo : Nat} {q : Int × Bool × List Int × Option Int × Int} {s v : Value} {e : Ending} (he : e = .returned (.tuple #[RV v q.2.2.2.1.isSome (q.2.2.2.1.getD 0) q.2.2.2.2, .int .i64 q.1, .bool q.2.1])) (hr : Ref w' lo v q.2.2.1) (hb : Below w.heap.size w w') (ho : ∀ j, v.ownBlock = some j → s.ownBlock = some j ∨ w.heap.size ≤ j) : DocGet w s lo q e w' := by
  obtain ⟨a, c, rfl, _⟩ := id hr
  exact ⟨a, c, he, hr, hb, ho⟩
theorem doc_get (nxt : Option Int) (st : Int) (hs : Ref w lo s row) (hlo : lo ≤ w.heap.size) (hn : row.length ≤ 256) (h0 : 0 ≤ st) (h4 : st ≤ 4) :
    Calls Try.prog 33 #[RV s nxt.isSome (nxt.getD 0) st] w (DocGet w s lo (getL row nxt st)) := by
  cases row with
  | nil =>
    cases nxt with
    | none => exact (rget_none 0 st hs).mono fun e w' ⟨he, hr, hb⟩ => docGet_of he hr hb (fun j hj => .inl hj)
    | some g => exact (rget_lone g st hs h0 h4).mono fun e w' ⟨he, hr, hb⟩ => docGet_of he hr hb (fun j hj => .inl hj)
  | cons x R =>
    cases nxt with
    | none => exact (rget_first 0 st hs hn).mono fun e w' ⟨s', he, hr, hb, hob⟩ => docGet_of he hr hb (fun j hj => .inl (hob j hj))
    | some g =>
      by_cases hst : st < 4
      · have e1 : getL (x :: R) (some g) st = (g, true, x :: R, none, st + 1) := by simp [getL, hst]
        rw [e1]; exact (rget_next g st hs (by simp) h0 hst).mono fun e w' ⟨he, hr, hb⟩ => docGet_of he hr hb (fun j hj => .inl hj)
      · have e1 : getL (x :: R) (some g) st = (x, true, R ++ [g], none, 0) := by simp [getL, hst]
        rw [e1]; exact (rget_turn g st hs hn hst).mono fun e w' ⟨s', he, hr, hb⟩ => docGet_of he (hr.lower hlo) hb (fun j hj => .inr (own_low hr hj))
theorem doc_list (nxt : Option Int) (st : Int) (hs : Ref w lo s row) (hn : row.length ≤ 256) {J : List Int} (hJ : row ++ nxt.toList = J) :
    Calls Try.prog 22 #[RV s nxt.isSome (nxt.getD 0) st] w fun e w' => ∃ a c, e = .returned (.slice a J.length c) ∧ Sees w' (.slice a J.length c) J ∧ Below w.heap.size w w' := by
  subst hJ
  cases nxt with
  | none => rw [show row ++ Option.none.toList = row from List.append_nil _]; exact rlist_none 0 st hs
  | some g => exact rlist_some g st hs hn rfl
end
end Go.Proofs.Ytkcoidapnmoljaa.Rng
