/-
  What each deed at a ring tells, and what is left, up to order.
-/
import Derived.Test.YtkcoidapnmoljaaRingFull
import Derived.Test.YtkcoidapnmoljaaMapI
namespace Go.Proofs.Ytkcoidapnmoljaa.Rng
open Go.RowKit
open Go.Proofs.Ytkcoidapnmoljaa.Ints
open Go.Proofs.Ytkcoidapnmoljaa.MapI
set_option linter.unusedVariables false

theorem sees_nil (w : World) : Sees w (.slice none 0 0) [] := ⟨none, 0, rfl, by simp [maxLen], fun _ => rfl, fun i x h => by simp at h⟩

/-- A deed's end: what it tells, and what the ring holds then, are what it held, and what came. -/
def Told (w : World) (b : Nat) (old : List Int) (e : Ending) (w' : World) : Prop :=
  ∃ v told row nxt st, e = .returned v ∧ Sees w' v told ∧ told.length ≤ 1000000 ∧ IsR w' b row nxt st ∧ (told ++ row ++ nxt.toList).Perm old ∧ w.grownBy w' (some b)
/-- The same, of Get. -/
def Got (w : World) (b : Nat) (old : List Int) (e : Ending) (w' : World) : Prop :=
  ∃ (g : Int) (is : Bool) (row : List Int) (nxt : Option Int) (st : Int), e = .returned (.tuple #[.int .i64 g, .bool is]) ∧ IsR w' b row nxt st ∧ ((if is then [g] else []) ++ row ++ nxt.toList).Perm old ∧ w.grownBy w' (some b)

theorem row_le {w : World} {b : Nat} {row : List Int} {nxt : Option Int} {st : Int} (r : IsR w b row nxt st) : row.length ≤ 256 := by obtain ⟨_, _, _, r, _⟩ := r; exact r.size

section
variable {w : World} {b : Nat} {row : List Int} {nxt : Option Int} {st : Int}
theorem count_cut (l : List Int) (n : Nat) (a : Int) : l.count a = (l.take n).count a + (l.drop n).count a := by
  rw [← List.count_append, List.take_append_drop]

theorem put_told (r : IsR w b row nxt st) (g : Int) : Calls Try.prog 15 #[.pointer (some ⟨b, 0, none⟩), .int .i64 g] w (Told w b (row ++ nxt.toList ++ [g])) := by
  have hl := row_le r
  by_cases h : row.length < 256
  · refine (put_room r h g).mono ?_
    rintro e w' ⟨rfl, hr, hg⟩
    refine ⟨_, [], _, _, _, rfl, sees_nil _, by simp, hr, ?_, hg⟩
    rw [List.perm_iff_count]; intro a; simp only [List.count_append, List.count_nil]; omega
  · refine (put_full r (by omega) g).mono ?_
    rintro e w' ⟨v, rfl, ho, hr, hg⟩
    refine ⟨_, _, _, _, _, rfl, ho.sees, by simp; omega, hr, ?_, hg⟩
    rw [List.perm_iff_count]; intro a
    have := count_cut row 128 a
    simp only [List.count_append]; omega

theorem ready_told (r : IsR w b row nxt st) (g : Int) : Calls Try.prog 12 #[.pointer (some ⟨b, 0, none⟩), .int .i64 g] w (Told w b (row ++ nxt.toList ++ [g])) := by
  have hl := row_le r
  cases nxt with
  | none =>
    refine (ready_none r g).mono ?_
    rintro e w' ⟨rfl, hr, hg⟩
    refine ⟨_, [], _, _, _, rfl, sees_nil _, by simp, hr, ?_, hg⟩
    rw [List.perm_iff_count]; intro a; simp
  | some old =>
    by_cases h : row.length < 256
    · refine (ready_room r h g).mono ?_
      rintro e w' ⟨rfl, hr, hg⟩
      refine ⟨_, [], _, _, _, rfl, sees_nil _, by simp, hr, ?_, hg⟩
      rw [List.perm_iff_count]; intro a; simp
    · refine (ready_full r (by omega) g).mono ?_
      rintro e w' ⟨v, rfl, ho, hr, hg⟩
      refine ⟨_, _, _, _, _, rfl, ho.sees, by simp; omega, hr, ?_, hg⟩
      rw [List.perm_iff_count]; intro a
      have := count_cut row 128 a
      simp only [List.count_append, Option.toList_some]; omega

theorem putall_told {l : List Int} {v : Value} (r : IsR w b row nxt st) (base : Nat) (hl : Owns w base v l) (hb : b < base) (hbig : l.length ≤ 1000000) :
    Calls Try.prog 10 #[.pointer (some ⟨b, 0, none⟩), v] w (Told w b (row ++ nxt.toList ++ l)) := by
  refine (putall_own r hl hb hbig _ rfl).mono ?_
  rintro e w' ⟨v, a, c, rfl, rfl, hc, ho, hr, hg⟩
  refine ⟨_, _, _, _, _, rfl, ho.sees, by rw [List.length_drop]; omega, hr, ?_, hg⟩
  rw [List.perm_iff_count]; intro a
  have := count_cut l (min l.length (256 - row.length)) a
  simp only [List.count_append]; omega

theorem steal_told (r : IsR w b row nxt st) : Calls Try.prog 19 #[.pointer (some ⟨b, 0, none⟩)] w (Told w b (row ++ nxt.toList)) := by
  have hl := row_le r
  by_cases h : row ≠ [] ∨ nxt = none
  · refine (steal_row r h).mono ?_
    rintro e w' ⟨v, rfl, ho, hr, hg⟩
    refine ⟨_, _, _, _, _, rfl, ho.sees, by rw [List.length_take]; omega, hr, ?_, hg⟩
    rw [List.perm_iff_count]; intro a
    have := count_cut row ((row.length + 1) / 2) a
    simp only [List.count_append]; omega
  · obtain ⟨h1, h2⟩ : row = [] ∧ nxt ≠ none := by
      refine ⟨Classical.byContradiction fun e => h (.inl e), fun e => h (.inr e)⟩
    subst h1
    obtain ⟨g, rfl⟩ := Option.ne_none_iff_exists'.1 h2
    refine (steal_next r).mono ?_
    rintro e w' ⟨v, rfl, ho, hr, hg⟩
    refine ⟨_, _, _, _, _, rfl, ho.sees, by simp, hr, ?_, hg⟩
    rw [List.perm_iff_count]; intro a; simp

theorem get_told (r : IsR w b row nxt st) : Calls Try.prog 13 #[.pointer (some ⟨b, 0, none⟩)] w (Got w b (row ++ nxt.toList)) := by
  cases row with
  | nil =>
    cases nxt with
    | none =>
      refine (get_none r).mono ?_
      rintro e w' ⟨rfl, rfl⟩
      exact ⟨0, false, [], none, st, rfl, r, by simp, World.grownBy.refl _ _⟩
    | some g =>
      refine (get_lone r).mono ?_
      rintro e w' ⟨rfl, hr, hg⟩
      exact ⟨g, true, [], none, 0, rfl, hr, by simp, hg⟩
  | cons x row =>
    cases nxt with
    | none =>
      refine (get_first r).mono ?_
      rintro e w' ⟨rfl, hr, hg⟩
      exact ⟨x, true, row, none, 0, rfl, hr, by simp, hg⟩
    | some g =>
      by_cases hs : st < 4
      · refine (get_next r (by simp) hs).mono ?_
        rintro e w' ⟨rfl, hr, hg⟩
        refine ⟨g, true, x :: row, none, st + 1, rfl, hr, ?_, hg⟩
        rw [List.perm_iff_count]; intro a; simp [List.count_cons]; omega
      · refine (get_turn r hs).mono ?_
        rintro e w' ⟨rfl, hr, hg⟩
        refine ⟨x, true, row ++ [g], none, 0, rfl, hr, ?_, hg⟩
        rw [List.perm_iff_count]; intro a; simp [List.count_cons]

theorem list_told (r : IsR w b row nxt st) : Calls Try.prog 17 #[.pointer (some ⟨b, 0, none⟩)] w fun e w' => ∃ v, e = .returned v ∧ Sees w' v (row ++ nxt.toList) ∧ (row ++ nxt.toList).length ≤ 1000000 ∧ w.grownBy w' none := by
  have hl := row_le r
  refine (list_is r).mono ?_
  rintro e w' ⟨v, rfl, ho, hg⟩
  refine ⟨v, rfl, ho.sees, ?_, hg⟩
  have : nxt.toList.length ≤ 1 := by cases nxt <;> simp
  simp only [List.length_append]; omega
end

/-- The numbers, each seen once, as they came. -/
def ones (l : List Int) : List (Int × Value) := l.map fun g => (g, Value.int .i64 1)
theorem ones_keys (l : List Int) : (ones l).map (·.1) = l := by simp [ones, Function.comp_def]
theorem ones_len (l : List Int) : (ones l).length = l.length := by simp [ones]
theorem look_ones {l : List Int} {g : Int} (hn : l.Nodup) (h : g ∈ l) : MapI.look (ones l) g = some (.int .i64 1) :=
  MapI.look_mem (by rw [ones_keys]; exact hn) (List.mem_map.2 ⟨g, h, rfl⟩)
theorem look_ones_not {l : List Int} {g : Int} (h : g ∉ l) : MapI.look (ones l) g = none := by
  unfold MapI.look
  rw [List.find?_eq_none.2]
  · rfl
  · intro p hp; simp; rintro rfl; exact h (by rw [← ones_keys l]; exact List.mem_map.2 ⟨p, hp, rfl⟩)
theorem put_ones {l : List Int} {g : Int} (h : g ∉ l) : MapI.put (ones l) g (.int .i64 1) = ones (l ++ [g]) := by
  unfold MapI.put
  rw [if_neg (by rw [ones_keys]; exact h)]
  simp [ones]

theorem up_nodup (f : Int) (n : Nat) : (upFrom f n).Nodup := by
  unfold upFrom
  rw [List.nodup_iff_pairwise_ne, List.pairwise_map]
  refine List.Pairwise.imp ?_ (List.nodup_range (n := n))
  intro a c hne e; apply hne; omega
theorem up_add (p n : Nat) : upFrom 0 (p + n) = upFrom 0 p ++ upFrom (p : Int) n := by
  unfold upFrom
  rw [List.range_add, List.map_append, List.map_map]
  congr 1
  apply List.map_congr_left; intro a _; simp
theorem mem_up {p : Nat} {g : Nat} (h : g < p) : (g : Int) ∈ upFrom 0 p := by
  unfold upFrom; exact List.mem_map.2 ⟨g, List.mem_range.2 h, by simp⟩

/-- The law's relation: what was told, and what the ring holds, are the numbers that were put. -/
def Kept (T row : List Int) (nxt : Option Int) (p : Nat) : Prop := (T ++ (row ++ nxt.toList)).Perm (upFrom 0 p)
theorem kept_step {T row told row' : List Int} {nxt nxt' : Option Int} {p n : Nat} {new : List Int} (h : Kept T row nxt p) (hn : new = upFrom (p : Int) n) (hs : (told ++ row' ++ nxt'.toList).Perm (row ++ nxt.toList ++ new)) : Kept (T ++ told) row' nxt' (p + n) := by
  unfold Kept at *
  rw [up_add, ← hn]
  rw [List.perm_iff_count] at *
  intro a
  have h1 := h a; have h2 := hs a
  simp only [List.count_append] at *
  omega
theorem kept_nodup {T row told : List Int} {nxt : Option Int} {p : Nat} (h : Kept (T ++ told) row nxt p) : (T ++ told).Nodup := by
  unfold Kept at h
  have := h.nodup_iff.2 (up_nodup 0 p)
  exact (List.nodup_append.1 this).1
theorem kept_start : Kept [] [] none 0 := by unfold Kept; simp [upFrom]
end Go.Proofs.Ytkcoidapnmoljaa.Rng
