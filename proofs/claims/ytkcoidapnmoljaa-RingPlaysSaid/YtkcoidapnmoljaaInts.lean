/-
  Slices of ints as lists: what a value reads as; hostlerref05.Same.
-/
import Derived.Test.YtkcoidapnmoljaaRows
import Derived.WalkKit
import Derived.WalkSpells
import Derived.WalkLawsBesides
import Derived.Lib.Hide
import Derived.RegionTactic
import Derived.OpenShut
import Derived.Lib.SliceRun
namespace Go.Proofs.Ytkcoidapnmoljaa.Ints
open Go.RowKit
set_option linter.unusedVariables false

/-- The world is as it was, but for draws. -/
structure Drawn (w w' : World) : Prop where
  os : w'.os = w.os
  tape : w'.tape = w.tape
  output : w'.output = w.output
  heap : w'.heap = w.heap
theorem Drawn.refl (w : World) : Drawn w w := ⟨rfl, rfl, rfl, rfl⟩
theorem Drawn.trans {a b c : World} (h : Drawn a b) (k : Drawn b c) : Drawn a c := ⟨k.os.trans h.os, k.tape.trans h.tape, k.output.trans h.output, k.heap.trans h.heap⟩
theorem Drawn.drew {w w' : World} (h : Drawn w w') : Drawn w w'.drew := ⟨h.os, h.tape, h.output, h.heap⟩
theorem Drawn.below {w w' : World} (h : Drawn w w') (B : Nat) : Below B w w' := ⟨h.os, h.tape, h.output, by rw [h.heap]; exact Nat.le_refl _, fun k _ => by rw [h.heap]⟩
theorem Drawn.cell {w w' : World} (h : Drawn w w') (a : Addr) : w'.cell? a = w.cell? a := by unfold World.cell?; rw [h.heap]
theorem Drawn.frozen {w w' : World} (h : Drawn w w') (a : Addr) : w'.frozen? a = w.frozen? a := by unfold World.frozen?; rw [h.heap]

/-- The value is a slice that reads as the list. -/
def Sees (w : World) (v : Value) (xs : List Int) : Prop :=
  ∃ a cap, v = .slice a xs.length cap ∧ xs.length ≤ maxLen ∧ (a = none → cap = 0) ∧ ∀ i x, xs[i]? = some x → ∃ b, a = some b ∧ w.cell? (b.add i) = some (.int .i64 x)

theorem cell_lt {w : World} {a : Addr} {v : Value} (h : w.cell? a = some v) : a.block < w.heap.size := by
  unfold World.cell? at h
  split at h
  · rename_i e; exact (Array.getElem?_eq_some_iff.1 e).1
  · cases h
theorem block_add (a : Addr) (n : Nat) : (a.add n).block = a.block := by unfold Addr.add; split <;> rfl

theorem Sees.below {w w' : World} {v : Value} {xs : List Int} (h : Sees w v xs) (hb : Below w.heap.size w w') : Sees w' v xs := by
  obtain ⟨a, cap, hv, hm, hnil, hc⟩ := h
  exact ⟨a, cap, hv, hm, hnil, fun i x hx => let ⟨b, e, h⟩ := hc i x hx; ⟨b, e, cell_later hb h⟩⟩
theorem Sees.drawn {w w' : World} {v : Value} {xs : List Int} (h : Sees w v xs) (hb : Drawn w w') : Sees w' v xs := h.below (hb.below _)

theorem ret_bool {a b : Bool} (h : a = b) : Ending.returned (.bool a) = .returned (.bool b) := by rw [h]

theorem take_succ_eq {xs ys : List Int} {k : Nat} (h : xs.take k = ys.take k) {x : Int} (hx : xs[k]? = some x) (hy : ys[k]? = some x) : xs.take (k + 1) = ys.take (k + 1) := by
  rw [List.take_add_one, List.take_add_one, h, hx, hy]

set_option maxHeartbeats 400000 in
theorem same_long (a b : Addr) (c d : Nat) (xs ys : List Int) (hl : xs.length = ys.length) (hm : xs.length ≤ maxLen) (w : World)
    (hx : ∀ i x, xs[i]? = some x → w.cell? (a.add i) = some (.int .i64 x)) (hy : ∀ i x, ys[i]? = some x → w.cell? (b.add i) = some (.int .i64 x)) :
    Calls Try.prog 14 #[.slice (some a) xs.length c, .slice (some b) ys.length d] w fun e w' => e = .returned (.bool (decide (xs = ys))) ∧ Drawn w w' := by
  unfold maxLen at hm
  rw [← hl]
  have HL := Lib.hid hl
  have HX := Lib.hid hx
  have HY := Lib.hid hy
  clear hl hx hy
  go_enter Try.func14, Try.ntmps14
  go_wp2
  go_loopw [13] (fun i wr => ∃ k : Nat, k ≤ xs.length ∧ i = .int .i64 k ∧ xs.take k = ys.take k ∧ Drawn w wr) (fun i _ => xs.length - (intOf i).toNat)
  case atStart => exact ⟨0, Nat.zero_le _, rfl, rfl, Drawn.refl _⟩
  case round =>
    obtain ⟨k, hk, rfl, ht, hd⟩ := hrel
    have HT := Lib.hid ht
    clear ht
    by_cases hlen : k < xs.length
    · have hlen2 : k < ys.length := by rw [← HL.out]; exact hlen
      obtain ⟨x, hx⟩ : ∃ x, xs[k]? = some x := ⟨_, List.getElem?_eq_getElem hlen⟩
      obtain ⟨y, hy⟩ : ∃ y, ys[k]? = some y := ⟨_, List.getElem?_eq_getElem hlen2⟩
      have cx : ∀ n, (wr.drewN n).cell? (a.add k) = some (.int .i64 x) := fun n => by rw [World.cell?_drewN, hd.cell]; exact HX.out k x hx
      have cy : ∀ n, (wr.drewN n).cell? (b.add k) = some (.int .i64 y) := fun n => by rw [World.cell?_drewN, hd.cell]; exact HY.out k y hy
      have cx0 : wr.cell? (a.add k) = some (.int .i64 x) := by rw [hd.cell]; exact HX.out k x hx
      have cy0 : wr.cell? (b.add k) = some (.int .i64 y) := by rw [hd.cell]; exact HY.out k y hy
      have hx' := Lib.hid hx
      have hy' := Lib.hid hy
      clear hx hy hlen2 cx cy
      by_cases e : x = y
      · have b1 : (x == y) = true := by simpa using e
        have he := Lib.hid e
        clear e
        go_wp2
        go_region
        go_wp2
        go_roundw
        case rel => exact ⟨k + 1, by omega, by go_num, take_succ_eq HT.out hx'.out (by rw [he.out]; exact hy'.out), hd.drew⟩
        case measure => simp [intOf]; omega
      · have b1 : (x == y) = false := by simpa using e
        have b2 : (x != y) = true := by simpa using e
        have he := Lib.hid e
        clear e
        go_wp2
        go_region
        go_wp2
        go_ret
        exact ⟨ret_bool (by
          symm; rw [decide_eq_false_iff_not]; intro h; apply he.out
          have := hy'.out; rw [← h, hx'.out] at this; exact Option.some.inj this), hd.drew⟩
    · obtain rfl : k = xs.length := by omega
      go_wp2
      go_ret
      exact ⟨ret_bool (by
        symm; rw [decide_eq_true_eq]
        have h := HT.out; rw [List.take_length, HL.out, List.take_length] at h; exact h), hd⟩

set_option maxHeartbeats 400000 in
theorem same_none (a b : Option Addr) (c d : Nat) (w : World) :
    Calls Try.prog 14 #[.slice a 0 c, .slice b 0 d] w fun e w' => e = .returned (.bool true) ∧ w = w' := by
  go_enter Try.func14, Try.ntmps14
  go_wp2
  refine wp_loop_rounds 1 ?_
  rw [rounds_succ]
  go_wp2
  go_ret
  exact ⟨rfl, rfl⟩

set_option maxHeartbeats 400000 in
theorem same_other (a b : Option Addr) (n m c d : Nat) (h : n ≠ m) (w : World) :
    Calls Try.prog 14 #[.slice a n c, .slice b m d] w fun e w' => e = .returned (.bool false) ∧ w = w' := by
  have b1 : (n == m) = false := by simpa using h
  have b2 : (n != m) = true := by simpa using h
  have b3 : ((n : Int) == m) = false := by rw [beq_eq_false_iff_ne]; omega
  have b4 : ((n : Int) != m) = true := by rw [bne_iff_ne]; omega
  clear h
  go_enter Try.func14, Try.ntmps14
  go_wp2
  go_ret
  exact ⟨rfl, rfl⟩

/-- Same tells whether the lists are one. -/
theorem same_any {w : World} {v u : Value} {xs ys : List Int} (hv : Sees w v xs) (hu : Sees w u ys) :
    Calls Try.prog 14 #[v, u] w fun e w' => e = .returned (.bool (decide (xs = ys))) ∧ Drawn w w' := by
  obtain ⟨a, c, rfl, hm, _, hx⟩ := hv
  obtain ⟨b, d, rfl, _, _, hy⟩ := hu
  by_cases hl : xs.length = ys.length
  · cases hn : xs with
    | nil =>
      have hn2 : ys = [] := by rw [hn] at hl; exact List.length_eq_zero_iff.1 hl.symm
      subst hn2
      exact (same_none a b c d w).mono fun e w' ⟨h, hw⟩ => ⟨by rw [h]; exact ret_bool (by simp), by rw [← hw]; exact Drawn.refl _⟩
    | cons x t =>
      rw [hn] at hx hl hm
      obtain ⟨y, t', rfl⟩ : ∃ y t', ys = y :: t' := by
        cases ys with
        | nil => simp at hl
        | cons y t' => exact ⟨y, t', rfl⟩
      obtain ⟨a', rfl, _⟩ := hx 0 x rfl
      obtain ⟨b', rfl, _⟩ := hy 0 y rfl
      exact same_long a' b' c d (x :: t) (y :: t') hl hm w (fun i x hi => by obtain ⟨_, e, h⟩ := hx i x hi; cases e; exact h) (fun i x hi => by obtain ⟨_, e, h⟩ := hy i x hi; cases e; exact h)
  · exact (same_other a b _ _ c d hl w).mono fun e w' ⟨h, hw⟩ => ⟨by rw [h]; exact ret_bool (by symm; rw [decide_eq_false_iff_not]; intro e; exact hl (by rw [e])), by rw [← hw]; exact Drawn.refl _⟩


/-- The value is a slice of ints that owns its row, in a block from base on. -/
def Owns (w : World) (base : Nat) (v : Value) (xs : List Int) : Prop := w.ownsRow base 3 1 v xs.length (xs.map (Value.int .i64))

theorem Owns.sees {w : World} {base : Nat} {v : Value} {xs : List Int} (h : Owns w base v xs) : Sees w v xs := by
  obtain ⟨_, h⟩ := h
  rcases h with ⟨rfl, hn⟩ | ⟨g, cap, cur, rfl, _, hg, hn, hm, hsz, ht⟩
  · have : xs = [] := List.length_eq_zero_iff.1 hn
    subst this
    exact ⟨none, 0, rfl, by simp [maxLen], fun _ => rfl, fun i x hx => by simp at hx⟩
  · refine ⟨_, cap, rfl, by omega, (fun h => by cases h), fun i x hx => ⟨_, rfl, ?_⟩⟩
    have hadd : (⟨g, 0, none⟩ : Addr).add i = ⟨g, i, none⟩ := by unfold Addr.add; split <;> simp_all
    rw [hadd, cell_of_row w g i cur _ _ hg]
    have hi := (List.getElem?_eq_some_iff.1 hx).1
    have e : (cur.toList.take (xs.length * 1))[i]? = some (Value.int .i64 x) := by rw [ht]; simp [hx]
    rw [List.getElem?_take_of_lt (by omega)] at e
    simpa using e

theorem Owns.kept {w w' : World} {base : Nat} {v : Value} {xs : List Int} (h : Owns w base v xs) (hb : ∀ g, v.ownBlock = some g → base ≤ g → w'.heap[g]? = w.heap[g]?) : Owns w' base v xs := by
  obtain ⟨h0, h⟩ := h
  refine ⟨h0, ?_⟩
  rcases h with h | ⟨g, cap, cur, rfl, h1, hg, h2⟩
  · exact .inl h
  · exact .inr ⟨g, cap, cur, rfl, h1, by rw [hb g rfl h1]; exact hg, h2⟩
theorem Owns.lower {w : World} {base base' : Nat} {v : Value} {xs : List Int} (h : Owns w base v xs) (hb : base' ≤ base) : Owns w base' v xs := by
  obtain ⟨h0, h⟩ := h
  refine ⟨h0, ?_⟩
  rcases h with h | ⟨g, cap, cur, rfl, h1, h2⟩
  · exact .inl h
  · exact .inr ⟨g, cap, cur, rfl, Nat.le_trans hb h1, h2⟩
theorem Owns.below {w w' : World} {base : Nat} {v : Value} {xs : List Int} (h : Owns w base v xs) (hb : Below w.heap.size w w') : Owns w' base v xs := by
  refine h.kept fun g hg _ => ?_
  have := (World.ownsRow.lt h g hg).2
  exact hb.block g this
theorem Owns.block {w : World} {base : Nat} {v : Value} {xs : List Int} (h : Owns w base v xs) {g : Nat} (hg : v.ownBlock = some g) : base ≤ g ∧ g < w.heap.size := World.ownsRow.lt h g hg
theorem Owns.one {w : World} {base : Nat} {v : Value} {xs : List Int} (h : Owns w base v xs) : v.oneCell' = true := by
  rcases h.2 with ⟨rfl, _⟩ | ⟨g, cap, cur, rfl, _⟩ <;> rfl
theorem Sees.kept {w w' : World} {v : Value} {xs : List Int} (h : Sees w v xs) (hb : ∀ g, v.ownBlock = some g → w'.heap[g]? = w.heap[g]?) : Sees w' v xs := by
  obtain ⟨a, cap, rfl, hm, hnil, hc⟩ := h
  exact ⟨a, cap, rfl, hm, hnil, fun i x hx => by
    obtain ⟨b, rfl, h⟩ := hc i x hx
    exact ⟨b, rfl, by rw [World.cell?_of_block (w := w) (by rw [block_add]; exact hb _ rfl)]; exact h⟩⟩

theorem infoInt : (Try.prog.info? 3).map (fun i => (i.zero, i.size, i.bytes)) = some (some (.int .i64 0), 1, 8) := by kernel_rfl

set_option maxHeartbeats 1000000 in
/-- slices.Clone at []int: a slice of the same numbers, in memory of the call's own. -/
theorem clone_any {w : World} {v : Value} {xs : List Int} (hv : Sees w v xs) (hbig : xs.length * 8 ≤ 140737488355328) :
    Calls Try.prog 25 #[v] w fun e w' => ∃ v', e = .returned v' ∧ Owns w' w.heap.size v' xs ∧ Below w.heap.size w w' := by
  obtain ⟨a, c, rfl, hm, _, hx⟩ := hv
  have q22 : ∀ (w : World) (a : Option Addr) (n c n' c' : Nat), (binOp .eql 25 (.slice a n c) (.slice none n' c')).run Try.prog w = .ok (.bool a.isNone) w := fun w a n c n' c' => Lib.run_eql_slice_nil w _ _ a n c n' c' Try.underlying25
  cases a with
  | none =>
    have hn : xs = [] := by
      cases xs with
      | nil => rfl
      | cons x t => obtain ⟨_, e, _⟩ := hx 0 x rfl; cases e
    subst hn
    clear hx
    go_enter Try.func25, Try.ntmps25
    go_wp2
    go_ret
    exact ⟨_, rfl, World.ownsRow_nil _ _ _ _, Below.refl _ _⟩
  | some b =>
    obtain ⟨i0, hi, hz0, hz1, hz2⟩ := info_parts infoInt
    have A : Hid (∀ i x, xs[i]? = some x → w.cell? (b.add i) = some (.int .i64 x)) := Lib.hid fun i x h => by obtain ⟨_, e, h⟩ := hx i x h; cases e; exact h
    clear hx
    go_enter Try.func25, Try.ntmps25
    go_wp2_with (at_builtin; refine wpList_append_own _ rfl _ _ 25 rfl w.heap.size 3 i0 (.int .i64 0) 1 8 Try.underlying25 hi hz0 hz1 hz2 rfl (by decide) _ _ _ rfl (World.ownsRow_made w #[] 0 (Nat.le_refl _) (Nat.zero_le _) rfl) b xs.length c (xs.map (Value.int .i64)) rfl ?qc1 ?qc2 ?qc3 ?qc4 ?qc5 ?qc6 ?_)
    case qc1 => simp
    case qc2 =>
      intro j u hj
      refine Lib.cell?_alloc_some _ ?_
      rw [List.getElem?_map] at hj
      obtain ⟨x, h, rfl⟩ := Option.map_eq_some_iff.1 hj
      exact A.out j x h
    case qc3 => intro u hu; obtain ⟨x, _, rfl⟩ := List.mem_map.1 hu; rfl
    case qc4 => unfold maxLen; omega
    case qc5 => omega
    case qc6 => simp
    intro v' w1 hown hgrow hnil
    go_wp2
    go_ret
    refine ⟨v', rfl, by simpa [Owns] using hown, ?_⟩
    exact ((Below.refl _ w).alloc (Nat.le_refl _) _).grown hgrow (by simp) (by intro k hk; simp [Value.ownBlock] at hk; omega)


theorem grown_trans {a b c : World} {r r' : Option Nat} (h : a.grownBy b r) (k : b.grownBy c r') (hr : ∀ j, r' = some j → a.heap.size ≤ j ∨ r = some j) : a.grownBy c r :=
  ⟨k.os.trans h.os, k.tape.trans h.tape, k.output.trans h.output, Nat.le_trans h.size k.size, fun j hj hne => by
    refine (k.block j (Nat.lt_of_lt_of_le hj h.size) (fun e => ?_)).trans (h.block j hj hne)
    rcases hr j e.symm with h1 | h1
    · omega
    · exact hne h1.symm⟩

theorem Owns.grown {w w' : World} {base : Nat} {v : Value} {xs : List Int} {r : Option Nat} (h : Owns w base v xs) (hg : w.grownBy w' r) (hr : ∀ j, r = some j → v.ownBlock ≠ some j) : Owns w' base v xs :=
  h.kept fun g hgb _ => hg.block g (h.block hgb).2 (fun e => hr g e.symm hgb)
theorem Sees.grown {w w' : World} {v : Value} {xs : List Int} {r : Option Nat} (h : Sees w v xs) (hg : w.grownBy w' r) (hlt : xs ≠ [] → ∀ g, v.ownBlock = some g → g < w.heap.size ∧ r ≠ some g) : Sees w' v xs := by
  by_cases hx : xs = []
  · subst hx
    obtain ⟨a, cap, rfl, hm, hn, _⟩ := h
    exact ⟨a, cap, rfl, hm, hn, fun i x h => by simp at h⟩
  · exact h.kept fun g hgb => hg.block g (hlt hx g hgb).1 (fun e => (hlt hx g hgb).2 e.symm)

/-- append of one number to a slice of the call's own. -/
theorem wpList_append_one {ops : Array Oper} {rest : List Oper} {o : Oper} {a : Act} {Q : Exit → Act → World → Prop} (hgd : o.guard = none) (s x : Operand)
    (ho : o.op = .call { callee := .builtin .append, args := #[s, x], argTypes := #[25, 25] }) (W : World) (base : Nat) (v : Value) (xs : List Int) (g : Int)
    (hs : a.eval s = v) (hown : Owns W base v xs) (hx : a.eval x = .slice (some ⟨W.heap.size, 0, none⟩) 1 1) (hlen : xs.length ≤ 1000000) (hbase : base ≤ W.heap.size)
    (h : ∀ v' w', Owns w' base v' (xs ++ [g]) → W.grownBy w' v.ownBlock → wpList Try.prog ops Q rest (a.put o.dst v') w') : wpList Try.prog ops Q (o :: rest) a (W.alloc (.cells #[.int .i64 g] 3)) := by
  obtain ⟨i0, hi, hz0, hz1, hz2⟩ := info_parts infoInt
  refine wpList_append_own _ hgd s x 25 ho base 3 i0 (.int .i64 0) 1 8 Try.underlying25 hi hz0 hz1 hz2 rfl (by decide) v xs.length (xs.map (Value.int .i64)) hs (World.ownsRow.alloc hown _) ⟨W.heap.size, 0, none⟩ 1 1 [.int .i64 g] hx rfl (cell_one_new _ _ _) (by simp [Value.oneCell']) (by unfold maxLen; omega) (by omega) (by simp; omega) fun v' w' h1 h2 _ => h v' w' (by simpa [Owns] using h1) ?_
  exact ⟨h2.os, h2.tape, h2.output, Nat.le_trans (by simp) h2.size, fun j hj hne => (h2.block j (by simp; omega) hne).trans (by rw [heap_alloc_old (h := hj)])⟩
end Go.Proofs.Ytkcoidapnmoljaa.Ints
