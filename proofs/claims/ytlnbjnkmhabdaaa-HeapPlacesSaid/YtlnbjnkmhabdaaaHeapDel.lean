/-
  slices.IndexFunc, slices.DeleteFunc at heap.Entry, by the closure of Remove.
-/
import Derived.Test.YtlnbjnkmhabdaaaHeapTake
import Derived.Laws.CopyRow
namespace Go.Proofs.Ytlnbjnkmhabdaaa.Hp
open Go.RowKit
set_option linter.unusedVariables false

theorem pred_is (x : Ent) (g : Int) (B : Nat) (w : World) (hB : w.cell? ⟨B, 0, none⟩ = some (.int .i64 g)) :
    Calls Try.prog 26 #[x.agg, .pointer (some ⟨B, 0, none⟩)] w fun e w' => e = .returned (.bool (decide (x.g = g))) ∧ w' = w.alloc (.cells #[.int .i64 x.w, .int .u64 x.o, .int .i64 x.g] 24) := by
  have hb := block_lt_of_cell hB
  by_cases h : x.g = g
  · have b1 : (x.g == g) = true := by simpa using h
    rw [show decide (x.g = g) = true by simpa using h]
    clear h
    go_enter Try.func26, Try.ntmps26
    go_wp2
    go_ret
    exact ⟨rfl, rfl⟩
  · have b1 : (x.g == g) = false := by simpa using h
    rw [show decide (x.g = g) = false by simpa using h]
    clear h
    go_enter Try.func26, Try.ntmps26
    go_wp2
    go_ret
    exact ⟨rfl, rfl⟩

theorem grown_none2' {a b c : World} (h : a.grownBy b Option.none) (k : b.grownBy c Option.none) : a.grownBy c Option.none :=
  ⟨k.os.trans h.os, k.tape.trans h.tape, k.output.trans h.output, Nat.le_trans h.size k.size, fun j hj hne => (k.block j (Nat.lt_of_lt_of_le hj h.size) (by simp)).trans (h.block j hj hne)⟩
theorem grown_cells' {w w' : World} (h : w.grownBy w' none) : (∀ b o, b < w.heap.size → w'.cell? ⟨b, o, none⟩ = w.cell? ⟨b, o, none⟩) ∧ (∀ b o, b < w.heap.size → w'.frozen? ⟨b, o, none⟩ = w.frozen? ⟨b, o, none⟩) :=
  ⟨fun b o hb => World.cell?_of_block (a := ⟨b, o, none⟩) (h.block b hb (by simp)), fun b o hb => World.frozen?_of_block (a := ⟨b, o, none⟩) (h.block b hb (by simp))⟩

/-- Where the first one of g stands; -1: there is none. -/
def idx (g : Int) : List Ent → Nat → Int
  | [], _ => -1
  | x :: t, k => if x.g = g then k else idx g t (k + 1)
theorem idx_get (g : Int) : ∀ (l : List Ent) (k : Nat), (idx g l k = -1 ∧ (∀ x ∈ l, x.g ≠ g)) ∨ ∃ q x, idx g l k = ((k + q : Nat) : Int) ∧ l[q]? = some x ∧ x.g = g ∧ ∀ y ∈ l.take q, y.g ≠ g
  | [], k => .inl ⟨rfl, by simp⟩
  | x :: t, k => by
    unfold idx
    by_cases h : x.g = g
    · right; exact ⟨0, x, by rw [if_pos h]; simp, rfl, h, by simp⟩
    · rw [if_neg h]
      rcases idx_get g t (k + 1) with ⟨h1, h2⟩ | ⟨q, y, h1, h2, h3, h4⟩
      · left; exact ⟨h1, by intro z hz; rcases List.mem_cons.1 hz with rfl | hz; exact h; exact h2 z hz⟩
      · right; exact ⟨q + 1, y, by rw [h1]; congr 1; omega, by simpa using h2, h3, by intro z hz; rw [List.take_succ_cons] at hz; rcases List.mem_cons.1 hz with rfl | hz; exact h; exact h4 z hz⟩

set_option maxHeartbeats 1000000 in
theorem index_row (g0 cap : Nat) (es : List Ent) (g : Int) (B : Nat) (w : World) (r : Row3 w g0 cap es) (hB : w.cell? ⟨B, 0, none⟩ = some (.int .i64 g)) :
    Calls Try.prog 35 #[.slice (some ⟨g0, 0, none⟩) es.length cap, .func (.func 26) #[] #[.pointer (some ⟨B, 0, none⟩)]] w fun e w' => e = .returned (.int .i64 (idx g es 0)) ∧ w.grownBy w' none := by
  have hlen : es.length ≤ 9223372036854775807 := by have := r.le; have := r.max; unfold maxLen at this; omega
  have hcap : (es.length : Int) ≤ (cap : Int) := by have := r.le; omega
  have hb := block_lt_of_cell hB
  have R := Lib.hid r
  have HB := Lib.hid hB
  have hg0 := r.lt
  clear r hB
  go_enter Try.func35, Try.ntmps35
  go_wp2_with fail
  go_loopw [8] (fun i wr => ∃ k : Nat, k ≤ es.length ∧ i = .int .i64 k ∧ idx g es 0 = idx g (es.drop k) k ∧ w.grownBy wr none) (fun i _ => es.length - (intOf i).toNat)
  case atStart => exact ⟨0, Nat.zero_le _, rfl, rfl, World.grownBy.refl _ _⟩
  case round =>
    obtain ⟨k, hk, rfl, hi, hg⟩ := hrel
    have HI := Lib.hid hi
    have HG := Lib.hid hg
    have hB := (grown_cells' hg).1 B 0 hb
    rw [HB.out] at hB
    have hr := R.out.heap (hg.block g0 hg0 (by simp))
    clear hi hg
    by_cases hlt : k < es.length
    · obtain ⟨x, hx⟩ : ∃ x, es[k]? = some x := ⟨_, List.getElem?_eq_getElem hlt⟩
      obtain ⟨c0, c1, c2⟩ := hr.cells hx
      have hd : es.drop k = x :: es.drop (k + 1) := by
        obtain ⟨h1, rfl⟩ := List.getElem?_eq_some_iff.1 hx
        exact List.drop_eq_getElem_cons h1
      have hst : idx g (es.drop k) k = if x.g = g then (k : Int) else idx g (es.drop (k + 1)) (k + 1) := by rw [hd]; rfl
      have HS := Lib.hid hst
      have hB2 := Lib.hid hB
      clear hx hd hst hr hB
      by_cases h : x.g = g
      · have hdec : decide (x.g = g) = true := by simpa using h
        have H := Lib.hid h
        clear h
        go_wp2_with fail
        refine (pred_is x g B _ hB2.out).mono ?_
        rintro e w' ⟨rfl, rfl⟩
        rw [hdec]
        clear hdec c0 c1 c2
        go_wp2_with fail
        go_ret
        exact ⟨ret_i (by rw [HI.out, HS.out, if_pos H.out]), grown_none2' HG.out (World.grownBy_alloc _ _ _)⟩
      · have hdec : decide (x.g = g) = false := by simpa using h
        have H := Lib.hid h
        clear h
        go_wp2_with fail
        refine (pred_is x g B _ hB2.out).mono ?_
        rintro e w' ⟨rfl, rfl⟩
        rw [hdec]
        clear hdec c0 c1 c2
        go_wp2_with fail
        go_roundw
        case rel => exact ⟨k + 1, by omega, by go_num, by rw [HI.out, HS.out, if_neg H.out], grown_none2' HG.out (World.grownBy_alloc _ _ _)⟩
        case measure => simp [intOf]; omega
    · obtain rfl : k = es.length := by omega
      go_wp2_with fail
      go_ret
      exact ⟨ret_i (by rw [HI.out, List.drop_length]; rfl), HG.out⟩

theorem clear_ent {w : World} {g0 cap c q n : Nat} {cur : List Ent} (r : Row3 w g0 cap cur) (hn : cur.length = n) (hq : q < n) :
    ∃ X, (∀ ty, (Builtin.clear_ #[30] ty #[.slice (some ⟨g0, q * 3, none⟩) (n - q) c]).run Try.prog w = .ok (.tuple #[]) (w.setRow g0 X)) ∧ Row3 (w.setRow g0 X) g0 cap (cur.take q) ∧ w.grownBy (w.setRow g0 X) (some g0) := by
  obtain ⟨⟨cells, h1, h2, h3⟩, hle, hmax⟩ := r
  obtain ⟨vs, hvs⟩ : ∃ vs, (Builtin.zeroCells (Value.agg #[.int .i64 0, .int .u64 0, .int .i64 0]).cells (n - q)).toList = vs := ⟨_, rfl⟩
  have hl : vs.length = (n - q) * 3 := by rw [← hvs]; simp [Builtin.zeroCells, Value.cells]
  have hone : ∀ v ∈ vs, v.oneCell' = true := by
    intro v hv
    rw [← hvs] at hv
    simp only [Builtin.zeroCells, Value.cells, Array.toList_map, List.mem_map] at hv
    obtain ⟨i, _, rfl⟩ := hv
    rcases (show i % 3 = 0 ∨ i % 3 = 1 ∨ i % 3 = 2 by omega) with h | h | h <;> simp [h, Value.oneCell']
  have hst := run_storeCells_at (P := Try.prog) g0 (q * 3) 24 vs 0 cells w h1 (by omega) hone
  refine ⟨(cells.toList.take (q * 3 + 0) ++ vs ++ cells.toList.drop (q * 3 + 0 + vs.length)).toArray, ?_, ⟨⟨_, setRow_heap w g0 cells _ _ _ h1, ?_, ?_⟩, by rw [List.length_take]; omega, hmax⟩, ?_⟩
  · intro ty
    obtain ⟨m, hm⟩ : ∃ m, n - q = m + 1 := ⟨n - q - 1, by omega⟩
    rw [hm] at hvs ⊢
    simp [Builtin.clear_, run_underlying Try.underlying30, hvs, hst]
  · simp; omega
  · rw [List.length_take, Nat.min_eq_left (by omega), ← flat_take, ← h3]
    simp only [Nat.add_zero]
    rw [List.append_assoc, List.take_append_of_le_length (by simp; omega), List.take_take, List.take_take]
    congr 1; omega
  · refine ⟨rfl, rfl, rfl, by simp [World.setRow], fun k hk hne => ?_⟩
    simp only [World.setRow, Array.getElem?_modify]
    rw [if_neg (fun e => hne (by rw [e]))]

def keepG (g : Int) (es : List Ent) : List Ent := es.filter fun x => !decide (x.g = g)
theorem keepG_all {g : Int} {es : List Ent} (h : ∀ x ∈ es, x.g ≠ g) : keepG g es = es := by
  unfold keepG; rw [List.filter_eq_self]; intro x hx; simp [h x hx]
theorem keepG_take {g : Int} {es : List Ent} {q : Nat} {x : Ent} (hx : es[q]? = some x) (hg : x.g = g) (h : ∀ y ∈ es.take q, y.g ≠ g) : keepG g (es.take (q + 1)) = es.take q := by
  rw [List.take_add_one, hx]
  unfold keepG
  rw [List.filter_append]
  simp only [Option.toList_some, List.filter_cons, hg, decide_true, Bool.not_true, Bool.false_eq_true, if_false, List.filter_nil, List.append_nil]
  exact keepG_all h
theorem keepG_yes {g : Int} {es : List Ent} {j : Nat} {x : Ent} (hx : es[j]? = some x) (hg : x.g ≠ g) : keepG g (es.take (j + 1)) = keepG g (es.take j) ++ [x] := by
  rw [List.take_add_one, hx]
  unfold keepG
  rw [List.filter_append]
  simp [hg]
theorem keepG_no {g : Int} {es : List Ent} {j : Nat} {x : Ent} (hx : es[j]? = some x) (hg : x.g = g) : keepG g (es.take (j + 1)) = keepG g (es.take j) := by
  rw [List.take_add_one, hx]
  unfold keepG
  rw [List.filter_append]
  simp [hg]

theorem run_cut_el (g0 len cap : Nat) (k : IntKind) (l : Int) (n : Nat) (e : l = n) (h1 : n ≤ len) (h2 : n < cap) (w : World) :
    (Instr.slice 30 (.slice (some ⟨g0, 0, none⟩) len cap) (some (.int k l)) none none).run Try.prog w = .ok (.slice (some ⟨g0, n * 3, none⟩) (len - n) (cap - n)) w := by
  subst e
  obtain ⟨i0, hi, hz0, hz1, hz2⟩ := info_parts infoEnt
  have this : Program.elem Try.prog 30 = 24 := by kernel_rfl
  rw [run_slice_l (a := some ⟨g0, 0, none⟩) (len := len) (cap := cap) (ht := by rw [this]; exact Try.underlying30) (kl := k) (l := n) (h0 := by omega) (h1 := by omega)]
  have hadd : (⟨g0, 0, none⟩ : Addr).add (n * 3) = ⟨g0, n * 3, none⟩ := by unfold Addr.add; split <;> simp_all
  have hcn : ¬ cap = n := by omega
  simp [sliced, sizeOf, typeInfo, this, hi, hz1, hadd, hcn]

theorem grown_row {w a b : World} {g0 : Nat} (h : w.grownBy a (some g0)) (k : a.grownBy b none) : w.grownBy b (some g0) :=
  ⟨k.os.trans h.os, k.tape.trans h.tape, k.output.trans h.output, Nat.le_trans h.size k.size, fun j hj hne => (k.block j (Nat.lt_of_lt_of_le hj h.size) (by simp)).trans (h.block j hj hne)⟩
theorem grown_row2 {w a b : World} {g0 : Nat} (h : w.grownBy a (some g0)) (k : a.grownBy b (some g0)) : w.grownBy b (some g0) :=
  ⟨k.os.trans h.os, k.tape.trans h.tape, k.output.trans h.output, Nat.le_trans h.size k.size, fun j hj hne => (k.block j (Nat.lt_of_lt_of_le hj h.size) hne).trans (h.block j hj hne)⟩
theorem set3_grown (w : World) (g0 o1 o2 o3 : Nat) (a b c : Value) : w.grownBy (((w.setCell ⟨g0, o1, none⟩ a).setCell ⟨g0, o2, none⟩ b).setCell ⟨g0, o3, none⟩ c) (some g0) :=
  ⟨rfl, rfl, rfl, by simp, fun k hk hne => by
    have h : k ≠ g0 := fun e => hne (by rw [e])
    exact (heap_setCell_other _ _ _ _ h).trans ((heap_setCell_other _ _ _ _ h).trans (heap_setCell_other _ _ _ _ h))⟩

/-- DeleteFunc's state: j have been looked at, q of them stay, at the row's head. -/
structure Dl (w wr : World) (g0 cap : Nat) (es : List Ent) (g : Int) (q j : Nat) (cur : List Ent) : Prop where
  row : Row3 wr g0 cap cur
  len : cur.length = es.length
  lt : q < j
  le : j ≤ es.length
  head : cur.take q = keepG g (es.take j)
  tail : ∀ m, j ≤ m → cur[m]? = es[m]?
  grown : w.grownBy wr (some g0)
theorem Dl.qlen {w wr : World} {g0 cap q j : Nat} {es cur : List Ent} {g : Int} (D : Dl w wr g0 cap es g q j cur) : (keepG g (es.take j)).length = q := by
  rw [← D.head, List.length_take]; have := D.len; have := D.lt; have := D.le; omega
theorem Dl.skip {w wr w2 : World} {g0 cap q j : Nat} {es cur : List Ent} {g : Int} {x : Ent} (D : Dl w wr g0 cap es g q j cur) (hx : es[j]? = some x) (hg : x.g = g) (hw : wr.grownBy w2 none) : Dl w w2 g0 cap es g q (j + 1) cur :=
  ⟨D.row.heap (hw.block g0 D.row.lt (by simp)), D.len, by have := D.lt; omega, by have := (List.getElem?_eq_some_iff.1 hx).1; omega, by rw [keepG_no hx hg]; exact D.head, fun m hm => D.tail m (by omega), grown_row D.grown hw⟩
theorem Dl.stay {w wr w2 : World} {g0 cap q j : Nat} {es cur : List Ent} {g : Int} {x : Ent} (D : Dl w wr g0 cap es g q j cur) (hx : es[j]? = some x) (hg : x.g ≠ g) (hw : wr.grownBy w2 none) :
    Dl w (((w2.setCell ⟨g0, q * 3, none⟩ (.int .i64 x.w)).setCell ⟨g0, q * 3 + 1, none⟩ (.int .u64 x.o)).setCell ⟨g0, q * 3 + 2, none⟩ (.int .i64 x.g)) g0 cap es g (q + 1) (j + 1) (cur.set q x) := by
  have hj := (List.getElem?_eq_some_iff.1 hx).1
  have hl := D.len; have hlt := D.lt
  refine ⟨(D.row.heap (hw.block g0 D.row.lt (by simp))).set (by omega) x, by rw [List.length_set]; exact D.len, by omega, by omega, ?_, fun m hm => ?_, grown_row2 (grown_row D.grown hw) (set3_grown _ _ _ _ _ _ _ _)⟩
  · rw [keepG_yes hx hg, ← D.head, List.take_add_one, List.take_set_of_le (Nat.le_refl _), List.getElem?_set_self (by omega)]; rfl
  · rw [List.getElem?_set_ne (by omega)]; exact D.tail m (by omega)

set_option maxRecDepth 100000 in
set_option maxHeartbeats 2000000 in
theorem del_row (g0 cap : Nat) (es : List Ent) (g : Int) (B : Nat) (w : World) (r : Row3 w g0 cap es) (hB : w.cell? ⟨B, 0, none⟩ = some (.int .i64 g)) (hne : B ≠ g0) :
    Calls Try.prog 25 #[.slice (some ⟨g0, 0, none⟩) es.length cap, .func (.func 26) #[] #[.pointer (some ⟨B, 0, none⟩)]] w fun e w' =>
      e = .returned (.slice (some ⟨g0, 0, none⟩) (keepG g es).length cap) ∧ Row3 w' g0 cap (keepG g es) ∧ w.grownBy w' (some g0) := by
  have hcap := r.le
  have hmx : cap ≤ 9223372036854775807 := by have := r.max; unfold maxLen at this; omega
  have hb := block_lt_of_cell hB
  have R := Lib.hid r
  have HB := Lib.hid hB
  have hg0 := r.lt
  have hidx := index_row g0 cap es g B w r hB
  rcases idx_get g es 0 with ⟨h1, h2⟩ | ⟨q, x, h1, h2, h3, h4⟩
  · rw [keepG_all h2]
    rw [h1] at hidx
    have HI := Lib.hid hidx
    clear r hB h1 h2 hidx
    go_enter Try.func25, Try.ntmps25
    go_wp2_with fail
    refine HI.out.mono ?_
    rintro e w' ⟨rfl, hg⟩
    have HG := Lib.hid hg
    clear hg
    go_wp2_with fail
    go_ret
    exact ⟨rfl, R.out.heap (HG.out.block g0 hg0 (by simp)), HG.out.os, HG.out.tape, HG.out.output, HG.out.size, fun j hj _ => HG.out.block j hj (by simp)⟩
  · rw [Nat.zero_add] at h1
    rw [h1] at hidx
    have HI := Lib.hid hidx
    have hq := (List.getElem?_eq_some_iff.1 h2).1
    have HK := Lib.hid (keepG_take h2 h3 h4)
    have b1 : ((q : Int) == -1) = false := by rw [beq_eq_false_iff_ne]; omega
    obtain ⟨n, hn⟩ : ∃ n, es.length = n := ⟨_, rfl⟩
    rw [hn] at HI hcap hq ⊢
    have HN := Lib.hid hn
    clear r hB h1 h2 h3 h4 hidx hn
    go_enter Try.func25, Try.ntmps25
    go_wp2_with fail
    refine HI.out.mono ?_
    rintro e w1 ⟨rfl, hg1⟩
    have D0 : Dl w w1 g0 cap es g q (q + 1) es := ⟨R.out.heap (hg1.block g0 hg0 (by simp)), rfl, by omega, by rw [HN.out]; omega, HK.out.symm, fun _ _ => rfl, hg1.os, hg1.tape, hg1.output, hg1.size, fun j hj _ => hg1.block j hj (by simp)⟩
    have HD := Lib.hid D0
    clear hg1 D0 HI
    go_wp2_with fail
    go_loopw [5, 6] (fun u v wr => ∃ (q j : Nat) (cur : List Ent), u = .int .i64 q ∧ v = .int .i64 j ∧ j ≤ n ∧ q < j ∧ Dl w wr g0 cap es g q j cur) (fun _ v _ => n - (intOf v).toNat)
    case atStart => exact ⟨q, q + 1, es, rfl, by go_num, by omega, by omega, HD.out⟩
    case round =>
      clear HD b1 hq HK
      obtain ⟨q, j, cur, rfl, rfl, hjn, hqj, hD⟩ := hrel
      have HD := Lib.hid hD
      clear hD
      have hB := (World.cell?_of_block (a := ⟨B, 0, none⟩) (HD.out.grown.block B hb (fun e => hne (Option.some.inj e)))).trans HB.out
      have hbr := block_lt_of_cell hB
      have hgr := HD.out.row.lt
      by_cases hlt : j < n
      · obtain ⟨x, hx⟩ : ∃ x, es[j]? = some x := ⟨_, List.getElem?_eq_getElem (by rw [HN.out]; exact hlt)⟩
        obtain ⟨c0, c1, c2⟩ := HD.out.row.cells ((HD.out.tail j (Nat.le_refl _)).trans hx)
        have HX := Lib.hid hx
        have hB2 := Lib.hid (cell_later ((Below.refl wr.heap.size wr).alloc (Nat.le_refl _) (.cells #[.int .i64 x.w, .int .u64 x.o, .int .i64 x.g] 24)) hB)
        have hcq : ((q : Nat) : Int) < (n : Int) := by omega
        clear hx hB
        by_cases h : x.g = g
        · have hdec : decide (x.g = g) = true := by simpa using h
          have hgW : wr.grownBy ((wr.alloc (.cells #[.int .i64 x.w, .int .u64 x.o, .int .i64 x.g] 24)).alloc (.cells #[.int .i64 x.w, .int .u64 x.o, .int .i64 x.g] 24)) none := grown_none2' (World.grownBy_alloc _ _ _) (World.grownBy_alloc _ _ _)
          have HD2 := Lib.hid (HD.out.skip HX.out h hgW)
          clear h hgW
          go_wp2_with fail
          refine (pred_is x g B _ hB2.out).mono ?_
          rintro e w' ⟨rfl, rfl⟩
          rw [hdec]
          clear hdec c0 c1 c2
          go_wp2_with fail
          go_roundw
          case rel => exact ⟨q, j + 1, cur, rfl, by go_num, by omega, by omega, HD2.out⟩
          case measure => simp [intOf]; omega
        · have hdec : decide (x.g = g) = false := by simpa using h
          have hgW : wr.grownBy ((wr.alloc (.cells #[.int .i64 x.w, .int .u64 x.o, .int .i64 x.g] 24)).alloc (.cells #[.int .i64 x.w, .int .u64 x.o, .int .i64 x.g] 24)) none := grown_none2' (World.grownBy_alloc _ _ _) (World.grownBy_alloc _ _ _)
          have HD2 := Lib.hid (HD.out.stay HX.out h hgW)
          have hrow := HD.out.row.heap (hgW.block g0 hgr (by simp))
          obtain ⟨y, hy⟩ : ∃ y, cur[q]? = some y := ⟨_, List.getElem?_eq_getElem (by have := HD.out.len; rw [HN.out] at this; omega)⟩
          have h7 : ((wr.alloc (.cells #[.int .i64 x.w, .int .u64 x.o, .int .i64 x.g] 24)).alloc (.cells #[.int .i64 x.w, .int .u64 x.o, .int .i64 x.g] 24)).heap[wr.heap.size]? = some (.cells x.cells 24 (0, 0)) := heap_alloc2_old _ _ _
          have HW := Lib.hid (And.intro hrow (And.intro hy h7))
          have hz : wr.heap.size ≠ g0 := by omega
          clear h hgW hrow hy h7
          go_wp2_with fail
          refine (pred_is x g B _ hB2.out).mono ?_
          rintro e w' ⟨rfl, rfl⟩
          rw [hdec]
          clear hdec c0 c1 c2
          generalize ((wr.alloc (.cells #[.int .i64 x.w, .int .u64 x.o, .int .i64 x.g] 24)).alloc (.cells #[.int .i64 x.w, .int .u64 x.o, .int .i64 x.g] 24)) = W at *
          obtain ⟨y0, y1, y2⟩ := HW.out.1.cells HW.out.2.1
          have yf := HW.out.1.free
          have z0 : W.cell? ⟨wr.heap.size, 0, none⟩ = some (.int .i64 x.w) := cell_of_row _ _ 0 _ _ _ HW.out.2.2
          have z1 : W.cell? ⟨wr.heap.size, 1, none⟩ = some (.int .u64 x.o) := cell_of_row _ _ 1 _ _ _ HW.out.2.2
          have z2 : W.cell? ⟨wr.heap.size, 2, none⟩ = some (.int .i64 x.g) := cell_of_row _ _ 2 _ _ _ HW.out.2.2
          go_wp2_with fail
          go_roundw
          case rel => exact ⟨q + 1, j + 1, _, by go_num, by go_num, by omega, by omega, HD2.out⟩
          case measure => simp [intOf]; omega
      · obtain rfl : j = n := by omega
        obtain ⟨X, hcl, hc2, hc3⟩ := clear_ent (c := cap - q) HD.out.row (HD.out.len.trans HN.out) hqj
        have hsl : ∀ W, (Instr.slice 30 (.slice (some ⟨g0, 0, none⟩) j cap) (some (.int .i64 (q : Int))) none none).run Try.prog W = .ok (.slice (some ⟨g0, q * 3, none⟩) (j - q) (cap - q)) W := fun W => run_cut_el g0 j cap .i64 _ q rfl (by omega) (by omega) W
        have hsh : ∀ W, (Instr.slice 30 (.slice (some ⟨g0, 0, none⟩) j cap) none (some (.int .i64 (q : Int))) none).run Try.prog W = .ok (.slice (some ⟨g0, 0, none⟩) q cap) W := fun W => run_cut_e _ j cap .i64 _ q rfl (by omega) W
        have htk : es.take j = es := List.take_of_length_le (by rw [HN.out]; exact Nat.le_refl _)
        have hfin : cur.take q = keepG g es := by rw [HD.out.head, htk]
        have hql : (keepG g es).length = q := by have := HD.out.qlen; rw [htk] at this; exact this
        rw [hfin] at hc2
        have H := Lib.hid (And.intro hc2 (And.intro (grown_row2 HD.out.grown hc3) hql))
        clear hc2 hc3 hfin hql hB htk
        go_wp2_with fail
        go_ret
        exact ⟨by rw [H.out.2.2]; rfl, H.out.1, H.out.2.1⟩
end Go.Proofs.Ytlnbjnkmhabdaaa.Hp
