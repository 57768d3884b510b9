/-
  The law HeapSorts.
-/
import Derived.Test.YtlnbjnkmhabdaaaHeapLives
import Derived.Test.YtlnbjnkmhabdaaaHeapAhead
import Derived.Test.YtlnbjnkmhabdaaaMapE
import Derived.Test.YtlnbjnkmhabdaaaArgs
namespace Go.Proofs.Ytlnbjnkmhabdaaa.Hp
open Go.RowKit
open Go.Proofs.Ytlnbjnkmhabdaaa.MapE
set_option linter.unusedVariables false

theorem cnt_ne {w : World} {m b : Nat} {c : Ent → Int} {cs : Array Value} {t : TypeId} (h : IsCnt w m c) (hb : w.heap[b]? = some (.cells cs t (0, 0))) : b ≠ m := by
  rintro rfl
  obtain ⟨es, k, h1, _⟩ := h
  rw [hb] at h1; cases h1
/-- Counts of a bag. -/
def cnt (es : List Ent) : Ent → Int := fun y => (es.count y : Nat)
theorem cnt_up {es es' : List Ent} {e : Ent} (h : es'.Perm (e :: es)) : upd (cnt es) e (cnt es e + 1) = cnt es' := by
  funext y
  unfold upd cnt
  rw [h.count_eq y, List.count_cons]
  by_cases hy : y = e
  · subst hy; simp
  · have : (e == y) = false := by simpa using fun h => hy h.symm
    simp [hy, this]
theorem cnt_down {es es' : List Ent} {e : Ent} (h : (e :: es').Perm es) : upd (cnt es) e (cnt es e - 1) = cnt es' := by
  funext y
  unfold upd cnt
  rw [← h.count_eq y, ← h.count_eq e, List.count_cons, List.count_cons]
  by_cases hy : y = e
  · subst hy; simp
  · have : (e == y) = false := by simpa using fun h => hy h.symm
    simp [hy, this]

theorem add_next (c : Addr) (n j : Nat) (hj : j ≠ 0) : c.add (n + j) = ⟨(c.add n).block, (c.add n).off + j, none⟩ := by
  unfold Addr.add
  by_cases hn : n = 0
  · subst hn; simp [hj]
  · simp [hn, Nat.add_assoc]

/-- The state of the loops. -/
structure HS (w wr : World) (base hb m : Nat) (v : Value) (es : List Ent) : Prop where
  hp : IsHp wr base hb 0 v es
  heapish : Heapish es
  map : IsCnt wr m (cnt es)
  below : Below w.heap.size w wr
  size : base ≤ wr.heap.size
  low : w.heap.size ≤ base ∧ base ≤ hb ∧ base ≤ m
theorem HS.own_ne {w wr : World} {base hb m : Nat} {v : Value} {es : List Ent} (h : HS w wr base hb m v es) : v.ownBlock ≠ some m := by
  intro e
  rcases h.hp.row with ⟨e1, _⟩ | ⟨g, cap, e1, r, _⟩
  · rw [e1] at e; simp [Value.ownBlock] at e
  · rw [e1] at e; simp [Value.ownBlock] at e; subst e
    obtain ⟨cur, h1, _⟩ := r.blk
    exact cnt_ne h.map h1 rfl
theorem HS.hb_ne {w wr : World} {base hb m : Nat} {v : Value} {es : List Ent} (h : HS w wr base hb m v es) : hb ≠ m := by
  rintro rfl
  have hc := h.hp.cell
  obtain ⟨es', k, h1, _⟩ := h.map
  unfold World.cell? at hc
  rw [h1] at hc; cases hc
theorem HS.none {w wr w' : World} {base hb m : Nat} {v : Value} {es : List Ent} (h : HS w wr base hb m v es) (hg : wr.grownBy w' Option.none) : HS w w' base hb m v es :=
  ⟨h.hp.grown hg, h.heapish, h.map.grown hg (by simp), ⟨hg.os.trans h.below.os, hg.tape.trans h.below.tape, hg.output.trans h.below.output, Nat.le_trans h.below.size hg.size, fun j hj => (hg.block j (Nat.lt_of_lt_of_le hj h.below.size) (by simp)).trans (h.below.block j hj)⟩, Nat.le_trans h.size hg.size, h.low⟩
theorem HS.box {w w6 : World} {base hb m L i j l : Nat} {v a b c : Value} {es : List Ent} (h : HS w w6 base hb m v es) (h1 : hb ≠ L) (h2 : L ≠ m) (h3 : v.ownBlock ≠ some L) (h4 : w.heap.size ≤ L) :
    HS w (((w6.setCell ⟨L, i, Option.none⟩ a).setCell ⟨L, j, Option.none⟩ b).setCell ⟨L, l, Option.none⟩ c) base hb m v es :=
  ⟨h.hp.heap (box_other h1) (fun g hg => box_other (fun e => h3 (by rw [hg, e]))), h.heapish, h.map.heap (box_other (Ne.symm h2)), ⟨h.below.os, h.below.tape, h.below.output, by rw [box_size]; exact h.below.size, fun q hq => (box_other (by omega)).trans (h.below.block q hq)⟩, by rw [box_size]; exact h.size, h.low⟩
theorem grown_none2 {a b c : World} (h : a.grownBy b Option.none) (k : b.grownBy c Option.none) : a.grownBy c Option.none :=
  ⟨k.os.trans h.os, k.tape.trans h.tape, k.output.trans h.output, Nat.le_trans h.size k.size, fun j hj hne => (k.block j (Nat.lt_of_lt_of_le hj h.size) (by simp)).trans (h.block j hj hne)⟩
/-- Behind a deed at the heap: the map is as it was. -/
theorem HS.deed {w wr w' : World} {base hb m : Nat} {v v' : Value} {es : List Ent} (h : HS w wr base hb m v es) (hf : HFr wr w' hb 0 v v') : IsCnt w' m (cnt es) ∧ Below w.heap.size w w' ∧ base ≤ w'.heap.size :=
  ⟨h.map.heap (hf.block m h.map.lt (fun e => h.hb_ne e.symm) h.own_ne), h.below.trans ((hf.below (B := base) (v := v) h.low.2.1 h.hp.base_le h.size).mono h.low.1), Nat.le_trans h.size hf.size⟩
/-- Behind a change of the map. -/
theorem HS.count {w wr w' : World} {base hb m : Nat} {v : Value} {es : List Ent} (hp : IsHp wr base hb 0 v es) (hh : Heapish es) (hb0 : Below w.heap.size w wr) (hs : base ≤ wr.heap.size) (hl : w.heap.size ≤ base ∧ base ≤ hb ∧ base ≤ m) (h1 : hb ≠ m) (h2 : v.ownBlock ≠ some m) (hm : IsCnt w' m (cnt es)) (hg : wr.grownBy w' (some m)) : HS w w' base hb m v es :=
  ⟨hp.heap (hg.block hb hp.lt (fun e => h1 (Option.some.inj e))) (fun g e => hg.block g (hp.ownlt g e).1 (fun e2 => h2 (by rw [e]; exact e2))), hh, hm, ⟨hg.os.trans hb0.os, hg.tape.trans hb0.tape, hg.output.trans hb0.output, Nat.le_trans hb0.size hg.size, fun j hj => (hg.block j (Nat.lt_of_lt_of_le hj hb0.size) (fun e => by have := Option.some.inj e; omega)).trans (hb0.block j hj)⟩, Nat.le_trans hs hg.size, hl⟩

set_option maxRecDepth 100000 in
set_option maxHeartbeats 4000000 in
theorem sorts_short (a : Option Addr) (len cap : Nat) (z : Nat → Ent) (w : World) (hl : len ≤ 80) (hnil : a = none → len = 0)
    (hc : ∀ b, a = some b → ∀ i, i < len → w.cell? (b.add (i * 3)) = some (.int .i64 (z i).w) ∧ w.cell? (b.add (i * 3 + 1)) = some (.int .u64 (z i).o) ∧ w.cell? (b.add (i * 3 + 2)) = some (.int .i64 (z i).g)) :
    Calls Try.prog 4 #[.slice a len cap] w fun e w' => e = .returned (.bool true) ∧ Below w.heap.size w w' := by
  have hmm := @run_makeMap Try.prog
  have hlt : ¬ (80 < len) := by omega
  have HC := Lib.hid hc
  have HN := Lib.hid hnil
  clear hc hnil
  go_enter Try.func4, Try.ntmps4
  go_wp2_with fail
  refine (lives_is w).mono ?_
  rintro e w0 ⟨rfl, hb⟩
  have HB := Lib.hid hb
  clear hb
  go_wp2_with fail
  have hS : HS w ((w0.alloc (.cells #[.slice none 0 0] 32)).alloc (.map #[] 0)) w0.heap.size w0.heap.size (w0.heap.size + 1) (.slice none 0 0) [] :=
    ⟨(hp_new w0 w0.heap.size).grown (World.grownBy_alloc _ _ _), heapish_nil, (by have := IsCnt.made (w0.alloc (.cells #[.slice none 0 0] 32)); rw [show cnt [] = fun _ => 0 from by funext y; simp [cnt]]; simpa using this), (HB.out.alloc HB.out.size _).alloc (by have := HB.out.size; simp; omega) _, by simp; omega, ⟨HB.out.size, Nat.le_refl _, by omega⟩⟩
  have S := Lib.hid hS
  have hbase : w.heap.size ≤ w0.heap.size := HB.out.size
  clear hS
  generalize ((w0.alloc (.cells #[.slice none 0 0] 32)).alloc (.map #[] 0)) = W at *
  obtain ⟨m, hm⟩ : ∃ m, m = w0.heap.size + 1 := ⟨_, rfl⟩
  rw [← hm] at S ⊢
  generalize w0.heap.size = base at *
  clear hm HB
  go_loopw [24] (fun q wr => ∃ (k : Nat) (v : Value) (es : List Ent), k ≤ len ∧ q = .int .i64 k ∧ es.length = k ∧ HS w wr base base m v es) (fun q _ => len - (intOf q).toNat)
  case atStart => exact ⟨0, _, [], Nat.zero_le _, rfl, rfl, S.out⟩
  case round =>
    clear S
    obtain ⟨k, v, es, hk, rfl, hes, hS⟩ := hrel
    have S := Lib.hid hS
    have HES := Lib.hid hes
    clear hS hes
    by_cases hlen : k < len
    · obtain ⟨c, rfl⟩ : ∃ c, a = some c := by
        cases a with
        | none => exact absurd (HN.out rfl) (by omega)
        | some c => exact ⟨c, rfl⟩
      obtain ⟨h0, h1, h2⟩ := HC.out c rfl k hlen
      have x0 := cell_later S.out.below h0
      have x1 := cell_later S.out.below h1
      have x2 := cell_later S.out.below h2
      generalize z k = x at x0 x1 x2
      rw [add_next c _ 1 (by decide)] at x1
      rw [add_next c _ 2 (by decide)] at x2
      clear h0 h1 h2
      go_wp2_with fail
      have hg6 : wr.grownBy (wr.alloc (.cells #[.int .i64 x.w, .int .u64 x.o, .int .i64 x.g] 24)) none := World.grownBy_alloc _ _ _
      have S6 := Lib.hid (S.out.none hg6)
      have X6 : Hid ((wr.alloc (.cells #[.int .i64 x.w, .int .u64 x.o, .int .i64 x.g] 24)).heap[wr.heap.size]? = some (.cells x.cells 24 (0, 0))) := Lib.hid (heap_alloc_new _ _)
      have hs6 : (wr.alloc (.cells #[.int .i64 x.w, .int .u64 x.o, .int .i64 x.g] 24)).heap.size = wr.heap.size + 1 := by simp
      clear hg6 x0 x1 x2
      generalize (wr.alloc (.cells #[.int .i64 x.w, .int .u64 x.o, .int .i64 x.g] 24)) = W6 at *
      refine (put_is S6.out.hp S6.out.size (by rw [HES.out]; omega) x).mono ?_
      rintro e w2 ⟨v', rfl, hp2, hf⟩
      have hlaw := put_law S6.out.heapish x
      generalize upL (es ++ [x]) es.length = es' at *
      obtain ⟨hm2, hB2, hS2⟩ := S6.out.deed hf
      have hX2 : w2.heap[wr.heap.size]? = some (.cells x.cells 24 (0, 0)) := (hf.block wr.heap.size (by omega) (by have := S.out.hp.lt; omega) (fun e => by have := (S.out.hp.ownlt _ e).1; omega)).trans X6.out
      have hlen' : es'.length = k + 1 := by have := hlaw.1.length_eq; simp [HES.out] at this; exact this
      have hbm : base ≠ m := S6.out.hb_ne
      have hvm : v'.ownBlock ≠ some m := by
        rcases hf.own with h | h
        · rw [h]; exact S6.out.own_ne
        · intro e; have := h m e; have := S6.out.map.lt; omega
      obtain ⟨n, hn⟩ : ∃ n : Nat, n = es.count x := ⟨_, rfl⟩
      have hn80 : n ≤ 80 := by have := List.count_le_length (a := x) (l := es); have := HES.out; omega
      have hcx : cnt es x = (n : Int) := by unfold cnt; rw [hn]
      have hmd : IsCnt w2.drew m (cnt es) := hm2.heap rfl
      have hL0 := run_look hmd x
      obtain ⟨w3, st, hE, hm3, hg3, hst⟩ := run_entry hmd x
      have hL1 := run_look hm3 x
      obtain ⟨w4, hSt, hm4, hg4⟩ := hst w3 ((n : Int) + 1) rfl
      rw [hcx] at hL0 hL1 hE
      rw [← hcx, cnt_up hlaw.1] at hm4
      have hg24 : w2.grownBy w4 (some m) := ⟨hg4.os.trans hg3.os, hg4.tape.trans hg3.tape, hg4.output.trans hg3.output, Nat.le_trans hg3.size hg4.size, fun j hj hne => (hg4.block j (Nat.lt_of_lt_of_le hj hg3.size) hne).trans (hg3.block j hj hne)⟩
      have S4 := Lib.hid (HS.count hp2 hlaw.2 hB2 hS2 S.out.low hbm hvm hm4 hg24)
      have y0 : w2.cell? ⟨wr.heap.size, 0, none⟩ = some (.int .i64 x.w) := cell_of_row _ _ 0 _ _ _ hX2
      have y1 : w2.cell? ⟨wr.heap.size, 1, none⟩ = some (.int .u64 x.o) := cell_of_row _ _ 1 _ _ _ hX2
      have y2 : w2.cell? ⟨wr.heap.size, 2, none⟩ = some (.int .i64 x.g) := cell_of_row _ _ 2 _ _ _ hX2
      have HL := Lib.hid hlen'
      clear hp2 hf hlaw hm2 hB2 hS2 hX2 hlen' hn hcx hmd hm3 hg3 hst hm4 hg4 hg24 S6 X6 hs6
      go_wp2_with fail
      go_region
      all_goals
        go_wp2_with fail
        go_roundw
        case rel => exact ⟨k + 1, v', es', by omega, by go_num, HL.out, S4.out⟩
        case measure => simp [intOf]; omega
    · obtain rfl : k = len := by omega
      have hW : wr.grownBy (wr.alloc (.cells #[.int .i64 0, .int .u64 0, .int .i64 0] 24)) none := World.grownBy_alloc _ _ _
      have SL := Lib.hid (S.out.none hW)
      have XL : Hid ((wr.alloc (.cells #[.int .i64 0, .int .u64 0, .int .i64 0] 24)).heap[wr.heap.size]? = some (.cells (Ent.mk 0 0 0).cells 24 (0, 0))) := Lib.hid (heap_alloc_new _ _)
      have hLb : base < wr.heap.size := S.out.hp.lt
      have hvL : v.ownBlock ≠ some wr.heap.size := fun e => by have := (S.out.hp.ownlt _ e).1; omega
      have HVL := Lib.hid hvL
      clear hW hvL S
      go_wp2_with fail
      generalize (wr.alloc (.cells #[.int .i64 0, .int .u64 0, .int .i64 0] 24)) = W at *
      generalize wr.heap.size = L at *
      go_loopw [40] (fun q wr => ∃ (j : Nat) (v : Value) (es : List Ent) (l : Ent), j ≤ k ∧ q = .int .i64 j ∧ es.length = k - j ∧ HS w wr base base m v es ∧ wr.heap[L]? = some (.cells l.cells 24 (0, 0)) ∧ v.ownBlock ≠ some L ∧ (0 < j → ∀ x ∈ es, le l x)) (fun q _ => k - (intOf q).toNat)
      case atStart => exact ⟨0, v, es, ⟨0, 0, 0⟩, Nat.zero_le _, rfl, HES.out, SL.out, XL.out, HVL.out, fun h => absurd h (by omega)⟩
      case round =>
        clear SL XL HVL HES
        obtain ⟨j, v, es, l, hj, rfl, hes, hS, hXL, hvL, hle⟩ := hrel
        have S := Lib.hid hS
        have XL := Lib.hid hXL
        have HES := Lib.hid hes
        have HVL := Lib.hid hvL
        have HLE := Lib.hid hle
        clear hS hXL hes hvL hle
        by_cases hjk : j < k
        · obtain ⟨x, t, rfl⟩ : ∃ x t, es = x :: t := by
            cases es with
            | nil => have := HES.out; simp at this; omega
            | cons x t => exact ⟨x, t, rfl⟩
          have HT := Lib.hid (show t.length + 1 = k - j by have := HES.out; simpa using this)
          go_wp2_with fail
          refine (take_some S.out.hp (by have := HT.out; omega)).mono ?_
          rintro e w2 ⟨v', rfl, hp2, hf⟩
          have hlaw := take_law S.out.heapish
          generalize takeL (x :: t) = es' at *
          obtain ⟨hm2, hB2, hS2⟩ := S.out.deed hf
          have hL2 := (hf.block L (Array.getElem?_eq_some_iff.1 XL.out).1 (by omega) HVL.out).trans XL.out
          have hbm : base ≠ m := S.out.hb_ne
          have hLm : L ≠ m := cnt_ne S.out.map XL.out
          have hvm : v'.ownBlock ≠ some m := by
            rcases hf.own with h | h
            · rw [h]; exact S.out.own_ne
            · intro e; have := h m e; have := S.out.map.lt; omega
          have hvL' : v'.ownBlock ≠ some L := by
            rcases hf.own with h | h
            · rw [h]; exact HVL.out
            · intro e; have := h L e; have := (Array.getElem?_eq_some_iff.1 XL.out).1; omega
          have hlx : 0 < j → le l x := fun h => HLE.out h x (by simp)
          have hlx2 : ∀ y ∈ es', le x y := fun y hy => head_least S.out.heapish y ((hlaw.1.mem_iff).1 (by simp [hy]))
          have hlen' : es'.length = k - (j + 1) := by have h1 := hlaw.1.length_eq; have h2 := HT.out; simp only [List.length_cons] at h1; omega
          have hg3 : w2.grownBy (w2.alloc (.cells #[.int .i64 x.w, .int .u64 x.o, .int .i64 x.g] 24)) none := World.grownBy_alloc _ _ _
          have R := Lib.hid (And.intro (hp2.grown hg3) (And.intro (hm2.grown hg3 (by simp)) (And.intro (hB2.alloc hB2.size (.cells #[.int .i64 x.w, .int .u64 x.o, .int .i64 x.g] 24)) (And.intro ((hg3.block L (Array.getElem?_eq_some_iff.1 hL2).1 (by simp)).trans hL2) (heap_alloc_new w2 (.cells #[.int .i64 x.w, .int .u64 x.o, .int .i64 x.g] 24))))))
          have hS3 : base ≤ (w2.alloc (.cells #[.int .i64 x.w, .int .u64 x.o, .int .i64 x.g] 24)).heap.size := by simp; omega
          have hL9 : L < w2.heap.size := (Array.getElem?_eq_some_iff.1 hL2).1
          have hm9 : m < w2.heap.size := hm2.lt
          have Q := Lib.hid (And.intro hlaw (And.intro hvm (And.intro hvL' (And.intro hlx (And.intro hlx2 hlen')))))
          clear hp2 hf hlaw hm2 hB2 hS2 hL2 hvm hvL' hlx hlx2 hlen' hg3
          obtain ⟨n, hn⟩ : ∃ n : Nat, n = (x :: t).count x := ⟨_, rfl⟩
          have hn80 : n ≤ 81 := by have h1 := List.count_le_length (a := x) (l := x :: t); have h2 := HT.out; simp only [List.length_cons] at h1; omega
          have hn1 : 1 ≤ n := by rw [hn]; simp
          have hn0 : ((n : Int) == 0) = false := by rw [beq_eq_false_iff_ne]; omega
          have hcx : cnt (x :: t) x = (n : Int) := by unfold cnt; rw [hn]
          have HCX := Lib.hid hcx
          clear hn hcx
          have R0 := Lib.hid (And.intro R.out.1 (And.intro R.out.2.1 (And.intro R.out.2.2.1 (And.intro R.out.2.2.2.1 (And.intro R.out.2.2.2.2 hS3)))))
          have l0 : w2.cell? ⟨L, 0, none⟩ = some (.int .i64 l.w) := (World.cell?_alloc_past _ _ _ hL9).symm.trans (cell_of_row _ _ 0 _ _ _ R.out.2.2.2.1)
          have l1 : w2.cell? ⟨L, 1, none⟩ = some (.int .u64 l.o) := (World.cell?_alloc_past _ _ _ hL9).symm.trans (cell_of_row _ _ 1 _ _ _ R.out.2.2.2.1)
          have l2 : w2.cell? ⟨L, 2, none⟩ = some (.int .i64 l.g) := (World.cell?_alloc_past _ _ _ hL9).symm.trans (cell_of_row _ _ 2 _ _ _ R.out.2.2.2.1)
          by_cases hj0 : 0 < j
          · have hd5 : decide ((0 : Int) < (j : Int)) = true := by simpa using hj0
            have hx : aheadB x l = false := Q.out.2.2.2.1 hj0
            go_wp2_with fail
            refine (ahead_is x l _).mono ?_
            rintro e w4 ⟨rfl, hb⟩
            rw [hx]
            have hg : (w2.alloc (.cells #[.int .i64 x.w, .int .u64 x.o, .int .i64 x.g] 24)).grownBy w4 none := ⟨hb.os, hb.tape, hb.output, hb.size, fun q hq _ => hb.block q hq⟩
            have R1 := Lib.hid (And.intro (R0.out.1.grown hg) (And.intro (R0.out.2.1.grown hg (by simp)) (And.intro (R0.out.2.2.1.trans (hb.mono R0.out.2.2.1.size)) (And.intro ((hg.block L (Array.getElem?_eq_some_iff.1 R0.out.2.2.2.1).1 (by simp)).trans R0.out.2.2.2.1) (And.intro ((hg.block w2.heap.size (Array.getElem?_eq_some_iff.1 R0.out.2.2.2.2.1).1 (by simp)).trans R0.out.2.2.2.2.1) (Nat.le_trans R0.out.2.2.2.2.2 hg.size))))))
            clear hb hg R R0 hS3 l0 l1 l2 hx
            have hL0 := run_look R1.out.2.1 x
            rw [HCX.out] at hL0
            have y0 : w4.cell? ⟨w2.heap.size, 0, none⟩ = some (.int .i64 x.w) := cell_of_row _ _ 0 _ _ _ R1.out.2.2.2.2.1
            have y1 : w4.cell? ⟨w2.heap.size, 1, none⟩ = some (.int .u64 x.o) := cell_of_row _ _ 1 _ _ _ R1.out.2.2.2.2.1
            have y2 : w4.cell? ⟨w2.heap.size, 2, none⟩ = some (.int .i64 x.g) := cell_of_row _ _ 2 _ _ _ R1.out.2.2.2.2.1
            go_wp2_with fail
            clear hL0
            have hmd : IsCnt w4.drew m (cnt (x :: t)) := R1.out.2.1.heap rfl
            have hL0 := run_look hmd x
            obtain ⟨w5, st, hE, hm5, hg5, hst⟩ := run_entry hmd x
            have hL1 := run_look hm5 x
            obtain ⟨w6, hSt, hm6, hg6⟩ := hst w5 ((n : Int) - 1) rfl
            rw [HCX.out] at hL0 hL1 hE
            rw [← HCX.out, cnt_down Q.out.1.1] at hm6
            have hg : w4.grownBy w6 (some m) := ⟨hg6.os.trans hg5.os, hg6.tape.trans hg5.tape, hg6.output.trans hg5.output, Nat.le_trans hg5.size hg6.size, fun j hj hne => (hg6.block j (Nat.lt_of_lt_of_le hj hg5.size) hne).trans (hg5.block j hj hne)⟩
            have S6 := Lib.hid (HS.count R1.out.1 Q.out.1.2 R1.out.2.2.1 R1.out.2.2.2.2.2 S.out.low hbm Q.out.2.1 hm6 hg)
            have X6 := Lib.hid ((hg.block w2.heap.size (Array.getElem?_eq_some_iff.1 R1.out.2.2.2.2.1).1 (fun e => by have := Option.some.inj e; omega)).trans R1.out.2.2.2.2.1)
            have L6 := Lib.hid ((hg.block L (Array.getElem?_eq_some_iff.1 R1.out.2.2.2.1).1 (fun e => hLm (Option.some.inj e))).trans R1.out.2.2.2.1)
            have z0 : w6.cell? ⟨w2.heap.size, 0, none⟩ = some (.int .i64 x.w) := cell_of_row _ _ 0 _ _ _ X6.out
            have z1 : w6.cell? ⟨w2.heap.size, 1, none⟩ = some (.int .u64 x.o) := cell_of_row _ _ 1 _ _ _ X6.out
            have z2 : w6.cell? ⟨w2.heap.size, 2, none⟩ = some (.int .i64 x.g) := cell_of_row _ _ 2 _ _ _ X6.out
            have l0 : w6.cell? ⟨L, 0, none⟩ = some (.int .i64 l.w) := cell_of_row _ _ 0 _ _ _ L6.out
            have l1 : w6.cell? ⟨L, 1, none⟩ = some (.int .u64 l.o) := cell_of_row _ _ 1 _ _ _ L6.out
            have l2 : w6.cell? ⟨L, 2, none⟩ = some (.int .i64 l.g) := cell_of_row _ _ 2 _ _ _ L6.out
            have fz : ∀ o, w6.frozen? ⟨L, o, none⟩ = false := fun o => frozen_of_row _ _ o _ _ L6.out
            clear hmd hm5 hg5 hst hm6 hg6 hg
            go_region
            all_goals
              go_wp2_with fail
              go_roundw
              case rel => exact ⟨j + 1, v', es', x, by omega, by go_num, Q.out.2.2.2.2.2, S6.out.box (by omega) hLm Q.out.2.2.1 (by omega), box_set L6.out x, Q.out.2.2.1, fun _ => Q.out.2.2.2.2.1⟩
              case measure => simp [intOf]; omega
          · have hd5 : decide ((0 : Int) < (j : Int)) = false := by simp; omega
            have hd5' : decide (0 < j) = false := by simp; omega
            clear l0 l1 l2
            obtain ⟨W4, hW4⟩ : ∃ W4, W4 = w2.alloc (.cells #[.int .i64 x.w, .int .u64 x.o, .int .i64 x.g] 24) := ⟨_, rfl⟩
            have hL0 := run_look R0.out.2.1 x
            rw [HCX.out] at hL0
            go_wp2_with fail
            clear hL0
            rw [← hW4] at R0 ⊢
            have R1 : Hid (IsHp W4 base base 0 v' es' ∧ IsCnt W4 m (cnt (x :: t)) ∧ Below w.heap.size w W4 ∧ W4.heap[L]? = some (.cells l.cells 24 (0, 0)) ∧ W4.heap[w2.heap.size]? = some (.cells x.cells 24 (0, 0)) ∧ base ≤ W4.heap.size) := R0
            clear hW4 R R0 hS3
            have hL0 := run_look R1.out.2.1 x
            rw [HCX.out] at hL0
            have y0 : W4.cell? ⟨w2.heap.size, 0, none⟩ = some (.int .i64 x.w) := cell_of_row _ _ 0 _ _ _ R1.out.2.2.2.2.1
            have y1 : W4.cell? ⟨w2.heap.size, 1, none⟩ = some (.int .u64 x.o) := cell_of_row _ _ 1 _ _ _ R1.out.2.2.2.2.1
            have y2 : W4.cell? ⟨w2.heap.size, 2, none⟩ = some (.int .i64 x.g) := cell_of_row _ _ 2 _ _ _ R1.out.2.2.2.2.1
            clear hL0
            have hmd : IsCnt W4.drew m (cnt (x :: t)) := R1.out.2.1.heap rfl
            have hL0 := run_look hmd x
            obtain ⟨w5, st, hE, hm5, hg5, hst⟩ := run_entry hmd x
            have hL1 := run_look hm5 x
            obtain ⟨w6, hSt, hm6, hg6⟩ := hst w5 ((n : Int) - 1) rfl
            rw [HCX.out] at hL0 hL1 hE
            rw [← HCX.out, cnt_down Q.out.1.1] at hm6
            have hg : W4.grownBy w6 (some m) := ⟨hg6.os.trans hg5.os, hg6.tape.trans hg5.tape, hg6.output.trans hg5.output, Nat.le_trans hg5.size hg6.size, fun j hj hne => (hg6.block j (Nat.lt_of_lt_of_le hj hg5.size) hne).trans (hg5.block j hj hne)⟩
            have S6 := Lib.hid (HS.count R1.out.1 Q.out.1.2 R1.out.2.2.1 R1.out.2.2.2.2.2 S.out.low hbm Q.out.2.1 hm6 hg)
            have X6 := Lib.hid ((hg.block w2.heap.size (Array.getElem?_eq_some_iff.1 R1.out.2.2.2.2.1).1 (fun e => by have := Option.some.inj e; omega)).trans R1.out.2.2.2.2.1)
            have L6 := Lib.hid ((hg.block L (Array.getElem?_eq_some_iff.1 R1.out.2.2.2.1).1 (fun e => hLm (Option.some.inj e))).trans R1.out.2.2.2.1)
            have z0 : w6.cell? ⟨w2.heap.size, 0, none⟩ = some (.int .i64 x.w) := cell_of_row _ _ 0 _ _ _ X6.out
            have z1 : w6.cell? ⟨w2.heap.size, 1, none⟩ = some (.int .u64 x.o) := cell_of_row _ _ 1 _ _ _ X6.out
            have z2 : w6.cell? ⟨w2.heap.size, 2, none⟩ = some (.int .i64 x.g) := cell_of_row _ _ 2 _ _ _ X6.out
            have l0 : w6.cell? ⟨L, 0, none⟩ = some (.int .i64 l.w) := cell_of_row _ _ 0 _ _ _ L6.out
            have l1 : w6.cell? ⟨L, 1, none⟩ = some (.int .u64 l.o) := cell_of_row _ _ 1 _ _ _ L6.out
            have l2 : w6.cell? ⟨L, 2, none⟩ = some (.int .i64 l.g) := cell_of_row _ _ 2 _ _ _ L6.out
            have fz : ∀ o, w6.frozen? ⟨L, o, none⟩ = false := fun o => frozen_of_row _ _ o _ _ L6.out
            clear hmd hm5 hg5 hst hm6 hg6 hg
            go_region
            all_goals
              go_wp2_with fail
              go_roundw
              case rel => exact ⟨j + 1, v', es', x, by omega, by go_num, Q.out.2.2.2.2.2, S6.out.box (by omega) hLm Q.out.2.2.1 (by omega), box_set L6.out x, Q.out.2.2.1, fun _ => Q.out.2.2.2.2.1⟩
              case measure => simp [intOf]; omega
        · obtain rfl : j = k := by omega
          have hnil : es = [] := List.length_eq_zero_iff.1 (by rw [HES.out]; omega)
          subst hnil
          go_wp2_with fail
          refine (take_none S.out.hp).mono ?_
          rintro e w2 ⟨rfl, hg⟩
          have B2 := Lib.hid (S.out.none (grown_none2 hg (World.grownBy_alloc w2 (.cells #[.int .i64 0, .int .u64 0, .int .i64 0] 24) Option.none))).below
          clear hg
          go_wp2_with fail
          go_ret
          exact ⟨rfl, B2.out⟩

set_option maxRecDepth 100000 in
set_option maxHeartbeats 1000000 in
theorem sorts_long (a : Option Addr) (len cap : Nat) (w : World) (hl : 80 < len) (hm : len ≤ maxLen) :
    Calls Try.prog 4 #[.slice a len cap] w fun e w' => e = .returned (.bool true) ∧ Below w.heap.size w w' := by
  unfold maxLen at hm
  go_enter Try.func4, Try.ntmps4
  go_wp2_with fail
  refine (lives_is w).mono ?_
  rintro e w0 ⟨rfl, hb⟩
  have HB := Lib.hid hb
  clear hb
  go_wp2_with fail
  refine (lives_is w0).mono ?_
  rintro e w1 ⟨rfl, hb⟩
  have HB1 := Lib.hid hb
  clear hb
  go_wp2_with fail
  go_ret
  exact ⟨rfl, HB.out.trans (HB1.out.mono HB.out.size)⟩

theorem sorts_any (a : Option Addr) (len cap : Nat) (w : World) (ha : Args.IsFlat [.i64, .u64, .i64] w a len) :
    Calls Try.prog 4 #[.slice a len cap] w fun e w' => e = .returned (.bool true) ∧ Below w.heap.size w w' := by
  obtain ⟨hm, hnil, f, hf⟩ := ha
  by_cases hl : 80 < len
  · exact sorts_long a len cap w hl hm
  · refine sorts_short a len cap (fun i => ⟨(f i).getD 0 0, (f i).getD 1 0, (f i).getD 2 0⟩) w (by omega) hnil (fun b hb i hi => ?_)
    obtain ⟨x, y, z, e, _⟩ := Args.fits3 (hf i hi).1
    have h := (hf i hi).2 b hb
    rw [e] at h
    have h0 := (h 0 (.int .i64 x) rfl).1
    have h1 := (h 1 (.int .u64 y) rfl).1
    have h2 := (h 2 (.int .i64 z) rfl).1
    simp only [e, List.getD_cons_zero, List.getD_cons_succ]
    exact ⟨h0, h1, h2⟩
end Go.Proofs.Ytlnbjnkmhabdaaa.Hp
