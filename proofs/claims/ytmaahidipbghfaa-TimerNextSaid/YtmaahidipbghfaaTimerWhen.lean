/-
  The law TimerWhen.
-/
import Derived.Test.YtmaahidipbghfaaTimerOnce
import Derived.Deep.QuietTactic
import Derived.BigQuiet
import Derived.Deep.DeepCutAuto
namespace Go.Proofs.Ytmaahidipbghfaa.Tm
open Go.RowKit
open Go.Proofs.Ytmaahidipbghfaa.Hp
open Go.Proofs.Ytmaahidipbghfaa.MapI
open Go.Proofs.Ytmaahidipbghfaa.Ones
set_option linter.unusedVariables false

def Ms (z : Nat → Int) (k : Nat) : List Ent := (List.range k).map fun i : Nat => ⟨z i, i, i⟩
def Gs (k : Nat) : List Int := (List.range k).map fun i : Nat => (i : Int)
theorem Ms_succ (z : Nat → Int) (k : Nat) : Ms z (k + 1) = Ms z k ++ [⟨z k, k, k⟩] := by simp [Ms, List.range_succ]
theorem Gs_succ (k : Nat) : Gs (k + 1) = Gs k ++ [(k : Int)] := by simp [Gs, List.range_succ]
theorem Gs_not (k : Nat) : (k : Int) ∉ Gs k := by
  intro h; obtain ⟨i, hi, e⟩ := List.mem_map.1 h
  have := List.mem_range.1 hi
  omega
def dueN (M : List Ent) (now : Int) : Nat := M.countP fun x => decide (x.w ≤ now)

/-- The state of the second loop. -/
structure W2 (z : Nat → Int) (now : Int) (len D : Nat) (w wr : World) (base tb m : Nat) (M : List Ent) (G T : List Int) (l : Ent) (j : Nat) : Prop where
  t : Tms wr base tb 4 M len G (fun k => k = m ∨ k = m + 1)
  map : IsMap wr m (ones T)
  var : wr.heap[m + 1]? = some (.cells l.cells 30 (0, 0))
  below : Below w.heap.size w wr
  size : base ≤ wr.heap.size
  tlen : T.length = j
  nodup : (T ++ M.map (·.g)).Nodup
  sub : ∀ x ∈ M, ∃ i, i < len ∧ x = ⟨z i, (i : Nat), (i : Nat)⟩
  cnt : dueN M now = D - j
  mlen : M.length = len - j
  last : 0 < j → (∀ x ∈ M, le l x) ∧ ∃ i, i < len ∧ l = ⟨z i, (i : Nat), (i : Nat)⟩

theorem w2_min {M : List Ent} {now : Int} {c : Nat} (hc : dueN M now = c) (h : 0 < c) : ∃ x, IsMin M (some x) ∧ x.w ≤ now := by
  obtain ⟨m, hm⟩ := min_ex M
  obtain ⟨y, hy, hy5⟩ := List.countP_pos_iff.1 (show 0 < M.countP (fun x => decide (x.w ≤ now)) by unfold dueN at hc; omega)
  cases m with
  | none => have : M = [] := hm; subst this; simp at hy
  | some x =>
    refine ⟨x, hm, ?_⟩
    have h1 := hm.2 y hy
    rw [le_iff] at h1
    simp at hy5
    omega
theorem w2_no {M : List Ent} {now : Int} {m : Option Ent} (hc : dueN M now = 0) (hm : IsMin M m) : dueB m now = false := by
  cases m with
  | none => rfl
  | some x =>
    have := List.countP_eq_zero.1 hc x hm.1
    simp at this
    simp [dueB]; omega
theorem due_erase {M : List Ent} {x : Ent} {now : Int} (h : x ∈ M) (h5 : x.w ≤ now) : dueN (M.erase x) now + 1 = dueN M now := by
  unfold dueN
  have := (List.perm_cons_erase h).countP_eq (fun x => decide (x.w ≤ now))
  rw [this, List.countP_cons_of_pos (by simpa using h5)]

set_option maxRecDepth 100000 in
set_option maxHeartbeats 12000000 in
theorem when_short (a : Option Addr) (len cap : Nat) (z : Nat → Int) (now : Int) (w : World) (hl : len ≤ 60) (hnil : a = none → len = 0) (hc : ∀ b, a = some b → ∀ i, i < len → w.cell? (b.add i) = some (.int .i64 (z i))) :
    Calls Try.prog 3 #[.slice a len cap, .int .i64 now] w fun e w' => e = .returned (.bool true) ∧ Below w.heap.size w w' := by
  have hmm := @run_makeMap Try.prog
  have hlt : ¬ (60 < len) := by omega
  have HC := Lib.hid hc
  have HN := Lib.hid hnil
  clear hc hnil
  go_enter Try.func3, Try.ntmps3
  go_wp2_with fail
  refine (lives_is w).mono ?_
  rintro e w0 ⟨rfl, hb⟩
  have HB := Lib.hid hb
  clear hb
  go_wp2_with fail
  refine (tms_new w0 4 4 rfl).mono ?_
  rintro e w1 ⟨tb, rfl, T, hg⟩
  have O : Hid (Tms w1 w0.heap.size tb 4 (Ms z 0) 0 (Gs 0) (fun _ => False) ∧ Below w.heap.size w w1 ∧ w0.heap.size ≤ w1.heap.size) := Lib.hid ⟨T, below_more HB.out hg HB.out.size, hg.size⟩
  have hbase : w.heap.size ≤ w0.heap.size := HB.out.size
  clear T hg
  go_wp2_with fail
  generalize w0.heap.size = base at *
  go_loopw [6, 27] (fun p q wr => ∃ (k : Nat), k ≤ len ∧ q = .int .i64 k ∧ p = .int .i64 (dueN (Ms z k) now) ∧ Tms wr base tb 4 (Ms z k) k (Gs k) (fun _ => False) ∧ Below w.heap.size w wr ∧ base ≤ wr.heap.size) (fun _ q _ => len - (intOf q).toNat)
  case atStart => exact ⟨0, Nat.zero_le _, rfl, rfl, O.out.1, O.out.2.1, O.out.2.2⟩
  case round =>
    clear O
    obtain ⟨k, hk, rfl, rfl, hT, hB, hS⟩ := hrel
    have T := Lib.hid hT
    have B := Lib.hid hB
    have hdk : dueN (Ms z k) now ≤ k := by
      have := List.countP_le_length (p := fun x : Ent => decide (x.w ≤ now)) (l := Ms z k)
      unfold dueN; simpa [Ms] using this
    have hsucc : dueN (Ms z (k + 1)) now = dueN (Ms z k) now + if z k ≤ now then 1 else 0 := by
      unfold dueN; rw [Ms_succ, List.countP_append]
      by_cases h : z k ≤ now <;> simp [h]
    have HSU := Lib.hid hsucc
    clear hT hB hsucc
    by_cases hlen : k < len
    · obtain ⟨c, rfl⟩ : ∃ c, a = some c := by
        cases a with
        | none => exact absurd (HN.out rfl) (by omega)
        | some c => exact ⟨c, rfl⟩
      have hcx : wr.cell? (c.add k) = some (.int .i64 (z k)) := cell_later B.out (HC.out c rfl k hlen)
      obtain ⟨d, hd⟩ : ∃ d, dueN (Ms z k) now = d := ⟨_, rfl⟩
      rw [hd] at HSU hdk ⊢
      clear hd
      have hp0 : 0 ≤ (k : Int) % 4 := by omega
      have hp1 : (k : Int) % 4 < 4 := by omega
      go_wp2_with fail
      refine (tms_add_ok T.out hS _ _ _ hp0 (by omega) (by omega) (by omega) (Gs_not k) (by omega)).mono ?_
      rintro e w2 ⟨rfl, T2, hk2⟩
      rw [← Ms_succ, ← Gs_succ] at T2
      have U := Lib.hid T2
      have B2 := Lib.hid (hk2.grown hbase B.out)
      have hS2 : base ≤ w2.heap.size := Nat.le_trans hS hk2.below.size
      clear T2 hk2 hcx
      by_cases hdue : z k ≤ now
      · rw [if_pos hdue] at HSU
        go_wp2_with fail
        go_roundw
        case rel => exact ⟨k + 1, by omega, by go_num, by rw [HSU.out]; go_num, U.out, B2.out, hS2⟩
        case measure => simp [intOf]; omega
      · rw [if_neg hdue] at HSU
        go_wp2_with fail
        go_roundw
        case rel => exact ⟨k + 1, by omega, by go_num, by rw [HSU.out]; rfl, U.out, B2.out, hS2⟩
        case measure => simp [intOf]; omega
    · obtain rfl : k = len := by omega
      obtain ⟨D, hD⟩ : ∃ D, dueN (Ms z k) now = D := ⟨_, rfl⟩
      have hP : W2 z now k D w ((wr.alloc (.map #[] 0)).alloc (.cells (Ent.mk 0 0 0).cells 30)) base tb wr.heap.size (Ms z k) (Gs k) [] ⟨0, 0, 0⟩ 0 := by
        refine ⟨T.out.foreign (grown_none2 (World.grownBy_alloc _ _ _) (World.grownBy_alloc _ _ _)) (fun q hq => .inr (by simp; omega)), (IsMap.made wr).heap ((heap_alloc2_old _ _ _).trans (heap_alloc_new _ _).symm), heap_alloc2_new _ _ _, (B.out.alloc B.out.size _).alloc (by have := B.out.size; simp; omega) _, by simp; omega, rfl, ?_, ?_, by rw [hD]; rfl, by simp [Ms], fun h => absurd h (by omega)⟩
        · simp only [List.nil_append]
          exact (T.out.keys.nodup_iff).2 T.out.nodup
        · intro x hx
          obtain ⟨i, hi, rfl⟩ := List.mem_map.1 hx
          exact ⟨i, List.mem_range.1 hi, rfl⟩
      have P := Lib.hid hP
      rw [hD] at hdk ⊢
      clear hP hD T B HSU
      obtain ⟨m, hm⟩ : ∃ m, m = wr.heap.size := ⟨_, rfl⟩
      have hbm : base ≤ m := by omega
      go_wp2_with fail
      rw [← hm] at P ⊢
      have P' : Hid (W2 z now k D w ((wr.alloc (.map #[] 0)).alloc (.cells #[.int .i64 0, .int .u64 0, .int .i64 0] 30)) base tb m (Ms z k) (Gs k) [] ⟨0, 0, 0⟩ 0) := P
      clear P hm
      generalize ((wr.alloc (.map #[] 0)).alloc (.cells #[.int .i64 0, .int .u64 0, .int .i64 0] 30)) = W at *
      clear hlen hk
      go_loopw [48] (fun q wr => ∃ (j : Nat) (M : List Ent) (G T : List Int) (l : Ent), j ≤ D ∧ q = .int .i64 j ∧ W2 z now k D w wr base tb m M G T l j) (fun q _ => D - (intOf q).toNat)
      case atStart => exact ⟨0, Ms z k, Gs k, [], ⟨0, 0, 0⟩, Nat.zero_le _, rfl, P'.out⟩
      case round =>
        clear P'
        obtain ⟨j, M, G, T, l, hj, rfl, hP⟩ := hrel
        have P := Lib.hid hP
        clear hP
        by_cases hjD : j < D
        · obtain ⟨x, hmin, hxn⟩ := w2_min P.out.cnt (by omega)
          obtain ⟨i, hi, hxe⟩ := P.out.sub x hmin.1
          subst hxe
          have HM := Lib.hid hmin
          have hzn : z i ≤ now := hxn
          clear hmin hxn
          obtain ⟨c, rfl⟩ : ∃ c, a = some c := by
            cases a with
            | none => exact absurd (HN.out rfl) (by omega)
            | some c => exact ⟨c, rfl⟩
          go_wp2_with fail
          refine (tms_take_yes P.out.t P.out.size HM.out now hzn).mono ?_
          rintro e w2 ⟨rfl, T2, hk2⟩
          have hS2 : base ≤ w2.heap.size := Nat.le_trans P.out.size hk2.below.size
          have hB2 : Below w.heap.size w w2 := hk2.grown hbase P.out.below
          have hm2 : IsMap w2 m (ones T) := P.out.map.heap (hk2.far m (.inl rfl))
          have hv2 := (hk2.far (m + 1) (.inr rfl)).trans P.out.var
          have hmlt : m + 1 < w2.heap.size := (Array.getElem?_eq_some_iff.1 hv2).1
          have R := Lib.hid (And.intro (T2.grown (World.grownBy_alloc w2 (.cells #[.int .i64 (z i), .int .u64 (i : Nat), .int .i64 (i : Nat)] 30) none)) (And.intro (hm2.grown (World.grownBy_alloc w2 (.cells #[.int .i64 (z i), .int .u64 (i : Nat), .int .i64 (i : Nat)] 30) none) (by simp)) (And.intro (hB2.alloc hB2.size (.cells #[.int .i64 (z i), .int .u64 (i : Nat), .int .i64 (i : Nat)] 30)) (And.intro ((heap_alloc_old w2 (.cells #[.int .i64 (z i), .int .u64 (i : Nat), .int .i64 (i : Nat)] 30) hmlt).trans hv2) (heap_alloc_new w2 (.cells #[.int .i64 (z i), .int .u64 (i : Nat), .int .i64 (i : Nat)] 30))))))
          have hS3 : base ≤ (w2.alloc (.cells #[.int .i64 (z i), .int .u64 (i : Nat), .int .i64 (i : Nat)] 30)).heap.size := by simp; omega
          clear T2 hk2 hB2 hm2 hv2
          go_wp2_with fail
          generalize (w2.alloc (.cells #[.int .i64 (z i), .int .u64 (i : Nat), .int .i64 (i : Nat)] 30)) = W3 at *
          have y0 : W3.cell? ⟨w2.heap.size, 0, none⟩ = some (.int .i64 (z i)) := cell_of_row _ _ 0 _ _ _ R.out.2.2.2.2
          have y1 : W3.cell? ⟨w2.heap.size, 1, none⟩ = some (.int .u64 (i : Nat)) := cell_of_row _ _ 1 _ _ _ R.out.2.2.2.2
          have y2 : W3.cell? ⟨w2.heap.size, 2, none⟩ = some (.int .i64 (i : Nat)) := cell_of_row _ _ 2 _ _ _ R.out.2.2.2.2
          have l0 : W3.cell? ⟨m + 1, 0, none⟩ = some (.int .i64 l.w) := cell_of_row _ _ 0 _ _ _ R.out.2.2.2.1
          have l2 : W3.cell? ⟨m + 1, 2, none⟩ = some (.int .i64 l.g) := cell_of_row _ _ 2 _ _ _ R.out.2.2.2.1
          have hcx : W3.cell? (c.add i) = some (.int .i64 (z i)) := cell_later R.out.2.2.1 (HC.out c rfl i hi)
          have hd1 : decide (now < z i) = false := by simp; omega
          have hd3 : decide (k ≤ i) = false := by simp; omega
          have hd3' : decide ((k : Int) ≤ (i : Int)) = false := by simp; omega
          have hkk : k ≤ 60 := hl
          have hnot : (i : Int) ∉ T := by
            intro h
            have h2 := (List.nodup_append.1 P.out.nodup).2.2 _ h (i : Int) (List.mem_map.2 ⟨_, HM.out.1, rfl⟩)
            exact h2 rfl
          have HNT := Lib.hid hnot
          clear hnot
          have hcase : (0 < j ∧ ∃ i' : Nat, l = ⟨z i', i', i'⟩ ∧ z i' < z i) ∨ (0 < j ∧ ∃ i' : Nat, l = ⟨z i', i', i'⟩ ∧ z i' = z i ∧ i' ≤ i) ∨ ¬ 0 < j := by
            by_cases hj0 : 0 < j
            · obtain ⟨h1, i', _, h2⟩ := P.out.last hj0
              have := h1 _ HM.out.1
              rw [h2, le_iff] at this
              simp only at this
              rcases this with h3 | ⟨h3, h4⟩
              · exact .inl ⟨hj0, i', h2, h3⟩
              · exact .inr (.inl ⟨hj0, i', h2, h3, by omega⟩)
            · exact .inr (.inr hj0)
          have HCASE := Lib.hid hcase
          clear hcase
          go_cut [111] from 57 to 111 (fun s wx => s = .bool false ∧ ∃ nq, wx = W3.drewN nq)
          case first =>
            rcases HCASE.out with ⟨hj0, i', hle, hlt1⟩ | ⟨hj0, i', hle, heq, hii⟩ | hj0
            · have hlw : l.w = z i' := by rw [hle]
              have hd5 : decide ((0 : Int) < (j : Int)) = true := by simpa using hj0
              have hd6 : decide (z i < l.w) = false := by rw [hlw]; simp; omega
              have hd7 : (z i == l.w) = false := by rw [hlw, beq_eq_false_iff_ne]; omega
              clear hlw hle hlt1
              go_quiet (fail)
              go_wp2_with fail
              go_meet
              exact ⟨rfl, nq, rfl⟩
            · have hlw : l.w = z i' := by rw [hle]
              have hlg : l.g = (i' : Int) := by rw [hle]
              have hd5 : decide ((0 : Int) < (j : Int)) = true := by simpa using hj0
              have hd6 : decide (z i < l.w) = false := by rw [hlw]; simp; omega
              have hd7 : (z i == l.w) = true := by rw [hlw, beq_iff_eq]; omega
              have hd8 : decide ((i : Int) < l.g) = false := by rw [hlg]; simp; omega
              clear hlw hlg hle heq hii
              go_quiet (fail)
              go_wp2_with fail
              go_meet
              exact ⟨rfl, nq, rfl⟩
            · have hjf : (0 < j) = False := eq_false hj0
              have hdi : decide ((i : Int) < 0) = false := decide_eq_false (by omega)
              have hd5 : decide ((0 : Int) < (j : Int)) = false := by simp; omega
              have hd5' : decide (0 < j) = false := by simp; omega
              go_quiet (fail)
              go_wp2_with fail
              go_meet
              exact ⟨rfl, nq, rfl⟩
          case rest =>
            obtain ⟨rfl, nq, rfl⟩ := hcut
            have hdn : W3.grownBy (W3.drewN nq) none := ⟨rfl, rfl, rfl, Nat.le_refl _, fun _ _ _ => rfl⟩
            have R2 := Lib.hid (And.intro (R.out.1.grown hdn) (And.intro (R.out.2.1.grown hdn (by simp)) (And.intro (below_more R.out.2.2.1 hdn R.out.2.2.1.size) (And.intro ((hdn.block (m + 1) (Array.getElem?_eq_some_iff.1 R.out.2.2.2.1).1 (by simp)).trans R.out.2.2.2.1) ((hdn.block w2.heap.size (Array.getElem?_eq_some_iff.1 R.out.2.2.2.2).1 (by simp)).trans R.out.2.2.2.2)))))
            have hS4 : base ≤ (W3.drewN nq).heap.size := Nat.le_trans hS3 hdn.size
            clear hdn R y0 y1 y2 l0 l2 hcx hS3
            generalize W3.drewN nq = W4 at *
            have y2 : W4.cell? ⟨w2.heap.size, 2, none⟩ = some (.int .i64 (i : Nat)) := cell_of_row _ _ 2 _ _ _ R2.out.2.2.2.2
            go_wp2_with (first
              | (at_lookup; refine wpList_look rfl _ _ 31 3 3 rfl Try.underlying31 Try.underlying3 R2.out.2.1 rfl (i : Int) rfl (zeroI _) (.int .i64 0) (by rw [look_ones_not HNT.out]; rfl) ?_)
              | (at_mapUpdate; refine wpList_put rfl _ _ _ 31 3 3 rfl Try.underlying31 Try.underlying3 R2.out.2.1 rfl (i : Int) rfl (.int .i64 1) rfl ?_; intro w5 hm5 hg5; rw [put_ones HNT.out] at hm5; have V5 := Lib.hid ((hg5.block (m + 1) (Array.getElem?_eq_some_iff.1 R2.out.2.2.2.1).1 (fun e => by have := Option.some.inj e; omega)).trans R2.out.2.2.2.1); have X5 := Lib.hid ((hg5.block w2.heap.size (Array.getElem?_eq_some_iff.1 R2.out.2.2.2.2).1 (fun e => by have := Option.some.inj e; omega)).trans R2.out.2.2.2.2); have M5 := Lib.hid hm5; have G5 := Lib.hid hg5; clear hm5 hg5; have y0 : w5.cell? ⟨w2.heap.size, 0, none⟩ = some (.int .i64 (z i)) := cell_of_row _ _ 0 _ _ _ X5.out; have y1 : w5.cell? ⟨w2.heap.size, 1, none⟩ = some (.int .u64 (i : Nat)) := cell_of_row _ _ 1 _ _ _ X5.out; have y2' : w5.cell? ⟨w2.heap.size, 2, none⟩ = some (.int .i64 (i : Nat)) := cell_of_row _ _ 2 _ _ _ X5.out; have l0 : w5.cell? ⟨m + 1, 0, none⟩ = some (.int .i64 l.w) := cell_of_row _ _ 0 _ _ _ V5.out; have l1 : w5.cell? ⟨m + 1, 1, none⟩ = some (.int .u64 l.o) := cell_of_row _ _ 1 _ _ _ V5.out; have l2 : w5.cell? ⟨m + 1, 2, none⟩ = some (.int .i64 l.g) := cell_of_row _ _ 2 _ _ _ V5.out; have fz : ∀ o, w5.frozen? ⟨m + 1, o, none⟩ = false := fun o => frozen_of_row _ _ o _ _ V5.out))
            go_roundw
            case rel =>
              have hmem := HM.out.1
              have hpe := List.perm_cons_erase hmem
              have hother : ∀ q, q < W4.heap.size → q ≠ m → w5.heap[q]? = W4.heap[q]? := fun q hq hne => G5.out.block q hq (fun e => hne (Option.some.inj e))
              have hT5 := R2.out.1.other (B := m) (.inl rfl) hother G5.out.size
              refine ⟨j + 1, _, _, T ++ [(i : Int)], ⟨z i, i, i⟩, by omega, by go_num, ⟨hT5.other (B := m + 1) (.inr rfl) (fun q hq hne => box_other hne) (by rw [box_size]; exact Nat.le_refl _), M5.out.heap (box_other (by omega)), box_set V5.out ⟨z i, i, i⟩, ?_, ?_, ?_, ?_, ?_, ?_, ?_, ?_⟩⟩
              · refine ⟨G5.out.os.trans R2.out.2.2.1.os, G5.out.tape.trans R2.out.2.2.1.tape, G5.out.output.trans R2.out.2.2.1.output, by rw [box_size]; exact Nat.le_trans R2.out.2.2.1.size G5.out.size, fun q hq => ?_⟩
                exact (box_other (by omega)).trans ((hother q (Nat.lt_of_lt_of_le hq R2.out.2.2.1.size) (by omega)).trans (R2.out.2.2.1.block q hq))
              · rw [box_size]; exact Nat.le_trans hS4 G5.out.size
              · simp [P.out.tlen]
              · have h1 := P.out.nodup
                have h2 : (T ++ M.map (·.g)).Perm (T ++ [(i : Int)] ++ (M.erase ⟨z i, i, i⟩).map (·.g)) := by
                  rw [List.append_assoc]
                  exact (hpe.map (·.g)).append_left T
                exact h2.nodup_iff.1 h1
              · intro y hy
                exact P.out.sub y (List.mem_of_mem_erase hy)
              · have h1 := due_erase hmem hzn
                have h2 := P.out.cnt
                omega
              · have h1 := hpe.length_eq
                have h2 := P.out.mlen
                simp only [List.length_cons] at h1
                omega
              · intro _
                exact ⟨fun y hy => HM.out.2 y (List.mem_of_mem_erase hy), i, hi, rfl⟩
            case measure => simp [intOf]; omega
        · obtain rfl : j = D := by omega
          obtain ⟨mm, hm⟩ := min_ex M
          have hno : dueB mm now = false := w2_no (by rw [P.out.cnt]; omega) hm
          have hGl : ((G.length : Nat) : Int) = (k : Int) - (j : Int) := by
            have h1 := P.out.t.keys.length_eq
            have h2 := P.out.mlen
            rw [List.length_map] at h1
            omega
          have HM := Lib.hid hm
          have HNO := Lib.hid hno
          have HGL := Lib.hid hGl
          have hkk : k ≤ 60 := hl
          have hln : ∀ (W : World) (h : IsMap W m (ones T)) (ty : TypeId), (Builtin.len_ #[31] ty #[.map (some m)]).run Try.prog W = .ok (.int .i64 j) W := fun W h ty => by
            have := run_len h Try.underlying31 #[31] ty rfl
            rwa [ones_len, P.out.tlen] at this
          have HLN := Lib.hid hln
          clear hm hno hGl hln
          go_wp2_with fail
          refine (tms_take_no P.out.t HM.out now HNO.out).mono ?_
          rintro e w2 ⟨rfl, hg⟩
          have hg3 := grown_none2 hg (World.grownBy_alloc w2 (.cells #[.int .i64 0, .int .u64 0, .int .i64 0] 30) none)
          have T3 := Lib.hid (P.out.t.grown hg3)
          have B3 := Lib.hid (below_more P.out.below hg3 P.out.below.size)
          have hl3 := HLN.out _ (P.out.map.grown hg3 (by simp))
          clear hg hg3
          go_wp2_with fail
          refine (tms_len T3.out).mono ?_
          rintro e w4 ⟨rfl, rfl⟩
          rw [HGL.out]
          clear hl3
          go_wp2_with fail
          refine (tms_due T3.out HM.out now).mono ?_
          rintro e w4 ⟨rfl, hg⟩
          rw [HNO.out]
          have B4 := Lib.hid (below_more B3.out hg B3.out.size)
          clear hg
          go_wp2_with fail
          go_ret
          exact ⟨rfl, B4.out⟩

set_option maxRecDepth 100000 in
set_option maxHeartbeats 1000000 in
theorem when_long (a : Option Addr) (len cap : Nat) (now : Int) (w : World) (hl : 60 < len) (hm : len ≤ maxLen) :
    Calls Try.prog 3 #[.slice a len cap, .int .i64 now] w fun e w' => e = .returned (.bool true) ∧ Below w.heap.size w w' := by
  unfold maxLen at hm
  go_enter Try.func3, Try.ntmps3
  go_wp2_with fail
  refine (lives_is w).mono ?_
  rintro e w0 ⟨rfl, hb⟩
  have HB := Lib.hid hb
  clear hb
  go_wp2_with fail
  refine (lives_is w0).mono ?_
  rintro e w1 ⟨rfl, hb⟩
  have HB1 := Lib.hid hb
  clear hb
  go_wp2_with fail
  go_ret
  exact ⟨rfl, HB.out.trans (HB1.out.mono HB.out.size)⟩

theorem when_any (a : Option Addr) (len cap : Nat) (now : Int) (w : World) (ha : Args.IsFlat [.i64] w a len) :
    Calls Try.prog 3 #[.slice a len cap, .int .i64 now] w fun e w' => e = .returned (.bool true) ∧ Below w.heap.size w w' := by
  obtain ⟨hm, hnil, f, hf⟩ := ha
  by_cases hl : 60 < len
  · exact when_long a len cap now w hl hm
  · have hx : ∀ i, i < len → ∃ x, f i = [x] ∧ (Lit.int .i64 x).wf = true := fun i hi => Args.fits1 (hf i hi).1
    refine when_short a len cap (fun i => (f i).getD 0 0) now w (by omega) hnil (fun b hb i hi => ?_)
    obtain ⟨x, e, _⟩ := hx i hi
    have := ((hf i hi).2 b hb 0 (.int .i64 x) (by simp [e, Args.valsOf])).1
    simpa [List.getD, hi, e] using this
end Go.Proofs.Ytmaahidipbghfaa.Tm
