/-
  hostlerref10: New, Take; hostlerlaw10.same.
-/
import Derived.Test.YtmaahidipbghfaaRefTim
namespace Go.Proofs.Ytmaahidipbghfaa.Hp
open Go.RowKit Go.Shelf
set_option linter.unusedVariables false
set_option linter.unusedSimpArgs false

set_option maxRecDepth 100000 in
set_option maxHeartbeats 2000000 in
theorem same_t {w : World} {v u : Value} {es : List Ent} {lo : Nat} (hv : ESees w v es) (hu : RSees w lo u es) (hbig : es.length ≤ 1000) :
    Calls Try.prog 22 #[v, u] w fun x w' => x = .returned (.bool true) ∧ ∃ n, w' = w.drewN n := by
  obtain ⟨a, c, rfl, hc1, _, h1⟩ := hv
  obtain ⟨b, d, rfl, hd1, _, _, h2⟩ := hu
  have H1 := Lib.hid h1
  have H2 := Lib.hid h2
  clear h1 h2
  go_enter Try.func22, Try.ntmps22
  go_wp2_with fail
  go_loopw [13] (fun q wr => ∃ j : Nat, j ≤ es.length ∧ q = .int .i64 j ∧ ∃ n, wr = w.drewN n) (fun q _ => es.length - (intOf q).toNat)
  case atStart => exact ⟨0, Nat.zero_le _, rfl, 0, rfl⟩
  case round =>
    obtain ⟨j, hj, rfl, n, rfl⟩ := hrel
    by_cases hjl : j < es.length
    · obtain ⟨x, hx⟩ : ∃ x, es[j]? = some x := ⟨_, List.getElem?_eq_getElem hjl⟩
      obtain ⟨g1, rfl, p0, p1, p2⟩ := H1.out j x hx
      obtain ⟨c2, rfl, q0, q1, q2⟩ := H2.out j x hx
      have hneq : ∀ W, (binOp .neq 52 (.agg #[.int .i64 x.w, .int .u64 x.o, .int .i64 x.g]) (.agg #[.int .i64 x.w, .int .u64 x.o, .int .i64 x.g])).run Try.prog W = .ok (.bool false) W := fun W => by go_simp
      have hji : (j : Int) < (es.length : Int) := by omega
      have hj0 : (0 : Int) ≤ (j : Int) := by omega
      clear hx
      go_wp2_with fail
      go_quiet (fail)
      go_wp2_with fail
      go_roundw
      case rel => exact ⟨j + 1, by omega, by go_num, n + nq, by simp [World.drewN, Nat.add_assoc]⟩
      case measure => simp [intOf]; omega
    · obtain rfl : j = es.length := by omega
      go_wp2_with fail
      go_ret
      exact ⟨rfl, n, rfl⟩

/-- A result that lies in a cell: the document's timers. -/
theorem results_td1 {fn : Func} {p : Tmp} (h : fn.results = #[.cell p TD]) (tmps : Array Value) (w : World) (B : Nat) (x y z : Value) (hB : w.heap[B]? = some (.cells #[x, y, z] TD (0, 0)))
    (hp : tmps.getD p undef = .pointer (some ⟨B, 0, none⟩)) : (results fn tmps).run Try.prog w = .ok (.agg #[x, y, z]) w := by
  have c0 : w.cell? ⟨B, 0, none⟩ = some x := cell_of_row _ _ 0 _ _ _ hB
  have c1 : w.cell? ⟨B, 1, none⟩ = some y := cell_of_row _ _ 1 _ _ _ hB
  have c2 : w.cell? ⟨B, 2, none⟩ = some z := cell_of_row _ _ 2 _ _ _ hB
  have hp' : tmps[p]?.getD undef = .pointer (some ⟨B, 0, none⟩) := by simpa using hp
  clear hB hp
  simp [results, h, hp', asAddr, go_sem, c0, c1, c2]
theorem results_td2 {fn : Func} {p q : Tmp} (h : fn.results = #[.cell p TD, .tmp q]) (tmps : Array Value) (w : World) (B : Nat) (x y z u : Value) (hB : w.heap[B]? = some (.cells #[x, y, z] TD (0, 0)))
    (hp : tmps.getD p undef = .pointer (some ⟨B, 0, none⟩)) (hq : tmps.getD q undef = u) : (results fn tmps).run Try.prog w = .ok (.tuple #[.agg #[x, y, z], u]) w := by
  have c0 : w.cell? ⟨B, 0, none⟩ = some x := cell_of_row _ _ 0 _ _ _ hB
  have c1 : w.cell? ⟨B, 1, none⟩ = some y := cell_of_row _ _ 1 _ _ _ hB
  have c2 : w.cell? ⟨B, 2, none⟩ = some z := cell_of_row _ _ 2 _ _ _ hB
  have hp' : tmps[p]?.getD undef = .pointer (some ⟨B, 0, none⟩) := by simpa using hp
  have hq' : tmps[q]?.getD undef = u := by simpa using hq
  clear hB hp hq
  simp [results, h, hp', hq', asAddr, go_sem, c0, c1, c2]
theorem results_td3 {fn : Func} {p q r : Tmp} (h : fn.results = #[.cell p TD, .cell q TE, .tmp r]) (tmps : Array Value) (w : World) (B C : Nat) (x y z u : Value) (e : Ent) (hB : w.heap[B]? = some (.cells #[x, y, z] TD (0, 0)))
    (hC : w.heap[C]? = some (.cells e.cells TE (0, 0)))
    (hp : tmps.getD p undef = .pointer (some ⟨B, 0, none⟩)) (hq : tmps.getD q undef = .pointer (some ⟨C, 0, none⟩)) (hr : tmps.getD r undef = u) : (results fn tmps).run Try.prog w = .ok (.tuple #[.agg #[x, y, z], e.agg, u]) w := by
  have c0 : w.cell? ⟨B, 0, none⟩ = some x := cell_of_row _ _ 0 _ _ _ hB
  have c1 : w.cell? ⟨B, 1, none⟩ = some y := cell_of_row _ _ 1 _ _ _ hB
  have c2 : w.cell? ⟨B, 2, none⟩ = some z := cell_of_row _ _ 2 _ _ _ hB
  have d0 : w.cell? ⟨C, 0, none⟩ = some (.int .i64 e.w) := cell_of_row _ _ 0 _ _ _ hC
  have d1 : w.cell? ⟨C, 1, none⟩ = some (.int .u64 e.o) := cell_of_row _ _ 1 _ _ _ hC
  have d2 : w.cell? ⟨C, 2, none⟩ = some (.int .i64 e.g) := cell_of_row _ _ 2 _ _ _ hC
  have hp' : tmps[p]?.getD undef = .pointer (some ⟨B, 0, none⟩) := by simpa using hp
  have hq' : tmps[q]?.getD undef = .pointer (some ⟨C, 0, none⟩) := by simpa using hq
  have hr' : tmps[r]?.getD undef = u := by simpa using hr
  clear hB hC hp hq hr
  simp [results, h, hp', hq', hr', asAddr, go_sem, c0, c1, c2, d0, d1, d2]
theorem td_set {w : World} {B : Nat} {a b c : Value} (h : w.heap[B]? = some (.cells #[a, b, c] TD (0, 0))) (x y z : Value) :
    (((w.setCell ⟨B, 0, none⟩ x).setCell ⟨B, 1, none⟩ y).setCell ⟨B, 2, none⟩ z).heap[B]? = some (.cells #[x, y, z] TD (0, 0)) :=
  heap_setCell_same _ B 2 _ _ _ (heap_setCell_same _ B 1 _ _ _ (heap_setCell_same _ B 0 _ _ _ h))

set_option maxRecDepth 100000 in
set_option maxHeartbeats 1000000 in
theorem rnew_is (w : World) (p : Int) (n : Nat) (hn : (n : Int) = if p < 1 then 1 else if 64 < p then 64 else p) :
    Calls Try.prog 16 #[.int .i64 p] w fun e w' => e = .returned (.agg #[.int .i64 n, .slice none 0 0, .int .u64 0]) ∧ Below w.heap.size w w' := by
  by_cases h1 : p < 1
  · have e1 : (1 : Int) = n := by rw [hn, if_pos h1]
    have E1 := Lib.hid e1
    clear e1 hn
    go_enter Try.func16, Try.ntmps16
    go_wp2_with fail
    refine bodyPost_ret (results_td1 rfl _ _ w.heap.size (.int .i64 1) (.slice none 0 0) (.int .u64 0) (heap_alloc_new _ _) rfl) rfl ⟨by rw [← E1.out], below_alloc _⟩
  · by_cases h2 : 64 < p
    · have e1 : (64 : Int) = n := by rw [hn, if_neg h1, if_pos h2]
      have E1 := Lib.hid e1
      clear e1 hn
      go_enter Try.func16, Try.ntmps16
      go_wp2_with fail
      refine bodyPost_ret (results_td1 rfl _ _ w.heap.size (.int .i64 64) (.slice none 0 0) (.int .u64 0) (heap_alloc_new _ _) rfl) rfl ⟨by rw [← E1.out], below_alloc _⟩
    · have e1 : p = n := by rw [hn, if_neg h1, if_neg h2]
      have E1 := Lib.hid e1
      clear e1 hn
      go_enter Try.func16, Try.ntmps16
      go_wp2_with fail
      refine bodyPost_ret (results_td1 rfl _ _ w.heap.size (.int .i64 p) (.slice none 0 0) (.int .u64 0) (heap_alloc_new _ _) rfl) rfl ⟨by rw [← E1.out], below_alloc _⟩
end Go.Proofs.Ytmaahidipbghfaa.Hp
