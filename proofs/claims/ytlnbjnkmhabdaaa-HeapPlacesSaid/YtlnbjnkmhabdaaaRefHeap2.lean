/-
  hostlerref09.Remove; hostlerlaw09.same.
-/
import Derived.Test.YtlnbjnkmhabdaaaRefHeap
import Derived.Deep.QuietTactic
import Derived.BigQuiet
namespace Go.Proofs.Ytlnbjnkmhabdaaa.Hp
open Go.RowKit Go.Shelf
set_option linter.unusedVariables false
set_option linter.unusedSimpArgs false

set_option maxRecDepth 100000 in
set_option maxHeartbeats 2000000 in
theorem rrem_is {w : World} {v : Value} {es : List Ent} {lo : Nat} (hv : RSees w lo v es) (hbig : es.length ≤ 1000) (g : Int) :
    Calls Try.prog 16 #[v, .int .i64 g] w fun x w' => ∃ v' n, x = .returned (.tuple #[v', .int .i64 n]) ∧ n = (es.length : Int) - (keepG g es).length ∧ OwnsR w' w.heap.size v' (keepG g es) ∧ Below w.heap.size w w' := by
  have HV := Lib.hid hv
  obtain ⟨a, cap, rfl, hle, hmx, _, _⟩ := hv
  have hcap : (es.length : Int) ≤ (cap : Int) := by omega
  go_enter Try.func16, Try.ntmps16
  go_wp2_with fail
  go_loopw [6, 7, 12] (fun ov nv i wr => ∃ (k m : Nat), k ≤ es.length ∧ i = .int .i64 k ∧ nv = .int .i64 m ∧ m + (keepG g (es.take k)).length = k ∧ OwnsR wr w.heap.size ov (keepG g (es.take k)) ∧ Below w.heap.size w wr) (fun _ _ i _ => es.length - (intOf i).toNat)
  case atStart => exact ⟨0, 0, Nat.zero_le _, rfl, rfl, by simp [keepG], World.ownsRow_nil _ _ _ _, Below.refl _ _⟩
  case round =>
    obtain ⟨k, m, hk, rfl, rfl, hm, ho, hb⟩ := hrel
    obtain ⟨oa, oc, rfl, _⟩ := OwnsR.sees ho (Nat.le_refl _)
    have hbs := hb.size
    have H := Lib.hid (And.intro ho hb)
    have HM := Lib.hid hm
    have hmk : m ≤ k := by omega
    have hkl : (keepG g (es.take k)).length ≤ k := by omega
    clear ho hb hm
    by_cases hlt : k < es.length
    · obtain ⟨x, hx⟩ : ∃ x, es[k]? = some x := ⟨_, List.getElem?_eq_getElem hlt⟩
      obtain ⟨c, rfl, c0, c1, c2⟩ : ∃ c, a = some c ∧ wr.cell? (c.add (k * 3)) = some (.int .i64 x.w) ∧ wr.cell? ⟨(c.add (k * 3)).block, (c.add (k * 3)).off + 1, none⟩ = some (.int .u64 x.o) ∧ wr.cell? ⟨(c.add (k * 3)).block, (c.add (k * 3)).off + 2, none⟩ = some (.int .i64 x.g) := by
        obtain ⟨_, _, e1, _, _, _, h⟩ := HV.out.below H.out.2
        obtain ⟨rfl, _, _⟩ := Value.slice.inj e1
        exact h k x hx
      have hal : Below wr.heap.size wr (wr.alloc (.cells #[.int .i64 x.w, .int .u64 x.o, .int .i64 x.g] TE)) := (Below.refl _ _).alloc (Nat.le_refl _) _
      have H1 := Lib.hid (And.intro (World.ownsRow.alloc H.out.1 (.cells #[.int .i64 x.w, .int .u64 x.o, .int .i64 x.g] TE)) (H.out.2.trans (hal.mono H.out.2.size)))
      by_cases hg : x.g = g
      · have b1 : (x.g == g) = true := by simpa using hg
        have HK := Lib.hid (keepG_no hx hg)
        clear hx hal hg
        go_wp2_with fail
        go_roundw
        case rel => exact ⟨k + 1, m + 1, by omega, by go_num, by go_num, by rw [HK.out]; have := HM.out; omega, by rw [HK.out]; exact H1.out.1, H1.out.2⟩
        case measure => simp [intOf]; omega
      · have b1 : (x.g == g) = false := by simpa using hg
        have HK := Lib.hid (keepG_yes hx hg)
        obtain ⟨K, hK⟩ : ∃ K, keepG g (es.take k) = K := ⟨_, rfl⟩
        rw [hK] at H H1 HM HK hkl ⊢
        clear hx hal hg hK
        go_wp2_with (refine wpList_append_ent rfl _ _ rfl (wr.alloc (.cells #[.int .i64 x.w, .int .u64 x.o, .int .i64 x.g] TE)) w.heap.size (.slice oa K.length oc) K x (wr.heap.size + 1) (by simp) rfl H1.out.1 rfl ?ql ?qb ?_)
        case ql => omega
        case qb => simp; omega
        intro v' w3 ho3 hg3
        have H3 := Lib.hid (And.intro ho3 (below_ownR' H1.out.2 H1.out.1 hg3 ⟨by simp; omega, Nat.le_refl _⟩))
        clear ho3 hg3
        go_wp2_with fail
        go_roundw
        case rel => exact ⟨k + 1, m, by omega, by go_num, rfl, by rw [HK.out, List.length_append]; have := HM.out; simp; omega, by rw [HK.out]; exact H3.out.1, H3.out.2⟩
        case measure => simp [intOf]; omega
    · obtain rfl : k = es.length := by omega
      have htk : es.take es.length = es := List.take_length
      rw [htk] at HM H
      go_wp2_with fail
      go_ret2
      exact ⟨_, _, rfl, by have := HM.out; omega, by have := H.out.1; rw [htk]; exact this, H.out.2⟩

set_option maxRecDepth 100000 in
set_option maxHeartbeats 2000000 in
theorem same_e {w : World} {v u : Value} {es : List Ent} {lo : Nat} (hv : ESees w v es) (hu : RSees w lo u es) (hbig : es.length ≤ 1000) :
    Calls Try.prog 20 #[v, u] w fun x w' => x = .returned (.bool true) ∧ ∃ n, w' = w.drewN n := by
  obtain ⟨a, c, rfl, hc1, _, h1⟩ := hv
  obtain ⟨b, d, rfl, hd1, _, _, h2⟩ := hu
  have H1 := Lib.hid h1
  have H2 := Lib.hid h2
  clear h1 h2
  go_enter Try.func20, Try.ntmps20
  go_wp2_with fail
  go_loopw [13] (fun q wr => ∃ j : Nat, j ≤ es.length ∧ q = .int .i64 j ∧ ∃ n, wr = w.drewN n) (fun q _ => es.length - (intOf q).toNat)
  case atStart => exact ⟨0, Nat.zero_le _, rfl, 0, rfl⟩
  case round =>
    obtain ⟨j, hj, rfl, n, rfl⟩ := hrel
    by_cases hjl : j < es.length
    · obtain ⟨x, hx⟩ : ∃ x, es[j]? = some x := ⟨_, List.getElem?_eq_getElem hjl⟩
      obtain ⟨g1, rfl, p0, p1, p2⟩ := H1.out j x hx
      obtain ⟨c2, rfl, q0, q1, q2⟩ := H2.out j x hx
      have hneq : ∀ W, (binOp .neq 28 (.agg #[.int .i64 x.w, .int .u64 x.o, .int .i64 x.g]) (.agg #[.int .i64 x.w, .int .u64 x.o, .int .i64 x.g])).run Try.prog W = .ok (.bool false) W := fun W => by go_simp
      have hji : (j : Int) < (es.length : Int) := by omega
      have hj0 : (0 : Int) ≤ (j : Int) := by omega
      clear hx
      go_wp2_with fail
      go_quiet (fail)
      go_wp2_with fail
      go_roundw
      case rel => exact ⟨j + 1, by omega, by go_num, n + nq, by simp [World.drewN, Nat.add_assoc]⟩
      case measure => simp [intOf]; omega
    · obtain rfl : j = es.length := by omega
      go_wp2_with fail
      go_ret
      exact ⟨rfl, n, rfl⟩
end Go.Proofs.Ytlnbjnkmhabdaaa.Hp
