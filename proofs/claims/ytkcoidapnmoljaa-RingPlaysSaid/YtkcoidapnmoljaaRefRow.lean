/-
  hostlerref05: Take and Join, over slices that read as lists.
-/
import Derived.Test.YtkcoidapnmoljaaRingAny
namespace Go.Proofs.Ytkcoidapnmoljaa.Rng
open Go.RowKit
open Go.Proofs.Ytkcoidapnmoljaa.Ints
set_option linter.unusedVariables false

/-- The value is a slice that reads as the list, its capacity holds it, and its block is none below lo. -/
def Ref (w : World) (lo : Nat) (v : Value) (xs : List Int) : Prop :=
  ∃ a cap, v = .slice a xs.length cap ∧ xs.length ≤ cap ∧ Sees w (.slice a xs.length cap) xs ∧ ∀ c, a = some c → lo ≤ c.block ∧ c.block < w.heap.size

theorem ref_nil (w : World) (lo : Nat) : Ref w lo (.slice none 0 0) [] := ⟨none, 0, rfl, by simp, sees_nil w, fun c h => by cases h⟩
theorem Owns.ref {w : World} {base lo : Nat} {v : Value} {xs : List Int} (h : Owns w base v xs) (hb : lo ≤ base) : Ref w lo v xs := by
  obtain ⟨a, cap, rfl, hc, hs, hl⟩ := Owns.parts h
  exact ⟨a, cap, rfl, hc, hs, fun c e => ⟨Nat.le_trans hb (hl c e).1, (hl c e).2⟩⟩
theorem Ref.sees {w : World} {lo : Nat} {v : Value} {xs : List Int} (h : Ref w lo v xs) : Sees w v xs := by
  obtain ⟨a, cap, rfl, _, hs, _⟩ := h; exact hs
theorem Ref.kept {w w' : World} {lo : Nat} {v : Value} {xs : List Int} (h : Ref w lo v xs) (hsz : w.heap.size ≤ w'.heap.size) (hb : ∀ j, lo ≤ j → j < w.heap.size → w'.heap[j]? = w.heap[j]?) : Ref w' lo v xs := by
  obtain ⟨a, cap, rfl, hc, hs, hl⟩ := h
  refine ⟨a, cap, rfl, hc, hs.kept fun g hg => ?_, fun c e => ⟨(hl c e).1, Nat.lt_of_lt_of_le (hl c e).2 hsz⟩⟩
  cases a with
  | none => simp [Value.ownBlock] at hg
  | some c =>
    have : c.block = g := by simpa [Value.ownBlock] using hg
    subst this
    exact hb _ (hl c rfl).1 (hl c rfl).2
theorem Ref.below {w w' : World} {lo : Nat} {v : Value} {xs : List Int} (h : Ref w lo v xs) (hb : Below w.heap.size w w') : Ref w' lo v xs :=
  h.kept hb.size fun j _ hj => hb.block j hj
theorem Ref.grown {w w' : World} {lo b : Nat} {v : Value} {xs : List Int} (h : Ref w lo v xs) (hg : w.grownBy w' (some b)) (hb : b < lo) : Ref w' lo v xs :=
  h.kept hg.size fun j hj hl => hg.block j hl (fun e => by have := Option.some.inj e; omega)
theorem Ref.lower {w : World} {lo lo' : Nat} {v : Value} {xs : List Int} (h : Ref w lo v xs) (hb : lo' ≤ lo) : Ref w lo' v xs := by
  obtain ⟨a, cap, rfl, hc, hs, hl⟩ := h
  exact ⟨a, cap, rfl, hc, hs, fun c e => ⟨Nat.le_trans hb (hl c e).1, (hl c e).2⟩⟩

theorem below_own {w a b : World} {r : Option Nat} {B : Nat} (h : Below B w a) (k : a.grownBy b r) (hr : ∀ j, r = some j → B ≤ j) (hB : B ≤ a.heap.size) : Below B w b :=
  ⟨k.os.trans h.os, k.tape.trans h.tape, k.output.trans h.output, Nat.le_trans h.size k.size, fun j hj => (k.block j (by omega) (fun e => by have := hr j e.symm; omega)).trans (h.block j hj)⟩

theorem Ref.cut1 {w : World} {lo len cap : Nat} {a : Option Addr} {xs : List Int} (h : Ref w lo (.slice a len cap) xs) (hn : 1 ≤ xs.length) : Ref w lo (.slice (cutA a 1 cap) (len - 1) (cap - 1)) (xs.drop 1) := by
  obtain ⟨a', cap', e, hc, hs, hl⟩ := h
  obtain ⟨rfl, rfl, rfl⟩ := Value.slice.inj e
  refine ⟨_, _, by rw [List.length_drop], by rw [List.length_drop]; omega, by rw [List.length_drop]; exact Sees.cut hs hc 1 hn, fun c e => ?_⟩
  unfold cutA at e
  split at e
  · exact hl c e
  · obtain ⟨d, hd, rfl⟩ := Option.map_eq_some_iff.1 e
    rw [block_add]; exact hl d hd

theorem own_cut {a : Option Addr} {n m cap cap' len len' : Nat} {g : Nat} (h : (Value.slice (cutA a n cap) len cap').ownBlock = some g) : (Value.slice a len' m).ownBlock = some g := by
  unfold cutA at h
  split at h
  · cases a with
    | none => simp [Value.ownBlock] at h
    | some c => simpa [Value.ownBlock] using h
  · cases a with
    | none => simp [Value.ownBlock] at h
    | some b => simpa [Value.ownBlock, block_add] using h

theorem own_len {a : Option Addr} {n m cap cap' g : Nat} (h : (Value.slice a n cap).ownBlock = some g) : (Value.slice a m cap').ownBlock = some g := by
  cases a with
  | none => simp [Value.ownBlock] at h
  | some c => simpa [Value.ownBlock] using h

def slen : Value → Nat
  | .slice _ n _ => n
  | _ => 0

set_option maxRecDepth 100000 in
set_option maxHeartbeats 1000000 in
theorem rtake_is {w : World} {v : Value} {xs : List Int} {lo : Nat} (hv : Ref w lo v xs) (n : Nat) (hbig : xs.length ≤ 100000) :
    Calls Try.prog 35 #[v, .int .i64 n] w fun e w' => ∃ o r, e = .returned (.tuple #[o, r]) ∧ Owns w' w.heap.size o (xs.take n) ∧ Ref w' lo r (xs.drop n) ∧ Below w.heap.size w w' ∧ ∀ g, r.ownBlock = some g → v.ownBlock = some g := by
  have HV := Lib.hid hv
  clear hv
  go_enter Try.func35, Try.ntmps35
  go_wp2
  go_loopw [0, 6] (fun lv ov wr => ∃ k : Nat, k ≤ n ∧ k ≤ xs.length ∧ Owns wr w.heap.size ov (xs.take k) ∧ Ref w lo lv (xs.drop k) ∧ Below w.heap.size w wr ∧ ∀ g, lv.ownBlock = some g → v.ownBlock = some g) (fun lv _ _ => slen lv)
  case atStart => exact ⟨0, Nat.zero_le _, Nat.zero_le _, World.ownsRow_nil _ _ _ _, HV.out, Below.refl _ _, fun g h => h⟩
  case round =>
    clear HV
    obtain ⟨k, hk, hk2, ho, hr, hB, hob⟩ := hrel
    have HOB := Lib.hid hob
    clear hob
    have htl : (xs.take k).length = k := by rw [List.length_take]; omega
    have hdl : (xs.drop k).length = xs.length - k := by rw [List.length_drop]
    obtain ⟨a6, c6, rfl, hc6, _, _⟩ := Owns.parts ho
    have HR := Lib.hid hr
    obtain ⟨a0, c0, rfl, hc0, hs0, hl0⟩ := hr
    rw [htl] at ho hc6 ⊢
    rw [hdl] at hc0 hs0 HR ⊢
    have HO := Lib.hid ho
    have HB := Lib.hid hB
    have hsz := hB.size
    clear ho hB htl
    by_cases hlen : k < n ∧ k < xs.length
    · obtain ⟨x, hx⟩ : ∃ x, xs[k]? = some x := ⟨_, List.getElem?_eq_getElem hlen.2⟩
      have hx0 : (xs.drop k)[0]? = some x := by rw [List.getElem?_drop]; simpa using hx
      obtain ⟨b0, rfl, hb0⟩ : ∃ b, a0 = some b ∧ wr.cell? (b.add 0) = some (.int .i64 x) := by
        obtain ⟨_, _, e, _, _, h⟩ := hs0
        obtain ⟨e1, _, _⟩ := Value.slice.inj e
        obtain ⟨b, e2, e3⟩ := h 0 x hx0
        exact ⟨b, e1.trans e2, cell_later HB.out e3⟩
      have hb1 : wr.cell? b0 = some (.int .i64 x) := hb0
      have h1 : k < n := hlen.1
      have h2 : k < xs.length := hlen.2
      have hcut : ∀ W, (Instr.slice 25 (.slice (some b0) (xs.length - k) c0) (some (.int .i64 1)) none none).run Try.prog W = .ok (.slice (cutA (some b0) 1 c0) (xs.length - k - 1) (c0 - 1)) W := fun W => run_cut_l _ _ c0 _ _ 1 rfl (by omega) W
      have HX := Lib.hid hx
      have HS := Lib.hid hs0
      have hp1 : (0 : Int) < ((xs.length - k : Nat) : Int) := by omega
      clear hlen hx hx0 hs0
      go_wp2_with (refine wpList_append_one rfl _ _ rfl wr w.heap.size (.slice a6 k c6) (xs.take k) x rfl HO.out rfl ?ql hsz ?_)
      case ql => rw [List.length_take]; omega
      intro v' w3 ho3 hg3
      rw [← take_snoc HX.out] at ho3
      have HO3 := Lib.hid ho3
      have HB3 : Hid (Below w.heap.size w w3) := Lib.hid (below_own HB.out hg3 (fun j hj => (HO.out.block hj).1) hsz)
      have hkeep : Ref w lo (.slice (cutA (some b0) 1 c0) (xs.length - k - 1) (c0 - 1)) (xs.drop (k + 1)) := by
        have := Ref.cut1 HR.out (by rw [List.length_drop]; omega)
        rwa [List.drop_drop] at this
      clear ho3 hg3
      go_wp2
      go_roundw
      case rel => exact ⟨k + 1, by omega, by omega, HO3.out, hkeep, HB3.out, fun g h => HOB.out g (own_cut h)⟩
      case measure => simp [slen]; omega
    · have hfin : xs.take k = xs.take n ∧ xs.drop k = xs.drop n := by
        by_cases h : k = n
        · subst h; exact ⟨rfl, rfl⟩
        · have : k = xs.length := by omega
          subst this
          exact ⟨by rw [List.take_of_length_le (Nat.le_refl _), List.take_of_length_le (by omega)], by rw [List.drop_of_length_le (Nat.le_refl _), List.drop_of_length_le (by omega)]⟩
      have HF := Lib.hid hfin
      clear hfin
      by_cases h1 : k < n
      · have h2 : xs.length - k = 0 := by omega
        rw [h2] at HR ⊢
        go_wp2
        go_ret2
        exact ⟨_, _, rfl, by rw [← HF.out.1]; exact HO.out, by rw [← HF.out.2]; exact Ref.below HR.out HB.out, HB.out, fun g h => HOB.out g (own_len (a := a0) h)⟩
      · go_wp2
        go_ret2
        exact ⟨_, _, rfl, by rw [← HF.out.1]; exact HO.out, by rw [← HF.out.2]; exact Ref.below HR.out HB.out, HB.out, fun g h => HOB.out g (own_len (a := a0) h)⟩

theorem app_step {p l : List Int} {k : Nat} {x : Int} (hx : l[k]? = some x) : p ++ l.take k ++ [x] = p ++ l.take (k + 1) := by
  rw [take_snoc hx, List.append_assoc]

set_option maxRecDepth 100000 in
set_option maxHeartbeats 1000000 in
theorem join_is {w : World} {v u : Value} {xs ys : List Int} {lo lo' : Nat} (hv : Ref w lo v xs) (hu : Ref w lo' u ys) (hbig : xs.length + ys.length ≤ 100000) :
    Calls Try.prog 34 #[v, u] w fun e w' => ∃ o, e = .returned o ∧ Owns w' w.heap.size o (xs ++ ys) ∧ Below w.heap.size w w' := by
  obtain ⟨a, ca, rfl, _, hs, hl⟩ := hv
  obtain ⟨b, cb, rfl, _, ht, hl'⟩ := hu
  have hsl : xs.length ≤ maxLen := by unfold maxLen; omega
  have htl : ys.length ≤ maxLen := by unfold maxLen; omega
  unfold maxLen at hsl htl
  have HA := Lib.hid hs
  have HB := Lib.hid ht
  clear hs ht hl hl'
  go_enter Try.func34, Try.ntmps34
  go_wp2
  go_loopw [5, 12] (fun ov i wr => ∃ k : Nat, k ≤ xs.length ∧ i = .int .i64 k ∧ Owns wr w.heap.size ov (xs.take k) ∧ Below w.heap.size w wr) (fun _ i _ => xs.length - (intOf i).toNat)
  case atStart => exact ⟨0, Nat.zero_le _, rfl, World.ownsRow_nil _ _ _ _, Below.refl _ _⟩
  case round =>
    obtain ⟨k, hk, rfl, ho, hB⟩ := hrel
    have HO := Lib.hid ho
    have HW := Lib.hid hB
    have hsz := hB.size
    clear ho hB
    by_cases hlen : k < xs.length
    · obtain ⟨x, hx⟩ : ∃ x, xs[k]? = some x := ⟨_, List.getElem?_eq_getElem hlen⟩
      obtain ⟨c, rfl, hc⟩ : ∃ c, a = some c ∧ wr.cell? (c.add k) = some (.int .i64 x) := by
        obtain ⟨_, _, e, _, _, h⟩ := HA.out
        obtain ⟨e1, _, _⟩ := Value.slice.inj e
        obtain ⟨c, e2, e3⟩ := h k x hx
        exact ⟨c, e1.trans e2, cell_later HW.out e3⟩
      have HX := Lib.hid hx
      clear hx
      go_wp2_with (refine wpList_append_one rfl _ _ rfl wr w.heap.size u5 (xs.take k) x rfl HO.out rfl ?ql hsz ?_)
      case ql => simp; omega
      intro v' w3 ho3 hg3
      rw [← take_snoc HX.out] at ho3
      have HO3 := Lib.hid ho3
      have HB3 : Hid (Below w.heap.size w w3) := Lib.hid (below_own HW.out hg3 (fun j hj => (HO.out.block hj).1) hsz)
      clear ho3 hg3
      go_wp2
      go_roundw
      case rel => exact ⟨k + 1, by omega, by go_num, HO3.out, HB3.out⟩
      case measure => simp [intOf]; omega
    · obtain rfl : k = xs.length := by omega
      rw [List.take_length] at HO
      go_wp2
      go_loopw [5, 23] (fun ov i wr => ∃ k : Nat, k ≤ ys.length ∧ i = .int .i64 k ∧ Owns wr w.heap.size ov (xs ++ ys.take k) ∧ Below w.heap.size w wr) (fun _ i _ => ys.length - (intOf i).toNat)
      case atStart => exact ⟨0, Nat.zero_le _, rfl, by simpa using HO.out, HW.out⟩
      case round =>
        clear HO HW hsz
        obtain ⟨k, hk, rfl, ho, hB⟩ := hrel
        have HO := Lib.hid ho
        have HW := Lib.hid hB
        have hsz := hB.size
        clear ho hB
        by_cases hlen : k < ys.length
        · obtain ⟨x, hx⟩ : ∃ x, ys[k]? = some x := ⟨_, List.getElem?_eq_getElem hlen⟩
          obtain ⟨c, rfl, hc⟩ : ∃ c, b = some c ∧ wr.cell? (c.add k) = some (.int .i64 x) := by
            obtain ⟨_, _, e, _, _, h⟩ := HB.out
            obtain ⟨e1, _, _⟩ := Value.slice.inj e
            obtain ⟨c, e2, e3⟩ := h k x hx
            exact ⟨c, e1.trans e2, cell_later HW.out e3⟩
          have HX := Lib.hid hx
          clear hx
          go_wp2_with (refine wpList_append_one rfl _ _ rfl wr w.heap.size u5 (xs ++ ys.take k) x rfl HO.out rfl ?ql hsz ?_)
          case ql => simp; omega
          intro v' w3 ho3 hg3
          first | rw [List.append_assoc] at ho3 | skip
          rw [← take_snoc HX.out] at ho3
          have HO3 := Lib.hid ho3
          have HB3 : Hid (Below w.heap.size w w3) := Lib.hid (below_own HW.out hg3 (fun j hj => (HO.out.block hj).1) hsz)
          clear ho3 hg3
          go_wp2
          go_roundw
          case rel => exact ⟨k + 1, by omega, by go_num, HO3.out, HB3.out⟩
          case measure => simp [intOf]; omega
        · obtain rfl : k = ys.length := by omega
          rw [List.take_length] at HO
          go_wp2
          go_ret
          exact ⟨_, rfl, HO.out, HW.out⟩
end Go.Proofs.Ytkcoidapnmoljaa.Rng
