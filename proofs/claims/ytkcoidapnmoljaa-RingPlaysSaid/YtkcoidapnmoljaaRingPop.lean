/-
  Package ring: pop, and what is made of it.
-/
import Derived.Test.YtkcoidapnmoljaaRing
import Derived.StillTactics
import Derived.OwnWalk
import Derived.Laws.Pointers
import Derived.Deep.RegionHeld3
import Derived.Deep.AppendLies
import Derived.Deep.RegionLaw
namespace Go.Proofs.Ytkcoidapnmoljaa.Rng
open Go.RowKit
open Go.Proofs.Ytkcoidapnmoljaa.Ints
set_option linter.unusedVariables false

theorem take_snoc {row : List Int} {k : Nat} {x : Int} (hx : row[k]? = some x) : row.take (k + 1) = row.take k ++ [x] := by
  rw [List.take_add_one, hx]; rfl
theorem drop_cons {row : List Int} {k : Nat} {x : Int} (hx : row[k]? = some x) : row.drop k = x :: row.drop (k + 1) := by
  obtain ⟨hk, rfl⟩ := List.getElem?_eq_some_iff.1 hx
  exact List.drop_eq_getElem_cons hk

theorem pop_step {w : World} {b : Nat} {s : List Int} {h k : Nat} {row : List Int} {nxt : Option Int} {nx st : Int} (r : Raw w b s h (row.length - k) nxt.isSome (nxt.getD nx) st) (a : 0 ≤ st) (c : st ≤ 4)
    (d : ∀ i x, (row.drop k)[i]? = some x → s[(h + i) % 256]? = some x) (hk : k < row.length) :
    IsR ((w.setCell ⟨b, 256, none⟩ (.int .i64 (((h : Int) + 1) % 256))).setCell ⟨b, 257, none⟩ (.int .i64 (((row.length - k : Nat) : Int) - 1))) b (row.drop (k + 1)) nxt st := by
  have e1 : ((h : Int) + 1) % 256 = (((h + 1) % 256 : Nat) : Int) := by omega
  have e2 : ((row.length - k : Nat) : Int) - 1 = ((row.length - (k + 1) : Nat) : Int) := by omega
  have hs := r.size
  rw [e1, e2]
  refine ⟨s, (h + 1) % 256, nx, ?_, a, c, fun i x hx => ?_⟩
  · have := (r.setHead (h' := (h + 1) % 256) (Nat.mod_lt _ (by decide))).setSize (n' := row.length - (k + 1)) (by omega)
    rw [List.length_drop]; exact this
  · have := d (i + 1) x (by rw [List.getElem?_drop] at hx ⊢; rw [show k + (i + 1) = k + 1 + i from by omega]; exact hx)
    rwa [show (h + (i + 1)) % 256 = ((h + 1) % 256 + i) % 256 from by omega] at this

theorem pop_owns {w : World} {b base gg cap k : Nat} {row : List Int} {x u v : Int} (h : w.ownsRow base 3 1 (.slice (some ⟨gg, 0, none⟩) (k + 1) cap) (k + 1) ((row.take k).map (Value.int .i64) ++ [.int .i64 x])) (hx : row[k]? = some x) (hb : b < base) :
    ((w.setCell ⟨b, 256, none⟩ (.int .i64 u)).setCell ⟨b, 257, none⟩ (.int .i64 v)).ownsRow base 3 1 (.slice (some ⟨gg, 0, none⟩) (k + 1) cap) (k + 1) ((row.take (k + 1)).map (Value.int .i64)) := by
  rw [take_snoc hx, List.map_append]
  refine World.ownsRow.kept h (grown_set (grown_set (World.grownBy.refl _ _) _ _) _ _ : w.grownBy _ (some b)) (.inr fun e => ?_)
  have := (World.ownsRow.lt h _ e).1
  omega

set_option maxRecDepth 100000 in
set_option maxHeartbeats 1000000 in
theorem pop_is {w : World} {b : Nat} {row : List Int} {nxt : Option Int} {st : Int} (r : IsR w b row nxt st) (n : Nat) (hn : n ≤ row.length) :
    Calls Try.prog 27 #[.pointer (some ⟨b, 0, none⟩), .int .i64 n] w fun e w' => ∃ v, e = .returned v ∧ Owns w' w.heap.size v (row.take n) ∧ IsR w' b (row.drop n) nxt st ∧ w.grownBy w' (some b) := by
  obtain ⟨i0, hi, hz0, hz1, hz2⟩ := info_parts infoInt
  have hb := r.lt
  have hrl : row.length ≤ 256 := by obtain ⟨_, _, _, r, _⟩ := r; exact r.size
  have R := Lib.hid r
  clear r
  go_enter Try.func27, Try.ntmps27
  go_wp2_with (at_make; refine wpList_make_own _ rfl _ _ 25 rfl w.heap.size 3 i0 (.int .i64 0) 1 Try.underlying25 hi hz0 hz1 .i64 .i64 n n rfl rfl rfl ?qa ?qb ?qc ?_)
  case qa => rw [hz2]; omega
  case qb => unfold maxLen; omega
  case qc => exact Nat.le_refl _
  intro w1 hown hg1
  go_wp2_with fail
  go_loopw [5, 9] (fun ov i wr => ∃ k : Nat, k ≤ n ∧ i = .int .i64 k ∧ wr.ownsRow w.heap.size 3 1 ov k ((row.take k).map (Value.int .i64)) ∧ IsR wr b (row.drop k) nxt st ∧ w.grownBy wr (some b)) (fun _ i _ => n - (intOf i).toNat)
  case atStart => exact ⟨0, Nat.zero_le _, rfl, hown, R.out.heap (hg1.block b hb (by simp)), ⟨hg1.os, hg1.tape, hg1.output, hg1.size, fun k hk _ => hg1.block k hk (by simp)⟩⟩
  case round =>
    obtain ⟨k, hk, rfl, ho, hr, hg⟩ := hrel
    clear hown hg1
    have HG := Lib.hid hg
    have HO := Lib.hid ho
    have hsz := hg.size
    clear hg
    by_cases hlen : k < n
    · obtain ⟨x, hx⟩ : ∃ x, row[k]? = some x := ⟨_, List.getElem?_eq_getElem (by omega)⟩
      obtain ⟨s, h, nx, raw, a, c, d⟩ := hr
      have hh := raw.head
      have c1 := raw.c256
      have c2 := raw.c257
      have hf := raw.free
      have hxs : s[h]? = some x := by
        have := d 0 x (by rw [drop_cons hx]; rfl)
        rwa [Nat.add_zero, Nat.mod_eq_of_lt hh] at this
      have c3 := raw.slot hh hxs
      have RAW := Lib.hid raw
      have D := Lib.hid d
      have HX := Lib.hid hx
      have hbr := raw.lt
      have hne : u5.ownBlock ≠ some b := fun e => by have := (World.ownsRow.lt ho b e).1; omega
      have hh1 : (h : Int) < 256 := by omega
      clear raw d hx hxs
      go_wp2_with fail
      go_region_law (refine step_append_lies _ (by rfl) _ _ _ (by rfl) w.heap.size 3 i0 _ 1 8 Try.underlying25 hi hz0 hz1 hz2 rfl (by omega) u5 k ((row.take k).map (Value.int .i64)) (by rfl) ((HO.out.alloc _).drew) ⟨wr.heap.size, 0, none⟩ 1 1 [.int .i64 x] (by rfl) (by rfl) (World.news_of_block (cs := #[.int .i64 x]) (t := 3) (fr := (0, 0)) (heap_alloc_new wr _)) (by simp [Value.oneCell']) (by omega) (by unfold maxLen; omega) (by omega) (by simp; omega) (wr.heap.size + 1) (by simp) ?_; intro gg cap w1 hown1 hgrow hat hlt)
      have hblk : w1.heap[b]? = wr.heap[b]? := (hgrow.block b (by simp; omega) (fun e => hne e.symm)).trans (heap_alloc_old _ _ hbr)
      have raw1 := RAW.out.heap hblk
      have hg1 : w.grownBy w1 (some b) := ⟨hgrow.os.trans HG.out.os, hgrow.tape.trans HG.out.tape, hgrow.output.trans HG.out.output, Nat.le_trans HG.out.size (Nat.le_trans (by simp) hgrow.size), fun j hj hjb => by
        have h1 := hgrow.block j (by simp; omega) (fun e => by have := (World.ownsRow.lt HO.out j e.symm).1; omega)
        exact h1.trans ((heap_alloc_old _ _ (by omega)).trans (HG.out.block j hj hjb))⟩
      have d1 := raw1.c256
      have d2 := raw1.c257
      have f1 := raw1.free
      have hlk : (row.drop k).length = row.length - k := by simp
      rw [hlk] at d2 raw1
      have RAW1 := Lib.hid raw1
      have HG1 := Lib.hid hg1
      have HO1 := Lib.hid hown1
      have hkr : k < row.length := by omega
      clear c1 c2 c3 hf hblk raw1 hg1 hown1 hgrow hat hlt ho hlk
      go_wp2
      go_roundw
      case rel => exact ⟨k + 1, by omega, by go_num, pop_owns HO1.out HX.out hb, pop_step RAW1.out a c D.out hkr, grown_set (grown_set HG1.out _ _) _ _⟩
      case measure => simp [intOf]; omega
    · obtain rfl : k = n := by omega
      go_wp2
      go_ret
      exact ⟨_, rfl, by unfold Owns; rw [List.length_take, Nat.min_eq_left hn]; exact HO.out, hr, HG.out⟩
end Go.Proofs.Ytkcoidapnmoljaa.Rng
