/-
  maps.Keys, slices.AppendSeq, slices.Collect at the poll's map: its keys, in whatever order.
-/
import Derived.Test.YtefpbfdbpckcmaaMapUR
import Derived.RangeFuncNested
import Derived.RangeFuncBound
import Derived.RangeFuncCalls
import Derived.RangeFuncLeaves
import Derived.RangeFuncBox
import Derived.Shelf.Abstract
import Derived.Shelf.RegionOpen
import Derived.OwnWalkIn
import Derived.TacticsInMore
import Derived.LoopNIn
import Derived.LoopIn
import Derived.Maps.AppendAt
namespace Go.Proofs.Ytefpbfdbpckcmaa.Pl
open Go.RowKit Go.Shelf
open Go.Proofs.Ytefpbfdbpckcmaa.MapU
set_option linter.unusedVariables false
attribute [local go_sem] Oper.semAt_some

abbrev KEYS : Nat := 33
theorem Ran.walk {w : World} {b r : Nat} {l rest : List (Int × Value)} (h : Ran w b r l rest) : ∃ o : Obj, w.heap[r]? = some o ∧ o.isWalk = true := by
  obtain ⟨es, c, s, seen, c0, h1, h2, h3, h4, h5⟩ := h
  exact ⟨_, h4, rfl⟩
theorem Ran.walks {w w' : World} {b r : Nat} {l rest : List (Int × Value)} (h : Ran w b r l rest) (k : KeepsWalks w w') : Ran w' b r l rest := by
  have h0 := h
  obtain ⟨es, c, s, seen, c0, h1, h2, h3, h4, h5⟩ := h
  exact h0.kept ((k.same _ _ h1 rfl).trans h1.symm) ((k.same _ _ h4 rfl).trans h4.symm)
/-- What has come and what is still to come are the map's. -/
theorem come {l rest : List (Int × Value)} {ys : List Int} {k : Int} {v : Value} (hn : (rest.map (·.1)).Nodup) (h : (ys ++ rest.map (·.1)).Perm (l.map (·.1))) (hk : (k, v) ∈ rest) :
    ((ys ++ [k]) ++ (rest.filter fun p => p.1 ≠ k).map (·.1)).Perm (l.map (·.1)) := by
  refine List.Perm.trans ?_ h
  rw [List.append_assoc]
  refine List.Perm.append_left ys ?_
  have : ∀ (rest : List (Int × Value)), (rest.map (·.1)).Nodup → (k, v) ∈ rest → (k :: (rest.filter fun p => p.1 ≠ k).map (·.1)).Perm (rest.map (·.1)) := by
    intro rest
    induction rest with
    | nil => intro _ h; cases h
    | cons p t ih =>
      intro hn hk
      simp only [List.map_cons, List.nodup_cons] at hn
      by_cases hp : p.1 = k
      · rw [List.filter_cons_of_neg (by simp [hp])]
        have : (t.filter fun p => p.1 ≠ k) = t := List.filter_eq_self.2 (fun q hq => by simp; rintro e; exact hn.1 (by rw [hp, ← e]; exact List.mem_map.2 ⟨q, hq, rfl⟩))
        rw [this, List.map_cons, hp]
      · rw [List.filter_cons_of_pos (by simpa using hp), List.map_cons, List.map_cons]
        rcases List.mem_cons.1 hk with e | hk
        · exact absurd (by rw [← e]) hp
        · exact (List.Perm.swap _ _ _).trans ((ih hn.2 hk).cons _)
  exact this rest hn hk
theorem nodup_rest {l rest : List (Int × Value)} {k : Int} (hn : (rest.map (·.1)).Nodup) : ((rest.filter fun p => p.1 ≠ k).map (·.1)).Nodup :=
  hn.sublist (List.Sublist.map _ List.filter_sublist)
theorem less_rest {rest : List (Int × Value)} {k : Int} {v : Value} (h : (k, v) ∈ rest) : (rest.filter fun p => p.1 ≠ k).length < rest.length := by
  have := List.length_filter_lt_length_iff_exists (l := rest) (p := fun p => decide (p.1 ≠ k))
  exact this.2 ⟨_, h, by simp⟩

set_option maxRecDepth 100000 in
set_option maxHeartbeats 2000000 in
theorem keys1_in (F : Fence) (n : Nat) (hf : F.fn KEYS) (hro : F.round = none) (hn : 1 ≤ n) (lb Bm b : Nat) (l : List (Int × Value)) (J Jx : List Int → World → Prop) (B : Nat)
    (hY : ∀ pre x W, J pre W → pre.length < l.length → YieldAt F (n - 1) Try.prog lb #[.int .u16 x] W fun e W' =>
      (e = .returned (.bool true) ∧ J (pre ++ [x]) W' ∧ KeepsWalks W W') ∨ (e = .returned (.bool false) ∧ Jx (pre ++ [x]) W'))
    (W : World) (hJ : AbidesFrom W.heap.size J) (hBm : W.cell? ⟨Bm, 0, none⟩ = some (.map (some b))) (hm : IsMap W b l) (h0 : J [] W) :
    CallsIn F n Try.prog KEYS #[.func (.yield lb) #[] #[], .pointer (some ⟨Bm, 0, none⟩)] W fun e W' => (∃ v, e = .returned v) ∧
      ((∃ ys : List Int, ys.Perm (l.map (·.1)) ∧ J ys W') ∨ (∃ pre, Jx pre W')) := by
  have HN := Lib.hid hm.nodup
  refine callsIn_of_wp Try.func33 rfl hf ?_ hro
  simp only [Try.ntmps33, List.size_toArray, List.length_cons, List.length_nil, Nat.reduceAdd, Nat.reduceSub, Array.replicate_succ, Array.replicate_zero, List.push_toArray, List.append_toArray, List.nil_append, List.cons_append]
  gi_wp2_with (first
    | (gi_at_range; refine wpListIn_range rfl _ 58 27 63 rfl Try.underlying58 hm rfl ?_; intro w0 hrg0 hg0 hs0)
    | gi_in)
  go_frame
  gi_loopw [3] (fun _ wr => ∃ (rest : List (Int × Value)) (ys : List Int), Ran wr b W.heap.size l rest ∧ (rest.map (·.1)).Nodup ∧ (ys ++ rest.map (·.1)).Perm (l.map (·.1)) ∧ J ys wr)
    (fun _ wr => wr.rangeLeft b W.heap.size)
  case atStart => exact ⟨l, [], hrg0, HN.out, by simp, hJ [] W w0 none h0 hg0 (fun r e => by cases e)⟩
  case round =>
    obtain ⟨rest, ys, hrg, hnd, hp, hJs⟩ := hrel
    have HP := Lib.hid (And.intro hnd hp)
    clear hnd hp
    gi_wp2_with (first
      | (gi_at_next; refine wpListIn_next rfl _ rfl rfl hrg ?_ ?_)
      | gi_in)
    · intro hr0
      gi_wp2
      go_end0
      exact ⟨⟨_, rfl⟩, .inl ⟨ys, by have := HP.out.2; rw [hr0] at this; simpa using this, hJs⟩⟩
    · intro k v w2 hkv hrg2 hg2 hs2 hen
      have hJ2 : J ys w2 := hJ ys wr w2 (some W.heap.size) hJs hg2 (fun r e => by cases e; exact ⟨Nat.le_refl _, Ran.walk hrg⟩)
      have hlen : ys.length < l.length := by
        have h1 := HP.out.2.length_eq
        have h2 := List.length_pos_of_mem hkv
        simp at h1; omega
      obtain ⟨fn, tmps, assign, body, hy, hR⟩ := hY ys k w2 hJ2 hlen
      have HH := Lib.hid (And.intro hkv (And.intro hrg hrg2))
      clear hs2 hkv hrg hrg2 hg2 hlen
      gi_wp2
      refine hR.mono ?_
      rintro e W3 (⟨rfl, hJ3, hk3⟩ | ⟨rfl, hJx3⟩)
      · gi_wp2
        have hrg3 := Ran.walks HH.out.2.2 hk3
        go_roundw
        case rel => exact ⟨_, ys ++ [k], hrg3, by simpa using nodup_rest (l := l) (k := k) HP.out.1, by simpa using come HP.out.1 HP.out.2 HH.out.1, hJ3⟩
        case measure => rw [hrg3.left_eq, HH.out.2.1.left_eq]; simpa using less_rest HH.out.1
      · gi_wp2
        refine bodyPost_ret (results_none rfl _ _ _) rfl ?_
        exact ⟨⟨_, rfl⟩, .inr ⟨_, hJx3⟩⟩

theorem keys_stops (F : Fence) (n : Nat) (hf : F.fn KEYS) (hro : F.round = none) (hn : 1 ≤ n) (Bm b : Nat) (l : List (Int × Value)) (w : World) (hBm : Bm < w.heap.size) (hc : w.cell? ⟨Bm, 0, none⟩ = some (.map (some b))) (hm : IsMap w b l) :
    SeqStopsK F n Try.prog KEYS #[.pointer (some ⟨Bm, 0, none⟩)] (fun x : Int => #[.int .u16 x]) KeepsWalks (fun ys => ys.Perm (l.map (·.1))) (fun _ => True) l.length w := fun lb J Jx W hW hJ _ hY h0 =>
  (keys1_in F n hf hro hn lb Bm b l J Jx 0 hY W hJ ((hW.cell (p := ⟨Bm, 0, none⟩) hBm).trans hc) (hm.below hW) h0).mono fun e W' ⟨he, h⟩ => ⟨he, h.imp id fun ⟨pre, h⟩ => ⟨pre, trivial, h⟩⟩

/-- maps.Keys: the map is boxed. -/
theorem keys_is (b : Nat) (w : World) :
    Calls Try.prog 27 #[.map (some b)] w fun e w' => e = .returned (.func (.func KEYS) #[] #[.pointer (some ⟨w.heap.size, 0, none⟩)]) ∧ w' = w.alloc (.cells #[.map (some b)] 58) := by
  go_enter Try.func27, Try.ntmps27
  go_wp2
  go_ret
  exact ⟨rfl, rfl⟩
end Go.Proofs.Ytefpbfdbpckcmaa.Pl
