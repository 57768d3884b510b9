/-
  slices.Sort at uint16, slices.Sorted of the poll's keys.
-/
import Derived.Test.YtefpbfdbpckcmaaPollApp
namespace Go.Proofs.Ytefpbfdbpckcmaa.Pl
open Go.RowKit Go.Shelf
open Go.Proofs.Ytefpbfdbpckcmaa.MapU
set_option linter.unusedVariables false

set_option maxRecDepth 100000 in
set_option maxHeartbeats 1000000 in
theorem ins0_is (a : Option Addr) (cap : Nat) (w : World) : Calls Try.prog 38 #[.slice a 0 cap, .int .i64 0, .int .i64 0] w fun e w' => e = .returned (.tuple #[]) ∧ w = w' := by
  go_enter Try.func38, Try.ntmps38
  go_wp2
  go_loopw [6] (fun v wr => v = .int .i64 1 ∧ w = wr) (fun _ _ => 0)
  case atStart => exact ⟨rfl, rfl⟩
  case round =>
    obtain ⟨rfl, rfl⟩ := hrel
    go_wp2
    go_end0
    exact ⟨rfl, rfl⟩
set_option maxRecDepth 100000 in
set_option maxHeartbeats 1000000 in
theorem pdq0_is (a : Option Addr) (cap : Nat) (w : World) : Calls Try.prog 36 #[.slice a 0 cap, .int .i64 0, .int .i64 0, .int .i64 0] w fun e w' => e = .returned (.tuple #[]) ∧ w = w' := by
  go_enter Try.func36, Try.ntmps36
  go_wp2
  go_loopw [1, 2, 3, 8, 9] (fun x y z u v wr => x = .int .i64 0 ∧ y = .int .i64 0 ∧ z = .int .i64 0 ∧ u = .bool true ∧ v = .bool true ∧ w = wr) (fun _ _ _ _ _ _ => 0)
  case atStart => exact ⟨rfl, rfl, rfl, rfl, rfl, rfl⟩
  case round =>
    obtain ⟨rfl, rfl, rfl, rfl, rfl, rfl⟩ := hrel
    go_wp2_with fail
    refine (ins0_is a cap _).mono ?_
    rintro e w1 ⟨rfl, rfl⟩
    go_wp2_with fail
    refine bodyPost_ret (results_none rfl _ _ _) rfl ?_
    exact ⟨rfl, rfl⟩
set_option maxRecDepth 100000 in
set_option maxHeartbeats 1000000 in
theorem sort0_is (a : Option Addr) (cap : Nat) (w : World) : Calls Try.prog 32 #[.slice a 0 cap] w fun e w' => e = .returned (.tuple #[]) ∧ w = w' := by
  go_enter Try.func32, Try.ntmps32
  go_wp2_with fail
  refine (So.len_is 0 (by decide) _).mono ?_
  rintro e w1 ⟨rfl, rfl⟩
  go_wp2_with fail
  refine (pdq0_is a cap _).mono ?_
  rintro e w1 ⟨rfl, rfl⟩
  go_wp2
  go_end0
  exact ⟨rfl, rfl⟩
open Go.Sort in
set_option maxRecDepth 100000 in
set_option maxHeartbeats 1000000 in
theorem sort_is {b cap n : Nat} {d : Array Int} {w : World} (hn : d.size = n) (hH : Holds (Value.int .u16) w b 0 d) (hbw : b < w.heap.size) (hsz : n < 1000000) :
    Calls Try.prog 32 #[.slice (some ⟨b, 0, none⟩) n cap] w fun e w' => e = .returned (.tuple #[]) ∧ ∃ d', d'.size = n ∧ PermIn 0 n d d' ∧ SortedIn ltInt 0 n d' ∧ So.Row w b 0 d' w' := by
  have hl : bitsLen n ≤ 62 := (bitsLen_le_iff n 62).2 (by omega)
  have HL := Lib.hid (And.intro hH hn)
  clear hH hn
  go_enter Try.func32, Try.ntmps32
  go_wp2_with fail
  refine (So.len_is n (by omega) _).mono ?_
  rintro e w1 ⟨rfl, rfl⟩
  go_wp2_with fail
  refine (So.pdq_is (n + 1) (lo := 0) (hi := n) (by omega) HL.out.2 HL.out.1 hbw (Nat.zero_le _) (Nat.le_refl _) (by omega) (by omega) (.inl rfl)).mono ?_
  rintro e w1 ⟨rfl, d', h1, h2, h3, h4⟩
  have H := Lib.hid (And.intro h1 (And.intro h2 (And.intro h3 h4)))
  clear h1 h2 h3 h4
  go_wp2
  go_end0
  exact ⟨rfl, d', H.out⟩

/-- The value is a slice that reads as these numbers, in a block from lo on. -/
def Nums (w : World) (lo : Nat) (v : Value) (s : List Int) : Prop :=
  ∃ a cap, v = .slice a s.length cap ∧ s.length ≤ cap ∧ ∀ i x, s[i]? = some x → ∃ g, a = some ⟨g, 0, none⟩ ∧ lo ≤ g ∧ g < w.heap.size ∧ w.cell? ⟨g, i, none⟩ = some (.int .u16 x)
theorem Nums.kept {w w' : World} {lo : Nat} {v : Value} {s : List Int} (h : Nums w lo v s) (hs : w.heap.size ≤ w'.heap.size) (hb : ∀ k, lo ≤ k → k < w.heap.size → w'.heap[k]? = w.heap[k]?) : Nums w' lo v s := by
  obtain ⟨a, cap, h1, h2, h3⟩ := h
  refine ⟨a, cap, h1, h2, fun i x hi => ?_⟩
  obtain ⟨g, e1, e2, e3, e4⟩ := h3 i x hi
  exact ⟨g, e1, e2, Nat.lt_of_lt_of_le e3 hs, (World.cell?_of_block (a := ⟨g, i, none⟩) (hb g e2 e3)).trans e4⟩

open Go.Sort in
theorem sorted_lt {n : Nat} {d d' : Array Int} {ks : List Int} (hd : d = ks.toArray) (hn : ks.length = n) (hnd : ks.Nodup) (hs : d'.size = n) (hp : PermIn 0 n d d') (ho : SortedIn ltInt 0 n d') : d'.toList.Perm ks ∧ d'.toList.Pairwise (· < ·) := by
  subst hd
  have hperm : d'.toList.Perm ks := by
    have h := hp.2.2
    rw [Array.extract_eq_self_of_le (by omega), Array.extract_eq_self_of_le (by simp; omega)] at h
    simpa using h
  refine ⟨hperm, ?_⟩
  have hnd' : d'.toList.Nodup := hperm.nodup_iff.2 hnd
  rw [List.pairwise_iff_getElem]
  intro i j hi hj hij
  have h1 := ho i j (Nat.zero_le _) hij (by simpa [hs] using hj)
  have hi' : i < d'.size := by simpa using hi
  have hj' : j < d'.size := by simpa using hj
  simp only [getElem!_pos, hi', hj', ltInt, decide_eq_false_iff_not, Int.not_lt] at h1
  have hne : d'.toList[i] ≠ d'.toList[j] := fun e => by have := (List.getElem_inj hnd').1 e; omega
  simp only [Array.getElem_toList] at hne ⊢
  omega

set_option maxRecDepth 100000 in
set_option maxHeartbeats 1000000 in
theorem sorted_is (Bm b : Nat) (l : List (Int × Value)) (hbig : l.length ≤ 2000) (w : World) (hBm : Bm < w.heap.size) (hc : w.cell? ⟨Bm, 0, none⟩ = some (.map (some b))) (hm : IsMap w b l) :
    Calls Try.prog 26 #[.func (.func KEYS) #[] #[.pointer (some ⟨Bm, 0, none⟩)]] w fun e w' =>
      ∃ (v : Value) (s : List Int), e = .returned v ∧ s.Perm (l.map (·.1)) ∧ s.Pairwise (· < ·) ∧ Nums w' w.heap.size v s ∧ Below w.heap.size w w' := by
  have hnd := hm.nodup
  have HN := Lib.hid hnd
  clear hnd
  go_enter Try.func26, Try.ntmps26
  go_wp2_with fail
  refine (collect_is Bm b l hbig w hBm hc hm).mono ?_
  rintro e w1 ⟨v, ks, rfl, hp, hr, hb⟩
  have hksn : ks.Nodup := hp.nodup_iff.2 HN.out
  have hkl : ks.length ≤ 2000 := by have := hp.length_eq; simp at this; omega
  rcases hr.2 with ⟨rfl, h0⟩ | ⟨g, cap, cur, rfl, h1, h2, h3, h4, h5, h6⟩
  · have hk0 : ks = [] := List.length_eq_zero_iff.1 h0
    subst hk0
    have H := Lib.hid (And.intro hp hb)
    clear hp hb hr hksn hkl h0
    go_wp2_with fail
    refine (sort0_is none 0 _).mono ?_
    rintro e w2 ⟨rfl, rfl⟩
    go_wp2
    go_ret
    exact ⟨_, [], rfl, H.out.1, List.Pairwise.nil, ⟨none, 0, rfl, Nat.le_refl _, fun i x hi => by simp at hi⟩, H.out.2⟩
  · have hlt := (Array.getElem?_eq_some_iff.1 h2).1
    have hH : Go.Sort.Holds (Value.int .u16) w1 g 0 ks.toArray := by
      intro j hj
      have hj' : j < ks.length := by simpa using hj
      rw [Nat.zero_add]
      refine ⟨?_, World.ownsRow.frozenAt hr j⟩
      rw [World.ownsRow.cellAt hr j (by simpa using hj')]
      simp [hj']
    have H := Lib.hid (And.intro hp (And.intro hb (And.intro h3 (And.intro h1 hksn))))
    have hn : ks.toArray.size = ks.length := by simp
    clear hp hb hr hksn h2 h3 h4 h5 h6
    go_wp2_with fail
    refine (sort_is hn hH hlt (by omega)).mono ?_
    rintro e w2 ⟨rfl, d', e1, e2, e3, e4⟩
    obtain ⟨p1, p2⟩ := sorted_lt rfl rfl H.out.2.2.2.2 e1 e2 e3
    have hdl : d'.toList.length = ks.length := by simpa using e1
    have hNums : Nums w2 w.heap.size (.slice (some ⟨g, 0, none⟩) d'.toList.length cap) d'.toList := ⟨_, cap, rfl, by rw [hdl]; exact H.out.2.2.1, fun i x hi => ⟨g, rfl, H.out.2.2.2.1, Nat.lt_of_lt_of_le hlt e4.grown.size, by
      have hi' := (List.getElem?_eq_some_iff.1 hi).1
      have h := e4.cell i (by simpa using hi')
      rw [Nat.zero_add] at h
      rw [h]
      have := (List.getElem?_eq_some_iff.1 hi).2
      simp at hi'
      simp [hi']
      simpa using this⟩⟩
    rw [hdl] at hNums
    have HB := Lib.hid (H.out.2.1.grown e4.grown H.out.2.1.size (fun k e => by cases e; exact H.out.2.2.2.1))
    have HF := Lib.hid (And.intro (p1.trans H.out.1) (And.intro p2 hNums))
    clear p1 p2 hNums e1 e2 e3 e4
    go_wp2
    go_ret
    exact ⟨_, d'.toList, rfl, HF.out.1, HF.out.2.1, HF.out.2.2, HB.out⟩
end Go.Proofs.Ytefpbfdbpckcmaa.Pl
