import Derived.Test.YtlhblhgbpaipaaaGreatMgPoll
import Derived.Test.YtlhblhgbpaipaaaGreatSoPdq
import Derived.Deep.AppendLies
import Derived.OwnWalk
/- PollApp -/
namespace Go.Proofs.YtlhblhgbpaipaaaGreat.Pl
open Go.RowKit Go.Shelf
open Go.Proofs.YtlhblhgbpaipaaaGreat.MapU
set_option linter.unusedVariables false
attribute [local go_sem] Oper.semAt_some

theorem infoU : (Tryz.prog.info? 37).map (fun i => (i.zero, i.size, i.bytes)) = some (some (.int .u16 0), 1, 2) := by kernel_rfl

set_option maxRecDepth 100000 in
set_option maxHeartbeats 2000000 in
theorem append_is (Bm b : Nat) (l : List (Int × Value)) (hbig : l.length ≤ 2000) (w : World) (hBm : Bm < w.heap.size) (hc : w.cell? ⟨Bm, 0, none⟩ = some (.map (some b))) (hm : IsMap w b l) :
    Calls Tryz.prog 83 #[.slice none 0 0, .func (.func KEYS) #[] #[.pointer (some ⟨Bm, 0, none⟩)]] w fun e w' =>
      ∃ (v : Value) (ks : List Int), e = .returned v ∧ ks.Perm (l.map (·.1)) ∧ w'.ownsRow w.heap.size 37 1 v ks.length (ks.map (Value.int .u16)) ∧ Below w.heap.size w w' := by
  obtain ⟨i0, hi, hz0, hz1, hz2⟩ := info_parts infoU
  refine (callsIn_wide (n := 8)).1 ?_
  refine callsIn_of_wp_marks Tryz.func83 rfl trivial ?_ rfl
  simp only [Tryz.ntmps83, List.size_toArray, List.length_cons, List.length_nil, Nat.reduceAdd, Nat.reduceSub, Array.replicate_succ, Array.replicate_zero, List.push_toArray, List.append_toArray, List.nil_append, List.cons_append]
  gi_wp2
  have bO := Boxed.new w 128 (.slice none 0 0)
  have hB0 : Below w.heap.size w (w.alloc (.cells #[.slice none 0 0] 128)) := (Below.refl _ w).alloc (Nat.le_refl _) _
  refine wpIn_rangeFunc_ownH rfl (by decide) (gf := KEYS) (lb := #[.pointer (some ⟨Bm, 0, none⟩)]) rfl trivial (enters_of Tryz.func77 (by kernel_rfl) rfl)
    (keys_stops Fence.wide 7 trivial rfl (by decide) Bm b l _ (by simp; omega) ((hB0.cell (p := ⟨Bm, 0, none⟩) hBm).trans hc) (hm.below hB0)) walksK_t walksK_b (Below.refl _ _) (fun _ => rfl)
    (fun (pre : List Int) W => (∃ v, Boxed W w.heap.size 128 v ∧ W.ownsRow w.heap.size 37 1 v pre.length (pre.map (Value.int .u16)) ∧ True) ∧ Below w.heap.size w W)
    (fun _ _ _ => False)
    (OwnFrom.and (Own.from (holdsRow_own w.heap.size w.heap.size 128 37 1 (fun (pre : List Int) => pre.length) (fun pre => pre.map (Value.int .u16)) (fun _ _ => True)) _) (ownFrom_below (Nat.le_refl _) (by simp)))
    (fun _ _ _ _ _ hs _ _ => hs)
    ⟨⟨_, bO, World.ownsRow_nil _ _ _ _, trivial⟩, hB0⟩
    (fun x a' _ => a' = { tmps := #[.slice none 0 0, .func (.func KEYS) #[] #[.pointer (some ⟨Bm, 0, none⟩)], .pointer (some ⟨w.heap.size, 0, none⟩), undef, .slice none 0 0, .int .u16 x, .func (.func KEYS) #[] #[.pointer (some ⟨Bm, 0, none⟩)], .int .u16 x, undef, undef, undef, undef, undef], defers := [] })
    (fun _ _ _ _ _ _ hs _ _ => hs)
    ?assign ?body ?done ?stop
  case assign =>
    rintro lb pre x W K ⟨⟨v, hv, hrow, _⟩, hB1⟩ hK
    gi_wp2
    exact hK _ _ (KeepsFrom.refl _ _) (KeepsWalks.refl _) ⟨⟨v, hv, hrow, trivial⟩, hB1⟩ rfl
  case body =>
    rintro lb pre x a' W hl ⟨r, hr⟩ ⟨⟨v, hv, hrow, _⟩, hB⟩ rfl hlt
    have hcv := hv.cell
    gi_wp2_with (gi_at_builtin; refine wpListIn_append_own _ rfl _ _ 128 rfl w.heap.size 37 i0 _ 1 2 Tryz.underlying128 hi hz0 hz1 hz2 rfl (by decide) _ _ _ rfl (hrow.alloc _) ⟨W.heap.size, 0, none⟩ 1 1 [.int .u16 x] rfl rfl (World.news_of_block (heap_alloc_new _ _)) (by simp [Value.oneCell']) (by unfold maxLen; omega) (by omega) (by have := hB.size; simp; omega) ?_; intro v' w1 hown' hgrow _; obtain ⟨g', cap', rfl⟩ := ownsRow_succ hown'; obtain ⟨hv1, hv2, hr2, hk2, hb2⟩ := hv.appended (by decide) hrow hB.size (Nat.le_refl _) hown' hgrow; have hc1 := hv1.cell; have hf1 := hv1.frozen)
    exact ⟨hk2.from _, hk2.walks, ⟨_, hv2, by rw [List.map_append, List.length_append]; simpa using hr2, trivial⟩, hB.trans hb2⟩
  case done =>
    rintro D ys W hD hys ⟨⟨v, hv, hrow, _⟩, hB⟩ hK
    have hc := hv.cell
    gi_wp2
    refine ⟨by simp, .inl ⟨_, _, rfl, run_takeDeferred hK, ?_⟩⟩
    exact ⟨_, results_tmp rfl _ _ _, v, ys, rfl, hys, ownsRow_putObj hrow _ hK rfl, hB.trans (belowK_b (w := w) (Nat.le_refl _) W D _ _ (by simp at hD; omega) hK rfl rfl)⟩
  case stop =>
    rintro D c pre W _ _ h _
    exact h.elim

theorem collect_is (Bm b : Nat) (l : List (Int × Value)) (hbig : l.length ≤ 2000) (w : World) (hBm : Bm < w.heap.size) (hc : w.cell? ⟨Bm, 0, none⟩ = some (.map (some b))) (hm : IsMap w b l) :
    Calls Tryz.prog 75 #[.func (.func KEYS) #[] #[.pointer (some ⟨Bm, 0, none⟩)]] w fun e w' =>
      ∃ (v : Value) (ks : List Int), e = .returned v ∧ ks.Perm (l.map (·.1)) ∧ w'.ownsRow w.heap.size 37 1 v ks.length (ks.map (Value.int .u16)) ∧ Below w.heap.size w w' := by
  go_enter Tryz.func75, Tryz.ntmps75
  go_wp2_with fail
  refine (append_is Bm b l hbig w hBm hc hm).mono ?_
  rintro e w' ⟨v, ks, rfl, hp, hr, hb⟩
  have H := Lib.hid (And.intro hp (And.intro hr hb))
  clear hp hr hb
  go_wp2
  go_ret
  exact ⟨_, _, rfl, H.out⟩
end Go.Proofs.YtlhblhgbpaipaaaGreat.Pl

/- PollSorted -/
namespace Go.Proofs.YtlhblhgbpaipaaaGreat.Pl
open Go.RowKit Go.Shelf
open Go.Proofs.YtlhblhgbpaipaaaGreat.MapU
set_option linter.unusedVariables false

set_option maxRecDepth 100000 in
set_option maxHeartbeats 1000000 in
theorem ins0_is (a : Option Addr) (cap : Nat) (w : World) : Calls Tryz.prog 90 #[.slice a 0 cap, .int .i64 0, .int .i64 0] w fun e w' => e = .returned (.tuple #[]) ∧ w = w' := by
  go_enter Tryz.func90, Tryz.ntmps90
  go_wp2
  go_loopw [6] (fun v wr => v = .int .i64 1 ∧ w = wr) (fun _ _ => 0)
  case atStart => exact ⟨rfl, rfl⟩
  case round =>
    obtain ⟨rfl, rfl⟩ := hrel
    go_wp2
    go_end0
    exact ⟨rfl, rfl⟩
set_option maxRecDepth 100000 in
set_option maxHeartbeats 1000000 in
theorem pdq0_is (a : Option Addr) (cap : Nat) (w : World) : Calls Tryz.prog 84 #[.slice a 0 cap, .int .i64 0, .int .i64 0, .int .i64 0] w fun e w' => e = .returned (.tuple #[]) ∧ w = w' := by
  go_enter Tryz.func84, Tryz.ntmps84
  go_wp2
  go_loopw [1, 2, 3, 8, 9] (fun x y z u v wr => x = .int .i64 0 ∧ y = .int .i64 0 ∧ z = .int .i64 0 ∧ u = .bool true ∧ v = .bool true ∧ w = wr) (fun _ _ _ _ _ _ => 0)
  case atStart => exact ⟨rfl, rfl, rfl, rfl, rfl, rfl⟩
  case round =>
    obtain ⟨rfl, rfl, rfl, rfl, rfl, rfl⟩ := hrel
    go_wp2_with fail
    refine (ins0_is a cap _).mono ?_
    rintro e w1 ⟨rfl, rfl⟩
    go_wp2_with fail
    refine bodyPost_ret (results_none rfl _ _ _) rfl ?_
    exact ⟨rfl, rfl⟩
set_option maxRecDepth 100000 in
set_option maxHeartbeats 1000000 in
theorem sort0_is (a : Option Addr) (cap : Nat) (w : World) : Calls Tryz.prog 76 #[.slice a 0 cap] w fun e w' => e = .returned (.tuple #[]) ∧ w = w' := by
  go_enter Tryz.func76, Tryz.ntmps76
  go_wp2_with fail
  refine (So.len_is 0 (by decide) _).mono ?_
  rintro e w1 ⟨rfl, rfl⟩
  go_wp2_with fail
  refine (pdq0_is a cap _).mono ?_
  rintro e w1 ⟨rfl, rfl⟩
  go_wp2
  go_end0
  exact ⟨rfl, rfl⟩
open Go.Sort in
set_option maxRecDepth 100000 in
set_option maxHeartbeats 1000000 in
theorem sort_is {b cap n : Nat} {d : Array Int} {w : World} (hn : d.size = n) (hH : Holds (Value.int .u16) w b 0 d) (hbw : b < w.heap.size) (hsz : n < 1000000) :
    Calls Tryz.prog 76 #[.slice (some ⟨b, 0, none⟩) n cap] w fun e w' => e = .returned (.tuple #[]) ∧ ∃ d', d'.size = n ∧ PermIn 0 n d d' ∧ SortedIn ltInt 0 n d' ∧ So.Row w b 0 d' w' := by
  have hl : bitsLen n ≤ 62 := (bitsLen_le_iff n 62).2 (by omega)
  have HL := Lib.hid (And.intro hH hn)
  clear hH hn
  go_enter Tryz.func76, Tryz.ntmps76
  go_wp2_with fail
  refine (So.len_is n (by omega) _).mono ?_
  rintro e w1 ⟨rfl, rfl⟩
  go_wp2_with fail
  refine (So.pdq_is (n + 1) (lo := 0) (hi := n) (by omega) HL.out.2 HL.out.1 hbw (Nat.zero_le _) (Nat.le_refl _) (by omega) (by omega) (.inl rfl)).mono ?_
  rintro e w1 ⟨rfl, d', h1, h2, h3, h4⟩
  have H := Lib.hid (And.intro h1 (And.intro h2 (And.intro h3 h4)))
  clear h1 h2 h3 h4
  go_wp2
  go_end0
  exact ⟨rfl, d', H.out⟩

/-- The value is a slice that reads as these numbers, in a block from lo on. -/
def Nums (w : World) (lo : Nat) (v : Value) (s : List Int) : Prop :=
  ∃ a cap, v = .slice a s.length cap ∧ s.length ≤ cap ∧ ∀ i x, s[i]? = some x → ∃ g, a = some ⟨g, 0, none⟩ ∧ lo ≤ g ∧ g < w.heap.size ∧ w.cell? ⟨g, i, none⟩ = some (.int .u16 x)
theorem Nums.kept {w w' : World} {lo : Nat} {v : Value} {s : List Int} (h : Nums w lo v s) (hs : w.heap.size ≤ w'.heap.size) (hb : ∀ k, lo ≤ k → k < w.heap.size → w'.heap[k]? = w.heap[k]?) : Nums w' lo v s := by
  obtain ⟨a, cap, h1, h2, h3⟩ := h
  refine ⟨a, cap, h1, h2, fun i x hi => ?_⟩
  obtain ⟨g, e1, e2, e3, e4⟩ := h3 i x hi
  exact ⟨g, e1, e2, Nat.lt_of_lt_of_le e3 hs, (World.cell?_of_block (a := ⟨g, i, none⟩) (hb g e2 e3)).trans e4⟩

open Go.Sort in
theorem sorted_lt {n : Nat} {d d' : Array Int} {ks : List Int} (hd : d = ks.toArray) (hn : ks.length = n) (hnd : ks.Nodup) (hs : d'.size = n) (hp : PermIn 0 n d d') (ho : SortedIn ltInt 0 n d') : d'.toList.Perm ks ∧ d'.toList.Pairwise (· < ·) := by
  subst hd
  have hperm : d'.toList.Perm ks := by
    have h := hp.2.2
    rw [Array.extract_eq_self_of_le (by omega), Array.extract_eq_self_of_le (by simp; omega)] at h
    simpa using h
  refine ⟨hperm, ?_⟩
  have hnd' : d'.toList.Nodup := hperm.nodup_iff.2 hnd
  rw [List.pairwise_iff_getElem]
  intro i j hi hj hij
  have h1 := ho i j (Nat.zero_le _) hij (by simpa [hs] using hj)
  have hi' : i < d'.size := by simpa using hi
  have hj' : j < d'.size := by simpa using hj
  simp only [getElem!_pos, hi', hj', ltInt, decide_eq_false_iff_not, Int.not_lt] at h1
  have hne : d'.toList[i] ≠ d'.toList[j] := fun e => by have := (List.getElem_inj hnd').1 e; omega
  simp only [Array.getElem_toList] at hne ⊢
  omega

set_option maxRecDepth 100000 in
set_option maxHeartbeats 1000000 in
theorem sorted_is (Bm b : Nat) (l : List (Int × Value)) (hbig : l.length ≤ 2000) (w : World) (hBm : Bm < w.heap.size) (hc : w.cell? ⟨Bm, 0, none⟩ = some (.map (some b))) (hm : IsMap w b l) :
    Calls Tryz.prog 63 #[.func (.func KEYS) #[] #[.pointer (some ⟨Bm, 0, none⟩)]] w fun e w' =>
      ∃ (v : Value) (s : List Int), e = .returned v ∧ s.Perm (l.map (·.1)) ∧ s.Pairwise (· < ·) ∧ Nums w' w.heap.size v s ∧ Below w.heap.size w w' := by
  have hnd := hm.nodup
  have HN := Lib.hid hnd
  clear hnd
  go_enter Tryz.func63, Tryz.ntmps63
  go_wp2_with fail
  refine (collect_is Bm b l hbig w hBm hc hm).mono ?_
  rintro e w1 ⟨v, ks, rfl, hp, hr, hb⟩
  have hksn : ks.Nodup := hp.nodup_iff.2 HN.out
  have hkl : ks.length ≤ 2000 := by have := hp.length_eq; simp at this; omega
  rcases hr.2 with ⟨rfl, h0⟩ | ⟨g, cap, cur, rfl, h1, h2, h3, h4, h5, h6⟩
  · have hk0 : ks = [] := List.length_eq_zero_iff.1 h0
    subst hk0
    have H := Lib.hid (And.intro hp hb)
    clear hp hb hr hksn hkl h0
    go_wp2_with fail
    refine (sort0_is none 0 _).mono ?_
    rintro e w2 ⟨rfl, rfl⟩
    go_wp2
    go_ret
    exact ⟨_, [], rfl, H.out.1, List.Pairwise.nil, ⟨none, 0, rfl, Nat.le_refl _, fun i x hi => by simp at hi⟩, H.out.2⟩
  · have hlt := (Array.getElem?_eq_some_iff.1 h2).1
    have hH : Go.Sort.Holds (Value.int .u16) w1 g 0 ks.toArray := by
      intro j hj
      have hj' : j < ks.length := by simpa using hj
      rw [Nat.zero_add]
      refine ⟨?_, World.ownsRow.frozenAt hr j⟩
      rw [World.ownsRow.cellAt hr j (by simpa using hj')]
      simp [hj']
    have H := Lib.hid (And.intro hp (And.intro hb (And.intro h3 (And.intro h1 hksn))))
    have hn : ks.toArray.size = ks.length := by simp
    clear hp hb hr hksn h2 h3 h4 h5 h6
    go_wp2_with fail
    refine (sort_is hn hH hlt (by omega)).mono ?_
    rintro e w2 ⟨rfl, d', e1, e2, e3, e4⟩
    obtain ⟨p1, p2⟩ := sorted_lt rfl rfl H.out.2.2.2.2 e1 e2 e3
    have hdl : d'.toList.length = ks.length := by simpa using e1
    have hNums : Nums w2 w.heap.size (.slice (some ⟨g, 0, none⟩) d'.toList.length cap) d'.toList := ⟨_, cap, rfl, by rw [hdl]; exact H.out.2.2.1, fun i x hi => ⟨g, rfl, H.out.2.2.2.1, Nat.lt_of_lt_of_le hlt e4.grown.size, by
      have hi' := (List.getElem?_eq_some_iff.1 hi).1
      have h := e4.cell i (by simpa using hi')
      rw [Nat.zero_add] at h
      rw [h]
      have := (List.getElem?_eq_some_iff.1 hi).2
      simp at hi'
      simp [hi']
      simpa using this⟩⟩
    rw [hdl] at hNums
    have HB := Lib.hid (H.out.2.1.grown e4.grown H.out.2.1.size (fun k e => by cases e; exact H.out.2.2.2.1))
    have HF := Lib.hid (And.intro (p1.trans H.out.1) (And.intro p2 hNums))
    clear p1 p2 hNums e1 e2 e3 e4
    go_wp2
    go_ret
    exact ⟨_, d'.toList, rfl, HF.out.1, HF.out.2.1, HF.out.2.2, HB.out⟩
end Go.Proofs.YtlhblhgbpaipaaaGreat.Pl

/- PollTake -/
namespace Go.Proofs.YtlhblhgbpaipaaaGreat.Pl
open Go.RowKit
set_option linter.unusedVariables false
set_option linter.unusedSimpArgs false

/-- Of rising descriptors the first that is due. -/
def firstDue (F : List (Int × St)) (s : List Int) : Option Int := s.find? fun fd => (stOf F fd).waits && (stOf F fd).ready
theorem find_take {p : Int → Bool} : ∀ {s : List Int} {i : Nat} {x : Int}, (∀ j y, j < i → s[j]? = some y → p y = false) → s[i]? = some x → p x = true → s.find? p = some x
  | [], _, _, _, h, _ => by simp at h
  | y :: t, 0, x, _, h, hp => by
    have : y = x := by simpa using h
    subst this; simp [hp]
  | y :: t, i + 1, x, hb, h, hp => by
    have h0 := hb 0 y (by omega) rfl
    rw [List.find?_cons_of_neg (by simp [h0])]
    exact find_take (i := i) (fun j z hj hz => hb (j + 1) z (by omega) (by simpa using hz)) (by simpa using h) hp
theorem find_none {p : Int → Bool} {s : List Int} (h : ∀ j y, j < s.length → s[j]? = some y → p y = false) : s.find? p = none := by
  rw [List.find?_eq_none]
  intro x hx
  obtain ⟨i, hi, rfl⟩ := List.getElem_of_mem hx
  simpa using h i _ hi (List.getElem?_eq_getElem hi)
section
variable {w : World} {base pb fb wb : Nat} {F : List (Int × St)} {G : List (Int × Int)}
set_option maxRecDepth 100000 in
set_option maxHeartbeats 2000000 in
theorem take_is (h : IsPl w base pb fb wb F G) (hbig : F.length ≤ 2000) : Calls Tryz.prog 47 #[.pointer (some ⟨pb, 0, none⟩)] w fun e w' => ∃ s : List Int, s.Perm (F.map (·.1)) ∧ s.Pairwise (· < ·) ∧
    ((firstDue F s = none ∧ e = .returned (.tuple #[.int .u16 0, .int .i64 0, .bool false]) ∧ w.grownBy w' none) ∨
     ∃ fd, firstDue F s = some fd ∧ e = .returned (.tuple #[.int .u16 fd, .int .i64 (stOf F fd).g, .bool true]) ∧ IsPl w' base pb fb wb (adel F fd) (adel G (stOf F fd).g) ∧ PFr w w' fb wb) := by
  have c0 := h.c0
  have H := Lib.hid h
  have hlt := h.lt.1
  clear h
  go_enter Tryz.func47, Tryz.ntmps47
  go_wp2_with fail
  refine (keys_is fb _).mono ?_
  rintro e w1 ⟨rfl, rfl⟩
  go_wp2_with fail
  have hm1 : MapU.IsMap (w.alloc (.cells #[.map (some fb)] 99)) fb (enc St.val F) := H.out.fds.heap (heap_alloc_old _ _ H.out.lt.2.1)
  refine (sorted_is w.heap.size fb (enc St.val F) (by rw [enc_len]; exact hbig) _ (by simp) (cell_of_row _ _ 0 _ _ _ (heap_alloc_new _ _)) hm1).mono ?_
  rintro e w2 ⟨v, s, rfl, hp, hsort, hnum, hb⟩
  have hg2 : w.grownBy w2 none := grown_none (World.grownBy_alloc w (.cells #[.map (some fb)] 99) none) ⟨hb.os, hb.tape, hb.output, hb.size, fun k hk _ => hb.block k hk⟩
  rw [enc_keys] at hp
  obtain ⟨a, cap, rfl, hcap, _⟩ := id hnum
  have K := Lib.hid (And.intro hp (And.intro hsort (And.intro hnum hg2)))
  have HP := Lib.hid (H.out.grown hg2)
  have hsl : s.length ≤ 2000 := by have := K.out.1.length_eq; simp at this; omega
  have hcap2 : (s.length : Int) ≤ (cap : Int) := by omega
  clear hm1 hp hsort hnum hb hg2 c0 hlt
  go_wp2_with fail
  go_loopw [6, 7, 15] (fun _ _ vi wr => ∃ k : Nat, k ≤ s.length ∧ vi = .int .i64 k ∧ (∀ j y, j < k → s[j]? = some y → ((stOf F y).waits && (stOf F y).ready) = false) ∧ w2.grownBy wr none) (fun _ _ vi _ => s.length - (intOf vi).toNat)
  case atStart => exact ⟨0, Nat.zero_le _, rfl, fun j y hj => absurd hj (Nat.not_lt_zero _), ⟨rfl, rfl, rfl, Nat.le_refl _, fun _ _ _ => rfl⟩⟩
  case round =>
    obtain ⟨k, hk, rfl, hno, hg⟩ := hrel
    have HN := Lib.hid (And.intro hno hg)
    have HR := Lib.hid (HP.out.grown hg)
    have hnum : Nums wr (w.alloc (.cells #[.map (some fb)] 99)).heap.size (.slice a s.length cap) s := K.out.2.2.1.kept hg.size (fun j _ hj => hg.block j hj (by simp))
    clear hno hg
    by_cases hlt : k < s.length
    · obtain ⟨x, hx⟩ : ∃ x, s[k]? = some x := ⟨_, List.getElem?_eq_getElem hlt⟩
      obtain ⟨g, rfl, hcell⟩ : ∃ g, a = some ⟨g, 0, none⟩ ∧ wr.cell? ⟨g, k, none⟩ = some (.int .u16 x) := by
        obtain ⟨a2, c2, e, _, h⟩ := hnum
        obtain ⟨rfl, _, _⟩ := Value.slice.inj e
        obtain ⟨g, h1, _, _, h2⟩ := h k x hx
        exact ⟨g, h1, h2⟩
      have HX := Lib.hid hx
      have c0 := HR.out.c0
      have hltp := HR.out.lt.1
      have HL := Lib.hid (look_st F x)
      obtain ⟨sg, sw, sr, hst⟩ : ∃ sg sw sr, stOf F x = ⟨sg, sw, sr⟩ := ⟨_, _, _, rfl⟩
      have HST := Lib.hid hst
      rw [hst] at HL
      have HA := Lib.hid (World.grownBy_alloc wr (.cells #[.int .i64 sg, .bool sw, .bool sr] TS) none)
      have HB := Lib.hid (heap_alloc_new wr (.cells #[.int .i64 sg, .bool sw, .bool sr] TS))
      have hkc : (k : Int) < (s.length : Int) := by omega
      clear hx hst hnum
      have hcase : (sw && sr) = true ∨ (sw && sr) = false := by cases (sw && sr) <;> simp
      rcases hcase with hdue | hdue
      · obtain ⟨rfl, rfl⟩ : sw = true ∧ sr = true := by simpa using hdue
        clear hdue
        go_wp2_with (first
          | (at_lookup; refine MapU.wpList_look rfl _ _ 99 37 TS rfl Tryz.underlying99 Tryz.underlying37 HR.out.fds rfl x rfl (zeroS _) (St.val ⟨sg, true, true⟩) HL.out ?_; unfold St.val)
          | (refine MapU.wpList_mdel rfl _ _ 99 37 TS rfl Tryz.underlying99 Tryz.underlying37 (HR.out.grown HA.out).fds rfl x rfl ?_; intro w3 hm3 hg3; rw [enc_delU] at hm3; have HP3 := Lib.hid ((HR.out.grown HA.out).putF hm3 hg3); have HG3 := Lib.hid hg3; have HS3 := Lib.hid ((hg3.block wr.heap.size (by simp) (fun e => by have := Option.some.inj e; have := HR.out.lt.2.1; omega)).trans HB.out); clear hm3 hg3; have c1 := HP3.out.c1; have d0 : w3.cell? ⟨wr.heap.size, 0, none⟩ = some (.int .i64 sg) := cell_of_row _ _ 0 _ _ _ HS3.out))
        refine wp_region_still_tail 6 (by kernel_rfl) (by kernel_rfl) ?_
        simp only [List.take_succ_cons, List.take_zero, List.drop_succ_cons, List.drop_zero]
        change wpStill _ _ w3.drew _ _ _
        repeat still_step
        refine wpStill_nil ?_
        have hdr : w3.grownBy w3.drew none := ⟨rfl, rfl, rfl, Nat.le_refl _, fun _ _ _ => rfl⟩
        have HP4 := Lib.hid HP3.out.drew
        have HD := Lib.hid hdr
        clear hdr c0 c1 d0 hcell
        go_wp2_with (refine MapI.wpList_mdel rfl _ _ 100 3 37 rfl Tryz.underlying100 Tryz.underlying3 HP4.out.who rfl sg rfl ?_; intro w5 hm5 hg5; rw [enc_del] at hm5; have HP5 := Lib.hid (HP4.out.putG hm5 hg5); have HG5 := Lib.hid hg5; have HS5 := Lib.hid ((hg5.block wr.heap.size (Array.getElem?_eq_some_iff.1 HS3.out).1 (fun e => by have := Option.some.inj e; have := HR.out.lt.2.2; omega)).trans HS3.out); clear hm5 hg5; have d0 : w5.cell? ⟨wr.heap.size, 0, none⟩ = some (.int .i64 sg) := cell_of_row _ _ 0 _ _ _ HS5.out)
        go_quiet (fail)
        go_wp2_with fail
        have hP6 : IsPl (w5.drewN nq) base pb fb wb (adel F x) (adel G sg) := HP5.out.kept rfl rfl rfl
        have hfd : firstDue F s = some x := find_take HN.out.1 HX.out (by rw [HST.out]; rfl)
        have hfr : PFr w (w5.drewN nq) fb wb := ((PFr.of (grown_none K.out.2.2.2 (grown_none HN.out.2 HA.out)) (.inl rfl)).trans ((PFr.of HG3.out (.inr (.inl rfl))).trans ((PFr.of HD.out (.inl rfl)).trans (PFr.of HG5.out (.inr (.inr rfl)))))).trans (PFr.of (w := w5) (r := none) ⟨rfl, rfl, rfl, Nat.le_refl _, fun _ _ _ => rfl⟩ (.inl rfl))
        have HZ := Lib.hid (And.intro hP6 (And.intro hfd hfr))
        clear hP6 hfd hfr d0
        refine bodyPost_ret (results_tmp3 rfl _ _ _) rfl ?_
        exact ⟨s, K.out.1, K.out.2.1, .inr ⟨x, HZ.out.2.1, by rw [HST.out]; rfl, by rw [HST.out]; exact HZ.out.1, HZ.out.2.2⟩⟩
      · rcases (show sw = false ∨ (sw = true ∧ sr = false) by cases sw <;> simp_all) with rfl | ⟨rfl, rfl⟩
        · go_wp2_with (at_lookup; refine MapU.wpList_look rfl _ _ 99 37 TS rfl Tryz.underlying99 Tryz.underlying37 HR.out.fds rfl x rfl (zeroS _) (St.val ⟨sg, false, sr⟩) HL.out ?_; unfold St.val)
          go_roundw
          case rel => exact ⟨k + 1, by omega, by go_num, fun j y hj hy => by
            by_cases hjk : j = k
            · subst hjk; rw [HX.out] at hy; cases hy; rw [HST.out]; rfl
            · exact HN.out.1 j y (by omega) hy, grown_none HN.out.2 HA.out⟩
          case measure => simp [intOf] <;> omega
        · go_wp2_with (at_lookup; refine MapU.wpList_look rfl _ _ 99 37 TS rfl Tryz.underlying99 Tryz.underlying37 HR.out.fds rfl x rfl (zeroS _) (St.val ⟨sg, true, false⟩) HL.out ?_; unfold St.val)
          go_roundw
          case rel => exact ⟨k + 1, by omega, by go_num, fun j y hj hy => by
            by_cases hjk : j = k
            · subst hjk; rw [HX.out] at hy; cases hy; rw [HST.out]; rfl
            · exact HN.out.1 j y (by omega) hy, grown_none HN.out.2 HA.out⟩
          case measure => simp [intOf] <;> omega
    · obtain rfl : k = s.length := by omega
      have hfd : firstDue F s = none := find_none HN.out.1
      have HZ := Lib.hid hfd
      clear hfd hnum
      go_wp2_with fail
      go_ret3
      exact ⟨s, K.out.1, K.out.2.1, .inl ⟨HZ.out, rfl, grown_none K.out.2.2.2 HN.out.2⟩⟩
end
end Go.Proofs.YtlhblhgbpaipaaaGreat.Pl
