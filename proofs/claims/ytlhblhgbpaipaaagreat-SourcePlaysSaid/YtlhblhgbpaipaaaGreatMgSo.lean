import Derived.Test.YtlhblhgbpaipaaaGreatRows
import Derived.WalkKit
import Derived.CellFam
import Derived.Sort.AssemblyPlain
import Derived.Sort.Row
import Derived.Laws.AppendOwn
import Derived.Lib.Hide
import Derived.Deep.QuietTactic
import Derived.BigQuiet
import Derived.BigRegion
import Derived.RegionTactic
import Derived.IntWalk
/- SoBase -/
namespace Go.Proofs.YtlhblhgbpaipaaaGreat.So
open Go.RowKit Go.Sort
set_option linter.unusedVariables false

/-- The row of numbers d lies in block b from place off on; nothing besides that block is other than in w0 (blocks may have been added). -/
structure Row (w0 : World) (b off : Nat) (d : Array Int) (w : World) : Prop where
  holds : Holds (Value.int .u16) w b off d
  grown : w0.grownBy w (some b)

theorem Row.cell {w0 w : World} {b off : Nat} {d : Array Int} (h : Row w0 b off d w) (t : Nat) (ht : t < d.size) : w.cell? ⟨b, off + t, none⟩ = some (.int .u16 d[t]!) := (h.holds t ht).1
theorem Row.froz {w0 w : World} {b off : Nat} {d : Array Int} (h : Row w0 b off d w) (t : Nat) (ht : t < d.size) : w.frozen? ⟨b, off + t, none⟩ = false := (h.holds t ht).2
theorem Row.drewN {w0 w : World} {b off : Nat} {d : Array Int} (h : Row w0 b off d w) (q : Nat) : Row w0 b off d (w.drewN q) :=
  ⟨h.holds, ⟨h.grown.os, h.grown.tape, h.grown.output, h.grown.size, h.grown.block⟩⟩
theorem Row.drew {w0 w : World} {b off : Nat} {d : Array Int} (h : Row w0 b off d w) : Row w0 b off d w.drew :=
  ⟨h.holds, ⟨h.grown.os, h.grown.tape, h.grown.output, h.grown.size, h.grown.block⟩⟩
theorem grownBy_trans {a b c : World} {r : Option Nat} (h : a.grownBy b r) (k : b.grownBy c r) : a.grownBy c r :=
  ⟨k.os.trans h.os, k.tape.trans h.tape, k.output.trans h.output, Nat.le_trans h.size k.size, fun j hj hne => (k.block j (Nat.lt_of_lt_of_le hj h.size) hne).trans (h.block j hj hne)⟩
theorem Row.trans {w0 w1 w2 : World} {b off : Nat} {d e : Array Int} (h : Row w0 b off d w1) (k : Row w1 b off e w2) : Row w0 b off e w2 := ⟨k.holds, grownBy_trans h.grown k.grown⟩
theorem Row.here {w0 w : World} {b off : Nat} {d : Array Int} (h : Row w0 b off d w) : Row w b off d w := ⟨h.holds, ⟨rfl, rfl, rfl, Nat.le_refl _, fun _ _ _ => rfl⟩⟩
theorem Row.cong {w0 w : World} {b off : Nat} {d e : Array Int} (h : Row w0 b off d w) (hd : d = e) : Row w0 b off e w := hd ▸ h
/-- A store into a place of the row. -/
theorem Row.set {w0 w : World} {b off : Nat} {d : Array Int} (h : Row w0 b off d w) (i : Nat) (hi : i < d.size) (x : Int) : Row w0 b off (d.setIfInBounds i x) (w.setCell ⟨b, off + i, none⟩ (.int .u16 x)) := by
  obtain ⟨c, e, fr, hb, _⟩ := cells_of_cell? (h.cell i hi)
  refine ⟨fun t ht => ?_, ?_⟩
  · have ht' : t < d.size := by simpa using ht
    rw [setCell_eq]
    refine ⟨?_, by rw [frozen?_mapBlock]; exact h.froz t ht'⟩
    rw [cell?_mapBlock w b (off + t) _ hb]
    have h0 : c[off + t]? = some (.int .u16 d[t]!) := by
      have := h.cell t ht'
      simp [World.cell?, hb] at this
      simpa using this
    by_cases hti : t = i
    · subst hti
      rw [getElem!_set_same d t x hi]
      have hl := (Array.getElem?_eq_some_iff.1 h0).1
      simp [hl]
    · rw [getElem!_set_other d i t x hti]
      rw [Array.getElem?_setIfInBounds_ne (by omega)]
      exact h0
  · refine grownBy_trans h.grown ⟨rfl, rfl, rfl, by simp, fun k hk hne => ?_⟩
    exact heap_setCell_other w _ _ _ (fun e => hne (by rw [e]))
/-- Two places of the row change places. -/
theorem Row.swap {w0 w : World} {b off : Nat} {d : Array Int} (h : Row w0 b off d w) (i j : Nat) (hi : i < d.size) (hj : j < d.size) (x y : Int) (hx : x = d[j]!) (hy : y = d[i]!) :
    Row w0 b off (swp d i j) ((w.setCell ⟨b, off + i, none⟩ (.int .u16 x)).setCell ⟨b, off + j, none⟩ (.int .u16 y)) := by
  subst hx hy
  exact (h.set i hi _).set j (by simpa using hj) _

set_option maxHeartbeats 1000000 in
theorem nan_is (x : Int) (w : World) : Calls Tryz.prog 109 #[.int .u16 x] w fun e w' => e = .returned (.bool false) ∧ w = w' := by
  go_enter Tryz.func109, Tryz.ntmps109
  go_wp2
  go_ret
  exact ⟨by simp, rfl⟩
set_option maxHeartbeats 1000000 in
theorem less_is (x y : Int) (w : World) : Calls Tryz.prog 96 #[.int .u16 x, .int .u16 y] w fun e w' => e = .returned (.bool (ltInt x y)) ∧ w' = w := by
  go_enter Tryz.func96, Tryz.ntmps96
  go_wp2_with (go_at_call 109; refine (nan_is _ _).mono ?_; rintro e w' ⟨rfl, rfl⟩)
  go_ret
  exact ⟨rfl, rfl⟩
end Go.Proofs.YtlhblhgbpaipaaaGreat.So

/- SoIns -/
namespace Go.Proofs.YtlhblhgbpaipaaaGreat.So
open Go.RowKit Go.Sort
set_option linter.unusedVariables false

section
variable (lt : Int → Int → Bool)
theorem inner_go {a j : Nat} {d : Array Int} (hj : a < j) (hl : lt d[j]! d[j - 1]! = true) : insInner lt a j d = insInner lt a (j - 1) (swp d j (j - 1)) := by
  cases j with
  | zero => omega
  | succ k => rw [insInner, if_pos (by simpa using ⟨hj, hl⟩)]; rfl
theorem inner_end {a j : Nat} {d : Array Int} (h : j ≤ a ∨ lt d[j]! d[j - 1]! = false) : insInner lt a j d = d := by
  cases j with
  | zero => rfl
  | succ k =>
    rw [insInner, if_neg]
    intro hc
    simp only [Bool.and_eq_true, decide_eq_true_eq] at hc
    rcases h with h | h
    · omega
    · rw [show k + 1 - 1 = k from rfl] at h; rw [h] at hc; exact absurd hc.2 (by decide)
theorem outer_go {a b i : Nat} {d : Array Int} (h : i < b) : insOuter lt a b i d = insOuter lt a b (i + 1) (insInner lt a i d) := by rw [insOuter, if_pos h]
theorem outer_end {a b i : Nat} {d : Array Int} (h : ¬ i < b) : insOuter lt a b i d = d := by rw [insOuter, if_neg h]
end

set_option maxRecDepth 100000 in
set_option maxHeartbeats 2000000 in
theorem ins_is {b off cap n lo hi : Nat} {d : Array Int} {w : World} (hn : d.size = n) (hH : Holds (Value.int .u16) w b off d) (hlo : lo ≤ hi) (hhi : hi ≤ n) (hsz : n < 4611686018427387904) :
    Calls Tryz.prog 90 #[.slice (some ⟨b, off, none⟩) n cap, .int .i64 lo, .int .i64 hi] w fun e w' => e = .returned (.tuple #[]) ∧ Row w b off (insertionSort ltInt d lo hi) w' := by
  have H0 := Lib.hid (And.intro hH hn)
  clear hH hn
  go_enter Tryz.func90, Tryz.ntmps90
  go_wp2
  go_loopw [6] (fun vi wr => ∃ (i : Nat) (dk : Array Int), vi = .int .i64 i ∧ lo < i ∧ i ≤ hi + 1 ∧ dk.size = n ∧ Row w b off dk wr ∧ insOuter ltInt lo hi i dk = insOuter ltInt lo hi (lo + 1) d) (fun vi _ => hi + 1 - (intOf vi).toNat)
  case atStart => exact ⟨lo + 1, d, by go_num, by omega, by omega, H0.out.2, ⟨H0.out.1, ⟨rfl, rfl, rfl, Nat.le_refl _, fun _ _ _ => rfl⟩⟩, rfl⟩
  case round =>
    clear H0
    obtain ⟨i, dk, rfl, hai, hib, hsk, hR, hO⟩ := hrel
    have HK := Lib.hid (And.intro hsk (And.intro hR hO))
    clear hsk hR hO
    by_cases hlt : i < hi
    · go_wp2
      obtain ⟨wo, hwo⟩ : ∃ wo : World, wo = wr := ⟨_, rfl⟩
      rw [← hwo] at HK
      have HW := Lib.hid hwo
      clear hwo
      go_loopw [7] (fun vj wr2 => ∃ (j : Nat) (dj : Array Int), vj = .int .i64 j ∧ lo ≤ j ∧ j ≤ i ∧ dj.size = n ∧ Row w b off dj wr2 ∧ insInner ltInt lo j dj = insInner ltInt lo i dk) (fun vj _ => (intOf vj).toNat)
      case atStart => exact ⟨i, dk, rfl, by omega, Nat.le_refl _, HK.out.1, HW.out ▸ HK.out.2.1, rfl⟩
      case round =>
        obtain ⟨j, dj, rfl, haj, hji, hsj, hR2, hI⟩ := hrel
        obtain ⟨G, hG⟩ : ∃ G : Nat → Int, ∀ t, G t = dj[t]! := ⟨fun t => dj[t]!, fun _ => rfl⟩
        have hcw : ∀ t, t < n → wr.cell? ⟨b, off + t, none⟩ = some (.int .u16 (G t)) := fun t ht => by rw [hG]; exact hR2.cell t (by omega)
        have hfw : ∀ t, t < n → wr.frozen? ⟨b, off + t, none⟩ = false := fun t ht => hR2.froz t (by omega)
        have HR := Lib.hid (And.intro hR2 (And.intro hsj hI))
        have HG := Lib.hid hG
        clear hR2 hI hG hsj
        go_wp2
        by_cases hja : lo < j
        · go_quiet (first | (go_at_call 96; refine Calls.quiet_of_same (less_is _ _ _)))
          go_wp2
          · have hl : ltInt (G j) (G (j - 1)) = true := by assumption
            have HL := Lib.hid hl
            clear hl
            go_region
            all_goals go_wp2
            go_roundw
            case rel =>
              refine ⟨j - 1, swp dj j (j - 1), by congr 1; omega, by omega, by omega, by rw [size_swp]; exact HR.out.2.1, ?_, ?_⟩
              · exact ((HR.out.1.drewN nq).drew).swap j (j - 1) (by rw [HR.out.2.1]; omega) (by rw [HR.out.2.1]; omega) _ _ (HG.out _) (HG.out _)
              · rw [← HR.out.2.2, inner_go ltInt hja (by rw [← HG.out, ← HG.out]; exact HL.out)]
            case measure => simp [intOf]; omega
          · have hl : ltInt (G j) (G (j - 1)) = false := by assumption
            go_roundw
            case rel => exact ⟨i + 1, dj, by go_num, by omega, by omega, HR.out.2.1, HR.out.1.drewN nq, by rw [← HK.out.2.2, outer_go ltInt hlt, ← HR.out.2.2, inner_end ltInt (.inr (by rw [← HG.out, ← HG.out]; exact hl))]⟩
            case measure => simp [intOf]; omega
        · go_quiet (first | (go_at_call 96; refine Calls.quiet_of_same (less_is _ _ _)))
          go_wp2
          go_roundw
          case rel => exact ⟨i + 1, dj, by go_num, by omega, by omega, HR.out.2.1, HR.out.1.drewN nq, by rw [← HK.out.2.2, outer_go ltInt hlt, ← HR.out.2.2, inner_end ltInt (.inl (by omega))]⟩
          case measure => simp [intOf]; omega
    · go_wp2
      go_end0
      exact ⟨rfl, HK.out.2.1.cong (by unfold Sort.insertionSort; rw [← HK.out.2.2, outer_end ltInt hlt])⟩
end Go.Proofs.YtlhblhgbpaipaaaGreat.So

/- SoHeap -/
namespace Go.Proofs.YtlhblhgbpaipaaaGreat.So
open Go.RowKit Go.Sort
set_option linter.unusedVariables false

theorem rev_go {i j : Nat} {d : Array Int} (h : i < j) : reverseLoop i j d = reverseLoop (i + 1) (j - 1) (swp d i j) := by rw [reverseLoop, if_pos h]
theorem rev_end {i j : Nat} {d : Array Int} (h : ¬ i < j) : reverseLoop i j d = d := by rw [reverseLoop, if_neg h]

set_option maxRecDepth 100000 in
set_option maxHeartbeats 2000000 in
theorem rev_is {b off cap n lo hi : Nat} {d : Array Int} {w : World} (hn : d.size = n) (hH : Holds (Value.int .u16) w b off d) (hlo : lo < hi) (hhi : hi ≤ n) (hsz : n < 4611686018427387904) :
    Calls Tryz.prog 94 #[.slice (some ⟨b, off, none⟩) n cap, .int .i64 lo, .int .i64 hi] w fun e w' => e = .returned (.tuple #[]) ∧ Row w b off (reverseRange d lo hi) w' := by
  have H0 := Lib.hid (And.intro hH hn)
  clear hH hn
  go_enter Tryz.func94, Tryz.ntmps94
  go_wp2
  go_loopw [6, 7] (fun vi vj wr => ∃ (i j : Nat) (dk : Array Int), vi = .int .i64 i ∧ vj = .int .i64 j ∧ i ≤ j + 1 ∧ j < n ∧ dk.size = n ∧ Row w b off dk wr ∧ reverseLoop i j dk = reverseLoop lo (hi - 1) d) (fun vi vj _ => (intOf vj + 1 - intOf vi).toNat)
  case atStart => exact ⟨lo, hi - 1, d, rfl, by congr 1; omega, by omega, by omega, H0.out.2, ⟨H0.out.1, ⟨rfl, rfl, rfl, Nat.le_refl _, fun _ _ _ => rfl⟩⟩, rfl⟩
  case round =>
    clear H0
    obtain ⟨i, j, dk, rfl, rfl, hij, hjn, hsk, hR, hO⟩ := hrel
    obtain ⟨G, hG⟩ : ∃ G : Nat → Int, ∀ t, G t = dk[t]! := ⟨fun t => dk[t]!, fun _ => rfl⟩
    have hcw : ∀ t, t < n → wr.cell? ⟨b, off + t, none⟩ = some (.int .u16 (G t)) := fun t ht => by rw [hG]; exact hR.cell t (by omega)
    have hfw : ∀ t, t < n → wr.frozen? ⟨b, off + t, none⟩ = false := fun t ht => hR.froz t (by omega)
    have HK := Lib.hid (And.intro hsk (And.intro hR hO))
    have HG := Lib.hid hG
    clear hsk hR hO hG
    by_cases hlt : i < j
    · go_wp2
      go_region
      all_goals go_wp2
      go_roundw
      case rel => exact ⟨i + 1, j - 1, swp dk i j, by go_num, by congr 1; omega, by omega, by omega, by rw [size_swp]; exact HK.out.1, (HK.out.2.1.drew).swap i j (by rw [HK.out.1]; omega) (by rw [HK.out.1]; omega) _ _ (HG.out _) (HG.out _), by rw [← HK.out.2.2, rev_go hlt]⟩
      case measure => simp [intOf]; omega
    · go_wp2
      go_end0
      exact ⟨rfl, HK.out.2.1.cong (by unfold Sort.reverseRange; rw [← HK.out.2.2, rev_end hlt])⟩

section
variable (lt : Int → Int → Bool)
theorem sift_end {hi first r : Nat} {d : Array Int} (h : hi ≤ 2 * r + 1) : siftDown lt hi first r d = d := by rw [siftDown, dif_pos h]
theorem sift_right {hi first r : Nat} {d : Array Int} (h : 2 * r + 1 + 1 < hi) (hl : lt d[first + (2 * r + 1)]! d[first + (2 * r + 1) + 1]! = true) :
    siftDown lt hi first r d = if lt d[first + r]! d[first + (2 * r + 2)]! then siftDown lt hi first (2 * r + 2) (swp d (first + r) (first + (2 * r + 2))) else d := by
  rw [siftDown, dif_neg (by omega), if_pos (by simp [h, hl])]
  cases hb : lt d[first + r]! d[first + (2 * r + 2)]!
  · simp
  · simp [show 2 * r + 2 < hi by omega]
theorem sift_left {hi first r : Nat} {d : Array Int} (h0 : 2 * r + 1 < hi) (h : ¬ (2 * r + 1 + 1 < hi) ∨ lt d[first + (2 * r + 1)]! d[first + (2 * r + 1) + 1]! = false) :
    siftDown lt hi first r d = if lt d[first + r]! d[first + (2 * r + 1)]! then siftDown lt hi first (2 * r + 1) (swp d (first + r) (first + (2 * r + 1))) else d := by
  rw [siftDown, dif_neg (by omega), if_neg (by rcases h with h | h <;> simp [h])]
  cases hb : lt d[first + r]! d[first + (2 * r + 1)]! <;> simp
end

set_option maxRecDepth 100000 in
set_option maxHeartbeats 2000000 in
theorem sift_is {b off cap n lo hi first : Nat} {d : Array Int} {w : World} (hn : d.size = n) (hH : Holds (Value.int .u16) w b off d) (hlo : lo ≤ n) (hhi : first + hi ≤ n) (hsz : n < 1152921504606846976) :
    Calls Tryz.prog 104 #[.slice (some ⟨b, off, none⟩) n cap, .int .i64 lo, .int .i64 hi, .int .i64 first] w fun e w' => e = .returned (.tuple #[]) ∧ Row w b off (siftDown ltInt hi first lo d) w' := by
  have H0 := Lib.hid (And.intro hH hn)
  clear hH hn
  go_enter Tryz.func104, Tryz.ntmps104
  go_wp2
  go_loopw [8, 9] (fun vi _ wr => ∃ (r : Nat) (dk : Array Int), vi = .int .i64 r ∧ r ≤ n ∧ dk.size = n ∧ Row w b off dk wr ∧ siftDown ltInt hi first r dk = siftDown ltInt hi first lo d) (fun vi _ _ => n - (intOf vi).toNat)
  case atStart => exact ⟨lo, d, rfl, by omega, H0.out.2, ⟨H0.out.1, ⟨rfl, rfl, rfl, Nat.le_refl _, fun _ _ _ => rfl⟩⟩, rfl⟩
  case round =>
    clear H0
    obtain ⟨r, dk, rfl, hrn, hsk, hR, hO⟩ := hrel
    obtain ⟨G, hG⟩ : ∃ G : Nat → Int, ∀ t, G t = dk[t]! := ⟨fun t => dk[t]!, fun _ => rfl⟩
    have hcw : ∀ t, t < n → wr.cell? ⟨b, off + t, none⟩ = some (.int .u16 (G t)) := fun t ht => by rw [hG]; exact hR.cell t (by omega)
    have hfw : ∀ t, t < n → wr.frozen? ⟨b, off + t, none⟩ = false := fun t ht => hR.froz t (by omega)
    have HK := Lib.hid (And.intro hsk (And.intro hR hO))
    have HG := Lib.hid hG
    clear hsk hR hO hG
    by_cases hend : hi ≤ 2 * r + 1
    · have he : (hi : Int) ≤ 2 * (r : Int) + 1 := by omega
      go_wp2
      go_end0
      exact ⟨rfl, HK.out.2.1.cong (by rw [← HK.out.2.2, sift_end ltInt hend])⟩
    · have he : ¬ (hi : Int) ≤ 2 * (r : Int) + 1 := by omega
      obtain ⟨c, hc⟩ : ∃ c : Nat, c = 2 * r + 1 := ⟨_, rfl⟩
      have hc2 : 2 * (r : Int) + 1 = (c : Int) := by omega
      have hw0 : IntKind.i64.wrap ((c : Int) + 1) = (c : Int) + 1 := by rw [IntKind.wrap_i64]; omega
      have hw1 : IntKind.i64.wrap ((first : Int) + (c : Int)) = (first : Int) + (c : Int) := by rw [IntKind.wrap_i64]; omega
      have hw2 : IntKind.i64.wrap ((first : Int) + (c : Int) + 1) = (first : Int) + (c : Int) + 1 := by rw [IntKind.wrap_i64]; omega
      have hw3 : IntKind.i64.wrap ((first : Int) + (r : Int)) = (first : Int) + (r : Int) := by rw [IntKind.wrap_i64]; omega
      have hw4 : IntKind.i64.wrap ((first : Int) + ((c : Int) + 1)) = (first : Int) + ((c : Int) + 1) := by rw [IntKind.wrap_i64]; omega
      have hi0 : (0 : Int) ≤ (first : Int) + (r : Int) := by omega
      have hi1 : (first : Int) + (r : Int) < (n : Int) := by omega
      have hi2 : (0 : Int) ≤ (first : Int) + (c : Int) := by omega
      have hi3 : (first : Int) + (c : Int) < (n : Int) := by omega
      have ht1 : ((first : Int) + (r : Int)).toNat = first + r := by omega
      have ht2 : ((first : Int) + (c : Int)).toNat = first + c := by omega
      have HC := Lib.hid hc
      have hcl : c < hi := by omega
      have hrc : r < c := by omega
      clear hc he hend
      go_wp2
      clear hc2
      by_cases hg : c + 1 < hi
      · have hg' : (c : Int) + 1 < (hi : Int) := by omega
        have hi4 : (0 : Int) ≤ (first : Int) + ((c : Int) + 1) := by omega
        have hi5 : (first : Int) + ((c : Int) + 1) < (n : Int) := by omega
        have ht3 : ((first : Int) + ((c : Int) + 1)).toNat = first + (c + 1) := by omega
        go_quiet (first | (go_at_call 96; refine Calls.quiet_of_same (less_is _ _ _)))
        go_wp2
        · have hl : ltInt (G (first + c)) (G (first + c + 1)) = true := by assumption
          have HL := Lib.hid hl
          clear hl
          have hR2 := HK.out.2.1.drewN nq
          clear hcw hfw
          generalize wr.drewN nq = W2 at *
          have hcw : ∀ t, t < n → W2.cell? ⟨b, off + t, none⟩ = some (.int .u16 (G t)) := fun t ht => by rw [HG.out]; exact hR2.cell t (by have := HK.out.1; omega)
          have hfw : ∀ t, t < n → W2.frozen? ⟨b, off + t, none⟩ = false := fun t ht => hR2.froz t (by have := HK.out.1; omega)
          have HR2 := Lib.hid hR2
          clear hR2
          go_quiet (first | (go_at_call 96; refine Calls.quiet_of_same (less_is _ _ _)))
          go_wp2
          · have hl2' : (!ltInt (G (first + r)) (G (first + c + 1))) = true := by assumption
            have hl2 : ltInt (G (first + r)) (G (first + (c + 1))) = false := by simpa [Nat.add_assoc] using hl2'
            refine bodyPost_ret (results_none rfl _ _ _) rfl ?_
            exact ⟨rfl, (HR2.out.drewN _).cong (by rw [← HK.out.2.2, (sift_right ltInt (show 2 * r + 1 + 1 < hi by have := HC.out; omega) (show ltInt dk[first + (2 * r + 1)]! dk[first + (2 * r + 1) + 1]! = true by rw [← HC.out, ← HG.out, ← HG.out]; exact HL.out)), show 2 * r + 2 = c + 1 by have := HC.out; omega, ← HG.out, ← HG.out, if_neg (by rw [hl2]; decide)])⟩
          · have hl2' : (!ltInt (G (first + r)) (G (first + c + 1))) = false := by assumption
            have hl2 : ltInt (G (first + r)) (G (first + (c + 1))) = true := by simpa [Nat.add_assoc] using hl2'
            clear hl2'
            have HL2 := Lib.hid hl2
            clear hl2
            go_region
            all_goals go_wp2
            go_roundw
            case rel =>
              refine ⟨(c + 1), swp dk (first + r) (first + (c + 1)), by first | rfl | go_num, by omega, by rw [size_swp]; exact HK.out.1, ?_, ?_⟩
              · exact ((HR2.out.drewN _).drew).swap (first + r) (first + (c + 1)) (by rw [HK.out.1]; omega) (by rw [HK.out.1]; omega) _ _ (HG.out _) (HG.out _)
              · rw [← HK.out.2.2, (sift_right ltInt (show 2 * r + 1 + 1 < hi by have := HC.out; omega) (show ltInt dk[first + (2 * r + 1)]! dk[first + (2 * r + 1) + 1]! = true by rw [← HC.out, ← HG.out, ← HG.out]; exact HL.out)), show 2 * r + 2 = c + 1 by have := HC.out; omega, ← HG.out, ← HG.out, if_pos HL2.out]
            case measure => simp [intOf]; omega
        · have hl : ltInt (G (first + c)) (G (first + c + 1)) = false := by assumption
          have HL := Lib.hid hl
          clear hl
          have hR2 := HK.out.2.1.drewN nq
          clear hcw hfw
          generalize wr.drewN nq = W2 at *
          have hcw : ∀ t, t < n → W2.cell? ⟨b, off + t, none⟩ = some (.int .u16 (G t)) := fun t ht => by rw [HG.out]; exact hR2.cell t (by have := HK.out.1; omega)
          have hfw : ∀ t, t < n → W2.frozen? ⟨b, off + t, none⟩ = false := fun t ht => hR2.froz t (by have := HK.out.1; omega)
          have HR2 := Lib.hid hR2
          clear hR2
          go_quiet (first | (go_at_call 96; refine Calls.quiet_of_same (less_is _ _ _)))
          go_wp2
          · have hl2' : (!ltInt (G (first + r)) (G (first + c))) = true := by assumption
            have hl2 : ltInt (G (first + r)) (G (first + c)) = false := by simpa [Nat.add_assoc] using hl2'
            refine bodyPost_ret (results_none rfl _ _ _) rfl ?_
            exact ⟨rfl, (HR2.out.drewN _).cong (by rw [← HK.out.2.2, (sift_left ltInt (show 2 * r + 1 < hi by have := HC.out; omega) (.inr (show ltInt dk[first + (2 * r + 1)]! dk[first + (2 * r + 1) + 1]! = false by rw [← HC.out, ← HG.out, ← HG.out]; exact HL.out))), ← HC.out, ← HG.out, ← HG.out, if_neg (by rw [hl2]; decide)])⟩
          · have hl2' : (!ltInt (G (first + r)) (G (first + c))) = false := by assumption
            have hl2 : ltInt (G (first + r)) (G (first + c)) = true := by simpa [Nat.add_assoc] using hl2'
            clear hl2'
            have HL2 := Lib.hid hl2
            clear hl2
            go_region
            all_goals go_wp2
            go_roundw
            case rel =>
              refine ⟨c, swp dk (first + r) (first + c), by first | rfl | go_num, by omega, by rw [size_swp]; exact HK.out.1, ?_, ?_⟩
              · exact ((HR2.out.drewN _).drew).swap (first + r) (first + c) (by rw [HK.out.1]; omega) (by rw [HK.out.1]; omega) _ _ (HG.out _) (HG.out _)
              · rw [← HK.out.2.2, (sift_left ltInt (show 2 * r + 1 < hi by have := HC.out; omega) (.inr (show ltInt dk[first + (2 * r + 1)]! dk[first + (2 * r + 1) + 1]! = false by rw [← HC.out, ← HG.out, ← HG.out]; exact HL.out))), ← HC.out, ← HG.out, ← HG.out, if_pos HL2.out]
            case measure => simp [intOf]; omega
      · have hg' : ¬ (c : Int) + 1 < (hi : Int) := by omega
        go_quiet (first | (go_at_call 96; refine Calls.quiet_of_same (less_is _ _ _)))
        go_wp2
        have hR2 := HK.out.2.1.drewN nq
        clear hcw hfw
        generalize wr.drewN nq = W2 at *
        have hcw : ∀ t, t < n → W2.cell? ⟨b, off + t, none⟩ = some (.int .u16 (G t)) := fun t ht => by rw [HG.out]; exact hR2.cell t (by have := HK.out.1; omega)
        have hfw : ∀ t, t < n → W2.frozen? ⟨b, off + t, none⟩ = false := fun t ht => hR2.froz t (by have := HK.out.1; omega)
        have HR2 := Lib.hid hR2
        clear hR2
        go_quiet (first | (go_at_call 96; refine Calls.quiet_of_same (less_is _ _ _)))
        go_wp2
        · have hl2' : (!ltInt (G (first + r)) (G (first + c))) = true := by assumption
          have hl2 : ltInt (G (first + r)) (G (first + c)) = false := by simpa [Nat.add_assoc] using hl2'
          refine bodyPost_ret (results_none rfl _ _ _) rfl ?_
          exact ⟨rfl, (HR2.out.drewN _).cong (by rw [← HK.out.2.2, (sift_left ltInt (show 2 * r + 1 < hi by have := HC.out; omega) (.inl (by have := HC.out; omega))), ← HC.out, ← HG.out, ← HG.out, if_neg (by rw [hl2]; decide)])⟩
        · have hl2' : (!ltInt (G (first + r)) (G (first + c))) = false := by assumption
          have hl2 : ltInt (G (first + r)) (G (first + c)) = true := by simpa [Nat.add_assoc] using hl2'
          clear hl2'
          have HL2 := Lib.hid hl2
          clear hl2
          go_region
          all_goals go_wp2
          go_roundw
          case rel =>
            refine ⟨c, swp dk (first + r) (first + c), by first | rfl | go_num, by omega, by rw [size_swp]; exact HK.out.1, ?_, ?_⟩
            · exact ((HR2.out.drewN _).drew).swap (first + r) (first + c) (by rw [HK.out.1]; omega) (by rw [HK.out.1]; omega) _ _ (HG.out _) (HG.out _)
            · rw [← HK.out.2.2, (sift_left ltInt (show 2 * r + 1 < hi by have := HC.out; omega) (.inl (by have := HC.out; omega))), ← HC.out, ← HG.out, ← HG.out, if_pos HL2.out]
          case measure => simp [intOf]; omega
end Go.Proofs.YtlhblhgbpaipaaaGreat.So
