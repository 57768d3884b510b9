/-
  The library's sort at uint16: heapSortOrdered.
-/
import Derived.Test.YtefpbfdbpckcmaaSoHeap
namespace Go.Proofs.Ytefpbfdbpckcmaa.So
open Go.RowKit Go.Sort
set_option linter.unusedVariables false

section
variable (lt : Int → Int → Bool)
theorem sift_size (hi first r : Nat) (d : Array Int) : (siftDown lt hi first r d).size = d.size := by
  fun_induction siftDown lt hi first r d <;> simp_all [size_swp]
theorem build_go {hi first k : Nat} {d : Array Int} : heapBuild lt hi first (k + 1) d = heapBuild lt hi first k (siftDown lt hi first k d) := rfl
theorem pop_go {first k : Nat} {d : Array Int} : heapPop lt first (k + 1) d = heapPop lt first k (siftDown lt k first 0 (swp d first (first + k))) := rfl
end
theorem sift0_is {b off cap n hi first : Nat} {d : Array Int} {w : World} (hn : d.size = n) (hH : Holds (Value.int .u16) w b off d) (hhi : first + hi ≤ n) (hsz : n < 1152921504606846976) :
    Calls Try.prog 49 #[.slice (some ⟨b, off, none⟩) n cap, .int .i64 0, .int .i64 hi, .int .i64 first] w fun e w' => e = .returned (.tuple #[]) ∧ Row w b off (siftDown ltInt hi first 0 d) w' :=
  sift_is (lo := 0) hn hH (Nat.zero_le _) hhi hsz

set_option maxRecDepth 100000 in
set_option maxHeartbeats 2000000 in
theorem heap_is {b off cap n lo hi : Nat} {d : Array Int} {w : World} (hn : d.size = n) (hH : Holds (Value.int .u16) w b off d) (hlo : lo < hi) (hhi : hi ≤ n) (hsz : n < 1152921504606846976) :
    Calls Try.prog 39 #[.slice (some ⟨b, off, none⟩) n cap, .int .i64 lo, .int .i64 hi] w fun e w' => e = .returned (.tuple #[]) ∧ Row w b off (heapSort ltInt d lo hi) w' := by
  have H0 := Lib.hid (And.intro hH hn)
  clear hH hn
  obtain ⟨l, hl⟩ : ∃ l : Nat, l = hi - lo := ⟨_, rfl⟩
  have hl2 : (hi : Int) - (lo : Int) = (l : Int) := by omega
  have hl0 : 0 < l := by omega
  have hl1 : lo + l = hi := by omega
  have HL := Lib.hid hl
  have HL1 := Lib.hid hl1
  clear hl hl1
  go_enter Try.func39, Try.ntmps39
  go_wp2
  go_loopw [9] (fun vi wr => ∃ (k : Nat) (dk : Array Int), vi = .int .i64 ((k : Int) - 1) ∧ k ≤ n ∧ dk.size = n ∧ Row w b off dk wr ∧ heapBuild ltInt l lo k dk = heapBuild ltInt l lo ((l - 1) / 2 + 1) d) (fun vi _ => (intOf vi + 1).toNat)
  case atStart => exact ⟨(l - 1) / 2 + 1, d, by congr 1; omega, by omega, H0.out.2, ⟨H0.out.1, ⟨rfl, rfl, rfl, Nat.le_refl _, fun _ _ _ => rfl⟩⟩, rfl⟩
  case round =>
    clear H0
    obtain ⟨k, dk, rfl, hkn, hsk, hR, hO⟩ := hrel
    have HK := Lib.hid (And.intro hsk (And.intro hR hO))
    clear hsk hR hO
    rcases k with _ | j
    · have e0 : ((0 : Nat) : Int) - 1 = -1 := rfl
      rw [e0]
      clear e0
      go_wp2
      go_loopw [10] (fun vi wr => ∃ (k : Nat) (dk : Array Int), vi = .int .i64 ((k : Int) - 1) ∧ k ≤ l ∧ dk.size = n ∧ Row w b off dk wr ∧ heapPop ltInt lo k dk = heapPop ltInt lo l (heapBuild ltInt l lo ((l - 1) / 2 + 1) d)) (fun vi _ => (intOf vi + 1).toNat)
      case atStart => exact ⟨l, dk, rfl, Nat.le_refl _, HK.out.1, HK.out.2.1, by rw [← HK.out.2.2]; rfl⟩
      case round =>
        clear HK
        obtain ⟨k, dj, rfl, hkl, hsk, hR, hO⟩ := hrel
        have HK := Lib.hid (And.intro hsk (And.intro hR hO))
        rcases k with _ | j
        · have e0 : ((0 : Nat) : Int) - 1 = -1 := rfl
          rw [e0]
          clear e0 hsk hR hO
          go_wp2
          go_end0
          exact ⟨rfl, HK.out.2.1.cong (by unfold Sort.heapSort; rw [← HL.out, ← HK.out.2.2]; rfl)⟩
        · have e0 : ((j + 1 : Nat) : Int) - 1 = (j : Int) := by omega
          rw [e0]
          have hfj : lo + j < n := by have := HL1.out; omega
          have hw1 : IntKind.i64.wrap ((lo : Int) + (j : Int)) = (lo : Int) + (j : Int) := by rw [IntKind.wrap_i64]; omega
          obtain ⟨G, hG⟩ : ∃ G : Nat → Int, ∀ t, G t = dj[t]! := ⟨fun t => dj[t]!, fun _ => rfl⟩
          have hcw : ∀ t, t < n → wr.cell? ⟨b, off + t, none⟩ = some (.int .u16 (G t)) := fun t ht => by rw [hG]; exact hR.cell t (by omega)
          have hfw : ∀ t, t < n → wr.frozen? ⟨b, off + t, none⟩ = false := fun t ht => hR.froz t (by omega)
          have HG := Lib.hid hG
          have hj0 : (0 : Int) ≤ (j : Int) := by omega
          have hln : lo < n := by omega
          obtain ⟨v', hv'⟩ : ∃ v', ((wr.setCell ⟨b, off + lo, none⟩ (.int .u16 (G (lo + j)))).drew).cell? ⟨b, off + (lo + j), none⟩ = some v' := ⟨_, ((hR.set lo (by omega) (G (lo + j))).drew).cell (lo + j) (by simp; omega)⟩
          clear e0 hsk hR hO hG
          go_wp2
          go_region
          all_goals go_wp2_with fail
          have HS := Lib.hid ((HK.out.2.1.drew).swap lo (lo + j) (by rw [HK.out.1]; omega) (by rw [HK.out.1]; omega) _ _ (HG.out _) (HG.out _))
          refine (sift0_is (n := n) (by rw [size_swp]; exact HK.out.1) HS.out.holds (by omega) hsz).mono ?_
          rintro e w3 ⟨rfl, h3⟩
          have H3 := Lib.hid (HS.out.trans h3)
          clear h3 hcw hfw
          go_wp2
          go_roundw
          case rel => exact ⟨j, _, rfl, by omega, by rw [sift_size, size_swp]; exact HK.out.1, H3.out, by rw [← HK.out.2.2, pop_go]⟩
          case measure => simp [intOf] <;> omega
    · have e0 : ((j + 1 : Nat) : Int) - 1 = (j : Int) := by omega
      rw [e0]
      have hj0 : (0 : Int) ≤ (j : Int) := by omega
      clear e0
      go_wp2_with fail
      refine (sift_is (n := n) HK.out.1 HK.out.2.1.holds (by omega) (by have := HL1.out; omega) hsz).mono ?_
      rintro e w3 ⟨rfl, h3⟩
      have H3 := Lib.hid (HK.out.2.1.trans h3)
      clear h3
      go_wp2
      go_roundw
      case rel => exact ⟨j, _, rfl, by omega, by rw [sift_size]; exact HK.out.1, H3.out, by rw [← HK.out.2.2, build_go]⟩
      case measure => simp [intOf] <;> omega
end Go.Proofs.Ytefpbfdbpckcmaa.So
