/-
  Package timer: Of.
-/
import Derived.Test.YtmaahidipbghfaaTimerTms
import Derived.Test.YtmaahidipbghfaaHeapMore
namespace Go.Proofs.Ytmaahidipbghfaa.Tm
open Go.RowKit
open Go.Proofs.Ytmaahidipbghfaa.Hp
open Go.Proofs.Ytmaahidipbghfaa.MapI
set_option linter.unusedVariables false

section
variable {w : World} {base tb lb hb : Nat} {vs : List Value} {Hs : List (List Ent)} {order : Nat} {G : List Int}
theorem IsT.hlen (h : IsT w base tb lb hb vs Hs order G) : Hs.length = vs.length := h.len

set_option maxHeartbeats 1000000 in
theorem of_out (h : IsT w base tb lb hb vs Hs order G) (p : Int) (hbad : p < 0 ∨ (vs.length : Int) ≤ p) :
    Calls Try.prog 14 #[.pointer (some ⟨tb, 0, none⟩), .int .i64 p] w fun e w' => e = .returned (.slice none 0 0) ∧ w = w' := by
  obtain ⟨n, hn⟩ : ∃ n, n = vs.length := ⟨_, rfl⟩
  have c0 := h.c0
  have ht := h.top
  rw [← hn] at c0 ht hbad
  clear h hn
  by_cases h1 : p < 0
  · go_enter Try.func14, Try.ntmps14
    go_wp2
    go_ret
    exact ⟨rfl, rfl⟩
  · have h2 : (n : Int) ≤ p := by omega
    go_enter Try.func14, Try.ntmps14
    go_wp2
    go_ret
    exact ⟨rfl, rfl⟩

set_option maxHeartbeats 1000000 in
theorem of_in (h : IsT w base tb lb hb vs Hs order G) {p : Nat} {es L : List Ent} (hp : Hs[p]? = some es) (hbig : es.length ≤ 1000) (hL : srt es = L) {m : Nat} (hm : L.length = m) :
    Calls Try.prog 14 #[.pointer (some ⟨tb, 0, none⟩), .int .i64 p] w fun e w' => ∃ a c, e = .returned (.slice a m c) ∧ ESees w' (.slice a m c) L ∧ w.grownBy w' none := by
  subst hL hm
  have hpl : p < vs.length := by rw [← h.hlen]; exact (List.getElem?_eq_some_iff.1 hp).1
  obtain ⟨v, es', hv, hes, hI, _, _⟩ := h.at hpl
  rw [hp] at hes
  cases hes
  obtain ⟨n, hn⟩ : ∃ n, n = vs.length := ⟨_, rfl⟩
  have c0 := h.c0
  have ht := h.top
  rw [← hn] at c0 ht hpl
  have HI := Lib.hid hI
  have hpi : (p : Int) < (n : Int) := by omega
  clear h hn hp hv hI
  go_enter Try.func14, Try.ntmps14
  go_wp2_with fail
  refine (sorted_is HI.out hbig).mono ?_
  rintro e w2 ⟨a, c, rfl, hs, hb⟩
  have H2 := Lib.hid (And.intro hs hb)
  clear hs hb
  go_wp2_with fail
  go_ret
  exact ⟨_, _, rfl, H2.out.1, H2.out.2.os, H2.out.2.tape, H2.out.2.output, H2.out.2.size, fun k hk _ => H2.out.2.block k hk⟩
end
end Go.Proofs.Ytmaahidipbghfaa.Tm
