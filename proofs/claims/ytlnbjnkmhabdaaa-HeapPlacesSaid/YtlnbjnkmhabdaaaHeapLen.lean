/-
  Package heap: Len.
-/
import Derived.Test.YtlnbjnkmhabdaaaHeapTake
namespace Go.Proofs.Ytlnbjnkmhabdaaa.Hp
open Go.RowKit
set_option linter.unusedVariables false

theorem len_is {w : World} {base b i : Nat} {v : Value} {es : List Ent} (h : IsHp w base b i v es) (hbig : es.length ≤ 1000000) :
    Calls Try.prog 14 #[.pointer (some ⟨b, i, none⟩)] w fun e w' => e = .returned (.int .i64 es.length) ∧ w = w' := by
  obtain ⟨a, cap, rfl⟩ := h.len
  have hc := h.cell
  clear h
  go_enter Try.func14, Try.ntmps14
  go_wp2
  go_ret
  exact ⟨rfl, rfl⟩
end Go.Proofs.Ytlnbjnkmhabdaaa.Hp
