/-
  No cell of these rows narrows 'for every input' (looked for: loops, veiled, ifaces, maps, wideKeys, modest, calm, conditions, laid).
  DERIVED. THE GIVEN ROWS OF THIS SEAT. 4 by the template 'for every input the law returns true; each argument reads behind the call as it read before'; 0 by the template 'total and deterministic' (their statements: YtlhblhgbpaipaaaTotals.lean).
  GIVEN WITH THE SEED: the statements are not yours to turn. If you find one false, say at which input.
  Laid BY PROGRAM, IN A SANDBOX (cutbox-rows.mjs): the forced cells as the released guide's own fill.sh prints them over the translation 6f330f7577f31e99… (all of the seat's roots in one cut). By AI agents, Wed Nov 11 2026. No macro, syntax, notation, axiom, sorry.
-/
import Derived.Test.YtlhblhgbpaipaaaChecked
import GoSem.Claim
import GoSem.ClaimJoined
import GoSem.ClaimMapViews
import Derived.JoinedTies
import Derived.KernelRfl
namespace Go.Proofs.Ytlhblhgbpaipaaa
/- THE CELL 'sum', in the pinned program and in every row, IS THE sha256 OF THE DUMP (.gsa) THAT YtlhblhgbpaipaaaProg.lean LOADS. Nothing in Lean hashes anything: it is a label: what it is worth is what the hold of that sum in a sandbox is worth. -/
noncomputable def Try.pinned : Pinned := { name := "ytlhblhgbpaipaaa", sum := "6f330f7577f31e9924437534d304e6b73c46ae923fe3e7228358b6c8b4c3e88d", checked := Try.checked }
namespace Rows
def none {H : Type} : Left H := { results := [], args := [] }

/-- 'hostlerlaw12.SourceNext': WHATEVER THE INPUT: true; the input reads as it did. -/
def sourceNextSpec : ChangeSpec := { name := "sourceNext", fn := fun _ => fun
  | [d1, d2] => { results := [.lit (.bool true)], args := [d1, d2] }
  | _ => none }
def sourceNextRow : OpenClaim := { program := "ytlhblhgbpaipaaa", sum := "6f330f7577f31e9924437534d304e6b73c46ae923fe3e7228358b6c8b4c3e88d", func := "hostler/hostlerlaw12.SourceNext", spec := "sourceNext", unfollowed := true, recurses := true, apart := false }
def SourceNextSaid : Prop := sourceNextRow.holds Try.pinned (OpenSpec.ofChange sourceNextSpec)

/-- ITS FALSE NEIGHBOUR: 'it returns false'. Refute it at one input. -/
def sourceNextWrong : ChangeSpec := { name := "sourceNext", fn := fun _ => fun
  | [d1, d2] => { results := [.lit (.bool false)], args := [d1, d2] }
  | _ => none }
def SourceNextWrongFalsely : Prop := sourceNextRow.holds Try.pinned (OpenSpec.ofChange sourceNextWrong)

/-- 'hostlerlaw12.SourceTells': WHATEVER THE INPUT: true; the input reads as it did. -/
def sourceTellsSpec : ChangeSpec := { name := "sourceTells", fn := fun _ => fun
  | [d] => { results := [.lit (.bool true)], args := [d] }
  | _ => none }
def sourceTellsRow : OpenClaim := { program := "ytlhblhgbpaipaaa", sum := "6f330f7577f31e9924437534d304e6b73c46ae923fe3e7228358b6c8b4c3e88d", func := "hostler/hostlerlaw12.SourceTells", spec := "sourceTells", unfollowed := true, recurses := true, apart := false }
def SourceTellsSaid : Prop := sourceTellsRow.holds Try.pinned (OpenSpec.ofChange sourceTellsSpec)

/-- ITS FALSE NEIGHBOUR: 'it returns false'. Refute it at one input. -/
def sourceTellsWrong : ChangeSpec := { name := "sourceTells", fn := fun _ => fun
  | [d] => { results := [.lit (.bool false)], args := [d] }
  | _ => none }
def SourceTellsWrongFalsely : Prop := sourceTellsRow.holds Try.pinned (OpenSpec.ofChange sourceTellsWrong)

/-- 'hostlerlaw12.SourceDrains': WHATEVER THE INPUT: true; the input reads as it did. -/
def sourceDrainsSpec : ChangeSpec := { name := "sourceDrains", fn := fun _ => fun
  | [d] => { results := [.lit (.bool true)], args := [d] }
  | _ => none }
def sourceDrainsRow : OpenClaim := { program := "ytlhblhgbpaipaaa", sum := "6f330f7577f31e9924437534d304e6b73c46ae923fe3e7228358b6c8b4c3e88d", func := "hostler/hostlerlaw12.SourceDrains", spec := "sourceDrains", unfollowed := true, recurses := true, apart := false }
def SourceDrainsSaid : Prop := sourceDrainsRow.holds Try.pinned (OpenSpec.ofChange sourceDrainsSpec)

/-- ITS FALSE NEIGHBOUR: 'it returns false'. Refute it at one input. -/
def sourceDrainsWrong : ChangeSpec := { name := "sourceDrains", fn := fun _ => fun
  | [d] => { results := [.lit (.bool false)], args := [d] }
  | _ => none }
def SourceDrainsWrongFalsely : Prop := sourceDrainsRow.holds Try.pinned (OpenSpec.ofChange sourceDrainsWrong)

/-- 'hostlerlaw12.SourceOnce': WHATEVER THE INPUT: true; the input reads as it did. -/
def sourceOnceSpec : ChangeSpec := { name := "sourceOnce", fn := fun _ => fun
  | [d] => { results := [.lit (.bool true)], args := [d] }
  | _ => none }
def sourceOnceRow : OpenClaim := { program := "ytlhblhgbpaipaaa", sum := "6f330f7577f31e9924437534d304e6b73c46ae923fe3e7228358b6c8b4c3e88d", func := "hostler/hostlerlaw12.SourceOnce", spec := "sourceOnce", unfollowed := true, recurses := true, apart := false }
def SourceOnceSaid : Prop := sourceOnceRow.holds Try.pinned (OpenSpec.ofChange sourceOnceSpec)

/-- ITS FALSE NEIGHBOUR: 'it returns false'. Refute it at one input. -/
def sourceOnceWrong : ChangeSpec := { name := "sourceOnce", fn := fun _ => fun
  | [d] => { results := [.lit (.bool false)], args := [d] }
  | _ => none }
def SourceOnceWrongFalsely : Prop := sourceOnceRow.holds Try.pinned (OpenSpec.ofChange sourceOnceWrong)

/- THE SECOND FORM. 'bulk': how many values and letters a reading holds, each counted each time it is reached (what is shared counts as often as it is met; a slice's spare places count too). A statement '..UptoSaid' is the law's where the arguments, and the package variables that the reading takes, are together of bulk at most 1048576: NARROWER than '..Said'. Prove '..Said' where nothing that the law and all that it calls make is longer than what came in: it says more and counts as full. Else prove '..UptoSaid'. A law counts once. -/
mutual
def uptoBulk {H : Type} : DataW H → Nat
  | .lit (.string bytes) => bytes.length + 1
  | .lit _ => 1
  | .nil => 1
  | .ptr d => uptoBulk d + 1
  | .slice elems spare => uptoBulkAll elems + uptoBulkAll spare + 1
  | .agg parts => uptoBulkAll parts + 1
  | .iface _ d => uptoBulk d + 1
  | .map entries => uptoBulkEntries entries + 1
  | .held _ => 1
def uptoBulkAll {H : Type} : List (DataW H) → Nat
  | [] => 0
  | d :: r => uptoBulk d + uptoBulkAll r
def uptoBulkEntries {H : Type} : List (Lit × DataW H) → Nat
  | [] => 0
  | x :: r => uptoBulkEntry x + uptoBulkEntries r
def uptoBulkEntry {H : Type} : Lit × DataW H → Nat
  | (.string bytes, d) => bytes.length + uptoBulk d + 1
  | (_, d) => uptoBulk d + 1
 end
def uptoSmall : (H : Type) → List (DataW H) → Bool := fun _ ds => decide (uptoBulkAll ds ≤ 1048576)
def OpenSpec.upto (s : _root_.Go.ChangeSpec) : _root_.Go.OpenSpec := { _root_.Go.OpenSpec.ofChange s with cond := some uptoSmall }

/-- 'hostlerlaw12.SourceNext', WHERE WHAT IT READS IS OF BULK AT MOST 1048576: true; the input reads as it did. -/
def sourceNextUptoRow : OpenClaim := { program := "ytlhblhgbpaipaaa", sum := "6f330f7577f31e9924437534d304e6b73c46ae923fe3e7228358b6c8b4c3e88d", func := "hostler/hostlerlaw12.SourceNext", spec := "sourceNext", unfollowed := true, recurses := true, apart := false, narrowed := true }
def SourceNextUptoSaid : Prop := sourceNextUptoRow.holds Try.pinned (OpenSpec.upto sourceNextSpec)

/-- 'hostlerlaw12.SourceTells', WHERE WHAT IT READS IS OF BULK AT MOST 1048576: true; the input reads as it did. -/
def sourceTellsUptoRow : OpenClaim := { program := "ytlhblhgbpaipaaa", sum := "6f330f7577f31e9924437534d304e6b73c46ae923fe3e7228358b6c8b4c3e88d", func := "hostler/hostlerlaw12.SourceTells", spec := "sourceTells", unfollowed := true, recurses := true, apart := false, narrowed := true }
def SourceTellsUptoSaid : Prop := sourceTellsUptoRow.holds Try.pinned (OpenSpec.upto sourceTellsSpec)

/-- 'hostlerlaw12.SourceDrains', WHERE WHAT IT READS IS OF BULK AT MOST 1048576: true; the input reads as it did. -/
def sourceDrainsUptoRow : OpenClaim := { program := "ytlhblhgbpaipaaa", sum := "6f330f7577f31e9924437534d304e6b73c46ae923fe3e7228358b6c8b4c3e88d", func := "hostler/hostlerlaw12.SourceDrains", spec := "sourceDrains", unfollowed := true, recurses := true, apart := false, narrowed := true }
def SourceDrainsUptoSaid : Prop := sourceDrainsUptoRow.holds Try.pinned (OpenSpec.upto sourceDrainsSpec)

/-- 'hostlerlaw12.SourceOnce', WHERE WHAT IT READS IS OF BULK AT MOST 1048576: true; the input reads as it did. -/
def sourceOnceUptoRow : OpenClaim := { program := "ytlhblhgbpaipaaa", sum := "6f330f7577f31e9924437534d304e6b73c46ae923fe3e7228358b6c8b4c3e88d", func := "hostler/hostlerlaw12.SourceOnce", spec := "sourceOnce", unfollowed := true, recurses := true, apart := false, narrowed := true }
def SourceOnceUptoSaid : Prop := sourceOnceUptoRow.holds Try.pinned (OpenSpec.upto sourceOnceSpec)

end Rows
end Go.Proofs.Ytlhblhgbpaipaaa
