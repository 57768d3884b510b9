/-
  No cell of these rows narrows 'for every input' (looked for: loops, veiled, ifaces, maps, wideKeys, modest, calm, conditions, laid).
  DERIVED. THE GIVEN ROWS OF THIS SEAT. 5 by the template 'for every input the law returns true; each argument reads behind the call as it read before'; 0 by the template 'total and deterministic' (their statements: YtlnbjnkmhabdaaaTotals.lean).
  GIVEN WITH THE SEED: the statements are not yours to turn. If you find one false, say at which input.
  Laid BY PROGRAM, IN A SANDBOX (cutbox-rows.mjs): the forced cells as the released guide's own fill.sh prints them over the translation 73b6fd6ff890b6c0… (all of the seat's roots in one cut). By AI agents, Wed Nov 11 2026. No macro, syntax, notation, axiom, sorry.
-/
import Derived.Test.YtlnbjnkmhabdaaaChecked
import GoSem.Claim
import GoSem.ClaimJoined
import GoSem.ClaimMapViews
import Derived.JoinedTies
import Derived.KernelRfl
namespace Go.Proofs.Ytlnbjnkmhabdaaa
/- THE CELL 'sum', in the pinned program and in every row, IS THE sha256 OF THE DUMP (.gsa) THAT YtlnbjnkmhabdaaaProg.lean LOADS. Nothing in Lean hashes anything: it is a label: what it is worth is what the hold of that sum in a sandbox is worth. -/
noncomputable def Try.pinned : Pinned := { name := "ytlnbjnkmhabdaaa", sum := "73b6fd6ff890b6c0dca0d94abe8f02e06973e0931cb1fc290ef336158da66f52", checked := Try.checked }
namespace Rows
def none {H : Type} : Left H := { results := [], args := [] }

/-- 'hostlerlaw09.HeapAhead': WHATEVER THE INPUT: true; the input reads as it did. -/
def heapAheadSpec : ChangeSpec := { name := "heapAhead", fn := fun _ => fun
  | [d1, d2, d3] => { results := [.lit (.bool true)], args := [d1, d2, d3] }
  | _ => none }
def heapAheadRow : OpenClaim := { program := "ytlnbjnkmhabdaaa", sum := "73b6fd6ff890b6c0dca0d94abe8f02e06973e0931cb1fc290ef336158da66f52", func := "hostler/hostlerlaw09.HeapAhead", spec := "heapAhead", plainKeys := false, apart := false }
def HeapAheadSaid : Prop := heapAheadRow.holds Try.pinned (OpenSpec.ofChange heapAheadSpec)

/-- ITS FALSE NEIGHBOUR: 'it returns false'. Refute it at one input. -/
def heapAheadWrong : ChangeSpec := { name := "heapAhead", fn := fun _ => fun
  | [d1, d2, d3] => { results := [.lit (.bool false)], args := [d1, d2, d3] }
  | _ => none }
def HeapAheadWrongFalsely : Prop := heapAheadRow.holds Try.pinned (OpenSpec.ofChange heapAheadWrong)

/-- 'hostlerlaw09.HeapSorts': WHATEVER THE INPUT: true; the input reads as it did. -/
def heapSortsSpec : ChangeSpec := { name := "heapSorts", fn := fun _ => fun
  | [d] => { results := [.lit (.bool true)], args := [d] }
  | _ => none }
def heapSortsRow : OpenClaim := { program := "ytlnbjnkmhabdaaa", sum := "73b6fd6ff890b6c0dca0d94abe8f02e06973e0931cb1fc290ef336158da66f52", func := "hostler/hostlerlaw09.HeapSorts", spec := "heapSorts", plainKeys := false, apart := false }
def HeapSortsSaid : Prop := heapSortsRow.holds Try.pinned (OpenSpec.ofChange heapSortsSpec)

/-- ITS FALSE NEIGHBOUR: 'it returns false'. Refute it at one input. -/
def heapSortsWrong : ChangeSpec := { name := "heapSorts", fn := fun _ => fun
  | [d] => { results := [.lit (.bool false)], args := [d] }
  | _ => none }
def HeapSortsWrongFalsely : Prop := heapSortsRow.holds Try.pinned (OpenSpec.ofChange heapSortsWrong)

/-- 'hostlerlaw09.HeapRemoves': WHATEVER THE INPUT: true; the input reads as it did. -/
def heapRemovesSpec : ChangeSpec := { name := "heapRemoves", fn := fun _ => fun
  | [d1, d2] => { results := [.lit (.bool true)], args := [d1, d2] }
  | _ => none }
def heapRemovesRow : OpenClaim := { program := "ytlnbjnkmhabdaaa", sum := "73b6fd6ff890b6c0dca0d94abe8f02e06973e0931cb1fc290ef336158da66f52", func := "hostler/hostlerlaw09.HeapRemoves", spec := "heapRemoves", unfollowed := true, recurses := true, plainKeys := false, apart := false }
def HeapRemovesSaid : Prop := heapRemovesRow.holds Try.pinned (OpenSpec.ofChange heapRemovesSpec)

/-- ITS FALSE NEIGHBOUR: 'it returns false'. Refute it at one input. -/
def heapRemovesWrong : ChangeSpec := { name := "heapRemoves", fn := fun _ => fun
  | [d1, d2] => { results := [.lit (.bool false)], args := [d1, d2] }
  | _ => none }
def HeapRemovesWrongFalsely : Prop := heapRemovesRow.holds Try.pinned (OpenSpec.ofChange heapRemovesWrong)

/-- 'hostlerlaw09.HeapPlays': WHATEVER THE INPUT: true; the input reads as it did. -/
def heapPlaysSpec : ChangeSpec := { name := "heapPlays", fn := fun _ => fun
  | [d] => { results := [.lit (.bool true)], args := [d] }
  | _ => none }
def heapPlaysRow : OpenClaim := { program := "ytlnbjnkmhabdaaa", sum := "73b6fd6ff890b6c0dca0d94abe8f02e06973e0931cb1fc290ef336158da66f52", func := "hostler/hostlerlaw09.HeapPlays", spec := "heapPlays", unfollowed := true, recurses := true, plainKeys := false, apart := false }
def HeapPlaysSaid : Prop := heapPlaysRow.holds Try.pinned (OpenSpec.ofChange heapPlaysSpec)

/-- ITS FALSE NEIGHBOUR: 'it returns false'. Refute it at one input. -/
def heapPlaysWrong : ChangeSpec := { name := "heapPlays", fn := fun _ => fun
  | [d] => { results := [.lit (.bool false)], args := [d] }
  | _ => none }
def HeapPlaysWrongFalsely : Prop := heapPlaysRow.holds Try.pinned (OpenSpec.ofChange heapPlaysWrong)

/-- 'hostlerlaw09.HeapPlaces': WHATEVER THE INPUT: true; the input reads as it did. -/
def heapPlacesSpec : ChangeSpec := { name := "heapPlaces", fn := fun _ => fun
  | [d] => { results := [.lit (.bool true)], args := [d] }
  | _ => none }
def heapPlacesRow : OpenClaim := { program := "ytlnbjnkmhabdaaa", sum := "73b6fd6ff890b6c0dca0d94abe8f02e06973e0931cb1fc290ef336158da66f52", func := "hostler/hostlerlaw09.HeapPlaces", spec := "heapPlaces", unfollowed := true, recurses := true, plainKeys := false, apart := false }
def HeapPlacesSaid : Prop := heapPlacesRow.holds Try.pinned (OpenSpec.ofChange heapPlacesSpec)

/-- ITS FALSE NEIGHBOUR: 'it returns false'. Refute it at one input. -/
def heapPlacesWrong : ChangeSpec := { name := "heapPlaces", fn := fun _ => fun
  | [d] => { results := [.lit (.bool false)], args := [d] }
  | _ => none }
def HeapPlacesWrongFalsely : Prop := heapPlacesRow.holds Try.pinned (OpenSpec.ofChange heapPlacesWrong)

/- THE SECOND FORM. 'bulk': how many values and letters a reading holds, each counted each time it is reached (what is shared counts as often as it is met; a slice's spare places count too). A statement '..UptoSaid' is the law's where the arguments, and the package variables that the reading takes, are together of bulk at most 1048576: NARROWER than '..Said'. Prove '..Said' where nothing that the law and all that it calls make is longer than what came in: it says more and counts as full. Else prove '..UptoSaid'. A law counts once. -/
mutual
def uptoBulk {H : Type} : DataW H → Nat
  | .lit (.string bytes) => bytes.length + 1
  | .lit _ => 1
  | .nil => 1
  | .ptr d => uptoBulk d + 1
  | .slice elems spare => uptoBulkAll elems + uptoBulkAll spare + 1
  | .agg parts => uptoBulkAll parts + 1
  | .iface _ d => uptoBulk d + 1
  | .map entries => uptoBulkEntries entries + 1
  | .held _ => 1
def uptoBulkAll {H : Type} : List (DataW H) → Nat
  | [] => 0
  | d :: r => uptoBulk d + uptoBulkAll r
def uptoBulkEntries {H : Type} : List (Lit × DataW H) → Nat
  | [] => 0
  | x :: r => uptoBulkEntry x + uptoBulkEntries r
def uptoBulkEntry {H : Type} : Lit × DataW H → Nat
  | (.string bytes, d) => bytes.length + uptoBulk d + 1
  | (_, d) => uptoBulk d + 1
 end
def uptoSmall : (H : Type) → List (DataW H) → Bool := fun _ ds => decide (uptoBulkAll ds ≤ 1048576)
def OpenSpec.upto (s : _root_.Go.ChangeSpec) : _root_.Go.OpenSpec := { _root_.Go.OpenSpec.ofChange s with cond := some uptoSmall }

/-- 'hostlerlaw09.HeapAhead', WHERE WHAT IT READS IS OF BULK AT MOST 1048576: true; the input reads as it did. -/
def heapAheadUptoRow : OpenClaim := { program := "ytlnbjnkmhabdaaa", sum := "73b6fd6ff890b6c0dca0d94abe8f02e06973e0931cb1fc290ef336158da66f52", func := "hostler/hostlerlaw09.HeapAhead", spec := "heapAhead", plainKeys := false, apart := false, narrowed := true }
def HeapAheadUptoSaid : Prop := heapAheadUptoRow.holds Try.pinned (OpenSpec.upto heapAheadSpec)

/-- 'hostlerlaw09.HeapSorts', WHERE WHAT IT READS IS OF BULK AT MOST 1048576: true; the input reads as it did. -/
def heapSortsUptoRow : OpenClaim := { program := "ytlnbjnkmhabdaaa", sum := "73b6fd6ff890b6c0dca0d94abe8f02e06973e0931cb1fc290ef336158da66f52", func := "hostler/hostlerlaw09.HeapSorts", spec := "heapSorts", plainKeys := false, apart := false, narrowed := true }
def HeapSortsUptoSaid : Prop := heapSortsUptoRow.holds Try.pinned (OpenSpec.upto heapSortsSpec)

/-- 'hostlerlaw09.HeapRemoves', WHERE WHAT IT READS IS OF BULK AT MOST 1048576: true; the input reads as it did. -/
def heapRemovesUptoRow : OpenClaim := { program := "ytlnbjnkmhabdaaa", sum := "73b6fd6ff890b6c0dca0d94abe8f02e06973e0931cb1fc290ef336158da66f52", func := "hostler/hostlerlaw09.HeapRemoves", spec := "heapRemoves", unfollowed := true, recurses := true, plainKeys := false, apart := false, narrowed := true }
def HeapRemovesUptoSaid : Prop := heapRemovesUptoRow.holds Try.pinned (OpenSpec.upto heapRemovesSpec)

/-- 'hostlerlaw09.HeapPlays', WHERE WHAT IT READS IS OF BULK AT MOST 1048576: true; the input reads as it did. -/
def heapPlaysUptoRow : OpenClaim := { program := "ytlnbjnkmhabdaaa", sum := "73b6fd6ff890b6c0dca0d94abe8f02e06973e0931cb1fc290ef336158da66f52", func := "hostler/hostlerlaw09.HeapPlays", spec := "heapPlays", unfollowed := true, recurses := true, plainKeys := false, apart := false, narrowed := true }
def HeapPlaysUptoSaid : Prop := heapPlaysUptoRow.holds Try.pinned (OpenSpec.upto heapPlaysSpec)

/-- 'hostlerlaw09.HeapPlaces', WHERE WHAT IT READS IS OF BULK AT MOST 1048576: true; the input reads as it did. -/
def heapPlacesUptoRow : OpenClaim := { program := "ytlnbjnkmhabdaaa", sum := "73b6fd6ff890b6c0dca0d94abe8f02e06973e0931cb1fc290ef336158da66f52", func := "hostler/hostlerlaw09.HeapPlaces", spec := "heapPlaces", unfollowed := true, recurses := true, plainKeys := false, apart := false, narrowed := true }
def HeapPlacesUptoSaid : Prop := heapPlacesUptoRow.holds Try.pinned (OpenSpec.upto heapPlacesSpec)

end Rows
end Go.Proofs.Ytlnbjnkmhabdaaa
