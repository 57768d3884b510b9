/-
  No cell of these rows narrows 'for every input' (looked for: loops, veiled, ifaces, maps, wideKeys, modest, calm, conditions, laid).
  DERIVED. THE GIVEN ROWS OF THIS SEAT. 4 by the template 'for every input the law returns true; each argument reads behind the call as it read before'; 0 by the template 'total and deterministic' (their statements: YtefpbfdbpckcmaaTotals.lean).
  GIVEN WITH THE SEED: the statements are not yours to turn. If you find one false, say at which input.
  Laid BY PROGRAM, IN A SANDBOX (cutbox-rows.mjs): the forced cells as the released guide's own fill.sh prints them over the translation affd9b1b5f3ff61f… (all of the seat's roots in one cut). By AI agents, Wed Nov 11 2026. No macro, syntax, notation, axiom, sorry.
-/
import Derived.Test.YtefpbfdbpckcmaaChecked
import GoSem.Claim
import GoSem.ClaimJoined
import GoSem.ClaimMapViews
import Derived.JoinedTies
import Derived.KernelRfl
namespace Go.Proofs.Ytefpbfdbpckcmaa
/- THE CELL 'sum', in the pinned program and in every row, IS THE sha256 OF THE DUMP (.gsa) THAT YtefpbfdbpckcmaaProg.lean LOADS. Nothing in Lean hashes anything: it is a label: what it is worth is what the hold of that sum in a sandbox is worth. -/
noncomputable def Try.pinned : Pinned := { name := "ytefpbfdbpckcmaa", sum := "affd9b1b5f3ff61f267d7379360c728a997cb339e09801d1c4f23d6584d486da", checked := Try.checked }
namespace Rows
def none {H : Type} : Left H := { results := [], args := [] }

/-- 'hostlerlaw11.PollOrder': WHATEVER THE INPUT: true; the input reads as it did. -/
def pollOrderSpec : ChangeSpec := { name := "pollOrder", fn := fun _ => fun
  | [d1, d2] => { results := [.lit (.bool true)], args := [d1, d2] }
  | _ => none }
def pollOrderRow : OpenClaim := { program := "ytefpbfdbpckcmaa", sum := "affd9b1b5f3ff61f267d7379360c728a997cb339e09801d1c4f23d6584d486da", func := "hostler/hostlerlaw11.PollOrder", spec := "pollOrder", unfollowed := true, recurses := true, apart := false }
def PollOrderSaid : Prop := pollOrderRow.holds Try.pinned (OpenSpec.ofChange pollOrderSpec)

/-- ITS FALSE NEIGHBOUR: 'it returns false'. Refute it at one input. -/
def pollOrderWrong : ChangeSpec := { name := "pollOrder", fn := fun _ => fun
  | [d1, d2] => { results := [.lit (.bool false)], args := [d1, d2] }
  | _ => none }
def PollOrderWrongFalsely : Prop := pollOrderRow.holds Try.pinned (OpenSpec.ofChange pollOrderWrong)

/-- 'hostlerlaw11.PollOnce': WHATEVER THE INPUT: true; the input reads as it did. -/
def pollOnceSpec : ChangeSpec := { name := "pollOnce", fn := fun _ => fun
  | [d] => { results := [.lit (.bool true)], args := [d] }
  | _ => none }
def pollOnceRow : OpenClaim := { program := "ytefpbfdbpckcmaa", sum := "affd9b1b5f3ff61f267d7379360c728a997cb339e09801d1c4f23d6584d486da", func := "hostler/hostlerlaw11.PollOnce", spec := "pollOnce", unfollowed := true, recurses := true, apart := false }
def PollOnceSaid : Prop := pollOnceRow.holds Try.pinned (OpenSpec.ofChange pollOnceSpec)

/-- ITS FALSE NEIGHBOUR: 'it returns false'. Refute it at one input. -/
def pollOnceWrong : ChangeSpec := { name := "pollOnce", fn := fun _ => fun
  | [d] => { results := [.lit (.bool false)], args := [d] }
  | _ => none }
def PollOnceWrongFalsely : Prop := pollOnceRow.holds Try.pinned (OpenSpec.ofChange pollOnceWrong)

/-- 'hostlerlaw11.PollFull': WHATEVER THE INPUT: true; the input reads as it did. -/
def pollFullSpec : ChangeSpec := { name := "pollFull", fn := fun _ => fun
  | [d1, d2, d3] => { results := [.lit (.bool true)], args := [d1, d2, d3] }
  | _ => none }
def pollFullRow : OpenClaim := { program := "ytefpbfdbpckcmaa", sum := "affd9b1b5f3ff61f267d7379360c728a997cb339e09801d1c4f23d6584d486da", func := "hostler/hostlerlaw11.PollFull", spec := "pollFull", unfollowed := true, recurses := true, apart := false }
def PollFullSaid : Prop := pollFullRow.holds Try.pinned (OpenSpec.ofChange pollFullSpec)

/-- ITS FALSE NEIGHBOUR: 'it returns false'. Refute it at one input. -/
def pollFullWrong : ChangeSpec := { name := "pollFull", fn := fun _ => fun
  | [d1, d2, d3] => { results := [.lit (.bool false)], args := [d1, d2, d3] }
  | _ => none }
def PollFullWrongFalsely : Prop := pollFullRow.holds Try.pinned (OpenSpec.ofChange pollFullWrong)

/-- 'hostlerlaw11.PollPlays': WHATEVER THE INPUT: true; the input reads as it did. -/
def pollPlaysSpec : ChangeSpec := { name := "pollPlays", fn := fun _ => fun
  | [d1, d2, d3] => { results := [.lit (.bool true)], args := [d1, d2, d3] }
  | _ => none }
def pollPlaysRow : OpenClaim := { program := "ytefpbfdbpckcmaa", sum := "affd9b1b5f3ff61f267d7379360c728a997cb339e09801d1c4f23d6584d486da", func := "hostler/hostlerlaw11.PollPlays", spec := "pollPlays", inPlace := ["maps.clone"], unfollowed := true, recurses := true, apart := false }
def PollPlaysSaid : Prop := pollPlaysRow.holds Try.pinned (OpenSpec.ofChange pollPlaysSpec)

/-- ITS FALSE NEIGHBOUR: 'it returns false'. Refute it at one input. -/
def pollPlaysWrong : ChangeSpec := { name := "pollPlays", fn := fun _ => fun
  | [d1, d2, d3] => { results := [.lit (.bool false)], args := [d1, d2, d3] }
  | _ => none }
def PollPlaysWrongFalsely : Prop := pollPlaysRow.holds Try.pinned (OpenSpec.ofChange pollPlaysWrong)

/- THE SECOND FORM. 'bulk': how many values and letters a reading holds, each counted each time it is reached (what is shared counts as often as it is met; a slice's spare places count too). A statement '..UptoSaid' is the law's where the arguments, and the package variables that the reading takes, are together of bulk at most 1048576: NARROWER than '..Said'. Prove '..Said' where nothing that the law and all that it calls make is longer than what came in: it says more and counts as full. Else prove '..UptoSaid'. A law counts once. -/
mutual
def uptoBulk {H : Type} : DataW H → Nat
  | .lit (.string bytes) => bytes.length + 1
  | .lit _ => 1
  | .nil => 1
  | .ptr d => uptoBulk d + 1
  | .slice elems spare => uptoBulkAll elems + uptoBulkAll spare + 1
  | .agg parts => uptoBulkAll parts + 1
  | .iface _ d => uptoBulk d + 1
  | .map entries => uptoBulkEntries entries + 1
  | .held _ => 1
def uptoBulkAll {H : Type} : List (DataW H) → Nat
  | [] => 0
  | d :: r => uptoBulk d + uptoBulkAll r
def uptoBulkEntries {H : Type} : List (Lit × DataW H) → Nat
  | [] => 0
  | x :: r => uptoBulkEntry x + uptoBulkEntries r
def uptoBulkEntry {H : Type} : Lit × DataW H → Nat
  | (.string bytes, d) => bytes.length + uptoBulk d + 1
  | (_, d) => uptoBulk d + 1
 end
def uptoSmall : (H : Type) → List (DataW H) → Bool := fun _ ds => decide (uptoBulkAll ds ≤ 1048576)
def OpenSpec.upto (s : _root_.Go.ChangeSpec) : _root_.Go.OpenSpec := { _root_.Go.OpenSpec.ofChange s with cond := some uptoSmall }

/-- 'hostlerlaw11.PollOrder', WHERE WHAT IT READS IS OF BULK AT MOST 1048576: true; the input reads as it did. -/
def pollOrderUptoRow : OpenClaim := { program := "ytefpbfdbpckcmaa", sum := "affd9b1b5f3ff61f267d7379360c728a997cb339e09801d1c4f23d6584d486da", func := "hostler/hostlerlaw11.PollOrder", spec := "pollOrder", unfollowed := true, recurses := true, apart := false, narrowed := true }
def PollOrderUptoSaid : Prop := pollOrderUptoRow.holds Try.pinned (OpenSpec.upto pollOrderSpec)

/-- 'hostlerlaw11.PollOnce', WHERE WHAT IT READS IS OF BULK AT MOST 1048576: true; the input reads as it did. -/
def pollOnceUptoRow : OpenClaim := { program := "ytefpbfdbpckcmaa", sum := "affd9b1b5f3ff61f267d7379360c728a997cb339e09801d1c4f23d6584d486da", func := "hostler/hostlerlaw11.PollOnce", spec := "pollOnce", unfollowed := true, recurses := true, apart := false, narrowed := true }
def PollOnceUptoSaid : Prop := pollOnceUptoRow.holds Try.pinned (OpenSpec.upto pollOnceSpec)

/-- 'hostlerlaw11.PollFull', WHERE WHAT IT READS IS OF BULK AT MOST 1048576: true; the input reads as it did. -/
def pollFullUptoRow : OpenClaim := { program := "ytefpbfdbpckcmaa", sum := "affd9b1b5f3ff61f267d7379360c728a997cb339e09801d1c4f23d6584d486da", func := "hostler/hostlerlaw11.PollFull", spec := "pollFull", unfollowed := true, recurses := true, apart := false, narrowed := true }
def PollFullUptoSaid : Prop := pollFullUptoRow.holds Try.pinned (OpenSpec.upto pollFullSpec)

/-- 'hostlerlaw11.PollPlays', WHERE WHAT IT READS IS OF BULK AT MOST 1048576: true; the input reads as it did. -/
def pollPlaysUptoRow : OpenClaim := { program := "ytefpbfdbpckcmaa", sum := "affd9b1b5f3ff61f267d7379360c728a997cb339e09801d1c4f23d6584d486da", func := "hostler/hostlerlaw11.PollPlays", spec := "pollPlays", inPlace := ["maps.clone"], unfollowed := true, recurses := true, apart := false, narrowed := true }
def PollPlaysUptoSaid : Prop := pollPlaysUptoRow.holds Try.pinned (OpenSpec.upto pollPlaysSpec)

end Rows
end Go.Proofs.Ytefpbfdbpckcmaa
