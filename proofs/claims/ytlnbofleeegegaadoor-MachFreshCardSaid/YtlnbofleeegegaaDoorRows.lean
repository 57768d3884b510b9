/-
  NARROWER THAN 'FOR EVERY INPUT', by the rows' own cells (each row's printed sentence says how): MachRings: laid · MachLocks: laid · MachFresh: laid · MachPlaces: laid.
  DERIVED. THE GIVEN ROWS OF THIS SEAT. 4 by the template 'for every input the law returns true; each argument reads behind the call as it read before'; 0 by the template 'total and deterministic' (their statements: YtlnbofleeegegaaDoorTotals.lean).
  GIVEN WITH THE SEED: the statements are not yours to turn. If you find one false, say at which input.
  Laid BY PROGRAM, IN A SANDBOX (cutbox-rows.mjs): the forced cells as the released guide's own fill.sh prints them over the translation 62e3870a4e8ac70e… (all of the seat's roots in one cut). By AI agents, Wed Nov 11 2026. No macro, syntax, notation, axiom, sorry.
-/
import Derived.Test.YtlnbofleeegegaaDoorChecked
import GoSem.Claim
import GoSem.ClaimJoined
import GoSem.ClaimMapViews
import Derived.JoinedTies
import Derived.KernelRfl
namespace Go.Proofs.YtlnbofleeegegaaDoor
/- THE CELL 'sum', in the pinned program and in every row, IS THE sha256 OF THE DUMP (.gsa) THAT YtlnbofleeegegaaDoorProg.lean LOADS. Nothing in Lean hashes anything: it is a label: what it is worth is what the hold of that sum in a sandbox is worth. -/
noncomputable def Tryd.pinned : Pinned := { name := "ytlnbofleeegegaadoor", sum := "62e3870a4e8ac70e506d7b34ee3a410918fc8b4ec8c323630529cba8c78d7cb7", checked := Tryd.checked }
namespace Rows
def none {H : Type} : Left H := { results := [], args := [] }

/- WHAT THE LISTED PACKAGE-LEVEL VARIABLES READ AS WHEN THE CALL BEGINS. Each datum BY PROGRAM (the guide's laid-datum.mjs) off the statement by which the dump's own 'gosem.cut.vars' lays the variable. In a bare row this is a premise. The card (YtlnbofleeegegaaDoorCards.lean) ties it to the program's text. -/
def laid_hostler_mach_places {H : Type} : DataW H := .agg [.agg [.lit (.string [101, 120, 101, 99]), .lit (.int .i64 0)], .agg [.lit (.string [115, 99, 104, 101, 100]), .lit (.int .i64 0)], .agg [.lit (.string [111, 110, 101]), .lit (.int .i64 1)], .agg [.lit (.string [108, 111, 99, 97, 108]), .lit (.int .i64 2)], .agg [.lit (.string [103, 108, 111, 98, 97, 108]), .lit (.int .i64 1)], .agg [.lit (.string [115, 112, 105, 110, 117, 112]), .lit (.int .i64 0)], .agg [.lit (.string [115, 116, 101, 97, 108]), .lit (.int .i64 3)], .agg [.lit (.string [114, 101, 108, 101, 97, 115, 101]), .lit (.int .i64 1)], .agg [.lit (.string [100, 114, 111, 112]), .lit (.int .i64 0)], .agg [.lit (.string [108, 111, 111, 107]), .lit (.int .i64 4)], .agg [.lit (.string [108, 111, 111, 107, 103, 108, 111, 98, 97, 108]), .lit (.int .i64 1)], .agg [.lit (.string [114, 101, 116, 97, 107, 101]), .lit (.int .i64 1)], .agg [.lit (.string [115, 112, 105, 110, 98, 97, 99, 107]), .lit (.int .i64 0)], .agg [.lit (.string [115, 116, 111, 112]), .lit (.int .i64 1)], .agg [.lit (.string [99, 104, 101, 99, 107]), .lit (.int .i64 5)], .agg [.lit (.string [117, 110, 112, 111, 108, 108]), .lit (.int .i64 1)], .agg [.lit (.string [115, 108, 101, 101, 112]), .lit (.int .i64 0)], .agg [.lit (.string [112, 117, 116, 114, 101, 115, 116]), .lit (.int .i64 2)], .agg [.lit (.string [112, 117, 116, 111, 118, 101, 114]), .lit (.int .i64 1)], .agg [.lit (.string [117, 110, 115, 112, 105, 110]), .lit (.int .i64 0)], .agg [.lit (.string [100, 105, 115, 112, 97, 116, 99, 104]), .lit (.int .i64 0)], .agg [.lit (.string [108, 111, 97, 100]), .lit (.int .i64 0)], .agg [.lit (.string [99, 108, 97, 105, 109]), .lit (.int .i64 0)], .agg [.lit (.string [102, 105, 110, 100]), .lit (.int .i64 1)], .agg [.lit (.string [119, 97, 107, 101]), .lit (.int .i64 0)], .agg [.lit (.string [100, 101, 108, 105, 118, 101, 114]), .lit (.int .i64 5)], .agg [.lit (.string [109, 97, 114, 107]), .lit (.int .i64 0)], .agg [.lit (.string [112, 117, 116, 111, 110, 101]), .lit (.int .i64 1)], .agg [.lit (.string [112, 117, 116, 110, 101, 120, 116]), .lit (.int .i64 2)], .agg [.lit (.string [112, 97, 114, 107]), .lit (.int .i64 5)], .agg [.lit (.string [97, 119, 97, 105, 116]), .lit (.int .i64 5)]]

/-- 'hostlerlaw19.MachRings': WHATEVER THE INPUT: true; the input reads as it did. -/
def machRingsSpec : ChangeSpec := { name := "machRings", fn := fun _ => fun
  | [d1, d2, d3] => { results := [.lit (.bool true)], args := [d1, d2, d3] }
  | _ => none }
def machRingsRow : OpenClaim := { program := "ytlnbofleeegegaadoor", sum := "62e3870a4e8ac70e506d7b34ee3a410918fc8b4ec8c323630529cba8c78d7cb7", func := "hostler/hostlerlaw19.MachRings", spec := "machRings", named := ["hostler/mach.places"], apart := false, laid := [("hostler/mach.places", laid_hostler_mach_places)] }
def MachRingsSaid : Prop := machRingsRow.holds Tryd.pinned (OpenSpec.ofChange machRingsSpec)

/-- ITS FALSE NEIGHBOUR: 'it returns false'. Refute it at one input. -/
def machRingsWrong : ChangeSpec := { name := "machRings", fn := fun _ => fun
  | [d1, d2, d3] => { results := [.lit (.bool false)], args := [d1, d2, d3] }
  | _ => none }
def MachRingsWrongFalsely : Prop := machRingsRow.holds Tryd.pinned (OpenSpec.ofChange machRingsWrong)

/-- 'hostlerlaw19.MachLocks': WHATEVER THE INPUT: true; the input reads as it did. -/
def machLocksSpec : ChangeSpec := { name := "machLocks", fn := fun _ => fun
  | [d1, d2, d3, d4] => { results := [.lit (.bool true)], args := [d1, d2, d3, d4] }
  | _ => none }
def machLocksRow : OpenClaim := { program := "ytlnbofleeegegaadoor", sum := "62e3870a4e8ac70e506d7b34ee3a410918fc8b4ec8c323630529cba8c78d7cb7", func := "hostler/hostlerlaw19.MachLocks", spec := "machLocks", named := ["hostler/mach.places"], apart := false, laid := [("hostler/mach.places", laid_hostler_mach_places)] }
def MachLocksSaid : Prop := machLocksRow.holds Tryd.pinned (OpenSpec.ofChange machLocksSpec)

/-- ITS FALSE NEIGHBOUR: 'it returns false'. Refute it at one input. -/
def machLocksWrong : ChangeSpec := { name := "machLocks", fn := fun _ => fun
  | [d1, d2, d3, d4] => { results := [.lit (.bool false)], args := [d1, d2, d3, d4] }
  | _ => none }
def MachLocksWrongFalsely : Prop := machLocksRow.holds Tryd.pinned (OpenSpec.ofChange machLocksWrong)

/-- 'hostlerlaw19.MachFresh': WHATEVER THE INPUT: true; the input reads as it did. -/
def machFreshSpec : ChangeSpec := { name := "machFresh", fn := fun _ => fun
  | [d1, d2] => { results := [.lit (.bool true)], args := [d1, d2] }
  | _ => none }
def machFreshRow : OpenClaim := { program := "ytlnbofleeegegaadoor", sum := "62e3870a4e8ac70e506d7b34ee3a410918fc8b4ec8c323630529cba8c78d7cb7", func := "hostler/hostlerlaw19.MachFresh", spec := "machFresh", named := ["hostler/mach.places"], apart := false, laid := [("hostler/mach.places", laid_hostler_mach_places)] }
def MachFreshSaid : Prop := machFreshRow.holds Tryd.pinned (OpenSpec.ofChange machFreshSpec)

/-- ITS FALSE NEIGHBOUR: 'it returns false'. Refute it at one input. -/
def machFreshWrong : ChangeSpec := { name := "machFresh", fn := fun _ => fun
  | [d1, d2] => { results := [.lit (.bool false)], args := [d1, d2] }
  | _ => none }
def MachFreshWrongFalsely : Prop := machFreshRow.holds Tryd.pinned (OpenSpec.ofChange machFreshWrong)

/-- 'hostlerlaw19.MachPlaces': WHATEVER THE INPUT: true; the input reads as it did. -/
def machPlacesSpec : ChangeSpec := { name := "machPlaces", fn := fun _ => fun
  | [d1, d2] => { results := [.lit (.bool true)], args := [d1, d2] }
  | _ => none }
def machPlacesRow : OpenClaim := { program := "ytlnbofleeegegaadoor", sum := "62e3870a4e8ac70e506d7b34ee3a410918fc8b4ec8c323630529cba8c78d7cb7", func := "hostler/hostlerlaw19.MachPlaces", spec := "machPlaces", unfollowed := true, recurses := true, named := ["hostler/mach.places"], apart := false, laid := [("hostler/mach.places", laid_hostler_mach_places)] }
def MachPlacesSaid : Prop := machPlacesRow.holds Tryd.pinned (OpenSpec.ofChange machPlacesSpec)

/-- ITS FALSE NEIGHBOUR: 'it returns false'. Refute it at one input. -/
def machPlacesWrong : ChangeSpec := { name := "machPlaces", fn := fun _ => fun
  | [d1, d2] => { results := [.lit (.bool false)], args := [d1, d2] }
  | _ => none }
def MachPlacesWrongFalsely : Prop := machPlacesRow.holds Tryd.pinned (OpenSpec.ofChange machPlacesWrong)

/- THE SECOND FORM. 'bulk': how many values and letters a reading holds, each counted each time it is reached (what is shared counts as often as it is met; a slice's spare places count too). A statement '..UptoSaid' is the law's where the arguments, and the package variables that the reading takes, are together of bulk at most 1048576: NARROWER than '..Said'. Prove '..Said' where nothing that the law and all that it calls make is longer than what came in: it says more and counts as full. Else prove '..UptoSaid'. A law counts once. -/
mutual
def uptoBulk {H : Type} : DataW H → Nat
  | .lit (.string bytes) => bytes.length + 1
  | .lit _ => 1
  | .nil => 1
  | .ptr d => uptoBulk d + 1
  | .slice elems spare => uptoBulkAll elems + uptoBulkAll spare + 1
  | .agg parts => uptoBulkAll parts + 1
  | .iface _ d => uptoBulk d + 1
  | .map entries => uptoBulkEntries entries + 1
  | .held _ => 1
def uptoBulkAll {H : Type} : List (DataW H) → Nat
  | [] => 0
  | d :: r => uptoBulk d + uptoBulkAll r
def uptoBulkEntries {H : Type} : List (Lit × DataW H) → Nat
  | [] => 0
  | x :: r => uptoBulkEntry x + uptoBulkEntries r
def uptoBulkEntry {H : Type} : Lit × DataW H → Nat
  | (.string bytes, d) => bytes.length + uptoBulk d + 1
  | (_, d) => uptoBulk d + 1
 end
def uptoSmall : (H : Type) → List (DataW H) → Bool := fun _ ds => decide (uptoBulkAll ds ≤ 1048576)
def OpenSpec.upto (s : _root_.Go.ChangeSpec) : _root_.Go.OpenSpec := { _root_.Go.OpenSpec.ofChange s with cond := some uptoSmall }

/-- 'hostlerlaw19.MachRings', WHERE WHAT IT READS IS OF BULK AT MOST 1048576: true; the input reads as it did. -/
def machRingsUptoRow : OpenClaim := { program := "ytlnbofleeegegaadoor", sum := "62e3870a4e8ac70e506d7b34ee3a410918fc8b4ec8c323630529cba8c78d7cb7", func := "hostler/hostlerlaw19.MachRings", spec := "machRings", named := ["hostler/mach.places"], apart := false, laid := [("hostler/mach.places", laid_hostler_mach_places)], narrowed := true }
def MachRingsUptoSaid : Prop := machRingsUptoRow.holds Tryd.pinned (OpenSpec.upto machRingsSpec)

/-- 'hostlerlaw19.MachLocks', WHERE WHAT IT READS IS OF BULK AT MOST 1048576: true; the input reads as it did. -/
def machLocksUptoRow : OpenClaim := { program := "ytlnbofleeegegaadoor", sum := "62e3870a4e8ac70e506d7b34ee3a410918fc8b4ec8c323630529cba8c78d7cb7", func := "hostler/hostlerlaw19.MachLocks", spec := "machLocks", named := ["hostler/mach.places"], apart := false, laid := [("hostler/mach.places", laid_hostler_mach_places)], narrowed := true }
def MachLocksUptoSaid : Prop := machLocksUptoRow.holds Tryd.pinned (OpenSpec.upto machLocksSpec)

/-- 'hostlerlaw19.MachFresh', WHERE WHAT IT READS IS OF BULK AT MOST 1048576: true; the input reads as it did. -/
def machFreshUptoRow : OpenClaim := { program := "ytlnbofleeegegaadoor", sum := "62e3870a4e8ac70e506d7b34ee3a410918fc8b4ec8c323630529cba8c78d7cb7", func := "hostler/hostlerlaw19.MachFresh", spec := "machFresh", named := ["hostler/mach.places"], apart := false, laid := [("hostler/mach.places", laid_hostler_mach_places)], narrowed := true }
def MachFreshUptoSaid : Prop := machFreshUptoRow.holds Tryd.pinned (OpenSpec.upto machFreshSpec)

/-- 'hostlerlaw19.MachPlaces', WHERE WHAT IT READS IS OF BULK AT MOST 1048576: true; the input reads as it did. -/
def machPlacesUptoRow : OpenClaim := { program := "ytlnbofleeegegaadoor", sum := "62e3870a4e8ac70e506d7b34ee3a410918fc8b4ec8c323630529cba8c78d7cb7", func := "hostler/hostlerlaw19.MachPlaces", spec := "machPlaces", unfollowed := true, recurses := true, named := ["hostler/mach.places"], apart := false, laid := [("hostler/mach.places", laid_hostler_mach_places)], narrowed := true }
def MachPlacesUptoSaid : Prop := machPlacesUptoRow.holds Tryd.pinned (OpenSpec.upto machPlacesSpec)

end Rows
end Go.Proofs.YtlnbofleeegegaaDoor
