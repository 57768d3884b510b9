/-
  DERIVED. GIVEN WITH THE SEED: THE CARDS: each row of YtlnbofleeegegaaDoorRows.lean that lists a variable, with what it lists TIED to the program's text (the seventh form; the later family's looks); each row that meets fmt, with fmt's text TOLD by the authors' own Lean function (tested against real Go, not proved from fmt's source: count such statements apart). THE CARD IS WHAT COUNTS. Prove the row's statement (the work); the ties are given (YtlnbofleeegegaaDoorTie.lean); close each card by the builder's one call (the guide's Derived/Test/ToyasCard.lean, 'card_holds'). Laid BY PROGRAM, IN A SANDBOX (cutbox-door.mjs). By AI agents, Wed Nov 11 2026. No macro, syntax, notation, axiom, sorry.
-/
import Derived.Test.YtlnbofleeegegaaDoorRows
import GoSem.ClaimSeven
namespace Go.Proofs.YtlnbofleeegegaaDoor
namespace Rows

/-- THE TIED CARD OF 'hostlerlaw19.MachRings'. -/
def machRingsCard : Claim7 := { stood := { row := machRingsRow, standIns := [], harness := (true, "61981b0310e916a7569fc5a2cfe4554a41abc6dcb62dab2f2d446a95b5e6f593"), looks := false }, kinds := [], alts := [], laidByText := true, laidKinds := [.widerDeep], laidTests := true, laidLooks := .later }
def MachRingsCardSaid : Prop := Claim7.holds Tryd.pinned (.plain (OpenSpec.ofChange machRingsSpec)) machRingsCard

/-- THE TIED CARD OF 'hostlerlaw19.MachLocks'. -/
def machLocksCard : Claim7 := { stood := { row := machLocksRow, standIns := [], harness := (true, "61981b0310e916a7569fc5a2cfe4554a41abc6dcb62dab2f2d446a95b5e6f593"), looks := false }, kinds := [], alts := [], laidByText := true, laidKinds := [.widerDeep], laidTests := true, laidLooks := .later }
def MachLocksCardSaid : Prop := Claim7.holds Tryd.pinned (.plain (OpenSpec.ofChange machLocksSpec)) machLocksCard

/-- THE TIED CARD OF 'hostlerlaw19.MachFresh'. -/
def machFreshCard : Claim7 := { stood := { row := machFreshRow, standIns := [], harness := (true, "61981b0310e916a7569fc5a2cfe4554a41abc6dcb62dab2f2d446a95b5e6f593"), looks := false }, kinds := [], alts := [], laidByText := true, laidKinds := [.widerDeep], laidTests := true, laidLooks := .later }
def MachFreshCardSaid : Prop := Claim7.holds Tryd.pinned (.plain (OpenSpec.ofChange machFreshSpec)) machFreshCard

/-- THE TIED CARD OF 'hostlerlaw19.MachPlaces'. -/
def machPlacesCard : Claim7 := { stood := { row := machPlacesRow, standIns := [], harness := (true, "61981b0310e916a7569fc5a2cfe4554a41abc6dcb62dab2f2d446a95b5e6f593"), looks := false }, kinds := [], alts := [], laidByText := true, laidKinds := [.widerDeep], laidTests := true, laidLooks := .later }
def MachPlacesCardSaid : Prop := Claim7.holds Tryd.pinned (.plain (OpenSpec.ofChange machPlacesSpec)) machPlacesCard

/-- THE SECOND FORM's CARD OF 'hostlerlaw19.MachRings'. -/
def machRingsUptoCard : Claim7 := { stood := { row := machRingsUptoRow, standIns := [], harness := (true, "61981b0310e916a7569fc5a2cfe4554a41abc6dcb62dab2f2d446a95b5e6f593"), looks := false }, kinds := [], alts := [], laidByText := true, laidKinds := [.widerDeep], laidTests := true, laidLooks := .later }
def MachRingsUptoCardSaid : Prop := Claim7.holds Tryd.pinned (.plain (OpenSpec.upto machRingsSpec)) machRingsUptoCard

/-- THE SECOND FORM's CARD OF 'hostlerlaw19.MachLocks'. -/
def machLocksUptoCard : Claim7 := { stood := { row := machLocksUptoRow, standIns := [], harness := (true, "61981b0310e916a7569fc5a2cfe4554a41abc6dcb62dab2f2d446a95b5e6f593"), looks := false }, kinds := [], alts := [], laidByText := true, laidKinds := [.widerDeep], laidTests := true, laidLooks := .later }
def MachLocksUptoCardSaid : Prop := Claim7.holds Tryd.pinned (.plain (OpenSpec.upto machLocksSpec)) machLocksUptoCard

/-- THE SECOND FORM's CARD OF 'hostlerlaw19.MachFresh'. -/
def machFreshUptoCard : Claim7 := { stood := { row := machFreshUptoRow, standIns := [], harness := (true, "61981b0310e916a7569fc5a2cfe4554a41abc6dcb62dab2f2d446a95b5e6f593"), looks := false }, kinds := [], alts := [], laidByText := true, laidKinds := [.widerDeep], laidTests := true, laidLooks := .later }
def MachFreshUptoCardSaid : Prop := Claim7.holds Tryd.pinned (.plain (OpenSpec.upto machFreshSpec)) machFreshUptoCard

/-- THE SECOND FORM's CARD OF 'hostlerlaw19.MachPlaces'. -/
def machPlacesUptoCard : Claim7 := { stood := { row := machPlacesUptoRow, standIns := [], harness := (true, "61981b0310e916a7569fc5a2cfe4554a41abc6dcb62dab2f2d446a95b5e6f593"), looks := false }, kinds := [], alts := [], laidByText := true, laidKinds := [.widerDeep], laidTests := true, laidLooks := .later }
def MachPlacesUptoCardSaid : Prop := Claim7.holds Tryd.pinned (.plain (OpenSpec.upto machPlacesSpec)) machPlacesUptoCard
end Rows
end Go.Proofs.YtlnbofleeegegaaDoor
