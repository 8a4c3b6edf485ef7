/-
  DERIVED. GIVEN WITH THE SEED: THE CARDS: each row of YtnnfjemaeefbiaaGreatDoorRows.lean that lists a variable, with what it lists TIED to the program's text (the seventh form; the later family's looks); each row that meets fmt, with fmt's text TOLD by the authors' own Lean function (tested against real Go, not proved from fmt's source: count such statements apart). THE CARD IS WHAT COUNTS. Prove the row's statement (the work); the ties are given (YtnnfjemaeefbiaaGreatDoorTie.lean); close each card by the builder's one call (the guide's Derived/Test/ToyasCard.lean, 'card_holds'). Laid BY PROGRAM, IN A SANDBOX (cutbox-door.mjs). By AI agents, Wed Nov 11 2026. No macro, syntax, notation, axiom, sorry.
-/
import Derived.Test.YtnnfjemaeefbiaaGreatDoorRows
import GoSem.ClaimSeven
namespace Go.Proofs.YtnnfjemaeefbiaaGreatDoor
namespace Rows

/-- THE TIED CARD OF 'annalstop.WholeConditions'. -/
def wholeConditionsCard : Claim7 := { stood := { row := wholeConditionsRow, standIns := [], harness := (true, "4ceca4484097f1ad6a010a208cdbd07020b1a1e6ec89be3d8c2d8dc26dfb97f1"), looks := true }, kinds := [], alts := [], laidByText := true, laidKinds := [.data, .pinned, .pinned], laidTests := true, laidLooks := .later }
def WholeConditionsCardSaid : Prop := Claim7.holds Tryz.pinned (.plain (OpenSpec.ofChange wholeConditionsSpec)) wholeConditionsCard

/-- THE TIED CARD OF 'annalstop.WholePortion'. -/
def wholePortionCard : Claim7 := { stood := { row := wholePortionRow, standIns := [], harness := (true, "4ceca4484097f1ad6a010a208cdbd07020b1a1e6ec89be3d8c2d8dc26dfb97f1"), looks := true }, kinds := [], alts := [], laidByText := true, laidKinds := [.data, .pinned, .pinned], laidTests := true, laidLooks := .later }
def WholePortionCardSaid : Prop := Claim7.holds Tryz.pinned (.plain (OpenSpec.ofChange wholePortionSpec)) wholePortionCard

/-- THE SECOND FORM's CARD OF 'annalstop.WholeConditions'. -/
def wholeConditionsUptoCard : Claim7 := { stood := { row := wholeConditionsUptoRow, standIns := [], harness := (true, "4ceca4484097f1ad6a010a208cdbd07020b1a1e6ec89be3d8c2d8dc26dfb97f1"), looks := true }, kinds := [], alts := [], laidByText := true, laidKinds := [.data, .pinned, .pinned], laidTests := true, laidLooks := .later }
def WholeConditionsUptoCardSaid : Prop := Claim7.holds Tryz.pinned (.plain (OpenSpec.upto wholeConditionsSpec)) wholeConditionsUptoCard

/-- THE SECOND FORM's CARD OF 'annalstop.WholePortion'. -/
def wholePortionUptoCard : Claim7 := { stood := { row := wholePortionUptoRow, standIns := [], harness := (true, "4ceca4484097f1ad6a010a208cdbd07020b1a1e6ec89be3d8c2d8dc26dfb97f1"), looks := true }, kinds := [], alts := [], laidByText := true, laidKinds := [.data, .pinned, .pinned], laidTests := true, laidLooks := .later }
def WholePortionUptoCardSaid : Prop := Claim7.holds Tryz.pinned (.plain (OpenSpec.upto wholePortionSpec)) wholePortionUptoCard
end Rows
end Go.Proofs.YtnnfjemaeefbiaaGreatDoor
