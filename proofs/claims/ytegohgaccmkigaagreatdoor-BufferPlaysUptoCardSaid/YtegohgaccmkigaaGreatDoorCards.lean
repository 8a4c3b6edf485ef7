/-
  DERIVED. GIVEN WITH THE SEED: THE CARDS: each row of YtegohgaccmkigaaGreatDoorRows.lean that lists a variable, with what it lists TIED to the program's text (the seventh form; the later family's looks); each row that meets fmt, with fmt's text TOLD by the authors' own Lean function (tested against real Go, not proved from fmt's source: count such statements apart). THE CARD IS WHAT COUNTS. Prove the row's statement (the work); the ties are given (YtegohgaccmkigaaGreatDoorTie.lean); close each card by the builder's one call (the guide's Derived/Test/ToyasCard.lean, 'card_holds'). Laid BY PROGRAM, IN A SANDBOX (cutbox-door.mjs). By AI agents, Wed Nov 11 2026. No macro, syntax, notation, axiom, sorry.
-/
import Derived.Test.YtegohgaccmkigaaGreatDoorRows
import GoSem.ClaimSeven
namespace Go.Proofs.YtegohgaccmkigaaGreatDoor
namespace Rows

/-- THE TIED CARD OF 'annalslaw06.BufferPlays'. -/
def bufferPlaysCard : Claim7 := { stood := { row := bufferPlaysRow, standIns := [], harness := (true, "7266b03387b2615d786ceeb4924077dde3acabd27421b79335985b4d2148b28e"), looks := false }, kinds := [], alts := [], laidByText := true, laidKinds := [.data, .pinned], laidTests := true, laidLooks := .later }
def BufferPlaysCardSaid : Prop := Claim7.holds Tryz.pinned (.plain (OpenSpec.ofChange bufferPlaysSpec)) bufferPlaysCard

/-- THE SECOND FORM's CARD OF 'annalslaw06.BufferPlays'. -/
def bufferPlaysUptoCard : Claim7 := { stood := { row := bufferPlaysUptoRow, standIns := [], harness := (true, "7266b03387b2615d786ceeb4924077dde3acabd27421b79335985b4d2148b28e"), looks := false }, kinds := [], alts := [], laidByText := true, laidKinds := [.data, .pinned], laidTests := true, laidLooks := .later }
def BufferPlaysUptoCardSaid : Prop := Claim7.holds Tryz.pinned (.plain (OpenSpec.upto bufferPlaysSpec)) bufferPlaysUptoCard
end Rows
end Go.Proofs.YtegohgaccmkigaaGreatDoor
