/-
  DERIVED. GIVEN WITH THE SEED: THE CARDS: each row of YtfjjgdnepfgnhaaGreatDoorRows.lean that lists a variable, with what it lists TIED to the program's text (the seventh form; the later family's looks); each row that meets fmt, with fmt's text TOLD by the authors' own Lean function (tested against real Go, not proved from fmt's source: count such statements apart). THE CARD IS WHAT COUNTS. Prove the row's statement (the work); the ties are given (YtfjjgdnepfgnhaaGreatDoorTie.lean); close each card by the builder's one call (the guide's Derived/Test/ToyasCard.lean, 'card_holds'). Laid BY PROGRAM, IN A SANDBOX (cutbox-door.mjs). By AI agents, Wed Nov 11 2026. No macro, syntax, notation, axiom, sorry.
-/
import Derived.Test.YtfjjgdnepfgnhaaGreatDoorRows
import GoSem.ClaimSeven
namespace Go.Proofs.YtfjjgdnepfgnhaaGreatDoor
namespace Rows

/-- THE TIED CARD OF 'annalstop.WholeLogged'. -/
def wholeLoggedCard : Claim7 := { stood := { row := wholeLoggedRow, standIns := [], harness := (true, "b7ac1478c91150ca1009595e8118590dd4dfbdca877c8fcc3ef60127d260e6b9"), looks := false }, kinds := [], alts := [], laidByText := true, laidKinds := [.data, .pinned], laidTests := true, laidLooks := .later }
def WholeLoggedCardSaid : Prop := Claim7.holds Tryz.pinned (.plain (OpenSpec.ofChange wholeLoggedSpec)) wholeLoggedCard

/-- THE TIED CARD OF 'annalslaw08.HeapCrashes'. -/
def heapCrashesCard : Claim7 := { stood := { row := heapCrashesRow, standIns := [], harness := (true, "b7ac1478c91150ca1009595e8118590dd4dfbdca877c8fcc3ef60127d260e6b9"), looks := false }, kinds := [], alts := [], laidByText := true, laidKinds := [.data, .pinned], laidTests := true, laidLooks := .later }
def HeapCrashesCardSaid : Prop := Claim7.holds Tryz.pinned (.plain (OpenSpec.ofChange heapCrashesSpec)) heapCrashesCard

/-- THE TIED CARD OF 'annalslaw08.HeapFlight'. -/
def heapFlightCard : Claim7 := { stood := { row := heapFlightRow, standIns := [], harness := (true, "b7ac1478c91150ca1009595e8118590dd4dfbdca877c8fcc3ef60127d260e6b9"), looks := false }, kinds := [], alts := [], laidByText := true, laidKinds := [.data, .pinned], laidTests := true, laidLooks := .later }
def HeapFlightCardSaid : Prop := Claim7.holds Tryz.pinned (.plain (OpenSpec.ofChange heapFlightSpec)) heapFlightCard

/-- THE SECOND FORM's CARD OF 'annalstop.WholeLogged'. -/
def wholeLoggedUptoCard : Claim7 := { stood := { row := wholeLoggedUptoRow, standIns := [], harness := (true, "b7ac1478c91150ca1009595e8118590dd4dfbdca877c8fcc3ef60127d260e6b9"), looks := false }, kinds := [], alts := [], laidByText := true, laidKinds := [.data, .pinned], laidTests := true, laidLooks := .later }
def WholeLoggedUptoCardSaid : Prop := Claim7.holds Tryz.pinned (.plain (OpenSpec.upto wholeLoggedSpec)) wholeLoggedUptoCard

/-- THE SECOND FORM's CARD OF 'annalslaw08.HeapCrashes'. -/
def heapCrashesUptoCard : Claim7 := { stood := { row := heapCrashesUptoRow, standIns := [], harness := (true, "b7ac1478c91150ca1009595e8118590dd4dfbdca877c8fcc3ef60127d260e6b9"), looks := false }, kinds := [], alts := [], laidByText := true, laidKinds := [.data, .pinned], laidTests := true, laidLooks := .later }
def HeapCrashesUptoCardSaid : Prop := Claim7.holds Tryz.pinned (.plain (OpenSpec.upto heapCrashesSpec)) heapCrashesUptoCard

/-- THE SECOND FORM's CARD OF 'annalslaw08.HeapFlight'. -/
def heapFlightUptoCard : Claim7 := { stood := { row := heapFlightUptoRow, standIns := [], harness := (true, "b7ac1478c91150ca1009595e8118590dd4dfbdca877c8fcc3ef60127d260e6b9"), looks := false }, kinds := [], alts := [], laidByText := true, laidKinds := [.data, .pinned], laidTests := true, laidLooks := .later }
def HeapFlightUptoCardSaid : Prop := Claim7.holds Tryz.pinned (.plain (OpenSpec.upto heapFlightSpec)) heapFlightUptoCard
end Rows
end Go.Proofs.YtfjjgdnepfgnhaaGreatDoor
