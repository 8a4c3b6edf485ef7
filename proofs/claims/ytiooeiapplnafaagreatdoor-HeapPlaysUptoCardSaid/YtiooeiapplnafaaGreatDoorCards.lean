/-
  DERIVED. GIVEN WITH THE SEED: THE CARDS: each row of YtiooeiapplnafaaGreatDoorRows.lean that lists a variable, with what it lists TIED to the program's text (the seventh form; the later family's looks); each row that meets fmt, with fmt's text TOLD by the authors' own Lean function (tested against real Go, not proved from fmt's source: count such statements apart). THE CARD IS WHAT COUNTS. Prove the row's statement (the work); the ties are given (YtiooeiapplnafaaGreatDoorTie.lean); close each card by the builder's one call (the guide's Derived/Test/ToyasCard.lean, 'card_holds'). Laid BY PROGRAM, IN A SANDBOX (cutbox-door.mjs). By AI agents, Wed Nov 11 2026. No macro, syntax, notation, axiom, sorry.
-/
import Derived.Test.YtiooeiapplnafaaGreatDoorRows
import GoSem.ClaimSeven
namespace Go.Proofs.YtiooeiapplnafaaGreatDoor
namespace Rows

/-- THE TIED CARD OF 'annalslaw08.HeapKeeps'. -/
def heapKeepsCard : Claim7 := { stood := { row := heapKeepsRow, standIns := [], harness := (true, "3b050d0f1a24a17b21f7aaf1785f097774e1f4db83416429caaf8cbf59ad5836"), looks := true }, kinds := [], alts := [], laidByText := true, laidKinds := [.data, .pinned], laidTests := true, laidLooks := .later }
def HeapKeepsCardSaid : Prop := Claim7.holds Tryz.pinned (.plain (OpenSpec.ofChange heapKeepsSpec)) heapKeepsCard

/-- THE TIED CARD OF 'annalslaw08.HeapFirst'. -/
def heapFirstCard : Claim7 := { stood := { row := heapFirstRow, standIns := [], harness := (true, "3b050d0f1a24a17b21f7aaf1785f097774e1f4db83416429caaf8cbf59ad5836"), looks := true }, kinds := [], alts := [], laidByText := true, laidKinds := [.data, .pinned], laidTests := true, laidLooks := .later }
def HeapFirstCardSaid : Prop := Claim7.holds Tryz.pinned (.plain (OpenSpec.ofChange heapFirstSpec)) heapFirstCard

/-- THE TIED CARD OF 'annalslaw08.HeapFits'. -/
def heapFitsCard : Claim7 := { stood := { row := heapFitsRow, standIns := [], harness := (true, "3b050d0f1a24a17b21f7aaf1785f097774e1f4db83416429caaf8cbf59ad5836"), looks := true }, kinds := [], alts := [], laidByText := true, laidKinds := [.data, .pinned], laidTests := true, laidLooks := .later }
def HeapFitsCardSaid : Prop := Claim7.holds Tryz.pinned (.plain (OpenSpec.ofChange heapFitsSpec)) heapFitsCard

/-- THE TIED CARD OF 'annalslaw08.HeapLost'. -/
def heapLostCard : Claim7 := { stood := { row := heapLostRow, standIns := [], harness := (true, "3b050d0f1a24a17b21f7aaf1785f097774e1f4db83416429caaf8cbf59ad5836"), looks := true }, kinds := [], alts := [], laidByText := true, laidKinds := [.data, .pinned], laidTests := true, laidLooks := .later }
def HeapLostCardSaid : Prop := Claim7.holds Tryz.pinned (.plain (OpenSpec.ofChange heapLostSpec)) heapLostCard

/-- THE TIED CARD OF 'annalslaw08.HeapPlays'. -/
def heapPlaysCard : Claim7 := { stood := { row := heapPlaysRow, standIns := [], harness := (true, "3b050d0f1a24a17b21f7aaf1785f097774e1f4db83416429caaf8cbf59ad5836"), looks := true }, kinds := [], alts := [], laidByText := true, laidKinds := [.data, .pinned], laidTests := true, laidLooks := .later }
def HeapPlaysCardSaid : Prop := Claim7.holds Tryz.pinned (.plain (OpenSpec.ofChange heapPlaysSpec)) heapPlaysCard

/-- THE TIED CARD OF 'annalslaw08.HeapCrashes'. -/
def heapCrashesCard : Claim7 := { stood := { row := heapCrashesRow, standIns := [], harness := (true, "3b050d0f1a24a17b21f7aaf1785f097774e1f4db83416429caaf8cbf59ad5836"), looks := true }, kinds := [], alts := [], laidByText := true, laidKinds := [.data, .pinned], laidTests := true, laidLooks := .later }
def HeapCrashesCardSaid : Prop := Claim7.holds Tryz.pinned (.plain (OpenSpec.ofChange heapCrashesSpec)) heapCrashesCard

/-- THE TIED CARD OF 'annalslaw08.HeapFlight'. -/
def heapFlightCard : Claim7 := { stood := { row := heapFlightRow, standIns := [], harness := (true, "3b050d0f1a24a17b21f7aaf1785f097774e1f4db83416429caaf8cbf59ad5836"), looks := true }, kinds := [], alts := [], laidByText := true, laidKinds := [.data, .pinned], laidTests := true, laidLooks := .later }
def HeapFlightCardSaid : Prop := Claim7.holds Tryz.pinned (.plain (OpenSpec.ofChange heapFlightSpec)) heapFlightCard

/-- THE TIED CARD OF 'annalslaw21.StoreHistory'. -/
def storeHistoryCard : Claim7 := { stood := { row := storeHistoryRow, standIns := [], harness := (true, "3b050d0f1a24a17b21f7aaf1785f097774e1f4db83416429caaf8cbf59ad5836"), looks := true }, kinds := [], alts := [], laidByText := true, laidKinds := [.data, .pinned], laidTests := true, laidLooks := .later }
def StoreHistoryCardSaid : Prop := Claim7.holds Tryz.pinned (.plain (OpenSpec.ofChange storeHistorySpec)) storeHistoryCard

/-- THE TIED CARD OF 'annalslaw21.StoreKeeps'. -/
def storeKeepsCard : Claim7 := { stood := { row := storeKeepsRow, standIns := [], harness := (true, "3b050d0f1a24a17b21f7aaf1785f097774e1f4db83416429caaf8cbf59ad5836"), looks := true }, kinds := [], alts := [], laidByText := true, laidKinds := [.data, .pinned], laidTests := true, laidLooks := .later }
def StoreKeepsCardSaid : Prop := Claim7.holds Tryz.pinned (.plain (OpenSpec.ofChange storeKeepsSpec)) storeKeepsCard

/-- THE TIED CARD OF 'annalslaw21.StoreTables'. -/
def storeTablesCard : Claim7 := { stood := { row := storeTablesRow, standIns := [], harness := (true, "3b050d0f1a24a17b21f7aaf1785f097774e1f4db83416429caaf8cbf59ad5836"), looks := true }, kinds := [], alts := [], laidByText := true, laidKinds := [.data, .pinned], laidTests := true, laidLooks := .later }
def StoreTablesCardSaid : Prop := Claim7.holds Tryz.pinned (.plain (OpenSpec.ofChange storeTablesSpec)) storeTablesCard

/-- THE TIED CARD OF 'annalslaw21.StoreEnds'. -/
def storeEndsCard : Claim7 := { stood := { row := storeEndsRow, standIns := [], harness := (true, "3b050d0f1a24a17b21f7aaf1785f097774e1f4db83416429caaf8cbf59ad5836"), looks := true }, kinds := [], alts := [], laidByText := true, laidKinds := [.data, .pinned], laidTests := true, laidLooks := .later }
def StoreEndsCardSaid : Prop := Claim7.holds Tryz.pinned (.plain (OpenSpec.ofChange storeEndsSpec)) storeEndsCard

/-- THE TIED CARD OF 'annalslaw21.StorePlays'. -/
def storePlaysCard : Claim7 := { stood := { row := storePlaysRow, standIns := [], harness := (true, "3b050d0f1a24a17b21f7aaf1785f097774e1f4db83416429caaf8cbf59ad5836"), looks := true }, kinds := [], alts := [], laidByText := true, laidKinds := [.data, .pinned], laidTests := true, laidLooks := .later }
def StorePlaysCardSaid : Prop := Claim7.holds Tryz.pinned (.plain (OpenSpec.ofChange storePlaysSpec)) storePlaysCard

/-- THE SECOND FORM's CARD OF 'annalslaw08.HeapKeeps'. -/
def heapKeepsUptoCard : Claim7 := { stood := { row := heapKeepsUptoRow, standIns := [], harness := (true, "3b050d0f1a24a17b21f7aaf1785f097774e1f4db83416429caaf8cbf59ad5836"), looks := true }, kinds := [], alts := [], laidByText := true, laidKinds := [.data, .pinned], laidTests := true, laidLooks := .later }
def HeapKeepsUptoCardSaid : Prop := Claim7.holds Tryz.pinned (.plain (OpenSpec.upto heapKeepsSpec)) heapKeepsUptoCard

/-- THE SECOND FORM's CARD OF 'annalslaw08.HeapFirst'. -/
def heapFirstUptoCard : Claim7 := { stood := { row := heapFirstUptoRow, standIns := [], harness := (true, "3b050d0f1a24a17b21f7aaf1785f097774e1f4db83416429caaf8cbf59ad5836"), looks := true }, kinds := [], alts := [], laidByText := true, laidKinds := [.data, .pinned], laidTests := true, laidLooks := .later }
def HeapFirstUptoCardSaid : Prop := Claim7.holds Tryz.pinned (.plain (OpenSpec.upto heapFirstSpec)) heapFirstUptoCard

/-- THE SECOND FORM's CARD OF 'annalslaw08.HeapFits'. -/
def heapFitsUptoCard : Claim7 := { stood := { row := heapFitsUptoRow, standIns := [], harness := (true, "3b050d0f1a24a17b21f7aaf1785f097774e1f4db83416429caaf8cbf59ad5836"), looks := true }, kinds := [], alts := [], laidByText := true, laidKinds := [.data, .pinned], laidTests := true, laidLooks := .later }
def HeapFitsUptoCardSaid : Prop := Claim7.holds Tryz.pinned (.plain (OpenSpec.upto heapFitsSpec)) heapFitsUptoCard

/-- THE SECOND FORM's CARD OF 'annalslaw08.HeapLost'. -/
def heapLostUptoCard : Claim7 := { stood := { row := heapLostUptoRow, standIns := [], harness := (true, "3b050d0f1a24a17b21f7aaf1785f097774e1f4db83416429caaf8cbf59ad5836"), looks := true }, kinds := [], alts := [], laidByText := true, laidKinds := [.data, .pinned], laidTests := true, laidLooks := .later }
def HeapLostUptoCardSaid : Prop := Claim7.holds Tryz.pinned (.plain (OpenSpec.upto heapLostSpec)) heapLostUptoCard

/-- THE SECOND FORM's CARD OF 'annalslaw08.HeapPlays'. -/
def heapPlaysUptoCard : Claim7 := { stood := { row := heapPlaysUptoRow, standIns := [], harness := (true, "3b050d0f1a24a17b21f7aaf1785f097774e1f4db83416429caaf8cbf59ad5836"), looks := true }, kinds := [], alts := [], laidByText := true, laidKinds := [.data, .pinned], laidTests := true, laidLooks := .later }
def HeapPlaysUptoCardSaid : Prop := Claim7.holds Tryz.pinned (.plain (OpenSpec.upto heapPlaysSpec)) heapPlaysUptoCard

/-- THE SECOND FORM's CARD OF 'annalslaw08.HeapCrashes'. -/
def heapCrashesUptoCard : Claim7 := { stood := { row := heapCrashesUptoRow, standIns := [], harness := (true, "3b050d0f1a24a17b21f7aaf1785f097774e1f4db83416429caaf8cbf59ad5836"), looks := true }, kinds := [], alts := [], laidByText := true, laidKinds := [.data, .pinned], laidTests := true, laidLooks := .later }
def HeapCrashesUptoCardSaid : Prop := Claim7.holds Tryz.pinned (.plain (OpenSpec.upto heapCrashesSpec)) heapCrashesUptoCard

/-- THE SECOND FORM's CARD OF 'annalslaw08.HeapFlight'. -/
def heapFlightUptoCard : Claim7 := { stood := { row := heapFlightUptoRow, standIns := [], harness := (true, "3b050d0f1a24a17b21f7aaf1785f097774e1f4db83416429caaf8cbf59ad5836"), looks := true }, kinds := [], alts := [], laidByText := true, laidKinds := [.data, .pinned], laidTests := true, laidLooks := .later }
def HeapFlightUptoCardSaid : Prop := Claim7.holds Tryz.pinned (.plain (OpenSpec.upto heapFlightSpec)) heapFlightUptoCard

/-- THE SECOND FORM's CARD OF 'annalslaw21.StoreHistory'. -/
def storeHistoryUptoCard : Claim7 := { stood := { row := storeHistoryUptoRow, standIns := [], harness := (true, "3b050d0f1a24a17b21f7aaf1785f097774e1f4db83416429caaf8cbf59ad5836"), looks := true }, kinds := [], alts := [], laidByText := true, laidKinds := [.data, .pinned], laidTests := true, laidLooks := .later }
def StoreHistoryUptoCardSaid : Prop := Claim7.holds Tryz.pinned (.plain (OpenSpec.upto storeHistorySpec)) storeHistoryUptoCard

/-- THE SECOND FORM's CARD OF 'annalslaw21.StoreKeeps'. -/
def storeKeepsUptoCard : Claim7 := { stood := { row := storeKeepsUptoRow, standIns := [], harness := (true, "3b050d0f1a24a17b21f7aaf1785f097774e1f4db83416429caaf8cbf59ad5836"), looks := true }, kinds := [], alts := [], laidByText := true, laidKinds := [.data, .pinned], laidTests := true, laidLooks := .later }
def StoreKeepsUptoCardSaid : Prop := Claim7.holds Tryz.pinned (.plain (OpenSpec.upto storeKeepsSpec)) storeKeepsUptoCard

/-- THE SECOND FORM's CARD OF 'annalslaw21.StoreTables'. -/
def storeTablesUptoCard : Claim7 := { stood := { row := storeTablesUptoRow, standIns := [], harness := (true, "3b050d0f1a24a17b21f7aaf1785f097774e1f4db83416429caaf8cbf59ad5836"), looks := true }, kinds := [], alts := [], laidByText := true, laidKinds := [.data, .pinned], laidTests := true, laidLooks := .later }
def StoreTablesUptoCardSaid : Prop := Claim7.holds Tryz.pinned (.plain (OpenSpec.upto storeTablesSpec)) storeTablesUptoCard

/-- THE SECOND FORM's CARD OF 'annalslaw21.StoreEnds'. -/
def storeEndsUptoCard : Claim7 := { stood := { row := storeEndsUptoRow, standIns := [], harness := (true, "3b050d0f1a24a17b21f7aaf1785f097774e1f4db83416429caaf8cbf59ad5836"), looks := true }, kinds := [], alts := [], laidByText := true, laidKinds := [.data, .pinned], laidTests := true, laidLooks := .later }
def StoreEndsUptoCardSaid : Prop := Claim7.holds Tryz.pinned (.plain (OpenSpec.upto storeEndsSpec)) storeEndsUptoCard

/-- THE SECOND FORM's CARD OF 'annalslaw21.StorePlays'. -/
def storePlaysUptoCard : Claim7 := { stood := { row := storePlaysUptoRow, standIns := [], harness := (true, "3b050d0f1a24a17b21f7aaf1785f097774e1f4db83416429caaf8cbf59ad5836"), looks := true }, kinds := [], alts := [], laidByText := true, laidKinds := [.data, .pinned], laidTests := true, laidLooks := .later }
def StorePlaysUptoCardSaid : Prop := Claim7.holds Tryz.pinned (.plain (OpenSpec.upto storePlaysSpec)) storePlaysUptoCard
end Rows
end Go.Proofs.YtiooeiapplnafaaGreatDoor
