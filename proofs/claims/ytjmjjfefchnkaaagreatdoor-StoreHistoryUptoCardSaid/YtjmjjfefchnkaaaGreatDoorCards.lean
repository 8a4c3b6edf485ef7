/-
  DERIVED. GIVEN WITH THE SEED: THE CARDS: each row of YtjmjjfefchnkaaaGreatDoorRows.lean that lists a variable, with what it lists TIED to the program's text (the seventh form; the later family's looks); each row that meets fmt, with fmt's text TOLD by the authors' own Lean function (tested against real Go, not proved from fmt's source: count such statements apart). THE CARD IS WHAT COUNTS. Prove the row's statement (the work); the ties are given (YtjmjjfefchnkaaaGreatDoorTie.lean); close each card by the builder's one call (the guide's Derived/Test/ToyasCard.lean, 'card_holds'). Laid BY PROGRAM, IN A SANDBOX (cutbox-door.mjs). By AI agents, Wed Nov 11 2026. No macro, syntax, notation, axiom, sorry.
-/
import Derived.Test.YtjmjjfefchnkaaaGreatDoorRows
import GoSem.ClaimSeven
namespace Go.Proofs.YtjmjjfefchnkaaaGreatDoor
namespace Rows

/-- THE TIED CARD OF 'annalslaw21.StoreHistory'. -/
def storeHistoryCard : Claim7 := { stood := { row := storeHistoryRow, standIns := [], harness := (true, "bd94db6da6f2dc6582bbfd689cef8579362bc0ef77f127656ca93bb5b036808f"), looks := true }, kinds := [], alts := [], laidByText := true, laidKinds := [.data, .pinned], laidTests := true, laidLooks := .later }
def StoreHistoryCardSaid : Prop := Claim7.holds Tryz.pinned (.plain (OpenSpec.ofChange storeHistorySpec)) storeHistoryCard

/-- THE TIED CARD OF 'annalslaw21.StoreKeeps'. -/
def storeKeepsCard : Claim7 := { stood := { row := storeKeepsRow, standIns := [], harness := (true, "bd94db6da6f2dc6582bbfd689cef8579362bc0ef77f127656ca93bb5b036808f"), looks := true }, kinds := [], alts := [], laidByText := true, laidKinds := [.data, .pinned], laidTests := true, laidLooks := .later }
def StoreKeepsCardSaid : Prop := Claim7.holds Tryz.pinned (.plain (OpenSpec.ofChange storeKeepsSpec)) storeKeepsCard

/-- THE TIED CARD OF 'annalslaw21.StoreTables'. -/
def storeTablesCard : Claim7 := { stood := { row := storeTablesRow, standIns := [], harness := (true, "bd94db6da6f2dc6582bbfd689cef8579362bc0ef77f127656ca93bb5b036808f"), looks := true }, kinds := [], alts := [], laidByText := true, laidKinds := [.data, .pinned], laidTests := true, laidLooks := .later }
def StoreTablesCardSaid : Prop := Claim7.holds Tryz.pinned (.plain (OpenSpec.ofChange storeTablesSpec)) storeTablesCard

/-- THE TIED CARD OF 'annalslaw21.StoreEnds'. -/
def storeEndsCard : Claim7 := { stood := { row := storeEndsRow, standIns := [], harness := (true, "bd94db6da6f2dc6582bbfd689cef8579362bc0ef77f127656ca93bb5b036808f"), looks := true }, kinds := [], alts := [], laidByText := true, laidKinds := [.data, .pinned], laidTests := true, laidLooks := .later }
def StoreEndsCardSaid : Prop := Claim7.holds Tryz.pinned (.plain (OpenSpec.ofChange storeEndsSpec)) storeEndsCard

/-- THE TIED CARD OF 'annalslaw21.StorePlays'. -/
def storePlaysCard : Claim7 := { stood := { row := storePlaysRow, standIns := [], harness := (true, "bd94db6da6f2dc6582bbfd689cef8579362bc0ef77f127656ca93bb5b036808f"), looks := true }, kinds := [], alts := [], laidByText := true, laidKinds := [.data, .pinned], laidTests := true, laidLooks := .later }
def StorePlaysCardSaid : Prop := Claim7.holds Tryz.pinned (.plain (OpenSpec.ofChange storePlaysSpec)) storePlaysCard

/-- THE SECOND FORM's CARD OF 'annalslaw21.StoreHistory'. -/
def storeHistoryUptoCard : Claim7 := { stood := { row := storeHistoryUptoRow, standIns := [], harness := (true, "bd94db6da6f2dc6582bbfd689cef8579362bc0ef77f127656ca93bb5b036808f"), looks := true }, kinds := [], alts := [], laidByText := true, laidKinds := [.data, .pinned], laidTests := true, laidLooks := .later }
def StoreHistoryUptoCardSaid : Prop := Claim7.holds Tryz.pinned (.plain (OpenSpec.upto storeHistorySpec)) storeHistoryUptoCard

/-- THE SECOND FORM's CARD OF 'annalslaw21.StoreKeeps'. -/
def storeKeepsUptoCard : Claim7 := { stood := { row := storeKeepsUptoRow, standIns := [], harness := (true, "bd94db6da6f2dc6582bbfd689cef8579362bc0ef77f127656ca93bb5b036808f"), looks := true }, kinds := [], alts := [], laidByText := true, laidKinds := [.data, .pinned], laidTests := true, laidLooks := .later }
def StoreKeepsUptoCardSaid : Prop := Claim7.holds Tryz.pinned (.plain (OpenSpec.upto storeKeepsSpec)) storeKeepsUptoCard

/-- THE SECOND FORM's CARD OF 'annalslaw21.StoreTables'. -/
def storeTablesUptoCard : Claim7 := { stood := { row := storeTablesUptoRow, standIns := [], harness := (true, "bd94db6da6f2dc6582bbfd689cef8579362bc0ef77f127656ca93bb5b036808f"), looks := true }, kinds := [], alts := [], laidByText := true, laidKinds := [.data, .pinned], laidTests := true, laidLooks := .later }
def StoreTablesUptoCardSaid : Prop := Claim7.holds Tryz.pinned (.plain (OpenSpec.upto storeTablesSpec)) storeTablesUptoCard

/-- THE SECOND FORM's CARD OF 'annalslaw21.StoreEnds'. -/
def storeEndsUptoCard : Claim7 := { stood := { row := storeEndsUptoRow, standIns := [], harness := (true, "bd94db6da6f2dc6582bbfd689cef8579362bc0ef77f127656ca93bb5b036808f"), looks := true }, kinds := [], alts := [], laidByText := true, laidKinds := [.data, .pinned], laidTests := true, laidLooks := .later }
def StoreEndsUptoCardSaid : Prop := Claim7.holds Tryz.pinned (.plain (OpenSpec.upto storeEndsSpec)) storeEndsUptoCard

/-- THE SECOND FORM's CARD OF 'annalslaw21.StorePlays'. -/
def storePlaysUptoCard : Claim7 := { stood := { row := storePlaysUptoRow, standIns := [], harness := (true, "bd94db6da6f2dc6582bbfd689cef8579362bc0ef77f127656ca93bb5b036808f"), looks := true }, kinds := [], alts := [], laidByText := true, laidKinds := [.data, .pinned], laidTests := true, laidLooks := .later }
def StorePlaysUptoCardSaid : Prop := Claim7.holds Tryz.pinned (.plain (OpenSpec.upto storePlaysSpec)) storePlaysUptoCard
end Rows
end Go.Proofs.YtjmjjfefchnkaaaGreatDoor
