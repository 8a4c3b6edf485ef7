/-
  DERIVED. GIVEN WITH THE SEED: THE CARDS: each row of YtjjhbpjbngdlnaaDoorRows.lean that lists a variable, with what it lists TIED to the program's text (the seventh form; the later family's looks); each row that meets fmt, with fmt's text TOLD by the authors' own Lean function (tested against real Go, not proved from fmt's source: count such statements apart). THE CARD IS WHAT COUNTS. Prove the row's statement (the work); the ties are given (YtjjhbpjbngdlnaaDoorTie.lean); close each card by the builder's one call (the guide's Derived/Test/ToyasCard.lean, 'card_holds'). Laid BY PROGRAM, IN A SANDBOX (cutbox-door.mjs). By AI agents, Wed Nov 11 2026. No macro, syntax, notation, axiom, sorry.
-/
import Derived.Test.YtjjhbpjbngdlnaaDoorRows
import GoSem.ClaimSeven
namespace Go.Proofs.YtjjhbpjbngdlnaaDoor
namespace Rows

/-- THE TIED CARD OF 'annalslaw03.PageKeeps'. -/
def pageKeepsCard : Claim7 := { stood := { row := pageKeepsRow, standIns := [], harness := (true, "55e3e228acc68517eb65184dfc82a917157dcf3861ec67e8f27503d3b1c771ba"), looks := false }, kinds := [], alts := [], laidByText := true, laidKinds := [.data, .pinned], laidTests := true, laidLooks := .later }
def PageKeepsCardSaid : Prop := Claim7.holds Tryd.pinned (.plain (OpenSpec.ofChange pageKeepsSpec)) pageKeepsCard

/-- THE TIED CARD OF 'annalslaw03.PageOpens'. -/
def pageOpensCard : Claim7 := { stood := { row := pageOpensRow, standIns := [], harness := (true, "55e3e228acc68517eb65184dfc82a917157dcf3861ec67e8f27503d3b1c771ba"), looks := false }, kinds := [], alts := [], laidByText := true, laidKinds := [.data, .pinned], laidTests := true, laidLooks := .later }
def PageOpensCardSaid : Prop := Claim7.holds Tryd.pinned (.plain (OpenSpec.ofChange pageOpensSpec)) pageOpensCard

/-- THE TIED CARD OF 'annalslaw03.PageTorn'. -/
def pageTornCard : Claim7 := { stood := { row := pageTornRow, standIns := [], harness := (true, "55e3e228acc68517eb65184dfc82a917157dcf3861ec67e8f27503d3b1c771ba"), looks := false }, kinds := [], alts := [], laidByText := true, laidKinds := [.data, .pinned], laidTests := true, laidLooks := .later }
def PageTornCardSaid : Prop := Claim7.holds Tryd.pinned (.plain (OpenSpec.ofChange pageTornSpec)) pageTornCard

/-- THE TIED CARD OF 'annalslaw03.PageRoom'. -/
def pageRoomCard : Claim7 := { stood := { row := pageRoomRow, standIns := [], harness := (true, "55e3e228acc68517eb65184dfc82a917157dcf3861ec67e8f27503d3b1c771ba"), looks := false }, kinds := [], alts := [], laidByText := true, laidKinds := [.data, .pinned], laidTests := true, laidLooks := .later }
def PageRoomCardSaid : Prop := Claim7.holds Tryd.pinned (.plain (OpenSpec.ofChange pageRoomSpec)) pageRoomCard

/-- THE TIED CARD OF 'annalslaw05.WalKeeps'. -/
def walKeepsCard : Claim7 := { stood := { row := walKeepsRow, standIns := [], harness := (true, "55e3e228acc68517eb65184dfc82a917157dcf3861ec67e8f27503d3b1c771ba"), looks := false }, kinds := [], alts := [], laidByText := true, laidKinds := [.data, .pinned], laidTests := true, laidLooks := .later }
def WalKeepsCardSaid : Prop := Claim7.holds Tryd.pinned (.plain (OpenSpec.ofChange walKeepsSpec)) walKeepsCard

/-- THE TIED CARD OF 'annalslaw05.WalPlays'. -/
def walPlaysCard : Claim7 := { stood := { row := walPlaysRow, standIns := [], harness := (true, "55e3e228acc68517eb65184dfc82a917157dcf3861ec67e8f27503d3b1c771ba"), looks := false }, kinds := [], alts := [], laidByText := true, laidKinds := [.data, .pinned], laidTests := true, laidLooks := .later }
def WalPlaysCardSaid : Prop := Claim7.holds Tryd.pinned (.plain (OpenSpec.ofChange walPlaysSpec)) walPlaysCard

/-- THE TIED CARD OF 'annalslaw05.WalParts'. -/
def walPartsCard : Claim7 := { stood := { row := walPartsRow, standIns := [], harness := (true, "55e3e228acc68517eb65184dfc82a917157dcf3861ec67e8f27503d3b1c771ba"), looks := false }, kinds := [], alts := [], laidByText := true, laidKinds := [.data, .pinned], laidTests := true, laidLooks := .later }
def WalPartsCardSaid : Prop := Claim7.holds Tryd.pinned (.plain (OpenSpec.ofChange walPartsSpec)) walPartsCard

/-- THE TIED CARD OF 'annalslaw05.WalPrefix'. -/
def walPrefixCard : Claim7 := { stood := { row := walPrefixRow, standIns := [], harness := (true, "55e3e228acc68517eb65184dfc82a917157dcf3861ec67e8f27503d3b1c771ba"), looks := false }, kinds := [], alts := [], laidByText := true, laidKinds := [.data, .pinned], laidTests := true, laidLooks := .later }
def WalPrefixCardSaid : Prop := Claim7.holds Tryd.pinned (.plain (OpenSpec.ofChange walPrefixSpec)) walPrefixCard

/-- THE TIED CARD OF 'annalslaw05.WalAgain'. -/
def walAgainCard : Claim7 := { stood := { row := walAgainRow, standIns := [], harness := (true, "55e3e228acc68517eb65184dfc82a917157dcf3861ec67e8f27503d3b1c771ba"), looks := false }, kinds := [], alts := [], laidByText := true, laidKinds := [.data, .pinned], laidTests := true, laidLooks := .later }
def WalAgainCardSaid : Prop := Claim7.holds Tryd.pinned (.plain (OpenSpec.ofChange walAgainSpec)) walAgainCard

/-- THE SECOND FORM's CARD OF 'annalslaw03.PageKeeps'. -/
def pageKeepsUptoCard : Claim7 := { stood := { row := pageKeepsUptoRow, standIns := [], harness := (true, "55e3e228acc68517eb65184dfc82a917157dcf3861ec67e8f27503d3b1c771ba"), looks := false }, kinds := [], alts := [], laidByText := true, laidKinds := [.data, .pinned], laidTests := true, laidLooks := .later }
def PageKeepsUptoCardSaid : Prop := Claim7.holds Tryd.pinned (.plain (OpenSpec.upto pageKeepsSpec)) pageKeepsUptoCard

/-- THE SECOND FORM's CARD OF 'annalslaw03.PageOpens'. -/
def pageOpensUptoCard : Claim7 := { stood := { row := pageOpensUptoRow, standIns := [], harness := (true, "55e3e228acc68517eb65184dfc82a917157dcf3861ec67e8f27503d3b1c771ba"), looks := false }, kinds := [], alts := [], laidByText := true, laidKinds := [.data, .pinned], laidTests := true, laidLooks := .later }
def PageOpensUptoCardSaid : Prop := Claim7.holds Tryd.pinned (.plain (OpenSpec.upto pageOpensSpec)) pageOpensUptoCard

/-- THE SECOND FORM's CARD OF 'annalslaw03.PageTorn'. -/
def pageTornUptoCard : Claim7 := { stood := { row := pageTornUptoRow, standIns := [], harness := (true, "55e3e228acc68517eb65184dfc82a917157dcf3861ec67e8f27503d3b1c771ba"), looks := false }, kinds := [], alts := [], laidByText := true, laidKinds := [.data, .pinned], laidTests := true, laidLooks := .later }
def PageTornUptoCardSaid : Prop := Claim7.holds Tryd.pinned (.plain (OpenSpec.upto pageTornSpec)) pageTornUptoCard

/-- THE SECOND FORM's CARD OF 'annalslaw03.PageRoom'. -/
def pageRoomUptoCard : Claim7 := { stood := { row := pageRoomUptoRow, standIns := [], harness := (true, "55e3e228acc68517eb65184dfc82a917157dcf3861ec67e8f27503d3b1c771ba"), looks := false }, kinds := [], alts := [], laidByText := true, laidKinds := [.data, .pinned], laidTests := true, laidLooks := .later }
def PageRoomUptoCardSaid : Prop := Claim7.holds Tryd.pinned (.plain (OpenSpec.upto pageRoomSpec)) pageRoomUptoCard

/-- THE SECOND FORM's CARD OF 'annalslaw05.WalKeeps'. -/
def walKeepsUptoCard : Claim7 := { stood := { row := walKeepsUptoRow, standIns := [], harness := (true, "55e3e228acc68517eb65184dfc82a917157dcf3861ec67e8f27503d3b1c771ba"), looks := false }, kinds := [], alts := [], laidByText := true, laidKinds := [.data, .pinned], laidTests := true, laidLooks := .later }
def WalKeepsUptoCardSaid : Prop := Claim7.holds Tryd.pinned (.plain (OpenSpec.upto walKeepsSpec)) walKeepsUptoCard

/-- THE SECOND FORM's CARD OF 'annalslaw05.WalPlays'. -/
def walPlaysUptoCard : Claim7 := { stood := { row := walPlaysUptoRow, standIns := [], harness := (true, "55e3e228acc68517eb65184dfc82a917157dcf3861ec67e8f27503d3b1c771ba"), looks := false }, kinds := [], alts := [], laidByText := true, laidKinds := [.data, .pinned], laidTests := true, laidLooks := .later }
def WalPlaysUptoCardSaid : Prop := Claim7.holds Tryd.pinned (.plain (OpenSpec.upto walPlaysSpec)) walPlaysUptoCard

/-- THE SECOND FORM's CARD OF 'annalslaw05.WalParts'. -/
def walPartsUptoCard : Claim7 := { stood := { row := walPartsUptoRow, standIns := [], harness := (true, "55e3e228acc68517eb65184dfc82a917157dcf3861ec67e8f27503d3b1c771ba"), looks := false }, kinds := [], alts := [], laidByText := true, laidKinds := [.data, .pinned], laidTests := true, laidLooks := .later }
def WalPartsUptoCardSaid : Prop := Claim7.holds Tryd.pinned (.plain (OpenSpec.upto walPartsSpec)) walPartsUptoCard

/-- THE SECOND FORM's CARD OF 'annalslaw05.WalPrefix'. -/
def walPrefixUptoCard : Claim7 := { stood := { row := walPrefixUptoRow, standIns := [], harness := (true, "55e3e228acc68517eb65184dfc82a917157dcf3861ec67e8f27503d3b1c771ba"), looks := false }, kinds := [], alts := [], laidByText := true, laidKinds := [.data, .pinned], laidTests := true, laidLooks := .later }
def WalPrefixUptoCardSaid : Prop := Claim7.holds Tryd.pinned (.plain (OpenSpec.upto walPrefixSpec)) walPrefixUptoCard

/-- THE SECOND FORM's CARD OF 'annalslaw05.WalAgain'. -/
def walAgainUptoCard : Claim7 := { stood := { row := walAgainUptoRow, standIns := [], harness := (true, "55e3e228acc68517eb65184dfc82a917157dcf3861ec67e8f27503d3b1c771ba"), looks := false }, kinds := [], alts := [], laidByText := true, laidKinds := [.data, .pinned], laidTests := true, laidLooks := .later }
def WalAgainUptoCardSaid : Prop := Claim7.holds Tryd.pinned (.plain (OpenSpec.upto walAgainSpec)) walAgainUptoCard
end Rows
end Go.Proofs.YtjjhbpjbngdlnaaDoor
