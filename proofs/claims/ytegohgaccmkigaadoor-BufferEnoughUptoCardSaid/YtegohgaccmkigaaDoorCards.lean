/-
  DERIVED. GIVEN WITH THE SEED: THE CARDS: each row of YtegohgaccmkigaaDoorRows.lean that lists a variable, with what it lists TIED to the program's text (the seventh form; the later family's looks); each row that meets fmt, with fmt's text TOLD by the authors' own Lean function (tested against real Go, not proved from fmt's source: count such statements apart). THE CARD IS WHAT COUNTS. Prove the row's statement (the work); the ties are given (YtegohgaccmkigaaDoorTie.lean); close each card by the builder's one call (the guide's Derived/Test/ToyasCard.lean, 'card_holds'). Laid BY PROGRAM, IN A SANDBOX (cutbox-door.mjs). By AI agents, Wed Nov 11 2026. No macro, syntax, notation, axiom, sorry.
-/
import Derived.Test.YtegohgaccmkigaaDoorRows
import GoSem.ClaimSeven
namespace Go.Proofs.YtegohgaccmkigaaDoor
namespace Rows

/-- THE TIED CARD OF 'annalslaw06.BufferNews'. -/
def bufferNewsCard : Claim7 := { stood := { row := bufferNewsRow, standIns := [], harness := (true, "a0e6ef83e8f2164aaa32b744b9dc766c337161a69cec3aebc46257d2fb583940"), looks := false }, kinds := [], alts := [], laidByText := true, laidKinds := [.data, .pinned], laidTests := true, laidLooks := .later }
def BufferNewsCardSaid : Prop := Claim7.holds Tryd.pinned (.plain (OpenSpec.ofChange bufferNewsSpec)) bufferNewsCard

/-- THE TIED CARD OF 'annalslaw06.BufferKeeps'. -/
def bufferKeepsCard : Claim7 := { stood := { row := bufferKeepsRow, standIns := [], harness := (true, "a0e6ef83e8f2164aaa32b744b9dc766c337161a69cec3aebc46257d2fb583940"), looks := false }, kinds := [], alts := [], laidByText := true, laidKinds := [.data, .pinned], laidTests := true, laidLooks := .later }
def BufferKeepsCardSaid : Prop := Claim7.holds Tryd.pinned (.plain (OpenSpec.ofChange bufferKeepsSpec)) bufferKeepsCard

/-- THE TIED CARD OF 'annalslaw06.BufferEnough'. -/
def bufferEnoughCard : Claim7 := { stood := { row := bufferEnoughRow, standIns := [], harness := (true, "a0e6ef83e8f2164aaa32b744b9dc766c337161a69cec3aebc46257d2fb583940"), looks := false }, kinds := [], alts := [], laidByText := true, laidKinds := [.data, .pinned], laidTests := true, laidLooks := .later }
def BufferEnoughCardSaid : Prop := Claim7.holds Tryd.pinned (.plain (OpenSpec.ofChange bufferEnoughSpec)) bufferEnoughCard

/-- THE TIED CARD OF 'annalslaw06.BufferThere'. -/
def bufferThereCard : Claim7 := { stood := { row := bufferThereRow, standIns := [], harness := (true, "a0e6ef83e8f2164aaa32b744b9dc766c337161a69cec3aebc46257d2fb583940"), looks := false }, kinds := [], alts := [], laidByText := true, laidKinds := [.data, .pinned], laidTests := true, laidLooks := .later }
def BufferThereCardSaid : Prop := Claim7.holds Tryd.pinned (.plain (OpenSpec.ofChange bufferThereSpec)) bufferThereCard

/-- THE TIED CARD OF 'annalslaw06.BufferRule'. -/
def bufferRuleCard : Claim7 := { stood := { row := bufferRuleRow, standIns := [], harness := (true, "a0e6ef83e8f2164aaa32b744b9dc766c337161a69cec3aebc46257d2fb583940"), looks := false }, kinds := [], alts := [], laidByText := true, laidKinds := [.data, .pinned], laidTests := true, laidLooks := .later }
def BufferRuleCardSaid : Prop := Claim7.holds Tryd.pinned (.plain (OpenSpec.ofChange bufferRuleSpec)) bufferRuleCard

/-- THE SECOND FORM's CARD OF 'annalslaw06.BufferNews'. -/
def bufferNewsUptoCard : Claim7 := { stood := { row := bufferNewsUptoRow, standIns := [], harness := (true, "a0e6ef83e8f2164aaa32b744b9dc766c337161a69cec3aebc46257d2fb583940"), looks := false }, kinds := [], alts := [], laidByText := true, laidKinds := [.data, .pinned], laidTests := true, laidLooks := .later }
def BufferNewsUptoCardSaid : Prop := Claim7.holds Tryd.pinned (.plain (OpenSpec.upto bufferNewsSpec)) bufferNewsUptoCard

/-- THE SECOND FORM's CARD OF 'annalslaw06.BufferKeeps'. -/
def bufferKeepsUptoCard : Claim7 := { stood := { row := bufferKeepsUptoRow, standIns := [], harness := (true, "a0e6ef83e8f2164aaa32b744b9dc766c337161a69cec3aebc46257d2fb583940"), looks := false }, kinds := [], alts := [], laidByText := true, laidKinds := [.data, .pinned], laidTests := true, laidLooks := .later }
def BufferKeepsUptoCardSaid : Prop := Claim7.holds Tryd.pinned (.plain (OpenSpec.upto bufferKeepsSpec)) bufferKeepsUptoCard

/-- THE SECOND FORM's CARD OF 'annalslaw06.BufferEnough'. -/
def bufferEnoughUptoCard : Claim7 := { stood := { row := bufferEnoughUptoRow, standIns := [], harness := (true, "a0e6ef83e8f2164aaa32b744b9dc766c337161a69cec3aebc46257d2fb583940"), looks := false }, kinds := [], alts := [], laidByText := true, laidKinds := [.data, .pinned], laidTests := true, laidLooks := .later }
def BufferEnoughUptoCardSaid : Prop := Claim7.holds Tryd.pinned (.plain (OpenSpec.upto bufferEnoughSpec)) bufferEnoughUptoCard

/-- THE SECOND FORM's CARD OF 'annalslaw06.BufferThere'. -/
def bufferThereUptoCard : Claim7 := { stood := { row := bufferThereUptoRow, standIns := [], harness := (true, "a0e6ef83e8f2164aaa32b744b9dc766c337161a69cec3aebc46257d2fb583940"), looks := false }, kinds := [], alts := [], laidByText := true, laidKinds := [.data, .pinned], laidTests := true, laidLooks := .later }
def BufferThereUptoCardSaid : Prop := Claim7.holds Tryd.pinned (.plain (OpenSpec.upto bufferThereSpec)) bufferThereUptoCard

/-- THE SECOND FORM's CARD OF 'annalslaw06.BufferRule'. -/
def bufferRuleUptoCard : Claim7 := { stood := { row := bufferRuleUptoRow, standIns := [], harness := (true, "a0e6ef83e8f2164aaa32b744b9dc766c337161a69cec3aebc46257d2fb583940"), looks := false }, kinds := [], alts := [], laidByText := true, laidKinds := [.data, .pinned], laidTests := true, laidLooks := .later }
def BufferRuleUptoCardSaid : Prop := Claim7.holds Tryd.pinned (.plain (OpenSpec.upto bufferRuleSpec)) bufferRuleUptoCard
end Rows
end Go.Proofs.YtegohgaccmkigaaDoor
