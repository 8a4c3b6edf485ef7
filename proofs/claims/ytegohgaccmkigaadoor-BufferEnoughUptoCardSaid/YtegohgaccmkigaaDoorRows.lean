/-
  NARROWER THAN 'FOR EVERY INPUT', by the rows' own cells (each row's printed sentence says how): BufferNews: laid · BufferKeeps: laid · BufferEnough: laid · BufferThere: laid · BufferRule: laid.
  DERIVED. THE GIVEN ROWS OF THIS SEAT. 5 by the template 'for every input the law returns true; each argument reads behind the call as it read before'; 0 by the template 'total and deterministic' (their statements: YtegohgaccmkigaaDoorTotals.lean).
  GIVEN WITH THE SEED: the statements are not yours to turn. If you find one false, say at which input.
  Laid BY PROGRAM, IN A SANDBOX (cutbox-rows.mjs): the forced cells as the released guide's own fill.sh prints them over the translation 0fbac4b1cc86d634… (all of the seat's roots in one cut). By AI agents, Wed Nov 11 2026. No macro, syntax, notation, axiom, sorry.
-/
import Derived.Test.YtegohgaccmkigaaDoorChecked
import GoSem.PinnedTables
import GoSem.Claim
import GoSem.ClaimJoined
import GoSem.ClaimMapViews
import Derived.JoinedTies
import Derived.KernelRfl
namespace Go.Proofs.YtegohgaccmkigaaDoor
/- THE CELL 'sum', in the pinned program and in every row, IS THE sha256 OF THE DUMP (.gsa) THAT YtegohgaccmkigaaDoorProg.lean LOADS. Nothing in Lean hashes anything: it is a label: what it is worth is what the hold of that sum in a sandbox is worth. -/
noncomputable def Tryd.pinned : Pinned := { name := "ytegohgaccmkigaadoor", sum := "0fbac4b1cc86d634abea934626de643fcbf651e48e646476fc69073945d0c0df", checked := Tryd.checked }
namespace Rows
def none {H : Type} : Left H := { results := [], args := [] }

/- WHAT THE LISTED PACKAGE-LEVEL VARIABLES READ AS WHEN THE CALL BEGINS. Each datum BY PROGRAM (the guide's laid-datum.mjs) off the statement by which the dump's own 'gosem.cut.vars' lays the variable. In a bare row this is a premise. The card (YtegohgaccmkigaaDoorCards.lean) ties it to the program's text. -/
def laid_unicode_utf8_acceptRanges {H : Type} : DataW H := .agg [.agg [.lit (.int .u8 128), .lit (.int .u8 191)], .agg [.lit (.int .u8 160), .lit (.int .u8 191)], .agg [.lit (.int .u8 128), .lit (.int .u8 159)], .agg [.lit (.int .u8 144), .lit (.int .u8 191)], .agg [.lit (.int .u8 128), .lit (.int .u8 143)], .agg [.lit (.int .u8 0), .lit (.int .u8 0)], .agg [.lit (.int .u8 0), .lit (.int .u8 0)], .agg [.lit (.int .u8 0), .lit (.int .u8 0)], .agg [.lit (.int .u8 0), .lit (.int .u8 0)], .agg [.lit (.int .u8 0), .lit (.int .u8 0)], .agg [.lit (.int .u8 0), .lit (.int .u8 0)], .agg [.lit (.int .u8 0), .lit (.int .u8 0)], .agg [.lit (.int .u8 0), .lit (.int .u8 0)], .agg [.lit (.int .u8 0), .lit (.int .u8 0)], .agg [.lit (.int .u8 0), .lit (.int .u8 0)], .agg [.lit (.int .u8 0), .lit (.int .u8 0)]]
/-- One of Go's own tables, pinned by name: the form's constant. -/
def laid_unicode_utf8_first : DataW Unit := Go.Pinned.utf8First

/-- 'annalslaw06.BufferNews': WHATEVER THE INPUT: true; the input reads as it did. -/
def bufferNewsSpec : ChangeSpec := { name := "bufferNews", fn := fun _ => fun
  | [d1, d2, d3] => { results := [.lit (.bool true)], args := [d1, d2, d3] }
  | _ => none }
def bufferNewsRow : OpenClaim := { program := "ytegohgaccmkigaadoor", sum := "0fbac4b1cc86d634abea934626de643fcbf651e48e646476fc69073945d0c0df", func := "annals/annalslaw06.BufferNews", spec := "bufferNews", unfollowed := true, recurses := true, named := ["unicode/utf8.first", "unicode/utf8.acceptRanges"], apart := false, laid := [("unicode/utf8.acceptRanges", laid_unicode_utf8_acceptRanges), ("unicode/utf8.first", laid_unicode_utf8_first)] }
def BufferNewsSaid : Prop := bufferNewsRow.holds Tryd.pinned (OpenSpec.ofChange bufferNewsSpec)

/-- ITS FALSE NEIGHBOUR: 'it returns false'. Refute it at one input. -/
def bufferNewsWrong : ChangeSpec := { name := "bufferNews", fn := fun _ => fun
  | [d1, d2, d3] => { results := [.lit (.bool false)], args := [d1, d2, d3] }
  | _ => none }
def BufferNewsWrongFalsely : Prop := bufferNewsRow.holds Tryd.pinned (OpenSpec.ofChange bufferNewsWrong)

/-- 'annalslaw06.BufferKeeps': WHATEVER THE INPUT: true; the input reads as it did. -/
def bufferKeepsSpec : ChangeSpec := { name := "bufferKeeps", fn := fun _ => fun
  | [d1, d2] => { results := [.lit (.bool true)], args := [d1, d2] }
  | _ => none }
def bufferKeepsRow : OpenClaim := { program := "ytegohgaccmkigaadoor", sum := "0fbac4b1cc86d634abea934626de643fcbf651e48e646476fc69073945d0c0df", func := "annals/annalslaw06.BufferKeeps", spec := "bufferKeeps", unfollowed := true, recurses := true, named := ["unicode/utf8.first", "unicode/utf8.acceptRanges"], apart := false, laid := [("unicode/utf8.acceptRanges", laid_unicode_utf8_acceptRanges), ("unicode/utf8.first", laid_unicode_utf8_first)] }
def BufferKeepsSaid : Prop := bufferKeepsRow.holds Tryd.pinned (OpenSpec.ofChange bufferKeepsSpec)

/-- ITS FALSE NEIGHBOUR: 'it returns false'. Refute it at one input. -/
def bufferKeepsWrong : ChangeSpec := { name := "bufferKeeps", fn := fun _ => fun
  | [d1, d2] => { results := [.lit (.bool false)], args := [d1, d2] }
  | _ => none }
def BufferKeepsWrongFalsely : Prop := bufferKeepsRow.holds Tryd.pinned (OpenSpec.ofChange bufferKeepsWrong)

/-- 'annalslaw06.BufferEnough': WHATEVER THE INPUT: true; the input reads as it did. -/
def bufferEnoughSpec : ChangeSpec := { name := "bufferEnough", fn := fun _ => fun
  | [d] => { results := [.lit (.bool true)], args := [d] }
  | _ => none }
def bufferEnoughRow : OpenClaim := { program := "ytegohgaccmkigaadoor", sum := "0fbac4b1cc86d634abea934626de643fcbf651e48e646476fc69073945d0c0df", func := "annals/annalslaw06.BufferEnough", spec := "bufferEnough", unfollowed := true, recurses := true, named := ["unicode/utf8.first", "unicode/utf8.acceptRanges"], apart := false, laid := [("unicode/utf8.acceptRanges", laid_unicode_utf8_acceptRanges), ("unicode/utf8.first", laid_unicode_utf8_first)] }
def BufferEnoughSaid : Prop := bufferEnoughRow.holds Tryd.pinned (OpenSpec.ofChange bufferEnoughSpec)

/-- ITS FALSE NEIGHBOUR: 'it returns false'. Refute it at one input. -/
def bufferEnoughWrong : ChangeSpec := { name := "bufferEnough", fn := fun _ => fun
  | [d] => { results := [.lit (.bool false)], args := [d] }
  | _ => none }
def BufferEnoughWrongFalsely : Prop := bufferEnoughRow.holds Tryd.pinned (OpenSpec.ofChange bufferEnoughWrong)

/-- 'annalslaw06.BufferThere': WHATEVER THE INPUT: true; the input reads as it did. -/
def bufferThereSpec : ChangeSpec := { name := "bufferThere", fn := fun _ => fun
  | [d1, d2] => { results := [.lit (.bool true)], args := [d1, d2] }
  | _ => none }
def bufferThereRow : OpenClaim := { program := "ytegohgaccmkigaadoor", sum := "0fbac4b1cc86d634abea934626de643fcbf651e48e646476fc69073945d0c0df", func := "annals/annalslaw06.BufferThere", spec := "bufferThere", unfollowed := true, recurses := true, named := ["unicode/utf8.first", "unicode/utf8.acceptRanges"], apart := false, laid := [("unicode/utf8.acceptRanges", laid_unicode_utf8_acceptRanges), ("unicode/utf8.first", laid_unicode_utf8_first)] }
def BufferThereSaid : Prop := bufferThereRow.holds Tryd.pinned (OpenSpec.ofChange bufferThereSpec)

/-- ITS FALSE NEIGHBOUR: 'it returns false'. Refute it at one input. -/
def bufferThereWrong : ChangeSpec := { name := "bufferThere", fn := fun _ => fun
  | [d1, d2] => { results := [.lit (.bool false)], args := [d1, d2] }
  | _ => none }
def BufferThereWrongFalsely : Prop := bufferThereRow.holds Tryd.pinned (OpenSpec.ofChange bufferThereWrong)

/-- 'annalslaw06.BufferRule': WHATEVER THE INPUT: true; the input reads as it did. -/
def bufferRuleSpec : ChangeSpec := { name := "bufferRule", fn := fun _ => fun
  | [d1, d2] => { results := [.lit (.bool true)], args := [d1, d2] }
  | _ => none }
def bufferRuleRow : OpenClaim := { program := "ytegohgaccmkigaadoor", sum := "0fbac4b1cc86d634abea934626de643fcbf651e48e646476fc69073945d0c0df", func := "annals/annalslaw06.BufferRule", spec := "bufferRule", inPlace := ["internal/bytealg.MakeNoZero"], unfollowed := true, recurses := true, named := ["unicode/utf8.first", "unicode/utf8.acceptRanges"], apart := false, laid := [("unicode/utf8.acceptRanges", laid_unicode_utf8_acceptRanges), ("unicode/utf8.first", laid_unicode_utf8_first)] }
def BufferRuleSaid : Prop := bufferRuleRow.holds Tryd.pinned (OpenSpec.ofChange bufferRuleSpec)

/-- ITS FALSE NEIGHBOUR: 'it returns false'. Refute it at one input. -/
def bufferRuleWrong : ChangeSpec := { name := "bufferRule", fn := fun _ => fun
  | [d1, d2] => { results := [.lit (.bool false)], args := [d1, d2] }
  | _ => none }
def BufferRuleWrongFalsely : Prop := bufferRuleRow.holds Tryd.pinned (OpenSpec.ofChange bufferRuleWrong)

/- THE SECOND FORM. 'bulk': how many values and letters a reading holds, each counted each time it is reached (what is shared counts as often as it is met; a slice's spare places count too). A statement '..UptoSaid' is the law's where the arguments, and the package variables that the reading takes, are together of bulk at most 1048576: NARROWER than '..Said'. Prove '..Said' where nothing that the law and all that it calls make is longer than what came in: it says more and counts as full. Else prove '..UptoSaid'. A law counts once. -/
mutual
def uptoBulk {H : Type} : DataW H → Nat
  | .lit (.string bytes) => bytes.length + 1
  | .lit _ => 1
  | .nil => 1
  | .ptr d => uptoBulk d + 1
  | .slice elems spare => uptoBulkAll elems + uptoBulkAll spare + 1
  | .agg parts => uptoBulkAll parts + 1
  | .iface _ d => uptoBulk d + 1
  | .map entries => uptoBulkEntries entries + 1
  | .held _ => 1
def uptoBulkAll {H : Type} : List (DataW H) → Nat
  | [] => 0
  | d :: r => uptoBulk d + uptoBulkAll r
def uptoBulkEntries {H : Type} : List (Lit × DataW H) → Nat
  | [] => 0
  | x :: r => uptoBulkEntry x + uptoBulkEntries r
def uptoBulkEntry {H : Type} : Lit × DataW H → Nat
  | (.string bytes, d) => bytes.length + uptoBulk d + 1
  | (_, d) => uptoBulk d + 1
 end
def uptoSmall : (H : Type) → List (DataW H) → Bool := fun _ ds => decide (uptoBulkAll ds ≤ 1048576)
def OpenSpec.upto (s : _root_.Go.ChangeSpec) : _root_.Go.OpenSpec := { _root_.Go.OpenSpec.ofChange s with cond := some uptoSmall }

/-- 'annalslaw06.BufferNews', WHERE WHAT IT READS IS OF BULK AT MOST 1048576: true; the input reads as it did. -/
def bufferNewsUptoRow : OpenClaim := { program := "ytegohgaccmkigaadoor", sum := "0fbac4b1cc86d634abea934626de643fcbf651e48e646476fc69073945d0c0df", func := "annals/annalslaw06.BufferNews", spec := "bufferNews", unfollowed := true, recurses := true, named := ["unicode/utf8.first", "unicode/utf8.acceptRanges"], apart := false, laid := [("unicode/utf8.acceptRanges", laid_unicode_utf8_acceptRanges), ("unicode/utf8.first", laid_unicode_utf8_first)], narrowed := true }
def BufferNewsUptoSaid : Prop := bufferNewsUptoRow.holds Tryd.pinned (OpenSpec.upto bufferNewsSpec)

/-- 'annalslaw06.BufferKeeps', WHERE WHAT IT READS IS OF BULK AT MOST 1048576: true; the input reads as it did. -/
def bufferKeepsUptoRow : OpenClaim := { program := "ytegohgaccmkigaadoor", sum := "0fbac4b1cc86d634abea934626de643fcbf651e48e646476fc69073945d0c0df", func := "annals/annalslaw06.BufferKeeps", spec := "bufferKeeps", unfollowed := true, recurses := true, named := ["unicode/utf8.first", "unicode/utf8.acceptRanges"], apart := false, laid := [("unicode/utf8.acceptRanges", laid_unicode_utf8_acceptRanges), ("unicode/utf8.first", laid_unicode_utf8_first)], narrowed := true }
def BufferKeepsUptoSaid : Prop := bufferKeepsUptoRow.holds Tryd.pinned (OpenSpec.upto bufferKeepsSpec)

/-- 'annalslaw06.BufferEnough', WHERE WHAT IT READS IS OF BULK AT MOST 1048576: true; the input reads as it did. -/
def bufferEnoughUptoRow : OpenClaim := { program := "ytegohgaccmkigaadoor", sum := "0fbac4b1cc86d634abea934626de643fcbf651e48e646476fc69073945d0c0df", func := "annals/annalslaw06.BufferEnough", spec := "bufferEnough", unfollowed := true, recurses := true, named := ["unicode/utf8.first", "unicode/utf8.acceptRanges"], apart := false, laid := [("unicode/utf8.acceptRanges", laid_unicode_utf8_acceptRanges), ("unicode/utf8.first", laid_unicode_utf8_first)], narrowed := true }
def BufferEnoughUptoSaid : Prop := bufferEnoughUptoRow.holds Tryd.pinned (OpenSpec.upto bufferEnoughSpec)

/-- 'annalslaw06.BufferThere', WHERE WHAT IT READS IS OF BULK AT MOST 1048576: true; the input reads as it did. -/
def bufferThereUptoRow : OpenClaim := { program := "ytegohgaccmkigaadoor", sum := "0fbac4b1cc86d634abea934626de643fcbf651e48e646476fc69073945d0c0df", func := "annals/annalslaw06.BufferThere", spec := "bufferThere", unfollowed := true, recurses := true, named := ["unicode/utf8.first", "unicode/utf8.acceptRanges"], apart := false, laid := [("unicode/utf8.acceptRanges", laid_unicode_utf8_acceptRanges), ("unicode/utf8.first", laid_unicode_utf8_first)], narrowed := true }
def BufferThereUptoSaid : Prop := bufferThereUptoRow.holds Tryd.pinned (OpenSpec.upto bufferThereSpec)

/-- 'annalslaw06.BufferRule', WHERE WHAT IT READS IS OF BULK AT MOST 1048576: true; the input reads as it did. -/
def bufferRuleUptoRow : OpenClaim := { program := "ytegohgaccmkigaadoor", sum := "0fbac4b1cc86d634abea934626de643fcbf651e48e646476fc69073945d0c0df", func := "annals/annalslaw06.BufferRule", spec := "bufferRule", inPlace := ["internal/bytealg.MakeNoZero"], unfollowed := true, recurses := true, named := ["unicode/utf8.first", "unicode/utf8.acceptRanges"], apart := false, laid := [("unicode/utf8.acceptRanges", laid_unicode_utf8_acceptRanges), ("unicode/utf8.first", laid_unicode_utf8_first)], narrowed := true }
def BufferRuleUptoSaid : Prop := bufferRuleUptoRow.holds Tryd.pinned (OpenSpec.upto bufferRuleSpec)

end Rows
end Go.Proofs.YtegohgaccmkigaaDoor
