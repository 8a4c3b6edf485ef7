/-
  NARROWER THAN 'FOR EVERY INPUT', by the rows' own cells (each row's printed sentence says how): PageKeeps: laid · PageOpens: laid · PageTorn: laid · PageRoom: laid · WalKeeps: laid · WalPlays: laid · WalParts: laid · WalPrefix: laid · WalAgain: laid.
  DERIVED. THE GIVEN ROWS OF THIS SEAT. 9 by the template 'for every input the law returns true; each argument reads behind the call as it read before'; 0 by the template 'total and deterministic' (their statements: YtjjhbpjbngdlnaaDoorTotals.lean).
  GIVEN WITH THE SEED: the statements are not yours to turn. If you find one false, say at which input.
  Laid BY PROGRAM, IN A SANDBOX (cutbox-rows.mjs): the forced cells as the released guide's own fill.sh prints them over the translation afc300b96afe51b2… (all of the seat's roots in one cut). By AI agents, Wed Nov 11 2026. No macro, syntax, notation, axiom, sorry.
-/
import Derived.Test.YtjjhbpjbngdlnaaDoorChecked
import GoSem.PinnedTables
import GoSem.Claim
import GoSem.ClaimJoined
import GoSem.ClaimMapViews
import Derived.JoinedTies
import Derived.KernelRfl
namespace Go.Proofs.YtjjhbpjbngdlnaaDoor
/- THE CELL 'sum', in the pinned program and in every row, IS THE sha256 OF THE DUMP (.gsa) THAT YtjjhbpjbngdlnaaDoorProg.lean LOADS. Nothing in Lean hashes anything: it is a label: what it is worth is what the hold of that sum in a sandbox is worth. -/
noncomputable def Tryd.pinned : Pinned := { name := "ytjjhbpjbngdlnaadoor", sum := "afc300b96afe51b2cbe59b32b4496423d42619e7c16eb2398bc7a95dbd814a94", checked := Tryd.checked }
namespace Rows
def none {H : Type} : Left H := { results := [], args := [] }

/- WHAT THE LISTED PACKAGE-LEVEL VARIABLES READ AS WHEN THE CALL BEGINS. Each datum BY PROGRAM (the guide's laid-datum.mjs) off the statement by which the dump's own 'gosem.cut.vars' lays the variable. In a bare row this is a premise. The card (YtjjhbpjbngdlnaaDoorCards.lean) ties it to the program's text. -/
def laid_unicode_utf8_acceptRanges {H : Type} : DataW H := .agg [.agg [.lit (.int .u8 128), .lit (.int .u8 191)], .agg [.lit (.int .u8 160), .lit (.int .u8 191)], .agg [.lit (.int .u8 128), .lit (.int .u8 159)], .agg [.lit (.int .u8 144), .lit (.int .u8 191)], .agg [.lit (.int .u8 128), .lit (.int .u8 143)], .agg [.lit (.int .u8 0), .lit (.int .u8 0)], .agg [.lit (.int .u8 0), .lit (.int .u8 0)], .agg [.lit (.int .u8 0), .lit (.int .u8 0)], .agg [.lit (.int .u8 0), .lit (.int .u8 0)], .agg [.lit (.int .u8 0), .lit (.int .u8 0)], .agg [.lit (.int .u8 0), .lit (.int .u8 0)], .agg [.lit (.int .u8 0), .lit (.int .u8 0)], .agg [.lit (.int .u8 0), .lit (.int .u8 0)], .agg [.lit (.int .u8 0), .lit (.int .u8 0)], .agg [.lit (.int .u8 0), .lit (.int .u8 0)], .agg [.lit (.int .u8 0), .lit (.int .u8 0)]]
/-- One of Go's own tables, pinned by name: the form's constant. -/
def laid_unicode_utf8_first : DataW Unit := Go.Pinned.utf8First

/-- 'annalslaw03.PageKeeps': WHATEVER THE INPUT: true; the input reads as it did. -/
def pageKeepsSpec : ChangeSpec := { name := "pageKeeps", fn := fun _ => fun
  | [d1, d2] => { results := [.lit (.bool true)], args := [d1, d2] }
  | _ => none }
def pageKeepsRow : OpenClaim := { program := "ytjjhbpjbngdlnaadoor", sum := "afc300b96afe51b2cbe59b32b4496423d42619e7c16eb2398bc7a95dbd814a94", func := "annals/annalslaw03.PageKeeps", spec := "pageKeeps", named := ["unicode/utf8.first", "unicode/utf8.acceptRanges"], apart := false, laid := [("unicode/utf8.acceptRanges", laid_unicode_utf8_acceptRanges), ("unicode/utf8.first", laid_unicode_utf8_first)] }
def PageKeepsSaid : Prop := pageKeepsRow.holds Tryd.pinned (OpenSpec.ofChange pageKeepsSpec)

/-- ITS FALSE NEIGHBOUR: 'it returns false'. Refute it at one input. -/
def pageKeepsWrong : ChangeSpec := { name := "pageKeeps", fn := fun _ => fun
  | [d1, d2] => { results := [.lit (.bool false)], args := [d1, d2] }
  | _ => none }
def PageKeepsWrongFalsely : Prop := pageKeepsRow.holds Tryd.pinned (OpenSpec.ofChange pageKeepsWrong)

/-- 'annalslaw03.PageOpens': WHATEVER THE INPUT: true; the input reads as it did. -/
def pageOpensSpec : ChangeSpec := { name := "pageOpens", fn := fun _ => fun
  | [d] => { results := [.lit (.bool true)], args := [d] }
  | _ => none }
def pageOpensRow : OpenClaim := { program := "ytjjhbpjbngdlnaadoor", sum := "afc300b96afe51b2cbe59b32b4496423d42619e7c16eb2398bc7a95dbd814a94", func := "annals/annalslaw03.PageOpens", spec := "pageOpens", named := ["unicode/utf8.first", "unicode/utf8.acceptRanges"], apart := false, laid := [("unicode/utf8.acceptRanges", laid_unicode_utf8_acceptRanges), ("unicode/utf8.first", laid_unicode_utf8_first)] }
def PageOpensSaid : Prop := pageOpensRow.holds Tryd.pinned (OpenSpec.ofChange pageOpensSpec)

/-- ITS FALSE NEIGHBOUR: 'it returns false'. Refute it at one input. -/
def pageOpensWrong : ChangeSpec := { name := "pageOpens", fn := fun _ => fun
  | [d] => { results := [.lit (.bool false)], args := [d] }
  | _ => none }
def PageOpensWrongFalsely : Prop := pageOpensRow.holds Tryd.pinned (OpenSpec.ofChange pageOpensWrong)

/-- 'annalslaw03.PageTorn': WHATEVER THE INPUT: true; the input reads as it did. -/
def pageTornSpec : ChangeSpec := { name := "pageTorn", fn := fun _ => fun
  | [d1, d2, d3] => { results := [.lit (.bool true)], args := [d1, d2, d3] }
  | _ => none }
def pageTornRow : OpenClaim := { program := "ytjjhbpjbngdlnaadoor", sum := "afc300b96afe51b2cbe59b32b4496423d42619e7c16eb2398bc7a95dbd814a94", func := "annals/annalslaw03.PageTorn", spec := "pageTorn", named := ["unicode/utf8.first", "unicode/utf8.acceptRanges"], apart := false, laid := [("unicode/utf8.acceptRanges", laid_unicode_utf8_acceptRanges), ("unicode/utf8.first", laid_unicode_utf8_first)] }
def PageTornSaid : Prop := pageTornRow.holds Tryd.pinned (OpenSpec.ofChange pageTornSpec)

/-- ITS FALSE NEIGHBOUR: 'it returns false'. Refute it at one input. -/
def pageTornWrong : ChangeSpec := { name := "pageTorn", fn := fun _ => fun
  | [d1, d2, d3] => { results := [.lit (.bool false)], args := [d1, d2, d3] }
  | _ => none }
def PageTornWrongFalsely : Prop := pageTornRow.holds Tryd.pinned (OpenSpec.ofChange pageTornWrong)

/-- 'annalslaw03.PageRoom': WHATEVER THE INPUT: true; the input reads as it did. -/
def pageRoomSpec : ChangeSpec := { name := "pageRoom", fn := fun _ => fun
  | [d] => { results := [.lit (.bool true)], args := [d] }
  | _ => none }
def pageRoomRow : OpenClaim := { program := "ytjjhbpjbngdlnaadoor", sum := "afc300b96afe51b2cbe59b32b4496423d42619e7c16eb2398bc7a95dbd814a94", func := "annals/annalslaw03.PageRoom", spec := "pageRoom", named := ["unicode/utf8.first", "unicode/utf8.acceptRanges"], apart := false, laid := [("unicode/utf8.acceptRanges", laid_unicode_utf8_acceptRanges), ("unicode/utf8.first", laid_unicode_utf8_first)] }
def PageRoomSaid : Prop := pageRoomRow.holds Tryd.pinned (OpenSpec.ofChange pageRoomSpec)

/-- ITS FALSE NEIGHBOUR: 'it returns false'. Refute it at one input. -/
def pageRoomWrong : ChangeSpec := { name := "pageRoom", fn := fun _ => fun
  | [d] => { results := [.lit (.bool false)], args := [d] }
  | _ => none }
def PageRoomWrongFalsely : Prop := pageRoomRow.holds Tryd.pinned (OpenSpec.ofChange pageRoomWrong)

/-- 'annalslaw05.WalKeeps': WHATEVER THE INPUT: true; the input reads as it did. -/
def walKeepsSpec : ChangeSpec := { name := "walKeeps", fn := fun _ => fun
  | [d] => { results := [.lit (.bool true)], args := [d] }
  | _ => none }
def walKeepsRow : OpenClaim := { program := "ytjjhbpjbngdlnaadoor", sum := "afc300b96afe51b2cbe59b32b4496423d42619e7c16eb2398bc7a95dbd814a94", func := "annals/annalslaw05.WalKeeps", spec := "walKeeps", inPlace := ["internal/bytealg.MakeNoZero"], named := ["unicode/utf8.first", "unicode/utf8.acceptRanges"], apart := false, laid := [("unicode/utf8.acceptRanges", laid_unicode_utf8_acceptRanges), ("unicode/utf8.first", laid_unicode_utf8_first)] }
def WalKeepsSaid : Prop := walKeepsRow.holds Tryd.pinned (OpenSpec.ofChange walKeepsSpec)

/-- ITS FALSE NEIGHBOUR: 'it returns false'. Refute it at one input. -/
def walKeepsWrong : ChangeSpec := { name := "walKeeps", fn := fun _ => fun
  | [d] => { results := [.lit (.bool false)], args := [d] }
  | _ => none }
def WalKeepsWrongFalsely : Prop := walKeepsRow.holds Tryd.pinned (OpenSpec.ofChange walKeepsWrong)

/-- 'annalslaw05.WalPlays': WHATEVER THE INPUT: true; the input reads as it did. -/
def walPlaysSpec : ChangeSpec := { name := "walPlays", fn := fun _ => fun
  | [d1, d2, d3] => { results := [.lit (.bool true)], args := [d1, d2, d3] }
  | _ => none }
def walPlaysRow : OpenClaim := { program := "ytjjhbpjbngdlnaadoor", sum := "afc300b96afe51b2cbe59b32b4496423d42619e7c16eb2398bc7a95dbd814a94", func := "annals/annalslaw05.WalPlays", spec := "walPlays", inPlace := ["internal/bytealg.MakeNoZero"], named := ["unicode/utf8.first", "unicode/utf8.acceptRanges"], apart := false, laid := [("unicode/utf8.acceptRanges", laid_unicode_utf8_acceptRanges), ("unicode/utf8.first", laid_unicode_utf8_first)] }
def WalPlaysSaid : Prop := walPlaysRow.holds Tryd.pinned (OpenSpec.ofChange walPlaysSpec)

/-- ITS FALSE NEIGHBOUR: 'it returns false'. Refute it at one input. -/
def walPlaysWrong : ChangeSpec := { name := "walPlays", fn := fun _ => fun
  | [d1, d2, d3] => { results := [.lit (.bool false)], args := [d1, d2, d3] }
  | _ => none }
def WalPlaysWrongFalsely : Prop := walPlaysRow.holds Tryd.pinned (OpenSpec.ofChange walPlaysWrong)

/-- 'annalslaw05.WalParts': WHATEVER THE INPUT: true; the input reads as it did. -/
def walPartsSpec : ChangeSpec := { name := "walParts", fn := fun _ => fun
  | [d] => { results := [.lit (.bool true)], args := [d] }
  | _ => none }
def walPartsRow : OpenClaim := { program := "ytjjhbpjbngdlnaadoor", sum := "afc300b96afe51b2cbe59b32b4496423d42619e7c16eb2398bc7a95dbd814a94", func := "annals/annalslaw05.WalParts", spec := "walParts", inPlace := ["internal/bytealg.MakeNoZero"], named := ["unicode/utf8.first", "unicode/utf8.acceptRanges"], apart := false, laid := [("unicode/utf8.acceptRanges", laid_unicode_utf8_acceptRanges), ("unicode/utf8.first", laid_unicode_utf8_first)] }
def WalPartsSaid : Prop := walPartsRow.holds Tryd.pinned (OpenSpec.ofChange walPartsSpec)

/-- ITS FALSE NEIGHBOUR: 'it returns false'. Refute it at one input. -/
def walPartsWrong : ChangeSpec := { name := "walParts", fn := fun _ => fun
  | [d] => { results := [.lit (.bool false)], args := [d] }
  | _ => none }
def WalPartsWrongFalsely : Prop := walPartsRow.holds Tryd.pinned (OpenSpec.ofChange walPartsWrong)

/-- 'annalslaw05.WalPrefix': WHATEVER THE INPUT: true; the input reads as it did. -/
def walPrefixSpec : ChangeSpec := { name := "walPrefix", fn := fun _ => fun
  | [d1, d2, d3] => { results := [.lit (.bool true)], args := [d1, d2, d3] }
  | _ => none }
def walPrefixRow : OpenClaim := { program := "ytjjhbpjbngdlnaadoor", sum := "afc300b96afe51b2cbe59b32b4496423d42619e7c16eb2398bc7a95dbd814a94", func := "annals/annalslaw05.WalPrefix", spec := "walPrefix", inPlace := ["internal/bytealg.MakeNoZero"], named := ["unicode/utf8.first", "unicode/utf8.acceptRanges"], apart := false, laid := [("unicode/utf8.acceptRanges", laid_unicode_utf8_acceptRanges), ("unicode/utf8.first", laid_unicode_utf8_first)] }
def WalPrefixSaid : Prop := walPrefixRow.holds Tryd.pinned (OpenSpec.ofChange walPrefixSpec)

/-- ITS FALSE NEIGHBOUR: 'it returns false'. Refute it at one input. -/
def walPrefixWrong : ChangeSpec := { name := "walPrefix", fn := fun _ => fun
  | [d1, d2, d3] => { results := [.lit (.bool false)], args := [d1, d2, d3] }
  | _ => none }
def WalPrefixWrongFalsely : Prop := walPrefixRow.holds Tryd.pinned (OpenSpec.ofChange walPrefixWrong)

/-- 'annalslaw05.WalAgain': WHATEVER THE INPUT: true; the input reads as it did. -/
def walAgainSpec : ChangeSpec := { name := "walAgain", fn := fun _ => fun
  | [d1, d2] => { results := [.lit (.bool true)], args := [d1, d2] }
  | _ => none }
def walAgainRow : OpenClaim := { program := "ytjjhbpjbngdlnaadoor", sum := "afc300b96afe51b2cbe59b32b4496423d42619e7c16eb2398bc7a95dbd814a94", func := "annals/annalslaw05.WalAgain", spec := "walAgain", inPlace := ["internal/bytealg.MakeNoZero"], named := ["unicode/utf8.first", "unicode/utf8.acceptRanges"], apart := false, laid := [("unicode/utf8.acceptRanges", laid_unicode_utf8_acceptRanges), ("unicode/utf8.first", laid_unicode_utf8_first)] }
def WalAgainSaid : Prop := walAgainRow.holds Tryd.pinned (OpenSpec.ofChange walAgainSpec)

/-- ITS FALSE NEIGHBOUR: 'it returns false'. Refute it at one input. -/
def walAgainWrong : ChangeSpec := { name := "walAgain", fn := fun _ => fun
  | [d1, d2] => { results := [.lit (.bool false)], args := [d1, d2] }
  | _ => none }
def WalAgainWrongFalsely : Prop := walAgainRow.holds Tryd.pinned (OpenSpec.ofChange walAgainWrong)

/- THE SECOND FORM. 'bulk': how many values and letters a reading holds, each counted each time it is reached (what is shared counts as often as it is met; a slice's spare places count too). A statement '..UptoSaid' is the law's where the arguments, and the package variables that the reading takes, are together of bulk at most 1048576: NARROWER than '..Said'. Prove '..Said' where nothing that the law and all that it calls make is longer than what came in: it says more and counts as full. Else prove '..UptoSaid'. A law counts once. -/
mutual
def uptoBulk {H : Type} : DataW H → Nat
  | .lit (.string bytes) => bytes.length + 1
  | .lit _ => 1
  | .nil => 1
  | .ptr d => uptoBulk d + 1
  | .slice elems spare => uptoBulkAll elems + uptoBulkAll spare + 1
  | .agg parts => uptoBulkAll parts + 1
  | .iface _ d => uptoBulk d + 1
  | .map entries => uptoBulkEntries entries + 1
  | .held _ => 1
def uptoBulkAll {H : Type} : List (DataW H) → Nat
  | [] => 0
  | d :: r => uptoBulk d + uptoBulkAll r
def uptoBulkEntries {H : Type} : List (Lit × DataW H) → Nat
  | [] => 0
  | x :: r => uptoBulkEntry x + uptoBulkEntries r
def uptoBulkEntry {H : Type} : Lit × DataW H → Nat
  | (.string bytes, d) => bytes.length + uptoBulk d + 1
  | (_, d) => uptoBulk d + 1
 end
def uptoSmall : (H : Type) → List (DataW H) → Bool := fun _ ds => decide (uptoBulkAll ds ≤ 1048576)
def OpenSpec.upto (s : _root_.Go.ChangeSpec) : _root_.Go.OpenSpec := { _root_.Go.OpenSpec.ofChange s with cond := some uptoSmall }

/-- 'annalslaw03.PageKeeps', WHERE WHAT IT READS IS OF BULK AT MOST 1048576: true; the input reads as it did. -/
def pageKeepsUptoRow : OpenClaim := { program := "ytjjhbpjbngdlnaadoor", sum := "afc300b96afe51b2cbe59b32b4496423d42619e7c16eb2398bc7a95dbd814a94", func := "annals/annalslaw03.PageKeeps", spec := "pageKeeps", named := ["unicode/utf8.first", "unicode/utf8.acceptRanges"], apart := false, laid := [("unicode/utf8.acceptRanges", laid_unicode_utf8_acceptRanges), ("unicode/utf8.first", laid_unicode_utf8_first)], narrowed := true }
def PageKeepsUptoSaid : Prop := pageKeepsUptoRow.holds Tryd.pinned (OpenSpec.upto pageKeepsSpec)

/-- 'annalslaw03.PageOpens', WHERE WHAT IT READS IS OF BULK AT MOST 1048576: true; the input reads as it did. -/
def pageOpensUptoRow : OpenClaim := { program := "ytjjhbpjbngdlnaadoor", sum := "afc300b96afe51b2cbe59b32b4496423d42619e7c16eb2398bc7a95dbd814a94", func := "annals/annalslaw03.PageOpens", spec := "pageOpens", named := ["unicode/utf8.first", "unicode/utf8.acceptRanges"], apart := false, laid := [("unicode/utf8.acceptRanges", laid_unicode_utf8_acceptRanges), ("unicode/utf8.first", laid_unicode_utf8_first)], narrowed := true }
def PageOpensUptoSaid : Prop := pageOpensUptoRow.holds Tryd.pinned (OpenSpec.upto pageOpensSpec)

/-- 'annalslaw03.PageTorn', WHERE WHAT IT READS IS OF BULK AT MOST 1048576: true; the input reads as it did. -/
def pageTornUptoRow : OpenClaim := { program := "ytjjhbpjbngdlnaadoor", sum := "afc300b96afe51b2cbe59b32b4496423d42619e7c16eb2398bc7a95dbd814a94", func := "annals/annalslaw03.PageTorn", spec := "pageTorn", named := ["unicode/utf8.first", "unicode/utf8.acceptRanges"], apart := false, laid := [("unicode/utf8.acceptRanges", laid_unicode_utf8_acceptRanges), ("unicode/utf8.first", laid_unicode_utf8_first)], narrowed := true }
def PageTornUptoSaid : Prop := pageTornUptoRow.holds Tryd.pinned (OpenSpec.upto pageTornSpec)

/-- 'annalslaw03.PageRoom', WHERE WHAT IT READS IS OF BULK AT MOST 1048576: true; the input reads as it did. -/
def pageRoomUptoRow : OpenClaim := { program := "ytjjhbpjbngdlnaadoor", sum := "afc300b96afe51b2cbe59b32b4496423d42619e7c16eb2398bc7a95dbd814a94", func := "annals/annalslaw03.PageRoom", spec := "pageRoom", named := ["unicode/utf8.first", "unicode/utf8.acceptRanges"], apart := false, laid := [("unicode/utf8.acceptRanges", laid_unicode_utf8_acceptRanges), ("unicode/utf8.first", laid_unicode_utf8_first)], narrowed := true }
def PageRoomUptoSaid : Prop := pageRoomUptoRow.holds Tryd.pinned (OpenSpec.upto pageRoomSpec)

/-- 'annalslaw05.WalKeeps', WHERE WHAT IT READS IS OF BULK AT MOST 1048576: true; the input reads as it did. -/
def walKeepsUptoRow : OpenClaim := { program := "ytjjhbpjbngdlnaadoor", sum := "afc300b96afe51b2cbe59b32b4496423d42619e7c16eb2398bc7a95dbd814a94", func := "annals/annalslaw05.WalKeeps", spec := "walKeeps", inPlace := ["internal/bytealg.MakeNoZero"], named := ["unicode/utf8.first", "unicode/utf8.acceptRanges"], apart := false, laid := [("unicode/utf8.acceptRanges", laid_unicode_utf8_acceptRanges), ("unicode/utf8.first", laid_unicode_utf8_first)], narrowed := true }
def WalKeepsUptoSaid : Prop := walKeepsUptoRow.holds Tryd.pinned (OpenSpec.upto walKeepsSpec)

/-- 'annalslaw05.WalPlays', WHERE WHAT IT READS IS OF BULK AT MOST 1048576: true; the input reads as it did. -/
def walPlaysUptoRow : OpenClaim := { program := "ytjjhbpjbngdlnaadoor", sum := "afc300b96afe51b2cbe59b32b4496423d42619e7c16eb2398bc7a95dbd814a94", func := "annals/annalslaw05.WalPlays", spec := "walPlays", inPlace := ["internal/bytealg.MakeNoZero"], named := ["unicode/utf8.first", "unicode/utf8.acceptRanges"], apart := false, laid := [("unicode/utf8.acceptRanges", laid_unicode_utf8_acceptRanges), ("unicode/utf8.first", laid_unicode_utf8_first)], narrowed := true }
def WalPlaysUptoSaid : Prop := walPlaysUptoRow.holds Tryd.pinned (OpenSpec.upto walPlaysSpec)

/-- 'annalslaw05.WalParts', WHERE WHAT IT READS IS OF BULK AT MOST 1048576: true; the input reads as it did. -/
def walPartsUptoRow : OpenClaim := { program := "ytjjhbpjbngdlnaadoor", sum := "afc300b96afe51b2cbe59b32b4496423d42619e7c16eb2398bc7a95dbd814a94", func := "annals/annalslaw05.WalParts", spec := "walParts", inPlace := ["internal/bytealg.MakeNoZero"], named := ["unicode/utf8.first", "unicode/utf8.acceptRanges"], apart := false, laid := [("unicode/utf8.acceptRanges", laid_unicode_utf8_acceptRanges), ("unicode/utf8.first", laid_unicode_utf8_first)], narrowed := true }
def WalPartsUptoSaid : Prop := walPartsUptoRow.holds Tryd.pinned (OpenSpec.upto walPartsSpec)

/-- 'annalslaw05.WalPrefix', WHERE WHAT IT READS IS OF BULK AT MOST 1048576: true; the input reads as it did. -/
def walPrefixUptoRow : OpenClaim := { program := "ytjjhbpjbngdlnaadoor", sum := "afc300b96afe51b2cbe59b32b4496423d42619e7c16eb2398bc7a95dbd814a94", func := "annals/annalslaw05.WalPrefix", spec := "walPrefix", inPlace := ["internal/bytealg.MakeNoZero"], named := ["unicode/utf8.first", "unicode/utf8.acceptRanges"], apart := false, laid := [("unicode/utf8.acceptRanges", laid_unicode_utf8_acceptRanges), ("unicode/utf8.first", laid_unicode_utf8_first)], narrowed := true }
def WalPrefixUptoSaid : Prop := walPrefixUptoRow.holds Tryd.pinned (OpenSpec.upto walPrefixSpec)

/-- 'annalslaw05.WalAgain', WHERE WHAT IT READS IS OF BULK AT MOST 1048576: true; the input reads as it did. -/
def walAgainUptoRow : OpenClaim := { program := "ytjjhbpjbngdlnaadoor", sum := "afc300b96afe51b2cbe59b32b4496423d42619e7c16eb2398bc7a95dbd814a94", func := "annals/annalslaw05.WalAgain", spec := "walAgain", inPlace := ["internal/bytealg.MakeNoZero"], named := ["unicode/utf8.first", "unicode/utf8.acceptRanges"], apart := false, laid := [("unicode/utf8.acceptRanges", laid_unicode_utf8_acceptRanges), ("unicode/utf8.first", laid_unicode_utf8_first)], narrowed := true }
def WalAgainUptoSaid : Prop := walAgainUptoRow.holds Tryd.pinned (OpenSpec.upto walAgainSpec)

end Rows
end Go.Proofs.YtjjhbpjbngdlnaaDoor
