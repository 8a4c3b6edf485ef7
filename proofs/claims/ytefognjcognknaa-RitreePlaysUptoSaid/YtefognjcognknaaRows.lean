/-
  No cell of these rows narrows 'for every input' (looked for: loops, veiled, ifaces, maps, wideKeys, modest, calm, conditions, laid).
  DERIVED. THE GIVEN ROWS OF THIS SEAT. 10 by the template 'for every input the law returns true; each argument reads behind the call as it read before'; 0 by the template 'total and deterministic' (their statements: YtefognjcognknaaTotals.lean).
  GIVEN WITH THE SEED: the statements are not yours to turn. If you find one false, say at which input.
  Laid BY PROGRAM, IN A SANDBOX (cutbox-rows.mjs): the forced cells as the released guide's own fill.sh prints them over the translation 2923a3c546d36107… (all of the seat's roots in one cut). By AI agents, Wed Nov 11 2026. No macro, syntax, notation, axiom, sorry.
-/
import Derived.Test.YtefognjcognknaaChecked
import GoSem.Claim
import GoSem.ClaimJoined
import GoSem.ClaimMapViews
import Derived.JoinedTies
import Derived.KernelRfl
namespace Go.Proofs.Ytefognjcognknaa
/- THE CELL 'sum', in the pinned program and in every row, IS THE sha256 OF THE DUMP (.gsa) THAT YtefognjcognknaaProg.lean LOADS. Nothing in Lean hashes anything: it is a label: what it is worth is what the hold of that sum in a sandbox is worth. -/
noncomputable def Try.pinned : Pinned := { name := "ytefognjcognknaa", sum := "2923a3c546d36107ae90978d8f1e3570568140775ebabf5bcf558d763e383f2f", checked := Try.checked }
namespace Rows
def none {H : Type} : Left H := { results := [], args := [] }

/-- 'annalslaw09.BtreeAlike': WHATEVER THE INPUT: true; the input reads as it did. -/
def btreeAlikeSpec : ChangeSpec := { name := "btreeAlike", fn := fun _ => fun
  | [d1, d2, d3] => { results := [.lit (.bool true)], args := [d1, d2, d3] }
  | _ => none }
def btreeAlikeRow : OpenClaim := { program := "ytefognjcognknaa", sum := "2923a3c546d36107ae90978d8f1e3570568140775ebabf5bcf558d763e383f2f", func := "annals/annalslaw09.BtreeAlike", spec := "btreeAlike", inPlace := ["slices.overlaps[string]", "slices.overlaps[int64]", "slices.overlaps[*annals/btree.node]", "internal/bytealg.abigen_runtime_cmpstring"], unfollowed := true, recurses := true, apart := false }
def BtreeAlikeSaid : Prop := btreeAlikeRow.holds Try.pinned (OpenSpec.ofChange btreeAlikeSpec)

/-- ITS FALSE NEIGHBOUR: 'it returns false'. Refute it at one input. -/
def btreeAlikeWrong : ChangeSpec := { name := "btreeAlike", fn := fun _ => fun
  | [d1, d2, d3] => { results := [.lit (.bool false)], args := [d1, d2, d3] }
  | _ => none }
def BtreeAlikeWrongFalsely : Prop := btreeAlikeRow.holds Try.pinned (OpenSpec.ofChange btreeAlikeWrong)

/-- 'annalslaw09.BtreeRanges': WHATEVER THE INPUT: true; the input reads as it did. -/
def btreeRangesSpec : ChangeSpec := { name := "btreeRanges", fn := fun _ => fun
  | [d1, d2, d3] => { results := [.lit (.bool true)], args := [d1, d2, d3] }
  | _ => none }
def btreeRangesRow : OpenClaim := { program := "ytefognjcognknaa", sum := "2923a3c546d36107ae90978d8f1e3570568140775ebabf5bcf558d763e383f2f", func := "annals/annalslaw09.BtreeRanges", spec := "btreeRanges", inPlace := ["slices.overlaps[string]", "slices.overlaps[int64]", "slices.overlaps[*annals/btree.node]", "internal/bytealg.abigen_runtime_cmpstring"], unfollowed := true, recurses := true, apart := false }
def BtreeRangesSaid : Prop := btreeRangesRow.holds Try.pinned (OpenSpec.ofChange btreeRangesSpec)

/-- ITS FALSE NEIGHBOUR: 'it returns false'. Refute it at one input. -/
def btreeRangesWrong : ChangeSpec := { name := "btreeRanges", fn := fun _ => fun
  | [d1, d2, d3] => { results := [.lit (.bool false)], args := [d1, d2, d3] }
  | _ => none }
def BtreeRangesWrongFalsely : Prop := btreeRangesRow.holds Try.pinned (OpenSpec.ofChange btreeRangesWrong)

/-- 'annalslaw09.BtreePlays': WHATEVER THE INPUT: true; the input reads as it did. -/
def btreePlaysSpec : ChangeSpec := { name := "btreePlays", fn := fun _ => fun
  | [d1, d2] => { results := [.lit (.bool true)], args := [d1, d2] }
  | _ => none }
def btreePlaysRow : OpenClaim := { program := "ytefognjcognknaa", sum := "2923a3c546d36107ae90978d8f1e3570568140775ebabf5bcf558d763e383f2f", func := "annals/annalslaw09.BtreePlays", spec := "btreePlays", inPlace := ["slices.overlaps[string]", "slices.overlaps[int64]", "slices.overlaps[*annals/btree.node]", "internal/bytealg.abigen_runtime_cmpstring"], unfollowed := true, recurses := true, apart := false }
def BtreePlaysSaid : Prop := btreePlaysRow.holds Try.pinned (OpenSpec.ofChange btreePlaysSpec)

/-- ITS FALSE NEIGHBOUR: 'it returns false'. Refute it at one input. -/
def btreePlaysWrong : ChangeSpec := { name := "btreePlays", fn := fun _ => fun
  | [d1, d2] => { results := [.lit (.bool false)], args := [d1, d2] }
  | _ => none }
def BtreePlaysWrongFalsely : Prop := btreePlaysRow.holds Try.pinned (OpenSpec.ofChange btreePlaysWrong)

/-- 'annalslaw09.BtreeDrains': WHATEVER THE INPUT: true; the input reads as it did. -/
def btreeDrainsSpec : ChangeSpec := { name := "btreeDrains", fn := fun _ => fun
  | [d1, d2, d3] => { results := [.lit (.bool true)], args := [d1, d2, d3] }
  | _ => none }
def btreeDrainsRow : OpenClaim := { program := "ytefognjcognknaa", sum := "2923a3c546d36107ae90978d8f1e3570568140775ebabf5bcf558d763e383f2f", func := "annals/annalslaw09.BtreeDrains", spec := "btreeDrains", inPlace := ["slices.overlaps[string]", "slices.overlaps[int64]", "slices.overlaps[*annals/btree.node]", "internal/bytealg.abigen_runtime_cmpstring"], unfollowed := true, recurses := true, apart := false }
def BtreeDrainsSaid : Prop := btreeDrainsRow.holds Try.pinned (OpenSpec.ofChange btreeDrainsSpec)

/-- ITS FALSE NEIGHBOUR: 'it returns false'. Refute it at one input. -/
def btreeDrainsWrong : ChangeSpec := { name := "btreeDrains", fn := fun _ => fun
  | [d1, d2, d3] => { results := [.lit (.bool false)], args := [d1, d2, d3] }
  | _ => none }
def BtreeDrainsWrongFalsely : Prop := btreeDrainsRow.holds Try.pinned (OpenSpec.ofChange btreeDrainsWrong)

/-- 'annalslaw10.RitreeForks': WHATEVER THE INPUT: true; the input reads as it did. -/
def ritreeForksSpec : ChangeSpec := { name := "ritreeForks", fn := fun _ => fun
  | [d] => { results := [.lit (.bool true)], args := [d] }
  | _ => none }
def ritreeForksRow : OpenClaim := { program := "ytefognjcognknaa", sum := "2923a3c546d36107ae90978d8f1e3570568140775ebabf5bcf558d763e383f2f", func := "annals/annalslaw10.RitreeForks", spec := "ritreeForks", inPlace := ["slices.overlaps[string]", "slices.overlaps[int64]", "slices.overlaps[*annals/btree.node]", "internal/bytealg.abigen_runtime_cmpstring"], unfollowed := true, recurses := true, apart := false }
def RitreeForksSaid : Prop := ritreeForksRow.holds Try.pinned (OpenSpec.ofChange ritreeForksSpec)

/-- ITS FALSE NEIGHBOUR: 'it returns false'. Refute it at one input. -/
def ritreeForksWrong : ChangeSpec := { name := "ritreeForks", fn := fun _ => fun
  | [d] => { results := [.lit (.bool false)], args := [d] }
  | _ => none }
def RitreeForksWrongFalsely : Prop := ritreeForksRow.holds Try.pinned (OpenSpec.ofChange ritreeForksWrong)

/-- 'annalslaw10.RitreeAll': WHATEVER THE INPUT: true; the input reads as it did. -/
def ritreeAllSpec : ChangeSpec := { name := "ritreeAll", fn := fun _ => fun
  | [d1, d2, d3] => { results := [.lit (.bool true)], args := [d1, d2, d3] }
  | _ => none }
def ritreeAllRow : OpenClaim := { program := "ytefognjcognknaa", sum := "2923a3c546d36107ae90978d8f1e3570568140775ebabf5bcf558d763e383f2f", func := "annals/annalslaw10.RitreeAll", spec := "ritreeAll", inPlace := ["slices.overlaps[string]", "slices.overlaps[int64]", "slices.overlaps[*annals/btree.node]", "internal/bytealg.abigen_runtime_cmpstring"], unfollowed := true, recurses := true, apart := false }
def RitreeAllSaid : Prop := ritreeAllRow.holds Try.pinned (OpenSpec.ofChange ritreeAllSpec)

/-- ITS FALSE NEIGHBOUR: 'it returns false'. Refute it at one input. -/
def ritreeAllWrong : ChangeSpec := { name := "ritreeAll", fn := fun _ => fun
  | [d1, d2, d3] => { results := [.lit (.bool false)], args := [d1, d2, d3] }
  | _ => none }
def RitreeAllWrongFalsely : Prop := ritreeAllRow.holds Try.pinned (OpenSpec.ofChange ritreeAllWrong)

/-- 'annalslaw10.RitreeBackbone': WHATEVER THE INPUT: true; the input reads as it did. -/
def ritreeBackboneSpec : ChangeSpec := { name := "ritreeBackbone", fn := fun _ => fun
  | [d1, d2] => { results := [.lit (.bool true)], args := [d1, d2] }
  | _ => none }
def ritreeBackboneRow : OpenClaim := { program := "ytefognjcognknaa", sum := "2923a3c546d36107ae90978d8f1e3570568140775ebabf5bcf558d763e383f2f", func := "annals/annalslaw10.RitreeBackbone", spec := "ritreeBackbone", inPlace := ["slices.overlaps[string]", "slices.overlaps[int64]", "slices.overlaps[*annals/btree.node]", "internal/bytealg.abigen_runtime_cmpstring"], unfollowed := true, recurses := true, apart := false }
def RitreeBackboneSaid : Prop := ritreeBackboneRow.holds Try.pinned (OpenSpec.ofChange ritreeBackboneSpec)

/-- ITS FALSE NEIGHBOUR: 'it returns false'. Refute it at one input. -/
def ritreeBackboneWrong : ChangeSpec := { name := "ritreeBackbone", fn := fun _ => fun
  | [d1, d2] => { results := [.lit (.bool false)], args := [d1, d2] }
  | _ => none }
def RitreeBackboneWrongFalsely : Prop := ritreeBackboneRow.holds Try.pinned (OpenSpec.ofChange ritreeBackboneWrong)

/-- 'annalslaw10.RitreePlays': WHATEVER THE INPUT: true; the input reads as it did. -/
def ritreePlaysSpec : ChangeSpec := { name := "ritreePlays", fn := fun _ => fun
  | [d] => { results := [.lit (.bool true)], args := [d] }
  | _ => none }
def ritreePlaysRow : OpenClaim := { program := "ytefognjcognknaa", sum := "2923a3c546d36107ae90978d8f1e3570568140775ebabf5bcf558d763e383f2f", func := "annals/annalslaw10.RitreePlays", spec := "ritreePlays", inPlace := ["slices.overlaps[string]", "slices.overlaps[int64]", "slices.overlaps[*annals/btree.node]", "internal/bytealg.abigen_runtime_cmpstring"], unfollowed := true, recurses := true, apart := false }
def RitreePlaysSaid : Prop := ritreePlaysRow.holds Try.pinned (OpenSpec.ofChange ritreePlaysSpec)

/-- ITS FALSE NEIGHBOUR: 'it returns false'. Refute it at one input. -/
def ritreePlaysWrong : ChangeSpec := { name := "ritreePlays", fn := fun _ => fun
  | [d] => { results := [.lit (.bool false)], args := [d] }
  | _ => none }
def RitreePlaysWrongFalsely : Prop := ritreePlaysRow.holds Try.pinned (OpenSpec.ofChange ritreePlaysWrong)

/-- 'annalslaw10.RitreeEmpties': WHATEVER THE INPUT: true; the input reads as it did. -/
def ritreeEmptiesSpec : ChangeSpec := { name := "ritreeEmpties", fn := fun _ => fun
  | [d1, d2] => { results := [.lit (.bool true)], args := [d1, d2] }
  | _ => none }
def ritreeEmptiesRow : OpenClaim := { program := "ytefognjcognknaa", sum := "2923a3c546d36107ae90978d8f1e3570568140775ebabf5bcf558d763e383f2f", func := "annals/annalslaw10.RitreeEmpties", spec := "ritreeEmpties", inPlace := ["slices.overlaps[string]", "slices.overlaps[int64]", "slices.overlaps[*annals/btree.node]", "internal/bytealg.abigen_runtime_cmpstring"], unfollowed := true, recurses := true, apart := false }
def RitreeEmptiesSaid : Prop := ritreeEmptiesRow.holds Try.pinned (OpenSpec.ofChange ritreeEmptiesSpec)

/-- ITS FALSE NEIGHBOUR: 'it returns false'. Refute it at one input. -/
def ritreeEmptiesWrong : ChangeSpec := { name := "ritreeEmpties", fn := fun _ => fun
  | [d1, d2] => { results := [.lit (.bool false)], args := [d1, d2] }
  | _ => none }
def RitreeEmptiesWrongFalsely : Prop := ritreeEmptiesRow.holds Try.pinned (OpenSpec.ofChange ritreeEmptiesWrong)

/-- 'annalslaw10.RitreeFinds': WHATEVER THE INPUT: true; the input reads as it did. -/
def ritreeFindsSpec : ChangeSpec := { name := "ritreeFinds", fn := fun _ => fun
  | [d1, d2, d3] => { results := [.lit (.bool true)], args := [d1, d2, d3] }
  | _ => none }
def ritreeFindsRow : OpenClaim := { program := "ytefognjcognknaa", sum := "2923a3c546d36107ae90978d8f1e3570568140775ebabf5bcf558d763e383f2f", func := "annals/annalslaw10.RitreeFinds", spec := "ritreeFinds", inPlace := ["slices.overlaps[string]", "slices.overlaps[int64]", "slices.overlaps[*annals/btree.node]", "internal/bytealg.abigen_runtime_cmpstring"], unfollowed := true, recurses := true, apart := false }
def RitreeFindsSaid : Prop := ritreeFindsRow.holds Try.pinned (OpenSpec.ofChange ritreeFindsSpec)

/-- ITS FALSE NEIGHBOUR: 'it returns false'. Refute it at one input. -/
def ritreeFindsWrong : ChangeSpec := { name := "ritreeFinds", fn := fun _ => fun
  | [d1, d2, d3] => { results := [.lit (.bool false)], args := [d1, d2, d3] }
  | _ => none }
def RitreeFindsWrongFalsely : Prop := ritreeFindsRow.holds Try.pinned (OpenSpec.ofChange ritreeFindsWrong)

/- THE SECOND FORM. 'bulk': how many values and letters a reading holds, each counted each time it is reached (what is shared counts as often as it is met; a slice's spare places count too). A statement '..UptoSaid' is the law's where the arguments, and the package variables that the reading takes, are together of bulk at most 1048576: NARROWER than '..Said'. Prove '..Said' where nothing that the law and all that it calls make is longer than what came in: it says more and counts as full. Else prove '..UptoSaid'. A law counts once. -/
mutual
def uptoBulk {H : Type} : DataW H → Nat
  | .lit (.string bytes) => bytes.length + 1
  | .lit _ => 1
  | .nil => 1
  | .ptr d => uptoBulk d + 1
  | .slice elems spare => uptoBulkAll elems + uptoBulkAll spare + 1
  | .agg parts => uptoBulkAll parts + 1
  | .iface _ d => uptoBulk d + 1
  | .map entries => uptoBulkEntries entries + 1
  | .held _ => 1
def uptoBulkAll {H : Type} : List (DataW H) → Nat
  | [] => 0
  | d :: r => uptoBulk d + uptoBulkAll r
def uptoBulkEntries {H : Type} : List (Lit × DataW H) → Nat
  | [] => 0
  | x :: r => uptoBulkEntry x + uptoBulkEntries r
def uptoBulkEntry {H : Type} : Lit × DataW H → Nat
  | (.string bytes, d) => bytes.length + uptoBulk d + 1
  | (_, d) => uptoBulk d + 1
 end
def uptoSmall : (H : Type) → List (DataW H) → Bool := fun _ ds => decide (uptoBulkAll ds ≤ 1048576)
def OpenSpec.upto (s : _root_.Go.ChangeSpec) : _root_.Go.OpenSpec := { _root_.Go.OpenSpec.ofChange s with cond := some uptoSmall }

/-- 'annalslaw09.BtreeAlike', WHERE WHAT IT READS IS OF BULK AT MOST 1048576: true; the input reads as it did. -/
def btreeAlikeUptoRow : OpenClaim := { program := "ytefognjcognknaa", sum := "2923a3c546d36107ae90978d8f1e3570568140775ebabf5bcf558d763e383f2f", func := "annals/annalslaw09.BtreeAlike", spec := "btreeAlike", inPlace := ["slices.overlaps[string]", "slices.overlaps[int64]", "slices.overlaps[*annals/btree.node]", "internal/bytealg.abigen_runtime_cmpstring"], unfollowed := true, recurses := true, apart := false, narrowed := true }
def BtreeAlikeUptoSaid : Prop := btreeAlikeUptoRow.holds Try.pinned (OpenSpec.upto btreeAlikeSpec)

/-- 'annalslaw09.BtreeRanges', WHERE WHAT IT READS IS OF BULK AT MOST 1048576: true; the input reads as it did. -/
def btreeRangesUptoRow : OpenClaim := { program := "ytefognjcognknaa", sum := "2923a3c546d36107ae90978d8f1e3570568140775ebabf5bcf558d763e383f2f", func := "annals/annalslaw09.BtreeRanges", spec := "btreeRanges", inPlace := ["slices.overlaps[string]", "slices.overlaps[int64]", "slices.overlaps[*annals/btree.node]", "internal/bytealg.abigen_runtime_cmpstring"], unfollowed := true, recurses := true, apart := false, narrowed := true }
def BtreeRangesUptoSaid : Prop := btreeRangesUptoRow.holds Try.pinned (OpenSpec.upto btreeRangesSpec)

/-- 'annalslaw09.BtreePlays', WHERE WHAT IT READS IS OF BULK AT MOST 1048576: true; the input reads as it did. -/
def btreePlaysUptoRow : OpenClaim := { program := "ytefognjcognknaa", sum := "2923a3c546d36107ae90978d8f1e3570568140775ebabf5bcf558d763e383f2f", func := "annals/annalslaw09.BtreePlays", spec := "btreePlays", inPlace := ["slices.overlaps[string]", "slices.overlaps[int64]", "slices.overlaps[*annals/btree.node]", "internal/bytealg.abigen_runtime_cmpstring"], unfollowed := true, recurses := true, apart := false, narrowed := true }
def BtreePlaysUptoSaid : Prop := btreePlaysUptoRow.holds Try.pinned (OpenSpec.upto btreePlaysSpec)

/-- 'annalslaw09.BtreeDrains', WHERE WHAT IT READS IS OF BULK AT MOST 1048576: true; the input reads as it did. -/
def btreeDrainsUptoRow : OpenClaim := { program := "ytefognjcognknaa", sum := "2923a3c546d36107ae90978d8f1e3570568140775ebabf5bcf558d763e383f2f", func := "annals/annalslaw09.BtreeDrains", spec := "btreeDrains", inPlace := ["slices.overlaps[string]", "slices.overlaps[int64]", "slices.overlaps[*annals/btree.node]", "internal/bytealg.abigen_runtime_cmpstring"], unfollowed := true, recurses := true, apart := false, narrowed := true }
def BtreeDrainsUptoSaid : Prop := btreeDrainsUptoRow.holds Try.pinned (OpenSpec.upto btreeDrainsSpec)

/-- 'annalslaw10.RitreeForks', WHERE WHAT IT READS IS OF BULK AT MOST 1048576: true; the input reads as it did. -/
def ritreeForksUptoRow : OpenClaim := { program := "ytefognjcognknaa", sum := "2923a3c546d36107ae90978d8f1e3570568140775ebabf5bcf558d763e383f2f", func := "annals/annalslaw10.RitreeForks", spec := "ritreeForks", inPlace := ["slices.overlaps[string]", "slices.overlaps[int64]", "slices.overlaps[*annals/btree.node]", "internal/bytealg.abigen_runtime_cmpstring"], unfollowed := true, recurses := true, apart := false, narrowed := true }
def RitreeForksUptoSaid : Prop := ritreeForksUptoRow.holds Try.pinned (OpenSpec.upto ritreeForksSpec)

/-- 'annalslaw10.RitreeAll', WHERE WHAT IT READS IS OF BULK AT MOST 1048576: true; the input reads as it did. -/
def ritreeAllUptoRow : OpenClaim := { program := "ytefognjcognknaa", sum := "2923a3c546d36107ae90978d8f1e3570568140775ebabf5bcf558d763e383f2f", func := "annals/annalslaw10.RitreeAll", spec := "ritreeAll", inPlace := ["slices.overlaps[string]", "slices.overlaps[int64]", "slices.overlaps[*annals/btree.node]", "internal/bytealg.abigen_runtime_cmpstring"], unfollowed := true, recurses := true, apart := false, narrowed := true }
def RitreeAllUptoSaid : Prop := ritreeAllUptoRow.holds Try.pinned (OpenSpec.upto ritreeAllSpec)

/-- 'annalslaw10.RitreeBackbone', WHERE WHAT IT READS IS OF BULK AT MOST 1048576: true; the input reads as it did. -/
def ritreeBackboneUptoRow : OpenClaim := { program := "ytefognjcognknaa", sum := "2923a3c546d36107ae90978d8f1e3570568140775ebabf5bcf558d763e383f2f", func := "annals/annalslaw10.RitreeBackbone", spec := "ritreeBackbone", inPlace := ["slices.overlaps[string]", "slices.overlaps[int64]", "slices.overlaps[*annals/btree.node]", "internal/bytealg.abigen_runtime_cmpstring"], unfollowed := true, recurses := true, apart := false, narrowed := true }
def RitreeBackboneUptoSaid : Prop := ritreeBackboneUptoRow.holds Try.pinned (OpenSpec.upto ritreeBackboneSpec)

/-- 'annalslaw10.RitreePlays', WHERE WHAT IT READS IS OF BULK AT MOST 1048576: true; the input reads as it did. -/
def ritreePlaysUptoRow : OpenClaim := { program := "ytefognjcognknaa", sum := "2923a3c546d36107ae90978d8f1e3570568140775ebabf5bcf558d763e383f2f", func := "annals/annalslaw10.RitreePlays", spec := "ritreePlays", inPlace := ["slices.overlaps[string]", "slices.overlaps[int64]", "slices.overlaps[*annals/btree.node]", "internal/bytealg.abigen_runtime_cmpstring"], unfollowed := true, recurses := true, apart := false, narrowed := true }
def RitreePlaysUptoSaid : Prop := ritreePlaysUptoRow.holds Try.pinned (OpenSpec.upto ritreePlaysSpec)

/-- 'annalslaw10.RitreeEmpties', WHERE WHAT IT READS IS OF BULK AT MOST 1048576: true; the input reads as it did. -/
def ritreeEmptiesUptoRow : OpenClaim := { program := "ytefognjcognknaa", sum := "2923a3c546d36107ae90978d8f1e3570568140775ebabf5bcf558d763e383f2f", func := "annals/annalslaw10.RitreeEmpties", spec := "ritreeEmpties", inPlace := ["slices.overlaps[string]", "slices.overlaps[int64]", "slices.overlaps[*annals/btree.node]", "internal/bytealg.abigen_runtime_cmpstring"], unfollowed := true, recurses := true, apart := false, narrowed := true }
def RitreeEmptiesUptoSaid : Prop := ritreeEmptiesUptoRow.holds Try.pinned (OpenSpec.upto ritreeEmptiesSpec)

/-- 'annalslaw10.RitreeFinds', WHERE WHAT IT READS IS OF BULK AT MOST 1048576: true; the input reads as it did. -/
def ritreeFindsUptoRow : OpenClaim := { program := "ytefognjcognknaa", sum := "2923a3c546d36107ae90978d8f1e3570568140775ebabf5bcf558d763e383f2f", func := "annals/annalslaw10.RitreeFinds", spec := "ritreeFinds", inPlace := ["slices.overlaps[string]", "slices.overlaps[int64]", "slices.overlaps[*annals/btree.node]", "internal/bytealg.abigen_runtime_cmpstring"], unfollowed := true, recurses := true, apart := false, narrowed := true }
def RitreeFindsUptoSaid : Prop := ritreeFindsUptoRow.holds Try.pinned (OpenSpec.upto ritreeFindsSpec)

end Rows
end Go.Proofs.Ytefognjcognknaa
