/-
  No cell of these rows narrows 'for every input' (looked for: loops, veiled, ifaces, maps, wideKeys, modest, calm, conditions, laid).
  DERIVED. THE GIVEN ROWS OF THIS SEAT. 5 by the template 'for every input the law returns true; each argument reads behind the call as it read before'; 0 by the template 'total and deterministic' (their statements: YtgfbjabjkjbnlaaTotals.lean).
  GIVEN WITH THE SEED: the statements are not yours to turn. If you find one false, say at which input.
  Laid BY PROGRAM, IN A SANDBOX (cutbox-rows.mjs): the forced cells as the released guide's own fill.sh prints them over the translation 89f4b2b5b1d8c2eb… (all of the seat's roots in one cut). By AI agents, Wed Nov 11 2026. No macro, syntax, notation, axiom, sorry.
-/
import Derived.Test.YtgfbjabjkjbnlaaChecked
import GoSem.Claim
import GoSem.ClaimJoined
import GoSem.ClaimMapViews
import Derived.JoinedTies
import Derived.KernelRfl
namespace Go.Proofs.Ytgfbjabjkjbnlaa
/- THE CELL 'sum', in the pinned program and in every row, IS THE sha256 OF THE DUMP (.gsa) THAT YtgfbjabjkjbnlaaProg.lean LOADS. Nothing in Lean hashes anything: it is a label: what it is worth is what the hold of that sum in a sandbox is worth. -/
noncomputable def Try.pinned : Pinned := { name := "ytgfbjabjkjbnlaa", sum := "89f4b2b5b1d8c2eb97e18af37cada0a24b0220b2177b94b219b7ee158d296d6d", checked := Try.checked }
namespace Rows
def none {H : Type} : Left H := { results := [], args := [] }

/-- 'annalslaw12.MvccFirst': WHATEVER THE INPUT: true; the input reads as it did. -/
def mvccFirstSpec : ChangeSpec := { name := "mvccFirst", fn := fun _ => fun
  | [d] => { results := [.lit (.bool true)], args := [d] }
  | _ => none }
def mvccFirstRow : OpenClaim := { program := "ytgfbjabjkjbnlaa", sum := "89f4b2b5b1d8c2eb97e18af37cada0a24b0220b2177b94b219b7ee158d296d6d", func := "annals/annalslaw12.MvccFirst", spec := "mvccFirst", recurses := true, apart := false }
def MvccFirstSaid : Prop := mvccFirstRow.holds Try.pinned (OpenSpec.ofChange mvccFirstSpec)

/-- ITS FALSE NEIGHBOUR: 'it returns false'. Refute it at one input. -/
def mvccFirstWrong : ChangeSpec := { name := "mvccFirst", fn := fun _ => fun
  | [d] => { results := [.lit (.bool false)], args := [d] }
  | _ => none }
def MvccFirstWrongFalsely : Prop := mvccFirstRow.holds Try.pinned (OpenSpec.ofChange mvccFirstWrong)

/-- 'annalslaw12.MvccStamps': WHATEVER THE INPUT: true; the input reads as it did. -/
def mvccStampsSpec : ChangeSpec := { name := "mvccStamps", fn := fun _ => fun
  | [d] => { results := [.lit (.bool true)], args := [d] }
  | _ => none }
def mvccStampsRow : OpenClaim := { program := "ytgfbjabjkjbnlaa", sum := "89f4b2b5b1d8c2eb97e18af37cada0a24b0220b2177b94b219b7ee158d296d6d", func := "annals/annalslaw12.MvccStamps", spec := "mvccStamps", recurses := true, apart := false }
def MvccStampsSaid : Prop := mvccStampsRow.holds Try.pinned (OpenSpec.ofChange mvccStampsSpec)

/-- ITS FALSE NEIGHBOUR: 'it returns false'. Refute it at one input. -/
def mvccStampsWrong : ChangeSpec := { name := "mvccStamps", fn := fun _ => fun
  | [d] => { results := [.lit (.bool false)], args := [d] }
  | _ => none }
def MvccStampsWrongFalsely : Prop := mvccStampsRow.holds Try.pinned (OpenSpec.ofChange mvccStampsWrong)

/-- 'annalslaw12.MvccAborts': WHATEVER THE INPUT: true; the input reads as it did. -/
def mvccAbortsSpec : ChangeSpec := { name := "mvccAborts", fn := fun _ => fun
  | [d1, d2] => { results := [.lit (.bool true)], args := [d1, d2] }
  | _ => none }
def mvccAbortsRow : OpenClaim := { program := "ytgfbjabjkjbnlaa", sum := "89f4b2b5b1d8c2eb97e18af37cada0a24b0220b2177b94b219b7ee158d296d6d", func := "annals/annalslaw12.MvccAborts", spec := "mvccAborts", recurses := true, apart := false }
def MvccAbortsSaid : Prop := mvccAbortsRow.holds Try.pinned (OpenSpec.ofChange mvccAbortsSpec)

/-- ITS FALSE NEIGHBOUR: 'it returns false'. Refute it at one input. -/
def mvccAbortsWrong : ChangeSpec := { name := "mvccAborts", fn := fun _ => fun
  | [d1, d2] => { results := [.lit (.bool false)], args := [d1, d2] }
  | _ => none }
def MvccAbortsWrongFalsely : Prop := mvccAbortsRow.holds Try.pinned (OpenSpec.ofChange mvccAbortsWrong)

/-- 'annalslaw12.MvccReads': WHATEVER THE INPUT: true; the input reads as it did. -/
def mvccReadsSpec : ChangeSpec := { name := "mvccReads", fn := fun _ => fun
  | [d1, d2] => { results := [.lit (.bool true)], args := [d1, d2] }
  | _ => none }
def mvccReadsRow : OpenClaim := { program := "ytgfbjabjkjbnlaa", sum := "89f4b2b5b1d8c2eb97e18af37cada0a24b0220b2177b94b219b7ee158d296d6d", func := "annals/annalslaw12.MvccReads", spec := "mvccReads", recurses := true, apart := false }
def MvccReadsSaid : Prop := mvccReadsRow.holds Try.pinned (OpenSpec.ofChange mvccReadsSpec)

/-- ITS FALSE NEIGHBOUR: 'it returns false'. Refute it at one input. -/
def mvccReadsWrong : ChangeSpec := { name := "mvccReads", fn := fun _ => fun
  | [d1, d2] => { results := [.lit (.bool false)], args := [d1, d2] }
  | _ => none }
def MvccReadsWrongFalsely : Prop := mvccReadsRow.holds Try.pinned (OpenSpec.ofChange mvccReadsWrong)

/-- 'annalslaw12.MvccPlays': WHATEVER THE INPUT: true; the input reads as it did. -/
def mvccPlaysSpec : ChangeSpec := { name := "mvccPlays", fn := fun _ => fun
  | [d1, d2, d3] => { results := [.lit (.bool true)], args := [d1, d2, d3] }
  | _ => none }
def mvccPlaysRow : OpenClaim := { program := "ytgfbjabjkjbnlaa", sum := "89f4b2b5b1d8c2eb97e18af37cada0a24b0220b2177b94b219b7ee158d296d6d", func := "annals/annalslaw12.MvccPlays", spec := "mvccPlays", recurses := true, apart := false }
def MvccPlaysSaid : Prop := mvccPlaysRow.holds Try.pinned (OpenSpec.ofChange mvccPlaysSpec)

/-- ITS FALSE NEIGHBOUR: 'it returns false'. Refute it at one input. -/
def mvccPlaysWrong : ChangeSpec := { name := "mvccPlays", fn := fun _ => fun
  | [d1, d2, d3] => { results := [.lit (.bool false)], args := [d1, d2, d3] }
  | _ => none }
def MvccPlaysWrongFalsely : Prop := mvccPlaysRow.holds Try.pinned (OpenSpec.ofChange mvccPlaysWrong)

/- THE SECOND FORM. 'bulk': how many values and letters a reading holds, each counted each time it is reached (what is shared counts as often as it is met; a slice's spare places count too). A statement '..UptoSaid' is the law's where the arguments, and the package variables that the reading takes, are together of bulk at most 1048576: NARROWER than '..Said'. Prove '..Said' where nothing that the law and all that it calls make is longer than what came in: it says more and counts as full. Else prove '..UptoSaid'. A law counts once. -/
mutual
def uptoBulk {H : Type} : DataW H → Nat
  | .lit (.string bytes) => bytes.length + 1
  | .lit _ => 1
  | .nil => 1
  | .ptr d => uptoBulk d + 1
  | .slice elems spare => uptoBulkAll elems + uptoBulkAll spare + 1
  | .agg parts => uptoBulkAll parts + 1
  | .iface _ d => uptoBulk d + 1
  | .map entries => uptoBulkEntries entries + 1
  | .held _ => 1
def uptoBulkAll {H : Type} : List (DataW H) → Nat
  | [] => 0
  | d :: r => uptoBulk d + uptoBulkAll r
def uptoBulkEntries {H : Type} : List (Lit × DataW H) → Nat
  | [] => 0
  | x :: r => uptoBulkEntry x + uptoBulkEntries r
def uptoBulkEntry {H : Type} : Lit × DataW H → Nat
  | (.string bytes, d) => bytes.length + uptoBulk d + 1
  | (_, d) => uptoBulk d + 1
 end
def uptoSmall : (H : Type) → List (DataW H) → Bool := fun _ ds => decide (uptoBulkAll ds ≤ 1048576)
def OpenSpec.upto (s : _root_.Go.ChangeSpec) : _root_.Go.OpenSpec := { _root_.Go.OpenSpec.ofChange s with cond := some uptoSmall }

/-- 'annalslaw12.MvccFirst', WHERE WHAT IT READS IS OF BULK AT MOST 1048576: true; the input reads as it did. -/
def mvccFirstUptoRow : OpenClaim := { program := "ytgfbjabjkjbnlaa", sum := "89f4b2b5b1d8c2eb97e18af37cada0a24b0220b2177b94b219b7ee158d296d6d", func := "annals/annalslaw12.MvccFirst", spec := "mvccFirst", recurses := true, apart := false, narrowed := true }
def MvccFirstUptoSaid : Prop := mvccFirstUptoRow.holds Try.pinned (OpenSpec.upto mvccFirstSpec)

/-- 'annalslaw12.MvccStamps', WHERE WHAT IT READS IS OF BULK AT MOST 1048576: true; the input reads as it did. -/
def mvccStampsUptoRow : OpenClaim := { program := "ytgfbjabjkjbnlaa", sum := "89f4b2b5b1d8c2eb97e18af37cada0a24b0220b2177b94b219b7ee158d296d6d", func := "annals/annalslaw12.MvccStamps", spec := "mvccStamps", recurses := true, apart := false, narrowed := true }
def MvccStampsUptoSaid : Prop := mvccStampsUptoRow.holds Try.pinned (OpenSpec.upto mvccStampsSpec)

/-- 'annalslaw12.MvccAborts', WHERE WHAT IT READS IS OF BULK AT MOST 1048576: true; the input reads as it did. -/
def mvccAbortsUptoRow : OpenClaim := { program := "ytgfbjabjkjbnlaa", sum := "89f4b2b5b1d8c2eb97e18af37cada0a24b0220b2177b94b219b7ee158d296d6d", func := "annals/annalslaw12.MvccAborts", spec := "mvccAborts", recurses := true, apart := false, narrowed := true }
def MvccAbortsUptoSaid : Prop := mvccAbortsUptoRow.holds Try.pinned (OpenSpec.upto mvccAbortsSpec)

/-- 'annalslaw12.MvccReads', WHERE WHAT IT READS IS OF BULK AT MOST 1048576: true; the input reads as it did. -/
def mvccReadsUptoRow : OpenClaim := { program := "ytgfbjabjkjbnlaa", sum := "89f4b2b5b1d8c2eb97e18af37cada0a24b0220b2177b94b219b7ee158d296d6d", func := "annals/annalslaw12.MvccReads", spec := "mvccReads", recurses := true, apart := false, narrowed := true }
def MvccReadsUptoSaid : Prop := mvccReadsUptoRow.holds Try.pinned (OpenSpec.upto mvccReadsSpec)

/-- 'annalslaw12.MvccPlays', WHERE WHAT IT READS IS OF BULK AT MOST 1048576: true; the input reads as it did. -/
def mvccPlaysUptoRow : OpenClaim := { program := "ytgfbjabjkjbnlaa", sum := "89f4b2b5b1d8c2eb97e18af37cada0a24b0220b2177b94b219b7ee158d296d6d", func := "annals/annalslaw12.MvccPlays", spec := "mvccPlays", recurses := true, apart := false, narrowed := true }
def MvccPlaysUptoSaid : Prop := mvccPlaysUptoRow.holds Try.pinned (OpenSpec.upto mvccPlaysSpec)

end Rows
end Go.Proofs.Ytgfbjabjkjbnlaa
