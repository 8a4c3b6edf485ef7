/-
  No cell of these rows narrows 'for every input' (looked for: loops, veiled, ifaces, maps, wideKeys, modest, calm, conditions, laid).
  DERIVED. THE GIVEN ROWS OF THIS SEAT. 6 by the template 'for every input the law returns true; each argument reads behind the call as it read before'; 0 by the template 'total and deterministic' (their statements: YtdjfibkpmmcefaaTotals.lean).
  GIVEN WITH THE SEED: the statements are not yours to turn. If you find one false, say at which input.
  Laid BY PROGRAM, IN A SANDBOX (cutbox-rows.mjs): the forced cells as the released guide's own fill.sh prints them over the translation 9cf962eb7b4a02ad… (all of the seat's roots in one cut). By AI agents, Wed Nov 11 2026. No macro, syntax, notation, axiom, sorry.
-/
import Derived.Test.YtdjfibkpmmcefaaChecked
import GoSem.Claim
import GoSem.ClaimJoined
import GoSem.ClaimMapViews
import Derived.JoinedTies
import Derived.KernelRfl
namespace Go.Proofs.Ytdjfibkpmmcefaa
/- THE CELL 'sum', in the pinned program and in every row, IS THE sha256 OF THE DUMP (.gsa) THAT YtdjfibkpmmcefaaProg.lean LOADS. Nothing in Lean hashes anything: it is a label: what it is worth is what the hold of that sum in a sandbox is worth. -/
noncomputable def Try.pinned : Pinned := { name := "ytdjfibkpmmcefaa", sum := "9cf962eb7b4a02ad9f359fc05e6a9ef0bf3ab408240c4995b32995caf61052e2", checked := Try.checked }
namespace Rows
def none {H : Type} : Left H := { results := [], args := [] }

/-- 'annalslaw12.MvccSees': WHATEVER THE INPUT: true; the input reads as it did. -/
def mvccSeesSpec : ChangeSpec := { name := "mvccSees", fn := fun _ => fun
  | [d1, d2, d3] => { results := [.lit (.bool true)], args := [d1, d2, d3] }
  | _ => none }
def mvccSeesRow : OpenClaim := { program := "ytdjfibkpmmcefaa", sum := "9cf962eb7b4a02ad9f359fc05e6a9ef0bf3ab408240c4995b32995caf61052e2", func := "annals/annalslaw12.MvccSees", spec := "mvccSees", apart := false }
def MvccSeesSaid : Prop := mvccSeesRow.holds Try.pinned (OpenSpec.ofChange mvccSeesSpec)

/-- ITS FALSE NEIGHBOUR: 'it returns false'. Refute it at one input. -/
def mvccSeesWrong : ChangeSpec := { name := "mvccSees", fn := fun _ => fun
  | [d1, d2, d3] => { results := [.lit (.bool false)], args := [d1, d2, d3] }
  | _ => none }
def MvccSeesWrongFalsely : Prop := mvccSeesRow.holds Try.pinned (OpenSpec.ofChange mvccSeesWrong)

/-- 'annalslaw01.DiskKeeps': WHATEVER THE INPUT: true; the input reads as it did. -/
def diskKeepsSpec : ChangeSpec := { name := "diskKeeps", fn := fun _ => fun
  | [d1, d2] => { results := [.lit (.bool true)], args := [d1, d2] }
  | _ => none }
def diskKeepsRow : OpenClaim := { program := "ytdjfibkpmmcefaa", sum := "9cf962eb7b4a02ad9f359fc05e6a9ef0bf3ab408240c4995b32995caf61052e2", func := "annals/annalslaw01.DiskKeeps", spec := "diskKeeps", apart := false }
def DiskKeepsSaid : Prop := diskKeepsRow.holds Try.pinned (OpenSpec.ofChange diskKeepsSpec)

/-- ITS FALSE NEIGHBOUR: 'it returns false'. Refute it at one input. -/
def diskKeepsWrong : ChangeSpec := { name := "diskKeeps", fn := fun _ => fun
  | [d1, d2] => { results := [.lit (.bool false)], args := [d1, d2] }
  | _ => none }
def DiskKeepsWrongFalsely : Prop := diskKeepsRow.holds Try.pinned (OpenSpec.ofChange diskKeepsWrong)

/-- 'annalslaw01.DiskLast': WHATEVER THE INPUT: true; the input reads as it did. -/
def diskLastSpec : ChangeSpec := { name := "diskLast", fn := fun _ => fun
  | [d1, d2] => { results := [.lit (.bool true)], args := [d1, d2] }
  | _ => none }
def diskLastRow : OpenClaim := { program := "ytdjfibkpmmcefaa", sum := "9cf962eb7b4a02ad9f359fc05e6a9ef0bf3ab408240c4995b32995caf61052e2", func := "annals/annalslaw01.DiskLast", spec := "diskLast", apart := false }
def DiskLastSaid : Prop := diskLastRow.holds Try.pinned (OpenSpec.ofChange diskLastSpec)

/-- ITS FALSE NEIGHBOUR: 'it returns false'. Refute it at one input. -/
def diskLastWrong : ChangeSpec := { name := "diskLast", fn := fun _ => fun
  | [d1, d2] => { results := [.lit (.bool false)], args := [d1, d2] }
  | _ => none }
def DiskLastWrongFalsely : Prop := diskLastRow.holds Try.pinned (OpenSpec.ofChange diskLastWrong)

/-- 'annalslaw01.DiskPlays': WHATEVER THE INPUT: true; the input reads as it did. -/
def diskPlaysSpec : ChangeSpec := { name := "diskPlays", fn := fun _ => fun
  | [d1, d2] => { results := [.lit (.bool true)], args := [d1, d2] }
  | _ => none }
def diskPlaysRow : OpenClaim := { program := "ytdjfibkpmmcefaa", sum := "9cf962eb7b4a02ad9f359fc05e6a9ef0bf3ab408240c4995b32995caf61052e2", func := "annals/annalslaw01.DiskPlays", spec := "diskPlays", apart := false }
def DiskPlaysSaid : Prop := diskPlaysRow.holds Try.pinned (OpenSpec.ofChange diskPlaysSpec)

/-- ITS FALSE NEIGHBOUR: 'it returns false'. Refute it at one input. -/
def diskPlaysWrong : ChangeSpec := { name := "diskPlays", fn := fun _ => fun
  | [d1, d2] => { results := [.lit (.bool false)], args := [d1, d2] }
  | _ => none }
def DiskPlaysWrongFalsely : Prop := diskPlaysRow.holds Try.pinned (OpenSpec.ofChange diskPlaysWrong)

/-- 'annalslaw01.DiskDurable': WHATEVER THE INPUT: true; the input reads as it did. -/
def diskDurableSpec : ChangeSpec := { name := "diskDurable", fn := fun _ => fun
  | [d1, d2] => { results := [.lit (.bool true)], args := [d1, d2] }
  | _ => none }
def diskDurableRow : OpenClaim := { program := "ytdjfibkpmmcefaa", sum := "9cf962eb7b4a02ad9f359fc05e6a9ef0bf3ab408240c4995b32995caf61052e2", func := "annals/annalslaw01.DiskDurable", spec := "diskDurable", apart := false }
def DiskDurableSaid : Prop := diskDurableRow.holds Try.pinned (OpenSpec.ofChange diskDurableSpec)

/-- ITS FALSE NEIGHBOUR: 'it returns false'. Refute it at one input. -/
def diskDurableWrong : ChangeSpec := { name := "diskDurable", fn := fun _ => fun
  | [d1, d2] => { results := [.lit (.bool false)], args := [d1, d2] }
  | _ => none }
def DiskDurableWrongFalsely : Prop := diskDurableRow.holds Try.pinned (OpenSpec.ofChange diskDurableWrong)

/-- 'annalslaw01.DiskForks': WHATEVER THE INPUT: true; the input reads as it did. -/
def diskForksSpec : ChangeSpec := { name := "diskForks", fn := fun _ => fun
  | [d1, d2, d3] => { results := [.lit (.bool true)], args := [d1, d2, d3] }
  | _ => none }
def diskForksRow : OpenClaim := { program := "ytdjfibkpmmcefaa", sum := "9cf962eb7b4a02ad9f359fc05e6a9ef0bf3ab408240c4995b32995caf61052e2", func := "annals/annalslaw01.DiskForks", spec := "diskForks", apart := false }
def DiskForksSaid : Prop := diskForksRow.holds Try.pinned (OpenSpec.ofChange diskForksSpec)

/-- ITS FALSE NEIGHBOUR: 'it returns false'. Refute it at one input. -/
def diskForksWrong : ChangeSpec := { name := "diskForks", fn := fun _ => fun
  | [d1, d2, d3] => { results := [.lit (.bool false)], args := [d1, d2, d3] }
  | _ => none }
def DiskForksWrongFalsely : Prop := diskForksRow.holds Try.pinned (OpenSpec.ofChange diskForksWrong)

/- THE SECOND FORM. 'bulk': how many values and letters a reading holds, each counted each time it is reached (what is shared counts as often as it is met; a slice's spare places count too). A statement '..UptoSaid' is the law's where the arguments, and the package variables that the reading takes, are together of bulk at most 1048576: NARROWER than '..Said'. Prove '..Said' where nothing that the law and all that it calls make is longer than what came in: it says more and counts as full. Else prove '..UptoSaid'. A law counts once. -/
mutual
def uptoBulk {H : Type} : DataW H → Nat
  | .lit (.string bytes) => bytes.length + 1
  | .lit _ => 1
  | .nil => 1
  | .ptr d => uptoBulk d + 1
  | .slice elems spare => uptoBulkAll elems + uptoBulkAll spare + 1
  | .agg parts => uptoBulkAll parts + 1
  | .iface _ d => uptoBulk d + 1
  | .map entries => uptoBulkEntries entries + 1
  | .held _ => 1
def uptoBulkAll {H : Type} : List (DataW H) → Nat
  | [] => 0
  | d :: r => uptoBulk d + uptoBulkAll r
def uptoBulkEntries {H : Type} : List (Lit × DataW H) → Nat
  | [] => 0
  | x :: r => uptoBulkEntry x + uptoBulkEntries r
def uptoBulkEntry {H : Type} : Lit × DataW H → Nat
  | (.string bytes, d) => bytes.length + uptoBulk d + 1
  | (_, d) => uptoBulk d + 1
 end
def uptoSmall : (H : Type) → List (DataW H) → Bool := fun _ ds => decide (uptoBulkAll ds ≤ 1048576)
def OpenSpec.upto (s : _root_.Go.ChangeSpec) : _root_.Go.OpenSpec := { _root_.Go.OpenSpec.ofChange s with cond := some uptoSmall }

/-- 'annalslaw12.MvccSees', WHERE WHAT IT READS IS OF BULK AT MOST 1048576: true; the input reads as it did. -/
def mvccSeesUptoRow : OpenClaim := { program := "ytdjfibkpmmcefaa", sum := "9cf962eb7b4a02ad9f359fc05e6a9ef0bf3ab408240c4995b32995caf61052e2", func := "annals/annalslaw12.MvccSees", spec := "mvccSees", apart := false, narrowed := true }
def MvccSeesUptoSaid : Prop := mvccSeesUptoRow.holds Try.pinned (OpenSpec.upto mvccSeesSpec)

/-- 'annalslaw01.DiskKeeps', WHERE WHAT IT READS IS OF BULK AT MOST 1048576: true; the input reads as it did. -/
def diskKeepsUptoRow : OpenClaim := { program := "ytdjfibkpmmcefaa", sum := "9cf962eb7b4a02ad9f359fc05e6a9ef0bf3ab408240c4995b32995caf61052e2", func := "annals/annalslaw01.DiskKeeps", spec := "diskKeeps", apart := false, narrowed := true }
def DiskKeepsUptoSaid : Prop := diskKeepsUptoRow.holds Try.pinned (OpenSpec.upto diskKeepsSpec)

/-- 'annalslaw01.DiskLast', WHERE WHAT IT READS IS OF BULK AT MOST 1048576: true; the input reads as it did. -/
def diskLastUptoRow : OpenClaim := { program := "ytdjfibkpmmcefaa", sum := "9cf962eb7b4a02ad9f359fc05e6a9ef0bf3ab408240c4995b32995caf61052e2", func := "annals/annalslaw01.DiskLast", spec := "diskLast", apart := false, narrowed := true }
def DiskLastUptoSaid : Prop := diskLastUptoRow.holds Try.pinned (OpenSpec.upto diskLastSpec)

/-- 'annalslaw01.DiskPlays', WHERE WHAT IT READS IS OF BULK AT MOST 1048576: true; the input reads as it did. -/
def diskPlaysUptoRow : OpenClaim := { program := "ytdjfibkpmmcefaa", sum := "9cf962eb7b4a02ad9f359fc05e6a9ef0bf3ab408240c4995b32995caf61052e2", func := "annals/annalslaw01.DiskPlays", spec := "diskPlays", apart := false, narrowed := true }
def DiskPlaysUptoSaid : Prop := diskPlaysUptoRow.holds Try.pinned (OpenSpec.upto diskPlaysSpec)

/-- 'annalslaw01.DiskDurable', WHERE WHAT IT READS IS OF BULK AT MOST 1048576: true; the input reads as it did. -/
def diskDurableUptoRow : OpenClaim := { program := "ytdjfibkpmmcefaa", sum := "9cf962eb7b4a02ad9f359fc05e6a9ef0bf3ab408240c4995b32995caf61052e2", func := "annals/annalslaw01.DiskDurable", spec := "diskDurable", apart := false, narrowed := true }
def DiskDurableUptoSaid : Prop := diskDurableUptoRow.holds Try.pinned (OpenSpec.upto diskDurableSpec)

/-- 'annalslaw01.DiskForks', WHERE WHAT IT READS IS OF BULK AT MOST 1048576: true; the input reads as it did. -/
def diskForksUptoRow : OpenClaim := { program := "ytdjfibkpmmcefaa", sum := "9cf962eb7b4a02ad9f359fc05e6a9ef0bf3ab408240c4995b32995caf61052e2", func := "annals/annalslaw01.DiskForks", spec := "diskForks", apart := false, narrowed := true }
def DiskForksUptoSaid : Prop := diskForksUptoRow.holds Try.pinned (OpenSpec.upto diskForksSpec)

end Rows
end Go.Proofs.Ytdjfibkpmmcefaa
