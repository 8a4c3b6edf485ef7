/-
  NARROWER THAN 'FOR EVERY INPUT', by the rows' own cells (each row's printed sentence says how): BindTurns: loops · BindKeeps: loops · BindParts: loops.
  DERIVED. THE GIVEN ROWS OF THIS SEAT. 4 by the template 'for every input the law returns true; each argument reads behind the call as it read before'; 0 by the template 'total and deterministic' (their statements: YtopbkdpbljebgaaTotals.lean).
  GIVEN WITH THE SEED: the statements are not yours to turn. If you find one false, say at which input.
  Laid BY PROGRAM, IN A SANDBOX (cutbox-rows.mjs): the forced cells as the released guide's own fill.sh prints them over the translation b81c4d7cbf3e8868… (all of the seat's roots in one cut). By AI agents, Wed Nov 11 2026. No macro, syntax, notation, axiom, sorry.
-/
import Derived.Test.YtopbkdpbljebgaaChecked
import GoSem.Claim
import GoSem.ClaimJoined
import GoSem.ClaimMapViews
import Derived.JoinedTies
import Derived.KernelRfl
namespace Go.Proofs.Ytopbkdpbljebgaa
/- THE CELL 'sum', in the pinned program and in every row, IS THE sha256 OF THE DUMP (.gsa) THAT YtopbkdpbljebgaaProg.lean LOADS. Nothing in Lean hashes anything: it is a label: what it is worth is what the hold of that sum in a sandbox is worth. -/
noncomputable def Try.pinned : Pinned := { name := "ytopbkdpbljebgaa", sum := "b81c4d7cbf3e8868c1b4f35f5f0853123cd6ee3049cb957b194a2c7ed090460f", checked := Try.checked }
namespace Rows
def none {H : Type} : Left H := { results := [], args := [] }

/-- 'annalslaw17.BindScopes': WHATEVER THE INPUT: true; the input reads as it did. -/
def bindScopesSpec : ChangeSpec := { name := "bindScopes", fn := fun _ => fun
  | [d1, d2, d3] => { results := [.lit (.bool true)], args := [d1, d2, d3] }
  | _ => none }
def bindScopesRow : OpenClaim := { program := "ytopbkdpbljebgaa", sum := "b81c4d7cbf3e8868c1b4f35f5f0853123cd6ee3049cb957b194a2c7ed090460f", func := "annals/annalslaw17.BindScopes", spec := "bindScopes", unfollowed := true, recurses := true, apart := false }
def BindScopesSaid : Prop := bindScopesRow.holds Try.pinned (OpenSpec.ofChange bindScopesSpec)

/-- ITS FALSE NEIGHBOUR: 'it returns false'. Refute it at one input. -/
def bindScopesWrong : ChangeSpec := { name := "bindScopes", fn := fun _ => fun
  | [d1, d2, d3] => { results := [.lit (.bool false)], args := [d1, d2, d3] }
  | _ => none }
def BindScopesWrongFalsely : Prop := bindScopesRow.holds Try.pinned (OpenSpec.ofChange bindScopesWrong)

/-- 'annalslaw17.BindTurns': WHATEVER THE INPUT: true; the input reads as it did. -/
def bindTurnsSpec : ChangeSpec := { name := "bindTurns", fn := fun _ => fun
  | [d1, d2, d3] => { results := [.lit (.bool true)], args := [d1, d2, d3] }
  | _ => none }
def bindTurnsRow : OpenClaim := { program := "ytopbkdpbljebgaa", sum := "b81c4d7cbf3e8868c1b4f35f5f0853123cd6ee3049cb957b194a2c7ed090460f", func := "annals/annalslaw17.BindTurns", spec := "bindTurns", unfollowed := true, recurses := true, loops := true, apart := false }
def BindTurnsSaid : Prop := bindTurnsRow.holds Try.pinned (OpenSpec.ofChange bindTurnsSpec)

/-- ITS FALSE NEIGHBOUR: 'it returns false'. Refute it at one input. -/
def bindTurnsWrong : ChangeSpec := { name := "bindTurns", fn := fun _ => fun
  | [d1, d2, d3] => { results := [.lit (.bool false)], args := [d1, d2, d3] }
  | _ => none }
def BindTurnsWrongFalsely : Prop := bindTurnsRow.holds Try.pinned (OpenSpec.ofChange bindTurnsWrong)

/-- 'annalslaw17.BindKeeps': WHATEVER THE INPUT: true; the input reads as it did. -/
def bindKeepsSpec : ChangeSpec := { name := "bindKeeps", fn := fun _ => fun
  | [d1, d2, d3] => { results := [.lit (.bool true)], args := [d1, d2, d3] }
  | _ => none }
def bindKeepsRow : OpenClaim := { program := "ytopbkdpbljebgaa", sum := "b81c4d7cbf3e8868c1b4f35f5f0853123cd6ee3049cb957b194a2c7ed090460f", func := "annals/annalslaw17.BindKeeps", spec := "bindKeeps", unfollowed := true, recurses := true, loops := true, apart := false }
def BindKeepsSaid : Prop := bindKeepsRow.holds Try.pinned (OpenSpec.ofChange bindKeepsSpec)

/-- ITS FALSE NEIGHBOUR: 'it returns false'. Refute it at one input. -/
def bindKeepsWrong : ChangeSpec := { name := "bindKeeps", fn := fun _ => fun
  | [d1, d2, d3] => { results := [.lit (.bool false)], args := [d1, d2, d3] }
  | _ => none }
def BindKeepsWrongFalsely : Prop := bindKeepsRow.holds Try.pinned (OpenSpec.ofChange bindKeepsWrong)

/-- 'annalslaw17.BindParts': WHATEVER THE INPUT: true; the input reads as it did. -/
def bindPartsSpec : ChangeSpec := { name := "bindParts", fn := fun _ => fun
  | [d1, d2, d3] => { results := [.lit (.bool true)], args := [d1, d2, d3] }
  | _ => none }
def bindPartsRow : OpenClaim := { program := "ytopbkdpbljebgaa", sum := "b81c4d7cbf3e8868c1b4f35f5f0853123cd6ee3049cb957b194a2c7ed090460f", func := "annals/annalslaw17.BindParts", spec := "bindParts", unfollowed := true, recurses := true, loops := true, apart := false }
def BindPartsSaid : Prop := bindPartsRow.holds Try.pinned (OpenSpec.ofChange bindPartsSpec)

/-- ITS FALSE NEIGHBOUR: 'it returns false'. Refute it at one input. -/
def bindPartsWrong : ChangeSpec := { name := "bindParts", fn := fun _ => fun
  | [d1, d2, d3] => { results := [.lit (.bool false)], args := [d1, d2, d3] }
  | _ => none }
def BindPartsWrongFalsely : Prop := bindPartsRow.holds Try.pinned (OpenSpec.ofChange bindPartsWrong)

/- THE SECOND FORM. 'bulk': how many values and letters a reading holds, each counted each time it is reached (what is shared counts as often as it is met; a slice's spare places count too). A statement '..UptoSaid' is the law's where the arguments, and the package variables that the reading takes, are together of bulk at most 1048576: NARROWER than '..Said'. Prove '..Said' where nothing that the law and all that it calls make is longer than what came in: it says more and counts as full. Else prove '..UptoSaid'. A law counts once. -/
mutual
def uptoBulk {H : Type} : DataW H → Nat
  | .lit (.string bytes) => bytes.length + 1
  | .lit _ => 1
  | .nil => 1
  | .ptr d => uptoBulk d + 1
  | .slice elems spare => uptoBulkAll elems + uptoBulkAll spare + 1
  | .agg parts => uptoBulkAll parts + 1
  | .iface _ d => uptoBulk d + 1
  | .map entries => uptoBulkEntries entries + 1
  | .held _ => 1
def uptoBulkAll {H : Type} : List (DataW H) → Nat
  | [] => 0
  | d :: r => uptoBulk d + uptoBulkAll r
def uptoBulkEntries {H : Type} : List (Lit × DataW H) → Nat
  | [] => 0
  | x :: r => uptoBulkEntry x + uptoBulkEntries r
def uptoBulkEntry {H : Type} : Lit × DataW H → Nat
  | (.string bytes, d) => bytes.length + uptoBulk d + 1
  | (_, d) => uptoBulk d + 1
 end
def uptoSmall : (H : Type) → List (DataW H) → Bool := fun _ ds => decide (uptoBulkAll ds ≤ 1048576)
def OpenSpec.upto (s : _root_.Go.ChangeSpec) : _root_.Go.OpenSpec := { _root_.Go.OpenSpec.ofChange s with cond := some uptoSmall }

/-- 'annalslaw17.BindScopes', WHERE WHAT IT READS IS OF BULK AT MOST 1048576: true; the input reads as it did. -/
def bindScopesUptoRow : OpenClaim := { program := "ytopbkdpbljebgaa", sum := "b81c4d7cbf3e8868c1b4f35f5f0853123cd6ee3049cb957b194a2c7ed090460f", func := "annals/annalslaw17.BindScopes", spec := "bindScopes", unfollowed := true, recurses := true, apart := false, narrowed := true }
def BindScopesUptoSaid : Prop := bindScopesUptoRow.holds Try.pinned (OpenSpec.upto bindScopesSpec)

/-- 'annalslaw17.BindTurns', WHERE WHAT IT READS IS OF BULK AT MOST 1048576: true; the input reads as it did. -/
def bindTurnsUptoRow : OpenClaim := { program := "ytopbkdpbljebgaa", sum := "b81c4d7cbf3e8868c1b4f35f5f0853123cd6ee3049cb957b194a2c7ed090460f", func := "annals/annalslaw17.BindTurns", spec := "bindTurns", unfollowed := true, recurses := true, loops := true, apart := false, narrowed := true }
def BindTurnsUptoSaid : Prop := bindTurnsUptoRow.holds Try.pinned (OpenSpec.upto bindTurnsSpec)

/-- 'annalslaw17.BindKeeps', WHERE WHAT IT READS IS OF BULK AT MOST 1048576: true; the input reads as it did. -/
def bindKeepsUptoRow : OpenClaim := { program := "ytopbkdpbljebgaa", sum := "b81c4d7cbf3e8868c1b4f35f5f0853123cd6ee3049cb957b194a2c7ed090460f", func := "annals/annalslaw17.BindKeeps", spec := "bindKeeps", unfollowed := true, recurses := true, loops := true, apart := false, narrowed := true }
def BindKeepsUptoSaid : Prop := bindKeepsUptoRow.holds Try.pinned (OpenSpec.upto bindKeepsSpec)

/-- 'annalslaw17.BindParts', WHERE WHAT IT READS IS OF BULK AT MOST 1048576: true; the input reads as it did. -/
def bindPartsUptoRow : OpenClaim := { program := "ytopbkdpbljebgaa", sum := "b81c4d7cbf3e8868c1b4f35f5f0853123cd6ee3049cb957b194a2c7ed090460f", func := "annals/annalslaw17.BindParts", spec := "bindParts", unfollowed := true, recurses := true, loops := true, apart := false, narrowed := true }
def BindPartsUptoSaid : Prop := bindPartsUptoRow.holds Try.pinned (OpenSpec.upto bindPartsSpec)

end Rows
end Go.Proofs.Ytopbkdpbljebgaa
