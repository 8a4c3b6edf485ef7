/- The statement PageKeeps. Conditions: that what is handed in can be read; sizes. -/
import Derived.Test.YtegohgaccmkigaaDoorPgH
set_option linter.unusedSimpArgs false
set_option linter.unusedVariables false
namespace Go.Proofs.YtegohgaccmkigaaDoor
open Go.RowKit

theorem Fn.sub {P : Program} {B : Base} {g : FuncId} {args : Array Value} {pre : List Assn} {R R' : Value → List Assn → Prop} (h : Fn P B g args pre R) (hr : ∀ v l, R v l → ∃ l', Sub l l' ∧ R' v l') : Fn P B g args pre R' := ⟨fun w F ho => by
  refine (h.run w F ho).mono ?_
  rintro _ w' ⟨v, l, rfl, hR, ho'⟩
  obtain ⟨l', hs, hR'⟩ := hr v l hR
  exact ⟨v, l', rfl, hR', ho'.map fun k H => by
    obtain ⟨h1, h2, d, a, b, e1, e2⟩ := Has.split H
    exact Has.join d a b (hs _ e1) e2⟩⟩
theorem Pg.open_any {P : Program} {B : Base} {f : FuncId} {args : Array Value} {S : List Assn} {b : List UInt8} (H : Fn P B f args S (OpenPost S b)) : Fn P B f args S (fun _ l => l = S) := H.sub fun v l hp => by
  unfold OpenPost at hp
  split at hp
  · exact ⟨S, fun _ h => hp.2 ▸ h, rfl⟩
  · obtain ⟨g, _, rfl⟩ := hp
    exact ⟨S, fun _ h => h.tail, rfl⟩
theorem bytes_set (l : List UInt8) (j : Nat) (x : UInt8) : (bytesV l).set (0 + j * 1) (.int .u8 x.toNat) = bytesV (l.set j x) := by
  simp [bytesV, List.map_set]
theorem bytes_get {l : List UInt8} {j : Nat} {x : UInt8} (h : l[j]? = some x) : (bytesV l)[0 + j * 1]? = some (.int .u8 x.toNat) := by simp [bytesV, h]
theorem wr8_inc (x : UInt8) : IntKind.u8.wrap ((x.toNat : Int) + 1) = ((x + 1).toNat : Int) := by simp [IntKind.wrap, IntKind.bits, IntKind.signed]

end Go.Proofs.YtegohgaccmkigaaDoor
