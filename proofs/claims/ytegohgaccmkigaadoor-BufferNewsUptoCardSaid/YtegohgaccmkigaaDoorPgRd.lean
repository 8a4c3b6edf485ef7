/- How the page statements' struct Op reads; a world that lays the two tables. -/
import Derived.Test.YtegohgaccmkigaaDoorLaw2
import Derived.Test.YtegohgaccmkigaaDoorPgG
import Derived.Test.YtegohgaccmkigaaDoorCards
import Derived.Test.YtegohgaccmkigaaDoorTie
import Derived.Deep.DeepHandedRow
import Derived.Lib.LaidU8
set_option linter.unusedSimpArgs false
set_option linter.unusedVariables false
namespace Go.Proofs.YtegohgaccmkigaaDoor
open Go.ChangeShapes Go.WideShapes Go.ChangeAt Go.RowKit


section
variable {H : Type} {enc : TypeId × Value → H} {W : World}

theorem read_bytes (n : Nat) (c : Value) (y : DataW H × List MemPlace) (h : Tr enc Tryd.prog W n 41 [c] = some y) : ∃ (l : List UInt8) (fp : List Nat), Reads W c (bytesV l) fp ∧ (∀ x ∈ fp, x < W.heap.size) ∧ l.length + 1 ≤ Rows.uptoBulk y.1 := by
  obtain ⟨v, l, hc, hs, _, hL⟩ := open_slice_R (R := fun cs (a : UInt8) => cs = [.int .u8 a.toNat]) (B := fun _ => 1) Tryd.underlying41 (show Tryd.prog.cellsOf 5 = 1 by kernel_rfl) (by omega) (fun n cs y => read_u8 Tryd.underlying5 n cs y) h
  simp only [List.cons.injEq, and_true] at hc
  subst hc
  obtain ⟨fp, hR, hfp⟩ := hs.reads (fun a : UInt8 => Value.int .u8 a.toNat) (fun cs a h => h)
  exact ⟨l, fp, hR, hfp, hL⟩
theorem five_of_len {α : Type} {l : List α} (h : l.length = 5) : ∃ a b c d e, l = [a, b, c, d, e] := by
  match l, h with
  | [a, b, c, d, e], _ => exact ⟨a, b, c, d, e, rfl⟩

end

/-- A world for the witness: the settled one, the two tables' blocks holding what is laid. -/
noncomputable def laidWorld (os : Os) : World :=
  let w0 := World.holding Tryd.prog os ⟨#[], #[], []⟩
  let put (h : Array Obj) (g : Nat) (cs : Array Value) : Array Obj := h.modify g fun
    | .cells _ t frozen => .cells cs t frozen
    | o => o
  let h1 := put w0.heap 1 (Lib.firstTab.map fun z => Value.int .u8 z).toArray
  let h2 := put h1 2 ((List.range 16).flatMap fun i => [Value.int .u8 (Lib.accLo i), Value.int .u8 (Lib.accHi i)]).toArray
  { w0 with heap := h2 }
theorem laid_met (os : Os) (args : Array Value) : laidMet Tryd.prog [("unicode/utf8.acceptRanges", Rows.laid_unicode_utf8_acceptRanges), ("unicode/utf8.first", Rows.laid_unicode_utf8_first)] ((laidWorld os).forCall (fun _ _ => 0) ⟨#[], args, []⟩).memory :=
  laidMet_of_run' 8 (by kernel_rfl) (by kernel_rfl)
end Go.Proofs.YtegohgaccmkigaaDoor
