/- How the page statements' struct Op reads; a world that lays the two tables. -/
import Derived.Test.YtjjhbpjbngdlnaaDoorLaw2
import Derived.Test.YtjjhbpjbngdlnaaDoorPgG
import Derived.Test.YtjjhbpjbngdlnaaDoorCards
import Derived.Test.YtjjhbpjbngdlnaaDoorTie
import Derived.Deep.DeepHandedRow
import Derived.Lib.LaidU8
set_option linter.unusedSimpArgs false
set_option linter.unusedVariables false
namespace Go.Proofs.YtjjhbpjbngdlnaaDoor
open Go.ChangeShapes Go.WideShapes Go.ChangeAt Go.RowKit

def OpPR (W : World) (cs : List Value) (o : OpP) : Prop := ∃ dv fd, cs = [.int .i64 o.kind, .int .i64 o.slot, .int .i64 o.at_, dv, .int .i64 o.mark] ∧ Reads W dv (bytesV o.data) fd

section
variable {H : Type} {enc : TypeId × Value → H} {W : World}

theorem read_bytes (n : Nat) (c : Value) (y : DataW H × List MemPlace) (h : Tr enc Tryd.prog W n 22 [c] = some y) : ∃ (l : List UInt8) (fp : List Nat), Reads W c (bytesV l) fp ∧ (∀ x ∈ fp, x < W.heap.size) ∧ l.length + 1 ≤ Rows.uptoBulk y.1 := by
  obtain ⟨v, l, hc, hs, _, hL⟩ := open_slice_R (R := fun cs (a : UInt8) => cs = [.int .u8 a.toNat]) (B := fun _ => 1) Tryd.underlying22 (show Tryd.prog.cellsOf 5 = 1 by kernel_rfl) (by omega) (fun n cs y => read_u8 Tryd.underlying5 n cs y) h
  simp only [List.cons.injEq, and_true] at hc
  subst hc
  obtain ⟨fp, hR, hfp⟩ := hs.reads (fun a : UInt8 => Value.int .u8 a.toNat) (fun cs a h => h)
  exact ⟨l, fp, hR, hfp, hL⟩
theorem five_of_len {α : Type} {l : List α} (h : l.length = 5) : ∃ a b c d e, l = [a, b, c, d, e] := by
  match l, h with
  | [a, b, c, d, e], _ => exact ⟨a, b, c, d, e, rfl⟩

theorem read_opP (n : Nat) (cs : List Value) (y : DataW H × List MemPlace) (h : Tr enc Tryd.prog W n 45 cs = some y) : ∃ o : OpP, OpPR W cs o ∧ o.data.length + 1 ≤ Rows.uptoBulk y.1 := by
  obtain ⟨xs, m, rfl, rfl, hl, hx, hf⟩ := DataW.trod_struct Tryd.underlying45 h
  rw [show Tryd.prog.cellsOf 45 = 5 by kernel_rfl] at hl
  obtain ⟨c0, c1, c2, c3, c4, rfl⟩ := five_of_len hl
  obtain ⟨x0, x1, x2, x3, x4, rfl⟩ := five_of_len hx
  have k0 : Tryd.prog.cellsOf 3 = 1 := by kernel_rfl
  have k3 : Tryd.prog.cellsOf 22 = 1 := by kernel_rfl
  have k4 : Tryd.prog.cellsOf 2 = 1 := by kernel_rfl
  have f0 := field_of hf 0 3 0 1 rfl k0
  have f1 := field_of hf 1 3 1 1 rfl k0
  have f2 := field_of hf 2 3 2 1 rfl k0
  have f3 := field_of hf 3 22 3 1 rfl k3
  have f4 := field_of hf 4 2 4 1 rfl k4
  simp only [List.drop_zero, List.drop_succ_cons, List.take_succ_cons, List.take_zero, List.getElem?_cons_zero, List.getElem?_cons_succ] at f0 f1 f2 f3 f4
  obtain ⟨i0, e0, _, _⟩ := DataW.trod_int Tryd.underlying3 f0
  obtain ⟨i1, e1, _, _⟩ := DataW.trod_int Tryd.underlying3 f1
  obtain ⟨i2, e2, _, _⟩ := DataW.trod_int Tryd.underlying3 f2
  obtain ⟨ld, fd, hd, hfd, hdl⟩ := read_bytes _ _ _ f3
  obtain ⟨i4, e4, _, _⟩ := DataW.trod_int Tryd.underlying2 f4
  simp only [List.cons.injEq, and_true] at e0 e1 e2 e4
  subst e0; subst e1; subst e2; subst e4
  refine ⟨⟨i0, i1, i2, ld, i4⟩, ⟨c3, fd, rfl, hd⟩, ?_⟩
  simp only [List.map_cons, List.map_nil, Rows.uptoBulk, Rows.uptoBulkAll]
  omega
end

theorem SliceAt.roLP {W : World} {v : Value} {l : List OpP} (h : SliceAt W 5 (OpPR W) v l) : RoLP (baseOf W) v l := by
  obtain ⟨sa, sc, e, h⟩ := h.ro (by omega)
  refine ⟨sa, sc, e, h.imp id ?_⟩
  rintro ⟨b, o, C, e1, e2, h⟩
  refine ⟨b, o, C, e1, e2, fun i hi => ?_⟩
  obtain ⟨cells, h1, dv, fd, rfl, hd⟩ := h i hi
  have rd := RoS.ofReads hd
  obtain ⟨da, dc, e, hx⟩ := rd
  rw [length_bytesV] at e
  subst e
  exact ⟨da, dc, h1, da, dc, by rw [length_bytesV], hx⟩
/-- A world for the witness: the settled one, the two tables' blocks holding what is laid. -/
noncomputable def laidWorld (os : Os) : World :=
  let w0 := World.holding Tryd.prog os ⟨#[], #[], []⟩
  let put (h : Array Obj) (g : Nat) (cs : Array Value) : Array Obj := h.modify g fun
    | .cells _ t frozen => .cells cs t frozen
    | o => o
  let h1 := put w0.heap 1 (Lib.firstTab.map fun z => Value.int .u8 z).toArray
  let h2 := put h1 2 ((List.range 16).flatMap fun i => [Value.int .u8 (Lib.accLo i), Value.int .u8 (Lib.accHi i)]).toArray
  { w0 with heap := h2 }
theorem laid_met (os : Os) (args : Array Value) : laidMet Tryd.prog [("unicode/utf8.acceptRanges", Rows.laid_unicode_utf8_acceptRanges), ("unicode/utf8.first", Rows.laid_unicode_utf8_first)] ((laidWorld os).forCall (fun _ _ => 0) ⟨#[], args, []⟩).memory :=
  laidMet_of_run' 8 (by kernel_rfl) (by kernel_rfl)
end Go.Proofs.YtjjhbpjbngdlnaaDoor
