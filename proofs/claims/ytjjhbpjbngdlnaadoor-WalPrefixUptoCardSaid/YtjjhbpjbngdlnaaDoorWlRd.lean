/- How the log statements' arguments read: slices of slices of bytes, struct Op. -/
import Derived.Test.YtjjhbpjbngdlnaaDoorPgRd
import Derived.Test.YtjjhbpjbngdlnaaDoorWlM
set_option linter.unusedSimpArgs false
set_option linter.unusedVariables false
namespace Go.Proofs.YtjjhbpjbngdlnaaDoor
open Go.ChangeShapes Go.WideShapes Go.ChangeAt Go.RowKit

def BytesR (W : World) (cs : List Value) (l : List UInt8) : Prop := ∃ dv fd, cs = [dv] ∧ Reads W dv (bytesV l) fd
structure OpL where
  kind : Int
  data : List UInt8
  mark : Int
  keep : List Bool
  t0 : Int
  t1 : Int
def OpLR (W : World) (cs : List Value) (o : OpL) : Prop := ∃ dv kv fd fk, cs = [.int .i64 o.kind, dv, .int .i64 o.mark, kv, .int .i64 o.t0, .int .i64 o.t1] ∧ Reads W dv (bytesV o.data) fd ∧ Reads W kv (boolsV o.keep) fk

section
variable {H : Type} {enc : TypeId × Value → H} {W : World}
theorem read_bytesR (n : Nat) (cs : List Value) (y : DataW H × List MemPlace) (h : Tr enc Tryd.prog W n 22 cs = some y) : ∃ l, BytesR W cs l ∧ l.length + 1 ≤ Rows.uptoBulk y.1 := by
  obtain ⟨v, l, rfl, hs, _, hL⟩ := open_slice_R (R := fun cs (a : UInt8) => cs = [.int .u8 a.toNat]) (B := fun _ => 1) Tryd.underlying22 (show Tryd.prog.cellsOf 5 = 1 by kernel_rfl) (by omega) (fun n cs y => read_u8 Tryd.underlying5 n cs y) h
  obtain ⟨fp, hR, hfp⟩ := hs.reads (fun a : UInt8 => Value.int .u8 a.toNat) (fun cs a h => h)
  exact ⟨l, ⟨v, fp, rfl, hR⟩, hL⟩
theorem read_boolsL (n : Nat) (c : Value) (y : DataW H × List MemPlace) (h : Tr enc Tryd.prog W n 73 [c] = some y) : ∃ (l : List Bool) (fp : List Nat), Reads W c (boolsV l) fp ∧ l.length + 1 ≤ Rows.uptoBulk y.1 := by
  obtain ⟨v, l, hc, hs, _, hL⟩ := open_slice_R (R := fun cs (a : Bool) => cs = [.bool a]) (B := fun _ => 1) Tryd.underlying73 (show Tryd.prog.cellsOf 4 = 1 by kernel_rfl) (by omega) (fun n cs y => read_bool Tryd.underlying4 n cs y) h
  simp only [List.cons.injEq, and_true] at hc
  subst hc
  obtain ⟨fp, hR, hfp⟩ := hs.reads (fun a : Bool => Value.bool a) (fun cs a h => h)
  exact ⟨l, fp, hR, hL⟩
theorem two_of_lenL {α : Type} {l : List α} (h : l.length = 2) : ∃ a b, l = [a, b] := by
  match l, h with
  | [a, b], _ => exact ⟨a, b, rfl⟩
theorem six_of_lenL {α : Type} {l : List α} (h : l.length = 6) : ∃ a b c d e f, l = [a, b, c, d, e, f] := by
  match l, h with
  | [a, b, c, d, e, f], _ => exact ⟨a, b, c, d, e, f, rfl⟩
theorem read_opL (n : Nat) (cs : List Value) (y : DataW H × List MemPlace) (h : Tr enc Tryd.prog W n 76 cs = some y) : ∃ o : OpL, OpLR W cs o ∧ o.data.length + o.keep.length + 2 ≤ Rows.uptoBulk y.1 := by
  obtain ⟨xs, m, rfl, rfl, hl, hx, hf⟩ := DataW.trod_struct Tryd.underlying76 h
  rw [show Tryd.prog.cellsOf 76 = 6 by kernel_rfl] at hl
  obtain ⟨c0, c1, c2, c3, c4, c5, rfl⟩ := six_of_lenL hl
  obtain ⟨x0, x1, x2, x3, x4, rfl⟩ := five_of_len hx
  have k0 : Tryd.prog.cellsOf 3 = 1 := by kernel_rfl
  have k1 : Tryd.prog.cellsOf 22 = 1 := by kernel_rfl
  have k2 : Tryd.prog.cellsOf 2 = 1 := by kernel_rfl
  have k3 : Tryd.prog.cellsOf 73 = 1 := by kernel_rfl
  have k4 : Tryd.prog.cellsOf 74 = 2 := by kernel_rfl
  have f0 := field_of hf 0 3 0 1 rfl k0
  have f1 := field_of hf 1 22 1 1 rfl k1
  have f2 := field_of hf 2 2 2 1 rfl k2
  have f3 := field_of hf 3 73 3 1 rfl k3
  have f4 := field_of hf 4 74 4 2 rfl k4
  simp only [List.drop_zero, List.drop_succ_cons, List.take_succ_cons, List.take_zero, List.getElem?_cons_zero, List.getElem?_cons_succ] at f0 f1 f2 f3 f4
  obtain ⟨i0, e0, _, _⟩ := DataW.trod_int Tryd.underlying3 f0
  obtain ⟨ld, fd, hd, hfd, hdl⟩ := read_bytes _ _ _ f1
  obtain ⟨i2, e2, _, _⟩ := DataW.trod_int Tryd.underlying2 f2
  obtain ⟨lk, fk, hk, hkl⟩ := read_boolsL _ _ _ f3
  obtain ⟨ys, m', e', e4, hl4, hy, hg⟩ := DataW.trod_array Tryd.underlying74 f4
  obtain ⟨y0, y1, rfl⟩ := two_of_lenL hy
  have g0 := hg 0 (by omega)
  have g1 := hg 1 (by omega)
  simp only [k0, Nat.zero_mul, Nat.one_mul, Nat.mul_one, List.drop_zero, List.drop_succ_cons, List.take_succ_cons, List.take_zero, List.getElem?_cons_zero, List.getElem?_cons_succ] at g0 g1
  obtain ⟨j0, q0, _, _⟩ := DataW.trod_int Tryd.underlying3 g0
  obtain ⟨j1, q1, _, _⟩ := DataW.trod_int Tryd.underlying3 g1
  simp only [List.cons.injEq, and_true] at e0 e2 q0 q1
  subst e0; subst e2; subst q0; subst q1
  refine ⟨⟨i0, ld, i2, lk, j0, j1⟩, ⟨c1, c3, fd, fk, rfl, hd, hk⟩, ?_⟩
  simp only [List.map_cons, List.map_nil, Rows.uptoBulk, Rows.uptoBulkAll]
  omega
end

theorem SliceAt.roLB {W : World} {v : Value} {l : List (List UInt8)} (h : SliceAt W 1 (BytesR W) v l) : RoLB (baseOf W) v l := by
  have hc : ∀ sa sc, v = .slice sa l.length sc → l.length ≤ sc := fun sa sc e => by
    rcases h with ⟨rfl, rfl⟩ | ⟨a, cap, rfl, hl, _⟩
    · simp
    · injection e with _ _ e; omega
  obtain ⟨sa, sc, e, h⟩ := h.ro (by omega)
  refine ⟨sa, sc, e, hc _ _ e, h.imp id ?_⟩
  rintro ⟨b, o, C, e1, e2, h⟩
  refine ⟨b, o, C, e1, e2, fun i hi => ?_⟩
  obtain ⟨cells, h1, dv, fd, rfl, hd⟩ := h i hi
  obtain ⟨da, dc, e, hx⟩ := RoS.ofReads hd
  rw [length_bytesV] at e
  subst e
  exact ⟨da, dc, h1, da, dc, by rw [length_bytesV], hx⟩
theorem flat_le_sum : ∀ l : List (List UInt8), l.flatten.length ≤ (l.map fun d => d.length + 1).sum
  | [] => Nat.le_refl _
  | a :: l => by have := flat_le_sum l; simp only [List.flatten_cons, List.length_append, List.map_cons, List.sum_cons]; omega
end Go.Proofs.YtjjhbpjbngdlnaaDoor
