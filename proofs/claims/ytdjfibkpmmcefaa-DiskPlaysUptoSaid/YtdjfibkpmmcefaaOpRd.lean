/- How the disk statements' struct Op reads. -/
import Derived.Test.YtdjfibkpmmcefaaLaw
import Derived.Test.YtdjfibkpmmcefaaDiskF
namespace Go.Proofs.Ytdjfibkpmmcefaa
open Go.ChangeShapes Go.WideShapes Go.ChangeAt Go.RowKit

structure OpD where
  kind : Int
  at_ : Int
  data : List UInt8
  keep : List Bool
  t0 : Int
  t1 : Int

def OpR (W : World) (cs : List Value) (o : OpD) : Prop := ∃ dv kv fd fk, cs = [.int .i64 o.kind, .int .i64 o.at_, dv, kv, .int .i64 o.t0, .int .i64 o.t1] ∧ Reads W dv (bytesV o.data) fd ∧ Reads W kv (boolsV o.keep) fk ∧ (∀ x ∈ fd, x < W.heap.size) ∧ (∀ x ∈ fk, x < W.heap.size)

section
variable {H : Type} {enc : TypeId × Value → H} {W : World}

theorem read_bytes (n : Nat) (c : Value) (y : DataW H × List MemPlace) (h : Tr enc Try.prog W n 23 [c] = some y) : ∃ (l : List UInt8) (fp : List Nat), Reads W c (bytesV l) fp ∧ (∀ x ∈ fp, x < W.heap.size) ∧ l.length + 1 ≤ Rows.uptoBulk y.1 := by
  obtain ⟨v, l, hc, hs, _, hL⟩ := open_slice_R (R := fun cs (a : UInt8) => cs = [.int .u8 a.toNat]) (B := fun _ => 1) Try.underlying23 (show Try.prog.cellsOf 5 = 1 by kernel_rfl) (by omega) (fun n cs y => read_u8 Try.underlying5 n cs y) h
  simp only [List.cons.injEq, and_true] at hc
  subst hc
  obtain ⟨fp, hR, hfp⟩ := hs.reads (fun a : UInt8 => Value.int .u8 a.toNat) (fun cs a h => h)
  exact ⟨l, fp, hR, hfp, hL⟩
theorem read_bools (n : Nat) (c : Value) (y : DataW H × List MemPlace) (h : Tr enc Try.prog W n 44 [c] = some y) : ∃ (l : List Bool) (fp : List Nat), Reads W c (boolsV l) fp ∧ (∀ x ∈ fp, x < W.heap.size) ∧ l.length + 1 ≤ Rows.uptoBulk y.1 := by
  obtain ⟨v, l, hc, hs, _, hL⟩ := open_slice_R (R := fun cs (a : Bool) => cs = [.bool a]) (B := fun _ => 1) Try.underlying44 (show Try.prog.cellsOf 4 = 1 by kernel_rfl) (by omega) (fun n cs y => read_bool Try.underlying4 n cs y) h
  simp only [List.cons.injEq, and_true] at hc
  subst hc
  obtain ⟨fp, hR, hfp⟩ := hs.reads (fun a : Bool => Value.bool a) (fun cs a h => h)
  exact ⟨l, fp, hR, hfp, hL⟩

theorem two_of_len {α : Type} {l : List α} (h : l.length = 2) : ∃ a b, l = [a, b] := by
  match l, h with
  | [a, b], _ => exact ⟨a, b, rfl⟩
theorem five_of_len {α : Type} {l : List α} (h : l.length = 5) : ∃ a b c d e, l = [a, b, c, d, e] := by
  match l, h with
  | [a, b, c, d, e], _ => exact ⟨a, b, c, d, e, rfl⟩
theorem six_of_len {α : Type} {l : List α} (h : l.length = 6) : ∃ a b c d e f, l = [a, b, c, d, e, f] := by
  match l, h with
  | [a, b, c, d, e, f], _ => exact ⟨a, b, c, d, e, f, rfl⟩

theorem read_op (n : Nat) (cs : List Value) (y : DataW H × List MemPlace) (h : Tr enc Try.prog W n 47 cs = some y) : ∃ o : OpD, OpR W cs o ∧ o.data.length + o.keep.length + 2 ≤ Rows.uptoBulk y.1 := by
  obtain ⟨xs, m, rfl, rfl, hl, hx, hf⟩ := DataW.trod_struct Try.underlying47 h
  rw [show Try.prog.cellsOf 47 = 6 by kernel_rfl] at hl
  obtain ⟨c0, c1, c2, c3, c4, c5, rfl⟩ := six_of_len hl
  obtain ⟨x0, x1, x2, x3, x4, rfl⟩ := five_of_len hx
  have k0 : Try.prog.cellsOf 3 = 1 := by kernel_rfl
  have k2 : Try.prog.cellsOf 23 = 1 := by kernel_rfl
  have k3 : Try.prog.cellsOf 44 = 1 := by kernel_rfl
  have k4 : Try.prog.cellsOf 45 = 2 := by kernel_rfl
  have f0 := field_of hf 0 3 0 1 rfl k0
  have f1 := field_of hf 1 3 1 1 rfl k0
  have f2 := field_of hf 2 23 2 1 rfl k2
  have f3 := field_of hf 3 44 3 1 rfl k3
  have f4 := field_of hf 4 45 4 2 rfl k4
  simp only [List.drop_zero, List.drop_succ_cons, List.take_succ_cons, List.take_zero, List.getElem?_cons_zero, List.getElem?_cons_succ] at f0 f1 f2 f3 f4
  obtain ⟨i0, e0, _, _⟩ := DataW.trod_int Try.underlying3 f0
  obtain ⟨i1, e1, _, _⟩ := DataW.trod_int Try.underlying3 f1
  obtain ⟨ld, fd, hd, hfd, hdl⟩ := read_bytes _ _ _ f2
  obtain ⟨lk, fk, hk, hfk, hkl⟩ := read_bools _ _ _ f3
  obtain ⟨ys, m', e', e4, hl4, hy, hg⟩ := DataW.trod_array Try.underlying45 f4
  obtain ⟨y0, y1, rfl⟩ := two_of_len hy
  have g0 := hg 0 (by omega)
  have g1 := hg 1 (by omega)
  simp only [k0, Nat.zero_mul, Nat.one_mul, Nat.mul_one, List.drop_zero, List.drop_succ_cons, List.take_succ_cons, List.take_zero, List.getElem?_cons_zero, List.getElem?_cons_succ] at g0 g1
  obtain ⟨j0, q0, _, _⟩ := DataW.trod_int Try.underlying3 g0
  obtain ⟨j1, q1, _, _⟩ := DataW.trod_int Try.underlying3 g1
  simp only [List.cons.injEq, and_true] at e0 e1 q0 q1
  subst e0; subst e1; subst q0; subst q1
  refine ⟨⟨i0, i1, ld, lk, j0, j1⟩, ⟨c2, c3, fd, fk, rfl, hd, hk, hfd, hfk⟩, ?_⟩
  simp only [List.map_cons, List.map_nil, Rows.uptoBulk, Rows.uptoBulkAll]
  omega
end
end Go.Proofs.Ytdjfibkpmmcefaa
