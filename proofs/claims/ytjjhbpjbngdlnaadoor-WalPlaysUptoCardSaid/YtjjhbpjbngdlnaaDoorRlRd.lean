/- How WalPlays' script reads; WalPlays for all arguments. -/
import Derived.Test.YtjjhbpjbngdlnaaDoorRlF
set_option linter.unusedSimpArgs false
set_option linter.unusedVariables false
namespace Go.Proofs.YtjjhbpjbngdlnaaDoor
open Go.ChangeShapes Go.WideShapes Go.ChangeAt Go.RowKit

theorem SliceAt.roLL {W : World} {v : Value} {l : List OpL} (h : SliceAt W 6 (OpLR W) v l) : RoLL (baseOf W) v l := by
  obtain ⟨sa, sc, e, h⟩ := h.ro (by omega)
  refine ⟨sa, sc, e, h.imp id ?_⟩
  rintro ⟨b, o, C, e1, e2, h⟩
  refine ⟨b, o, C, e1, e2, fun i hi => ?_⟩
  obtain ⟨cells, h1, dv, kv, fd, fk, rfl, hd, hk⟩ := h i hi
  obtain ⟨da, dc, e, hx⟩ := RoS.ofReads hd
  obtain ⟨ka, kc, e2, hy⟩ := RoS.ofReads hk
  rw [length_bytesV] at e
  rw [show (boolsV l[i].keep).length = l[i].keep.length by simp [boolsV]] at e2
  subst e
  subst e2
  exact ⟨da, dc, ka, kc, h1, ⟨da, dc, by rw [length_bytesV], hx⟩, ka, kc, by simp [boolsV], hy⟩
theorem Rl.plays_any (B : Base) (first count : Int) (sv : Value) (sc : List OpL) (hf : -(2 ^ 63) ≤ first ∧ first < 2 ^ 63) (hcn : -(2 ^ 63) ≤ count ∧ count < 2 ^ 63) (hsv : RoLL B sv sc) (hsl0 : sc.length ≤ 1048576) (hdl : ∀ x ∈ sc, x.data.length ≤ 1048576) :
    Fn Tryd.prog B 8 #[.int .i64 first, .int .i64 count, sv] [] (fun v l => v = .bool true ∧ l = []) := by
  by_cases h : first < 0 ∨ count < 1 ∨ 6 < count ∨ 6 - count < first
  · exact Rl.plays_no B first count sv hf hcn h
  · exact Rl.plays B first.toNat count.toNat first count (by omega) (by omega) (by omega) (by omega) sv sc hsv hsl0 hdl
theorem op_le : ∀ {l : List OpL} {x : OpL}, x ∈ l → x.data.length ≤ (l.map fun o => o.data.length + o.keep.length + 2).sum
  | a :: l, x, h => by
    simp only [List.map_cons, List.sum_cons]
    rcases List.mem_cons.1 h with rfl | h
    · omega
    · have := op_le h; omega
end Go.Proofs.YtjjhbpjbngdlnaaDoor
