/- The statement PageRoom. Conditions: that the script can be read; sizes. -/
import Derived.Test.YtegohgaccmkigaaDoorPgG
set_option linter.unusedSimpArgs false
set_option linter.unusedVariables false
namespace Go.Proofs.YtegohgaccmkigaaDoor
open Go.RowKit

abbrev strV (b : List UInt8) : Value := .string (strOf b)
abbrev strR (q : Option Addr) (n c : Nat) (l : List (List UInt8)) : Assn := row (.slice q n c) 9 1 n (l.map strV)
theorem elemStr : ElemOk Tryd.prog 59 9 1 16 := .mk' (.string ⟨#[]⟩) Tryd.underlying59 (by kernel_rfl) rfl (by omega)
theorem len_used (l : List (List UInt8)) : l.length ≤ usedR l := by
  induction l with
  | nil => simp [usedR]
  | cons a l ih => simp [usedR] at ih ⊢; omega
theorem addR_ok {recs : List (List UInt8)} {b : List UInt8} (h : b.length ≤ 200 ∧ usedR recs + b.length + 1 ≤ 243) : addR recs b = (recs ++ [b], (recs.length : Int), 0) := by
  unfold addR; rw [if_neg (by omega), if_neg (by omega)]
theorem addR_full {recs : List (List UInt8)} {b : List UInt8} (h1 : b.length ≤ 200) (h2 : 243 < usedR recs + b.length + 1) : addR recs b = (recs, 0, 3) := by
  unfold addR; rw [if_neg (by omega), if_pos (by omega)]
theorem addR_no {recs : List (List UInt8)} {b : List UInt8} (h : ¬ (b.length ≤ 200 ∧ usedR recs + b.length + 1 ≤ 243)) : ∃ e : Int, addR recs b = (recs, 0, e) ∧ 2 ≤ e := by
  unfold addR
  by_cases h1 : 200 < b.length
  · exact ⟨2, by rw [if_pos h1], by omega⟩
  · exact ⟨3, by rw [if_neg h1, if_pos (by omega)], by omega⟩

theorem roomy_second {recs : List (List UInt8)} {r : Nat} (hus : usedR recs ≤ 243) (hr : r = min (242 - usedR recs) 200) : ∃ recs2 e2 n2, addR recs (List.replicate r 0) = (recs2, n2, e2) ∧ recs <+: recs2 ∧ (e2 = 0 ∨ (e2 = 3 ∧ r = 0)) := by
  by_cases h : usedR recs ≤ 242
  · exact ⟨_, _, _, addR_ok (by simp; omega), List.prefix_append _ _, .inl rfl⟩
  · exact ⟨_, _, _, addR_full (by simp; omega) (by simp; omega), List.prefix_refl _, .inr ⟨rfl, by omega⟩⟩

end Go.Proofs.YtegohgaccmkigaaDoor
