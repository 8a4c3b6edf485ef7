/- More rules: shifts of bytes, '1 << k', parts of strings, array literals. Conditions: of each rule its own. -/
import Derived.Test.YtjjhbpjbngdlnaaDoorSlH
set_option linter.unusedSimpArgs false
set_option linter.unusedVariables false
namespace Go.Proofs.YtjjhbpjbngdlnaaDoor
open Go.RowKit
section
variable {P : Program} {B : Base} {n : Nat} {S l r : List Assn} {f : Fr} {K : Value → List Assn → Prop} {Φ : Post}
variable {d : Option Tmp} {ty : TypeId} {pos : String} {af : Array Edge} {gd : Option (Nat × Bool)}

theorem Qt.shr8 {t t2 : TypeId} {x y : Operand} {a : Nat} {k : IntKind} {i : Int} (j r : Nat) (hx : ev n f x = some (.int .u8 a)) (hy : ev n f y = some (.int k i)) (hi : i = (j : Int)) (hj : j < 8) (hr : a / 2 ^ j = r) : Qt P B n S ⟨d, .binOp .shr t x y t2, ty, pos, af, gd⟩ f (.int .u8 r) := ⟨fun w _ => by
  subst hr
  subst hi
  have e : (a : Int).fdiv (2 ^ j) = ((a / 2 ^ j : Nat) : Int) := by
    rw [Int.fdiv_eq_ediv_of_nonneg _ (by exact_mod_cast Nat.zero_le _)]
    push_cast; rfl
  have h : (Op.shift .shr .u8 (a : Int) k (j : Int)).run P w = .ok (.int .u8 (a / 2 ^ j : Nat)) w := by
    have : Min.min j 8 = j := by omega
    simp [Op.shift, IntKind.bits, this, e]
  simp [execOp, evu_eq hx, evu_eq hy, eqGuard, Go.binOp, h]⟩
theorem Qt.shl1 {t t2 : TypeId} {x y : Operand} {k : IntKind} {i : Int} (j : Nat) (hx : ev n f x = some (.int .u32 1)) (hy : ev n f y = some (.int k i)) (hi : i = (j : Int)) (hj : j < 32) : Qt P B n S ⟨d, .binOp .shl t x y t2, ty, pos, af, gd⟩ f (.int .u32 (2 ^ j : Nat)) := ⟨fun w _ => by
  subst hi
  have e : IntKind.u32.wrap (1 * 2 ^ j) = ((2 ^ j : Nat) : Int) := by
    have : (2 : Nat) ^ j < 4294967296 := Nat.lt_of_lt_of_eq (Nat.pow_lt_pow_right (by omega) hj) (by decide)
    have e2 : (1 : Int) * 2 ^ j = ((2 ^ j : Nat) : Int) := by rw [Int.one_mul]; push_cast; rfl
    rw [e2]
    exact wru32 (Int.natCast_nonneg _) (Int.ofNat_lt.2 this)
  have h : (Op.shift .shl .u32 1 k (j : Int)).run P w = .ok (.int .u32 (2 ^ j : Nat)) w := by
    rw [← e]
    have : Min.min j 32 = j := by omega
    simp [Op.shift, IntKind.bits, this]
  have h2 : Sem.run P (Op.shift BinOp.shl IntKind.u32 1 k ↑j) w = Result.ok (Value.int IntKind.u32 ↑(2 ^ j)) w := h
  simp only [execOp, evu_eq hx, evu_eq hy]
  simp [eqGuard, Go.binOp, h2]
  try simpa using e⟩
theorem Qt.sliceS {t : TypeId} {x y z : Operand} {a : List UInt8} {k k2 : IntKind} {i i2 : Int} (lo hi : Nat) (r : List UInt8) (ht : isStr P t = true) (hx : ev n f x = some (.string (strOf a))) (hy : ev n f y = some (.int k i)) (hz : ev n f z = some (.int k2 i2)) (h1 : i = (lo : Int)) (h2 : i2 = (hi : Int)) (hl : lo ≤ hi) (hh : hi ≤ a.length) (hr : (a.take hi).drop lo = r) :
    Qt P B n S ⟨d, .slice t x (some y) (some z) none, ty, pos, af, gd⟩ f (.string (strOf r)) := ⟨fun w _ => by
  subst hr
  unfold isStr at ht
  split at ht
  · rename_i hu
    subst h1; subst h2
    have hs := strOf_extract a lo hi
    simp [execOp, Instr.sliceAt, run_underlying hu, evu_eq hx, evu_eq hy, evu_eq hz, Instr.slice, Instr.sliceBounds, Instr.sliceBound, asIntOf, size_strOf, hl, hh, hs]
  · cases ht⟩
/-- An array literal of one-cell elements, all of them told. -/
theorem Qt.buildA {t len e : Nat} {parts : Array (Nat × Operand)} (vs : List Value) (ht : arrB P t len e 1 = true) (hz : (P.info? t).bind (fun i => i.zero.map (·.cells.size)) = some len) (hp : parts.toList.map (fun p => (p.1, ev n f p.2)) = (vs.zipIdx 0).map fun x => (x.2, some x.1)) (h1 : ∀ v ∈ vs, v.cells = #[v]) (hl : vs.length = len) : Qt P B n S ⟨d, .build t parts, ty, pos, af, gd⟩ f (.agg vs.toArray) := ⟨fun w _ => by
  unfold arrB at ht
  simp only [Bool.and_eq_true, decide_eq_true_eq] at ht
  obtain ⟨q1, q2⟩ := ht
  split at q1
  · rename_i m e' hu
    simp at q1
    obtain ⟨rfl, rfl⟩ := q1
    obtain ⟨i', hi, hs⟩ := info_of_size q2
    cases hit : P.info? t with
    | none => rw [hit] at hz; cases hz
    | some it =>
      rw [hit] at hz
      simp only [Option.bind_some] at hz
      cases hzz : it.zero with
      | none => rw [hzz] at hz; cases hz
      | some z =>
        rw [hzz] at hz
        simp only [Option.map_some, Option.some.injEq] at hz
        have hpe : (parts.map fun p => (p.1, evu n f p.2)).toList = (vs.zipIdx 0).map fun x => (x.2, x.1) := by
          rw [Array.toList_map]
          have e := congrArg (List.map (fun p : Nat × Option Value => (p.1, p.2.getD undef))) hp
          simp only [List.map_map, Function.comp_def, Option.getD_some] at e
          exact e
        have hfl := Great.fill_flat vs z.cells h1 (by omega)
        show ((do pure (.value (← Instr.build t (parts.map fun p => (p.1, evu n f p.2)))) : Sem Next)).run P w = _
        simp only [Nat.mul_one] at hfl
        simp [Instr.build, zeroValue, sizeOf, typeInfo, hit, hzz, hi, hs, run_underlying hu, hpe, hfl, -Array.toList_map]
  · cases q1⟩
end
end Go.Proofs.YtjjhbpjbngdlnaaDoor
