/- The texts BdA BdB, one behind the other: what the law leans on. Conditions: as each theorem says. -/
import Derived.Test.YtopbkdpbljebgaaZBindTurns2
/- The package bind: sums, products, comparisons of values. Conditions: none. -/
set_option linter.unusedSimpArgs false
set_option linter.unusedVariables false
namespace Go.Proofs.Ytopbkdpbljebgaa
open Go.RowKit

section
variable {P : Program} {B : Base} {n : Nat} {S l : List Assn} {f : Fr}
variable {d : Option Tmp} {ty : TypeId} {pos : String} {af : Array Edge} {gd : Option (Nat × Bool)}
theorem Qt.lssS {t t2 : TypeId} {x y : Operand} {a b : List UInt8} (hx : ev n f x = some (.string (strOf a))) (hy : ev n f y = some (.string (strOf b))) : Qt P B n S ⟨d, .binOp .lss t x y t2, ty, pos, af, gd⟩ f (.bool (Op.bytesLess a b)) := ⟨fun w _ => by
  simp [execOp, evu_eq hx, evu_eq hy, eqGuard, Go.binOp, Op.stringOp, strOf_toList]⟩
theorem Qt.gtrS {t t2 : TypeId} {x y : Operand} {a b : List UInt8} (hx : ev n f x = some (.string (strOf a))) (hy : ev n f y = some (.string (strOf b))) : Qt P B n S ⟨d, .binOp .gtr t x y t2, ty, pos, af, gd⟩ f (.bool (!(Op.bytesLess a b || (a == b)))) := ⟨fun w _ => by
  simp [execOp, evu_eq hx, evu_eq hy, eqGuard, Go.binOp, Op.stringOp, strOf_toList]⟩
/-- The lowest 32 bits. -/
theorem Qt.low32 {t t2 : TypeId} {x y : Operand} (a : Nat) {a' b' : Int} (ha : a < 18446744073709551616) (hx : ev n f x = some (.int .u64 a')) (ha' : a' = (a : Int)) (hy : ev n f y = some (.int .u64 b')) (hb : b' = 4294967295) : Qt P B n S ⟨d, .binOp .and t x y t2, ty, pos, af, gd⟩ f (.int .u64 (a % 4294967296 : Nat)) := ⟨fun w _ => by
  subst hb; subst ha'
  have h : (Op.intBits .and .u64 (a : Int) 4294967295).run P w = .ok (.int .u64 (a % 4294967296 : Nat)) w := by
    show Sem.run P (pure (Value.int .u64 (IntKind.u64.wrap ((BitVec.ofInt 64 (a : Int) &&& BitVec.ofInt 64 ((4294967295 : Nat) : Int)).toNat : Int)))) w = _
    rw [ofInt_nat, ofInt_nat, BitVec.toNat_and, BitVec.toNat_ofNat, BitVec.toNat_ofNat]
    have e1 : a % 2 ^ 64 = a := Nat.mod_eq_of_lt ha
    have e2 : 4294967295 % 2 ^ 64 = 2 ^ 32 - 1 := by decide
    rw [e1, e2, Nat.and_two_pow_sub_one_eq_mod, wru64 (by omega) (by omega)]
    rfl
  generalize (a % 4294967296 : Nat) = r at h ⊢
  simp only [execOp, evu_eq hx, evu_eq hy, eqGuard, Go.binOp]
  have h2 : Sem.run P (Op.intBits .and .u64 (a : Int) 4294967295) w = Result.ok (Value.int .u64 (r : Int)) w := h
  generalize (4294967295 : Int) = q at h2 ⊢
  simp [h2]⟩
theorem Qt.high32 {t t2 : TypeId} {x y : Operand} (a : Nat) {k : IntKind} {a' : Int} (ha : a < 18446744073709551616) (hx : ev n f x = some (.int .u64 a')) (ha' : a' = (a : Int)) (hy : ev n f y = some (.int k 32)) : Qt P B n S ⟨d, .binOp .shr t x y t2, ty, pos, af, gd⟩ f (.int .u64 (a / 4294967296 : Nat)) := by
  subst ha'
  have e : (UInt64.ofNat a).toNat = a := by rw [UInt64.toNat_ofNat']; exact Nat.mod_eq_of_lt ha
  have h := Qt.shr64 (P := P) (B := B) (S := S) (d := d) (t := t) (t2 := t2) (ty := ty) (pos := pos) (af := af) (gd := gd) (a := UInt64.ofNat a) 32 (by rw [e]; exact hx) hy rfl (by omega)
  rw [e] at h
  exact h
theorem Qt.sign64 {t t2 : TypeId} {x y : Operand} {a : Int} {k : IntKind} (hx : ev n f x = some (.int .i64 a)) (hy : ev n f y = some (.int k 63)) : Qt P B n S ⟨d, .binOp .shr t x y t2, ty, pos, af, gd⟩ f (.int .i64 (a / 9223372036854775808)) := ⟨fun w _ => by
  have e : a.fdiv 9223372036854775808 = a / 9223372036854775808 := Int.fdiv_eq_ediv_of_nonneg _ (by decide)
  have h : (Op.shift .shr .i64 a k 63).run P w = .ok (.int .i64 (a / 9223372036854775808)) w := by
    simp only [Op.shift]
    simp [IntKind.bits, e]
  simp [execOp, evu_eq hx, evu_eq hy, eqGuard, Go.binOp, h]⟩
end

section
variable {P : Program} {B : Base} {n : Nat} {S l : List Assn} {f : Fr}
variable {d : Option Tmp} {ty : TypeId} {pos : String} {af : Array Edge} {gd : Option (Nat × Bool)}
def fieldOne (P : Program) (s i off : Nat) : Bool := match P.underlying s with
  | some (.struct fs) => match fs[i]? with
    | some f => f.offset == off && oneB P f.type
    | none => false
  | _ => false
/-- A field of one cell of a record at hand. -/
theorem Qt.field {s i : Nat} (off : Nat) {x : Operand} {vs : List Value} {v : Value} (hf : fieldOne P s i off = true) (hx : ev n f x = some (.agg vs.toArray)) (hv : vs[off]? = some v) : Qt P B n S ⟨d, .field s x i, ty, pos, af, gd⟩ f v := ⟨fun w _ => by
  unfold fieldOne at hf
  split at hf
  · rename_i fs hu
    split at hf
    · rename_i fl hfl
      simp only [Bool.and_eq_true, beq_iff_eq] at hf
      obtain ⟨h1, h2⟩ := hf
      subst h1
      unfold oneB at h2
      split at h2
      · cases h2
      · cases h2
      · rename_i dd n1 n2 hut
        have hagg : (isAgg fl.type).run P w = .ok false w := by
          unfold isAgg
          simp only [Sem.run_bind, run_underlying hut, Result.andThen_ok]
          cases dd <;> first | exact (n1 _ rfl).elim | exact (n2 _ _ rfl).elim | rfl
        have hv' : vs.toArray[fl.offset]? = some v := by simpa using hv
        simp [execOp, Instr.field, evu_eq hx, run_underlying hu, hfl, asAgg, part, hagg, hv']
        try simp [hv]
      · cases h2
    · cases hf
  · cases hf⟩
end
abbrev w64 (x : Int) : Int := IntKind.i64.wrap x
abbrev wu (x : Int) : Int := IntKind.u64.wrap x
def truthV (p : Bool) : Va := ⟨3, if p then 1 else 0, []⟩
def cmpI (a b : Int) : Int := if a < b then -1 else if b < a then 1 else 0
def cmpS (a b : Str) : Int := if Op.bytesLess a b = true then -1 else if a = b then 0 else 1
def orI (a b : Int) : Int := if a ≠ 0 then a else b
def mulHi (a b : Int) : Int :=
  let hi := wu a * wu b / 18446744073709551616
  let hi1 := if a < 0 then wu (hi - wu b) else hi
  if b < 0 then wu (hi1 - wu a) else hi1
/-- Sum, difference or product, and whether it fits, as the code reckons it. -/
def arithP (op : Str) (a b : Int) : Int × Bool :=
  if op = [43] then (w64 (a + b), (decide (a < w64 (a + b)) == decide (0 < b)) || decide (b = 0))
  else if op = [45] then (w64 (a - b), (decide (w64 (a - b) < a) == decide (0 < b)) || decide (b = 0))
  else
    let n := w64 (wu a * wu b % 18446744073709551616)
    (n, decide (mulHi a b = wu (n / 9223372036854775808)))

theorem Bd.truth (B : Base) (p : Bool) : Fn Try.prog B 31 #[.bool p] [] (fun u l => u = vA (truthV p) ∧ l = []) := by
 refine Fn.enter1 6 Try.func31 rfl rfl (Nat.le_of_ble_eq_true rfl) (fun F => ?_)
 try simp only [List.cons_append, List.nil_append]
 refine T.seq ?_
 refine T.region ?_
 refine LW.e rfl (Ef.alloc [.int .i64 0, .int .i64 0, .string .empty] (by unfold zeroB; kernel_rfl) ?_)
 intro g2
 refine LW.done ?_
 refine T.seq ?_
 refine T.seq ?_
 refine T.region ?_
 refine LW.q rfl (Qt.move rfl) ?_
 refine LW.done ?_
 refine T.cond rfl (fun h => ?_) (fun h => ?_)
 ·
  refine T.seq ?_
  refine T.region ?_
  refine LW.q rfl (Qt.build [(0, 1), (1, 1), (2, 1)] [.int .i64 0, .int .i64 0, .string .empty] [_, _, _] [(0, _), (1, _)] (by kernel_rfl) (by unfold zeroB; kernel_rfl) rfl rfl) ?_
  refine LW.e0 rfl (Ef.store [_, _, _] (by kernel_rfl) rfl rfl rfl rfl (by simp) ?_)
  try simp only [splice, List.length_cons, List.length_nil, List.drop_succ_cons, List.cons_append, List.take_succ_cons, List.take_zero, List.drop_zero, List.nil_append, List.append_nil]
  refine LW.done ?_
  refine T.ret ?_
  exact ⟨.inl rfl, _, _, res [_] rfl ⟨rvA [_, _, _] (by kernel_rfl) rfl ⟨rfl, rfl, rfl, trivial⟩, trivial⟩, ⟨by rw [h]; rfl, rfl⟩, Sub.any⟩
 ·
  refine T.skip ?_
  refine T.seq ?_
  refine T.region ?_
  refine LW.q rfl (Qt.build [(0, 1), (1, 1), (2, 1)] [.int .i64 0, .int .i64 0, .string .empty] [_, _, _] [(0, _)] (by kernel_rfl) (by unfold zeroB; kernel_rfl) rfl rfl) ?_
  refine LW.e0 rfl (Ef.store [_, _, _] (by kernel_rfl) rfl rfl rfl rfl (by simp) ?_)
  try simp only [splice, List.length_cons, List.length_nil, List.drop_succ_cons, List.cons_append, List.take_succ_cons, List.take_zero, List.drop_zero, List.nil_append, List.append_nil]
  refine LW.done ?_
  refine T.ret ?_
  exact ⟨.inl rfl, _, _, res [_] rfl ⟨rvA [_, _, _] (by kernel_rfl) rfl ⟨rfl, rfl, rfl, trivial⟩, trivial⟩, ⟨by rw [h]; rfl, rfl⟩, Sub.any⟩
theorem Bd.number (B : Base) (a : Int) : Fn Try.prog B 39 #[iV a] [] (fun u l => u = vA ⟨1, a, []⟩ ∧ l = []) := by
  refine Fn.enter1 5 Try.func39 rfl rfl (Nat.le_of_ble_eq_true rfl) (fun F => ?_)
  try simp only [List.cons_append, List.nil_append]
  refine T.seq ?_
  refine T.region ?_
  refine LW.e rfl (Ef.alloc [.int .i64 0, .int .i64 0, .string .empty] (by unfold zeroB; kernel_rfl) ?_)
  intro g2
  refine LW.done ?_
  refine T.seq ?_
  refine T.region ?_
  refine LW.q rfl (Qt.move rfl) ?_
  refine LW.q rfl (Qt.build [(0, 1), (1, 1), (2, 1)] [.int .i64 0, .int .i64 0, .string .empty] [_, _, _] [(0, _), (1, _)] (by kernel_rfl) (by unfold zeroB; kernel_rfl) rfl rfl) ?_
  refine LW.e0 rfl (Ef.store [_, _, _] (by kernel_rfl) rfl rfl rfl rfl (by simp) ?_)
  try simp only [splice, List.length_cons, List.length_nil, List.drop_succ_cons, List.cons_append, List.take_succ_cons, List.take_zero, List.drop_zero, List.nil_append, List.append_nil]
  refine LW.done ?_
  refine T.ret ?_
  exact ⟨.inl rfl, _, _, res [_] rfl ⟨rvA [_, _, _] (by kernel_rfl) rfl ⟨rfl, rfl, rfl, trivial⟩, trivial⟩, ⟨rfl, rfl⟩, Sub.any⟩
theorem Bd.nanI (B : Base) (a : Int) : Fn Try.prog B 44 #[iV a] [] (fun u l => u = .bool false ∧ l = []) := by
  refine Fn.enter1 6 Try.func44 rfl rfl (Nat.le_of_ble_eq_true rfl) (fun F => ?_)
  try simp only [List.cons_append, List.nil_append]
  refine T.seq ?_
  refine T.region ?_
  refine LW.q rfl (Qt.assign rfl) ?_
  refine LW.done ?_
  refine T.seq ?_
  refine T.region ?_
  refine LW.q rfl (Qt.move rfl) ?_
  refine LW.q rfl (Qt.move rfl) ?_
  refine LW.q rfl (Qt.neq rfl rfl) ?_
  refine LW.q rfl (Qt.assign rfl) ?_
  refine LW.done ?_
  refine T.ret ?_
  exact ⟨.inl rfl, _, _, res [_] rfl ⟨rvT rfl, trivial⟩, ⟨by simp [outV], rfl⟩, Sub.any⟩
theorem Bd.nanS (B : Base) (a : Str) : Fn Try.prog B 45 #[tV a] [] (fun u l => u = .bool false ∧ l = []) := by
  refine Fn.enter1 6 Try.func45 rfl rfl (Nat.le_of_ble_eq_true rfl) (fun F => ?_)
  try simp only [List.cons_append, List.nil_append]
  refine T.seq ?_
  refine T.region ?_
  refine LW.q rfl (Qt.assign rfl) ?_
  refine LW.done ?_
  refine T.seq ?_
  refine T.region ?_
  refine LW.q rfl (Qt.move rfl) ?_
  refine LW.q rfl (Qt.move rfl) ?_
  refine LW.q rfl (Qt.neqS rfl rfl) ?_
  refine LW.q rfl (Qt.assign rfl) ?_
  refine LW.done ?_
  refine T.ret ?_
  exact ⟨.inl rfl, _, _, res [_] rfl ⟨rvT rfl, trivial⟩, ⟨by simp [outV], rfl⟩, Sub.any⟩
theorem Bd.compareI (B : Base) (a b : Int) : Fn Try.prog B 41 #[iV a, iV b] [] (fun u l => u = iV (cmpI a b) ∧ l = []) := by
 refine Fn.enter2 20 Try.func41 rfl rfl (Nat.le_of_ble_eq_true rfl) (fun F => ?_)
 try simp only [List.cons_append, List.nil_append]
 refine T.seq ?_
 refine T.region ?_
 refine LW.q rfl (Qt.assign rfl) ?_
 refine LW.done ?_
 refine T.seq ?_
 refine T.region ?_
 refine LW.q rfl (Qt.move rfl) ?_
 refine LW.e rfl (Ef.call (Bd.nanI B a) Try.func44 rfl rfl rfl ?_)
 rintro _ _ ⟨rfl, rfl⟩
 try simp only [List.cons_append, List.nil_append]
 refine LW.q rfl (Qt.assign rfl) ?_
 refine LW.done ?_
 refine T.seq ?_
 refine T.region ?_
 refine LW.q rfl (Qt.move rfl) ?_
 refine LW.e rfl (Ef.call (Bd.nanI B b) Try.func44 rfl rfl rfl ?_)
 rintro _ _ ⟨rfl, rfl⟩
 try simp only [List.cons_append, List.nil_append]
 refine LW.q rfl (Qt.assign rfl) ?_
 refine LW.done ?_
 refine T.seq ?_
 refine T.seq ?_
 refine T.region ?_
 refine LW.q rfl (Qt.move rfl) ?_
 refine LW.done ?_
 first | refine T.condF rfl ?_ | refine T.condPF rfl (rfl) ?_ | refine T.condBF rfl (rfl) ?_
 refine T.skip ?_
 refine T.seq ?_
 refine T.seq ?_
 refine T.region ?_
 refine LW.q rfl (Qt.move rfl) ?_
 refine LW.done ?_
 first | refine T.condF rfl ?_ | refine T.condPF rfl (rfl) ?_ | refine T.condBF rfl (rfl) ?_
 refine T.skip ?_
 refine T.seq ?_
 refine T.seq ?_
 refine T.region ?_
 refine LW.q rfl (Qt.move rfl) ?_
 refine LW.q rfl (Qt.move rfl) ?_
 refine LW.q rfl (Qt.lss rfl rfl) ?_
 refine LW.done ?_
 refine T.condP rfl (fun h1 => ?_) (fun h1 => ?_)
 ·
  refine T.seq ?_
  refine T.region ?_
  refine LW.q rfl (Qt.assign rfl) ?_
  refine LW.done ?_
  refine T.ret ?_
  exact ⟨.inl rfl, _, _, res [_] rfl ⟨rvT rfl, trivial⟩, ⟨by unfold cmpI; rw [if_pos h1]; rfl, rfl⟩, Sub.any⟩
 ·
  refine T.skip ?_
  refine T.seq ?_
  refine T.seq ?_
  refine T.region ?_
  refine LW.q rfl (Qt.move rfl) ?_
  refine LW.q rfl (Qt.move rfl) ?_
  refine LW.q rfl (Qt.gtr rfl rfl) ?_
  refine LW.done ?_
  refine T.condP rfl (fun h2 => ?_) (fun h2 => ?_)
  ·
   refine T.seq ?_
   refine T.region ?_
   refine LW.q rfl (Qt.assign rfl) ?_
   refine LW.done ?_
   refine T.ret ?_
   exact ⟨.inl rfl, _, _, res [_] rfl ⟨rvT rfl, trivial⟩, ⟨by unfold cmpI; rw [if_neg h1, if_pos h2]; rfl, rfl⟩, Sub.any⟩
  ·
   refine T.skip ?_
   refine T.seq ?_
   refine T.region ?_
   refine LW.q rfl (Qt.assign rfl) ?_
   refine LW.done ?_
   refine T.ret ?_
   exact ⟨.inl rfl, _, _, res [_] rfl ⟨rvT rfl, trivial⟩, ⟨by unfold cmpI; rw [if_neg h1, if_neg h2]; rfl, rfl⟩, Sub.any⟩
theorem Bd.compareS (B : Base) (a b : Str) : Fn Try.prog B 42 #[tV a, tV b] [] (fun u l => u = iV (cmpS a b) ∧ l = []) := by
 refine Fn.enter2 20 Try.func42 rfl rfl (Nat.le_of_ble_eq_true rfl) (fun F => ?_)
 try simp only [List.cons_append, List.nil_append]
 refine T.seq ?_
 refine T.region ?_
 refine LW.q rfl (Qt.assign rfl) ?_
 refine LW.done ?_
 refine T.seq ?_
 refine T.region ?_
 refine LW.q rfl (Qt.move rfl) ?_
 refine LW.e rfl (Ef.call (Bd.nanS B a) Try.func45 rfl rfl rfl ?_)
 rintro _ _ ⟨rfl, rfl⟩
 try simp only [List.cons_append, List.nil_append]
 refine LW.q rfl (Qt.assign rfl) ?_
 refine LW.done ?_
 refine T.seq ?_
 refine T.region ?_
 refine LW.q rfl (Qt.move rfl) ?_
 refine LW.e rfl (Ef.call (Bd.nanS B b) Try.func45 rfl rfl rfl ?_)
 rintro _ _ ⟨rfl, rfl⟩
 try simp only [List.cons_append, List.nil_append]
 refine LW.q rfl (Qt.assign rfl) ?_
 refine LW.done ?_
 refine T.seq ?_
 refine T.seq ?_
 refine T.region ?_
 refine LW.q rfl (Qt.move rfl) ?_
 refine LW.done ?_
 first | refine T.condF rfl ?_ | refine T.condPF rfl (rfl) ?_ | refine T.condBF rfl (rfl) ?_
 refine T.skip ?_
 refine T.seq ?_
 refine T.seq ?_
 refine T.region ?_
 refine LW.q rfl (Qt.move rfl) ?_
 refine LW.done ?_
 first | refine T.condF rfl ?_ | refine T.condPF rfl (rfl) ?_ | refine T.condBF rfl (rfl) ?_
 refine T.skip ?_
 refine T.seq ?_
 refine T.seq ?_
 refine T.region ?_
 refine LW.q rfl (Qt.move rfl) ?_
 refine LW.q rfl (Qt.move rfl) ?_
 refine LW.q rfl (Qt.lssS rfl rfl) ?_
 refine LW.done ?_
 refine T.cond rfl (fun h1 => ?_) (fun h1 => ?_)
 ·
  refine T.seq ?_
  refine T.region ?_
  refine LW.q rfl (Qt.assign rfl) ?_
  refine LW.done ?_
  refine T.ret ?_
  exact ⟨.inl rfl, _, _, res [_] rfl ⟨rvT rfl, trivial⟩, ⟨by unfold cmpS; rw [if_pos h1]; rfl, rfl⟩, Sub.any⟩
 ·
  refine T.skip ?_
  refine T.seq ?_
  refine T.seq ?_
  refine T.region ?_
  refine LW.q rfl (Qt.move rfl) ?_
  refine LW.q rfl (Qt.move rfl) ?_
  refine LW.q rfl (Qt.gtrS rfl rfl) ?_
  refine LW.done ?_
  refine T.cond rfl (fun h2 => ?_) (fun h2 => ?_)
  ·
   refine T.seq ?_
   refine T.region ?_
   refine LW.q rfl (Qt.assign rfl) ?_
   refine LW.done ?_
   refine T.ret ?_
   exact ⟨.inl rfl, _, _, res [_] rfl ⟨rvT rfl, trivial⟩, ⟨by unfold cmpS; rw [if_neg (by rw [h1]; decide), if_neg (by rintro rfl; simp at h2)]; rfl, rfl⟩, Sub.any⟩
  ·
   refine T.skip ?_
   refine T.seq ?_
   refine T.region ?_
   refine LW.q rfl (Qt.assign rfl) ?_
   refine LW.done ?_
   refine T.ret ?_
   exact ⟨.inl rfl, _, _, res [_] rfl ⟨rvT rfl, trivial⟩, ⟨by unfold cmpS; rw [if_neg (by rw [h1]; decide), if_pos (by simpa [h1] using h2)]; rfl, rfl⟩, Sub.any⟩
theorem Bd.or (B : Base) (g : Nat) (a b : Int) (t : TypeId) : Fn Try.prog B 40 #[.slice (some ⟨g, 0, none⟩) 2 2] [blk g [iV a, iV b] t] (fun u l => u = iV (orI a b) ∧ l = [blk g [iV a, iV b] t]) := by
 refine Fn.enter1 18 Try.func40 rfl rfl (Nat.le_of_ble_eq_true rfl) (fun F => ?_)
 try simp only [List.cons_append, List.nil_append]
 refine T.seq ?_
 refine T.region ?_
 refine LW.q rfl (Qt.assign rfl) ?_
 refine LW.done ?_
 refine T.seq ?_
 refine T.region ?_
 refine LW.q rfl (Qt.assign rfl) ?_
 refine LW.done ?_
 refine T.seq ?_
 refine T.seq ?_
 refine T.region ?_
 refine LW.q rfl (Qt.move rfl) ?_
 refine LW.q rfl (Qt.len (e := 3) (sz := 1) (by kernel_rfl) rfl) ?_
 refine LW.q rfl (Qt.move rfl) ?_
 refine LW.done ?_
 refine T.block ?_
 refine T.loop (fun mz fz lz => ∃ (f0 : Fr) (i : Nat), (i ≤ 2 ∧ (1 ≤ i → a = 0) ∧ (2 ≤ i → b = 0)) ∧ mz = 2 - i ∧ fz = (upd (upd (upd (upd (upd f0 2 (iV 0)) 3 (iV 0)) 6 (.slice (some ⟨g, 0, none⟩) 2 2)) 7 (iV 2)) 8 (iV i)) ∧ lz = blk g [iV a, iV b] t :: F) ?_ ?_
 · refine ⟨_, _, ⟨_, 0, ⟨by omega, by omega, by omega⟩, rfl, (updS rfl (updS rfl (updS rfl (updS rfl (updS rfl rfl))))), rfl⟩, Sub.any⟩
 ·
  rintro mz fz lz ⟨f0, i, ⟨hi, h1, h2⟩, hmz, rfl, rfl⟩
  subst mz
  try simp only [List.cons_append, List.nil_append]
  refine T.seq ?_
  refine T.region ?_
  refine LW.q rfl (Qt.lss rfl rfl) ?_
  refine LW.done ?_
  refine T.seq ?_
  refine T.condP rfl (fun hlt => ?_) (fun hlt => ?_)
  ·
   by_cases hi0 : i = 0
   ·
    subst hi0
    refine T.skip ?_
    refine T.seq ?_
    refine T.block ?_
    refine T.seq ?_
    refine T.region ?_
    refine LW.q rfl (Qt.index _ (e := 3) (sz := 1) (by kernel_rfl) rfl rfl rfl (by omega)) ?_
    first | refine LW.q rfl (Qt.load (by kernel_rfl) rfl rfl) ?_ | refine LW.q rfl (Qt.load (by kernel_rfl) rfl (map_at _ _ _ (by omega))) ?_ | refine LW.q rfl (Qt.load (by kernel_rfl) rfl (flat_cell0 _ _ _ (by intros; rfl) _ (by omega) (by rfl))) ?_ | refine LW.q rfl (Qt.load (by kernel_rfl) rfl (flat_cell _ _ _ (by intros; rfl) _ _ (by omega) (by rfl))) ?_ | refine LW.q rfl (Qt.load (by kernel_rfl) rfl (bytes_at _ _ (by omega))) ?_
    refine LW.q rfl (Qt.assign rfl) ?_
    refine LW.done ?_
    refine T.seq ?_
    refine T.region ?_
    refine LW.q rfl (Qt.move rfl) ?_
    refine LW.q rfl (Qt.move rfl) ?_
    refine LW.q rfl (Qt.neq rfl rfl) ?_
    refine LW.done ?_
    refine T.condP rfl (fun hz => ?_) (fun hz => ?_)
    ·
     refine T.seq ?_
     refine T.region ?_
     refine LW.q rfl (Qt.move rfl) ?_
     refine LW.q rfl (Qt.assign rfl) ?_
     refine LW.done ?_
     refine T.ret ?_
     exact ⟨.inl rfl, _, _, res [_] rfl ⟨rvT rfl, trivial⟩, ⟨by unfold orI; rw [if_pos hz]; rfl, rfl⟩, Sub.any⟩
    ·
     refine T.skip ?_
     refine T.region ?_
     refine LW.q rfl (Qt.add rfl rfl (wr64 (by omega) (by omega))) ?_
     refine LW.q rfl (Qt.move rfl) ?_
     refine LW.done ?_
     refine ⟨_, ?_, _, ⟨_, 1, ⟨by omega, fun _ => Classical.not_not.1 hz, by omega⟩, rfl, (updS rfl (updS rfl (updS rfl (updS rfl (updS rfl rfl))))), rfl⟩, Sub.any⟩
     first | omega | (simp; omega)
   ·
    obtain rfl : i = 1 := by omega
    have ha := h1 (by omega)
    refine T.skip ?_
    refine T.seq ?_
    refine T.block ?_
    refine T.seq ?_
    refine T.region ?_
    refine LW.q rfl (Qt.index _ (e := 3) (sz := 1) (by kernel_rfl) rfl rfl rfl (by omega)) ?_
    first | refine LW.q rfl (Qt.load (by kernel_rfl) rfl rfl) ?_ | refine LW.q rfl (Qt.load (by kernel_rfl) rfl (map_at _ _ _ (by omega))) ?_ | refine LW.q rfl (Qt.load (by kernel_rfl) rfl (flat_cell0 _ _ _ (by intros; rfl) _ (by omega) (by rfl))) ?_ | refine LW.q rfl (Qt.load (by kernel_rfl) rfl (flat_cell _ _ _ (by intros; rfl) _ _ (by omega) (by rfl))) ?_ | refine LW.q rfl (Qt.load (by kernel_rfl) rfl (bytes_at _ _ (by omega))) ?_
    refine LW.q rfl (Qt.assign rfl) ?_
    refine LW.done ?_
    refine T.seq ?_
    refine T.region ?_
    refine LW.q rfl (Qt.move rfl) ?_
    refine LW.q rfl (Qt.move rfl) ?_
    refine LW.q rfl (Qt.neq rfl rfl) ?_
    refine LW.done ?_
    refine T.condP rfl (fun hz => ?_) (fun hz => ?_)
    ·
     refine T.seq ?_
     refine T.region ?_
     refine LW.q rfl (Qt.move rfl) ?_
     refine LW.q rfl (Qt.assign rfl) ?_
     refine LW.done ?_
     refine T.ret ?_
     exact ⟨.inl rfl, _, _, res [_] rfl ⟨rvT rfl, trivial⟩, ⟨by unfold orI; rw [if_neg (by omega)]; rfl, rfl⟩, Sub.any⟩
    ·
     refine T.skip ?_
     refine T.region ?_
     refine LW.q rfl (Qt.add rfl rfl (wr64 (by omega) (by omega))) ?_
     refine LW.q rfl (Qt.move rfl) ?_
     refine LW.done ?_
     refine ⟨_, ?_, _, ⟨_, 2, ⟨by omega, fun _ => ha, fun _ => Classical.not_not.1 hz⟩, rfl, (updS rfl (updS rfl (updS rfl (updS rfl (updS rfl rfl))))), rfl⟩, Sub.any⟩
     first | omega | (simp; omega)
  ·
   have ha := h1 (by omega)
   have hb := h2 (by omega)
   refine T.exit ?_
   refine T.seq ?_
   refine T.region ?_
   refine LW.q rfl (Qt.move rfl) ?_
   refine LW.q rfl (Qt.assign rfl) ?_
   refine LW.done ?_
   refine T.ret ?_
   exact ⟨.inl rfl, _, _, res [_] rfl ⟨rvT rfl, trivial⟩, ⟨by unfold orI; rw [if_neg (by omega), hb]; rfl, rfl⟩, Sub.any⟩
theorem mul64_parts (x y : Nat) (hx : x < 18446744073709551616) (hy : y < 18446744073709551616) :
    ∀ x0 x1 y0 y1 : Nat, x0 = x % 4294967296 → x1 = x / 4294967296 → y0 = y % 4294967296 → y1 = y / 4294967296 →
    x0 * y0 < 18446744073709551616 ∧ x1 * y0 + x0 * y0 / 4294967296 < 18446744073709551616 ∧
    (x1 * y0 + x0 * y0 / 4294967296) % 4294967296 + x0 * y1 < 18446744073709551616 ∧
    x1 * y1 + (x1 * y0 + x0 * y0 / 4294967296) / 4294967296 + ((x1 * y0 + x0 * y0 / 4294967296) % 4294967296 + x0 * y1) / 4294967296 = x * y / 18446744073709551616 ∧ x * y / 18446744073709551616 < 18446744073709551616 := by
  intro x0 x1 y0 y1 e1 e2 e3 e4
  have b0 : x0 ≤ 4294967295 := by omega
  have b1 : x1 ≤ 4294967295 := by omega
  have b2 : y0 ≤ 4294967295 := by omega
  have b3 : y1 ≤ 4294967295 := by omega
  have p00 : x0 * y0 ≤ 4294967295 * 4294967295 := Nat.mul_le_mul b0 b2
  have p10 : x1 * y0 ≤ 4294967295 * 4294967295 := Nat.mul_le_mul b1 b2
  have p01 : x0 * y1 ≤ 4294967295 * 4294967295 := Nat.mul_le_mul b0 b3
  have p11 : x1 * y1 ≤ 4294967295 * 4294967295 := Nat.mul_le_mul b1 b3
  have ex : x = 4294967296 * x1 + x0 := by omega
  have ey : y = 4294967296 * y1 + y0 := by omega
  have e : x * y = 18446744073709551616 * (x1 * y1) + 4294967296 * (x1 * y0) + 4294967296 * (x0 * y1) + x0 * y0 := by
    rw [ex, ey, Nat.add_mul, Nat.mul_add, Nat.mul_add]
    rw [show 4294967296 * x1 * (4294967296 * y1) = 18446744073709551616 * (x1 * y1) by rw [Nat.mul_mul_mul_comm], show 4294967296 * x1 * y0 = 4294967296 * (x1 * y0) by rw [Nat.mul_assoc], show x0 * (4294967296 * y1) = 4294967296 * (x0 * y1) by rw [Nat.mul_left_comm]]
    omega
  rw [e]
  generalize x0 * y0 = p at *
  generalize x1 * y0 = q at *
  generalize x0 * y1 = r at *
  generalize x1 * y1 = s at *
  refine ⟨by omega, by omega, by omega, by omega, by omega⟩
set_option maxHeartbeats 1000000 in
theorem Bd.mul64 (B : Base) (x y : Nat) (hx : x < 18446744073709551616) (hy : y < 18446744073709551616) : Fn Try.prog B 38 #[.int .u64 x, .int .u64 y] [] (fun u l => u = .tuple #[.int .u64 (x * y / 18446744073709551616 : Nat), .int .u64 (x * y % 18446744073709551616 : Nat)] ∧ l = []) := by
  obtain ⟨q1, q2, q3, q4, q5⟩ := mul64_parts x y hx hy _ _ _ _ rfl rfl rfl rfl
  refine Fn.enter2 51 Try.func38 rfl rfl (Nat.le_of_ble_eq_true rfl) (fun F => ?_)
  try simp only [List.cons_append, List.nil_append]
  refine T.seq ?_
  refine T.region ?_
  refine LW.q rfl (Qt.assign rfl) ?_
  refine LW.q rfl (Qt.assign rfl) ?_
  refine LW.done ?_
  refine T.seq ?_
  refine T.region ?_
  refine LW.q rfl (Qt.move rfl) ?_
  refine LW.q rfl (Qt.low32 x hx rfl rfl rfl rfl) ?_
  refine LW.q rfl (Qt.assign rfl) ?_
  refine LW.done ?_
  refine T.seq ?_
  refine T.region ?_
  refine LW.q rfl (Qt.move rfl) ?_
  refine LW.q rfl (Qt.high32 x hx rfl rfl rfl) ?_
  refine LW.q rfl (Qt.assign rfl) ?_
  refine LW.done ?_
  refine T.seq ?_
  refine T.region ?_
  refine LW.q rfl (Qt.move rfl) ?_
  refine LW.q rfl (Qt.low32 y hy rfl rfl rfl rfl) ?_
  refine LW.q rfl (Qt.assign rfl) ?_
  refine LW.done ?_
  refine T.seq ?_
  refine T.region ?_
  refine LW.q rfl (Qt.move rfl) ?_
  refine LW.q rfl (Qt.high32 y hy rfl rfl rfl) ?_
  refine LW.q rfl (Qt.assign rfl) ?_
  refine LW.done ?_
  refine T.seq ?_
  refine T.region ?_
  refine LW.q rfl (Qt.move rfl) ?_
  refine LW.q rfl (Qt.move rfl) ?_
  refine LW.q rfl (Qt.mul (r := ((x % 4294967296 * (y % 4294967296) : Nat) : Int)) rfl rfl (by rw [← Int.natCast_mul]; exact wru64 (by omega) (by omega))) ?_
  refine LW.q rfl (Qt.assign rfl) ?_
  refine LW.done ?_
  refine T.seq ?_
  refine T.region ?_
  refine LW.q rfl (Qt.move rfl) ?_
  refine LW.q rfl (Qt.move rfl) ?_
  refine LW.q rfl (Qt.mul (r := ((x / 4294967296 * (y % 4294967296) : Nat) : Int)) rfl rfl (by rw [← Int.natCast_mul]; exact wru64 (by omega) (by omega))) ?_
  refine LW.q rfl (Qt.move rfl) ?_
  refine LW.q rfl (Qt.high32 (x % 4294967296 * (y % 4294967296)) (by omega) rfl rfl rfl) ?_
  refine LW.q rfl (Qt.add (r := ((x / 4294967296 * (y % 4294967296) + x % 4294967296 * (y % 4294967296) / 4294967296 : Nat) : Int)) rfl rfl (by rw [← Int.natCast_add]; exact wru64 (by omega) (by omega))) ?_
  refine LW.q rfl (Qt.assign rfl) ?_
  refine LW.done ?_
  refine T.seq ?_
  refine T.region ?_
  refine LW.q rfl (Qt.move rfl) ?_
  refine LW.q rfl (Qt.low32 (x / 4294967296 * (y % 4294967296) + x % 4294967296 * (y % 4294967296) / 4294967296) q2 rfl rfl rfl rfl) ?_
  refine LW.q rfl (Qt.assign rfl) ?_
  refine LW.done ?_
  refine T.seq ?_
  refine T.region ?_
  refine LW.q rfl (Qt.move rfl) ?_
  refine LW.q rfl (Qt.high32 (x / 4294967296 * (y % 4294967296) + x % 4294967296 * (y % 4294967296) / 4294967296) (by omega) rfl rfl rfl) ?_
  refine LW.q rfl (Qt.assign rfl) ?_
  refine LW.done ?_
  refine T.seq ?_
  refine T.region ?_
  refine LW.q rfl (Qt.move rfl) ?_
  refine LW.q rfl (Qt.move rfl) ?_
  refine LW.q rfl (Qt.move rfl) ?_
  refine LW.q rfl (Qt.mul (r := ((x % 4294967296 * (y / 4294967296) : Nat) : Int)) rfl rfl (by rw [← Int.natCast_mul]; exact wru64 (by omega) (by omega))) ?_
  refine LW.q rfl (Qt.add (r := (((x / 4294967296 * (y % 4294967296) + x % 4294967296 * (y % 4294967296) / 4294967296) % 4294967296 + x % 4294967296 * (y / 4294967296) : Nat) : Int)) rfl rfl (by rw [← Int.natCast_add]; exact wru64 (by omega) (by omega))) ?_
  refine LW.q rfl (Qt.assign rfl) ?_
  refine LW.done ?_
  refine T.seq ?_
  refine T.region ?_
  refine LW.q rfl (Qt.move rfl) ?_
  refine LW.q rfl (Qt.move rfl) ?_
  refine LW.q rfl (Qt.mul (r := ((x / 4294967296 * (y / 4294967296) : Nat) : Int)) rfl rfl (by rw [← Int.natCast_mul]; exact wru64 (by omega) (by omega))) ?_
  refine LW.q rfl (Qt.move rfl) ?_
  refine LW.q rfl (Qt.add (r := ((x / 4294967296 * (y / 4294967296) + (x / 4294967296 * (y % 4294967296) + x % 4294967296 * (y % 4294967296) / 4294967296) / 4294967296 : Nat) : Int)) rfl rfl (by rw [← Int.natCast_add]; exact wru64 (by omega) (by omega))) ?_
  refine LW.q rfl (Qt.move rfl) ?_
  refine LW.q rfl (Qt.high32 ((x / 4294967296 * (y % 4294967296) + x % 4294967296 * (y % 4294967296) / 4294967296) % 4294967296 + x % 4294967296 * (y / 4294967296)) (by omega) rfl rfl rfl) ?_
  refine LW.q rfl (Qt.add (r := ((x * y / 18446744073709551616 : Nat) : Int)) rfl rfl (by rw [← Int.natCast_add, q4]; exact wru64 (by omega) (by omega))) ?_
  refine LW.q rfl (Qt.assign rfl) ?_
  refine LW.done ?_
  refine T.seq ?_
  refine T.region ?_
  refine LW.q rfl (Qt.move rfl) ?_
  refine LW.q rfl (Qt.move rfl) ?_
  refine LW.q rfl (Qt.mul (r := ((x * y % 18446744073709551616 : Nat) : Int)) rfl rfl (by rw [← Int.natCast_mul]; simp only [IntKind.wrap, IntKind.bits, IntKind.signed]; simp)) ?_
  refine LW.q rfl (Qt.assign rfl) ?_
  refine LW.done ?_
  refine T.ret ?_
  exact ⟨.inl rfl, _, _, res [_, _] rfl ⟨rvT rfl, rvT rfl, trivial⟩, ⟨rfl, rfl⟩, Sub.any⟩
end Go.Proofs.Ytopbkdpbljebgaa

/- The package bind: arithmetic, reckon. Conditions: none. -/
set_option linter.unusedSimpArgs false
set_option linter.unusedVariables false
namespace Go.Proofs.Ytopbkdpbljebgaa
open Go.RowKit

abbrev pvC (code : Int) : Value := .iface 78 (.agg #[iV code])
def arithE (op : Str) (a b : Int) : Except Int Va := if (arithP op a b).2 = true then .ok ⟨1, (arithP op a b).1, []⟩ else .error 171
def ordV (a b : Va) : Int := orI (cmpI a.int b.int) (cmpS a.text b.text)
/-- What an operator of two comes to. -/
def reckonT (op : Str) (a b : Va) : Except Int Va :=
  if op = [79, 82] then .ok (truthV (decide (a.int = 1) || decide (b.int = 1)))
  else if op = [65, 78, 68] then .ok (truthV (decide (a.int = 1) && decide (b.int = 1)))
  else if op = [61] then .ok (truthV (decide (ordV a b = 0)))
  else if op = [60, 62] then .ok (truthV (decide (ordV a b ≠ 0)))
  else if op = [60, 61] then .ok (truthV (decide (ordV a b ≤ 0)))
  else if op = [62, 61] then .ok (truthV (decide (0 ≤ ordV a b)))
  else if op = [60] then .ok (truthV (decide (ordV a b < 0)))
  else if op = [62] then .ok (truthV (decide (0 < ordV a b)))
  else arithE op a.int b.int
theorem wu_nat (a : Int) : ∃ x : Nat, wu a = (x : Int) ∧ x < 18446744073709551616 := by
  have h : 0 ≤ wu a ∧ wu a < 18446744073709551616 := by
    simp only [wu, IntKind.wrap, IntKind.bits, IntKind.signed]; simp; omega
  exact ⟨(wu a).toNat, by omega, by omega⟩
set_option maxHeartbeats 2000000 in
theorem Bd.arithOk (B : Base) (op : Str) (a b : Int) (v : Va) (h : arithE op a b = .ok v) : Fn Try.prog B 32 #[tV op, iV a, iV b] [] (fun u l => u = vA v ∧ l = []) := by
 have hv : (arithP op a b).2 = true ∧ v = ⟨1, (arithP op a b).1, []⟩ := by
  unfold arithE at h
  split at h
  · rename_i e; injection h with h; exact ⟨e, h.symm⟩
  · cases h
 obtain ⟨hok, rfl⟩ := hv
 obtain ⟨x, hx, hx2⟩ := wu_nat a
 obtain ⟨y, hy, hy2⟩ := wu_nat b
 have hhi : wu a * wu b / 18446744073709551616 = ((x * y / 18446744073709551616 : Nat) : Int) := by rw [hx, hy, ← Int.natCast_mul]; exact (Int.natCast_ediv _ _).symm
 have hlo : wu a * wu b % 18446744073709551616 = ((x * y % 18446744073709551616 : Nat) : Int) := by rw [hx, hy, ← Int.natCast_mul]; exact (Int.natCast_emod _ _).symm
 refine Fn.enter3 75 Try.func32 rfl rfl (Nat.le_of_ble_eq_true rfl) (fun F => ?_)
 try simp only [List.cons_append, List.nil_append]
 refine T.seq ?_
 refine T.region ?_
 refine LW.e rfl (Ef.alloc [.int .i64 0, .int .i64 0, .string .empty] (by unfold zeroB; kernel_rfl) ?_)
 intro g6
 refine LW.done ?_
 refine T.seq ?_
 refine T.region ?_
 refine LW.q rfl (Qt.assign rfl) ?_
 refine LW.q rfl (Qt.assign rfl) ?_
 refine LW.done ?_
 refine T.cut (fun fz lz => ∃ (f0 : Fr) (r : Int) (ok : Bool), ((r, ok) = arithP op a b) ∧ fz = (upd (upd (upd f0 6 (.pointer (some ⟨g6, 0, none⟩))) 7 (iV r)) 8 (.bool ok)) ∧ lz = blk g6 [iV 0, iV 0, .string .empty] 55 :: F) ?_ ?_
 ·
  refine T.seq ?_
  refine T.region ?_
  refine LW.q rfl (Qt.move rfl) ?_
  refine LW.done ?_
  refine T.block ?_
  refine T.seq ?_
  refine T.region ?_
  refine LW.q rfl (Qt.eqlS rfl rfl) ?_
  refine LW.q rfl (Qt.assign rfl) ?_
  refine LW.done ?_
  refine T.condP rfl (fun h1 => ?_) (fun h1 => ?_)
  ·
   refine T.seq ?_
   refine T.region ?_
   refine LW.q rfl (Qt.move rfl) ?_
   refine LW.q rfl (Qt.move rfl) ?_
   refine LW.q rfl (Qt.add rfl rfl rfl) ?_
   refine LW.q rfl (Qt.assign rfl) ?_
   refine LW.done ?_
   refine T.region ?_
   refine LW.q rfl (Qt.move rfl) ?_
   refine LW.q rfl (Qt.move rfl) ?_
   refine LW.q rfl (Qt.gtr rfl rfl) ?_
   refine LW.q rfl (Qt.move rfl) ?_
   refine LW.q rfl (Qt.gtr rfl rfl) ?_
   refine LW.q rfl (Qt.eqlB (by kernel_rfl) rfl rfl) ?_
   refine LW.q rfl (Qt.move rfl) ?_
   refine LW.split (t := 50) rfl (fun h2 => ?_) (fun h2 => ?_)
   ·
    try replace h2 := of_decide_eq_true h2
    refine LW.s rfl ?_
    refine LW.s rfl ?_
    refine LW.q rfl (Qt.pick rfl rfl) ?_
    refine LW.q rfl (Qt.assign rfl) ?_
    refine LW.done ?_
    exact ⟨_, ⟨_, w64 (a + b), true, by unfold arithP; rw [if_pos h1]; simp only [w64] at h2 ⊢; rw [h2, beq_self_eq_true]; rfl, (updS rfl (updS rfl (updS rfl rfl))), rfl⟩, Sub.any⟩
   ·
    try replace h2 := of_decide_eq_false h2
    refine LW.q rfl (Qt.move rfl) ?_
    refine LW.q rfl (Qt.eql rfl rfl) ?_
    refine LW.q rfl (Qt.pick rfl rfl) ?_
    refine LW.q rfl (Qt.assign rfl) ?_
    refine LW.done ?_
    exact ⟨_, ⟨_, w64 (a + b), decide (b = 0), by unfold arithP; rw [if_pos h1]; simp only [w64] at h2 ⊢; rw [beq_false_of_ne h2]; rfl, (updS rfl (updS rfl (updS rfl rfl))), rfl⟩, Sub.any⟩
  ·
   refine T.seq ?_
   refine T.region ?_
   refine LW.q rfl (Qt.eqlS rfl rfl) ?_
   refine LW.q rfl (Qt.assign rfl) ?_
   refine LW.done ?_
   refine T.condP rfl (fun h2 => ?_) (fun h2 => ?_)
   ·
    refine T.seq ?_
    refine T.region ?_
    refine LW.q rfl (Qt.move rfl) ?_
    refine LW.q rfl (Qt.move rfl) ?_
    refine LW.q rfl (Qt.sub rfl rfl rfl) ?_
    refine LW.q rfl (Qt.assign rfl) ?_
    refine LW.done ?_
    refine T.region ?_
    refine LW.q rfl (Qt.move rfl) ?_
    refine LW.q rfl (Qt.move rfl) ?_
    refine LW.q rfl (Qt.lss rfl rfl) ?_
    refine LW.q rfl (Qt.move rfl) ?_
    refine LW.q rfl (Qt.gtr rfl rfl) ?_
    refine LW.q rfl (Qt.eqlB (by kernel_rfl) rfl rfl) ?_
    refine LW.q rfl (Qt.move rfl) ?_
    refine LW.split (t := 65) rfl (fun h3 => ?_) (fun h3 => ?_)
    ·
     try replace h3 := of_decide_eq_true h3
     refine LW.s rfl ?_
     refine LW.s rfl ?_
     refine LW.q rfl (Qt.pick rfl rfl) ?_
     refine LW.q rfl (Qt.assign rfl) ?_
     refine LW.done ?_
     exact ⟨_, ⟨_, w64 (a - b), true, by unfold arithP; rw [if_neg h1, if_pos h2]; simp only [w64] at h3 ⊢; rw [h3, beq_self_eq_true]; rfl, (updS rfl (updS rfl (updS rfl rfl))), rfl⟩, Sub.any⟩
    ·
     try replace h3 := of_decide_eq_false h3
     refine LW.q rfl (Qt.move rfl) ?_
     refine LW.q rfl (Qt.eql rfl rfl) ?_
     refine LW.q rfl (Qt.pick rfl rfl) ?_
     refine LW.q rfl (Qt.assign rfl) ?_
     refine LW.done ?_
     exact ⟨_, ⟨_, w64 (a - b), decide (b = 0), by unfold arithP; rw [if_neg h1, if_pos h2]; simp only [w64] at h3 ⊢; rw [beq_false_of_ne h3]; rfl, (updS rfl (updS rfl (updS rfl rfl))), rfl⟩, Sub.any⟩
   ·
    refine T.seq ?_
    refine T.region ?_
    refine LW.q rfl (Qt.move rfl) ?_
    refine LW.q rfl (Qt.convI (by kernel_rfl) (by kernel_rfl) rfl hx) ?_
    refine LW.q rfl (Qt.move rfl) ?_
    refine LW.q rfl (Qt.convI (by kernel_rfl) (by kernel_rfl) rfl hy) ?_
    refine LW.e rfl (Ef.call (Bd.mul64 B x y hx2 hy2) Try.func38 rfl rfl rfl ?_)
    rintro _ _ ⟨rfl, rfl⟩
    try simp only [List.cons_append, List.nil_append]
    refine LW.q rfl (Qt.move rfl) ?_
    refine LW.q rfl (Qt.extr rfl rfl) ?_
    refine LW.q rfl (Qt.extr rfl rfl) ?_
    refine LW.q rfl (Qt.assign rfl) ?_
    refine LW.q rfl (Qt.assign rfl) ?_
    refine LW.done ?_
    refine T.cut (fun fz lz => ∃ (f0 : Fr) (i1 : Int), (i1 = if a < 0 then wu (((x * y / 18446744073709551616 : Nat) : Int) - wu b) else ((x * y / 18446744073709551616 : Nat) : Int)) ∧ fz = (upd (upd (upd (upd (upd (upd f0 1 (iV a)) 2 (iV b)) 6 (.pointer (some ⟨g6, 0, none⟩))) 8 (.bool true)) 9 (.int .u64 i1)) 10 (.int .u64 (x * y % 18446744073709551616 : Nat))) ∧ lz = blk g6 [iV 0, iV 0, .string .empty] 55 :: F) ?_ ?_
    ·
     refine T.seq ?_
     refine T.region ?_
     refine LW.q rfl (Qt.move rfl) ?_
     refine LW.q rfl (Qt.lss rfl rfl) ?_
     refine LW.done ?_
     refine T.condP rfl (fun h3 => ?_) (fun h3 => ?_)
     ·
      refine T.region ?_
      refine LW.q rfl (Qt.move rfl) ?_
      refine LW.q rfl (Qt.move rfl) ?_
      refine LW.q rfl (Qt.convI (by kernel_rfl) (by kernel_rfl) rfl hy) ?_
      refine LW.q rfl (Qt.sub rfl rfl rfl) ?_
      refine LW.q rfl (Qt.assign rfl) ?_
      refine LW.done ?_
      exact ⟨_, ⟨_, wu (((x * y / 18446744073709551616 : Nat) : Int) - (y : Int)), by rw [if_pos h3, hy], (updS rfl (updS rfl (updS rfl (updS rfl (updS rfl (updS rfl rfl)))))), rfl⟩, Sub.any⟩
     ·
      refine T.skip ?_
      exact ⟨_, ⟨_, ((x * y / 18446744073709551616 : Nat) : Int), by rw [if_neg h3], (updS rfl (updS rfl (updS rfl (updS rfl (updS rfl (updS rfl rfl)))))), rfl⟩, Sub.any⟩
    rintro fz lz ⟨f0, i1, hi1, rfl, rfl⟩
    try simp only [List.cons_append, List.nil_append]
    refine T.cut (fun fz lz => ∃ (f0 : Fr) (i2 : Int), (i2 = mulHi a b) ∧ fz = (upd (upd (upd (upd (upd (upd f0 1 (iV a)) 2 (iV b)) 6 (.pointer (some ⟨g6, 0, none⟩))) 8 (.bool true)) 9 (.int .u64 i2)) 10 (.int .u64 (x * y % 18446744073709551616 : Nat))) ∧ lz = blk g6 [iV 0, iV 0, .string .empty] 55 :: F) ?_ ?_
    ·
     refine T.seq ?_
     refine T.region ?_
     refine LW.q rfl (Qt.move rfl) ?_
     refine LW.q rfl (Qt.lss rfl rfl) ?_
     refine LW.done ?_
     refine T.condP rfl (fun h3 => ?_) (fun h3 => ?_)
     ·
      refine T.region ?_
      refine LW.q rfl (Qt.move rfl) ?_
      refine LW.q rfl (Qt.move rfl) ?_
      refine LW.q rfl (Qt.convI (by kernel_rfl) (by kernel_rfl) rfl hx) ?_
      refine LW.q rfl (Qt.sub rfl rfl rfl) ?_
      refine LW.q rfl (Qt.assign rfl) ?_
      refine LW.done ?_
      exact ⟨_, ⟨_, wu (i1 - (x : Int)), by unfold mulHi; simp only; rw [hhi, if_pos h3, ← hi1, hx], (updS rfl (updS rfl (updS rfl (updS rfl (updS rfl (updS rfl rfl)))))), rfl⟩, Sub.any⟩
     ·
      refine T.skip ?_
      exact ⟨_, ⟨_, i1, by unfold mulHi; simp only; rw [hhi, if_neg h3, ← hi1], (updS rfl (updS rfl (updS rfl (updS rfl (updS rfl (updS rfl rfl)))))), rfl⟩, Sub.any⟩
    rintro fz lz ⟨f0, i2, hi2, rfl, rfl⟩
    try simp only [List.cons_append, List.nil_append]
    refine T.seq ?_
    refine T.region ?_
    refine LW.q rfl (Qt.move rfl) ?_
    refine LW.q rfl (Qt.convI (k' := .i64) (by kernel_rfl) (by kernel_rfl) rfl rfl) ?_
    refine LW.q rfl (Qt.assign rfl) ?_
    refine LW.done ?_
    refine T.region ?_
    refine LW.q rfl (Qt.move rfl) ?_
    refine LW.q rfl (Qt.move rfl) ?_
    refine LW.q rfl (Qt.sign64 rfl rfl) ?_
    refine LW.q rfl (Qt.convI (k' := .u64) (by kernel_rfl) (by kernel_rfl) rfl rfl) ?_
    refine LW.q rfl (Qt.eql rfl rfl) ?_
    refine LW.q rfl (Qt.assign rfl) ?_
    refine LW.done ?_
    exact ⟨_, ⟨_, w64 ((x * y % 18446744073709551616 : Nat) : Int), decide (i2 = wu (w64 ((x * y % 18446744073709551616 : Nat) : Int) / 9223372036854775808)), by unfold arithP; rw [if_neg h1, if_neg h2, hi2]; simp only; rw [hlo], (updS rfl (updS rfl (updS rfl rfl))), rfl⟩, Sub.any⟩
 rintro fz lz ⟨f0, r, ok, hr, rfl, rfl⟩
 try simp only [List.cons_append, List.nil_append]
 rw [← hr] at hok ⊢
 refine T.seq ?_
 refine T.seq ?_
 refine T.region ?_
 refine LW.q rfl (Qt.move rfl) ?_
 first | refine LW.q rfl (Qt.notP rfl) ?_ | refine LW.q rfl (Qt.notB rfl) ?_
 refine LW.done ?_
 first | refine T.condF rfl ?_ | refine T.condPF rfl ((by dsimp only at hok; rw [hok]; rfl)) ?_ | refine T.condBF rfl ((by dsimp only at hok; rw [hok]; rfl)) ?_
 refine T.skip ?_
 refine T.seq ?_
 refine T.region ?_
 refine LW.q rfl (Qt.move rfl) ?_
 refine LW.e rfl (Ef.call (Bd.number B r) Try.func39 rfl rfl rfl ?_)
 rintro _ _ ⟨rfl, rfl⟩
 try simp only [List.cons_append, List.nil_append]
 refine LW.e0 rfl (Ef.store [_, _, _] (by kernel_rfl) rfl rfl rfl rfl (by simp) ?_)
 try simp only [splice, List.length_cons, List.length_nil, List.drop_succ_cons, List.cons_append, List.take_succ_cons, List.take_zero, List.drop_zero, List.nil_append, List.append_nil]
 refine LW.done ?_
 refine T.ret ?_
 exact ⟨.inl rfl, _, _, res [_] rfl ⟨rvA [_, _, _] (by kernel_rfl) rfl ⟨rfl, rfl, rfl, trivial⟩, trivial⟩, ⟨rfl, rfl⟩, Sub.any⟩
set_option maxHeartbeats 2000000 in
theorem Bd.arithBad (B : Base) (op : Str) (a b code : Int) (h : arithE op a b = .error code) : Fx Try.prog B 32 #[tV op, iV a, iV b] [] (pvC code) := by
 have hv : (arithP op a b).2 = false ∧ code = 171 := by
  unfold arithE at h
  split at h
  · cases h
  · rename_i e; injection h with h; exact ⟨by simpa using e, h.symm⟩
 obtain ⟨hok, rfl⟩ := hv
 obtain ⟨x, hx, hx2⟩ := wu_nat a
 obtain ⟨y, hy, hy2⟩ := wu_nat b
 have hhi : wu a * wu b / 18446744073709551616 = ((x * y / 18446744073709551616 : Nat) : Int) := by rw [hx, hy, ← Int.natCast_mul]; exact (Int.natCast_ediv _ _).symm
 have hlo : wu a * wu b % 18446744073709551616 = ((x * y % 18446744073709551616 : Nat) : Int) := by rw [hx, hy, ← Int.natCast_mul]; exact (Int.natCast_emod _ _).symm
 refine Fx.enter3 75 Try.func32 rfl rfl (Nat.le_of_ble_eq_true rfl) (fun F => ?_)
 try simp only [List.cons_append, List.nil_append]
 refine T.seq ?_
 refine T.region ?_
 refine LW.e rfl (Ef.alloc [.int .i64 0, .int .i64 0, .string .empty] (by unfold zeroB; kernel_rfl) ?_)
 intro g6
 refine LW.done ?_
 refine T.seq ?_
 refine T.region ?_
 refine LW.q rfl (Qt.assign rfl) ?_
 refine LW.q rfl (Qt.assign rfl) ?_
 refine LW.done ?_
 refine T.cut (fun fz lz => ∃ (f0 : Fr) (r : Int) (ok : Bool), ((r, ok) = arithP op a b) ∧ fz = (upd (upd (upd f0 6 (.pointer (some ⟨g6, 0, none⟩))) 7 (iV r)) 8 (.bool ok)) ∧ lz = blk g6 [iV 0, iV 0, .string .empty] 55 :: F) ?_ ?_
 ·
  refine T.seq ?_
  refine T.region ?_
  refine LW.q rfl (Qt.move rfl) ?_
  refine LW.done ?_
  refine T.block ?_
  refine T.seq ?_
  refine T.region ?_
  refine LW.q rfl (Qt.eqlS rfl rfl) ?_
  refine LW.q rfl (Qt.assign rfl) ?_
  refine LW.done ?_
  refine T.condP rfl (fun h1 => ?_) (fun h1 => ?_)
  ·
   refine T.seq ?_
   refine T.region ?_
   refine LW.q rfl (Qt.move rfl) ?_
   refine LW.q rfl (Qt.move rfl) ?_
   refine LW.q rfl (Qt.add rfl rfl rfl) ?_
   refine LW.q rfl (Qt.assign rfl) ?_
   refine LW.done ?_
   refine T.region ?_
   refine LW.q rfl (Qt.move rfl) ?_
   refine LW.q rfl (Qt.move rfl) ?_
   refine LW.q rfl (Qt.gtr rfl rfl) ?_
   refine LW.q rfl (Qt.move rfl) ?_
   refine LW.q rfl (Qt.gtr rfl rfl) ?_
   refine LW.q rfl (Qt.eqlB (by kernel_rfl) rfl rfl) ?_
   refine LW.q rfl (Qt.move rfl) ?_
   refine LW.split (t := 50) rfl (fun h2 => ?_) (fun h2 => ?_)
   ·
    try replace h2 := of_decide_eq_true h2
    refine LW.s rfl ?_
    refine LW.s rfl ?_
    refine LW.q rfl (Qt.pick rfl rfl) ?_
    refine LW.q rfl (Qt.assign rfl) ?_
    refine LW.done ?_
    exact ⟨_, ⟨_, w64 (a + b), true, by unfold arithP; rw [if_pos h1]; simp only [w64] at h2 ⊢; rw [h2, beq_self_eq_true]; rfl, (updS rfl (updS rfl (updS rfl rfl))), rfl⟩, Sub.any⟩
   ·
    try replace h2 := of_decide_eq_false h2
    refine LW.q rfl (Qt.move rfl) ?_
    refine LW.q rfl (Qt.eql rfl rfl) ?_
    refine LW.q rfl (Qt.pick rfl rfl) ?_
    refine LW.q rfl (Qt.assign rfl) ?_
    refine LW.done ?_
    exact ⟨_, ⟨_, w64 (a + b), decide (b = 0), by unfold arithP; rw [if_pos h1]; simp only [w64] at h2 ⊢; rw [beq_false_of_ne h2]; rfl, (updS rfl (updS rfl (updS rfl rfl))), rfl⟩, Sub.any⟩
  ·
   refine T.seq ?_
   refine T.region ?_
   refine LW.q rfl (Qt.eqlS rfl rfl) ?_
   refine LW.q rfl (Qt.assign rfl) ?_
   refine LW.done ?_
   refine T.condP rfl (fun h2 => ?_) (fun h2 => ?_)
   ·
    refine T.seq ?_
    refine T.region ?_
    refine LW.q rfl (Qt.move rfl) ?_
    refine LW.q rfl (Qt.move rfl) ?_
    refine LW.q rfl (Qt.sub rfl rfl rfl) ?_
    refine LW.q rfl (Qt.assign rfl) ?_
    refine LW.done ?_
    refine T.region ?_
    refine LW.q rfl (Qt.move rfl) ?_
    refine LW.q rfl (Qt.move rfl) ?_
    refine LW.q rfl (Qt.lss rfl rfl) ?_
    refine LW.q rfl (Qt.move rfl) ?_
    refine LW.q rfl (Qt.gtr rfl rfl) ?_
    refine LW.q rfl (Qt.eqlB (by kernel_rfl) rfl rfl) ?_
    refine LW.q rfl (Qt.move rfl) ?_
    refine LW.split (t := 65) rfl (fun h3 => ?_) (fun h3 => ?_)
    ·
     try replace h3 := of_decide_eq_true h3
     refine LW.s rfl ?_
     refine LW.s rfl ?_
     refine LW.q rfl (Qt.pick rfl rfl) ?_
     refine LW.q rfl (Qt.assign rfl) ?_
     refine LW.done ?_
     exact ⟨_, ⟨_, w64 (a - b), true, by unfold arithP; rw [if_neg h1, if_pos h2]; simp only [w64] at h3 ⊢; rw [h3, beq_self_eq_true]; rfl, (updS rfl (updS rfl (updS rfl rfl))), rfl⟩, Sub.any⟩
    ·
     try replace h3 := of_decide_eq_false h3
     refine LW.q rfl (Qt.move rfl) ?_
     refine LW.q rfl (Qt.eql rfl rfl) ?_
     refine LW.q rfl (Qt.pick rfl rfl) ?_
     refine LW.q rfl (Qt.assign rfl) ?_
     refine LW.done ?_
     exact ⟨_, ⟨_, w64 (a - b), decide (b = 0), by unfold arithP; rw [if_neg h1, if_pos h2]; simp only [w64] at h3 ⊢; rw [beq_false_of_ne h3]; rfl, (updS rfl (updS rfl (updS rfl rfl))), rfl⟩, Sub.any⟩
   ·
    refine T.seq ?_
    refine T.region ?_
    refine LW.q rfl (Qt.move rfl) ?_
    refine LW.q rfl (Qt.convI (by kernel_rfl) (by kernel_rfl) rfl hx) ?_
    refine LW.q rfl (Qt.move rfl) ?_
    refine LW.q rfl (Qt.convI (by kernel_rfl) (by kernel_rfl) rfl hy) ?_
    refine LW.e rfl (Ef.call (Bd.mul64 B x y hx2 hy2) Try.func38 rfl rfl rfl ?_)
    rintro _ _ ⟨rfl, rfl⟩
    try simp only [List.cons_append, List.nil_append]
    refine LW.q rfl (Qt.move rfl) ?_
    refine LW.q rfl (Qt.extr rfl rfl) ?_
    refine LW.q rfl (Qt.extr rfl rfl) ?_
    refine LW.q rfl (Qt.assign rfl) ?_
    refine LW.q rfl (Qt.assign rfl) ?_
    refine LW.done ?_
    refine T.cut (fun fz lz => ∃ (f0 : Fr) (i1 : Int), (i1 = if a < 0 then wu (((x * y / 18446744073709551616 : Nat) : Int) - wu b) else ((x * y / 18446744073709551616 : Nat) : Int)) ∧ fz = (upd (upd (upd (upd (upd (upd f0 1 (iV a)) 2 (iV b)) 6 (.pointer (some ⟨g6, 0, none⟩))) 8 (.bool true)) 9 (.int .u64 i1)) 10 (.int .u64 (x * y % 18446744073709551616 : Nat))) ∧ lz = blk g6 [iV 0, iV 0, .string .empty] 55 :: F) ?_ ?_
    ·
     refine T.seq ?_
     refine T.region ?_
     refine LW.q rfl (Qt.move rfl) ?_
     refine LW.q rfl (Qt.lss rfl rfl) ?_
     refine LW.done ?_
     refine T.condP rfl (fun h3 => ?_) (fun h3 => ?_)
     ·
      refine T.region ?_
      refine LW.q rfl (Qt.move rfl) ?_
      refine LW.q rfl (Qt.move rfl) ?_
      refine LW.q rfl (Qt.convI (by kernel_rfl) (by kernel_rfl) rfl hy) ?_
      refine LW.q rfl (Qt.sub rfl rfl rfl) ?_
      refine LW.q rfl (Qt.assign rfl) ?_
      refine LW.done ?_
      exact ⟨_, ⟨_, wu (((x * y / 18446744073709551616 : Nat) : Int) - (y : Int)), by rw [if_pos h3, hy], (updS rfl (updS rfl (updS rfl (updS rfl (updS rfl (updS rfl rfl)))))), rfl⟩, Sub.any⟩
     ·
      refine T.skip ?_
      exact ⟨_, ⟨_, ((x * y / 18446744073709551616 : Nat) : Int), by rw [if_neg h3], (updS rfl (updS rfl (updS rfl (updS rfl (updS rfl (updS rfl rfl)))))), rfl⟩, Sub.any⟩
    rintro fz lz ⟨f0, i1, hi1, rfl, rfl⟩
    try simp only [List.cons_append, List.nil_append]
    refine T.cut (fun fz lz => ∃ (f0 : Fr) (i2 : Int), (i2 = mulHi a b) ∧ fz = (upd (upd (upd (upd (upd (upd f0 1 (iV a)) 2 (iV b)) 6 (.pointer (some ⟨g6, 0, none⟩))) 8 (.bool true)) 9 (.int .u64 i2)) 10 (.int .u64 (x * y % 18446744073709551616 : Nat))) ∧ lz = blk g6 [iV 0, iV 0, .string .empty] 55 :: F) ?_ ?_
    ·
     refine T.seq ?_
     refine T.region ?_
     refine LW.q rfl (Qt.move rfl) ?_
     refine LW.q rfl (Qt.lss rfl rfl) ?_
     refine LW.done ?_
     refine T.condP rfl (fun h3 => ?_) (fun h3 => ?_)
     ·
      refine T.region ?_
      refine LW.q rfl (Qt.move rfl) ?_
      refine LW.q rfl (Qt.move rfl) ?_
      refine LW.q rfl (Qt.convI (by kernel_rfl) (by kernel_rfl) rfl hx) ?_
      refine LW.q rfl (Qt.sub rfl rfl rfl) ?_
      refine LW.q rfl (Qt.assign rfl) ?_
      refine LW.done ?_
      exact ⟨_, ⟨_, wu (i1 - (x : Int)), by unfold mulHi; simp only; rw [hhi, if_pos h3, ← hi1, hx], (updS rfl (updS rfl (updS rfl (updS rfl (updS rfl (updS rfl rfl)))))), rfl⟩, Sub.any⟩
     ·
      refine T.skip ?_
      exact ⟨_, ⟨_, i1, by unfold mulHi; simp only; rw [hhi, if_neg h3, ← hi1], (updS rfl (updS rfl (updS rfl (updS rfl (updS rfl (updS rfl rfl)))))), rfl⟩, Sub.any⟩
    rintro fz lz ⟨f0, i2, hi2, rfl, rfl⟩
    try simp only [List.cons_append, List.nil_append]
    refine T.seq ?_
    refine T.region ?_
    refine LW.q rfl (Qt.move rfl) ?_
    refine LW.q rfl (Qt.convI (k' := .i64) (by kernel_rfl) (by kernel_rfl) rfl rfl) ?_
    refine LW.q rfl (Qt.assign rfl) ?_
    refine LW.done ?_
    refine T.region ?_
    refine LW.q rfl (Qt.move rfl) ?_
    refine LW.q rfl (Qt.move rfl) ?_
    refine LW.q rfl (Qt.sign64 rfl rfl) ?_
    refine LW.q rfl (Qt.convI (k' := .u64) (by kernel_rfl) (by kernel_rfl) rfl rfl) ?_
    refine LW.q rfl (Qt.eql rfl rfl) ?_
    refine LW.q rfl (Qt.assign rfl) ?_
    refine LW.done ?_
    exact ⟨_, ⟨_, w64 ((x * y % 18446744073709551616 : Nat) : Int), decide (i2 = wu (w64 ((x * y % 18446744073709551616 : Nat) : Int) / 9223372036854775808)), by unfold arithP; rw [if_neg h1, if_neg h2, hi2]; simp only; rw [hlo], (updS rfl (updS rfl (updS rfl rfl))), rfl⟩, Sub.any⟩
 rintro fz lz ⟨f0, r, ok, hr, rfl, rfl⟩
 try simp only [List.cons_append, List.nil_append]
 rw [← hr] at hok
 refine T.seq ?_
 refine T.seq ?_
 refine T.region ?_
 refine LW.q rfl (Qt.move rfl) ?_
 first | refine LW.q rfl (Qt.notP rfl) ?_ | refine LW.q rfl (Qt.notB rfl) ?_
 refine LW.done ?_
 first | refine T.condT rfl ?_ | refine T.condPT rfl ((by dsimp only at hok; rw [hok]; rfl)) ?_ | refine T.condBT rfl ((by dsimp only at hok; rw [hok]; rfl)) ?_
 refine T.region ?_
 refine LW.q rfl (Qt.build [(0, 1)] [.int .i64 0] [_] [(0, _)] (by kernel_rfl) (by unfold zeroB; kernel_rfl) rfl rfl) ?_
 refine LW.q rfl (Qt.iface (by kernel_rfl) rfl) ?_
 refine LW.dies rfl (Dx.pan rfl) ?_
 exact ⟨rfl, Sub.any⟩
set_option maxHeartbeats 2000000 in
theorem Bd.reckonOk (B : Base) (op : Str) (a b v : Va) (h : reckonT op a b = .ok v) : Fn Try.prog B 33 #[tV op, vA a, vA b] [] (fun u l => u = vA v ∧ l = []) := by
 obtain ⟨ak, ai, at0⟩ := a
 obtain ⟨bk, bi, bt⟩ := b
 refine Fn.enter3 79 Try.func33 rfl rfl (Nat.le_of_ble_eq_true rfl) (fun F => ?_)
 try simp only [List.cons_append, List.nil_append]
 refine T.seq ?_
 refine T.region ?_
 refine LW.e rfl (Ef.box [_, _, _] rfl rfl ?_)
 intro g4
 refine LW.e rfl (Ef.box [_, _, _] rfl rfl ?_)
 intro g5
 refine LW.e rfl (Ef.alloc [.int .i64 0, .int .i64 0, .string .empty] (by unfold zeroB; kernel_rfl) ?_)
 intro g6
 refine LW.done ?_
 refine T.seq ?_
 refine T.drawBl 12 none (by kernel_rfl) (Nat.le_of_ble_eq_true rfl) (by kernel_rfl) ?_
 refine RW.q 0 rfl rfl (by kernel_rfl) Sub.any (Qt.fieldAddr (off := 1) (by kernel_rfl) rfl) ?_
 first | refine RW.q 1 rfl rfl (by kernel_rfl) Sub.any (Qt.load (by kernel_rfl) rfl rfl) ?_ | refine RW.q 1 rfl rfl (by kernel_rfl) Sub.any (Qt.load (by kernel_rfl) rfl (map_at _ _ _ (by omega))) ?_ | refine RW.q 1 rfl rfl (by kernel_rfl) Sub.any (Qt.load (by kernel_rfl) rfl (flat_cell0 _ _ _ (by intros; rfl) _ (by omega) (by rfl))) ?_ | refine RW.q 1 rfl rfl (by kernel_rfl) Sub.any (Qt.load (by kernel_rfl) rfl (flat_cell _ _ _ (by intros; rfl) _ _ (by omega) (by rfl))) ?_ | refine RW.q 1 rfl rfl (by kernel_rfl) Sub.any (Qt.load (by kernel_rfl) rfl (bytes_at _ _ (by omega))) ?_
 refine RW.q 2 rfl rfl (by kernel_rfl) Sub.any (Qt.fieldAddr (off := 1) (by kernel_rfl) rfl) ?_
 first | refine RW.q 3 rfl rfl (by kernel_rfl) Sub.any (Qt.load (by kernel_rfl) rfl rfl) ?_ | refine RW.q 3 rfl rfl (by kernel_rfl) Sub.any (Qt.load (by kernel_rfl) rfl (map_at _ _ _ (by omega))) ?_ | refine RW.q 3 rfl rfl (by kernel_rfl) Sub.any (Qt.load (by kernel_rfl) rfl (flat_cell0 _ _ _ (by intros; rfl) _ (by omega) (by rfl))) ?_ | refine RW.q 3 rfl rfl (by kernel_rfl) Sub.any (Qt.load (by kernel_rfl) rfl (flat_cell _ _ _ (by intros; rfl) _ _ (by omega) (by rfl))) ?_ | refine RW.q 3 rfl rfl (by kernel_rfl) Sub.any (Qt.load (by kernel_rfl) rfl (bytes_at _ _ (by omega))) ?_
 refine RW.q 5 rfl rfl (by kernel_rfl) Sub.any (Qt.fieldAddr (off := 2) (by kernel_rfl) rfl) ?_
 first | refine RW.q 6 rfl rfl (by kernel_rfl) Sub.any (Qt.load (by kernel_rfl) rfl rfl) ?_ | refine RW.q 6 rfl rfl (by kernel_rfl) Sub.any (Qt.load (by kernel_rfl) rfl (map_at _ _ _ (by omega))) ?_ | refine RW.q 6 rfl rfl (by kernel_rfl) Sub.any (Qt.load (by kernel_rfl) rfl (flat_cell0 _ _ _ (by intros; rfl) _ (by omega) (by rfl))) ?_ | refine RW.q 6 rfl rfl (by kernel_rfl) Sub.any (Qt.load (by kernel_rfl) rfl (flat_cell _ _ _ (by intros; rfl) _ _ (by omega) (by rfl))) ?_ | refine RW.q 6 rfl rfl (by kernel_rfl) Sub.any (Qt.load (by kernel_rfl) rfl (bytes_at _ _ (by omega))) ?_
 refine RW.q 7 rfl rfl (by kernel_rfl) Sub.any (Qt.fieldAddr (off := 2) (by kernel_rfl) rfl) ?_
 first | refine RW.q 8 rfl rfl (by kernel_rfl) Sub.any (Qt.load (by kernel_rfl) rfl rfl) ?_ | refine RW.q 8 rfl rfl (by kernel_rfl) Sub.any (Qt.load (by kernel_rfl) rfl (map_at _ _ _ (by omega))) ?_ | refine RW.q 8 rfl rfl (by kernel_rfl) Sub.any (Qt.load (by kernel_rfl) rfl (flat_cell0 _ _ _ (by intros; rfl) _ (by omega) (by rfl))) ?_ | refine RW.q 8 rfl rfl (by kernel_rfl) Sub.any (Qt.load (by kernel_rfl) rfl (flat_cell _ _ _ (by intros; rfl) _ _ (by omega) (by rfl))) ?_ | refine RW.q 8 rfl rfl (by kernel_rfl) Sub.any (Qt.load (by kernel_rfl) rfl (bytes_at _ _ (by omega))) ?_
 refine RW.one 4 (by kernel_rfl) ?_
 refine RO.eS rfl rfl (Ef.call (Bd.compareI B ai bi) Try.func41 rfl rfl rfl ?_)
 rintro _ _ ⟨rfl, rfl⟩
 try simp only [List.cons_append, List.nil_append]
 refine ⟨Sub.any, ?_⟩
 refine RW.one 9 (by kernel_rfl) ?_
 refine RO.eS rfl rfl (Ef.call (Bd.compareS B at0 bt) Try.func42 rfl rfl rfl ?_)
 rintro _ _ ⟨rfl, rfl⟩
 try simp only [List.cons_append, List.nil_append]
 refine ⟨Sub.any, ?_⟩
 refine RW.one 10 (by kernel_rfl) ?_
 refine RO.eS rfl rfl (Ef.lit [_, _] (e := 3) (by kernel_rfl) (by kernel_rfl) rfl (by simp [Value.cells]) rfl (by omega) (by omega) ?_)
 intro g18
 refine ⟨Sub.any, ?_⟩
 refine RW.one 11 (by kernel_rfl) ?_
 refine RO.eS rfl rfl (Ef.call (Bd.or B g18 (cmpI ai bi) (cmpS at0 bt) 3) Try.func40 rfl rfl rfl ?_)
 rintro _ _ ⟨rfl, rfl⟩
 try simp only [List.cons_append, List.nil_append]
 refine ⟨Sub.any, ?_⟩
 refine RW.done (by rfl) ?_
 simp only [List.drop_succ_cons, List.drop_zero, List.drop_nil]
 refine LW.q rfl (Qt.assign rfl) ?_
 refine LW.done ?_
 refine T.seq ?_
 refine T.seq ?_
 refine T.region ?_
 refine LW.q rfl (Qt.move rfl) ?_
 refine LW.done ?_
 refine T.block ?_
 refine T.seq ?_
 refine T.region ?_
 refine LW.q rfl (Qt.eqlS rfl rfl) ?_
 refine LW.q rfl (Qt.assign rfl) ?_
 refine LW.done ?_
 refine T.condP rfl (fun h0 => ?_) (fun h0 => ?_)
 ·
  refine T.seq ?_
  refine T.region ?_
  refine LW.q rfl (Qt.fieldAddr (off := 1) (by kernel_rfl) rfl) ?_
  first | refine LW.q rfl (Qt.load (by kernel_rfl) rfl rfl) ?_ | refine LW.q rfl (Qt.load (by kernel_rfl) rfl (map_at _ _ _ (by omega))) ?_ | refine LW.q rfl (Qt.load (by kernel_rfl) rfl (flat_cell0 _ _ _ (by intros; rfl) _ (by omega) (by rfl))) ?_ | refine LW.q rfl (Qt.load (by kernel_rfl) rfl (flat_cell _ _ _ (by intros; rfl) _ _ (by omega) (by rfl))) ?_ | refine LW.q rfl (Qt.load (by kernel_rfl) rfl (bytes_at _ _ (by omega))) ?_
  refine LW.q rfl (Qt.eql rfl rfl) ?_
  refine LW.q rfl (Qt.move rfl) ?_
  refine LW.split (t := 26) rfl (fun g1 => ?_) (fun g1 => ?_)
  ·
   try replace g1 := of_decide_eq_true g1
   refine LW.s rfl ?_
   refine LW.s rfl ?_
   refine LW.s rfl ?_
   refine LW.q rfl (Qt.pick rfl rfl) ?_
   refine LW.e rfl (Ef.call (Bd.truth B true) Try.func31 rfl rfl rfl ?_)
   rintro _ _ ⟨rfl, rfl⟩
   try simp only [List.cons_append, List.nil_append]
   refine LW.e0 rfl (Ef.store [_, _, _] (by kernel_rfl) rfl rfl rfl rfl (by simp) ?_)
   try simp only [splice, List.length_cons, List.length_nil, List.drop_succ_cons, List.cons_append, List.take_succ_cons, List.take_zero, List.drop_zero, List.nil_append, List.append_nil]
   refine LW.done ?_
   refine T.ret ?_
   exact ⟨.inl rfl, _, _, res [_] rfl ⟨rvA [_, _, _] (by kernel_rfl) rfl ⟨rfl, rfl, rfl, trivial⟩, trivial⟩, ⟨by unfold reckonT at h; rw [if_pos h0] at h; injection h with h; subst h; rw [show decide (ai = 1) = true from decide_eq_true g1]; rfl, rfl⟩, Sub.any⟩
  ·
   try replace g1 := of_decide_eq_false g1
   refine LW.q rfl (Qt.fieldAddr (off := 1) (by kernel_rfl) rfl) ?_
   first | refine LW.q rfl (Qt.load (by kernel_rfl) rfl rfl) ?_ | refine LW.q rfl (Qt.load (by kernel_rfl) rfl (map_at _ _ _ (by omega))) ?_ | refine LW.q rfl (Qt.load (by kernel_rfl) rfl (flat_cell0 _ _ _ (by intros; rfl) _ (by omega) (by rfl))) ?_ | refine LW.q rfl (Qt.load (by kernel_rfl) rfl (flat_cell _ _ _ (by intros; rfl) _ _ (by omega) (by rfl))) ?_ | refine LW.q rfl (Qt.load (by kernel_rfl) rfl (bytes_at _ _ (by omega))) ?_
   refine LW.q rfl (Qt.eql rfl rfl) ?_
   refine LW.q rfl (Qt.pick rfl rfl) ?_
   refine LW.e rfl (Ef.call (Bd.truth B (decide (bi = 1))) Try.func31 rfl rfl rfl ?_)
   rintro _ _ ⟨rfl, rfl⟩
   try simp only [List.cons_append, List.nil_append]
   refine LW.e0 rfl (Ef.store [_, _, _] (by kernel_rfl) rfl rfl rfl rfl (by simp) ?_)
   try simp only [splice, List.length_cons, List.length_nil, List.drop_succ_cons, List.cons_append, List.take_succ_cons, List.take_zero, List.drop_zero, List.nil_append, List.append_nil]
   refine LW.done ?_
   refine T.ret ?_
   exact ⟨.inl rfl, _, _, res [_] rfl ⟨rvA [_, _, _] (by kernel_rfl) rfl ⟨rfl, rfl, rfl, trivial⟩, trivial⟩, ⟨by unfold reckonT at h; rw [if_pos h0] at h; injection h with h; subst h; rw [show decide (ai = 1) = false from decide_eq_false g1]; rfl, rfl⟩, Sub.any⟩
 ·
  refine T.seq ?_
  refine T.region ?_
  refine LW.q rfl (Qt.eqlS rfl rfl) ?_
  refine LW.q rfl (Qt.assign rfl) ?_
  refine LW.done ?_
  refine T.condP rfl (fun h1 => ?_) (fun h1 => ?_)
  ·
   refine T.seq ?_
   refine T.region ?_
   refine LW.q rfl (Qt.fieldAddr (off := 1) (by kernel_rfl) rfl) ?_
   first | refine LW.q rfl (Qt.load (by kernel_rfl) rfl rfl) ?_ | refine LW.q rfl (Qt.load (by kernel_rfl) rfl (map_at _ _ _ (by omega))) ?_ | refine LW.q rfl (Qt.load (by kernel_rfl) rfl (flat_cell0 _ _ _ (by intros; rfl) _ (by omega) (by rfl))) ?_ | refine LW.q rfl (Qt.load (by kernel_rfl) rfl (flat_cell _ _ _ (by intros; rfl) _ _ (by omega) (by rfl))) ?_ | refine LW.q rfl (Qt.load (by kernel_rfl) rfl (bytes_at _ _ (by omega))) ?_
   refine LW.q rfl (Qt.eql rfl rfl) ?_
   refine LW.q rfl (Qt.move rfl) ?_
   refine LW.split (t := 37) rfl (fun g1 => ?_) (fun g1 => ?_)
   ·
    try replace g1 := of_decide_eq_true g1
    refine LW.q rfl (Qt.fieldAddr (off := 1) (by kernel_rfl) rfl) ?_
    first | refine LW.q rfl (Qt.load (by kernel_rfl) rfl rfl) ?_ | refine LW.q rfl (Qt.load (by kernel_rfl) rfl (map_at _ _ _ (by omega))) ?_ | refine LW.q rfl (Qt.load (by kernel_rfl) rfl (flat_cell0 _ _ _ (by intros; rfl) _ (by omega) (by rfl))) ?_ | refine LW.q rfl (Qt.load (by kernel_rfl) rfl (flat_cell _ _ _ (by intros; rfl) _ _ (by omega) (by rfl))) ?_ | refine LW.q rfl (Qt.load (by kernel_rfl) rfl (bytes_at _ _ (by omega))) ?_
    refine LW.q rfl (Qt.eql rfl rfl) ?_
    refine LW.q rfl (Qt.pick rfl rfl) ?_
    refine LW.e rfl (Ef.call (Bd.truth B (decide (bi = 1))) Try.func31 rfl rfl rfl ?_)
    rintro _ _ ⟨rfl, rfl⟩
    try simp only [List.cons_append, List.nil_append]
    refine LW.e0 rfl (Ef.store [_, _, _] (by kernel_rfl) rfl rfl rfl rfl (by simp) ?_)
    try simp only [splice, List.length_cons, List.length_nil, List.drop_succ_cons, List.cons_append, List.take_succ_cons, List.take_zero, List.drop_zero, List.nil_append, List.append_nil]
    refine LW.done ?_
    refine T.ret ?_
    exact ⟨.inl rfl, _, _, res [_] rfl ⟨rvA [_, _, _] (by kernel_rfl) rfl ⟨rfl, rfl, rfl, trivial⟩, trivial⟩, ⟨by unfold reckonT at h; rw [if_neg h0, if_pos h1] at h; injection h with h; subst h; rw [show decide (ai = 1) = true from decide_eq_true g1]; rfl, rfl⟩, Sub.any⟩
   ·
    try replace g1 := of_decide_eq_false g1
    refine LW.s rfl ?_
    refine LW.s rfl ?_
    refine LW.s rfl ?_
    refine LW.q rfl (Qt.pick rfl rfl) ?_
    refine LW.e rfl (Ef.call (Bd.truth B false) Try.func31 rfl rfl rfl ?_)
    rintro _ _ ⟨rfl, rfl⟩
    try simp only [List.cons_append, List.nil_append]
    refine LW.e0 rfl (Ef.store [_, _, _] (by kernel_rfl) rfl rfl rfl rfl (by simp) ?_)
    try simp only [splice, List.length_cons, List.length_nil, List.drop_succ_cons, List.cons_append, List.take_succ_cons, List.take_zero, List.drop_zero, List.nil_append, List.append_nil]
    refine LW.done ?_
    refine T.ret ?_
    exact ⟨.inl rfl, _, _, res [_] rfl ⟨rvA [_, _, _] (by kernel_rfl) rfl ⟨rfl, rfl, rfl, trivial⟩, trivial⟩, ⟨by unfold reckonT at h; rw [if_neg h0, if_pos h1] at h; injection h with h; subst h; rw [show decide (ai = 1) = false from decide_eq_false g1]; rfl, rfl⟩, Sub.any⟩
  ·
   refine T.seq ?_
   refine T.region ?_
   refine LW.q rfl (Qt.eqlS rfl rfl) ?_
   refine LW.q rfl (Qt.assign rfl) ?_
   refine LW.done ?_
   refine T.condP rfl (fun h2 => ?_) (fun h2 => ?_)
   ·
    refine T.seq ?_
    refine T.region ?_
    refine LW.q rfl (Qt.move rfl) ?_
    refine LW.q rfl (Qt.eql rfl rfl) ?_
    refine LW.e rfl (Ef.call (Bd.truth B (decide (ordV ⟨ak, ai, at0⟩ ⟨bk, bi, bt⟩ = 0))) Try.func31 rfl rfl rfl ?_)
    rintro _ _ ⟨rfl, rfl⟩
    try simp only [List.cons_append, List.nil_append]
    refine LW.e0 rfl (Ef.store [_, _, _] (by kernel_rfl) rfl rfl rfl rfl (by simp) ?_)
    try simp only [splice, List.length_cons, List.length_nil, List.drop_succ_cons, List.cons_append, List.take_succ_cons, List.take_zero, List.drop_zero, List.nil_append, List.append_nil]
    refine LW.done ?_
    refine T.ret ?_
    exact ⟨.inl rfl, _, _, res [_] rfl ⟨rvA [_, _, _] (by kernel_rfl) rfl ⟨rfl, rfl, rfl, trivial⟩, trivial⟩, ⟨by unfold reckonT at h; rw [if_neg h0, if_neg h1, if_pos h2] at h; injection h with h; subst h; rfl, rfl⟩, Sub.any⟩
   ·
    refine T.seq ?_
    refine T.region ?_
    refine LW.q rfl (Qt.eqlS rfl rfl) ?_
    refine LW.q rfl (Qt.assign rfl) ?_
    refine LW.done ?_
    refine T.condP rfl (fun h3 => ?_) (fun h3 => ?_)
    ·
     refine T.seq ?_
     refine T.region ?_
     refine LW.q rfl (Qt.move rfl) ?_
     refine LW.q rfl (Qt.neq rfl rfl) ?_
     refine LW.e rfl (Ef.call (Bd.truth B (decide (ordV ⟨ak, ai, at0⟩ ⟨bk, bi, bt⟩ ≠ 0))) Try.func31 rfl rfl rfl ?_)
     rintro _ _ ⟨rfl, rfl⟩
     try simp only [List.cons_append, List.nil_append]
     refine LW.e0 rfl (Ef.store [_, _, _] (by kernel_rfl) rfl rfl rfl rfl (by simp) ?_)
     try simp only [splice, List.length_cons, List.length_nil, List.drop_succ_cons, List.cons_append, List.take_succ_cons, List.take_zero, List.drop_zero, List.nil_append, List.append_nil]
     refine LW.done ?_
     refine T.ret ?_
     exact ⟨.inl rfl, _, _, res [_] rfl ⟨rvA [_, _, _] (by kernel_rfl) rfl ⟨rfl, rfl, rfl, trivial⟩, trivial⟩, ⟨by unfold reckonT at h; rw [if_neg h0, if_neg h1, if_neg h2, if_pos h3] at h; injection h with h; subst h; rfl, rfl⟩, Sub.any⟩
    ·
     refine T.seq ?_
     refine T.region ?_
     refine LW.q rfl (Qt.eqlS rfl rfl) ?_
     refine LW.q rfl (Qt.assign rfl) ?_
     refine LW.done ?_
     refine T.condP rfl (fun h4 => ?_) (fun h4 => ?_)
     ·
      refine T.seq ?_
      refine T.region ?_
      refine LW.q rfl (Qt.move rfl) ?_
      refine LW.q rfl (Qt.leq rfl rfl) ?_
      refine LW.e rfl (Ef.call (Bd.truth B (decide (ordV ⟨ak, ai, at0⟩ ⟨bk, bi, bt⟩ ≤ 0))) Try.func31 rfl rfl rfl ?_)
      rintro _ _ ⟨rfl, rfl⟩
      try simp only [List.cons_append, List.nil_append]
      refine LW.e0 rfl (Ef.store [_, _, _] (by kernel_rfl) rfl rfl rfl rfl (by simp) ?_)
      try simp only [splice, List.length_cons, List.length_nil, List.drop_succ_cons, List.cons_append, List.take_succ_cons, List.take_zero, List.drop_zero, List.nil_append, List.append_nil]
      refine LW.done ?_
      refine T.ret ?_
      exact ⟨.inl rfl, _, _, res [_] rfl ⟨rvA [_, _, _] (by kernel_rfl) rfl ⟨rfl, rfl, rfl, trivial⟩, trivial⟩, ⟨by unfold reckonT at h; rw [if_neg h0, if_neg h1, if_neg h2, if_neg h3, if_pos h4] at h; injection h with h; subst h; rfl, rfl⟩, Sub.any⟩
     ·
      refine T.seq ?_
      refine T.region ?_
      refine LW.q rfl (Qt.eqlS rfl rfl) ?_
      refine LW.q rfl (Qt.assign rfl) ?_
      refine LW.done ?_
      refine T.condP rfl (fun h5 => ?_) (fun h5 => ?_)
      ·
       refine T.seq ?_
       refine T.region ?_
       refine LW.q rfl (Qt.move rfl) ?_
       refine LW.q rfl (Qt.geq rfl rfl) ?_
       refine LW.e rfl (Ef.call (Bd.truth B (decide (0 ≤ ordV ⟨ak, ai, at0⟩ ⟨bk, bi, bt⟩))) Try.func31 rfl rfl rfl ?_)
       rintro _ _ ⟨rfl, rfl⟩
       try simp only [List.cons_append, List.nil_append]
       refine LW.e0 rfl (Ef.store [_, _, _] (by kernel_rfl) rfl rfl rfl rfl (by simp) ?_)
       try simp only [splice, List.length_cons, List.length_nil, List.drop_succ_cons, List.cons_append, List.take_succ_cons, List.take_zero, List.drop_zero, List.nil_append, List.append_nil]
       refine LW.done ?_
       refine T.ret ?_
       exact ⟨.inl rfl, _, _, res [_] rfl ⟨rvA [_, _, _] (by kernel_rfl) rfl ⟨rfl, rfl, rfl, trivial⟩, trivial⟩, ⟨by unfold reckonT at h; rw [if_neg h0, if_neg h1, if_neg h2, if_neg h3, if_neg h4, if_pos h5] at h; injection h with h; subst h; rfl, rfl⟩, Sub.any⟩
      ·
       refine T.seq ?_
       refine T.region ?_
       refine LW.q rfl (Qt.eqlS rfl rfl) ?_
       refine LW.q rfl (Qt.assign rfl) ?_
       refine LW.done ?_
       refine T.condP rfl (fun h6 => ?_) (fun h6 => ?_)
       ·
        refine T.seq ?_
        refine T.region ?_
        refine LW.q rfl (Qt.move rfl) ?_
        refine LW.q rfl (Qt.lss rfl rfl) ?_
        refine LW.e rfl (Ef.call (Bd.truth B (decide (ordV ⟨ak, ai, at0⟩ ⟨bk, bi, bt⟩ < 0))) Try.func31 rfl rfl rfl ?_)
        rintro _ _ ⟨rfl, rfl⟩
        try simp only [List.cons_append, List.nil_append]
        refine LW.e0 rfl (Ef.store [_, _, _] (by kernel_rfl) rfl rfl rfl rfl (by simp) ?_)
        try simp only [splice, List.length_cons, List.length_nil, List.drop_succ_cons, List.cons_append, List.take_succ_cons, List.take_zero, List.drop_zero, List.nil_append, List.append_nil]
        refine LW.done ?_
        refine T.ret ?_
        exact ⟨.inl rfl, _, _, res [_] rfl ⟨rvA [_, _, _] (by kernel_rfl) rfl ⟨rfl, rfl, rfl, trivial⟩, trivial⟩, ⟨by unfold reckonT at h; rw [if_neg h0, if_neg h1, if_neg h2, if_neg h3, if_neg h4, if_neg h5, if_pos h6] at h; injection h with h; subst h; rfl, rfl⟩, Sub.any⟩
       ·
        refine T.seq ?_
        refine T.region ?_
        refine LW.q rfl (Qt.eqlS rfl rfl) ?_
        refine LW.q rfl (Qt.assign rfl) ?_
        refine LW.done ?_
        refine T.condP rfl (fun h7 => ?_) (fun h7 => ?_)
        ·
         refine T.seq ?_
         refine T.region ?_
         refine LW.q rfl (Qt.move rfl) ?_
         refine LW.q rfl (Qt.gtr rfl rfl) ?_
         refine LW.e rfl (Ef.call (Bd.truth B (decide (0 < ordV ⟨ak, ai, at0⟩ ⟨bk, bi, bt⟩))) Try.func31 rfl rfl rfl ?_)
         rintro _ _ ⟨rfl, rfl⟩
         try simp only [List.cons_append, List.nil_append]
         refine LW.e0 rfl (Ef.store [_, _, _] (by kernel_rfl) rfl rfl rfl rfl (by simp) ?_)
         try simp only [splice, List.length_cons, List.length_nil, List.drop_succ_cons, List.cons_append, List.take_succ_cons, List.take_zero, List.drop_zero, List.nil_append, List.append_nil]
         refine LW.done ?_
         refine T.ret ?_
         exact ⟨.inl rfl, _, _, res [_] rfl ⟨rvA [_, _, _] (by kernel_rfl) rfl ⟨rfl, rfl, rfl, trivial⟩, trivial⟩, ⟨by unfold reckonT at h; rw [if_neg h0, if_neg h1, if_neg h2, if_neg h3, if_neg h4, if_neg h5, if_neg h6, if_pos h7] at h; injection h with h; subst h; rfl, rfl⟩, Sub.any⟩
        ·
         have h9 : arithE op ai bi = .ok v := by unfold reckonT at h; rw [if_neg h0, if_neg h1, if_neg h2, if_neg h3, if_neg h4, if_neg h5, if_neg h6, if_neg h7] at h; exact h
         refine T.skip ?_
         refine T.seq ?_
         refine T.region ?_
         refine LW.q rfl (Qt.move rfl) ?_
         refine LW.q rfl (Qt.fieldAddr (off := 1) (by kernel_rfl) rfl) ?_
         first | refine LW.q rfl (Qt.load (by kernel_rfl) rfl rfl) ?_ | refine LW.q rfl (Qt.load (by kernel_rfl) rfl (map_at _ _ _ (by omega))) ?_ | refine LW.q rfl (Qt.load (by kernel_rfl) rfl (flat_cell0 _ _ _ (by intros; rfl) _ (by omega) (by rfl))) ?_ | refine LW.q rfl (Qt.load (by kernel_rfl) rfl (flat_cell _ _ _ (by intros; rfl) _ _ (by omega) (by rfl))) ?_ | refine LW.q rfl (Qt.load (by kernel_rfl) rfl (bytes_at _ _ (by omega))) ?_
         refine LW.q rfl (Qt.fieldAddr (off := 1) (by kernel_rfl) rfl) ?_
         first | refine LW.q rfl (Qt.load (by kernel_rfl) rfl rfl) ?_ | refine LW.q rfl (Qt.load (by kernel_rfl) rfl (map_at _ _ _ (by omega))) ?_ | refine LW.q rfl (Qt.load (by kernel_rfl) rfl (flat_cell0 _ _ _ (by intros; rfl) _ (by omega) (by rfl))) ?_ | refine LW.q rfl (Qt.load (by kernel_rfl) rfl (flat_cell _ _ _ (by intros; rfl) _ _ (by omega) (by rfl))) ?_ | refine LW.q rfl (Qt.load (by kernel_rfl) rfl (bytes_at _ _ (by omega))) ?_
         refine LW.e rfl (Ef.call (Bd.arithOk B op ai bi v h9) Try.func32 rfl rfl rfl ?_)
         rintro _ _ ⟨rfl, rfl⟩
         try simp only [List.cons_append, List.nil_append]
         refine LW.e0 rfl (Ef.store [_, _, _] (by kernel_rfl) rfl rfl rfl rfl (by simp) ?_)
         try simp only [splice, List.length_cons, List.length_nil, List.drop_succ_cons, List.cons_append, List.take_succ_cons, List.take_zero, List.drop_zero, List.nil_append, List.append_nil]
         refine LW.done ?_
         refine T.ret ?_
         exact ⟨.inl rfl, _, _, res [_] rfl ⟨rvA [_, _, _] (by kernel_rfl) rfl ⟨rfl, rfl, rfl, trivial⟩, trivial⟩, ⟨rfl, rfl⟩, Sub.any⟩
set_option maxHeartbeats 2000000 in
theorem Bd.reckonBad (B : Base) (op : Str) (a b : Va) (code : Int) (h : reckonT op a b = .error code) : Fx Try.prog B 33 #[tV op, vA a, vA b] [] (pvC code) := by
  have hn : ¬ op = [79, 82] ∧ ¬ op = [65, 78, 68] ∧ ¬ op = [61] ∧ ¬ op = [60, 62] ∧ ¬ op = [60, 61] ∧ ¬ op = [62, 61] ∧ ¬ op = [60] ∧ ¬ op = [62] ∧ arithE op a.int b.int = .error code := by
    unfold reckonT at h
    split at h
    · cases h
    split at h
    · cases h
    split at h
    · cases h
    split at h
    · cases h
    split at h
    · cases h
    split at h
    · cases h
    split at h
    · cases h
    split at h
    · cases h
    rename_i h0 h1 h2 h3 h4 h5 h6 h7
    exact ⟨h0, h1, h2, h3, h4, h5, h6, h7, h⟩
  obtain ⟨h0, h1, h2, h3, h4, h5, h6, h7, h9⟩ := hn
  obtain ⟨ak, ai, at0⟩ := a
  obtain ⟨bk, bi, bt⟩ := b
  refine Fx.enter3 79 Try.func33 rfl rfl (Nat.le_of_ble_eq_true rfl) (fun F => ?_)
  try simp only [List.cons_append, List.nil_append]
  refine T.seq ?_
  refine T.region ?_
  refine LW.e rfl (Ef.box [_, _, _] rfl rfl ?_)
  intro g4
  refine LW.e rfl (Ef.box [_, _, _] rfl rfl ?_)
  intro g5
  refine LW.e rfl (Ef.alloc [.int .i64 0, .int .i64 0, .string .empty] (by unfold zeroB; kernel_rfl) ?_)
  intro g6
  refine LW.done ?_
  refine T.seq ?_
  refine T.drawBl 12 none (by kernel_rfl) (Nat.le_of_ble_eq_true rfl) (by kernel_rfl) ?_
  refine RW.q 0 rfl rfl (by kernel_rfl) Sub.any (Qt.fieldAddr (off := 1) (by kernel_rfl) rfl) ?_
  first | refine RW.q 1 rfl rfl (by kernel_rfl) Sub.any (Qt.load (by kernel_rfl) rfl rfl) ?_ | refine RW.q 1 rfl rfl (by kernel_rfl) Sub.any (Qt.load (by kernel_rfl) rfl (map_at _ _ _ (by omega))) ?_ | refine RW.q 1 rfl rfl (by kernel_rfl) Sub.any (Qt.load (by kernel_rfl) rfl (flat_cell0 _ _ _ (by intros; rfl) _ (by omega) (by rfl))) ?_ | refine RW.q 1 rfl rfl (by kernel_rfl) Sub.any (Qt.load (by kernel_rfl) rfl (flat_cell _ _ _ (by intros; rfl) _ _ (by omega) (by rfl))) ?_ | refine RW.q 1 rfl rfl (by kernel_rfl) Sub.any (Qt.load (by kernel_rfl) rfl (bytes_at _ _ (by omega))) ?_
  refine RW.q 2 rfl rfl (by kernel_rfl) Sub.any (Qt.fieldAddr (off := 1) (by kernel_rfl) rfl) ?_
  first | refine RW.q 3 rfl rfl (by kernel_rfl) Sub.any (Qt.load (by kernel_rfl) rfl rfl) ?_ | refine RW.q 3 rfl rfl (by kernel_rfl) Sub.any (Qt.load (by kernel_rfl) rfl (map_at _ _ _ (by omega))) ?_ | refine RW.q 3 rfl rfl (by kernel_rfl) Sub.any (Qt.load (by kernel_rfl) rfl (flat_cell0 _ _ _ (by intros; rfl) _ (by omega) (by rfl))) ?_ | refine RW.q 3 rfl rfl (by kernel_rfl) Sub.any (Qt.load (by kernel_rfl) rfl (flat_cell _ _ _ (by intros; rfl) _ _ (by omega) (by rfl))) ?_ | refine RW.q 3 rfl rfl (by kernel_rfl) Sub.any (Qt.load (by kernel_rfl) rfl (bytes_at _ _ (by omega))) ?_
  refine RW.q 5 rfl rfl (by kernel_rfl) Sub.any (Qt.fieldAddr (off := 2) (by kernel_rfl) rfl) ?_
  first | refine RW.q 6 rfl rfl (by kernel_rfl) Sub.any (Qt.load (by kernel_rfl) rfl rfl) ?_ | refine RW.q 6 rfl rfl (by kernel_rfl) Sub.any (Qt.load (by kernel_rfl) rfl (map_at _ _ _ (by omega))) ?_ | refine RW.q 6 rfl rfl (by kernel_rfl) Sub.any (Qt.load (by kernel_rfl) rfl (flat_cell0 _ _ _ (by intros; rfl) _ (by omega) (by rfl))) ?_ | refine RW.q 6 rfl rfl (by kernel_rfl) Sub.any (Qt.load (by kernel_rfl) rfl (flat_cell _ _ _ (by intros; rfl) _ _ (by omega) (by rfl))) ?_ | refine RW.q 6 rfl rfl (by kernel_rfl) Sub.any (Qt.load (by kernel_rfl) rfl (bytes_at _ _ (by omega))) ?_
  refine RW.q 7 rfl rfl (by kernel_rfl) Sub.any (Qt.fieldAddr (off := 2) (by kernel_rfl) rfl) ?_
  first | refine RW.q 8 rfl rfl (by kernel_rfl) Sub.any (Qt.load (by kernel_rfl) rfl rfl) ?_ | refine RW.q 8 rfl rfl (by kernel_rfl) Sub.any (Qt.load (by kernel_rfl) rfl (map_at _ _ _ (by omega))) ?_ | refine RW.q 8 rfl rfl (by kernel_rfl) Sub.any (Qt.load (by kernel_rfl) rfl (flat_cell0 _ _ _ (by intros; rfl) _ (by omega) (by rfl))) ?_ | refine RW.q 8 rfl rfl (by kernel_rfl) Sub.any (Qt.load (by kernel_rfl) rfl (flat_cell _ _ _ (by intros; rfl) _ _ (by omega) (by rfl))) ?_ | refine RW.q 8 rfl rfl (by kernel_rfl) Sub.any (Qt.load (by kernel_rfl) rfl (bytes_at _ _ (by omega))) ?_
  refine RW.one 4 (by kernel_rfl) ?_
  refine RO.eS rfl rfl (Ef.call (Bd.compareI B ai bi) Try.func41 rfl rfl rfl ?_)
  rintro _ _ ⟨rfl, rfl⟩
  try simp only [List.cons_append, List.nil_append]
  refine ⟨Sub.any, ?_⟩
  refine RW.one 9 (by kernel_rfl) ?_
  refine RO.eS rfl rfl (Ef.call (Bd.compareS B at0 bt) Try.func42 rfl rfl rfl ?_)
  rintro _ _ ⟨rfl, rfl⟩
  try simp only [List.cons_append, List.nil_append]
  refine ⟨Sub.any, ?_⟩
  refine RW.one 10 (by kernel_rfl) ?_
  refine RO.eS rfl rfl (Ef.lit [_, _] (e := 3) (by kernel_rfl) (by kernel_rfl) rfl (by simp [Value.cells]) rfl (by omega) (by omega) ?_)
  intro g18
  refine ⟨Sub.any, ?_⟩
  refine RW.one 11 (by kernel_rfl) ?_
  refine RO.eS rfl rfl (Ef.call (Bd.or B g18 (cmpI ai bi) (cmpS at0 bt) 3) Try.func40 rfl rfl rfl ?_)
  rintro _ _ ⟨rfl, rfl⟩
  try simp only [List.cons_append, List.nil_append]
  refine ⟨Sub.any, ?_⟩
  refine RW.done (by rfl) ?_
  simp only [List.drop_succ_cons, List.drop_zero, List.drop_nil]
  refine LW.q rfl (Qt.assign rfl) ?_
  refine LW.done ?_
  refine T.seq ?_
  refine T.seq ?_
  refine T.region ?_
  refine LW.q rfl (Qt.move rfl) ?_
  refine LW.done ?_
  refine T.block ?_
  refine T.seq ?_
  refine T.region ?_
  refine LW.q rfl (Qt.eqlS rfl rfl) ?_
  refine LW.q rfl (Qt.assign rfl) ?_
  refine LW.done ?_
  first | refine T.condF rfl ?_ | refine T.condPF rfl ((h0)) ?_ | refine T.condBF rfl ((h0)) ?_
  refine T.seq ?_
  refine T.region ?_
  refine LW.q rfl (Qt.eqlS rfl rfl) ?_
  refine LW.q rfl (Qt.assign rfl) ?_
  refine LW.done ?_
  first | refine T.condF rfl ?_ | refine T.condPF rfl ((h1)) ?_ | refine T.condBF rfl ((h1)) ?_
  refine T.seq ?_
  refine T.region ?_
  refine LW.q rfl (Qt.eqlS rfl rfl) ?_
  refine LW.q rfl (Qt.assign rfl) ?_
  refine LW.done ?_
  first | refine T.condF rfl ?_ | refine T.condPF rfl ((h2)) ?_ | refine T.condBF rfl ((h2)) ?_
  refine T.seq ?_
  refine T.region ?_
  refine LW.q rfl (Qt.eqlS rfl rfl) ?_
  refine LW.q rfl (Qt.assign rfl) ?_
  refine LW.done ?_
  first | refine T.condF rfl ?_ | refine T.condPF rfl ((h3)) ?_ | refine T.condBF rfl ((h3)) ?_
  refine T.seq ?_
  refine T.region ?_
  refine LW.q rfl (Qt.eqlS rfl rfl) ?_
  refine LW.q rfl (Qt.assign rfl) ?_
  refine LW.done ?_
  first | refine T.condF rfl ?_ | refine T.condPF rfl ((h4)) ?_ | refine T.condBF rfl ((h4)) ?_
  refine T.seq ?_
  refine T.region ?_
  refine LW.q rfl (Qt.eqlS rfl rfl) ?_
  refine LW.q rfl (Qt.assign rfl) ?_
  refine LW.done ?_
  first | refine T.condF rfl ?_ | refine T.condPF rfl ((h5)) ?_ | refine T.condBF rfl ((h5)) ?_
  refine T.seq ?_
  refine T.region ?_
  refine LW.q rfl (Qt.eqlS rfl rfl) ?_
  refine LW.q rfl (Qt.assign rfl) ?_
  refine LW.done ?_
  first | refine T.condF rfl ?_ | refine T.condPF rfl ((h6)) ?_ | refine T.condBF rfl ((h6)) ?_
  refine T.seq ?_
  refine T.region ?_
  refine LW.q rfl (Qt.eqlS rfl rfl) ?_
  refine LW.q rfl (Qt.assign rfl) ?_
  refine LW.done ?_
  first | refine T.condF rfl ?_ | refine T.condPF rfl ((h7)) ?_ | refine T.condBF rfl ((h7)) ?_
  refine T.skip ?_
  refine T.seq ?_
  refine T.region ?_
  refine LW.q rfl (Qt.move rfl) ?_
  refine LW.q rfl (Qt.fieldAddr (off := 1) (by kernel_rfl) rfl) ?_
  first | refine LW.q rfl (Qt.load (by kernel_rfl) rfl rfl) ?_ | refine LW.q rfl (Qt.load (by kernel_rfl) rfl (map_at _ _ _ (by omega))) ?_ | refine LW.q rfl (Qt.load (by kernel_rfl) rfl (flat_cell0 _ _ _ (by intros; rfl) _ (by omega) (by rfl))) ?_ | refine LW.q rfl (Qt.load (by kernel_rfl) rfl (flat_cell _ _ _ (by intros; rfl) _ _ (by omega) (by rfl))) ?_ | refine LW.q rfl (Qt.load (by kernel_rfl) rfl (bytes_at _ _ (by omega))) ?_
  refine LW.q rfl (Qt.fieldAddr (off := 1) (by kernel_rfl) rfl) ?_
  first | refine LW.q rfl (Qt.load (by kernel_rfl) rfl rfl) ?_ | refine LW.q rfl (Qt.load (by kernel_rfl) rfl (map_at _ _ _ (by omega))) ?_ | refine LW.q rfl (Qt.load (by kernel_rfl) rfl (flat_cell0 _ _ _ (by intros; rfl) _ (by omega) (by rfl))) ?_ | refine LW.q rfl (Qt.load (by kernel_rfl) rfl (flat_cell _ _ _ (by intros; rfl) _ _ (by omega) (by rfl))) ?_ | refine LW.q rfl (Qt.load (by kernel_rfl) rfl (bytes_at _ _ (by omega))) ?_
  refine LW.dies rfl (Dx.call (Bd.arithBad B op ai bi code h9) Try.func32 rfl rfl rfl) ?_
  refine ⟨rfl, ?_⟩
  try simp only [List.cons_append, List.nil_append]
  exact Sub.any
end Go.Proofs.Ytopbkdpbljebgaa
