/- Rules for single operations: quiet ones and ones that act. Conditions: of each rule its own. -/
import Derived.Test.YtegohgaccmkigaaDoorSlB
set_option linter.unusedSimpArgs false
set_option linter.unusedVariables false
namespace Go.Proofs.YtegohgaccmkigaaDoor
open Go.RowKit

/-! facts of types, as Bools and options that a kernel reckons -/
def szOf (P : Program) (t : TypeId) : Option Nat := (P.info? t).map (·.size)
def fieldB (P : Program) (s i off : Nat) : Bool := match P.underlying s with
  | some (.struct fs) => match fs[i]? with
    | some f => f.offset == off && (match P.info? f.type with | some j => j.size != 0 | none => false)
    | none => false
  | _ => false
def oneB (P : Program) (t : TypeId) : Bool := match P.underlying t with
  | some (.struct _) => false
  | some (.array _ _) => false
  | some _ => decide (szOf P t = some 1)
  | none => false
def aggB (P : Program) (t : TypeId) (k : Nat) : Bool := match P.underlying t with
  | some (.struct _) => decide (szOf P t = some k)
  | some (.array _ _) => decide (szOf P t = some k)
  | _ => false
def sliceB (P : Program) (t e sz : Nat) : Bool := (match P.underlying t with | some (.slice e') => e' == e | _ => false) && decide (szOf P e = some sz)
def isStr (P : Program) (t : TypeId) : Bool := match P.underlying t with | some .string => true | _ => false
def isPtr (P : Program) (t : TypeId) : Bool := match P.underlying t with | some (.pointer _) => true | _ => false
def isInt (P : Program) (t : TypeId) (k : IntKind) : Bool := match P.underlying t with | some (.int k') => decide (k' = k) | _ => false
def zeroB (P : Program) (t : TypeId) (cs : List Value) : Prop := (P.info? t).bind (fun i => i.zero.map (·.cells)) = some cs.toArray

section
variable {P : Program} {B : Base} {n : Nat} {S l : List Assn} {f : Fr} {K : Value → List Assn → Prop}
variable {d : Option Tmp} {ty : TypeId} {pos : String} {af : Array Edge} {gd : Option (Nat × Bool)}

theorem info_of_size {t k : Nat} (h : szOf P t = some k) : ∃ i, P.info? t = some i ∧ i.size = k := by
  unfold szOf at h
  cases hi : P.info? t with
  | none => rw [hi] at h; cases h
  | some i => rw [hi] at h; exact ⟨i, rfl, by simpa using h⟩
theorem sliceB_spec {t e sz : Nat} (h : sliceB P t e sz = true) : P.underlying t = some (.slice e) ∧ szOf P e = some sz := by
  unfold sliceB at h
  simp only [Bool.and_eq_true, decide_eq_true_eq] at h
  refine ⟨?_, h.2⟩
  have h1 := h.1
  split at h1
  · rename_i e' he; simp at h1; subst h1; exact he
  · cases h1

theorem Qt.move {x : Operand} {v : Value} (hx : ev n f x = some v) : Qt P B n S ⟨d, .move x, ty, pos, af, gd⟩ f v := ⟨fun w _ => by
  simp [execOp, evu_eq hx]⟩
theorem Qt.assign {x : Operand} {v : Value} (hx : ev n f x = some v) : Qt P B n S ⟨d, .assign x, ty, pos, af, gd⟩ f v := ⟨fun w _ => by
  simp [execOp, evu_eq hx]⟩
theorem Qt.pick {c x y : Operand} {b : Bool} {v : Value} (hc : ev n f c = some (.bool b)) (hx : ev n f (bif b then x else y) = some v) : Qt P B n S ⟨d, .pick c x y, ty, pos, af, gd⟩ f v := ⟨fun w _ => by
  cases b <;> simp_all [execOp, evu_eq hc, evu, asBool]⟩
theorem Qt.nilCheck {x : Operand} {a : Addr} (hx : ev n f x = some (.pointer (some a))) : Qt P B n S ⟨d, .nilCheck x, ty, pos, af, gd⟩ f (.pointer (some a)) := ⟨fun w _ => by
  simp [execOp, evu_eq hx]⟩
theorem Qt.extract {x : Operand} {i : Nat} {vs : Array Value} {v : Value} (hx : ev n f x = some (.tuple vs)) (hv : vs[i]? = some v) : Qt P B n S ⟨d, .extract x i, ty, pos, af, gd⟩ f v := ⟨fun w _ => by
  simp [execOp, evu_eq hx, Instr.extract, hv]⟩

theorem Qt.fieldAddr {s i off g o : Nat} {x : Operand} (hf : fieldB P s i off = true) (hx : ev n f x = some (.pointer (some ⟨g, o, none⟩))) : Qt P B n S ⟨d, .fieldAddr s x i, ty, pos, af, gd⟩ f (.pointer (some ⟨g, o + off, none⟩)) := ⟨fun w _ => by
  unfold fieldB at hf
  split at hf
  · rename_i fs hu
    split at hf
    · rename_i fl hfl
      simp only [Bool.and_eq_true, beq_iff_eq] at hf
      obtain ⟨h1, h2⟩ := hf
      split at h2
      · rename_i j hj
        have hz : j.size ≠ 0 := by simpa using h2
        simp [execOp, Instr.fieldAt, run_underlying hu, hfl, evu_eq hx, Instr.sureAddr, fieldPlace, sizeOf, typeInfo, hj, hz, h1, Addr.add_mid]
      · cases h2
    · cases hf
  · cases hf⟩
theorem Qt.fieldAddr0 {s i g o : Nat} {x : Operand} (hf : fieldB P s i 0 = true) (hx : ev n f x = some (.pointer (some ⟨g, o, none⟩))) : Qt P B n S ⟨d, .fieldAddr s x i, ty, pos, af, gd⟩ f (.pointer (some ⟨g, o, none⟩)) := Qt.fieldAddr (off := 0) hf hx

/-- Block g's first cells are C, in each world that has S. -/
class Rd (B : Base) (g : Nat) (S : List Assn) (C : outParam (List Value)) : Prop where
  rd : ∀ w, Own B w S → ∃ X t fr, w.heap[g]? = some (.cells (C ++ X).toArray t fr)
class ROc (B : Base) (g : Nat) (C : outParam (List Value)) : Prop where
  rd : ∃ X t fr, B.ro g = some (.cells (C ++ X).toArray t fr)
instance (B : Base) (g : Nat) (S : List Assn) (C : List Value) [k : ROc B g C] : Rd B g S C := ⟨fun w H => by
  obtain ⟨X, t, fr, h⟩ := k.rd
  exact ⟨X, t, fr, H.ro.p _ _ h⟩⟩
instance (B : Base) (g : Nat) (S : List Assn) (C : List Value) [k : CellsAt g S C] : Rd B g S C := ⟨fun _ H => H.cells⟩
theorem Own.cell {w : World} {g o : Nat} {C : List Value} {v : Value} (H : Own B w l) [k : Rd B g l C] (hv : C[o]? = some v) : w.cell? ⟨g, o, none⟩ = some v := by
  obtain ⟨X, t, fr, h⟩ := k.rd w H
  rw [cell_of_row w g o _ _ _ h]
  have := (List.getElem?_eq_some_iff.1 hv).1
  simp [List.getElem?_append_left this, hv]
theorem Own.range {w : World} {g o : Nat} {C : List Value} {vs : List Value} (H : Own B w l) [k : Rd B g l C] (hv : ∀ j v, vs[j]? = some v → C[o + j]? = some v) : w.rangeAt g o vs := fun j v h => H.cell (hv j v h)

theorem Qt.load {t g o : Nat} {C : List Value} {x : Operand} {v : Value} (h1 : oneB P t = true) (hx : ev n f x = some (.pointer (some ⟨g, o, none⟩))) [k : Rd B g S C] (hv : C[o]? = some v) : Qt P B n S ⟨d, .load t x, ty, pos, af, gd⟩ f v := ⟨fun w ho => by
  have hc := ho.cell (g := g) (o := o) (C := C) hv
  unfold oneB at h1
  split at h1
  · cases h1
  · cases h1
  · rename_i dd n1 n2 hu
    have hagg : (isAgg t).run P w = .ok false w := by
      unfold isAgg
      simp only [Sem.run_bind, run_underlying hu, Result.andThen_ok]
      cases dd <;> first | exact (n1 _ rfl).elim | exact (n2 _ _ rfl).elim | rfl
    simp [execOp, evu_eq hx, Instr.loadAt, Instr.sureAddr, loadVar, hagg, Go.load, Sem.run, hc]
  · cases h1⟩
/-- The cells from o on are these. -/
def rdl (C : List Value) : Nat → List Value → Prop
  | _, [] => True
  | o, v :: vs => C[o]? = some v ∧ rdl C (o + 1) vs
theorem rdl_at {C : List Value} : ∀ {vs : List Value} {o : Nat}, rdl C o vs → ∀ j v, vs[j]? = some v → C[o + j]? = some v
  | [], _, _, j, v, h => by simp at h
  | u :: vs, o, ⟨h1, h2⟩, 0, v, h => by simp at h; subst h; exact h1
  | u :: vs, o, ⟨h1, h2⟩, j + 1, v, h => by
    have := rdl_at h2 j v (by simpa using h)
    rwa [Nat.add_assoc, Nat.add_comm 1 j] at this
theorem Qt.loadAgg {t g o : Nat} {C : List Value} {x : Operand} (vs : List Value) (h1 : aggB P t vs.length = true) (hx : ev n f x = some (.pointer (some ⟨g, o, none⟩))) [k : Rd B g S C] (hv : rdl C o vs) : Qt P B n S ⟨d, .load t x, ty, pos, af, gd⟩ f (.agg vs.toArray) := ⟨fun w ho => by
  have hr := ho.range (g := g) (o := o) (C := C) (rdl_at hv)
  unfold aggB at h1
  split at h1
  · rename_i fs hu
    have := run_loadAt_mid (P := P) w g o t vs _ hr hu rfl (by simpa [szOf] using h1)
    simp [execOp, evu_eq hx, this]
  · rename_i a b hu
    have := run_loadAt_mid (P := P) w g o t vs _ hr hu rfl (by simpa [szOf] using h1)
    simp [execOp, evu_eq hx, this]
  · cases h1⟩

theorem rvC {t g o a : Nat} {C : List Value} {v : Value} (h1 : oneB P t = true) (hx : ev n f (.tmp a) = some (.pointer (some ⟨g, o, none⟩))) [k : Rd B g l C] (hv : C[o]? = some v) : RVal P B n l f (.cell a t) v := ⟨fun w ho => by
  have := (Qt.load (B := B) (S := l) (d := none) (ty := 0) (pos := "") (af := #[]) (gd := none) h1 hx (k := k) hv).run w ho
  simp only [execOp, evu_eq hx, Instr.loadAt, Instr.sureAddr, Sem.run_bind, Sem.run_pure, Result.andThen_ok] at this
  simp only [rvSem, getD_tm, evu_eq hx, asAddr, Sem.run_bind, Sem.run_pure, Result.andThen_ok]
  cases h : (loadVar t ⟨g, o, none⟩).run P w with
  | ok a w' => rw [h] at this; simp at this; rw [this.1, this.2]
  | halt a w' => rw [h] at this; simp at this⟩
theorem rvA {t g o a : Nat} {C : List Value} (vs : List Value) (h1 : aggB P t vs.length = true) (hx : ev n f (.tmp a) = some (.pointer (some ⟨g, o, none⟩))) [k : Rd B g l C] (hv : rdl C o vs) : RVal P B n l f (.cell a t) (.agg vs.toArray) := ⟨fun w ho => by
  have := (Qt.loadAgg (B := B) (S := l) (d := none) (ty := 0) (pos := "") (af := #[]) (gd := none) vs h1 hx (k := k) hv).run w ho
  simp only [execOp, evu_eq hx, Instr.loadAt, Instr.sureAddr, Sem.run_bind, Sem.run_pure, Result.andThen_ok] at this
  simp only [rvSem, getD_tm, evu_eq hx, asAddr, Sem.run_bind, Sem.run_pure, Result.andThen_ok]
  cases h : (loadVar t ⟨g, o, none⟩).run P w with
  | ok a w' => rw [h] at this; simp at this; rw [this.1, this.2]
  | halt a w' => rw [h] at this; simp at this⟩

/-! numbers -/
theorem wr64 {x : Int} (h0 : -9223372036854775808 ≤ x) (h1 : x < 9223372036854775808) : IntKind.i64.wrap x = x := by
  simp only [IntKind.wrap, IntKind.bits, IntKind.signed]
  simp
  omega
theorem wr8 {x : Int} (h0 : 0 ≤ x) (h1 : x < 256) : IntKind.u8.wrap x = x := by
  simp only [IntKind.wrap, IntKind.bits, IntKind.signed]; simp; omega
theorem wru64 {x : Int} (h0 : 0 ≤ x) (h1 : x < 18446744073709551616) : IntKind.u64.wrap x = x := by
  simp only [IntKind.wrap, IntKind.bits, IntKind.signed]; simp; omega
theorem wru32 {x : Int} (h0 : 0 ≤ x) (h1 : x < 4294967296) : IntKind.u32.wrap x = x := by
  simp only [IntKind.wrap, IntKind.bits, IntKind.signed]; simp; omega

theorem Qt.arith {op : BinOp} {t t2 : TypeId} {x y : Operand} {k : IntKind} {a b r : Int} (hop : (op = .add ∧ k.wrap (a + b) = r) ∨ (op = .sub ∧ k.wrap (a - b) = r) ∨ (op = .mul ∧ k.wrap (a * b) = r)) (hx : ev n f x = some (.int k a)) (hy : ev n f y = some (.int k b)) :
    Qt P B n S ⟨d, .binOp op t x y t2, ty, pos, af, gd⟩ f (.int k r) := ⟨fun w _ => by
  rcases hop with ⟨rfl, hr⟩ | ⟨rfl, hr⟩ | ⟨rfl, hr⟩ <;> simp [execOp, evu_eq hx, evu_eq hy, eqGuard, Go.binOp, Op.intArith, hr]⟩
theorem Qt.add {t t2 : TypeId} {x y : Operand} {k : IntKind} {a b r : Int} (hx : ev n f x = some (.int k a)) (hy : ev n f y = some (.int k b)) (hr : k.wrap (a + b) = r) : Qt P B n S ⟨d, .binOp .add t x y t2, ty, pos, af, gd⟩ f (.int k r) := Qt.arith (.inl ⟨rfl, hr⟩) hx hy
theorem Qt.sub {t t2 : TypeId} {x y : Operand} {k : IntKind} {a b r : Int} (hx : ev n f x = some (.int k a)) (hy : ev n f y = some (.int k b)) (hr : k.wrap (a - b) = r) : Qt P B n S ⟨d, .binOp .sub t x y t2, ty, pos, af, gd⟩ f (.int k r) := Qt.arith (.inr (.inl ⟨rfl, hr⟩)) hx hy
theorem Qt.mul {t t2 : TypeId} {x y : Operand} {k : IntKind} {a b r : Int} (hx : ev n f x = some (.int k a)) (hy : ev n f y = some (.int k b)) (hr : k.wrap (a * b) = r) : Qt P B n S ⟨d, .binOp .mul t x y t2, ty, pos, af, gd⟩ f (.int k r) := Qt.arith (.inr (.inr ⟨rfl, hr⟩)) hx hy
theorem Qt.quo {t t2 : TypeId} {x y : Operand} {k : IntKind} {a b r : Int} (hx : ev n f x = some (.int k a)) (hy : ev n f y = some (.int k b)) (h0 : b ≠ 0) (hr : k.wrap (a.tdiv b) = r) : Qt P B n S ⟨d, .binOp .quo t x y t2, ty, pos, af, gd⟩ f (.int k r) := ⟨fun w _ => by
  simp [execOp, evu_eq hx, evu_eq hy, eqGuard, Go.binOp, Op.intDiv, h0, hr]⟩
theorem Qt.rem {t t2 : TypeId} {x y : Operand} {k : IntKind} {a b r : Int} (hx : ev n f x = some (.int k a)) (hy : ev n f y = some (.int k b)) (h0 : b ≠ 0) (hr : a.tmod b = r) : Qt P B n S ⟨d, .binOp .rem t x y t2, ty, pos, af, gd⟩ f (.int k r) := ⟨fun w _ => by
  simp [execOp, evu_eq hx, evu_eq hy, eqGuard, Go.binOp, Op.intDiv, h0, hr]⟩
theorem Qt.lss {t t2 : TypeId} {x y : Operand} {k : IntKind} {a b : Int} (hx : ev n f x = some (.int k a)) (hy : ev n f y = some (.int k b)) : Qt P B n S ⟨d, .binOp .lss t x y t2, ty, pos, af, gd⟩ f (.bool (decide (a < b))) := ⟨fun w _ => by
  simp [execOp, evu_eq hx, evu_eq hy, eqGuard, Go.binOp, Op.intCmp]⟩
theorem Qt.leq {t t2 : TypeId} {x y : Operand} {k : IntKind} {a b : Int} (hx : ev n f x = some (.int k a)) (hy : ev n f y = some (.int k b)) : Qt P B n S ⟨d, .binOp .leq t x y t2, ty, pos, af, gd⟩ f (.bool (decide (a ≤ b))) := ⟨fun w _ => by
  simp [execOp, evu_eq hx, evu_eq hy, eqGuard, Go.binOp, Op.intCmp]⟩
theorem Qt.gtr {t t2 : TypeId} {x y : Operand} {k : IntKind} {a b : Int} (hx : ev n f x = some (.int k a)) (hy : ev n f y = some (.int k b)) : Qt P B n S ⟨d, .binOp .gtr t x y t2, ty, pos, af, gd⟩ f (.bool (decide (b < a))) := ⟨fun w _ => by
  simp [execOp, evu_eq hx, evu_eq hy, eqGuard, Go.binOp, Op.intCmp]⟩
theorem Qt.geq {t t2 : TypeId} {x y : Operand} {k : IntKind} {a b : Int} (hx : ev n f x = some (.int k a)) (hy : ev n f y = some (.int k b)) : Qt P B n S ⟨d, .binOp .geq t x y t2, ty, pos, af, gd⟩ f (.bool (decide (b ≤ a))) := ⟨fun w _ => by
  simp [execOp, evu_eq hx, evu_eq hy, eqGuard, Go.binOp, Op.intCmp]⟩
theorem Qt.eql {t t2 : TypeId} {x y : Operand} {k : IntKind} {a b : Int} (hx : ev n f x = some (.int k a)) (hy : ev n f y = some (.int k b)) : Qt P B n S ⟨d, .binOp .eql t x y t2, ty, pos, af, gd⟩ f (.bool (decide (a = b))) := ⟨fun w _ => by
  have : (a == b) = decide (a = b) := rfl
  simp [execOp, evu_eq hx, evu_eq hy, eqGuard, Go.binOp, Op.intCmp, this]⟩
theorem Qt.neq {t t2 : TypeId} {x y : Operand} {k : IntKind} {a b : Int} (hx : ev n f x = some (.int k a)) (hy : ev n f y = some (.int k b)) : Qt P B n S ⟨d, .binOp .neq t x y t2, ty, pos, af, gd⟩ f (.bool (decide (a ≠ b))) := ⟨fun w _ => by
  have : (a != b) = decide (a ≠ b) := by by_cases h : a = b <;> simp [h]
  simp [execOp, evu_eq hx, evu_eq hy, eqGuard, Go.binOp, Op.intCmp, this]⟩
theorem Qt.eqlS {t t2 : TypeId} {x y : Operand} {a b : List UInt8} (hx : ev n f x = some (.string (strOf a))) (hy : ev n f y = some (.string (strOf b))) : Qt P B n S ⟨d, .binOp .eql t x y t2, ty, pos, af, gd⟩ f (.bool (decide (a = b))) := ⟨fun w _ => by
  have : ((strOf a).toList == (strOf b).toList) = decide (a = b) := by
    have e : ∀ l : List UInt8, (strOf l).toList = l := fun l => ByteArray.toList_mk l
    rw [e, e]
    by_cases h : a = b <;> simp [h]
  simp [execOp, evu_eq hx, evu_eq hy, eqGuard, Go.binOp, Op.stringOp, this]⟩
theorem Qt.notP {t : TypeId} {x : Operand} {p : Prop} [i : Decidable p] (hx : ev n f x = some (.bool (decide p))) : Qt P B n S ⟨d, .unOp .not t x, ty, pos, af, gd⟩ f (.bool (decide (¬ p))) := ⟨fun w _ => by
  simp [execOp, evu_eq hx, Op.unary]⟩
theorem Qt.notB {t : TypeId} {x : Operand} {b : Bool} (hx : ev n f x = some (.bool b)) : Qt P B n S ⟨d, .unOp .not t x, ty, pos, af, gd⟩ f (.bool (!b)) := ⟨fun w _ => by
  simp [execOp, evu_eq hx, Op.unary]⟩
theorem Qt.convI {s t : TypeId} {x : Operand} {k k' : IntKind} {a r : Int} (hs : (P.underlying s).isSome = true) (ht : isInt P t k' = true) (hx : ev n f x = some (.int k a)) (hr : k'.wrap a = r) : Qt P B n S ⟨d, .convert s t x, ty, pos, af, gd⟩ f (.int k' r) := ⟨fun w _ => by
  unfold isInt at ht
  split at ht
  · rename_i k2 hu
    simp at ht; subst ht
    obtain ⟨ds, hds⟩ := Option.isSome_iff_exists.1 hs
    have : (convert s t (.int k a)).run P w = .ok (.int k2 r) w := by
      unfold convert
      simp [run_underlying hds, run_underlying hu, Conv.intToInt, hr]
    simp [execOp, evu_eq hx, this]
  · cases ht⟩
theorem Qt.len {t : TypeId} {e sz : Nat} {x : Operand} {p : Option Addr} {len cap : Nat} {ty2 : TypeId} (ht : sliceB P t e sz = true) (hx : ev n f x = some (.slice p len cap)) : Qt P B n S ⟨d, .call ⟨.builtin .len, #[x], #[t]⟩, ty2, pos, af, gd⟩ f (.int .i64 len) := ⟨fun w _ => by
  obtain ⟨h1, _⟩ := sliceB_spec ht
  simp [execOp, resolve, invoke, builtin, Builtin.len_, evu_eq hx, run_underlying h1, goInt]⟩
theorem Qt.lenS {t : TypeId} {x : Operand} {s : ByteArray} (ht : isStr P t = true) (hx : ev n f x = some (.string s)) : Qt P B n S ⟨d, .call ⟨.builtin .len, #[x], #[t]⟩, ty, pos, af, gd⟩ f (.int .i64 s.size) := ⟨fun w _ => by
  unfold isStr at ht
  split at ht
  · rename_i hu; simp [execOp, resolve, invoke, builtin, Builtin.len_, evu_eq hx, run_underlying hu, goInt]
  · cases ht⟩
theorem run_eql_ptrnil {w : World} {t e : TypeId} (hu : P.underlying t = some (.pointer e)) (p : Option Addr) : (Go.binOp .eql t (.pointer p) (.pointer none)).run P w = .ok (.bool p.isNone) w ∧ (Go.binOp .neq t (.pointer p) (.pointer none)).run P w = .ok (.bool !p.isNone) w := by
  have : (Op.equal t (.pointer p) (.pointer none)).run P w = .ok p.isNone w := by
    show (Op.equalIn (9999 + 1) t (.pointer p) (.pointer none)).run P w = _
    rw [Op.equalIn]
    cases p <;> simp [run_underlying hu]
  constructor <;> simp [Go.binOp, this]
theorem Qt.eqlNil {t t2 : TypeId} {x y : Operand} {a : Addr} (ht : isPtr P t = true) (hx : ev n f x = some (.pointer (some a))) (hy : ev n f y = some (.pointer none)) : Qt P B n S ⟨d, .binOp .eql t x y t2, ty, pos, af, gd⟩ f (.bool false) := ⟨fun w _ => by
  unfold isPtr at ht
  split at ht
  · rename_i hu; have he := run_eql_ptrnil (P := P) (w := w) (t := t) hu
    simp [execOp, evu_eq hx, evu_eq hy, eqGuard, he]
  · cases ht⟩
theorem Qt.neqNil {t t2 : TypeId} {x y : Operand} {a : Addr} (ht : isPtr P t = true) (hx : ev n f x = some (.pointer (some a))) (hy : ev n f y = some (.pointer none)) : Qt P B n S ⟨d, .binOp .neq t x y t2, ty, pos, af, gd⟩ f (.bool true) := ⟨fun w _ => by
  unfold isPtr at ht
  split at ht
  · rename_i hu; have he := run_eql_ptrnil (P := P) (w := w) (t := t) hu
    simp [execOp, evu_eq hx, evu_eq hy, eqGuard, he]
  · cases ht⟩
theorem Qt.eqlNN {t t2 : TypeId} {x y : Operand} (ht : isPtr P t = true) (hx : ev n f x = some (.pointer none)) (hy : ev n f y = some (.pointer none)) : Qt P B n S ⟨d, .binOp .eql t x y t2, ty, pos, af, gd⟩ f (.bool true) := ⟨fun w _ => by
  unfold isPtr at ht
  split at ht
  · rename_i hu; have he := run_eql_ptrnil (P := P) (w := w) (t := t) hu
    simp [execOp, evu_eq hx, evu_eq hy, eqGuard, he]
  · cases ht⟩
theorem Qt.neqNN {t t2 : TypeId} {x y : Operand} (ht : isPtr P t = true) (hx : ev n f x = some (.pointer none)) (hy : ev n f y = some (.pointer none)) : Qt P B n S ⟨d, .binOp .neq t x y t2, ty, pos, af, gd⟩ f (.bool false) := ⟨fun w _ => by
  unfold isPtr at ht
  split at ht
  · rename_i hu; have he := run_eql_ptrnil (P := P) (w := w) (t := t) hu
    simp [execOp, evu_eq hx, evu_eq hy, eqGuard, he]
  · cases ht⟩
theorem Qt.index {t e sz : Nat} {x y : Operand} {g o len cap : Nat} {k : IntKind} {i : Int} (j : Nat) (ht : sliceB P t e sz = true) (hx : ev n f x = some (.slice (some ⟨g, o, none⟩) len cap)) (hy : ev n f y = some (.int k i)) (hj : i = (j : Int)) (hl : j < len) :
    Qt P B n S ⟨d, .indexAddr t x y, ty, pos, af, gd⟩ f (.pointer (some ⟨g, o + j * sz, none⟩)) := ⟨fun w _ => by
  obtain ⟨h1, h2⟩ := sliceB_spec ht
  obtain ⟨i', hi, hs⟩ := info_of_size h2
  subst hj
  simp [execOp, Instr.indexAt, evu_eq hx, evu_eq hy, asIntOf, run_underlying h1, sizeOf, typeInfo, hi, hs, hl, Addr.add_mid]⟩

/-! what acts -/
theorem Ef.call {g : FuncId} {fn : Func} {args : Array Operand} {ats : Array TypeId} {vs : List Value} {pre F : List Assn} {R : Value → List Assn → Prop} (hc : Fn P B g vs.toArray pre R) (hf : P.funcs[g]? = some fn) (hn : (fn.name == "runtime.NumGoroutine") = false) (hb : fn.body.isNone = false)
    (ha : args.toList.map (ev n f) = vs.map some) [k : TakeL pre l F] (h : ∀ v l', R v l' → K v (l' ++ F)) : Ef P B n ⟨d, .call ⟨.value (.func g), args, ats⟩, ty, pos, af, gd⟩ f l K := ⟨fun w next Q ho hk => by
  have hav : args.map (evu n f) = vs.toArray := by
    have : args.toList.map (evu n f) = vs := by
      have e := congrArg (List.map (fun o : Option Value => o.getD undef)) ha
      have e2 : (fun x => evu n f x) = evu n f := rfl
      simp only [List.map_map, Function.comp_def, Option.getD_some, List.map_id'] at e
      exact e
    rw [← Array.toList_inj, Array.toList_map]
    simpa using this
  have h0 := hc.run w F ho.takeL
  unfold Oper.wp execOp
  rw [eval_act']
  have he : ((do let c ← resolve (evu n f) ⟨.value (.func g), args, ats⟩ ty; invoke c.target c.args) : Sem Next).run P w = .ok (.enter g vs.toArray) w := by
    simp only [resolve, hav]
    have hg : evu n f (.func g) = .func (.func g) #[] #[] := rfl
    have hn' : ¬ fn.name = "runtime.NumGoroutine" := by simpa using hn
    have hb' : ¬ fn.body = none := fun e => by rw [e] at hb; cases hb
    simp [hg, Deferred.ofValue, invoke, callFunc, hf, hn', hb']
  rw [he]
  show Calls P g vs.toArray w _
  refine Calls.mono h0 ?_
  rintro e w' ⟨v, l', rfl, hR, ho'⟩
  exact hk v w' _ (h v l' hR) ho'⟩
/-- A call by a contract over all that there is. -/
theorem Ef.callL {g : FuncId} {fn : Func} {args : Array Operand} {ats : Array TypeId} {vs : List Value} {R : Value → List Assn → Prop} (hc : Fn P B g vs.toArray l R) (hf : P.funcs[g]? = some fn) (hn : (fn.name == "runtime.NumGoroutine") = false) (hb : fn.body.isNone = false)
    (ha : args.toList.map (ev n f) = vs.map some) (h : ∀ v l', R v l' → K v l') : Ef P B n ⟨d, .call ⟨.value (.func g), args, ats⟩, ty, pos, af, gd⟩ f l K := ⟨fun w next Q ho hk => by
  have hp : Fn P B g vs.toArray l (fun v l' => R v l') := hc
  refine (Ef.call (K := fun v l' => ∃ l2, l' = l2 ++ [] ∧ K v l2) hc hf hn hb ha (k := ⟨fun _ H => by rw [List.append_nil]; exact H⟩) (F := []) (fun v l' hR => ⟨l', rfl, h v l' hR⟩)).run w next Q ho ?_
  rintro v w' l' ⟨l2, rfl, hk2⟩ ho'
  rw [List.append_nil] at ho'
  exact hk v w' l2 hk2 ho'⟩
end
end Go.Proofs.YtegohgaccmkigaaDoor
