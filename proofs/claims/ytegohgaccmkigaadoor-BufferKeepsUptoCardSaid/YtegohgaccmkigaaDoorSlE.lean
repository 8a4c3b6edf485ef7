/- More rules: strings' parts and sums, arrays' elements, bools; rows' cells; making slices. Conditions: of each rule its own. -/
import Derived.Test.YtegohgaccmkigaaDoorSlD
set_option linter.unusedSimpArgs false
set_option linter.unusedVariables false
namespace Go.Proofs.YtegohgaccmkigaaDoor
open Go.RowKit
section
variable {P : Program} {B : Base} {n : Nat} {S l r : List Assn} {f : Fr} {K : Value → List Assn → Prop}
variable {d : Option Tmp} {ty : TypeId} {pos : String} {af : Array Edge} {gd : Option (Nat × Bool)}

theorem strOf_toList (l : List UInt8) : (strOf l).toList = l := ByteArray.toList_mk l
theorem Qt.neqS {t t2 : TypeId} {x y : Operand} {a b : List UInt8} (hx : ev n f x = some (.string (strOf a))) (hy : ev n f y = some (.string (strOf b))) : Qt P B n S ⟨d, .binOp .neq t x y t2, ty, pos, af, gd⟩ f (.bool (decide (a ≠ b))) := ⟨fun w _ => by
  have : (!(a == b)) = decide (a ≠ b) := by by_cases h : a = b <;> simp [h]
  simp [execOp, evu_eq hx, evu_eq hy, eqGuard, Go.binOp, Op.stringOp, strOf_toList, this]⟩
theorem strOf_add (a b : List UInt8) : strOf a ++ strOf b = strOf (a ++ b) := by
  apply ByteArray.ext
  simp [strOf]
theorem Qt.addS {t t2 : TypeId} {x y : Operand} {a b : List UInt8} (hx : ev n f x = some (.string (strOf a))) (hy : ev n f y = some (.string (strOf b))) (hl : a.length + b.length ≤ 9223372036854775807) : Qt P B n S ⟨d, .binOp .add t x y t2, ty, pos, af, gd⟩ f (.string (strOf (a ++ b))) := ⟨fun w _ => by
  have h' : ((strOf a).size : Int) + ((strOf b).size : Int) ≤ 9223372036854775807 := by
    rw [size_strOf, size_strOf]; omega
  simp [execOp, evu_eq hx, evu_eq hy, eqGuard, Go.binOp, Op.stringOp, h', strOf_add, IntKind.max, IntKind.bits, IntKind.signed]⟩
theorem strOf_extract (a : List UInt8) (i j : Nat) : (strOf a).extract i j = strOf ((a.take j).drop i) := by
  apply ByteArray.ext
  simp [strOf, List.extract_eq_take_drop, List.drop_take]
theorem Qt.eqlB {t t2 : TypeId} {x y : Operand} {a b : Bool} (ht : (match P.underlying t with | some .bool => true | _ => false) = true) (hx : ev n f x = some (.bool a)) (hy : ev n f y = some (.bool b)) : Qt P B n S ⟨d, .binOp .eql t x y t2, ty, pos, af, gd⟩ f (.bool (a == b)) := ⟨fun w _ => by
  split at ht
  · rename_i hu
    have : (Op.equal t (.bool a) (.bool b)).run P w = .ok (a == b) w := by
      show (Op.equalIn (9999 + 1) t (.bool a) (.bool b)).run P w = _
      rw [Op.equalIn]; simp [run_underlying hu]
    simp [execOp, evu_eq hx, evu_eq hy, eqGuard, Go.binOp, this]
  · cases ht⟩
theorem Qt.neqB {t t2 : TypeId} {x y : Operand} {a b : Bool} (ht : (match P.underlying t with | some .bool => true | _ => false) = true) (hx : ev n f x = some (.bool a)) (hy : ev n f y = some (.bool b)) : Qt P B n S ⟨d, .binOp .neq t x y t2, ty, pos, af, gd⟩ f (.bool (!(a == b))) := ⟨fun w _ => by
  split at ht
  · rename_i hu
    have : (Op.equal t (.bool a) (.bool b)).run P w = .ok (a == b) w := by
      show (Op.equalIn (9999 + 1) t (.bool a) (.bool b)).run P w = _
      rw [Op.equalIn]; simp [run_underlying hu]
    simp [execOp, evu_eq hx, evu_eq hy, eqGuard, Go.binOp, this]
  · cases ht⟩
def arrB (P : Program) (t len e sz : Nat) : Bool := (match P.underlying t with | some (.array m e') => e' == e && m == len | _ => false) && decide (szOf P e = some sz)
theorem Qt.indexA {t len e sz : Nat} {x y : Operand} {g o : Nat} {k : IntKind} {i : Int} (j : Nat) (ht : arrB P t len e sz = true) (hx : ev n f x = some (.pointer (some ⟨g, o, none⟩))) (hy : ev n f y = some (.int k i)) (hj : i = (j : Int)) (hl : j < len) :
    Qt P B n S ⟨d, .indexAddr t x y, ty, pos, af, gd⟩ f (.pointer (some ⟨g, o + j * sz, none⟩)) := ⟨fun w _ => by
  unfold arrB at ht
  simp only [Bool.and_eq_true, decide_eq_true_eq] at ht
  obtain ⟨h1, h2⟩ := ht
  split at h1
  · rename_i m e' hu
    simp at h1
    obtain ⟨rfl, rfl⟩ := h1
    obtain ⟨i', hi, hs⟩ := info_of_size h2
    subst hj
    simp [execOp, Instr.indexAt, evu_eq hx, evu_eq hy, asIntOf, run_underlying hu, Instr.sureAddr, sizeOf, typeInfo, hi, hs, hl, Addr.add_mid]
  · cases h1⟩
/-- A sub-string's bounds. -/
theorem Qt.sliceS_ns {t : TypeId} {x y : Operand} {a : List UInt8} {k : IntKind} {i : Int} (j : Nat) (ht : isStr P t = true) (hx : ev n f x = some (.string (strOf a))) (hy : ev n f y = some (.int k i)) (hj : i = (j : Int)) (hl : j ≤ a.length) :
    Qt P B n S ⟨d, .slice t x none (some y) none, ty, pos, af, gd⟩ f (.string (strOf (a.take j))) := ⟨fun w _ => by
  unfold isStr at ht
  split at ht
  · rename_i hu
    subst hj
    have hs := strOf_extract a 0 j
    simp only [List.drop_zero] at hs
    simp [execOp, Instr.sliceAt, run_underlying hu, evu_eq hx, evu_eq hy, Instr.slice, Instr.sliceBounds, Instr.sliceBound, asIntOf, size_strOf, hl, hs]
  · cases ht⟩
theorem Qt.sliceS_sn {t : TypeId} {x y : Operand} {a : List UInt8} {k : IntKind} {i : Int} (j : Nat) (ht : isStr P t = true) (hx : ev n f x = some (.string (strOf a))) (hy : ev n f y = some (.int k i)) (hj : i = (j : Int)) (hl : j ≤ a.length) :
    Qt P B n S ⟨d, .slice t x (some y) none none, ty, pos, af, gd⟩ f (.string (strOf (a.drop j))) := ⟨fun w _ => by
  unfold isStr at ht
  split at ht
  · rename_i hu
    subst hj
    have hs := strOf_extract a j a.length
    simp only [List.take_length] at hs
    simp [execOp, Instr.sliceAt, run_underlying hu, evu_eq hx, evu_eq hy, Instr.slice, Instr.sliceBounds, Instr.sliceBound, asIntOf, size_strOf, hl, hs]
  · cases ht⟩
theorem Qt.lenSt {t : TypeId} {x : Operand} {a : List UInt8} (ht : isStr P t = true) (hx : ev n f x = some (.string (strOf a))) : Qt P B n S ⟨d, .call ⟨.builtin .len, #[x], #[t]⟩, ty, pos, af, gd⟩ f (.int .i64 a.length) := by
  have := Qt.lenS (B := B) (S := S) (d := d) (ty := ty) (pos := pos) (af := af) (gd := gd) ht hx
  rwa [size_strOf] at this
theorem SrcOf.blk {tx sz g m cap : Nat} {C : List Value} [k : Rd B g l C] (hk : sliceZ P tx sz = true) (hl : C.length = m * sz) (h1 : ∀ x ∈ C, x.oneCell' = true) : SrcOf P B l sz tx (.slice (some ⟨g, 0, none⟩) m cap) m C := SrcOf.cells (g := g) (o := 0) hk (fun j v h => by rw [Nat.zero_add]; exact h) hl h1
theorem map_snoc {α β : Type} (g : α → β) (l : List α) (a : α) : l.map g ++ [g a] = (l ++ [a]).map g := by simp
theorem flat_snoc {α β : Type} (g : α → List β) (l : List α) (a : α) : l.flatMap g ++ g a = (l ++ [a]).flatMap g := by simp
/-! rows' cells -/
theorem map_at {α : Type} (g : α → Value) (xs : List α) (j : Nat) (h : j < xs.length) : (xs.map g)[0 + j * 1]? = some (g xs[j]) := by simp [h]
theorem flat_cell {α : Type} (g : α → List Value) (sz : Nat) (xs : List α) (hg : ∀ x ∈ xs, (g x).length = sz) (j k : Nat) (hj : j < xs.length) {v : Value} (hv : (g xs[j])[k]? = some v) : (xs.flatMap g)[0 + j * sz + k]? = some v := by
  rw [Nat.zero_add, ← List.getElem?_drop, flat_drop g sz xs hg j hj, List.getElem?_append_left (List.getElem?_eq_some_iff.1 hv).1]
  exact hv
theorem flat_cell0 {α : Type} (g : α → List Value) (sz : Nat) (xs : List α) (hg : ∀ x ∈ xs, (g x).length = sz) (j : Nat) (hj : j < xs.length) {v : Value} (hv : (g xs[j])[0]? = some v) : (xs.flatMap g)[0 + j * sz]? = some v := flat_cell g sz xs hg j 0 hj hv
theorem rdl_of {C : List Value} : ∀ {vs : List Value} {o : Nat}, (∀ j v, vs[j]? = some v → C[o + j]? = some v) → rdl C o vs
  | [], _, _ => trivial
  | v :: vs, o, h => ⟨h 0 v rfl, rdl_of fun j u hu => by have := h (j + 1) u (by simpa using hu); rwa [Nat.add_assoc, Nat.add_comm 1 j]⟩
theorem rdl_flat {α : Type} (g : α → List Value) (sz : Nat) (xs : List α) (hg : ∀ x ∈ xs, (g x).length = sz) (j : Nat) (hj : j < xs.length) : rdl (xs.flatMap g) (0 + j * sz) (g xs[j]) :=
  rdl_of fun k _ hv => flat_cell g sz xs hg j k hj hv
theorem set_map {α : Type} (g : α → Value) (xs : List α) (j : Nat) (x : α) : (xs.map g).set (0 + j * 1) (g x) = (xs.set j x).map g := by simp
theorem bytes_at (b : List UInt8) (j : Nat) (h : j < b.length) : (bytesV b)[0 + j * 1]? = some (.int .u8 b[j].toNat) := by simp [bytesV, h]

theorem Own.slice_at {w : World} {p : Option Addr} {m c e sz k : Nat} {xs : List Value} (H : Own B w l) [t : TakeR (.slice p m c) l e sz k xs r] : m = k ∧ (0 < k → ∃ g, p = some ⟨g, 0, none⟩) ∧ xs.length = k * sz := by
  obtain ⟨p', c', h1, h2, h3⟩ := (H.takeR (k := t)).row_slice
  injection h1 with a b _
  subst a
  exact ⟨b, h2, h3⟩
theorem Own.cap_at {w : World} {p : Option Addr} {m c e sz k : Nat} {xs : List Value} (H : Own B w l) [t : TakeR (.slice p m c) l e sz k xs r] : m ≤ c := owns_cap (by have h := (H.takeR (k := t)).row_owns; rw [← (H.slice_at (t := t)).1] at h; exact h)
theorem Own.reads_row {w : World} {p : Option Addr} {e m cap : Nat} {b : List UInt8} (H : Own B w S) [k : TakeR (.slice p m cap) S e 1 m (bytesV b) r] (hm : b.length = m) : ∃ fp, Reads w (.slice p m cap) (bytesV b) fp := by
  have h := (H.takeR (k := k)).row_owns
  subst hm
  rcases h.2 with ⟨h1, h2⟩ | ⟨g, cap', cur, h1, _, hg, _, _, _, ht⟩
  · injection h1 with h1 _ h3
    subst h1; subst h3
    refine ⟨[], none, 0, by rw [length_bytesV], .inl ?_⟩
    have : b = [] := List.eq_nil_of_length_eq_zero h2
    subst this; rfl
  · injection h1 with h1 _ h3
    subst h1; subst h3
    refine ⟨[g], some ⟨g, 0, none⟩, cap, by rw [length_bytesV], .inr ⟨g, 0, rfl, fun j v hv => ?_, by simp⟩⟩
    rw [cell_of_row w g _ _ _ _ hg]
    have : cur.toList[j]? = some v := by
      rw [← ht] at hv
      rw [List.getElem?_take] at hv
      split at hv
      · exact hv
      · cases hv
    simpa using this
theorem Own.reads_at {w : World} {g o cap : Nat} {b : List UInt8} {C : List Value} (H : Own B w S) [k : Rd B g S C] (hv : ∀ j v, (bytesV b)[j]? = some v → C[o + j]? = some v) {m : Nat} (hm : b.length = m) : ∃ fp, Reads w (.slice (some ⟨g, o, none⟩) m cap) (bytesV b) fp := by
  subst hm
  exact ⟨[g], some ⟨g, o, none⟩, cap, by rw [length_bytesV], .inr ⟨g, o, rfl, H.range hv, by simp⟩⟩

/-- A slice that lies in memory that is only read. -/
def RoS (B : Base) (v : Value) (cs : List Value) : Prop := ∃ a cap, v = .slice a cs.length cap ∧ (cs = [] ∨ ∃ b o C, a = some ⟨b, o, none⟩ ∧ ROc B b C ∧ ∀ j u, cs[j]? = some u → C[o + j * 1]? = some u)
theorem RoS.nil (B : Base) : RoS B (.slice none 0 0) [] := ⟨none, 0, rfl, .inl rfl⟩

/-- 'make([]T, n)'. -/
theorem Ef.make {t e sz : Nat} {x y : Operand} {k k2 : IntKind} {i i2 : Int} (m : Nat) (z : Value) (bytes : Nat) (E : ElemOk P t e sz bytes) (hz : (P.info? e).bind (·.zero) = some z) (hx : ev n f x = some (.int k i)) (hy : ev n f y = some (.int k2 i2)) (hi : i = (m : Int)) (hi2 : i2 = (m : Int)) (hb : bytes * m ≤ 281474976710656) (hm : m ≤ maxLen)
    (h : ∀ g, K (.slice (some ⟨g, 0, none⟩) m m) (row (.slice (some ⟨g, 0, none⟩) m m) e sz m (madeCells z.cells (m * sz)).toList :: l)) : Ef P B n ⟨d, .makeSlice t x y, ty, pos, af, gd⟩ f l K := ⟨fun w next Q ho hk => by
  obtain ⟨j, z', hj, hz', hs, hby, _⟩ := E.ex
  rw [hj] at hz
  simp only [Option.bind_some] at hz
  rw [hz'] at hz
  cases hz
  subst hi; subst hi2
  obtain ⟨w', hr, h1, h2⟩ := run_make_full (P := P) w 0 t e j z sz E.ht hj hz' hs k k2 m (by rw [hby]; exact hb) hm (Nat.zero_le _)
  unfold Oper.wp execOp
  simp only [eval_act', evu_eq hx, evu_eq hy, Sem.run_bind, hr, Sem.run_pure, Result.andThen_ok]
  exact hk _ _ _ (h _) (ho.row_new ((Kept.refl _ _).grown h2 (by simp)) h1 (fun g hg => by simp [Value.ownBlock] at hg; omega))⟩
end
end Go.Proofs.YtegohgaccmkigaaDoor
