/- The texts SlE Law2 SlF PgZ SlH PgF PgG PgRd SfL SfA PgH PgI JnA, one behind the other: what the law leans on. Conditions: as each theorem says. -/
import Derived.Test.YtegohgaccmkigaaGreatDoorZBufferPlays1
import Derived.Great.BuildSlice
import Derived.Test.YtegohgaccmkigaaGreatDoorCards
import Derived.Test.YtegohgaccmkigaaGreatDoorTie
import Derived.Deep.DeepHandedRow
import Derived.Lib.LaidU8
import Derived.Shelf.SlLaysF
import Derived.Test.YtegohgaccmkigaaGreatDoorProg
import Derived.Shelf.SlSortCmp.NoneTotal
import Derived.Lib.MakeNoZero
import Derived.Laws.Externs
/- More rules: strings' parts and sums, arrays' elements, bools; rows' cells; making slices. Conditions: of each rule its own. -/
set_option linter.unusedSimpArgs false
set_option linter.unusedVariables false
namespace Go.Proofs.YtegohgaccmkigaaGreatDoor
open Go.RowKit
section
variable {P : Program} {B : Base} {n : Nat} {S l r : List Assn} {f : Fr} {K : Value → List Assn → Prop}
variable {d : Option Tmp} {ty : TypeId} {pos : String} {af : Array Edge} {gd : Option (Nat × Bool)}

theorem strOf_toList (l : List UInt8) : (strOf l).toList = l := ByteArray.toList_mk l
theorem Qt.neqS {t t2 : TypeId} {x y : Operand} {a b : List UInt8} (hx : ev n f x = some (.string (strOf a))) (hy : ev n f y = some (.string (strOf b))) : Qt P B n S ⟨d, .binOp .neq t x y t2, ty, pos, af, gd⟩ f (.bool (decide (a ≠ b))) := ⟨fun w _ => by
  have : (!(a == b)) = decide (a ≠ b) := by by_cases h : a = b <;> simp [h]
  simp [execOp, evu_eq hx, evu_eq hy, eqGuard, Go.binOp, Op.stringOp, strOf_toList, this]⟩
theorem strOf_add (a b : List UInt8) : strOf a ++ strOf b = strOf (a ++ b) := by
  apply ByteArray.ext
  simp [strOf]
theorem Qt.addS {t t2 : TypeId} {x y : Operand} {a b : List UInt8} (hx : ev n f x = some (.string (strOf a))) (hy : ev n f y = some (.string (strOf b))) (hl : a.length + b.length ≤ 9223372036854775807) : Qt P B n S ⟨d, .binOp .add t x y t2, ty, pos, af, gd⟩ f (.string (strOf (a ++ b))) := ⟨fun w _ => by
  have h' : ((strOf a).size : Int) + ((strOf b).size : Int) ≤ 9223372036854775807 := by
    rw [size_strOf, size_strOf]; omega
  simp [execOp, evu_eq hx, evu_eq hy, eqGuard, Go.binOp, Op.stringOp, h', strOf_add, IntKind.max, IntKind.bits, IntKind.signed]⟩
theorem strOf_extract (a : List UInt8) (i j : Nat) : (strOf a).extract i j = strOf ((a.take j).drop i) := by
  apply ByteArray.ext
  simp [strOf, List.extract_eq_take_drop, List.drop_take]
def arrB (P : Program) (t len e sz : Nat) : Bool := (match P.underlying t with | some (.array m e') => e' == e && m == len | _ => false) && decide (szOf P e = some sz)
theorem Qt.indexA {t len e sz : Nat} {x y : Operand} {g o : Nat} {k : IntKind} {i : Int} (j : Nat) (ht : arrB P t len e sz = true) (hx : ev n f x = some (.pointer (some ⟨g, o, none⟩))) (hy : ev n f y = some (.int k i)) (hj : i = (j : Int)) (hl : j < len) :
    Qt P B n S ⟨d, .indexAddr t x y, ty, pos, af, gd⟩ f (.pointer (some ⟨g, o + j * sz, none⟩)) := ⟨fun w _ => by
  unfold arrB at ht
  simp only [Bool.and_eq_true, decide_eq_true_eq] at ht
  obtain ⟨h1, h2⟩ := ht
  split at h1
  · rename_i m e' hu
    simp at h1
    obtain ⟨rfl, rfl⟩ := h1
    obtain ⟨i', hi, hs⟩ := info_of_size h2
    subst hj
    simp [execOp, Instr.indexAt, evu_eq hx, evu_eq hy, asIntOf, run_underlying hu, Instr.sureAddr, sizeOf, typeInfo, hi, hs, hl, Addr.add_mid]
  · cases h1⟩
/-- A sub-string's bounds. -/
theorem Qt.sliceS_ns {t : TypeId} {x y : Operand} {a : List UInt8} {k : IntKind} {i : Int} (j : Nat) (ht : isStr P t = true) (hx : ev n f x = some (.string (strOf a))) (hy : ev n f y = some (.int k i)) (hj : i = (j : Int)) (hl : j ≤ a.length) :
    Qt P B n S ⟨d, .slice t x none (some y) none, ty, pos, af, gd⟩ f (.string (strOf (a.take j))) := ⟨fun w _ => by
  unfold isStr at ht
  split at ht
  · rename_i hu
    subst hj
    have hs := strOf_extract a 0 j
    simp only [List.drop_zero] at hs
    simp [execOp, Instr.sliceAt, run_underlying hu, evu_eq hx, evu_eq hy, Instr.slice, Instr.sliceBounds, Instr.sliceBound, asIntOf, size_strOf, hl, hs]
  · cases ht⟩
theorem Qt.sliceS_sn {t : TypeId} {x y : Operand} {a : List UInt8} {k : IntKind} {i : Int} (j : Nat) (ht : isStr P t = true) (hx : ev n f x = some (.string (strOf a))) (hy : ev n f y = some (.int k i)) (hj : i = (j : Int)) (hl : j ≤ a.length) :
    Qt P B n S ⟨d, .slice t x (some y) none none, ty, pos, af, gd⟩ f (.string (strOf (a.drop j))) := ⟨fun w _ => by
  unfold isStr at ht
  split at ht
  · rename_i hu
    subst hj
    have hs := strOf_extract a j a.length
    simp only [List.take_length] at hs
    simp [execOp, Instr.sliceAt, run_underlying hu, evu_eq hx, evu_eq hy, Instr.slice, Instr.sliceBounds, Instr.sliceBound, asIntOf, size_strOf, hl, hs]
  · cases ht⟩
theorem Qt.lenSt {t : TypeId} {x : Operand} {a : List UInt8} (ht : isStr P t = true) (hx : ev n f x = some (.string (strOf a))) : Qt P B n S ⟨d, .call ⟨.builtin .len, #[x], #[t]⟩, ty, pos, af, gd⟩ f (.int .i64 a.length) := by
  have := Qt.lenS (B := B) (S := S) (d := d) (ty := ty) (pos := pos) (af := af) (gd := gd) ht hx
  rwa [size_strOf] at this
theorem SrcOf.blk {tx sz g m cap : Nat} {C : List Value} [k : Rd B g l C] (hk : sliceZ P tx sz = true) (hl : C.length = m * sz) (h1 : ∀ x ∈ C, x.oneCell' = true) : SrcOf P B l sz tx (.slice (some ⟨g, 0, none⟩) m cap) m C := SrcOf.cells (g := g) (o := 0) hk (fun j v h => by rw [Nat.zero_add]; exact h) hl h1
theorem map_snoc {α β : Type} (g : α → β) (l : List α) (a : α) : l.map g ++ [g a] = (l ++ [a]).map g := by simp
theorem flat_snoc {α β : Type} (g : α → List β) (l : List α) (a : α) : l.flatMap g ++ g a = (l ++ [a]).flatMap g := by simp
/-! rows' cells -/
theorem map_at {α : Type} (g : α → Value) (xs : List α) (j : Nat) (h : j < xs.length) : (xs.map g)[0 + j * 1]? = some (g xs[j]) := by simp [h]
theorem flat_cell {α : Type} (g : α → List Value) (sz : Nat) (xs : List α) (hg : ∀ x ∈ xs, (g x).length = sz) (j k : Nat) (hj : j < xs.length) {v : Value} (hv : (g xs[j])[k]? = some v) : (xs.flatMap g)[0 + j * sz + k]? = some v := by
  rw [Nat.zero_add, ← List.getElem?_drop, flat_drop g sz xs hg j hj, List.getElem?_append_left (List.getElem?_eq_some_iff.1 hv).1]
  exact hv
theorem flat_cell0 {α : Type} (g : α → List Value) (sz : Nat) (xs : List α) (hg : ∀ x ∈ xs, (g x).length = sz) (j : Nat) (hj : j < xs.length) {v : Value} (hv : (g xs[j])[0]? = some v) : (xs.flatMap g)[0 + j * sz]? = some v := flat_cell g sz xs hg j 0 hj hv
theorem rdl_of {C : List Value} : ∀ {vs : List Value} {o : Nat}, (∀ j v, vs[j]? = some v → C[o + j]? = some v) → rdl C o vs
  | [], _, _ => trivial
  | v :: vs, o, h => ⟨h 0 v rfl, rdl_of fun j u hu => by have := h (j + 1) u (by simpa using hu); rwa [Nat.add_assoc, Nat.add_comm 1 j]⟩
theorem rdl_flat {α : Type} (g : α → List Value) (sz : Nat) (xs : List α) (hg : ∀ x ∈ xs, (g x).length = sz) (j : Nat) (hj : j < xs.length) : rdl (xs.flatMap g) (0 + j * sz) (g xs[j]) :=
  rdl_of fun k _ hv => flat_cell g sz xs hg j k hj hv
theorem set_map {α : Type} (g : α → Value) (xs : List α) (j : Nat) (x : α) : (xs.map g).set (0 + j * 1) (g x) = (xs.set j x).map g := by simp
theorem bytes_at (b : List UInt8) (j : Nat) (h : j < b.length) : (bytesV b)[0 + j * 1]? = some (.int .u8 b[j].toNat) := by simp [bytesV, h]

theorem Own.slice_at {w : World} {p : Option Addr} {m c e sz k : Nat} {xs : List Value} (H : Own B w l) [t : TakeR (.slice p m c) l e sz k xs r] : m = k ∧ (0 < k → ∃ g, p = some ⟨g, 0, none⟩) ∧ xs.length = k * sz := by
  obtain ⟨p', c', h1, h2, h3⟩ := (H.takeR (k := t)).row_slice
  injection h1 with a b _
  subst a
  exact ⟨b, h2, h3⟩
theorem Own.cap_at {w : World} {p : Option Addr} {m c e sz k : Nat} {xs : List Value} (H : Own B w l) [t : TakeR (.slice p m c) l e sz k xs r] : m ≤ c := owns_cap (by have h := (H.takeR (k := t)).row_owns; rw [← (H.slice_at (t := t)).1] at h; exact h)
theorem Own.reads_row {w : World} {p : Option Addr} {e m cap : Nat} {b : List UInt8} (H : Own B w S) [k : TakeR (.slice p m cap) S e 1 m (bytesV b) r] (hm : b.length = m) : ∃ fp, Reads w (.slice p m cap) (bytesV b) fp := by
  have h := (H.takeR (k := k)).row_owns
  subst hm
  rcases h.2 with ⟨h1, h2⟩ | ⟨g, cap', cur, h1, _, hg, _, _, _, ht⟩
  · injection h1 with h1 _ h3
    subst h1; subst h3
    refine ⟨[], none, 0, by rw [length_bytesV], .inl ?_⟩
    have : b = [] := List.eq_nil_of_length_eq_zero h2
    subst this; rfl
  · injection h1 with h1 _ h3
    subst h1; subst h3
    refine ⟨[g], some ⟨g, 0, none⟩, cap, by rw [length_bytesV], .inr ⟨g, 0, rfl, fun j v hv => ?_, by simp⟩⟩
    rw [cell_of_row w g _ _ _ _ hg]
    have : cur.toList[j]? = some v := by
      rw [← ht] at hv
      rw [List.getElem?_take] at hv
      split at hv
      · exact hv
      · cases hv
    simpa using this
/-- A slice that lies in memory that is only read. -/
def RoS (B : Base) (v : Value) (cs : List Value) : Prop := ∃ a cap, v = .slice a cs.length cap ∧ (cs = [] ∨ ∃ b o C, a = some ⟨b, o, none⟩ ∧ ROc B b C ∧ ∀ j u, cs[j]? = some u → C[o + j * 1]? = some u)
theorem RoS.nil (B : Base) : RoS B (.slice none 0 0) [] := ⟨none, 0, rfl, .inl rfl⟩

/-- 'make([]T, n)'. -/
theorem Ef.make {t e sz : Nat} {x y : Operand} {k k2 : IntKind} {i i2 : Int} (m : Nat) (z : Value) (bytes : Nat) (E : ElemOk P t e sz bytes) (hz : (P.info? e).bind (·.zero) = some z) (hx : ev n f x = some (.int k i)) (hy : ev n f y = some (.int k2 i2)) (hi : i = (m : Int)) (hi2 : i2 = (m : Int)) (hb : bytes * m ≤ 281474976710656) (hm : m ≤ maxLen)
    (h : ∀ g, K (.slice (some ⟨g, 0, none⟩) m m) (row (.slice (some ⟨g, 0, none⟩) m m) e sz m (madeCells z.cells (m * sz)).toList :: l)) : Ef P B n ⟨d, .makeSlice t x y, ty, pos, af, gd⟩ f l K := ⟨fun w next Q ho hk => by
  obtain ⟨j, z', hj, hz', hs, hby, _⟩ := E.ex
  rw [hj] at hz
  simp only [Option.bind_some] at hz
  rw [hz'] at hz
  cases hz
  subst hi; subst hi2
  obtain ⟨w', hr, h1, h2⟩ := run_make_full (P := P) w 0 t e j z sz E.ht hj hz' hs k k2 m (by rw [hby]; exact hb) hm (Nat.zero_le _)
  unfold Oper.wp execOp
  simp only [eval_act', evu_eq hx, evu_eq hy, Sem.run_bind, hr, Sem.run_pure, Result.andThen_ok]
  exact hk _ _ _ (h _) (ho.row_new ((Kept.refl _ _).grown h2 (by simp)) h1 (fun g hg => by simp [Value.ownBlock] at hg; omega))⟩
end
end Go.Proofs.YtegohgaccmkigaaGreatDoor

/- From contracts over assertions to what a law's row owes; arguments that are only read. Conditions: none. -/
set_option linter.unusedSimpArgs false
set_option linter.unusedVariables false
namespace Go.Proofs.YtegohgaccmkigaaGreatDoor
open Go.RowKit

def baseOf (W : World) : Base := ⟨W.os, W.tape, W.output, World.piece W⟩
theorem own_base (W : World) : Own (baseOf W) W [] := ⟨rfl, rfl, rfl, Piece.le_refl _, fun _ => none, ⟨fun _ => .inl rfl⟩, ⟨fun _ _ e => by cases e⟩, trivial⟩
theorem Own.keeps {W W' : World} {l : List Assn} (h : Own (baseOf W) W' l) : Kept [] W W' := by
  have hb : ∀ k o, W.heap[k]? = some o → W'.heap[k]? = some o := fun k o e => h.ro.p k o e
  refine ⟨h.os, h.tape, h.output, ?_, fun k hk _ => ?_⟩
  · rcases Nat.eq_zero_or_pos W.heap.size with h0 | h0
    · omega
    · have := lt_of_block (hb (W.heap.size - 1) _ (Array.getElem?_eq_getElem (by omega)))
      omega
  · rw [hb k _ (Array.getElem?_eq_getElem hk), Array.getElem?_eq_getElem hk]
theorem Fn.law {P : Program} {W : World} {g : FuncId} {args : Array Value} (h : Fn P (baseOf W) g args [] (fun v l => v = .bool true ∧ l = [])) : Calls P g args W fun e W' => e = .returned (.bool true) ∧ Kept [] W W' := by
  refine (h.run W [] (own_base W)).mono ?_
  rintro e w' ⟨v, l, rfl, ⟨rfl, rfl⟩, ho⟩
  exact ⟨rfl, ho.keeps⟩

theorem range_cell {W : World} {b o j : Nat} {v : Value} (h : W.cell? ⟨b, o + j, none⟩ = some v) : ∃ c t fr, W.heap[b]? = some (.cells c t fr) ∧ c[o + j]? = some v := by
  unfold World.cell? at h
  split at h
  · rename_i c e fr hb
    exact ⟨c, e, fr, hb, by simpa using h⟩
  · cases h
theorem roc_of {W : World} {b : Nat} {c : Array Value} {t : TypeId} {fr : Nat × Nat} (h : W.heap[b]? = some (.cells c t fr)) : ROc (baseOf W) b c.toList := ⟨[], t, fr, by simpa [baseOf, World.piece] using h⟩
theorem RoS.ofReads {W : World} {v : Value} {cs : List Value} {fp : List Nat} (h : Reads W v cs fp) : RoS (baseOf W) v cs := by
  obtain ⟨a, cap, rfl, h | ⟨b, o, rfl, hr, _⟩⟩ := h
  · exact ⟨a, cap, rfl, .inl h⟩
  · match cs, hr with
    | [], _ => exact ⟨_, cap, rfl, .inl rfl⟩
    | u :: cs, hr =>
      obtain ⟨c, t, fr, hb, _⟩ := range_cell (hr 0 u rfl)
      refine ⟨_, cap, rfl, .inr ⟨b, o, c.toList, rfl, roc_of hb, fun j x hx => ?_⟩⟩
      obtain ⟨c', t', fr', hb', hc'⟩ := range_cell (hr j x hx)
      rw [hb] at hb'
      injection hb' with e1
      injection e1 with e1
      subst e1
      rw [Nat.mul_one]
      simpa using hc'
/-- The elements of a slice, from what the row's reading gives. -/
theorem SliceAt.ro {α : Type} {W : World} {sz : Nat} {R : List Value → α → Prop} {v : Value} {l : List α} (h : SliceAt W sz R v l) (hsz : 0 < sz) : ∃ a cap, v = .slice a l.length cap ∧ (l = [] ∨ ∃ b o C, a = some ⟨b, o, none⟩ ∧ ROc (baseOf W) b C ∧ ∀ i (hi : i < l.length), ∃ cells, rdl C (o + i * sz) cells ∧ R cells l[i]) := by
  rcases h with ⟨rfl, rfl⟩ | ⟨a, cap, rfl, hl, hm, hi⟩
  · exact ⟨none, 0, rfl, .inl rfl⟩
  · refine ⟨some a, cap, rfl, ?_⟩
    by_cases h0 : l = []
    · exact .inl h0
    · right
      have hp : 0 < l.length := List.length_pos_iff.2 h0
      obtain ⟨cells, b, o, rfl, hb, hlen, hr, hR⟩ := hi 0 hp
      obtain ⟨c, t, fr, hbb, _⟩ := range_cell (hr 0 _ (List.getElem?_eq_getElem (by omega)))
      refine ⟨b, o, c.toList, rfl, roc_of hbb, fun i hil => ?_⟩
      obtain ⟨cells', b', o', e, _, hlen', hr', hR'⟩ := hi i hil
      injection e with e1 e2
      subst e1; subst e2
      refine ⟨cells', rdl_of fun j u hu => ?_, hR'⟩
      obtain ⟨c', t', fr', hb', hc'⟩ := range_cell (hr' j u hu)
      rw [hbb] at hb'
      injection hb' with e1
      injection e1 with e1
      subst e1
      simpa using hc'
end Go.Proofs.YtegohgaccmkigaaGreatDoor

/- More rules: bytes that are read under assertions; numbers without sign; slices of slices; nil slices. Conditions: of each rule its own. -/
set_option linter.unusedSimpArgs false
set_option linter.unusedVariables false
namespace Go.Proofs.YtegohgaccmkigaaGreatDoor
open Go.RowKit
section
variable {P : Program} {B : Base} {n : Nat} {S l r : List Assn} {f : Fr} {K : Value → List Assn → Prop} {Φ : Post}
variable {d : Option Tmp} {ty : TypeId} {pos : String} {af : Array Edge} {gd : Option (Nat × Bool)}

/-- The slice v reads as cs in each world that has S. -/
def RdV (B : Base) (S : List Assn) (v : Value) (cs : List Value) : Prop := ∃ a cap, v = .slice a cs.length cap ∧ (cs = [] ∨ ∃ b o, a = some ⟨b, o, none⟩ ∧ ∀ w, Own B w S → w.rangeAt b o cs)
theorem RdV.mono {S S' : List Assn} {v : Value} {cs : List Value} (h : RdV B S v cs) (hs : ∀ w, Own B w S' → Own B w S) : RdV B S' v cs := by
  obtain ⟨a, cap, e, h⟩ := h
  refine ⟨a, cap, e, h.imp id ?_⟩
  rintro ⟨b, o, e1, h1⟩
  exact ⟨b, o, e1, fun w ho => h1 w (hs w ho)⟩
theorem RdV.reads {v : Value} {cs : List Value} (h : RdV B S v cs) (w : World) (ho : Own B w S) : ∃ fp, Reads w v cs fp := by
  obtain ⟨a, cap, rfl, h | ⟨b, o, rfl, h⟩⟩ := h
  · exact ⟨[], a, cap, rfl, .inl h⟩
  · exact ⟨[b], _, cap, rfl, .inr ⟨b, o, rfl, h w ho, by simp⟩⟩
theorem RdV.form {v : Value} {cs : List Value} {m : Nat} (h : RdV B S v cs) (hm : cs.length = m) : ∃ a cap, v = .slice a m cap := by
  obtain ⟨a, cap, rfl, _⟩ := h
  exact ⟨a, cap, by rw [hm]⟩
theorem RdV.nil (S : List Assn) (c : Nat) : RdV B S (.slice none 0 c) [] := ⟨none, c, rfl, .inl rfl⟩
theorem RdV.empty (S : List Assn) (a : Option Addr) (c : Nat) : RdV B S (.slice a 0 c) [] := ⟨a, c, rfl, .inl rfl⟩
theorem RdV.ofRow {p : Option Addr} {m c e : Nat} {cs : List Value} (hS : ∀ w, Own B w S → w.ownsRow 0 e 1 (.slice p m c) m cs) (hm : cs.length = m) (hp : 0 < m → ∃ g, p = some ⟨g, 0, none⟩) : RdV B S (.slice p m c) cs := by
  refine ⟨p, c, by rw [hm], ?_⟩
  rcases Nat.eq_zero_or_pos m with h0 | h0
  · exact .inl (List.eq_nil_of_length_eq_zero (by omega))
  · obtain ⟨g, rfl⟩ := hp h0
    refine .inr ⟨g, 0, rfl, fun w ho j v hv => ?_⟩
    have := (hS w ho).cells (g := g) rfl j v hv
    rwa [Addr.add_mid] at this
/-- Part of a readable slice. -/
theorem RdV.sub {a : Option Addr} {m cap : Nat} {cs : List Value} (h : RdV B S (.slice a m cap) cs) (lo hi cap' : Nat) (hl : lo ≤ hi) (hh : hi ≤ cs.length) (a' : Option Addr) (ha : lo < hi → ∀ b o, a = some ⟨b, o, none⟩ → a' = some ⟨b, o + lo, none⟩) : RdV B S (.slice a' (hi - lo) cap') ((cs.take hi).drop lo) := by
  have hlen : ((cs.take hi).drop lo).length = hi - lo := by simp; omega
  refine ⟨a', cap', by rw [hlen], ?_⟩
  rcases Nat.eq_or_lt_of_le hl with h0 | h0
  · exact .inl (List.eq_nil_of_length_eq_zero (by omega))
  · obtain ⟨a2, c2, e, h1 | ⟨b, o, e1, h1⟩⟩ := h
    · subst h1; simp at hh; omega
    · injection e with e2 _ _
      refine .inr ⟨b, o + lo, ha h0 b o (e2.trans e1), fun w ho j v hv => ?_⟩
      rw [Nat.add_assoc]
      refine h1 w ho (lo + j) v ?_
      rw [List.getElem?_drop, List.getElem?_take] at hv
      split at hv
      · exact hv
      · cases hv
theorem RdV.at {a : Option Addr} {m c : Nat} {cs : List Value} (h : RdV B S (.slice a m c) cs) (hp : 0 < m) : ∃ b o, a = some ⟨b, o, none⟩ ∧ ∀ j (hj : j < cs.length) w, Own B w S → w.cell? ⟨b, o + j * 1, none⟩ = some cs[j] := by
  obtain ⟨a2, c2, e, h1 | ⟨b, o, e1, h1⟩⟩ := h
  · subst h1; injection e with _ e2 _; simp at e2; omega
  · injection e with e2 _ _
    exact ⟨b, o, e2.trans e1, fun j hj w ho => by rw [Nat.mul_one]; exact h1 w ho j _ (List.getElem?_eq_getElem hj)⟩
theorem SrcOf.rd {tx m : Nat} {u : Value} {cs : List Value} (h : RdV B l u cs) (hk : sliceZ P tx 1 = true) (hm : cs.length = m) (h1 : ∀ x ∈ cs, x.oneCell' = true) : SrcOf P B l 1 tx u m cs := ⟨fun w ho => by
  subst hm
  obtain ⟨e', he⟩ := sliceZ_spec hk
  obtain ⟨fp, hr⟩ := h.reads w ho
  exact Src.ofReads he hr h1⟩
/-- A load whose cell is known in each world. -/
theorem Qt.loadW {t g o : Nat} {x : Operand} {v : Value} (h1 : oneB P t = true) (hx : ev n f x = some (.pointer (some ⟨g, o, none⟩))) (hc : ∀ w, Own B w S → w.cell? ⟨g, o, none⟩ = some v) : Qt P B n S ⟨d, .load t x, ty, pos, af, gd⟩ f v := ⟨fun w ho => by
  have hc := hc w ho
  unfold oneB at h1
  split at h1
  · cases h1
  · cases h1
  · rename_i dd n1 n2 hu
    have hagg : (isAgg t).run P w = .ok false w := by
      unfold isAgg
      simp only [Sem.run_bind, run_underlying hu, Result.andThen_ok]
      cases dd <;> first | exact (n1 _ rfl).elim | exact (n2 _ _ rfl).elim | rfl
    simp [execOp, evu_eq hx, Instr.loadAt, Instr.sureAddr, loadVar, hagg, Go.load, Sem.run, hc]
  · cases h1⟩
/-! slices against nil, and parts of slices -/
def isSl (P : Program) (t : TypeId) : Bool := match P.underlying t with | some (.slice _) => true | _ => false
theorem Qt.eqlSl {t t2 : TypeId} {x y : Operand} {p : Option Addr} {m c c' : Nat} (ht : isSl P t = true) (hx : ev n f x = some (.slice p m c)) (hy : ev n f y = some (.slice none 0 c')) : Qt P B n S ⟨d, .binOp .eql t x y t2, ty, pos, af, gd⟩ f (.bool p.isNone) := ⟨fun w _ => by
  obtain ⟨e, hu⟩ : ∃ e, P.underlying t = some (.slice e) := by unfold isSl at ht; split at ht; exact ⟨_, by assumption⟩; cases ht
  have : (Op.equal t (.slice p m c) (.slice none 0 c')).run P w = .ok p.isNone w := by
    show (Op.equalIn (9999 + 1) t (.slice p m c) (.slice none 0 c')).run P w = _
    rw [Op.equalIn]
    cases p <;> simp [run_underlying hu]
  simp [execOp, evu_eq hx, evu_eq hy, eqGuard, Go.binOp, this]⟩
theorem run_slice {w : World} {t e sz : Nat} {p : Option Addr} {m c lo hi : Nat} (ht : sliceB P t e sz = true) (h1 : lo ≤ hi) (h2 : hi ≤ c) (kl kh : IntKind) :
    (Instr.sliceAt t (.slice p m c) (some (.int kl lo)) (some (.int kh hi)) none).run P w = .ok (.slice (if c = lo then p else p.map (·.add (lo * sz))) (hi - lo) (c - lo)) w := by
  obtain ⟨hu, hs⟩ := sliceB_spec ht
  obtain ⟨i, hi', his⟩ := info_of_size hs
  subst his
  simp [Instr.sliceAt, run_underlying hu, Instr.slice, Instr.sliceBounds, Instr.sliceBound, asIntOf, sizeOf, typeInfo, hi', h1, h2]
/-- The place of a part of a slice. -/
def offA (p : Option Addr) (c lo sz : Nat) : Option Addr := if c = lo then p else p.map (·.add (lo * sz))
theorem offA_some {b o c lo sz : Nat} (h : c ≠ lo) : offA (some ⟨b, o, none⟩) c lo sz = some ⟨b, o + lo * sz, none⟩ := by simp [offA, h, Addr.add_mid]
theorem Qt.slice_ssn {t e sz : Nat} {x y z : Operand} {p : Option Addr} {m c : Nat} {k k2 : IntKind} {i j : Int} (lo hi : Nat) (ht : sliceB P t e sz = true) (hx : ev n f x = some (.slice p m c)) (hy : ev n f y = some (.int k i)) (hz : ev n f z = some (.int k2 j)) (hi1 : i = (lo : Int)) (hj1 : j = (hi : Int)) (h1 : lo ≤ hi) (h2 : hi ≤ c) :
    Qt P B n S ⟨d, .slice t x (some y) (some z) none, ty, pos, af, gd⟩ f (.slice (offA p c lo sz) (hi - lo) (c - lo)) := ⟨fun w _ => by
  subst hi1; subst hj1
  have := run_slice (w := w) (p := p) (m := m) ht h1 h2 k k2
  simp [execOp, evu_eq hx, evu_eq hy, evu_eq hz, this, offA]⟩
theorem run_slice_sn {w : World} {t e sz : Nat} {p : Option Addr} {m c lo : Nat} (ht : sliceB P t e sz = true) (h1 : lo ≤ m) (kl : IntKind) :
    (Instr.sliceAt t (.slice p m c) (some (.int kl lo)) none none).run P w = .ok (.slice (if c = lo then p else p.map (·.add (lo * sz))) (m - lo) (c - lo)) w := by
  obtain ⟨hu, hs⟩ := sliceB_spec ht
  obtain ⟨i, hi', his⟩ := info_of_size hs
  subst his
  simp [Instr.sliceAt, run_underlying hu, Instr.slice, Instr.sliceBounds, Instr.sliceBound, asIntOf, sizeOf, typeInfo, hi', h1]
theorem Qt.slice_snn {t e sz : Nat} {x y : Operand} {p : Option Addr} {m c : Nat} {k : IntKind} {i : Int} (lo : Nat) (ht : sliceB P t e sz = true) (hx : ev n f x = some (.slice p m c)) (hy : ev n f y = some (.int k i)) (hi1 : i = (lo : Int)) (h1 : lo ≤ m) :
    Qt P B n S ⟨d, .slice t x (some y) none none, ty, pos, af, gd⟩ f (.slice (offA p c lo sz) (m - lo) (c - lo)) := ⟨fun w _ => by
  subst hi1
  have := run_slice_sn (w := w) (p := p) (m := m) (c := c) ht h1 k
  simp [execOp, evu_eq hx, evu_eq hy, this, offA]⟩
theorem run_slice_ns {w : World} {t e sz : Nat} {p : Option Addr} {m c hi : Nat} (ht : sliceB P t e sz = true) (h2 : hi ≤ c) (kh : IntKind) :
    (Instr.sliceAt t (.slice p m c) none (some (.int kh hi)) none).run P w = .ok (.slice p hi c) w := by
  obtain ⟨hu, hs⟩ := sliceB_spec ht
  obtain ⟨i, hi', his⟩ := info_of_size hs
  have h0 : (if c = 0 then p else p.map (·.add (0 * i.size))) = p := by
    split
    · rfl
    · cases p <;> simp [Addr.add]
  simp [Instr.sliceAt, run_underlying hu, Instr.slice, Instr.sliceBounds, Instr.sliceBound, asIntOf, sizeOf, typeInfo, hi', h2]
  intro _
  cases p <;> simp [Addr.add]
theorem Qt.slice_nsn {t e sz : Nat} {x z : Operand} {p : Option Addr} {m c : Nat} {k2 : IntKind} {j : Int} (hi : Nat) (ht : sliceB P t e sz = true) (hx : ev n f x = some (.slice p m c)) (hz : ev n f z = some (.int k2 j)) (hj1 : j = (hi : Int)) (h2 : hi ≤ c) :
    Qt P B n S ⟨d, .slice t x none (some z) none, ty, pos, af, gd⟩ f (.slice p hi c) := ⟨fun w _ => by
  subst hj1
  have := run_slice_ns (w := w) (p := p) (m := m) ht h2 k2
  simp [execOp, evu_eq hx, evu_eq hz, this]⟩

/-! numbers without sign -/
theorem ofInt_nat (w m : Nat) : BitVec.ofInt w (m : Int) = BitVec.ofNat w m := by simp
theorem Qt.bits32 {op : BinOp} {t t2 : TypeId} {x y : Operand} {a b r : UInt32} {b' : Int} (hop : (op = .and ∧ r = a &&& b) ∨ (op = .or ∧ r = a ||| b) ∨ (op = .xor ∧ r = a ^^^ b)) (hx : ev n f x = some (.int .u32 a.toNat)) (hy : ev n f y = some (.int .u32 b')) (hb : b' = b.toNat) :
    Qt P B n S ⟨d, .binOp op t x y t2, ty, pos, af, gd⟩ f (.int .u32 r.toNat) := ⟨fun w _ => by
  subst hb
  have ha : BitVec.ofInt 32 (a.toNat : Int) = a.toBitVec := by rw [ofInt_nat]; simp
  have hb : BitVec.ofInt 32 (b.toNat : Int) = b.toBitVec := by rw [ofInt_nat]; simp
  have wr : ∀ r : UInt32, IntKind.u32.wrap (r.toBitVec.toNat : Int) = (r.toNat : Int) := fun r => wru32 (by omega) (by have := r.toNat_lt; have e : r.toBitVec.toNat = r.toNat := rfl; omega)
  rcases hop with ⟨rfl, rfl⟩ | ⟨rfl, rfl⟩ | ⟨rfl, rfl⟩
  · have h : (Op.intBits .and .u32 (a.toNat : Int) (b.toNat : Int)).run P w = .ok (.int .u32 (a &&& b).toNat) w := by
      show Sem.run P (pure (Value.int .u32 (IntKind.u32.wrap ((BitVec.ofInt 32 (a.toNat : Int) &&& BitVec.ofInt 32 (b.toNat : Int)).toNat : Int)))) w = _
      rw [ha, hb, ← UInt32.toBitVec_and, wr]; rfl
    simp [execOp, evu_eq hx, evu_eq hy, eqGuard, Go.binOp, h]
  · have h : (Op.intBits .or .u32 (a.toNat : Int) (b.toNat : Int)).run P w = .ok (.int .u32 (a ||| b).toNat) w := by
      show Sem.run P (pure (Value.int .u32 (IntKind.u32.wrap ((BitVec.ofInt 32 (a.toNat : Int) ||| BitVec.ofInt 32 (b.toNat : Int)).toNat : Int)))) w = _
      rw [ha, hb, ← UInt32.toBitVec_or, wr]; rfl
    simp [execOp, evu_eq hx, evu_eq hy, eqGuard, Go.binOp, h]
  · have h : (Op.intBits .xor .u32 (a.toNat : Int) (b.toNat : Int)).run P w = .ok (.int .u32 (a ^^^ b).toNat) w := by
      show Sem.run P (pure (Value.int .u32 (IntKind.u32.wrap ((BitVec.ofInt 32 (a.toNat : Int) ^^^ BitVec.ofInt 32 (b.toNat : Int)).toNat : Int)))) w = _
      rw [ha, hb, ← UInt32.toBitVec_xor, wr]; rfl
    simp [execOp, evu_eq hx, evu_eq hy, eqGuard, Go.binOp, h]⟩
theorem Qt.and32 {t t2 : TypeId} {x y : Operand} {a : UInt32} {b' : Int} (b : UInt32) (hx : ev n f x = some (.int .u32 a.toNat)) (hy : ev n f y = some (.int .u32 b')) (hb : b' = b.toNat) : Qt P B n S ⟨d, .binOp .and t x y t2, ty, pos, af, gd⟩ f (.int .u32 (a &&& b).toNat) := Qt.bits32 (.inl ⟨rfl, rfl⟩) hx hy hb
theorem Qt.xor32 {t t2 : TypeId} {x y : Operand} {a : UInt32} {b' : Int} (b : UInt32) (hx : ev n f x = some (.int .u32 a.toNat)) (hy : ev n f y = some (.int .u32 b')) (hb : b' = b.toNat) : Qt P B n S ⟨d, .binOp .xor t x y t2, ty, pos, af, gd⟩ f (.int .u32 (a ^^^ b).toNat) := Qt.bits32 (.inr (.inr ⟨rfl, rfl⟩)) hx hy hb
theorem Qt.not32 {t : TypeId} {x : Operand} {a : UInt32} (hx : ev n f x = some (.int .u32 a.toNat)) : Qt P B n S ⟨d, .unOp .xor t x, ty, pos, af, gd⟩ f (.int .u32 (~~~ a).toNat) := ⟨fun w _ => by
  have ha : BitVec.ofInt 32 (a.toNat : Int) = a.toBitVec := by rw [ofInt_nat]; simp
  have hm : BitVec.ofInt 32 (IntKind.u32.max) = (0xffffffff : UInt32).toBitVec := by decide
  have wr : ∀ r : UInt32, IntKind.u32.wrap (r.toBitVec.toNat : Int) = (r.toNat : Int) := fun r => wru32 (by omega) (by have := r.toNat_lt; have e : r.toBitVec.toNat = r.toNat := rfl; omega)
  have hx2 : (0xffffffff : UInt32) ^^^ a = ~~~ a := by
    apply UInt32.toBitVec_inj.1
    simp only [UInt32.toBitVec_xor, UInt32.toBitVec_not]
    have : (0xffffffff : UInt32).toBitVec = BitVec.allOnes 32 := by decide
    rw [this, BitVec.allOnes_xor]
  have h : (Op.unary .xor (.int .u32 a.toNat)).run P w = .ok (.int .u32 (~~~ a).toNat) w := by
    show Sem.run P (pure (Value.int .u32 (IntKind.u32.wrap ((BitVec.ofInt 32 IntKind.u32.max ^^^ BitVec.ofInt 32 (a.toNat : Int)).toNat : Int)))) w = _
    rw [ha, hm, ← UInt32.toBitVec_xor, wr, hx2]; rfl
  simp [execOp, evu_eq hx, h]⟩
theorem Qt.shr32 {t t2 : TypeId} {x y : Operand} {a : UInt32} {k : IntKind} (hx : ev n f x = some (.int .u32 a.toNat)) (hy : ev n f y = some (.int k 1)) : Qt P B n S ⟨d, .binOp .shr t x y t2, ty, pos, af, gd⟩ f (.int .u32 (a >>> 1).toNat) := ⟨fun w _ => by
  have e : ((a >>> 1).toNat : Int) = (a.toNat : Int).fdiv 2 := by
    have h1 : (a >>> 1).toNat = a.toNat / 2 := by
      rw [UInt32.toNat_shiftRight]
      simp [Nat.shiftRight_eq_div_pow]
    rw [h1, Int.fdiv_eq_ediv_of_nonneg _ (by omega)]; rfl
  have h : (Op.shift .shr .u32 (a.toNat : Int) k 1).run P w = .ok (.int .u32 (a >>> 1).toNat) w := by
    rw [e]
    simp [Op.shift, IntKind.bits]
  simp [execOp, evu_eq hx, evu_eq hy, eqGuard, Go.binOp, h]⟩
end
end Go.Proofs.YtegohgaccmkigaaGreatDoor

/- The texts CdA SlG CdB TrA PgA PgB PgC PgD PgE, one behind the other. Conditions: as each theorem says. -/
set_option linter.unusedSimpArgs false
set_option linter.unusedVariables false
/- The package codec: Sum. Conditions: none but that what is handed in can be read. -/
namespace Go.Proofs.YtegohgaccmkigaaGreatDoor
open Go.RowKit

def crcBit (s : UInt32) : UInt32 := if s &&& 1 = 1 then (s >>> 1) ^^^ 3988292384 else s >>> 1
def crcBits : Nat → UInt32 → UInt32
  | 0, s => s
  | k + 1, s => crcBit (crcBits k s)
def crcByte (s : UInt32) (x : UInt8) : UInt32 := crcBits 8 (s ^^^ x.toUInt32)
def crcS (l : List UInt8) : UInt32 := l.foldl crcByte 4294967295
/-- The sum of bytes. -/
def crc (l : List UInt8) : UInt32 := ~~~ crcS l
theorem crcS_snoc (l : List UInt8) (x : UInt8) : crcS (l ++ [x]) = crcByte (crcS l) x := by simp [crcS]

/-- A slice of slices of bytes. -/
def PartsV (B : Base) (S : List Assn) (v : Value) (bs : List (List UInt8)) : Prop := ∃ vs, RdV B S v vs ∧ vs.length = bs.length ∧ ∀ i (h1 : i < vs.length) (h2 : i < bs.length), RdV B S vs[i] (bytesV bs[i])

set_option maxHeartbeats 1000000 in
set_option maxRecDepth 100000 in
theorem Cd.sum (B : Base) (S : List Assn) (v : Value) (bs : List (List UInt8)) (hv : PartsV B S v bs) (hb : bs.length < 2 ^ 32) (hbl : ∀ b ∈ bs, b.length < 2 ^ 48) : Fn Tryz.prog B 65 #[v] S (fun u l => u = .int .u32 (crc bs.flatten).toNat ∧ l = S) := by
 obtain ⟨vs, h1, h2, h3⟩ := hv
 obtain ⟨a, c, rfl⟩ := h1.form h2
 refine Fn.enter1 41 Tryz.func65 rfl rfl (Nat.le_of_ble_eq_true rfl) (fun F => ?_)
 try simp only [List.cons_append, List.nil_append]
 refine T.seq ?_
 refine T.region ?_
 refine LW.q rfl (Qt.assign rfl) ?_
 refine LW.done ?_
 refine T.seq ?_
 refine T.region ?_
 refine LW.q rfl (Qt.assign rfl) ?_
 refine LW.done ?_
 refine T.seq ?_
 refine T.seq ?_
 refine T.region ?_
 refine LW.q rfl (Qt.move rfl) ?_
 refine LW.q rfl (Qt.len (e := 43) (sz := 1) (by kernel_rfl) rfl) ?_
 refine LW.q rfl (Qt.move rfl) ?_
 refine LW.done ?_
 refine T.block ?_
 refine T.loop (fun mz fz lz => ∃ (f0 : Fr) (k : Nat) (s : UInt32), (k ≤ bs.length ∧ s = crcS (bs.take k).flatten) ∧ mz = bs.length - k ∧ fz = (upd (upd (upd (upd f0 3 (.int .u32 s.toNat)) 9 (.slice a bs.length c)) 10 (.int .i64 bs.length)) 11 (.int .i64 k)) ∧ lz = S ++ F) ?_ ?_
 · refine ⟨_, _, ⟨_, 0, 4294967295, ⟨Nat.zero_le _, by simp [crcS]⟩, rfl, (updS rfl (updS rfl (updS rfl (updS rfl rfl)))), rfl⟩, Sub.any⟩
 ·
  rintro mz fz lz ⟨f0, k, s, ⟨hk, hs⟩, hmz, rfl, rfl⟩
  subst mz
  try simp only [List.cons_append, List.nil_append]
  refine T.seq ?_
  refine T.region ?_
  refine LW.q rfl (Qt.lss rfl rfl) ?_
  refine LW.done ?_
  refine T.seq ?_
  refine T.condP rfl (fun hlt => ?_) (fun hlt => ?_)
  ·
   obtain ⟨b, o, rfl, hc⟩ := h1.at (by omega)
   have h3k := h3 k (by omega) (by omega)
   obtain ⟨pa, pc, hpv⟩ := h3k.form (m := bs[k].length) (by simp)
   rw [hpv] at h3k
   have hbk := hbl bs[k] (List.getElem_mem _)
   refine T.skip ?_
   refine T.seq ?_
   refine T.block ?_
   refine T.seq ?_
   refine T.region ?_
   refine LW.q rfl (Qt.index _ (e := 43) (sz := 1) (by kernel_rfl) rfl rfl rfl (by omega)) ?_
   refine LW.q rfl (Qt.loadW (v := .slice pa bs[k].length pc) (by kernel_rfl) rfl (fun w ho => by rw [hc k (by omega) w ho.drop, hpv])) ?_
   refine LW.q rfl (Qt.assign rfl) ?_
   refine LW.done ?_
   refine T.seq ?_
   refine T.region ?_
   refine LW.q rfl (Qt.move rfl) ?_
   refine LW.q rfl (Qt.len (e := 5) (sz := 1) (by kernel_rfl) rfl) ?_
   refine LW.q rfl (Qt.move rfl) ?_
   refine LW.done ?_
   refine T.block ?_
   refine T.loop (fun mz fz lz => ∃ (f0 : Fr) (j : Nat) (s2 : UInt32), (j ≤ bs[k].length ∧ s2 = crcS ((bs.take k).flatten ++ bs[k].take j)) ∧ mz = bs[k].length - j ∧ fz = (upd (upd (upd (upd (upd (upd (upd f0 3 (.int .u32 s2.toNat)) 9 (.slice (some ⟨b, o, none⟩) bs.length c)) 10 (.int .i64 bs.length)) 11 (.int .i64 k)) 15 (.slice pa bs[k].length pc)) 16 (.int .i64 bs[k].length)) 17 (.int .i64 j)) ∧ lz = S ++ F) ?_ ?_
   · refine ⟨_, _, ⟨_, 0, s, ⟨Nat.zero_le _, by rw [hs]; simp⟩, rfl, (updS rfl (updS rfl (updS rfl (updS rfl (updS rfl (updS rfl (updS rfl rfl))))))), rfl⟩, Sub.any⟩
   ·
    rintro mz fz lz ⟨f0, j, s2, ⟨hj, hs2⟩, hmz, rfl, rfl⟩
    subst mz
    try simp only [List.cons_append, List.nil_append]
    refine T.seq ?_
    refine T.region ?_
    refine LW.q rfl (Qt.lss rfl rfl) ?_
    refine LW.done ?_
    refine T.seq ?_
    refine T.condP rfl (fun hjl => ?_) (fun hjl => ?_)
    ·
     obtain ⟨b2, o2, rfl, hc2⟩ := h3k.at (by omega)
     have hx := (bs[k][j]'(by omega)).toNat_lt
     refine T.skip ?_
     refine T.seq ?_
     refine T.block ?_
     refine T.seq ?_
     refine T.region ?_
     refine LW.q rfl (Qt.index _ (e := 5) (sz := 1) (by kernel_rfl) rfl rfl rfl (by omega)) ?_
     refine LW.q rfl (Qt.loadW (v := .int .u8 (bs[k][j]'(by omega)).toNat) (by kernel_rfl) rfl (fun w ho => by rw [hc2 j (by simp; omega) w ho.drop]; simp [bytesV])) ?_
     refine LW.q rfl (Qt.assign rfl) ?_
     refine LW.done ?_
     refine T.seq ?_
     refine T.region ?_
     refine LW.q rfl (Qt.move rfl) ?_
     refine LW.q rfl (Qt.move rfl) ?_
     refine LW.q rfl (Qt.convI (by kernel_rfl) (by kernel_rfl) rfl (wru32 (by omega) (by omega))) ?_
     refine LW.q rfl (Qt.xor32 (bs[k][j]'(by omega)).toUInt32 rfl rfl (by simp)) ?_
     refine LW.q rfl (Qt.assign rfl) ?_
     refine LW.done ?_
     refine T.seq ?_
     refine T.region ?_
     refine LW.q rfl (Qt.move rfl) ?_
     refine LW.done ?_
     refine T.block ?_
     refine T.loop (fun mz fz lz => ∃ (f0 : Fr) (q : Nat) (s3 : UInt32), (q ≤ 8 ∧ s3 = crcBits q (s2 ^^^ (bs[k][j]'(by omega)).toUInt32)) ∧ mz = 8 - q ∧ fz = (upd (upd (upd (upd (upd (upd (upd (upd f0 3 (.int .u32 s3.toNat)) 9 (.slice (some ⟨b, o, none⟩) bs.length c)) 10 (.int .i64 bs.length)) 11 (.int .i64 k)) 15 (.slice (some ⟨b2, o2, none⟩) bs[k].length pc)) 16 (.int .i64 bs[k].length)) 17 (.int .i64 j)) 25 (.int .i64 q)) ∧ lz = S ++ F) ?_ ?_
     · refine ⟨_, _, ⟨_, 0, _, ⟨by omega, rfl⟩, rfl, (updS rfl (updS rfl (updS rfl (updS rfl (updS rfl (updS rfl (updS rfl (updS rfl rfl)))))))), rfl⟩, Sub.any⟩
     ·
      rintro mz fz lz ⟨f0, q, s3, ⟨hq, hs3⟩, hmz, rfl, rfl⟩
      subst mz
      try simp only [List.cons_append, List.nil_append]
      refine T.seq ?_
      refine T.region ?_
      refine LW.q rfl (Qt.lss rfl rfl) ?_
      refine LW.done ?_
      refine T.seq ?_
      refine T.condP rfl (fun hql => ?_) (fun hql => ?_)
      ·
       refine T.skip ?_
       refine T.seq ?_
       refine T.block ?_
       refine T.seq ?_
       refine T.region ?_
       refine LW.q rfl (Qt.move rfl) ?_
       refine LW.q rfl (Qt.and32 1 rfl rfl rfl) ?_
       refine LW.q rfl (Qt.assign rfl) ?_
       refine LW.done ?_
       refine T.seq ?_
       refine T.region ?_
       refine LW.q rfl (Qt.move rfl) ?_
       refine LW.q rfl (Qt.eql rfl rfl) ?_
       refine LW.done ?_
       refine T.condP rfl (fun hbit => ?_) (fun hbit => ?_)
       ·
        refine T.region ?_
        refine LW.q rfl (Qt.move rfl) ?_
        refine LW.q rfl (Qt.shr32 rfl rfl) ?_
        refine LW.q rfl (Qt.xor32 3988292384 rfl rfl rfl) ?_
        refine LW.q rfl (Qt.assign rfl) ?_
        refine LW.done ?_
        refine T.region ?_
        refine LW.q rfl (Qt.add rfl rfl (wr64 (by omega) (by omega))) ?_
        refine LW.q rfl (Qt.move rfl) ?_
        refine LW.done ?_
        refine ⟨_, ?_, _, ⟨_, q + 1, _, ⟨by omega, by rw [crcBits, ← hs3, crcBit, if_pos (by apply UInt32.toNat_inj.1; show _ = 1; omega)]⟩, rfl, (updS rfl (updS rfl (updS rfl (updS rfl (updS rfl (updS rfl (updS rfl (updS rfl rfl)))))))), rfl⟩, Sub.any⟩
        first | omega | (simp; omega)
       ·
        refine T.region ?_
        refine LW.q rfl (Qt.move rfl) ?_
        refine LW.q rfl (Qt.shr32 rfl rfl) ?_
        refine LW.q rfl (Qt.assign rfl) ?_
        refine LW.done ?_
        refine T.region ?_
        refine LW.q rfl (Qt.add rfl rfl (wr64 (by omega) (by omega))) ?_
        refine LW.q rfl (Qt.move rfl) ?_
        refine LW.done ?_
        refine ⟨_, ?_, _, ⟨_, q + 1, _, ⟨by omega, by rw [crcBits, ← hs3, crcBit, if_neg (by intro e; rw [e] at hbit; exact hbit rfl)]⟩, rfl, (updS rfl (updS rfl (updS rfl (updS rfl (updS rfl (updS rfl (updS rfl (updS rfl rfl)))))))), rfl⟩, Sub.any⟩
        first | omega | (simp; omega)
      ·
       have e : q = 8 := by omega
       subst e
       refine T.exit ?_
       refine T.region ?_
       refine LW.q rfl (Qt.add rfl rfl (wr64 (by omega) (by omega))) ?_
       refine LW.q rfl (Qt.move rfl) ?_
       refine LW.done ?_
       refine ⟨_, ?_, _, ⟨_, j + 1, s3, ⟨by omega, by rw [List.take_succ_eq_append_getElem (by omega), ← List.append_assoc, crcS_snoc, ← hs2, hs3]; rfl⟩, rfl, (updS rfl (updS rfl (updS rfl (updS rfl (updS rfl (updS rfl (updS rfl rfl))))))), rfl⟩, Sub.any⟩
       first | omega | (simp; omega)
    ·
     have e : j = bs[k].length := by omega
     rw [e, List.take_length] at hs2
     refine T.exit ?_
     refine T.region ?_
     refine LW.q rfl (Qt.add rfl rfl (wr64 (by omega) (by omega))) ?_
     refine LW.q rfl (Qt.move rfl) ?_
     refine LW.done ?_
     refine ⟨_, ?_, _, ⟨_, k + 1, s2, ⟨by omega, by rw [List.take_succ_eq_append_getElem (by omega), List.flatten_append, hs2]; simp⟩, rfl, (updS rfl (updS rfl (updS rfl (updS rfl rfl)))), rfl⟩, Sub.any⟩
     first | omega | (simp; omega)
  ·
   have e : k = bs.length := by omega
   rw [e, List.take_length] at hs
   refine T.exit ?_
   refine T.seq ?_
   refine T.region ?_
   refine LW.q rfl (Qt.move rfl) ?_
   refine LW.q rfl (Qt.not32 rfl) ?_
   refine LW.q rfl (Qt.assign rfl) ?_
   refine LW.done ?_
   refine T.ret ?_
   exact ⟨.inl rfl, _, _, res [_] rfl ⟨rvT rfl, trivial⟩, ⟨by rw [hs]; rfl, rfl⟩, Sub.any⟩
end Go.Proofs.YtegohgaccmkigaaGreatDoor

/- More rules: numbers of 64 bits without sign, least and greatest, bytes of strings. Conditions: of each rule its own. -/
namespace Go.Proofs.YtegohgaccmkigaaGreatDoor
open Go.RowKit
section
variable {P : Program} {B : Base} {n : Nat} {S l r : List Assn} {f : Fr} {K : Value → List Assn → Prop}
variable {d : Option Tmp} {ty : TypeId} {pos : String} {af : Array Edge} {gd : Option (Nat × Bool)}

theorem Own.tl {w : World} {A : Assn} (H : Own B w (A :: l)) : Own B w l := H.map fun _ k => k.tail
theorem Qt.or64 {t t2 : TypeId} {x y : Operand} {a : UInt64} {b' : Int} (b : UInt64) (hx : ev n f x = some (.int .u64 a.toNat)) (hy : ev n f y = some (.int .u64 b')) (hb : b' = b.toNat) : Qt P B n S ⟨d, .binOp .or t x y t2, ty, pos, af, gd⟩ f (.int .u64 (a ||| b).toNat) := ⟨fun w _ => by
  subst hb
  have ha : BitVec.ofInt 64 (a.toNat : Int) = a.toBitVec := by rw [ofInt_nat]; simp
  have hb : BitVec.ofInt 64 (b.toNat : Int) = b.toBitVec := by rw [ofInt_nat]; simp
  have wr : ∀ r : UInt64, IntKind.u64.wrap (r.toBitVec.toNat : Int) = (r.toNat : Int) := fun r => wru64 (by omega) (by have := r.toNat_lt; have e : r.toBitVec.toNat = r.toNat := rfl; omega)
  have h : (Op.intBits .or .u64 (a.toNat : Int) (b.toNat : Int)).run P w = .ok (.int .u64 (a ||| b).toNat) w := by
    show Sem.run P (pure (Value.int .u64 (IntKind.u64.wrap ((BitVec.ofInt 64 (a.toNat : Int) ||| BitVec.ofInt 64 (b.toNat : Int)).toNat : Int)))) w = _
    rw [ha, hb, ← UInt64.toBitVec_or, wr]; rfl
  simp [execOp, evu_eq hx, evu_eq hy, eqGuard, Go.binOp, h]⟩
theorem Qt.shl64 {t t2 : TypeId} {x y : Operand} {a : UInt64} {k : IntKind} (hx : ev n f x = some (.int .u64 a.toNat)) (hy : ev n f y = some (.int k 8)) : Qt P B n S ⟨d, .binOp .shl t x y t2, ty, pos, af, gd⟩ f (.int .u64 (a <<< 8).toNat) := ⟨fun w _ => by
  have e : IntKind.u64.wrap ((a.toNat : Int) * 2 ^ 8) = ((a <<< 8).toNat : Int) := by
    rw [UInt64.toNat_shiftLeft]
    simp [IntKind.wrap, IntKind.bits, IntKind.signed, Nat.shiftLeft_eq]
  have h : (Op.shift .shl .u64 (a.toNat : Int) k 8).run P w = .ok (.int .u64 (a <<< 8).toNat) w := by
    rw [← e]
    simp [Op.shift, IntKind.bits]
  simp [execOp, evu_eq hx, evu_eq hy, eqGuard, Go.binOp, h]⟩
theorem Qt.shr64 {t t2 : TypeId} {x y : Operand} {a : UInt64} {k : IntKind} {i : Int} (j : Nat) (hx : ev n f x = some (.int .u64 a.toNat)) (hy : ev n f y = some (.int k i)) (hi : i = (j : Int)) (hj : j < 64) : Qt P B n S ⟨d, .binOp .shr t x y t2, ty, pos, af, gd⟩ f (.int .u64 (a.toNat / 2 ^ j : Nat)) := ⟨fun w _ => by
  subst hi
  have e : (a.toNat : Int).fdiv (2 ^ j) = ((a.toNat / 2 ^ j : Nat) : Int) := by
    rw [Int.fdiv_eq_ediv_of_nonneg _ (by exact_mod_cast Nat.zero_le _)]
    push_cast; rfl
  have h : (Op.shift .shr .u64 (a.toNat : Int) k (j : Int)).run P w = .ok (.int .u64 (a.toNat / 2 ^ j : Nat)) w := by
    have : min j 64 = j := by omega
    simp [Op.shift, IntKind.bits, this]
  simp [execOp, evu_eq hx, evu_eq hy, eqGuard, Go.binOp, h]⟩
theorem wr8_nat (m : Nat) : IntKind.u8.wrap (m : Int) = ((UInt8.ofNat m).toNat : Int) := by
  simp [IntKind.wrap, IntKind.bits, IntKind.signed]
theorem wru64_i64 (m : Int) : IntKind.u64.wrap m = ((UInt64.ofInt m).toNat : Int) := by
  simp [IntKind.wrap, IntKind.bits, IntKind.signed, UInt64.ofInt]
  omega
theorem Qt.max {x y : Operand} {k : IntKind} {a b : Int} (hx : ev n f x = some (.int k a)) (hy : ev n f y = some (.int k b)) {ts : Array TypeId} : Qt P B n S ⟨d, .call ⟨.builtin .max, #[x, y], ts⟩, ty, pos, af, gd⟩ f (.int k (Max.max a b)) := ⟨fun w _ => by
  have h : (if a < b then b else a) = Max.max a b := by split <;> omega
  have h' : (if b > a then b else a) = Max.max a b := by split <;> omega
  simp [execOp, resolve, invoke, builtin, Builtin.max_, Builtin.max2, evu_eq hx, evu_eq hy, h, h']⟩
theorem Qt.min {x y : Operand} {k : IntKind} {a b : Int} (hx : ev n f x = some (.int k a)) (hy : ev n f y = some (.int k b)) {ts : Array TypeId} : Qt P B n S ⟨d, .call ⟨.builtin .min, #[x, y], ts⟩, ty, pos, af, gd⟩ f (.int k (Min.min a b)) := ⟨fun w _ => by
  have h : (if b < a then b else a) = Min.min a b := by split <;> omega
  simp [execOp, resolve, invoke, builtin, Builtin.min_, Builtin.min2, evu_eq hx, evu_eq hy, h]⟩
/-- A byte of a string. -/
theorem Qt.indexS {t : TypeId} {x y : Operand} {a : List UInt8} {k : IntKind} {i : Int} (j : Nat) (ht : isStr P t = true) (hx : ev n f x = some (.string (strOf a))) (hy : ev n f y = some (.int k i)) (hj : i = (j : Int)) (hl : j < a.length) :
    Qt P B n S ⟨d, .index t x y, ty, pos, af, gd⟩ f (.int .u8 (a[j]).toNat) := ⟨fun w _ => by
  subst hj
  have hu := isStr_spec ht
  have hg : (strOf a)[j]? = some a[j] := by
    rw [getElem?_pos _ _ (by rw [size_strOf]; exact hl)]
    rfl
  simp [execOp, Instr.index, evu_eq hx, evu_eq hy, asIntOf, run_underlying hu, hg]⟩

/-! append of so many noughts: 'append(s, make([]T, m)...)' -/
section
variable (w : World)
end
/-- 'copy(dst, src)' of one-cell elements, something at least. -/
theorem Ef.copy {dT sT e g o dLen dCap sLen sCap : Nat} {x y : Operand} {a : Option Addr} {C cs : List Value} {src : List Value} {ty2 : TypeId} (hk : sliceB P dT e 1 = true) (hx : ev n f x = some (.slice (some ⟨g, o, none⟩) dLen dCap)) (hy : ev n f y = some (.slice a sLen sCap))
    (hS : RdV B l (.slice a sLen sCap) src) (m : Nat) (hm : m = Nat.min sLen dLen) (hpos : 0 < m) (hcs : cs = src.take m) (hl : sLen = src.length) (h1 : ∀ v ∈ src, v.oneCell' = true)
    [k : StoreAt g l C (splice C o cs) r] (hfit : o + m ≤ C.length) (h : K (.int .i64 m) r) : Ef P B n ⟨d, .call ⟨.builtin .copy, #[x, y], #[dT, sT]⟩, ty2, pos, af, gd⟩ f l K := ⟨fun w next Q ho hk2 => by
  have hml : m ≤ src.length := by rw [hm, hl]; exact Nat.min_le_left _ _
  have hcl : cs.length = m := by rw [hcs, List.length_take]; omega
  obtain ⟨X, t', hg, ho'⟩ := ho.store (g := g) (C := C) (D := splice C o cs) (length_splice _ _ _ (by omega))
  obtain ⟨hu, hs⟩ := sliceB_spec hk
  obtain ⟨a2, c2, e2, h3 | ⟨b, o2, e3, h4⟩⟩ := hS
  · rw [h3] at hml; simp at hml; omega
  · injection e2 with e2 _ _
    subst e2; subst e3
    have hr := run_copy_row (P := P) w dT sT ty2 e g o dLen dCap ⟨b, o2, none⟩ sLen sCap _ t' cs hu hs hg (by rw [hcl, hm]) (fun j v hv => by
      rw [Addr.add_mid]
      refine h4 w ho j v ?_
      rw [hcs, List.getElem?_take] at hv
      split at hv
      · exact hv
      · cases hv) (by simp; omega) (fun v hv => h1 v (by rw [hcs] at hv; exact List.mem_of_mem_take hv))
    have hsp := splice_append C X o cs (by omega)
    unfold splice at hsp
    simp only [List.append_assoc] at hr hsp
    rw [hsp] at hr
    unfold Oper.wp execOp
    simp only [eval_act', resolve, invoke, builtin, Sem.run_bind, Sem.run_pure, Result.andThen_ok, List.map_toArray, List.map_cons, List.map_nil, evu_eq hx, evu_eq hy, hr]
    refine hk2 _ _ _ (by rw [hcl]; exact h) ?_
    unfold splice at ho'
    simp only [List.append_assoc] at ho'
    exact ho'⟩
end
end Go.Proofs.YtegohgaccmkigaaGreatDoor

/- The package codec: Get and Put; slices.Clone of bytes. Conditions: that what is handed in can be read; sizes. -/
namespace Go.Proofs.YtegohgaccmkigaaGreatDoor
open Go.RowKit

theorem Cd.elemB : ElemOk Tryz.prog 43 5 1 1 := .mk' (.int .u8 0) Tryz.underlying43 (by kernel_rfl) rfl (by omega)
abbrev rB (v : Value) (n : Nat) (b : List UInt8) : Assn := row v 5 1 n (bytesV b)

def get64 (l : List UInt8) : UInt64 := l.foldl (fun n x => (n <<< 8) ||| x.toUInt64) 0
theorem get64_snoc (l : List UInt8) (x : UInt8) : get64 (l ++ [x]) = (get64 l <<< 8) ||| x.toUInt64 := by simp [get64]
/-- A number's lowest bytes, the highest of them first. -/
def be (n : UInt64) : Nat → List UInt8
  | 0 => []
  | k + 1 => UInt8.ofNat (n.toNat / 2 ^ (8 * k)) :: be n k
theorem length_be (n : UInt64) : ∀ k, (be n k).length = k
  | 0 => rfl
  | k + 1 => by simp [be, length_be n k]

set_option maxHeartbeats 1000000 in
set_option maxRecDepth 100000 in
theorem Cd.get (B : Base) (S : List Assn) (v : Value) (b : List UInt8) (hv : RdV B S v (bytesV b)) (hb : b.length < 2 ^ 48) : Fn Tryz.prog B 45 #[v] S (fun u l => u = .int .u64 (get64 b).toNat ∧ l = S) := by
 obtain ⟨a, c, rfl⟩ := hv.form (m := b.length) (by simp)
 refine Fn.enter1 19 Tryz.func45 rfl rfl (Nat.le_of_ble_eq_true rfl) (fun F => ?_)
 try simp only [List.cons_append, List.nil_append]
 refine T.seq ?_
 refine T.region ?_
 refine LW.q rfl (Qt.assign rfl) ?_
 refine LW.done ?_
 refine T.seq ?_
 refine T.region ?_
 refine LW.q rfl (Qt.assign rfl) ?_
 refine LW.done ?_
 refine T.seq ?_
 refine T.seq ?_
 refine T.region ?_
 refine LW.q rfl (Qt.move rfl) ?_
 refine LW.q rfl (Qt.len (e := 5) (sz := 1) (by kernel_rfl) rfl) ?_
 refine LW.q rfl (Qt.move rfl) ?_
 refine LW.done ?_
 refine T.block ?_
 refine T.loop (fun mz fz lz => ∃ (f0 : Fr) (k : Nat) (s : UInt64), (k ≤ b.length ∧ s = get64 (b.take k)) ∧ mz = b.length - k ∧ fz = (upd (upd (upd (upd f0 3 (.int .u64 s.toNat)) 6 (.slice a b.length c)) 7 (.int .i64 b.length)) 8 (.int .i64 k)) ∧ lz = S ++ F) ?_ ?_
 · refine ⟨_, _, ⟨_, 0, 0, ⟨Nat.zero_le _, rfl⟩, rfl, (updS rfl (updS rfl (updS rfl (updS rfl rfl)))), rfl⟩, Sub.any⟩
 ·
  rintro mz fz lz ⟨f0, k, s, ⟨hk, hs⟩, hmz, rfl, rfl⟩
  subst mz
  try simp only [List.cons_append, List.nil_append]
  refine T.seq ?_
  refine T.region ?_
  refine LW.q rfl (Qt.lss rfl rfl) ?_
  refine LW.done ?_
  refine T.seq ?_
  refine T.condP rfl (fun hlt => ?_) (fun hlt => ?_)
  ·
   obtain ⟨g, o, rfl, hc⟩ := hv.at (by omega)
   have hx := (b[k]'(by omega)).toNat_lt
   refine T.skip ?_
   refine T.seq ?_
   refine T.block ?_
   refine T.seq ?_
   refine T.region ?_
   refine LW.q rfl (Qt.index _ (e := 5) (sz := 1) (by kernel_rfl) rfl rfl rfl (by omega)) ?_
   refine LW.q rfl (Qt.loadW (v := .int .u8 (b[k]'(by omega)).toNat) (by kernel_rfl) rfl (fun w ho => by rw [hc k (by simp; omega) w ho.drop]; simp [bytesV])) ?_
   refine LW.q rfl (Qt.assign rfl) ?_
   refine LW.done ?_
   refine T.region ?_
   refine LW.q rfl (Qt.move rfl) ?_
   refine LW.q rfl (Qt.shl64 rfl rfl) ?_
   refine LW.q rfl (Qt.move rfl) ?_
   refine LW.q rfl (Qt.convI (by kernel_rfl) (by kernel_rfl) rfl (wru64 (by omega) (by omega))) ?_
   refine LW.q rfl (Qt.or64 (b[k]'(by omega)).toUInt64 rfl rfl (by simp)) ?_
   refine LW.q rfl (Qt.assign rfl) ?_
   refine LW.done ?_
   refine T.region ?_
   refine LW.q rfl (Qt.add rfl rfl (wr64 (by omega) (by omega))) ?_
   refine LW.q rfl (Qt.move rfl) ?_
   refine LW.done ?_
   refine ⟨_, ?_, _, ⟨_, k + 1, _, ⟨by omega, by rw [List.take_succ_eq_append_getElem (by omega), get64_snoc, ← hs]⟩, rfl, (updS rfl (updS rfl (updS rfl (updS rfl rfl)))), rfl⟩, Sub.any⟩
   first | omega | (simp; omega)
  ·
   have e : k = b.length := by omega
   rw [e, List.take_length] at hs
   refine T.exit ?_
   refine T.seq ?_
   refine T.region ?_
   refine LW.q rfl (Qt.move rfl) ?_
   refine LW.q rfl (Qt.assign rfl) ?_
   refine LW.done ?_
   refine T.ret ?_
   exact ⟨.inl rfl, _, _, res [_] rfl ⟨rvT rfl, trivial⟩, ⟨by rw [hs]; rfl, rfl⟩, Sub.any⟩

set_option maxHeartbeats 1000000 in
set_option maxRecDepth 100000 in
theorem Cd.put (B : Base) (S : List Assn) (v : Value) (b : List UInt8) (m : Nat) (hm : b.length = m) (n : UInt64) (i : Int) (k : Nat) (hi : i = k) (hk : k ≤ 8) (hv : RdV B S v (bytesV b)) (hb : m < 2 ^ 40) : Fn Tryz.prog B 63 #[v, .int .u64 n.toNat, .int .i64 i] S (fun u l => ∃ p c, u = .slice p (m + k) c ∧ l = rB (.slice p (m + k) c) (m + k) (b ++ be n k) :: S) := by
 subst hi
 subst hm
 obtain ⟨a, c, rfl⟩ := hv.form (m := b.length) (by simp)
 refine Fn.enter3 29 Tryz.func63 rfl rfl (Nat.le_of_ble_eq_true rfl) (fun F => ?_)
 try simp only [List.cons_append, List.nil_append]
 refine T.seq ?_
 refine T.region ?_
 refine LW.q rfl (Qt.assign rfl) ?_
 refine LW.done ?_
 refine T.seq ?_
 refine T.region ?_
 refine LW.e rfl (Ef.empty Cd.elemB ?_)
 rintro g9
 try simp only [List.cons_append, List.nil_append]
 refine LW.q rfl (Qt.move rfl) ?_
 refine LW.e rfl (Ef.append Cd.elemB rfl rfl (SrcOf.rd (m := b.length) (hv.mono (fun w ho => ho.tl.drop)) (by kernel_rfl) (by simp) one_bytesV) (by unfold maxLen; omega) (by omega) ?_)
 rintro p1 c1 hp1
 try simp only [List.cons_append, List.nil_append]
 simp only [Nat.zero_add, List.nil_append]
 refine LW.q rfl (Qt.assign rfl) ?_
 refine LW.done ?_
 refine T.seq ?_
 refine T.seq ?_
 refine T.region ?_
 refine LW.q rfl (Qt.move rfl) ?_
 refine LW.q rfl (Qt.max rfl rfl) ?_
 refine LW.q rfl (Qt.min rfl rfl) ?_
 refine LW.q rfl (Qt.sub rfl rfl (wr64 (by omega) (by omega))) ?_
 refine LW.q rfl (Qt.assign rfl) ?_
 refine LW.done ?_
 refine T.block ?_
 refine T.loop (fun mz fz lz => ∃ (f0 : Fr) (j : Nat) (z : Int) (acc : List UInt8) (m : Nat) (p : Option Addr) (c : Nat), (j ≤ k ∧ z = (j : Int) - 1 ∧ acc ++ be n j = b ++ be n k ∧ m + j = b.length + k) ∧ mz = j ∧ fz = (upd (upd (upd f0 1 (.int .u64 n.toNat)) 7 (.slice p m c)) 8 (.int .i64 z)) ∧ lz = [rB (.slice p m c) m acc] ++ (S ++ F)) ?_ ?_
 · refine ⟨_, _, ⟨_, k, _, b, b.length, p1, c1, ⟨Nat.le_refl _, by omega, rfl, rfl⟩, rfl, (updS rfl (updS rfl (updS rfl rfl))), rfl⟩, Sub.any⟩
 ·
  rintro mz fz lz ⟨f0, j, z, acc, m, p, c, ⟨hj, hz, hacc, hm⟩, hmz, rfl, rfl⟩
  subst mz
  try simp only [List.cons_append, List.nil_append]
  refine T.seq ?_
  refine T.seq ?_
  refine T.region ?_
  refine LW.q rfl (Qt.move rfl) ?_
  refine LW.q rfl (Qt.geq rfl rfl) ?_
  refine LW.done ?_
  refine T.condP rfl (fun hlt => ?_) (fun hlt => ?_)
  ·
   obtain ⟨q, rfl⟩ : ∃ q, j = q + 1 := ⟨j - 1, by omega⟩
   refine T.skip ?_
   refine T.seq ?_
   refine T.block ?_
   refine T.region ?_
   refine LW.q rfl (Qt.move rfl) ?_
   refine LW.q rfl (Qt.move rfl) ?_
   refine LW.q rfl (Qt.move rfl) ?_
   refine LW.q rfl (Qt.mul rfl rfl (wr64 (by omega) (by omega))) ?_
   refine LW.q rfl (Qt.shr64 (8 * q) rfl rfl (by omega) (by omega)) ?_
   refine LW.q rfl (Qt.convI (by kernel_rfl) (by kernel_rfl) rfl (wr8_nat _)) ?_
   refine LW.e rfl (Ef.one [_] (e := 5) (sz := 1) (by kernel_rfl) ⟨.int .u8 0, by kernel_rfl, rfl⟩ rfl rfl rfl (by omega) (by omega) ?_)
   intro g26
   refine LW.e rfl (Ef.append Cd.elemB rfl rfl (SrcOf.blk (by kernel_rfl) rfl (by simp [Value.oneCell'])) (by unfold maxLen; omega) (by omega) ?_)
   rintro p2 c2 hp2
   try simp only [List.cons_append, List.nil_append]
   rw [show bytesV acc ++ [Value.int .u8 (UInt8.ofNat (n.toNat / 2 ^ (8 * q))).toNat] = bytesV (acc ++ [UInt8.ofNat (n.toNat / 2 ^ (8 * q))]) by simp [bytesV]]
   refine LW.q rfl (Qt.assign rfl) ?_
   refine LW.done ?_
   refine T.region ?_
   refine LW.q rfl (Qt.move rfl) ?_
   refine LW.q rfl (Qt.sub rfl rfl (wr64 (by omega) (by omega))) ?_
   refine LW.q rfl (Qt.assign rfl) ?_
   refine LW.done ?_
   refine ⟨_, ?_, _, ⟨_, q, _, acc ++ [UInt8.ofNat (n.toNat / 2 ^ (8 * q))], m + 1, p2, c2, ⟨by omega, by omega, by rw [← hacc]; simp [be], by omega⟩, rfl, (updS rfl (updS rfl (updS rfl rfl))), rfl⟩, Sub.any⟩
   first | omega | (simp; omega)
  ·
   obtain rfl : j = 0 := by omega
   obtain rfl : acc = b ++ be n k := by simpa [be] using hacc
   obtain rfl : m = b.length + k := by omega
   refine T.exit ?_
   refine T.seq ?_
   refine T.region ?_
   refine LW.q rfl (Qt.move rfl) ?_
   refine LW.q rfl (Qt.assign rfl) ?_
   refine LW.done ?_
   refine T.ret ?_
   exact ⟨.inl rfl, _, _, res [_] rfl ⟨rvT rfl, trivial⟩, ⟨_, _, rfl, rfl⟩, Sub.any⟩

theorem RdV.rB {B : Base} {p : Option Addr} {m c : Nat} {b : List UInt8} (hm : b.length = m) (hp : 0 < m → ∃ g, p = some ⟨g, 0, none⟩) : RdV B [rB (.slice p m c) m b] (.slice p m c) (bytesV b) :=
  RdV.ofRow (e := 5) (fun _ ho => ho.row_owns) (by simp [hm]) hp
theorem made_bytes (n : Nat) : (madeCells (Value.int .u8 0).cells (n * 1)).toList = bytesV (List.replicate n 0) := by
  rw [show (Value.int .u8 0).cells = (List.replicate 1 (Value.int .u8 0)).toArray from rfl, made_replicate _ 1 _ (by omega)]
  unfold bytesV
  rw [List.map_replicate, Nat.mul_one]
  rfl
end Go.Proofs.YtegohgaccmkigaaGreatDoor

/- bytes.Trim with the cutset of one nought: is anything left? Conditions: that what is handed in can be read. -/
namespace Go.Proofs.YtegohgaccmkigaaGreatDoor
open Go.RowKit

theorem RdV.take {B : Base} {S : List Assn} {a : Option Addr} {m c : Nat} {cs : List Value} (h : RdV B S (.slice a m c) cs) (hi c' : Nat) (hh : hi ≤ cs.length) : RdV B S (.slice a hi c') (cs.take hi) := by
  have := h.sub 0 hi c' (Nat.zero_le _) hh a (fun _ b o e => by rw [e]; rfl)
  simpa using this

set_option maxHeartbeats 1000000 in
set_option maxRecDepth 100000 in
theorem Tr.right (B : Base) (S : List Assn) (a : Option Addr) (m c : Nat) (b : List UInt8) (hv : RdV B S (.slice a m c) (bytesV b)) (hm : b.length = m) (hc : m ≤ c) (hb : m < 2 ^ 48) : Fn Tryz.prog B 75 #[.slice a m c, .int .u8 0] S (fun u l => ∃ m', u = .slice a m' c ∧ m' ≤ m ∧ (∀ i (h : i < b.length), m' ≤ i → b[i] = 0) ∧ l = S) := by
 refine Fn.enter2 24 Tryz.func75 rfl rfl (Nat.le_of_ble_eq_true rfl) (fun F => ?_)
 try simp only [List.cons_append, List.nil_append]
 refine T.seq ?_
 refine T.region ?_
 refine LW.q rfl (Qt.assign rfl) ?_
 refine LW.done ?_
 refine T.seq ?_
 refine T.block ?_
 refine T.loop (fun mz fz lz => ∃ (f0 : Fr) (j : Nat), (j ≤ m ∧ ∀ i (h : i < b.length), j ≤ i → b[i] = 0) ∧ mz = j ∧ fz = (upd (upd f0 0 (.slice a j c)) 1 (.int .u8 0)) ∧ lz = S ++ F) ?_ ?_
 · refine ⟨_, _, ⟨_, m, ⟨Nat.le_refl _, fun i h1 h2 => by omega⟩, rfl, (updS rfl (updS rfl rfl)), rfl⟩, Sub.any⟩
 ·
  rintro mz fz lz ⟨f0, j, ⟨hj, hz⟩, hmz, rfl, rfl⟩
  subst mz
  try simp only [List.cons_append, List.nil_append]
  refine T.seq ?_
  refine T.seq ?_
  refine T.region ?_
  refine LW.q rfl (Qt.move rfl) ?_
  refine LW.q rfl (Qt.len (e := 5) (sz := 1) (by kernel_rfl) rfl) ?_
  refine LW.q rfl (Qt.gtr rfl rfl) ?_
  refine LW.q rfl (Qt.move rfl) ?_
  refine LW.split (t := 8) rfl (fun hlt => ?_) (fun hlt => ?_)
  ·
   try replace hlt := of_decide_eq_true hlt
   obtain ⟨g, o, rfl, hcell⟩ := hv.at (by omega)
   obtain ⟨q, rfl⟩ : ∃ q, j = q + 1 := ⟨j - 1, by omega⟩
   refine LW.q rfl (Qt.move rfl) ?_
   refine LW.q rfl (Qt.move rfl) ?_
   refine LW.q rfl (Qt.len (e := 5) (sz := 1) (by kernel_rfl) rfl) ?_
   refine LW.q rfl (Qt.sub rfl rfl (wr64 (by omega) (by omega))) ?_
   refine LW.q rfl (Qt.index q (e := 5) (sz := 1) (by kernel_rfl) rfl rfl (by omega) (by omega)) ?_
   refine LW.q rfl (Qt.loadW (v := .int .u8 (b[q]'(by omega)).toNat) (by kernel_rfl) rfl (fun w ho => by rw [hcell q (by simp; omega) w ho.drop]; simp [bytesV])) ?_
   refine LW.q rfl (Qt.move rfl) ?_
   refine LW.q rfl (Qt.eql rfl rfl) ?_
   refine LW.q rfl (Qt.pick rfl rfl) ?_
   refine LW.done ?_
   refine T.condP rfl (fun he => ?_) (fun he => ?_)
   ·
    refine T.skip ?_
    refine T.block ?_
    refine T.region ?_
    refine LW.q rfl (Qt.move rfl) ?_
    refine LW.q rfl (Qt.move rfl) ?_
    refine LW.q rfl (Qt.len (e := 5) (sz := 1) (by kernel_rfl) rfl) ?_
    refine LW.q rfl (Qt.sub rfl rfl (wr64 (by omega) (by omega))) ?_
    refine LW.q rfl (Qt.slice_nsn q (e := 5) (sz := 1) (by kernel_rfl) rfl rfl (by omega) (by omega)) ?_
    refine LW.q rfl (Qt.assign rfl) ?_
    refine LW.done ?_
    refine ⟨_, ?_, _, ⟨_, q, ⟨by omega, fun i h1 h2 => by rcases Nat.eq_or_lt_of_le h2 with h3 | h3; subst h3; apply UInt8.toNat_inj.1; show _ = 0; omega; exact hz i h1 (by omega)⟩, rfl, (updS rfl (updS rfl rfl)), rfl⟩, Sub.any⟩
    first | omega | (simp; omega)
   ·
    refine T.exit ?_
    refine T.seq ?_
    refine T.region ?_
    refine LW.q rfl (Qt.move rfl) ?_
    refine LW.q rfl (Qt.assign rfl) ?_
    refine LW.done ?_
    refine T.ret ?_
    exact ⟨.inl rfl, _, _, res [_] rfl ⟨rvT rfl, trivial⟩, ⟨_, rfl, hj, hz, rfl⟩, Sub.any⟩
  ·
   try replace hlt := of_decide_eq_false hlt
   refine LW.s rfl ?_
   refine LW.s rfl ?_
   refine LW.s rfl ?_
   refine LW.s rfl ?_
   refine LW.s rfl ?_
   refine LW.s rfl ?_
   refine LW.s rfl ?_
   refine LW.s rfl ?_
   refine LW.q rfl (Qt.pick rfl rfl) ?_
   refine LW.done ?_
   first | refine T.condF rfl ?_ | refine T.condPF rfl (by omega) ?_ | refine T.condBF rfl (by omega) ?_
   refine T.exit ?_
   refine T.seq ?_
   refine T.region ?_
   refine LW.q rfl (Qt.move rfl) ?_
   refine LW.q rfl (Qt.assign rfl) ?_
   refine LW.done ?_
   refine T.ret ?_
   exact ⟨.inl rfl, _, _, res [_] rfl ⟨rvT rfl, trivial⟩, ⟨_, rfl, hj, hz, rfl⟩, Sub.any⟩

set_option maxHeartbeats 1000000 in
set_option maxRecDepth 100000 in
theorem Tr.left (B : Base) (S : List Assn) (a : Option Addr) (m c : Nat) (b : List UInt8) (hv : RdV B S (.slice a m c) (bytesV b)) (hm : b.length = m) (hc : m ≤ c) (hb : m < 2 ^ 48) : Fn Tryz.prog B 74 #[.slice a m c, .int .u8 0] S (fun u l => ∃ p' m' c', u = .slice p' m' c' ∧ (m' = 0 ↔ ∀ x ∈ b, x = 0) ∧ l = S) := by
 refine Fn.enter2 21 Tryz.func74 rfl rfl (Nat.le_of_ble_eq_true rfl) (fun F => ?_)
 try simp only [List.cons_append, List.nil_append]
 refine T.seq ?_
 refine T.region ?_
 refine LW.q rfl (Qt.assign rfl) ?_
 refine LW.done ?_
 refine T.seq ?_
 refine T.block ?_
 refine T.loop (fun mz fz lz => ∃ (f0 : Fr) (j k d : Nat) (p : Option Addr), (j ≤ m ∧ k = m - j ∧ d = c - j ∧ (∀ i (h : i < b.length), i < j → b[i] = 0) ∧ (j < m → ∀ g o, a = some ⟨g, o, none⟩ → p = some ⟨g, o + j * 1, none⟩)) ∧ mz = k ∧ fz = (upd (upd f0 0 (.slice p k d)) 1 (.int .u8 0)) ∧ lz = S ++ F) ?_ ?_
 · refine ⟨_, _, ⟨_, 0, m, c, a, ⟨Nat.zero_le _, rfl, rfl, fun i h1 h2 => by omega, fun _ g o e => by rw [e]; simp⟩, rfl, (updS rfl (updS rfl rfl)), rfl⟩, Sub.any⟩
 ·
  rintro mz fz lz ⟨f0, j, k, d, p, ⟨hj, hk, hd, hz, hp⟩, hmz, rfl, rfl⟩
  subst mz
  try simp only [List.cons_append, List.nil_append]
  refine T.seq ?_
  refine T.seq ?_
  refine T.region ?_
  refine LW.q rfl (Qt.move rfl) ?_
  refine LW.q rfl (Qt.len (e := 5) (sz := 1) (by kernel_rfl) rfl) ?_
  refine LW.q rfl (Qt.gtr rfl rfl) ?_
  refine LW.q rfl (Qt.move rfl) ?_
  refine LW.split (t := 8) rfl (fun hlt => ?_) (fun hlt => ?_)
  ·
   try replace hlt := of_decide_eq_true hlt
   obtain ⟨g, o, rfl, hcell⟩ := hv.at (by omega)
   obtain rfl := hp (by omega) g o rfl
   refine LW.q rfl (Qt.move rfl) ?_
   refine LW.q rfl (Qt.index 0 (e := 5) (sz := 1) (by kernel_rfl) rfl rfl rfl (by omega)) ?_
   refine LW.q rfl (Qt.loadW (v := .int .u8 (b[j]'(by omega)).toNat) (by kernel_rfl) rfl (fun w ho => by simp only [Nat.zero_mul, Nat.add_zero]; rw [hcell j (by simp; omega) w ho.drop]; simp [bytesV])) ?_
   refine LW.q rfl (Qt.move rfl) ?_
   refine LW.q rfl (Qt.eql rfl rfl) ?_
   refine LW.q rfl (Qt.pick rfl rfl) ?_
   refine LW.done ?_
   refine T.condP rfl (fun he => ?_) (fun he => ?_)
   ·
    refine T.skip ?_
    refine T.block ?_
    refine T.region ?_
    refine LW.q rfl (Qt.move rfl) ?_
    refine LW.q rfl (Qt.slice_snn 1 (e := 5) (sz := 1) (by kernel_rfl) rfl rfl rfl (by omega)) ?_
    refine LW.q rfl (Qt.assign rfl) ?_
    refine LW.done ?_
    refine ⟨_, ?_, _, ⟨_, j + 1, k - 1, d - 1, _, ⟨by omega, by omega, by omega, fun i h1 h2 => by rcases Nat.eq_or_lt_of_le (Nat.le_of_lt_succ h2) with h3 | h3; subst h3; apply UInt8.toNat_inj.1; show _ = 0; omega; exact hz i h1 (by omega), fun h g' o' e => by cases e; rw [offA_some (by omega)]; first | (simp; done) | (simp; omega)⟩, rfl, (updS rfl (updS rfl rfl)), rfl⟩, Sub.any⟩
    first | omega | (simp; omega)
   ·
    refine T.exit ?_
    refine T.seq ?_
    refine T.seq ?_
    refine T.region ?_
    refine LW.q rfl (Qt.move rfl) ?_
    refine LW.q rfl (Qt.len (e := 5) (sz := 1) (by kernel_rfl) rfl) ?_
    refine LW.q rfl (Qt.eql rfl rfl) ?_
    refine LW.done ?_
    first | refine T.condF rfl ?_ | refine T.condPF rfl (by omega) ?_ | refine T.condBF rfl (by omega) ?_
    refine T.skip ?_
    refine T.seq ?_
    refine T.region ?_
    refine LW.q rfl (Qt.move rfl) ?_
    refine LW.q rfl (Qt.assign rfl) ?_
    refine LW.done ?_
    refine T.ret ?_
    exact ⟨.inl rfl, _, _, res [_] rfl ⟨rvT rfl, trivial⟩, ⟨_, _, _, rfl, ⟨fun h => by omega, fun h => by have := h b[j] (List.getElem_mem _); rw [this] at he; exact absurd rfl he⟩, rfl⟩, Sub.any⟩
  ·
   try replace hlt := of_decide_eq_false hlt
   refine LW.s rfl ?_
   refine LW.s rfl ?_
   refine LW.s rfl ?_
   refine LW.s rfl ?_
   refine LW.s rfl ?_
   refine LW.q rfl (Qt.pick rfl rfl) ?_
   refine LW.done ?_
   first | refine T.condF rfl ?_ | refine T.condPF rfl (by omega) ?_ | refine T.condBF rfl (by omega) ?_
   refine T.exit ?_
   refine T.seq ?_
   refine T.seq ?_
   refine T.region ?_
   refine LW.q rfl (Qt.move rfl) ?_
   refine LW.q rfl (Qt.len (e := 5) (sz := 1) (by kernel_rfl) rfl) ?_
   refine LW.q rfl (Qt.eql rfl rfl) ?_
   refine LW.done ?_
   first | refine T.condT rfl ?_ | refine T.condPT rfl (by omega) ?_ | refine T.condBT rfl (by omega) ?_
   refine T.seq ?_
   refine T.region ?_
   refine LW.q rfl (Qt.assign rfl) ?_
   refine LW.done ?_
   refine T.ret ?_
   exact ⟨.inl rfl, _, _, res [_] rfl ⟨rvT rfl, trivial⟩, ⟨_, _, _, rfl, ⟨fun _ x hx => by obtain ⟨i, hi, rfl⟩ := List.mem_iff_getElem.1 hx; exact hz i hi (by omega), fun _ => rfl⟩, rfl⟩, Sub.any⟩

set_option maxHeartbeats 1000000 in
set_option maxRecDepth 100000 in
theorem Tr.trim (B : Base) (S : List Assn) (a : Option Addr) (m c : Nat) (b : List UInt8) (hv : RdV B S (.slice a m c) (bytesV b)) (hm : b.length = m) (hc : m ≤ c) (hb : m < 2 ^ 48) : Fn Tryz.prog B 66 #[.slice a m c, .string (strOf [0])] S (fun u l => ∃ p' m' c', u = .slice p' m' c' ∧ (m' = 0 ↔ ∀ x ∈ b, x = 0) ∧ l = S) := by
 refine Fn.enter2 42 Tryz.func66 rfl rfl (Nat.le_of_ble_eq_true rfl) (fun F => ?_)
 try simp only [List.cons_append, List.nil_append]
 refine T.seq ?_
 refine T.region ?_
 refine LW.q rfl (Qt.assign rfl) ?_
 refine LW.done ?_
 refine T.seq ?_
 refine T.seq ?_
 refine T.region ?_
 refine LW.q rfl (Qt.move rfl) ?_
 refine LW.q rfl (Qt.len (e := 5) (sz := 1) (by kernel_rfl) rfl) ?_
 refine LW.q rfl (Qt.eql rfl rfl) ?_
 refine LW.done ?_
 refine T.condP rfl (fun h0 => ?_) (fun h0 => ?_)
 ·
  refine T.seq ?_
  refine T.region ?_
  refine LW.q rfl (Qt.assign rfl) ?_
  refine LW.done ?_
  refine T.ret ?_
  exact ⟨.inl rfl, _, _, res [_] rfl ⟨rvT rfl, trivial⟩, ⟨_, _, _, rfl, ⟨fun _ x hx => (by obtain rfl : b = [] := List.eq_nil_of_length_eq_zero (by omega); cases hx), fun _ => rfl⟩, rfl⟩, Sub.any⟩
 ·
  refine T.skip ?_
  refine T.seq ?_
  refine T.seq ?_
  refine T.region ?_
  refine LW.q rfl (Qt.move rfl) ?_
  refine LW.q rfl (Qt.eqlS (b := []) rfl rfl) ?_
  refine LW.done ?_
  first | refine T.condF rfl ?_ | refine T.condPF rfl (by simp) ?_ | refine T.condBF rfl (by simp) ?_
  refine T.skip ?_
  refine T.seq ?_
  refine T.seq ?_
  refine T.region ?_
  refine LW.q rfl (Qt.move rfl) ?_
  first | refine LW.q rfl (Qt.lenSt (by kernel_rfl) rfl) ?_ | refine LW.q rfl (Qt.lenS (by kernel_rfl) rfl) ?_
  refine LW.q rfl (Qt.eql rfl rfl) ?_
  refine LW.q rfl (Qt.move rfl) ?_
  first | refine LW.gT (t := 16) rfl rfl ?_ | refine LW.gT (t := 16) rfl (decide_eq_true (by omega)) ?_ | refine LW.gT (t := 16) rfl (by omega) ?_
  refine LW.q rfl (Qt.move rfl) ?_
  refine LW.q rfl (Qt.indexS 0 (by kernel_rfl) rfl rfl rfl (by first | omega | decide)) ?_
  refine LW.q rfl (Qt.lss rfl rfl) ?_
  refine LW.q rfl (Qt.pick rfl rfl) ?_
  refine LW.done ?_
  first | refine T.condT rfl ?_ | refine T.condPT rfl (by decide) ?_ | refine T.condBT rfl (by decide) ?_
  refine T.seq ?_
  refine T.draw 7 ([]) (by kernel_rfl) (Nat.le_of_ble_eq_true rfl) (by kernel_rfl) ?_
  refine RW.q 0 rfl rfl (by kernel_rfl) Sub.any (Qt.move rfl) ?_
  refine RW.q 1 rfl rfl (by kernel_rfl) Sub.any (Qt.move rfl) ?_
  refine RW.q 2 rfl rfl (by kernel_rfl) Sub.any (Qt.indexS 0 (by kernel_rfl) rfl rfl rfl (by first | omega | decide)) ?_
  refine RW.q 4 rfl rfl (by kernel_rfl) Sub.any (Qt.move rfl) ?_
  refine RW.q 5 rfl rfl (by kernel_rfl) Sub.any (Qt.indexS 0 (by kernel_rfl) rfl rfl rfl (by first | omega | decide)) ?_
  refine RW.one 3 (by kernel_rfl) ?_
  refine RO.eS rfl rfl (Ef.call (Tr.right B S a m c b hv hm hc hb) Tryz.func75 rfl rfl rfl ?_)
  rintro _ S ⟨m1, rfl, hm1, hz1, rfl⟩
  try simp only [List.cons_append, List.nil_append]
  refine ⟨Sub.any, ?_⟩
  refine RW.one 6 (by kernel_rfl) ?_
  refine RO.eS rfl rfl (Ef.call (Tr.left B S a m1 c (b.take m1) (by have := hv.take m1 c (by simp; omega); rwa [show (bytesV b).take m1 = bytesV (b.take m1) by simp [bytesV]] at this) (by simp; omega) (by omega) (by omega)) Tryz.func74 rfl rfl rfl ?_)
  rintro _ S ⟨p2, m2, c2, rfl, hz2, rfl⟩
  try simp only [List.cons_append, List.nil_append]
  refine ⟨Sub.any, ?_⟩
  refine RW.done (by rfl) ?_
  simp only [List.drop_succ_cons, List.drop_zero, List.drop_nil]
  refine LW.q rfl (Qt.assign rfl) ?_
  refine LW.done ?_
  refine T.ret ?_
  exact ⟨.inl rfl, _, _, res [_] rfl ⟨rvT rfl, trivial⟩, ⟨_, _, _, rfl, hz2.trans ⟨fun h x hx => by obtain ⟨i, hi, rfl⟩ := List.mem_iff_getElem.1 hx; by_cases hi2 : i < m1; exact h _ (List.mem_iff_getElem.2 ⟨i, by simp; omega, by simp⟩); exact hz1 i hi (by omega), fun h x hx => h x (List.mem_of_mem_take hx)⟩, rfl⟩, Sub.any⟩
end Go.Proofs.YtegohgaccmkigaaGreatDoor

/- The package page: what a page is in memory; New, Count, Mark, SetMark, has, Left, Room, Get. Conditions: none. -/
namespace Go.Proofs.YtegohgaccmkigaaGreatDoor
open Go.RowKit

structure Rec where
  p : Option Addr
  c : Nat
  b : List UInt8
abbrev recV (r : Rec) : Value := .slice r.p r.b.length r.c
def recA (r : Rec) : Assn := rB (.slice r.p r.b.length r.c) r.b.length r.b
/-- The records' own memory. -/
def recsA (R : List Rec) : Assn := sepL (R.map recA)
section
variable {P : Program} {B : Base} {n : Nat} {l r F : List Assn} {f : Fr} {Φ : Post} {c : Code} {w : World}
theorem Has.two {A1 A2 : Assn} {h : Piece} (H : Has (A1 :: A2 :: l) h) : Has (sepL [A1, A2] :: l) h := Has.close_sepL (l := [A1, A2]) H
theorem recsA_snoc {R : List Rec} {r : Rec} {h : Piece} (H : Has (recsA R :: recA r :: l) h) : Has (recsA (R ++ [r]) :: l) h := by
  have h1 : Has ((R.map recA ++ [recA r]) ++ l) h := by
    rw [List.append_assoc]
    exact Has.open_sepL H
  have h2 := Has.close_sepL h1
  unfold recsA
  rw [List.map_append]
  exact h2
end

end Go.Proofs.YtegohgaccmkigaaGreatDoor

/- The package page: Room, Get, Add. Conditions: that what is handed in can be read. -/
namespace Go.Proofs.YtegohgaccmkigaaGreatDoor
open Go.RowKit

theorem Pg.elemP : ElemOk Tryz.prog 142 43 1 24 := .mk' (.slice none 0 0) Tryz.underlying142 (by kernel_rfl) rfl (by omega)
end Go.Proofs.YtegohgaccmkigaaGreatDoor

/- The package page: Bytes. Conditions: none. -/
namespace Go.Proofs.YtegohgaccmkigaaGreatDoor
open Go.RowKit

theorem bytesV_append (a b : List UInt8) : bytesV (a ++ b) = bytesV a ++ bytesV b := by simp [bytesV]
theorem PartsV.one {B : Base} {L : List Assn} {g : Nat} {v : Value} {b : List UInt8} (h : RdV B L v (bytesV b)) [k : Rd B g L [v]] : PartsV B L (.slice (some ⟨g, 0, none⟩) 1 1) [b] := by
  refine ⟨[v], ⟨_, 1, rfl, .inr ⟨g, 0, rfl, fun w ho => ho.range (g := g) (C := [v]) (fun j u hj => by rw [Nat.zero_add]; exact hj)⟩⟩, rfl, fun i h1 h2 => ?_⟩
  obtain rfl : i = 0 := by simp at h1; omega
  exact h
end Go.Proofs.YtegohgaccmkigaaGreatDoor

/- The package page: Open. Conditions: that what is handed in can be read. -/
namespace Go.Proofs.YtegohgaccmkigaaGreatDoor
open Go.RowKit

/-- A part of readable bytes. -/
theorem RdV.part {B : Base} {S : List Assn} {a : Option Addr} {m c : Nat} {b : List UInt8} (hv : RdV B S (.slice a m c) (bytesV b)) (lo hi : Nat) (hl : lo ≤ hi) (hm : b.length = m) (hh : hi ≤ m) (hc : hi ≤ c) {z : Nat} (hz : hi - lo = z) : RdV B S (.slice (offA a c lo 1) z (c - lo)) (bytesV ((b.take hi).drop lo)) := by
  subst hz
  have := hv.sub lo hi (c - lo) hl (by simp; omega) (offA a c lo 1) (fun h g o e => by rw [e, offA_some (by omega), Nat.mul_one])
  rwa [show ((bytesV b).take hi).drop lo = bytesV ((b.take hi).drop lo) by simp [bytesV]] at this
theorem RdV.dropB {B : Base} {S : List Assn} {a : Option Addr} {m c : Nat} {b : List UInt8} (hv : RdV B S (.slice a m c) (bytesV b)) (lo : Nat) (hl : lo ≤ m) (hm : b.length = m) (hc : m ≤ c) : RdV B S (.slice (offA a c lo 1) (m - lo) (c - lo)) (bytesV (b.drop lo)) := by
  have := hv.part lo m hl hm (Nat.le_refl _) hc rfl
  rwa [List.take_of_length_le (by omega)] at this
instance (priority := low) (B : Base) (g : Nat) (S l : List Assn) (C : List Value) [k : Rd B g l C] : Rd B g (S ++ l) C := ⟨fun w H => k.rd w (H.map fun _ k => by
  obtain ⟨_, _, _, _, a, _, hm⟩ := Has.split k
  exact hm.mono a)⟩
theorem Has.app_imp {S l m : List Assn} {h : Piece} (f : ∀ k, Has l k → Has m k) (H : Has (S ++ l) h) : Has (S ++ m) h := by
  obtain ⟨_, _, d, a, b, e1, e2⟩ := Has.split H
  exact Has.join d a b e1 (f _ e2)
theorem Has.over {A : Assn} : ∀ {m r : List Assn} {h : Piece}, Has (m ++ A :: r) h → Has (A :: (m ++ r)) h
  | [], _, _, H => H
  | _ :: _, _, _, H => Has.swap (Has.cons_imp (fun _ k => Has.over k) H)
instance (priority := low) (A : Assn) (S l r : List Assn) [k : TakeA A l r] : TakeA A (S ++ l) (S ++ r) := ⟨fun _ H => Has.over (Has.app_imp k.take H)⟩
end Go.Proofs.YtegohgaccmkigaaGreatDoor

/- The package page, plain: Bytes and Open are each other's reverse. Conditions: none. -/
namespace Go.Proofs.YtegohgaccmkigaaGreatDoor
open Go.RowKit

def natOf (l : List UInt8) : Nat := l.foldl (fun n x => n * 256 + x.toNat) 0
theorem natOf_snoc (l : List UInt8) (x : UInt8) : natOf (l ++ [x]) = natOf l * 256 + x.toNat := by simp [natOf]
theorem foldl_nat (l : List UInt8) (a : Nat) : l.foldl (fun n x => n * 256 + x.toNat) a = a * 256 ^ l.length + natOf l := by
  induction l generalizing a with
  | nil => simp [natOf]
  | cons x l ih =>
    have h0 := ih (a * 256 + x.toNat)
    have h1 : natOf (x :: l) = x.toNat * 256 ^ l.length + natOf l := by
      have := ih x.toNat
      simp only [natOf, List.foldl_cons, Nat.zero_mul, Nat.zero_add]
      exact this
    rw [List.foldl_cons, h0, h1, List.length_cons, Nat.add_mul, Nat.pow_succ, Nat.mul_assoc, Nat.mul_comm 256]
    omega
theorem natOf_cons (x : UInt8) (l : List UInt8) : natOf (x :: l) = x.toNat * 256 ^ l.length + natOf l := by
  have := foldl_nat l x.toNat
  simp only [natOf, List.foldl_cons, Nat.zero_mul, Nat.zero_add]
  exact this
theorem natOf_lt : ∀ l : List UInt8, natOf l < 256 ^ l.length
  | [] => by simp [natOf]
  | x :: l => by
    rw [natOf_cons, List.length_cons, Nat.pow_succ]
    have h1 := natOf_lt l
    have h2 := x.toNat_lt
    have h3 : x.toNat * 256 ^ l.length ≤ 255 * 256 ^ l.length := Nat.mul_le_mul_right _ (by omega)
    omega
theorem natOf_inj : ∀ {l l' : List UInt8}, l.length = l'.length → natOf l = natOf l' → l = l'
  | [], [], _, _ => rfl
  | [], _ :: _, h, _ => by simp at h
  | _ :: _, [], h, _ => by simp at h
  | x :: l, y :: l', h, e => by
    have hl : l.length = l'.length := by simpa using h
    rw [natOf_cons, natOf_cons, ← hl] at e
    have h1 := natOf_lt l
    have h2 := natOf_lt l'
    rw [← hl] at h2
    have hp : 0 < 256 ^ l.length := Nat.pow_pos (by omega)
    have e1 : x.toNat = y.toNat := by
      have := congrArg (· / 256 ^ l.length) e
      simp only [Nat.mul_comm _ (256 ^ l.length), Nat.mul_add_div hp, Nat.div_eq_of_lt h1, Nat.div_eq_of_lt h2] at this
      omega
    have e2 : natOf l = natOf l' := by rw [e1] at e; omega
    rw [UInt8.toNat_inj.1 e1, natOf_inj hl e2]
theorem get64_nat (l : List UInt8) : l.length ≤ 8 → (get64 l).toNat = natOf l := by
  intro h
  have key : ∀ k, k ≤ l.length → (get64 (l.take k)).toNat = natOf (l.take k) := by
    intro k
    induction k with
    | zero => intro _; rfl
    | succ k ih =>
      intro hk
      have ih := ih (by omega)
      rw [List.take_succ_eq_append_getElem (by omega), get64_snoc, natOf_snoc]
      have hlt : natOf (l.take k) < 256 ^ 7 := Nat.lt_of_lt_of_le (natOf_lt _) (Nat.pow_le_pow_right (by omega) (by simp; omega))
      have hx := (l[k]'(by omega)).toNat_lt
      have e1 : (get64 (l.take k) <<< 8).toNat = natOf (l.take k) * 256 := by
        rw [UInt64.toNat_shiftLeft, ih, show ((8 : UInt64).toNat % 64) = 8 from rfl, Nat.shiftLeft_eq]
        exact Nat.mod_eq_of_lt (by omega)
      rw [UInt64.toNat_or, e1, UInt8.toNat_toUInt64, show (256 : Nat) = 2 ^ 8 from rfl, Nat.mul_comm, ← Nat.two_pow_add_eq_or_of_lt (by omega)]
  have := key l.length (Nat.le_refl _)
  rwa [List.take_length] at this
theorem natOf_be (n : UInt64) : ∀ k, natOf (be n k) = n.toNat % 256 ^ k
  | 0 => by simp [be, natOf, Nat.mod_one]
  | k + 1 => by
    rw [be, natOf_cons, length_be, natOf_be n k, Nat.mod_pow_succ, show (2 : Nat) ^ (8 * k) = 256 ^ k by rw [Nat.pow_mul], UInt8.toNat_ofNat', Nat.mul_comm]
    rw [show (2 : Nat) ^ 8 = 256 from rfl]
    omega
theorem be_get64 {l : List UInt8} (h : l.length ≤ 8) : be (get64 l) l.length = l :=
  natOf_inj (length_be _ _) (by rw [natOf_be, get64_nat l h]; exact Nat.mod_eq_of_lt (natOf_lt l))
theorem get64_be (n : UInt64) {k : Nat} (h : k ≤ 8) (hn : n.toNat < 256 ^ k) : get64 (be n k) = n := by
  apply UInt64.toNat_inj.1
  rw [get64_nat _ (by rw [length_be]; exact h), natOf_be, Nat.mod_eq_of_lt hn]
end Go.Proofs.YtegohgaccmkigaaGreatDoor

/- Slice literals of one-cell elements; '[]byte("..")' of a constant, whose row bears the run-time's mark. Conditions: of each rule its own. -/
set_option linter.unusedSimpArgs false
set_option linter.unusedVariables false
namespace Go.Proofs.YtegohgaccmkigaaGreatDoor
open Go.RowKit
section
variable {P : Program} {B : Base} {n : Nat} {S l r : List Assn} {f : Fr} {K : Value → List Assn → Prop} {Φ : Post}
variable {d : Option Tmp} {ty : TypeId} {pos : String} {af : Array Edge} {gd : Option (Nat × Bool)}

/-- A block that bears the run-time's mark. -/
def fblk (g : Nat) (C : List Value) (t : TypeId) (fr : Nat × Nat) : Assn := fun h => h g = some (.cells C.toArray t fr)
instance (g : Nat) (l : List Assn) (C : List Value) (t : TypeId) (fr : Nat × Nat) : CellsAt g (fblk g C t fr :: l) C := ⟨fun _ ⟨_, _, _, a, _, e, _⟩ => ⟨[], t, fr, by rw [List.append_nil]; exact a.p _ _ e⟩⟩
class FrzB (g : Nat) (l : List Assn) (r : outParam (List Assn)) : Prop where
  cut : ∃ C t m, (∀ h, Has l h → Has (blk g C t :: m) h) ∧ ∀ h, Has (fblk g C t (C.length, C.length + 1) :: m) h → Has r h
instance (g : Nat) (C : List Value) (t : TypeId) (l : List Assn) : FrzB g (blk g C t :: l) (fblk g C t (C.length, C.length + 1) :: l) := ⟨C, t, l, fun _ H => H, fun _ H => H⟩
instance (g : Nat) (A : Assn) (l r : List Assn) [k : FrzB g l r] : FrzB g (A :: l) (A :: r) := ⟨by
  obtain ⟨C, t, m, h1, h2⟩ := k.cut
  exact ⟨C, t, A :: m, fun h H => Has.swap (Has.cons_imp h1 H), fun h H => Has.cons_imp h2 (Has.swap H)⟩⟩
theorem Own.frz {w : World} {g : Nat} (H : Own B w l) [k : FrzB g l r] : ∃ (C : List Value) (t : TypeId), w.heap[g]? = some (.cells C.toArray t (0, 0)) ∧ Own B (w.freeze ⟨g, C.length, none⟩ 1) r := by
  obtain ⟨C, t, m, h1, h2⟩ := k.cut
  have H1 : Own B w (blk g C t :: m) := H.map h1
  refine ⟨C, t, H1.get, Own.map ?_ h2⟩
  have e : w.freeze ⟨g, C.length, none⟩ 1 = { w with heap := w.heap.modify g fun | .cells c elem (lo, hi) => .cells c elem (if lo == hi then (C.length, C.length + 1) else (min lo C.length, max hi (C.length + 1))) | o => o } := by
    unfold World.freeze; rw [if_neg (by decide)]; rfl
  rw [e]
  refine Own.kept (fp := [g]) H1 ⟨rfl, rfl, rfl, by simp, fun k _ hn => ?_⟩ (fun h e g' hg => by simp at hg; subst hg; exact ⟨_, e⟩) (fun h1 h _ _ e _ => ?_)
  · simp only [List.mem_singleton] at hn
    simp only [Array.getElem?_modify]
    rw [if_neg (fun q => hn q.symm)]
  · have := e g (.inl (by simp))
    unfold fblk
    rw [this]
    simp only [Array.getElem?_modify, if_true]
    have hg := H1.get
    rw [hg]
    rfl
theorem Ef.mark {t g m c : Nat} {x : Operand} (hb : bytesB P t = true) (hx : ev n f x = some (.slice (some ⟨g, 0, none⟩) m c)) [k : FrzB g l r] (h : K (.slice (some ⟨g, 0, none⟩) m c) r) : Ef P B n ⟨d, .convert t t x, ty, pos, af, gd⟩ f l K := ⟨fun w next Q ho hk => by
  obtain ⟨e, h1, h2⟩ := bytesB_spec hb
  obtain ⟨C, t', hg, ho'⟩ := ho.frz (k := k)
  have hsh : w.shape? g = some (t', C.length) := by
    unfold World.shape?; rw [hg]; simp
  have hr : (convert t t (.slice (some ⟨g, 0, none⟩) m c)).run P w = .ok (.slice (some ⟨g, 0, none⟩) m c) (w.freeze ⟨g, C.length, none⟩ 1) := by
    simp [convert, run_underlying h1, run_underlying h2, markStringish, hsh]
  unfold Oper.wp execOp
  simp only [eval_act', evu_eq hx, Sem.run_bind, hr, Sem.run_pure, Result.andThen_ok]
  exact hk _ _ _ h ho'⟩
/-- A slice literal of one-cell elements, all of them told. -/
theorem Ef.lit {t e len : Nat} {parts : Array (Nat × Operand)} (vs : List Value) (hk : sliceB P t e 1 = true) (hz : ((P.info? e).bind (·.zero)).isSome = true) (hp : parts.toList.map (fun p => (p.1, ev n f p.2)) = (vs.zipIdx 0).map fun x => (x.2, some x.1)) (h1 : ∀ v ∈ vs, v.cells = #[v]) (hl : vs.length = len) (h0 : 0 < len) (h24 : len ≤ 16777216)
    (h : ∀ g, K (.slice (some ⟨g, 0, none⟩) len len) (blk g vs e :: l)) : Ef P B n ⟨d, .buildSlice t len parts, ty, pos, af, gd⟩ f l K := ⟨fun w next Q ho hk' => by
  obtain ⟨q1, q2⟩ := sliceB_spec hk
  obtain ⟨i, hi, his⟩ := info_of_size q2
  rw [hi] at hz
  obtain ⟨z, hzz⟩ := Option.isSome_iff_exists.1 hz
  have hpe : (parts.map fun p => (p.1, evu n f p.2)).toList = (vs.zipIdx 0).map fun x => (x.2, x.1) := by
    rw [Array.toList_map]
    have e := congrArg (List.map (fun p : Nat × Option Value => (p.1, p.2.getD undef))) hp
    simp only [List.map_map, Function.comp_def, Option.getD_some] at e
    exact e
  have hr := run_buildSlice (P := P) w t e len (parts.map fun p => (p.1, evu n f p.2)) vs.toArray i z q1 hi (by simpa using hzz) (by rw [his]; omega) (by rw [his]; omega) (by rw [hpe, his]; exact Great.fill_flat _ _ h1 (by simp [hl]))
  unfold Oper.wp execOp
  simp only [eval_act', Sem.run_bind, hr, Sem.run_pure, Result.andThen_ok]
  exact hk' _ _ _ (h _) (ho.alloc vs e)⟩
end
end Go.Proofs.YtegohgaccmkigaaGreatDoor

/- The statements of the package page: awake. Conditions: none. -/
set_option linter.unusedSimpArgs false
set_option linter.unusedVariables false
namespace Go.Proofs.YtegohgaccmkigaaGreatDoor
open Go.RowKit

theorem rdv_blk {B : Base} {L : List Assn} {g n c : Nat} {C : List Value} {b : List UInt8} [k : Rd B g L C] (hC : C = bytesV b) (hn : b.length = n) : RdV B L (.slice (some ⟨g, 0, none⟩) n c) (bytesV b) := by
  subst hC
  exact ⟨_, c, by simp [hn], .inr ⟨g, 0, rfl, fun w ho => ho.range (g := g) (C := bytesV b) (fun j u hj => by rw [Nat.zero_add]; exact hj)⟩⟩
theorem RdV.str {B : Base} {S : List Assn} {v : Value} {b : List UInt8} (h : RdV B S v (bytesV b)) : ∀ w, Own B w S → ∃ fp, Reads w v (bytesV b) fp := fun w ho => h.reads w ho
end Go.Proofs.YtegohgaccmkigaaGreatDoor

/- The statement PageTorn. Conditions: that the scripts can be read; sizes. -/
set_option linter.unusedSimpArgs false
set_option linter.unusedVariables false
namespace Go.Proofs.YtegohgaccmkigaaGreatDoor
open Go.RowKit

theorem Fn.frame {P : Program} {B : Base} {g : FuncId} {args : Array Value} {pre : List Assn} {R : Value → List Assn → Prop} (h : Fn P B g args pre R) (S : List Assn) : Fn P B g args (pre ++ S) (fun v l => ∃ l', R v l' ∧ l = l' ++ S) := ⟨fun w F ho => by
  rw [List.append_assoc] at ho
  refine (h.run w (S ++ F) ho).mono ?_
  rintro _ w' ⟨v, l, rfl, hR, ho'⟩
  exact ⟨v, l ++ S, rfl, ⟨l, hR, rfl⟩, by rw [List.append_assoc]; exact ho'⟩⟩
theorem RoS.rd {B : Base} {v : Value} {cs : List Value} (h : RoS B v cs) (S : List Assn) : RdV B S v cs := by
  obtain ⟨a, cap, rfl, h | ⟨b, o, C, rfl, k, h⟩⟩ := h
  · exact ⟨a, cap, rfl, .inl h⟩
  · exact ⟨_, cap, rfl, .inr ⟨b, o, rfl, fun w ho => ho.range (g := b) (C := C) (fun j u hj => by have := h j u hj; rwa [Nat.mul_one] at this)⟩⟩

theorem RdV.takeB {B : Base} {S : List Assn} {a : Option Addr} {m c : Nat} {b : List UInt8} (hv : RdV B S (.slice a m c) (bytesV b)) (hi c' : Nat) (hh : hi ≤ b.length) : RdV B S (.slice a hi c') (bytesV (b.take hi)) := by
  have := hv.take hi c' (by simpa using hh)
  rwa [show (bytesV b).take hi = bytesV (b.take hi) by simp [bytesV]] at this

end Go.Proofs.YtegohgaccmkigaaGreatDoor

/- How the page statements' struct Op reads; a world that lays the two tables. -/
set_option linter.unusedSimpArgs false
set_option linter.unusedVariables false
namespace Go.Proofs.YtegohgaccmkigaaGreatDoor
open Go.ChangeShapes Go.WideShapes Go.ChangeAt Go.RowKit


section
variable {H : Type} {enc : TypeId × Value → H} {W : World}

theorem read_bytes (n : Nat) (c : Value) (y : DataW H × List MemPlace) (h : Tr enc Tryz.prog W n 43 [c] = some y) : ∃ (l : List UInt8) (fp : List Nat), Reads W c (bytesV l) fp ∧ (∀ x ∈ fp, x < W.heap.size) ∧ l.length + 1 ≤ Rows.uptoBulk y.1 := by
  obtain ⟨v, l, hc, hs, _, hL⟩ := open_slice_R (R := fun cs (a : UInt8) => cs = [.int .u8 a.toNat]) (B := fun _ => 1) Tryz.underlying43 (show Tryz.prog.cellsOf 5 = 1 by kernel_rfl) (by omega) (fun n cs y => read_u8 Tryz.underlying5 n cs y) h
  simp only [List.cons.injEq, and_true] at hc
  subst hc
  obtain ⟨fp, hR, hfp⟩ := hs.reads (fun a : UInt8 => Value.int .u8 a.toNat) (fun cs a h => h)
  exact ⟨l, fp, hR, hfp, hL⟩
end

/-- A world for the witness: the settled one, the two tables' blocks holding what is laid. -/
noncomputable def laidWorld (os : Os) : World :=
  let w0 := World.holding Tryz.prog os ⟨#[], #[], []⟩
  let put (h : Array Obj) (g : Nat) (cs : Array Value) : Array Obj := h.modify g fun
    | .cells _ t frozen => .cells cs t frozen
    | o => o
  let h1 := put w0.heap 1 (Lib.firstTab.map fun z => Value.int .u8 z).toArray
  let h2 := put h1 2 ((List.range 16).flatMap fun i => [Value.int .u8 (Lib.accLo i), Value.int .u8 (Lib.accHi i)]).toArray
  { w0 with heap := h2 }
theorem laid_met (os : Os) (args : Array Value) : laidMet Tryz.prog [("unicode/utf8.acceptRanges", Rows.laid_unicode_utf8_acceptRanges), ("unicode/utf8.first", Rows.laid_unicode_utf8_first)] ((laidWorld os).forCall (fun _ _ => 0) ⟨#[], args, []⟩).memory :=
  laidMet_of_run' 8 (by kernel_rfl) (by kernel_rfl)
end Go.Proofs.YtegohgaccmkigaaGreatDoor

/-
  DERIVED: THE SHELF's CONTRACTS AT THIS DUMP, IN PLAIN WORDS (tools/lay-plain.mjs out of 'YtegohgaccmkigaaGreatDoorSfL.lean', which tools/lay-shelf.mjs wrote): THE SAME DECLARATIONS UNDER THE SAME NAMES: 'import', 'namespace', 'open', 'def', 'theorem' AND NOTHING ELSE: no command of the shelf's: FOR A HAND-IN. Each laying: the table of numbers ('.._ren') and one theorem, a field a fact of the dump's own or the kernel's comparison; each contract: ONE APPLICATION.
-/
namespace Go.Proofs
open Go.Shelf
def Tryz.sortF_ren : Go.Shelf.Ren := ⟨fun | 6 => 55 | 15 => 70 | 14 => 69 | 28 => 90 | 29 => 91 | 20 => 82 | 21 => 83 | 22 => 84 | 23 => 85 | 24 => 86 | 25 => 87 | 26 => 88 | 27 => 89 | 46 => 96 | 47 => 97 | 48 => 98 | 49 => 99 | 50 => 100 | 57 => 103 | n => n, fun | 22 => 136 | 24 => 99 | 25 => 138 | 3 => 3 | 39 => 146 | 0 => 0 | 53 => 33 | 55 => 80 | 4 => 4 | 46 => 168 | 45 => 167 | 50 => 172 | 5 => 5 | 9 => 9 | 66 => 180 | 70 => 184 | 76 => 186 | 77 => 187 | n => n, fun | n => n⟩
theorem Tryz.sortF : Go.Proofs.SlLaysF.n6 Tryz.prog Tryz.sortF_ren := {
  mixed := by kernel_rfl
  f6 := ⟨Tryz.f55.name, by decide, Tryz.func55.trans (congrArg some (by kernel_rfl))⟩
  f14 := ⟨Tryz.f69.name, by decide, Tryz.func69.trans (congrArg some (by kernel_rfl))⟩
  f15 := Tryz.func70.trans (congrArg some (by kernel_rfl))
  f20 := ⟨Tryz.f82.name, by decide, Tryz.func82.trans (congrArg some (by kernel_rfl))⟩
  f21 := ⟨Tryz.f83.name, by decide, Tryz.func83.trans (congrArg some (by kernel_rfl))⟩
  f22 := ⟨Tryz.f84.name, by decide, Tryz.func84.trans (congrArg some (by kernel_rfl))⟩
  f23 := ⟨Tryz.f85.name, by decide, Tryz.func85.trans (congrArg some (by kernel_rfl))⟩
  f24 := ⟨Tryz.f86.name, by decide, Tryz.func86.trans (congrArg some (by kernel_rfl))⟩
  f25 := ⟨Tryz.f87.name, by decide, Tryz.func87.trans (congrArg some (by kernel_rfl))⟩
  f26 := ⟨Tryz.f88.name, by decide, Tryz.func88.trans (congrArg some (by kernel_rfl))⟩
  f27 := ⟨Tryz.f89.name, by decide, Tryz.func89.trans (congrArg some (by kernel_rfl))⟩
  f28 := Tryz.func90.trans (congrArg some (by kernel_rfl))
  f29 := Tryz.func91.trans (congrArg some (by kernel_rfl))
  f46 := ⟨Tryz.f96.name, by decide, Tryz.func96.trans (congrArg some (by kernel_rfl))⟩
  f47 := Tryz.func97.trans (congrArg some (by kernel_rfl))
  f48 := Tryz.func98.trans (congrArg some (by kernel_rfl))
  f49 := ⟨Tryz.f99.name, by decide, Tryz.func99.trans (congrArg some (by kernel_rfl))⟩
  f50 := ⟨Tryz.f100.name, by decide, Tryz.func100.trans (congrArg some (by kernel_rfl))⟩
  f57 := ⟨Tryz.f103.name, by decide, Tryz.func103.trans (congrArg some (by kernel_rfl))⟩
  t0 := Tryz.underlying0
  a0 := Tryz.isAgg0
  z0 := Tryz.sizeOf0
  v0 := Tryz.zeroValue0
  t3 := Tryz.underlying3
  a3 := Tryz.isAgg3
  z3 := Tryz.sizeOf3
  v3 := Tryz.zeroValue3
  t4 := Tryz.underlying4
  a4 := Tryz.isAgg4
  z4 := Tryz.sizeOf4
  v4 := Tryz.zeroValue4
  t5 := Tryz.underlying5
  a5 := Tryz.isAgg5
  z5 := Tryz.sizeOf5
  v5 := Tryz.zeroValue5
  t9 := Tryz.underlying9
  a9 := Tryz.isAgg9
  z9 := Tryz.sizeOf9
  v9 := Tryz.zeroValue9
  t22 := Tryz.underlying136
  a22 := Tryz.isAgg136
  z22 := Tryz.sizeOf136
  v22 := Tryz.zeroValue136
  a24 := Tryz.isAgg99
  z24 := Tryz.sizeOf99
  t25 := Tryz.underlying138
  a25 := Tryz.isAgg138
  z25 := Tryz.sizeOf138
  v25 := Tryz.zeroValue138
  t39 := Tryz.underlying146
  a39 := Tryz.isAgg146
  z39 := Tryz.sizeOf146
  v39 := Tryz.zeroValue146
  t45 := Tryz.underlying167
  a45 := Tryz.isAgg167
  z45 := Tryz.sizeOf167
  v45 := Tryz.zeroValue167
  t46 := Tryz.underlying168
  a46 := Tryz.isAgg168
  z46 := Tryz.sizeOf168
  v46 := Tryz.zeroValue168
  t50 := Tryz.underlying172
  a50 := Tryz.isAgg172
  z50 := Tryz.sizeOf172
  v50 := Tryz.zeroValue172
  t53 := Tryz.underlying33
  a53 := Tryz.isAgg33
  z53 := Tryz.sizeOf33
  v53 := Tryz.zeroValue33
  t55 := Tryz.underlying80
  a55 := Tryz.isAgg80
  z55 := Tryz.sizeOf80
  v55 := Tryz.zeroValue80
  t66 := Tryz.underlying180
  a66 := Tryz.isAgg180
  z66 := Tryz.sizeOf180
  v66 := Tryz.zeroValue180
  t70 := Tryz.underlying184
  a70 := Tryz.isAgg184
  z70 := Tryz.sizeOf184
  v70 := Tryz.zeroValue184
  t76 := Tryz.underlying186
  a76 := Tryz.isAgg186
  z76 := Tryz.sizeOf186
  v76 := Tryz.zeroValue186
  t77 := Tryz.underlying187
  a77 := Tryz.isAgg187
  z77 := Tryz.sizeOf187
  v77 := Tryz.zeroValue187 }
end Go.Proofs

/- slices.SortFunc over rows of the separation logic: what the kit's contract says, in its words. Conditions: sizes; the comparison is a strict weak order and only reads. -/
set_option linter.unusedSimpArgs false
set_option linter.unusedVariables false
namespace Go.Proofs.YtegohgaccmkigaaGreatDoor
open Go.RowKit Go.Shelf Go.Lib Go.Sort

section
variable {P : Program} {B : Base} {α : Type} [Inhabited α]
theorem sort_block (enc : α → Value) (w : World) (g m : Nat) (d : Array α) (os : Array Obj) {cur : Array Value} {e : TypeId} {fr : Nat × Nat} (h : w.heap[g]? = some (.cells cur e fr)) : (sortWorld enc w g 0 m d os).heap[g]? = some (.cells (putCells enc 0 d cur) e fr) := by
  have hg : g < w.heap.size := lt_of_block h
  unfold sortWorld
  rw [heap_grow_old _ _ (by rw [size_putRow]; exact hg)]
  show (Array.modify w.heap g (onCells (putCells enc 0 d)))[g]? = _
  rw [Array.getElem?_modify, if_pos rfl, h]
  rfl
theorem sort_kept (enc : α → Value) (w : World) (g m : Nat) (d : Array α) (os : Array Obj) : Kept [g] w (sortWorld enc w g 0 m d os) := by
  refine ⟨rfl, rfl, rfl, ?_, fun k hk hn => ?_⟩
  · unfold sortWorld
    rw [size_grow, size_putRow]
    exact Nat.le_add_right _ _
  · unfold sortWorld
    rw [heap_grow_old _ _ (by rw [size_putRow]; exact hk)]
    show (Array.modify w.heap g (onCells (putCells enc 0 d)))[k]? = _
    rw [Array.getElem?_modify, if_neg (fun e => hn (by simp [e]))]
theorem put_take (enc : α → Value) (d : Array α) (cur : Array Value) (h : d.size ≤ cur.size) : (putCells enc 0 d cur).toList.take (d.size * 1) = d.toList.map enc := by
  apply List.ext_getElem
  · simp [putCells]; omega
  · intro i h1 h2
    have hi : i < d.size := by simpa using h2
    simp [putCells, hi, getElem!_pos]
theorem Own.sorted {w : World} {g m cap k : Nat} {e : TypeId} {ds : List α} {enc : α → Value} {l : List Assn} (H : Own B w (row (.slice (some ⟨g, 0, none⟩) m cap) e 1 m (ds.map enc) :: l)) (d' : Array α) (hd : d'.size = m) (os : Array Obj) : Own B (sortWorld enc w g 0 k d' os) (row (.slice (some ⟨g, 0, none⟩) m cap) e 1 m (d'.toList.map enc) :: l) := by
  obtain ⟨e1, e2⟩ := H.row_owns
  rcases e2 with ⟨e2, _⟩ | ⟨g', cap', cur, e2, _, e3, e4, e5, e6, e7⟩
  · cases e2
  · injection e2 with e2 _ e8
    injection e2 with e2
    injection e2 with e2
    subst e2; subst e8
    refine H.row_kept (by simpa [Value.ownBlock] using sort_kept enc w g k d' os) ⟨by simp [hd], .inr ⟨g, cap, _, rfl, Nat.zero_le _, sort_block enc w g k d' os e3, e4, e5, by simp [putCells, e6], ?_⟩⟩ (fun g2 hg => .inl hg)
    rw [← hd]
    exact put_take enc d' cur (by omega)
theorem Fn.sort {ρ : Ren} (L : SlLaysF.n6 P ρ) (enc : α → Value) (h1 : OneCell enc) (cf : α → α → Int) (hO : SWO (ltOf cf)) (gc : Nat) (e : TypeId) (eg : ∀ args w, (callFunc gc args).run P w = .ok (.enter gc args) w) (v : Value) (m : Nat) (ds : List α) (hm : ds.length = m) (hb : m < 2 ^ 61) (S : List Assn)
    (hcmp : ∀ x y W, Own B W S → Calls P gc #[enc x, enc y] W fun e w' => e = .returned (.int .i64 (cf x y)) ∧ ∃ q, w' = W.drewN q) (f : Nat) (hf : ρ.f 6 = f) :
    Fn P B f #[v, .func (.func gc) #[] #[]] (row v e 1 m (ds.map enc) :: S) (fun u l => u = .tuple #[] ∧ ∃ ds' : List α, ds'.Perm ds ∧ l = row v e 1 m (ds'.map enc) :: S) := ⟨fun w F ho => by
  subst hf
  obtain ⟨p, cap, rfl, hp, hl⟩ := Own.row_slice ho
  rcases Nat.eq_zero_or_pos m with h0 | h0
  · subst h0
    obtain rfl : ds = [] := List.eq_nil_of_length_eq_zero hm
    refine (AnyF.slices_SortFunc_none { L with } p cap (.func (.func gc) #[] #[]) w).mono ?_
    rintro _ w' ⟨rfl, rfl⟩
    exact ⟨_, _, rfl, ⟨rfl, [], List.Perm.refl _, rfl⟩, ho⟩
  · obtain ⟨g, rfl⟩ := hp h0
    have hsz : ds.toArray.size = m := by simpa using hm
    have hH : Holds enc w g 0 ds.toArray := fun j hj => by
      have hj' : j < m := by omega
      obtain ⟨e1, e2⟩ := ho.row_owns
      rcases e2 with ⟨e2, _⟩ | ⟨g', cap', cur, e2, _, e3, e4, e5, e6, e7⟩
      · cases e2
      · injection e2 with e2 _ e8
        injection e2 with e2
        injection e2 with e2
        subst e2
        have hlj : j < ds.length := by omega
        have hc : cur[j]? = some (enc ds[j]) := by
          rw [← Array.getElem?_toList]
          have : (cur.toList.take (m * 1))[j]? = (ds.map enc)[j]? := by rw [e7]
          rw [List.getElem?_take, if_pos (by omega)] at this
          rw [this]
          simp [hlj]
        constructor
        · unfold World.cell?
          rw [e3]
          simp [hc, hlj, getElem!_pos]
        · unfold World.frozen?
          rw [e3]
          simp
    have hblk : g < w.heap.size := by
      obtain ⟨e1, e2⟩ := ho.row_owns
      rcases e2 with ⟨e2, _⟩ | ⟨g', cap', cur, e2, _, e3, _⟩
      · cases e2
      · injection e2 with e2 _ e8
        injection e2 with e2
        injection e2 with e2
        subst e2
        exact lt_of_block e3
    have hlays : CmpLays1 P gc #[] enc cf g 0 ds.toArray.size w := fun k os dk hk x y => by
      have h2 := ho.sorted (k := k) dk (by omega) os
      refine (hcmp x y _ ((h2.map fun _ k => k.tail).drop)).mono ?_
      rintro _ w' ⟨rfl, q, rfl⟩
      exact ⟨rfl, q, #[], by rw [grow_empty]⟩
    have h := Any.slices_SortFunc L enc h1 cf hO gc #[] g 0 cap ds.toArray w eg hlays hH hblk (by omega)
    rw [hsz] at h
    refine h.mono ?_
    rintro _ w' ⟨rfl, d', k, os, hp1, _, rfl⟩
    obtain ⟨q1, q2, q3⟩ := hp1
    refine ⟨_, _, rfl, ⟨rfl, d'.toList, ?_, rfl⟩, ho.sorted (k := k) d' (by omega) os⟩
    have e1 : d'.extract 0 m = d' := by rw [← hsz, ← q1]; simp
    have e2 : ds.toArray.extract 0 m = ds.toArray := by rw [← hsz]; simp
    rw [e1, e2] at q3
    simpa using q3⟩
end
end Go.Proofs.YtegohgaccmkigaaGreatDoor

/- The statement PageRoom. Conditions: that the script can be read; sizes. -/
set_option linter.unusedSimpArgs false
set_option linter.unusedVariables false
namespace Go.Proofs.YtegohgaccmkigaaGreatDoor
open Go.RowKit

end Go.Proofs.YtegohgaccmkigaaGreatDoor

/- The statement PageKeeps. Conditions: that what is handed in can be read; sizes. -/
set_option linter.unusedSimpArgs false
set_option linter.unusedVariables false
namespace Go.Proofs.YtegohgaccmkigaaGreatDoor
open Go.RowKit

theorem Fn.sub {P : Program} {B : Base} {g : FuncId} {args : Array Value} {pre : List Assn} {R R' : Value → List Assn → Prop} (h : Fn P B g args pre R) (hr : ∀ v l, R v l → ∃ l', Sub l l' ∧ R' v l') : Fn P B g args pre R' := ⟨fun w F ho => by
  refine (h.run w F ho).mono ?_
  rintro _ w' ⟨v, l, rfl, hR, ho'⟩
  obtain ⟨l', hs, hR'⟩ := hr v l hR
  exact ⟨v, l', rfl, hR', ho'.map fun k H => by
    obtain ⟨h1, h2, d, a, b, e1, e2⟩ := Has.split H
    exact Has.join d a b (hs _ e1) e2⟩⟩
theorem bytes_set (l : List UInt8) (j : Nat) (x : UInt8) : (bytesV l).set (0 + j * 1) (.int .u8 x.toNat) = bytesV (l.set j x) := by
  simp [bytesV, List.map_set]
theorem bytes_get {l : List UInt8} {j : Nat} {x : UInt8} (h : l[j]? = some x) : (bytesV l)[0 + j * 1]? = some (.int .u8 x.toNat) := by simp [bytesV, h]
end Go.Proofs.YtegohgaccmkigaaGreatDoor

/- bytealg.MakeNoZero, copies of nothing, slices with three bounds; bytes.Join without a separator. Conditions: sizes; that what is handed in can be read. -/
set_option linter.unusedSimpArgs false
set_option linter.unusedVariables false
namespace Go.Proofs.YtegohgaccmkigaaGreatDoor
open Go.RowKit
section
variable {P : Program} {B : Base} {n : Nat} {S l r : List Assn} {f : Fr} {K : Value → List Assn → Prop} {Φ : Post}
variable {d : Option Tmp} {ty : TypeId} {pos : String} {af : Array Edge} {gd : Option (Nat × Bool)}

theorem Ef.makeNoZero {g : FuncId} {fn : Func} {x : Operand} {ats : Array TypeId} {t e : TypeId} {ps : Array TypeId} {i : Int} (m : Nat) (hf : P.funcs[g]? = some fn) (hname : (fn.name == "runtime.NumGoroutine") = false) (hb : fn.body.isNone = true) (hn : Extern.findNext fn = none)
    (he : Extern.find fn = some (Extern.BytealgMakeNoZero.makeNoZero ps #[t])) (ht : P.underlying t = some (.slice e)) (hx : ev n f x = some (.int .i64 i)) (hi : i = (m : Int)) (hm : m ≤ 281474976710656) (hm2 : m ≤ maxLen)
    (h : ∀ g c xs, m ≤ c → K (.slice (some ⟨g, 0, none⟩) m c) (row (.slice (some ⟨g, 0, none⟩) m c) e 1 m xs :: l)) : Ef P B n ⟨d, .call ⟨.value (.func g), #[x], ats⟩, ty, pos, af, gd⟩ f l K := ⟨fun w next Q ho hk => by
  subst hi
  obtain ⟨cs, hrun, hle, hmax⟩ := Lib.run_makeNoZero (P := P) w ps t e ht m hm
  have hav : (#[x] : Array Operand).map (evu n f) = #[.int .i64 m] := by simp [evu_eq hx]
  unfold Oper.wp execOp
  rw [eval_act']
  have he : ((do let c ← resolve (evu n f) ⟨.value (.func g), #[x], ats⟩ ty; invoke c.target c.args) : Sem Next).run P w = .ok (.value (.slice (some ⟨w.heap.size, 0, none⟩) m cs.size)) (w.drew.drew.alloc (.cells cs e)) := by
    simp only [resolve, hav]
    have hg : evu n f (.func g) = .func (.func g) #[] #[] := rfl
    have hc := run_callFunc_extern (P := P) hf hname hb hn he #[.int .i64 m] w
    rw [hrun] at hc
    simp [hg, Deferred.ofValue, invoke, hc]
  rw [he]
  have ho2 : Own B w.drew.drew l := ⟨ho.os, ho.tape, ho.output, ho.ro, ho.has⟩
  have ho3 := ho2.alloc cs.toList e
  have e2 : cs.toList.toArray = cs := by simp
  rw [e2] at ho3
  refine hk _ _ _ (h w.heap.size cs.size (cs.toList.take m) hle) (ho3.map fun _ ⟨h1, h2, dd, a1, a2, hA, H⟩ => ⟨h1, h2, dd, a1, a2, ?_, H⟩)
  refine ⟨by simp; omega, .inr ⟨w.heap.size, cs.size, cs, rfl, ?_, hle, hmax hm2, by simp, by rw [Nat.mul_one]⟩⟩
  have : h1 w.heap.size = some (.cells cs.toList.toArray e (0, 0)) := by rw [e2]; exact hA
  rwa [e2] at this⟩
theorem Qt.slice3 {t e sz : Nat} {x y z : Operand} {p : Option Addr} {m c : Nat} {k k2 : IntKind} {i j : Int} (hi mx : Nat) (ht : sliceB P t e sz = true) (hx : ev n f x = some (.slice p m c)) (hy : ev n f y = some (.int k i)) (hz : ev n f z = some (.int k2 j)) (h1 : i = (hi : Int)) (h2 : j = (mx : Int)) (h3 : hi ≤ mx) (h4 : mx ≤ c) :
    Qt P B n S ⟨d, .slice t x none (some y) (some z), ty, pos, af, gd⟩ f (.slice p hi mx) := ⟨fun w _ => by
  subst h1; subst h2
  obtain ⟨hu, hs⟩ := sliceB_spec ht
  obtain ⟨i, hi', his⟩ := info_of_size hs
  subst his
  have h0 : (if mx = 0 then p else p.map (·.add (0 * i.size))) = p := by
    split
    · rfl
    · cases p <;> simp [Addr.add]
  have h5 : hi ≤ c := by omega
  have : (Instr.sliceAt t (.slice p m c) none (some (.int k hi)) (some (.int k2 mx))).run P w = .ok (.slice p hi mx) w := by
    simp [Instr.sliceAt, run_underlying hu, Instr.slice, Instr.sliceBounds, Instr.sliceBound, asIntOf, sizeOf, typeInfo, hi', h3, h4, h5]
    intro _
    cases p <;> simp [Addr.add]
  simp [execOp, evu_eq hx, evu_eq hy, evu_eq hz, this]⟩
/-- A slice from a bound on, its place told. -/
theorem Qt.slice_sn1 {t e sz : Nat} {x y : Operand} {p : Option Addr} {m c : Nat} {k : IntKind} {i : Int} (lo : Nat) (p' : Option Addr) (m' c' : Nat) (ht : sliceB P t e sz = true) (hx : ev n f x = some (.slice p m c)) (hy : ev n f y = some (.int k i)) (hi1 : i = (lo : Int)) (h1 : lo ≤ m) (hp : offA p c lo sz = p') (hm : m - lo = m') (hc : c - lo = c') :
    Qt P B n S ⟨d, .slice t x (some y) none none, ty, pos, af, gd⟩ f (.slice p' m' c') := by
  subst hp; subst hm; subst hc
  exact Qt.slice_snn lo ht hx hy hi1 h1
theorem Ef.copy0 {dT sT e : Nat} {x y : Operand} {a b : Option Addr} {dLen dCap sLen sCap : Nat} {ty2 : TypeId} (hk : sliceB P dT e 1 = true) (hx : ev n f x = some (.slice b dLen dCap)) (hy : ev n f y = some (.slice a sLen sCap)) (hm : Nat.min sLen dLen = 0)
    (h : K (.int .i64 0) l) : Ef P B n ⟨d, .call ⟨.builtin .copy, #[x, y], #[dT, sT]⟩, ty2, pos, af, gd⟩ f l K := ⟨fun w next Q ho hk2 => by
  obtain ⟨hu, hs⟩ := sliceB_spec hk
  have hr := run_copy_none (P := P) w dT sT ty2 e b a dLen dCap sLen sCap hu hs hm
  unfold Oper.wp execOp
  simp only [eval_act', resolve, invoke, builtin, Sem.run_bind, Sem.run_pure, Result.andThen_ok, List.map_toArray, List.map_cons, List.map_nil, evu_eq hx, evu_eq hy, hr]
  exact hk2 _ _ _ h ho⟩
end
theorem flat_take (bs : List (List UInt8)) (k : Nat) (h : k < bs.length) : (bs.take (k + 1)).flatten = (bs.take k).flatten ++ bs[k] := by
  rw [List.take_succ_eq_append_getElem h, List.flatten_append, List.flatten_cons, List.flatten_nil, List.append_nil]
theorem flat_le (bs : List (List UInt8)) (k : Nat) : (bs.take k).flatten.length ≤ bs.flatten.length := by
  have : bs.flatten = (bs.take k).flatten ++ (bs.drop k).flatten := by rw [← List.flatten_append, List.take_append_drop]
  rw [this, List.length_append]; omega
theorem splice_take (C : List Value) (o : Nat) (x : List Value) (h : o + x.length ≤ C.length) : (splice C o x).take (o + x.length) = C.take o ++ x := by
  unfold splice
  rw [← List.append_assoc, List.take_left' (by simp; omega)]

set_option maxHeartbeats 4000000 in
set_option maxRecDepth 100000 in
theorem Jn.join (B : Base) (S : List Assn) (a : Option Addr) (c : Nat) (bs : List (List UInt8)) (hv : PartsV B S (.slice a bs.length c) bs) (hc : bs.length ≤ c) (hn : bs.length < 2 ^ 32) (N : Nat) (hN : bs.flatten.length = N) (hN2 : N ≤ 2 ^ 40) : Fn Tryz.prog B 61 #[.slice a bs.length c, .slice none 0 0] S (fun u l => ∃ p c c', u = .slice p N c' ∧ (0 < N → ∃ g, p = some ⟨g, 0, none⟩) ∧ l = rB (.slice p N c) N bs.flatten :: S) := by
 obtain ⟨vs, h1, h2, h3⟩ := hv
 have hz0 := flat_le bs
 refine Fn.enter2 92 Tryz.func61 rfl rfl (Nat.le_of_ble_eq_true rfl) (fun F => ?_)
 try simp only [List.cons_append, List.nil_append]
 refine T.seq ?_
 refine T.region ?_
 refine LW.q rfl (Qt.assign rfl) ?_
 refine LW.done ?_
 refine T.seq ?_
 refine T.seq ?_
 refine T.region ?_
 refine LW.q rfl (Qt.move rfl) ?_
 refine LW.q rfl (Qt.len (e := 43) (sz := 1) (by kernel_rfl) rfl) ?_
 refine LW.q rfl (Qt.eql rfl rfl) ?_
 refine LW.done ?_
 refine T.condP rfl (fun h0 => ?_) (fun h0 => ?_)
 ·
  obtain rfl : bs = [] := List.eq_nil_of_length_eq_zero (by omega)
  obtain rfl : N = 0 := by rw [← hN]; rfl
  refine T.seq ?_
  refine T.region ?_
  refine LW.e rfl (Ef.empty Cd.elemB ?_)
  rintro g15
  try simp only [List.cons_append, List.nil_append]
  rw [show (row (.slice (some ⟨g15, 0, none⟩) 0 0) 5 1 0 [] : Assn) = rB (.slice (some ⟨g15, 0, none⟩) 0 0) 0 [] from rfl]
  refine LW.q rfl (Qt.assign rfl) ?_
  refine LW.done ?_
  refine T.ret ?_
  exact ⟨.inl rfl, _, _, res [_] rfl ⟨rvT rfl, trivial⟩, ⟨some ⟨g15, 0, none⟩, 0, 0, rfl, fun h => by omega, by rw [List.flatten_nil]⟩, Sub.any⟩
 ·
  obtain ⟨g, o, rfl, hcell⟩ := h1.at (by omega)
  obtain ⟨pa, pc, hp0⟩ := (h3 0 (by omega) (by omega)).form (m := bs[0].length) (by simp)
  have r0 := h3 0 (by omega) (by omega)
  rw [hp0] at r0
  refine T.skip ?_
  refine T.seq ?_
  refine T.seq ?_
  refine T.region ?_
  refine LW.q rfl (Qt.move rfl) ?_
  refine LW.q rfl (Qt.len (e := 43) (sz := 1) (by kernel_rfl) rfl) ?_
  refine LW.q rfl (Qt.eql rfl rfl) ?_
  refine LW.done ?_
  refine T.condP rfl (fun hone => ?_) (fun hone => ?_)
  ·
   obtain ⟨x, rfl⟩ : ∃ x, bs = [x] := by match bs, hone with | [x], _ => exact ⟨x, rfl⟩ | [], e => simp at e | _ :: _ :: _, e => simp at e; omega
   simp only [List.getElem_cons_zero] at r0
   obtain rfl : x.length = N := by rw [← hN]; simp
   have hx1 : [x].flatten = x := by simp
   refine T.seq ?_
   refine T.region ?_
   refine LW.q rfl (Qt.move rfl) ?_
   refine LW.q rfl (Qt.index 0 (e := 43) (sz := 1) (by kernel_rfl) rfl rfl rfl (by omega)) ?_
   refine LW.q rfl (Qt.loadW (v := .slice pa x.length pc) (by kernel_rfl) rfl (fun w ho => by rw [hcell 0 (by simp at h2; omega) w ho.drop, hp0]; rfl)) ?_
   refine LW.e rfl (Ef.appendNil Cd.elemB rfl rfl (SrcOf.rd (m := x.length) (r0.mono (fun w ho => ho.drop)) (by kernel_rfl) (by simp) one_bytesV) (by unfold maxLen; omega) (by omega) ?_)
   rintro p1 c1 hp1
   try simp only [List.cons_append, List.nil_append]
   refine LW.q rfl (Qt.assign rfl) ?_
   refine LW.done ?_
   refine T.ret ?_
   exact ⟨.inl rfl, _, _, res [_] rfl ⟨rvT rfl, trivial⟩, ⟨p1, c1, c1, rfl, hp1, by rw [hx1]⟩, Sub.any⟩
  ·
   refine T.skip ?_
   refine T.seq ?_
   refine T.region ?_
   refine LW.q rfl (Qt.assign rfl) ?_
   refine LW.done ?_
   refine T.seq ?_
   refine T.seq ?_
   refine T.region ?_
   refine LW.q rfl (Qt.move rfl) ?_
   refine LW.q rfl (Qt.len (e := 5) (sz := 1) (by kernel_rfl) rfl) ?_
   refine LW.q rfl (Qt.gtr rfl rfl) ?_
   refine LW.done ?_
   first | refine T.condF rfl ?_ | refine T.condPF rfl (by omega) ?_ | refine T.condBF rfl (by omega) ?_
   refine T.skip ?_
   refine T.seq ?_
   refine T.seq ?_
   refine T.region ?_
   refine LW.q rfl (Qt.move rfl) ?_
   refine LW.q rfl (Qt.len (e := 43) (sz := 1) (by kernel_rfl) rfl) ?_
   refine LW.q rfl (Qt.move rfl) ?_
   refine LW.done ?_
   refine T.block ?_
   refine T.loop (fun mz fz lz => ∃ (f0 : Fr) (k m : Nat), (k ≤ bs.length ∧ m = (bs.take k).flatten.length) ∧ mz = bs.length - k ∧ fz = (upd (upd (upd (upd (upd (upd f0 0 (.slice (some ⟨g, o, none⟩) bs.length c)) 1 (.slice none 0 0)) 5 (.int .i64 m)) 42 (.slice (some ⟨g, o, none⟩) bs.length c)) 43 (.int .i64 bs.length)) 44 (.int .i64 k)) ∧ lz = S ++ F) ?_ ?_
   · refine ⟨_, _, ⟨_, 0, 0, ⟨Nat.zero_le _, rfl⟩, rfl, (updS rfl (updS rfl (updS rfl (updS rfl (updS rfl (updS rfl rfl)))))), rfl⟩, Sub.any⟩
   ·
    rintro mz fz lz ⟨f0, k, m, ⟨hk, hm⟩, hmz, rfl, rfl⟩
    subst mz
    try simp only [List.cons_append, List.nil_append]
    refine T.seq ?_
    refine T.region ?_
    refine LW.q rfl (Qt.lss rfl rfl) ?_
    refine LW.done ?_
    refine T.seq ?_
    refine T.condP rfl (fun hlt => ?_) (fun hlt => ?_)
    ·
     obtain ⟨x, hx⟩ : ∃ x, bs[k]'(by omega) = x := ⟨_, rfl⟩
     have hft := flat_take bs k (by omega)
     rw [hx] at hft
     have hfl := flat_le bs (k + 1)
     rw [hft, List.length_append, ← hm] at hfl
     have rk := h3 k (by omega) (by omega)
     rw [hx] at rk
     obtain ⟨pk, ck, hpk⟩ := rk.form (m := x.length) (by simp)
     refine T.skip ?_
     refine T.seq ?_
     refine T.block ?_
     refine T.seq ?_
     refine T.region ?_
     refine LW.q rfl (Qt.index _ (e := 43) (sz := 1) (by kernel_rfl) rfl rfl rfl (by omega)) ?_
     refine LW.q rfl (Qt.loadW (v := .slice pk x.length ck) (by kernel_rfl) rfl (fun w ho => by rw [hcell k (by omega) w ho.drop, hpk])) ?_
     refine LW.q rfl (Qt.assign rfl) ?_
     refine LW.done ?_
     refine T.seq ?_
     refine T.seq ?_
     refine T.region ?_
     refine LW.q rfl (Qt.move rfl) ?_
     refine LW.q rfl (Qt.len (e := 5) (sz := 1) (by kernel_rfl) rfl) ?_
     refine LW.q rfl (Qt.move rfl) ?_
     refine LW.q rfl (Qt.sub rfl rfl (wr64 (by omega) (by omega))) ?_
     refine LW.q rfl (Qt.gtr rfl rfl) ?_
     refine LW.done ?_
     first | refine T.condF rfl ?_ | refine T.condPF rfl (by omega) ?_ | refine T.condBF rfl (by omega) ?_
     refine T.skip ?_
     refine T.region ?_
     refine LW.q rfl (Qt.move rfl) ?_
     refine LW.q rfl (Qt.move rfl) ?_
     refine LW.q rfl (Qt.len (e := 5) (sz := 1) (by kernel_rfl) rfl) ?_
     refine LW.q rfl (Qt.add rfl rfl (wr64 (by omega) (by omega))) ?_
     refine LW.q rfl (Qt.assign rfl) ?_
     refine LW.done ?_
     refine T.region ?_
     refine LW.q rfl (Qt.add rfl rfl (wr64 (by omega) (by omega))) ?_
     refine LW.q rfl (Qt.move rfl) ?_
     refine LW.done ?_
     refine ⟨_, ?_, _, ⟨_, k + 1, m + x.length, ⟨by omega, by rw [hft, List.length_append, hm]⟩, rfl, (updS rfl (updS rfl (updS rfl (updS rfl (updS rfl (updS rfl rfl)))))), rfl⟩, Sub.any⟩
     first | omega | (simp; omega)
    ·
     obtain rfl : k = bs.length := by omega
     obtain rfl : m = N := by rw [hm, List.take_length, hN]
     have hfl1 := flat_le bs 1
     have hft0 := flat_take bs 0 (by omega)
     simp only [List.take_zero, List.flatten_nil, List.nil_append, Nat.zero_add] at hft0
     rw [hft0] at hfl1
     by_cases hz : bs[0].length = 0
     ·
      refine T.exit ?_
      refine T.seq ?_
      refine T.region ?_
      refine LW.q rfl (Qt.move rfl) ?_
      refine LW.e rfl (Ef.makeNoZero m Tryz.func73 (by kernel_rfl) (by kernel_rfl) (by kernel_rfl) (ps := #[3]) (t := 43) (by kernel_rfl) Tryz.underlying43 rfl rfl (by omega) (by unfold maxLen; omega) ?_)
      intro g60 c60 xs60 hc60
      refine LW.own (fun w ho => ?_)
      have hxl : xs60.length = m := by have := (ho.row_owns).1; simpa using this
      clear ho
      refine LW.q rfl (Qt.move rfl) ?_
      refine LW.q rfl (Qt.move rfl) ?_
      refine LW.q rfl (Qt.slice3 m m (e := 5) (sz := 1) (by kernel_rfl) rfl rfl rfl rfl rfl (by omega) (by omega)) ?_
      refine LW.q rfl (Qt.assign rfl) ?_
      refine LW.done ?_
      refine T.seq ?_
      refine T.region ?_
      refine LW.q rfl (Qt.move rfl) ?_
      refine LW.q rfl (Qt.move rfl) ?_
      refine LW.q rfl (Qt.index 0 (e := 43) (sz := 1) (by kernel_rfl) rfl rfl rfl (by omega)) ?_
      refine LW.q rfl (Qt.loadW (v := .slice pa bs[0].length pc) (by kernel_rfl) rfl (fun w ho => by rw [hcell 0 (by omega) w ho.tl.drop, hp0])) ?_
      refine LW.e rfl (Ef.copy0 (e := 5) (by kernel_rfl) rfl rfl (by simp [hz]) ?_)
      try simp only [List.cons_append, List.nil_append]
      refine LW.q rfl (Qt.assign rfl) ?_
      refine LW.done ?_
      refine T.seq ?_
      refine T.seq ?_
      refine T.region ?_
      refine LW.q rfl (Qt.move rfl) ?_
      refine LW.q rfl (Qt.slice_sn1 1 (some ⟨g, o + 1 * 1, none⟩) (bs.length - 1) (c - 1) (e := 43) (sz := 1) (by kernel_rfl) rfl rfl rfl (by omega) (offA_some (by omega)) rfl rfl) ?_
      refine LW.q rfl (Qt.len (e := 43) (sz := 1) (by kernel_rfl) rfl) ?_
      refine LW.q rfl (Qt.move rfl) ?_
      refine LW.done ?_
      refine T.block ?_
      refine T.loop (fun mz fz lz => ∃ (f0 : Fr) (k bp : Nat) (C : List Value), (k + 1 ≤ bs.length ∧ bp = (bs.take (k + 1)).flatten.length ∧ C.length = m ∧ C.take bp = bytesV (bs.take (k + 1)).flatten) ∧ mz = bs.length - 1 - k ∧ fz = (upd (upd (upd (upd (upd (upd f0 1 (.slice none 0 0)) 8 (.slice (some ⟨g60, 0, none⟩) m m)) 9 (.int .i64 bp)) 70 (.slice (some ⟨g, o + 1 * 1, none⟩) (bs.length - 1) (c - 1))) 71 (.int .i64 (bs.length - 1 : Nat))) 72 (.int .i64 k)) ∧ lz = row (.slice (some ⟨g60, 0, none⟩) m c60) 5 1 m C :: (S ++ F)) ?_ ?_
      · refine ⟨_, _, ⟨_, 0, 0, xs60, ⟨by omega, by rw [hft0, hz], hxl, by rw [hft0, List.eq_nil_of_length_eq_zero hz]; rfl⟩, rfl, (updS rfl (updS rfl (updS rfl (updS rfl (updS rfl (updS rfl rfl)))))), rfl⟩, Sub.any⟩
      ·
       rintro mz fz lz ⟨f0, k, bp, C, ⟨hk, hbp, hC, hpre⟩, hmz, rfl, rfl⟩
       subst mz
       try simp only [List.cons_append, List.nil_append]
       have hbn := flat_le bs (k + 1)
       refine T.seq ?_
       refine T.region ?_
       refine LW.q rfl (Qt.lss rfl rfl) ?_
       refine LW.done ?_
       refine T.seq ?_
       refine T.condP rfl (fun hlt => ?_) (fun hlt => ?_)
       ·
        obtain ⟨x, hx⟩ : ∃ x, bs[k + 1]'(by omega) = x := ⟨_, rfl⟩
        have hft := flat_take bs (k + 1) (by omega)
        rw [hx] at hft
        have hfl := flat_le bs (k + 1 + 1)
        rw [hft, List.length_append, ← hbp] at hfl
        have rk := h3 (k + 1) (by omega) (by omega)
        rw [hx] at rk
        obtain ⟨pk, ck, hpk⟩ := rk.form (m := x.length) (by simp)
        rw [hpk] at rk
        refine T.skip ?_
        refine T.seq ?_
        refine T.block ?_
        refine T.seq ?_
        refine T.region ?_
        refine LW.q rfl (Qt.index _ (e := 43) (sz := 1) (by kernel_rfl) rfl rfl rfl (by omega)) ?_
        refine LW.q rfl (Qt.loadW (v := .slice pk x.length ck) (by kernel_rfl) rfl (fun w ho => by have := hcell (k + 1) (by omega) w ho.tl.drop; rw [show o + 1 * 1 + k * 1 = o + (k + 1) * 1 by omega, this, hpk])) ?_
        refine LW.q rfl (Qt.assign rfl) ?_
        refine LW.done ?_
        refine T.seq ?_
        refine T.region ?_
        refine LW.q rfl (Qt.move rfl) ?_
        refine LW.q rfl (Qt.move rfl) ?_
        refine LW.q rfl (Qt.move rfl) ?_
        refine LW.q rfl (Qt.slice_snn bp (e := 5) (sz := 1) (by kernel_rfl) rfl rfl rfl (by omega)) ?_
        refine LW.q rfl (Qt.move rfl) ?_
        refine LW.e rfl (Ef.copy0 (e := 5) (by kernel_rfl) rfl rfl (by simp) ?_)
        try simp only [List.cons_append, List.nil_append]
        refine LW.q rfl (Qt.add rfl rfl (wr64 (by omega) (by omega))) ?_
        refine LW.q rfl (Qt.assign rfl) ?_
        refine LW.done ?_
        refine T.region ?_
        refine LW.q rfl (Qt.move rfl) ?_
        refine LW.q rfl (Qt.move rfl) ?_
        refine LW.q rfl (Qt.move rfl) ?_
        refine LW.q rfl (Qt.slice_snn bp (e := 5) (sz := 1) (by kernel_rfl) rfl rfl (by omega) (by omega)) ?_
        refine LW.q rfl (Qt.move rfl) ?_
        by_cases hx0 : x.length = 0
        ·
         refine LW.e rfl (Ef.copy0 (e := 5) (by kernel_rfl) rfl rfl (by simp [hx0]) ?_)
         try simp only [List.cons_append, List.nil_append]
         refine LW.q rfl (Qt.add rfl rfl (wr64 (by omega) (by omega))) ?_
         refine LW.q rfl (Qt.assign rfl) ?_
         refine LW.done ?_
         refine T.region ?_
         refine LW.q rfl (Qt.add rfl rfl (wr64 (by omega) (by omega))) ?_
         refine LW.q rfl (Qt.move rfl) ?_
         refine LW.done ?_
         obtain rfl : x = [] := List.eq_nil_of_length_eq_zero hx0
         refine ⟨_, ?_, _, ⟨_, k + 1, bp, C, ⟨by omega, by rw [hft, hbp]; simp, hC, by rw [hft, hpre]; simp⟩, rfl, (updS rfl (updS rfl (updS rfl (updS rfl (updS rfl (updS rfl rfl)))))), rfl⟩, Sub.any⟩
         first | omega | (simp; omega)
        ·
         rw [offA_some (c := m) (lo := bp) (by omega)]
         refine LW.e rfl (Ef.copy (e := 5) (C := C) (cs := bytesV x) (src := bytesV x) (by kernel_rfl) rfl rfl (rk.mono (fun w ho => ho.tl.drop)) x.length (Nat.min_eq_left (by omega)).symm (by omega) (by rw [List.take_of_length_le (by simp)]) (by simp) one_bytesV (by omega) ?_)
         try simp only [List.cons_append, List.nil_append]
         simp only [Nat.zero_add, Nat.mul_one]
         refine LW.q rfl (Qt.add rfl rfl (wr64 (by omega) (by omega))) ?_
         refine LW.q rfl (Qt.assign rfl) ?_
         refine LW.done ?_
         refine T.region ?_
         refine LW.q rfl (Qt.add rfl rfl (wr64 (by omega) (by omega))) ?_
         refine LW.q rfl (Qt.move rfl) ?_
         refine LW.done ?_
         refine ⟨_, ?_, _, ⟨_, k + 1, bp + x.length, splice C bp (bytesV x), ⟨by omega, by rw [hft, List.length_append, hbp], by rw [length_splice _ _ _ (by simp; omega)]; exact hC, by have := splice_take C bp (bytesV x) (by simp; omega); rw [length_bytesV] at this; rw [this, hft, hpre, bytesV_append]⟩, rfl, (updS rfl (updS rfl (updS rfl (updS rfl (updS rfl (updS rfl rfl)))))), rfl⟩, Sub.any⟩
         first | omega | (simp; omega)
       ·
        have hke : k + 1 = bs.length := by omega
        rw [hke, List.take_length] at hbp hpre
        obtain rfl : C = bytesV bs.flatten := by rw [← hpre, List.take_of_length_le (by omega)]
        refine T.exit ?_
        refine T.seq ?_
        refine T.region ?_
        refine LW.q rfl (Qt.move rfl) ?_
        refine LW.q rfl (Qt.assign rfl) ?_
        refine LW.done ?_
        refine T.ret ?_
        exact ⟨.inl rfl, _, _, res [_] rfl ⟨rvT rfl, trivial⟩, ⟨some ⟨g60, 0, none⟩, c60, m, rfl, fun _ => ⟨_, rfl⟩, rfl⟩, Sub.any⟩
     ·
      refine T.exit ?_
      refine T.seq ?_
      refine T.region ?_
      refine LW.q rfl (Qt.move rfl) ?_
      refine LW.e rfl (Ef.makeNoZero m Tryz.func73 (by kernel_rfl) (by kernel_rfl) (by kernel_rfl) (ps := #[3]) (t := 43) (by kernel_rfl) Tryz.underlying43 rfl rfl (by omega) (by unfold maxLen; omega) ?_)
      intro g60 c60 xs60 hc60
      refine LW.own (fun w ho => ?_)
      have hxl : xs60.length = m := by have := (ho.row_owns).1; simpa using this
      clear ho
      refine LW.q rfl (Qt.move rfl) ?_
      refine LW.q rfl (Qt.move rfl) ?_
      refine LW.q rfl (Qt.slice3 m m (e := 5) (sz := 1) (by kernel_rfl) rfl rfl rfl rfl rfl (by omega) (by omega)) ?_
      refine LW.q rfl (Qt.assign rfl) ?_
      refine LW.done ?_
      refine T.seq ?_
      refine T.region ?_
      refine LW.q rfl (Qt.move rfl) ?_
      refine LW.q rfl (Qt.move rfl) ?_
      refine LW.q rfl (Qt.index 0 (e := 43) (sz := 1) (by kernel_rfl) rfl rfl rfl (by omega)) ?_
      refine LW.q rfl (Qt.loadW (v := .slice pa bs[0].length pc) (by kernel_rfl) rfl (fun w ho => by rw [hcell 0 (by omega) w ho.tl.drop, hp0])) ?_
      refine LW.e rfl (Ef.copy (e := 5) (C := xs60) (cs := bytesV bs[0]) (src := bytesV bs[0]) (by kernel_rfl) rfl rfl (r0.mono (fun w ho => ho.tl.drop)) bs[0].length (Nat.min_eq_left (by omega)).symm (by omega) (by rw [List.take_of_length_le (by simp)]) (by simp) one_bytesV (by omega) ?_)
      try simp only [List.cons_append, List.nil_append]
      refine LW.q rfl (Qt.assign rfl) ?_
      refine LW.done ?_
      refine T.seq ?_
      refine T.seq ?_
      refine T.region ?_
      refine LW.q rfl (Qt.move rfl) ?_
      refine LW.q rfl (Qt.slice_sn1 1 (some ⟨g, o + 1 * 1, none⟩) (bs.length - 1) (c - 1) (e := 43) (sz := 1) (by kernel_rfl) rfl rfl rfl (by omega) (offA_some (by omega)) rfl rfl) ?_
      refine LW.q rfl (Qt.len (e := 43) (sz := 1) (by kernel_rfl) rfl) ?_
      refine LW.q rfl (Qt.move rfl) ?_
      refine LW.done ?_
      refine T.block ?_
      refine T.loop (fun mz fz lz => ∃ (f0 : Fr) (k bp : Nat) (C : List Value), (k + 1 ≤ bs.length ∧ bp = (bs.take (k + 1)).flatten.length ∧ C.length = m ∧ C.take bp = bytesV (bs.take (k + 1)).flatten) ∧ mz = bs.length - 1 - k ∧ fz = (upd (upd (upd (upd (upd (upd f0 1 (.slice none 0 0)) 8 (.slice (some ⟨g60, 0, none⟩) m m)) 9 (.int .i64 bp)) 70 (.slice (some ⟨g, o + 1 * 1, none⟩) (bs.length - 1) (c - 1))) 71 (.int .i64 (bs.length - 1 : Nat))) 72 (.int .i64 k)) ∧ lz = row (.slice (some ⟨g60, 0, none⟩) m c60) 5 1 m C :: (S ++ F)) ?_ ?_
      · refine ⟨_, _, ⟨_, 0, bs[0].length, splice xs60 0 (bytesV bs[0]), ⟨by omega, by rw [hft0], by rw [length_splice _ _ _ (by simp; omega)]; exact hxl, by have := splice_take xs60 0 (bytesV bs[0]) (by simp; omega); rw [length_bytesV, Nat.zero_add] at this; rw [this, hft0]; simp⟩, rfl, (updS rfl (updS rfl (updS rfl (updS rfl (updS rfl (updS rfl rfl)))))), rfl⟩, Sub.any⟩
      ·
       rintro mz fz lz ⟨f0, k, bp, C, ⟨hk, hbp, hC, hpre⟩, hmz, rfl, rfl⟩
       subst mz
       try simp only [List.cons_append, List.nil_append]
       have hbn := flat_le bs (k + 1)
       refine T.seq ?_
       refine T.region ?_
       refine LW.q rfl (Qt.lss rfl rfl) ?_
       refine LW.done ?_
       refine T.seq ?_
       refine T.condP rfl (fun hlt => ?_) (fun hlt => ?_)
       ·
        obtain ⟨x, hx⟩ : ∃ x, bs[k + 1]'(by omega) = x := ⟨_, rfl⟩
        have hft := flat_take bs (k + 1) (by omega)
        rw [hx] at hft
        have hfl := flat_le bs (k + 1 + 1)
        rw [hft, List.length_append, ← hbp] at hfl
        have rk := h3 (k + 1) (by omega) (by omega)
        rw [hx] at rk
        obtain ⟨pk, ck, hpk⟩ := rk.form (m := x.length) (by simp)
        rw [hpk] at rk
        refine T.skip ?_
        refine T.seq ?_
        refine T.block ?_
        refine T.seq ?_
        refine T.region ?_
        refine LW.q rfl (Qt.index _ (e := 43) (sz := 1) (by kernel_rfl) rfl rfl rfl (by omega)) ?_
        refine LW.q rfl (Qt.loadW (v := .slice pk x.length ck) (by kernel_rfl) rfl (fun w ho => by have := hcell (k + 1) (by omega) w ho.tl.drop; rw [show o + 1 * 1 + k * 1 = o + (k + 1) * 1 by omega, this, hpk])) ?_
        refine LW.q rfl (Qt.assign rfl) ?_
        refine LW.done ?_
        refine T.seq ?_
        refine T.region ?_
        refine LW.q rfl (Qt.move rfl) ?_
        refine LW.q rfl (Qt.move rfl) ?_
        refine LW.q rfl (Qt.move rfl) ?_
        refine LW.q rfl (Qt.slice_snn bp (e := 5) (sz := 1) (by kernel_rfl) rfl rfl rfl (by omega)) ?_
        refine LW.q rfl (Qt.move rfl) ?_
        refine LW.e rfl (Ef.copy0 (e := 5) (by kernel_rfl) rfl rfl (by simp) ?_)
        try simp only [List.cons_append, List.nil_append]
        refine LW.q rfl (Qt.add rfl rfl (wr64 (by omega) (by omega))) ?_
        refine LW.q rfl (Qt.assign rfl) ?_
        refine LW.done ?_
        refine T.region ?_
        refine LW.q rfl (Qt.move rfl) ?_
        refine LW.q rfl (Qt.move rfl) ?_
        refine LW.q rfl (Qt.move rfl) ?_
        refine LW.q rfl (Qt.slice_snn bp (e := 5) (sz := 1) (by kernel_rfl) rfl rfl (by omega) (by omega)) ?_
        refine LW.q rfl (Qt.move rfl) ?_
        by_cases hx0 : x.length = 0
        ·
         refine LW.e rfl (Ef.copy0 (e := 5) (by kernel_rfl) rfl rfl (by simp [hx0]) ?_)
         try simp only [List.cons_append, List.nil_append]
         refine LW.q rfl (Qt.add rfl rfl (wr64 (by omega) (by omega))) ?_
         refine LW.q rfl (Qt.assign rfl) ?_
         refine LW.done ?_
         refine T.region ?_
         refine LW.q rfl (Qt.add rfl rfl (wr64 (by omega) (by omega))) ?_
         refine LW.q rfl (Qt.move rfl) ?_
         refine LW.done ?_
         obtain rfl : x = [] := List.eq_nil_of_length_eq_zero hx0
         refine ⟨_, ?_, _, ⟨_, k + 1, bp, C, ⟨by omega, by rw [hft, hbp]; simp, hC, by rw [hft, hpre]; simp⟩, rfl, (updS rfl (updS rfl (updS rfl (updS rfl (updS rfl (updS rfl rfl)))))), rfl⟩, Sub.any⟩
         first | omega | (simp; omega)
        ·
         rw [offA_some (c := m) (lo := bp) (by omega)]
         refine LW.e rfl (Ef.copy (e := 5) (C := C) (cs := bytesV x) (src := bytesV x) (by kernel_rfl) rfl rfl (rk.mono (fun w ho => ho.tl.drop)) x.length (Nat.min_eq_left (by omega)).symm (by omega) (by rw [List.take_of_length_le (by simp)]) (by simp) one_bytesV (by omega) ?_)
         try simp only [List.cons_append, List.nil_append]
         simp only [Nat.zero_add, Nat.mul_one]
         refine LW.q rfl (Qt.add rfl rfl (wr64 (by omega) (by omega))) ?_
         refine LW.q rfl (Qt.assign rfl) ?_
         refine LW.done ?_
         refine T.region ?_
         refine LW.q rfl (Qt.add rfl rfl (wr64 (by omega) (by omega))) ?_
         refine LW.q rfl (Qt.move rfl) ?_
         refine LW.done ?_
         refine ⟨_, ?_, _, ⟨_, k + 1, bp + x.length, splice C bp (bytesV x), ⟨by omega, by rw [hft, List.length_append, hbp], by rw [length_splice _ _ _ (by simp; omega)]; exact hC, by have := splice_take C bp (bytesV x) (by simp; omega); rw [length_bytesV] at this; rw [this, hft, hpre, bytesV_append]⟩, rfl, (updS rfl (updS rfl (updS rfl (updS rfl (updS rfl (updS rfl rfl)))))), rfl⟩, Sub.any⟩
         first | omega | (simp; omega)
       ·
        have hke : k + 1 = bs.length := by omega
        rw [hke, List.take_length] at hbp hpre
        obtain rfl : C = bytesV bs.flatten := by rw [← hpre, List.take_of_length_le (by omega)]
        refine T.exit ?_
        refine T.seq ?_
        refine T.region ?_
        refine LW.q rfl (Qt.move rfl) ?_
        refine LW.q rfl (Qt.assign rfl) ?_
        refine LW.done ?_
        refine T.ret ?_
        exact ⟨.inl rfl, _, _, res [_] rfl ⟨rvT rfl, trivial⟩, ⟨some ⟨g60, 0, none⟩, c60, m, rfl, fun _ => ⟨_, rfl⟩, rfl⟩, Sub.any⟩
end Go.Proofs.YtegohgaccmkigaaGreatDoor
