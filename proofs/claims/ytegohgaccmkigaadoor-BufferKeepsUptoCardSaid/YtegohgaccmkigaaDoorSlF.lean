/- More rules: bytes that are read under assertions; numbers without sign; slices of slices; nil slices. Conditions: of each rule its own. -/
import Derived.Test.YtegohgaccmkigaaDoorSlE
set_option linter.unusedSimpArgs false
set_option linter.unusedVariables false
namespace Go.Proofs.YtegohgaccmkigaaDoor
open Go.RowKit
section
variable {P : Program} {B : Base} {n : Nat} {S l r : List Assn} {f : Fr} {K : Value → List Assn → Prop} {Φ : Post}
variable {d : Option Tmp} {ty : TypeId} {pos : String} {af : Array Edge} {gd : Option (Nat × Bool)}

/-- The slice v reads as cs in each world that has S. -/
def RdV (B : Base) (S : List Assn) (v : Value) (cs : List Value) : Prop := ∃ a cap, v = .slice a cs.length cap ∧ (cs = [] ∨ ∃ b o, a = some ⟨b, o, none⟩ ∧ ∀ w, Own B w S → w.rangeAt b o cs)
theorem RdV.mono {S S' : List Assn} {v : Value} {cs : List Value} (h : RdV B S v cs) (hs : ∀ w, Own B w S' → Own B w S) : RdV B S' v cs := by
  obtain ⟨a, cap, e, h⟩ := h
  refine ⟨a, cap, e, h.imp id ?_⟩
  rintro ⟨b, o, e1, h1⟩
  exact ⟨b, o, e1, fun w ho => h1 w (hs w ho)⟩
theorem RdV.reads {v : Value} {cs : List Value} (h : RdV B S v cs) (w : World) (ho : Own B w S) : ∃ fp, Reads w v cs fp := by
  obtain ⟨a, cap, rfl, h | ⟨b, o, rfl, h⟩⟩ := h
  · exact ⟨[], a, cap, rfl, .inl h⟩
  · exact ⟨[b], _, cap, rfl, .inr ⟨b, o, rfl, h w ho, by simp⟩⟩
theorem RdV.form {v : Value} {cs : List Value} {m : Nat} (h : RdV B S v cs) (hm : cs.length = m) : ∃ a cap, v = .slice a m cap := by
  obtain ⟨a, cap, rfl, _⟩ := h
  exact ⟨a, cap, by rw [hm]⟩
theorem RdV.nil (S : List Assn) (c : Nat) : RdV B S (.slice none 0 c) [] := ⟨none, c, rfl, .inl rfl⟩
theorem RdV.empty (S : List Assn) (a : Option Addr) (c : Nat) : RdV B S (.slice a 0 c) [] := ⟨a, c, rfl, .inl rfl⟩
theorem RdV.ofRow {p : Option Addr} {m c e : Nat} {cs : List Value} (hS : ∀ w, Own B w S → w.ownsRow 0 e 1 (.slice p m c) m cs) (hm : cs.length = m) (hp : 0 < m → ∃ g, p = some ⟨g, 0, none⟩) : RdV B S (.slice p m c) cs := by
  refine ⟨p, c, by rw [hm], ?_⟩
  rcases Nat.eq_zero_or_pos m with h0 | h0
  · exact .inl (List.eq_nil_of_length_eq_zero (by omega))
  · obtain ⟨g, rfl⟩ := hp h0
    refine .inr ⟨g, 0, rfl, fun w ho j v hv => ?_⟩
    have := (hS w ho).cells (g := g) rfl j v hv
    rwa [Addr.add_mid] at this
/-- Part of a readable slice. -/
theorem RdV.sub {a : Option Addr} {m cap : Nat} {cs : List Value} (h : RdV B S (.slice a m cap) cs) (lo hi cap' : Nat) (hl : lo ≤ hi) (hh : hi ≤ cs.length) (a' : Option Addr) (ha : lo < hi → ∀ b o, a = some ⟨b, o, none⟩ → a' = some ⟨b, o + lo, none⟩) : RdV B S (.slice a' (hi - lo) cap') ((cs.take hi).drop lo) := by
  have hlen : ((cs.take hi).drop lo).length = hi - lo := by simp; omega
  refine ⟨a', cap', by rw [hlen], ?_⟩
  rcases Nat.eq_or_lt_of_le hl with h0 | h0
  · exact .inl (List.eq_nil_of_length_eq_zero (by omega))
  · obtain ⟨a2, c2, e, h1 | ⟨b, o, e1, h1⟩⟩ := h
    · subst h1; simp at hh; omega
    · injection e with e2 _ _
      refine .inr ⟨b, o + lo, ha h0 b o (e2.trans e1), fun w ho j v hv => ?_⟩
      rw [Nat.add_assoc]
      refine h1 w ho (lo + j) v ?_
      rw [List.getElem?_drop, List.getElem?_take] at hv
      split at hv
      · exact hv
      · cases hv
theorem RdV.at {a : Option Addr} {m c : Nat} {cs : List Value} (h : RdV B S (.slice a m c) cs) (hp : 0 < m) : ∃ b o, a = some ⟨b, o, none⟩ ∧ ∀ j (hj : j < cs.length) w, Own B w S → w.cell? ⟨b, o + j * 1, none⟩ = some cs[j] := by
  obtain ⟨a2, c2, e, h1 | ⟨b, o, e1, h1⟩⟩ := h
  · subst h1; injection e with _ e2 _; simp at e2; omega
  · injection e with e2 _ _
    exact ⟨b, o, e2.trans e1, fun j hj w ho => by rw [Nat.mul_one]; exact h1 w ho j _ (List.getElem?_eq_getElem hj)⟩
theorem SrcOf.rd {tx m : Nat} {u : Value} {cs : List Value} (h : RdV B l u cs) (hk : sliceZ P tx 1 = true) (hm : cs.length = m) (h1 : ∀ x ∈ cs, x.oneCell' = true) : SrcOf P B l 1 tx u m cs := ⟨fun w ho => by
  subst hm
  obtain ⟨e', he⟩ := sliceZ_spec hk
  obtain ⟨fp, hr⟩ := h.reads w ho
  exact Src.ofReads he hr h1⟩
/-- A load whose cell is known in each world. -/
theorem Qt.loadW {t g o : Nat} {x : Operand} {v : Value} (h1 : oneB P t = true) (hx : ev n f x = some (.pointer (some ⟨g, o, none⟩))) (hc : ∀ w, Own B w S → w.cell? ⟨g, o, none⟩ = some v) : Qt P B n S ⟨d, .load t x, ty, pos, af, gd⟩ f v := ⟨fun w ho => by
  have hc := hc w ho
  unfold oneB at h1
  split at h1
  · cases h1
  · cases h1
  · rename_i dd n1 n2 hu
    have hagg : (isAgg t).run P w = .ok false w := by
      unfold isAgg
      simp only [Sem.run_bind, run_underlying hu, Result.andThen_ok]
      cases dd <;> first | exact (n1 _ rfl).elim | exact (n2 _ _ rfl).elim | rfl
    simp [execOp, evu_eq hx, Instr.loadAt, Instr.sureAddr, loadVar, hagg, Go.load, Sem.run, hc]
  · cases h1⟩
theorem T.ex {c : Code} {α : Type} {l' : α → List Assn} (h : ∀ w, Own B w l → ∃ x, Own B w (l' x)) (k : ∀ x, T P B n c Φ f (l' x)) : T P B n c Φ f l := ⟨fun Q w hf ho => by
  obtain ⟨x, hx⟩ := h w ho
  exact (k x).run Q w hf hx⟩

/-! slices against nil, and parts of slices -/
def isSl (P : Program) (t : TypeId) : Bool := match P.underlying t with | some (.slice _) => true | _ => false
theorem Qt.eqlSl {t t2 : TypeId} {x y : Operand} {p : Option Addr} {m c c' : Nat} (ht : isSl P t = true) (hx : ev n f x = some (.slice p m c)) (hy : ev n f y = some (.slice none 0 c')) : Qt P B n S ⟨d, .binOp .eql t x y t2, ty, pos, af, gd⟩ f (.bool p.isNone) := ⟨fun w _ => by
  obtain ⟨e, hu⟩ : ∃ e, P.underlying t = some (.slice e) := by unfold isSl at ht; split at ht; exact ⟨_, by assumption⟩; cases ht
  have : (Op.equal t (.slice p m c) (.slice none 0 c')).run P w = .ok p.isNone w := by
    show (Op.equalIn (9999 + 1) t (.slice p m c) (.slice none 0 c')).run P w = _
    rw [Op.equalIn]
    cases p <;> simp [run_underlying hu]
  simp [execOp, evu_eq hx, evu_eq hy, eqGuard, Go.binOp, this]⟩
theorem run_slice {w : World} {t e sz : Nat} {p : Option Addr} {m c lo hi : Nat} (ht : sliceB P t e sz = true) (h1 : lo ≤ hi) (h2 : hi ≤ c) (kl kh : IntKind) :
    (Instr.sliceAt t (.slice p m c) (some (.int kl lo)) (some (.int kh hi)) none).run P w = .ok (.slice (if c = lo then p else p.map (·.add (lo * sz))) (hi - lo) (c - lo)) w := by
  obtain ⟨hu, hs⟩ := sliceB_spec ht
  obtain ⟨i, hi', his⟩ := info_of_size hs
  subst his
  simp [Instr.sliceAt, run_underlying hu, Instr.slice, Instr.sliceBounds, Instr.sliceBound, asIntOf, sizeOf, typeInfo, hi', h1, h2]
/-- The place of a part of a slice. -/
def offA (p : Option Addr) (c lo sz : Nat) : Option Addr := if c = lo then p else p.map (·.add (lo * sz))
theorem offA_some {b o c lo sz : Nat} (h : c ≠ lo) : offA (some ⟨b, o, none⟩) c lo sz = some ⟨b, o + lo * sz, none⟩ := by simp [offA, h, Addr.add_mid]
theorem offA_zero {p : Option Addr} {c sz : Nat} : offA p c 0 sz = p := by
  unfold offA
  split
  · rfl
  · cases p <;> simp [Addr.add]
theorem Qt.slice_ssn {t e sz : Nat} {x y z : Operand} {p : Option Addr} {m c : Nat} {k k2 : IntKind} {i j : Int} (lo hi : Nat) (ht : sliceB P t e sz = true) (hx : ev n f x = some (.slice p m c)) (hy : ev n f y = some (.int k i)) (hz : ev n f z = some (.int k2 j)) (hi1 : i = (lo : Int)) (hj1 : j = (hi : Int)) (h1 : lo ≤ hi) (h2 : hi ≤ c) :
    Qt P B n S ⟨d, .slice t x (some y) (some z) none, ty, pos, af, gd⟩ f (.slice (offA p c lo sz) (hi - lo) (c - lo)) := ⟨fun w _ => by
  subst hi1; subst hj1
  have := run_slice (w := w) (p := p) (m := m) ht h1 h2 k k2
  simp [execOp, evu_eq hx, evu_eq hy, evu_eq hz, this, offA]⟩
theorem run_slice_sn {w : World} {t e sz : Nat} {p : Option Addr} {m c lo : Nat} (ht : sliceB P t e sz = true) (h1 : lo ≤ m) (kl : IntKind) :
    (Instr.sliceAt t (.slice p m c) (some (.int kl lo)) none none).run P w = .ok (.slice (if c = lo then p else p.map (·.add (lo * sz))) (m - lo) (c - lo)) w := by
  obtain ⟨hu, hs⟩ := sliceB_spec ht
  obtain ⟨i, hi', his⟩ := info_of_size hs
  subst his
  simp [Instr.sliceAt, run_underlying hu, Instr.slice, Instr.sliceBounds, Instr.sliceBound, asIntOf, sizeOf, typeInfo, hi', h1]
theorem Qt.slice_snn {t e sz : Nat} {x y : Operand} {p : Option Addr} {m c : Nat} {k : IntKind} {i : Int} (lo : Nat) (ht : sliceB P t e sz = true) (hx : ev n f x = some (.slice p m c)) (hy : ev n f y = some (.int k i)) (hi1 : i = (lo : Int)) (h1 : lo ≤ m) :
    Qt P B n S ⟨d, .slice t x (some y) none none, ty, pos, af, gd⟩ f (.slice (offA p c lo sz) (m - lo) (c - lo)) := ⟨fun w _ => by
  subst hi1
  have := run_slice_sn (w := w) (p := p) (m := m) (c := c) ht h1 k
  simp [execOp, evu_eq hx, evu_eq hy, this, offA]⟩
theorem run_slice_ns {w : World} {t e sz : Nat} {p : Option Addr} {m c hi : Nat} (ht : sliceB P t e sz = true) (h2 : hi ≤ c) (kh : IntKind) :
    (Instr.sliceAt t (.slice p m c) none (some (.int kh hi)) none).run P w = .ok (.slice p hi c) w := by
  obtain ⟨hu, hs⟩ := sliceB_spec ht
  obtain ⟨i, hi', his⟩ := info_of_size hs
  have h0 : (if c = 0 then p else p.map (·.add (0 * i.size))) = p := by
    split
    · rfl
    · cases p <;> simp [Addr.add]
  simp [Instr.sliceAt, run_underlying hu, Instr.slice, Instr.sliceBounds, Instr.sliceBound, asIntOf, sizeOf, typeInfo, hi', h2]
  intro _
  cases p <;> simp [Addr.add]
theorem Qt.slice_nsn {t e sz : Nat} {x z : Operand} {p : Option Addr} {m c : Nat} {k2 : IntKind} {j : Int} (hi : Nat) (ht : sliceB P t e sz = true) (hx : ev n f x = some (.slice p m c)) (hz : ev n f z = some (.int k2 j)) (hj1 : j = (hi : Int)) (h2 : hi ≤ c) :
    Qt P B n S ⟨d, .slice t x none (some z) none, ty, pos, af, gd⟩ f (.slice p hi c) := ⟨fun w _ => by
  subst hj1
  have := run_slice_ns (w := w) (p := p) (m := m) ht h2 k2
  simp [execOp, evu_eq hx, evu_eq hz, this]⟩

/-! numbers without sign -/
theorem ofInt_nat (w m : Nat) : BitVec.ofInt w (m : Int) = BitVec.ofNat w m := by simp
theorem Qt.bits32 {op : BinOp} {t t2 : TypeId} {x y : Operand} {a b r : UInt32} {b' : Int} (hop : (op = .and ∧ r = a &&& b) ∨ (op = .or ∧ r = a ||| b) ∨ (op = .xor ∧ r = a ^^^ b)) (hx : ev n f x = some (.int .u32 a.toNat)) (hy : ev n f y = some (.int .u32 b')) (hb : b' = b.toNat) :
    Qt P B n S ⟨d, .binOp op t x y t2, ty, pos, af, gd⟩ f (.int .u32 r.toNat) := ⟨fun w _ => by
  subst hb
  have ha : BitVec.ofInt 32 (a.toNat : Int) = a.toBitVec := by rw [ofInt_nat]; simp
  have hb : BitVec.ofInt 32 (b.toNat : Int) = b.toBitVec := by rw [ofInt_nat]; simp
  have wr : ∀ r : UInt32, IntKind.u32.wrap (r.toBitVec.toNat : Int) = (r.toNat : Int) := fun r => wru32 (by omega) (by have := r.toNat_lt; have e : r.toBitVec.toNat = r.toNat := rfl; omega)
  rcases hop with ⟨rfl, rfl⟩ | ⟨rfl, rfl⟩ | ⟨rfl, rfl⟩
  · have h : (Op.intBits .and .u32 (a.toNat : Int) (b.toNat : Int)).run P w = .ok (.int .u32 (a &&& b).toNat) w := by
      show Sem.run P (pure (Value.int .u32 (IntKind.u32.wrap ((BitVec.ofInt 32 (a.toNat : Int) &&& BitVec.ofInt 32 (b.toNat : Int)).toNat : Int)))) w = _
      rw [ha, hb, ← UInt32.toBitVec_and, wr]; rfl
    simp [execOp, evu_eq hx, evu_eq hy, eqGuard, Go.binOp, h]
  · have h : (Op.intBits .or .u32 (a.toNat : Int) (b.toNat : Int)).run P w = .ok (.int .u32 (a ||| b).toNat) w := by
      show Sem.run P (pure (Value.int .u32 (IntKind.u32.wrap ((BitVec.ofInt 32 (a.toNat : Int) ||| BitVec.ofInt 32 (b.toNat : Int)).toNat : Int)))) w = _
      rw [ha, hb, ← UInt32.toBitVec_or, wr]; rfl
    simp [execOp, evu_eq hx, evu_eq hy, eqGuard, Go.binOp, h]
  · have h : (Op.intBits .xor .u32 (a.toNat : Int) (b.toNat : Int)).run P w = .ok (.int .u32 (a ^^^ b).toNat) w := by
      show Sem.run P (pure (Value.int .u32 (IntKind.u32.wrap ((BitVec.ofInt 32 (a.toNat : Int) ^^^ BitVec.ofInt 32 (b.toNat : Int)).toNat : Int)))) w = _
      rw [ha, hb, ← UInt32.toBitVec_xor, wr]; rfl
    simp [execOp, evu_eq hx, evu_eq hy, eqGuard, Go.binOp, h]⟩
theorem Qt.and32 {t t2 : TypeId} {x y : Operand} {a : UInt32} {b' : Int} (b : UInt32) (hx : ev n f x = some (.int .u32 a.toNat)) (hy : ev n f y = some (.int .u32 b')) (hb : b' = b.toNat) : Qt P B n S ⟨d, .binOp .and t x y t2, ty, pos, af, gd⟩ f (.int .u32 (a &&& b).toNat) := Qt.bits32 (.inl ⟨rfl, rfl⟩) hx hy hb
theorem Qt.xor32 {t t2 : TypeId} {x y : Operand} {a : UInt32} {b' : Int} (b : UInt32) (hx : ev n f x = some (.int .u32 a.toNat)) (hy : ev n f y = some (.int .u32 b')) (hb : b' = b.toNat) : Qt P B n S ⟨d, .binOp .xor t x y t2, ty, pos, af, gd⟩ f (.int .u32 (a ^^^ b).toNat) := Qt.bits32 (.inr (.inr ⟨rfl, rfl⟩)) hx hy hb
theorem Qt.not32 {t : TypeId} {x : Operand} {a : UInt32} (hx : ev n f x = some (.int .u32 a.toNat)) : Qt P B n S ⟨d, .unOp .xor t x, ty, pos, af, gd⟩ f (.int .u32 (~~~ a).toNat) := ⟨fun w _ => by
  have ha : BitVec.ofInt 32 (a.toNat : Int) = a.toBitVec := by rw [ofInt_nat]; simp
  have hm : BitVec.ofInt 32 (IntKind.u32.max) = (0xffffffff : UInt32).toBitVec := by decide
  have wr : ∀ r : UInt32, IntKind.u32.wrap (r.toBitVec.toNat : Int) = (r.toNat : Int) := fun r => wru32 (by omega) (by have := r.toNat_lt; have e : r.toBitVec.toNat = r.toNat := rfl; omega)
  have hx2 : (0xffffffff : UInt32) ^^^ a = ~~~ a := by
    apply UInt32.toBitVec_inj.1
    simp only [UInt32.toBitVec_xor, UInt32.toBitVec_not]
    have : (0xffffffff : UInt32).toBitVec = BitVec.allOnes 32 := by decide
    rw [this, BitVec.allOnes_xor]
  have h : (Op.unary .xor (.int .u32 a.toNat)).run P w = .ok (.int .u32 (~~~ a).toNat) w := by
    show Sem.run P (pure (Value.int .u32 (IntKind.u32.wrap ((BitVec.ofInt 32 IntKind.u32.max ^^^ BitVec.ofInt 32 (a.toNat : Int)).toNat : Int)))) w = _
    rw [ha, hm, ← UInt32.toBitVec_xor, wr, hx2]; rfl
  simp [execOp, evu_eq hx, h]⟩
theorem Qt.shr32 {t t2 : TypeId} {x y : Operand} {a : UInt32} {k : IntKind} (hx : ev n f x = some (.int .u32 a.toNat)) (hy : ev n f y = some (.int k 1)) : Qt P B n S ⟨d, .binOp .shr t x y t2, ty, pos, af, gd⟩ f (.int .u32 (a >>> 1).toNat) := ⟨fun w _ => by
  have e : ((a >>> 1).toNat : Int) = (a.toNat : Int).fdiv 2 := by
    have h1 : (a >>> 1).toNat = a.toNat / 2 := by
      rw [UInt32.toNat_shiftRight]
      simp [Nat.shiftRight_eq_div_pow]
    rw [h1, Int.fdiv_eq_ediv_of_nonneg _ (by omega)]; rfl
  have h : (Op.shift .shr .u32 (a.toNat : Int) k 1).run P w = .ok (.int .u32 (a >>> 1).toNat) w := by
    rw [e]
    simp [Op.shift, IntKind.bits]
  simp [execOp, evu_eq hx, evu_eq hy, eqGuard, Go.binOp, h]⟩
end
end Go.Proofs.YtegohgaccmkigaaDoor
