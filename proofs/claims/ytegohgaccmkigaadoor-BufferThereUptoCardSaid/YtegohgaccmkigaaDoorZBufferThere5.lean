/- The texts SlH PgF PgG PgH PgI JnA WlA WlB WlC WlD WlE WlF, one behind the other: what the law leans on. Conditions: as each theorem says. -/
import Derived.Test.YtegohgaccmkigaaDoorZBufferThere4
import Derived.Great.BuildSlice
import Derived.Lib.MakeNoZero
import Derived.Laws.Externs
/- Slice literals of one-cell elements; '[]byte("..")' of a constant, whose row bears the run-time's mark. Conditions: of each rule its own. -/
set_option linter.unusedSimpArgs false
set_option linter.unusedVariables false
namespace Go.Proofs.YtegohgaccmkigaaDoor
open Go.RowKit
section
variable {P : Program} {B : Base} {n : Nat} {S l r : List Assn} {f : Fr} {K : Value → List Assn → Prop} {Φ : Post}
variable {d : Option Tmp} {ty : TypeId} {pos : String} {af : Array Edge} {gd : Option (Nat × Bool)}

/-- A block that bears the run-time's mark. -/
def fblk (g : Nat) (C : List Value) (t : TypeId) (fr : Nat × Nat) : Assn := fun h => h g = some (.cells C.toArray t fr)
instance (g : Nat) (l : List Assn) (C : List Value) (t : TypeId) (fr : Nat × Nat) : CellsAt g (fblk g C t fr :: l) C := ⟨fun _ ⟨_, _, _, a, _, e, _⟩ => ⟨[], t, fr, by rw [List.append_nil]; exact a.p _ _ e⟩⟩
class FrzB (g : Nat) (l : List Assn) (r : outParam (List Assn)) : Prop where
  cut : ∃ C t m, (∀ h, Has l h → Has (blk g C t :: m) h) ∧ ∀ h, Has (fblk g C t (C.length, C.length + 1) :: m) h → Has r h
instance (g : Nat) (C : List Value) (t : TypeId) (l : List Assn) : FrzB g (blk g C t :: l) (fblk g C t (C.length, C.length + 1) :: l) := ⟨C, t, l, fun _ H => H, fun _ H => H⟩
instance (g : Nat) (A : Assn) (l r : List Assn) [k : FrzB g l r] : FrzB g (A :: l) (A :: r) := ⟨by
  obtain ⟨C, t, m, h1, h2⟩ := k.cut
  exact ⟨C, t, A :: m, fun h H => Has.swap (Has.cons_imp h1 H), fun h H => Has.cons_imp h2 (Has.swap H)⟩⟩
theorem Own.frz {w : World} {g : Nat} (H : Own B w l) [k : FrzB g l r] : ∃ (C : List Value) (t : TypeId), w.heap[g]? = some (.cells C.toArray t (0, 0)) ∧ Own B (w.freeze ⟨g, C.length, none⟩ 1) r := by
  obtain ⟨C, t, m, h1, h2⟩ := k.cut
  have H1 : Own B w (blk g C t :: m) := H.map h1
  refine ⟨C, t, H1.get, Own.map ?_ h2⟩
  have e : w.freeze ⟨g, C.length, none⟩ 1 = { w with heap := w.heap.modify g fun | .cells c elem (lo, hi) => .cells c elem (if lo == hi then (C.length, C.length + 1) else (min lo C.length, max hi (C.length + 1))) | o => o } := by
    unfold World.freeze; rw [if_neg (by decide)]; rfl
  rw [e]
  refine Own.kept (fp := [g]) H1 ⟨rfl, rfl, rfl, by simp, fun k _ hn => ?_⟩ (fun h e g' hg => by simp at hg; subst hg; exact ⟨_, e⟩) (fun h1 h _ _ e _ => ?_)
  · simp only [List.mem_singleton] at hn
    simp only [Array.getElem?_modify]
    rw [if_neg (fun q => hn q.symm)]
  · have := e g (.inl (by simp))
    unfold fblk
    rw [this]
    simp only [Array.getElem?_modify, if_true]
    have hg := H1.get
    rw [hg]
    rfl
theorem Ef.mark {t g m c : Nat} {x : Operand} (hb : bytesB P t = true) (hx : ev n f x = some (.slice (some ⟨g, 0, none⟩) m c)) [k : FrzB g l r] (h : K (.slice (some ⟨g, 0, none⟩) m c) r) : Ef P B n ⟨d, .convert t t x, ty, pos, af, gd⟩ f l K := ⟨fun w next Q ho hk => by
  obtain ⟨e, h1, h2⟩ := bytesB_spec hb
  obtain ⟨C, t', hg, ho'⟩ := ho.frz (k := k)
  have hsh : w.shape? g = some (t', C.length) := by
    unfold World.shape?; rw [hg]; simp
  have hr : (convert t t (.slice (some ⟨g, 0, none⟩) m c)).run P w = .ok (.slice (some ⟨g, 0, none⟩) m c) (w.freeze ⟨g, C.length, none⟩ 1) := by
    simp [convert, run_underlying h1, run_underlying h2, markStringish, hsh]
  unfold Oper.wp execOp
  simp only [eval_act', evu_eq hx, Sem.run_bind, hr, Sem.run_pure, Result.andThen_ok]
  exact hk _ _ _ h ho'⟩
/-- A slice literal of one-cell elements, all of them told. -/
theorem Ef.lit {t e len : Nat} {parts : Array (Nat × Operand)} (vs : List Value) (hk : sliceB P t e 1 = true) (hz : ((P.info? e).bind (·.zero)).isSome = true) (hp : parts.toList.map (fun p => (p.1, ev n f p.2)) = (vs.zipIdx 0).map fun x => (x.2, some x.1)) (h1 : ∀ v ∈ vs, v.cells = #[v]) (hl : vs.length = len) (h0 : 0 < len) (h24 : len ≤ 16777216)
    (h : ∀ g, K (.slice (some ⟨g, 0, none⟩) len len) (blk g vs e :: l)) : Ef P B n ⟨d, .buildSlice t len parts, ty, pos, af, gd⟩ f l K := ⟨fun w next Q ho hk' => by
  obtain ⟨q1, q2⟩ := sliceB_spec hk
  obtain ⟨i, hi, his⟩ := info_of_size q2
  rw [hi] at hz
  obtain ⟨z, hzz⟩ := Option.isSome_iff_exists.1 hz
  have hpe : (parts.map fun p => (p.1, evu n f p.2)).toList = (vs.zipIdx 0).map fun x => (x.2, x.1) := by
    rw [Array.toList_map]
    have e := congrArg (List.map (fun p : Nat × Option Value => (p.1, p.2.getD undef))) hp
    simp only [List.map_map, Function.comp_def, Option.getD_some] at e
    exact e
  have hr := run_buildSlice (P := P) w t e len (parts.map fun p => (p.1, evu n f p.2)) vs.toArray i z q1 hi (by simpa using hzz) (by rw [his]; omega) (by rw [his]; omega) (by rw [hpe, his]; exact Great.fill_flat _ _ h1 (by simp [hl]))
  unfold Oper.wp execOp
  simp only [eval_act', Sem.run_bind, hr, Sem.run_pure, Result.andThen_ok]
  exact hk' _ _ _ (h _) (ho.alloc vs e)⟩
end
end Go.Proofs.YtegohgaccmkigaaDoor

/- The statements of the package page: awake. Conditions: none. -/
set_option linter.unusedSimpArgs false
set_option linter.unusedVariables false
namespace Go.Proofs.YtegohgaccmkigaaDoor
open Go.RowKit

theorem RdV.str {B : Base} {S : List Assn} {v : Value} {b : List UInt8} (h : RdV B S v (bytesV b)) : ∀ w, Own B w S → ∃ fp, Reads w v (bytesV b) fp := fun w ho => h.reads w ho
end Go.Proofs.YtegohgaccmkigaaDoor

/- The statement PageTorn. Conditions: that the scripts can be read; sizes. -/
set_option linter.unusedSimpArgs false
set_option linter.unusedVariables false
namespace Go.Proofs.YtegohgaccmkigaaDoor
open Go.RowKit

theorem Fn.frame {P : Program} {B : Base} {g : FuncId} {args : Array Value} {pre : List Assn} {R : Value → List Assn → Prop} (h : Fn P B g args pre R) (S : List Assn) : Fn P B g args (pre ++ S) (fun v l => ∃ l', R v l' ∧ l = l' ++ S) := ⟨fun w F ho => by
  rw [List.append_assoc] at ho
  refine (h.run w (S ++ F) ho).mono ?_
  rintro _ w' ⟨v, l, rfl, hR, ho'⟩
  exact ⟨v, l ++ S, rfl, ⟨l, hR, rfl⟩, by rw [List.append_assoc]; exact ho'⟩⟩
theorem RoS.rd {B : Base} {v : Value} {cs : List Value} (h : RoS B v cs) (S : List Assn) : RdV B S v cs := by
  obtain ⟨a, cap, rfl, h | ⟨b, o, C, rfl, k, h⟩⟩ := h
  · exact ⟨a, cap, rfl, .inl h⟩
  · exact ⟨_, cap, rfl, .inr ⟨b, o, rfl, fun w ho => ho.range (g := b) (C := C) (fun j u hj => by have := h j u hj; rwa [Nat.mul_one] at this)⟩⟩

theorem RdV.takeB {B : Base} {S : List Assn} {a : Option Addr} {m c : Nat} {b : List UInt8} (hv : RdV B S (.slice a m c) (bytesV b)) (hi c' : Nat) (hh : hi ≤ b.length) : RdV B S (.slice a hi c') (bytesV (b.take hi)) := by
  have := hv.take hi c' (by simpa using hh)
  rwa [show (bytesV b).take hi = bytesV (b.take hi) by simp [bytesV]] at this

end Go.Proofs.YtegohgaccmkigaaDoor

/- The statement PageRoom. Conditions: that the script can be read; sizes. -/
set_option linter.unusedSimpArgs false
set_option linter.unusedVariables false
namespace Go.Proofs.YtegohgaccmkigaaDoor
open Go.RowKit

end Go.Proofs.YtegohgaccmkigaaDoor

/- The statement PageKeeps. Conditions: that what is handed in can be read; sizes. -/
set_option linter.unusedSimpArgs false
set_option linter.unusedVariables false
namespace Go.Proofs.YtegohgaccmkigaaDoor
open Go.RowKit

theorem Fn.sub {P : Program} {B : Base} {g : FuncId} {args : Array Value} {pre : List Assn} {R R' : Value → List Assn → Prop} (h : Fn P B g args pre R) (hr : ∀ v l, R v l → ∃ l', Sub l l' ∧ R' v l') : Fn P B g args pre R' := ⟨fun w F ho => by
  refine (h.run w F ho).mono ?_
  rintro _ w' ⟨v, l, rfl, hR, ho'⟩
  obtain ⟨l', hs, hR'⟩ := hr v l hR
  exact ⟨v, l', rfl, hR', ho'.map fun k H => by
    obtain ⟨h1, h2, d, a, b, e1, e2⟩ := Has.split H
    exact Has.join d a b (hs _ e1) e2⟩⟩
theorem bytes_set (l : List UInt8) (j : Nat) (x : UInt8) : (bytesV l).set (0 + j * 1) (.int .u8 x.toNat) = bytesV (l.set j x) := by
  simp [bytesV, List.map_set]
theorem bytes_get {l : List UInt8} {j : Nat} {x : UInt8} (h : l[j]? = some x) : (bytesV l)[0 + j * 1]? = some (.int .u8 x.toNat) := by simp [bytesV, h]
end Go.Proofs.YtegohgaccmkigaaDoor

/- bytealg.MakeNoZero, copies of nothing, slices with three bounds; bytes.Join without a separator. Conditions: sizes; that what is handed in can be read. -/
set_option linter.unusedSimpArgs false
set_option linter.unusedVariables false
namespace Go.Proofs.YtegohgaccmkigaaDoor
open Go.RowKit
section
variable {P : Program} {B : Base} {n : Nat} {S l r : List Assn} {f : Fr} {K : Value → List Assn → Prop} {Φ : Post}
variable {d : Option Tmp} {ty : TypeId} {pos : String} {af : Array Edge} {gd : Option (Nat × Bool)}

theorem Ef.makeNoZero {g : FuncId} {fn : Func} {x : Operand} {ats : Array TypeId} {t e : TypeId} {ps : Array TypeId} {i : Int} (m : Nat) (hf : P.funcs[g]? = some fn) (hname : (fn.name == "runtime.NumGoroutine") = false) (hb : fn.body.isNone = true) (hn : Extern.findNext fn = none)
    (he : Extern.find fn = some (Extern.BytealgMakeNoZero.makeNoZero ps #[t])) (ht : P.underlying t = some (.slice e)) (hx : ev n f x = some (.int .i64 i)) (hi : i = (m : Int)) (hm : m ≤ 281474976710656) (hm2 : m ≤ maxLen)
    (h : ∀ g c xs, m ≤ c → K (.slice (some ⟨g, 0, none⟩) m c) (row (.slice (some ⟨g, 0, none⟩) m c) e 1 m xs :: l)) : Ef P B n ⟨d, .call ⟨.value (.func g), #[x], ats⟩, ty, pos, af, gd⟩ f l K := ⟨fun w next Q ho hk => by
  subst hi
  obtain ⟨cs, hrun, hle, hmax⟩ := Lib.run_makeNoZero (P := P) w ps t e ht m hm
  have hav : (#[x] : Array Operand).map (evu n f) = #[.int .i64 m] := by simp [evu_eq hx]
  unfold Oper.wp execOp
  rw [eval_act']
  have he : ((do let c ← resolve (evu n f) ⟨.value (.func g), #[x], ats⟩ ty; invoke c.target c.args) : Sem Next).run P w = .ok (.value (.slice (some ⟨w.heap.size, 0, none⟩) m cs.size)) (w.drew.drew.alloc (.cells cs e)) := by
    simp only [resolve, hav]
    have hg : evu n f (.func g) = .func (.func g) #[] #[] := rfl
    have hc := run_callFunc_extern (P := P) hf hname hb hn he #[.int .i64 m] w
    rw [hrun] at hc
    simp [hg, Deferred.ofValue, invoke, hc]
  rw [he]
  have ho2 : Own B w.drew.drew l := ⟨ho.os, ho.tape, ho.output, ho.ro, ho.has⟩
  have ho3 := ho2.alloc cs.toList e
  have e2 : cs.toList.toArray = cs := by simp
  rw [e2] at ho3
  refine hk _ _ _ (h w.heap.size cs.size (cs.toList.take m) hle) (ho3.map fun _ ⟨h1, h2, dd, a1, a2, hA, H⟩ => ⟨h1, h2, dd, a1, a2, ?_, H⟩)
  refine ⟨by simp; omega, .inr ⟨w.heap.size, cs.size, cs, rfl, ?_, hle, hmax hm2, by simp, by rw [Nat.mul_one]⟩⟩
  have : h1 w.heap.size = some (.cells cs.toList.toArray e (0, 0)) := by rw [e2]; exact hA
  rwa [e2] at this⟩
theorem Qt.slice3 {t e sz : Nat} {x y z : Operand} {p : Option Addr} {m c : Nat} {k k2 : IntKind} {i j : Int} (hi mx : Nat) (ht : sliceB P t e sz = true) (hx : ev n f x = some (.slice p m c)) (hy : ev n f y = some (.int k i)) (hz : ev n f z = some (.int k2 j)) (h1 : i = (hi : Int)) (h2 : j = (mx : Int)) (h3 : hi ≤ mx) (h4 : mx ≤ c) :
    Qt P B n S ⟨d, .slice t x none (some y) (some z), ty, pos, af, gd⟩ f (.slice p hi mx) := ⟨fun w _ => by
  subst h1; subst h2
  obtain ⟨hu, hs⟩ := sliceB_spec ht
  obtain ⟨i, hi', his⟩ := info_of_size hs
  subst his
  have h0 : (if mx = 0 then p else p.map (·.add (0 * i.size))) = p := by
    split
    · rfl
    · cases p <;> simp [Addr.add]
  have h5 : hi ≤ c := by omega
  have : (Instr.sliceAt t (.slice p m c) none (some (.int k hi)) (some (.int k2 mx))).run P w = .ok (.slice p hi mx) w := by
    simp [Instr.sliceAt, run_underlying hu, Instr.slice, Instr.sliceBounds, Instr.sliceBound, asIntOf, sizeOf, typeInfo, hi', h3, h4, h5]
    intro _
    cases p <;> simp [Addr.add]
  simp [execOp, evu_eq hx, evu_eq hy, evu_eq hz, this]⟩
/-- A slice from a bound on, its place told. -/
theorem Qt.slice_sn1 {t e sz : Nat} {x y : Operand} {p : Option Addr} {m c : Nat} {k : IntKind} {i : Int} (lo : Nat) (p' : Option Addr) (m' c' : Nat) (ht : sliceB P t e sz = true) (hx : ev n f x = some (.slice p m c)) (hy : ev n f y = some (.int k i)) (hi1 : i = (lo : Int)) (h1 : lo ≤ m) (hp : offA p c lo sz = p') (hm : m - lo = m') (hc : c - lo = c') :
    Qt P B n S ⟨d, .slice t x (some y) none none, ty, pos, af, gd⟩ f (.slice p' m' c') := by
  subst hp; subst hm; subst hc
  exact Qt.slice_snn lo ht hx hy hi1 h1
theorem Ef.copy0 {dT sT e : Nat} {x y : Operand} {a b : Option Addr} {dLen dCap sLen sCap : Nat} {ty2 : TypeId} (hk : sliceB P dT e 1 = true) (hx : ev n f x = some (.slice b dLen dCap)) (hy : ev n f y = some (.slice a sLen sCap)) (hm : Nat.min sLen dLen = 0)
    (h : K (.int .i64 0) l) : Ef P B n ⟨d, .call ⟨.builtin .copy, #[x, y], #[dT, sT]⟩, ty2, pos, af, gd⟩ f l K := ⟨fun w next Q ho hk2 => by
  obtain ⟨hu, hs⟩ := sliceB_spec hk
  have hr := run_copy_none (P := P) w dT sT ty2 e b a dLen dCap sLen sCap hu hs hm
  unfold Oper.wp execOp
  simp only [eval_act', resolve, invoke, builtin, Sem.run_bind, Sem.run_pure, Result.andThen_ok, List.map_toArray, List.map_cons, List.map_nil, evu_eq hx, evu_eq hy, hr]
  exact hk2 _ _ _ h ho⟩
end
theorem flat_take (bs : List (List UInt8)) (k : Nat) (h : k < bs.length) : (bs.take (k + 1)).flatten = (bs.take k).flatten ++ bs[k] := by
  rw [List.take_succ_eq_append_getElem h, List.flatten_append, List.flatten_cons, List.flatten_nil, List.append_nil]
theorem flat_le (bs : List (List UInt8)) (k : Nat) : (bs.take k).flatten.length ≤ bs.flatten.length := by
  have : bs.flatten = (bs.take k).flatten ++ (bs.drop k).flatten := by rw [← List.flatten_append, List.take_append_drop]
  rw [this, List.length_append]; omega
theorem splice_take (C : List Value) (o : Nat) (x : List Value) (h : o + x.length ≤ C.length) : (splice C o x).take (o + x.length) = C.take o ++ x := by
  unfold splice
  rw [← List.append_assoc, List.take_left' (by simp; omega)]

set_option maxHeartbeats 4000000 in
set_option maxRecDepth 100000 in
theorem Jn.join (B : Base) (S : List Assn) (a : Option Addr) (c : Nat) (bs : List (List UInt8)) (hv : PartsV B S (.slice a bs.length c) bs) (hc : bs.length ≤ c) (hn : bs.length < 2 ^ 32) (N : Nat) (hN : bs.flatten.length = N) (hN2 : N ≤ 2 ^ 40) : Fn Tryd.prog B 45 #[.slice a bs.length c, .slice none 0 0] S (fun u l => ∃ p c c', u = .slice p N c' ∧ (0 < N → ∃ g, p = some ⟨g, 0, none⟩) ∧ l = rB (.slice p N c) N bs.flatten :: S) := by
 obtain ⟨vs, h1, h2, h3⟩ := hv
 have hz0 := flat_le bs
 refine Fn.enter2 92 Tryd.func45 rfl rfl (Nat.le_of_ble_eq_true rfl) (fun F => ?_)
 try simp only [List.cons_append, List.nil_append]
 refine T.seq ?_
 refine T.region ?_
 refine LW.q rfl (Qt.assign rfl) ?_
 refine LW.done ?_
 refine T.seq ?_
 refine T.seq ?_
 refine T.region ?_
 refine LW.q rfl (Qt.move rfl) ?_
 refine LW.q rfl (Qt.len (e := 41) (sz := 1) (by kernel_rfl) rfl) ?_
 refine LW.q rfl (Qt.eql rfl rfl) ?_
 refine LW.done ?_
 refine T.condP rfl (fun h0 => ?_) (fun h0 => ?_)
 ·
  obtain rfl : bs = [] := List.eq_nil_of_length_eq_zero (by omega)
  obtain rfl : N = 0 := by rw [← hN]; rfl
  refine T.seq ?_
  refine T.region ?_
  refine LW.e rfl (Ef.empty Cd.elemB ?_)
  rintro g15
  try simp only [List.cons_append, List.nil_append]
  rw [show (row (.slice (some ⟨g15, 0, none⟩) 0 0) 5 1 0 [] : Assn) = rB (.slice (some ⟨g15, 0, none⟩) 0 0) 0 [] from rfl]
  refine LW.q rfl (Qt.assign rfl) ?_
  refine LW.done ?_
  refine T.ret ?_
  exact ⟨.inl rfl, _, _, res [_] rfl ⟨rvT rfl, trivial⟩, ⟨some ⟨g15, 0, none⟩, 0, 0, rfl, fun h => by omega, by rw [List.flatten_nil]⟩, Sub.any⟩
 ·
  obtain ⟨g, o, rfl, hcell⟩ := h1.at (by omega)
  obtain ⟨pa, pc, hp0⟩ := (h3 0 (by omega) (by omega)).form (m := bs[0].length) (by simp)
  have r0 := h3 0 (by omega) (by omega)
  rw [hp0] at r0
  refine T.skip ?_
  refine T.seq ?_
  refine T.seq ?_
  refine T.region ?_
  refine LW.q rfl (Qt.move rfl) ?_
  refine LW.q rfl (Qt.len (e := 41) (sz := 1) (by kernel_rfl) rfl) ?_
  refine LW.q rfl (Qt.eql rfl rfl) ?_
  refine LW.done ?_
  refine T.condP rfl (fun hone => ?_) (fun hone => ?_)
  ·
   obtain ⟨x, rfl⟩ : ∃ x, bs = [x] := by match bs, hone with | [x], _ => exact ⟨x, rfl⟩ | [], e => simp at e | _ :: _ :: _, e => simp at e; omega
   simp only [List.getElem_cons_zero] at r0
   obtain rfl : x.length = N := by rw [← hN]; simp
   have hx1 : [x].flatten = x := by simp
   refine T.seq ?_
   refine T.region ?_
   refine LW.q rfl (Qt.move rfl) ?_
   refine LW.q rfl (Qt.index 0 (e := 41) (sz := 1) (by kernel_rfl) rfl rfl rfl (by omega)) ?_
   refine LW.q rfl (Qt.loadW (v := .slice pa x.length pc) (by kernel_rfl) rfl (fun w ho => by rw [hcell 0 (by simp at h2; omega) w ho.drop, hp0]; rfl)) ?_
   refine LW.e rfl (Ef.appendNil Cd.elemB rfl rfl (SrcOf.rd (m := x.length) (r0.mono (fun w ho => ho.drop)) (by kernel_rfl) (by simp) one_bytesV) (by unfold maxLen; omega) (by omega) ?_)
   rintro p1 c1 hp1
   try simp only [List.cons_append, List.nil_append]
   refine LW.q rfl (Qt.assign rfl) ?_
   refine LW.done ?_
   refine T.ret ?_
   exact ⟨.inl rfl, _, _, res [_] rfl ⟨rvT rfl, trivial⟩, ⟨p1, c1, c1, rfl, hp1, by rw [hx1]⟩, Sub.any⟩
  ·
   refine T.skip ?_
   refine T.seq ?_
   refine T.region ?_
   refine LW.q rfl (Qt.assign rfl) ?_
   refine LW.done ?_
   refine T.seq ?_
   refine T.seq ?_
   refine T.region ?_
   refine LW.q rfl (Qt.move rfl) ?_
   refine LW.q rfl (Qt.len (e := 5) (sz := 1) (by kernel_rfl) rfl) ?_
   refine LW.q rfl (Qt.gtr rfl rfl) ?_
   refine LW.done ?_
   first | refine T.condF rfl ?_ | refine T.condPF rfl (by omega) ?_ | refine T.condBF rfl (by omega) ?_
   refine T.skip ?_
   refine T.seq ?_
   refine T.seq ?_
   refine T.region ?_
   refine LW.q rfl (Qt.move rfl) ?_
   refine LW.q rfl (Qt.len (e := 41) (sz := 1) (by kernel_rfl) rfl) ?_
   refine LW.q rfl (Qt.move rfl) ?_
   refine LW.done ?_
   refine T.block ?_
   refine T.loop (fun mz fz lz => ∃ (f0 : Fr) (k m : Nat), (k ≤ bs.length ∧ m = (bs.take k).flatten.length) ∧ mz = bs.length - k ∧ fz = (upd (upd (upd (upd (upd (upd f0 0 (.slice (some ⟨g, o, none⟩) bs.length c)) 1 (.slice none 0 0)) 5 (.int .i64 m)) 42 (.slice (some ⟨g, o, none⟩) bs.length c)) 43 (.int .i64 bs.length)) 44 (.int .i64 k)) ∧ lz = S ++ F) ?_ ?_
   · refine ⟨_, _, ⟨_, 0, 0, ⟨Nat.zero_le _, rfl⟩, rfl, (updS rfl (updS rfl (updS rfl (updS rfl (updS rfl (updS rfl rfl)))))), rfl⟩, Sub.any⟩
   ·
    rintro mz fz lz ⟨f0, k, m, ⟨hk, hm⟩, hmz, rfl, rfl⟩
    subst mz
    try simp only [List.cons_append, List.nil_append]
    refine T.seq ?_
    refine T.region ?_
    refine LW.q rfl (Qt.lss rfl rfl) ?_
    refine LW.done ?_
    refine T.seq ?_
    refine T.condP rfl (fun hlt => ?_) (fun hlt => ?_)
    ·
     obtain ⟨x, hx⟩ : ∃ x, bs[k]'(by omega) = x := ⟨_, rfl⟩
     have hft := flat_take bs k (by omega)
     rw [hx] at hft
     have hfl := flat_le bs (k + 1)
     rw [hft, List.length_append, ← hm] at hfl
     have rk := h3 k (by omega) (by omega)
     rw [hx] at rk
     obtain ⟨pk, ck, hpk⟩ := rk.form (m := x.length) (by simp)
     refine T.skip ?_
     refine T.seq ?_
     refine T.block ?_
     refine T.seq ?_
     refine T.region ?_
     refine LW.q rfl (Qt.index _ (e := 41) (sz := 1) (by kernel_rfl) rfl rfl rfl (by omega)) ?_
     refine LW.q rfl (Qt.loadW (v := .slice pk x.length ck) (by kernel_rfl) rfl (fun w ho => by rw [hcell k (by omega) w ho.drop, hpk])) ?_
     refine LW.q rfl (Qt.assign rfl) ?_
     refine LW.done ?_
     refine T.seq ?_
     refine T.seq ?_
     refine T.region ?_
     refine LW.q rfl (Qt.move rfl) ?_
     refine LW.q rfl (Qt.len (e := 5) (sz := 1) (by kernel_rfl) rfl) ?_
     refine LW.q rfl (Qt.move rfl) ?_
     refine LW.q rfl (Qt.sub rfl rfl (wr64 (by omega) (by omega))) ?_
     refine LW.q rfl (Qt.gtr rfl rfl) ?_
     refine LW.done ?_
     first | refine T.condF rfl ?_ | refine T.condPF rfl (by omega) ?_ | refine T.condBF rfl (by omega) ?_
     refine T.skip ?_
     refine T.region ?_
     refine LW.q rfl (Qt.move rfl) ?_
     refine LW.q rfl (Qt.move rfl) ?_
     refine LW.q rfl (Qt.len (e := 5) (sz := 1) (by kernel_rfl) rfl) ?_
     refine LW.q rfl (Qt.add rfl rfl (wr64 (by omega) (by omega))) ?_
     refine LW.q rfl (Qt.assign rfl) ?_
     refine LW.done ?_
     refine T.region ?_
     refine LW.q rfl (Qt.add rfl rfl (wr64 (by omega) (by omega))) ?_
     refine LW.q rfl (Qt.move rfl) ?_
     refine LW.done ?_
     refine ⟨_, ?_, _, ⟨_, k + 1, m + x.length, ⟨by omega, by rw [hft, List.length_append, hm]⟩, rfl, (updS rfl (updS rfl (updS rfl (updS rfl (updS rfl (updS rfl rfl)))))), rfl⟩, Sub.any⟩
     first | omega | (simp; omega)
    ·
     obtain rfl : k = bs.length := by omega
     obtain rfl : m = N := by rw [hm, List.take_length, hN]
     have hfl1 := flat_le bs 1
     have hft0 := flat_take bs 0 (by omega)
     simp only [List.take_zero, List.flatten_nil, List.nil_append, Nat.zero_add] at hft0
     rw [hft0] at hfl1
     by_cases hz : bs[0].length = 0
     ·
      refine T.exit ?_
      refine T.seq ?_
      refine T.region ?_
      refine LW.q rfl (Qt.move rfl) ?_
      refine LW.e rfl (Ef.makeNoZero m Tryd.func57 (by kernel_rfl) (by kernel_rfl) (by kernel_rfl) (ps := #[3]) (t := 41) (by kernel_rfl) Tryd.underlying41 rfl rfl (by omega) (by unfold maxLen; omega) ?_)
      intro g60 c60 xs60 hc60
      refine LW.own (fun w ho => ?_)
      have hxl : xs60.length = m := by have := (ho.row_owns).1; simpa using this
      clear ho
      refine LW.q rfl (Qt.move rfl) ?_
      refine LW.q rfl (Qt.move rfl) ?_
      refine LW.q rfl (Qt.slice3 m m (e := 5) (sz := 1) (by kernel_rfl) rfl rfl rfl rfl rfl (by omega) (by omega)) ?_
      refine LW.q rfl (Qt.assign rfl) ?_
      refine LW.done ?_
      refine T.seq ?_
      refine T.region ?_
      refine LW.q rfl (Qt.move rfl) ?_
      refine LW.q rfl (Qt.move rfl) ?_
      refine LW.q rfl (Qt.index 0 (e := 41) (sz := 1) (by kernel_rfl) rfl rfl rfl (by omega)) ?_
      refine LW.q rfl (Qt.loadW (v := .slice pa bs[0].length pc) (by kernel_rfl) rfl (fun w ho => by rw [hcell 0 (by omega) w ho.tl.drop, hp0])) ?_
      refine LW.e rfl (Ef.copy0 (e := 5) (by kernel_rfl) rfl rfl (by simp [hz]) ?_)
      try simp only [List.cons_append, List.nil_append]
      refine LW.q rfl (Qt.assign rfl) ?_
      refine LW.done ?_
      refine T.seq ?_
      refine T.seq ?_
      refine T.region ?_
      refine LW.q rfl (Qt.move rfl) ?_
      refine LW.q rfl (Qt.slice_sn1 1 (some ⟨g, o + 1 * 1, none⟩) (bs.length - 1) (c - 1) (e := 41) (sz := 1) (by kernel_rfl) rfl rfl rfl (by omega) (offA_some (by omega)) rfl rfl) ?_
      refine LW.q rfl (Qt.len (e := 41) (sz := 1) (by kernel_rfl) rfl) ?_
      refine LW.q rfl (Qt.move rfl) ?_
      refine LW.done ?_
      refine T.block ?_
      refine T.loop (fun mz fz lz => ∃ (f0 : Fr) (k bp : Nat) (C : List Value), (k + 1 ≤ bs.length ∧ bp = (bs.take (k + 1)).flatten.length ∧ C.length = m ∧ C.take bp = bytesV (bs.take (k + 1)).flatten) ∧ mz = bs.length - 1 - k ∧ fz = (upd (upd (upd (upd (upd (upd f0 1 (.slice none 0 0)) 8 (.slice (some ⟨g60, 0, none⟩) m m)) 9 (.int .i64 bp)) 70 (.slice (some ⟨g, o + 1 * 1, none⟩) (bs.length - 1) (c - 1))) 71 (.int .i64 (bs.length - 1 : Nat))) 72 (.int .i64 k)) ∧ lz = row (.slice (some ⟨g60, 0, none⟩) m c60) 5 1 m C :: (S ++ F)) ?_ ?_
      · refine ⟨_, _, ⟨_, 0, 0, xs60, ⟨by omega, by rw [hft0, hz], hxl, by rw [hft0, List.eq_nil_of_length_eq_zero hz]; rfl⟩, rfl, (updS rfl (updS rfl (updS rfl (updS rfl (updS rfl (updS rfl rfl)))))), rfl⟩, Sub.any⟩
      ·
       rintro mz fz lz ⟨f0, k, bp, C, ⟨hk, hbp, hC, hpre⟩, hmz, rfl, rfl⟩
       subst mz
       try simp only [List.cons_append, List.nil_append]
       have hbn := flat_le bs (k + 1)
       refine T.seq ?_
       refine T.region ?_
       refine LW.q rfl (Qt.lss rfl rfl) ?_
       refine LW.done ?_
       refine T.seq ?_
       refine T.condP rfl (fun hlt => ?_) (fun hlt => ?_)
       ·
        obtain ⟨x, hx⟩ : ∃ x, bs[k + 1]'(by omega) = x := ⟨_, rfl⟩
        have hft := flat_take bs (k + 1) (by omega)
        rw [hx] at hft
        have hfl := flat_le bs (k + 1 + 1)
        rw [hft, List.length_append, ← hbp] at hfl
        have rk := h3 (k + 1) (by omega) (by omega)
        rw [hx] at rk
        obtain ⟨pk, ck, hpk⟩ := rk.form (m := x.length) (by simp)
        rw [hpk] at rk
        refine T.skip ?_
        refine T.seq ?_
        refine T.block ?_
        refine T.seq ?_
        refine T.region ?_
        refine LW.q rfl (Qt.index _ (e := 41) (sz := 1) (by kernel_rfl) rfl rfl rfl (by omega)) ?_
        refine LW.q rfl (Qt.loadW (v := .slice pk x.length ck) (by kernel_rfl) rfl (fun w ho => by have := hcell (k + 1) (by omega) w ho.tl.drop; rw [show o + 1 * 1 + k * 1 = o + (k + 1) * 1 by omega, this, hpk])) ?_
        refine LW.q rfl (Qt.assign rfl) ?_
        refine LW.done ?_
        refine T.seq ?_
        refine T.region ?_
        refine LW.q rfl (Qt.move rfl) ?_
        refine LW.q rfl (Qt.move rfl) ?_
        refine LW.q rfl (Qt.move rfl) ?_
        refine LW.q rfl (Qt.slice_snn bp (e := 5) (sz := 1) (by kernel_rfl) rfl rfl rfl (by omega)) ?_
        refine LW.q rfl (Qt.move rfl) ?_
        refine LW.e rfl (Ef.copy0 (e := 5) (by kernel_rfl) rfl rfl (by simp) ?_)
        try simp only [List.cons_append, List.nil_append]
        refine LW.q rfl (Qt.add rfl rfl (wr64 (by omega) (by omega))) ?_
        refine LW.q rfl (Qt.assign rfl) ?_
        refine LW.done ?_
        refine T.region ?_
        refine LW.q rfl (Qt.move rfl) ?_
        refine LW.q rfl (Qt.move rfl) ?_
        refine LW.q rfl (Qt.move rfl) ?_
        refine LW.q rfl (Qt.slice_snn bp (e := 5) (sz := 1) (by kernel_rfl) rfl rfl (by omega) (by omega)) ?_
        refine LW.q rfl (Qt.move rfl) ?_
        by_cases hx0 : x.length = 0
        ·
         refine LW.e rfl (Ef.copy0 (e := 5) (by kernel_rfl) rfl rfl (by simp [hx0]) ?_)
         try simp only [List.cons_append, List.nil_append]
         refine LW.q rfl (Qt.add rfl rfl (wr64 (by omega) (by omega))) ?_
         refine LW.q rfl (Qt.assign rfl) ?_
         refine LW.done ?_
         refine T.region ?_
         refine LW.q rfl (Qt.add rfl rfl (wr64 (by omega) (by omega))) ?_
         refine LW.q rfl (Qt.move rfl) ?_
         refine LW.done ?_
         obtain rfl : x = [] := List.eq_nil_of_length_eq_zero hx0
         refine ⟨_, ?_, _, ⟨_, k + 1, bp, C, ⟨by omega, by rw [hft, hbp]; simp, hC, by rw [hft, hpre]; simp⟩, rfl, (updS rfl (updS rfl (updS rfl (updS rfl (updS rfl (updS rfl rfl)))))), rfl⟩, Sub.any⟩
         first | omega | (simp; omega)
        ·
         rw [offA_some (c := m) (lo := bp) (by omega)]
         refine LW.e rfl (Ef.copy (e := 5) (C := C) (cs := bytesV x) (src := bytesV x) (by kernel_rfl) rfl rfl (rk.mono (fun w ho => ho.tl.drop)) x.length (Nat.min_eq_left (by omega)).symm (by omega) (by rw [List.take_of_length_le (by simp)]) (by simp) one_bytesV (by omega) ?_)
         try simp only [List.cons_append, List.nil_append]
         simp only [Nat.zero_add, Nat.mul_one]
         refine LW.q rfl (Qt.add rfl rfl (wr64 (by omega) (by omega))) ?_
         refine LW.q rfl (Qt.assign rfl) ?_
         refine LW.done ?_
         refine T.region ?_
         refine LW.q rfl (Qt.add rfl rfl (wr64 (by omega) (by omega))) ?_
         refine LW.q rfl (Qt.move rfl) ?_
         refine LW.done ?_
         refine ⟨_, ?_, _, ⟨_, k + 1, bp + x.length, splice C bp (bytesV x), ⟨by omega, by rw [hft, List.length_append, hbp], by rw [length_splice _ _ _ (by simp; omega)]; exact hC, by have := splice_take C bp (bytesV x) (by simp; omega); rw [length_bytesV] at this; rw [this, hft, hpre, bytesV_append]⟩, rfl, (updS rfl (updS rfl (updS rfl (updS rfl (updS rfl (updS rfl rfl)))))), rfl⟩, Sub.any⟩
         first | omega | (simp; omega)
       ·
        have hke : k + 1 = bs.length := by omega
        rw [hke, List.take_length] at hbp hpre
        obtain rfl : C = bytesV bs.flatten := by rw [← hpre, List.take_of_length_le (by omega)]
        refine T.exit ?_
        refine T.seq ?_
        refine T.region ?_
        refine LW.q rfl (Qt.move rfl) ?_
        refine LW.q rfl (Qt.assign rfl) ?_
        refine LW.done ?_
        refine T.ret ?_
        exact ⟨.inl rfl, _, _, res [_] rfl ⟨rvT rfl, trivial⟩, ⟨some ⟨g60, 0, none⟩, c60, m, rfl, fun _ => ⟨_, rfl⟩, rfl⟩, Sub.any⟩
     ·
      refine T.exit ?_
      refine T.seq ?_
      refine T.region ?_
      refine LW.q rfl (Qt.move rfl) ?_
      refine LW.e rfl (Ef.makeNoZero m Tryd.func57 (by kernel_rfl) (by kernel_rfl) (by kernel_rfl) (ps := #[3]) (t := 41) (by kernel_rfl) Tryd.underlying41 rfl rfl (by omega) (by unfold maxLen; omega) ?_)
      intro g60 c60 xs60 hc60
      refine LW.own (fun w ho => ?_)
      have hxl : xs60.length = m := by have := (ho.row_owns).1; simpa using this
      clear ho
      refine LW.q rfl (Qt.move rfl) ?_
      refine LW.q rfl (Qt.move rfl) ?_
      refine LW.q rfl (Qt.slice3 m m (e := 5) (sz := 1) (by kernel_rfl) rfl rfl rfl rfl rfl (by omega) (by omega)) ?_
      refine LW.q rfl (Qt.assign rfl) ?_
      refine LW.done ?_
      refine T.seq ?_
      refine T.region ?_
      refine LW.q rfl (Qt.move rfl) ?_
      refine LW.q rfl (Qt.move rfl) ?_
      refine LW.q rfl (Qt.index 0 (e := 41) (sz := 1) (by kernel_rfl) rfl rfl rfl (by omega)) ?_
      refine LW.q rfl (Qt.loadW (v := .slice pa bs[0].length pc) (by kernel_rfl) rfl (fun w ho => by rw [hcell 0 (by omega) w ho.tl.drop, hp0])) ?_
      refine LW.e rfl (Ef.copy (e := 5) (C := xs60) (cs := bytesV bs[0]) (src := bytesV bs[0]) (by kernel_rfl) rfl rfl (r0.mono (fun w ho => ho.tl.drop)) bs[0].length (Nat.min_eq_left (by omega)).symm (by omega) (by rw [List.take_of_length_le (by simp)]) (by simp) one_bytesV (by omega) ?_)
      try simp only [List.cons_append, List.nil_append]
      refine LW.q rfl (Qt.assign rfl) ?_
      refine LW.done ?_
      refine T.seq ?_
      refine T.seq ?_
      refine T.region ?_
      refine LW.q rfl (Qt.move rfl) ?_
      refine LW.q rfl (Qt.slice_sn1 1 (some ⟨g, o + 1 * 1, none⟩) (bs.length - 1) (c - 1) (e := 41) (sz := 1) (by kernel_rfl) rfl rfl rfl (by omega) (offA_some (by omega)) rfl rfl) ?_
      refine LW.q rfl (Qt.len (e := 41) (sz := 1) (by kernel_rfl) rfl) ?_
      refine LW.q rfl (Qt.move rfl) ?_
      refine LW.done ?_
      refine T.block ?_
      refine T.loop (fun mz fz lz => ∃ (f0 : Fr) (k bp : Nat) (C : List Value), (k + 1 ≤ bs.length ∧ bp = (bs.take (k + 1)).flatten.length ∧ C.length = m ∧ C.take bp = bytesV (bs.take (k + 1)).flatten) ∧ mz = bs.length - 1 - k ∧ fz = (upd (upd (upd (upd (upd (upd f0 1 (.slice none 0 0)) 8 (.slice (some ⟨g60, 0, none⟩) m m)) 9 (.int .i64 bp)) 70 (.slice (some ⟨g, o + 1 * 1, none⟩) (bs.length - 1) (c - 1))) 71 (.int .i64 (bs.length - 1 : Nat))) 72 (.int .i64 k)) ∧ lz = row (.slice (some ⟨g60, 0, none⟩) m c60) 5 1 m C :: (S ++ F)) ?_ ?_
      · refine ⟨_, _, ⟨_, 0, bs[0].length, splice xs60 0 (bytesV bs[0]), ⟨by omega, by rw [hft0], by rw [length_splice _ _ _ (by simp; omega)]; exact hxl, by have := splice_take xs60 0 (bytesV bs[0]) (by simp; omega); rw [length_bytesV, Nat.zero_add] at this; rw [this, hft0]; simp⟩, rfl, (updS rfl (updS rfl (updS rfl (updS rfl (updS rfl (updS rfl rfl)))))), rfl⟩, Sub.any⟩
      ·
       rintro mz fz lz ⟨f0, k, bp, C, ⟨hk, hbp, hC, hpre⟩, hmz, rfl, rfl⟩
       subst mz
       try simp only [List.cons_append, List.nil_append]
       have hbn := flat_le bs (k + 1)
       refine T.seq ?_
       refine T.region ?_
       refine LW.q rfl (Qt.lss rfl rfl) ?_
       refine LW.done ?_
       refine T.seq ?_
       refine T.condP rfl (fun hlt => ?_) (fun hlt => ?_)
       ·
        obtain ⟨x, hx⟩ : ∃ x, bs[k + 1]'(by omega) = x := ⟨_, rfl⟩
        have hft := flat_take bs (k + 1) (by omega)
        rw [hx] at hft
        have hfl := flat_le bs (k + 1 + 1)
        rw [hft, List.length_append, ← hbp] at hfl
        have rk := h3 (k + 1) (by omega) (by omega)
        rw [hx] at rk
        obtain ⟨pk, ck, hpk⟩ := rk.form (m := x.length) (by simp)
        rw [hpk] at rk
        refine T.skip ?_
        refine T.seq ?_
        refine T.block ?_
        refine T.seq ?_
        refine T.region ?_
        refine LW.q rfl (Qt.index _ (e := 41) (sz := 1) (by kernel_rfl) rfl rfl rfl (by omega)) ?_
        refine LW.q rfl (Qt.loadW (v := .slice pk x.length ck) (by kernel_rfl) rfl (fun w ho => by have := hcell (k + 1) (by omega) w ho.tl.drop; rw [show o + 1 * 1 + k * 1 = o + (k + 1) * 1 by omega, this, hpk])) ?_
        refine LW.q rfl (Qt.assign rfl) ?_
        refine LW.done ?_
        refine T.seq ?_
        refine T.region ?_
        refine LW.q rfl (Qt.move rfl) ?_
        refine LW.q rfl (Qt.move rfl) ?_
        refine LW.q rfl (Qt.move rfl) ?_
        refine LW.q rfl (Qt.slice_snn bp (e := 5) (sz := 1) (by kernel_rfl) rfl rfl rfl (by omega)) ?_
        refine LW.q rfl (Qt.move rfl) ?_
        refine LW.e rfl (Ef.copy0 (e := 5) (by kernel_rfl) rfl rfl (by simp) ?_)
        try simp only [List.cons_append, List.nil_append]
        refine LW.q rfl (Qt.add rfl rfl (wr64 (by omega) (by omega))) ?_
        refine LW.q rfl (Qt.assign rfl) ?_
        refine LW.done ?_
        refine T.region ?_
        refine LW.q rfl (Qt.move rfl) ?_
        refine LW.q rfl (Qt.move rfl) ?_
        refine LW.q rfl (Qt.move rfl) ?_
        refine LW.q rfl (Qt.slice_snn bp (e := 5) (sz := 1) (by kernel_rfl) rfl rfl (by omega) (by omega)) ?_
        refine LW.q rfl (Qt.move rfl) ?_
        by_cases hx0 : x.length = 0
        ·
         refine LW.e rfl (Ef.copy0 (e := 5) (by kernel_rfl) rfl rfl (by simp [hx0]) ?_)
         try simp only [List.cons_append, List.nil_append]
         refine LW.q rfl (Qt.add rfl rfl (wr64 (by omega) (by omega))) ?_
         refine LW.q rfl (Qt.assign rfl) ?_
         refine LW.done ?_
         refine T.region ?_
         refine LW.q rfl (Qt.add rfl rfl (wr64 (by omega) (by omega))) ?_
         refine LW.q rfl (Qt.move rfl) ?_
         refine LW.done ?_
         obtain rfl : x = [] := List.eq_nil_of_length_eq_zero hx0
         refine ⟨_, ?_, _, ⟨_, k + 1, bp, C, ⟨by omega, by rw [hft, hbp]; simp, hC, by rw [hft, hpre]; simp⟩, rfl, (updS rfl (updS rfl (updS rfl (updS rfl (updS rfl (updS rfl rfl)))))), rfl⟩, Sub.any⟩
         first | omega | (simp; omega)
        ·
         rw [offA_some (c := m) (lo := bp) (by omega)]
         refine LW.e rfl (Ef.copy (e := 5) (C := C) (cs := bytesV x) (src := bytesV x) (by kernel_rfl) rfl rfl (rk.mono (fun w ho => ho.tl.drop)) x.length (Nat.min_eq_left (by omega)).symm (by omega) (by rw [List.take_of_length_le (by simp)]) (by simp) one_bytesV (by omega) ?_)
         try simp only [List.cons_append, List.nil_append]
         simp only [Nat.zero_add, Nat.mul_one]
         refine LW.q rfl (Qt.add rfl rfl (wr64 (by omega) (by omega))) ?_
         refine LW.q rfl (Qt.assign rfl) ?_
         refine LW.done ?_
         refine T.region ?_
         refine LW.q rfl (Qt.add rfl rfl (wr64 (by omega) (by omega))) ?_
         refine LW.q rfl (Qt.move rfl) ?_
         refine LW.done ?_
         refine ⟨_, ?_, _, ⟨_, k + 1, bp + x.length, splice C bp (bytesV x), ⟨by omega, by rw [hft, List.length_append, hbp], by rw [length_splice _ _ _ (by simp; omega)]; exact hC, by have := splice_take C bp (bytesV x) (by simp; omega); rw [length_bytesV] at this; rw [this, hft, hpre, bytesV_append]⟩, rfl, (updS rfl (updS rfl (updS rfl (updS rfl (updS rfl (updS rfl rfl)))))), rfl⟩, Sub.any⟩
         first | omega | (simp; omega)
       ·
        have hke : k + 1 = bs.length := by omega
        rw [hke, List.take_length] at hbp hpre
        obtain rfl : C = bytesV bs.flatten := by rw [← hpre, List.take_of_length_le (by omega)]
        refine T.exit ?_
        refine T.seq ?_
        refine T.region ?_
        refine LW.q rfl (Qt.move rfl) ?_
        refine LW.q rfl (Qt.assign rfl) ?_
        refine LW.done ?_
        refine T.ret ?_
        exact ⟨.inl rfl, _, _, res [_] rfl ⟨rvT rfl, trivial⟩, ⟨some ⟨g60, 0, none⟩, c60, m, rfl, fun _ => ⟨_, rfl⟩, rfl⟩, Sub.any⟩
end Go.Proofs.YtegohgaccmkigaaDoor

/- The package wal: what a log is in memory; seal, size, End, Durable, Left. Conditions: sizes; that what is handed in can be read. -/
set_option linter.unusedSimpArgs false
set_option linter.unusedVariables false
namespace Go.Proofs.YtegohgaccmkigaaDoor
open Go.RowKit

/-! what lies behind assertions that are not known -/
instance (priority := low) (g : Nat) (S l : List Assn) (C : List Value) [k : CellsAt g l C] : CellsAt g (S ++ l) C := ⟨fun _ H => by
  obtain ⟨_, _, _, _, a, _, e⟩ := Has.split H
  obtain ⟨X, t, fr, hx⟩ := k.find _ e
  exact ⟨X, t, fr, a.p _ _ hx⟩⟩
instance (priority := low) (v : Value) (S l r : List Assn) (e sz n : Nat) (xs : List Value) [k : TakeR v l e sz n xs r] : TakeR v (S ++ l) e sz n xs (S ++ r) := ⟨fun _ H => Has.over (Has.app_imp k.take H)⟩
instance (priority := low) (g : Nat) (S l r : List Assn) (C D : List Value) [k : StoreAt g l C D r] : StoreAt g (S ++ l) C D (S ++ r) := ⟨fun hd h H => by
  obtain ⟨h1, h2, d, a, b, e1, e2⟩ := Has.split H
  obtain ⟨X, t, m, k1, k2⟩ := k.cut hd h2 e2
  exact ⟨X, t, S ++ m, Has.over (Has.join d a b e1 k1), fun h' H' => Has.app_imp k2 (Has.under H')⟩⟩
/-- A log: where it lies, its text, the last record's sum, how much is durable. -/
structure Wl where
  first : Nat
  count : Nat
  st : List UInt8
  sum : UInt32
  dur : Nat
abbrev wlB (g b : Nat) (W : Wl) (p : Option Addr) (c : Nat) : Assn := blk g [.pointer (some ⟨b, 0, none⟩), .int .i64 W.first, .int .i64 W.count, .slice p W.st.length c, .int .u32 W.sum.toNat, .int .i64 W.dur] 107
/-- The log at block g, over the disk at block b. -/
def wlA (g b : Nat) (W : Wl) : Assn := fun h => ∃ p c, Has [wlB g b W p c, rB (.slice p W.st.length c) W.st.length W.st] h

section
variable {P : Program} {B : Base} {n : Nat} {l r F : List Assn} {f : Fr} {Φ : Post} {c : Code} {w : World}
theorem Own.openWl {g b : Nat} {W : Wl} (H : Own B w (wlA g b W :: l)) : ∃ p c, Own B w (wlB g b W p c :: rB (.slice p W.st.length c) W.st.length W.st :: l) := by
  obtain ⟨h, hd, hl, h1, h2, d, a1, a2, ⟨p, c, e⟩, H2⟩ := H.has
  exact ⟨p, c, H.os, H.tape, H.output, H.ro, h, hd, hl, Has.join d a1 a2 e H2⟩
theorem T.openWl (g b : Nat) (W : Wl) [k : TakeA (wlA g b W) l r] (h : ∀ p cc, (0 < W.st.length → ∃ g, p = some ⟨g, 0, none⟩) → W.st.length ≤ cc → T P B n c Φ f (wlB g b W p cc :: rB (.slice p W.st.length cc) W.st.length W.st :: r)) : T P B n c Φ f l := ⟨fun Q w hf ho => by
  obtain ⟨p, cc, e⟩ := (ho.take (k := k)).openWl
  exact (h p cc (e.tl.slice_at (p := p) (m := W.st.length) (c := cc)).2.1 (e.tl.cap_at (p := p) (m := W.st.length) (c := cc))).run Q w hf e⟩
end

theorem PartsV.blk3 {B : Base} {L : List Assn} {g : Nat} {v1 v2 v3 : Value} {b1 b2 b3 : List UInt8} (h1 : RdV B L v1 (bytesV b1)) (h2 : RdV B L v2 (bytesV b2)) (h3 : RdV B L v3 (bytesV b3)) [k : Rd B g L [v1, v2, v3]] : PartsV B L (.slice (some ⟨g, 0, none⟩) 3 3) [b1, b2, b3] := by
  refine ⟨[v1, v2, v3], ⟨_, 3, rfl, .inr ⟨g, 0, rfl, fun w ho => ho.range (g := g) (C := [v1, v2, v3]) (fun j u hj => by rw [Nat.zero_add]; exact hj)⟩⟩, rfl, fun i i1 i2 => ?_⟩
  match i, i1 with
  | 0, _ => exact h1
  | 1, _ => exact h2
  | 2, _ => exact h3
theorem wru64_u32 (x : UInt32) : IntKind.u64.wrap (x.toNat : Int) = (x.toUInt64.toNat : Int) := by
  rw [wru64 (by omega) (by have := x.toNat_lt; omega), UInt32.toNat_toUInt64]
/-- The sum of a record, by the one ahead of it. -/
def sealW (last : UInt32) (at_ : Int) (data : List UInt8) : UInt32 := crc (be last.toUInt64 4 ++ be (UInt64.ofInt at_) 8 ++ data)

set_option maxHeartbeats 1000000 in
set_option maxRecDepth 100000 in
theorem Wl.shut (B : Base) (S : List Assn) (last : UInt32) (at_ : Int) (a : Option Addr) (m c : Nat) (data : List UInt8) (hv : RdV B S (.slice a m c) (bytesV data)) (hm : data.length = m) (hl : m < 2 ^ 40) : Fn Tryd.prog B 47 #[.int .u32 last.toNat, .int .i64 at_, .slice a m c] S (fun u l => u = .int .u32 (sealW last at_ data).toNat ∧ l = S) := by
  refine Fn.enter3 16 Tryd.func47 rfl rfl (Nat.le_of_ble_eq_true rfl) (fun F => ?_)
  try simp only [List.cons_append, List.nil_append]
  refine T.seq ?_
  refine T.region ?_
  refine LW.q rfl (Qt.assign rfl) ?_
  refine LW.done ?_
  refine T.seq ?_
  refine T.region ?_
  refine LW.q rfl (Qt.move rfl) ?_
  refine LW.q rfl (Qt.convI (by kernel_rfl) (by kernel_rfl) rfl (wru64_u32 last)) ?_
  refine LW.e rfl (Ef.call (Cd.put B [] (.slice none 0 0) [] 0 rfl last.toUInt64 4 4 rfl (by omega) (RdV.nil [] 0) (by omega)) Tryd.func48 rfl rfl rfl ?_)
  rintro _ _ ⟨p1, c1, rfl, rfl⟩
  try simp only [List.cons_append, List.nil_append]
  simp only [Nat.zero_add, List.nil_append]
  refine LW.q rfl (Qt.move rfl) ?_
  refine LW.q rfl (Qt.convI (by kernel_rfl) (by kernel_rfl) rfl (wru64_i64 _)) ?_
  refine LW.e rfl (Ef.call (Cd.put B [] (.slice none 0 0) [] 0 rfl (UInt64.ofInt at_) 8 8 rfl (by omega) (RdV.nil [] 0) (by omega)) Tryd.func48 rfl rfl rfl ?_)
  rintro _ _ ⟨p2, c2, rfl, rfl⟩
  try simp only [List.cons_append, List.nil_append]
  simp only [Nat.zero_add, List.nil_append]
  refine LW.own (fun w ho => ?_)
  have hp1 := (ho.slice_at (p := p1) (m := 4) (c := c1)).2.1
  have hp2 := (ho.slice_at (p := p2) (m := 8) (c := c2)).2.1
  clear ho
  refine LW.q rfl (Qt.move rfl) ?_
  refine LW.e rfl (Ef.lit [_, _, _] (e := 41) (by kernel_rfl) (by kernel_rfl) rfl (by simp [Value.cells]) rfl (by omega) (by omega) ?_)
  intro g14
  refine LW.e rfl (Ef.callL (Cd.sum B _ _ [be last.toUInt64 4, be (UInt64.ofInt at_) 8, data] (PartsV.blk3 ((RdV.rB (length_be _ _) hp1).mono (fun w ho => ho.map Sub.any)) ((RdV.rB (length_be _ _) hp2).mono (fun w ho => ho.map Sub.any)) (hv.mono (fun w ho => ho.map Sub.any))) (by simp) (by intro b hb; simp at hb; rcases hb with rfl | rfl | rfl <;> simp [length_be]; omega)) Tryd.func50 rfl rfl rfl ?_)
  rintro _ _ ⟨rfl, rfl⟩
  try simp only [List.cons_append, List.nil_append]
  refine LW.q rfl (Qt.assign rfl) ?_
  refine LW.done ?_
  refine T.ret ?_
  exact ⟨.inl rfl, _, _, res [_] rfl ⟨rvT rfl, trivial⟩, ⟨by simp [sealW, outV], rfl⟩, Sub.any⟩

set_option maxRecDepth 100000 in
theorem Wl.size (B : Base) (v : Value) (first : Int) (count : Nat) (h : count ≤ 4096) : Fn Tryd.prog B 46 #[.agg #[v, .int .i64 first, .int .i64 count]] [] (fun u l => u = .int .i64 ((count : Int) * 256) ∧ l = []) := by
  refine Fn.enter1 6 Tryd.func46 rfl rfl (Nat.le_of_ble_eq_true rfl) (fun F => ?_)
  try simp only [List.cons_append, List.nil_append]
  refine T.seq ?_
  refine T.region ?_
  refine LW.e rfl (Ef.box [_, _, _] rfl rfl ?_)
  intro g1
  refine LW.q rfl (Qt.assign rfl) ?_
  refine LW.done ?_
  refine T.seq ?_
  refine T.region ?_
  refine LW.q rfl (Qt.fieldAddr (off := 2) (by kernel_rfl) rfl) ?_
  first | refine LW.q rfl (Qt.load (by kernel_rfl) rfl rfl) ?_ | refine LW.q rfl (Qt.load (by kernel_rfl) rfl (map_at _ _ _ (by omega))) ?_ | refine LW.q rfl (Qt.load (by kernel_rfl) rfl (flat_cell0 _ _ _ (by intros; rfl) _ (by omega) (by rfl))) ?_ | refine LW.q rfl (Qt.load (by kernel_rfl) rfl (flat_cell _ _ _ (by intros; rfl) _ _ (by omega) (by rfl))) ?_ | refine LW.q rfl (Qt.load (by kernel_rfl) rfl (bytes_at _ _ (by omega))) ?_
  refine LW.q rfl (Qt.mul rfl rfl (wr64 (by omega) (by omega))) ?_
  refine LW.q rfl (Qt.assign rfl) ?_
  refine LW.done ?_
  refine T.ret ?_
  exact ⟨.inl rfl, _, _, res [_] rfl ⟨rvT rfl, trivial⟩, ⟨rfl, rfl⟩, Sub.any⟩
end Go.Proofs.YtegohgaccmkigaaDoor

/- The package wal: lay. Conditions: sizes. -/
set_option linter.unusedSimpArgs false
set_option linter.unusedVariables false
namespace Go.Proofs.YtegohgaccmkigaaDoor
open Go.RowKit

/-- A sector as it is by the text. -/
def secW (st : List UInt8) (n : Nat) : List UInt8 := (st.drop (n * 256)).take 256 ++ List.replicate (256 - ((st.drop (n * 256)).take 256).length) 0
theorem length_secW (st : List UInt8) (n : Nat) : (secW st n).length = 256 := by simp [secW]; omega
theorem secW_none {st : List UInt8} {n : Nat} (h : st.length ≤ n * 256) : secW st n = List.replicate 256 0 := by
  unfold secW; rw [List.drop_of_length_le h]; rfl
theorem splice_sec (st : List UInt8) (n : Nat) : splice (bytesV (List.replicate 256 0)) 0 ((bytesV (st.drop (n * 256))).take (Nat.min (st.length - n * 256) 256)) = bytesV (secW st n) := by
  have e : (bytesV (st.drop (n * 256))).take (Nat.min (st.length - n * 256) 256) = bytesV ((st.drop (n * 256)).take 256) := by
    rw [show Nat.min (st.length - n * 256) 256 = Min.min (st.drop (n * 256)).length 256 by rw [List.length_drop]]
    unfold bytesV
    rw [← List.map_take, Nat.min_comm, ← List.take_take, List.take_length]
  rw [e]
  unfold splice secW
  rw [Nat.zero_add, List.take_zero, List.nil_append, length_bytesV, bytesV_append]
  congr 1
  unfold bytesV
  rw [← List.map_drop, List.drop_replicate]
theorem row_bytes {p : Option Addr} {g m c : Nat} {b : List UInt8} (h : Piece) (k : rB (.slice (some ⟨g, 0, none⟩) m c) m b h) : ∃ C t fr, h g = some (.cells C t fr) ∧ ∀ j v, (bytesV b)[j]? = some v → C[0 + j]? = some v := by
  obtain ⟨hl, ⟨e, _⟩ | ⟨g', cap, cur, e1, e2, _, _, _, e3⟩⟩ := k
  · cases e
  · injection e1 with e1 _ _
    injection e1 with e1
    injection e1 with e1
    subst e1
    refine ⟨cur, _, _, e2, fun j v hv => ?_⟩
    rw [← e3, List.getElem?_take] at hv
    split at hv
    · rw [Nat.zero_add]; simpa using hv
    · cases hv

set_option maxHeartbeats 2000000 in
set_option maxRecDepth 100000 in
theorem Wl.lay (B : Base) (g b : Nat) (W : Wl) (p : Option Addr) (c : Nat) (hp : 0 < W.st.length → ∃ g, p = some ⟨g, 0, none⟩) (hc : W.st.length ≤ c) (D : DD) (n : Nat) (hn : n < W.count) (hD : W.first + W.count ≤ D.secs.length) (hs : D.secs.length ≤ 4096) (hst : W.st.length < 2 ^ 40) (hroom : D.pend.length < 2 ^ 32) : Fn Tryd.prog B 65 #[.pointer (some ⟨g, 0, none⟩), .int .i64 n] [wlB g b W p c, rB (.slice p W.st.length c) W.st.length W.st, dskA b D] (fun u l => u = .tuple #[] ∧ l = [wlB g b W p c, rB (.slice p W.st.length c) W.st.length W.st, dskA b (D.write (W.first + n) (secW W.st n))]) := by
 refine Fn.enter2 38 Tryd.func65 rfl rfl (Nat.le_of_ble_eq_true rfl) (fun F => ?_)
 try simp only [List.cons_append, List.nil_append]
 refine T.seq ?_
 refine T.region ?_
 refine LW.e rfl (Ef.make 256 (.int .u8 0) 1 Cd.elemB (by kernel_rfl) rfl rfl rfl rfl (by omega) (by unfold maxLen; omega) ?_)
 rintro g6
 try simp only [List.cons_append, List.nil_append]
 rw [made_bytes]
 refine LW.q rfl (Qt.assign rfl) ?_
 refine LW.done ?_
 refine T.seq ?_
 refine T.seq ?_
 refine T.region ?_
 refine LW.q rfl (Qt.move rfl) ?_
 refine LW.q rfl (Qt.mul rfl rfl (wr64 (by omega) (by omega))) ?_
 refine LW.q rfl (Qt.assign rfl) ?_
 refine LW.done ?_
 refine T.seq ?_
 refine T.region ?_
 refine LW.q rfl (Qt.move rfl) ?_
 refine LW.q rfl (Qt.move rfl) ?_
 refine LW.q rfl (Qt.nilCheck rfl) ?_
 refine LW.q rfl (Qt.fieldAddr (off := 3) (by kernel_rfl) rfl) ?_
 first | refine LW.q rfl (Qt.load (by kernel_rfl) rfl rfl) ?_ | refine LW.q rfl (Qt.load (by kernel_rfl) rfl (map_at _ _ _ (by omega))) ?_ | refine LW.q rfl (Qt.load (by kernel_rfl) rfl (flat_cell0 _ _ _ (by intros; rfl) _ (by omega) (by rfl))) ?_ | refine LW.q rfl (Qt.load (by kernel_rfl) rfl (flat_cell _ _ _ (by intros; rfl) _ _ (by omega) (by rfl))) ?_ | refine LW.q rfl (Qt.load (by kernel_rfl) rfl (bytes_at _ _ (by omega))) ?_
 refine LW.q rfl (Qt.len (e := 5) (sz := 1) (by kernel_rfl) rfl) ?_
 refine LW.q rfl (Qt.lss rfl rfl) ?_
 refine LW.done ?_
 refine T.condP rfl (fun hlt => ?_) (fun hlt => ?_)
 ·
  obtain ⟨gs, rfl⟩ := hp (by omega)
  have hsrc : RdV B [rB (.slice (some ⟨gs, 0, none⟩) W.st.length c) W.st.length W.st] (.slice (some ⟨gs, 0 + n * 256, none⟩) (W.st.length - n * 256) (c - n * 256)) (bytesV (W.st.drop (n * 256))) := by have := (RdV.rB (B := B) (p := some ⟨gs, 0, none⟩) (c := c) (b := W.st) rfl (fun _ => ⟨_, rfl⟩)).sub (n * 256) W.st.length (c - n * 256) (by omega) (by simp) (some ⟨gs, 0 + n * 256, none⟩) (fun _ b' o' e => by cases e; rfl); rwa [List.take_of_length_le (by simp), show (bytesV W.st).drop (n * 256) = bytesV (W.st.drop (n * 256)) by simp [bytesV]] at this
  refine T.region ?_
  refine LW.q rfl (Qt.move rfl) ?_
  refine LW.q rfl (Qt.move rfl) ?_
  refine LW.q rfl (Qt.nilCheck rfl) ?_
  refine LW.q rfl (Qt.fieldAddr (off := 3) (by kernel_rfl) rfl) ?_
  first | refine LW.q rfl (Qt.load (by kernel_rfl) rfl rfl) ?_ | refine LW.q rfl (Qt.load (by kernel_rfl) rfl (map_at _ _ _ (by omega))) ?_ | refine LW.q rfl (Qt.load (by kernel_rfl) rfl (flat_cell0 _ _ _ (by intros; rfl) _ (by omega) (by rfl))) ?_ | refine LW.q rfl (Qt.load (by kernel_rfl) rfl (flat_cell _ _ _ (by intros; rfl) _ _ (by omega) (by rfl))) ?_ | refine LW.q rfl (Qt.load (by kernel_rfl) rfl (bytes_at _ _ (by omega))) ?_
  refine LW.q rfl (Qt.move rfl) ?_
  refine LW.q rfl (Qt.slice_sn1 (n * 256) (some ⟨gs, 0 + n * 256, none⟩) (W.st.length - n * 256) (c - n * 256) (e := 5) (sz := 1) (by kernel_rfl) rfl rfl (by omega) (by omega) (by rw [offA_some (by omega), Nat.mul_one]) rfl rfl) ?_
  refine LW.e rfl (Ef.copy (e := 5) (C := bytesV (List.replicate 256 0)) (cs := (bytesV (W.st.drop (n * 256))).take (Nat.min (W.st.length - n * 256) 256)) (src := bytesV (W.st.drop (n * 256))) (by kernel_rfl) rfl rfl (hsrc.mono (fun w ho => ho.map Sub.any)) (Nat.min (W.st.length - n * 256) 256) rfl (by show 0 < Min.min _ _; omega) rfl (by simp) one_bytesV (by rw [length_bytesV, List.length_replicate]; show 0 + Min.min _ _ ≤ _; omega) ?_)
  try simp only [List.cons_append, List.nil_append]
  rw [splice_sec]
  refine LW.done ?_
  refine T.drawBl 14 none (by kernel_rfl) (Nat.le_of_ble_eq_true rfl) (by kernel_rfl) ?_
  refine RW.q 0 rfl rfl (by kernel_rfl) Sub.any (Qt.move rfl) ?_
  refine RW.q 1 rfl rfl (by kernel_rfl) Sub.any (Qt.nilCheck rfl) ?_
  refine RW.q 2 rfl rfl (by kernel_rfl) Sub.any (Qt.fieldAddr0 (by kernel_rfl) rfl) ?_
  refine RW.q 3 rfl rfl (by kernel_rfl) Sub.any (Qt.fieldAddr0 (by kernel_rfl) rfl) ?_
  first | refine RW.q 4 rfl rfl (by kernel_rfl) Sub.any (Qt.load (by kernel_rfl) rfl rfl) ?_ | refine RW.q 4 rfl rfl (by kernel_rfl) Sub.any (Qt.load (by kernel_rfl) rfl (map_at _ _ _ (by omega))) ?_ | refine RW.q 4 rfl rfl (by kernel_rfl) Sub.any (Qt.load (by kernel_rfl) rfl (flat_cell0 _ _ _ (by intros; rfl) _ (by omega) (by rfl))) ?_ | refine RW.q 4 rfl rfl (by kernel_rfl) Sub.any (Qt.load (by kernel_rfl) rfl (flat_cell _ _ _ (by intros; rfl) _ _ (by omega) (by rfl))) ?_ | refine RW.q 4 rfl rfl (by kernel_rfl) Sub.any (Qt.load (by kernel_rfl) rfl (bytes_at _ _ (by omega))) ?_
  refine RW.q 5 rfl rfl (by kernel_rfl) Sub.any (Qt.move rfl) ?_
  refine RW.q 6 rfl rfl (by kernel_rfl) Sub.any (Qt.nilCheck rfl) ?_
  refine RW.q 7 rfl rfl (by kernel_rfl) Sub.any (Qt.fieldAddr0 (by kernel_rfl) rfl) ?_
  refine RW.q 8 rfl rfl (by kernel_rfl) Sub.any (Qt.fieldAddr (off := 1) (by kernel_rfl) rfl) ?_
  first | refine RW.q 9 rfl rfl (by kernel_rfl) Sub.any (Qt.load (by kernel_rfl) rfl rfl) ?_ | refine RW.q 9 rfl rfl (by kernel_rfl) Sub.any (Qt.load (by kernel_rfl) rfl (map_at _ _ _ (by omega))) ?_ | refine RW.q 9 rfl rfl (by kernel_rfl) Sub.any (Qt.load (by kernel_rfl) rfl (flat_cell0 _ _ _ (by intros; rfl) _ (by omega) (by rfl))) ?_ | refine RW.q 9 rfl rfl (by kernel_rfl) Sub.any (Qt.load (by kernel_rfl) rfl (flat_cell _ _ _ (by intros; rfl) _ _ (by omega) (by rfl))) ?_ | refine RW.q 9 rfl rfl (by kernel_rfl) Sub.any (Qt.load (by kernel_rfl) rfl (bytes_at _ _ (by omega))) ?_
  refine RW.q 10 rfl rfl (by kernel_rfl) Sub.any (Qt.move rfl) ?_
  refine RW.q 11 rfl rfl (by kernel_rfl) Sub.any (Qt.add rfl rfl (wr64 (by omega) (by omega))) ?_
  refine RW.q 12 rfl rfl (by kernel_rfl) Sub.any (Qt.move rfl) ?_
  refine RW.one 13 (by kernel_rfl) ?_
  refine RO.eS rfl rfl (Ef.call (Dk.writeF B b D (rB (.slice (some ⟨g6, 0, none⟩) 256 256) 256 (secW W.st n)) g6 0 256 (W.first + n) _ (by omega) (secW W.st n) (row_bytes (p := none)) (by omega) (length_secW _ _) hroom) Tryd.func42 rfl rfl rfl ?_)
  rintro _ _ ⟨rfl, rfl⟩
  try simp only [List.cons_append, List.nil_append]
  refine ⟨Sub.any, ?_⟩
  refine RW.done (by rfl) ?_
  simp only [List.drop_succ_cons, List.drop_zero, List.drop_nil]
  refine LW.done ?_
  exact ⟨.inr rfl, _, _, res [] rfl trivial, ⟨rfl, rfl⟩, Sub.any⟩
 ·
  rw [← secW_none (st := W.st) (n := n) (by omega)]
  refine T.skip ?_
  refine T.drawBl 14 none (by kernel_rfl) (Nat.le_of_ble_eq_true rfl) (by kernel_rfl) ?_
  refine RW.q 0 rfl rfl (by kernel_rfl) Sub.any (Qt.move rfl) ?_
  refine RW.q 1 rfl rfl (by kernel_rfl) Sub.any (Qt.nilCheck rfl) ?_
  refine RW.q 2 rfl rfl (by kernel_rfl) Sub.any (Qt.fieldAddr0 (by kernel_rfl) rfl) ?_
  refine RW.q 3 rfl rfl (by kernel_rfl) Sub.any (Qt.fieldAddr0 (by kernel_rfl) rfl) ?_
  first | refine RW.q 4 rfl rfl (by kernel_rfl) Sub.any (Qt.load (by kernel_rfl) rfl rfl) ?_ | refine RW.q 4 rfl rfl (by kernel_rfl) Sub.any (Qt.load (by kernel_rfl) rfl (map_at _ _ _ (by omega))) ?_ | refine RW.q 4 rfl rfl (by kernel_rfl) Sub.any (Qt.load (by kernel_rfl) rfl (flat_cell0 _ _ _ (by intros; rfl) _ (by omega) (by rfl))) ?_ | refine RW.q 4 rfl rfl (by kernel_rfl) Sub.any (Qt.load (by kernel_rfl) rfl (flat_cell _ _ _ (by intros; rfl) _ _ (by omega) (by rfl))) ?_ | refine RW.q 4 rfl rfl (by kernel_rfl) Sub.any (Qt.load (by kernel_rfl) rfl (bytes_at _ _ (by omega))) ?_
  refine RW.q 5 rfl rfl (by kernel_rfl) Sub.any (Qt.move rfl) ?_
  refine RW.q 6 rfl rfl (by kernel_rfl) Sub.any (Qt.nilCheck rfl) ?_
  refine RW.q 7 rfl rfl (by kernel_rfl) Sub.any (Qt.fieldAddr0 (by kernel_rfl) rfl) ?_
  refine RW.q 8 rfl rfl (by kernel_rfl) Sub.any (Qt.fieldAddr (off := 1) (by kernel_rfl) rfl) ?_
  first | refine RW.q 9 rfl rfl (by kernel_rfl) Sub.any (Qt.load (by kernel_rfl) rfl rfl) ?_ | refine RW.q 9 rfl rfl (by kernel_rfl) Sub.any (Qt.load (by kernel_rfl) rfl (map_at _ _ _ (by omega))) ?_ | refine RW.q 9 rfl rfl (by kernel_rfl) Sub.any (Qt.load (by kernel_rfl) rfl (flat_cell0 _ _ _ (by intros; rfl) _ (by omega) (by rfl))) ?_ | refine RW.q 9 rfl rfl (by kernel_rfl) Sub.any (Qt.load (by kernel_rfl) rfl (flat_cell _ _ _ (by intros; rfl) _ _ (by omega) (by rfl))) ?_ | refine RW.q 9 rfl rfl (by kernel_rfl) Sub.any (Qt.load (by kernel_rfl) rfl (bytes_at _ _ (by omega))) ?_
  refine RW.q 10 rfl rfl (by kernel_rfl) Sub.any (Qt.move rfl) ?_
  refine RW.q 11 rfl rfl (by kernel_rfl) Sub.any (Qt.add rfl rfl (wr64 (by omega) (by omega))) ?_
  refine RW.q 12 rfl rfl (by kernel_rfl) Sub.any (Qt.move rfl) ?_
  refine RW.one 13 (by kernel_rfl) ?_
  refine RO.eS rfl rfl (Ef.call (Dk.writeF B b D (rB (.slice (some ⟨g6, 0, none⟩) 256 256) 256 (secW W.st n)) g6 0 256 (W.first + n) _ (by omega) (secW W.st n) (row_bytes (p := none)) (by omega) (length_secW _ _) hroom) Tryd.func42 rfl rfl rfl ?_)
  rintro _ _ ⟨rfl, rfl⟩
  try simp only [List.cons_append, List.nil_append]
  refine ⟨Sub.any, ?_⟩
  refine RW.done (by rfl) ?_
  simp only [List.drop_succ_cons, List.drop_zero, List.drop_nil]
  refine LW.done ?_
  exact ⟨.inr rfl, _, _, res [] rfl trivial, ⟨rfl, rfl⟩, Sub.any⟩
/-- A disk behind the writes of k sectors by the text, from n on. -/
def laysW (W : Wl) : DD → Nat → Nat → DD
  | D, _, 0 => D
  | D, n, k + 1 => laysW W (D.write (W.first + n) (secW W.st n)) (n + 1) k
/-- How many sectors a flush writes. -/
def flushN (W : Wl) : Nat := (W.st.length + 255) / 256 - W.dur / 256
abbrev flushD (W : Wl) (D : DD) : DD := (laysW W D (W.dur / 256) (flushN W)).sync
abbrev Wl.flushed (W : Wl) : Wl := { W with dur := W.st.length }
theorem quo256i (m : Nat) (h : m < 2 ^ 62) : IntKind.i64.wrap ((m : Int).tdiv 256) = ((m / 256 : Nat) : Int) := by
  have : (m : Int).tdiv 256 = ((m / 256 : Nat) : Int) := rfl
  rw [this]; exact wr64 (by omega) (by omega)

set_option maxRecDepth 100000 in
theorem Wl.durableB (B : Base) (g b : Nat) (W : Wl) (p : Option Addr) (c : Nat) (h : W.dur < 2 ^ 40) : Fn Tryd.prog B 30 #[.pointer (some ⟨g, 0, none⟩)] [wlB g b W p c] (fun u l => u = .int .i64 W.dur ∧ l = [wlB g b W p c]) := by
  refine Fn.enter1 7 Tryd.func30 rfl rfl (Nat.le_of_ble_eq_true rfl) (fun F => ?_)
  try simp only [List.cons_append, List.nil_append]
  refine T.seq ?_
  refine T.region ?_
  refine LW.q rfl (Qt.assign rfl) ?_
  refine LW.done ?_
  refine T.seq ?_
  refine T.region ?_
  refine LW.q rfl (Qt.move rfl) ?_
  refine LW.q rfl (Qt.nilCheck rfl) ?_
  refine LW.q rfl (Qt.fieldAddr (off := 5) (by kernel_rfl) rfl) ?_
  first | refine LW.q rfl (Qt.load (by kernel_rfl) rfl rfl) ?_ | refine LW.q rfl (Qt.load (by kernel_rfl) rfl (map_at _ _ _ (by omega))) ?_ | refine LW.q rfl (Qt.load (by kernel_rfl) rfl (flat_cell0 _ _ _ (by intros; rfl) _ (by omega) (by rfl))) ?_ | refine LW.q rfl (Qt.load (by kernel_rfl) rfl (flat_cell _ _ _ (by intros; rfl) _ _ (by omega) (by rfl))) ?_ | refine LW.q rfl (Qt.load (by kernel_rfl) rfl (bytes_at _ _ (by omega))) ?_
  refine LW.q rfl (Qt.assign rfl) ?_
  refine LW.done ?_
  refine T.ret ?_
  exact ⟨.inl rfl, _, _, res [_] rfl ⟨rvT rfl, trivial⟩, ⟨rfl, rfl⟩, Sub.any⟩
set_option maxRecDepth 100000 in
theorem Wl.endB (B : Base) (g b : Nat) (W : Wl) (p : Option Addr) (c : Nat) (h : W.st.length < 2 ^ 40) : Fn Tryd.prog B 49 #[.pointer (some ⟨g, 0, none⟩)] [wlB g b W p c] (fun u l => u = .int .i64 W.st.length ∧ l = [wlB g b W p c]) := by
  refine Fn.enter1 8 Tryd.func49 rfl rfl (Nat.le_of_ble_eq_true rfl) (fun F => ?_)
  try simp only [List.cons_append, List.nil_append]
  refine T.seq ?_
  refine T.region ?_
  refine LW.q rfl (Qt.assign rfl) ?_
  refine LW.done ?_
  refine T.seq ?_
  refine T.region ?_
  refine LW.q rfl (Qt.move rfl) ?_
  refine LW.q rfl (Qt.nilCheck rfl) ?_
  refine LW.q rfl (Qt.fieldAddr (off := 3) (by kernel_rfl) rfl) ?_
  first | refine LW.q rfl (Qt.load (by kernel_rfl) rfl rfl) ?_ | refine LW.q rfl (Qt.load (by kernel_rfl) rfl (map_at _ _ _ (by omega))) ?_ | refine LW.q rfl (Qt.load (by kernel_rfl) rfl (flat_cell0 _ _ _ (by intros; rfl) _ (by omega) (by rfl))) ?_ | refine LW.q rfl (Qt.load (by kernel_rfl) rfl (flat_cell _ _ _ (by intros; rfl) _ _ (by omega) (by rfl))) ?_ | refine LW.q rfl (Qt.load (by kernel_rfl) rfl (bytes_at _ _ (by omega))) ?_
  refine LW.q rfl (Qt.len (e := 5) (sz := 1) (by kernel_rfl) rfl) ?_
  refine LW.q rfl (Qt.assign rfl) ?_
  refine LW.done ?_
  refine T.ret ?_
  exact ⟨.inl rfl, _, _, res [_] rfl ⟨rvT rfl, trivial⟩, ⟨rfl, rfl⟩, Sub.any⟩
set_option maxHeartbeats 2000000 in
set_option maxRecDepth 100000 in
theorem Wl.force_no (B : Base) (g b : Nat) (W : Wl) (p : Option Addr) (c : Nat) (mark : Int) (hd : W.dur < 2 ^ 40) (h : mark ≤ W.dur ∨ W.dur = W.st.length) : Fn Tryd.prog B 105 #[.pointer (some ⟨g, 0, none⟩), .int .i64 mark] [wlB g b W p c] (fun u l => u = .tuple #[] ∧ l = [wlB g b W p c]) := by
 refine Fn.enter2 53 Tryd.func105 rfl rfl (Nat.le_of_ble_eq_true rfl) (fun F => ?_)
 try simp only [List.cons_append, List.nil_append]
 refine T.seq ?_
 refine T.seq ?_
 refine T.drawAll 16 (by kernel_rfl) (Nat.le_of_ble_eq_true rfl) (by kernel_rfl) ?_
 refine RW.q 0 rfl rfl (by kernel_rfl) (Sub.refl _) (Qt.move rfl) ?_
 refine RW.q 1 rfl rfl (by kernel_rfl) (Sub.refl _) (Qt.move rfl) ?_
 refine RW.one 2 (by kernel_rfl) ?_
 refine RO.e rfl rfl (Ef.call (Wl.durableB B g b W p c hd) Tryd.func30 rfl rfl rfl ?_)
 rintro _ _ ⟨rfl, rfl⟩
 try simp only [List.cons_append, List.nil_append]
 refine ⟨Sub.any, ?_⟩
 refine RW.q 3 rfl rfl (by kernel_rfl) (Sub.refl _) (Qt.leq rfl rfl) ?_
 refine RW.q 4 rfl rfl (by kernel_rfl) (Sub.refl _) (Qt.move rfl) ?_
 refine RW.split (t := 9) rfl (fun h1 => ?_) (fun h1 => ?_)
 ·
  try replace h1 := of_decide_eq_true h1
  refine RW.s 5 rfl rfl (by kernel_rfl) (Sub.refl _) ?_
  refine RW.s 6 rfl rfl (by kernel_rfl) (Sub.refl _) ?_
  refine RW.s 7 rfl rfl (by kernel_rfl) (Sub.refl _) ?_
  refine RW.s 8 rfl rfl (by kernel_rfl) (Sub.refl _) ?_
  refine RW.s 9 rfl rfl (by kernel_rfl) (Sub.refl _) ?_
  refine RW.s 10 rfl rfl (by kernel_rfl) (Sub.refl _) ?_
  refine RW.s 11 rfl rfl (by kernel_rfl) (Sub.refl _) ?_
  refine RW.s 12 rfl rfl (by kernel_rfl) (Sub.refl _) ?_
  refine RW.s 13 rfl rfl (by kernel_rfl) (Sub.refl _) ?_
  refine RW.s 14 rfl rfl (by kernel_rfl) (Sub.refl _) ?_
  refine RW.q 15 rfl rfl (by kernel_rfl) (Sub.refl _) (Qt.pick rfl rfl) ?_
  refine RW.done (by rfl) ?_
  simp only [List.drop_succ_cons, List.drop_zero, List.drop_nil]
  refine LW.done ?_
  first | refine T.condT rfl ?_ | refine T.condPT rfl (by omega) ?_ | refine T.condBT rfl (by omega) ?_
  refine T.ret ?_
  exact ⟨.inl rfl, _, _, res [] rfl trivial, ⟨rfl, rfl⟩, Sub.any⟩
 ·
  try replace h1 := of_decide_eq_false h1
  refine RW.q 5 rfl rfl (by kernel_rfl) (Sub.refl _) (Qt.move rfl) ?_
  refine RW.q 6 rfl rfl (by kernel_rfl) (Sub.refl _) (Qt.nilCheck rfl) ?_
  refine RW.q 7 rfl rfl (by kernel_rfl) (Sub.refl _) (Qt.fieldAddr (off := 5) (by kernel_rfl) rfl) ?_
  first | refine RW.q 8 rfl rfl (by kernel_rfl) (Sub.refl _) (Qt.load (by kernel_rfl) rfl rfl) ?_ | refine RW.q 8 rfl rfl (by kernel_rfl) (Sub.refl _) (Qt.load (by kernel_rfl) rfl (map_at _ _ _ (by omega))) ?_ | refine RW.q 8 rfl rfl (by kernel_rfl) (Sub.refl _) (Qt.load (by kernel_rfl) rfl (flat_cell0 _ _ _ (by intros; rfl) _ (by omega) (by rfl))) ?_ | refine RW.q 8 rfl rfl (by kernel_rfl) (Sub.refl _) (Qt.load (by kernel_rfl) rfl (flat_cell _ _ _ (by intros; rfl) _ _ (by omega) (by rfl))) ?_ | refine RW.q 8 rfl rfl (by kernel_rfl) (Sub.refl _) (Qt.load (by kernel_rfl) rfl (bytes_at _ _ (by omega))) ?_
  refine RW.q 9 rfl rfl (by kernel_rfl) (Sub.refl _) (Qt.move rfl) ?_
  refine RW.q 10 rfl rfl (by kernel_rfl) (Sub.refl _) (Qt.nilCheck rfl) ?_
  refine RW.q 11 rfl rfl (by kernel_rfl) (Sub.refl _) (Qt.fieldAddr (off := 3) (by kernel_rfl) rfl) ?_
  first | refine RW.q 12 rfl rfl (by kernel_rfl) (Sub.refl _) (Qt.load (by kernel_rfl) rfl rfl) ?_ | refine RW.q 12 rfl rfl (by kernel_rfl) (Sub.refl _) (Qt.load (by kernel_rfl) rfl (map_at _ _ _ (by omega))) ?_ | refine RW.q 12 rfl rfl (by kernel_rfl) (Sub.refl _) (Qt.load (by kernel_rfl) rfl (flat_cell0 _ _ _ (by intros; rfl) _ (by omega) (by rfl))) ?_ | refine RW.q 12 rfl rfl (by kernel_rfl) (Sub.refl _) (Qt.load (by kernel_rfl) rfl (flat_cell _ _ _ (by intros; rfl) _ _ (by omega) (by rfl))) ?_ | refine RW.q 12 rfl rfl (by kernel_rfl) (Sub.refl _) (Qt.load (by kernel_rfl) rfl (bytes_at _ _ (by omega))) ?_
  refine RW.q 13 rfl rfl (by kernel_rfl) (Sub.refl _) (Qt.len (e := 5) (sz := 1) (by kernel_rfl) rfl) ?_
  refine RW.q 14 rfl rfl (by kernel_rfl) (Sub.refl _) (Qt.eql rfl rfl) ?_
  refine RW.q 15 rfl rfl (by kernel_rfl) (Sub.refl _) (Qt.pick rfl rfl) ?_
  refine RW.done (by rfl) ?_
  simp only [List.drop_succ_cons, List.drop_zero, List.drop_nil]
  refine LW.done ?_
  first | refine T.condT rfl ?_ | refine T.condPT rfl (by omega) ?_ | refine T.condBT rfl (by omega) ?_
  refine T.ret ?_
  exact ⟨.inl rfl, _, _, res [] rfl trivial, ⟨rfl, rfl⟩, Sub.any⟩
set_option maxHeartbeats 2000000 in
set_option maxRecDepth 100000 in
theorem Wl.force (B : Base) (g b : Nat) (W : Wl) (p : Option Addr) (c : Nat) (hp : 0 < W.st.length → ∃ g, p = some ⟨g, 0, none⟩) (hc : W.st.length ≤ c) (D : DD) (mark : Int) (hD : W.first + W.count ≤ D.secs.length) (hs : D.secs.length ≤ 4096) (hst : W.st.length ≤ W.count * 256) (hdur : W.dur ≤ W.st.length) (hroom : D.pend.length + 4096 < 2 ^ 32) (h1 : W.dur < mark) (h2 : W.dur ≠ W.st.length) :
  Fn Tryd.prog B 105 #[.pointer (some ⟨g, 0, none⟩), .int .i64 mark] [wlB g b W p c, rB (.slice p W.st.length c) W.st.length W.st, dskA b D] (fun u l => u = .tuple #[] ∧ l = [wlB g b W.flushed p c, rB (.slice p W.st.length c) W.st.length W.st, dskA b (flushD W D)]) := by
 refine Fn.enter2 53 Tryd.func105 rfl rfl (Nat.le_of_ble_eq_true rfl) (fun F => ?_)
 try simp only [List.cons_append, List.nil_append]
 refine T.seq ?_
 refine T.seq ?_
 refine T.drawAll 16 (by kernel_rfl) (Nat.le_of_ble_eq_true rfl) (by kernel_rfl) ?_
 refine RW.q 0 rfl rfl (by kernel_rfl) (Sub.refl _) (Qt.move rfl) ?_
 refine RW.q 1 rfl rfl (by kernel_rfl) (Sub.refl _) (Qt.move rfl) ?_
 refine RW.one 2 (by kernel_rfl) ?_
 refine RO.e rfl rfl (Ef.call (Wl.durableB B g b W p c (by omega)) Tryd.func30 rfl rfl rfl ?_)
 rintro _ _ ⟨rfl, rfl⟩
 try simp only [List.cons_append, List.nil_append]
 refine ⟨Sub.any, ?_⟩
 refine RW.q 3 rfl rfl (by kernel_rfl) (Sub.refl _) (Qt.leq rfl rfl) ?_
 refine RW.q 4 rfl rfl (by kernel_rfl) (Sub.refl _) (Qt.move rfl) ?_
 first | refine RW.gF (t := 9) rfl rfl ?_ | refine RW.gF (t := 9) rfl (decide_eq_false (by omega)) ?_ | refine RW.gF (t := 9) rfl (by omega) ?_
 refine RW.q 5 rfl rfl (by kernel_rfl) (Sub.refl _) (Qt.move rfl) ?_
 refine RW.q 6 rfl rfl (by kernel_rfl) (Sub.refl _) (Qt.nilCheck rfl) ?_
 refine RW.q 7 rfl rfl (by kernel_rfl) (Sub.refl _) (Qt.fieldAddr (off := 5) (by kernel_rfl) rfl) ?_
 first | refine RW.q 8 rfl rfl (by kernel_rfl) (Sub.refl _) (Qt.load (by kernel_rfl) rfl rfl) ?_ | refine RW.q 8 rfl rfl (by kernel_rfl) (Sub.refl _) (Qt.load (by kernel_rfl) rfl (map_at _ _ _ (by omega))) ?_ | refine RW.q 8 rfl rfl (by kernel_rfl) (Sub.refl _) (Qt.load (by kernel_rfl) rfl (flat_cell0 _ _ _ (by intros; rfl) _ (by omega) (by rfl))) ?_ | refine RW.q 8 rfl rfl (by kernel_rfl) (Sub.refl _) (Qt.load (by kernel_rfl) rfl (flat_cell _ _ _ (by intros; rfl) _ _ (by omega) (by rfl))) ?_ | refine RW.q 8 rfl rfl (by kernel_rfl) (Sub.refl _) (Qt.load (by kernel_rfl) rfl (bytes_at _ _ (by omega))) ?_
 refine RW.q 9 rfl rfl (by kernel_rfl) (Sub.refl _) (Qt.move rfl) ?_
 refine RW.q 10 rfl rfl (by kernel_rfl) (Sub.refl _) (Qt.nilCheck rfl) ?_
 refine RW.q 11 rfl rfl (by kernel_rfl) (Sub.refl _) (Qt.fieldAddr (off := 3) (by kernel_rfl) rfl) ?_
 first | refine RW.q 12 rfl rfl (by kernel_rfl) (Sub.refl _) (Qt.load (by kernel_rfl) rfl rfl) ?_ | refine RW.q 12 rfl rfl (by kernel_rfl) (Sub.refl _) (Qt.load (by kernel_rfl) rfl (map_at _ _ _ (by omega))) ?_ | refine RW.q 12 rfl rfl (by kernel_rfl) (Sub.refl _) (Qt.load (by kernel_rfl) rfl (flat_cell0 _ _ _ (by intros; rfl) _ (by omega) (by rfl))) ?_ | refine RW.q 12 rfl rfl (by kernel_rfl) (Sub.refl _) (Qt.load (by kernel_rfl) rfl (flat_cell _ _ _ (by intros; rfl) _ _ (by omega) (by rfl))) ?_ | refine RW.q 12 rfl rfl (by kernel_rfl) (Sub.refl _) (Qt.load (by kernel_rfl) rfl (bytes_at _ _ (by omega))) ?_
 refine RW.q 13 rfl rfl (by kernel_rfl) (Sub.refl _) (Qt.len (e := 5) (sz := 1) (by kernel_rfl) rfl) ?_
 refine RW.q 14 rfl rfl (by kernel_rfl) (Sub.refl _) (Qt.eql rfl rfl) ?_
 refine RW.q 15 rfl rfl (by kernel_rfl) (Sub.refl _) (Qt.pick rfl rfl) ?_
 refine RW.done (by rfl) ?_
 simp only [List.drop_succ_cons, List.drop_zero, List.drop_nil]
 refine LW.done ?_
 first | refine T.condF rfl ?_ | refine T.condPF rfl (by omega) ?_ | refine T.condBF rfl (by omega) ?_
 refine T.skip ?_
 refine T.seq ?_
 refine T.seq ?_
 refine T.region ?_
 refine LW.q rfl (Qt.move rfl) ?_
 refine LW.q rfl (Qt.nilCheck rfl) ?_
 refine LW.q rfl (Qt.fieldAddr (off := 5) (by kernel_rfl) rfl) ?_
 first | refine LW.q rfl (Qt.load (by kernel_rfl) rfl rfl) ?_ | refine LW.q rfl (Qt.load (by kernel_rfl) rfl (map_at _ _ _ (by omega))) ?_ | refine LW.q rfl (Qt.load (by kernel_rfl) rfl (flat_cell0 _ _ _ (by intros; rfl) _ (by omega) (by rfl))) ?_ | refine LW.q rfl (Qt.load (by kernel_rfl) rfl (flat_cell _ _ _ (by intros; rfl) _ _ (by omega) (by rfl))) ?_ | refine LW.q rfl (Qt.load (by kernel_rfl) rfl (bytes_at _ _ (by omega))) ?_
 refine LW.q rfl (Qt.quo rfl rfl (by omega) (quo256i W.dur (by omega))) ?_
 refine LW.q rfl (Qt.assign rfl) ?_
 refine LW.done ?_
 refine T.block ?_
 refine T.loop (fun mz fz lz => ∃ (f0 : Fr) (n : Nat) (D' : DD), (W.dur / 256 ≤ n ∧ n ≤ (W.st.length + 255) / 256 ∧ D'.secs.length = D.secs.length ∧ D'.pend.length + W.dur / 256 = D.pend.length + n ∧ laysW W D' n ((W.st.length + 255) / 256 - n) = laysW W D (W.dur / 256) (flushN W)) ∧ mz = (W.st.length + 255) / 256 - n ∧ fz = (upd (upd f0 0 (.pointer (some ⟨g, 0, none⟩))) 4 (.int .i64 n)) ∧ lz = wlB g b W p c :: rB (.slice p W.st.length c) W.st.length W.st :: dskA b D' :: F) ?_ ?_
 · refine ⟨_, _, ⟨_, W.dur / 256, D, ⟨Nat.le_refl _, by omega, rfl, rfl, rfl⟩, rfl, (updS rfl (updS rfl rfl)), rfl⟩, Sub.any⟩
 ·
  rintro mz fz lz ⟨f0, n, D', ⟨hn1, hn2, hs', hpend, hlay⟩, hmz, rfl, rfl⟩
  subst mz
  try simp only [List.cons_append, List.nil_append]
  refine T.seq ?_
  refine T.seq ?_
  refine T.region ?_
  refine LW.q rfl (Qt.move rfl) ?_
  refine LW.q rfl (Qt.mul rfl rfl (wr64 (by omega) (by omega))) ?_
  refine LW.q rfl (Qt.move rfl) ?_
  refine LW.q rfl (Qt.nilCheck rfl) ?_
  refine LW.q rfl (Qt.fieldAddr (off := 3) (by kernel_rfl) rfl) ?_
  first | refine LW.q rfl (Qt.load (by kernel_rfl) rfl rfl) ?_ | refine LW.q rfl (Qt.load (by kernel_rfl) rfl (map_at _ _ _ (by omega))) ?_ | refine LW.q rfl (Qt.load (by kernel_rfl) rfl (flat_cell0 _ _ _ (by intros; rfl) _ (by omega) (by rfl))) ?_ | refine LW.q rfl (Qt.load (by kernel_rfl) rfl (flat_cell _ _ _ (by intros; rfl) _ _ (by omega) (by rfl))) ?_ | refine LW.q rfl (Qt.load (by kernel_rfl) rfl (bytes_at _ _ (by omega))) ?_
  refine LW.q rfl (Qt.len (e := 5) (sz := 1) (by kernel_rfl) rfl) ?_
  refine LW.q rfl (Qt.lss rfl rfl) ?_
  refine LW.done ?_
  refine T.condP rfl (fun hlt => ?_) (fun hlt => ?_)
  ·
   refine T.skip ?_
   refine T.seq ?_
   refine T.block ?_
   refine T.region ?_
   refine LW.q rfl (Qt.move rfl) ?_
   refine LW.q rfl (Qt.move rfl) ?_
   refine LW.e rfl (Ef.call (Wl.lay B g b W p c hp hc D' n (by omega) (by omega) (by omega) (by omega) (by omega)) Tryd.func65 rfl rfl rfl ?_)
   rintro _ _ ⟨rfl, rfl⟩
   try simp only [List.cons_append, List.nil_append]
   refine LW.done ?_
   refine T.region ?_
   refine LW.q rfl (Qt.move rfl) ?_
   refine LW.q rfl (Qt.add rfl rfl (wr64 (by omega) (by omega))) ?_
   refine LW.q rfl (Qt.assign rfl) ?_
   refine LW.done ?_
   refine ⟨_, ?_, _, ⟨_, n + 1, D'.write (W.first + n) (secW W.st n), ⟨by omega, by omega, hs', by simp [DD.write]; omega, by rw [← hlay, show (W.st.length + 255) / 256 - n = ((W.st.length + 255) / 256 - (n + 1)) + 1 by omega]; rfl⟩, rfl, (updS rfl (updS rfl rfl)), rfl⟩, Sub.any⟩
   first | omega | (simp; omega)
  ·
   obtain rfl : n = (W.st.length + 255) / 256 := by omega
   rw [Nat.sub_self] at hlay
   obtain rfl : D' = laysW W D (W.dur / 256) (flushN W) := hlay
   refine T.exit ?_
   refine T.seq ?_
   refine T.region ?_
   refine LW.q rfl (Qt.move rfl) ?_
   refine LW.q rfl (Qt.nilCheck rfl) ?_
   refine LW.q rfl (Qt.fieldAddr0 (by kernel_rfl) rfl) ?_
   refine LW.q rfl (Qt.fieldAddr0 (by kernel_rfl) rfl) ?_
   first | refine LW.q rfl (Qt.load (by kernel_rfl) rfl rfl) ?_ | refine LW.q rfl (Qt.load (by kernel_rfl) rfl (map_at _ _ _ (by omega))) ?_ | refine LW.q rfl (Qt.load (by kernel_rfl) rfl (flat_cell0 _ _ _ (by intros; rfl) _ (by omega) (by rfl))) ?_ | refine LW.q rfl (Qt.load (by kernel_rfl) rfl (flat_cell _ _ _ (by intros; rfl) _ _ (by omega) (by rfl))) ?_ | refine LW.q rfl (Qt.load (by kernel_rfl) rfl (bytes_at _ _ (by omega))) ?_
   refine LW.e rfl (Ef.call (Dk.syncF B b (laysW W D (W.dur / 256) (flushN W)) (by omega)) Tryd.func43 rfl rfl rfl ?_)
   rintro _ _ ⟨rfl, rfl⟩
   try simp only [List.cons_append, List.nil_append]
   refine LW.done ?_
   refine T.region ?_
   refine LW.q rfl (Qt.move rfl) ?_
   refine LW.q rfl (Qt.move rfl) ?_
   refine LW.q rfl (Qt.nilCheck rfl) ?_
   refine LW.q rfl (Qt.fieldAddr (off := 3) (by kernel_rfl) rfl) ?_
   first | refine LW.q rfl (Qt.load (by kernel_rfl) rfl rfl) ?_ | refine LW.q rfl (Qt.load (by kernel_rfl) rfl (map_at _ _ _ (by omega))) ?_ | refine LW.q rfl (Qt.load (by kernel_rfl) rfl (flat_cell0 _ _ _ (by intros; rfl) _ (by omega) (by rfl))) ?_ | refine LW.q rfl (Qt.load (by kernel_rfl) rfl (flat_cell _ _ _ (by intros; rfl) _ _ (by omega) (by rfl))) ?_ | refine LW.q rfl (Qt.load (by kernel_rfl) rfl (bytes_at _ _ (by omega))) ?_
   refine LW.q rfl (Qt.len (e := 5) (sz := 1) (by kernel_rfl) rfl) ?_
   refine LW.q rfl (Qt.nilCheck rfl) ?_
   refine LW.q rfl (Qt.fieldAddr (off := 5) (by kernel_rfl) rfl) ?_
   refine LW.e0 rfl (Ef.store1 (by kernel_rfl) rfl rfl rfl (by first | (simp; done) | (simp; omega)) ?_)
   try simp only [List.set_cons_zero, List.set_cons_succ]
   refine LW.done ?_
   exact ⟨.inr rfl, _, _, res [] rfl trivial, ⟨rfl, rfl⟩, Sub.any⟩
end Go.Proofs.YtegohgaccmkigaaDoor

/- The package wal: Append. Conditions: sizes; that what is handed in can be read. -/
set_option linter.unusedSimpArgs false
set_option linter.unusedVariables false
namespace Go.Proofs.YtegohgaccmkigaaDoor
open Go.RowKit

theorem RdV.takeAll {B : Base} {S : List Assn} {a : Option Addr} {m c : Nat} {cs : List Value} (h : RdV B S (.slice a m c) cs) (c' : Nat) : RdV B S (.slice a m c') cs := by
  obtain ⟨a2, c2, e, h⟩ := h
  injection e with e1 e2 _
  subst e1; subst e2
  exact ⟨a, c', rfl, h⟩
instance (priority := low) (S l r m : List Assn) [k : TakeL S l r] [t : SubC r m] : SubC l (S ++ m) := ⟨fun _ H => by
  obtain ⟨h1, h2, d, a, b, e1, e2⟩ := Has.split (k.take _ H)
  exact Has.join d a b e1 (t.sub _ e2)⟩
theorem Fn.own {P : Program} {B : Base} {g : FuncId} {args : Array Value} {pre : List Assn} {R : Value → List Assn → Prop} (h : Fn P B g args pre R) : Fn P B g args pre (fun v l => R v l ∧ ∃ w F, Own B w (l ++ F)) := ⟨fun w F ho => (h.run w F ho).mono fun _ w' ⟨v, l, a, b, c⟩ => ⟨v, l, a, ⟨b, w', F, c⟩, c⟩⟩
theorem Cd.putP (B : Base) (S : List Assn) (v : Value) (b : List UInt8) (m : Nat) (hm : b.length = m) (n : UInt64) (i : Int) (k : Nat) (hi : i = k) (hk : k ≤ 8) (hv : RdV B S v (bytesV b)) (hb : m < 2 ^ 40) : Fn Tryd.prog B 48 #[v, .int .u64 n.toNat, .int .i64 i] S (fun u l => ∃ p c, u = .slice p (m + k) c ∧ (0 < m + k → ∃ g, p = some ⟨g, 0, none⟩) ∧ l = rB (.slice p (m + k) c) (m + k) (b ++ be n k) :: S) := (Cd.put B S v b m hm n i k hi hk hv hb).own.mono fun v l ⟨⟨p, c, e1, e2⟩, w, F, ho⟩ => by
  subst e2
  rw [List.cons_append] at ho
  exact ⟨p, c, e1, (ho.slice_at (p := p) (m := m + k) (c := c)).2.1, rfl⟩
/-- Append: the log then, what it answers. -/
def addW (W : Wl) (data : List UInt8) : Wl × Int × Int :=
  if data.length = 0 then (W, 0, 5)
  else if 1024 < data.length then (W, 0, 2)
  else if W.count * 256 < W.st.length + 8 + data.length then (W, 0, 3)
  else ({ W with st := W.st ++ be (UInt64.ofInt data.length) 4 ++ be (sealW W.sum W.st.length data).toUInt64 4 ++ data, sum := sealW W.sum W.st.length data }, (W.st.length : Int) + 8 + data.length, 0)

set_option maxHeartbeats 4000000 in
set_option maxRecDepth 100000 in
theorem Wl.append_no (B : Base) (S : List Assn) (g b : Nat) (W : Wl) (p : Option Addr) (cc : Nat) (a : Option Addr) (c : Nat) (bs : List (List UInt8)) (hv : PartsV B S (.slice a bs.length c) bs) (hc : bs.length ≤ c) (hn : bs.length < 2 ^ 32) (hN2 : bs.flatten.length ≤ 2 ^ 40) (hcnt : W.count ≤ 4096) (hst : W.st.length ≤ W.count * 256) (code : Int)
  (h : (bs.flatten.length = 0 ∧ code = 5) ∨ (bs.flatten.length ≠ 0 ∧ 1024 < bs.flatten.length ∧ code = 2) ∨ (bs.flatten.length ≠ 0 ∧ bs.flatten.length ≤ 1024 ∧ W.count * 256 < W.st.length + 8 + bs.flatten.length ∧ code = 3)) :
  Fn Tryd.prog B 24 #[.pointer (some ⟨g, 0, none⟩), .slice a bs.length c] (wlB g b W p cc :: S) (fun u l => u = .tuple #[.int .i64 0, .int .i64 code] ∧ l = wlB g b W p cc :: S) := by
 obtain ⟨N, hN⟩ : ∃ N, bs.flatten.length = N := ⟨_, rfl⟩
 rw [hN] at h hN2
 refine Fn.enter2 75 Tryd.func24 rfl rfl (Nat.le_of_ble_eq_true rfl) (fun F => ?_)
 try simp only [List.cons_append, List.nil_append]
 refine T.seq ?_
 refine T.region ?_
 refine LW.q rfl (Qt.assign rfl) ?_
 refine LW.q rfl (Qt.assign rfl) ?_
 refine LW.done ?_
 refine T.seq ?_
 refine T.region ?_
 refine LW.q rfl (Qt.move rfl) ?_
 refine LW.e rfl (Ef.call (Jn.join B S a c bs hv hc hn N hN hN2) Tryd.func45 rfl rfl rfl ?_)
 rintro _ _ ⟨p8, c8, c9, rfl, hp8, rfl⟩
 try simp only [List.cons_append, List.nil_append]
 refine LW.q rfl (Qt.assign rfl) ?_
 refine LW.done ?_
 refine T.seq ?_
 refine T.block ?_
 refine T.seq ?_
 refine T.region ?_
 refine LW.q rfl (Qt.move rfl) ?_
 refine LW.q rfl (Qt.len (e := 5) (sz := 1) (by kernel_rfl) rfl) ?_
 refine LW.q rfl (Qt.eql rfl rfl) ?_
 refine LW.q rfl (Qt.assign rfl) ?_
 refine LW.done ?_
 refine T.condP rfl (fun h0 => ?_) (fun h0 => ?_)
 ·
  obtain rfl : code = 5 := by omega
  refine T.seq ?_
  refine T.region ?_
  refine LW.q rfl (Qt.assign rfl) ?_
  refine LW.q rfl (Qt.assign rfl) ?_
  refine LW.done ?_
  refine T.ret ?_
  exact ⟨.inl rfl, _, _, res [_, _] rfl ⟨rvT rfl, rvT rfl, trivial⟩, ⟨rfl, rfl⟩, Sub.any⟩
 ·
  refine T.seq ?_
  refine T.region ?_
  refine LW.q rfl (Qt.move rfl) ?_
  refine LW.q rfl (Qt.len (e := 5) (sz := 1) (by kernel_rfl) rfl) ?_
  refine LW.q rfl (Qt.gtr rfl rfl) ?_
  refine LW.q rfl (Qt.assign rfl) ?_
  refine LW.done ?_
  refine T.condP rfl (fun h1 => ?_) (fun h1 => ?_)
  ·
   obtain rfl : code = 2 := by omega
   refine T.seq ?_
   refine T.region ?_
   refine LW.q rfl (Qt.assign rfl) ?_
   refine LW.q rfl (Qt.assign rfl) ?_
   refine LW.done ?_
   refine T.ret ?_
   exact ⟨.inl rfl, _, _, res [_, _] rfl ⟨rvT rfl, rvT rfl, trivial⟩, ⟨rfl, rfl⟩, Sub.any⟩
  ·
   obtain ⟨hbig, rfl⟩ : W.count * 256 < W.st.length + 8 + N ∧ code = 3 := by omega
   refine T.seq ?_
   refine T.drawAll 16 (by kernel_rfl) (Nat.le_of_ble_eq_true rfl) (by kernel_rfl) ?_
   refine RW.q 0 rfl rfl (by kernel_rfl) (Sub.refl _) (Qt.move rfl) ?_
   refine RW.q 1 rfl rfl (by kernel_rfl) (Sub.refl _) (Qt.nilCheck rfl) ?_
   refine RW.q 2 rfl rfl (by kernel_rfl) (Sub.refl _) (Qt.fieldAddr (off := 3) (by kernel_rfl) rfl) ?_
   first | refine RW.q 3 rfl rfl (by kernel_rfl) (Sub.refl _) (Qt.load (by kernel_rfl) rfl rfl) ?_ | refine RW.q 3 rfl rfl (by kernel_rfl) (Sub.refl _) (Qt.load (by kernel_rfl) rfl (map_at _ _ _ (by omega))) ?_ | refine RW.q 3 rfl rfl (by kernel_rfl) (Sub.refl _) (Qt.load (by kernel_rfl) rfl (flat_cell0 _ _ _ (by intros; rfl) _ (by omega) (by rfl))) ?_ | refine RW.q 3 rfl rfl (by kernel_rfl) (Sub.refl _) (Qt.load (by kernel_rfl) rfl (flat_cell _ _ _ (by intros; rfl) _ _ (by omega) (by rfl))) ?_ | refine RW.q 3 rfl rfl (by kernel_rfl) (Sub.refl _) (Qt.load (by kernel_rfl) rfl (bytes_at _ _ (by omega))) ?_
   refine RW.q 4 rfl rfl (by kernel_rfl) (Sub.refl _) (Qt.len (e := 5) (sz := 1) (by kernel_rfl) rfl) ?_
   refine RW.q 5 rfl rfl (by kernel_rfl) (Sub.refl _) (Qt.add rfl rfl (wr64 (by omega) (by omega))) ?_
   refine RW.q 6 rfl rfl (by kernel_rfl) (Sub.refl _) (Qt.move rfl) ?_
   refine RW.q 7 rfl rfl (by kernel_rfl) (Sub.refl _) (Qt.len (e := 5) (sz := 1) (by kernel_rfl) rfl) ?_
   refine RW.q 8 rfl rfl (by kernel_rfl) (Sub.refl _) (Qt.add rfl rfl (wr64 (by omega) (by omega))) ?_
   refine RW.q 9 rfl rfl (by kernel_rfl) (Sub.refl _) (Qt.move rfl) ?_
   refine RW.q 10 rfl rfl (by kernel_rfl) (Sub.refl _) (Qt.nilCheck rfl) ?_
   refine RW.q 11 rfl rfl (by kernel_rfl) (Sub.refl _) (Qt.fieldAddr0 (by kernel_rfl) rfl) ?_
   first | refine RW.q 12 rfl rfl (by kernel_rfl) (Sub.refl _) (Qt.loadAgg [_, _, _] (by kernel_rfl) rfl ⟨rfl, rfl, rfl, trivial⟩) ?_ | refine RW.q 12 rfl rfl (by kernel_rfl) (Sub.refl _) (Qt.loadAgg [_, _, _] (by kernel_rfl) rfl (by exact rdl_flat _ _ _ (by intros; rfl) _ (by omega))) ?_
   refine RW.one 13 (by kernel_rfl) ?_
   refine RO.e rfl rfl (Ef.call (Wl.size B (.pointer (some ⟨b, 0, none⟩)) W.first W.count hcnt) Tryd.func46 rfl rfl rfl ?_)
   rintro _ _ ⟨rfl, rfl⟩
   try simp only [List.cons_append, List.nil_append]
   refine ⟨Sub.any, ?_⟩
   refine RW.q 14 rfl rfl (by kernel_rfl) (Sub.refl _) (Qt.gtr rfl rfl) ?_
   refine RW.q 15 rfl rfl (by kernel_rfl) (Sub.refl _) (Qt.assign rfl) ?_
   refine RW.done (by rfl) ?_
   simp only [List.drop_succ_cons, List.drop_zero, List.drop_nil]
   refine LW.done ?_
   first | refine T.condT rfl ?_ | refine T.condPT rfl (by omega) ?_ | refine T.condBT rfl (by omega) ?_
   refine T.seq ?_
   refine T.region ?_
   refine LW.q rfl (Qt.assign rfl) ?_
   refine LW.q rfl (Qt.assign rfl) ?_
   refine LW.done ?_
   refine T.ret ?_
   exact ⟨.inl rfl, _, _, res [_, _] rfl ⟨rvT rfl, rvT rfl, trivial⟩, ⟨rfl, rfl⟩, Sub.any⟩
set_option maxHeartbeats 4000000 in
set_option maxRecDepth 100000 in
theorem Wl.append (B : Base) (S : List Assn) (g b : Nat) (W : Wl) (p : Option Addr) (cc : Nat) (hp : 0 < W.st.length → ∃ g, p = some ⟨g, 0, none⟩) (a : Option Addr) (c : Nat) (bs : List (List UInt8)) (hv : PartsV B S (.slice a bs.length c) bs) (hc : bs.length ≤ c) (hn : bs.length < 2 ^ 32) (hcnt : W.count ≤ 4096) (data : List UInt8) (hdata : bs.flatten = data) (h0 : data.length ≠ 0) (h1 : data.length ≤ 1024) (h2 : W.st.length + 8 + data.length ≤ W.count * 256) :
    Fn Tryd.prog B 24 #[.pointer (some ⟨g, 0, none⟩), .slice a bs.length c] (wlB g b W p cc :: rB (.slice p W.st.length cc) W.st.length W.st :: S) (fun u l => ∃ p' c', u = .tuple #[.int .i64 (addW W data).2.1, .int .i64 0] ∧ (0 < (addW W data).1.st.length → ∃ g, p' = some ⟨g, 0, none⟩) ∧ l = wlB g b (addW W data).1 p' c' :: rB (.slice p' (addW W data).1.st.length c') (addW W data).1.st.length (addW W data).1.st :: S) := by
  have hadd : addW W data = ({ W with st := W.st ++ be (UInt64.ofInt data.length) 4 ++ be (sealW W.sum W.st.length data).toUInt64 4 ++ data, sum := sealW W.sum W.st.length data }, (W.st.length : Int) + 8 + data.length, 0) := by
    unfold addW; rw [if_neg h0, if_neg (by omega), if_neg (by omega)]
  rw [hadd]
  obtain ⟨N, hN⟩ : ∃ N, data.length = N := ⟨_, rfl⟩
  obtain ⟨s, hs⟩ : ∃ s, sealW W.sum W.st.length data = s := ⟨_, rfl⟩
  rw [hN, hs]
  rw [hN] at h0 h1 h2
  refine Fn.enter2 75 Tryd.func24 rfl rfl (Nat.le_of_ble_eq_true rfl) (fun F => ?_)
  try simp only [List.cons_append, List.nil_append]
  refine T.seq ?_
  refine T.region ?_
  refine LW.q rfl (Qt.assign rfl) ?_
  refine LW.q rfl (Qt.assign rfl) ?_
  refine LW.done ?_
  refine T.seq ?_
  refine T.region ?_
  refine LW.q rfl (Qt.move rfl) ?_
  refine LW.e rfl (Ef.call (Jn.join B S a c bs hv hc hn N (by rw [hdata, hN]) (by omega)) Tryd.func45 rfl rfl rfl ?_)
  rintro _ _ ⟨p8, c8, c9, rfl, hp8, rfl⟩
  try simp only [List.cons_append, List.nil_append]
  rw [hdata]
  refine LW.q rfl (Qt.assign rfl) ?_
  refine LW.done ?_
  refine T.seq ?_
  refine T.block ?_
  refine T.seq ?_
  refine T.region ?_
  refine LW.q rfl (Qt.move rfl) ?_
  refine LW.q rfl (Qt.len (e := 5) (sz := 1) (by kernel_rfl) rfl) ?_
  refine LW.q rfl (Qt.eql rfl rfl) ?_
  refine LW.q rfl (Qt.assign rfl) ?_
  refine LW.done ?_
  have rdat : RdV B [rB (.slice p8 N c8) N data] (.slice p8 N c9) (bytesV data) := (RdV.rB (c := c8) hN hp8).takeAll c9
  first | refine T.condF rfl ?_ | refine T.condPF rfl (by omega) ?_ | refine T.condBF rfl (by omega) ?_
  refine T.seq ?_
  refine T.region ?_
  refine LW.q rfl (Qt.move rfl) ?_
  refine LW.q rfl (Qt.len (e := 5) (sz := 1) (by kernel_rfl) rfl) ?_
  refine LW.q rfl (Qt.gtr rfl rfl) ?_
  refine LW.q rfl (Qt.assign rfl) ?_
  refine LW.done ?_
  first | refine T.condF rfl ?_ | refine T.condPF rfl (by omega) ?_ | refine T.condBF rfl (by omega) ?_
  refine T.seq ?_
  refine T.drawAll 16 (by kernel_rfl) (Nat.le_of_ble_eq_true rfl) (by kernel_rfl) ?_
  refine RW.q 0 rfl rfl (by kernel_rfl) (Sub.refl _) (Qt.move rfl) ?_
  refine RW.q 1 rfl rfl (by kernel_rfl) (Sub.refl _) (Qt.nilCheck rfl) ?_
  refine RW.q 2 rfl rfl (by kernel_rfl) (Sub.refl _) (Qt.fieldAddr (off := 3) (by kernel_rfl) rfl) ?_
  first | refine RW.q 3 rfl rfl (by kernel_rfl) (Sub.refl _) (Qt.load (by kernel_rfl) rfl rfl) ?_ | refine RW.q 3 rfl rfl (by kernel_rfl) (Sub.refl _) (Qt.load (by kernel_rfl) rfl (map_at _ _ _ (by omega))) ?_ | refine RW.q 3 rfl rfl (by kernel_rfl) (Sub.refl _) (Qt.load (by kernel_rfl) rfl (flat_cell0 _ _ _ (by intros; rfl) _ (by omega) (by rfl))) ?_ | refine RW.q 3 rfl rfl (by kernel_rfl) (Sub.refl _) (Qt.load (by kernel_rfl) rfl (flat_cell _ _ _ (by intros; rfl) _ _ (by omega) (by rfl))) ?_ | refine RW.q 3 rfl rfl (by kernel_rfl) (Sub.refl _) (Qt.load (by kernel_rfl) rfl (bytes_at _ _ (by omega))) ?_
  refine RW.q 4 rfl rfl (by kernel_rfl) (Sub.refl _) (Qt.len (e := 5) (sz := 1) (by kernel_rfl) rfl) ?_
  refine RW.q 5 rfl rfl (by kernel_rfl) (Sub.refl _) (Qt.add rfl rfl (wr64 (by omega) (by omega))) ?_
  refine RW.q 6 rfl rfl (by kernel_rfl) (Sub.refl _) (Qt.move rfl) ?_
  refine RW.q 7 rfl rfl (by kernel_rfl) (Sub.refl _) (Qt.len (e := 5) (sz := 1) (by kernel_rfl) rfl) ?_
  refine RW.q 8 rfl rfl (by kernel_rfl) (Sub.refl _) (Qt.add rfl rfl (wr64 (by omega) (by omega))) ?_
  refine RW.q 9 rfl rfl (by kernel_rfl) (Sub.refl _) (Qt.move rfl) ?_
  refine RW.q 10 rfl rfl (by kernel_rfl) (Sub.refl _) (Qt.nilCheck rfl) ?_
  refine RW.q 11 rfl rfl (by kernel_rfl) (Sub.refl _) (Qt.fieldAddr0 (by kernel_rfl) rfl) ?_
  first | refine RW.q 12 rfl rfl (by kernel_rfl) (Sub.refl _) (Qt.loadAgg [_, _, _] (by kernel_rfl) rfl ⟨rfl, rfl, rfl, trivial⟩) ?_ | refine RW.q 12 rfl rfl (by kernel_rfl) (Sub.refl _) (Qt.loadAgg [_, _, _] (by kernel_rfl) rfl (by exact rdl_flat _ _ _ (by intros; rfl) _ (by omega))) ?_
  refine RW.one 13 (by kernel_rfl) ?_
  refine RO.e rfl rfl (Ef.call (Wl.size B (.pointer (some ⟨b, 0, none⟩)) W.first W.count hcnt) Tryd.func46 rfl rfl rfl ?_)
  rintro _ _ ⟨rfl, rfl⟩
  try simp only [List.cons_append, List.nil_append]
  refine ⟨Sub.any, ?_⟩
  refine RW.q 14 rfl rfl (by kernel_rfl) (Sub.refl _) (Qt.gtr rfl rfl) ?_
  refine RW.q 15 rfl rfl (by kernel_rfl) (Sub.refl _) (Qt.assign rfl) ?_
  refine RW.done (by rfl) ?_
  simp only [List.drop_succ_cons, List.drop_zero, List.drop_nil]
  refine LW.done ?_
  first | refine T.condF rfl ?_ | refine T.condPF rfl (by omega) ?_ | refine T.condBF rfl (by omega) ?_
  refine T.skip ?_
  refine T.seq ?_
  refine T.drawAll 12 (by kernel_rfl) (Nat.le_of_ble_eq_true rfl) (by kernel_rfl) ?_
  refine RW.q 0 rfl rfl (by kernel_rfl) (Sub.refl _) (Qt.move rfl) ?_
  refine RW.q 1 rfl rfl (by kernel_rfl) (Sub.refl _) (Qt.move rfl) ?_
  refine RW.q 2 rfl rfl (by kernel_rfl) (Sub.refl _) (Qt.nilCheck rfl) ?_
  refine RW.q 3 rfl rfl (by kernel_rfl) (Sub.refl _) (Qt.fieldAddr (off := 4) (by kernel_rfl) rfl) ?_
  first | refine RW.q 4 rfl rfl (by kernel_rfl) (Sub.refl _) (Qt.load (by kernel_rfl) rfl rfl) ?_ | refine RW.q 4 rfl rfl (by kernel_rfl) (Sub.refl _) (Qt.load (by kernel_rfl) rfl (map_at _ _ _ (by omega))) ?_ | refine RW.q 4 rfl rfl (by kernel_rfl) (Sub.refl _) (Qt.load (by kernel_rfl) rfl (flat_cell0 _ _ _ (by intros; rfl) _ (by omega) (by rfl))) ?_ | refine RW.q 4 rfl rfl (by kernel_rfl) (Sub.refl _) (Qt.load (by kernel_rfl) rfl (flat_cell _ _ _ (by intros; rfl) _ _ (by omega) (by rfl))) ?_ | refine RW.q 4 rfl rfl (by kernel_rfl) (Sub.refl _) (Qt.load (by kernel_rfl) rfl (bytes_at _ _ (by omega))) ?_
  refine RW.q 5 rfl rfl (by kernel_rfl) (Sub.refl _) (Qt.move rfl) ?_
  refine RW.q 6 rfl rfl (by kernel_rfl) (Sub.refl _) (Qt.nilCheck rfl) ?_
  refine RW.q 7 rfl rfl (by kernel_rfl) (Sub.refl _) (Qt.fieldAddr (off := 3) (by kernel_rfl) rfl) ?_
  first | refine RW.q 8 rfl rfl (by kernel_rfl) (Sub.refl _) (Qt.load (by kernel_rfl) rfl rfl) ?_ | refine RW.q 8 rfl rfl (by kernel_rfl) (Sub.refl _) (Qt.load (by kernel_rfl) rfl (map_at _ _ _ (by omega))) ?_ | refine RW.q 8 rfl rfl (by kernel_rfl) (Sub.refl _) (Qt.load (by kernel_rfl) rfl (flat_cell0 _ _ _ (by intros; rfl) _ (by omega) (by rfl))) ?_ | refine RW.q 8 rfl rfl (by kernel_rfl) (Sub.refl _) (Qt.load (by kernel_rfl) rfl (flat_cell _ _ _ (by intros; rfl) _ _ (by omega) (by rfl))) ?_ | refine RW.q 8 rfl rfl (by kernel_rfl) (Sub.refl _) (Qt.load (by kernel_rfl) rfl (bytes_at _ _ (by omega))) ?_
  refine RW.q 9 rfl rfl (by kernel_rfl) (Sub.refl _) (Qt.len (e := 5) (sz := 1) (by kernel_rfl) rfl) ?_
  refine RW.q 10 rfl rfl (by kernel_rfl) (Sub.refl _) (Qt.move rfl) ?_
  refine RW.one 11 (by kernel_rfl) ?_
  refine RO.e rfl rfl (Ef.call (Wl.shut B [rB (.slice p8 N c8) N data] W.sum W.st.length p8 N c9 data rdat hN (by omega)) Tryd.func47 rfl rfl rfl ?_)
  rintro _ _ ⟨rfl, rfl⟩
  try simp only [List.cons_append, List.nil_append]
  rw [hs]
  refine ⟨Sub.any, ?_⟩
  refine RW.done (by rfl) ?_
  simp only [List.drop_succ_cons, List.drop_zero, List.drop_nil]
  refine LW.q rfl (Qt.nilCheck rfl) ?_
  refine LW.q rfl (Qt.fieldAddr (off := 4) (by kernel_rfl) rfl) ?_
  refine LW.e0 rfl (Ef.store1 (by kernel_rfl) rfl rfl rfl (by first | (simp; done) | (simp; omega)) ?_)
  try simp only [List.set_cons_zero, List.set_cons_succ]
  refine LW.done ?_
  refine T.seq ?_
  refine T.drawAll 15 (by kernel_rfl) (Nat.le_of_ble_eq_true rfl) (by kernel_rfl) ?_
  refine RW.q 0 rfl rfl (by kernel_rfl) (Sub.refl _) (Qt.move rfl) ?_
  refine RW.q 1 rfl rfl (by kernel_rfl) (Sub.refl _) (Qt.move rfl) ?_
  refine RW.q 2 rfl rfl (by kernel_rfl) (Sub.refl _) (Qt.nilCheck rfl) ?_
  refine RW.q 3 rfl rfl (by kernel_rfl) (Sub.refl _) (Qt.fieldAddr (off := 3) (by kernel_rfl) rfl) ?_
  first | refine RW.q 4 rfl rfl (by kernel_rfl) (Sub.refl _) (Qt.load (by kernel_rfl) rfl rfl) ?_ | refine RW.q 4 rfl rfl (by kernel_rfl) (Sub.refl _) (Qt.load (by kernel_rfl) rfl (map_at _ _ _ (by omega))) ?_ | refine RW.q 4 rfl rfl (by kernel_rfl) (Sub.refl _) (Qt.load (by kernel_rfl) rfl (flat_cell0 _ _ _ (by intros; rfl) _ (by omega) (by rfl))) ?_ | refine RW.q 4 rfl rfl (by kernel_rfl) (Sub.refl _) (Qt.load (by kernel_rfl) rfl (flat_cell _ _ _ (by intros; rfl) _ _ (by omega) (by rfl))) ?_ | refine RW.q 4 rfl rfl (by kernel_rfl) (Sub.refl _) (Qt.load (by kernel_rfl) rfl (bytes_at _ _ (by omega))) ?_
  refine RW.q 5 rfl rfl (by kernel_rfl) (Sub.refl _) (Qt.move rfl) ?_
  refine RW.q 6 rfl rfl (by kernel_rfl) (Sub.refl _) (Qt.len (e := 5) (sz := 1) (by kernel_rfl) rfl) ?_
  refine RW.q 7 rfl rfl (by kernel_rfl) (Sub.refl _) (Qt.convI (by kernel_rfl) (by kernel_rfl) rfl (wru64_i64 _)) ?_
  refine RW.q 9 rfl rfl (by kernel_rfl) (Sub.refl _) (Qt.move rfl) ?_
  refine RW.q 10 rfl rfl (by kernel_rfl) (Sub.refl _) (Qt.nilCheck rfl) ?_
  refine RW.q 11 rfl rfl (by kernel_rfl) (Sub.refl _) (Qt.fieldAddr (off := 4) (by kernel_rfl) rfl) ?_
  first | refine RW.q 12 rfl rfl (by kernel_rfl) (Sub.refl _) (Qt.load (by kernel_rfl) rfl rfl) ?_ | refine RW.q 12 rfl rfl (by kernel_rfl) (Sub.refl _) (Qt.load (by kernel_rfl) rfl (map_at _ _ _ (by omega))) ?_ | refine RW.q 12 rfl rfl (by kernel_rfl) (Sub.refl _) (Qt.load (by kernel_rfl) rfl (flat_cell0 _ _ _ (by intros; rfl) _ (by omega) (by rfl))) ?_ | refine RW.q 12 rfl rfl (by kernel_rfl) (Sub.refl _) (Qt.load (by kernel_rfl) rfl (flat_cell _ _ _ (by intros; rfl) _ _ (by omega) (by rfl))) ?_ | refine RW.q 12 rfl rfl (by kernel_rfl) (Sub.refl _) (Qt.load (by kernel_rfl) rfl (bytes_at _ _ (by omega))) ?_
  refine RW.q 13 rfl rfl (by kernel_rfl) (Sub.refl _) (Qt.convI (by kernel_rfl) (by kernel_rfl) rfl (wru64_u32 s)) ?_
  refine RW.one 8 (by kernel_rfl) ?_
  refine RO.e rfl rfl (Ef.call (Cd.putP B [rB (.slice p W.st.length cc) W.st.length W.st] (.slice p W.st.length cc) W.st W.st.length rfl (UInt64.ofInt N) 4 4 rfl (by omega) (RdV.rB rfl hp) (by omega)) Tryd.func48 rfl rfl rfl ?_)
  rintro _ _ ⟨p1, c1, rfl, hp1, rfl⟩
  try simp only [List.cons_append, List.nil_append]
  refine ⟨Sub.any, ?_⟩
  refine RW.one 14 (by kernel_rfl) ?_
  refine RO.e rfl rfl (Ef.call (Cd.putP B [rB (.slice p1 (W.st.length + 4) c1) (W.st.length + 4) (W.st ++ be (UInt64.ofInt N) 4)] (.slice p1 (W.st.length + 4) c1) (W.st ++ be (UInt64.ofInt N) 4) (W.st.length + 4) (by simp [length_be]) s.toUInt64 4 4 rfl (by omega) (RdV.rB (by simp [length_be]) hp1) (by omega)) Tryd.func48 rfl rfl rfl ?_)
  rintro _ _ ⟨p2, c2, rfl, hp2, rfl⟩
  try simp only [List.cons_append, List.nil_append]
  refine ⟨Sub.any, ?_⟩
  refine RW.done (by rfl) ?_
  simp only [List.drop_succ_cons, List.drop_zero, List.drop_nil]
  refine LW.q rfl (Qt.nilCheck rfl) ?_
  refine LW.q rfl (Qt.fieldAddr (off := 3) (by kernel_rfl) rfl) ?_
  refine LW.e0 rfl (Ef.store1 (by kernel_rfl) rfl rfl rfl (by first | (simp; done) | (simp; omega)) ?_)
  try simp only [List.set_cons_zero, List.set_cons_succ]
  refine LW.done ?_
  refine T.seq ?_
  refine T.region ?_
  refine LW.q rfl (Qt.move rfl) ?_
  refine LW.q rfl (Qt.move rfl) ?_
  refine LW.q rfl (Qt.nilCheck rfl) ?_
  refine LW.q rfl (Qt.fieldAddr (off := 3) (by kernel_rfl) rfl) ?_
  first | refine LW.q rfl (Qt.load (by kernel_rfl) rfl rfl) ?_ | refine LW.q rfl (Qt.load (by kernel_rfl) rfl (map_at _ _ _ (by omega))) ?_ | refine LW.q rfl (Qt.load (by kernel_rfl) rfl (flat_cell0 _ _ _ (by intros; rfl) _ (by omega) (by rfl))) ?_ | refine LW.q rfl (Qt.load (by kernel_rfl) rfl (flat_cell _ _ _ (by intros; rfl) _ _ (by omega) (by rfl))) ?_ | refine LW.q rfl (Qt.load (by kernel_rfl) rfl (bytes_at _ _ (by omega))) ?_
  refine LW.q rfl (Qt.move rfl) ?_
  refine LW.e rfl (Ef.append Cd.elemB rfl rfl (SrcOf.rd (m := N) (rdat.mono (fun w ho => ho.map Sub.any)) (by kernel_rfl) (by simp [hN]) one_bytesV) (by unfold maxLen; omega) (by omega) ?_)
  rintro p4 c4 hp4
  try simp only [List.cons_append, List.nil_append]
  rw [← bytesV_append]
  obtain ⟨st2, hst2, hlen⟩ : ∃ st2, W.st ++ be (UInt64.ofInt N) 4 ++ be s.toUInt64 4 ++ data = st2 ∧ W.st.length + 4 + 4 + N = st2.length := ⟨_, rfl, by simp [length_be, hN]; omega⟩
  rw [hst2, hlen]
  rw [hlen] at hp4
  refine LW.q rfl (Qt.nilCheck rfl) ?_
  refine LW.q rfl (Qt.fieldAddr (off := 3) (by kernel_rfl) rfl) ?_
  refine LW.e0 rfl (Ef.store1 (by kernel_rfl) rfl rfl rfl (by first | (simp; done) | (simp; omega)) ?_)
  try simp only [List.set_cons_zero, List.set_cons_succ]
  refine LW.done ?_
  refine T.seq ?_
  refine T.region ?_
  refine LW.q rfl (Qt.move rfl) ?_
  refine LW.e rfl (Ef.call (Wl.endB B g b ⟨W.first, W.count, st2, s, W.dur⟩ p4 c4 (by show st2.length < _; omega)) Tryd.func49 rfl rfl rfl ?_)
  rintro _ _ ⟨rfl, rfl⟩
  try simp only [List.cons_append, List.nil_append]
  refine LW.q rfl (Qt.assign rfl) ?_
  refine LW.q rfl (Qt.assign rfl) ?_
  refine LW.done ?_
  refine T.ret ?_
  exact ⟨.inl rfl, _, _, res [_, _] rfl ⟨rvT rfl, rvT rfl, trivial⟩, ⟨p4, c4, by rw [show ((W.st.length : Int) + 8 + N) = ((st2.length : Nat) : Int) by omega]; rfl, hp4, rfl⟩, Sub.any⟩
end Go.Proofs.YtegohgaccmkigaaDoor

/- The package wal: wipe. Conditions: sizes; that what is handed in can be read. -/
set_option linter.unusedSimpArgs false
set_option linter.unusedVariables false
namespace Go.Proofs.YtegohgaccmkigaaDoor
open Go.RowKit

/-- A disk behind the wiping of k sectors from n on. -/
def wipeD (W : Wl) (al : List UInt8) : DD → Nat → Nat → DD
  | D, _, 0 => D
  | D, n, k + 1 => wipeD W al (if ((al.take ((n + 1) * 256)).drop (max (n * 256) W.dur)).all (· == 0) then D else D.write (W.first + n) (secW W.st n)) (n + 1) k

set_option maxHeartbeats 2000000 in
set_option maxRecDepth 100000 in
theorem Wl.wipe (B : Base) (S : List Assn) (g b : Nat) (W : Wl) (p : Option Addr) (c : Nat) (hp : 0 < W.st.length → ∃ g, p = some ⟨g, 0, none⟩) (hc : W.st.length ≤ c) (D : DD) (a : Option Addr) (m ca : Nat) (al : List UInt8) (hv : RdV B S (.slice a m ca) (bytesV al)) (hm : al.length = m) (hmc : m ≤ ca) (hmw : m = W.count * 256)
  (hD : W.first + W.count ≤ D.secs.length) (hs : D.secs.length ≤ 4096) (hst : W.st.length ≤ W.count * 256) (hdur : W.dur ≤ W.st.length) (hroom : D.pend.length + 4096 < 2 ^ 32) :
  Fn Tryd.prog B 54 #[.pointer (some ⟨g, 0, none⟩), .slice a m ca] (wlB g b W p c :: rB (.slice p W.st.length c) W.st.length W.st :: dskA b D :: S) (fun u l => u = .tuple #[] ∧ l = wlB g b W p c :: rB (.slice p W.st.length c) W.st.length W.st :: dskA b (wipeD W al D (W.dur / 256) (W.count - W.dur / 256)).sync :: S) := by
 refine Fn.enter2 49 Tryd.func54 rfl rfl (Nat.le_of_ble_eq_true rfl) (fun F => ?_)
 try simp only [List.cons_append, List.nil_append]
 refine T.seq ?_
 refine T.seq ?_
 refine T.region ?_
 refine LW.q rfl (Qt.move rfl) ?_
 refine LW.q rfl (Qt.nilCheck rfl) ?_
 refine LW.q rfl (Qt.fieldAddr (off := 5) (by kernel_rfl) rfl) ?_
 first | refine LW.q rfl (Qt.load (by kernel_rfl) rfl rfl) ?_ | refine LW.q rfl (Qt.load (by kernel_rfl) rfl (map_at _ _ _ (by omega))) ?_ | refine LW.q rfl (Qt.load (by kernel_rfl) rfl (flat_cell0 _ _ _ (by intros; rfl) _ (by omega) (by rfl))) ?_ | refine LW.q rfl (Qt.load (by kernel_rfl) rfl (flat_cell _ _ _ (by intros; rfl) _ _ (by omega) (by rfl))) ?_ | refine LW.q rfl (Qt.load (by kernel_rfl) rfl (bytes_at _ _ (by omega))) ?_
 refine LW.q rfl (Qt.quo rfl rfl (by omega) (quo256i W.dur (by omega))) ?_
 refine LW.q rfl (Qt.assign rfl) ?_
 refine LW.done ?_
 refine T.block ?_
 refine T.loop (fun mz fz lz => ∃ (f0 : Fr) (n : Nat) (D' : DD), (W.dur / 256 ≤ n ∧ n ≤ W.count ∧ D'.secs.length = D.secs.length ∧ D'.pend.length ≤ D.pend.length + n ∧ wipeD W al D' n (W.count - n) = wipeD W al D (W.dur / 256) (W.count - W.dur / 256)) ∧ mz = W.count - n ∧ fz = (upd (upd (upd f0 0 (.pointer (some ⟨g, 0, none⟩))) 1 (.slice a m ca)) 4 (.int .i64 n)) ∧ lz = wlB g b W p c :: rB (.slice p W.st.length c) W.st.length W.st :: dskA b D' :: (S ++ F)) ?_ ?_
 · refine ⟨_, _, ⟨_, W.dur / 256, D, ⟨Nat.le_refl _, by omega, rfl, by omega, rfl⟩, rfl, (updS rfl (updS rfl (updS rfl rfl))), rfl⟩, Sub.any⟩
 ·
  rintro mz fz lz ⟨f0, n, D', ⟨hn1, hn2, hs', hpend, hlay⟩, hmz, rfl, rfl⟩
  subst mz
  try simp only [List.cons_append, List.nil_append]
  refine T.seq ?_
  refine T.seq ?_
  refine T.region ?_
  refine LW.q rfl (Qt.move rfl) ?_
  refine LW.q rfl (Qt.move rfl) ?_
  refine LW.q rfl (Qt.nilCheck rfl) ?_
  refine LW.q rfl (Qt.fieldAddr0 (by kernel_rfl) rfl) ?_
  refine LW.q rfl (Qt.fieldAddr (off := 2) (by kernel_rfl) rfl) ?_
  first | refine LW.q rfl (Qt.load (by kernel_rfl) rfl rfl) ?_ | refine LW.q rfl (Qt.load (by kernel_rfl) rfl (map_at _ _ _ (by omega))) ?_ | refine LW.q rfl (Qt.load (by kernel_rfl) rfl (flat_cell0 _ _ _ (by intros; rfl) _ (by omega) (by rfl))) ?_ | refine LW.q rfl (Qt.load (by kernel_rfl) rfl (flat_cell _ _ _ (by intros; rfl) _ _ (by omega) (by rfl))) ?_ | refine LW.q rfl (Qt.load (by kernel_rfl) rfl (bytes_at _ _ (by omega))) ?_
  refine LW.q rfl (Qt.lss rfl rfl) ?_
  refine LW.done ?_
  refine T.condP rfl (fun hlt => ?_) (fun hlt => ?_)
  ·
   obtain ⟨lo, hlo⟩ : ∃ lo, max (n * 256) W.dur = lo := ⟨_, rfl⟩
   refine T.skip ?_
   refine T.seq ?_
   refine T.block ?_
   refine T.seq ?_
   refine T.region ?_
   refine LW.q rfl (Qt.move rfl) ?_
   refine LW.q rfl (Qt.mul rfl rfl (wr64 (by omega) (by omega))) ?_
   refine LW.q rfl (Qt.move rfl) ?_
   refine LW.q rfl (Qt.add rfl rfl (wr64 (by omega) (by omega))) ?_
   refine LW.q rfl (Qt.mul rfl rfl (wr64 (by omega) (by omega))) ?_
   refine LW.q rfl (Qt.assign rfl) ?_
   refine LW.q rfl (Qt.assign rfl) ?_
   refine LW.done ?_
   refine T.seq ?_
   refine T.region ?_
   refine LW.q rfl (Qt.move rfl) ?_
   refine LW.q rfl (Qt.move rfl) ?_
   refine LW.q rfl (Qt.move rfl) ?_
   refine LW.q rfl (Qt.nilCheck rfl) ?_
   refine LW.q rfl (Qt.fieldAddr (off := 5) (by kernel_rfl) rfl) ?_
   first | refine LW.q rfl (Qt.load (by kernel_rfl) rfl rfl) ?_ | refine LW.q rfl (Qt.load (by kernel_rfl) rfl (map_at _ _ _ (by omega))) ?_ | refine LW.q rfl (Qt.load (by kernel_rfl) rfl (flat_cell0 _ _ _ (by intros; rfl) _ (by omega) (by rfl))) ?_ | refine LW.q rfl (Qt.load (by kernel_rfl) rfl (flat_cell _ _ _ (by intros; rfl) _ _ (by omega) (by rfl))) ?_ | refine LW.q rfl (Qt.load (by kernel_rfl) rfl (bytes_at _ _ (by omega))) ?_
   refine LW.q rfl (Qt.max rfl rfl) ?_
   refine LW.q rfl (Qt.move rfl) ?_
   refine LW.q rfl (Qt.slice_ssn lo ((n + 1) * 256) (e := 5) (sz := 1) (by kernel_rfl) rfl rfl rfl (by omega) (by omega) (by omega) (by omega)) ?_
   refine LW.q rfl (Qt.assign rfl) ?_
   refine LW.done ?_
   refine T.seq ?_
   refine T.region ?_
   refine LW.q rfl (Qt.move rfl) ?_
   refine LW.e rfl (Ef.call (Tr.trim B S (offA a ca lo 1) ((n + 1) * 256 - lo) (ca - lo) ((al.take ((n + 1) * 256)).drop lo) (hv.part lo ((n + 1) * 256) (by omega) hm (by omega) (by omega) rfl) (by simp; omega) (by omega) (by omega)) Tryd.func53 rfl rfl rfl ?_)
   rintro _ S ⟨p3, m3, c3, rfl, hz, rfl⟩
   try simp only [List.cons_append, List.nil_append]
   refine LW.q rfl (Qt.len (e := 5) (sz := 1) (by kernel_rfl) rfl) ?_
   refine LW.q rfl (Qt.gtr rfl rfl) ?_
   refine LW.done ?_
   have hstep : wipeD W al D' n (W.count - n) = wipeD W al (if ((al.take ((n + 1) * 256)).drop lo).all (· == 0) then D' else D'.write (W.first + n) (secW W.st n)) (n + 1) (W.count - (n + 1)) := by rw [show W.count - n = (W.count - (n + 1)) + 1 by omega, wipeD, hlo]
   refine T.condP rfl (fun hpos => ?_) (fun hpos => ?_)
   ·
    rw [if_neg (by intro h; have := hz.2 (by simpa using h); omega)] at hstep
    refine T.region ?_
    refine LW.q rfl (Qt.move rfl) ?_
    refine LW.q rfl (Qt.move rfl) ?_
    refine LW.e rfl (Ef.call (Wl.lay B g b W p c hp hc D' n (by omega) (by omega) (by omega) (by omega) (by omega)) Tryd.func65 rfl rfl rfl ?_)
    rintro _ _ ⟨rfl, rfl⟩
    try simp only [List.cons_append, List.nil_append]
    refine LW.done ?_
    refine T.region ?_
    refine LW.q rfl (Qt.move rfl) ?_
    refine LW.q rfl (Qt.add rfl rfl (wr64 (by omega) (by omega))) ?_
    refine LW.q rfl (Qt.assign rfl) ?_
    refine LW.done ?_
    refine ⟨_, ?_, _, ⟨_, n + 1, D'.write (W.first + n) (secW W.st n), ⟨by omega, by omega, hs', by simp [DD.write]; omega, by rw [← hstep]; exact hlay⟩, rfl, (updS rfl (updS rfl (updS rfl rfl))), rfl⟩, Sub.any⟩
    first | omega | (simp; omega)
   ·
    rw [if_pos (by simpa using hz.1 (by omega))] at hstep
    refine T.skip ?_
    refine T.region ?_
    refine LW.q rfl (Qt.move rfl) ?_
    refine LW.q rfl (Qt.add rfl rfl (wr64 (by omega) (by omega))) ?_
    refine LW.q rfl (Qt.assign rfl) ?_
    refine LW.done ?_
    refine ⟨_, ?_, _, ⟨_, n + 1, D', ⟨by omega, by omega, hs', by omega, by rw [← hstep]; exact hlay⟩, rfl, (updS rfl (updS rfl (updS rfl rfl))), rfl⟩, Sub.any⟩
    first | omega | (simp; omega)
  ·
   obtain rfl : n = W.count := by omega
   rw [Nat.sub_self] at hlay
   obtain rfl : D' = wipeD W al D (W.dur / 256) (W.count - W.dur / 256) := hlay
   refine T.exit ?_
   refine T.region ?_
   refine LW.q rfl (Qt.move rfl) ?_
   refine LW.q rfl (Qt.nilCheck rfl) ?_
   refine LW.q rfl (Qt.fieldAddr0 (by kernel_rfl) rfl) ?_
   refine LW.q rfl (Qt.fieldAddr0 (by kernel_rfl) rfl) ?_
   first | refine LW.q rfl (Qt.load (by kernel_rfl) rfl rfl) ?_ | refine LW.q rfl (Qt.load (by kernel_rfl) rfl (map_at _ _ _ (by omega))) ?_ | refine LW.q rfl (Qt.load (by kernel_rfl) rfl (flat_cell0 _ _ _ (by intros; rfl) _ (by omega) (by rfl))) ?_ | refine LW.q rfl (Qt.load (by kernel_rfl) rfl (flat_cell _ _ _ (by intros; rfl) _ _ (by omega) (by rfl))) ?_ | refine LW.q rfl (Qt.load (by kernel_rfl) rfl (bytes_at _ _ (by omega))) ?_
   refine LW.e rfl (Ef.call (Dk.syncF B b (wipeD W al D (W.dur / 256) (W.count - W.dur / 256)) (by omega)) Tryd.func43 rfl rfl rfl ?_)
   rintro _ _ ⟨rfl, rfl⟩
   try simp only [List.cons_append, List.nil_append]
   refine LW.done ?_
   exact ⟨.inr rfl, _, _, res [] rfl trivial, ⟨rfl, rfl⟩, Sub.any⟩
end Go.Proofs.YtegohgaccmkigaaDoor

/- bytes.Clone. Conditions: that what is handed in can be read. -/
set_option linter.unusedSimpArgs false
set_option linter.unusedVariables false
namespace Go.Proofs.YtegohgaccmkigaaDoor
open Go.RowKit

set_option maxHeartbeats 1000000 in
set_option maxRecDepth 100000 in
theorem Bc.clone (B : Base) (S : List Assn) (v : Value) (b : List UInt8) (m : Nat) (hm : b.length = m) (hv : RdV B S v (bytesV b)) (hb : m < 2 ^ 40) : Fn Tryd.prog B 37 #[v] S (fun u l => ∃ p c, u = .slice p m c ∧ (0 < m → ∃ g, p = some ⟨g, 0, none⟩) ∧ l = rB (.slice p m c) m b :: S) := by
 subst hm
 obtain ⟨a, c, rfl⟩ := hv.form (m := b.length) (by simp)
 refine Fn.enter1 8 Tryd.func37 rfl rfl (Nat.le_of_ble_eq_true rfl) (fun F => ?_)
 try simp only [List.cons_append, List.nil_append]
 refine T.seq ?_
 refine T.region ?_
 refine LW.q rfl (Qt.assign rfl) ?_
 refine LW.done ?_
 refine T.seq ?_
 refine T.seq ?_
 refine T.region ?_
 refine LW.q rfl (Qt.move rfl) ?_
 refine LW.q rfl (Qt.eqlSl (by kernel_rfl) rfl rfl) ?_
 refine LW.done ?_
 refine T.cond rfl (fun h => ?_) (fun h => ?_)
 ·
  have hb0 : b = [] := by rcases Nat.eq_zero_or_pos b.length with h0 | h0; exact List.eq_nil_of_length_eq_zero h0; obtain ⟨g, o, rfl, _⟩ := hv.at h0; cases h
  subst hb0
  refine T.conv (l' := rB (.slice none ([] : List UInt8).length 0) ([] : List UInt8).length [] :: (S ++ F)) (fun w ho => ho.row_nil _ _) ?_
  refine T.seq ?_
  refine T.region ?_
  refine LW.q rfl (Qt.assign rfl) ?_
  refine LW.done ?_
  refine T.ret ?_
  exact ⟨.inl rfl, _, _, res [_] rfl ⟨rvT rfl, trivial⟩, ⟨none, 0, rfl, fun h => by simp at h, rfl⟩, Sub.any⟩
 ·
  refine T.skip ?_
  refine T.seq ?_
  refine T.region ?_
  refine LW.e rfl (Ef.empty Cd.elemB ?_)
  rintro g5
  try simp only [List.cons_append, List.nil_append]
  refine LW.q rfl (Qt.move rfl) ?_
  refine LW.e rfl (Ef.append Cd.elemB rfl rfl (SrcOf.rd (m := b.length) (hv.mono (fun w ho => ho.tl.drop)) (by kernel_rfl) (by simp) one_bytesV) (by unfold maxLen; omega) (by omega) ?_)
  rintro p1 c1 hp1
  try simp only [List.cons_append, List.nil_append]
  simp only [Nat.zero_add, List.nil_append]
  refine LW.q rfl (Qt.assign rfl) ?_
  refine LW.done ?_
  refine T.ret ?_
  exact ⟨.inl rfl, _, _, res [_] rfl ⟨rvT rfl, trivial⟩, ⟨_, _, rfl, fun h => hp1 (by omega), rfl⟩, Sub.any⟩
end Go.Proofs.YtegohgaccmkigaaDoor

/- The package wal: what Open finds; Open refused. Conditions: none. -/
set_option linter.unusedSimpArgs false
set_option linter.unusedVariables false
namespace Go.Proofs.YtegohgaccmkigaaDoor
open Go.RowKit

/-- The record that begins at k, by the sum ahead of it: its length, its sum. -/
def takeRec (al : List UInt8) (k : Nat) (s : UInt32) : Option (Nat × UInt32) :=
  if (al.drop k).length < 8 then none
  else if (get64 ((al.drop k).take 4)).toNat = 0 ∨ 1024 < (get64 ((al.drop k).take 4)).toNat ∨ (al.drop k).length - 8 < (get64 ((al.drop k).take 4)).toNat ∨ sealW s k (((al.drop k).take (8 + (get64 ((al.drop k).take 4)).toNat)).drop 8) ≠ (get64 (((al.drop k).take 8).drop 4)).toUInt32 then none
  else some ((get64 ((al.drop k).take 4)).toNat, (get64 (((al.drop k).take 8).drop 4)).toUInt32)
/-- The records from k on: where they end, the last one's sum, each one's end and bytes. -/
def scanW (al : List UInt8) : Nat → Nat → UInt32 → Nat × UInt32 × List (Nat × List UInt8)
  | 0, k, s => (k, s, [])
  | f + 1, k, s => match takeRec al k s with
    | none => (k, s, [])
    | some (n, s') => ((scanW al f (k + (8 + n)) s').1, (scanW al f (k + (8 + n)) s').2.1, (k + (8 + n), ((al.drop k).take (8 + n)).drop 8) :: (scanW al f (k + (8 + n)) s').2.2)
theorem wru32_u64 (x : UInt64) : IntKind.u32.wrap (x.toNat : Int) = (x.toUInt32.toNat : Int) := by
  simp [IntKind.wrap, IntKind.bits, IntKind.signed]

end Go.Proofs.YtegohgaccmkigaaDoor
