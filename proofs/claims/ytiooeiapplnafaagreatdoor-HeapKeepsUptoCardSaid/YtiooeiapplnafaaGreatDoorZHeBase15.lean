/- The texts SpE HgB HgA, one behind the other: what the law leans on. Conditions: as each theorem says. -/
import Derived.Test.YtiooeiapplnafaaGreatDoorZHeBase14
import Derived.Laws.StructEq
/- Structs compared. Conditions: none. -/
set_option linter.unusedSimpArgs false
set_option linter.unusedVariables false
namespace Go.Proofs.YtiooeiapplnafaaGreatDoor
open Go.RowKit
section
variable {P : Program} {B : Base} {n : Nat} {S : List Assn} {f : Fr} {d : Option Tmp} {ty : TypeId} {pos : String} {af : Array Edge} {gd : Option (Nat × Bool)}
/-- That structs of a type are compared so. -/
def EqSt (P : Program) (t : TypeId) (xs ys : Array Value) (r : Bool) : Prop := (P.eqGuardType P.depth t = false) ∧ ∀ w, (Op.equalIn 10000 t (.agg xs) (.agg ys)).run P w = .ok r w
theorem Qt.neqSt {t t2 : TypeId} {x y : Operand} {xs ys : Array Value} {r : Bool} (h : EqSt P t xs ys r) (hx : ev n f x = some (.agg xs)) (hy : ev n f y = some (.agg ys)) : Qt P B n S ⟨d, .binOp .neq t x y t2, ty, pos, af, gd⟩ f (.bool (!r)) := ⟨fun w _ => by
  simp [execOp, evu_eq hx, evu_eq hy, run_eqGuard_agg w _ t x y xs ys h.1, run_neq_struct, h.2 w]⟩
theorem part_int {t : TypeId} {k : IntKind} (hu : P.underlying t = some (.int k)) {cs : Array Value} {off : Nat} {v : Value} (h : cs[off]? = some v) (w : World) : (part t cs off).run P w = .ok v w := by
  simp [part, isAgg, run_underlying hu, h]
theorem eqF_int {d : Nat} {g : Field} {fs : List Field} {k : IntKind} {xs ys : Array Value} {a b : Int} (w : World) (hn : (decide (g.name ≠ "_")) = true) (hu : P.underlying g.type = some (.int k)) (hx : xs[g.offset]? = some (.int k a)) (hy : ys[g.offset]? = some (.int k b)) :
    (Op.eqFields (d + 1) xs ys (g :: fs)).run P w = if a = b then (Op.eqFields (d + 1) xs ys fs).run P w else .ok false w := by
  rw [Op.eqFields, if_pos (of_decide_eq_true hn)]
  simp only [Sem.run_bind, part_int hu hx, part_int hu hy, Result.andThen_ok, run_equalIn_int w d _ k k a b hu, Sem.run_ite]
  by_cases e : a = b
  · subst e; simp
  · simp [e]
theorem eqF_nil {d : Nat} {xs ys : Array Value} (w : World) : (Op.eqFields d xs ys []).run P w = .ok true w := by simp [Op.eqFields]
theorem fieldsOf_eq {t : TypeId} {fs : Array Field} (h : P.underlying t = some (.struct fs)) : P.fieldsOf t = fs := by unfold Program.fieldsOf; rw [h]
end
theorem EqSt.mk' {P : Program} {t : TypeId} {fs : List Field} {xs ys : Array Value} {r : Bool} (hg : (P.eqGuardType P.depth t = false)) (hu : P.underlying t = some (.struct fs.toArray)) (hp : P.stoodInHeld t = false) (h : ∀ d w, (Op.eqFields (d + 1) xs ys fs).run P w = .ok r w) : EqSt P t xs ys r := by
  refine ⟨hg, fun w => ?_⟩
  have hf := fieldsOf_eq hu
  obtain ⟨d, hd⟩ : ∃ d : Nat, 10000 = d + 1 + 1 := ⟨9998, rfl⟩
  rw [hd, run_equalIn_struct w (d + 1) t xs ys (by rw [hf]; exact hu) hp, hf]
  exact h d w
theorem eqRid (a b c d : Int) : EqSt Tryz.prog 39 #[.int .i64 a, .int .i64 b] #[.int .i64 c, .int .i64 d] (decide (a = c ∧ b = d)) := by
  refine EqSt.mk' (by kernel_rfl) Tryz.underlying39 (by kernel_rfl) fun d0 w => ?_
  refine Eq.trans (eqF_int w (a := a) (b := c) rfl Tryz.underlying3 rfl rfl) ?_
  by_cases h : a = c
  · rw [if_pos h]
    refine Eq.trans (eqF_int w (a := b) (b := d) rfl Tryz.underlying3 rfl rfl) ?_
    by_cases h2 : b = d
    · rw [if_pos h2, eqF_nil]; simp [h, h2]
    · rw [if_neg h2]; simp [h2]
  · rw [if_neg h]; simp [h]
end Go.Proofs.YtiooeiapplnafaaGreatDoor

/- Versions that All tells, read. Conditions: none. -/
set_option linter.unusedSimpArgs false
set_option linter.unusedVariables false
namespace Go.Proofs.YtiooeiapplnafaaGreatDoor
open Go.RowKit
theorem Own.vm_owns {B : Base} {w : World} {l : List Assn} {L : List VerM} (ho : Own B w (vmsA L :: l)) {j : Nat} {x : VerM} (hx : L[j]? = some x) : w.ownsRow 0 5 1 (.slice x.p (16 + x.v.data.length) x.c) (16 + x.v.data.length) (bytesV x.raw) := by
  obtain ⟨h, _, hl, h1, _, _, a1, _, hA, _⟩ := ho.has
  obtain ⟨k, hk, e⟩ := Has.getL (l := L.map vmA) (j := j) (A := vmA x) (by simp [hx]) hA
  have le : ∀ g o, k g = some o → w.heap[g]? = some o := fun g o e => hl.p _ _ (a1.p _ _ (hk.p _ _ e))
  exact ⟨e.1, e.2.imp id fun ⟨g, cap, cur, e1, e2, e3⟩ => ⟨g, cap, cur, e1, Nat.zero_le _, le _ _ e2, e3⟩⟩
/-- The versions' bytes are there. -/
def VmsOk (L : List VerM) : Prop := ∀ (j : Nat) (x : VerM), L[j]? = some x → x.Ok ∧ (∃ g, x.p = some ⟨g, 0, none⟩) ∧ 16 + x.v.data.length ≤ x.c
theorem Own.vmsOk {B : Base} {w : World} {l : List Assn} {L : List VerM} (ho : Own B w (vmsA L :: l)) (hL : ∀ x ∈ L, x.Ok) : VmsOk L := fun j x hx => by
  have h := ho.vm_owns hx
  refine ⟨hL x (List.mem_of_getElem? hx), ?_, owns_cap h⟩
  rcases h.2 with ⟨_, h2⟩ | ⟨g, cap, cur, h2, _⟩
  · omega
  · injection h2 with h2; exact ⟨g, h2⟩
theorem RdV.ver {B : Base} {L : List VerM} (h : VmsOk L) {j : Nat} {x : VerM} (hx : L[j]? = some x) : RdV B [vmsA L] (.slice (offA x.p x.c 16 1) x.v.data.length (x.c - 16)) (bytesV x.v.data) := by
  obtain ⟨h1, h2, h3⟩ := h j x hx
  have h0 : RdV B [vmsA L] (.slice x.p (16 + x.v.data.length) x.c) (bytesV x.raw) := RdV.ofRow (e := 5) (fun w ho => ho.vm_owns hx) (by simp [h1.1]) (fun _ => h2)
  have := h0.dropB 16 (by omega) h1.1 h3
  rw [h1.2, show 16 + x.v.data.length - 16 = x.v.data.length by omega] at this
  exact this
theorem ver_at {L : List VerM} {j : Nat} {x : VerM} (hx : L[j]? = some x) (k : Nat) (hk : k < 5) {v : Value} (hv : (vmC x)[k]? = some v) : (L.flatMap vmC)[0 + j * 5 + k]? = some v := by
  obtain ⟨hj, hc⟩ := List.getElem?_eq_some_iff.1 hx
  exact flat_cell vmC 5 L (fun _ _ => rfl) j k hj (by rw [hc]; exact hv)
end Go.Proofs.YtiooeiapplnafaaGreatDoor

/- The statements of the package heap: opened, awake. Conditions: none. -/
set_option linter.unusedSimpArgs false
set_option linter.unusedVariables false
namespace Go.Proofs.YtiooeiapplnafaaGreatDoor
open Go.RowKit
theorem histNil (p r : Nat) : HistOk p r [] := fun k e h => by simp at h
theorem Hp.opened (B : Base) (N logs count n : Nat) (i j k : Int) (hi : i = N) (hj : j = logs) (hk : k = n) (h1 : 1 ≤ logs) (hc : 1 ≤ count) (hN : N = logs + count) (hN2 : N ≤ 4096) (hn1 : 1 ≤ n) (hn2 : n ≤ 4096) :
    Fn Tryz.prog B 16 #[.int .i64 i, .int .i64 j, .int .i64 k] [] (fun u l => ∃ b g, u = .tuple #[pV b, pV g, .int .i64 0] ∧ l = [hpA g b logs count n count (newR count (logs * 256))]) := by
  subst hi; subst hj; subst hk
  refine Fn.enter3 32 Tryz.func16 rfl rfl (Nat.le_of_ble_eq_true rfl) (fun F => ?_)
  try simp only [List.cons_append, List.nil_append]
  refine T.seq ?_
  refine T.region ?_
  refine LW.q rfl (Qt.assign rfl) ?_
  refine LW.q rfl (Qt.assign rfl) ?_
  refine LW.q rfl (Qt.assign rfl) ?_
  refine LW.done ?_
  refine T.seq ?_
  refine T.region ?_
  refine LW.q rfl (Qt.move rfl) ?_
  refine LW.e rfl (Ef.call (Dk.newF B N N rfl (by omega) (by omega)) Tryz.func57 rfl rfl rfl ?_)
  rintro _ _ ⟨b, rfl, rfl⟩
  try simp only [List.cons_append, List.nil_append]
  refine LW.q rfl (Qt.move rfl) ?_
  refine LW.q rfl (Qt.extr rfl rfl) ?_
  refine LW.q rfl (Qt.extr rfl rfl) ?_
  refine LW.q rfl (Qt.assign rfl) ?_
  refine LW.q rfl (Qt.assign rfl) ?_
  refine LW.done ?_
  refine T.seq ?_
  refine T.seq ?_
  refine T.region ?_
  refine LW.q rfl (Qt.move rfl) ?_
  refine LW.q rfl (Qt.eqlNil (by kernel_rfl) rfl rfl) ?_
  refine LW.done ?_
  refine T.condF rfl ?_
  refine T.skip ?_
  refine T.seq ?_
  refine T.region ?_
  refine LW.q rfl (Qt.move rfl) ?_
  refine LW.q rfl (Qt.move rfl) ?_
  refine LW.q rfl (Qt.move rfl) ?_
  refine LW.e rfl (Ef.call (Hp.open B b ⟨List.replicate N zs, []⟩ logs count n 0 logs n rfl rfl [] h1 hc (by simp; omega) hn1 hn2 (by simp) (histNil _ _) (scan_secs (ds := []) (Secs.new (by omega)) (by simp) (by simp [logB])) (by simp [lastE]) (by simp; omega)) Tryz.func37 rfl rfl rfl ?_)
  rintro _ _ ⟨g, p1, p2, p3, c1, c2, c3, rfl, rfl⟩
  try simp only [List.cons_append, List.nil_append]
  rw [show (0 : Nat) + count + ([] : List En).length = count by simp, show reopen count (logs * 256) [] = newR count (logs * 256) from rfl]
  refine LW.q rfl (Qt.move rfl) ?_
  refine LW.q rfl (Qt.extr rfl rfl) ?_
  refine LW.q rfl (Qt.extr rfl rfl) ?_
  refine LW.q rfl (Qt.extr rfl rfl) ?_
  refine LW.e rfl (Ef.alloc [.slice none 0 0, .slice none 0 0, .slice none 0 0, .int .i64 0] (by unfold zeroB; kernel_rfl) ?_)
  intro g12
  refine LW.q rfl (Qt.assign rfl) ?_
  refine LW.e0 rfl (Ef.store [_, _, _, _] (by kernel_rfl) rfl rfl rfl rfl (by simp) ?_)
  try simp only [splice, List.length_cons, List.length_nil, List.drop_succ_cons, List.cons_append, List.take_succ_cons, List.take_zero, List.drop_zero, List.nil_append, List.append_nil]
  refine LW.q rfl (Qt.assign rfl) ?_
  refine LW.done ?_
  refine T.seq ?_
  refine T.region ?_
  refine LW.q rfl (Qt.move rfl) ?_
  refine LW.q rfl (Qt.move rfl) ?_
  refine LW.q rfl (Qt.move rfl) ?_
  refine LW.q rfl (Qt.assign rfl) ?_
  refine LW.q rfl (Qt.assign rfl) ?_
  refine LW.q rfl (Qt.assign rfl) ?_
  refine LW.done ?_
  refine T.ret ?_
  exact ⟨.inl rfl, _, _, res [_, _, _] rfl ⟨rvT rfl, rvT rfl, rvT rfl, trivial⟩, ⟨b, g, rfl, rfl⟩, Sub.any⟩
abbrev awS1 : HR := ⟨4, 1024, 0, [], [1], [], 1, []⟩
abbrev awE1 : En := ⟨1, 1, 0, 0, 0, [97]⟩
abbrev awE2 : En := ⟨3, 1, 0, 0, 5, []⟩
abbrev awE3 : En := ⟨1, 2, 0, 1, 0, [98]⟩
abbrev awS2 : HR := ⟨4, 1024, 21, [⟨0, 0, 1, 0, [97]⟩], [1], [], 1, [awE1]⟩
abbrev awS3 : HR := ⟨4, 1024, 46, [⟨0, 0, 1, 0, [97]⟩], [], [(1, 5)], 1, [awE1, awE2]⟩
abbrev awS4 : HR := ⟨4, 1024, 46, [⟨0, 0, 1, 0, [97]⟩], [2], [(1, 5)], 2, [awE1, awE2]⟩
abbrev awS5 : HR := ⟨4, 1024, 67, [⟨0, 0, 1, 0, [97]⟩, ⟨0, 1, 2, 0, [98]⟩], [2], [(1, 5)], 2, [awE1, awE2, awE3]⟩
theorem aw1 : beginR (newR 4 (4 * 256)) = awS1 := rfl
theorem aw2 : addR' awS1 1 [97] = (awS2, 0, 0, 0) := by kernel_rfl
theorem aw3 : commitR awS2 1 5 = (awS3, 0) := by kernel_rfl
theorem aw4 : beginR awS3 = awS4 := rfl
theorem aw5 : addR' awS4 2 [98] = (awS5, 0, 1, 0) := by kernel_rfl
theorem aw6 : allR awS5 = [⟨0, 0, 1, 0, [97]⟩, ⟨0, 1, 2, 0, [98]⟩] := by kernel_rfl
theorem RdV.one {B : Base} {g : Nat} {t : TypeId} {z : Nat × Nat} (x : UInt8) : RdV B [fblk g [.int .u8 x.toNat] t z] (.slice (some ⟨g, 0, none⟩) 1 1) (bytesV [x]) :=
  ⟨_, 1, rfl, .inr ⟨g, 0, rfl, fun w ho => ho.range (g := g) (C := [.int .u8 x.toNat]) (fun j u hj => by rw [Nat.zero_add]; exact hj)⟩⟩
theorem one_map {L : List VerM} {v : Ver} (h : L.map (·.v) = [v]) : ∃ x, L = [x] ∧ x.v = v := by
  match L, h with
  | [x], h => exact ⟨x, rfl, by simpa using h⟩
set_option maxHeartbeats 4000000 in
set_option maxRecDepth 100000 in
theorem Hp.awake (B : Base) : Fn Tryz.prog B 15 #[] [] (fun v l => v = .bool true ∧ l = []) := by
  refine Fn.enter0 109 Tryz.func15 rfl rfl (Nat.le_of_ble_eq_true rfl) (fun F => ?_)
  try simp only [List.cons_append, List.nil_append]
  refine T.seq ?_
  refine T.region ?_
  refine LW.q rfl (Qt.assign rfl) ?_
  refine LW.done ?_
  refine T.seq ?_
  refine T.region ?_
  refine LW.e rfl (Ef.call (Hp.opened B 8 4 4 2 8 4 2 rfl rfl rfl (by omega) (by omega) rfl (by omega) (by omega) (by omega)) Tryz.func16 rfl rfl rfl ?_)
  rintro _ _ ⟨b, g, rfl, rfl⟩
  try simp only [List.cons_append, List.nil_append]
  refine LW.q rfl (Qt.move rfl) ?_
  refine LW.q rfl (Qt.extr rfl rfl) ?_
  refine LW.q rfl (Qt.extr rfl rfl) ?_
  refine LW.q rfl (Qt.extr rfl rfl) ?_
  refine LW.q rfl (Qt.assign rfl) ?_
  refine LW.q rfl (Qt.assign rfl) ?_
  refine LW.q rfl (Qt.assign rfl) ?_
  refine LW.done ?_
  refine T.seq ?_
  refine T.seq ?_
  refine T.region ?_
  refine LW.q rfl (Qt.move rfl) ?_
  refine LW.q rfl (Qt.eqlNil (by kernel_rfl) rfl rfl) ?_
  refine LW.q rfl (Qt.move rfl) ?_
  refine LW.gF (t := 18) rfl rfl ?_
  refine LW.q rfl (Qt.move rfl) ?_
  refine LW.q rfl (Qt.eqlNil (by kernel_rfl) rfl rfl) ?_
  refine LW.q rfl (Qt.pick rfl rfl) ?_
  refine LW.q rfl (Qt.move rfl) ?_
  refine LW.gF (t := 22) rfl rfl ?_
  refine LW.q rfl (Qt.move rfl) ?_
  refine LW.q rfl (Qt.neq rfl rfl) ?_
  refine LW.q rfl (Qt.pick rfl rfl) ?_
  refine LW.done ?_
  refine T.condF rfl ?_
  refine T.skip ?_
  refine T.seq ?_
  refine T.region ?_
  refine LW.q rfl (Qt.move rfl) ?_
  refine LW.q rfl (Qt.nilCheck rfl) ?_
  refine LW.q rfl (Qt.fieldAddr0 (by kernel_rfl) rfl) ?_
  refine LW.e rfl (Ef.call (Hp.begin B g b 4 4 2 4 (newR 4 (4 * 256)) (by omega)) Tryz.func17 rfl rfl rfl ?_)
  rintro _ _ ⟨rfl, rfl⟩
  try simp only [List.cons_append, List.nil_append]
  rw [aw1, show (newR 4 (4 * 256)).last + 1 = 1 from rfl]
  refine LW.q rfl (Qt.assign rfl) ?_
  refine LW.done ?_
  refine T.seq ?_
  refine T.region ?_
  refine LW.q rfl (Qt.move rfl) ?_
  refine LW.q rfl (Qt.move rfl) ?_
  refine LW.e rfl (Ef.one [_] (e := 5) (sz := 1) (by kernel_rfl) ⟨.int .u8 0, by kernel_rfl, rfl⟩ rfl rfl rfl (by omega) (by omega) ?_)
  intro g33
  refine LW.e rfl (Ef.mark (by kernel_rfl) rfl ?_)
  refine LW.e rfl (Ef.call (Hp.add B [fblk g33 [.int .u8 97] 5 (1, 2)] g b 4 4 2 5 awS1 (by omega) 1 (some ⟨g33, 0, none⟩) 1 [97] (RdV.one 97) (by simp)) Tryz.func18 rfl rfl rfl ?_)
  rintro _ _ ⟨rfl, rfl⟩
  try simp only [List.cons_append, List.nil_append]
  rw [aw2]
  refine LW.q rfl (Qt.move rfl) ?_
  refine LW.q rfl (Qt.extr rfl rfl) ?_
  refine LW.q rfl (Qt.extr rfl rfl) ?_
  refine LW.e rfl (Ef.alloc [.int .i64 0, .int .i64 0] (by unfold zeroB; kernel_rfl) ?_)
  intro g5
  refine LW.e0 rfl (Ef.store [_, _] (by kernel_rfl) rfl rfl rfl rfl (by simp) ?_)
  try simp only [splice, List.length_cons, List.length_nil, List.drop_succ_cons, List.cons_append, List.take_succ_cons, List.take_zero, List.drop_zero, List.nil_append, List.append_nil]
  refine LW.q rfl (Qt.assign rfl) ?_
  refine LW.done ?_
  refine T.seq ?_
  refine T.region ?_
  refine LW.q rfl (Qt.move rfl) ?_
  refine LW.q rfl (Qt.move rfl) ?_
  refine LW.e rfl (Ef.call (Hp.commit B g b 4 4 2 10 awS2 (by omega) 1 5 (by simp)) Tryz.func20 rfl rfl rfl ?_)
  rintro _ _ ⟨rfl, rfl⟩
  try simp only [List.cons_append, List.nil_append]
  rw [aw3]
  refine LW.q rfl (Qt.assign rfl) ?_
  refine LW.done ?_
  refine T.seq ?_
  refine T.region ?_
  refine LW.q rfl (Qt.move rfl) ?_
  refine LW.q rfl (Qt.nilCheck rfl) ?_
  refine LW.q rfl (Qt.fieldAddr0 (by kernel_rfl) rfl) ?_
  refine LW.e rfl (Ef.call (Hp.begin B g b 4 4 2 10 awS3 (by omega)) Tryz.func17 rfl rfl rfl ?_)
  rintro _ _ ⟨rfl, rfl⟩
  try simp only [List.cons_append, List.nil_append]
  rw [aw4, show awS3.last + 1 = 2 from rfl]
  refine LW.q rfl (Qt.assign rfl) ?_
  refine LW.done ?_
  refine T.seq ?_
  refine T.region ?_
  refine LW.q rfl (Qt.move rfl) ?_
  refine LW.q rfl (Qt.move rfl) ?_
  refine LW.e rfl (Ef.one [_] (e := 5) (sz := 1) (by kernel_rfl) ⟨.int .u8 0, by kernel_rfl, rfl⟩ rfl rfl rfl (by omega) (by omega) ?_)
  intro g47
  refine LW.e rfl (Ef.mark (by kernel_rfl) rfl ?_)
  refine LW.e rfl (Ef.call (Hp.add B [fblk g47 [.int .u8 98] 5 (1, 2)] g b 4 4 2 11 awS4 (by omega) 2 (some ⟨g47, 0, none⟩) 1 [98] (RdV.one 98) (by simp)) Tryz.func18 rfl rfl rfl ?_)
  rintro _ _ ⟨rfl, rfl⟩
  try simp only [List.cons_append, List.nil_append]
  rw [aw5]
  refine LW.done ?_
  refine T.seq ?_
  refine T.seq ?_
  refine T.region ?_
  refine LW.q rfl (Qt.move rfl) ?_
  refine LW.q rfl (Qt.neq rfl rfl) ?_
  refine LW.q rfl (Qt.move rfl) ?_
  refine LW.gF (t := 52) rfl rfl ?_
  refine LW.q rfl (Qt.move rfl) ?_
  refine LW.q rfl (Qt.neq rfl rfl) ?_
  refine LW.q rfl (Qt.pick rfl rfl) ?_
  refine LW.q rfl (Qt.move rfl) ?_
  refine LW.gF (t := 56) rfl rfl ?_
  refine LW.q rfl (Qt.loadAgg [_, _] (by kernel_rfl) rfl ⟨rfl, rfl, trivial⟩) ?_
  refine LW.q rfl (Qt.build [(0, 1), (1, 1)] [.int .i64 0, .int .i64 0] [_, _] [] (by kernel_rfl) (by unfold zeroB; kernel_rfl) rfl rfl) ?_
  refine LW.q rfl (Qt.neqSt (eqRid 0 0 0 0) rfl rfl) ?_
  refine LW.q rfl (Qt.pick rfl rfl) ?_
  refine LW.q rfl (Qt.move rfl) ?_
  refine LW.gF (t := 61) rfl rfl ?_
  refine LW.q rfl (Qt.move rfl) ?_
  refine LW.e rfl (Ef.call (Hp.all B g b 4 4 2 16 awS5 (by omega)) Tryz.func19 rfl rfl rfl ?_)
  rintro _ _ ⟨L, p, c, hL1, hL2, rfl, rfl⟩
  try simp only [List.cons_append, List.nil_append]
  rw [aw6] at hL2
  have hLl : L.length = 2 := by simpa using congrArg List.length hL2
  rw [hLl]
  refine LW.q rfl (Qt.len (e := 45) (sz := 5) (by kernel_rfl) rfl) ?_
  refine LW.q rfl (Qt.neq rfl rfl) ?_
  refine LW.q rfl (Qt.pick rfl rfl) ?_
  refine LW.done ?_
  refine T.condF rfl ?_
  refine T.skip ?_
  refine T.seq ?_
  refine T.region ?_
  refine LW.q rfl (Qt.move rfl) ?_
  refine LW.e rfl (Ef.call (Hp.crash B g b 4 4 2 20 awS5 (by omega) (.slice none 0 0) [] (-1) 0 (RoS.nil B)) Tryz.func32 rfl rfl rfl ?_)
  rintro _ _ ⟨D, k, ⟨hh, hk, hc, hs, hd, ho, hp⟩, rfl, rfl⟩
  try simp only [List.cons_append, List.nil_append]
  refine LW.done ?_
  refine T.seq ?_
  refine T.region ?_
  refine LW.q rfl (Qt.move rfl) ?_
  have hk2 : k = 2 ∨ k = 3 := by
    have h1 : k ≤ 3 := hk
    have h2 : ¬ k ≤ 1 := fun h => hc 1 awE2 h rfl rfl
    omega
  have hlast : lastE (awS5.es.take k) ≤ 2 := by rcases hk2 with rfl | rfl <;> decide
  have hlen : (awS5.es.take k).length ≤ 3 := by rw [List.length_take]; exact Nat.min_le_right ..
  have hall : allR (reopen 4 (4 * 256) (awS5.es.take k)) = [⟨0, 0, 1, 0, [97]⟩] := by rcases hk2 with rfl | rfl <;> kernel_rfl
  have hcm : (anRun ((awS5.es.take k).zip (mksOf (awS5.es.take k)))).cm = [(1, 5)] := by rw [an_cm hh]; rcases hk2 with rfl | rfl <;> kernel_rfl
  refine LW.e rfl (Ef.call (Hp.open B b D 4 4 2 2 4 2 rfl rfl (awS5.es.take k) (by omega) (by omega) hd (by omega) (by omega) (by rw [hp]; simp) hh hs hlast (by omega)) Tryz.func37 rfl rfl rfl ?_)
  rintro _ _ ⟨g2, p1, p2, p3, c1, c2, c3, rfl, rfl⟩
  try simp only [List.cons_append, List.nil_append]
  rw [hcm]
  refine LW.q rfl (Qt.move rfl) ?_
  refine LW.q rfl (Qt.extr rfl rfl) ?_
  refine LW.q rfl (Qt.extr rfl rfl) ?_
  refine LW.q rfl (Qt.extr rfl rfl) ?_
  refine LW.e rfl (Ef.alloc [.slice none 0 0, .slice none 0 0, .slice none 0 0, .int .i64 0] (by unfold zeroB; kernel_rfl) ?_)
  intro g9
  refine LW.q rfl (Qt.assign rfl) ?_
  refine LW.e0 rfl (Ef.store [_, _, _, _] (by kernel_rfl) rfl rfl rfl rfl (by simp) ?_)
  try simp only [splice, List.length_cons, List.length_nil, List.drop_succ_cons, List.cons_append, List.take_succ_cons, List.take_zero, List.drop_zero, List.nil_append, List.append_nil]
  refine LW.q rfl (Qt.assign rfl) ?_
  refine LW.done ?_
  refine T.seq ?_
  refine T.seq ?_
  refine T.region ?_
  refine LW.q rfl (Qt.move rfl) ?_
  refine LW.q rfl (Qt.eqlNil (by kernel_rfl) rfl rfl) ?_
  refine LW.q rfl (Qt.move rfl) ?_
  refine LW.gF (t := 77) rfl rfl ?_
  refine LW.q rfl (Qt.move rfl) ?_
  refine LW.q rfl (Qt.neq rfl rfl) ?_
  refine LW.q rfl (Qt.pick rfl rfl) ?_
  refine LW.q rfl (Qt.move rfl) ?_
  refine LW.gF (t := 81) rfl rfl ?_
  refine LW.q rfl (Qt.fieldAddr0 (by kernel_rfl) rfl) ?_
  refine LW.q rfl (Qt.load (by kernel_rfl) rfl rfl) ?_
  refine LW.q rfl (Qt.len (e := 48) (sz := 2) (by kernel_rfl) rfl) ?_
  refine LW.q rfl (Qt.neq rfl rfl) ?_
  refine LW.q rfl (Qt.pick rfl rfl) ?_
  refine LW.done ?_
  refine T.condF rfl ?_
  refine T.skip ?_
  refine T.seq ?_
  refine T.region ?_
  refine LW.q rfl (Qt.move rfl) ?_
  refine LW.e rfl (Ef.call (Hp.all B g2 b 4 4 2 (2 + 4 + (awS5.es.take k).length) (reopen 4 (4 * 256) (awS5.es.take k)) (by omega)) Tryz.func19 rfl rfl rfl ?_)
  rintro _ _ ⟨L2, p4, c4, hL3, hL4, rfl, rfl⟩
  try simp only [List.cons_append, List.nil_append]
  rw [hall] at hL4
  obtain ⟨x, rfl, hxv⟩ := one_map hL4
  refine LW.own fun w ho => ?_
  have hvo : VmsOk [x] := (ho.map Sub.any : Own B w [vmsA [x]]).vmsOk hL3
  obtain ⟨g4, rfl⟩ : ∃ g, p4 = some ⟨g, 0, none⟩ := ((ho.map Sub.any : Own B w [vmR p4 1 c4 [x]]).slice_at (p := p4) (m := 1) (c := c4)).2.1 (by omega)
  clear ho
  have hrd := RdV.ver (B := B) hvo (j := 0) rfl
  rw [hxv] at hrd
  rw [show [x].length = 1 from rfl]
  refine LW.q rfl (Qt.assign rfl) ?_
  refine LW.done ?_
  refine T.seq ?_
  refine T.region ?_
  refine LW.q rfl (Qt.move rfl) ?_
  refine LW.q rfl (Qt.len (e := 45) (sz := 5) (by kernel_rfl) rfl) ?_
  refine LW.q rfl (Qt.eql rfl rfl) ?_
  refine LW.q rfl (Qt.move rfl) ?_
  refine LW.gT (t := 92) rfl rfl ?_
  refine LW.q rfl (Qt.move rfl) ?_
  refine LW.q rfl (Qt.index 0 (e := 45) (sz := 5) (by kernel_rfl) rfl rfl rfl (by omega)) ?_
  refine LW.q rfl (Qt.fieldAddr (off := 4) (by kernel_rfl) rfl) ?_
  refine LW.q rfl (Qt.load (v := .slice (offA x.p x.c 16 1) 1 (x.c - 16)) (by kernel_rfl) rfl (by have := ver_at (L := [x]) (j := 0) rfl 4 (by omega) rfl; rw [hxv] at this; simpa using this)) ?_
  refine LW.q rfl (Qt.str [97] (by kernel_rfl) (by kernel_rfl) rfl (fun w ho => hrd.reads w (ho.map Sub.any))) ?_
  refine LW.q rfl (Qt.eqlS rfl rfl) ?_
  refine LW.q rfl (Qt.pick rfl rfl) ?_
  refine LW.q rfl (Qt.move rfl) ?_
  refine LW.gT (t := 100) rfl rfl ?_
  refine LW.q rfl (Qt.move rfl) ?_
  refine LW.q rfl (Qt.index 0 (e := 45) (sz := 5) (by kernel_rfl) rfl rfl rfl (by omega)) ?_
  refine LW.q rfl (Qt.fieldAddr (off := 2) (by kernel_rfl) rfl) ?_
  refine LW.q rfl (Qt.load (v := .int .i64 1) (by kernel_rfl) rfl (by have := ver_at (L := [x]) (j := 0) rfl 2 (by omega) rfl; rw [hxv] at this; simpa using this)) ?_
  refine LW.q rfl (Qt.eql rfl rfl) ?_
  refine LW.q rfl (Qt.pick rfl rfl) ?_
  refine LW.q rfl (Qt.move rfl) ?_
  refine LW.q rfl (Qt.pick rfl rfl) ?_
  refine LW.q rfl (Qt.assign rfl) ?_
  refine LW.done ?_
  refine T.ret ?_
  exact ⟨.inl rfl, _, _, res [_] rfl ⟨rvT rfl, trivial⟩, ⟨rfl, rfl⟩, Sub.any⟩
end Go.Proofs.YtiooeiapplnafaaGreatDoor
