/- The texts BdD BdE BdF BeA BnRd BeB BeC, one behind the other: what the law leans on. Conditions: as each theorem says. -/
import Derived.Test.YtopbkdpbljebgaaZBindTurns4
import Derived.Recover
import Derived.Control
/- Functions with deferred calls that recover; bind.Eval. Conditions: that what is handed in can be read; sizes. -/
set_option linter.unusedSimpArgs false
set_option linter.unusedVariables false
namespace Go.Proofs.Ytopbkdpbljebgaa
open Go.RowKit

def actD (n : Nat) (f : Fr) (ds : List Deferred) : Act := ⟨tm n f, ds⟩
section
variable {P : Program} {B : Base} {n : Nat} {o : Oper} {f : Fr} {l : List Assn} {K : Value → List Assn → Prop} {ds : List Deferred}
theorem eval_actD : (actD n f ds).eval = evu n f := by
  rw [← eval_act']
  funext x
  cases x <;> rfl
theorem wp_D {a : Act} {w : World} {next : Act → World → Prop} {Q : Exit → Act → World → Prop} (ds : List Deferred) (h : o.wp P a w (fun a' w' => next ⟨a'.tmps, a'.defers ++ ds⟩ w') (fun e a' w' => Q e ⟨a'.tmps, a'.defers ++ ds⟩ w')) : o.wp P ⟨a.tmps, a.defers ++ ds⟩ w next Q := by
  unfold Oper.wp at h ⊢
  have he : (⟨a.tmps, a.defers ++ ds⟩ : Act).eval = a.eval := by funext x; cases x <;> rfl
  have hp : ∀ d v, (⟨a.tmps, a.defers ++ ds⟩ : Act).put d v = ⟨(a.put d v).tmps, (a.put d v).defers ++ ds⟩ := by intro d v; cases d <;> rfl
  rw [he]
  generalize (execOp a.eval o).run P w = r at h ⊢
  unfold Oper.upon at h ⊢
  split
  · rw [hp]; exact h
  · rw [hp]; exact h
  · rename_i d w'
    have : ({ (⟨a.tmps, a.defers ++ ds⟩ : Act) with defers := d :: (a.defers ++ ds) }.put o.dst undef) = ⟨({ a with defers := d :: a.defers }.put o.dst undef).tmps, ({ a with defers := d :: a.defers }.put o.dst undef).defers ++ ds⟩ := by cases o.dst <;> rfl
    rw [this]; exact h
  · refine Calls.mono h ?_
    intro e w' k
    cases e with
    | returned v =>
      show next ((⟨a.tmps, a.defers ++ ds⟩ : Act).put o.dst v) w'
      rw [hp]; exact k
    | panicked c => exact k
    | outgrown => obtain ⟨a0, w0, k⟩ := k; exact ⟨_, w0, k⟩
  · refine Rows.mono h ?_
    intro v w' k
    rw [hp]; exact k
  · exact h
  · rename_i h1 h2 h3 h4 h5 h6
    revert h
    split <;> simp_all
variable {ops : Array Oper} {rest : List Oper} {Q : Exit → Act → World → Prop} {w : World}
structure LD (P : Program) (ops : Array Oper) (Q : Exit → Act → World → Prop) (n : Nat) (ds : List Deferred) (rest : List Oper) (f : Fr) (w : World) : Prop where
  run : wpList P ops Q rest (actD n f ds) w
theorem LD.done (h : Q .normal (actD n f ds) w) : LD P ops Q n ds [] f w := ⟨h⟩
theorem wlq {v : Value} (hw : want n ops f o = true) (ho : Own B w l) (hq : Qt P B n l o f v) (h : LD P ops Q n ds rest (putd f o.dst v) w) : LD P ops Q n ds (o :: rest) f w := by
  constructor
  unfold wpList
  have e : Region.wanted o (yielded ops (actD n f ds).tmps) = true := (want_eq n ops f o).trans hw
  rw [e, if_pos rfl]
  refine .inl ?_
  unfold Oper.wp
  rw [eval_actD, hq.run w ho]
  have : (actD n f ds).put o.dst v = actD n (putd f o.dst v) ds := by
    have := put_act n f o.dst v
    unfold actD
    cases hd : o.dst with
    | none => rfl
    | some d => rw [hd] at this; injection this with this _; unfold Act.put; exact congrArg (Act.mk · ds) this
  show wpList P ops Q rest ((actD n f ds).put o.dst v) w
  rw [this]; exact h.run
theorem wle (hw : want n ops f o = true) (ho : Own B w l) (he : Ef P B n o f l fun v l' => ∀ w', Own B w' l' → LD P ops Q n ds rest (putd f o.dst v) w') : LD P ops Q n ds (o :: rest) f w := by
  constructor
  unfold wpList
  have e : Region.wanted o (yielded ops (actD n f ds).tmps) = true := (want_eq n ops f o).trans hw
  rw [e, if_pos rfl]
  refine .inl ?_
  refine wp_D (a := act n f) ds (he.run w _ _ ho fun v w' l' k ho' => ?_)
  rw [put_act]
  exact (k w' ho').run
theorem wld {pv : Value} {l' : List Assn} (hw : want n ops f o = true) (ho : Own B w l) (hd : Dx P B n o f l pv l') (h : ∀ w', Own B w' l' → Q (.panic (chainOf pv)) (actD n f ds) w') : LD P ops Q n ds (o :: rest) f w := by
  constructor
  unfold wpList
  have e : Region.wanted o (yielded ops (actD n f ds).tmps) = true := (want_eq n ops f o).trans hw
  rw [e, if_pos rfl]
  refine .inl ?_
  exact wp_D (a := act n f) ds (hd.run w _ _ ho fun w' ho' => h w' ho')
theorem ldDefer (hw : want n ops f o = true) (d : Deferred) (hr : ∀ w, (execOp (evu n f) o).run P w = .ok (.defer d) w) (h : LD P ops Q n (d :: ds) rest (putd f o.dst undef) w) : LD P ops Q n ds (o :: rest) f w := by
  constructor
  unfold wpList
  have e : Region.wanted o (yielded ops (actD n f ds).tmps) = true := (want_eq n ops f o).trans hw
  rw [e, if_pos rfl]
  refine .inl ?_
  unfold Oper.wp
  rw [eval_actD, hr]
  have : ({ (actD n f ds) with defers := d :: (actD n f ds).defers }.put o.dst undef) = actD n (putd f o.dst undef) (d :: ds) := by
    have := put_act n f o.dst undef
    unfold actD
    cases hd : o.dst with
    | none => rfl
    | some d' => rw [hd] at this; injection this with this _; unfold Act.put; exact congrArg (Act.mk · (d :: ds)) this
  show wpList P ops Q rest ({ (actD n f ds) with defers := d :: (actD n f ds).defers }.put o.dst undef) w
  rw [this]; exact h.run
end
/-! steps of a deferred function -/
def wlS (P : Program) (ops : Array Oper) (Q : Exit → Act → List Frame → World → Prop) : List Oper → Act → List Frame → World → Prop
  | [], a, cs, w => Q .normal a cs w
  | o :: rest, a, cs, w =>
    if Region.wanted o (yielded ops a.tmps) then
      match (execOp a.eval o).run P w with
      | .ok .recover w' =>
        match recoverD cs with
        | some (v, cs') => wlS P ops Q rest (a.put o.dst v) cs' w'
        | none => wlS P ops Q rest (a.put o.dst .nilIface) cs w'
      | r => o.upon P a (fun a' w' => wlS P ops Q rest a' cs w') (fun e a' w' => Q e a' cs w') r
    else wlS P ops Q rest (a.put o.dst undef) cs w
theorem uponNext {P : Program} {o : Oper} {a : Act} {n1 n2 : Act → World → Prop} {Q : Exit → Act → World → Prop} {r : Result Next} (hn : ∀ a w, n1 a w → n2 a w) (h : o.upon P a n1 Q r) : o.upon P a n2 Q r := by
  unfold Oper.upon at h ⊢
  split
  · exact hn _ _ h
  · exact hn _ _ h
  · exact hn _ _ h
  · refine Calls.mono h ?_
    intro e w' k
    cases e with
    | returned v => exact hn _ _ k
    | panicked c => exact k
    | outgrown => exact k
  · exact Rows.mono h fun v w' k => hn _ _ k
  · exact h
  · revert h
    split <;> simp_all
theorem wlS_ops {P : Program} {ops : Array Oper} {Q : Exit → Act → List Frame → World → Prop} : ∀ (rest : List Oper) (i : Nat) (a : Act) (cs : List Frame) (w : World), ops.toList.drop i = rest → wlS P ops Q rest a cs w → wpOpsS P ops Q (List.range' i rest.length) a cs w
  | [], _, _, _, _, _, h => h
  | o :: rest, i, a, cs, w, hd, h => by
    have hi : ops[i]? = some o := getElem?_of_drop hd
    have hd' : ops.toList.drop (i + 1) = rest := by
      rw [← List.drop_drop, hd]; rfl
    have ih := fun a cs w => wlS_ops (P := P) (Q := Q) rest (i + 1) a cs w hd'
    unfold wlS at h
    rw [List.length_cons, List.range'_succ]
    simp only [wpOpsS, hi]
    split
    · rename_i hw
      rw [if_pos hw] at h
      split
      · rename_i w' hr
        rw [hr] at h
        dsimp only at h
        split
        · rename_i v cs' hc
          rw [hc] at h
          exact ih _ _ _ h
        · rename_i hc
          rw [hc] at h
          exact ih _ _ _ h
      · rename_i hnr
        have h2 : o.upon P a (fun a' w' => wlS P ops Q rest a' cs w') (fun e a' w' => Q e a' cs w') ((execOp a.eval o).run P w) := by
          revert h
          split
          · rename_i w' hr; exact absurd hr (hnr w')
          · exact id
        exact uponNext (fun a' w' k => ih _ _ _ k) h2
    · rename_i hw
      rw [if_neg hw] at h
      exact ih _ _ _ h
theorem wpS_lit0 {P : Program} {QS : Exit → Act → List Frame → World → Prop} {ol : List Oper} {id : Nat} {a : Act} {cs : List Frame} {w : World} (h : wlS P ol.toArray QS ol a cs w) : (Code.region id ol.toArray false).wpS P QS a cs w := by
  refine wpS_region ?_
  have := wlS_ops ol 0 a cs w (by simp) h
  rwa [← List.range_eq_range'] at this
section
variable {P : Program} {B : Base} {n : Nat} {o : Oper} {f : Fr} {l : List Assn}
variable {ops : Array Oper} {rest : List Oper} {w : World}
variable {QS : Exit → Act → List Frame → World → Prop} {cs : List Frame}
structure LS (P : Program) (ops : Array Oper) (QS : Exit → Act → List Frame → World → Prop) (n : Nat) (rest : List Oper) (f : Fr) (cs : List Frame) (w : World) : Prop where
  run : wlS P ops QS rest (act n f) cs w
theorem LS.done (h : QS .normal (act n f) cs w) : LS P ops QS n [] f cs w := ⟨h⟩
theorem wosq {v : Value} (hw : want n ops f o = true) (ho : Own B w l) (hq : Qt P B n l o f v) (h : LS P ops QS n rest (putd f o.dst v) cs w) : LS P ops QS n (o :: rest) f cs w := by
  constructor
  unfold wlS
  rw [want_eq, if_pos hw, eval_act', hq.run w ho]
  show wlS P ops QS rest ((act n f).put o.dst v) cs w
  rw [put_act]; exact h.run
theorem wose (hw : want n ops f o = true) (ho : Own B w l) (he : Ef P B n o f l fun v l' => ∀ w', Own B w' l' → LS P ops QS n rest (putd f o.dst v) cs w') : LS P ops QS n (o :: rest) f cs w := by
  constructor
  unfold wlS
  rw [want_eq, if_pos hw]
  have h := he.run w (fun a' w' => wlS P ops QS rest a' cs w') (fun e a' w' => QS e a' cs w') ho (fun v w' l' k ho' => by rw [put_act]; exact (k w' ho').run)
  unfold Oper.wp at h
  split
  · rename_i w' hr
    rw [hr] at h
    exact h.elim
  · exact h
theorem wosr {rest' : List Frame} {v : Value} (hw : want n ops f o = true) (hr : (execOp (evu n f) o).run P w = .ok .recover w) (hc : recoverD cs = some (v, rest')) (h : LS P ops QS n rest (putd f o.dst v) rest' w) : LS P ops QS n (o :: rest) f cs w := by
  constructor
  unfold wlS
  rw [want_eq, if_pos hw, eval_act', hr]
  simp only [hc]
  rw [put_act]; exact h.run
theorem wosn (hw : want n ops f o = true) (hr : (execOp (evu n f) o).run P w = .ok .recover w) (hc : recoverD cs = none) (h : LS P ops QS n rest (putd f o.dst .nilIface) cs w) : LS P ops QS n (o :: rest) f cs w := by
  constructor
  unfold wlS
  rw [want_eq, if_pos hw, eval_act', hr]
  simp only [hc]
  rw [put_act]; exact h.run
end
theorem wpS_lit {P : Program} {QS : Exit → Act → List Frame → World → Prop} {ol : List Oper} {id n : Nat} {f : Fr} {cs : List Frame} {w : World} (h : LS P ol.toArray QS n ol f cs w) : (Code.region id ol.toArray false).wpS P QS (act n f) cs w := wpS_lit0 h.run
section
variable {P : Program} {B : Base} {n : Nat} {S : List Assn} {f : Fr}
variable {d : Option Tmp} {ty : TypeId} {pos : String} {af : Array Edge} {gd : Option (Nat × Bool)}
/-- An interface's value of the type asked for. -/
def plainT (P : Program) (t : TypeId) : Bool := match P.underlying t with | some (.interface _) => false | some _ => true | none => false
theorem Qt.assertY {x : Operand} {s t : TypeId} {v : Value} (ht : plainT P t = true) (hx : ev n f x = some (.iface t v)) : Qt P B n S ⟨d, .typeAssert x s t true, ty, pos, af, gd⟩ f (.tuple [v, .bool true].toArray) := ⟨fun w _ => by
  unfold plainT at ht
  split at ht
  · cases ht
  · rename_i dd n1 hu
    simp only [execOp, evu_eq hx, Instr.typeAssert, Sem.run_bind, run_underlying hu, Result.andThen_ok]
    cases dd <;> first | exact (n1 _ rfl).elim | simp
  · cases ht⟩
theorem Qt.assertN {x : Operand} {s t : TypeId} {i : TypeInfo} {z : Value} (ht : plainT P t = true) (hi : (P.info? t).bind (·.zero) = some z) (hx : ev n f x = some .nilIface) : Qt P B n S ⟨d, .typeAssert x s t true, ty, pos, af, gd⟩ f (.tuple [z, .bool false].toArray) := ⟨fun w _ => by
  unfold plainT at ht
  cases hii : P.info? t with
  | none => rw [hii] at hi; cases hi
  | some i =>
    rw [hii] at hi
    simp only [Option.bind_some] at hi
    split at ht
    · cases ht
    · rename_i dd n1 hu
      simp only [execOp, evu_eq hx, Instr.typeAssert, Sem.run_bind, run_underlying hu, Result.andThen_ok]
      cases dd <;> first | exact (n1 _ rfl).elim | simp [zeroValue, typeInfo, hii, hi]
    · cases ht⟩
end
theorem run_recover {P : Program} {n : Nat} {f : Fr} {d : Option Tmp} {ty : TypeId} {pos : String} {af : Array Edge} {gd : Option (Nat × Bool)} (w : World) : (execOp (evu n f) ⟨d, .call ⟨.builtin .recover, #[], #[]⟩, ty, pos, af, gd⟩).run P w = .ok .recover w := by
  simp [execOp, resolve, invoke, builtin]
end Go.Proofs.Ytopbkdpbljebgaa

/- The package bind: Eval, which recovers. Conditions: that what is handed in can be read; sizes. -/
set_option linter.unusedSimpArgs false
set_option linter.unusedVariables false
namespace Go.Proofs.Ytopbkdpbljebgaa
open Go.RowKit

theorem results_none {P : Program} {fn : Func} (h : fn.results = #[]) (tmps : Array Value) (w : World) : (results fn tmps).run P w = .ok (.tuple #[]) w := by
  unfold results
  rw [h]
  simp
abbrev a25 (p q : Nat) : Array Value := #[.pointer (some ⟨p, 0, none⟩), .pointer (some ⟨q, 0, none⟩)]

theorem Bd.calm (B : Base) (l : List Assn) (g4 g5 : Nat) (w : World) (ho : Own B w l) : CallsD Try.prog 25 (a25 g4 g5) .returning w fun e u' w' => e = .returned (.tuple #[]) ∧ u' = .returning ∧ Own B w' l := by
  refine callsD_of_wpS Try.func25 rfl fun c₀ cs hu => ?_
  have he : ({ tmps := a25 g4 g5 ++ Array.replicate (13 - (a25 g4 g5).size) undef, defers := [] } : Act) = act 13 _ := enter_eq [_, _] 13 (Nat.le_of_ble_eq_true rfl)
  rw [show (Func.ntmps _) = 13 from rfl, he]
  apply wpS_seq
  apply wpS_lit
  refine wosn rfl (run_recover w) (by simp [recoverD, hu]) ?_
  refine wosq rfl ho (Qt.assertN (i := default) (z := .agg [iV 0].toArray) (by kernel_rfl) (by kernel_rfl) rfl) ?_
  refine wosq rfl ho (Qt.move rfl) ?_
  refine wosq rfl ho (Qt.extr rfl rfl) ?_
  refine wosq rfl ho (Qt.extr rfl rfl) ?_
  refine wose rfl ho (Ef.alloc [iV 0] (by unfold zeroB; kernel_rfl) ?_)
  intro g w1 ho1
  refine wose rfl ho1 (Ef.store [_] (by kernel_rfl) rfl rfl rfl rfl (by simp) ?_)
  intro w2 ho2
  refine wosq rfl ho2 (Qt.assign rfl) ?_
  refine LS.done ?_
  show (Code.seq _ _).wpS _ _ _ _ _
  apply wpS_seq
  apply wpS_lit
  refine wosq rfl ho2 (Qt.move rfl) ?_
  refine LS.done ?_
  refine wpS_cond (t := false) rfl ?_
  simp only [Bool.false_eq_true, if_false]
  refine wpS_of_wp (wp_skip ?_)
  exact ⟨rfl, .returning, by cases c₀; simp only at hu; subst hu; rfl, _, results_none rfl _ _, rfl, rfl, ho2.tl⟩

theorem Bd.catch (B : Base) (l : List Assn) (g4 g5 : Nat) (C4 C5 : List Value) (h4 : C4.length = 3) (h5 : C5.length = 1) (code : Int) (w : World) (ho : Own B w (blk g5 C5 34 :: blk g4 C4 55 :: l)) : CallsD Try.prog 25 (a25 g4 g5) (.panicking (chainOf (pvC code))) w fun e u' w' => e = .returned (.tuple #[]) ∧ u' = .panicking [{ v := pvC code, recovered := true }] ∧ Own B w' (blk g5 [iV code] 34 :: blk g4 (vaC vZ) 55 :: l) := by
 obtain ⟨x, rfl⟩ : ∃ x, C5 = [x] := by
  match C5, h5 with
  | [x], _ => exact ⟨x, rfl⟩
 obtain ⟨y0, y1, y2, rfl⟩ : ∃ y0 y1 y2, C4 = [y0, y1, y2] := by
  match C4, h4 with
  | [x, y, z], _ => exact ⟨x, y, z, rfl⟩
 refine callsD_of_wpS Try.func25 rfl fun c₀ cs hu => ?_
 have he : ({ tmps := a25 g4 g5 ++ Array.replicate (13 - (a25 g4 g5).size) undef, defers := [] } : Act) = act 13 _ := enter_eq [_, _] 13 (Nat.le_of_ble_eq_true rfl)
 rw [show (Func.ntmps _) = 13 from rfl, he]
 apply wpS_seq
 apply wpS_lit
 refine wosr (v := pvC code) rfl (run_recover w) (by simp only [recoverD, hu]; rfl) ?_
 refine wosq rfl ho (Qt.assertY (by kernel_rfl) rfl) ?_
 refine wosq rfl ho (Qt.move rfl) ?_
 refine wosq rfl ho (Qt.extr rfl rfl) ?_
 refine wosq rfl ho (Qt.extr rfl rfl) ?_
 refine wose rfl ho (Ef.alloc [iV 0] (by unfold zeroB; kernel_rfl) ?_)
 intro g w1 ho1
 refine wose rfl ho1 (Ef.store [_] (by kernel_rfl) rfl rfl rfl rfl (by simp) ?_)
 intro w2 ho2
 refine wosq rfl ho2 (Qt.assign rfl) ?_
 refine LS.done ?_
 show (Code.seq _ _).wpS _ _ _ _ _
 apply wpS_seq
 apply wpS_lit
 refine wosq rfl ho2 (Qt.move rfl) ?_
 refine LS.done ?_
 refine wpS_cond (t := true) rfl ?_
 simp only [if_true]
 refine wpS_of_wp (wp_mono ((?_ : T Try.prog B 13 _ (fun e _ l' => e = .normal ∧ Sub l' (blk g [iV code] 78 :: blk g5 [iV code] 34 :: blk g4 (vaC vZ) 55 :: l)) _ (blk g [iV code] 78 :: blk g5 [x] 34 :: blk g4 [y0, y1, y2] 55 :: l)).run (fun e a w => e = .normal ∧ a.defers = [] ∧ Own B w (blk g5 [iV code] 34 :: blk g4 (vaC vZ) 55 :: l)) w2 ⟨fun e f w l' h ho => ⟨h.1, rfl, (ho.map h.2).tl⟩, fun c a d v w h => by cases h.1⟩ ho2) ?_)
 ·
  refine T.draw 4 ([blk g [iV code] 78]) (by kernel_rfl) (Nat.le_of_ble_eq_true rfl) (by kernel_rfl) ?_
  refine RW.q 0 rfl rfl (by kernel_rfl) Sub.any (Qt.build [(0, 1), (1, 1), (2, 1)] [.int .i64 0, .int .i64 0, .string .empty] [_, _, _] [] (by kernel_rfl) (by unfold zeroB; kernel_rfl) rfl rfl) ?_
  refine RW.q 1 rfl rfl (by kernel_rfl) Sub.any (Qt.fieldAddr0 (by kernel_rfl) rfl) ?_
  first | refine RW.q 2 rfl rfl (by kernel_rfl) Sub.any (Qt.load (by kernel_rfl) rfl rfl) ?_ | refine RW.q 2 rfl rfl (by kernel_rfl) Sub.any (Qt.load (by kernel_rfl) rfl (map_at _ _ _ (by omega))) ?_ | refine RW.q 2 rfl rfl (by kernel_rfl) Sub.any (Qt.load (by kernel_rfl) rfl (flat_cell0 _ _ _ (by intros; rfl) _ (by omega) (by rfl))) ?_ | refine RW.q 2 rfl rfl (by kernel_rfl) Sub.any (Qt.load (by kernel_rfl) rfl (flat_cell _ _ _ (by intros; rfl) _ _ (by omega) (by rfl))) ?_ | refine RW.q 2 rfl rfl (by kernel_rfl) Sub.any (Qt.load (by kernel_rfl) rfl (bytes_at _ _ (by omega))) ?_
  refine RW.one 3 (by kernel_rfl) ?_
  refine RO.eS0 rfl rfl (Ef.store [_, _, _] (by kernel_rfl) rfl rfl rfl rfl (by simp) ?_)
  try simp only [splice, List.length_cons, List.length_nil, List.drop_succ_cons, List.cons_append, List.take_succ_cons, List.take_zero, List.drop_zero, List.nil_append, List.append_nil]
  refine ⟨Sub.any, ?_⟩
  refine RW.done (by rfl) ?_
  simp only [List.drop_succ_cons, List.drop_zero, List.drop_nil]
  refine LW.e0 rfl (Ef.store1 (by kernel_rfl) rfl rfl rfl (by first | (simp; done) | (simp; omega)) ?_)
  try simp only [List.set_cons_zero, List.set_cons_succ]
  refine LW.done ?_
  exact ⟨rfl, (Sub.any : Sub _ (blk g [iV code] 78 :: blk g5 [iV code] 34 :: blk g4 [iV 0, iV 0, .string .empty] 55 :: l))⟩
 rintro e a w' ⟨rfl, h1, h2⟩
 exact ⟨h1, .panicking [{ v := pvC code, recovered := true }], by cases c₀; simp only at hu; subst hu; rfl, _, results_none rfl _ _, rfl, rfl, h2⟩
/-- What a term comes to, and the error's number. -/
def evalR (row : List Va) (t : Tm) : Va × Int := match evalT row t with
  | .ok v => (v, 0)
  | .error c => (vZ, c)
abbrev evD (g4 g5 : Nat) : Deferred := ⟨.fn (.func 25) (a25 g4 g5), #[]⟩
theorem inv25 (g4 g5 : Nat) (w : World) : (invoke (.fn (.func 25) (a25 g4 g5)) #[]).run Try.prog w = .ok (.enter 25 (a25 g4 g5)) w := by
  have hf : Try.prog.funcs[25]? = some Try.f25 := Try.func25
  have hn : ¬ Try.f25.name = "runtime.NumGoroutine" := by
    have : (Try.f25.name == "runtime.NumGoroutine") = false := rfl
    simpa using this
  have hb : ¬ Try.f25.body = none := fun e => by
    have : Try.f25.body.isNone = false := rfl
    rw [e] at this; cases this
  simp [invoke, callFunc, hf, hn, hb]
theorem Bd.evalF (B : Base) (S : List Assn) (row : List Va) (ra : Option Addr) (m rc : Nat) (hrow : FlV B S vaC (.slice ra m rc) row) (hm : row.length = m) (hmn : m < 2 ^ 32) (t : Tm) (hok : TmOk t) (c : C7) (hc : TmV B S t c) : Fn Try.prog B 16 #[tA c, .slice ra m rc] S (fun u l => u = .tuple #[vA (evalR row t).1, iV (evalR row t).2] ∧ l = S) := by
  obtain ⟨hgood, hbad⟩ := Bd.eval B S row ra m rc hrow hm hmn t hok c hc
  obtain ⟨pa, ca, hcf⟩ := hc.form
  refine ⟨fun w F ho => ?_⟩
  refine calls_of_wp_defers Try.func16 rfl ?_
  rw [show (Func.ntmps _) = 10 from rfl, enter_eq [_, _] 10 (Nat.le_of_ble_eq_true rfl)]
  apply wp_seq
  apply wp_region_lit
  refine (?_ : LD _ _ _ 10 [] _ _ _).run
  subst hcf
  refine wle rfl ho (Ef.box [_, _, _, _, _, _, _] rfl rfl ?_)
  intro g2 w1 ho1
  refine wle rfl ho1 (Ef.alloc [iV 0, iV 0, .string .empty] (by unfold zeroB; kernel_rfl) ?_)
  intro g4 w2 ho2
  refine wle rfl ho2 (Ef.alloc [iV 0] (by unfold zeroB; kernel_rfl) ?_)
  intro g5 w3 ho3
  refine LD.done ?_
  show (Code.seq _ _).wp _ _ _ _
  apply wp_seq
  apply wp_region_lit
  refine (?_ : LD _ _ _ 10 [] _ _ _).run
  refine wlq rfl ho3 (Qt.makeFunc [.pointer (some ⟨g4, 0, none⟩), .pointer (some ⟨g5, 0, none⟩)] rfl) ?_
  refine ldDefer rfl (evD g4 g5) (fun w => ?_) ?_
  · simp [execOp, resolve, Deferred.ofValue]
    rfl
  refine LD.done ?_
  show (Code.seq _ _).wp _ _ _ _
  apply wp_seq
  apply wp_region_lit
  refine (?_ : LD _ _ _ 10 [evD g4 g5] _ _ _).run
  refine wlq rfl ho3 (Qt.loadAgg [_, _, _, _, _, _, _] (by kernel_rfl) rfl ⟨rfl, rfl, rfl, rfl, rfl, rfl, rfl, trivial⟩) ?_
  refine wlq rfl ho3 (Qt.move rfl) ?_
  cases e : evalT row t with
  | ok v =>
    refine wle rfl ho3 (Ef.call (hgood v e) Try.func26 rfl rfl rfl ?_)
    rintro _ _ ⟨rfl, rfl⟩ w4 ho4
    refine wle rfl ho4 (Ef.store [_, _, _] (by kernel_rfl) rfl rfl rfl rfl (by simp) ?_)
    intro w5 ho5
    refine wle rfl ho5 (Ef.store [_] (by kernel_rfl) rfl rfl rfl rfl (by simp) ?_)
    intro w6 ho6
    refine LD.done ?_
    refine wp_ret ?_
    refine leaves_cons (by simp) (inv25 g4 g5 _) ((Bd.calm B _ g4 g5 w6 ho6).mono ?_)
    rintro _ _ w7 ⟨rfl, rfl, ho7⟩
    simp only [settle]
    have hR : evalR row t = (v, 0) := by unfold evalR; rw [e]
    rw [hR]
    show ∃ u, (results Try.f16 (act 10 _).tmps).run Try.prog w7 = .ok u w7 ∧ _
    refine ⟨_, res (rs := [.cell 4 55, .cell 5 34]) [vA v, iV 0] rfl ⟨rvA [_, _, _] (by kernel_rfl) rfl ⟨rfl, rfl, rfl, trivial⟩, rvC (by kernel_rfl) rfl rfl, trivial⟩ w7 ho7, _, _, rfl, ⟨rfl, rfl⟩, ho7.map Sub.any⟩
  | error code =>
    refine wld rfl ho3 (Dx.call (hbad code e) Try.func26 rfl rfl rfl) ?_
    intro w4 ho4
    have ho4' : Own B w4 (blk g5 [iV 0] 34 :: blk g4 [iV 0, iV 0, .string .empty] 55 :: (S ++ F)) := ho4.map Sub.any
    refine leaves_cons (by simp) (inv25 g4 g5 _) ((Bd.catch B _ g4 g5 _ _ rfl rfl code w4 ho4').mono ?_)
    rintro _ _ w7 ⟨rfl, rfl, ho7⟩
    simp only [settle, List.dropWhile_nil]
    have hR : evalR row t = (vZ, code) := by unfold evalR; rw [e]
    rw [hR]
    show ∃ u, (results Try.f16 (act 10 _).tmps).run Try.prog w7 = .ok u w7 ∧ _
    refine ⟨_, res (rs := [.cell 4 55, .cell 5 34]) [vA vZ, iV code] rfl ⟨rvA [_, _, _] (by kernel_rfl) rfl ⟨rfl, rfl, rfl, trivial⟩, rvC (by kernel_rfl) rfl rfl, trivial⟩ w7 ho7, _, _, rfl, ⟨rfl, rfl⟩, ho7.map Sub.any⟩
end Go.Proofs.Ytopbkdpbljebgaa

/- The package bind: Holds, Parts, Move. Conditions: that what is handed in can be read; sizes. -/
set_option linter.unusedSimpArgs false
set_option linter.unusedVariables false
namespace Go.Proofs.Ytopbkdpbljebgaa
open Go.RowKit

/-- Terms, and where they lie. -/
def TmsS (B : Base) (S : List Assn) (ts : List Tm) (css : List C7) : Prop := css.length = ts.length ∧ ∀ (i : Nat) (t : Tm) (c : C7), ts[i]? = some t → css[i]? = some c → TmV B S t c
theorem TmsS.mono {B : Base} {S S' : List Assn} {ts : List Tm} {css : List C7} (h : TmsS B S ts css) (hs : ∀ w, Own B w S' → Own B w S) : TmsS B S' ts css := ⟨h.1, fun i t c h1 h2 => (h.2 i t c h1 h2).mono hs⟩
theorem TmsS.app {B : Base} {S : List Assn} {ts us : List Tm} {css dss : List C7} (h : TmsS B S ts css) (k : TmsS B S us dss) : TmsS B S (ts ++ us) (css ++ dss) := ⟨by rw [List.length_append, List.length_append, h.1, k.1], fun i t c h1 h2 => by
  by_cases hi : i < ts.length
  · rw [List.getElem?_append_left hi] at h1
    rw [List.getElem?_append_left (by rw [h.1]; exact hi)] at h2
    exact h.2 i t c h1 h2
  · rw [List.getElem?_append_right (by omega)] at h1
    rw [List.getElem?_append_right (by rw [h.1]; omega), h.1] at h2
    exact k.2 _ t c h1 h2⟩
theorem TmsS.oneC {B : Base} {S : List Assn} {ts : List Tm} {css : List C7} (h : TmsS B S ts css) : ∀ x ∈ css.flatMap c7, x.oneCell' = true := by
  intro x hx
  obtain ⟨c, hc, hxc⟩ := List.mem_flatMap.1 hx
  obtain ⟨i, hi, rfl⟩ := List.getElem_of_mem hc
  obtain ⟨a, m, hf⟩ := (h.2 i _ _ (List.getElem?_eq_getElem (by rw [← h.1]; exact hi)) (List.getElem?_eq_getElem hi)).form
  rw [hf] at hxc
  simp at hxc
  rcases hxc with rfl | rfl | rfl | rfl | rfl | rfl | rfl <;> rfl
theorem TmsS.one {B : Base} {S : List Assn} {t : Tm} {c : C7} (h : TmV B S t c) : TmsS B S [t] [c] := ⟨rfl, fun i u d h1 h2 => by
  cases i with
  | zero => simp at h1 h2; subst h1; subst h2; exact h
  | succ i => simp at h1⟩
def holds1 (row : List Va) (t : Tm) : Bool := decide ((evalR row t).2 = 0) && decide ((evalR row t).1.kind = 3) && decide ((evalR row t).1.int = 1)
def holdsL (row : List Va) (ts : List Tm) : Bool := ts.all (holds1 row)
theorem holdsL_succ {row : List Va} {ts : List Tm} {k : Nat} {t : Tm} (h : ts[k]? = some t) : holdsL row (ts.take (k + 1)) = (holdsL row (ts.take k) && holds1 row t) := by
  unfold holdsL
  rw [List.take_add_one, h, List.all_append]
  simp
theorem holdsL_false {row : List Va} {ts : List Tm} {k : Nat} {t : Tm} (h : ts[k]? = some t) (hf : holds1 row t = false) : holdsL row ts = false := by
  unfold holdsL
  rw [List.all_eq_false]
  exact ⟨t, List.mem_of_getElem? h, by simpa using hf⟩
set_option maxHeartbeats 1000000 in
theorem Bd.holds (B : Base) (S : List Assn) (row : List Va) (ra : Option Addr) (m rc : Nat) (hrow : FlV B S vaC (.slice ra m rc) row) (hm : row.length = m) (hmn : m < 2 ^ 32) (pa : Option Addr) (n pc : Nat) (ts : List Tm) (css : List C7) (hf : FlV B S c7 (.slice pa n pc) css) (hts : TmsS B S ts css) (hn : ts.length = n) (hnn : n < 2 ^ 32) (hok : ∀ t ∈ ts, TmOk t) : Fn Try.prog B 21 #[.slice ra m rc, .slice pa n pc] S (fun u l => u = .bool (holdsL row ts) ∧ l = S) := by
 refine Fn.enter2 34 Try.func21 rfl rfl (Nat.le_of_ble_eq_true rfl) (fun F => ?_)
 try simp only [List.cons_append, List.nil_append]
 refine T.seq ?_
 refine T.region ?_
 refine LW.q rfl (Qt.assign rfl) ?_
 refine LW.done ?_
 refine T.seq ?_
 refine T.seq ?_
 refine T.region ?_
 refine LW.q rfl (Qt.move rfl) ?_
 refine LW.q rfl (Qt.len (e := 58) (sz := 7) (by kernel_rfl) rfl) ?_
 refine LW.q rfl (Qt.move rfl) ?_
 refine LW.done ?_
 refine T.block ?_
 refine T.loop (fun mz fz lz => ∃ (f0 : Fr) (k : Nat), (k ≤ n ∧ holdsL row (ts.take k) = true) ∧ mz = n - k ∧ fz = (upd (upd (upd (upd f0 0 (.slice ra m rc)) 9 (.slice pa n pc)) 10 (.int .i64 n)) 11 (.int .i64 k)) ∧ lz = S ++ F) ?_ ?_
 · refine ⟨_, _, ⟨_, 0, ⟨Nat.zero_le _, rfl⟩, rfl, (updS rfl (updS rfl (updS rfl (updS rfl rfl)))), rfl⟩, Sub.any⟩
 ·
  rintro mz fz lz ⟨f0, k, ⟨hk, hh⟩, hmz, rfl, rfl⟩
  subst mz
  try simp only [List.cons_append, List.nil_append]
  refine T.seq ?_
  refine T.region ?_
  refine LW.q rfl (Qt.lss rfl rfl) ?_
  refine LW.done ?_
  refine T.seq ?_
  refine T.condP rfl (fun hlt => ?_) (fun hlt => ?_)
  ·
   obtain ⟨b, o, rfl, hr⟩ := hf.at (sz := 7) (fun _ => rfl) (by omega)
   obtain ⟨t, ht⟩ : ∃ t, ts[k]? = some t := ⟨_, List.getElem?_eq_getElem (by omega)⟩
   obtain ⟨q, hq⟩ : ∃ q, css[k]? = some q := ⟨_, List.getElem?_eq_getElem (by rw [hts.1]; omega)⟩
   have hq1 := hr k q hq
   have htv := hts.2 k t q ht hq
   have hE := Bd.evalF B S row ra m rc hrow hm hmn t (hok t (List.mem_of_getElem? ht)) q htv
   obtain ⟨pa7, ca7, rfl⟩ := htv.form
   refine T.skip ?_
   refine T.seq ?_
   refine T.block ?_
   refine T.seq ?_
   refine T.region ?_
   refine LW.q rfl (Qt.index _ (e := 58) (sz := 7) (by kernel_rfl) rfl rfl rfl (by omega)) ?_
   refine LW.q rfl (Qt.loadAggW (c7 ⟨tV t.op, iV t.kind, iV t.v.kind, iV t.v.int, tV t.v.text, iV t.place, .slice pa7 t.args.length ca7⟩) (by kernel_rfl) rfl (fun w ho => hq1 w (ho.map Sub.any))) ?_
   refine LW.e rfl (Ef.alloc [.string .empty, .int .i64 0, .int .i64 0, .int .i64 0, .string .empty, .int .i64 0, .slice none 0 0] (by unfold zeroB; kernel_rfl) ?_)
   intro g6
   refine LW.e0 rfl (Ef.store [_, _, _, _, _, _, _] (by kernel_rfl) rfl rfl rfl rfl (by simp) ?_)
   try simp only [splice, List.length_cons, List.length_nil, List.drop_succ_cons, List.cons_append, List.take_succ_cons, List.take_zero, List.drop_zero, List.nil_append, List.append_nil]
   refine LW.done ?_
   refine T.seq ?_
   refine T.region ?_
   first | refine LW.q rfl (Qt.loadAgg [_, _, _, _, _, _, _] (by kernel_rfl) rfl ⟨rfl, rfl, rfl, rfl, rfl, rfl, rfl, trivial⟩) ?_ | refine LW.q rfl (Qt.loadAgg [_, _, _, _, _, _, _] (by kernel_rfl) rfl (by exact rdl_flat _ _ _ (by intros; rfl) _ (by omega))) ?_
   refine LW.q rfl (Qt.move rfl) ?_
   refine LW.e rfl (Ef.call (hE) Try.func16 rfl rfl rfl ?_)
   rintro _ _ ⟨rfl, rfl⟩
   try simp only [List.cons_append, List.nil_append]
   refine LW.q rfl (Qt.move rfl) ?_
   refine LW.q rfl (Qt.extr rfl rfl) ?_
   refine LW.q rfl (Qt.extr rfl rfl) ?_
   refine LW.e rfl (Ef.alloc [.int .i64 0, .int .i64 0, .string .empty] (by unfold zeroB; kernel_rfl) ?_)
   intro g7
   refine LW.e0 rfl (Ef.store [_, _, _] (by kernel_rfl) rfl rfl rfl rfl (by simp) ?_)
   try simp only [splice, List.length_cons, List.length_nil, List.drop_succ_cons, List.cons_append, List.take_succ_cons, List.take_zero, List.drop_zero, List.nil_append, List.append_nil]
   refine LW.q rfl (Qt.assign rfl) ?_
   refine LW.done ?_
   refine T.seq ?_
   refine T.region ?_
   refine LW.q rfl (Qt.move rfl) ?_
   refine LW.q rfl (Qt.neq rfl rfl) ?_
   refine LW.q rfl (Qt.move rfl) ?_
   refine LW.split (t := 23) rfl (fun g1 => ?_) (fun g1 => ?_)
   ·
    try replace g1 := of_decide_eq_true g1
    refine LW.s rfl ?_
    refine LW.s rfl ?_
    refine LW.s rfl ?_
    refine LW.q rfl (Qt.pick rfl rfl) ?_
    refine LW.q rfl (Qt.move rfl) ?_
    first | refine LW.gT (t := 28) rfl rfl ?_ | refine LW.gT (t := 28) rfl (decide_eq_true (rfl)) ?_ | refine LW.gT (t := 28) rfl (rfl) ?_
    refine LW.s rfl ?_
    refine LW.s rfl ?_
    refine LW.s rfl ?_
    refine LW.q rfl (Qt.pick rfl rfl) ?_
    refine LW.done ?_
    first | refine T.condT rfl ?_ | refine T.condPT rfl (rfl) ?_ | refine T.condBT rfl (rfl) ?_
    refine T.seq ?_
    refine T.region ?_
    refine LW.q rfl (Qt.assign rfl) ?_
    refine LW.done ?_
    refine T.ret ?_
    exact ⟨.inl rfl, _, _, res [_] rfl ⟨rvT rfl, trivial⟩, ⟨by rw [holdsL_false ht (by unfold holds1; rw [decide_eq_false g1]; rfl)]; rfl, rfl⟩, Sub.any⟩
   ·
    try replace g1 := of_decide_eq_false g1
    refine LW.q rfl (Qt.fieldAddr0 (by kernel_rfl) rfl) ?_
    first | refine LW.q rfl (Qt.load (by kernel_rfl) rfl rfl) ?_ | refine LW.q rfl (Qt.load (by kernel_rfl) rfl (map_at _ _ _ (by omega))) ?_ | refine LW.q rfl (Qt.load (by kernel_rfl) rfl (flat_cell0 _ _ _ (by intros; rfl) _ (by omega) (by rfl))) ?_ | refine LW.q rfl (Qt.load (by kernel_rfl) rfl (flat_cell _ _ _ (by intros; rfl) _ _ (by omega) (by rfl))) ?_ | refine LW.q rfl (Qt.load (by kernel_rfl) rfl (bytes_at _ _ (by omega))) ?_
    refine LW.q rfl (Qt.neq rfl rfl) ?_
    refine LW.q rfl (Qt.pick rfl rfl) ?_
    refine LW.q rfl (Qt.move rfl) ?_
    refine LW.split (t := 28) rfl (fun g2 => ?_) (fun g2 => ?_)
    ·
     try replace g2 := of_decide_eq_true g2
     refine LW.s rfl ?_
     refine LW.s rfl ?_
     refine LW.s rfl ?_
     refine LW.q rfl (Qt.pick rfl rfl) ?_
     refine LW.done ?_
     first | refine T.condT rfl ?_ | refine T.condPT rfl (rfl) ?_ | refine T.condBT rfl (rfl) ?_
     refine T.seq ?_
     refine T.region ?_
     refine LW.q rfl (Qt.assign rfl) ?_
     refine LW.done ?_
     refine T.ret ?_
     exact ⟨.inl rfl, _, _, res [_] rfl ⟨rvT rfl, trivial⟩, ⟨by rw [holdsL_false ht (by unfold holds1; rw [decide_eq_false g2]; simp)]; rfl, rfl⟩, Sub.any⟩
    ·
     try replace g2 := of_decide_eq_false g2
     refine LW.q rfl (Qt.fieldAddr (off := 1) (by kernel_rfl) rfl) ?_
     first | refine LW.q rfl (Qt.load (by kernel_rfl) rfl rfl) ?_ | refine LW.q rfl (Qt.load (by kernel_rfl) rfl (map_at _ _ _ (by omega))) ?_ | refine LW.q rfl (Qt.load (by kernel_rfl) rfl (flat_cell0 _ _ _ (by intros; rfl) _ (by omega) (by rfl))) ?_ | refine LW.q rfl (Qt.load (by kernel_rfl) rfl (flat_cell _ _ _ (by intros; rfl) _ _ (by omega) (by rfl))) ?_ | refine LW.q rfl (Qt.load (by kernel_rfl) rfl (bytes_at _ _ (by omega))) ?_
     refine LW.q rfl (Qt.neq rfl rfl) ?_
     refine LW.q rfl (Qt.pick rfl rfl) ?_
     refine LW.done ?_
     refine T.condP rfl (fun g3 => ?_) (fun g3 => ?_)
     ·
      refine T.seq ?_
      refine T.region ?_
      refine LW.q rfl (Qt.assign rfl) ?_
      refine LW.done ?_
      refine T.ret ?_
      exact ⟨.inl rfl, _, _, res [_] rfl ⟨rvT rfl, trivial⟩, ⟨by rw [holdsL_false ht (by unfold holds1; rw [decide_eq_false g3]; simp)]; rfl, rfl⟩, Sub.any⟩
     ·
      refine T.skip ?_
      refine T.region ?_
      refine LW.q rfl (Qt.add rfl rfl (wr64 (by omega) (by omega))) ?_
      refine LW.q rfl (Qt.move rfl) ?_
      refine LW.done ?_
      refine ⟨_, ?_, _, ⟨_, k + 1, ⟨by omega, by rw [holdsL_succ ht, hh]; unfold holds1; rw [decide_eq_true (Classical.not_not.1 g1), decide_eq_true (Classical.not_not.1 g2), decide_eq_true (Classical.not_not.1 g3)]; rfl⟩, rfl, (updS rfl (updS rfl (updS rfl (updS rfl rfl)))), rfl⟩, Sub.any⟩
      first | omega | (simp; omega)
  ·
   obtain rfl : n = k := by omega
   rw [← hn, List.take_length] at hh
   refine T.exit ?_
   refine T.seq ?_
   refine T.region ?_
   refine LW.q rfl (Qt.assign rfl) ?_
   refine LW.done ?_
   refine T.ret ?_
   exact ⟨.inl rfl, _, _, res [_] rfl ⟨rvT rfl, trivial⟩, ⟨by rw [hh]; rfl, rfl⟩, Sub.any⟩
/-- The parts of a term. -/
def partsT : Tm → List Tm
  | .mk op k v p args => if op = sAnd then (match args with
      | t :: u :: _ => partsT t ++ partsT u
      | _ => []) else [.mk op k v p args]
def PartsPost (B : Base) (S : List Assn) (t : Tm) (u : Value) (l : List Assn) : Prop := ∃ p n c css, u = .slice p n c ∧ (0 < n → ∃ g, p = some ⟨g, 0, none⟩) ∧ TmsS B S (partsT t) css ∧ css.length = n ∧ l = row (.slice p n c) 58 7 n (css.flatMap c7) :: S
theorem Own.blk_row {B : Base} {w : World} {g : Nat} {C : List Value} {t sz n : Nat} {l : List Assn} (H : Own B w (blk g C t :: l)) (hn : C.length = n * sz) (hm : n ≤ maxLen) : Own B w (row (.slice (some ⟨g, 0, none⟩) n n) t sz n C :: l) :=
  H.map fun _ k => Has.weaken (fun _ hb => ⟨hn, .inr ⟨g, n, C.toArray, rfl, hb, Nat.le_refl _, hm, by simp [hn], by simp [← hn]⟩⟩) k
set_option maxHeartbeats 1000000 in
theorem Bd.parts1 (B : Base) (S : List Assn) (t : Tm) (c : C7) (h : TmV B S t c) (ho : t.op ≠ sAnd) : Fn Try.prog B 18 #[tA c] S (PartsPost B S t) := by
  have hp : partsT t = [t] := by
    cases t with
    | mk op k v p args => rw [partsT.eq_def]; dsimp only; have ho' : op ≠ sAnd := ho; rw [if_neg ho']
  obtain ⟨pa7, ca7, rfl⟩ := h.form
  refine Fn.enter1 19 Try.func18 rfl rfl (Nat.le_of_ble_eq_true rfl) (fun F => ?_)
  try simp only [List.cons_append, List.nil_append]
  refine T.seq ?_
  refine T.region ?_
  refine LW.e rfl (Ef.box [_, _, _, _, _, _, _] rfl rfl ?_)
  intro g1
  refine LW.q rfl (Qt.assign rfl) ?_
  refine LW.done ?_
  refine T.seq ?_
  refine T.seq ?_
  refine T.region ?_
  refine LW.q rfl (Qt.fieldAddr0 (by kernel_rfl) rfl) ?_
  first | refine LW.q rfl (Qt.load (by kernel_rfl) rfl rfl) ?_ | refine LW.q rfl (Qt.load (by kernel_rfl) rfl (map_at _ _ _ (by omega))) ?_ | refine LW.q rfl (Qt.load (by kernel_rfl) rfl (flat_cell0 _ _ _ (by intros; rfl) _ (by omega) (by rfl))) ?_ | refine LW.q rfl (Qt.load (by kernel_rfl) rfl (flat_cell _ _ _ (by intros; rfl) _ _ (by omega) (by rfl))) ?_ | refine LW.q rfl (Qt.load (by kernel_rfl) rfl (bytes_at _ _ (by omega))) ?_
  refine LW.q rfl (Qt.neqS rfl rfl) ?_
  refine LW.done ?_
  first | refine T.condT rfl ?_ | refine T.condPT rfl (ho) ?_ | refine T.condBT rfl (ho) ?_
  refine T.seq ?_
  refine T.region ?_
  first | refine LW.q rfl (Qt.loadAgg [_, _, _, _, _, _, _] (by kernel_rfl) rfl ⟨rfl, rfl, rfl, rfl, rfl, rfl, rfl, trivial⟩) ?_ | refine LW.q rfl (Qt.loadAgg [_, _, _, _, _, _, _] (by kernel_rfl) rfl (by exact rdl_flat _ _ _ (by intros; rfl) _ (by omega))) ?_
  refine LW.e rfl (Ef.one [_, _, _, _, _, _, _] (e := 58) (sz := 7) (by kernel_rfl) ⟨.agg #[.string .empty, .int .i64 0, .int .i64 0, .int .i64 0, .string .empty, .int .i64 0, .slice none 0 0], by kernel_rfl, rfl⟩ rfl rfl rfl (by omega) (by omega) ?_)
  intro g7
  refine LW.conv (l' := row (.slice (some ⟨g7, 0, none⟩) 1 1) 58 7 1 ([(⟨tV t.op, iV t.kind, iV t.v.kind, iV t.v.int, tV t.v.text, iV t.place, .slice pa7 t.args.length ca7⟩ : C7)].flatMap c7) :: _) (fun w ho => ho.blk_row (sz := 7) (n := 1) rfl (by unfold maxLen; omega)) ?_
  refine LW.q rfl (Qt.assign rfl) ?_
  refine LW.done ?_
  refine T.ret ?_
  exact ⟨.inl rfl, _, _, res [_] rfl ⟨rvT rfl, trivial⟩, ⟨_, _, _, [_], rfl, fun _ => ⟨_, rfl⟩, by rw [hp]; exact TmsS.one h, rfl, rfl⟩, Sub.any⟩
set_option maxHeartbeats 1000000 in
theorem Bd.parts2 (B : Base) (S : List Assn) (k p : Int) (v : Va) (t u : Tm) (r : List Tm) (na ca b o : Nat) (c0 c1 : C7) (hr0 : ∀ w, Own B w S → w.rangeAt b (o + 0 * 7) (c7 c0)) (hr1 : ∀ w, Own B w S → w.rangeAt b (o + 1 * 7) (c7 c1)) (hna : 2 ≤ na)
    (hb : (partsT t).length + (partsT u).length < 2 ^ 32) (h0 : Fn Try.prog B 18 #[tA c0] S (PartsPost B S t)) (h1 : Fn Try.prog B 18 #[tA c1] S (PartsPost B S u)) :
    Fn Try.prog B 18 #[tA ⟨tV sAnd, iV k, iV v.kind, iV v.int, tV v.text, iV p, .slice (some ⟨b, o, none⟩) na ca⟩] S (PartsPost B S (.mk sAnd k v p (t :: u :: r))) := by
  have hp : partsT (.mk sAnd k v p (t :: u :: r)) = partsT t ++ partsT u := by rw [partsT, if_pos rfl]
  refine Fn.enter1 19 Try.func18 rfl rfl (Nat.le_of_ble_eq_true rfl) (fun F => ?_)
  try simp only [List.cons_append, List.nil_append]
  refine T.seq ?_
  refine T.region ?_
  refine LW.e rfl (Ef.box [_, _, _, _, _, _, _] rfl rfl ?_)
  intro g1
  refine LW.q rfl (Qt.assign rfl) ?_
  refine LW.done ?_
  refine T.seq ?_
  refine T.seq ?_
  refine T.region ?_
  refine LW.q rfl (Qt.fieldAddr0 (by kernel_rfl) rfl) ?_
  first | refine LW.q rfl (Qt.load (by kernel_rfl) rfl rfl) ?_ | refine LW.q rfl (Qt.load (by kernel_rfl) rfl (map_at _ _ _ (by omega))) ?_ | refine LW.q rfl (Qt.load (by kernel_rfl) rfl (flat_cell0 _ _ _ (by intros; rfl) _ (by omega) (by rfl))) ?_ | refine LW.q rfl (Qt.load (by kernel_rfl) rfl (flat_cell _ _ _ (by intros; rfl) _ _ (by omega) (by rfl))) ?_ | refine LW.q rfl (Qt.load (by kernel_rfl) rfl (bytes_at _ _ (by omega))) ?_
  refine LW.q rfl (Qt.neqS rfl rfl) ?_
  refine LW.done ?_
  first | refine T.condF rfl ?_ | refine T.condPF rfl (rfl) ?_ | refine T.condBF rfl (rfl) ?_
  refine T.skip ?_
  refine T.seq ?_
  refine T.draw 11 ((blk g1 [tV sAnd, iV k, iV v.kind, iV v.int, tV v.text, iV p, .slice (some ⟨b, o, none⟩) na ca] 58 :: S)) (by kernel_rfl) (Nat.le_of_ble_eq_true rfl) (by kernel_rfl) ?_
  refine RW.q 0 rfl rfl (by kernel_rfl) Sub.any (Qt.fieldAddr (off := 6) (by kernel_rfl) rfl) ?_
  first | refine RW.q 1 rfl rfl (by kernel_rfl) Sub.any (Qt.load (by kernel_rfl) rfl rfl) ?_ | refine RW.q 1 rfl rfl (by kernel_rfl) Sub.any (Qt.load (by kernel_rfl) rfl (map_at _ _ _ (by omega))) ?_ | refine RW.q 1 rfl rfl (by kernel_rfl) Sub.any (Qt.load (by kernel_rfl) rfl (flat_cell0 _ _ _ (by intros; rfl) _ (by omega) (by rfl))) ?_ | refine RW.q 1 rfl rfl (by kernel_rfl) Sub.any (Qt.load (by kernel_rfl) rfl (flat_cell _ _ _ (by intros; rfl) _ _ (by omega) (by rfl))) ?_ | refine RW.q 1 rfl rfl (by kernel_rfl) Sub.any (Qt.load (by kernel_rfl) rfl (bytes_at _ _ (by omega))) ?_
  refine RW.q 2 rfl rfl (by kernel_rfl) Sub.any (Qt.index 0 (e := 58) (sz := 7) (by kernel_rfl) rfl rfl rfl (by omega)) ?_
  refine RW.q 3 rfl rfl (by kernel_rfl) Sub.any (Qt.loadAggW (c7 c0) (by kernel_rfl) rfl (fun w ho => hr0 w (ho.map Sub.any))) ?_
  refine RW.q 5 rfl rfl (by kernel_rfl) Sub.any (Qt.fieldAddr (off := 6) (by kernel_rfl) rfl) ?_
  first | refine RW.q 6 rfl rfl (by kernel_rfl) Sub.any (Qt.load (by kernel_rfl) rfl rfl) ?_ | refine RW.q 6 rfl rfl (by kernel_rfl) Sub.any (Qt.load (by kernel_rfl) rfl (map_at _ _ _ (by omega))) ?_ | refine RW.q 6 rfl rfl (by kernel_rfl) Sub.any (Qt.load (by kernel_rfl) rfl (flat_cell0 _ _ _ (by intros; rfl) _ (by omega) (by rfl))) ?_ | refine RW.q 6 rfl rfl (by kernel_rfl) Sub.any (Qt.load (by kernel_rfl) rfl (flat_cell _ _ _ (by intros; rfl) _ _ (by omega) (by rfl))) ?_ | refine RW.q 6 rfl rfl (by kernel_rfl) Sub.any (Qt.load (by kernel_rfl) rfl (bytes_at _ _ (by omega))) ?_
  refine RW.q 7 rfl rfl (by kernel_rfl) Sub.any (Qt.index 1 (e := 58) (sz := 7) (by kernel_rfl) rfl rfl rfl (by omega)) ?_
  refine RW.q 8 rfl rfl (by kernel_rfl) Sub.any (Qt.loadAggW (c7 c1) (by kernel_rfl) rfl (fun w ho => hr1 w (ho.map Sub.any))) ?_
  refine RW.one 4 (by kernel_rfl) ?_
  refine RO.eS rfl rfl (Ef.call h0 Try.func18 rfl rfl rfl ?_)
  rintro _ _ ⟨p1, n1, k1, cs1, rfl, hp1, hs1, hl1, rfl⟩
  try simp only [List.cons_append, List.nil_append]
  have e1 := hs1.1
  refine ⟨Sub.any, ?_⟩
  refine RW.one 9 (by kernel_rfl) ?_
  refine RO.eS rfl rfl (Ef.call h1 Try.func18 rfl rfl rfl ?_)
  rintro _ _ ⟨p2, n2, k2, cs2, rfl, hp2, hs2, hl2, rfl⟩
  try simp only [List.cons_append, List.nil_append]
  have e2 := hs2.1
  refine ⟨Sub.any, ?_⟩
  refine RW.one 10 (by kernel_rfl) ?_
  refine RO.eS rfl rfl (Ef.append Bd.elemT rfl rfl (SrcOf.row (by kernel_rfl) hs2.oneC) (by unfold maxLen; omega) (by omega) ?_)
  rintro p4 c4 hp4
  try simp only [List.cons_append, List.nil_append]
  rw [← List.flatMap_append]
  refine ⟨Sub.any, ?_⟩
  refine RW.done (by rfl) ?_
  simp only [List.drop_succ_cons, List.drop_zero, List.drop_nil]
  refine LW.q rfl (Qt.assign rfl) ?_
  refine LW.done ?_
  refine T.ret ?_
  exact ⟨.inl rfl, _, _, res [_] rfl ⟨rvT rfl, trivial⟩, ⟨p4, _, c4, cs1 ++ cs2, rfl, hp4, by rw [hp]; exact hs1.app hs2, by rw [List.length_append]; omega, rfl⟩, Sub.any⟩
/-- A term's number of parts is small. -/
theorem Bd.parts (B : Base) (S : List Assn) (t : Tm) (ho : TmOk t) : ∀ c, TmV B S t c → (partsT t).length < 2 ^ 32 → Fn Try.prog B 18 #[tA c] S (PartsPost B S t) := by
  induction ho with
  | val k v p => intro c h _; exact Bd.parts1 B S _ c h (by show sVal ≠ sAnd; decide)
  | col k v p => intro c h _; exact Bd.parts1 B S _ c h (by show sCol ≠ sAnd; decide)
  | one op k v p t h1 h2 h3 ht ih => intro c h _; exact Bd.parts1 B S _ c h h3
  | two op k v p t u h1 h2 h3 ht hu ih1 ih2 =>
    intro c h hb
    by_cases ha : op = sAnd
    · subst ha
      obtain ⟨pa, ca, css, rfl, hf, hl, hc⟩ := h.inv
      obtain ⟨b, o, rfl, hr⟩ := hf.at (sz := 7) (fun _ => rfl) (by simp)
      obtain ⟨c0, hc0⟩ : ∃ c, css[0]? = some c := ⟨_, List.getElem?_eq_getElem (by rw [hl]; simp)⟩
      obtain ⟨c1, hc1⟩ : ∃ c, css[1]? = some c := ⟨_, List.getElem?_eq_getElem (by rw [hl]; simp)⟩
      have e : partsT (.mk sAnd k v p [t, u]) = partsT t ++ partsT u := by rw [partsT, if_pos rfl]
      rw [e, List.length_append] at hb
      exact Bd.parts2 B S k p v t u [] _ ca b o c0 c1 (hr 0 c0 hc0) (hr 1 c1 hc1) (by simp) hb (ih1 c0 (hc 0 t c0 rfl hc0) (by omega)) (ih2 c1 (hc 1 u c1 rfl hc1) (by omega))
    · exact Bd.parts1 B S _ c h ha
/-- The term with each column so many places further. -/
def moveT (by0 : Int) : Tm → Tm
  | .mk op k v p args => .mk op k v (if op = sCol then w64 (p + by0) else p) (args.map (moveT by0))
def MovePost (B : Base) (S : List Assn) (by0 : Int) (t : Tm) (u : Value) (l : List Assn) : Prop := ∃ A c, u = tA c ∧ TmV B [A] (moveT by0 t) c ∧ l = A :: S
theorem map_next {α β : Type} {g : α → β} {l : List α} {k : Nat} {x : α} (h : l[k]? = some x) : (l.take (k + 1)).map g = (l.take k).map g ++ [g x] := by
  rw [List.take_add_one, h, List.map_append]; rfl
set_option maxHeartbeats 2000000 in
theorem Bd.move (B : Base) (S : List Assn) (by0 : Int) (t : Tm) (c : C7) (h : TmV B S t c) : Fn Try.prog B 19 #[tA c, iV by0] S (MovePost B S by0 t) := by
 induction h with
 | mk op k v p args av css hf hl hb hc ih =>
 obtain ⟨pa, ca, rfl⟩ := hf.form hl
 refine Fn.enter2 35 Try.func19 rfl rfl (Nat.le_of_ble_eq_true rfl) (fun F => ?_)
 try simp only [List.cons_append, List.nil_append]
 refine T.seq ?_
 refine T.region ?_
 refine LW.e rfl (Ef.box [_, _, _, _, _, _, _] rfl rfl ?_)
 intro g2
 refine LW.e rfl (Ef.alloc [.string .empty, .int .i64 0, .int .i64 0, .int .i64 0, .string .empty, .int .i64 0, .slice none 0 0] (by unfold zeroB; kernel_rfl) ?_)
 intro g4
 refine LW.done ?_
 refine T.seq ?_
 refine T.region ?_
 first | refine LW.q rfl (Qt.loadAgg [_, _, _, _, _, _, _] (by kernel_rfl) rfl ⟨rfl, rfl, rfl, rfl, rfl, rfl, rfl, trivial⟩) ?_ | refine LW.q rfl (Qt.loadAgg [_, _, _, _, _, _, _] (by kernel_rfl) rfl (by exact rdl_flat _ _ _ (by intros; rfl) _ (by omega))) ?_
 refine LW.e rfl (Ef.alloc [.string .empty, .int .i64 0, .int .i64 0, .int .i64 0, .string .empty, .int .i64 0, .slice none 0 0] (by unfold zeroB; kernel_rfl) ?_)
 intro g5
 refine LW.e0 rfl (Ef.store [_, _, _, _, _, _, _] (by kernel_rfl) rfl rfl rfl rfl (by simp) ?_)
 try simp only [splice, List.length_cons, List.length_nil, List.drop_succ_cons, List.cons_append, List.take_succ_cons, List.take_zero, List.drop_zero, List.nil_append, List.append_nil]
 refine LW.done ?_
 refine T.cut (fun fz lz => ∃ (f0 : Fr) (p2 : Int), (p2 = if op = sCol then w64 (p + by0) else p) ∧ fz = (upd (upd (upd (upd f0 1 (iV by0)) 2 (.pointer (some ⟨g2, 0, none⟩))) 4 (.pointer (some ⟨g4, 0, none⟩))) 5 (.pointer (some ⟨g5, 0, none⟩))) ∧ lz = blk g5 [tV op, iV k, iV v.kind, iV v.int, tV v.text, iV p2, .slice pa args.length ca] 58 :: blk g4 [.string .empty, iV 0, iV 0, iV 0, .string .empty, iV 0, .slice none 0 0] 58 :: blk g2 [tV op, iV k, iV v.kind, iV v.int, tV v.text, iV p, .slice pa args.length ca] 58 :: (S ++ F)) ?_ ?_
 ·
  refine T.seq ?_
  refine T.region ?_
  refine LW.q rfl (Qt.fieldAddr0 (by kernel_rfl) rfl) ?_
  first | refine LW.q rfl (Qt.load (by kernel_rfl) rfl rfl) ?_ | refine LW.q rfl (Qt.load (by kernel_rfl) rfl (map_at _ _ _ (by omega))) ?_ | refine LW.q rfl (Qt.load (by kernel_rfl) rfl (flat_cell0 _ _ _ (by intros; rfl) _ (by omega) (by rfl))) ?_ | refine LW.q rfl (Qt.load (by kernel_rfl) rfl (flat_cell _ _ _ (by intros; rfl) _ _ (by omega) (by rfl))) ?_ | refine LW.q rfl (Qt.load (by kernel_rfl) rfl (bytes_at _ _ (by omega))) ?_
  refine LW.q rfl (Qt.eqlS rfl rfl) ?_
  refine LW.done ?_
  refine T.condP rfl (fun h1 => ?_) (fun h1 => ?_)
  ·
   refine T.region ?_
   refine LW.q rfl (Qt.fieldAddr (off := 5) (by kernel_rfl) rfl) ?_
   first | refine LW.q rfl (Qt.load (by kernel_rfl) rfl rfl) ?_ | refine LW.q rfl (Qt.load (by kernel_rfl) rfl (map_at _ _ _ (by omega))) ?_ | refine LW.q rfl (Qt.load (by kernel_rfl) rfl (flat_cell0 _ _ _ (by intros; rfl) _ (by omega) (by rfl))) ?_ | refine LW.q rfl (Qt.load (by kernel_rfl) rfl (flat_cell _ _ _ (by intros; rfl) _ _ (by omega) (by rfl))) ?_ | refine LW.q rfl (Qt.load (by kernel_rfl) rfl (bytes_at _ _ (by omega))) ?_
   refine LW.q rfl (Qt.move rfl) ?_
   refine LW.q rfl (Qt.add rfl rfl rfl) ?_
   refine LW.q rfl (Qt.fieldAddr (off := 5) (by kernel_rfl) rfl) ?_
   refine LW.e0 rfl (Ef.store1 (by kernel_rfl) rfl rfl rfl (by first | (simp; done) | (simp; omega)) ?_)
   try simp only [List.set_cons_zero, List.set_cons_succ]
   refine LW.done ?_
   exact ⟨_, ⟨_, w64 (p + by0), by rw [if_pos h1], (updS rfl (updS rfl (updS rfl (updS rfl rfl)))), rfl⟩, Sub.any⟩
  ·
   refine T.skip ?_
   exact ⟨_, ⟨_, p, by rw [if_neg h1], (updS rfl (updS rfl (updS rfl (updS rfl rfl)))), rfl⟩, Sub.any⟩
 rintro fz lz ⟨f0, p2, hp2, rfl, rfl⟩
 try simp only [List.cons_append, List.nil_append]
 refine T.conv (l' := row (.slice none 0 0) 58 7 0 (List.flatMap c7 []) :: _) (fun w ho => ho.row_nil 58 7) ?_
 refine T.seq ?_
 refine T.region ?_
 refine LW.q rfl (Qt.fieldAddr (off := 6) (by kernel_rfl) rfl) ?_
 refine LW.e0 rfl (Ef.store1 (by kernel_rfl) rfl rfl rfl (by first | (simp; done) | (simp; omega)) ?_)
 try simp only [List.set_cons_zero, List.set_cons_succ]
 refine LW.done ?_
 refine T.seq ?_
 refine T.seq ?_
 refine T.region ?_
 refine LW.q rfl (Qt.fieldAddr (off := 6) (by kernel_rfl) rfl) ?_
 first | refine LW.q rfl (Qt.load (by kernel_rfl) rfl rfl) ?_ | refine LW.q rfl (Qt.load (by kernel_rfl) rfl (map_at _ _ _ (by omega))) ?_ | refine LW.q rfl (Qt.load (by kernel_rfl) rfl (flat_cell0 _ _ _ (by intros; rfl) _ (by omega) (by rfl))) ?_ | refine LW.q rfl (Qt.load (by kernel_rfl) rfl (flat_cell _ _ _ (by intros; rfl) _ _ (by omega) (by rfl))) ?_ | refine LW.q rfl (Qt.load (by kernel_rfl) rfl (bytes_at _ _ (by omega))) ?_
 refine LW.q rfl (Qt.len (e := 58) (sz := 7) (by kernel_rfl) rfl) ?_
 refine LW.q rfl (Qt.move rfl) ?_
 refine LW.done ?_
 refine T.block ?_
 refine T.loop (fun mz fz lz => ∃ (f0 : Fr) (i : Nat) (cs : List C7) (A : Assn) (q : Option Addr) (l0 c0 : Nat), (i ≤ args.length ∧ TmsV B A ((args.take i).map (moveT by0)) cs ∧ cs.length = l0 ∧ l0 = i ∧ (0 < l0 → ∃ g, q = some ⟨g, 0, none⟩)) ∧ mz = args.length - i ∧ fz = (upd (upd (upd (upd (upd (upd (upd f0 1 (iV by0)) 2 (.pointer (some ⟨g2, 0, none⟩))) 4 (.pointer (some ⟨g4, 0, none⟩))) 5 (.pointer (some ⟨g5, 0, none⟩))) 19 (.slice pa args.length ca)) 20 (.int .i64 args.length)) 21 (.int .i64 i)) ∧ lz = row (.slice q l0 c0) 58 7 l0 (cs.flatMap c7) :: blk g5 [tV op, iV k, iV v.kind, iV v.int, tV v.text, iV p2, .slice q l0 c0] 58 :: blk g4 [.string .empty, iV 0, iV 0, iV 0, .string .empty, iV 0, .slice none 0 0] 58 :: A :: (S ++ F)) ?_ ?_
 · refine ⟨_, _, ⟨_, 0, [], pu True, none, 0, 0, ⟨Nat.zero_le _, ⟨rfl, by intro i t c h; simp at h⟩, rfl, rfl, fun h => absurd h (by omega)⟩, rfl, (updS rfl (updS rfl (updS rfl (updS rfl (updS rfl (updS rfl (updS rfl rfl))))))), rfl⟩, Sub.any⟩
 ·
  rintro mz fz lz ⟨f0, i, cs, A, q, l0, c0, ⟨hi, htv, hcl, hli, hq⟩, hmz, rfl, rfl⟩
  subst mz
  try simp only [List.cons_append, List.nil_append]
  refine T.seq ?_
  refine T.region ?_
  refine LW.q rfl (Qt.lss rfl rfl) ?_
  refine LW.done ?_
  refine T.seq ?_
  refine T.condP rfl (fun hlt => ?_) (fun hlt => ?_)
  ·
   obtain ⟨b, o, rfl, hr⟩ := hf.at (sz := 7) (fun _ => rfl) (by omega)
   obtain ⟨x, hx⟩ : ∃ x, args[i]? = some x := ⟨_, List.getElem?_eq_getElem (by omega)⟩
   obtain ⟨y, hy⟩ : ∃ y, css[i]? = some y := ⟨_, List.getElem?_eq_getElem (by omega)⟩
   have hq1 := hr i y hy
   have ihx := ih i x y hx hy
   obtain ⟨pa1, m1, rfl⟩ := (hc i x y hx hy).form
   refine T.skip ?_
   refine T.seq ?_
   refine T.block ?_
   refine T.seq ?_
   refine T.region ?_
   refine LW.q rfl (Qt.index _ (e := 58) (sz := 7) (by kernel_rfl) rfl rfl rfl (by omega)) ?_
   refine LW.q rfl (Qt.loadAggW (c7 ⟨tV x.op, iV x.kind, iV x.v.kind, iV x.v.int, tV x.v.text, iV x.place, .slice pa1 x.args.length m1⟩) (by kernel_rfl) rfl (fun w ho => hq1 w (ho.map Sub.any))) ?_
   refine LW.e rfl (Ef.alloc [.string .empty, .int .i64 0, .int .i64 0, .int .i64 0, .string .empty, .int .i64 0, .slice none 0 0] (by unfold zeroB; kernel_rfl) ?_)
   intro g7
   refine LW.e0 rfl (Ef.store [_, _, _, _, _, _, _] (by kernel_rfl) rfl rfl rfl rfl (by simp) ?_)
   try simp only [splice, List.length_cons, List.length_nil, List.drop_succ_cons, List.cons_append, List.take_succ_cons, List.take_zero, List.drop_zero, List.nil_append, List.append_nil]
   refine LW.done ?_
   refine T.draw 7 ([blk g5 [tV op, iV k, iV v.kind, iV v.int, tV v.text, iV p2, .slice q l0 c0] 58, blk g7 [tV x.op, iV x.kind, iV x.v.kind, iV x.v.int, tV x.v.text, iV x.place, .slice pa1 x.args.length m1] 58]) (by kernel_rfl) (Nat.le_of_ble_eq_true rfl) (by kernel_rfl) ?_
   refine RW.q 0 rfl rfl (by kernel_rfl) Sub.any (Qt.fieldAddr (off := 6) (by kernel_rfl) rfl) ?_
   first | refine RW.q 1 rfl rfl (by kernel_rfl) Sub.any (Qt.load (by kernel_rfl) rfl rfl) ?_ | refine RW.q 1 rfl rfl (by kernel_rfl) Sub.any (Qt.load (by kernel_rfl) rfl (map_at _ _ _ (by omega))) ?_ | refine RW.q 1 rfl rfl (by kernel_rfl) Sub.any (Qt.load (by kernel_rfl) rfl (flat_cell0 _ _ _ (by intros; rfl) _ (by omega) (by rfl))) ?_ | refine RW.q 1 rfl rfl (by kernel_rfl) Sub.any (Qt.load (by kernel_rfl) rfl (flat_cell _ _ _ (by intros; rfl) _ _ (by omega) (by rfl))) ?_ | refine RW.q 1 rfl rfl (by kernel_rfl) Sub.any (Qt.load (by kernel_rfl) rfl (bytes_at _ _ (by omega))) ?_
   first | refine RW.q 2 rfl rfl (by kernel_rfl) Sub.any (Qt.loadAgg [_, _, _, _, _, _, _] (by kernel_rfl) rfl ⟨rfl, rfl, rfl, rfl, rfl, rfl, rfl, trivial⟩) ?_ | refine RW.q 2 rfl rfl (by kernel_rfl) Sub.any (Qt.loadAgg [_, _, _, _, _, _, _] (by kernel_rfl) rfl (by exact rdl_flat _ _ _ (by intros; rfl) _ (by omega))) ?_
   refine RW.q 3 rfl rfl (by kernel_rfl) Sub.any (Qt.move rfl) ?_
   refine RW.one 4 (by kernel_rfl) ?_
   refine RO.eS rfl rfl (Ef.call (ihx) Try.func19 rfl rfl rfl ?_)
   rintro _ _ ⟨A1, c1, rfl, ht1, rfl⟩
   try simp only [List.cons_append, List.nil_append]
   obtain ⟨pa7, ca7, rfl⟩ := ht1.form
   have hsn := htv.snoc ht1
   try simp only [List.cons_append, List.nil_append]
   refine ⟨Sub.any, ?_⟩
   refine RW.one 5 (by kernel_rfl) ?_
   refine RO.eS rfl rfl (Ef.one [_, _, _, _, _, _, _] (e := 58) (sz := 7) (by kernel_rfl) ⟨.agg #[.string .empty, .int .i64 0, .int .i64 0, .int .i64 0, .string .empty, .int .i64 0, .slice none 0 0], by kernel_rfl, rfl⟩ rfl rfl rfl (by omega) (by omega) ?_)
   intro g30
   refine ⟨Sub.any, ?_⟩
   refine RW.one 6 (by kernel_rfl) ?_
   refine RO.eS rfl rfl (Ef.append Bd.elemT rfl rfl (SrcOf.blk (by kernel_rfl) rfl (by simp [Value.oneCell'])) (by unfold maxLen; omega) (by omega) ?_)
   rintro p4 c4 hp4
   try simp only [List.cons_append, List.nil_append]
   rw [show cs.flatMap c7 ++ [tV (moveT by0 x).op, iV (moveT by0 x).kind, iV (moveT by0 x).v.kind, iV (moveT by0 x).v.int, tV (moveT by0 x).v.text, iV (moveT by0 x).place, .slice pa7 (moveT by0 x).args.length ca7] = (cs ++ [(⟨tV (moveT by0 x).op, iV (moveT by0 x).kind, iV (moveT by0 x).v.kind, iV (moveT by0 x).v.int, tV (moveT by0 x).v.text, iV (moveT by0 x).place, .slice pa7 (moveT by0 x).args.length ca7⟩ : C7)]).flatMap c7 by simp]
   refine ⟨Sub.any, ?_⟩
   refine RW.done (by rfl) ?_
   simp only [List.drop_succ_cons, List.drop_zero, List.drop_nil]
   refine LW.q rfl (Qt.fieldAddr (off := 6) (by kernel_rfl) rfl) ?_
   refine LW.e0 rfl (Ef.store1 (by kernel_rfl) rfl rfl rfl (by first | (simp; done) | (simp; omega)) ?_)
   try simp only [List.set_cons_zero, List.set_cons_succ]
   refine LW.done ?_
   refine T.region ?_
   refine LW.q rfl (Qt.add rfl rfl (wr64 (by omega) (by omega))) ?_
   refine LW.q rfl (Qt.move rfl) ?_
   refine LW.done ?_
   refine ⟨_, ?_, _, ⟨_, i + 1, cs ++ [⟨tV (moveT by0 x).op, iV (moveT by0 x).kind, iV (moveT by0 x).v.kind, iV (moveT by0 x).v.int, tV (moveT by0 x).v.text, iV (moveT by0 x).place, .slice pa7 (moveT by0 x).args.length ca7⟩], sepL [A, A1], p4, l0 + 1, c4, ⟨by omega, by rw [map_next hx]; exact hsn, by simp [hcl], by omega, hp4⟩, rfl, (updS rfl (updS rfl (updS rfl (updS rfl (updS rfl (updS rfl (updS rfl rfl))))))), rfl⟩, Sub.any⟩
   first | omega | (simp; omega)
  ·
   obtain rfl : args.length = i := by omega
   rw [List.take_length] at htv
   refine T.exit ?_
   refine T.seq ?_
   refine T.region ?_
   first | refine LW.q rfl (Qt.loadAgg [_, _, _, _, _, _, _] (by kernel_rfl) rfl ⟨rfl, rfl, rfl, rfl, rfl, rfl, rfl, trivial⟩) ?_ | refine LW.q rfl (Qt.loadAgg [_, _, _, _, _, _, _] (by kernel_rfl) rfl (by exact rdl_flat _ _ _ (by intros; rfl) _ (by omega))) ?_
   refine LW.e0 rfl (Ef.store [_, _, _, _, _, _, _] (by kernel_rfl) rfl rfl rfl rfl (by simp) ?_)
   try simp only [splice, List.length_cons, List.length_nil, List.drop_succ_cons, List.cons_append, List.take_succ_cons, List.take_zero, List.drop_zero, List.nil_append, List.append_nil]
   refine LW.done ?_
   refine T.ret ?_
   exact ⟨.inl rfl, _, _, res [_] rfl ⟨rvA [_, _, _, _, _, _, _] (by kernel_rfl) rfl ⟨rfl, rfl, rfl, rfl, rfl, rfl, rfl, trivial⟩, trivial⟩, ⟨sepL [row (.slice q l0 c0) 58 7 l0 (cs.flatMap c7), A], ⟨tV _, iV _, iV _, iV _, tV _, iV _, _⟩, rfl, by rw [moveT, ← hp2]; exact .mk op k v p2 _ _ cs ((FlV.row (l := [A]) (sz := 7) (fun _ => rfl) (by omega) hcl hq).mono fun w ho => ho.map fun _ H => Has.open_sepL H) htv.1 (by simp; omega) (fun i t c h1 h2 => (htv.2 i t c h1 h2).sub fun _ H => (Has.open_sepL H).tail), rfl⟩, Sub.any⟩
end Go.Proofs.Ytopbkdpbljebgaa

/- The laws of bind: awake, scopes; the document's Scope and Find. Conditions: that what is handed in can be read; sizes. -/
set_option linter.unusedSimpArgs false
set_option linter.unusedVariables false
namespace Go.Proofs.Ytopbkdpbljebgaa
open Go.RowKit

section
variable {P : Program} {B : Base} {n : Nat} {S l r : List Assn} {f : Fr} {K : Value → List Assn → Prop} {Φ : Post}
variable {d : Option Tmp} {ty : TypeId} {pos : String} {af : Array Edge} {gd : Option (Nat × Bool)}
/-- A slice literal of elements of several cells, all of them told. -/
theorem Ef.lits {t e sz len : Nat} {parts : Array (Nat × Operand)} (vs C : List Value) (hk : sliceB P t e sz = true) (hz : ((P.info? e).bind (·.zero)).isSome = true) (hp : parts.toList.map (fun p => (p.1, ev n f p.2)) = (vs.zipIdx 0).map fun x => (x.2, some x.1)) (h1 : ∀ v ∈ vs, v.cells.size = sz) (hC : (vs.flatMap fun v => v.cells.toList) = C) (hl : vs.length = len) (h0 : 0 < len) (hs0 : 0 < sz) (h24 : len * sz ≤ 16777216)
    (h : ∀ g, K (.slice (some ⟨g, 0, none⟩) len len) (blk g C e :: l)) : Ef P B n ⟨d, .buildSlice t len parts, ty, pos, af, gd⟩ f l K := ⟨fun w next Q ho hk' => by
  subst hC
  obtain ⟨q1, q2⟩ := sliceB_spec hk
  obtain ⟨i, hi, his⟩ := info_of_size q2
  rw [hi] at hz
  obtain ⟨z, hzz⟩ := Option.isSome_iff_exists.1 hz
  have hpe : (parts.map fun p => (p.1, evu n f p.2)).toList = (vs.zipIdx 0).map fun x => (x.2, x.1) := by
    rw [Array.toList_map]
    have e := congrArg (List.map (fun p : Nat × Option Value => (p.1, p.2.getD undef))) hp
    simp only [List.map_map, Function.comp_def, Option.getD_some] at e
    exact e
  have hpos : 0 < len * sz := Nat.mul_pos h0 hs0
  have hr := run_buildSlice (P := P) w t e len (parts.map fun p => (p.1, evu n f p.2)) (vs.flatMap fun v => v.cells.toList).toArray i z q1 hi (by simpa using hzz) (by rw [his]; omega) (by rw [his]; omega) (by rw [hpe, his]; exact Great.fill_whole hs0 _ _ h1 (by simp [hl]))
  unfold Oper.wp execOp
  simp only [eval_act', Sem.run_bind, hr, Sem.run_pure, Result.andThen_ok]
  exact hk' _ _ _ (h _) (ho.alloc _ e)⟩
end

abbrev tblC (g : Nat) : List Value := [iV 1, .string ⟨#[84]⟩, .slice (some ⟨g, 0, none⟩) 2 2, .slice none 0 0, .bool false]
abbrev colsC : List Value := [.string ⟨#[65]⟩, iV 1, .string ⟨#[66]⟩, iV 2]
theorem Be.table (B : Base) : Fn Try.prog B 12 #[] [] (fun u l => ∃ g, u = .agg (tblC g).toArray ∧ l = [blk g colsC 29]) := by
  refine Fn.enter0 5 Try.func12 rfl rfl (Nat.le_of_ble_eq_true rfl) (fun F => ?_)
  try simp only [List.cons_append, List.nil_append]
  refine T.seq ?_
  refine T.region ?_
  refine LW.e rfl (Ef.alloc [.int .i64 0, .string .empty, .slice none 0 0, .slice none 0 0, .bool false] (by unfold zeroB; kernel_rfl) ?_)
  intro g0
  refine LW.done ?_
  refine T.seq ?_
  refine T.region ?_
  refine LW.q rfl (Qt.build [(0, 1), (1, 1)] [.string .empty, .int .i64 0] [_, _] [(0, _), (1, _)] (by kernel_rfl) (by unfold zeroB; kernel_rfl) rfl rfl) ?_
  refine LW.q rfl (Qt.build [(0, 1), (1, 1)] [.string .empty, .int .i64 0] [_, _] [(0, _), (1, _)] (by kernel_rfl) (by unfold zeroB; kernel_rfl) rfl rfl) ?_
  refine LW.e rfl (Ef.lits [_, _] [_, _, _, _] (e := 29) (sz := 2) (by kernel_rfl) (by kernel_rfl) rfl (by simp [Value.cells]) rfl rfl (by omega) (by omega) (by omega) ?_)
  intro g3
  refine LW.q rfl (Qt.build [(0, 1), (1, 1), (2, 1), (3, 1), (4, 1)] [.int .i64 0, .string .empty, .slice none 0 0, .slice none 0 0, .bool false] [_, _, _, _, _] [(0, _), (1, _), (2, _)] (by kernel_rfl) (by unfold zeroB; kernel_rfl) rfl rfl) ?_
  refine LW.e0 rfl (Ef.store [_, _, _, _, _] (by kernel_rfl) rfl rfl rfl rfl (by simp) ?_)
  try simp only [splice, List.length_cons, List.length_nil, List.drop_succ_cons, List.cons_append, List.take_succ_cons, List.take_zero, List.drop_zero, List.nil_append, List.append_nil]
  refine LW.done ?_
  refine T.ret ?_
  exact ⟨.inl rfl, _, _, res [_] rfl ⟨rvA [_, _, _, _, _] (by kernel_rfl) rfl ⟨rfl, rfl, rfl, rfl, rfl, trivial⟩, trivial⟩, ⟨g3, rfl, rfl⟩, Sub.any⟩
def tblT : Tb := ⟨1, [84], [([65], 1), ([66], 2)]⟩
def tblSc : List Co := [⟨[84], [65], 1⟩, ⟨[84], [66], 2⟩]
theorem Be.tbV (B : Base) (g1 g2 : Nat) (l : List Assn) : TbV B (blk g1 (tblC g2) 48 :: blk g2 colsC 29 :: l) (.slice (some ⟨g1, 0, none⟩) 1 1) [tblT] :=
  ⟨_, 1, rfl, .inr ⟨g1, 0, rfl, fun i t h => by
    cases i with
    | succ i => simp at h
    | zero =>
      simp at h; subst h
      exact ⟨_, 2, none, 0, 0, false, fun w ho => ho.range (g := g1) (o := 0) (C := tblC g2) (fun j v hj => by rw [Nat.zero_add]; exact hj),
        ⟨_, 2, rfl, .inr ⟨g2, 0, rfl, fun w ho => ho.range (g := g2) (o := 0) (C := colsC) (fun j v hj => by rw [Nat.zero_add]; exact hj)⟩⟩⟩⟩⟩
abbrev inI (a : Int) : Prop := -9223372036854775808 ≤ a ∧ a ≤ 9223372036854775807
/-- An expression's numbers lie in their kind's room. -/
inductive ExI : Ex → Prop
  | mk (op : Str) (n : Int) (text of : Str) (args : List Ex) (hn : inI n) (ha : ∀ (i : Nat) x, args[i]? = some x → ExI x) : ExI (.mk op n text of args)
mutual
def exSz : Ex → Nat
  | .mk _ _ _ _ args => 1 + exSzL args
def exSzL : List Ex → Nat
  | [] => 0
  | e :: es => exSz e + exSzL es
end
def awEx : Ex := .mk [43] 0 [] [] [.mk [110, 97, 109, 101] 0 [65] [] [], .mk [110, 117, 109, 98, 101, 114] 2 [] [] []]
def awTm : Tm := .mk [43] 1 vZ 0 [.mk sCol 1 vZ 0 [], .mk sVal 1 ⟨1, 2, []⟩ 0 []]
abbrev awC : List Value := [.string ⟨#[110, 97, 109, 101]⟩, iV 0, .string ⟨#[65]⟩, .string .empty, .slice none 0 0, .string ⟨#[110, 117, 109, 98, 101, 114]⟩, iV 2, .string .empty, .string .empty, .slice none 0 0]
theorem ExV.leaf (B : Base) (S : List Assn) (op : Str) (n : Int) (text of : Str) (ht : text.length < 2 ^ 40) : ExV B S (.mk op n text of []) ⟨tV op, iV n, tV text, tV of, .slice none 0 0⟩ :=
  .mk op n text of [] _ [] (.empty _ _) rfl (by simp) ht (by intro i t c h; simp at h)
theorem Be.awV (B : Base) (g : Nat) : ExV B [blk g awC 42] awEx ⟨tV [43], iV 0, tV [], tV [], .slice (some ⟨g, 0, none⟩) 2 2⟩ :=
  .mk [43] 0 [] [] _ _ [⟨tV [110, 97, 109, 101], iV 0, tV [65], tV [], .slice none 0 0⟩, ⟨tV [110, 117, 109, 98, 101, 114], iV 2, tV [], tV [], .slice none 0 0⟩]
    ⟨_, 2, rfl, .inr ⟨g, 0, rfl, fun w ho => ho.range (g := g) (o := 0) (C := awC) (fun j v hj => by rw [Nat.zero_add]; exact hj)⟩⟩ rfl (by decide) (by decide) (by
    intro i t c h1 h2
    match i with
    | 0 => simp at h1 h2; subst h1; subst h2; exact ExV.leaf _ _ _ _ _ _ (by decide)
    | 1 => simp at h1 h2; subst h1; subst h2; exact ExV.leaf _ _ _ _ _ _ (by decide)
    | i + 2 => simp at h1)
theorem aw_bind : bindE tblSc awEx = .ok awTm := by
  simp [awEx, bindE, bindL, awTm, findC, hits, tabs, tblSc, hitB, tabB, okT, kindP, Tm.kind, alls, kindAt, cmpOp, List.range, List.range.loop]
theorem aw_ok : TmOk awTm := .two _ _ _ _ _ _ (by decide) (by decide) (by decide) (.col _ _ _) (.val _ _ _)
theorem aw_eval : evalR [⟨1, 5, []⟩, ⟨2, 0, []⟩] awTm = (⟨1, 7, []⟩, 0) := by
  simp [evalR, awTm, evalT, colT, reckonT, arithE, arithP, w64, IntKind.wrap, IntKind.bits, IntKind.signed, truthV]
theorem Bd.kindF (B : Base) (t : Tm) (S : List Assn) (c : C7) (h : TmV B S t c) : Fn Try.prog B 17 #[tA c] [] (fun u l => u = iV t.kind ∧ l = []) := by
  obtain ⟨a, m, rfl⟩ := h.form
  refine Fn.enter1 5 Try.func17 rfl rfl (Nat.le_of_ble_eq_true rfl) (fun F => ?_)
  try simp only [List.cons_append, List.nil_append]
  refine T.seq ?_
  refine T.region ?_
  refine LW.e rfl (Ef.box [_, _, _, _, _, _, _] rfl rfl ?_)
  intro g1
  refine LW.q rfl (Qt.assign rfl) ?_
  refine LW.done ?_
  refine T.seq ?_
  refine T.region ?_
  refine LW.q rfl (Qt.fieldAddr (off := 1) (by kernel_rfl) rfl) ?_
  first | refine LW.q rfl (Qt.load (by kernel_rfl) rfl rfl) ?_ | refine LW.q rfl (Qt.load (by kernel_rfl) rfl (map_at _ _ _ (by omega))) ?_ | refine LW.q rfl (Qt.load (by kernel_rfl) rfl (flat_cell0 _ _ _ (by intros; rfl) _ (by omega) (by rfl))) ?_ | refine LW.q rfl (Qt.load (by kernel_rfl) rfl (flat_cell _ _ _ (by intros; rfl) _ _ (by omega) (by rfl))) ?_ | refine LW.q rfl (Qt.load (by kernel_rfl) rfl (bytes_at _ _ (by omega))) ?_
  refine LW.q rfl (Qt.assign rfl) ?_
  refine LW.done ?_
  refine T.ret ?_
  exact ⟨.inl rfl, _, _, res [_] rfl ⟨rvT rfl, trivial⟩, ⟨rfl, rfl⟩, Sub.any⟩
set_option maxHeartbeats 1000000 in
theorem Be.awake (B : Base) : Fn Try.prog B 7 #[] [] (fun u l => u = .bool true ∧ l = []) := by
  refine Fn.enter0 47 Try.func7 rfl rfl (Nat.le_of_ble_eq_true rfl) (fun F => ?_)
  try simp only [List.cons_append, List.nil_append]
  refine T.seq ?_
  refine T.region ?_
  refine LW.q rfl (Qt.assign rfl) ?_
  refine LW.done ?_
  refine T.seq ?_
  refine T.region ?_
  refine LW.e rfl (Ef.call (Be.table B) Try.func12 rfl rfl rfl ?_)
  rintro _ _ ⟨gc, rfl, rfl⟩
  try simp only [List.cons_append, List.nil_append]
  refine LW.e rfl (Ef.one [_, _, _, _, _] (e := 48) (sz := 5) (by kernel_rfl) ⟨.agg #[.int .i64 0, .string .empty, .slice none 0 0, .slice none 0 0, .bool false], by kernel_rfl, rfl⟩ rfl rfl rfl (by omega) (by omega) ?_)
  intro g7
  refine LW.e rfl (Ef.call (Bd.scope B [blk g7 (tblC gc) 48, blk gc colsC 29] _ [tblT] (Be.tbV B g7 gc []) (by decide) (by decide)) Try.func11 rfl rfl rfl ?_)
  rintro _ _ ⟨ps, ks, rfl, hps, rfl⟩
  try simp only [List.cons_append, List.nil_append]
  refine LW.q rfl (Qt.assign rfl) ?_
  refine LW.done ?_
  refine T.seq ?_
  refine T.region ?_
  refine LW.q rfl (Qt.build [(0, 1), (1, 1), (2, 1), (3, 1), (4, 1)] [.string .empty, .int .i64 0, .string .empty, .string .empty, .slice none 0 0] [_, _, _, _, _] [(0, _), (2, _)] (by kernel_rfl) (by unfold zeroB; kernel_rfl) rfl rfl) ?_
  refine LW.q rfl (Qt.build [(0, 1), (1, 1), (2, 1), (3, 1), (4, 1)] [.string .empty, .int .i64 0, .string .empty, .string .empty, .slice none 0 0] [_, _, _, _, _] [(0, _), (1, _)] (by kernel_rfl) (by unfold zeroB; kernel_rfl) rfl rfl) ?_
  refine LW.e rfl (Ef.lits [_, _] [_, _, _, _, _, _, _, _, _, _] (e := 42) (sz := 5) (by kernel_rfl) (by kernel_rfl) rfl (by simp [Value.cells]) rfl rfl (by omega) (by omega) (by omega) ?_)
  intro g12
  refine LW.q rfl (Qt.build [(0, 1), (1, 1), (2, 1), (3, 1), (4, 1)] [.string .empty, .int .i64 0, .string .empty, .string .empty, .slice none 0 0] [_, _, _, _, _] [(0, _), (4, _)] (by kernel_rfl) (by unfold zeroB; kernel_rfl) rfl rfl) ?_
  refine LW.q rfl (Qt.move rfl) ?_
  obtain ⟨gs, rfl⟩ := hps (by decide)
  rw [show scopeP [tblT] = tblSc from rfl, show tblSc.length = 2 from rfl]
  have hsc : FlV B [row (.slice (some ⟨gs, 0, none⟩) 2 ks) 31 3 2 (tblSc.flatMap coC)] coC (.slice (some ⟨gs, 0, none⟩) 2 ks) tblSc := FlV.row (sz := 3) coC_len (by omega) rfl (fun _ => ⟨gs, rfl⟩)
  refine LW.e rfl (Ef.call (Bd.bind B [blk g12 awC 42, row (.slice (some ⟨gs, 0, none⟩) 2 ks) 31 3 2 (tblSc.flatMap coC)] awEx _ _ 2 ks tblSc ((Be.awV B g12).mono fun w ho => ho.map Sub.any) (hsc.mono fun w ho => ho.map Sub.any) rfl (by decide)) Try.func15 rfl rfl rfl ?_)
  rintro u l hp
  try simp only [List.cons_append, List.nil_append]
  obtain ⟨A1, c1, rfl, ht1, rfl⟩ := hp.okE aw_bind
  have hK := Bd.kindF B awTm _ c1 ht1
  have hE := fun g => Bd.evalF B [A1, blk g [iV 1, iV 5, .string .empty, iV 2, iV 0, .string .empty] 55] [⟨1, 5, []⟩, ⟨2, 0, []⟩] (some ⟨g, 0, none⟩) 2 2 ⟨_, 2, rfl, .inr ⟨g, 0, rfl, fun w ho => ho.range (g := g) (o := 0) (C := [iV 1, iV 5, .string .empty, iV 2, iV 0, .string .empty]) (fun j v hj => by rw [Nat.zero_add]; exact hj)⟩⟩ rfl (by decide) awTm aw_ok c1 (ht1.mono fun w ho => ho.map Sub.any)
  rw [aw_eval] at hE
  obtain ⟨a1, m1, rfl⟩ := ht1.form
  try simp only [List.cons_append, List.nil_append]
  refine LW.q rfl (Qt.move rfl) ?_
  refine LW.q rfl (Qt.extr rfl rfl) ?_
  refine LW.q rfl (Qt.extr rfl rfl) ?_
  refine LW.e rfl (Ef.alloc [.string .empty, .int .i64 0, .int .i64 0, .int .i64 0, .string .empty, .int .i64 0, .slice none 0 0] (by unfold zeroB; kernel_rfl) ?_)
  intro g2
  refine LW.e0 rfl (Ef.store [_, _, _, _, _, _, _] (by kernel_rfl) rfl rfl rfl rfl (by simp) ?_)
  try simp only [splice, List.length_cons, List.length_nil, List.drop_succ_cons, List.cons_append, List.take_succ_cons, List.take_zero, List.drop_zero, List.nil_append, List.append_nil]
  refine LW.q rfl (Qt.assign rfl) ?_
  refine LW.done ?_
  refine T.seq ?_
  refine T.seq ?_
  refine T.region ?_
  refine LW.q rfl (Qt.move rfl) ?_
  refine LW.q rfl (Qt.neq rfl rfl) ?_
  refine LW.q rfl (Qt.move rfl) ?_
  first | refine LW.gF (t := 20) rfl rfl ?_ | refine LW.gF (t := 20) rfl (decide_eq_false (rfl)) ?_ | refine LW.gF (t := 20) rfl (rfl) ?_
  first | refine LW.q rfl (Qt.loadAgg [_, _, _, _, _, _, _] (by kernel_rfl) rfl ⟨rfl, rfl, rfl, rfl, rfl, rfl, rfl, trivial⟩) ?_ | refine LW.q rfl (Qt.loadAgg [_, _, _, _, _, _, _] (by kernel_rfl) rfl (by exact rdl_flat _ _ _ (by intros; rfl) _ (by omega))) ?_
  refine LW.e rfl (Ef.call (hK) Try.func17 rfl rfl rfl ?_)
  rintro _ _ ⟨rfl, rfl⟩
  try simp only [List.cons_append, List.nil_append]
  refine LW.q rfl (Qt.neq rfl rfl) ?_
  refine LW.q rfl (Qt.pick rfl rfl) ?_
  refine LW.q rfl (Qt.move rfl) ?_
  first | refine LW.gF (t := 25) rfl rfl ?_ | refine LW.gF (t := 25) rfl (decide_eq_false ((by decide))) ?_ | refine LW.gF (t := 25) rfl ((by decide)) ?_
  refine LW.q rfl (Qt.move rfl) ?_
  refine LW.q rfl (Qt.len (e := 31) (sz := 3) (by kernel_rfl) rfl) ?_
  refine LW.q rfl (Qt.neq rfl rfl) ?_
  refine LW.q rfl (Qt.pick rfl rfl) ?_
  refine LW.done ?_
  first | refine T.condF rfl ?_ | refine T.condPF rfl ((by decide)) ?_ | refine T.condBF rfl ((by decide)) ?_
  refine T.skip ?_
  refine T.seq ?_
  refine T.region ?_
  first | refine LW.q rfl (Qt.loadAgg [_, _, _, _, _, _, _] (by kernel_rfl) rfl ⟨rfl, rfl, rfl, rfl, rfl, rfl, rfl, trivial⟩) ?_ | refine LW.q rfl (Qt.loadAgg [_, _, _, _, _, _, _] (by kernel_rfl) rfl (by exact rdl_flat _ _ _ (by intros; rfl) _ (by omega))) ?_
  refine LW.q rfl (Qt.build [(0, 1), (1, 1), (2, 1)] [.int .i64 0, .int .i64 0, .string .empty] [_, _, _] [(0, _), (1, _)] (by kernel_rfl) (by unfold zeroB; kernel_rfl) rfl rfl) ?_
  refine LW.q rfl (Qt.build [(0, 1), (1, 1), (2, 1)] [.int .i64 0, .int .i64 0, .string .empty] [_, _, _] [(0, _)] (by kernel_rfl) (by unfold zeroB; kernel_rfl) rfl rfl) ?_
  refine LW.e rfl (Ef.lits [_, _] [_, _, _, _, _, _] (e := 55) (sz := 3) (by kernel_rfl) (by kernel_rfl) rfl (by simp [Value.cells]) rfl rfl (by omega) (by omega) (by omega) ?_)
  intro g34
  refine LW.e rfl (Ef.call (hE g34) Try.func16 rfl rfl rfl ?_)
  rintro _ _ ⟨rfl, rfl⟩
  try simp only [List.cons_append, List.nil_append]
  refine LW.q rfl (Qt.move rfl) ?_
  refine LW.q rfl (Qt.extr rfl rfl) ?_
  refine LW.q rfl (Qt.extr rfl rfl) ?_
  refine LW.e rfl (Ef.alloc [.int .i64 0, .int .i64 0, .string .empty] (by unfold zeroB; kernel_rfl) ?_)
  intro g4
  refine LW.e0 rfl (Ef.store [_, _, _] (by kernel_rfl) rfl rfl rfl rfl (by simp) ?_)
  try simp only [splice, List.length_cons, List.length_nil, List.drop_succ_cons, List.cons_append, List.take_succ_cons, List.take_zero, List.drop_zero, List.nil_append, List.append_nil]
  refine LW.q rfl (Qt.assign rfl) ?_
  refine LW.done ?_
  refine T.seq ?_
  refine T.region ?_
  refine LW.q rfl (Qt.move rfl) ?_
  refine LW.q rfl (Qt.eql rfl rfl) ?_
  refine LW.q rfl (Qt.move rfl) ?_
  first | refine LW.gT (t := 40) rfl rfl ?_ | refine LW.gT (t := 40) rfl (decide_eq_true ((by decide))) ?_ | refine LW.gT (t := 40) rfl ((by decide)) ?_
  refine LW.q rfl (Qt.fieldAddr (off := 1) (by kernel_rfl) rfl) ?_
  first | refine LW.q rfl (Qt.load (by kernel_rfl) rfl rfl) ?_ | refine LW.q rfl (Qt.load (by kernel_rfl) rfl (map_at _ _ _ (by omega))) ?_ | refine LW.q rfl (Qt.load (by kernel_rfl) rfl (flat_cell0 _ _ _ (by intros; rfl) _ (by omega) (by rfl))) ?_ | refine LW.q rfl (Qt.load (by kernel_rfl) rfl (flat_cell _ _ _ (by intros; rfl) _ _ (by omega) (by rfl))) ?_ | refine LW.q rfl (Qt.load (by kernel_rfl) rfl (bytes_at _ _ (by omega))) ?_
  refine LW.q rfl (Qt.eql rfl rfl) ?_
  refine LW.q rfl (Qt.pick rfl rfl) ?_
  refine LW.q rfl (Qt.move rfl) ?_
  refine LW.q rfl (Qt.pick rfl rfl) ?_
  refine LW.q rfl (Qt.assign rfl) ?_
  refine LW.done ?_
  refine T.ret ?_
  exact ⟨.inl rfl, _, _, res [_] rfl ⟨rvT rfl, trivial⟩, ⟨by rfl, rfl⟩, Sub.any⟩
end Go.Proofs.Ytopbkdpbljebgaa

/- How tables, expressions and values read. Conditions: none. -/
set_option linter.unusedSimpArgs false
set_option linter.unusedVariables false
namespace Go.Proofs.Ytopbkdpbljebgaa
open Go.ChangeShapes Go.WideShapes Go.ChangeAt Go.RowKit

theorem Own.base_range {W w : World} {S : List Assn} {b o : Nat} {cs : List Value} (h : W.rangeAt b o cs) (H : Own (baseOf W) w S) : w.rangeAt b o cs := fun j v hv => by
  obtain ⟨c, t, fr, hb, hc⟩ := range_cell (h j v hv)
  have := H.ro.p b _ hb
  rw [cell_of_row w b (o + j) c t fr this]
  exact hc
theorem rangeAt_flat {α : Type} {g : α → List Value} {sz : Nat} {w : World} {b : Nat} (hg : ∀ a, (g a).length = sz) : ∀ (l : List α) (o : Nat), (∀ (i : Nat) x, l[i]? = some x → w.rangeAt b (o + i * sz) (g x)) → w.rangeAt b o (l.flatMap g)
  | [], _, _, j, v, h => by simp at h
  | a :: l, o, h, j, v, hv => by
    rw [List.flatMap_cons] at hv
    by_cases hj : j < sz
    · rw [List.getElem?_append_left (by rw [hg]; exact hj)] at hv
      have := h 0 a rfl j v hv
      rwa [Nat.zero_mul, Nat.add_zero] at this
    · rw [List.getElem?_append_right (by rw [hg]; omega), hg] at hv
      have := rangeAt_flat hg l (o + sz) (fun i x hx => by
        have := h (i + 1) x (by simpa using hx)
        rwa [Nat.add_mul, Nat.one_mul, Nat.add_comm (i * sz) sz, ← Nat.add_assoc] at this) (j - sz) v hv
      rwa [Nat.add_assoc, Nat.add_sub_cancel' (by omega)] at this
theorem FlV.len {B : Base} {S : List Assn} {α : Type} {g : α → List Value} {a : Option Addr} {m c : Nat} {x : List α} (h : FlV B S g (.slice a m c) x) : x.length = m := by
  obtain ⟨_, _, e, _⟩ := h
  injection e with _ e2 _
  exact e2.symm
theorem SliceAt.flV {W : World} {sz : Nat} {α : Type} {R : List Value → α → Prop} {v : Value} {l : List α} {g : α → List Value} (h : SliceAt W sz R v l) (hR : ∀ cs a, R cs a → cs = g a) (hg : ∀ a, (g a).length = sz) : FlV (baseOf W) [] g v l := by
  rcases h with ⟨rfl, rfl⟩ | ⟨a, cap, rfl, hl, hm, hi⟩
  · exact ⟨none, 0, rfl, .inl rfl⟩
  · refine ⟨some a, cap, rfl, ?_⟩
    by_cases h0 : l = []
    · exact .inl h0
    · obtain ⟨_, b, o, rfl, _, _, _, _⟩ := hi 0 (List.length_pos_iff.2 h0)
      refine .inr ⟨b, o, rfl, fun w ho => rangeAt_flat hg l o fun i x hx => ?_⟩
      obtain ⟨hil, rfl⟩ := List.getElem?_eq_some_iff.1 hx
      obtain ⟨cells, b', o', e, _, _, hr, hRc⟩ := hi i hil
      injection e with e1 e2
      subst e1; subst e2
      rw [← hR _ _ hRc]
      exact ho.base_range hr
section
variable {H : Type} {enc : TypeId × Value → H} {P : Program} {W : World}
/-- As open_slice_R, the elements of less bulk. -/
theorem open_slice_RB {t e : TypeId} {sz fuel : Nat} {cs : List Value} {x : DataW H × List MemPlace} {α : Type} {R : List Value → α → Prop} {B : α → Nat} (ht : P.underlying t = some (.slice e)) (hc : P.cellsOf e = sz) (hsz : 0 < sz)
    (hR : ∀ n cs y, Tr enc P W n e cs = some y → Rows.uptoBulk y.1 < Rows.uptoBulk x.1 → ∃ a, R cs a ∧ B a ≤ Rows.uptoBulk y.1) (h : Tr enc P W fuel t cs = some x) :
    ∃ v l, cs = [v] ∧ SliceAt W sz R v l ∧ (l.map B).sum + 1 ≤ Rows.uptoBulk x.1 ∧ l.length + 1 ≤ Rows.uptoBulk x.1 := by
  subst hc
  rcases Deep.open_slice ht h with ⟨rfl, rfl⟩ | ⟨a, len, cap, m, n, D, Pl, rfl, hb, hl, hm, hmm, rfl, hx⟩
  · exact ⟨_, [], rfl, .inl ⟨rfl, rfl⟩, by simp [Rows.uptoBulk], by simp [Rows.uptoBulk]⟩
  · simp only [if_true] at hmm
    subst hmm
    have hD : ∀ i, i < len → ∀ z, Rows.uptoBulk (D i) < Rows.uptoBulk (DataW.slice ((List.range len).map D) z) := fun i hi z => by
      simp only [Rows.uptoBulk, bulkAll_sum]
      have : ∀ L : List Nat, i ∈ L → Rows.uptoBulk (D i) ≤ ((L.map D).map Rows.uptoBulk).sum := by
        intro L hL
        induction L with
        | nil => cases hL
        | cons a L ih =>
          simp only [List.map_cons, List.sum_cons]
          rcases List.mem_cons.1 hL with rfl | hL
          · omega
          · have := ih hL; omega
      have := this (List.range len) (List.mem_range.2 hi)
      omega
    obtain ⟨l, hll, hli⟩ := choose_list (n := len) (Q := fun i (y : α) => ∃ cells, W.cells? 0 (a.add (i * P.cellsOf e)) (P.cellsOf e) = some cells ∧ R cells y ∧ B y ≤ Rows.uptoBulk (D i)) (fun i hi => by
      obtain ⟨cs', h1, h2⟩ := hx i (by omega)
      obtain ⟨y, hy, hB⟩ := hR n cs' _ h2 (hD i (by omega) _)
      exact ⟨y, cs', h1, hy, hB⟩)
    refine ⟨_, l, rfl, .inr ⟨a, m, by rw [hll], by omega, hm, fun i hi => ?_⟩, ?_, ?_⟩
    · obtain ⟨cells, h1, h2, _⟩ := hli i hi
      obtain ⟨_, h4, h5⟩ := World.cells?_some h1
      have hsp : a.spot = none := by
        have h0 := hx 0 (by omega)
        obtain ⟨cs', g1, _⟩ := h0
        obtain ⟨_, g4, g5⟩ := World.cells?_some g1
        have := g5 0 hsz
        simp only [Nat.zero_mul] at this
        have hadd : (a.add 0).add 0 = a := by simp [Addr.add]
        rw [hadd, List.getElem?_eq_getElem (by omega)] at this
        unfold World.cell? at this
        cases hh : W.heap[a.block]? with
        | none => simp [hh] at this
        | some o =>
          cases o <;> simp [hh] at this
          have hq := this.1
          cases hs : a.spot with
          | none => rfl
          | some s => simp [hs] at hq
      obtain ⟨b, o, sp⟩ := a
      simp only at hsp
      subst hsp
      have hcell : W.rangeAt b (o + i * P.cellsOf e) cells := fun j v hj => by
        have hjl : j < P.cellsOf e := by have := (List.getElem?_eq_some_iff.1 hj).1; omega
        have := h5 j hjl
        rw [Addr.add_mid, Addr.add_mid] at this
        rw [this]; exact hj
      have hlt : b < W.heap.size := World.block_lt_of_cell? W _ (hcell 0 _ (List.getElem?_eq_getElem (by omega)))
      exact ⟨cells, b, o, rfl, hlt, h4, hcell, h2⟩
    · have := map_sum_le B Rows.uptoBulk l ((List.range len).map D) (by simp [hll]) (fun i h1 h2 => by
        obtain ⟨_, _, _, h3⟩ := hli i h1
        simpa using h3)
      simp only [Rows.uptoBulk, bulkAll_sum]
      omega
    · simp only [Rows.uptoBulk]
      have h1 : l.length ≤ Rows.uptoBulkAll ((List.range len).map D) := by
        rw [bulkAll_sum, hll]
        have : ∀ L : List Nat, L.length ≤ ((L.map D).map Rows.uptoBulk).sum := by
          intro L
          induction L with
          | nil => simp
          | cons a L ih =>
            simp only [List.map_cons, List.sum_cons, List.length_cons]
            have : 1 ≤ Rows.uptoBulk (D a) := by
              cases D a with
              | lit l => cases l <;> simp [Rows.uptoBulk]
              | _ => simp [Rows.uptoBulk]
            omega
        simpa using this (List.range len)
      omega

theorem five_of {α : Type} {l : List α} (h : l.length = 5) : ∃ a b c d e, l = [a, b, c, d, e] := by
  match l, h with
  | [a, b, c, d, e], _ => exact ⟨a, b, c, d, e, rfl⟩
theorem three_of {α : Type} {l : List α} (h : l.length = 3) : ∃ a b c, l = [a, b, c] := by
  match l, h with
  | [a, b, c], _ => exact ⟨a, b, c, rfl⟩
theorem exSzL_sum : ∀ l : List Ex, exSzL l = (l.map exSz).sum
  | [] => by simp [exSzL]
  | a :: l => by rw [exSzL, exSzL_sum l]; simp
/-- A value as it reads. -/
def VaR (cs : List Value) (v : Va) : Prop := cs = vaC v ∧ inI v.kind ∧ inI v.int
theorem read_va (n : Nat) (cs : List Value) (y : DataW H × List MemPlace) (h : Tr enc Try.prog W n 55 cs = some y) : ∃ v : Va, VaR cs v ∧ v.text.length + 1 ≤ Rows.uptoBulk y.1 := by
  obtain ⟨xs, m, rfl, rfl, hl, hx, hf⟩ := DataW.trod_struct Try.underlying55 h
  rw [show Try.prog.cellsOf 55 = 3 by kernel_rfl] at hl
  obtain ⟨c0, c1, c2, rfl⟩ := three_of hl
  obtain ⟨x0, x1, x2, rfl⟩ := three_of hx
  have f0 := field_of hf 0 3 0 1 rfl (by kernel_rfl)
  have f1 := field_of hf 1 2 1 1 rfl (by kernel_rfl)
  have f2 := field_of hf 2 9 2 1 rfl (by kernel_rfl)
  simp only [List.drop_zero, List.drop_succ_cons, List.take_succ_cons, List.take_zero, List.getElem?_cons_zero, List.getElem?_cons_succ] at f0 f1 f2
  obtain ⟨i0, ⟨e0, b1, b2⟩, _⟩ := read_i64 Try.underlying3 _ _ _ f0
  obtain ⟨i1, ⟨e1, b3, b4⟩, _⟩ := read_i64 Try.underlying2 _ _ _ f1
  obtain ⟨s2, e2, hb⟩ := read_str Try.underlying9 _ _ _ f2
  simp only [List.cons.injEq, and_true] at e0 e1 e2
  subst e0; subst e1; subst e2
  refine ⟨⟨i0, i1, s2⟩, ⟨rfl, ⟨b1, b2⟩, b3, b4⟩, ?_⟩
  simp only [List.map_cons, List.map_nil, Rows.uptoBulk, Rows.uptoBulkAll]
  omega
def TbR (W : World) (cs : List Value) (t : Tb) : Prop := ∃ ca cc ka kl kc ib, cs = [iV t.id, tV t.name, .slice ca t.cols.length cc, .slice ka kl kc, .bool ib] ∧ FlV (baseOf W) [] ccC (.slice ca t.cols.length cc) t.cols
theorem SliceAt.tbV {v : Value} {l : List Tb} (h : SliceAt W 5 (TbR W) v l) : TbV (baseOf W) [] v l := by
  rcases h with ⟨rfl, rfl⟩ | ⟨a, cap, rfl, hl, hm, hi⟩
  · exact ⟨none, 0, rfl, .inl rfl⟩
  · refine ⟨some a, cap, rfl, ?_⟩
    by_cases h0 : l = []
    · exact .inl h0
    · obtain ⟨_, b, o, rfl, _, _, _, _⟩ := hi 0 (List.length_pos_iff.2 h0)
      refine .inr ⟨b, o, rfl, fun i t ht => ?_⟩
      obtain ⟨hil, rfl⟩ := List.getElem?_eq_some_iff.1 ht
      obtain ⟨cells, b', o', e, _, _, hr, ca, cc, ka, kl, kc, ib, rfl, hf⟩ := hi i hil
      injection e with e1 e2
      subst e1; subst e2
      exact ⟨ca, cc, ka, kl, kc, ib, fun w ho => ho.base_range hr, hf⟩
def ExR (W : World) (cs : List Value) (p : Ex × C5) : Prop := cs = c5 p.2 ∧ ExV (baseOf W) [] p.1 p.2 ∧ ExI p.1
theorem read_ex : ∀ (N n : Nat) (cs : List Value) (y : DataW H × List MemPlace), Tr enc Try.prog W n 42 cs = some y → Rows.uptoBulk y.1 ≤ N → N < 2 ^ 32 → ∃ p : Ex × C5, ExR W cs p ∧ exSz p.1 ≤ Rows.uptoBulk y.1 := by
  intro N
  induction N with
  | zero =>
    intro n cs y h hN _
    obtain ⟨xs, m, rfl, rfl, hl, hx, hf⟩ := DataW.trod_struct Try.underlying42 h
    simp [Rows.uptoBulk] at hN
  | succ N ih =>
  intro n cs y h hN hN2
  obtain ⟨xs, m, rfl, rfl, hl, hx, hf⟩ := DataW.trod_struct Try.underlying42 h
  rw [show Try.prog.cellsOf 42 = 5 by kernel_rfl] at hl
  obtain ⟨c0, c1, c2, c3, c4, rfl⟩ := five_of hl
  obtain ⟨x0, x1, x2, x3, x4, rfl⟩ := five_of hx
  simp only [List.map_cons, List.map_nil, Rows.uptoBulk, Rows.uptoBulkAll] at hN ⊢
  have f0 := field_of hf 0 9 0 1 rfl (by kernel_rfl)
  have f1 := field_of hf 1 2 1 1 rfl (by kernel_rfl)
  have f2 := field_of hf 2 9 2 1 rfl (by kernel_rfl)
  have f3 := field_of hf 3 9 3 1 rfl (by kernel_rfl)
  have f4 := field_of hf 4 40 4 1 rfl (by kernel_rfl)
  simp only [List.drop_zero, List.drop_succ_cons, List.take_succ_cons, List.take_zero, List.getElem?_cons_zero, List.getElem?_cons_succ] at f0 f1 f2 f3 f4
  obtain ⟨s0, e0, hb0⟩ := read_str Try.underlying9 _ _ _ f0
  obtain ⟨i1, ⟨e1, b1, b2⟩, _⟩ := read_i64 Try.underlying2 _ _ _ f1
  obtain ⟨s2, e2, hb2⟩ := read_str Try.underlying9 _ _ _ f2
  obtain ⟨s3, e3, hb3⟩ := read_str Try.underlying9 _ _ _ f3
  obtain ⟨v4, l4, e4, hs, hB, hL⟩ := open_slice_RB (R := ExR W) (B := fun p => exSz p.1) Try.underlying40 (show Try.prog.cellsOf 42 = 5 by kernel_rfl) (by omega) (fun n cs y h hlt => ih n cs y h (by omega) (by omega)) f4
  simp only [List.cons.injEq, and_true] at e0 e1 e2 e3 e4
  subst e0; subst e1; subst e2; subst e3; subst e4
  have hfl : FlV (baseOf W) [] (fun p : Ex × C5 => c5 p.2) c4 l4 := hs.flV (fun cs a h => h.1) (fun _ => rfl)
  obtain ⟨a4, k4, rfl⟩ := hfl.form rfl
  have hfl2 : FlV (baseOf W) [] c5 (.slice a4 l4.length k4) (l4.map (·.2)) := by
    obtain ⟨a, c, e, h⟩ := hfl
    refine ⟨a, c, by rw [List.length_map]; exact e, h.imp (fun h => by rw [h]; rfl) ?_⟩
    rintro ⟨b, o, e1, h1⟩
    exact ⟨b, o, e1, fun w ho => by rw [List.flatMap_map]; exact h1 w ho⟩
  have hel : ∀ (i : Nat) (p : Ex × C5), l4[i]? = some p → ExV (baseOf W) [] p.1 p.2 ∧ ExI p.1 := by
    intro i p hp
    obtain ⟨hi, rfl⟩ := List.getElem?_eq_some_iff.1 hp
    rcases hs with ⟨_, h⟩ | ⟨a, cap, _, _, _, h⟩
    · rw [h] at hi; simp at hi
    · obtain ⟨cells, b, o, _, _, _, _, hR⟩ := h i hi
      exact ⟨hR.2.1, hR.2.2⟩
  refine ⟨(.mk s0 i1 s2 s3 (l4.map (·.1)), ⟨tV s0, iV i1, tV s2, tV s3, .slice a4 l4.length k4⟩), ⟨rfl, ?_, ?_⟩, ?_⟩
  · refine .mk s0 i1 s2 s3 _ _ (l4.map (·.2)) hfl2 (by rw [List.length_map, List.length_map]) (by rw [List.length_map]; omega) (by omega) ?_
    intro i t c h1 h2
    rw [List.getElem?_map] at h1 h2
    cases hp : l4[i]? with
    | none => rw [hp] at h1; cases h1
    | some p =>
      rw [hp] at h1 h2
      injection h1 with h1; injection h2 with h2
      subst h1; subst h2
      exact (hel i p hp).1
  · refine .mk s0 i1 s2 s3 _ ⟨b1, b2⟩ ?_
    intro i t h1
    rw [List.getElem?_map] at h1
    cases hp : l4[i]? with
    | none => rw [hp] at h1; cases h1
    | some p =>
      rw [hp] at h1
      injection h1 with h1
      subst h1
      exact (hel i p hp).2
  · rw [exSz]
    rw [exSzL_sum, List.map_map]
    have : (List.map (exSz ∘ fun x => x.1) l4).sum = (l4.map fun p => exSz p.1).sum := rfl
    rw [this]
    omega
theorem SliceAt.okRow {v : Value} {l : List Va} (h : SliceAt W 3 VaR v l) : ∀ x ∈ l, -9223372036854775808 ≤ x.int ∧ x.int < 9223372036854775808 := by
  intro x hx
  obtain ⟨i, hi, rfl⟩ := List.getElem_of_mem hx
  rcases h with ⟨_, h⟩ | ⟨a, cap, _, _, _, h⟩
  · rw [h] at hi; simp at hi
  · obtain ⟨cells, b, o, _, _, _, _, hR⟩ := h i hi
    have := hR.2.2
    exact ⟨this.1, by have := this.2; omega⟩
end
end Go.Proofs.Ytopbkdpbljebgaa

/- The laws of bind: the document's Scope and Find; scopes. Conditions: that what is handed in can be read; sizes. -/
set_option linter.unusedSimpArgs false
set_option linter.unusedVariables false
namespace Go.Proofs.Ytopbkdpbljebgaa
open Go.RowKit

set_option maxHeartbeats 1000000 in
theorem Be.find (B : Base) (S : List Assn) (a : Option Addr) (m c : Nat) (sc : List Co) (of name : Str) (h : FlV B S coC (.slice a m c) sc) (hm : sc.length = m) (hn : m < 2 ^ 32) : Fn Try.prog B 10 #[.slice a m c, tV of, tV name] S (fun u l => u = .tuple #[iV (findC sc of name).1, iV (findC sc of name).2] ∧ l = S) := by
 refine Fn.enter3 50 Try.func10 rfl rfl (Nat.le_of_ble_eq_true rfl) (fun F => ?_)
 try simp only [List.cons_append, List.nil_append]
 refine T.seq ?_
 refine T.region ?_
 refine LW.q rfl (Qt.assign rfl) ?_
 refine LW.q rfl (Qt.assign rfl) ?_
 refine LW.done ?_
 refine T.seq ?_
 refine T.region ?_
 refine LW.q rfl (Qt.move rfl) ?_
 refine LW.q rfl (Qt.eqlS rfl rfl) ?_
 refine LW.q rfl (Qt.assign rfl) ?_
 refine LW.done ?_
 refine T.seq ?_
 refine T.region ?_
 refine LW.q rfl (Qt.assign rfl) ?_
 refine LW.done ?_
 refine T.seq ?_
 refine T.region ?_
 refine LW.q rfl (Qt.assign rfl) ?_
 refine LW.done ?_
 refine T.seq ?_
 refine T.seq ?_
 refine T.region ?_
 refine LW.q rfl (Qt.assign rfl) ?_
 refine LW.done ?_
 refine T.block ?_
 refine T.loop (fun mz fz lz => ∃ (f0 : Fr) (k : Nat) (tb : Bool) (at0 : Nat) (cnt : Int), (k ≤ m ∧ tb = decide (of = [] ∨ 0 < tabs sc of k) ∧ at0 = ((hits sc of name k).head?).getD 0 ∧ cnt = ((hits sc of name k).length : Int)) ∧ mz = m - k ∧ fz = (upd (upd (upd (upd (upd (upd (upd f0 0 (.slice a m c)) 1 (tV of)) 2 (tV name)) 8 (.bool tb)) 9 (iV cnt)) 10 (iV at0)) 11 (iV k)) ∧ lz = S ++ F) ?_ ?_
 · refine ⟨_, _, ⟨_, 0, decide (of = []), 0, 0, ⟨Nat.zero_le _, by simp [tabs], rfl, rfl⟩, rfl, (updS rfl (updS rfl (updS rfl (updS rfl (updS rfl (updS rfl (updS rfl rfl))))))), rfl⟩, Sub.any⟩
 ·
  rintro mz fz lz ⟨f0, k, tb, at0, cnt, ⟨hk, htb, hat, hct⟩, hmz, rfl, rfl⟩
  subst mz
  try simp only [List.cons_append, List.nil_append]
  have htl := tabs_le sc of k
  have hhl : (hits sc of name k).length ≤ k := by
   unfold hits
   have := List.length_filter_le (hitB sc of name) (List.range k)
   rwa [List.length_range] at this
  refine T.seq ?_
  refine T.seq ?_
  refine T.region ?_
  refine LW.q rfl (Qt.move rfl) ?_
  refine LW.q rfl (Qt.move rfl) ?_
  refine LW.q rfl (Qt.len (e := 33) (sz := 3) (by kernel_rfl) rfl) ?_
  refine LW.q rfl (Qt.lss rfl rfl) ?_
  refine LW.done ?_
  refine T.condP rfl (fun hlt => ?_) (fun hlt => ?_)
  ·
   obtain ⟨b, o, rfl, hr⟩ := h.at (sz := 3) coC_len (by omega)
   obtain ⟨q, hq⟩ : ∃ q, sc[k]? = some q := ⟨_, List.getElem?_eq_getElem (by omega)⟩
   have hq1 := hr k q hq
   refine T.skip ?_
   refine T.seq ?_
   refine T.block ?_
   refine T.cut (fun fz lz => ∃ (f0 : Fr) (okb : Bool), (okb = okT of q) ∧ fz = (upd (upd (upd (upd (upd (upd (upd (upd f0 0 (.slice (some ⟨b, o, none⟩) m c)) 1 (tV of)) 2 (tV name)) 8 (.bool tb)) 9 (iV cnt)) 10 (iV at0)) 11 (iV k)) 30 (.bool okb)) ∧ lz = S ++ F) ?_ ?_
   ·
    refine T.region ?_
    refine LW.q rfl (Qt.move rfl) ?_
    refine LW.q rfl (Qt.eqlS rfl rfl) ?_
    refine LW.q rfl (Qt.move rfl) ?_
    refine LW.split (t := 22) rfl (fun hof => ?_) (fun hof => ?_)
    ·
     try replace hof := of_decide_eq_true hof
     refine LW.s rfl ?_
     refine LW.s rfl ?_
     refine LW.s rfl ?_
     refine LW.s rfl ?_
     refine LW.s rfl ?_
     refine LW.s rfl ?_
     refine LW.s rfl ?_
     refine LW.q rfl (Qt.pick rfl rfl) ?_
     refine LW.done ?_
     exact ⟨_, ⟨_, true, by unfold okT; rw [decide_eq_true (.inl hof)], (updS rfl (updS rfl (updS rfl (updS rfl (updS rfl (updS rfl (updS rfl (updS rfl rfl)))))))), rfl⟩, Sub.any⟩
    ·
     try replace hof := of_decide_eq_false hof
     refine LW.q rfl (Qt.move rfl) ?_
     refine LW.q rfl (Qt.move rfl) ?_
     refine LW.q rfl (Qt.index _ (e := 33) (sz := 3) (by kernel_rfl) rfl rfl rfl (by omega)) ?_
     refine LW.q rfl (Qt.fieldAddr0 (by kernel_rfl) rfl) ?_
     refine LW.q rfl (Qt.loadW (by kernel_rfl) rfl (fun w ho => rangeAt_one (j := 0) (hq1 w (ho.map Sub.any)) rfl)) ?_
     refine LW.q rfl (Qt.move rfl) ?_
     refine LW.q rfl (Qt.eqlS rfl rfl) ?_
     refine LW.q rfl (Qt.pick rfl rfl) ?_
     refine LW.done ?_
     exact ⟨_, ⟨_, decide (q.table = of), by unfold okT; congr 1; simp [hof], (updS rfl (updS rfl (updS rfl (updS rfl (updS rfl (updS rfl (updS rfl (updS rfl rfl)))))))), rfl⟩, Sub.any⟩
   rintro fz lz ⟨f0, okb, hok, rfl, rfl⟩
   try simp only [List.cons_append, List.nil_append]
   refine T.cond rfl (fun h1 => ?_) (fun h1 => ?_)
   ·
    have hok1 : okT of q = true := hok ▸ h1
    have h2 : tabs sc of (k + 1) = tabs sc of k + 1 := by rw [tabs_succ, tabB_eq hq, hok1]; rfl
    refine T.seq ?_
    refine T.region ?_
    refine LW.q rfl (Qt.assign rfl) ?_
    refine LW.done ?_
    refine T.seq ?_
    refine T.region ?_
    refine LW.q rfl (Qt.move rfl) ?_
    refine LW.q rfl (Qt.move rfl) ?_
    refine LW.q rfl (Qt.index _ (e := 33) (sz := 3) (by kernel_rfl) rfl rfl rfl (by omega)) ?_
    refine LW.q rfl (Qt.fieldAddr (off := 1) (by kernel_rfl) rfl) ?_
    refine LW.q rfl (Qt.loadW (by kernel_rfl) rfl (fun w ho => rangeAt_one (j := 1) (hq1 w (ho.map Sub.any)) rfl)) ?_
    refine LW.q rfl (Qt.move rfl) ?_
    refine LW.q rfl (Qt.eqlS rfl rfl) ?_
    refine LW.done ?_
    refine T.condP rfl (fun hnm => ?_) (fun hnm => ?_)
    ·
     have h3 : hits sc of name (k + 1) = hits sc of name k ++ [k] := by rw [hits_succ, hitB_eq hq, hok1, decide_eq_true hnm]; simp
     refine T.seq ?_
     refine T.seq ?_
     refine T.region ?_
     refine LW.q rfl (Qt.move rfl) ?_
     refine LW.q rfl (Qt.eql rfl rfl) ?_
     refine LW.done ?_
     refine T.condP rfl (fun hz => ?_) (fun hz => ?_)
     ·
      have h4 : hits sc of name k = [] := List.eq_nil_of_length_eq_zero (by omega)
      refine T.region ?_
      refine LW.q rfl (Qt.move rfl) ?_
      refine LW.q rfl (Qt.assign rfl) ?_
      refine LW.done ?_
      refine T.region ?_
      refine LW.q rfl (Qt.move rfl) ?_
      refine LW.q rfl (Qt.add rfl rfl (wr64 (by omega) (by omega))) ?_
      refine LW.q rfl (Qt.assign rfl) ?_
      refine LW.done ?_
      refine T.region ?_
      refine LW.q rfl (Qt.move rfl) ?_
      refine LW.q rfl (Qt.add rfl rfl (wr64 (by omega) (by omega))) ?_
      refine LW.q rfl (Qt.assign rfl) ?_
      refine LW.done ?_
      refine ⟨_, ?_, _, ⟨_, k + 1, true, k, cnt + 1, ⟨by omega, by rw [h2]; exact (decide_eq_true (.inr (by omega))).symm, by rw [h3, h4]; rfl, by rw [h3, List.length_append, hct]; rfl⟩, rfl, (updS rfl (updS rfl (updS rfl (updS rfl (updS rfl (updS rfl (updS rfl rfl))))))), rfl⟩, Sub.any⟩
      first | omega | (simp; omega)
     ·
      refine T.skip ?_
      refine T.region ?_
      refine LW.q rfl (Qt.move rfl) ?_
      refine LW.q rfl (Qt.add rfl rfl (wr64 (by omega) (by omega))) ?_
      refine LW.q rfl (Qt.assign rfl) ?_
      refine LW.done ?_
      refine T.region ?_
      refine LW.q rfl (Qt.move rfl) ?_
      refine LW.q rfl (Qt.add rfl rfl (wr64 (by omega) (by omega))) ?_
      refine LW.q rfl (Qt.assign rfl) ?_
      refine LW.done ?_
      refine ⟨_, ?_, _, ⟨_, k + 1, true, at0, cnt + 1, ⟨by omega, by rw [h2]; exact (decide_eq_true (.inr (by omega))).symm, (by rw [h3, hat]; cases e : hits sc of name k with | nil => (rw [hct, e] at hz; simp at hz) | cons x r => rfl), by rw [h3, List.length_append, hct]; rfl⟩, rfl, (updS rfl (updS rfl (updS rfl (updS rfl (updS rfl (updS rfl (updS rfl rfl))))))), rfl⟩, Sub.any⟩
      first | omega | (simp; omega)
    ·
     have h3 : hits sc of name (k + 1) = hits sc of name k := by rw [hits_succ, hitB_eq hq, hok1, decide_eq_false hnm]; simp
     refine T.skip ?_
     refine T.region ?_
     refine LW.q rfl (Qt.move rfl) ?_
     refine LW.q rfl (Qt.add rfl rfl (wr64 (by omega) (by omega))) ?_
     refine LW.q rfl (Qt.assign rfl) ?_
     refine LW.done ?_
     refine ⟨_, ?_, _, ⟨_, k + 1, true, at0, cnt, ⟨by omega, by rw [h2]; exact (decide_eq_true (.inr (by omega))).symm, by rw [h3]; exact hat, by rw [h3]; exact hct⟩, rfl, (updS rfl (updS rfl (updS rfl (updS rfl (updS rfl (updS rfl (updS rfl rfl))))))), rfl⟩, Sub.any⟩
     first | omega | (simp; omega)
   ·
    have hok1 : okT of q = false := hok ▸ h1
    have h2 : tabs sc of (k + 1) = tabs sc of k := by rw [tabs_succ, tabB_eq hq, hok1]; rfl
    have h3 : hits sc of name (k + 1) = hits sc of name k := by rw [hits_succ, hitB_eq hq, hok1]; simp
    refine T.skip ?_
    refine T.region ?_
    refine LW.q rfl (Qt.move rfl) ?_
    refine LW.q rfl (Qt.add rfl rfl (wr64 (by omega) (by omega))) ?_
    refine LW.q rfl (Qt.assign rfl) ?_
    refine LW.done ?_
    refine ⟨_, ?_, _, ⟨_, k + 1, tb, at0, cnt, ⟨by omega, by rw [h2]; exact htb, by rw [h3]; exact hat, by rw [h3]; exact hct⟩, rfl, (updS rfl (updS rfl (updS rfl (updS rfl (updS rfl (updS rfl (updS rfl rfl))))))), rfl⟩, Sub.any⟩
    first | omega | (simp; omega)
  ·
   obtain rfl : m = k := by omega
   refine T.exit ?_
   refine T.seq ?_
   refine T.seq ?_
   refine T.region ?_
   refine LW.q rfl (Qt.move rfl) ?_
   refine LW.q rfl (Qt.gtr rfl rfl) ?_
   refine LW.done ?_
   refine T.condP rfl (fun h1 => ?_) (fun h1 => ?_)
   ·
    have h4 : findC sc of name = (0, 173) := by unfold findC; rw [hm, if_pos (by omega)]
    refine T.seq ?_
    refine T.region ?_
    refine LW.q rfl (Qt.assign rfl) ?_
    refine LW.q rfl (Qt.assign rfl) ?_
    refine LW.done ?_
    refine T.ret ?_
    exact ⟨.inl rfl, _, _, res [_, _] rfl ⟨rvT rfl, rvT rfl, trivial⟩, ⟨by rw [h4]; rfl, rfl⟩, Sub.any⟩
   ·
    refine T.skip ?_
    refine T.seq ?_
    refine T.seq ?_
    refine T.region ?_
    refine LW.q rfl (Qt.move rfl) ?_
    first | refine LW.q rfl (Qt.notP rfl) ?_ | refine LW.q rfl (Qt.notB rfl) ?_
    refine LW.done ?_
    refine T.cond rfl (fun h2 => ?_) (fun h2 => ?_)
    ·
     have htf : ¬ (of = [] ∨ 0 < tabs sc of m) := by
      have : tb = false := by simpa using h2
      rw [this] at htb
      exact of_decide_eq_false htb.symm
     have h4 : findC sc of name = (0, 160) := by unfold findC; rw [hm, if_neg (by omega), if_pos ⟨fun e => htf (.inl e), by omega⟩]
     refine T.seq ?_
     refine T.region ?_
     refine LW.q rfl (Qt.assign rfl) ?_
     refine LW.q rfl (Qt.assign rfl) ?_
     refine LW.done ?_
     refine T.ret ?_
     exact ⟨.inl rfl, _, _, res [_, _] rfl ⟨rvT rfl, rvT rfl, trivial⟩, ⟨by rw [h4]; rfl, rfl⟩, Sub.any⟩
    ·
     have htf : ¬ (of ≠ [] ∧ tabs sc of m = 0) := by
      have : tb = true := by simpa using h2
      rw [this] at htb
      have h5 := of_decide_eq_true htb.symm
      rintro ⟨e1, e2⟩
      exact h5.elim e1 (by omega)
     refine T.skip ?_
     refine T.seq ?_
     refine T.seq ?_
     refine T.region ?_
     refine LW.q rfl (Qt.move rfl) ?_
     refine LW.q rfl (Qt.eql rfl rfl) ?_
     refine LW.done ?_
     refine T.condP rfl (fun h3 => ?_) (fun h3 => ?_)
     ·
      have h4 : findC sc of name = (0, 161) := by
       have e : hits sc of name m = [] := List.eq_nil_of_length_eq_zero (by omega)
       unfold findC; rw [hm, if_neg (by omega), if_neg htf, e]
      refine T.seq ?_
      refine T.region ?_
      refine LW.q rfl (Qt.assign rfl) ?_
      refine LW.q rfl (Qt.assign rfl) ?_
      refine LW.done ?_
      refine T.ret ?_
      exact ⟨.inl rfl, _, _, res [_, _] rfl ⟨rvT rfl, rvT rfl, trivial⟩, ⟨by rw [h4]; rfl, rfl⟩, Sub.any⟩
     ·
      have h4 : findC sc of name = (at0, 0) := by
       unfold findC; rw [hm, if_neg (by omega), if_neg htf, hat]
       cases e : hits sc of name m with
       | nil => rw [hct, e] at h3; simp at h3
       | cons x r => rfl
      refine T.skip ?_
      refine T.seq ?_
      refine T.region ?_
      refine LW.q rfl (Qt.move rfl) ?_
      refine LW.q rfl (Qt.assign rfl) ?_
      refine LW.q rfl (Qt.assign rfl) ?_
      refine LW.done ?_
      refine T.ret ?_
      exact ⟨.inl rfl, _, _, res [_, _] rfl ⟨rvT rfl, rvT rfl, trivial⟩, ⟨by rw [h4]; rfl, rfl⟩, Sub.any⟩
end Go.Proofs.Ytopbkdpbljebgaa

/- The laws of bind: scopes; BindScopes. Conditions: that what is handed in can be read; sizes. -/
set_option linter.unusedSimpArgs false
set_option linter.unusedVariables false
namespace Go.Proofs.Ytopbkdpbljebgaa
open Go.RowKit

set_option maxHeartbeats 1000000 in
theorem Be.scope (B : Base) (S : List Assn) (tv : Value) (ts : List Tb) (h : TbV B S tv ts) (hn : ts.length < 2 ^ 32) (hc : (ts.map fun t => t.cols.length).sum < 2 ^ 30) : Fn Try.prog B 23 #[tv] S (fun u l => ∃ p c, u = .slice p (scopeP ts).length c ∧ (0 < (scopeP ts).length → ∃ g, p = some ⟨g, 0, none⟩) ∧ l = row (.slice p (scopeP ts).length c) 33 3 (scopeP ts).length ((scopeP ts).flatMap coC) :: S) := by
 obtain ⟨a, cap, rfl, hr⟩ := h
 have E : ElemOk Try.prog 25 33 3 40 := .mk' (.agg #[.string .empty, .string .empty, .int .i64 0]) Try.underlying25 (by kernel_rfl) rfl (by omega)
 refine Fn.enter1 45 Try.func23 rfl rfl (Nat.le_of_ble_eq_true rfl) (fun F => ?_)
 try simp only [List.cons_append, List.nil_append]
 refine T.seq ?_
 refine T.region ?_
 refine LW.q rfl (Qt.assign rfl) ?_
 refine LW.done ?_
 refine T.seq ?_
 refine T.region ?_
 refine LW.q rfl (Qt.assign rfl) ?_
 refine LW.done ?_
 refine T.seq ?_
 refine T.seq ?_
 refine T.region ?_
 refine LW.q rfl (Qt.assign rfl) ?_
 refine LW.done ?_
 refine T.block ?_
 refine T.conv (l' := row (.slice none 0 0) 33 3 0 (List.flatMap coC []) :: _) (fun w ho => ho.row_nil 33 3) ?_
 refine T.loop (fun mz fz lz => ∃ (f0 : Fr) (i : Nat) (acc : List Co) (p : Option Addr) (n c : Nat), (i ≤ ts.length ∧ acc = scopeP (ts.take i) ∧ acc.length = n ∧ (0 < n → ∃ g, p = some ⟨g, 0, none⟩)) ∧ mz = ts.length - i ∧ fz = (upd (upd (upd f0 0 (.slice a ts.length cap)) 3 (.slice p n c)) 4 (.int .i64 i)) ∧ lz = row (.slice p n c) 33 3 n (acc.flatMap coC) :: (S ++ F)) ?_ ?_
 · refine ⟨_, _, ⟨_, 0, [], none, 0, 0, ⟨Nat.zero_le _, rfl, rfl, fun h => absurd h (by omega)⟩, rfl, (updS rfl (updS rfl (updS rfl rfl))), rfl⟩, Sub.any⟩
 ·
  rintro mz fz lz ⟨f0, i, acc, p, n, c, ⟨hi, hacc, hlen, hp⟩, hmz, rfl, rfl⟩
  subst mz
  try simp only [List.cons_append, List.nil_append]
  refine T.seq ?_
  refine T.seq ?_
  refine T.region ?_
  refine LW.q rfl (Qt.move rfl) ?_
  refine LW.q rfl (Qt.move rfl) ?_
  refine LW.q rfl (Qt.len (e := 73) (sz := 5) (by kernel_rfl) rfl) ?_
  refine LW.q rfl (Qt.lss rfl rfl) ?_
  refine LW.done ?_
  refine T.condP rfl (fun hlt => ?_) (fun hlt => ?_)
  ·
   obtain ⟨b, o, rfl, hro⟩ := hr.resolve_left (by intro e; rw [e] at hlt; simp at hlt; omega)
   obtain ⟨t, ht⟩ : ∃ t, ts[i]? = some t := ⟨_, List.getElem?_eq_getElem (by omega)⟩
   obtain ⟨ca, cc, ka, kl, kc, ib, h1, h2⟩ := hro i t ht
   have hsl := scopeP_len (l := ts) (i + 1)
   rw [scopeP_succ ht] at hsl
   have hcl : (colsP t).length = t.cols.length := by simp [colsP]
   rw [List.length_append, hcl, ← hacc, hlen] at hsl
   clear hro hr
   refine T.skip ?_
   refine T.seq ?_
   refine T.block ?_
   refine T.seq ?_
   refine T.region ?_
   refine LW.q rfl (Qt.assign rfl) ?_
   refine LW.done ?_
   refine T.block ?_
   refine T.loop (fun mz fz lz => ∃ (f0 : Fr) (j : Nat) (acc2 : List Co) (p : Option Addr) (n2 c : Nat), (j ≤ t.cols.length ∧ acc2 = acc ++ (colsP t).take j ∧ acc2.length = n2 ∧ n2 = n + j ∧ (0 < n2 → ∃ g, p = some ⟨g, 0, none⟩)) ∧ mz = t.cols.length - j ∧ fz = (upd (upd (upd (upd f0 0 (.slice (some ⟨b, o, none⟩) ts.length cap)) 3 (.slice p n2 c)) 4 (.int .i64 i)) 5 (.int .i64 j)) ∧ lz = row (.slice p n2 c) 33 3 n2 (acc2.flatMap coC) :: (S ++ F)) ?_ ?_
   · refine ⟨_, _, ⟨_, 0, acc, p, n, c, ⟨Nat.zero_le _, by simp, hlen, rfl, hp⟩, rfl, (updS rfl (updS rfl (updS rfl (updS rfl rfl)))), rfl⟩, Sub.any⟩
   ·
    rintro mz fz lz ⟨f0, j, acc2, p, n2, c, ⟨hj, hacc2, hlen2, hn2, hp2⟩, hmz, rfl, rfl⟩
    subst mz
    try simp only [List.cons_append, List.nil_append]
    refine T.seq ?_
    refine T.seq ?_
    refine T.region ?_
    refine LW.q rfl (Qt.move rfl) ?_
    refine LW.q rfl (Qt.move rfl) ?_
    refine LW.q rfl (Qt.move rfl) ?_
    refine LW.q rfl (Qt.index _ (e := 73) (sz := 5) (by kernel_rfl) rfl rfl rfl (by omega)) ?_
    refine LW.q rfl (Qt.fieldAddr (off := 2) (by kernel_rfl) rfl) ?_
    refine LW.q rfl (Qt.loadW (by kernel_rfl) rfl (fun w ho => rangeAt_one (j := 2) (h1 w (ho.map Sub.any)) rfl)) ?_
    refine LW.q rfl (Qt.len (e := 29) (sz := 2) (by kernel_rfl) rfl) ?_
    refine LW.q rfl (Qt.lss rfl rfl) ?_
    refine LW.done ?_
    refine T.condP rfl (fun hlt2 => ?_) (fun hlt2 => ?_)
    ·
     obtain ⟨cb, co, rfl, hcr⟩ := h2.at (sz := 2) (fun _ => rfl) (by omega)
     obtain ⟨q, hq⟩ : ∃ q, t.cols[j]? = some q := ⟨_, List.getElem?_eq_getElem (by omega)⟩
     have hq1 := hcr j q hq
     refine T.skip ?_
     refine T.seq ?_
     refine T.block ?_
     refine T.seq ?_
     refine T.region ?_
     refine LW.q rfl (Qt.move rfl) ?_
     refine LW.q rfl (Qt.move rfl) ?_
     refine LW.q rfl (Qt.index _ (e := 73) (sz := 5) (by kernel_rfl) rfl rfl rfl (by omega)) ?_
     refine LW.q rfl (Qt.fieldAddr (off := 2) (by kernel_rfl) rfl) ?_
     refine LW.q rfl (Qt.loadW (by kernel_rfl) rfl (fun w ho => rangeAt_one (j := 2) (h1 w (ho.map Sub.any)) rfl)) ?_
     refine LW.q rfl (Qt.move rfl) ?_
     refine LW.q rfl (Qt.index _ (e := 29) (sz := 2) (by kernel_rfl) rfl rfl rfl (by omega)) ?_
     refine LW.q rfl (Qt.loadAggW [_, _] (by kernel_rfl) rfl (fun w ho => hq1 w (ho.map Sub.any))) ?_
     refine LW.e rfl (Ef.alloc [.string .empty, .int .i64 0] (by unfold zeroB; kernel_rfl) ?_)
     intro g6
     refine LW.e0 rfl (Ef.store [_, _] (by kernel_rfl) rfl rfl rfl rfl (by simp) ?_)
     try simp only [splice, List.length_cons, List.length_nil, List.drop_succ_cons, List.cons_append, List.take_succ_cons, List.take_zero, List.drop_zero, List.nil_append, List.append_nil]
     refine LW.done ?_
     refine T.draw 13 ((blk g6 [tV q.1, iV q.2] 29 :: S)) (by kernel_rfl) (Nat.le_of_ble_eq_true rfl) (by kernel_rfl) ?_
     refine RW.q 0 rfl rfl (by kernel_rfl) Sub.any (Qt.move rfl) ?_
     refine RW.q 1 rfl rfl (by kernel_rfl) Sub.any (Qt.move rfl) ?_
     refine RW.q 2 rfl rfl (by kernel_rfl) Sub.any (Qt.move rfl) ?_
     refine RW.q 3 rfl rfl (by kernel_rfl) Sub.any (Qt.index _ (e := 73) (sz := 5) (by kernel_rfl) rfl rfl rfl (by omega)) ?_
     refine RW.q 4 rfl rfl (by kernel_rfl) Sub.any (Qt.fieldAddr (off := 1) (by kernel_rfl) rfl) ?_
     refine RW.q 5 rfl rfl (by kernel_rfl) Sub.any (Qt.loadW (by kernel_rfl) rfl (fun w ho => rangeAt_one (j := 1) (h1 w (ho.map Sub.any)) rfl)) ?_
     refine RW.q 6 rfl rfl (by kernel_rfl) Sub.any (Qt.fieldAddr0 (by kernel_rfl) rfl) ?_
     first | refine RW.q 7 rfl rfl (by kernel_rfl) Sub.any (Qt.load (by kernel_rfl) rfl rfl) ?_ | refine RW.q 7 rfl rfl (by kernel_rfl) Sub.any (Qt.load (by kernel_rfl) rfl (map_at _ _ _ (by omega))) ?_ | refine RW.q 7 rfl rfl (by kernel_rfl) Sub.any (Qt.load (by kernel_rfl) rfl (flat_cell0 _ _ _ (by intros; rfl) _ (by omega) (by rfl))) ?_ | refine RW.q 7 rfl rfl (by kernel_rfl) Sub.any (Qt.load (by kernel_rfl) rfl (flat_cell _ _ _ (by intros; rfl) _ _ (by omega) (by rfl))) ?_ | refine RW.q 7 rfl rfl (by kernel_rfl) Sub.any (Qt.load (by kernel_rfl) rfl (bytes_at _ _ (by omega))) ?_
     refine RW.q 8 rfl rfl (by kernel_rfl) Sub.any (Qt.fieldAddr (off := 1) (by kernel_rfl) rfl) ?_
     first | refine RW.q 9 rfl rfl (by kernel_rfl) Sub.any (Qt.load (by kernel_rfl) rfl rfl) ?_ | refine RW.q 9 rfl rfl (by kernel_rfl) Sub.any (Qt.load (by kernel_rfl) rfl (map_at _ _ _ (by omega))) ?_ | refine RW.q 9 rfl rfl (by kernel_rfl) Sub.any (Qt.load (by kernel_rfl) rfl (flat_cell0 _ _ _ (by intros; rfl) _ (by omega) (by rfl))) ?_ | refine RW.q 9 rfl rfl (by kernel_rfl) Sub.any (Qt.load (by kernel_rfl) rfl (flat_cell _ _ _ (by intros; rfl) _ _ (by omega) (by rfl))) ?_ | refine RW.q 9 rfl rfl (by kernel_rfl) Sub.any (Qt.load (by kernel_rfl) rfl (bytes_at _ _ (by omega))) ?_
     refine RW.q 10 rfl rfl (by kernel_rfl) Sub.any (Qt.build [(0, 1), (1, 1), (2, 1)] [.string .empty, .string .empty, .int .i64 0] [_, _, _] [(0, _), (1, _), (2, _)] (by kernel_rfl) (by unfold zeroB; kernel_rfl) rfl rfl) ?_
     refine RW.one 11 (by kernel_rfl) ?_
     refine RO.eS rfl rfl (Ef.one [_, _, _] (e := 33) (sz := 3) (by kernel_rfl) ⟨.agg #[.string .empty, .string .empty, .int .i64 0], by kernel_rfl, rfl⟩ rfl rfl rfl (by omega) (by omega) ?_)
     intro g42
     refine ⟨Sub.any, ?_⟩
     refine RW.one 12 (by kernel_rfl) ?_
     refine RO.eS rfl rfl (Ef.append E rfl rfl (SrcOf.blk (by kernel_rfl) rfl (by simp [Value.oneCell'])) (by unfold maxLen; omega) (by omega) ?_)
     rintro p4 c4 hp4
     try simp only [List.cons_append, List.nil_append]
     rw [show acc2.flatMap coC ++ [tV t.name, tV q.1, iV q.2] = (acc2 ++ [(⟨t.name, q.1, q.2⟩ : Co)]).flatMap coC by simp]
     refine ⟨Sub.any, ?_⟩
     refine RW.done (by rfl) ?_
     simp only [List.drop_succ_cons, List.drop_zero, List.drop_nil]
     refine LW.q rfl (Qt.assign rfl) ?_
     refine LW.done ?_
     refine T.region ?_
     refine LW.q rfl (Qt.move rfl) ?_
     refine LW.q rfl (Qt.add rfl rfl (wr64 (by omega) (by omega))) ?_
     refine LW.q rfl (Qt.assign rfl) ?_
     refine LW.done ?_
     refine ⟨_, ?_, _, ⟨_, j + 1, acc2 ++ [⟨t.name, q.1, q.2⟩], p4, n2 + 1, c4, ⟨by omega, by rw [hacc2, colsP_succ hq, List.append_assoc], by simp [hlen2], by omega, hp4⟩, rfl, (updS rfl (updS rfl (updS rfl (updS rfl rfl)))), rfl⟩, Sub.any⟩
     first | omega | (simp; omega)
    ·
     obtain rfl : t.cols.length = j := by omega
     refine T.exit ?_
     refine T.region ?_
     refine LW.q rfl (Qt.move rfl) ?_
     refine LW.q rfl (Qt.add rfl rfl (wr64 (by omega) (by omega))) ?_
     refine LW.q rfl (Qt.assign rfl) ?_
     refine LW.done ?_
     refine ⟨_, ?_, _, ⟨_, i + 1, acc2, p, n2, c, ⟨by omega, by rw [hacc2, scopeP_succ ht, hacc, show List.take t.cols.length (colsP t) = colsP t from List.take_of_length_le (by rw [hcl]; exact Nat.le_refl _)], hlen2, hp2⟩, rfl, (updS rfl (updS rfl (updS rfl rfl))), rfl⟩, Sub.any⟩
     first | omega | (simp; omega)
  ·
   obtain rfl : ts.length = i := by omega
   rw [List.take_length] at hacc
   subst hacc
   subst hlen
   refine T.exit ?_
   refine T.seq ?_
   refine T.region ?_
   refine LW.q rfl (Qt.move rfl) ?_
   refine LW.q rfl (Qt.assign rfl) ?_
   refine LW.done ?_
   refine T.ret ?_
   exact ⟨.inl rfl, _, _, res [_] rfl ⟨rvT rfl, trivial⟩, ⟨p, c, rfl, hp, rfl⟩, Sub.any⟩
structure Td where
  t : Tb
  ca : Option Addr
  cc : Nat
abbrev tdC (d : Td) : List Value := [iV d.t.id, tV d.t.name, .slice d.ca d.t.cols.length d.cc, .slice none 0 0, .bool false]
def TdsV (B : Base) (S : List Assn) (ts : List Tb) (D : List Td) : Prop := ∀ (i : Nat) (d : Td), D[i]? = some d → ts[i]? = some d.t ∧ FlV B S ccC (.slice d.ca d.t.cols.length d.cc) d.t.cols
theorem TdsV.tbV {B : Base} {S : List Assn} {ts : List Tb} {D : List Td} (h : TdsV B S ts D) (hl : D.length = ts.length) (p : Option Addr) (m c e : Nat) (hm : D.length = m) (hp : 0 < m → ∃ g, p = some ⟨g, 0, none⟩) : TbV B (row (.slice p m c) e 5 m (D.flatMap tdC) :: S) (.slice p m c) ts := by
  have hf : FlV B (row (.slice p m c) e 5 m (D.flatMap tdC) :: S) tdC (.slice p m c) D := FlV.row (sz := 5) (fun _ => rfl) (by omega) hm hp
  refine ⟨p, c, by rw [← hl, hm], ?_⟩
  rcases Nat.eq_zero_or_pos m with h0 | h0
  · exact .inl (List.eq_nil_of_length_eq_zero (by omega))
  · obtain ⟨b, o, rfl, hr⟩ := hf.at (sz := 5) (fun _ => rfl) h0
    refine .inr ⟨b, o, rfl, fun i t ht => ?_⟩
    obtain ⟨d, hd⟩ : ∃ d, D[i]? = some d := ⟨_, List.getElem?_eq_getElem (by rw [hl]; exact (List.getElem?_eq_some_iff.1 ht).1)⟩
    obtain ⟨h1, h2⟩ := h i d hd
    rw [ht] at h1; injection h1 with h1; subst h1
    exact ⟨d.ca, d.cc, none, 0, 0, false, hr i d hd, h2.mono fun w ho => ho.tl⟩
end Go.Proofs.Ytopbkdpbljebgaa
