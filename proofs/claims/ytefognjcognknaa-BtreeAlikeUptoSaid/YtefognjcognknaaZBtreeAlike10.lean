/- The law BtreeAlike of annalslaw09 holds: for all arguments of bulk at most 1048576 the call returns true and the arguments read as before. Condition: the bound of the second form. -/
import Derived.Test.YtefognjcognknaaZBtreeAlike9
import Derived.Laws.StructEq
/- btree's laws: pairs. Conditions: sizes. -/
set_option linter.unusedSimpArgs false
set_option linter.unusedVariables false
namespace Go.Proofs.Ytefognjcognknaa
open Go.RowKit
abbrev kvA (p : KV) : Value := .agg (kvC p).toArray
theorem KV.eq_bool (a b : KV) : decide (a = b) = ((a.1 == b.1) && (a.2 == b.2)) := by
  cases a; cases b
  rw [Bool.eq_iff_iff]
  simp
section
variable {B : Base} {n : Nat} {S l r : List Assn} {f : Fr}
variable {d : Option Tmp} {ty : TypeId} {pos : String} {af : Array Edge} {gd : Option (Nat × Bool)}
theorem run_eqKV (w : World) (a b : KV) : (Op.equalIn 10000 36 (kvA a) (kvA b)).run Try.prog w = .ok (decide (a = b)) w := by
  rw [run_equalIn_struct w 9999 36 _ _ (by kernel_rfl) (by kernel_rfl)]
  rw [KV.eq_bool]
  have h0 : Try.prog.underlying 9 = some .string := by kernel_rfl
  have h1 : Try.prog.underlying 2 = some (.int .i64) := by kernel_rfl
  have e : (Try.prog.fieldsOf 36).toList.map (fun f => (f.type, f.offset, decide (f.name ≠ "_"))) = [(9, 0, true), (2, 1, true)] := by kernel_rfl
  generalize (Try.prog.fieldsOf 36).toList = L at e ⊢
  obtain ⟨f0, f1, rfl⟩ : ∃ f0 f1, L = [f0, f1] := by
    have hlen : L.length = 2 := by have := congrArg List.length e; simpa using this
    match L, hlen with
    | [a, b], _ => exact ⟨a, b, rfl⟩
  · skip
    simp only [List.map_cons, List.map_nil, List.cons.injEq, Prod.mk.injEq, and_true, decide_eq_true_eq] at e
    obtain ⟨⟨a0, a1, a2⟩, ⟨b0, b1, b2⟩⟩ := e
    have p0 : ∀ v : KV, (part 9 (kvC v).toArray 0).run Try.prog w = .ok (kT v.1) w := fun v => by simp [part, isAgg, run_underlying h0]
    have p1 : ∀ v : KV, (part 2 (kvC v).toArray 1).run Try.prog w = .ok (iV v.2) w := fun v => by simp [part, isAgg, run_underlying h1]
    simp only [Op.eqFields, a0, a1, b0, b1, a2, b2, if_true, ne_eq, not_false_eq_true, Sem.run_bind, p0, p1, Result.andThen_ok]
    rw [run_equalIn_string w 9998 _ _ _ h0]
    simp only [Result.andThen_ok, strOf_toList]
    cases (a.1 == b.1)
    · simp
    · simp only [Bool.not_true, Bool.false_eq_true, if_false, Sem.run_bind, p1, Result.andThen_ok]
      rw [run_equalIn_int w 9998 _ _ _ _ _ h1]
      simp only [Result.andThen_ok]
      cases (a.2 == b.2) <;> simp
theorem Qt.neqKV {t2 : TypeId} {x y : Operand} (a b : KV) (hx : ev n f x = some (kvA a)) (hy : ev n f y = some (kvA b)) : Qt Try.prog B n S ⟨d, .binOp .neq 36 x y t2, ty, pos, af, gd⟩ f (.bool (decide (¬ a = b))) := ⟨fun w _ => by
  have hg := run_eqGuard_agg (P := Try.prog) w .neq 36 x y (kvC a).toArray (kvC b).toArray (by kernel_rfl)
  have hr := run_neq_struct (P := Try.prog) w 36 (kvC a).toArray (kvC b).toArray
  have hE := run_eqKV w a b
  simp only [execOp, evu_eq hx, evu_eq hy, Sem.run_bind, hg, hr, hE, Result.andThen_ok, Sem.run_pure]
  simp⟩
end
theorem eq_upto {α : Type} {a b : List α} (hl : a.length = b.length) (h : ∀ i, i < a.length → a[i]? = b[i]?) : a = b := by
  apply List.ext_getElem? 
  intro i
  rcases Nat.lt_or_ge i a.length with hi | hi
  · exact h i hi
  · rw [List.getElem?_eq_none hi, List.getElem?_eq_none (by omega)]
set_option maxHeartbeats 2000000 in
theorem Bu.pairs (B : Base) (p q : Option Addr) (c c' : Nat) (La Lb : List KV) (hb : La.length < 2 ^ 40) (hb2 : Lb.length < 2 ^ 40) : Fn Try.prog B 16 #[.slice p La.length c, .slice q Lb.length c'] [rowP p c La, rowP q c' Lb] (fun u l => u = .bool (decide (La = Lb)) ∧ l = [rowP p c La, rowP q c' Lb]) := by
 refine Fn.enter2 26 Try.func16 rfl rfl (Nat.le_of_ble_eq_true rfl) (fun F => ?_)
 try simp only [List.cons_append, List.nil_append]
 refine T.seq ?_
 refine T.region ?_
 refine LW.q rfl (Qt.assign rfl) ?_
 refine LW.done ?_
 refine T.seq ?_
 refine T.seq ?_
 refine T.region ?_
 refine LW.q rfl (Qt.move rfl) ?_
 refine LW.q rfl (Qt.len (e := 36) (sz := 2) (by kernel_rfl) rfl) ?_
 refine LW.q rfl (Qt.move rfl) ?_
 refine LW.q rfl (Qt.len (e := 36) (sz := 2) (by kernel_rfl) rfl) ?_
 refine LW.q rfl (Qt.neq rfl rfl) ?_
 refine LW.done ?_
 refine T.condP rfl (fun hne => ?_) (fun hne => ?_)
 ·
  refine T.seq ?_
  refine T.region ?_
  refine LW.q rfl (Qt.assign rfl) ?_
  refine LW.done ?_
  refine T.ret ?_
  exact ⟨.inl rfl, _, _, res [_] rfl ⟨rvT rfl, trivial⟩, ⟨by rw [decide_eq_false (fun e => hne (by rw [e]))]; rfl, rfl⟩, Sub.any⟩
 ·
  have hll : La.length = Lb.length := by omega
  refine T.own fun w0 ho0 => ?_
  have hp := (ho0.slice_at (p := p) (m := La.length) (c := c) (k := La.length)).2.1
  have hq := (ho0.slice_at (p := q) (m := Lb.length) (c := c') (k := Lb.length)).2.1
  clear ho0
  refine T.skip ?_
  refine T.seq ?_
  refine T.seq ?_
  refine T.region ?_
  refine LW.q rfl (Qt.move rfl) ?_
  refine LW.q rfl (Qt.len (e := 36) (sz := 2) (by kernel_rfl) rfl) ?_
  refine LW.q rfl (Qt.move rfl) ?_
  refine LW.done ?_
  refine T.block ?_
  refine T.loop (fun mz fz lz => ∃ (f0 : Fr) (i : Nat), (i ≤ La.length ∧ ∀ j, j < i → La[j]? = Lb[j]?) ∧ mz = La.length - i ∧ fz = (upd (upd (upd (upd f0 0 (.slice p La.length c)) 1 (.slice q Lb.length c')) 12 (.int .i64 La.length)) 13 (.int .i64 i)) ∧ lz = rowP p c La :: rowP q c' Lb :: F) ?_ ?_
  · refine ⟨_, _, ⟨_, 0, ⟨Nat.zero_le _, fun _ h => absurd h (Nat.not_lt_zero _)⟩, rfl, (updS rfl (updS rfl (updS rfl (updS rfl rfl)))), rfl⟩, Sub.any⟩
  ·
   rintro mz fz lz ⟨f0, i, ⟨hi, heq⟩, hmz, rfl, rfl⟩
   subst mz
   try simp only [List.cons_append, List.nil_append]
   refine T.seq ?_
   refine T.region ?_
   refine LW.q rfl (Qt.lss rfl rfl) ?_
   refine LW.done ?_
   refine T.seq ?_
   refine T.condP rfl (fun hlt => ?_) (fun hlt => ?_)
   ·
    have hlt' : i < La.length := by omega
    obtain ⟨gp, rfl⟩ := hp (by omega)
    obtain ⟨gq, rfl⟩ := hq (by omega)
    refine T.skip ?_
    refine T.seq ?_
    refine T.block ?_
    refine T.seq ?_
    refine T.region ?_
    refine LW.q rfl (Qt.move rfl) ?_
    refine LW.q rfl (Qt.assign rfl) ?_
    refine LW.done ?_
    refine T.seq ?_
    refine T.drawAll 9 (by kernel_rfl) (Nat.le_of_ble_eq_true rfl) (by kernel_rfl) ?_
    refine RW.q 0 rfl rfl (by kernel_rfl) (Sub.refl _) (Qt.move rfl) ?_
    refine RW.q 1 rfl rfl (by kernel_rfl) (Sub.refl _) (Qt.move rfl) ?_
    refine RW.q 2 rfl rfl (by kernel_rfl) (Sub.refl _) (Qt.index _ (e := 36) (sz := 2) (by kernel_rfl) rfl rfl rfl (by omega)) ?_
    refine RW.q 3 rfl rfl (by kernel_rfl) (Sub.refl _) (Qt.loadAgg (kvC La[i]) (by kernel_rfl) rfl (rdl_flat kvC 2 La (by intros; rfl) i hlt')) ?_
    refine RW.q 4 rfl rfl (by kernel_rfl) (Sub.refl _) (Qt.move rfl) ?_
    refine RW.q 5 rfl rfl (by kernel_rfl) (Sub.refl _) (Qt.move rfl) ?_
    refine RW.q 6 rfl rfl (by kernel_rfl) (Sub.refl _) (Qt.index _ (e := 36) (sz := 2) (by kernel_rfl) rfl rfl rfl (by omega)) ?_
    refine RW.q 7 rfl rfl (by kernel_rfl) (Sub.refl _) (Qt.loadAgg (kvC (Lb[i]'(by omega))) (by kernel_rfl) rfl (rdl_flat kvC 2 Lb (by intros; rfl) i (by omega))) ?_
    refine RW.q 8 rfl rfl (by kernel_rfl) (Sub.refl _) (Qt.neqKV La[i] (Lb[i]'(by omega)) rfl rfl) ?_
    refine RW.done (by rfl) ?_
    simp only [List.drop_succ_cons, List.drop_zero, List.drop_nil]
    refine LW.done ?_
    refine T.condP rfl (fun hd => ?_) (fun hd => ?_)
    ·
     refine T.seq ?_
     refine T.region ?_
     refine LW.q rfl (Qt.assign rfl) ?_
     refine LW.done ?_
     refine T.ret ?_
     exact ⟨.inl rfl, _, _, res [_] rfl ⟨rvT rfl, trivial⟩, ⟨by rw [decide_eq_false (fun e => hd (by subst e; rfl))]; rfl, rfl⟩, Sub.any⟩
    ·
     refine T.skip ?_
     refine T.region ?_
     refine LW.q rfl (Qt.add rfl rfl (wr64 (by omega) (by omega))) ?_
     refine LW.q rfl (Qt.move rfl) ?_
     refine LW.done ?_
     refine ⟨_, ?_, _, ⟨_, i + 1, ⟨hlt', fun j hj => by rcases Nat.lt_or_ge j i with h | h; exact heq j h; have hji : j = i := (by omega); subst hji; rw [List.getElem?_eq_getElem hlt', List.getElem?_eq_getElem (by omega), Decidable.not_not.1 hd]⟩, rfl, (updS rfl (updS rfl (updS rfl (updS rfl rfl)))), rfl⟩, Sub.any⟩
     first | omega | (simp; omega)
   ·
    have hie : i = La.length := by omega
    refine T.exit ?_
    refine T.seq ?_
    refine T.region ?_
    refine LW.q rfl (Qt.assign rfl) ?_
    refine LW.done ?_
    refine T.ret ?_
    exact ⟨.inl rfl, _, _, res [_] rfl ⟨rvT rfl, trivial⟩, ⟨by rw [decide_eq_true (eq_upto hll (by rw [← hie]; exact heq))]; rfl, rfl⟩, Sub.any⟩
end Go.Proofs.Ytefognjcognknaa

/- btree's laws: Len and Get over a tree; awake. Conditions: sizes. -/
set_option linter.unusedSimpArgs false
set_option linter.unusedVariables false
namespace Go.Proofs.Ytefognjcognknaa
open Go.RowKit
theorem Bt.Len (B : Base) (g o : Nat) (L : List KV) : Fn Try.prog B 18 #[pV g] [btA g o L] (fun u l => u = .int .i64 L.length ∧ l = [btA g o L]) := by
  refine Fn.bt fun H t hok hL hu ho ho2 => ?_
  refine Fn.conv (F' := [treeA H t]) (Bt.len B g o (LT.nd H t).p L.length) (fun k K => K) ?_
  rintro v l ⟨rfl, rfl⟩
  exact ⟨_, fun k K => Has.bt_in (m := []) hok hL hu ho ho2 K, rfl, rfl⟩
theorem Bt.Get (B : Base) (g o : Nat) (L : List KV) (key : Str) (hb : L.length < 2 ^ 39) : Fn Try.prog B 25 #[pV g, kT key] [btA g o L] (fun u l => u = .tuple #[iV ((getL L key).getD 0), .bool (getL L key).isSome] ∧ l = [btA g o L]) := by
  refine Fn.bt fun H t hok hL hu ho ho2 => ?_
  refine Fn.conv (F' := []) (Bt.get B g o L.length H t key hok (by rw [hL]; exact hu) (by rw [hL]; omega)) (fun k K => K) ?_
  rintro v l ⟨rfl, rfl⟩
  exact ⟨_, fun k K => Has.bt_in (m := []) hok hL hu ho ho2 K, by rw [hL], rfl⟩
set_option maxHeartbeats 2000000 in
theorem Bu.awake (B : Base) : Fn Try.prog B 13 #[] [] (fun u l => u = .bool true ∧ l = []) := by
  refine Fn.enter0 74 Try.func13 rfl rfl (Nat.le_of_ble_eq_true rfl) (fun F => ?_)
  try simp only [List.cons_append, List.nil_append]
  refine T.seq ?_
  refine T.region ?_
  refine LW.q rfl (Qt.assign rfl) ?_
  refine LW.done ?_
  refine T.seq ?_
  refine T.region ?_
  refine LW.e rfl (Ef.call (Bt.newOk B 2 (by decide) (by decide)) Try.func14 rfl rfl rfl ?_)
  rintro _ _ ⟨g, rfl, rfl⟩
  try simp only [List.cons_append, List.nil_append]
  refine LW.q rfl (Qt.move rfl) ?_
  refine LW.q rfl (Qt.extr rfl rfl) ?_
  refine LW.q rfl (Qt.extr rfl rfl) ?_
  refine LW.q rfl (Qt.assign rfl) ?_
  refine LW.q rfl (Qt.assign rfl) ?_
  refine LW.done ?_
  refine T.seq ?_
  refine T.seq ?_
  refine T.region ?_
  refine LW.q rfl (Qt.move rfl) ?_
  first | refine LW.q rfl (Qt.eqlNil (by kernel_rfl) rfl rfl) ?_ | refine LW.q rfl (Qt.eqlNN (by kernel_rfl) rfl rfl) ?_
  refine LW.q rfl (Qt.move rfl) ?_
  first | refine LW.gF (t := 12) rfl rfl ?_ | refine LW.gF (t := 12) rfl (decide_eq_false (by omega)) ?_ | refine LW.gF (t := 12) rfl (by omega) ?_
  refine LW.q rfl (Qt.move rfl) ?_
  refine LW.q rfl (Qt.neq rfl rfl) ?_
  refine LW.q rfl (Qt.pick rfl rfl) ?_
  refine LW.q rfl (Qt.move rfl) ?_
  first | refine LW.gF (t := 16) rfl rfl ?_ | refine LW.gF (t := 16) rfl (decide_eq_false (by omega)) ?_ | refine LW.gF (t := 16) rfl (by omega) ?_
  refine LW.q rfl (Qt.move rfl) ?_
  refine LW.e rfl (Ef.call (Bt.put B g 2 [] [98] 2 (by decide)) Try.func15 rfl rfl rfl ?_)
  rintro _ _ ⟨rfl, rfl⟩
  try simp only [List.cons_append, List.nil_append]
  rw [show putL [98] 2 [] = [([98], 2)] from rfl]
  refine LW.q rfl (Qt.pick rfl rfl) ?_
  refine LW.q rfl (Qt.move rfl) ?_
  first | refine LW.gF (t := 20) rfl rfl ?_ | refine LW.gF (t := 20) rfl (decide_eq_false (by omega)) ?_ | refine LW.gF (t := 20) rfl (by omega) ?_
  refine LW.q rfl (Qt.move rfl) ?_
  refine LW.e rfl (Ef.call (Bt.put B g 2 [([98], 2)] [97] 1 (by decide)) Try.func15 rfl rfl rfl ?_)
  rintro _ _ ⟨rfl, rfl⟩
  try simp only [List.cons_append, List.nil_append]
  rw [show putL [97] 1 [([98], 2)] = [([97], 1), ([98], 2)] from rfl]
  refine LW.q rfl (Qt.pick rfl rfl) ?_
  refine LW.q rfl (Qt.move rfl) ?_
  first | refine LW.gF (t := 24) rfl rfl ?_ | refine LW.gF (t := 24) rfl (decide_eq_false (by omega)) ?_ | refine LW.gF (t := 24) rfl (by omega) ?_
  refine LW.q rfl (Qt.move rfl) ?_
  refine LW.e rfl (Ef.call (Bt.put B g 2 [([97], 1), ([98], 2)] [98] 3 (by decide)) Try.func15 rfl rfl rfl ?_)
  rintro _ _ ⟨rfl, rfl⟩
  try simp only [List.cons_append, List.nil_append]
  rw [show putL [98] 3 [([97], 1), ([98], 2)] = [([97], 1), ([98], 3)] from rfl]
  first | refine LW.q rfl (Qt.notP rfl) ?_ | refine LW.q rfl (Qt.notB rfl) ?_
  refine LW.q rfl (Qt.pick rfl rfl) ?_
  refine LW.q rfl (Qt.move rfl) ?_
  first | refine LW.gF (t := 29) rfl rfl ?_ | refine LW.gF (t := 29) rfl (decide_eq_false (by omega)) ?_ | refine LW.gF (t := 29) rfl (by omega) ?_
  refine LW.q rfl (Qt.move rfl) ?_
  refine LW.e rfl (Ef.call (Bt.Len B g 2 [([97], 1), ([98], 3)]) Try.func18 rfl rfl rfl ?_)
  rintro _ _ ⟨rfl, rfl⟩
  try simp only [List.cons_append, List.nil_append]
  refine LW.q rfl (Qt.neq rfl rfl) ?_
  refine LW.q rfl (Qt.pick rfl rfl) ?_
  refine LW.done ?_
  first | refine T.condF rfl ?_ | refine T.condPF rfl ((by decide)) ?_ | refine T.condBF rfl ((by decide)) ?_
  refine T.skip ?_
  refine T.seq ?_
  refine T.region ?_
  refine LW.q rfl (Qt.move rfl) ?_
  refine LW.e rfl (Ef.call (Bt.Get B g 2 [([97], 1), ([98], 3)] [98] (by decide)) Try.func25 rfl rfl rfl ?_)
  rintro _ _ ⟨rfl, rfl⟩
  try simp only [List.cons_append, List.nil_append]
  refine LW.q rfl (Qt.move rfl) ?_
  refine LW.q rfl (Qt.extr rfl rfl) ?_
  refine LW.q rfl (Qt.extr rfl rfl) ?_
  refine LW.q rfl (Qt.assign rfl) ?_
  refine LW.q rfl (Qt.assign rfl) ?_
  refine LW.done ?_
  refine T.seq ?_
  refine T.region ?_
  refine LW.q rfl (Qt.move rfl) ?_
  refine LW.e rfl (Ef.call (Bu.listed B g 2 [] [] [([97], 1), ([98], 3)] (by decide)) Try.func17 rfl rfl rfl ?_)
  rintro _ _ ⟨p, c, rfl, rfl⟩
  try simp only [List.cons_append, List.nil_append]
  rw [show rgL [] [] [([97], 1), ([98], 3)] = [([97], 1), ([98], 3)] from rfl]
  refine LW.q rfl (Qt.assign rfl) ?_
  refine LW.done ?_
  refine T.seq ?_
  refine T.region ?_
  refine LW.q rfl (Qt.move rfl) ?_
  refine LW.q rfl (Qt.eql rfl rfl) ?_
  refine LW.q rfl (Qt.move rfl) ?_
  refine LW.own fun w0 ho0 => ?_
  obtain ⟨gp, rfl⟩ := (ho0.slice_at (p := p) (m := [([97], 1), ([98], 3)].length) (c := c) (k := [([97], 1), ([98], 3)].length)).2.1 (by decide)
  clear ho0
  first | refine LW.gT (t := 43) rfl rfl ?_ | refine LW.gT (t := 43) rfl (decide_eq_true ((by decide))) ?_ | refine LW.gT (t := 43) rfl ((by decide)) ?_
  refine LW.q rfl (Qt.move rfl) ?_
  refine LW.q rfl (Qt.pick rfl rfl) ?_
  refine LW.q rfl (Qt.move rfl) ?_
  first | refine LW.gT (t := 46) rfl rfl ?_ | refine LW.gT (t := 46) rfl (decide_eq_true ((by decide))) ?_ | refine LW.gT (t := 46) rfl ((by decide)) ?_
  refine LW.q rfl (Qt.move rfl) ?_
  refine LW.q rfl (Qt.len (e := 36) (sz := 2) (by kernel_rfl) rfl) ?_
  refine LW.q rfl (Qt.eql rfl rfl) ?_
  refine LW.q rfl (Qt.pick rfl rfl) ?_
  refine LW.q rfl (Qt.move rfl) ?_
  first | refine LW.gT (t := 51) rfl rfl ?_ | refine LW.gT (t := 51) rfl (decide_eq_true ((by decide))) ?_ | refine LW.gT (t := 51) rfl ((by decide)) ?_
  refine LW.q rfl (Qt.move rfl) ?_
  refine LW.q rfl (Qt.index 0 (e := 36) (sz := 2) (by kernel_rfl) rfl rfl rfl (by decide)) ?_
  refine LW.q rfl (Qt.fieldAddr0 (by kernel_rfl) rfl) ?_
  first | refine LW.q rfl (Qt.load (by kernel_rfl) rfl rfl) ?_ | refine LW.q rfl (Qt.load (by kernel_rfl) rfl (map_at _ _ _ (by omega))) ?_ | refine LW.q rfl (Qt.load (by kernel_rfl) rfl (flat_cell0 _ _ _ (by intros; rfl) _ (by omega) (by rfl))) ?_ | refine LW.q rfl (Qt.load (by kernel_rfl) rfl (flat_cell _ _ _ (by intros; rfl) _ _ (by omega) (by rfl))) ?_ | refine LW.q rfl (Qt.load (by kernel_rfl) rfl (bytes_at _ _ (by omega))) ?_
  refine LW.q rfl (Qt.eqlS rfl rfl) ?_
  refine LW.q rfl (Qt.pick rfl rfl) ?_
  refine LW.q rfl (Qt.move rfl) ?_
  first | refine LW.gT (t := 58) rfl rfl ?_ | refine LW.gT (t := 58) rfl (decide_eq_true ((by decide))) ?_ | refine LW.gT (t := 58) rfl ((by decide)) ?_
  refine LW.q rfl (Qt.move rfl) ?_
  refine LW.e rfl (Ef.call (Bt.Cut B g 2 [([97], 1), ([98], 3)] [97] (by decide)) Try.func19 rfl rfl rfl ?_)
  rintro _ _ ⟨rfl, rfl⟩
  try simp only [List.cons_append, List.nil_append]
  rw [show cutL [97] [([97], 1), ([98], 3)] = [([98], 3)] from rfl]
  refine LW.q rfl (Qt.pick rfl rfl) ?_
  refine LW.q rfl (Qt.move rfl) ?_
  first | refine LW.gT (t := 62) rfl rfl ?_ | refine LW.gT (t := 62) rfl (decide_eq_true (by omega)) ?_ | refine LW.gT (t := 62) rfl (by omega) ?_
  refine LW.q rfl (Qt.move rfl) ?_
  refine LW.e rfl (Ef.call (Bt.Cut B g 2 [([98], 3)] [97] (by decide)) Try.func19 rfl rfl rfl ?_)
  rintro _ _ ⟨rfl, rfl⟩
  try simp only [List.cons_append, List.nil_append]
  rw [show cutL [97] [([98], 3)] = [([98], 3)] from rfl]
  first | refine LW.q rfl (Qt.notP rfl) ?_ | refine LW.q rfl (Qt.notB rfl) ?_
  refine LW.q rfl (Qt.pick rfl rfl) ?_
  refine LW.q rfl (Qt.move rfl) ?_
  first | refine LW.gT (t := 67) rfl rfl ?_ | refine LW.gT (t := 67) rfl (decide_eq_true (by omega)) ?_ | refine LW.gT (t := 67) rfl (by omega) ?_
  refine LW.q rfl (Qt.move rfl) ?_
  refine LW.e rfl (Ef.call (Bt.Len B g 2 [([98], 3)]) Try.func18 rfl rfl rfl ?_)
  rintro _ _ ⟨rfl, rfl⟩
  try simp only [List.cons_append, List.nil_append]
  refine LW.q rfl (Qt.eql rfl rfl) ?_
  refine LW.q rfl (Qt.pick rfl rfl) ?_
  refine LW.q rfl (Qt.move rfl) ?_
  refine LW.q rfl (Qt.pick rfl rfl) ?_
  refine LW.q rfl (Qt.assign rfl) ?_
  refine LW.done ?_
  refine T.ret ?_
  exact ⟨.inl rfl, _, _, res [_] rfl ⟨rvT rfl, trivial⟩, ⟨rfl, rfl⟩, Sub.any⟩
end Go.Proofs.Ytefognjcognknaa

/- btree's laws: BtreeAlike. Conditions: sizes; that the keys can be read. -/
set_option linter.unusedSimpArgs false
set_option linter.unusedVariables false
namespace Go.Proofs.Ytefognjcognknaa
open Go.RowKit
theorem sl_nil (a : Str) : sl a [] = false := by cases a <;> rfl
theorem rgL_whole (L : List KV) : rgL [] [] L = L := List.filter_eq_self.2 fun p _ => by simp [inR, sl_nil]
/-- Lists that rise and have the same pairs are the same. -/
theorem up_ext : ∀ {A B : List KV}, Up A → Up B → (∀ p, p ∈ A ↔ p ∈ B) → A = B
  | [], [], _, _, _ => rfl
  | [], b :: B, _, _, h => by have := (h b).2 (List.mem_cons_self ..); cases this
  | a :: A, [], _, _, h => by have := (h a).1 (List.mem_cons_self ..); cases this
  | a :: A, b :: B, ha, hb, h => by
    have h1 := List.pairwise_cons.1 ha
    have h2 := List.pairwise_cons.1 hb
    have e : a = b := by
      rcases List.mem_cons.1 ((h a).1 (List.mem_cons_self ..)) with e | e
      · exact e
      · rcases List.mem_cons.1 ((h b).2 (List.mem_cons_self ..)) with e' | e'
        · exact e'.symm
        · have x1 := h2.1 a e
          have x2 := h1.1 b e'
          rw [sl_asymm x1] at x2; cases x2
    subst e
    have ih := up_ext h1.2 h2.2 (fun p => ⟨fun hp => by
      rcases List.mem_cons.1 ((h p).1 (List.mem_cons_of_mem _ hp)) with e | e
      · subst e; have := h1.1 p hp; rw [sl_irrefl] at this; cases this
      · exact e, fun hp => by
      rcases List.mem_cons.1 ((h p).2 (List.mem_cons_of_mem _ hp)) with e | e
      · subst e; have := h2.1 p hp; rw [sl_irrefl] at this; cases this
      · exact e⟩)
    rw [ih]
theorem putL_iff {key : Str} {val : Int} : ∀ {l : List KV} {p : KV}, Up l → (p ∈ putL key val l ↔ p = (key, val) ∨ (p ∈ l ∧ p.1 ≠ key))
  | [], p, _ => by simp [putL]
  | q :: l, p, hu => by
    have h1 := List.pairwise_cons.1 hu
    rw [putL]
    split
    · rename_i h
      rw [List.mem_cons, putL_iff h1.2, List.mem_cons]
      constructor
      · rintro (rfl | e | e)
        · exact .inr ⟨.inl rfl, ne_of_sl h⟩
        · exact .inl e
        · exact .inr ⟨.inr e.1, e.2⟩
      · rintro (e | ⟨rfl | e, e2⟩)
        · exact .inr (.inl e)
        · exact .inl rfl
        · exact .inr (.inr ⟨e, e2⟩)
    · rename_i h
      split
      · rename_i e
        rw [List.mem_cons, List.mem_cons]
        constructor
        · rintro (e2 | e2)
          · exact .inl e2
          · refine .inr ⟨.inr e2, fun e3 => ?_⟩
            have := h1.1 p e2
            rw [e, e3, sl_irrefl] at this; cases this
        · rintro (e2 | ⟨rfl | e2, e3⟩)
          · exact .inl e2
          · exact absurd e e3
          · exact .inr e2
      · rename_i e
        have hk : sl key q.1 = true := by
          refine Bool.not_eq_false _ |>.mp fun e2 => ?_
          exact e (sl_tri (Bool.eq_false_iff.2 h) e2)
        rw [List.mem_cons, List.mem_cons]
        constructor
        · rintro (e2 | e2 | e2)
          · exact .inl e2
          · exact .inr ⟨.inl e2, by rw [e2]; exact e⟩
          · exact .inr ⟨.inr e2, fun e3 => by have := sl_trans hk (h1.1 p e2); rw [e3, sl_irrefl] at this; cases this⟩
        · rintro (e2 | ⟨e2, _⟩)
          · exact .inl e2
          · exact .inr e2
/-- What a list has, whose keys are these and whose values are their lengths. -/
def isOf (ks : List Str) (L : List KV) : Prop := Up L ∧ ∀ p, p ∈ L ↔ p.1 ∈ ks ∧ p.2 = (p.1.length : Int)
theorem isOf_put {ks : List Str} {L : List KV} {k : Str} (h : isOf ks L) (ks' : List Str) (hk : ∀ x, x ∈ ks' ↔ x ∈ ks ∨ x = k) : isOf ks' (putL k k.length L) := by
  refine ⟨putL_up h.1, fun p => ?_⟩
  rw [putL_iff h.1, h.2 p, hk]
  constructor
  · rintro (rfl | ⟨⟨e1, e2⟩, _⟩)
    · exact ⟨.inr rfl, rfl⟩
    · exact ⟨.inl e1, e2⟩
  · rintro ⟨e1, e2⟩
    by_cases e3 : p.1 = k
    · left
      rw [← e3, ← e2]
    · exact .inr ⟨⟨e1.resolve_right e3, e2⟩, e3⟩
theorem putL_le {key : Str} {val : Int} {l : List KV} (hu : Up l) : (putL key val l).length ≤ l.length + 1 := by rw [putL_len hu]; split <;> omega
theorem cutL_le {key : Str} {l : List KV} : (cutL key l).length ≤ l.length := List.length_filter_le ..
set_option maxHeartbeats 4000000 in
theorem Bu.alike (B : Base) (a b : Int) (v : Value) (keys : List Str) (hv : RoS B v (keys.map kT)) (hn : keys.length < 2 ^ 39) : Fn Try.prog B 3 #[.int .i64 a, .int .i64 b, v] [] (fun u l => u = .bool true ∧ l = []) := by
 obtain ⟨ka, kc, rfl⟩ : ∃ a cap, v = .slice a keys.length cap := by obtain ⟨a, c, e, _⟩ := hv; exact ⟨a, c, by rw [e]; simp⟩
 refine Fn.enter3 113 Try.func3 rfl rfl (Nat.le_of_ble_eq_true rfl) (fun F => ?_)
 try simp only [List.cons_append, List.nil_append]
 refine T.seq ?_
 refine T.region ?_
 refine LW.q rfl (Qt.assign rfl) ?_
 refine LW.done ?_
 refine T.seq ?_
 refine T.seq ?_
 refine T.region ?_
 refine LW.e rfl (Ef.call (Bu.awake B) Try.func13 rfl rfl rfl ?_)
 rintro _ _ ⟨rfl, rfl⟩
 try simp only [List.cons_append, List.nil_append]
 first | refine LW.q rfl (Qt.notP rfl) ?_ | refine LW.q rfl (Qt.notB rfl) ?_
 refine LW.done ?_
 first | refine T.condF rfl ?_ | refine T.condPF rfl (by omega) ?_ | refine T.condBF rfl (by omega) ?_
 by_cases ha : 2 ≤ a ∧ a ≤ 64
 ·
  obtain ⟨na, rfl⟩ : ∃ n : Nat, a = n := ⟨a.toNat, by omega⟩
  refine T.skip ?_
  refine T.seq ?_
  refine T.region ?_
  refine LW.q rfl (Qt.move rfl) ?_
  refine LW.e rfl (Ef.call (Bt.newOk B na (by omega) (by omega)) Try.func14 rfl rfl rfl ?_)
  rintro _ _ ⟨g, rfl, rfl⟩
  try simp only [List.cons_append, List.nil_append]
  by_cases hb : 2 ≤ b ∧ b ≤ 64
  ·
   obtain ⟨nb, rfl⟩ : ∃ n : Nat, b = n := ⟨b.toNat, by omega⟩
   refine LW.q rfl (Qt.move rfl) ?_
   refine LW.q rfl (Qt.extr rfl rfl) ?_
   refine LW.q rfl (Qt.extr rfl rfl) ?_
   refine LW.q rfl (Qt.assign rfl) ?_
   refine LW.q rfl (Qt.assign rfl) ?_
   refine LW.done ?_
   refine T.seq ?_
   refine T.region ?_
   refine LW.q rfl (Qt.move rfl) ?_
   refine LW.e rfl (Ef.call (Bt.newOk B nb (by omega) (by omega)) Try.func14 rfl rfl rfl ?_)
   rintro _ _ ⟨g', rfl, rfl⟩
   try simp only [List.cons_append, List.nil_append]
   refine LW.q rfl (Qt.move rfl) ?_
   refine LW.q rfl (Qt.extr rfl rfl) ?_
   refine LW.q rfl (Qt.extr rfl rfl) ?_
   refine LW.q rfl (Qt.assign rfl) ?_
   refine LW.q rfl (Qt.assign rfl) ?_
   refine LW.done ?_
   refine T.seq ?_
   refine T.seq ?_
   refine T.region ?_
   refine LW.q rfl (Qt.move rfl) ?_
   first | refine LW.q rfl (Qt.eqlNil (by kernel_rfl) rfl rfl) ?_ | refine LW.q rfl (Qt.eqlNN (by kernel_rfl) rfl rfl) ?_
   refine LW.q rfl (Qt.move rfl) ?_
   first | refine LW.gF (t := 28) rfl rfl ?_ | refine LW.gF (t := 28) rfl (decide_eq_false (by omega)) ?_ | refine LW.gF (t := 28) rfl (by omega) ?_
   refine LW.q rfl (Qt.move rfl) ?_
   first | refine LW.q rfl (Qt.eqlNil (by kernel_rfl) rfl rfl) ?_ | refine LW.q rfl (Qt.eqlNN (by kernel_rfl) rfl rfl) ?_
   refine LW.q rfl (Qt.pick rfl rfl) ?_
   refine LW.done ?_
   first | refine T.condF rfl ?_ | refine T.condPF rfl (by omega) ?_ | refine T.condBF rfl (by omega) ?_
   refine T.skip ?_
   refine T.seq ?_
   refine T.seq ?_
   refine T.region ?_
   refine LW.q rfl (Qt.move rfl) ?_
   refine LW.q rfl (Qt.len (e := 9) (sz := 1) (by kernel_rfl) rfl) ?_
   refine LW.q rfl (Qt.move rfl) ?_
   refine LW.done ?_
   refine T.block ?_
   refine T.loop (fun mz fz lz => ∃ (f0 : Fr) (i : Nat) (Lt Ls : List KV), (i ≤ keys.length ∧ isOf (keys.take i) Lt ∧ isOf (keys.drop (keys.length - i)) Ls ∧ Lt.length ≤ i ∧ Ls.length ≤ i) ∧ mz = keys.length - i ∧ fz = (upd (upd (upd (upd (upd f0 2 (.slice ka keys.length kc)) 7 (pV g)) 9 (pV g')) 45 (.int .i64 keys.length)) 46 (.int .i64 i)) ∧ lz = btA g na Lt :: btA g' nb Ls :: F) ?_ ?_
   · refine ⟨_, _, ⟨_, 0, [], [], ⟨Nat.zero_le _, ⟨List.Pairwise.nil, by simp⟩, ⟨List.Pairwise.nil, by simp⟩, Nat.le_refl _, Nat.le_refl _⟩, rfl, (updS rfl (updS rfl (updS rfl (updS rfl (updS rfl rfl))))), rfl⟩, Sub.any⟩
   ·
    rintro mz fz lz ⟨f0, i, Lt, Ls, ⟨hi, ht, hs, htl, hsl⟩, hmz, rfl, rfl⟩
    subst mz
    try simp only [List.cons_append, List.nil_append]
    refine T.seq ?_
    refine T.region ?_
    refine LW.q rfl (Qt.lss rfl rfl) ?_
    refine LW.done ?_
    refine T.seq ?_
    refine T.condP rfl (fun hlt => ?_) (fun hlt => ?_)
    ·
     have hlt' : i < keys.length := by omega
     obtain ⟨b0, o0, rfl, hc0⟩ := (hv.rd []).at (by omega)
     refine T.skip ?_
     refine T.seq ?_
     refine T.block ?_
     refine T.seq ?_
     refine T.region ?_
     refine LW.q rfl (Qt.move rfl) ?_
     refine LW.q rfl (Qt.assign rfl) ?_
     refine LW.done ?_
     refine T.seq ?_
     refine T.drawAll 11 (by kernel_rfl) (Nat.le_of_ble_eq_true rfl) (by kernel_rfl) ?_
     refine RW.q 0 rfl rfl (by kernel_rfl) (Sub.refl _) (Qt.move rfl) ?_
     refine RW.q 1 rfl rfl (by kernel_rfl) (Sub.refl _) (Qt.move rfl) ?_
     refine RW.q 2 rfl rfl (by kernel_rfl) (Sub.refl _) (Qt.move rfl) ?_
     refine RW.q 3 rfl rfl (by kernel_rfl) (Sub.refl _) (Qt.index i (e := 9) (sz := 1) (by kernel_rfl) rfl rfl rfl hlt') ?_
     refine RW.q 4 rfl rfl (by kernel_rfl) (Sub.refl _) (Qt.loadW (v := kT keys[i]) (by kernel_rfl) rfl (fun w ho => by have := hc0 i (by simpa using hlt') w (ho.map Sub.any); simpa using this)) ?_
     refine RW.q 5 rfl rfl (by kernel_rfl) (Sub.refl _) (Qt.move rfl) ?_
     refine RW.q 6 rfl rfl (by kernel_rfl) (Sub.refl _) (Qt.move rfl) ?_
     refine RW.q 7 rfl rfl (by kernel_rfl) (Sub.refl _) (Qt.index i (e := 9) (sz := 1) (by kernel_rfl) rfl rfl rfl hlt') ?_
     refine RW.q 8 rfl rfl (by kernel_rfl) (Sub.refl _) (Qt.loadW (v := kT keys[i]) (by kernel_rfl) rfl (fun w ho => by have := hc0 i (by simpa using hlt') w (ho.map Sub.any); simpa using this)) ?_
     first | refine RW.q 9 rfl rfl (by kernel_rfl) (Sub.refl _) (Qt.lenSt (by kernel_rfl) rfl) ?_ | refine RW.q 9 rfl rfl (by kernel_rfl) (Sub.refl _) (Qt.lenS (by kernel_rfl) rfl) ?_
     refine RW.one 10 (by kernel_rfl) ?_
     refine RO.r rfl rfl (by kernel_rfl) (Ef.call (Bt.put B g na Lt keys[i] keys[i].length (by omega)) Try.func15 rfl rfl rfl ?_)
     rintro _ _ ⟨rfl, rfl⟩
     try simp only [List.cons_append, List.nil_append]
     refine RW.done (by rfl) ?_
     simp only [List.drop_succ_cons, List.drop_zero, List.drop_nil]
     refine LW.done ?_
     refine T.seq ?_
     refine T.region ?_
     refine LW.q rfl (Qt.move rfl) ?_
     refine LW.q rfl (Qt.move rfl) ?_
     refine LW.q rfl (Qt.len (e := 9) (sz := 1) (by kernel_rfl) rfl) ?_
     refine LW.q rfl (Qt.sub (r := ((keys.length - 1 : Nat) : Int)) rfl rfl (by rw [wr64 (by omega) (by omega)]; omega)) ?_
     refine LW.q rfl (Qt.move rfl) ?_
     refine LW.q rfl (Qt.sub (r := ((keys.length - 1 - i : Nat) : Int)) rfl rfl (by rw [wr64 (by omega) (by omega)]; omega)) ?_
     refine LW.q rfl (Qt.index (keys.length - 1 - i) (e := 9) (sz := 1) (by kernel_rfl) rfl rfl rfl (by omega)) ?_
     refine LW.q rfl (Qt.loadW (v := kT (keys[keys.length - 1 - i]'(by omega))) (by kernel_rfl) rfl (fun w ho => by have := hc0 (keys.length - 1 - i) (by simp; omega) w (ho.map Sub.any); simpa using this)) ?_
     refine LW.q rfl (Qt.assign rfl) ?_
     refine LW.done ?_
     refine T.region ?_
     refine LW.q rfl (Qt.move rfl) ?_
     refine LW.q rfl (Qt.move rfl) ?_
     refine LW.q rfl (Qt.move rfl) ?_
     first | refine LW.q rfl (Qt.lenSt (by kernel_rfl) rfl) ?_ | refine LW.q rfl (Qt.lenS (by kernel_rfl) rfl) ?_
     refine LW.e rfl (Ef.call (Bt.put B g' nb Ls (keys[keys.length - 1 - i]'(by omega)) (keys[keys.length - 1 - i]'(by omega)).length (by omega)) Try.func15 rfl rfl rfl ?_)
     rintro _ _ ⟨rfl, rfl⟩
     try simp only [List.cons_append, List.nil_append]
     refine LW.done ?_
     refine T.region ?_
     refine LW.q rfl (Qt.add rfl rfl (wr64 (by omega) (by omega))) ?_
     refine LW.q rfl (Qt.move rfl) ?_
     refine LW.done ?_
     refine ⟨_, ?_, _, ⟨_, i + 1, putL keys[i] keys[i].length Lt, putL (keys[keys.length - 1 - i]'(by omega)) (keys[keys.length - 1 - i]'(by omega)).length Ls, ⟨hlt', isOf_put ht _ (fun x => by rw [List.take_add_one, List.getElem?_eq_getElem hlt', List.mem_append]; simp), isOf_put hs _ (fun x => by rw [show keys.length - (i + 1) = keys.length - 1 - i by omega, List.drop_eq_getElem_cons (by omega), show keys.length - 1 - i + 1 = keys.length - i by omega, List.mem_cons, or_comm]), by have := putL_le (key := keys[i]) (val := keys[i].length) ht.1; omega, by have := putL_le (key := keys[keys.length - 1 - i]'(by omega)) (val := (keys[keys.length - 1 - i]'(by omega)).length) hs.1; omega⟩, rfl, (updS rfl (updS rfl (updS rfl (updS rfl (updS rfl rfl))))), rfl⟩, Sub.any⟩
     first | omega | (simp; omega)
    ·
     have hie : i = keys.length := by omega
     subst hie
     have hts : Lt = Ls := up_ext ht.1 hs.1 (fun p => by rw [ht.2, hs.2]; simp)
     subst hts
     have hut := ht.1
     clear hs ht
     refine T.exit ?_
     refine T.seq ?_
     refine T.seq ?_
     refine T.region ?_
     refine LW.q rfl (Qt.move rfl) ?_
     refine LW.e rfl (Ef.call (Bu.listed B g na [] [] Lt (by omega)) Try.func17 rfl rfl rfl ?_)
     rintro _ _ ⟨p1, c1, rfl, rfl⟩
     try simp only [List.cons_append, List.nil_append]
     rw [rgL_whole]
     refine LW.q rfl (Qt.move rfl) ?_
     refine LW.e rfl (Ef.call (Bu.listed B g' nb [] [] Lt (by omega)) Try.func17 rfl rfl rfl ?_)
     rintro _ _ ⟨p2, c2, rfl, rfl⟩
     try simp only [List.cons_append, List.nil_append]
     rw [rgL_whole]
     refine LW.e rfl (Ef.call (Bu.pairs B p1 p2 c1 c2 Lt Lt (by omega) (by omega)) Try.func16 rfl rfl rfl ?_)
     rintro _ _ ⟨rfl, rfl⟩
     try simp only [List.cons_append, List.nil_append]
     first | refine LW.q rfl (Qt.notP rfl) ?_ | refine LW.q rfl (Qt.notB rfl) ?_
     refine LW.q rfl (Qt.move rfl) ?_
     first | refine LW.gF (t := 80) rfl rfl ?_ | refine LW.gF (t := 80) rfl (decide_eq_false ((by simp))) ?_ | refine LW.gF (t := 80) rfl ((by simp)) ?_
     refine LW.q rfl (Qt.move rfl) ?_
     refine LW.e rfl (Ef.call (Bt.Len B g na Lt) Try.func18 rfl rfl rfl ?_)
     rintro _ _ ⟨rfl, rfl⟩
     try simp only [List.cons_append, List.nil_append]
     refine LW.q rfl (Qt.move rfl) ?_
     refine LW.e rfl (Ef.call (Bt.Len B g' nb Lt) Try.func18 rfl rfl rfl ?_)
     rintro _ _ ⟨rfl, rfl⟩
     try simp only [List.cons_append, List.nil_append]
     refine LW.q rfl (Qt.neq rfl rfl) ?_
     refine LW.q rfl (Qt.pick rfl rfl) ?_
     refine LW.done ?_
     first | refine T.condF rfl ?_ | refine T.condPF rfl ((by simp)) ?_ | refine T.condBF rfl ((by simp)) ?_
     refine T.skip ?_
     refine T.seq ?_
     refine T.seq ?_
     refine T.region ?_
     refine LW.q rfl (Qt.move rfl) ?_
     refine LW.q rfl (Qt.len (e := 9) (sz := 1) (by kernel_rfl) rfl) ?_
     refine LW.q rfl (Qt.move rfl) ?_
     refine LW.done ?_
     refine T.block ?_
     refine T.loop (fun mz fz lz => ∃ (f0 : Fr) (i : Nat) (M : List KV), (M.length ≤ keys.length ∧ Up M) ∧ mz = keys.length - i ∧ fz = (upd (upd (upd (upd (upd f0 2 (.slice ka keys.length kc)) 7 (pV g)) 9 (pV g')) 88 (.int .i64 keys.length)) 89 (.int .i64 i)) ∧ lz = btA g na M :: btA g' nb M :: F) ?_ ?_
     · refine ⟨_, _, ⟨_, 0, Lt, ⟨htl, hut⟩, rfl, (updS rfl (updS rfl (updS rfl (updS rfl (updS rfl rfl))))), rfl⟩, Sub.any⟩
     ·
      rintro mz fz lz ⟨f0, i, M, ⟨hml, hum⟩, hmz, rfl, rfl⟩
      subst mz
      try simp only [List.cons_append, List.nil_append]
      refine T.seq ?_
      refine T.region ?_
      refine LW.q rfl (Qt.lss rfl rfl) ?_
      refine LW.done ?_
      refine T.seq ?_
      refine T.condP rfl (fun hlt => ?_) (fun hlt => ?_)
      ·
       have hlt' : i < keys.length := by omega
       obtain ⟨b0, o0, rfl, hc0⟩ := (hv.rd []).at (by omega)
       refine T.skip ?_
       refine T.seq ?_
       refine T.block ?_
       refine T.seq ?_
       refine T.region ?_
       refine LW.q rfl (Qt.move rfl) ?_
       refine LW.q rfl (Qt.assign rfl) ?_
       refine LW.done ?_
       refine T.seq ?_
       refine T.region ?_
       refine LW.q rfl (Qt.move rfl) ?_
       refine LW.q rfl (Qt.rem rfl rfl (by omega) rfl) ?_
       refine LW.q rfl (Qt.eql rfl rfl) ?_
       refine LW.done ?_
       refine T.condP rfl (fun hev => ?_) (fun hev => ?_)
       ·
        refine T.seq ?_
        refine T.region ?_
        refine LW.q rfl (Qt.move rfl) ?_
        refine LW.q rfl (Qt.move rfl) ?_
        refine LW.q rfl (Qt.move rfl) ?_
        refine LW.q rfl (Qt.index i (e := 9) (sz := 1) (by kernel_rfl) rfl rfl rfl hlt') ?_
        refine LW.q rfl (Qt.loadW (v := kT keys[i]) (by kernel_rfl) rfl (fun w ho => by have := hc0 i (by simpa using hlt') w (ho.map Sub.any); simpa using this)) ?_
        refine LW.e rfl (Ef.call (Bt.Cut B g na M keys[i] (by omega)) Try.func19 rfl rfl rfl ?_)
        rintro _ _ ⟨rfl, rfl⟩
        try simp only [List.cons_append, List.nil_append]
        refine LW.done ?_
        refine T.region ?_
        refine LW.q rfl (Qt.move rfl) ?_
        refine LW.q rfl (Qt.move rfl) ?_
        refine LW.q rfl (Qt.move rfl) ?_
        refine LW.q rfl (Qt.index i (e := 9) (sz := 1) (by kernel_rfl) rfl rfl rfl hlt') ?_
        refine LW.q rfl (Qt.loadW (v := kT keys[i]) (by kernel_rfl) rfl (fun w ho => by have := hc0 i (by simpa using hlt') w (ho.map Sub.any); simpa using this)) ?_
        refine LW.e rfl (Ef.call (Bt.Cut B g' nb M keys[i] (by omega)) Try.func19 rfl rfl rfl ?_)
        rintro _ _ ⟨rfl, rfl⟩
        try simp only [List.cons_append, List.nil_append]
        refine LW.done ?_
        refine T.region ?_
        refine LW.q rfl (Qt.add rfl rfl (wr64 (by omega) (by omega))) ?_
        refine LW.q rfl (Qt.move rfl) ?_
        refine LW.done ?_
        refine ⟨_, ?_, _, ⟨_, i + 1, cutL keys[i] M, ⟨by have := cutL_le (key := keys[i]) (l := M); omega, cutL_up hum⟩, rfl, (updS rfl (updS rfl (updS rfl (updS rfl (updS rfl rfl))))), rfl⟩, Sub.any⟩
        first | omega | (simp; omega)
       ·
        refine T.skip ?_
        refine T.region ?_
        refine LW.q rfl (Qt.add rfl rfl (wr64 (by omega) (by omega))) ?_
        refine LW.q rfl (Qt.move rfl) ?_
        refine LW.done ?_
        refine ⟨_, ?_, _, ⟨_, i + 1, M, ⟨hml, hum⟩, rfl, (updS rfl (updS rfl (updS rfl (updS rfl (updS rfl rfl))))), rfl⟩, Sub.any⟩
        first | omega | (simp; omega)
      ·
       refine T.exit ?_
       refine T.seq ?_
       refine T.region ?_
       refine LW.q rfl (Qt.move rfl) ?_
       refine LW.e rfl (Ef.call (Bu.listed B g na [] [] M (by omega)) Try.func17 rfl rfl rfl ?_)
       rintro _ _ ⟨p3, c3, rfl, rfl⟩
       try simp only [List.cons_append, List.nil_append]
       rw [rgL_whole]
       refine LW.q rfl (Qt.move rfl) ?_
       refine LW.e rfl (Ef.call (Bu.listed B g' nb [] [] M (by omega)) Try.func17 rfl rfl rfl ?_)
       rintro _ _ ⟨p4, c4, rfl, rfl⟩
       try simp only [List.cons_append, List.nil_append]
       rw [rgL_whole]
       refine LW.e rfl (Ef.call (Bu.pairs B p3 p4 c3 c4 M M (by omega) (by omega)) Try.func16 rfl rfl rfl ?_)
       rintro _ _ ⟨rfl, rfl⟩
       try simp only [List.cons_append, List.nil_append]
       refine LW.q rfl (Qt.assign rfl) ?_
       refine LW.done ?_
       refine T.ret ?_
       exact ⟨.inl rfl, _, _, res [_] rfl ⟨rvT rfl, trivial⟩, ⟨by simp [outV], rfl⟩, Sub.any⟩
  ·
   refine LW.q rfl (Qt.move rfl) ?_
   refine LW.q rfl (Qt.extr rfl rfl) ?_
   refine LW.q rfl (Qt.extr rfl rfl) ?_
   refine LW.q rfl (Qt.assign rfl) ?_
   refine LW.q rfl (Qt.assign rfl) ?_
   refine LW.done ?_
   refine T.seq ?_
   refine T.region ?_
   refine LW.q rfl (Qt.move rfl) ?_
   refine LW.e rfl (Ef.call (Bt.newNo B b (by omega)) Try.func14 rfl rfl rfl ?_)
   rintro _ _ ⟨rfl, rfl⟩
   try simp only [List.cons_append, List.nil_append]
   refine LW.q rfl (Qt.move rfl) ?_
   refine LW.q rfl (Qt.extr rfl rfl) ?_
   refine LW.q rfl (Qt.extr rfl rfl) ?_
   refine LW.q rfl (Qt.assign rfl) ?_
   refine LW.q rfl (Qt.assign rfl) ?_
   refine LW.done ?_
   refine T.seq ?_
   refine T.seq ?_
   refine T.region ?_
   refine LW.q rfl (Qt.move rfl) ?_
   first | refine LW.q rfl (Qt.eqlNil (by kernel_rfl) rfl rfl) ?_ | refine LW.q rfl (Qt.eqlNN (by kernel_rfl) rfl rfl) ?_
   refine LW.q rfl (Qt.move rfl) ?_
   first | refine LW.gF (t := 28) rfl rfl ?_ | refine LW.gF (t := 28) rfl (decide_eq_false (by omega)) ?_ | refine LW.gF (t := 28) rfl (by omega) ?_
   refine LW.q rfl (Qt.move rfl) ?_
   first | refine LW.q rfl (Qt.eqlNil (by kernel_rfl) rfl rfl) ?_ | refine LW.q rfl (Qt.eqlNN (by kernel_rfl) rfl rfl) ?_
   refine LW.q rfl (Qt.pick rfl rfl) ?_
   refine LW.done ?_
   first | refine T.condT rfl ?_ | refine T.condPT rfl (by omega) ?_ | refine T.condBT rfl (by omega) ?_
   refine T.seq ?_
   refine T.region ?_
   refine LW.q rfl (Qt.move rfl) ?_
   first | refine LW.q rfl (Qt.eqlNil (by kernel_rfl) rfl rfl) ?_ | refine LW.q rfl (Qt.eqlNN (by kernel_rfl) rfl rfl) ?_
   refine LW.q rfl (Qt.move rfl) ?_
   refine LW.q rfl (Qt.neq rfl rfl) ?_
   refine LW.q rfl (Qt.eqlB (by kernel_rfl) rfl rfl) ?_
   refine LW.q rfl (Qt.move rfl) ?_
   first | refine LW.gT (t := 37) rfl rfl ?_ | refine LW.gT (t := 37) rfl (decide_eq_true (by omega)) ?_ | refine LW.gT (t := 37) rfl (by omega) ?_
   refine LW.q rfl (Qt.move rfl) ?_
   first | refine LW.q rfl (Qt.eqlNil (by kernel_rfl) rfl rfl) ?_ | refine LW.q rfl (Qt.eqlNN (by kernel_rfl) rfl rfl) ?_
   refine LW.q rfl (Qt.move rfl) ?_
   refine LW.q rfl (Qt.neq rfl rfl) ?_
   refine LW.q rfl (Qt.eqlB (by kernel_rfl) rfl rfl) ?_
   refine LW.q rfl (Qt.pick rfl rfl) ?_
   refine LW.q rfl (Qt.assign rfl) ?_
   refine LW.done ?_
   refine T.ret ?_
   exact ⟨.inl rfl, _, _, res [_] rfl ⟨rvT rfl, trivial⟩, ⟨rfl, rfl⟩, Sub.any⟩
 ·
  refine T.skip ?_
  refine T.seq ?_
  refine T.region ?_
  refine LW.q rfl (Qt.move rfl) ?_
  refine LW.e rfl (Ef.call (Bt.newNo B a (by omega)) Try.func14 rfl rfl rfl ?_)
  rintro _ _ ⟨rfl, rfl⟩
  try simp only [List.cons_append, List.nil_append]
  by_cases hb : 2 ≤ b ∧ b ≤ 64
  ·
   obtain ⟨nb, rfl⟩ : ∃ n : Nat, b = n := ⟨b.toNat, by omega⟩
   refine LW.q rfl (Qt.move rfl) ?_
   refine LW.q rfl (Qt.extr rfl rfl) ?_
   refine LW.q rfl (Qt.extr rfl rfl) ?_
   refine LW.q rfl (Qt.assign rfl) ?_
   refine LW.q rfl (Qt.assign rfl) ?_
   refine LW.done ?_
   refine T.seq ?_
   refine T.region ?_
   refine LW.q rfl (Qt.move rfl) ?_
   refine LW.e rfl (Ef.call (Bt.newOk B nb (by omega) (by omega)) Try.func14 rfl rfl rfl ?_)
   rintro _ _ ⟨g', rfl, rfl⟩
   try simp only [List.cons_append, List.nil_append]
   refine LW.q rfl (Qt.move rfl) ?_
   refine LW.q rfl (Qt.extr rfl rfl) ?_
   refine LW.q rfl (Qt.extr rfl rfl) ?_
   refine LW.q rfl (Qt.assign rfl) ?_
   refine LW.q rfl (Qt.assign rfl) ?_
   refine LW.done ?_
   refine T.seq ?_
   refine T.seq ?_
   refine T.region ?_
   refine LW.q rfl (Qt.move rfl) ?_
   first | refine LW.q rfl (Qt.eqlNil (by kernel_rfl) rfl rfl) ?_ | refine LW.q rfl (Qt.eqlNN (by kernel_rfl) rfl rfl) ?_
   refine LW.q rfl (Qt.move rfl) ?_
   first | refine LW.gT (t := 28) rfl rfl ?_ | refine LW.gT (t := 28) rfl (decide_eq_true (by omega)) ?_ | refine LW.gT (t := 28) rfl (by omega) ?_
   refine LW.s rfl ?_
   refine LW.s rfl ?_
   refine LW.q rfl (Qt.pick rfl rfl) ?_
   refine LW.done ?_
   first | refine T.condT rfl ?_ | refine T.condPT rfl (by omega) ?_ | refine T.condBT rfl (by omega) ?_
   refine T.seq ?_
   refine T.region ?_
   refine LW.q rfl (Qt.move rfl) ?_
   first | refine LW.q rfl (Qt.eqlNil (by kernel_rfl) rfl rfl) ?_ | refine LW.q rfl (Qt.eqlNN (by kernel_rfl) rfl rfl) ?_
   refine LW.q rfl (Qt.move rfl) ?_
   refine LW.q rfl (Qt.neq rfl rfl) ?_
   refine LW.q rfl (Qt.eqlB (by kernel_rfl) rfl rfl) ?_
   refine LW.q rfl (Qt.move rfl) ?_
   first | refine LW.gT (t := 37) rfl rfl ?_ | refine LW.gT (t := 37) rfl (decide_eq_true (by omega)) ?_ | refine LW.gT (t := 37) rfl (by omega) ?_
   refine LW.q rfl (Qt.move rfl) ?_
   first | refine LW.q rfl (Qt.eqlNil (by kernel_rfl) rfl rfl) ?_ | refine LW.q rfl (Qt.eqlNN (by kernel_rfl) rfl rfl) ?_
   refine LW.q rfl (Qt.move rfl) ?_
   refine LW.q rfl (Qt.neq rfl rfl) ?_
   refine LW.q rfl (Qt.eqlB (by kernel_rfl) rfl rfl) ?_
   refine LW.q rfl (Qt.pick rfl rfl) ?_
   refine LW.q rfl (Qt.assign rfl) ?_
   refine LW.done ?_
   refine T.ret ?_
   exact ⟨.inl rfl, _, _, res [_] rfl ⟨rvT rfl, trivial⟩, ⟨rfl, rfl⟩, Sub.any⟩
  ·
   refine LW.q rfl (Qt.move rfl) ?_
   refine LW.q rfl (Qt.extr rfl rfl) ?_
   refine LW.q rfl (Qt.extr rfl rfl) ?_
   refine LW.q rfl (Qt.assign rfl) ?_
   refine LW.q rfl (Qt.assign rfl) ?_
   refine LW.done ?_
   refine T.seq ?_
   refine T.region ?_
   refine LW.q rfl (Qt.move rfl) ?_
   refine LW.e rfl (Ef.call (Bt.newNo B b (by omega)) Try.func14 rfl rfl rfl ?_)
   rintro _ _ ⟨rfl, rfl⟩
   try simp only [List.cons_append, List.nil_append]
   refine LW.q rfl (Qt.move rfl) ?_
   refine LW.q rfl (Qt.extr rfl rfl) ?_
   refine LW.q rfl (Qt.extr rfl rfl) ?_
   refine LW.q rfl (Qt.assign rfl) ?_
   refine LW.q rfl (Qt.assign rfl) ?_
   refine LW.done ?_
   refine T.seq ?_
   refine T.seq ?_
   refine T.region ?_
   refine LW.q rfl (Qt.move rfl) ?_
   first | refine LW.q rfl (Qt.eqlNil (by kernel_rfl) rfl rfl) ?_ | refine LW.q rfl (Qt.eqlNN (by kernel_rfl) rfl rfl) ?_
   refine LW.q rfl (Qt.move rfl) ?_
   first | refine LW.gT (t := 28) rfl rfl ?_ | refine LW.gT (t := 28) rfl (decide_eq_true (by omega)) ?_ | refine LW.gT (t := 28) rfl (by omega) ?_
   refine LW.s rfl ?_
   refine LW.s rfl ?_
   refine LW.q rfl (Qt.pick rfl rfl) ?_
   refine LW.done ?_
   first | refine T.condT rfl ?_ | refine T.condPT rfl (by omega) ?_ | refine T.condBT rfl (by omega) ?_
   refine T.seq ?_
   refine T.region ?_
   refine LW.q rfl (Qt.move rfl) ?_
   first | refine LW.q rfl (Qt.eqlNil (by kernel_rfl) rfl rfl) ?_ | refine LW.q rfl (Qt.eqlNN (by kernel_rfl) rfl rfl) ?_
   refine LW.q rfl (Qt.move rfl) ?_
   refine LW.q rfl (Qt.neq rfl rfl) ?_
   refine LW.q rfl (Qt.eqlB (by kernel_rfl) rfl rfl) ?_
   refine LW.q rfl (Qt.move rfl) ?_
   first | refine LW.gT (t := 37) rfl rfl ?_ | refine LW.gT (t := 37) rfl (decide_eq_true (by omega)) ?_ | refine LW.gT (t := 37) rfl (by omega) ?_
   refine LW.q rfl (Qt.move rfl) ?_
   first | refine LW.q rfl (Qt.eqlNil (by kernel_rfl) rfl rfl) ?_ | refine LW.q rfl (Qt.eqlNN (by kernel_rfl) rfl rfl) ?_
   refine LW.q rfl (Qt.move rfl) ?_
   refine LW.q rfl (Qt.neq rfl rfl) ?_
   refine LW.q rfl (Qt.eqlB (by kernel_rfl) rfl rfl) ?_
   refine LW.q rfl (Qt.pick rfl rfl) ?_
   refine LW.q rfl (Qt.assign rfl) ?_
   refine LW.done ?_
   refine T.ret ?_
   exact ⟨.inl rfl, _, _, res [_] rfl ⟨rvT rfl, trivial⟩, ⟨rfl, rfl⟩, Sub.any⟩
end Go.Proofs.Ytefognjcognknaa

/- The law BtreeAlike of annalslaw09 holds: for all arguments of bulk at most 1048576 the call returns true and the arguments read as before. Condition: the bound of the second form. -/
set_option linter.unusedSimpArgs false
set_option linter.unusedVariables false
namespace Go.Proofs.Ytefognjcognknaa.btreeAlike
open Go.ChangeShapes Go.WideShapes Go.ChangeAt Go.RowKit

set_option maxRecDepth 100000 in
theorem contract (H : Type) (enc : TypeId × Value → H) (W : World) (base : Nat) (args : Array Value) (ds gs : List (DataW H)) (before : List MemPlace)
    (hval : ∀ (j : Nat) t v, Try.f3.params[j]? = some t → args[j]? = some v → Value.okWide Try.prog W .any base t v)
    (hW : DataW.Whole enc Try.prog Try.f3.params.toList Rows.btreeAlikeSpec.vars false W args.toList ds gs before) (hk : Rows.uptoSmall H (ds ++ gs) = true) :
    Calls Try.prog 3 args W fun e W' => ∃ v, e = .returned v ∧ Rows.btreeAlikeSpec.post enc Try.prog Try.f3 false true false false W args v W' := by
  have hW0 := hW
  obtain ⟨p, q, hA0, hV, rfl, hfz, hnd⟩ := hW
  have hA : DataW.TrodAll enc Try.prog W 0 (fun _ => true) true Try.f3.params.toList args.toList ds p := hA0
  rw [Try.params3] at hA hval
  obtain ⟨v0, v1, v2, d0, d1, d2, p0, p1, p2, rfl, rfl, rfl, h0, h1, h2⟩ := trodAll_three hA
  obtain ⟨rfl, rfl⟩ := trodVars_none hV
  have hbulk := Try.upto_bound hk
  rw [List.append_nil] at hbulk
  clear hA0 hV hk
  obtain ⟨a0, rfl, rfl, rfl, wf0⟩ := open_int Try.underlying3 (hval 0 3 v0 rfl rfl) h0
  obtain ⟨a1, rfl, rfl, rfl, wf1⟩ := open_int Try.underlying3 (hval 1 3 v1 rfl rfl) h1
  obtain ⟨sa2, sl2, sc2, rfl⟩ := okWide_slice Try.underlying22 (hval 2 22 v2 rfl rfl)
  obtain ⟨fu2, t2⟩ := h2
  obtain ⟨sv2, l2, hc2, hs2, hB2, hL2⟩ := open_slice_R (enc := enc) (P := Try.prog) (W := W) (R := fun cs (a : List UInt8) => cs = [.string (strOf a)]) (B := fun d => d.length + 1) Try.underlying22 (show Try.prog.cellsOf 9 = 1 by kernel_rfl) (by omega) (fun n cs y => read_str Try.underlying9 n cs y) t2
  simp only [Value.cells, List.cons.injEq, and_true] at hc2
  subst hc2
  dsimp only at hB2 hL2
  obtain ⟨fp2, hR2, _⟩ := hs2.reads (fun a : List UInt8 => Value.string (strOf a)) (fun cs a h => h)
  rw [bulk_three] at hbulk
  have hlen := len_le_sum List.length l2

  refine (Fn.law (Bu.alike _ a0 a1 _ l2 (RoS.ofReads hR2) (by omega))).mono fun e W' ⟨he, hg⟩ => ?_
  subst he
  exact ⟨_, rfl, post_law Try.laidOut hW0 rfl rfl 4 Try.underlying4 (by kernel_rfl) (by rw [Try.params3]; decide +kernel) hg.toBelow⟩

set_option maxRecDepth 100000 in
theorem lifted (os : Os) (started : os.Started) (H : Type) (enc : TypeId × Value → H) (F : Stop.Interp) :
    ReturnsInHanded {} Try.checked os 3 .any ((Rows.OpenSpec.upto Rows.btreeAlikeSpec).pre6 enc Try.prog Try.f3 Rows.btreeAlikeUptoRow.domain false) (((Rows.OpenSpec.upto Rows.btreeAlikeSpec).at F).post enc Try.prog Try.f3 false true false false) := by
  refine returnsInHanded_of_cond (C := Try.checked) (s := Rows.OpenSpec.upto Rows.btreeAlikeSpec) (k := Rows.uptoSmall) rfl Try.own started (by kernel_rfl) Try.func3
    (OpenSpec.witness (enc := enc) (C := Try.checked) (s := Rows.OpenSpec.upto Rows.btreeAlikeSpec) (k := Rows.uptoSmall) rfl false ⟨#[], #[.int .i64 0, .int .i64 0, .slice none 0 0], []⟩ 8 (by kernel_rfl) (by kernel_rfl) (by kernel_rfl)
      (x := ([.lit (.int .i64 0), .lit (.int .i64 0), .nil], [], [])) (by kernel_rfl) rfl (by kernel_rfl)) ?_
  intro W base args ds gs before hval hW _ hk _
  exact contract H enc W base args ds gs before hval hW hk

theorem over : Rows.btreeAlikeUptoRow.holds Try.pinned (Rows.OpenSpec.upto Rows.btreeAlikeSpec) :=
  OpenClaim.holds_of_cond 3 Try.f3 rfl rfl rfl rfl rfl rfl rfl ⟨rfl, rfl, rfl, rfl, rfl⟩ rfl rfl rfl rfl rfl (by kernel_rfl) Try.func3 (by kernel_rfl)
    (of_decide_eq_true (by kernel_rfl)) (by unfold Func.isWrapper; first | (rw [if_pos (by decide +kernel)]; kernel_rfl) | (rw [if_neg (by decide +kernel)]; exact ⟨rfl, rfl⟩))
    (fun os started H enc _ F => lifted os started H enc F)

theorem proved : Rows.BtreeAlikeUptoSaid := over
end Go.Proofs.Ytefognjcognknaa.btreeAlike
