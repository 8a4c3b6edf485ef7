/- The law BtreeRanges of annalslaw09 holds: for all arguments of bulk at most 1048576 the call returns true and the arguments read as before. Condition: the bound of the second form. -/
import Derived.Test.YtefognjcognknaaZBtreeRanges9
import Derived.Laws.StructEq
/- btree's laws: pairs. Conditions: sizes. -/
set_option linter.unusedSimpArgs false
set_option linter.unusedVariables false
namespace Go.Proofs.Ytefognjcognknaa
open Go.RowKit
abbrev kvA (p : KV) : Value := .agg (kvC p).toArray
theorem KV.eq_bool (a b : KV) : decide (a = b) = ((a.1 == b.1) && (a.2 == b.2)) := by
  cases a; cases b
  rw [Bool.eq_iff_iff]
  simp
section
variable {B : Base} {n : Nat} {S l r : List Assn} {f : Fr}
variable {d : Option Tmp} {ty : TypeId} {pos : String} {af : Array Edge} {gd : Option (Nat × Bool)}
theorem run_eqKV (w : World) (a b : KV) : (Op.equalIn 10000 36 (kvA a) (kvA b)).run Try.prog w = .ok (decide (a = b)) w := by
  rw [run_equalIn_struct w 9999 36 _ _ (by kernel_rfl) (by kernel_rfl)]
  rw [KV.eq_bool]
  have h0 : Try.prog.underlying 9 = some .string := by kernel_rfl
  have h1 : Try.prog.underlying 2 = some (.int .i64) := by kernel_rfl
  have e : (Try.prog.fieldsOf 36).toList.map (fun f => (f.type, f.offset, decide (f.name ≠ "_"))) = [(9, 0, true), (2, 1, true)] := by kernel_rfl
  generalize (Try.prog.fieldsOf 36).toList = L at e ⊢
  obtain ⟨f0, f1, rfl⟩ : ∃ f0 f1, L = [f0, f1] := by
    have hlen : L.length = 2 := by have := congrArg List.length e; simpa using this
    match L, hlen with
    | [a, b], _ => exact ⟨a, b, rfl⟩
  · skip
    simp only [List.map_cons, List.map_nil, List.cons.injEq, Prod.mk.injEq, and_true, decide_eq_true_eq] at e
    obtain ⟨⟨a0, a1, a2⟩, ⟨b0, b1, b2⟩⟩ := e
    have p0 : ∀ v : KV, (part 9 (kvC v).toArray 0).run Try.prog w = .ok (kT v.1) w := fun v => by simp [part, isAgg, run_underlying h0]
    have p1 : ∀ v : KV, (part 2 (kvC v).toArray 1).run Try.prog w = .ok (iV v.2) w := fun v => by simp [part, isAgg, run_underlying h1]
    simp only [Op.eqFields, a0, a1, b0, b1, a2, b2, if_true, ne_eq, not_false_eq_true, Sem.run_bind, p0, p1, Result.andThen_ok]
    rw [run_equalIn_string w 9998 _ _ _ h0]
    simp only [Result.andThen_ok, strOf_toList]
    cases (a.1 == b.1)
    · simp
    · simp only [Bool.not_true, Bool.false_eq_true, if_false, Sem.run_bind, p1, Result.andThen_ok]
      rw [run_equalIn_int w 9998 _ _ _ _ _ h1]
      simp only [Result.andThen_ok]
      cases (a.2 == b.2) <;> simp
theorem Qt.neqKV {t2 : TypeId} {x y : Operand} (a b : KV) (hx : ev n f x = some (kvA a)) (hy : ev n f y = some (kvA b)) : Qt Try.prog B n S ⟨d, .binOp .neq 36 x y t2, ty, pos, af, gd⟩ f (.bool (decide (¬ a = b))) := ⟨fun w _ => by
  have hg := run_eqGuard_agg (P := Try.prog) w .neq 36 x y (kvC a).toArray (kvC b).toArray (by kernel_rfl)
  have hr := run_neq_struct (P := Try.prog) w 36 (kvC a).toArray (kvC b).toArray
  have hE := run_eqKV w a b
  simp only [execOp, evu_eq hx, evu_eq hy, Sem.run_bind, hg, hr, hE, Result.andThen_ok, Sem.run_pure]
  simp⟩
end
theorem eq_upto {α : Type} {a b : List α} (hl : a.length = b.length) (h : ∀ i, i < a.length → a[i]? = b[i]?) : a = b := by
  apply List.ext_getElem? 
  intro i
  rcases Nat.lt_or_ge i a.length with hi | hi
  · exact h i hi
  · rw [List.getElem?_eq_none hi, List.getElem?_eq_none (by omega)]
set_option maxHeartbeats 2000000 in
theorem Bu.pairs (B : Base) (p q : Option Addr) (c c' : Nat) (La Lb : List KV) (hb : La.length < 2 ^ 40) (hb2 : Lb.length < 2 ^ 40) : Fn Try.prog B 16 #[.slice p La.length c, .slice q Lb.length c'] [rowP p c La, rowP q c' Lb] (fun u l => u = .bool (decide (La = Lb)) ∧ l = [rowP p c La, rowP q c' Lb]) := by
 refine Fn.enter2 26 Try.func16 rfl rfl (Nat.le_of_ble_eq_true rfl) (fun F => ?_)
 try simp only [List.cons_append, List.nil_append]
 refine T.seq ?_
 refine T.region ?_
 refine LW.q rfl (Qt.assign rfl) ?_
 refine LW.done ?_
 refine T.seq ?_
 refine T.seq ?_
 refine T.region ?_
 refine LW.q rfl (Qt.move rfl) ?_
 refine LW.q rfl (Qt.len (e := 36) (sz := 2) (by kernel_rfl) rfl) ?_
 refine LW.q rfl (Qt.move rfl) ?_
 refine LW.q rfl (Qt.len (e := 36) (sz := 2) (by kernel_rfl) rfl) ?_
 refine LW.q rfl (Qt.neq rfl rfl) ?_
 refine LW.done ?_
 refine T.condP rfl (fun hne => ?_) (fun hne => ?_)
 ·
  refine T.seq ?_
  refine T.region ?_
  refine LW.q rfl (Qt.assign rfl) ?_
  refine LW.done ?_
  refine T.ret ?_
  exact ⟨.inl rfl, _, _, res [_] rfl ⟨rvT rfl, trivial⟩, ⟨by rw [decide_eq_false (fun e => hne (by rw [e]))]; rfl, rfl⟩, Sub.any⟩
 ·
  have hll : La.length = Lb.length := by omega
  refine T.own fun w0 ho0 => ?_
  have hp := (ho0.slice_at (p := p) (m := La.length) (c := c) (k := La.length)).2.1
  have hq := (ho0.slice_at (p := q) (m := Lb.length) (c := c') (k := Lb.length)).2.1
  clear ho0
  refine T.skip ?_
  refine T.seq ?_
  refine T.seq ?_
  refine T.region ?_
  refine LW.q rfl (Qt.move rfl) ?_
  refine LW.q rfl (Qt.len (e := 36) (sz := 2) (by kernel_rfl) rfl) ?_
  refine LW.q rfl (Qt.move rfl) ?_
  refine LW.done ?_
  refine T.block ?_
  refine T.loop (fun mz fz lz => ∃ (f0 : Fr) (i : Nat), (i ≤ La.length ∧ ∀ j, j < i → La[j]? = Lb[j]?) ∧ mz = La.length - i ∧ fz = (upd (upd (upd (upd f0 0 (.slice p La.length c)) 1 (.slice q Lb.length c')) 12 (.int .i64 La.length)) 13 (.int .i64 i)) ∧ lz = rowP p c La :: rowP q c' Lb :: F) ?_ ?_
  · refine ⟨_, _, ⟨_, 0, ⟨Nat.zero_le _, fun _ h => absurd h (Nat.not_lt_zero _)⟩, rfl, (updS rfl (updS rfl (updS rfl (updS rfl rfl)))), rfl⟩, Sub.any⟩
  ·
   rintro mz fz lz ⟨f0, i, ⟨hi, heq⟩, hmz, rfl, rfl⟩
   subst mz
   try simp only [List.cons_append, List.nil_append]
   refine T.seq ?_
   refine T.region ?_
   refine LW.q rfl (Qt.lss rfl rfl) ?_
   refine LW.done ?_
   refine T.seq ?_
   refine T.condP rfl (fun hlt => ?_) (fun hlt => ?_)
   ·
    have hlt' : i < La.length := by omega
    obtain ⟨gp, rfl⟩ := hp (by omega)
    obtain ⟨gq, rfl⟩ := hq (by omega)
    refine T.skip ?_
    refine T.seq ?_
    refine T.block ?_
    refine T.seq ?_
    refine T.region ?_
    refine LW.q rfl (Qt.move rfl) ?_
    refine LW.q rfl (Qt.assign rfl) ?_
    refine LW.done ?_
    refine T.seq ?_
    refine T.drawAll 9 (by kernel_rfl) (Nat.le_of_ble_eq_true rfl) (by kernel_rfl) ?_
    refine RW.q 0 rfl rfl (by kernel_rfl) (Sub.refl _) (Qt.move rfl) ?_
    refine RW.q 1 rfl rfl (by kernel_rfl) (Sub.refl _) (Qt.move rfl) ?_
    refine RW.q 2 rfl rfl (by kernel_rfl) (Sub.refl _) (Qt.index _ (e := 36) (sz := 2) (by kernel_rfl) rfl rfl rfl (by omega)) ?_
    refine RW.q 3 rfl rfl (by kernel_rfl) (Sub.refl _) (Qt.loadAgg (kvC La[i]) (by kernel_rfl) rfl (rdl_flat kvC 2 La (by intros; rfl) i hlt')) ?_
    refine RW.q 4 rfl rfl (by kernel_rfl) (Sub.refl _) (Qt.move rfl) ?_
    refine RW.q 5 rfl rfl (by kernel_rfl) (Sub.refl _) (Qt.move rfl) ?_
    refine RW.q 6 rfl rfl (by kernel_rfl) (Sub.refl _) (Qt.index _ (e := 36) (sz := 2) (by kernel_rfl) rfl rfl rfl (by omega)) ?_
    refine RW.q 7 rfl rfl (by kernel_rfl) (Sub.refl _) (Qt.loadAgg (kvC (Lb[i]'(by omega))) (by kernel_rfl) rfl (rdl_flat kvC 2 Lb (by intros; rfl) i (by omega))) ?_
    refine RW.q 8 rfl rfl (by kernel_rfl) (Sub.refl _) (Qt.neqKV La[i] (Lb[i]'(by omega)) rfl rfl) ?_
    refine RW.done (by rfl) ?_
    simp only [List.drop_succ_cons, List.drop_zero, List.drop_nil]
    refine LW.done ?_
    refine T.condP rfl (fun hd => ?_) (fun hd => ?_)
    ·
     refine T.seq ?_
     refine T.region ?_
     refine LW.q rfl (Qt.assign rfl) ?_
     refine LW.done ?_
     refine T.ret ?_
     exact ⟨.inl rfl, _, _, res [_] rfl ⟨rvT rfl, trivial⟩, ⟨by rw [decide_eq_false (fun e => hd (by subst e; rfl))]; rfl, rfl⟩, Sub.any⟩
    ·
     refine T.skip ?_
     refine T.region ?_
     refine LW.q rfl (Qt.add rfl rfl (wr64 (by omega) (by omega))) ?_
     refine LW.q rfl (Qt.move rfl) ?_
     refine LW.done ?_
     refine ⟨_, ?_, _, ⟨_, i + 1, ⟨hlt', fun j hj => by rcases Nat.lt_or_ge j i with h | h; exact heq j h; have hji : j = i := (by omega); subst hji; rw [List.getElem?_eq_getElem hlt', List.getElem?_eq_getElem (by omega), Decidable.not_not.1 hd]⟩, rfl, (updS rfl (updS rfl (updS rfl (updS rfl rfl)))), rfl⟩, Sub.any⟩
     first | omega | (simp; omega)
   ·
    have hie : i = La.length := by omega
    refine T.exit ?_
    refine T.seq ?_
    refine T.region ?_
    refine LW.q rfl (Qt.assign rfl) ?_
    refine LW.done ?_
    refine T.ret ?_
    exact ⟨.inl rfl, _, _, res [_] rfl ⟨rvT rfl, trivial⟩, ⟨by rw [decide_eq_true (eq_upto hll (by rw [← hie]; exact heq))]; rfl, rfl⟩, Sub.any⟩
end Go.Proofs.Ytefognjcognknaa

/- btree's laws: Len and Get over a tree; awake. Conditions: sizes. -/
set_option linter.unusedSimpArgs false
set_option linter.unusedVariables false
namespace Go.Proofs.Ytefognjcognknaa
open Go.RowKit
theorem Bt.Len (B : Base) (g o : Nat) (L : List KV) : Fn Try.prog B 18 #[pV g] [btA g o L] (fun u l => u = .int .i64 L.length ∧ l = [btA g o L]) := by
  refine Fn.bt fun H t hok hL hu ho ho2 => ?_
  refine Fn.conv (F' := [treeA H t]) (Bt.len B g o (LT.nd H t).p L.length) (fun k K => K) ?_
  rintro v l ⟨rfl, rfl⟩
  exact ⟨_, fun k K => Has.bt_in (m := []) hok hL hu ho ho2 K, rfl, rfl⟩
theorem Bt.Get (B : Base) (g o : Nat) (L : List KV) (key : Str) (hb : L.length < 2 ^ 39) : Fn Try.prog B 25 #[pV g, kT key] [btA g o L] (fun u l => u = .tuple #[iV ((getL L key).getD 0), .bool (getL L key).isSome] ∧ l = [btA g o L]) := by
  refine Fn.bt fun H t hok hL hu ho ho2 => ?_
  refine Fn.conv (F' := []) (Bt.get B g o L.length H t key hok (by rw [hL]; exact hu) (by rw [hL]; omega)) (fun k K => K) ?_
  rintro v l ⟨rfl, rfl⟩
  exact ⟨_, fun k K => Has.bt_in (m := []) hok hL hu ho ho2 K, by rw [hL], rfl⟩
set_option maxHeartbeats 2000000 in
theorem Bu.awake (B : Base) : Fn Try.prog B 13 #[] [] (fun u l => u = .bool true ∧ l = []) := by
  refine Fn.enter0 74 Try.func13 rfl rfl (Nat.le_of_ble_eq_true rfl) (fun F => ?_)
  try simp only [List.cons_append, List.nil_append]
  refine T.seq ?_
  refine T.region ?_
  refine LW.q rfl (Qt.assign rfl) ?_
  refine LW.done ?_
  refine T.seq ?_
  refine T.region ?_
  refine LW.e rfl (Ef.call (Bt.newOk B 2 (by decide) (by decide)) Try.func14 rfl rfl rfl ?_)
  rintro _ _ ⟨g, rfl, rfl⟩
  try simp only [List.cons_append, List.nil_append]
  refine LW.q rfl (Qt.move rfl) ?_
  refine LW.q rfl (Qt.extr rfl rfl) ?_
  refine LW.q rfl (Qt.extr rfl rfl) ?_
  refine LW.q rfl (Qt.assign rfl) ?_
  refine LW.q rfl (Qt.assign rfl) ?_
  refine LW.done ?_
  refine T.seq ?_
  refine T.seq ?_
  refine T.region ?_
  refine LW.q rfl (Qt.move rfl) ?_
  first | refine LW.q rfl (Qt.eqlNil (by kernel_rfl) rfl rfl) ?_ | refine LW.q rfl (Qt.eqlNN (by kernel_rfl) rfl rfl) ?_
  refine LW.q rfl (Qt.move rfl) ?_
  first | refine LW.gF (t := 12) rfl rfl ?_ | refine LW.gF (t := 12) rfl (decide_eq_false (by omega)) ?_ | refine LW.gF (t := 12) rfl (by omega) ?_
  refine LW.q rfl (Qt.move rfl) ?_
  refine LW.q rfl (Qt.neq rfl rfl) ?_
  refine LW.q rfl (Qt.pick rfl rfl) ?_
  refine LW.q rfl (Qt.move rfl) ?_
  first | refine LW.gF (t := 16) rfl rfl ?_ | refine LW.gF (t := 16) rfl (decide_eq_false (by omega)) ?_ | refine LW.gF (t := 16) rfl (by omega) ?_
  refine LW.q rfl (Qt.move rfl) ?_
  refine LW.e rfl (Ef.call (Bt.put B g 2 [] [98] 2 (by decide)) Try.func15 rfl rfl rfl ?_)
  rintro _ _ ⟨rfl, rfl⟩
  try simp only [List.cons_append, List.nil_append]
  rw [show putL [98] 2 [] = [([98], 2)] from rfl]
  refine LW.q rfl (Qt.pick rfl rfl) ?_
  refine LW.q rfl (Qt.move rfl) ?_
  first | refine LW.gF (t := 20) rfl rfl ?_ | refine LW.gF (t := 20) rfl (decide_eq_false (by omega)) ?_ | refine LW.gF (t := 20) rfl (by omega) ?_
  refine LW.q rfl (Qt.move rfl) ?_
  refine LW.e rfl (Ef.call (Bt.put B g 2 [([98], 2)] [97] 1 (by decide)) Try.func15 rfl rfl rfl ?_)
  rintro _ _ ⟨rfl, rfl⟩
  try simp only [List.cons_append, List.nil_append]
  rw [show putL [97] 1 [([98], 2)] = [([97], 1), ([98], 2)] from rfl]
  refine LW.q rfl (Qt.pick rfl rfl) ?_
  refine LW.q rfl (Qt.move rfl) ?_
  first | refine LW.gF (t := 24) rfl rfl ?_ | refine LW.gF (t := 24) rfl (decide_eq_false (by omega)) ?_ | refine LW.gF (t := 24) rfl (by omega) ?_
  refine LW.q rfl (Qt.move rfl) ?_
  refine LW.e rfl (Ef.call (Bt.put B g 2 [([97], 1), ([98], 2)] [98] 3 (by decide)) Try.func15 rfl rfl rfl ?_)
  rintro _ _ ⟨rfl, rfl⟩
  try simp only [List.cons_append, List.nil_append]
  rw [show putL [98] 3 [([97], 1), ([98], 2)] = [([97], 1), ([98], 3)] from rfl]
  first | refine LW.q rfl (Qt.notP rfl) ?_ | refine LW.q rfl (Qt.notB rfl) ?_
  refine LW.q rfl (Qt.pick rfl rfl) ?_
  refine LW.q rfl (Qt.move rfl) ?_
  first | refine LW.gF (t := 29) rfl rfl ?_ | refine LW.gF (t := 29) rfl (decide_eq_false (by omega)) ?_ | refine LW.gF (t := 29) rfl (by omega) ?_
  refine LW.q rfl (Qt.move rfl) ?_
  refine LW.e rfl (Ef.call (Bt.Len B g 2 [([97], 1), ([98], 3)]) Try.func18 rfl rfl rfl ?_)
  rintro _ _ ⟨rfl, rfl⟩
  try simp only [List.cons_append, List.nil_append]
  refine LW.q rfl (Qt.neq rfl rfl) ?_
  refine LW.q rfl (Qt.pick rfl rfl) ?_
  refine LW.done ?_
  first | refine T.condF rfl ?_ | refine T.condPF rfl ((by decide)) ?_ | refine T.condBF rfl ((by decide)) ?_
  refine T.skip ?_
  refine T.seq ?_
  refine T.region ?_
  refine LW.q rfl (Qt.move rfl) ?_
  refine LW.e rfl (Ef.call (Bt.Get B g 2 [([97], 1), ([98], 3)] [98] (by decide)) Try.func25 rfl rfl rfl ?_)
  rintro _ _ ⟨rfl, rfl⟩
  try simp only [List.cons_append, List.nil_append]
  refine LW.q rfl (Qt.move rfl) ?_
  refine LW.q rfl (Qt.extr rfl rfl) ?_
  refine LW.q rfl (Qt.extr rfl rfl) ?_
  refine LW.q rfl (Qt.assign rfl) ?_
  refine LW.q rfl (Qt.assign rfl) ?_
  refine LW.done ?_
  refine T.seq ?_
  refine T.region ?_
  refine LW.q rfl (Qt.move rfl) ?_
  refine LW.e rfl (Ef.call (Bu.listed B g 2 [] [] [([97], 1), ([98], 3)] (by decide)) Try.func17 rfl rfl rfl ?_)
  rintro _ _ ⟨p, c, rfl, rfl⟩
  try simp only [List.cons_append, List.nil_append]
  rw [show rgL [] [] [([97], 1), ([98], 3)] = [([97], 1), ([98], 3)] from rfl]
  refine LW.q rfl (Qt.assign rfl) ?_
  refine LW.done ?_
  refine T.seq ?_
  refine T.region ?_
  refine LW.q rfl (Qt.move rfl) ?_
  refine LW.q rfl (Qt.eql rfl rfl) ?_
  refine LW.q rfl (Qt.move rfl) ?_
  refine LW.own fun w0 ho0 => ?_
  obtain ⟨gp, rfl⟩ := (ho0.slice_at (p := p) (m := [([97], 1), ([98], 3)].length) (c := c) (k := [([97], 1), ([98], 3)].length)).2.1 (by decide)
  clear ho0
  first | refine LW.gT (t := 43) rfl rfl ?_ | refine LW.gT (t := 43) rfl (decide_eq_true ((by decide))) ?_ | refine LW.gT (t := 43) rfl ((by decide)) ?_
  refine LW.q rfl (Qt.move rfl) ?_
  refine LW.q rfl (Qt.pick rfl rfl) ?_
  refine LW.q rfl (Qt.move rfl) ?_
  first | refine LW.gT (t := 46) rfl rfl ?_ | refine LW.gT (t := 46) rfl (decide_eq_true ((by decide))) ?_ | refine LW.gT (t := 46) rfl ((by decide)) ?_
  refine LW.q rfl (Qt.move rfl) ?_
  refine LW.q rfl (Qt.len (e := 36) (sz := 2) (by kernel_rfl) rfl) ?_
  refine LW.q rfl (Qt.eql rfl rfl) ?_
  refine LW.q rfl (Qt.pick rfl rfl) ?_
  refine LW.q rfl (Qt.move rfl) ?_
  first | refine LW.gT (t := 51) rfl rfl ?_ | refine LW.gT (t := 51) rfl (decide_eq_true ((by decide))) ?_ | refine LW.gT (t := 51) rfl ((by decide)) ?_
  refine LW.q rfl (Qt.move rfl) ?_
  refine LW.q rfl (Qt.index 0 (e := 36) (sz := 2) (by kernel_rfl) rfl rfl rfl (by decide)) ?_
  refine LW.q rfl (Qt.fieldAddr0 (by kernel_rfl) rfl) ?_
  first | refine LW.q rfl (Qt.load (by kernel_rfl) rfl rfl) ?_ | refine LW.q rfl (Qt.load (by kernel_rfl) rfl (map_at _ _ _ (by omega))) ?_ | refine LW.q rfl (Qt.load (by kernel_rfl) rfl (flat_cell0 _ _ _ (by intros; rfl) _ (by omega) (by rfl))) ?_ | refine LW.q rfl (Qt.load (by kernel_rfl) rfl (flat_cell _ _ _ (by intros; rfl) _ _ (by omega) (by rfl))) ?_ | refine LW.q rfl (Qt.load (by kernel_rfl) rfl (bytes_at _ _ (by omega))) ?_
  refine LW.q rfl (Qt.eqlS rfl rfl) ?_
  refine LW.q rfl (Qt.pick rfl rfl) ?_
  refine LW.q rfl (Qt.move rfl) ?_
  first | refine LW.gT (t := 58) rfl rfl ?_ | refine LW.gT (t := 58) rfl (decide_eq_true ((by decide))) ?_ | refine LW.gT (t := 58) rfl ((by decide)) ?_
  refine LW.q rfl (Qt.move rfl) ?_
  refine LW.e rfl (Ef.call (Bt.Cut B g 2 [([97], 1), ([98], 3)] [97] (by decide)) Try.func19 rfl rfl rfl ?_)
  rintro _ _ ⟨rfl, rfl⟩
  try simp only [List.cons_append, List.nil_append]
  rw [show cutL [97] [([97], 1), ([98], 3)] = [([98], 3)] from rfl]
  refine LW.q rfl (Qt.pick rfl rfl) ?_
  refine LW.q rfl (Qt.move rfl) ?_
  first | refine LW.gT (t := 62) rfl rfl ?_ | refine LW.gT (t := 62) rfl (decide_eq_true (by omega)) ?_ | refine LW.gT (t := 62) rfl (by omega) ?_
  refine LW.q rfl (Qt.move rfl) ?_
  refine LW.e rfl (Ef.call (Bt.Cut B g 2 [([98], 3)] [97] (by decide)) Try.func19 rfl rfl rfl ?_)
  rintro _ _ ⟨rfl, rfl⟩
  try simp only [List.cons_append, List.nil_append]
  rw [show cutL [97] [([98], 3)] = [([98], 3)] from rfl]
  first | refine LW.q rfl (Qt.notP rfl) ?_ | refine LW.q rfl (Qt.notB rfl) ?_
  refine LW.q rfl (Qt.pick rfl rfl) ?_
  refine LW.q rfl (Qt.move rfl) ?_
  first | refine LW.gT (t := 67) rfl rfl ?_ | refine LW.gT (t := 67) rfl (decide_eq_true (by omega)) ?_ | refine LW.gT (t := 67) rfl (by omega) ?_
  refine LW.q rfl (Qt.move rfl) ?_
  refine LW.e rfl (Ef.call (Bt.Len B g 2 [([98], 3)]) Try.func18 rfl rfl rfl ?_)
  rintro _ _ ⟨rfl, rfl⟩
  try simp only [List.cons_append, List.nil_append]
  refine LW.q rfl (Qt.eql rfl rfl) ?_
  refine LW.q rfl (Qt.pick rfl rfl) ?_
  refine LW.q rfl (Qt.move rfl) ?_
  refine LW.q rfl (Qt.pick rfl rfl) ?_
  refine LW.q rfl (Qt.assign rfl) ?_
  refine LW.done ?_
  refine T.ret ?_
  exact ⟨.inl rfl, _, _, res [_] rfl ⟨rvT rfl, trivial⟩, ⟨rfl, rfl⟩, Sub.any⟩
end Go.Proofs.Ytefognjcognknaa

/- btree's laws: BtreeAlike. Conditions: sizes; that the keys can be read. -/
set_option linter.unusedSimpArgs false
set_option linter.unusedVariables false
namespace Go.Proofs.Ytefognjcognknaa
open Go.RowKit
theorem sl_nil (a : Str) : sl a [] = false := by cases a <;> rfl
theorem rgL_whole (L : List KV) : rgL [] [] L = L := List.filter_eq_self.2 fun p _ => by simp [inR, sl_nil]
theorem putL_iff {key : Str} {val : Int} : ∀ {l : List KV} {p : KV}, Up l → (p ∈ putL key val l ↔ p = (key, val) ∨ (p ∈ l ∧ p.1 ≠ key))
  | [], p, _ => by simp [putL]
  | q :: l, p, hu => by
    have h1 := List.pairwise_cons.1 hu
    rw [putL]
    split
    · rename_i h
      rw [List.mem_cons, putL_iff h1.2, List.mem_cons]
      constructor
      · rintro (rfl | e | e)
        · exact .inr ⟨.inl rfl, ne_of_sl h⟩
        · exact .inl e
        · exact .inr ⟨.inr e.1, e.2⟩
      · rintro (e | ⟨rfl | e, e2⟩)
        · exact .inr (.inl e)
        · exact .inl rfl
        · exact .inr (.inr ⟨e, e2⟩)
    · rename_i h
      split
      · rename_i e
        rw [List.mem_cons, List.mem_cons]
        constructor
        · rintro (e2 | e2)
          · exact .inl e2
          · refine .inr ⟨.inr e2, fun e3 => ?_⟩
            have := h1.1 p e2
            rw [e, e3, sl_irrefl] at this; cases this
        · rintro (e2 | ⟨rfl | e2, e3⟩)
          · exact .inl e2
          · exact absurd e e3
          · exact .inr e2
      · rename_i e
        have hk : sl key q.1 = true := by
          refine Bool.not_eq_false _ |>.mp fun e2 => ?_
          exact e (sl_tri (Bool.eq_false_iff.2 h) e2)
        rw [List.mem_cons, List.mem_cons]
        constructor
        · rintro (e2 | e2 | e2)
          · exact .inl e2
          · exact .inr ⟨.inl e2, by rw [e2]; exact e⟩
          · exact .inr ⟨.inr e2, fun e3 => by have := sl_trans hk (h1.1 p e2); rw [e3, sl_irrefl] at this; cases this⟩
        · rintro (e2 | ⟨e2, _⟩)
          · exact .inl e2
          · exact .inr e2
theorem putL_le {key : Str} {val : Int} {l : List KV} (hu : Up l) : (putL key val l).length ≤ l.length + 1 := by rw [putL_len hu]; split <;> omega
theorem cutL_le {key : Str} {l : List KV} : (cutL key l).length ≤ l.length := List.length_filter_le ..
end Go.Proofs.Ytefognjcognknaa

/- btree's laws: BtreeRanges. Conditions: sizes; that the keys can be read. -/
set_option linter.unusedSimpArgs false
set_option linter.unusedVariables false
namespace Go.Proofs.Ytefognjcognknaa
open Go.RowKit
section
variable {P : Program} {B : Base} {n : Nat} {S l : List Assn} {f : Fr}
variable {d : Option Tmp} {ty : TypeId} {pos : String} {af : Array Edge} {gd : Option (Nat × Bool)}
theorem Qt.geqS {t t2 : TypeId} {x y : Operand} {a b : List UInt8} (hx : ev n f x = some (.string (strOf a))) (hy : ev n f y = some (.string (strOf b))) : Qt P B n S ⟨d, .binOp .geq t x y t2, ty, pos, af, gd⟩ f (.bool (!sl a b)) := ⟨fun w _ => by
  simp [execOp, evu_eq hx, evu_eq hy, eqGuard, Go.binOp, Op.stringOp, strOf_toList]⟩
end
/-- What a tree has behind rounds that cut a key and put another. -/
def mofL (L : List KV) (xs : List KV) : List KV := xs.foldl (fun M x => putL (x.1 ++ [33]) 2 (cutL x.1 M)) L
theorem mofL_snoc (L xs : List KV) (x : KV) : mofL L (xs ++ [x]) = putL (x.1 ++ [33]) 2 (cutL x.1 (mofL L xs)) := by simp [mofL]
theorem mofL_up {L : List KV} (h : Up L) : ∀ xs : List KV, Up (mofL L xs) := by
  intro xs
  induction xs generalizing L with
  | nil => exact h
  | cons x xs ih => exact ih (putL_up (cutL_up h))
theorem getL_put {key k : Str} {v : Int} {M : List KV} (hu : Up M) (hk : k ≠ key) (h : (getL M k).isSome = true) : (getL (putL (key ++ [33]) v (cutL key M)) k).isSome = true := by
  obtain ⟨w, hw⟩ := getL_isSome.1 h
  have h1 : (k, w) ∈ cutL key M := List.mem_filter.2 ⟨hw, by simpa using hk⟩
  by_cases e : k = key ++ [33]
  · exact getL_isSome.2 ⟨v, (putL_iff (cutL_up hu)).2 (.inl (by rw [e]))⟩
  · exact getL_isSome.2 ⟨w, (putL_iff (cutL_up hu)).2 (.inr ⟨h1, e⟩)⟩
theorem mofL_has : ∀ {xs M : List KV} {x : KV}, Up M → (∀ y ∈ xs, y.1 ≠ x.1) → (getL M x.1).isSome = true → (getL (mofL M xs) x.1).isSome = true
  | [], _, _, _, _, h => h
  | y :: xs, M, x, hu, hn, h => by
    have h1 := hn y (List.mem_cons_self ..)
    have ih := mofL_has (xs := xs) (M := putL (y.1 ++ [33]) 2 (cutL y.1 M)) (x := x) (putL_up (cutL_up hu)) (fun z hz => hn z (List.mem_cons_of_mem _ hz)) (getL_put hu (fun e => h1 e.symm) h)
    exact ih
theorem mofL_len : ∀ {xs M : List KV}, Up M → (mofL M xs).length ≤ M.length + xs.length
  | [], _, _ => by simp [mofL]
  | x :: xs, M, hu => by
    have h1 := putL_le (key := x.1 ++ [33]) (val := 2) (cutL_up (key := x.1) hu)
    have h2 := cutL_le (key := x.1) (l := M)
    have ih := mofL_len (xs := xs) (putL_up (key := x.1 ++ [33]) (val := 2) (cutL_up (key := x.1) hu))
    rw [List.length_cons]
    have e : mofL M (x :: xs) = mofL (putL (x.1 ++ [33]) 2 (cutL x.1 M)) xs := rfl
    rw [e]; omega
/-- The list is what lies below a key and what does not. -/
theorem rgL_parts {at_ : Str} (ha : at_ ≠ []) : ∀ {L : List KV}, Up L → rgL [] at_ L ++ rgL at_ [] L = L
  | [], _ => rfl
  | p :: l, hu => by
    have h1 := List.pairwise_cons.1 hu
    have ih := rgL_parts ha h1.2
    cases hp : sl p.1 at_ with
    | true =>
      have a1 : rgL [] at_ (p :: l) = p :: rgL [] at_ l := List.filter_cons_of_pos (by simp [inR, sl_nil, hp])
      have a2 : rgL at_ [] (p :: l) = rgL at_ [] l := List.filter_cons_of_neg (by simp [inR, hp])
      rw [a1, a2, List.cons_append, ih]
    | false =>
      have hall : ∀ y ∈ l, sl y.1 at_ = false := fun y hy => Bool.eq_false_iff.2 fun e => by
        have := sl_trans (h1.1 y hy) e
        rw [hp] at this; cases this
      have a1 : rgL [] at_ (p :: l) = [] := List.filter_eq_nil_iff.2 fun y hy => by
        rcases List.mem_cons.1 hy with rfl | hy
        · simp [inR, hp, ha]
        · simp [inR, hall y hy, ha]
      have a2 : rgL at_ [] (p :: l) = p :: l := List.filter_eq_self.2 fun y hy => by
        rcases List.mem_cons.1 hy with rfl | hy
        · simp [inR, hp]
        · simp [inR, hall y hy]
      rw [a1, a2]; rfl
theorem pre_at {L pre : List KV} {x : KV} (hu : Up L) (h : pre ++ [x] <+: L) : (∀ y ∈ pre, y.1 ≠ x.1) ∧ L[pre.length]? = some x ∧ (getL L x.1).isSome = true := by
  obtain ⟨r, rfl⟩ := h
  rw [List.append_assoc] at hu
  have h1 := List.pairwise_append.1 hu
  refine ⟨fun y hy => ne_of_sl (h1.2.2 y hy x (by simp)), by simp, getL_isSome.2 ⟨x.2, by simp⟩⟩
def atX (cd : Code) (n : Nat) : Prop := cd = .exit 4 ∧ n = 5
/-- The rounds' own. -/
abbrev rngI (g o g6 g7 g11 g13 : Nat) (p : Option Addr) (c : Nat) (L : List KV) (xs : List KV) : List Assn := [btA g o (mofL L xs), blk g6 [.bool false] 4, blk g7 [pV g] 24, blk g11 [.slice p L.length c] 30, blk g13 [.int .i64 xs.length] 3, rowP p c L, pu (xs.length < 5)]
abbrev rngX (g o g6 g7 g11 g13 : Nat) (p : Option Addr) (c : Nat) (L : List KV) (cd : Code) (xs : List KV) : List Assn := [pu (atX cd xs.length), btA g o (mofL L xs), blk g6 [.bool false] 4, blk g7 [pV g] 24, blk g11 [.slice p L.length c] 30, blk g13 [.int .i64 xs.length] 3, rowP p c L]
theorem Own.pu_at {B : Base} {w : World} {p : Prop} {l r : List Assn} (ho : Own B w l) [k : TakeA (pu p) l r] : p := by
  obtain ⟨h, _, _, H⟩ := (ho.take (A := pu p)).has
  exact (Has.open_pu H).1
theorem rng_start {g na g6 g7 g11 g13 g1 g2 g3 c : Nat} {p : Option Addr} {L : List KV} {F : List Assn} {k : Piece} (K : Has (blk g1 [pV g] 24 :: blk g2 [kT []] 9 :: blk g3 [kT []] 9 :: btA g na L :: blk g6 [.bool false] 4 :: blk g7 [pV g] 24 :: blk g11 [.slice p L.length c] 30 :: blk g13 [.int .i64 0] 3 :: rowP p c L :: F) k) : Has (rgB g1 g2 g3 g [] [] ++ rngI g na g6 g7 g11 g13 p c L [] ++ F) k :=
  Has.head K fun _ K => Has.head K fun _ K => Has.head K fun _ K => Has.head K fun _ K => Has.head K fun _ K => Has.head K fun _ K => Has.head K fun _ K => Has.head K fun _ K => Has.head K fun _ K => Has.close_pu (by decide) K
theorem rng_next {g na g6 g7 g11 g13 c : Nat} {p : Option Addr} {L xs : List KV} {x : KV} {F : List Assn} {k : Piece} (h : xs.length + 1 < 5) (K : Has (btA g na (putL (x.1 ++ [33]) 2 (cutL x.1 (mofL L xs))) :: blk g6 [.bool false] 4 :: blk g7 [pV g] 24 :: blk g11 [.slice p L.length c] 30 :: blk g13 [.int .i64 (xs.length + 1 : Nat)] 3 :: rowP p c L :: F) k) : Has (rngI g na g6 g7 g11 g13 p c L (xs ++ [x]) ++ F) k := by
  have e : (xs ++ [x]).length = xs.length + 1 := by simp
  show Has (btA g na (mofL L (xs ++ [x])) :: blk g6 [.bool false] 4 :: blk g7 [pV g] 24 :: blk g11 [.slice p L.length c] 30 :: blk g13 [.int .i64 (xs ++ [x]).length] 3 :: rowP p c L :: pu ((xs ++ [x]).length < 5) :: F) k
  rw [e, mofL_snoc]
  exact Has.head K fun _ K => Has.head K fun _ K => Has.head K fun _ K => Has.head K fun _ K => Has.head K fun _ K => Has.head K fun _ K => Has.close_pu h K
theorem rng_leave {g na g6 g7 g11 g13 c : Nat} {p : Option Addr} {L xs : List KV} {x : KV} {F : List Assn} {k : Piece} (h : xs.length + 1 = 5) (K : Has (btA g na (putL (x.1 ++ [33]) 2 (cutL x.1 (mofL L xs))) :: blk g6 [.bool false] 4 :: blk g7 [pV g] 24 :: blk g11 [.slice p L.length c] 30 :: blk g13 [.int .i64 (xs.length + 1 : Nat)] 3 :: rowP p c L :: F) k) : Has (rngX g na g6 g7 g11 g13 p c L (.exit 4) (xs ++ [x]) ++ F) k := by
  have e : (xs ++ [x]).length = xs.length + 1 := by simp
  show Has (pu (atX (.exit 4) (xs ++ [x]).length) :: btA g na (mofL L (xs ++ [x])) :: blk g6 [.bool false] 4 :: blk g7 [pV g] 24 :: blk g11 [.slice p L.length c] 30 :: blk g13 [.int .i64 (xs ++ [x]).length] 3 :: rowP p c L :: F) k
  rw [e, mofL_snoc]
  exact Has.close_pu ⟨rfl, h⟩ K
set_option maxHeartbeats 8000000 in
set_option maxRecDepth 100000 in
theorem Bu.ranges (B : Base) (o : Int) (v : Value) (keys : List Str) (at_ : Str) (hv : RoS B v (keys.map kT)) (hn : keys.length < 2 ^ 38) (hkl : ∀ k ∈ keys, k.length < 2 ^ 39) : Fn Try.prog B 4 #[.int .i64 o, v, kT at_] [] (fun u l => u = .bool true ∧ l = []) := by
 obtain ⟨ka, kc, rfl⟩ : ∃ a cap, v = .slice a keys.length cap := by obtain ⟨a, c, e, _⟩ := hv; exact ⟨a, c, by rw [e]; simp⟩
 refine Fn.enterM3 106 Try.func4 rfl rfl (Nat.le_of_ble_eq_true rfl) (fun F => ?_)
 try simp only [List.cons_append, List.nil_append]
 refine TI.seq ?_
 refine TI.region (by rfl) ?_
 refine LW.e rfl (Ef.alloc [.bool false] (by unfold zeroB; kernel_rfl) ?_)
 intro g6
 refine LW.done ?_
 refine TI.seq ?_
 refine TI.seq ?_
 refine TI.region (by rfl) ?_
 refine LW.e rfl (Ef.call (Bu.awake B) Try.func13 rfl rfl rfl ?_)
 rintro _ _ ⟨rfl, rfl⟩
 try simp only [List.cons_append, List.nil_append]
 first | refine LW.q rfl (Qt.notP rfl) ?_ | refine LW.q rfl (Qt.notB rfl) ?_
 refine LW.done ?_
 first | refine TI.condF rfl ?_ | refine TI.condPF rfl (by omega) ?_ | refine TI.condBF rfl (by omega) ?_
 by_cases ho : 2 ≤ o ∧ o ≤ 64
 ·
  obtain ⟨na, rfl⟩ : ∃ n : Nat, o = n := ⟨o.toNat, by omega⟩
  refine TI.skip ?_
  refine TI.seq ?_
  refine TI.region (by rfl) ?_
  refine LW.q rfl (Qt.move rfl) ?_
  refine LW.e rfl (Ef.call (Bt.newOk B na (by omega) (by omega)) Try.func14 rfl rfl rfl ?_)
  rintro _ _ ⟨g, rfl, rfl⟩
  try simp only [List.cons_append, List.nil_append]
  refine LW.q rfl (Qt.move rfl) ?_
  refine LW.q rfl (Qt.extr rfl rfl) ?_
  refine LW.q rfl (Qt.extr rfl rfl) ?_
  refine LW.e rfl (Ef.alloc [.pointer none] (by unfold zeroB; kernel_rfl) ?_)
  intro g7
  refine LW.e0 rfl (Ef.store1 (by kernel_rfl) rfl rfl rfl (by first | (simp; done) | (simp; omega)) ?_)
  try simp only [List.set_cons_zero, List.set_cons_succ]
  refine LW.q rfl (Qt.assign rfl) ?_
  refine LW.done ?_
  refine TI.seq ?_
  refine TI.seq ?_
  refine TI.region (by rfl) ?_
  first | refine LW.q rfl (Qt.load (by kernel_rfl) rfl rfl) ?_ | refine LW.q rfl (Qt.load (by kernel_rfl) rfl (map_at _ _ _ (by omega))) ?_ | refine LW.q rfl (Qt.load (by kernel_rfl) rfl (flat_cell0 _ _ _ (by intros; rfl) _ (by omega) (by rfl))) ?_ | refine LW.q rfl (Qt.load (by kernel_rfl) rfl (flat_cell _ _ _ (by intros; rfl) _ _ (by omega) (by rfl))) ?_ | refine LW.q rfl (Qt.load (by kernel_rfl) rfl (bytes_at _ _ (by omega))) ?_
  first | refine LW.q rfl (Qt.eqlNil (by kernel_rfl) rfl rfl) ?_ | refine LW.q rfl (Qt.eqlNN (by kernel_rfl) rfl rfl) ?_
  refine LW.done ?_
  first | refine TI.condF rfl ?_ | refine TI.condPF rfl (by omega) ?_ | refine TI.condBF rfl (by omega) ?_
  refine TI.skip ?_
  refine TI.seq ?_
  refine TI.seq ?_
  refine TI.region (by rfl) ?_
  refine LW.q rfl (Qt.move rfl) ?_
  refine LW.q rfl (Qt.len (e := 9) (sz := 1) (by kernel_rfl) rfl) ?_
  refine LW.q rfl (Qt.move rfl) ?_
  refine LW.done ?_
  refine TI.block ?_
  refine TI.loop (fun mz fz lz => ∃ (f0 : Fr) (i : Nat) (L : List KV), (i ≤ keys.length ∧ Up L ∧ L.length ≤ i ∧ (∀ p ∈ L, p.1 ∈ keys)) ∧ mz = keys.length - i ∧ fz = (upd (upd (upd (upd (upd (upd (upd f0 1 (.slice ka keys.length kc)) 2 (kT at_)) 6 (pV g6)) 7 (pV g7)) 26 (.slice ka keys.length kc)) 27 (.int .i64 keys.length)) 28 (.int .i64 i)) ∧ lz = btA g na L :: blk g6 [.bool false] 4 :: blk g7 [pV g] 24 :: F) ?_ ?_
  · refine ⟨_, _, ⟨_, 0, [], ⟨Nat.zero_le _, List.Pairwise.nil, Nat.le_refl _, (fun _ h => nomatch h)⟩, rfl, (updS rfl (updS rfl (updS rfl (updS rfl (updS rfl (updS rfl (updS rfl rfl))))))), rfl⟩, Sub.any⟩
  ·
   rintro mz fz lz ⟨f0, i, L, ⟨hi, hu, hll, hin⟩, hmz, rfl, rfl⟩
   subst mz
   try simp only [List.cons_append, List.nil_append]
   refine TI.seq ?_
   refine TI.region (by rfl) ?_
   refine LW.q rfl (Qt.lss rfl rfl) ?_
   refine LW.done ?_
   refine TI.seq ?_
   refine TI.condP rfl (fun hlt => ?_) (fun hlt => ?_)
   ·
    have hlt' : i < keys.length := by omega
    obtain ⟨b0, o0, rfl, hc0⟩ := (hv.rd []).at (by omega)
    refine TI.skip ?_
    refine TI.seq ?_
    refine TI.block ?_
    refine TI.seq ?_
    refine TI.region (by rfl) ?_
    refine LW.q rfl (Qt.index i (e := 9) (sz := 1) (by kernel_rfl) rfl rfl rfl hlt') ?_
    refine LW.q rfl (Qt.loadW (v := kT keys[i]) (by kernel_rfl) rfl (fun w ho => by have := hc0 i (by simpa using hlt') w (ho.map Sub.any); simpa using this)) ?_
    refine LW.q rfl (Qt.assign rfl) ?_
    refine LW.done ?_
    refine TI.region (by rfl) ?_
    first | refine LW.q rfl (Qt.load (by kernel_rfl) rfl rfl) ?_ | refine LW.q rfl (Qt.load (by kernel_rfl) rfl (map_at _ _ _ (by omega))) ?_ | refine LW.q rfl (Qt.load (by kernel_rfl) rfl (flat_cell0 _ _ _ (by intros; rfl) _ (by omega) (by rfl))) ?_ | refine LW.q rfl (Qt.load (by kernel_rfl) rfl (flat_cell _ _ _ (by intros; rfl) _ _ (by omega) (by rfl))) ?_ | refine LW.q rfl (Qt.load (by kernel_rfl) rfl (bytes_at _ _ (by omega))) ?_
    refine LW.q rfl (Qt.move rfl) ?_
    refine LW.e rfl (Ef.call (Bt.put B g na L keys[i] 1 (by omega)) Try.func15 rfl rfl rfl ?_)
    rintro _ _ ⟨rfl, rfl⟩
    try simp only [List.cons_append, List.nil_append]
    refine LW.done ?_
    refine TI.region (by rfl) ?_
    refine LW.q rfl (Qt.add rfl rfl (wr64 (by omega) (by omega))) ?_
    refine LW.q rfl (Qt.move rfl) ?_
    refine LW.done ?_
    refine ⟨rfl, _, ?_, _, ⟨_, i + 1, putL keys[i] 1 L, ⟨hlt', putL_up hu, by have := putL_le (key := keys[i]) (val := 1) hu; omega, fun p hp => by rcases (putL_iff hu).1 hp with rfl | h; exact List.getElem_mem _; exact hin p h.1⟩, rfl, (updS rfl (updS rfl (updS rfl (updS rfl (updS rfl (updS rfl (updS rfl rfl))))))), rfl⟩, Sub.any⟩
    first | omega | (simp; omega)
   ·
    have hkb : ∀ q ∈ L, q.1.length < 2 ^ 39 := fun q hq => hkl _ (hin q hq)
    refine TI.exit ?_
    refine TI.seq ?_
    refine TI.region (by rfl) ?_
    first | refine LW.q rfl (Qt.load (by kernel_rfl) rfl rfl) ?_ | refine LW.q rfl (Qt.load (by kernel_rfl) rfl (map_at _ _ _ (by omega))) ?_ | refine LW.q rfl (Qt.load (by kernel_rfl) rfl (flat_cell0 _ _ _ (by intros; rfl) _ (by omega) (by rfl))) ?_ | refine LW.q rfl (Qt.load (by kernel_rfl) rfl (flat_cell _ _ _ (by intros; rfl) _ _ (by omega) (by rfl))) ?_ | refine LW.q rfl (Qt.load (by kernel_rfl) rfl (bytes_at _ _ (by omega))) ?_
    refine LW.e rfl (Ef.call (Bu.listed B g na [] [] L (by omega)) Try.func17 rfl rfl rfl ?_)
    rintro _ _ ⟨p, c, rfl, rfl⟩
    try simp only [List.cons_append, List.nil_append]
    rw [rgL_whole]
    refine LW.e rfl (Ef.alloc [.slice none 0 0] (by unfold zeroB; kernel_rfl) ?_)
    intro g11
    refine LW.e0 rfl (Ef.store1 (by kernel_rfl) rfl rfl rfl (by first | (simp; done) | (simp; omega)) ?_)
    try simp only [List.set_cons_zero, List.set_cons_succ]
    refine LW.done ?_
    refine TI.seq ?_
    refine TI.seq ?_
    refine TI.region (by rfl) ?_
    refine LW.q rfl (Qt.assign rfl) ?_
    refine LW.done ?_
    refine TI.block ?_
    refine TI.loop (fun mz fz lz => ∃ (f0 : Fr) (i : Nat), (1 ≤ i) ∧ mz = L.length + 1 - i ∧ fz = (upd (upd (upd (upd (upd f0 2 (kT at_)) 6 (pV g6)) 7 (pV g7)) 11 (pV g11)) 12 (.int .i64 i)) ∧ lz = blk g11 [.slice p L.length c] 30 :: rowP p c L :: btA g na L :: blk g6 [.bool false] 4 :: blk g7 [pV g] 24 :: F) ?_ ?_
    · refine ⟨_, _, ⟨_, 1, Nat.le_refl _, rfl, (updS rfl (updS rfl (updS rfl (updS rfl (updS rfl rfl))))), rfl⟩, Sub.any⟩
    ·
     rintro mz fz lz ⟨f0, i, h1i, hmz, rfl, rfl⟩
     subst mz
     try simp only [List.cons_append, List.nil_append]
     refine TI.seq ?_
     refine TI.seq ?_
     refine TI.region (by rfl) ?_
     refine LW.q rfl (Qt.move rfl) ?_
     first | refine LW.q rfl (Qt.load (by kernel_rfl) rfl rfl) ?_ | refine LW.q rfl (Qt.load (by kernel_rfl) rfl (map_at _ _ _ (by omega))) ?_ | refine LW.q rfl (Qt.load (by kernel_rfl) rfl (flat_cell0 _ _ _ (by intros; rfl) _ (by omega) (by rfl))) ?_ | refine LW.q rfl (Qt.load (by kernel_rfl) rfl (flat_cell _ _ _ (by intros; rfl) _ _ (by omega) (by rfl))) ?_ | refine LW.q rfl (Qt.load (by kernel_rfl) rfl (bytes_at _ _ (by omega))) ?_
     refine LW.q rfl (Qt.len (e := 36) (sz := 2) (by kernel_rfl) rfl) ?_
     refine LW.q rfl (Qt.lss rfl rfl) ?_
     refine LW.done ?_
     refine TI.condP rfl (fun hlt2 => ?_) (fun hlt2 => ?_)
     ·
      have hil : i < L.length := by omega
      refine TI.own fun w0 ho0 => ?_
      obtain ⟨gp, rfl⟩ := (ho0.slice_at (p := p) (m := L.length) (c := c) (k := L.length)).2.1 (by omega)
      clear ho0
      have hrise : sl (L[i - 1]'(by omega)).1 L[i].1 = true := List.pairwise_iff_getElem.1 hu (i - 1) i (by omega) hil (by omega)
      refine TI.skip ?_
      refine TI.seq ?_
      refine TI.block ?_
      refine TI.seq ?_
      refine TI.drawAll 12 (by kernel_rfl) (Nat.le_of_ble_eq_true rfl) (by kernel_rfl) (by rfl) ?_
      first | refine RW.q 0 rfl rfl (by kernel_rfl) (Sub.refl _) (Qt.load (by kernel_rfl) rfl rfl) ?_ | refine RW.q 0 rfl rfl (by kernel_rfl) (Sub.refl _) (Qt.load (by kernel_rfl) rfl (map_at _ _ _ (by omega))) ?_ | refine RW.q 0 rfl rfl (by kernel_rfl) (Sub.refl _) (Qt.load (by kernel_rfl) rfl (flat_cell0 _ _ _ (by intros; rfl) _ (by omega) (by rfl))) ?_ | refine RW.q 0 rfl rfl (by kernel_rfl) (Sub.refl _) (Qt.load (by kernel_rfl) rfl (flat_cell _ _ _ (by intros; rfl) _ _ (by omega) (by rfl))) ?_ | refine RW.q 0 rfl rfl (by kernel_rfl) (Sub.refl _) (Qt.load (by kernel_rfl) rfl (bytes_at _ _ (by omega))) ?_
      refine RW.q 1 rfl rfl (by kernel_rfl) (Sub.refl _) (Qt.move rfl) ?_
      refine RW.q 2 rfl rfl (by kernel_rfl) (Sub.refl _) (Qt.sub (r := ((i - 1 : Nat) : Int)) rfl rfl (by rw [wr64 (by omega) (by omega)]; omega)) ?_
      refine RW.q 3 rfl rfl (by kernel_rfl) (Sub.refl _) (Qt.index (i - 1) (e := 36) (sz := 2) (by kernel_rfl) rfl rfl rfl (by omega)) ?_
      refine RW.q 4 rfl rfl (by kernel_rfl) (Sub.refl _) (Qt.fieldAddr0 (by kernel_rfl) rfl) ?_
      refine RW.q 5 rfl rfl (by kernel_rfl) (Sub.refl _) (Qt.load (v := kT (L[i - 1]'(by omega)).1) (by kernel_rfl) rfl (flat_cell0 kvC 2 L (by intros; rfl) (i - 1) (by omega) rfl)) ?_
      first | refine RW.q 6 rfl rfl (by kernel_rfl) (Sub.refl _) (Qt.load (by kernel_rfl) rfl rfl) ?_ | refine RW.q 6 rfl rfl (by kernel_rfl) (Sub.refl _) (Qt.load (by kernel_rfl) rfl (map_at _ _ _ (by omega))) ?_ | refine RW.q 6 rfl rfl (by kernel_rfl) (Sub.refl _) (Qt.load (by kernel_rfl) rfl (flat_cell0 _ _ _ (by intros; rfl) _ (by omega) (by rfl))) ?_ | refine RW.q 6 rfl rfl (by kernel_rfl) (Sub.refl _) (Qt.load (by kernel_rfl) rfl (flat_cell _ _ _ (by intros; rfl) _ _ (by omega) (by rfl))) ?_ | refine RW.q 6 rfl rfl (by kernel_rfl) (Sub.refl _) (Qt.load (by kernel_rfl) rfl (bytes_at _ _ (by omega))) ?_
      refine RW.q 7 rfl rfl (by kernel_rfl) (Sub.refl _) (Qt.move rfl) ?_
      refine RW.q 8 rfl rfl (by kernel_rfl) (Sub.refl _) (Qt.index i (e := 36) (sz := 2) (by kernel_rfl) rfl rfl rfl hil) ?_
      refine RW.q 9 rfl rfl (by kernel_rfl) (Sub.refl _) (Qt.fieldAddr0 (by kernel_rfl) rfl) ?_
      refine RW.q 10 rfl rfl (by kernel_rfl) (Sub.refl _) (Qt.load (v := kT L[i].1) (by kernel_rfl) rfl (flat_cell0 kvC 2 L (by intros; rfl) i hil rfl)) ?_
      refine RW.q 11 rfl rfl (by kernel_rfl) (Sub.refl _) (Qt.geqS rfl rfl) ?_
      refine RW.done (by rfl) ?_
      simp only [List.drop_succ_cons, List.drop_zero, List.drop_nil]
      refine LW.done ?_
      first | refine TI.condF rfl ?_ | refine TI.condPF rfl ((by rw [hrise]; rfl)) ?_ | refine TI.condBF rfl ((by rw [hrise]; rfl)) ?_
      refine TI.skip ?_
      refine TI.region (by rfl) ?_
      refine LW.q rfl (Qt.move rfl) ?_
      refine LW.q rfl (Qt.add rfl rfl (wr64 (by omega) (by omega))) ?_
      refine LW.q rfl (Qt.assign rfl) ?_
      refine LW.done ?_
      refine ⟨rfl, _, ?_, _, ⟨_, i + 1, by omega, rfl, (updS rfl (updS rfl (updS rfl (updS rfl (updS rfl rfl))))), rfl⟩, Sub.any⟩
      first | omega | (simp; omega)
     ·
      refine TI.exit ?_
      refine TI.cut (fun fz lz => ∃ (f0 : Fr) (n : Nat), (True) ∧ fz = (upd (upd (upd f0 6 (pV g6)) 7 (pV g7)) 11 (pV g11)) ∧ lz = blk g11 [.slice p L.length c] 30 :: rowP p c L :: btA g na L :: blk g6 [.bool false] 4 :: blk g7 [pV g] 24 :: F) ?_ ?_
      ·
       refine TI.seq ?_
       refine TI.drawBl 14 none (by kernel_rfl) (Nat.le_of_ble_eq_true rfl) (by kernel_rfl) (by rfl) ?_
       refine RW.q 0 rfl rfl (by kernel_rfl) Sub.any (Qt.move rfl) ?_
       refine RW.q 1 rfl rfl (by kernel_rfl) Sub.any (Qt.neqS rfl rfl) ?_
       refine RW.q 2 rfl rfl (by kernel_rfl) Sub.any (Qt.move rfl) ?_
       refine RW.split (t := 58) rfl (fun hat => ?_) (fun hat => ?_)
       ·
        try replace hat := of_decide_eq_true hat
        first | refine RW.q 3 rfl rfl (by kernel_rfl) Sub.any (Qt.load (by kernel_rfl) rfl rfl) ?_ | refine RW.q 3 rfl rfl (by kernel_rfl) Sub.any (Qt.load (by kernel_rfl) rfl (map_at _ _ _ (by omega))) ?_ | refine RW.q 3 rfl rfl (by kernel_rfl) Sub.any (Qt.load (by kernel_rfl) rfl (flat_cell0 _ _ _ (by intros; rfl) _ (by omega) (by rfl))) ?_ | refine RW.q 3 rfl rfl (by kernel_rfl) Sub.any (Qt.load (by kernel_rfl) rfl (flat_cell _ _ _ (by intros; rfl) _ _ (by omega) (by rfl))) ?_ | refine RW.q 3 rfl rfl (by kernel_rfl) Sub.any (Qt.load (by kernel_rfl) rfl (bytes_at _ _ (by omega))) ?_
        refine RW.q 4 rfl rfl (by kernel_rfl) Sub.any (Qt.move rfl) ?_
        first | refine RW.q 6 rfl rfl (by kernel_rfl) Sub.any (Qt.load (by kernel_rfl) rfl rfl) ?_ | refine RW.q 6 rfl rfl (by kernel_rfl) Sub.any (Qt.load (by kernel_rfl) rfl (map_at _ _ _ (by omega))) ?_ | refine RW.q 6 rfl rfl (by kernel_rfl) Sub.any (Qt.load (by kernel_rfl) rfl (flat_cell0 _ _ _ (by intros; rfl) _ (by omega) (by rfl))) ?_ | refine RW.q 6 rfl rfl (by kernel_rfl) Sub.any (Qt.load (by kernel_rfl) rfl (flat_cell _ _ _ (by intros; rfl) _ _ (by omega) (by rfl))) ?_ | refine RW.q 6 rfl rfl (by kernel_rfl) Sub.any (Qt.load (by kernel_rfl) rfl (bytes_at _ _ (by omega))) ?_
        refine RW.q 7 rfl rfl (by kernel_rfl) Sub.any (Qt.move rfl) ?_
        first | refine RW.q 10 rfl rfl (by kernel_rfl) Sub.any (Qt.load (by kernel_rfl) rfl rfl) ?_ | refine RW.q 10 rfl rfl (by kernel_rfl) Sub.any (Qt.load (by kernel_rfl) rfl (map_at _ _ _ (by omega))) ?_ | refine RW.q 10 rfl rfl (by kernel_rfl) Sub.any (Qt.load (by kernel_rfl) rfl (flat_cell0 _ _ _ (by intros; rfl) _ (by omega) (by rfl))) ?_ | refine RW.q 10 rfl rfl (by kernel_rfl) Sub.any (Qt.load (by kernel_rfl) rfl (flat_cell _ _ _ (by intros; rfl) _ _ (by omega) (by rfl))) ?_ | refine RW.q 10 rfl rfl (by kernel_rfl) Sub.any (Qt.load (by kernel_rfl) rfl (bytes_at _ _ (by omega))) ?_
        refine RW.one 5 (by kernel_rfl) ?_
        refine RO.eS rfl rfl (Ef.call (Bu.listed B g na [] at_ L (by omega)) Try.func17 rfl rfl rfl ?_)
        rintro _ _ ⟨p1, c1, rfl, rfl⟩
        try simp only [List.cons_append, List.nil_append]
        refine ⟨Sub.any, ?_⟩
        refine RW.one 8 (by kernel_rfl) ?_
        refine RO.eS rfl rfl (Ef.call (Bu.listed B g na at_ [] L (by omega)) Try.func17 rfl rfl rfl ?_)
        rintro _ _ ⟨p2, c2, rfl, rfl⟩
        try simp only [List.cons_append, List.nil_append]
        refine ⟨Sub.any, ?_⟩
        refine RW.one 9 (by kernel_rfl) ?_
        refine RO.eS rfl rfl (Ef.append Bu.elem rfl rfl (SrcOf.row (by kernel_rfl) kvC_one) (by have h1 : (rgL [] at_ L).length ≤ L.length := List.length_filter_le _ _; have h2 : (rgL at_ [] L).length ≤ L.length := List.length_filter_le _ _; unfold maxLen; omega) (by have h1 : (rgL [] at_ L).length ≤ L.length := List.length_filter_le _ _; have h2 : (rgL at_ [] L).length ≤ L.length := List.length_filter_le _ _; omega) ?_)
        rintro p3 c3 hp3
        try simp only [List.cons_append, List.nil_append]
        rw [show kvF (rgL [] at_ L) ++ kvF (rgL at_ [] L) = kvF L by rw [kvF, kvF, ← List.flatMap_append, rgL_parts hat hu], show (rgL [] at_ L).length + (rgL at_ [] L).length = L.length by rw [← List.length_append, rgL_parts hat hu]]
        refine ⟨Sub.any, ?_⟩
        refine RW.one 11 (by kernel_rfl) ?_
        refine RO.r rfl rfl (by kernel_rfl) (Ef.call (Bu.pairs B p3 p c3 c L L (by omega) (by omega)) Try.func16 rfl rfl rfl ?_)
        rintro _ _ ⟨rfl, rfl⟩
        try simp only [List.cons_append, List.nil_append]
        first | refine RW.q 12 rfl rfl (by kernel_rfl) (Sub.refl _) (Qt.notP rfl) ?_ | refine RW.q 12 rfl rfl (by kernel_rfl) (Sub.refl _) (Qt.notB rfl) ?_
        refine RW.q 13 rfl rfl (by kernel_rfl) (Sub.refl _) (Qt.pick rfl rfl) ?_
        refine RW.done (by rfl) ?_
        simp only [List.drop_succ_cons, List.drop_zero, List.drop_nil]
        refine LW.done ?_
        first | refine TI.condF rfl ?_ | refine TI.condPF rfl ((by simp)) ?_ | refine TI.condBF rfl ((by simp)) ?_
        refine TI.skip ?_
        exact ⟨rfl, _, ⟨_, 0, trivial, (updS rfl (updS rfl (updS rfl rfl))), rfl⟩, Sub.any⟩
       ·
        try replace hat := of_decide_eq_false hat
        refine RW.s 3 rfl rfl (by kernel_rfl) Sub.any ?_
        refine RW.s 4 rfl rfl (by kernel_rfl) Sub.any ?_
        refine RW.s 5 rfl rfl (by kernel_rfl) Sub.any ?_
        refine RW.s 6 rfl rfl (by kernel_rfl) Sub.any ?_
        refine RW.s 7 rfl rfl (by kernel_rfl) Sub.any ?_
        refine RW.s 8 rfl rfl (by kernel_rfl) Sub.any ?_
        refine RW.s 9 rfl rfl (by kernel_rfl) Sub.any ?_
        refine RW.s 10 rfl rfl (by kernel_rfl) Sub.any ?_
        refine RW.s 11 rfl rfl (by kernel_rfl) Sub.any ?_
        refine RW.s 12 rfl rfl (by kernel_rfl) Sub.any ?_
        refine RW.q 13 rfl rfl (by kernel_rfl) Sub.any (Qt.pick rfl rfl) ?_
        refine RW.done (by rfl) ?_
        simp only [List.drop_succ_cons, List.drop_zero, List.drop_nil]
        refine LW.done ?_
        first | refine TI.condF rfl ?_ | refine TI.condPF rfl (by omega) ?_ | refine TI.condBF rfl (by omega) ?_
        refine TI.skip ?_
        exact ⟨rfl, _, ⟨_, 0, trivial, (updS rfl (updS rfl (updS rfl rfl))), rfl⟩, Sub.any⟩
      rintro fz lz ⟨f0, n, _, rfl, rfl⟩
      try simp only [List.cons_append, List.nil_append]
      refine TI.seq ?_
      refine TI.region (by rfl) ?_
      refine LW.e rfl (Ef.alloc [.int .i64 0] (by unfold zeroB; kernel_rfl) ?_)
      intro g13
      refine LW.e0 rfl (Ef.store1 (by kernel_rfl) rfl rfl rfl (by first | (simp; done) | (simp; omega)) ?_)
      try simp only [List.set_cons_zero, List.set_cons_succ]
      refine LW.done ?_
      refine TI.seq ?_
      refine TI.seq ?_
      refine TI.region (by rfl) ?_
      first | refine LW.q rfl (Qt.load (by kernel_rfl) rfl rfl) ?_ | refine LW.q rfl (Qt.load (by kernel_rfl) rfl (map_at _ _ _ (by omega))) ?_ | refine LW.q rfl (Qt.load (by kernel_rfl) rfl (flat_cell0 _ _ _ (by intros; rfl) _ (by omega) (by rfl))) ?_ | refine LW.q rfl (Qt.load (by kernel_rfl) rfl (flat_cell _ _ _ (by intros; rfl) _ _ (by omega) (by rfl))) ?_ | refine LW.q rfl (Qt.load (by kernel_rfl) rfl (bytes_at _ _ (by omega))) ?_
      refine LW.e rfl (Ef.call (Bt.Range B g [] []) Try.func20 rfl rfl rfl ?_)
      rintro _ _ ⟨g1, g2, g3, rfl, rfl⟩
      try simp only [List.cons_append, List.nil_append]
      refine LW.done ?_
      refine TI.block ?_
      refine TI.conv (l' := rgB g1 g2 g3 g [] [] ++ rngI g na g6 g7 g11 g13 p c L [] ++ F) (fun w ho => ho.map fun k K => rng_start (Sub.any k K)) ?_
      simp only [List.cons_append, List.nil_append]
      refine TI.rangeL (rngI g na g6 g7 g11 g13 p c L) (rngX g na g6 g7 g11 g13 p c L) (_) rfl (Bt.iter B g1 g2 g3 g na [] [] L) rfl (entersOf Try.func49 rfl rfl) (fun _ => rfl) ([blk g1 [pV g] 24, blk g2 [kT []] 9, blk g3 [kT []] 9, btA g na (mofL L []), blk g6 [.bool false] 4, blk g7 [pV g] 24, blk g11 [.slice p L.length c] 30, blk g13 [.int .i64 ([] : List KV).length] 3, rowP p c L, pu (([] : List KV).length < 5)]) rfl ?_ ?_ ?_
      ·
       rintro lp xs x F0 hG
       simp only [List.zip_cons_cons, List.zip_nil_right, List.zip_nil_left, pjs, List.cons_append, List.nil_append]
       refine TI.region (by rfl) ?_
       refine LW.q rfl (Qt.assign rfl) ?_
       refine LW.done ?_
       refine ⟨rfl, rfl, rngI g na g6 g7 g11 g13 p c L xs, Sub.any, fun F1 => ?_⟩
       try simp only [List.cons_append, List.nil_append]
       rw [rgL_whole] at hG
       refine TI.own fun w1 ho1 => ?_
       have h5 : xs.length < 5 := ho1.pu_at (p := xs.length < 5)
       obtain ⟨gp, rfl⟩ := (ho1.slice_at (p := p) (m := L.length) (c := c) (k := L.length)).2.1 (by have := hG.length_le; simp at this; omega)
       clear ho1
       obtain ⟨hne, hat, hget⟩ := pre_at hu hG
       have hxl := (List.getElem?_eq_some_iff.1 hat).1
       have hxe := (List.getElem?_eq_some_iff.1 hat).2
       have hmu := mofL_up hu xs
       have hml := mofL_len (xs := xs) hu
       have hxk := hkb x (by rw [← hxe]; exact List.getElem_mem _)
       have hms := mofL_has hu hne hget
       refine TI.block ?_
       refine TI.seq ?_
       refine TI.seq ?_
       refine TI.region (by rfl) ?_
       first | refine LW.q rfl (Qt.load (by kernel_rfl) rfl rfl) ?_ | refine LW.q rfl (Qt.load (by kernel_rfl) rfl (map_at _ _ _ (by omega))) ?_ | refine LW.q rfl (Qt.load (by kernel_rfl) rfl (flat_cell0 _ _ _ (by intros; rfl) _ (by omega) (by rfl))) ?_ | refine LW.q rfl (Qt.load (by kernel_rfl) rfl (flat_cell _ _ _ (by intros; rfl) _ _ (by omega) (by rfl))) ?_ | refine LW.q rfl (Qt.load (by kernel_rfl) rfl (bytes_at _ _ (by omega))) ?_
       first | refine LW.q rfl (Qt.load (by kernel_rfl) rfl rfl) ?_ | refine LW.q rfl (Qt.load (by kernel_rfl) rfl (map_at _ _ _ (by omega))) ?_ | refine LW.q rfl (Qt.load (by kernel_rfl) rfl (flat_cell0 _ _ _ (by intros; rfl) _ (by omega) (by rfl))) ?_ | refine LW.q rfl (Qt.load (by kernel_rfl) rfl (flat_cell _ _ _ (by intros; rfl) _ _ (by omega) (by rfl))) ?_ | refine LW.q rfl (Qt.load (by kernel_rfl) rfl (bytes_at _ _ (by omega))) ?_
       refine LW.q rfl (Qt.len (e := 36) (sz := 2) (by kernel_rfl) rfl) ?_
       refine LW.q rfl (Qt.geq rfl rfl) ?_
       refine LW.q rfl (Qt.move rfl) ?_
       first | refine LW.gF (t := 78) rfl rfl ?_ | refine LW.gF (t := 78) rfl (decide_eq_false ((by omega))) ?_ | refine LW.gF (t := 78) rfl ((by omega)) ?_
       first | refine LW.q rfl (Qt.load (by kernel_rfl) rfl rfl) ?_ | refine LW.q rfl (Qt.load (by kernel_rfl) rfl (map_at _ _ _ (by omega))) ?_ | refine LW.q rfl (Qt.load (by kernel_rfl) rfl (flat_cell0 _ _ _ (by intros; rfl) _ (by omega) (by rfl))) ?_ | refine LW.q rfl (Qt.load (by kernel_rfl) rfl (flat_cell _ _ _ (by intros; rfl) _ _ (by omega) (by rfl))) ?_ | refine LW.q rfl (Qt.load (by kernel_rfl) rfl (bytes_at _ _ (by omega))) ?_
       first | refine LW.q rfl (Qt.load (by kernel_rfl) rfl rfl) ?_ | refine LW.q rfl (Qt.load (by kernel_rfl) rfl (map_at _ _ _ (by omega))) ?_ | refine LW.q rfl (Qt.load (by kernel_rfl) rfl (flat_cell0 _ _ _ (by intros; rfl) _ (by omega) (by rfl))) ?_ | refine LW.q rfl (Qt.load (by kernel_rfl) rfl (flat_cell _ _ _ (by intros; rfl) _ _ (by omega) (by rfl))) ?_ | refine LW.q rfl (Qt.load (by kernel_rfl) rfl (bytes_at _ _ (by omega))) ?_
       refine LW.q rfl (Qt.index xs.length (e := 36) (sz := 2) (by kernel_rfl) rfl rfl rfl hxl) ?_
       refine LW.q rfl (Qt.fieldAddr0 (by kernel_rfl) rfl) ?_
       refine LW.q rfl (Qt.load (v := kT x.1) (by kernel_rfl) rfl (flat_cell0 kvC 2 L (by intros; rfl) xs.length hxl (by rw [hxe]; rfl))) ?_
       refine LW.q rfl (Qt.move rfl) ?_
       refine LW.q rfl (Qt.neqS rfl rfl) ?_
       refine LW.q rfl (Qt.pick rfl rfl) ?_
       refine LW.q rfl (Qt.move rfl) ?_
       first | refine LW.gF (t := 87) rfl rfl ?_ | refine LW.gF (t := 87) rfl (decide_eq_false ((by simp))) ?_ | refine LW.gF (t := 87) rfl ((by simp)) ?_
       first | refine LW.q rfl (Qt.load (by kernel_rfl) rfl rfl) ?_ | refine LW.q rfl (Qt.load (by kernel_rfl) rfl (map_at _ _ _ (by omega))) ?_ | refine LW.q rfl (Qt.load (by kernel_rfl) rfl (flat_cell0 _ _ _ (by intros; rfl) _ (by omega) (by rfl))) ?_ | refine LW.q rfl (Qt.load (by kernel_rfl) rfl (flat_cell _ _ _ (by intros; rfl) _ _ (by omega) (by rfl))) ?_ | refine LW.q rfl (Qt.load (by kernel_rfl) rfl (bytes_at _ _ (by omega))) ?_
       refine LW.q rfl (Qt.move rfl) ?_
       refine LW.e rfl (Ef.call (Bt.Cut B g na (mofL L xs) x.1 (by omega)) Try.func19 rfl rfl rfl ?_)
       rintro _ _ ⟨rfl, rfl⟩
       try simp only [List.cons_append, List.nil_append]
       first | refine LW.q rfl (Qt.notP rfl) ?_ | refine LW.q rfl (Qt.notB rfl) ?_
       refine LW.q rfl (Qt.pick rfl rfl) ?_
       refine LW.done ?_
       first | refine TI.condF rfl ?_ | refine TI.condPF rfl ((by rw [hms]; rfl)) ?_ | refine TI.condBF rfl ((by rw [hms]; rfl)) ?_
       refine TI.skip ?_
       refine TI.seq ?_
       refine TI.region (by rfl) ?_
       first | refine LW.q rfl (Qt.load (by kernel_rfl) rfl rfl) ?_ | refine LW.q rfl (Qt.load (by kernel_rfl) rfl (map_at _ _ _ (by omega))) ?_ | refine LW.q rfl (Qt.load (by kernel_rfl) rfl (flat_cell0 _ _ _ (by intros; rfl) _ (by omega) (by rfl))) ?_ | refine LW.q rfl (Qt.load (by kernel_rfl) rfl (flat_cell _ _ _ (by intros; rfl) _ _ (by omega) (by rfl))) ?_ | refine LW.q rfl (Qt.load (by kernel_rfl) rfl (bytes_at _ _ (by omega))) ?_
       refine LW.q rfl (Qt.add (r := ((xs.length + 1 : Nat) : Int)) rfl rfl (by rw [wr64 (by omega) (by omega)]; omega)) ?_
       refine LW.e0 rfl (Ef.store1 (by kernel_rfl) rfl rfl rfl (by first | (simp; done) | (simp; omega)) ?_)
       try simp only [List.set_cons_zero, List.set_cons_succ]
       refine LW.done ?_
       refine TI.seq ?_
       refine TI.region (by rfl) ?_
       first | refine LW.q rfl (Qt.load (by kernel_rfl) rfl rfl) ?_ | refine LW.q rfl (Qt.load (by kernel_rfl) rfl (map_at _ _ _ (by omega))) ?_ | refine LW.q rfl (Qt.load (by kernel_rfl) rfl (flat_cell0 _ _ _ (by intros; rfl) _ (by omega) (by rfl))) ?_ | refine LW.q rfl (Qt.load (by kernel_rfl) rfl (flat_cell _ _ _ (by intros; rfl) _ _ (by omega) (by rfl))) ?_ | refine LW.q rfl (Qt.load (by kernel_rfl) rfl (bytes_at _ _ (by omega))) ?_
       refine LW.q rfl (Qt.move rfl) ?_
       refine LW.q rfl (Qt.addS (b := [33]) rfl rfl (by simp; omega)) ?_
       refine LW.e rfl (Ef.call (Bt.put B g na (cutL x.1 (mofL L xs)) (x.1 ++ [33]) 2 (by have := cutL_le (key := x.1) (l := mofL L xs); omega)) Try.func15 rfl rfl rfl ?_)
       rintro _ _ ⟨rfl, rfl⟩
       try simp only [List.cons_append, List.nil_append]
       refine LW.done ?_
       refine TI.seq ?_
       refine TI.region (by rfl) ?_
       first | refine LW.q rfl (Qt.load (by kernel_rfl) rfl rfl) ?_ | refine LW.q rfl (Qt.load (by kernel_rfl) rfl (map_at _ _ _ (by omega))) ?_ | refine LW.q rfl (Qt.load (by kernel_rfl) rfl (flat_cell0 _ _ _ (by intros; rfl) _ (by omega) (by rfl))) ?_ | refine LW.q rfl (Qt.load (by kernel_rfl) rfl (flat_cell _ _ _ (by intros; rfl) _ _ (by omega) (by rfl))) ?_ | refine LW.q rfl (Qt.load (by kernel_rfl) rfl (bytes_at _ _ (by omega))) ?_
       refine LW.q rfl (Qt.eql rfl rfl) ?_
       refine LW.done ?_
       refine TI.condP rfl (fun h5e => ?_) (fun h5e => ?_)
       ·
        refine TI.exit ?_
        refine ⟨rfl, ?_⟩
        try simp only [List.cons_append, List.nil_append]
        exact fun k K => rng_leave (xs := xs) (x := x) (by omega) (Sub.any k K)
       ·
        refine TI.skip ?_
        refine ⟨rfl, ?_⟩
        try simp only [List.cons_append, List.nil_append]
        exact fun k K => rng_next (xs := xs) (x := x) (by omega) (Sub.any k K)
      ·
       rintro D xs hS
       try simp only [List.cons_append, List.nil_append, List.append_nil]
       refine TI.own fun w1 ho1 => ?_
       have h5 : xs.length < 5 := ho1.pu_at (p := xs.length < 5)
       clear ho1
       have hxL : xs = L := by rw [hS, rgL_whole]
       refine TI.seq ?_
       refine TI.region (by rfl) ?_
       first | refine LW.q rfl (Qt.load (by kernel_rfl) rfl rfl) ?_ | refine LW.q rfl (Qt.load (by kernel_rfl) rfl (map_at _ _ _ (by omega))) ?_ | refine LW.q rfl (Qt.load (by kernel_rfl) rfl (flat_cell0 _ _ _ (by intros; rfl) _ (by omega) (by rfl))) ?_ | refine LW.q rfl (Qt.load (by kernel_rfl) rfl (flat_cell _ _ _ (by intros; rfl) _ _ (by omega) (by rfl))) ?_ | refine LW.q rfl (Qt.load (by kernel_rfl) rfl (bytes_at _ _ (by omega))) ?_
       first | refine LW.q rfl (Qt.load (by kernel_rfl) rfl rfl) ?_ | refine LW.q rfl (Qt.load (by kernel_rfl) rfl (map_at _ _ _ (by omega))) ?_ | refine LW.q rfl (Qt.load (by kernel_rfl) rfl (flat_cell0 _ _ _ (by intros; rfl) _ (by omega) (by rfl))) ?_ | refine LW.q rfl (Qt.load (by kernel_rfl) rfl (flat_cell _ _ _ (by intros; rfl) _ _ (by omega) (by rfl))) ?_ | refine LW.q rfl (Qt.load (by kernel_rfl) rfl (bytes_at _ _ (by omega))) ?_
       refine LW.q rfl (Qt.len (e := 36) (sz := 2) (by kernel_rfl) rfl) ?_
       refine LW.q rfl (Qt.min rfl rfl) ?_
       refine LW.q rfl (Qt.eql rfl rfl) ?_
       refine LW.e0 rfl (Ef.store1 (by kernel_rfl) rfl rfl rfl (by first | (simp; done) | (simp; omega)) ?_)
       try simp only [List.set_cons_zero, List.set_cons_succ]
       refine LW.done ?_
       refine TI.ret ?_
       first | exact ⟨.inl rfl, _, .nil, _, _, res [_] rfl ⟨rvC (by kernel_rfl) rfl rfl, trivial⟩, ⟨by rw [hxL] at h5 ⊢; simp [outV]; omega, rfl⟩, Sub.any⟩ | exact ⟨.inl rfl, _, Marks.one, _, _, res [_] rfl ⟨rvC (by kernel_rfl) rfl rfl, trivial⟩, ⟨by rw [hxL] at h5 ⊢; simp [outV]; omega, rfl⟩, Sub.any⟩
      ·
       rintro D cd xs hS
       refine TI.own fun w1 ho1 => ?_
       obtain ⟨rfl, h5⟩ : cd = .exit 4 ∧ xs.length = 5 := by obtain ⟨_, _, _, H⟩ := ho1.has; exact (Has.open_pu H.tail.tail.tail.tail).1
       clear ho1
       simp only [rngX, List.cons_append, List.nil_append]
       refine TI.exit ?_
       have hle : xs.length ≤ L.length := by have := hS.1.length_le; rw [rgL_whole] at this; exact this
       refine TI.seq ?_
       refine TI.region (by rfl) ?_
       first | refine LW.q rfl (Qt.load (by kernel_rfl) rfl rfl) ?_ | refine LW.q rfl (Qt.load (by kernel_rfl) rfl (map_at _ _ _ (by omega))) ?_ | refine LW.q rfl (Qt.load (by kernel_rfl) rfl (flat_cell0 _ _ _ (by intros; rfl) _ (by omega) (by rfl))) ?_ | refine LW.q rfl (Qt.load (by kernel_rfl) rfl (flat_cell _ _ _ (by intros; rfl) _ _ (by omega) (by rfl))) ?_ | refine LW.q rfl (Qt.load (by kernel_rfl) rfl (bytes_at _ _ (by omega))) ?_
       first | refine LW.q rfl (Qt.load (by kernel_rfl) rfl rfl) ?_ | refine LW.q rfl (Qt.load (by kernel_rfl) rfl (map_at _ _ _ (by omega))) ?_ | refine LW.q rfl (Qt.load (by kernel_rfl) rfl (flat_cell0 _ _ _ (by intros; rfl) _ (by omega) (by rfl))) ?_ | refine LW.q rfl (Qt.load (by kernel_rfl) rfl (flat_cell _ _ _ (by intros; rfl) _ _ (by omega) (by rfl))) ?_ | refine LW.q rfl (Qt.load (by kernel_rfl) rfl (bytes_at _ _ (by omega))) ?_
       refine LW.q rfl (Qt.len (e := 36) (sz := 2) (by kernel_rfl) rfl) ?_
       refine LW.q rfl (Qt.min rfl rfl) ?_
       refine LW.q rfl (Qt.eql rfl rfl) ?_
       refine LW.e0 rfl (Ef.store1 (by kernel_rfl) rfl rfl rfl (by first | (simp; done) | (simp; omega)) ?_)
       try simp only [List.set_cons_zero, List.set_cons_succ]
       refine LW.done ?_
       refine TI.ret ?_
       first | exact ⟨.inl rfl, _, .nil, _, _, res [_] rfl ⟨rvC (by kernel_rfl) rfl rfl, trivial⟩, ⟨by rw [h5]; simp [outV]; omega, rfl⟩, Sub.any⟩ | exact ⟨.inl rfl, _, Marks.one, _, _, res [_] rfl ⟨rvC (by kernel_rfl) rfl rfl, trivial⟩, ⟨by rw [h5]; simp [outV]; omega, rfl⟩, Sub.any⟩
 ·
  refine TI.skip ?_
  refine TI.seq ?_
  refine TI.region (by rfl) ?_
  refine LW.q rfl (Qt.move rfl) ?_
  refine LW.e rfl (Ef.call (Bt.newNo B o (by omega)) Try.func14 rfl rfl rfl ?_)
  rintro _ _ ⟨rfl, rfl⟩
  try simp only [List.cons_append, List.nil_append]
  refine LW.q rfl (Qt.move rfl) ?_
  refine LW.q rfl (Qt.extr rfl rfl) ?_
  refine LW.q rfl (Qt.extr rfl rfl) ?_
  refine LW.e rfl (Ef.alloc [.pointer none] (by unfold zeroB; kernel_rfl) ?_)
  intro g7
  refine LW.e0 rfl (Ef.store1 (by kernel_rfl) rfl rfl rfl (by first | (simp; done) | (simp; omega)) ?_)
  try simp only [List.set_cons_zero, List.set_cons_succ]
  refine LW.q rfl (Qt.assign rfl) ?_
  refine LW.done ?_
  refine TI.seq ?_
  refine TI.seq ?_
  refine TI.region (by rfl) ?_
  first | refine LW.q rfl (Qt.load (by kernel_rfl) rfl rfl) ?_ | refine LW.q rfl (Qt.load (by kernel_rfl) rfl (map_at _ _ _ (by omega))) ?_ | refine LW.q rfl (Qt.load (by kernel_rfl) rfl (flat_cell0 _ _ _ (by intros; rfl) _ (by omega) (by rfl))) ?_ | refine LW.q rfl (Qt.load (by kernel_rfl) rfl (flat_cell _ _ _ (by intros; rfl) _ _ (by omega) (by rfl))) ?_ | refine LW.q rfl (Qt.load (by kernel_rfl) rfl (bytes_at _ _ (by omega))) ?_
  first | refine LW.q rfl (Qt.eqlNil (by kernel_rfl) rfl rfl) ?_ | refine LW.q rfl (Qt.eqlNN (by kernel_rfl) rfl rfl) ?_
  refine LW.done ?_
  first | refine TI.condT rfl ?_ | refine TI.condPT rfl (by omega) ?_ | refine TI.condBT rfl (by omega) ?_
  refine TI.seq ?_
  refine TI.region (by rfl) ?_
  refine LW.q rfl (Qt.move rfl) ?_
  refine LW.q rfl (Qt.neq rfl rfl) ?_
  refine LW.e0 rfl (Ef.store1 (by kernel_rfl) rfl rfl rfl (by first | (simp; done) | (simp; omega)) ?_)
  try simp only [List.set_cons_zero, List.set_cons_succ]
  refine LW.done ?_
  refine TI.ret ?_
  first | exact ⟨.inl rfl, _, .nil, _, _, res [_] rfl ⟨rvC (by kernel_rfl) rfl rfl, trivial⟩, ⟨rfl, rfl⟩, Sub.any⟩ | exact ⟨.inl rfl, _, Marks.one, _, _, res [_] rfl ⟨rvC (by kernel_rfl) rfl rfl, trivial⟩, ⟨rfl, rfl⟩, Sub.any⟩
end Go.Proofs.Ytefognjcognknaa

/- The law BtreeRanges of annalslaw09 holds: for all arguments of bulk at most 1048576 the call returns true and the arguments read as before. Condition: the bound of the second form. -/
set_option linter.unusedSimpArgs false
set_option linter.unusedVariables false
namespace Go.Proofs.Ytefognjcognknaa.btreeRanges
open Go.ChangeShapes Go.WideShapes Go.ChangeAt Go.RowKit

set_option maxRecDepth 100000 in
theorem contract (H : Type) (enc : TypeId × Value → H) (W : World) (base : Nat) (args : Array Value) (ds gs : List (DataW H)) (before : List MemPlace)
    (hval : ∀ (j : Nat) t v, Try.f4.params[j]? = some t → args[j]? = some v → Value.okWide Try.prog W .any base t v)
    (hW : DataW.Whole enc Try.prog Try.f4.params.toList Rows.btreeRangesSpec.vars false W args.toList ds gs before) (hk : Rows.uptoSmall H (ds ++ gs) = true) :
    Calls Try.prog 4 args W fun e W' => ∃ v, e = .returned v ∧ Rows.btreeRangesSpec.post enc Try.prog Try.f4 false true false false W args v W' := by
  have hW0 := hW
  obtain ⟨p, q, hA0, hV, rfl, hfz, hnd⟩ := hW
  have hA : DataW.TrodAll enc Try.prog W 0 (fun _ => true) true Try.f4.params.toList args.toList ds p := hA0
  rw [Try.params4] at hA hval
  obtain ⟨v0, v1, v2, d0, d1, d2, p0, p1, p2, rfl, rfl, rfl, h0, h1, h2⟩ := trodAll_three hA
  obtain ⟨rfl, rfl⟩ := trodVars_none hV
  have hbulk := Try.upto_bound hk
  rw [List.append_nil] at hbulk
  clear hA0 hV hk
  obtain ⟨a0, rfl, rfl, rfl, wf0⟩ := open_int Try.underlying3 (hval 0 3 v0 rfl rfl) h0
  obtain ⟨sa1, sl1, sc1, rfl⟩ := okWide_slice Try.underlying22 (hval 1 22 v1 rfl rfl)
  obtain ⟨fu1, t1⟩ := h1
  obtain ⟨sv1, l1, hc1, hs1, hB1, hL1⟩ := open_slice_R (enc := enc) (P := Try.prog) (W := W) (R := fun cs (a : List UInt8) => cs = [.string (strOf a)]) (B := fun d => d.length + 1) Try.underlying22 (show Try.prog.cellsOf 9 = 1 by kernel_rfl) (by omega) (fun n cs y => read_str Try.underlying9 n cs y) t1
  simp only [Value.cells, List.cons.injEq, and_true] at hc1
  subst hc1
  dsimp only at hB1 hL1
  obtain ⟨fp1, hR1, _⟩ := hs1.reads (fun a : List UInt8 => Value.string (strOf a)) (fun cs a h => h)
  obtain ⟨st2, rfl, rfl, rfl, hst2⟩ := Go.ChangeMaps.open_string Try.underlying9 (hval 2 9 v2 rfl rfl) h2
  rw [bulk_three] at hbulk
  have hlen := len_le_sum List.length l1

  refine (Fn.law (Bu.ranges _ a0 _ l1 st2.data.toList (RoS.ofReads hR1) (by omega) (fun k hk => by have := mem_le_sum (fun d : List UInt8 => d.length + 1) hk; omega))).mono fun e W' ⟨he, hg⟩ => ?_
  subst he
  exact ⟨_, rfl, post_law Try.laidOut hW0 rfl rfl 4 Try.underlying4 (by kernel_rfl) (by rw [Try.params4]; decide +kernel) hg.toBelow⟩

set_option maxRecDepth 100000 in
theorem lifted (os : Os) (started : os.Started) (H : Type) (enc : TypeId × Value → H) (F : Stop.Interp) :
    ReturnsInHanded {} Try.checked os 4 .any ((Rows.OpenSpec.upto Rows.btreeRangesSpec).pre6 enc Try.prog Try.f4 Rows.btreeRangesUptoRow.domain false) (((Rows.OpenSpec.upto Rows.btreeRangesSpec).at F).post enc Try.prog Try.f4 false true false false) := by
  refine returnsInHanded_of_cond (C := Try.checked) (s := Rows.OpenSpec.upto Rows.btreeRangesSpec) (k := Rows.uptoSmall) rfl Try.own started (by kernel_rfl) Try.func4
    (OpenSpec.witness (enc := enc) (C := Try.checked) (s := Rows.OpenSpec.upto Rows.btreeRangesSpec) (k := Rows.uptoSmall) rfl false ⟨#[], #[.int .i64 0, .slice none 0 0, .string .empty], []⟩ 8 (by kernel_rfl) (by kernel_rfl) (by kernel_rfl)
      (x := ([.lit (.int .i64 0), .nil, .lit (.string [])], [], [])) (by kernel_rfl) rfl (by kernel_rfl)) ?_
  intro W base args ds gs before hval hW _ hk _
  exact contract H enc W base args ds gs before hval hW hk

theorem over : Rows.btreeRangesUptoRow.holds Try.pinned (Rows.OpenSpec.upto Rows.btreeRangesSpec) :=
  OpenClaim.holds_of_cond 4 Try.f4 rfl rfl rfl rfl rfl rfl rfl ⟨rfl, rfl, rfl, rfl, rfl⟩ rfl rfl rfl rfl rfl (by kernel_rfl) Try.func4 (by kernel_rfl)
    (of_decide_eq_true (by kernel_rfl)) (by unfold Func.isWrapper; first | (rw [if_pos (by decide +kernel)]; kernel_rfl) | (rw [if_neg (by decide +kernel)]; exact ⟨rfl, rfl⟩))
    (fun os started H enc _ F => lifted os started H enc F)

theorem proved : Rows.BtreeRangesUptoSaid := over
end Go.Proofs.Ytefognjcognknaa.btreeRanges
