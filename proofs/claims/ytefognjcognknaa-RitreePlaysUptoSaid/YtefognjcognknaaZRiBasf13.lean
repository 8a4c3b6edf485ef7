/- The texts BuB BuC RiH BuD, one behind the other: what the law leans on. Conditions: as each theorem says. -/
import Derived.Test.YtefognjcognknaaZRiBasf12
import Derived.Laws.StructEq
/- btree's laws: pairs. Conditions: sizes. -/
set_option linter.unusedSimpArgs false
set_option linter.unusedVariables false
namespace Go.Proofs.Ytefognjcognknaa
open Go.RowKit
abbrev kvA (p : KV) : Value := .agg (kvC p).toArray
theorem KV.eq_bool (a b : KV) : decide (a = b) = ((a.1 == b.1) && (a.2 == b.2)) := by
  cases a; cases b
  rw [Bool.eq_iff_iff]
  simp
section
variable {B : Base} {n : Nat} {S l r : List Assn} {f : Fr}
variable {d : Option Tmp} {ty : TypeId} {pos : String} {af : Array Edge} {gd : Option (Nat × Bool)}
theorem run_eqKV (w : World) (a b : KV) : (Op.equalIn 10000 36 (kvA a) (kvA b)).run Try.prog w = .ok (decide (a = b)) w := by
  rw [run_equalIn_struct w 9999 36 _ _ (by kernel_rfl) (by kernel_rfl)]
  rw [KV.eq_bool]
  have h0 : Try.prog.underlying 9 = some .string := by kernel_rfl
  have h1 : Try.prog.underlying 2 = some (.int .i64) := by kernel_rfl
  have e : (Try.prog.fieldsOf 36).toList.map (fun f => (f.type, f.offset, decide (f.name ≠ "_"))) = [(9, 0, true), (2, 1, true)] := by kernel_rfl
  generalize (Try.prog.fieldsOf 36).toList = L at e ⊢
  obtain ⟨f0, f1, rfl⟩ : ∃ f0 f1, L = [f0, f1] := by
    have hlen : L.length = 2 := by have := congrArg List.length e; simpa using this
    match L, hlen with
    | [a, b], _ => exact ⟨a, b, rfl⟩
  · skip
    simp only [List.map_cons, List.map_nil, List.cons.injEq, Prod.mk.injEq, and_true, decide_eq_true_eq] at e
    obtain ⟨⟨a0, a1, a2⟩, ⟨b0, b1, b2⟩⟩ := e
    have p0 : ∀ v : KV, (part 9 (kvC v).toArray 0).run Try.prog w = .ok (kT v.1) w := fun v => by simp [part, isAgg, run_underlying h0]
    have p1 : ∀ v : KV, (part 2 (kvC v).toArray 1).run Try.prog w = .ok (iV v.2) w := fun v => by simp [part, isAgg, run_underlying h1]
    simp only [Op.eqFields, a0, a1, b0, b1, a2, b2, if_true, ne_eq, not_false_eq_true, Sem.run_bind, p0, p1, Result.andThen_ok]
    rw [run_equalIn_string w 9998 _ _ _ h0]
    simp only [Result.andThen_ok, strOf_toList]
    cases (a.1 == b.1)
    · simp
    · simp only [Bool.not_true, Bool.false_eq_true, if_false, Sem.run_bind, p1, Result.andThen_ok]
      rw [run_equalIn_int w 9998 _ _ _ _ _ h1]
      simp only [Result.andThen_ok]
      cases (a.2 == b.2) <;> simp
theorem Qt.neqKV {t2 : TypeId} {x y : Operand} (a b : KV) (hx : ev n f x = some (kvA a)) (hy : ev n f y = some (kvA b)) : Qt Try.prog B n S ⟨d, .binOp .neq 36 x y t2, ty, pos, af, gd⟩ f (.bool (decide (¬ a = b))) := ⟨fun w _ => by
  have hg := run_eqGuard_agg (P := Try.prog) w .neq 36 x y (kvC a).toArray (kvC b).toArray (by kernel_rfl)
  have hr := run_neq_struct (P := Try.prog) w 36 (kvC a).toArray (kvC b).toArray
  have hE := run_eqKV w a b
  simp only [execOp, evu_eq hx, evu_eq hy, Sem.run_bind, hg, hr, hE, Result.andThen_ok, Sem.run_pure]
  simp⟩
end
theorem eq_upto {α : Type} {a b : List α} (hl : a.length = b.length) (h : ∀ i, i < a.length → a[i]? = b[i]?) : a = b := by
  apply List.ext_getElem? 
  intro i
  rcases Nat.lt_or_ge i a.length with hi | hi
  · exact h i hi
  · rw [List.getElem?_eq_none hi, List.getElem?_eq_none (by omega)]
set_option maxHeartbeats 2000000 in
theorem Bu.pairs (B : Base) (p q : Option Addr) (c c' : Nat) (La Lb : List KV) (hb : La.length < 2 ^ 40) (hb2 : Lb.length < 2 ^ 40) : Fn Try.prog B 16 #[.slice p La.length c, .slice q Lb.length c'] [rowP p c La, rowP q c' Lb] (fun u l => u = .bool (decide (La = Lb)) ∧ l = [rowP p c La, rowP q c' Lb]) := by
 refine Fn.enter2 26 Try.func16 rfl rfl (Nat.le_of_ble_eq_true rfl) (fun F => ?_)
 try simp only [List.cons_append, List.nil_append]
 refine T.seq ?_
 refine T.region ?_
 refine LW.q rfl (Qt.assign rfl) ?_
 refine LW.done ?_
 refine T.seq ?_
 refine T.seq ?_
 refine T.region ?_
 refine LW.q rfl (Qt.move rfl) ?_
 refine LW.q rfl (Qt.len (e := 36) (sz := 2) (by kernel_rfl) rfl) ?_
 refine LW.q rfl (Qt.move rfl) ?_
 refine LW.q rfl (Qt.len (e := 36) (sz := 2) (by kernel_rfl) rfl) ?_
 refine LW.q rfl (Qt.neq rfl rfl) ?_
 refine LW.done ?_
 refine T.condP rfl (fun hne => ?_) (fun hne => ?_)
 ·
  refine T.seq ?_
  refine T.region ?_
  refine LW.q rfl (Qt.assign rfl) ?_
  refine LW.done ?_
  refine T.ret ?_
  exact ⟨.inl rfl, _, _, res [_] rfl ⟨rvT rfl, trivial⟩, ⟨by rw [decide_eq_false (fun e => hne (by rw [e]))]; rfl, rfl⟩, Sub.any⟩
 ·
  have hll : La.length = Lb.length := by omega
  refine T.own fun w0 ho0 => ?_
  have hp := (ho0.slice_at (p := p) (m := La.length) (c := c) (k := La.length)).2.1
  have hq := (ho0.slice_at (p := q) (m := Lb.length) (c := c') (k := Lb.length)).2.1
  clear ho0
  refine T.skip ?_
  refine T.seq ?_
  refine T.seq ?_
  refine T.region ?_
  refine LW.q rfl (Qt.move rfl) ?_
  refine LW.q rfl (Qt.len (e := 36) (sz := 2) (by kernel_rfl) rfl) ?_
  refine LW.q rfl (Qt.move rfl) ?_
  refine LW.done ?_
  refine T.block ?_
  refine T.loop (fun mz fz lz => ∃ (f0 : Fr) (i : Nat), (i ≤ La.length ∧ ∀ j, j < i → La[j]? = Lb[j]?) ∧ mz = La.length - i ∧ fz = (upd (upd (upd (upd f0 0 (.slice p La.length c)) 1 (.slice q Lb.length c')) 12 (.int .i64 La.length)) 13 (.int .i64 i)) ∧ lz = rowP p c La :: rowP q c' Lb :: F) ?_ ?_
  · refine ⟨_, _, ⟨_, 0, ⟨Nat.zero_le _, fun _ h => absurd h (Nat.not_lt_zero _)⟩, rfl, (updS rfl (updS rfl (updS rfl (updS rfl rfl)))), rfl⟩, Sub.any⟩
  ·
   rintro mz fz lz ⟨f0, i, ⟨hi, heq⟩, hmz, rfl, rfl⟩
   subst mz
   try simp only [List.cons_append, List.nil_append]
   refine T.seq ?_
   refine T.region ?_
   refine LW.q rfl (Qt.lss rfl rfl) ?_
   refine LW.done ?_
   refine T.seq ?_
   refine T.condP rfl (fun hlt => ?_) (fun hlt => ?_)
   ·
    have hlt' : i < La.length := by omega
    obtain ⟨gp, rfl⟩ := hp (by omega)
    obtain ⟨gq, rfl⟩ := hq (by omega)
    refine T.skip ?_
    refine T.seq ?_
    refine T.block ?_
    refine T.seq ?_
    refine T.region ?_
    refine LW.q rfl (Qt.move rfl) ?_
    refine LW.q rfl (Qt.assign rfl) ?_
    refine LW.done ?_
    refine T.seq ?_
    refine T.drawAll 9 (by kernel_rfl) (Nat.le_of_ble_eq_true rfl) (by kernel_rfl) ?_
    refine RW.q 0 rfl rfl (by kernel_rfl) (Sub.refl _) (Qt.move rfl) ?_
    refine RW.q 1 rfl rfl (by kernel_rfl) (Sub.refl _) (Qt.move rfl) ?_
    refine RW.q 2 rfl rfl (by kernel_rfl) (Sub.refl _) (Qt.index _ (e := 36) (sz := 2) (by kernel_rfl) rfl rfl rfl (by omega)) ?_
    refine RW.q 3 rfl rfl (by kernel_rfl) (Sub.refl _) (Qt.loadAgg (kvC La[i]) (by kernel_rfl) rfl (rdl_flat kvC 2 La (by intros; rfl) i hlt')) ?_
    refine RW.q 4 rfl rfl (by kernel_rfl) (Sub.refl _) (Qt.move rfl) ?_
    refine RW.q 5 rfl rfl (by kernel_rfl) (Sub.refl _) (Qt.move rfl) ?_
    refine RW.q 6 rfl rfl (by kernel_rfl) (Sub.refl _) (Qt.index _ (e := 36) (sz := 2) (by kernel_rfl) rfl rfl rfl (by omega)) ?_
    refine RW.q 7 rfl rfl (by kernel_rfl) (Sub.refl _) (Qt.loadAgg (kvC (Lb[i]'(by omega))) (by kernel_rfl) rfl (rdl_flat kvC 2 Lb (by intros; rfl) i (by omega))) ?_
    refine RW.q 8 rfl rfl (by kernel_rfl) (Sub.refl _) (Qt.neqKV La[i] (Lb[i]'(by omega)) rfl rfl) ?_
    refine RW.done (by rfl) ?_
    simp only [List.drop_succ_cons, List.drop_zero, List.drop_nil]
    refine LW.done ?_
    refine T.condP rfl (fun hd => ?_) (fun hd => ?_)
    ·
     refine T.seq ?_
     refine T.region ?_
     refine LW.q rfl (Qt.assign rfl) ?_
     refine LW.done ?_
     refine T.ret ?_
     exact ⟨.inl rfl, _, _, res [_] rfl ⟨rvT rfl, trivial⟩, ⟨by rw [decide_eq_false (fun e => hd (by subst e; rfl))]; rfl, rfl⟩, Sub.any⟩
    ·
     refine T.skip ?_
     refine T.region ?_
     refine LW.q rfl (Qt.add rfl rfl (wr64 (by omega) (by omega))) ?_
     refine LW.q rfl (Qt.move rfl) ?_
     refine LW.done ?_
     refine ⟨_, ?_, _, ⟨_, i + 1, ⟨hlt', fun j hj => by rcases Nat.lt_or_ge j i with h | h; exact heq j h; have hji : j = i := (by omega); subst hji; rw [List.getElem?_eq_getElem hlt', List.getElem?_eq_getElem (by omega), Decidable.not_not.1 hd]⟩, rfl, (updS rfl (updS rfl (updS rfl (updS rfl rfl)))), rfl⟩, Sub.any⟩
     first | omega | (simp; omega)
   ·
    have hie : i = La.length := by omega
    refine T.exit ?_
    refine T.seq ?_
    refine T.region ?_
    refine LW.q rfl (Qt.assign rfl) ?_
    refine LW.done ?_
    refine T.ret ?_
    exact ⟨.inl rfl, _, _, res [_] rfl ⟨rvT rfl, trivial⟩, ⟨by rw [decide_eq_true (eq_upto hll (by rw [← hie]; exact heq))]; rfl, rfl⟩, Sub.any⟩
end Go.Proofs.Ytefognjcognknaa

/- btree's laws: Len and Get over a tree; awake. Conditions: sizes. -/
set_option linter.unusedSimpArgs false
set_option linter.unusedVariables false
namespace Go.Proofs.Ytefognjcognknaa
open Go.RowKit
theorem Bt.Len (B : Base) (g o : Nat) (L : List KV) : Fn Try.prog B 18 #[pV g] [btA g o L] (fun u l => u = .int .i64 L.length ∧ l = [btA g o L]) := by
  refine Fn.bt fun H t hok hL hu ho ho2 => ?_
  refine Fn.conv (F' := [treeA H t]) (Bt.len B g o (LT.nd H t).p L.length) (fun k K => K) ?_
  rintro v l ⟨rfl, rfl⟩
  exact ⟨_, fun k K => Has.bt_in (m := []) hok hL hu ho ho2 K, rfl, rfl⟩
theorem Bt.Get (B : Base) (g o : Nat) (L : List KV) (key : Str) (hb : L.length < 2 ^ 39) : Fn Try.prog B 25 #[pV g, kT key] [btA g o L] (fun u l => u = .tuple #[iV ((getL L key).getD 0), .bool (getL L key).isSome] ∧ l = [btA g o L]) := by
  refine Fn.bt fun H t hok hL hu ho ho2 => ?_
  refine Fn.conv (F' := []) (Bt.get B g o L.length H t key hok (by rw [hL]; exact hu) (by rw [hL]; omega)) (fun k K => K) ?_
  rintro v l ⟨rfl, rfl⟩
  exact ⟨_, fun k K => Has.bt_in (m := []) hok hL hu ho ho2 K, by rw [hL], rfl⟩
set_option maxHeartbeats 2000000 in
theorem Bu.awake (B : Base) : Fn Try.prog B 13 #[] [] (fun u l => u = .bool true ∧ l = []) := by
  refine Fn.enter0 74 Try.func13 rfl rfl (Nat.le_of_ble_eq_true rfl) (fun F => ?_)
  try simp only [List.cons_append, List.nil_append]
  refine T.seq ?_
  refine T.region ?_
  refine LW.q rfl (Qt.assign rfl) ?_
  refine LW.done ?_
  refine T.seq ?_
  refine T.region ?_
  refine LW.e rfl (Ef.call (Bt.newOk B 2 (by decide) (by decide)) Try.func14 rfl rfl rfl ?_)
  rintro _ _ ⟨g, rfl, rfl⟩
  try simp only [List.cons_append, List.nil_append]
  refine LW.q rfl (Qt.move rfl) ?_
  refine LW.q rfl (Qt.extr rfl rfl) ?_
  refine LW.q rfl (Qt.extr rfl rfl) ?_
  refine LW.q rfl (Qt.assign rfl) ?_
  refine LW.q rfl (Qt.assign rfl) ?_
  refine LW.done ?_
  refine T.seq ?_
  refine T.seq ?_
  refine T.region ?_
  refine LW.q rfl (Qt.move rfl) ?_
  first | refine LW.q rfl (Qt.eqlNil (by kernel_rfl) rfl rfl) ?_ | refine LW.q rfl (Qt.eqlNN (by kernel_rfl) rfl rfl) ?_
  refine LW.q rfl (Qt.move rfl) ?_
  first | refine LW.gF (t := 12) rfl rfl ?_ | refine LW.gF (t := 12) rfl (decide_eq_false (by omega)) ?_ | refine LW.gF (t := 12) rfl (by omega) ?_
  refine LW.q rfl (Qt.move rfl) ?_
  refine LW.q rfl (Qt.neq rfl rfl) ?_
  refine LW.q rfl (Qt.pick rfl rfl) ?_
  refine LW.q rfl (Qt.move rfl) ?_
  first | refine LW.gF (t := 16) rfl rfl ?_ | refine LW.gF (t := 16) rfl (decide_eq_false (by omega)) ?_ | refine LW.gF (t := 16) rfl (by omega) ?_
  refine LW.q rfl (Qt.move rfl) ?_
  refine LW.e rfl (Ef.call (Bt.put B g 2 [] [98] 2 (by decide)) Try.func15 rfl rfl rfl ?_)
  rintro _ _ ⟨rfl, rfl⟩
  try simp only [List.cons_append, List.nil_append]
  rw [show putL [98] 2 [] = [([98], 2)] from rfl]
  refine LW.q rfl (Qt.pick rfl rfl) ?_
  refine LW.q rfl (Qt.move rfl) ?_
  first | refine LW.gF (t := 20) rfl rfl ?_ | refine LW.gF (t := 20) rfl (decide_eq_false (by omega)) ?_ | refine LW.gF (t := 20) rfl (by omega) ?_
  refine LW.q rfl (Qt.move rfl) ?_
  refine LW.e rfl (Ef.call (Bt.put B g 2 [([98], 2)] [97] 1 (by decide)) Try.func15 rfl rfl rfl ?_)
  rintro _ _ ⟨rfl, rfl⟩
  try simp only [List.cons_append, List.nil_append]
  rw [show putL [97] 1 [([98], 2)] = [([97], 1), ([98], 2)] from rfl]
  refine LW.q rfl (Qt.pick rfl rfl) ?_
  refine LW.q rfl (Qt.move rfl) ?_
  first | refine LW.gF (t := 24) rfl rfl ?_ | refine LW.gF (t := 24) rfl (decide_eq_false (by omega)) ?_ | refine LW.gF (t := 24) rfl (by omega) ?_
  refine LW.q rfl (Qt.move rfl) ?_
  refine LW.e rfl (Ef.call (Bt.put B g 2 [([97], 1), ([98], 2)] [98] 3 (by decide)) Try.func15 rfl rfl rfl ?_)
  rintro _ _ ⟨rfl, rfl⟩
  try simp only [List.cons_append, List.nil_append]
  rw [show putL [98] 3 [([97], 1), ([98], 2)] = [([97], 1), ([98], 3)] from rfl]
  first | refine LW.q rfl (Qt.notP rfl) ?_ | refine LW.q rfl (Qt.notB rfl) ?_
  refine LW.q rfl (Qt.pick rfl rfl) ?_
  refine LW.q rfl (Qt.move rfl) ?_
  first | refine LW.gF (t := 29) rfl rfl ?_ | refine LW.gF (t := 29) rfl (decide_eq_false (by omega)) ?_ | refine LW.gF (t := 29) rfl (by omega) ?_
  refine LW.q rfl (Qt.move rfl) ?_
  refine LW.e rfl (Ef.call (Bt.Len B g 2 [([97], 1), ([98], 3)]) Try.func18 rfl rfl rfl ?_)
  rintro _ _ ⟨rfl, rfl⟩
  try simp only [List.cons_append, List.nil_append]
  refine LW.q rfl (Qt.neq rfl rfl) ?_
  refine LW.q rfl (Qt.pick rfl rfl) ?_
  refine LW.done ?_
  first | refine T.condF rfl ?_ | refine T.condPF rfl ((by decide)) ?_ | refine T.condBF rfl ((by decide)) ?_
  refine T.skip ?_
  refine T.seq ?_
  refine T.region ?_
  refine LW.q rfl (Qt.move rfl) ?_
  refine LW.e rfl (Ef.call (Bt.Get B g 2 [([97], 1), ([98], 3)] [98] (by decide)) Try.func25 rfl rfl rfl ?_)
  rintro _ _ ⟨rfl, rfl⟩
  try simp only [List.cons_append, List.nil_append]
  refine LW.q rfl (Qt.move rfl) ?_
  refine LW.q rfl (Qt.extr rfl rfl) ?_
  refine LW.q rfl (Qt.extr rfl rfl) ?_
  refine LW.q rfl (Qt.assign rfl) ?_
  refine LW.q rfl (Qt.assign rfl) ?_
  refine LW.done ?_
  refine T.seq ?_
  refine T.region ?_
  refine LW.q rfl (Qt.move rfl) ?_
  refine LW.e rfl (Ef.call (Bu.listed B g 2 [] [] [([97], 1), ([98], 3)] (by decide)) Try.func17 rfl rfl rfl ?_)
  rintro _ _ ⟨p, c, rfl, rfl⟩
  try simp only [List.cons_append, List.nil_append]
  rw [show rgL [] [] [([97], 1), ([98], 3)] = [([97], 1), ([98], 3)] from rfl]
  refine LW.q rfl (Qt.assign rfl) ?_
  refine LW.done ?_
  refine T.seq ?_
  refine T.region ?_
  refine LW.q rfl (Qt.move rfl) ?_
  refine LW.q rfl (Qt.eql rfl rfl) ?_
  refine LW.q rfl (Qt.move rfl) ?_
  refine LW.own fun w0 ho0 => ?_
  obtain ⟨gp, rfl⟩ := (ho0.slice_at (p := p) (m := [([97], 1), ([98], 3)].length) (c := c) (k := [([97], 1), ([98], 3)].length)).2.1 (by decide)
  clear ho0
  first | refine LW.gT (t := 43) rfl rfl ?_ | refine LW.gT (t := 43) rfl (decide_eq_true ((by decide))) ?_ | refine LW.gT (t := 43) rfl ((by decide)) ?_
  refine LW.q rfl (Qt.move rfl) ?_
  refine LW.q rfl (Qt.pick rfl rfl) ?_
  refine LW.q rfl (Qt.move rfl) ?_
  first | refine LW.gT (t := 46) rfl rfl ?_ | refine LW.gT (t := 46) rfl (decide_eq_true ((by decide))) ?_ | refine LW.gT (t := 46) rfl ((by decide)) ?_
  refine LW.q rfl (Qt.move rfl) ?_
  refine LW.q rfl (Qt.len (e := 36) (sz := 2) (by kernel_rfl) rfl) ?_
  refine LW.q rfl (Qt.eql rfl rfl) ?_
  refine LW.q rfl (Qt.pick rfl rfl) ?_
  refine LW.q rfl (Qt.move rfl) ?_
  first | refine LW.gT (t := 51) rfl rfl ?_ | refine LW.gT (t := 51) rfl (decide_eq_true ((by decide))) ?_ | refine LW.gT (t := 51) rfl ((by decide)) ?_
  refine LW.q rfl (Qt.move rfl) ?_
  refine LW.q rfl (Qt.index 0 (e := 36) (sz := 2) (by kernel_rfl) rfl rfl rfl (by decide)) ?_
  refine LW.q rfl (Qt.fieldAddr0 (by kernel_rfl) rfl) ?_
  first | refine LW.q rfl (Qt.load (by kernel_rfl) rfl rfl) ?_ | refine LW.q rfl (Qt.load (by kernel_rfl) rfl (map_at _ _ _ (by omega))) ?_ | refine LW.q rfl (Qt.load (by kernel_rfl) rfl (flat_cell0 _ _ _ (by intros; rfl) _ (by omega) (by rfl))) ?_ | refine LW.q rfl (Qt.load (by kernel_rfl) rfl (flat_cell _ _ _ (by intros; rfl) _ _ (by omega) (by rfl))) ?_ | refine LW.q rfl (Qt.load (by kernel_rfl) rfl (bytes_at _ _ (by omega))) ?_
  refine LW.q rfl (Qt.eqlS rfl rfl) ?_
  refine LW.q rfl (Qt.pick rfl rfl) ?_
  refine LW.q rfl (Qt.move rfl) ?_
  first | refine LW.gT (t := 58) rfl rfl ?_ | refine LW.gT (t := 58) rfl (decide_eq_true ((by decide))) ?_ | refine LW.gT (t := 58) rfl ((by decide)) ?_
  refine LW.q rfl (Qt.move rfl) ?_
  refine LW.e rfl (Ef.call (Bt.Cut B g 2 [([97], 1), ([98], 3)] [97] (by decide)) Try.func19 rfl rfl rfl ?_)
  rintro _ _ ⟨rfl, rfl⟩
  try simp only [List.cons_append, List.nil_append]
  rw [show cutL [97] [([97], 1), ([98], 3)] = [([98], 3)] from rfl]
  refine LW.q rfl (Qt.pick rfl rfl) ?_
  refine LW.q rfl (Qt.move rfl) ?_
  first | refine LW.gT (t := 62) rfl rfl ?_ | refine LW.gT (t := 62) rfl (decide_eq_true (by omega)) ?_ | refine LW.gT (t := 62) rfl (by omega) ?_
  refine LW.q rfl (Qt.move rfl) ?_
  refine LW.e rfl (Ef.call (Bt.Cut B g 2 [([98], 3)] [97] (by decide)) Try.func19 rfl rfl rfl ?_)
  rintro _ _ ⟨rfl, rfl⟩
  try simp only [List.cons_append, List.nil_append]
  rw [show cutL [97] [([98], 3)] = [([98], 3)] from rfl]
  first | refine LW.q rfl (Qt.notP rfl) ?_ | refine LW.q rfl (Qt.notB rfl) ?_
  refine LW.q rfl (Qt.pick rfl rfl) ?_
  refine LW.q rfl (Qt.move rfl) ?_
  first | refine LW.gT (t := 67) rfl rfl ?_ | refine LW.gT (t := 67) rfl (decide_eq_true (by omega)) ?_ | refine LW.gT (t := 67) rfl (by omega) ?_
  refine LW.q rfl (Qt.move rfl) ?_
  refine LW.e rfl (Ef.call (Bt.Len B g 2 [([98], 3)]) Try.func18 rfl rfl rfl ?_)
  rintro _ _ ⟨rfl, rfl⟩
  try simp only [List.cons_append, List.nil_append]
  refine LW.q rfl (Qt.eql rfl rfl) ?_
  refine LW.q rfl (Qt.pick rfl rfl) ?_
  refine LW.q rfl (Qt.move rfl) ?_
  refine LW.q rfl (Qt.pick rfl rfl) ?_
  refine LW.q rfl (Qt.assign rfl) ?_
  refine LW.done ?_
  refine T.ret ?_
  exact ⟨.inl rfl, _, _, res [_] rfl ⟨rvT rfl, trivial⟩, ⟨rfl, rfl⟩, Sub.any⟩
end Go.Proofs.Ytefognjcognknaa

/- Closures called; ritree's take: what a range of a tree adds. Conditions: sizes. -/
set_option linter.unusedSimpArgs false
set_option linter.unusedVariables false
namespace Go.Proofs.Ytefognjcognknaa
open Go.RowKit
section
variable {P : Program} {B : Base} {n : Nat} {S l r : List Assn} {f : Fr}
variable {ty : TypeId} {pos : String} {af : Array Edge} {gd : Option (Nat × Bool)}
theorem Ef.callC {d : Option Tmp} {x : Operand} {g : FuncId} {fn : Func} {args : Array Operand} {ats : Array TypeId} {pre F : List Assn} {R : Value → List Assn → Prop} {K : Value → List Assn → Prop} (vs cap : List Value) (hc : Fn P B g (vs ++ cap).toArray pre R) (hf : P.funcs[g]? = some fn) (hn : (fn.name == "runtime.NumGoroutine") = false) (hb : fn.body.isNone = false)
    (hx : ev n f x = some (.func (.func g) #[] cap.toArray)) (ha : args.toList.map (ev n f) = vs.map some) (hne : (match x with | .func _ => false | _ => true) = true) [k : TakeL pre l F] (h : ∀ v l', R v l' → K v (l' ++ F)) : Ef P B n ⟨d, .call ⟨.value x, args, ats⟩, ty, pos, af, gd⟩ f l K := ⟨fun w next Q ho hk => by
  have hav : args.map (evu n f) = vs.toArray := by
    have : args.toList.map (evu n f) = vs := by
      have e := congrArg (List.map (fun o : Option Value => o.getD undef)) ha
      have e2 : (fun x => evu n f x) = evu n f := rfl
      simp only [List.map_map, Function.comp_def, Option.getD_some, List.map_id'] at e
      exact e
    rw [← Array.toList_inj, Array.toList_map]
    simpa using this
  have h0 := hc.run w F ho.takeL
  unfold Oper.wp execOp
  rw [eval_act']
  have he : ((do let c ← resolve (evu n f) ⟨.value x, args, ats⟩ ty; invoke c.target c.args) : Sem Next).run P w = .ok (.enter g (vs ++ cap).toArray) w := by
    simp only [resolve, hav]
    have hn' : ¬ fn.name = "runtime.NumGoroutine" := by simpa using hn
    have hb' : ¬ fn.body = none := fun e => by rw [e] at hb; cases hb
    simp [evu_eq hx, Deferred.ofValue, invoke, callFunc, hf, hn', hb']
  rw [he]
  show Calls P g (vs ++ cap).toArray w _
  refine Calls.mono h0 ?_
  rintro e w' ⟨v, l', rfl, hR, ho'⟩
  exact hk v w' _ (h v l' hR) ho'⟩
end
def outZ (g : Nat) (xs : List Int) : Assn := exA fun (pc : Option Addr × Nat) => sepL [blk g [.slice pc.1 xs.length pc.2] 62, rZ pc.1 xs.length pc.2 xs]
theorem outZ_ex {B : Base} {g : Nat} {xs : List Int} {l : List Assn} (w : World) (ho : Own B w (outZ g xs :: l)) : ∃ pc : Option Addr × Nat, Own B w (blk g [.slice pc.1 xs.length pc.2] 62 :: rZ pc.1 xs.length pc.2 xs :: l) := by
  obtain ⟨h, a, b, H⟩ := ho.has
  obtain ⟨pc, H1⟩ := Has.open_ex H
  exact ⟨pc, ho.os, ho.tape, ho.output, ho.ro, h, a, b, Has.open_sepL H1⟩
theorem outZ_in {g : Nat} {xs : List Int} {p : Option Addr} {c : Nat} {l : List Assn} {k : Piece} (H : Has (blk g [.slice p xs.length c] 62 :: rZ p xs.length c xs :: l) k) : Has (outZ g xs :: l) k := Has.close_ex (p, c) (Has.close_sepL (l := [blk g [.slice p xs.length c] 62, rZ p xs.length c xs]) H)
/-- What is found before, and the values of pairs. -/
abbrev outW (ys : List Int) (xs : List KV) : List Int := ys ++ xs.map (·.2)
theorem take_start {g9 g o : Nat} {g1 g2 g3 : Nat} {f t : Str} {L : List KV} {ys : List Int} {F : List Assn} {k : Piece} (K : Has (blk g1 [pV g] 24 :: blk g2 [kT f] 9 :: blk g3 [kT t] 9 :: btA g o L :: outZ g9 ys :: F) k) : Has (rgB g1 g2 g3 g f t ++ [btA g o L, outZ g9 (outW ys [])] ++ F) k := by
  have e : outW ys [] = ys := by simp [outW]
  rw [e]
  exact K
theorem take_round {g9 g o : Nat} {ys : List Int} {xs : List KV} {x : KV} {L : List KV} {p : Option Addr} {c : Nat} {F : List Assn} {k : Piece} (K : Has (blk g9 [.slice p ((outW ys xs).length + 1) c] 62 :: row (.slice p ((outW ys xs).length + 1) c) 2 1 ((outW ys xs).length + 1) ((outW ys xs).map iV ++ [iV x.2]) :: btA g o L :: F) k) : Has (btA g o L :: outZ g9 (outW ys (xs ++ [x])) :: F) k := by
  have e : (outW ys xs).map iV ++ [iV x.2] = (outW ys (xs ++ [x])).map iV := by simp [outW]
  have e2 : (outW ys xs).length + 1 = (outW ys (xs ++ [x])).length := by simp [outW]; omega
  rw [e, e2] at K
  exact Has.swap (outZ_in K)
set_option maxHeartbeats 2000000 in
theorem Ri.take (B : Base) (g o g9 : Nat) (f t : Str) (L : List KV) (ys : List Int) (hb : L.length < 2 ^ 39) (hy : ys.length < 2 ^ 43) : Fn Try.prog B 64 #[pV g, kT f, kT t, pV g9] [btA g o L, outZ g9 ys] (fun u l => u = .tuple #[] ∧ l = [btA g o L, outZ g9 (ys ++ (rgL f t L).map (·.2))]) := by
 refine Fn.enterM4 19 Try.func64 rfl rfl (Nat.le_of_ble_eq_true rfl) (fun F => ?_)
 try simp only [List.cons_append, List.nil_append]
 refine TI.seq ?_
 refine TI.region (by rfl) ?_
 refine LW.q rfl (Qt.move rfl) ?_
 refine LW.q rfl (Qt.move rfl) ?_
 refine LW.q rfl (Qt.move rfl) ?_
 refine LW.e rfl (Ef.call (Bt.Range B g f t) Try.func20 rfl rfl rfl ?_)
 rintro _ _ ⟨g1, g2, g3, rfl, rfl⟩
 try simp only [List.cons_append, List.nil_append]
 refine LW.done ?_
 refine TI.block ?_
 refine TI.conv (l' := rgB g1 g2 g3 g f t ++ [btA g o L, outZ g9 (outW ys [])] ++ F) (fun w ho => ho.map fun k K => take_start (Sub.any k K)) ?_
 simp only [List.cons_append, List.nil_append]
 refine TI.rangeL (fun xs => [btA g o L, outZ g9 (outW ys xs)]) (fun _ _ => [pu False]) (_) rfl (Bt.iter B g1 g2 g3 g o f t L) rfl (entersOf Try.func49 rfl rfl) (fun _ => rfl) ([blk g1 [pV g] 24, blk g2 [kT f] 9, blk g3 [kT t] 9, btA g o L, outZ g9 (outW ys [])]) rfl ?_ ?_ ?_
 ·
  rintro lp xs x F0 hG
  simp only [List.zip_cons_cons, List.zip_nil_right, List.zip_nil_left, pjs, List.cons_append, List.nil_append]
  refine TI.region (by rfl) ?_
  refine LW.q rfl (Qt.assign rfl) ?_
  refine LW.done ?_
  refine ⟨rfl, rfl, [btA g o L, outZ g9 (outW ys xs)], Sub.any, fun F1 => ?_⟩
  try simp only [List.cons_append, List.nil_append]
  refine TI.ex (l' := fun pc : Option Addr × Nat => blk g9 [.slice pc.1 (outW ys xs).length pc.2] 62 :: rZ pc.1 (outW ys xs).length pc.2 (outW ys xs) :: btA g o L :: F1) (fun w ho => outZ_ex w (ho.map Sub.any)) (fun pc => ?_)
  obtain ⟨p, c⟩ := pc
  have hxl : xs.length + 1 ≤ L.length := by have := hG.length_le; simp at this; have h2 : (rgL f t L).length ≤ L.length := List.length_filter_le (inR f t) L; omega
  have hol : (outW ys xs).length = ys.length + xs.length := by simp [outW]
  refine TI.block ?_
  refine TI.region (by rfl) ?_
  first | refine LW.q rfl (Qt.load (by kernel_rfl) rfl rfl) ?_ | refine LW.q rfl (Qt.load (by kernel_rfl) rfl (map_at _ _ _ (by omega))) ?_ | refine LW.q rfl (Qt.load (by kernel_rfl) rfl (flat_cell0 _ _ _ (by intros; rfl) _ (by omega) (by rfl))) ?_ | refine LW.q rfl (Qt.load (by kernel_rfl) rfl (flat_cell _ _ _ (by intros; rfl) _ _ (by omega) (by rfl))) ?_ | refine LW.q rfl (Qt.load (by kernel_rfl) rfl (bytes_at _ _ (by omega))) ?_
  refine LW.q rfl (Qt.move rfl) ?_
  refine LW.e rfl (Ef.one [_] (e := 2) (sz := 1) (by kernel_rfl) ⟨.int .i64 0, by kernel_rfl, rfl⟩ rfl rfl rfl (by omega) (by omega) ?_)
  intro g17
  refine LW.e rfl (Ef.append Ri.elemZ rfl rfl (SrcOf.blk (by kernel_rfl) rfl (by simp [Value.oneCell'])) (by unfold maxLen; omega) (by omega) ?_)
  rintro p4 c4 hp4
  try simp only [List.cons_append, List.nil_append]
  refine LW.e0 rfl (Ef.store1 (by kernel_rfl) rfl rfl rfl (by first | (simp; done) | (simp; omega)) ?_)
  try simp only [List.set_cons_zero, List.set_cons_succ]
  refine LW.done ?_
  refine ⟨rfl, ?_⟩
  try simp only [List.cons_append, List.nil_append]
  exact fun k K => take_round (p := p4) (c := c4) (Sub.any k K)
 ·
  rintro D xs hS
  try simp only [List.cons_append, List.nil_append, List.append_nil]
  subst hS
  first | exact ⟨.inr rfl, _, .nil, _, _, res [] rfl trivial, ⟨rfl, rfl⟩, Sub.any⟩ | exact ⟨.inr rfl, _, Marks.one, _, _, res [] rfl trivial, ⟨rfl, rfl⟩, Sub.any⟩
 ·
  rintro D c xs hS
  exact TI.own fun w ho => by obtain ⟨_, _, _, H⟩ := ho.has; exact (Has.open_pu H.tail.tail.tail.tail).1.elim
end Go.Proofs.Ytefognjcognknaa

/- btree's laws: BtreeAlike. Conditions: sizes; that the keys can be read. -/
set_option linter.unusedSimpArgs false
set_option linter.unusedVariables false
namespace Go.Proofs.Ytefognjcognknaa
open Go.RowKit
theorem putL_iff {key : Str} {val : Int} : ∀ {l : List KV} {p : KV}, Up l → (p ∈ putL key val l ↔ p = (key, val) ∨ (p ∈ l ∧ p.1 ≠ key))
  | [], p, _ => by simp [putL]
  | q :: l, p, hu => by
    have h1 := List.pairwise_cons.1 hu
    rw [putL]
    split
    · rename_i h
      rw [List.mem_cons, putL_iff h1.2, List.mem_cons]
      constructor
      · rintro (rfl | e | e)
        · exact .inr ⟨.inl rfl, ne_of_sl h⟩
        · exact .inl e
        · exact .inr ⟨.inr e.1, e.2⟩
      · rintro (e | ⟨rfl | e, e2⟩)
        · exact .inr (.inl e)
        · exact .inl rfl
        · exact .inr (.inr ⟨e, e2⟩)
    · rename_i h
      split
      · rename_i e
        rw [List.mem_cons, List.mem_cons]
        constructor
        · rintro (e2 | e2)
          · exact .inl e2
          · refine .inr ⟨.inr e2, fun e3 => ?_⟩
            have := h1.1 p e2
            rw [e, e3, sl_irrefl] at this; cases this
        · rintro (e2 | ⟨rfl | e2, e3⟩)
          · exact .inl e2
          · exact absurd e e3
          · exact .inr e2
      · rename_i e
        have hk : sl key q.1 = true := by
          refine Bool.not_eq_false _ |>.mp fun e2 => ?_
          exact e (sl_tri (Bool.eq_false_iff.2 h) e2)
        rw [List.mem_cons, List.mem_cons]
        constructor
        · rintro (e2 | e2 | e2)
          · exact .inl e2
          · exact .inr ⟨.inl e2, by rw [e2]; exact e⟩
          · exact .inr ⟨.inr e2, fun e3 => by have := sl_trans hk (h1.1 p e2); rw [e3, sl_irrefl] at this; cases this⟩
        · rintro (e2 | ⟨e2, _⟩)
          · exact .inl e2
          · exact .inr e2
theorem putL_le {key : Str} {val : Int} {l : List KV} (hu : Up l) : (putL key val l).length ≤ l.length + 1 := by rw [putL_len hu]; split <;> omega
theorem cutL_le {key : Str} {l : List KV} : (cutL key l).length ≤ l.length := List.length_filter_le ..
end Go.Proofs.Ytefognjcognknaa
