/- The texts BuB BuC BuD BuF BuG BuH BuJ BuE BuI BuK, one behind the other: what the law leans on. Conditions: as each theorem says. -/
import Derived.Test.YtefognjcognknaaZBtreeDrains9
import Derived.Laws.StructEq
/- btree's laws: pairs. Conditions: sizes. -/
set_option linter.unusedSimpArgs false
set_option linter.unusedVariables false
namespace Go.Proofs.Ytefognjcognknaa
open Go.RowKit
abbrev kvA (p : KV) : Value := .agg (kvC p).toArray
theorem KV.eq_bool (a b : KV) : decide (a = b) = ((a.1 == b.1) && (a.2 == b.2)) := by
  cases a; cases b
  rw [Bool.eq_iff_iff]
  simp
section
variable {B : Base} {n : Nat} {S l r : List Assn} {f : Fr}
variable {d : Option Tmp} {ty : TypeId} {pos : String} {af : Array Edge} {gd : Option (Nat × Bool)}
theorem run_eqKV (w : World) (a b : KV) : (Op.equalIn 10000 36 (kvA a) (kvA b)).run Try.prog w = .ok (decide (a = b)) w := by
  rw [run_equalIn_struct w 9999 36 _ _ (by kernel_rfl) (by kernel_rfl)]
  rw [KV.eq_bool]
  have h0 : Try.prog.underlying 9 = some .string := by kernel_rfl
  have h1 : Try.prog.underlying 2 = some (.int .i64) := by kernel_rfl
  have e : (Try.prog.fieldsOf 36).toList.map (fun f => (f.type, f.offset, decide (f.name ≠ "_"))) = [(9, 0, true), (2, 1, true)] := by kernel_rfl
  generalize (Try.prog.fieldsOf 36).toList = L at e ⊢
  obtain ⟨f0, f1, rfl⟩ : ∃ f0 f1, L = [f0, f1] := by
    have hlen : L.length = 2 := by have := congrArg List.length e; simpa using this
    match L, hlen with
    | [a, b], _ => exact ⟨a, b, rfl⟩
  · skip
    simp only [List.map_cons, List.map_nil, List.cons.injEq, Prod.mk.injEq, and_true, decide_eq_true_eq] at e
    obtain ⟨⟨a0, a1, a2⟩, ⟨b0, b1, b2⟩⟩ := e
    have p0 : ∀ v : KV, (part 9 (kvC v).toArray 0).run Try.prog w = .ok (kT v.1) w := fun v => by simp [part, isAgg, run_underlying h0]
    have p1 : ∀ v : KV, (part 2 (kvC v).toArray 1).run Try.prog w = .ok (iV v.2) w := fun v => by simp [part, isAgg, run_underlying h1]
    simp only [Op.eqFields, a0, a1, b0, b1, a2, b2, if_true, ne_eq, not_false_eq_true, Sem.run_bind, p0, p1, Result.andThen_ok]
    rw [run_equalIn_string w 9998 _ _ _ h0]
    simp only [Result.andThen_ok, strOf_toList]
    cases (a.1 == b.1)
    · simp
    · simp only [Bool.not_true, Bool.false_eq_true, if_false, Sem.run_bind, p1, Result.andThen_ok]
      rw [run_equalIn_int w 9998 _ _ _ _ _ h1]
      simp only [Result.andThen_ok]
      cases (a.2 == b.2) <;> simp
theorem Qt.neqKV {t2 : TypeId} {x y : Operand} (a b : KV) (hx : ev n f x = some (kvA a)) (hy : ev n f y = some (kvA b)) : Qt Try.prog B n S ⟨d, .binOp .neq 36 x y t2, ty, pos, af, gd⟩ f (.bool (decide (¬ a = b))) := ⟨fun w _ => by
  have hg := run_eqGuard_agg (P := Try.prog) w .neq 36 x y (kvC a).toArray (kvC b).toArray (by kernel_rfl)
  have hr := run_neq_struct (P := Try.prog) w 36 (kvC a).toArray (kvC b).toArray
  have hE := run_eqKV w a b
  simp only [execOp, evu_eq hx, evu_eq hy, Sem.run_bind, hg, hr, hE, Result.andThen_ok, Sem.run_pure]
  simp⟩
end
theorem eq_upto {α : Type} {a b : List α} (hl : a.length = b.length) (h : ∀ i, i < a.length → a[i]? = b[i]?) : a = b := by
  apply List.ext_getElem? 
  intro i
  rcases Nat.lt_or_ge i a.length with hi | hi
  · exact h i hi
  · rw [List.getElem?_eq_none hi, List.getElem?_eq_none (by omega)]
set_option maxHeartbeats 2000000 in
theorem Bu.pairs (B : Base) (p q : Option Addr) (c c' : Nat) (La Lb : List KV) (hb : La.length < 2 ^ 40) (hb2 : Lb.length < 2 ^ 40) : Fn Try.prog B 16 #[.slice p La.length c, .slice q Lb.length c'] [rowP p c La, rowP q c' Lb] (fun u l => u = .bool (decide (La = Lb)) ∧ l = [rowP p c La, rowP q c' Lb]) := by
 refine Fn.enter2 26 Try.func16 rfl rfl (Nat.le_of_ble_eq_true rfl) (fun F => ?_)
 try simp only [List.cons_append, List.nil_append]
 refine T.seq ?_
 refine T.region ?_
 refine LW.q rfl (Qt.assign rfl) ?_
 refine LW.done ?_
 refine T.seq ?_
 refine T.seq ?_
 refine T.region ?_
 refine LW.q rfl (Qt.move rfl) ?_
 refine LW.q rfl (Qt.len (e := 36) (sz := 2) (by kernel_rfl) rfl) ?_
 refine LW.q rfl (Qt.move rfl) ?_
 refine LW.q rfl (Qt.len (e := 36) (sz := 2) (by kernel_rfl) rfl) ?_
 refine LW.q rfl (Qt.neq rfl rfl) ?_
 refine LW.done ?_
 refine T.condP rfl (fun hne => ?_) (fun hne => ?_)
 ·
  refine T.seq ?_
  refine T.region ?_
  refine LW.q rfl (Qt.assign rfl) ?_
  refine LW.done ?_
  refine T.ret ?_
  exact ⟨.inl rfl, _, _, res [_] rfl ⟨rvT rfl, trivial⟩, ⟨by rw [decide_eq_false (fun e => hne (by rw [e]))]; rfl, rfl⟩, Sub.any⟩
 ·
  have hll : La.length = Lb.length := by omega
  refine T.own fun w0 ho0 => ?_
  have hp := (ho0.slice_at (p := p) (m := La.length) (c := c) (k := La.length)).2.1
  have hq := (ho0.slice_at (p := q) (m := Lb.length) (c := c') (k := Lb.length)).2.1
  clear ho0
  refine T.skip ?_
  refine T.seq ?_
  refine T.seq ?_
  refine T.region ?_
  refine LW.q rfl (Qt.move rfl) ?_
  refine LW.q rfl (Qt.len (e := 36) (sz := 2) (by kernel_rfl) rfl) ?_
  refine LW.q rfl (Qt.move rfl) ?_
  refine LW.done ?_
  refine T.block ?_
  refine T.loop (fun mz fz lz => ∃ (f0 : Fr) (i : Nat), (i ≤ La.length ∧ ∀ j, j < i → La[j]? = Lb[j]?) ∧ mz = La.length - i ∧ fz = (upd (upd (upd (upd f0 0 (.slice p La.length c)) 1 (.slice q Lb.length c')) 12 (.int .i64 La.length)) 13 (.int .i64 i)) ∧ lz = rowP p c La :: rowP q c' Lb :: F) ?_ ?_
  · refine ⟨_, _, ⟨_, 0, ⟨Nat.zero_le _, fun _ h => absurd h (Nat.not_lt_zero _)⟩, rfl, (updS rfl (updS rfl (updS rfl (updS rfl rfl)))), rfl⟩, Sub.any⟩
  ·
   rintro mz fz lz ⟨f0, i, ⟨hi, heq⟩, hmz, rfl, rfl⟩
   subst mz
   try simp only [List.cons_append, List.nil_append]
   refine T.seq ?_
   refine T.region ?_
   refine LW.q rfl (Qt.lss rfl rfl) ?_
   refine LW.done ?_
   refine T.seq ?_
   refine T.condP rfl (fun hlt => ?_) (fun hlt => ?_)
   ·
    have hlt' : i < La.length := by omega
    obtain ⟨gp, rfl⟩ := hp (by omega)
    obtain ⟨gq, rfl⟩ := hq (by omega)
    refine T.skip ?_
    refine T.seq ?_
    refine T.block ?_
    refine T.seq ?_
    refine T.region ?_
    refine LW.q rfl (Qt.move rfl) ?_
    refine LW.q rfl (Qt.assign rfl) ?_
    refine LW.done ?_
    refine T.seq ?_
    refine T.drawAll 9 (by kernel_rfl) (Nat.le_of_ble_eq_true rfl) (by kernel_rfl) ?_
    refine RW.q 0 rfl rfl (by kernel_rfl) (Sub.refl _) (Qt.move rfl) ?_
    refine RW.q 1 rfl rfl (by kernel_rfl) (Sub.refl _) (Qt.move rfl) ?_
    refine RW.q 2 rfl rfl (by kernel_rfl) (Sub.refl _) (Qt.index _ (e := 36) (sz := 2) (by kernel_rfl) rfl rfl rfl (by omega)) ?_
    refine RW.q 3 rfl rfl (by kernel_rfl) (Sub.refl _) (Qt.loadAgg (kvC La[i]) (by kernel_rfl) rfl (rdl_flat kvC 2 La (by intros; rfl) i hlt')) ?_
    refine RW.q 4 rfl rfl (by kernel_rfl) (Sub.refl _) (Qt.move rfl) ?_
    refine RW.q 5 rfl rfl (by kernel_rfl) (Sub.refl _) (Qt.move rfl) ?_
    refine RW.q 6 rfl rfl (by kernel_rfl) (Sub.refl _) (Qt.index _ (e := 36) (sz := 2) (by kernel_rfl) rfl rfl rfl (by omega)) ?_
    refine RW.q 7 rfl rfl (by kernel_rfl) (Sub.refl _) (Qt.loadAgg (kvC (Lb[i]'(by omega))) (by kernel_rfl) rfl (rdl_flat kvC 2 Lb (by intros; rfl) i (by omega))) ?_
    refine RW.q 8 rfl rfl (by kernel_rfl) (Sub.refl _) (Qt.neqKV La[i] (Lb[i]'(by omega)) rfl rfl) ?_
    refine RW.done (by rfl) ?_
    simp only [List.drop_succ_cons, List.drop_zero, List.drop_nil]
    refine LW.done ?_
    refine T.condP rfl (fun hd => ?_) (fun hd => ?_)
    ·
     refine T.seq ?_
     refine T.region ?_
     refine LW.q rfl (Qt.assign rfl) ?_
     refine LW.done ?_
     refine T.ret ?_
     exact ⟨.inl rfl, _, _, res [_] rfl ⟨rvT rfl, trivial⟩, ⟨by rw [decide_eq_false (fun e => hd (by subst e; rfl))]; rfl, rfl⟩, Sub.any⟩
    ·
     refine T.skip ?_
     refine T.region ?_
     refine LW.q rfl (Qt.add rfl rfl (wr64 (by omega) (by omega))) ?_
     refine LW.q rfl (Qt.move rfl) ?_
     refine LW.done ?_
     refine ⟨_, ?_, _, ⟨_, i + 1, ⟨hlt', fun j hj => by rcases Nat.lt_or_ge j i with h | h; exact heq j h; have hji : j = i := (by omega); subst hji; rw [List.getElem?_eq_getElem hlt', List.getElem?_eq_getElem (by omega), Decidable.not_not.1 hd]⟩, rfl, (updS rfl (updS rfl (updS rfl (updS rfl rfl)))), rfl⟩, Sub.any⟩
     first | omega | (simp; omega)
   ·
    have hie : i = La.length := by omega
    refine T.exit ?_
    refine T.seq ?_
    refine T.region ?_
    refine LW.q rfl (Qt.assign rfl) ?_
    refine LW.done ?_
    refine T.ret ?_
    exact ⟨.inl rfl, _, _, res [_] rfl ⟨rvT rfl, trivial⟩, ⟨by rw [decide_eq_true (eq_upto hll (by rw [← hie]; exact heq))]; rfl, rfl⟩, Sub.any⟩
end Go.Proofs.Ytefognjcognknaa

/- btree's laws: Len and Get over a tree; awake. Conditions: sizes. -/
set_option linter.unusedSimpArgs false
set_option linter.unusedVariables false
namespace Go.Proofs.Ytefognjcognknaa
open Go.RowKit
theorem Bt.Len (B : Base) (g o : Nat) (L : List KV) : Fn Try.prog B 18 #[pV g] [btA g o L] (fun u l => u = .int .i64 L.length ∧ l = [btA g o L]) := by
  refine Fn.bt fun H t hok hL hu ho ho2 => ?_
  refine Fn.conv (F' := [treeA H t]) (Bt.len B g o (LT.nd H t).p L.length) (fun k K => K) ?_
  rintro v l ⟨rfl, rfl⟩
  exact ⟨_, fun k K => Has.bt_in (m := []) hok hL hu ho ho2 K, rfl, rfl⟩
theorem Bt.Get (B : Base) (g o : Nat) (L : List KV) (key : Str) (hb : L.length < 2 ^ 39) : Fn Try.prog B 25 #[pV g, kT key] [btA g o L] (fun u l => u = .tuple #[iV ((getL L key).getD 0), .bool (getL L key).isSome] ∧ l = [btA g o L]) := by
  refine Fn.bt fun H t hok hL hu ho ho2 => ?_
  refine Fn.conv (F' := []) (Bt.get B g o L.length H t key hok (by rw [hL]; exact hu) (by rw [hL]; omega)) (fun k K => K) ?_
  rintro v l ⟨rfl, rfl⟩
  exact ⟨_, fun k K => Has.bt_in (m := []) hok hL hu ho ho2 K, by rw [hL], rfl⟩
set_option maxHeartbeats 2000000 in
theorem Bu.awake (B : Base) : Fn Try.prog B 13 #[] [] (fun u l => u = .bool true ∧ l = []) := by
  refine Fn.enter0 74 Try.func13 rfl rfl (Nat.le_of_ble_eq_true rfl) (fun F => ?_)
  try simp only [List.cons_append, List.nil_append]
  refine T.seq ?_
  refine T.region ?_
  refine LW.q rfl (Qt.assign rfl) ?_
  refine LW.done ?_
  refine T.seq ?_
  refine T.region ?_
  refine LW.e rfl (Ef.call (Bt.newOk B 2 (by decide) (by decide)) Try.func14 rfl rfl rfl ?_)
  rintro _ _ ⟨g, rfl, rfl⟩
  try simp only [List.cons_append, List.nil_append]
  refine LW.q rfl (Qt.move rfl) ?_
  refine LW.q rfl (Qt.extr rfl rfl) ?_
  refine LW.q rfl (Qt.extr rfl rfl) ?_
  refine LW.q rfl (Qt.assign rfl) ?_
  refine LW.q rfl (Qt.assign rfl) ?_
  refine LW.done ?_
  refine T.seq ?_
  refine T.seq ?_
  refine T.region ?_
  refine LW.q rfl (Qt.move rfl) ?_
  first | refine LW.q rfl (Qt.eqlNil (by kernel_rfl) rfl rfl) ?_ | refine LW.q rfl (Qt.eqlNN (by kernel_rfl) rfl rfl) ?_
  refine LW.q rfl (Qt.move rfl) ?_
  first | refine LW.gF (t := 12) rfl rfl ?_ | refine LW.gF (t := 12) rfl (decide_eq_false (by omega)) ?_ | refine LW.gF (t := 12) rfl (by omega) ?_
  refine LW.q rfl (Qt.move rfl) ?_
  refine LW.q rfl (Qt.neq rfl rfl) ?_
  refine LW.q rfl (Qt.pick rfl rfl) ?_
  refine LW.q rfl (Qt.move rfl) ?_
  first | refine LW.gF (t := 16) rfl rfl ?_ | refine LW.gF (t := 16) rfl (decide_eq_false (by omega)) ?_ | refine LW.gF (t := 16) rfl (by omega) ?_
  refine LW.q rfl (Qt.move rfl) ?_
  refine LW.e rfl (Ef.call (Bt.put B g 2 [] [98] 2 (by decide)) Try.func15 rfl rfl rfl ?_)
  rintro _ _ ⟨rfl, rfl⟩
  try simp only [List.cons_append, List.nil_append]
  rw [show putL [98] 2 [] = [([98], 2)] from rfl]
  refine LW.q rfl (Qt.pick rfl rfl) ?_
  refine LW.q rfl (Qt.move rfl) ?_
  first | refine LW.gF (t := 20) rfl rfl ?_ | refine LW.gF (t := 20) rfl (decide_eq_false (by omega)) ?_ | refine LW.gF (t := 20) rfl (by omega) ?_
  refine LW.q rfl (Qt.move rfl) ?_
  refine LW.e rfl (Ef.call (Bt.put B g 2 [([98], 2)] [97] 1 (by decide)) Try.func15 rfl rfl rfl ?_)
  rintro _ _ ⟨rfl, rfl⟩
  try simp only [List.cons_append, List.nil_append]
  rw [show putL [97] 1 [([98], 2)] = [([97], 1), ([98], 2)] from rfl]
  refine LW.q rfl (Qt.pick rfl rfl) ?_
  refine LW.q rfl (Qt.move rfl) ?_
  first | refine LW.gF (t := 24) rfl rfl ?_ | refine LW.gF (t := 24) rfl (decide_eq_false (by omega)) ?_ | refine LW.gF (t := 24) rfl (by omega) ?_
  refine LW.q rfl (Qt.move rfl) ?_
  refine LW.e rfl (Ef.call (Bt.put B g 2 [([97], 1), ([98], 2)] [98] 3 (by decide)) Try.func15 rfl rfl rfl ?_)
  rintro _ _ ⟨rfl, rfl⟩
  try simp only [List.cons_append, List.nil_append]
  rw [show putL [98] 3 [([97], 1), ([98], 2)] = [([97], 1), ([98], 3)] from rfl]
  first | refine LW.q rfl (Qt.notP rfl) ?_ | refine LW.q rfl (Qt.notB rfl) ?_
  refine LW.q rfl (Qt.pick rfl rfl) ?_
  refine LW.q rfl (Qt.move rfl) ?_
  first | refine LW.gF (t := 29) rfl rfl ?_ | refine LW.gF (t := 29) rfl (decide_eq_false (by omega)) ?_ | refine LW.gF (t := 29) rfl (by omega) ?_
  refine LW.q rfl (Qt.move rfl) ?_
  refine LW.e rfl (Ef.call (Bt.Len B g 2 [([97], 1), ([98], 3)]) Try.func18 rfl rfl rfl ?_)
  rintro _ _ ⟨rfl, rfl⟩
  try simp only [List.cons_append, List.nil_append]
  refine LW.q rfl (Qt.neq rfl rfl) ?_
  refine LW.q rfl (Qt.pick rfl rfl) ?_
  refine LW.done ?_
  first | refine T.condF rfl ?_ | refine T.condPF rfl ((by decide)) ?_ | refine T.condBF rfl ((by decide)) ?_
  refine T.skip ?_
  refine T.seq ?_
  refine T.region ?_
  refine LW.q rfl (Qt.move rfl) ?_
  refine LW.e rfl (Ef.call (Bt.Get B g 2 [([97], 1), ([98], 3)] [98] (by decide)) Try.func25 rfl rfl rfl ?_)
  rintro _ _ ⟨rfl, rfl⟩
  try simp only [List.cons_append, List.nil_append]
  refine LW.q rfl (Qt.move rfl) ?_
  refine LW.q rfl (Qt.extr rfl rfl) ?_
  refine LW.q rfl (Qt.extr rfl rfl) ?_
  refine LW.q rfl (Qt.assign rfl) ?_
  refine LW.q rfl (Qt.assign rfl) ?_
  refine LW.done ?_
  refine T.seq ?_
  refine T.region ?_
  refine LW.q rfl (Qt.move rfl) ?_
  refine LW.e rfl (Ef.call (Bu.listed B g 2 [] [] [([97], 1), ([98], 3)] (by decide)) Try.func17 rfl rfl rfl ?_)
  rintro _ _ ⟨p, c, rfl, rfl⟩
  try simp only [List.cons_append, List.nil_append]
  rw [show rgL [] [] [([97], 1), ([98], 3)] = [([97], 1), ([98], 3)] from rfl]
  refine LW.q rfl (Qt.assign rfl) ?_
  refine LW.done ?_
  refine T.seq ?_
  refine T.region ?_
  refine LW.q rfl (Qt.move rfl) ?_
  refine LW.q rfl (Qt.eql rfl rfl) ?_
  refine LW.q rfl (Qt.move rfl) ?_
  refine LW.own fun w0 ho0 => ?_
  obtain ⟨gp, rfl⟩ := (ho0.slice_at (p := p) (m := [([97], 1), ([98], 3)].length) (c := c) (k := [([97], 1), ([98], 3)].length)).2.1 (by decide)
  clear ho0
  first | refine LW.gT (t := 43) rfl rfl ?_ | refine LW.gT (t := 43) rfl (decide_eq_true ((by decide))) ?_ | refine LW.gT (t := 43) rfl ((by decide)) ?_
  refine LW.q rfl (Qt.move rfl) ?_
  refine LW.q rfl (Qt.pick rfl rfl) ?_
  refine LW.q rfl (Qt.move rfl) ?_
  first | refine LW.gT (t := 46) rfl rfl ?_ | refine LW.gT (t := 46) rfl (decide_eq_true ((by decide))) ?_ | refine LW.gT (t := 46) rfl ((by decide)) ?_
  refine LW.q rfl (Qt.move rfl) ?_
  refine LW.q rfl (Qt.len (e := 36) (sz := 2) (by kernel_rfl) rfl) ?_
  refine LW.q rfl (Qt.eql rfl rfl) ?_
  refine LW.q rfl (Qt.pick rfl rfl) ?_
  refine LW.q rfl (Qt.move rfl) ?_
  first | refine LW.gT (t := 51) rfl rfl ?_ | refine LW.gT (t := 51) rfl (decide_eq_true ((by decide))) ?_ | refine LW.gT (t := 51) rfl ((by decide)) ?_
  refine LW.q rfl (Qt.move rfl) ?_
  refine LW.q rfl (Qt.index 0 (e := 36) (sz := 2) (by kernel_rfl) rfl rfl rfl (by decide)) ?_
  refine LW.q rfl (Qt.fieldAddr0 (by kernel_rfl) rfl) ?_
  first | refine LW.q rfl (Qt.load (by kernel_rfl) rfl rfl) ?_ | refine LW.q rfl (Qt.load (by kernel_rfl) rfl (map_at _ _ _ (by omega))) ?_ | refine LW.q rfl (Qt.load (by kernel_rfl) rfl (flat_cell0 _ _ _ (by intros; rfl) _ (by omega) (by rfl))) ?_ | refine LW.q rfl (Qt.load (by kernel_rfl) rfl (flat_cell _ _ _ (by intros; rfl) _ _ (by omega) (by rfl))) ?_ | refine LW.q rfl (Qt.load (by kernel_rfl) rfl (bytes_at _ _ (by omega))) ?_
  refine LW.q rfl (Qt.eqlS rfl rfl) ?_
  refine LW.q rfl (Qt.pick rfl rfl) ?_
  refine LW.q rfl (Qt.move rfl) ?_
  first | refine LW.gT (t := 58) rfl rfl ?_ | refine LW.gT (t := 58) rfl (decide_eq_true ((by decide))) ?_ | refine LW.gT (t := 58) rfl ((by decide)) ?_
  refine LW.q rfl (Qt.move rfl) ?_
  refine LW.e rfl (Ef.call (Bt.Cut B g 2 [([97], 1), ([98], 3)] [97] (by decide)) Try.func19 rfl rfl rfl ?_)
  rintro _ _ ⟨rfl, rfl⟩
  try simp only [List.cons_append, List.nil_append]
  rw [show cutL [97] [([97], 1), ([98], 3)] = [([98], 3)] from rfl]
  refine LW.q rfl (Qt.pick rfl rfl) ?_
  refine LW.q rfl (Qt.move rfl) ?_
  first | refine LW.gT (t := 62) rfl rfl ?_ | refine LW.gT (t := 62) rfl (decide_eq_true (by omega)) ?_ | refine LW.gT (t := 62) rfl (by omega) ?_
  refine LW.q rfl (Qt.move rfl) ?_
  refine LW.e rfl (Ef.call (Bt.Cut B g 2 [([98], 3)] [97] (by decide)) Try.func19 rfl rfl rfl ?_)
  rintro _ _ ⟨rfl, rfl⟩
  try simp only [List.cons_append, List.nil_append]
  rw [show cutL [97] [([98], 3)] = [([98], 3)] from rfl]
  first | refine LW.q rfl (Qt.notP rfl) ?_ | refine LW.q rfl (Qt.notB rfl) ?_
  refine LW.q rfl (Qt.pick rfl rfl) ?_
  refine LW.q rfl (Qt.move rfl) ?_
  first | refine LW.gT (t := 67) rfl rfl ?_ | refine LW.gT (t := 67) rfl (decide_eq_true (by omega)) ?_ | refine LW.gT (t := 67) rfl (by omega) ?_
  refine LW.q rfl (Qt.move rfl) ?_
  refine LW.e rfl (Ef.call (Bt.Len B g 2 [([98], 3)]) Try.func18 rfl rfl rfl ?_)
  rintro _ _ ⟨rfl, rfl⟩
  try simp only [List.cons_append, List.nil_append]
  refine LW.q rfl (Qt.eql rfl rfl) ?_
  refine LW.q rfl (Qt.pick rfl rfl) ?_
  refine LW.q rfl (Qt.move rfl) ?_
  refine LW.q rfl (Qt.pick rfl rfl) ?_
  refine LW.q rfl (Qt.assign rfl) ?_
  refine LW.done ?_
  refine T.ret ?_
  exact ⟨.inl rfl, _, _, res [_] rfl ⟨rvT rfl, trivial⟩, ⟨rfl, rfl⟩, Sub.any⟩
end Go.Proofs.Ytefognjcognknaa

/- btree's laws: BtreeAlike. Conditions: sizes; that the keys can be read. -/
set_option linter.unusedSimpArgs false
set_option linter.unusedVariables false
namespace Go.Proofs.Ytefognjcognknaa
open Go.RowKit
theorem putL_iff {key : Str} {val : Int} : ∀ {l : List KV} {p : KV}, Up l → (p ∈ putL key val l ↔ p = (key, val) ∨ (p ∈ l ∧ p.1 ≠ key))
  | [], p, _ => by simp [putL]
  | q :: l, p, hu => by
    have h1 := List.pairwise_cons.1 hu
    rw [putL]
    split
    · rename_i h
      rw [List.mem_cons, putL_iff h1.2, List.mem_cons]
      constructor
      · rintro (rfl | e | e)
        · exact .inr ⟨.inl rfl, ne_of_sl h⟩
        · exact .inl e
        · exact .inr ⟨.inr e.1, e.2⟩
      · rintro (e | ⟨rfl | e, e2⟩)
        · exact .inr (.inl e)
        · exact .inl rfl
        · exact .inr (.inr ⟨e, e2⟩)
    · rename_i h
      split
      · rename_i e
        rw [List.mem_cons, List.mem_cons]
        constructor
        · rintro (e2 | e2)
          · exact .inl e2
          · refine .inr ⟨.inr e2, fun e3 => ?_⟩
            have := h1.1 p e2
            rw [e, e3, sl_irrefl] at this; cases this
        · rintro (e2 | ⟨rfl | e2, e3⟩)
          · exact .inl e2
          · exact absurd e e3
          · exact .inr e2
      · rename_i e
        have hk : sl key q.1 = true := by
          refine Bool.not_eq_false _ |>.mp fun e2 => ?_
          exact e (sl_tri (Bool.eq_false_iff.2 h) e2)
        rw [List.mem_cons, List.mem_cons]
        constructor
        · rintro (e2 | e2 | e2)
          · exact .inl e2
          · exact .inr ⟨.inl e2, by rw [e2]; exact e⟩
          · exact .inr ⟨.inr e2, fun e3 => by have := sl_trans hk (h1.1 p e2); rw [e3, sl_irrefl] at this; cases this⟩
        · rintro (e2 | ⟨e2, _⟩)
          · exact .inl e2
          · exact .inr e2
theorem putL_le {key : Str} {val : Int} {l : List KV} (hu : Up l) : (putL key val l).length ≤ l.length + 1 := by rw [putL_len hu]; split <;> omega
theorem cutL_le {key : Str} {l : List KV} : (cutL key l).length ≤ l.length := List.length_filter_le ..
end Go.Proofs.Ytefognjcognknaa

/- btree's laws: BtreeRanges. Conditions: sizes; that the keys can be read. -/
set_option linter.unusedSimpArgs false
set_option linter.unusedVariables false
namespace Go.Proofs.Ytefognjcognknaa
open Go.RowKit
section
variable {P : Program} {B : Base} {n : Nat} {S l : List Assn} {f : Fr}
variable {d : Option Tmp} {ty : TypeId} {pos : String} {af : Array Edge} {gd : Option (Nat × Bool)}
end
end Go.Proofs.Ytefognjcognknaa

/- btree's laws: the document's lists. Conditions: sizes. -/
set_option linter.unusedSimpArgs false
set_option linter.unusedVariables false
namespace Go.Proofs.Ytefognjcognknaa
open Go.RowKit
end Go.Proofs.Ytefognjcognknaa

/- btree's laws: the document's Put. Conditions: sizes; that the keys rise. -/
set_option linter.unusedSimpArgs false
set_option linter.unusedVariables false
namespace Go.Proofs.Ytefognjcognknaa
open Go.RowKit
end Go.Proofs.Ytefognjcognknaa

/- btree's laws: one call of the script (step). Conditions: sizes. -/
set_option linter.unusedSimpArgs false
set_option linter.unusedVariables false
namespace Go.Proofs.Ytefognjcognknaa
open Go.RowKit
end Go.Proofs.Ytefognjcognknaa

/- btree: Shape. Conditions: sizes. -/
set_option linter.unusedSimpArgs false
set_option linter.unusedVariables false
namespace Go.Proofs.Ytefognjcognknaa
open Go.RowKit
abbrev LT.kl (h : Nat) (t : LT h) : Nat := (LT.nd h t).kv.length
/-- The levels of a row of trees: how many keys their nodes have. -/
def shapeL : (h : Nat) → List (LT h) → List (List Nat)
  | _, [] => []
  | 0, t :: ts => [(t :: ts).map (LT.kl 0)]
  | h + 1, t :: ts => (t :: ts).map (LT.kl (h + 1)) :: shapeL h ((t :: ts).flatMap (LT.sub h))
/-- A row of numbers of its own. -/
abbrev Rw := Option Addr × Nat × List Nat
abbrev nI (n : Nat) : Value := .int .i64 n
abbrev rwV (r : Rw) : Value := .slice r.1 r.2.2.length r.2.1
abbrev rwA (r : Rw) : Assn := row (rwV r) 3 1 r.2.2.length (r.2.2.map nI)
abbrev shA (rs : List Rw) : Assn := sepL (rs.map rwA)
abbrev outS (p : Option Addr) (c : Nat) (rs : List Rw) : Assn := row (.slice p rs.length c) 51 1 rs.length (rs.map rwV)
theorem Sh.elemI : ElemOk Try.prog 51 3 1 8 := ElemOk.mk' (.int .i64 0) (by kernel_rfl) (by kernel_rfl) rfl (by decide)
theorem Sh.elemR : ElemOk Try.prog 48 51 1 24 := ElemOk.mk' (.slice none 0 0) (by kernel_rfl) (by kernel_rfl) rfl (by decide)
def ownA (h : Nat) (t : LT h) : Assn := sepL (nodeL (LT.nd h t) (LT.kp h t))
/-- A level's trees: their roots' own, and the next level's trees. -/
theorem level_down {h : Nat} : ∀ {ts : List (LT (h + 1))} {m : List Assn} {k : Piece}, Has (sepL (ts.map (treeA (h + 1))) :: m) k → Has (sepL ((ts.flatMap (LT.sub h)).map (treeA h)) :: sepL (ts.map (ownA (h + 1))) :: m) k
  | [], m, k, K => Has.cons_imp (fun _ K => Has.close_pu (p := True) trivial K) K
  | t :: ts, m, k, K => by
    have K1 : Has (treeA (h + 1) t :: sepL (ts.map (treeA (h + 1))) :: m) k := by
      have := Has.mid_out (A := treeA (h + 1)) (L1 := []) (L2 := ts) K
      exact Has.cons_imp (fun _ K => K.tail) this
    have K2 := Has.cons_imp (fun _ K => level_down K) K1
    have K3 : Has (treeL (h + 1) t ++ (sepL ((ts.flatMap (LT.sub h)).map (treeA h)) :: sepL (ts.map (ownA (h + 1))) :: m)) k := Has.openT K2
    have K4 : Has (nodeL (LT.nd (h + 1) t) (LT.kp (h + 1) t) ++ (sepL ((LT.sub h t).map (treeA h)) :: sepL ((ts.flatMap (LT.sub h)).map (treeA h)) :: sepL (ts.map (ownA (h + 1))) :: m)) k := K3
    have K5 : Has (ownA (h + 1) t :: sepL ((LT.sub h t).map (treeA h)) :: sepL ((ts.flatMap (LT.sub h)).map (treeA h)) :: sepL (ts.map (ownA (h + 1))) :: m) k := Has.close_sepL K4
    have K6 := Has.cons_imp (fun _ K => Has.sep_in K) K5
    rw [← List.map_append] at K6
    have K7 := Has.swap K6
    refine Has.cons_imp (fun _ K => ?_) K7
    exact Has.mid_in (A := ownA (h + 1)) (L1 := []) (L2 := ts) (Has.cons_imp (fun _ K => Has.close_pu (p := True) trivial K) K)
theorem level_up {h : Nat} : ∀ {ts : List (LT (h + 1))} {m : List Assn} {k : Piece}, Has (sepL ((ts.flatMap (LT.sub h)).map (treeA h)) :: sepL (ts.map (ownA (h + 1))) :: m) k → Has (sepL (ts.map (treeA (h + 1))) :: m) k
  | [], m, k, K => Has.cons_imp (fun _ K => K.tail) K
  | t :: ts, m, k, K => by
    have K0 : Has (sepL ((LT.sub h t).map (treeA h) ++ (ts.flatMap (LT.sub h)).map (treeA h)) :: sepL ((t :: ts).map (ownA (h + 1))) :: m) k := by
      rw [← List.map_append]; exact K
    have K1 := Has.sep_out K0
    have K2 : Has (sepL ((LT.sub h t).map (treeA h)) :: sepL ((ts.flatMap (LT.sub h)).map (treeA h)) :: ownA (h + 1) t :: sepL (ts.map (ownA (h + 1))) :: m) k := Has.cons_imp (fun _ K => Has.cons_imp (fun _ K => Has.cons_imp (fun _ K => K.tail) (Has.mid_out (A := ownA (h + 1)) (L1 := []) (L2 := ts) K)) K) K1
    have K3 : Has (ownA (h + 1) t :: sepL ((LT.sub h t).map (treeA h)) :: sepL ((ts.flatMap (LT.sub h)).map (treeA h)) :: sepL (ts.map (ownA (h + 1))) :: m) k := Sub.any k K2
    have K4 : Has (nodeL (LT.nd (h + 1) t) (LT.kp (h + 1) t) ++ (sepL ((LT.sub h t).map (treeA h)) :: sepL ((ts.flatMap (LT.sub h)).map (treeA h)) :: sepL (ts.map (ownA (h + 1))) :: m)) k := Has.open_sepL K3
    have K5 : Has (treeA (h + 1) t :: sepL ((ts.flatMap (LT.sub h)).map (treeA h)) :: sepL (ts.map (ownA (h + 1))) :: m) k := Has.closeT (t := t) K4
    have K6 := Has.cons_imp (fun _ K => level_up K) K5
    exact Has.mid_in (A := treeA (h + 1)) (L1 := []) (L2 := ts) (Has.cons_imp (fun _ K => Has.close_pu (p := True) trivial K) K6)
theorem inter_len {α : Type} : ∀ {Ks : List (List α)} {vs : List α}, Ks.length = vs.length + 1 → (inter Ks vs).length = (Ks.map List.length).sum + vs.length
  | [], _, h => by simp at h
  | [k], [], _ => by simp [inter]
  | _ :: _ :: _, [], h => by simp at h
  | [_], _ :: _, h => by simp at h
  | k :: k2 :: ks, v :: vs, h => by
    have ih := inter_len (Ks := k2 :: ks) (vs := vs) (by simpa using h)
    rw [inter, List.length_append, List.length_cons, ih]
    simp only [List.map_cons, List.sum_cons, List.length_cons]
    omega
/-- Each tree's pairs, and one more. -/
def wtL (h : Nat) (ts : List (LT h)) : Nat := (ts.map fun t => (toL h t).length + 1).sum
theorem wtL_app (h : Nat) (a b : List (LT h)) : wtL h (a ++ b) = wtL h a + wtL h b := by simp [wtL]
theorem wtL_len (h : Nat) : ∀ ts : List (LT h), ts.length ≤ wtL h ts
  | [] => Nat.zero_le _
  | t :: ts => by have := wtL_len h ts; simp only [wtL, List.map_cons, List.sum_cons, List.length_cons] at this ⊢; omega
theorem wtL_kids {o h : Nat} {t : LT (h + 1)} (hk : okN o 0 (h + 1) t) : wtL h (LT.sub h t) = (toL (h + 1) t).length + 1 := by
  have hl : (LT.sub h t).length = (LT.nd (h + 1) t).kv.length + 1 := hk.2.2.1.resolve_left (by omega)
  have e : (toL (h + 1) t).length = ((LT.sub h t).map fun k => (toL h k).length).sum + (LT.nd (h + 1) t).kv.length := by
    have := inter_len (Ks := (LT.sub h t).map (toL h)) (vs := (LT.nd (h + 1) t).kv) (by rw [List.length_map]; exact hl)
    rw [List.map_map] at this
    exact this
  have e2 : ∀ l : List (LT h), wtL h l = (l.map fun k => (toL h k).length).sum + l.length := by
    intro l
    induction l with
    | nil => rfl
    | cons a l ih => simp only [wtL, List.map_cons, List.sum_cons, List.length_cons] at ih ⊢; omega
  rw [e2, hl, e]; omega
theorem wtL_down {o h : Nat} : ∀ {ts : List (LT (h + 1))}, (∀ t ∈ ts, okN o 0 (h + 1) t) → wtL h (ts.flatMap (LT.sub h)) = wtL (h + 1) ts
  | [], _ => rfl
  | t :: ts, hk => by
    rw [List.flatMap_cons, wtL_app, wtL_kids (hk t (List.mem_cons_self ..)), wtL_down (fun x hx => hk x (List.mem_cons_of_mem _ hx))]
    simp [wtL]
theorem kids_ok {o h : Nat} {ts : List (LT (h + 1))} (hk : ∀ t ∈ ts, okN o 0 (h + 1) t) : ∀ t ∈ ts.flatMap (LT.sub h), okN o 0 h t := fun t ht => by
  obtain ⟨q, hq, htq⟩ := List.mem_flatMap.1 ht
  have := (hk q hq).2.2.2 t htq
  exact (okN_false.1 (show okT o h false t from this)).mono (Nat.zero_le _)
theorem shapeL_len : ∀ (h : Nat) (ts : List (LT h)), (shapeL h ts).length ≤ h + 1
  | _, [] => by rw [shapeL]; exact Nat.zero_le _
  | 0, _ :: _ => Nat.le_refl _
  | h + 1, t :: ts => by rw [shapeL, List.length_cons]; have := shapeL_len h ((t :: ts).flatMap (LT.sub h)); omega
theorem okT_h {o : Nat} (ho : 2 ≤ o) : ∀ {h : Nat} {r : Bool} {t : LT h}, okT o h r t → h ≤ (toL h t).length
  | 0, _, _, _ => Nat.zero_le _
  | h + 1, r, t, hk => by
    have hN : okN o 1 (h + 1) t := by
      cases r with
      | false => exact (okN_false.1 hk).mono (by omega)
      | true => exact okN_true.1 hk
    have hl : (LT.sub h t).length = (LT.nd (h + 1) t).kv.length + 1 := hN.2.2.1.resolve_left (by omega)
    have h1 := hN.2.1
    have hw := wtL_kids (hN.mono (Nat.zero_le _))
    cases hs : LT.sub h t with
    | nil => rw [hs] at hl; simp at hl
    | cons a b =>
      have ha : okT o h false a := hN.2.2.2 a (by show a ∈ LT.sub h t; rw [hs]; exact List.mem_cons_self ..)
      have ih := okT_h ho ha
      have hbl := wtL_len h b
      rw [hs] at hw hl
      simp only [wtL, List.map_cons, List.sum_cons, List.length_cons] at hw hl hbl
      omega
theorem kp_len {h : Nat} {o : Nat} {ts : List (LT h)} {n : Nat} (hk : ∀ t ∈ ts, okN o 0 h t) (hw : wtL h ts ≤ n) : (ts.flatMap (LT.kp h)).length ≤ n := by
  cases h with
  | zero =>
    have : ts.flatMap (LT.kp 0) = [] := by
      rw [List.flatMap_eq_nil_iff]; intro t _; rfl
    rw [this]; exact Nat.zero_le _
  | succ h =>
    have e : ts.flatMap (LT.kp (h + 1)) = (ts.flatMap (LT.sub h)).map (LT.p h) := by
      rw [List.map_flatMap]; rfl
    rw [e, List.length_map]
    have := wtL_len h (ts.flatMap (LT.sub h))
    rw [wtL_down hk] at this
    omega
abbrev lvS (p : Option Addr) (c : Nat) (ps : List Nat) : Assn := row (.slice p ps.length c) 95 1 ps.length (ps.map pV)
theorem shape_open {h : Nat} {ts K1 K2 : List (LT h)} {q : LT h} {A1 A2 A3 : Assn} {m : List Assn} {k : Piece} (hts : ts = K1 ++ q :: K2) (K : Has (A1 :: A2 :: A3 :: sepL (ts.map (treeA h)) :: m) k) : Has (treeL h q ++ (A1 :: A2 :: A3 :: sepL (K1.map (treeA h)) :: sepL (K2.map (treeA h)) :: m)) k := by
  subst hts
  have K1' : Has (sepL ((K1 ++ q :: K2).map (treeA h)) :: A1 :: A2 :: A3 :: m) k := Has.over (m := [A1, A2, A3]) K
  have K2' := Has.mid_out K1'
  have K3 := Has.openT K2'
  refine Has.cons_imp (fun _ K => Has.cons_imp (fun _ K => Has.cons_imp (fun _ K => Has.cons_imp (fun _ K => Has.cons_imp (fun _ K => ?_) K) K) K) K) K3
  exact Has.late (st := [sepL (K1.map (treeA h)), sepL (K2.map (treeA h))]) (m := [A1, A2, A3]) K
theorem shape_shut {h : Nat} {ts K1 K2 : List (LT h)} {q : LT h} {A1 A2 A3 : Assn} {m : List Assn} {k : Piece} (hts : ts = K1 ++ q :: K2) (K : Has (treeL h q ++ (A1 :: A2 :: A3 :: sepL (K1.map (treeA h)) :: sepL (K2.map (treeA h)) :: m)) k) : Has (A1 :: A2 :: A3 :: sepL (ts.map (treeA h)) :: m) k := by
  subst hts
  have K1' := Has.closeT K
  have K2' : Has (treeA h q :: sepL (K1.map (treeA h)) :: sepL (K2.map (treeA h)) :: A1 :: A2 :: A3 :: m) k := Has.cons_imp (fun _ K => Has.late (st := [A1, A2, A3]) (m := [sepL (K1.map (treeA h)), sepL (K2.map (treeA h))]) K) K1'
  exact Has.late (st := [_]) (m := [A1, A2, A3]) (Has.mid_in K2')
theorem shape_start {H g13 g o r n : Nat} {T0 : LT H} {F : List Assn} {k : Piece} (K : Has (blk g13 [pV (LT.p H T0)] 95 :: treeA H T0 :: trB g o r n :: F) k) : Has (lvS (some ⟨g13, 0, none⟩) 1 ([T0].map (LT.p H)) :: sepL ([T0].map (treeA H)) :: pu True :: outS none 0 [] :: shA [] :: trB g o r n :: F) k := by
  have K1 := Has.oneRow K
  refine Has.cons_imp (fun _ K => ?_) K1
  have K2 : Has (sepL [treeA H T0] :: trB g o r n :: F) _ := Has.close_sepL (l := [treeA H T0]) K
  exact Has.cons_imp (fun _ K => Has.close_pu trivial (Has.rowNil (Has.close_pu (p := True) trivial K))) K2
theorem shape_first {H : Nat} {T0 : LT H} {k : Piece} (K : Has [sepL ([T0].map (treeA H)), pu True] k) : Has [treeA H T0] k := by
  have K1 := Has.open_sepL (l := [treeA H T0]) K
  exact Has.cons_imp (fun _ K => K.tail) K1
theorem shape_next {h i : Nat} {ts K1 K2 : List (LT h)} {q : LT h} {p4 p5 pl : Option Addr} {c4 c5 cl : Nat} {m : List Assn} {k : Piece} (hts : ts = K1 ++ q :: K2) (htk : ts.take (i + 1) = ts.take i ++ [q])
    (K : Has (ndB (LT.nd h q) (LT.kp h q).length :: ndK (LT.nd h q) :: ndV (LT.nd h q) :: ndC (LT.nd h q) (LT.kp h q) :: restA h q :: row (.slice p4 (i + 1) c4) 3 1 (i + 1) (((ts.take i).map (LT.kl h)).map nI ++ [nI (LT.nd h q).kv.length]) :: row (.slice p5 ((ts.take (i + 1)).flatMap (LT.kp h)).length c5) 95 1 ((ts.take (i + 1)).flatMap (LT.kp h)).length (((ts.take i).flatMap (LT.kp h)).map pV ++ (LT.kp h q).map pV) :: lvS pl cl (ts.map (LT.p h)) :: sepL (K1.map (treeA h)) :: sepL (K2.map (treeA h)) :: m) k) :
    Has (row (.slice p4 (i + 1) c4) 3 1 (i + 1) (((ts.take (i + 1)).map (LT.kl h)).map nI) :: lvS p5 c5 ((ts.take (i + 1)).flatMap (LT.kp h)) :: lvS pl cl (ts.map (LT.p h)) :: sepL (ts.map (treeA h)) :: m) k := by
  have e1 : ((ts.take (i + 1)).map (LT.kl h)).map nI = ((ts.take i).map (LT.kl h)).map nI ++ [nI (LT.nd h q).kv.length] := by rw [htk]; simp
  have e2 : (ts.take (i + 1)).flatMap (LT.kp h) = (ts.take i).flatMap (LT.kp h) ++ LT.kp h q := by rw [htk]; simp
  have e3 : ((ts.take (i + 1)).flatMap (LT.kp h)).map pV = ((ts.take i).flatMap (LT.kp h)).map pV ++ (LT.kp h q).map pV := by rw [e2, List.map_append]
  rw [e1, lvS, e3]
  exact shape_shut hts K
theorem shape_level {H o h n : Nat} {T0 : LT H} {ts : List (LT h)} {R : Assn} {rs : List Rw} {pr : Option Addr} {cr : Nat} (hts : ∀ t ∈ ts, okN o 0 h t) (hwt : wtL h ts ≤ n) (hsh : rs.map (·.2.2) ++ shapeL h ts = shapeL H [T0]) (hR : Sub [sepL (ts.map (treeA h)), R] [treeA H T0]) (htl : 0 < ts.length) :
    ∃ (h' : Nat) (ts' : List (LT h')) (R' : Assn), (∀ t ∈ ts', okN o 0 h' t) ∧ wtL h' ts' ≤ n ∧ (rs ++ [((pr, cr, ts.map (LT.kl h)) : Rw)]).map (·.2.2) ++ shapeL h' ts' = shapeL H [T0] ∧ Sub [sepL (ts'.map (treeA h')), R'] [treeA H T0] ∧ ts.flatMap (LT.kp h) = ts'.map (LT.p h') ∧ (∀ m k, Has (sepL (ts.map (treeA h)) :: R :: m) k → Has (sepL (ts'.map (treeA h')) :: R' :: m) k) ∧ min ts'.length 1 * (h' + 1) < min ts.length 1 * (h + 1) := by
  obtain ⟨t, tl, rfl⟩ : ∃ t tl, ts = t :: tl := by cases ts with
    | nil => simp at htl
    | cons a b => exact ⟨a, b, rfl⟩
  have hm : min (t :: tl).length 1 = 1 := by rw [List.length_cons]; omega
  cases h with
  | zero =>
    refine ⟨0, [], sepL [sepL ((t :: tl).map (treeA 0)), R], (fun _ h => nomatch h), Nat.zero_le _, ?_, ?_, ?_, ?_, ?_⟩
    · rw [← hsh]; simp [shapeL]
    · exact fun k K => hR k (Has.open_sepL K.tail |> fun K => K)
    · rw [List.map_nil, List.flatMap_eq_nil_iff]; intro x _; rfl
    · intro m k K
      refine Has.close_pu (p := True) trivial ?_
      exact Has.close_sepL (l := [sepL ((t :: tl).map (treeA 0)), R]) K
    · rw [hm]; simp
  | succ h =>
    refine ⟨h, (t :: tl).flatMap (LT.sub h), sepL [sepL ((t :: tl).map (ownA (h + 1))), R], kids_ok hts, by rw [wtL_down hts]; exact hwt, ?_, ?_, ?_, ?_, ?_⟩
    · rw [← hsh, shapeL]; simp
    · intro k K
      refine hR k ?_
      have K1 : Has (sepL (((t :: tl).flatMap (LT.sub h)).map (treeA h)) :: sepL ((t :: tl).map (ownA (h + 1))) :: [R]) k := Has.cons_imp (fun _ K => Has.open_sepL (l := [sepL ((t :: tl).map (ownA (h + 1))), R]) K) K
      exact level_up K1
    · rw [List.map_flatMap]; rfl
    · intro m k K
      have K1 := level_down K
      exact Has.cons_imp (fun _ K => Has.close_sepL (l := [sepL ((t :: tl).map (ownA (h + 1))), R]) K) K1
    · rw [hm]
      have : min ((t :: tl).flatMap (LT.sub h)).length 1 ≤ 1 := Nat.min_le_right _ _
      have := Nat.mul_le_mul_right (h + 1) this
      omega
theorem shape_fin {h h' n : Nat} {ts : List (LT h)} {ts' : List (LT h')} {R R' : Assn} {rs : List Rw} {p6 pr pn : Option Addr} {c6 cr cn : Nat} {m : List Assn} {k : Piece} (hn : n = ts.length) (f : ∀ m k, Has (sepL (ts.map (treeA h)) :: R :: m) k → Has (sepL (ts'.map (treeA h')) :: R' :: m) k)
    (K : Has (sepL (ts.map (treeA h)) :: R :: row (.slice p6 (rs ++ [((pr, cr, ts.map (LT.kl h)) : Rw)]).length c6) 51 1 (rs ++ [((pr, cr, ts.map (LT.kl h)) : Rw)]).length (rs.map rwV ++ [.slice pr n cr]) :: shA rs :: row (.slice pr n cr) 3 1 n ((ts.map (LT.kl h)).map nI) :: lvS pn cn (ts'.map (LT.p h')) :: m) k) :
    Has (lvS pn cn (ts'.map (LT.p h')) :: sepL (ts'.map (treeA h')) :: R' :: outS p6 c6 (rs ++ [((pr, cr, ts.map (LT.kl h)) : Rw)]) :: shA (rs ++ [((pr, cr, ts.map (LT.kl h)) : Rw)]) :: m) k := by
  have K1 := f _ _ K
  have el : (ts.map (LT.kl h)).length = n := by rw [List.length_map, hn]
  have e2 : rs.map rwV ++ [.slice pr n cr] = (rs ++ [((pr, cr, ts.map (LT.kl h)) : Rw)]).map rwV := by simp [hn]
  rw [e2] at K1
  have K2 : Has (sepL (ts'.map (treeA h')) :: R' :: outS p6 c6 (rs ++ [((pr, cr, ts.map (LT.kl h)) : Rw)]) :: shA rs :: rwA (pr, cr, ts.map (LT.kl h)) :: lvS pn cn (ts'.map (LT.p h')) :: m) k := by
    unfold rwA rwV
    simp only [el]
    exact K1
  have K3 := Has.head K2 fun _ K => Has.head K fun _ K => Has.head K fun _ K => Has.cons_imp (fun _ K => Has.close_sepL (l := [rwA (pr, cr, ts.map (LT.kl h))]) K) K
  have K4 := Has.head K3 fun _ K => Has.head K fun _ K => Has.head K fun _ K => Has.sep_in K
  have e3 : rs.map rwA ++ [rwA (pr, cr, ts.map (LT.kl h))] = (rs ++ [((pr, cr, ts.map (LT.kl h)) : Rw)]).map rwA := by simp
  rw [e3] at K4
  exact Sub.any k K4
theorem shape_end {H h g o : Nat} {T0 : LT H} {L : List KV} {R : Assn} {rs : List Rw} {p : Option Addr} {c : Nat} {F : List Assn} {k : Piece} (hok : okT o H true T0) (hL : toL H T0 = L) (hu : Up L) (ho : 2 ≤ o) (ho2 : o ≤ 64) (hR : Sub [sepL (([] : List (LT h)).map (treeA h)), R] [treeA H T0])
    (K : Has (sepL (([] : List (LT h)).map (treeA h)) :: R :: trB g o (LT.p H T0) L.length :: outS p c rs :: shA rs :: F) k) : Has ([outS p c rs, shA rs, btA g o L] ++ F) k := by
  obtain ⟨k1, k2, d, a, b, K1, K2⟩ := Has.split (l := [sepL (([] : List (LT h)).map (treeA h)), R]) K
  have K3 := Has.join (l := [treeA H T0]) d a b (hR _ K1) K2
  have K4 := Has.bt_in hok hL hu ho ho2 (Has.swap K3)
  exact Has.late (st := [btA g o L]) (m := [outS p c rs, shA rs]) K4
set_option maxHeartbeats 4000000 in
set_option maxRecDepth 100000 in
theorem Bt.Shape (B : Base) (g o : Nat) (L : List KV) (hb : L.length < 2 ^ 38) : Fn Try.prog B 24 #[pV g] [btA g o L] (fun u l => ∃ (H : Nat) (T0 : LT H) (rs : List Rw) (p : Option Addr) (c : Nat), okT o H true T0 ∧ toL H T0 = L ∧ 2 ≤ o ∧ rs.map (·.2.2) = shapeL H [T0] ∧ u = .slice p rs.length c ∧ l = [outS p c rs, shA rs, btA g o L]) := by
 refine Fn.bt fun H T0 hok hL hu ho ho2 => ?_
 have hok0 : okN o 0 H T0 := (okN_rm.2 hok).mono (Nat.zero_le _)
 have hHL := okT_h ho hok
 rw [hL] at hHL
 refine Fn.enter1 44 Try.func24 rfl rfl (Nat.le_of_ble_eq_true rfl) (fun F => ?_)
 try simp only [List.cons_append, List.nil_append]
 refine T.seq ?_
 refine T.region ?_
 refine LW.q rfl (Qt.assign rfl) ?_
 refine LW.done ?_
 refine T.seq ?_
 refine T.region ?_
 refine LW.q rfl (Qt.assign rfl) ?_
 refine LW.done ?_
 refine T.seq ?_
 refine T.seq ?_
 refine T.region ?_
 refine LW.q rfl (Qt.move rfl) ?_
 refine LW.q rfl (Qt.nilCheck rfl) ?_
 refine LW.q rfl (Qt.fieldAddr (off := 1) (by kernel_rfl) rfl) ?_
 first | refine LW.q rfl (Qt.load (by kernel_rfl) rfl rfl) ?_ | refine LW.q rfl (Qt.load (by kernel_rfl) rfl (map_at _ _ _ (by omega))) ?_ | refine LW.q rfl (Qt.load (by kernel_rfl) rfl (flat_cell0 _ _ _ (by intros; rfl) _ (by omega) (by rfl))) ?_ | refine LW.q rfl (Qt.load (by kernel_rfl) rfl (flat_cell _ _ _ (by intros; rfl) _ _ (by omega) (by rfl))) ?_ | refine LW.q rfl (Qt.load (by kernel_rfl) rfl (bytes_at _ _ (by omega))) ?_
 refine LW.e rfl (Ef.one [_] (e := 95) (sz := 1) (by kernel_rfl) ⟨.pointer none, by kernel_rfl, rfl⟩ rfl rfl rfl (by omega) (by omega) ?_)
 intro g13
 refine LW.q rfl (Qt.assign rfl) ?_
 refine LW.done ?_
 refine T.block ?_
 refine T.conv (l' := lvS (some ⟨g13, 0, none⟩) 1 ([T0].map (LT.p H)) :: sepL ([T0].map (treeA H)) :: pu True :: outS none 0 [] :: shA [] :: trB g o (LT.p H T0) L.length :: F) (fun w ho => ho.map fun k K => shape_start (Sub.any k K)) ?_
 refine T.loop (fun mz fz lz => ∃ (f0 : Fr) (h : Nat) (ts : List (LT h)) (R : Assn) (rs : List Rw) (p : Option Addr) (c : Nat) (pl : Option Addr) (cl : Nat), ((∀ t ∈ ts, okN o 0 h t) ∧ (wtL h ts ≤ L.length + 1) ∧ rs.map (·.2.2) ++ shapeL h ts = shapeL H [T0] ∧ Sub [sepL (ts.map (treeA h)), R] [treeA H T0]) ∧ mz = min ts.length 1 * (h + 1) ∧ fz = (upd (upd f0 3 (.slice p rs.length c)) 4 (.slice pl (ts.map (LT.p h)).length cl)) ∧ lz = lvS pl cl (ts.map (LT.p h)) :: sepL (ts.map (treeA h)) :: R :: outS p c rs :: shA rs :: trB g o (LT.p H T0) L.length :: F) ?_ ?_
 · refine ⟨_, _, ⟨_, H, [T0], pu True, [], none, 0, some ⟨g13, 0, none⟩, 1, ⟨fun t ht => by rw [List.mem_singleton.1 ht]; exact hok0, by simp [wtL, hL], rfl, fun k K => shape_first K⟩, rfl, (updS rfl (updS rfl rfl)), rfl⟩, Sub.any⟩
 ·
  rintro mz fz lz ⟨f0, h, ts, R, rs, p, c, pl, cl, ⟨hts, hwt, hsh, hR⟩, hmz, rfl, rfl⟩
  subst mz
  try simp only [List.cons_append, List.nil_append]
  refine T.seq ?_
  refine T.seq ?_
  refine T.region ?_
  refine LW.q rfl (Qt.move rfl) ?_
  refine LW.q rfl (Qt.len (e := 95) (sz := 1) (by kernel_rfl) rfl) ?_
  refine LW.q rfl (Qt.gtr rfl rfl) ?_
  refine LW.done ?_
  refine T.condP rfl (fun hne => ?_) (fun hne => ?_)
  ·
   have htl : 0 < ts.length := by rw [List.length_map] at hne; omega
   have htl2 := wtL_len h ts
   refine T.conv (l' := row (.slice none 0 0) 3 1 0 (((ts.take 0).map (LT.kl h)).map nI) :: lvS none 0 ((ts.take 0).flatMap (LT.kp h)) :: lvS pl cl (ts.map (LT.p h)) :: sepL (ts.map (treeA h)) :: R :: outS p c rs :: shA rs :: trB g o (LT.p H T0) L.length :: F) (fun w ho => ho.map fun k K => Has.rowNil (Has.rowNil K)) ?_
   refine T.skip ?_
   refine T.block ?_
   refine T.seq ?_
   refine T.region ?_
   refine LW.q rfl (Qt.assign rfl) ?_
   refine LW.done ?_
   refine T.seq ?_
   refine T.region ?_
   refine LW.q rfl (Qt.assign rfl) ?_
   refine LW.done ?_
   refine T.seq ?_
   refine T.seq ?_
   refine T.region ?_
   refine LW.q rfl (Qt.move rfl) ?_
   refine LW.q rfl (Qt.len (e := 95) (sz := 1) (by kernel_rfl) rfl) ?_
   refine LW.q rfl (Qt.move rfl) ?_
   refine LW.done ?_
   refine T.block ?_
   refine T.loop (fun mz fz lz => ∃ (f0 : Fr) (i : Nat) (pr : Option Addr) (cr : Nat) (pn : Option Addr) (cn : Nat), (i ≤ ts.length) ∧ mz = ts.length - i ∧ fz = (upd (upd (upd (upd (upd (upd f0 3 (.slice p rs.length c)) 5 (.slice pr i cr)) 6 (.slice pn ((ts.take i).flatMap (LT.kp h)).length cn)) 17 (.slice pl (ts.map (LT.p h)).length cl)) 18 (.int .i64 (ts.map (LT.p h)).length)) 19 (.int .i64 i)) ∧ lz = row (.slice pr i cr) 3 1 i (((ts.take i).map (LT.kl h)).map nI) :: lvS pn cn ((ts.take i).flatMap (LT.kp h)) :: lvS pl cl (ts.map (LT.p h)) :: sepL (ts.map (treeA h)) :: R :: outS p c rs :: shA rs :: trB g o (LT.p H T0) L.length :: F) ?_ ?_
   · refine ⟨_, _, ⟨_, 0, none, 0, none, 0, Nat.zero_le _, rfl, (updS rfl (updS rfl (updS rfl (updS rfl (updS rfl (updS rfl rfl)))))), rfl⟩, Sub.any⟩
   ·
    rintro mz fz lz ⟨f0, i, pr, cr, pn, cn, hi, hmz, rfl, rfl⟩
    subst mz
    try simp only [List.cons_append, List.nil_append]
    refine T.seq ?_
    refine T.region ?_
    refine LW.q rfl (Qt.lss rfl rfl) ?_
    refine LW.done ?_
    refine T.seq ?_
    refine T.condP rfl (fun hlt => ?_) (fun hlt => ?_)
    ·
     have hlt' : i < ts.length := by rw [List.length_map] at hlt; omega
     obtain ⟨K1, q, K2, hks, hK1⟩ : ∃ K1 q K2, ts = K1 ++ q :: K2 ∧ K1.length = i := ⟨ts.take i, ts[i], ts.drop (i + 1), by rw [List.getElem_cons_drop, List.take_append_drop], by simp; omega⟩
     have htk : ts.take (i + 1) = ts.take i ++ [q] := by rw [List.take_add_one, hks, ← hK1]; simp
     have hpr : (ts.map (LT.p h))[i]? = some (LT.p h q) := by rw [hks, ← hK1]; simp
     have hkb := kp_len (ts := ts.take (i + 1)) (o := o) (n := L.length + 1) (fun t ht => hts t (List.mem_of_mem_take ht)) (by have := wtL_app h (ts.take (i + 1)) (ts.drop (i + 1)); rw [List.take_append_drop] at this; omega)
     rw [htk, List.flatMap_append] at hkb
     simp only [List.flatMap_cons, List.flatMap_nil, List.append_nil, List.length_append] at hkb
     refine T.own fun w0 ho0 => ?_
     obtain ⟨gl, rfl⟩ := (ho0.slice_at (p := pl) (m := (ts.map (LT.p h)).length) (c := cl) (k := (ts.map (LT.p h)).length)).2.1 (by rw [List.length_map]; omega)
     clear ho0
     refine T.conv (fun w ho => ho.map fun k K => shape_open hks K) ?_
     simp only [treeL, List.cons_append, List.nil_append]
     refine T.skip ?_
     refine T.seq ?_
     refine T.block ?_
     refine T.seq ?_
     refine T.region ?_
     refine LW.q rfl (Qt.index i (e := 95) (sz := 1) (by kernel_rfl) rfl rfl rfl (by rw [List.length_map]; omega)) ?_
     refine LW.q rfl (Qt.load (v := pV (LT.p h q)) (by kernel_rfl) rfl (by simp [hks, ← hK1])) ?_
     refine LW.q rfl (Qt.assign rfl) ?_
     refine LW.done ?_
     refine T.seq ?_
     refine T.region ?_
     refine LW.q rfl (Qt.move rfl) ?_
     refine LW.q rfl (Qt.move rfl) ?_
     refine LW.q rfl (Qt.nilCheck rfl) ?_
     refine LW.q rfl (Qt.fieldAddr0 (by kernel_rfl) rfl) ?_
     first | refine LW.q rfl (Qt.load (by kernel_rfl) rfl rfl) ?_ | refine LW.q rfl (Qt.load (by kernel_rfl) rfl (map_at _ _ _ (by omega))) ?_ | refine LW.q rfl (Qt.load (by kernel_rfl) rfl (flat_cell0 _ _ _ (by intros; rfl) _ (by omega) (by rfl))) ?_ | refine LW.q rfl (Qt.load (by kernel_rfl) rfl (flat_cell _ _ _ (by intros; rfl) _ _ (by omega) (by rfl))) ?_ | refine LW.q rfl (Qt.load (by kernel_rfl) rfl (bytes_at _ _ (by omega))) ?_
     refine LW.q rfl (Qt.len (e := 9) (sz := 1) (by kernel_rfl) rfl) ?_
     refine LW.e rfl (Ef.one [_] (e := 3) (sz := 1) (by kernel_rfl) ⟨.int .i64 0, by kernel_rfl, rfl⟩ rfl rfl rfl (by omega) (by omega) ?_)
     intro g29
     refine LW.e rfl (Ef.append Sh.elemI rfl rfl (SrcOf.blk (by kernel_rfl) rfl (by simp [Value.oneCell'])) (by unfold maxLen; omega) (by omega) ?_)
     rintro p4 c4 hp4
     try simp only [List.cons_append, List.nil_append]
     refine LW.q rfl (Qt.assign rfl) ?_
     refine LW.done ?_
     refine T.region ?_
     refine LW.q rfl (Qt.move rfl) ?_
     refine LW.q rfl (Qt.move rfl) ?_
     refine LW.q rfl (Qt.nilCheck rfl) ?_
     refine LW.q rfl (Qt.fieldAddr (off := 2) (by kernel_rfl) rfl) ?_
     first | refine LW.q rfl (Qt.load (by kernel_rfl) rfl rfl) ?_ | refine LW.q rfl (Qt.load (by kernel_rfl) rfl (map_at _ _ _ (by omega))) ?_ | refine LW.q rfl (Qt.load (by kernel_rfl) rfl (flat_cell0 _ _ _ (by intros; rfl) _ (by omega) (by rfl))) ?_ | refine LW.q rfl (Qt.load (by kernel_rfl) rfl (flat_cell _ _ _ (by intros; rfl) _ _ (by omega) (by rfl))) ?_ | refine LW.q rfl (Qt.load (by kernel_rfl) rfl (bytes_at _ _ (by omega))) ?_
     refine LW.e rfl (Ef.append Lb.elemN rfl rfl (SrcOf.row (by kernel_rfl) one_pV) (by unfold maxLen; omega) (by omega) ?_)
     rintro p5 c5 hp5
     try simp only [List.cons_append, List.nil_append]
     rw [show ((ts.take i).flatMap (LT.kp h)).length + (LT.kp h q).length = ((ts.take (i + 1)).flatMap (LT.kp h)).length by rw [htk]; simp]
     refine LW.q rfl (Qt.assign rfl) ?_
     refine LW.done ?_
     refine T.region ?_
     refine LW.q rfl (Qt.add rfl rfl (wr64 (by omega) (by omega))) ?_
     refine LW.q rfl (Qt.move rfl) ?_
     refine LW.done ?_
     refine ⟨_, ?_, _, ⟨_, i + 1, p4, c4, p5, c5, hlt', rfl, (updS rfl (updS rfl (updS rfl (updS rfl (updS rfl (updS rfl rfl)))))), rfl⟩, (fun k K => shape_next hks htk (Sub.any k K))⟩
     first | omega | (simp; omega)
    ·
     have hie : i = ts.length := by rw [List.length_map] at hlt; omega
     subst hie
     rw [List.take_length]
     have hrl : rs.length ≤ H + 1 := by have := congrArg List.length hsh; have h2 := shapeL_len H [T0]; simp at this; omega
     refine T.exit ?_
     refine T.seq ?_
     refine T.region ?_
     refine LW.q rfl (Qt.move rfl) ?_
     refine LW.q rfl (Qt.move rfl) ?_
     refine LW.e rfl (Ef.one [_] (e := 51) (sz := 1) (by kernel_rfl) ⟨.slice none 0 0, by kernel_rfl, rfl⟩ rfl rfl rfl (by omega) (by omega) ?_)
     intro g40
     refine LW.e rfl (Ef.append Sh.elemR rfl rfl (SrcOf.blk (by kernel_rfl) rfl (by simp [Value.oneCell'])) (by unfold maxLen; omega) (by omega) ?_)
     rintro p6 c6 hp6
     try simp only [List.cons_append, List.nil_append]
     rw [show rs.length + 1 = (rs ++ [((pr, cr, ts.map (LT.kl h)) : Rw)]).length by simp]
     refine LW.q rfl (Qt.assign rfl) ?_
     refine LW.done ?_
     refine T.region ?_
     refine LW.q rfl (Qt.move rfl) ?_
     refine LW.q rfl (Qt.assign rfl) ?_
     refine LW.done ?_
     obtain ⟨h', ts', R', f1, f2, f3, f4, f5, f6, f7⟩ := shape_level (T0 := T0) (pr := pr) (cr := cr) hts hwt hsh hR htl
     rw [f5]
     refine ⟨_, ?_, _, ⟨_, h', ts', R', rs ++ [(pr, cr, ts.map (LT.kl h))], p6, c6, pn, cn, ⟨f1, f2, f3, f4⟩, rfl, (updS rfl (updS rfl rfl)), rfl⟩, (fun k K => shape_fin rfl f6 (Sub.any k K))⟩
     first | omega | (simp; omega)
  ·
   have htl : ts = [] := List.eq_nil_of_length_eq_zero (by rw [List.length_map] at hne; omega)
   subst htl
   refine T.exit ?_
   refine T.seq ?_
   refine T.region ?_
   refine LW.q rfl (Qt.move rfl) ?_
   refine LW.q rfl (Qt.assign rfl) ?_
   refine LW.done ?_
   refine T.ret ?_
   exact ⟨.inl rfl, _, _, res [_] rfl ⟨rvT rfl, trivial⟩, ⟨H, T0, rs, p, c, hok, hL, ho, by rw [← hsh]; simp [shapeL], rfl, rfl⟩, (fun k K => shape_end hok hL hu ho ho2 hR (Sub.any k K))⟩
end Go.Proofs.Ytefognjcognknaa

/- btree's laws: the document's Right. Conditions: sizes. -/
set_option linter.unusedSimpArgs false
set_option linter.unusedVariables false
namespace Go.Proofs.Ytefognjcognknaa
open Go.RowKit
end Go.Proofs.Ytefognjcognknaa

/- btree's laws: BtreePlays. Conditions: sizes; that the script can be read. -/
set_option linter.unusedSimpArgs false
set_option linter.unusedVariables false
namespace Go.Proofs.Ytefognjcognknaa
open Go.RowKit
end Go.Proofs.Ytefognjcognknaa
