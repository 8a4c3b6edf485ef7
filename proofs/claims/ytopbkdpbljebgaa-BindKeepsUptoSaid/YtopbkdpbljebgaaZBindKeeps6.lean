/- The texts BeD BeE, one behind the other: what the law leans on. Conditions: as each theorem says. -/
import Derived.Test.YtopbkdpbljebgaaZBindKeeps5
import Derived.Laws.StructEq
/- The laws of bind: values compared; what is bound is of the right form; BindKeeps. Conditions: that what is handed in can be read; sizes. -/
set_option linter.unusedSimpArgs false
set_option linter.unusedVariables false
namespace Go.Proofs.Ytopbkdpbljebgaa
open Go.RowKit

instance : DecidableEq Va := fun a b => decidable_of_iff (a.kind = b.kind ∧ a.int = b.int ∧ a.text = b.text) (by cases a; cases b; simp)
theorem Va.eq_bool (a b : Va) : decide (a = b) = ((a.kind == b.kind) && ((a.int == b.int) && (a.text == b.text))) := by
  cases a; cases b
  simp only [Va.mk.injEq]
  rw [Bool.eq_iff_iff]
  simp
section
variable {B : Base} {n : Nat} {S l r : List Assn} {f : Fr}
variable {d : Option Tmp} {ty : TypeId} {pos : String} {af : Array Edge} {gd : Option (Nat × Bool)}
theorem run_eqVa (w : World) (a b : Va) : (Op.equalIn 10000 55 (vA a) (vA b)).run Try.prog w = .ok (decide (a = b)) w := by
  have hf : Try.prog.fieldsOf 55 = Try.prog.fieldsOf 55 := rfl
  rw [run_equalIn_struct w 9999 55 _ _ (by kernel_rfl) (by kernel_rfl)]
  rw [Va.eq_bool]
  have h0 : Try.prog.underlying 3 = some (.int .i64) := Try.underlying3
  have h1 : Try.prog.underlying 2 = some (.int .i64) := Try.underlying2
  have h2 : Try.prog.underlying 9 = some .string := Try.underlying9
  have e : (Try.prog.fieldsOf 55).toList.map (fun f => (f.type, f.offset, decide (f.name ≠ "_"))) = [(3, 0, true), (2, 1, true), (9, 2, true)] := by kernel_rfl
  generalize (Try.prog.fieldsOf 55).toList = L at e ⊢
  obtain ⟨f0, f1, f2, rfl⟩ : ∃ f0 f1 f2, L = [f0, f1, f2] := by
    have hlen : L.length = 3 := by have := congrArg List.length e; simpa using this
    match L, hlen with
    | [a, b, c], _ => exact ⟨a, b, c, rfl⟩
  · skip
    simp only [List.map_cons, List.map_nil, List.cons.injEq, Prod.mk.injEq, and_true, decide_eq_true_eq] at e
    obtain ⟨⟨a0, a1, a2⟩, ⟨b0, b1, b2⟩, ⟨c0, c1, c2⟩⟩ := e
    have p0 : ∀ v : Va, (part 3 (vaC v).toArray 0).run Try.prog w = .ok (iV v.kind) w := fun v => by simp [part, isAgg, run_underlying h0]
    have p1 : ∀ v : Va, (part 2 (vaC v).toArray 1).run Try.prog w = .ok (iV v.int) w := fun v => by simp [part, isAgg, run_underlying h1]
    have p2 : ∀ v : Va, (part 9 (vaC v).toArray 2).run Try.prog w = .ok (tV v.text) w := fun v => by simp [part, isAgg, run_underlying h2]
    simp only [Op.eqFields, a0, a1, b0, b1, c0, c1, a2, b2, c2, if_true, ne_eq, not_false_eq_true, Sem.run_bind, p0, p1, p2, Result.andThen_ok]
    rw [run_equalIn_int w 9998 _ _ _ _ _ h0]
    simp only [Result.andThen_ok]
    cases (a.kind == b.kind)
    · simp
    · simp only [Bool.not_true, Bool.false_eq_true, if_false, Sem.run_bind, p1, p2, Result.andThen_ok]
      rw [run_equalIn_int w 9998 _ _ _ _ _ h1]
      simp only [Result.andThen_ok]
      cases (a.int == b.int)
      · simp
      · simp only [Bool.not_true, Bool.false_eq_true, if_false, Sem.run_bind, p2, Result.andThen_ok]
        rw [run_equalIn_string w 9998 _ _ _ h2]
        simp only [Result.andThen_ok, strOf_toList]
        cases (a.text == b.text) <;> simp
theorem Qt.eqlVa {t2 : TypeId} {x y : Operand} (a b : Va) (hx : ev n f x = some (vA a)) (hy : ev n f y = some (vA b)) : Qt Try.prog B n S ⟨d, .binOp .eql 55 x y t2, ty, pos, af, gd⟩ f (.bool (decide (a = b))) := ⟨fun w _ => by
  have hg := run_eqGuard_agg (P := Try.prog) w .eql 55 x y (vaC a).toArray (vaC b).toArray (by kernel_rfl)
  have hr := run_eql_struct (P := Try.prog) w 55 (vaC a).toArray (vaC b).toArray
  have hE := run_eqVa w a b
  simp only [execOp, evu_eq hx, evu_eq hy, Sem.run_bind, hg, hr, hE, Result.andThen_ok, Sem.run_pure]⟩
theorem Qt.neqVa {t2 : TypeId} {x y : Operand} (a b : Va) (hx : ev n f x = some (vA a)) (hy : ev n f y = some (vA b)) : Qt Try.prog B n S ⟨d, .binOp .neq 55 x y t2, ty, pos, af, gd⟩ f (.bool (!decide (a = b))) := ⟨fun w _ => by
  have hg := run_eqGuard_agg (P := Try.prog) w .neq 55 x y (vaC a).toArray (vaC b).toArray (by kernel_rfl)
  have hr := run_neq_struct (P := Try.prog) w 55 (vaC a).toArray (vaC b).toArray
  have hE := run_eqVa w a b
  simp only [execOp, evu_eq hx, evu_eq hy, Sem.run_bind, hg, hr, hE, Result.andThen_ok, Sem.run_pure]⟩
theorem SrcOf.fl {P : Program} {α : Type} {g : α → List Value} {tx sz m : Nat} {v : Value} {x : List α} (h : FlV B l g v x) (hk : sliceZ P tx sz = true) (hg : ∀ a, (g a).length = sz) (hm : x.length = m) (h1 : ∀ u ∈ x.flatMap g, u.oneCell' = true) : SrcOf P B l sz tx v m (x.flatMap g) := ⟨fun w ho => by
  obtain ⟨e, he⟩ := sliceZ_spec hk
  subst hm
  obtain ⟨a, c, rfl, h⟩ := h
  have hl : ∀ y : List α, (y.flatMap g).length = y.length * sz := fun y => by
    induction y with
    | nil => simp
    | cons a y ih => rw [List.flatMap_cons, List.length_append, hg, ih, List.length_cons, Nat.add_mul]; omega
  rcases h with rfl | ⟨b, o, rfl, h⟩
  · cases a with
    | none => exact Src.ofNil w he c
    | some a => exact Src.ofSlice w he a 0 c [] (by simp) (by simp) (by simp)
  · exact Src.ofSlice w he ⟨b, o, none⟩ _ c (x.flatMap g) (hl x) (fun j u hj => by rw [Addr.add_mid]; exact h w ho j u hj) h1⟩
theorem FlV.init {α : Type} {g : α → List Value} {a : Option Addr} {m c : Nat} {x y : List α} (c' : Nat) (h : FlV B S g (.slice a m c) (x ++ y)) : FlV B S g (.slice a x.length c') x := by
  obtain ⟨a', k, e, h⟩ := h
  injection e with e1 e2 e3
  subst e1
  refine ⟨a, c', rfl, ?_⟩
  rcases h with h | ⟨b, o, rfl, h⟩
  · exact .inl (List.append_eq_nil_iff.1 h).1
  · refine .inr ⟨b, o, rfl, fun w ho j v hv => h w ho j v ?_⟩
    rw [List.flatMap_append, List.getElem?_append_left (List.getElem?_eq_some_iff.1 hv).1]
    exact hv
end
theorem vaC_one : ∀ (x : List Va), ∀ u ∈ x.flatMap vaC, u.oneCell' = true := fun x u hu => by
  obtain ⟨v, _, hv⟩ := List.mem_flatMap.1 hu
  simp at hv
  rcases hv with rfl | rfl | rfl <;> rfl

/-! what is bound is of the right form -/
theorem kindP_len {op : Str} {ks : List Int} (h : (kindP op ks).2 = true) : (ks.length = 1 ∧ (op = sNot ∨ op = [45])) ∨ (ks.length = 2 ∧ op ≠ sNot ∧ op ≠ sVal ∧ op ≠ sCol) := by
  unfold kindP at h
  split at h
  · rename_i h1
    simp only [Bool.and_eq_true, decide_eq_true_eq] at h
    right
    refine ⟨by omega, ?_, ?_, ?_⟩ <;> rintro rfl <;> simp at h1
  · split at h
    · rename_i h1
      simp only [Bool.and_eq_true, decide_eq_true_eq] at h
      exact .inl ⟨by omega, .inl h1⟩
    · split at h
      · rename_i h1
        simp only [Bool.and_eq_true, decide_eq_true_eq] at h
        right
        refine ⟨by omega, ?_, ?_, ?_⟩ <;> rintro rfl <;> simp [cmpOp] at h1
      · split at h
        · rename_i h1
          simp only [Bool.and_eq_true, Bool.or_eq_true, decide_eq_true_eq] at h
          rcases h.1 with h2 | h2
          · exact .inl ⟨by omega, .inr h1⟩
          · right
            refine ⟨by omega, ?_, ?_, ?_⟩ <;> rintro rfl <;> simp at h1
        · split at h
          · rename_i h1
            simp only [Bool.and_eq_true, decide_eq_true_eq] at h
            right
            refine ⟨by omega, ?_, ?_, ?_⟩ <;> rintro rfl <;> simp at h1
          · cases h
mutual
theorem bindE_ok (sc : List Co) : ∀ (e : Ex) (t : Tm), bindE sc e = .ok t → TmOk t
  | .mk op n text of args, t, h => by
    rw [bindE] at h
    split at h
    · injection h with h; subst h; exact .val _ _ _
    · split at h
      · split at h
        · cases h
        · injection h with h; subst h; exact .val _ _ _
      · split at h
        · split at h
          · cases h
          · injection h with h; subst h; exact .col _ _ _
        · cases hb : bindL sc args with
          | error c => rw [hb] at h; cases h
          | ok ts =>
            rw [hb] at h
            dsimp only at h
            split at h
            · rename_i hk
              injection h with h
              subst h
              have hall := bindL_ok' sc args ts hb
              rcases kindP_len hk with ⟨h1, h2⟩ | ⟨h1, h2, h3, h4⟩
              · rw [List.length_map] at h1
                match ts, h1 with
                | [t], _ => exact .one op _ _ _ t (by rcases h2 with rfl | rfl <;> decide) (by rcases h2 with rfl | rfl <;> decide) (by rcases h2 with rfl | rfl <;> decide) (hall t (by simp))
              · rw [List.length_map] at h1
                match ts, h1 with
                | [t, u], _ => exact .two op _ _ _ t u h3 h4 h2 (hall t (by simp)) (hall u (by simp))
            · cases h
theorem bindL_ok' (sc : List Co) : ∀ (es : List Ex) (ts : List Tm), bindL sc es = .ok ts → ∀ t ∈ ts, TmOk t
  | [], ts, h => by rw [bindL] at h; injection h with h; subst h; intro t ht; cases ht
  | e :: es, ts, h => by
    rw [bindL] at h
    cases hb : bindE sc e with
    | error c => rw [hb] at h; cases h
    | ok t =>
      rw [hb] at h
      dsimp only at h
      cases hl : bindL sc es with
      | error c => rw [hl] at h; cases h
      | ok us =>
        rw [hl] at h
        injection h with h
        subst h
        intro u hu
        rcases List.mem_cons.1 hu with rfl | hu
        · exact bindE_ok sc e _ hb
        · exact bindL_ok' sc es us hl u hu
end
mutual
theorem parts_le (sc : List Co) : ∀ (e : Ex) (t : Tm), bindE sc e = .ok t → (partsT t).length ≤ exSz e
  | .mk op n text of args, t, h => by
    rw [bindE] at h
    rw [exSz]
    have one : ∀ op k v p, op ≠ sAnd → (partsT (.mk op k v p [])).length = 1 := fun op k v p h => by rw [partsT.eq_def]; dsimp only; rw [if_neg h]; rfl
    split at h
    · injection h with h; subst h; rw [one _ _ _ _ (by decide)]; omega
    · split at h
      · split at h
        · cases h
        · injection h with h; subst h; rw [one _ _ _ _ (by decide)]; omega
      · split at h
        · split at h
          · cases h
          · injection h with h; subst h; rw [one _ _ _ _ (by decide)]; omega
        · cases hb : bindL sc args with
          | error c => rw [hb] at h; cases h
          | ok ts =>
            rw [hb] at h
            dsimp only at h
            split at h
            · injection h with h
              subst h
              have hall := partsL_le sc args ts hb
              rw [partsT.eq_def]
              dsimp only
              split
              · match ts, hall with
                | [], _ => simp
                | [t], _ => simp
                | t :: u :: r, hall =>
                  simp only [List.map_cons, List.sum_cons, List.length_append] at hall ⊢
                  omega
              · simp
            · cases h
theorem partsL_le (sc : List Co) : ∀ (es : List Ex) (ts : List Tm), bindL sc es = .ok ts → (ts.map fun t => (partsT t).length).sum ≤ exSzL es
  | [], ts, h => by rw [bindL] at h; injection h with h; subst h; simp
  | e :: es, ts, h => by
    rw [bindL] at h
    rw [exSzL]
    cases hb : bindE sc e with
    | error c => rw [hb] at h; cases h
    | ok t =>
      rw [hb] at h
      dsimp only at h
      cases hl : bindL sc es with
      | error c => rw [hl] at h; cases h
      | ok us =>
        rw [hl] at h
        injection h with h
        subst h
        have h1 := parts_le sc e t hb
        have h2 := partsL_le sc es us hl
        simp only [List.map_cons, List.sum_cons]
        omega
end
end Go.Proofs.Ytopbkdpbljebgaa

/- The laws of bind: BindKeeps. Conditions: that what is handed in can be read; sizes. -/
set_option linter.unusedSimpArgs false
set_option linter.unusedVariables false
namespace Go.Proofs.Ytopbkdpbljebgaa
open Go.RowKit

theorem Be.elemV : ElemOk Try.prog 43 55 3 32 := .mk' (.agg #[.int .i64 0, .int .i64 0, .string .empty]) Try.underlying43 (by kernel_rfl) rfl (by omega)
abbrev v77 : Va := ⟨77, 0, []⟩
theorem flat_set {α : Type} {g : α → List Value} {sz : Nat} (hg : ∀ a, (g a).length = sz) : ∀ (l : List α) (i k : Nat) (x y : α) (v : Value), l[i]? = some x → k < sz → (g x).set k v = g y → (l.flatMap g).set (i * sz + k) v = (l.set i y).flatMap g
  | [], _, _, _, _, _, h, _, _ => by simp at h
  | a :: l, 0, k, x, y, v, h, hk, hy => by
    simp at h; subst h
    rw [List.flatMap_cons, Nat.zero_mul, Nat.zero_add, List.set_append_left _ _ (by rw [hg]; exact hk), hy]
    rfl
  | a :: l, i + 1, k, x, y, v, h, hk, hy => by
    have := flat_set hg l i k x y v (by simpa using h) hk hy
    rw [List.flatMap_cons, List.set_append_right _ _ (by rw [hg, Nat.add_mul]; omega), hg]
    rw [show (i + 1) * sz + k - sz = i * sz + k by rw [Nat.add_mul]; omega, this]
    rfl
theorem flat_lenO {α : Type} {g : α → List Value} {sz : Nat} (hg : ∀ a, (g a).length = sz) (l : List α) : (l.flatMap g).length = l.length * sz := by
  induction l with
  | nil => simp
  | cons a l ih => rw [List.flatMap_cons, List.length_append, hg, ih, List.length_cons, Nat.add_mul]; omega
theorem Be.kindZ (B : Base) : Fn Try.prog B 17 #[tA zC] [] (fun u l => u = iV 0 ∧ l = []) := Bd.kindF B (.mk [] 0 vZ 0 []) [] zC (TmV.leaf B [] [] 0 vZ 0)
set_option maxHeartbeats 4000000 in
set_option maxRecDepth 20000 in
theorem Be.bindKeeps (B : Base) (e : Ex) (ce : C5) (he : ExV B [] e ce) (hsz : exSz e < 2 ^ 30) (tv : Value) (ts : List Tb) (h : TbV B [] tv ts) (hn : ts.length < 2 ^ 32) (hc : (ts.map fun t => t.cols.length).sum < 2 ^ 30)
  (ra : Option Addr) (m rc : Nat) (rs : List Va) (hr : FlV B [] vaC (.slice ra m rc) rs) (hm : rs.length = m) (hmn : m < 2 ^ 30) : Fn Try.prog B 5 #[eA ce, tv, .slice ra m rc] [] (fun u l => u = .bool true ∧ l = []) := by
 have hsl : (scopeP ts).length < 2 ^ 30 := by
  have := scopeP_len (l := ts) ts.length
  rw [List.take_length] at this
  omega
 obtain ⟨op, en, text, of, ea, em, ec, rfl⟩ := he.form
 refine Fn.enter3 104 Try.func5 rfl rfl (Nat.le_of_ble_eq_true rfl) (fun F => ?_)
 try simp only [List.cons_append, List.nil_append]
 refine T.seq ?_
 refine T.region ?_
 refine LW.e rfl (Ef.box [_, _, _, _, _] rfl rfl ?_)
 intro g3
 refine LW.q rfl (Qt.assign rfl) ?_
 refine LW.done ?_
 refine T.seq ?_
 refine T.seq ?_
 refine T.region ?_
 refine LW.e rfl (Ef.call (Be.awake B) Try.func7 rfl rfl rfl ?_)
 rintro _ _ ⟨rfl, rfl⟩
 try simp only [List.cons_append, List.nil_append]
 first | refine LW.q rfl (Qt.notP rfl) ?_ | refine LW.q rfl (Qt.notB rfl) ?_
 refine LW.done ?_
 first | refine T.condF rfl ?_ | refine T.condPF rfl (rfl) ?_ | refine T.condBF rfl (rfl) ?_
 refine T.skip ?_
 refine T.seq ?_
 refine T.region ?_
 refine LW.e rfl (Ef.empty Be.elemV ?_)
 rintro g19
 try simp only [List.cons_append, List.nil_append]
 refine LW.q rfl (Qt.move rfl) ?_
 refine LW.e rfl (Ef.append Be.elemV rfl rfl (SrcOf.fl (hr.mono fun w ho => ho.map fun _ _ => trivial) (by kernel_rfl) (fun _ => rfl) hm (vaC_one rs)) (by unfold maxLen; omega) (by omega) ?_)
 rintro p1 c1 hp1
 try simp only [List.cons_append, List.nil_append]
 simp only [List.nil_append, Nat.zero_add] at hp1 ⊢
 refine LW.q rfl (Qt.build [(0, 1), (1, 1), (2, 1)] [.int .i64 0, .int .i64 0, .string .empty] [_, _, _] [(0, _)] (by kernel_rfl) (by unfold zeroB; kernel_rfl) rfl rfl) ?_
 refine LW.e rfl (Ef.one [_, _, _] (e := 55) (sz := 3) (by kernel_rfl) ⟨.agg #[.int .i64 0, .int .i64 0, .string .empty], by kernel_rfl, rfl⟩ rfl rfl rfl (by omega) (by omega) ?_)
 intro g23
 refine LW.e rfl (Ef.append Be.elemV rfl rfl (SrcOf.blk (by kernel_rfl) rfl (by simp [Value.oneCell'])) (by unfold maxLen; omega) (by omega) ?_)
 rintro p2 c2 hp2
 try simp only [List.cons_append, List.nil_append]
 obtain ⟨g24, rfl⟩ := hp2 (by omega)
 rw [show rs.flatMap vaC ++ [Value.int .i64 77, Value.int .i64 0, Value.string .empty] = (rs ++ [v77]).flatMap vaC by simp; rfl]
 refine LW.own fun w0 ho0 => ?_
 have hcp : m + 1 ≤ c2 := ho0.cap_at (p := some ⟨g24, 0, none⟩) (c := c2)
 clear ho0 w0
 refine LW.q rfl (Qt.move rfl) ?_
 refine LW.q rfl (Qt.len (e := 55) (sz := 3) (by kernel_rfl) rfl) ?_
 refine LW.q rfl (Qt.slice_nsn m (e := 55) (sz := 3) (by kernel_rfl) rfl rfl rfl (by omega)) ?_
 refine LW.q rfl (Qt.assign rfl) ?_
 refine LW.done ?_
 refine T.seq ?_
 refine T.region ?_
 refine LW.q rfl (Qt.move rfl) ?_
 refine LW.e rfl (Ef.call (Bd.scope B [] tv ts h hn hc) Try.func11 rfl rfl rfl ?_)
 rintro _ _ ⟨p3, c3, rfl, hp3, rfl⟩
 try simp only [List.cons_append, List.nil_append]
 refine LW.q rfl (Qt.assign rfl) ?_
 refine LW.done ?_
 refine T.seq ?_
 refine T.region ?_
 first | refine LW.q rfl (Qt.loadAgg [_, _, _, _, _] (by kernel_rfl) rfl ⟨rfl, rfl, rfl, rfl, rfl, trivial⟩) ?_ | refine LW.q rfl (Qt.loadAgg [_, _, _, _, _] (by kernel_rfl) rfl (by exact rdl_flat _ _ _ (by intros; rfl) _ (by omega))) ?_
 refine LW.q rfl (Qt.move rfl) ?_
 generalize hN : (scopeP ts).length = N at hp3 hsl ⊢
 have hmine : FlV B [row (.slice (some ⟨g24, 0, none⟩) (m + 1) c2) 55 3 (m + 1) ((rs ++ [v77]).flatMap vaC)] vaC (.slice (some ⟨g24, 0, none⟩) (m + 1) c2) (rs ++ [v77]) := FlV.row (sz := 3) (fun _ => rfl) (by omega) (by simp [hm]) (fun _ => ⟨_, rfl⟩)
 have hmi := hmine.init (x := rs) (y := [v77]) c2
 rw [hm] at hmi
 refine LW.e rfl (Ef.call (Bd.bind B [row (.slice p3 N c3) 31 3 N ((scopeP ts).flatMap coC)] e _ p3 N c3 (scopeP ts) (he.mono fun w ho => ho.map fun _ _ => trivial) (FlV.row (sz := 3) coC_len (by omega) hN hp3) hN (by omega)) Try.func15 rfl rfl rfl ?_)
 rintro u l hpost
 try simp only [List.cons_append, List.nil_append]
 by_cases hbe : ∃ t, bindE (scopeP ts) e = .ok t
 ·
  obtain ⟨t, hbe⟩ := hbe
  obtain ⟨A1, q7, rfl, ht1, rfl⟩ := hpost.okE hbe
  have htok := bindE_ok _ _ _ hbe
  have hE := Bd.evalF B [A1, row (.slice (some ⟨g24, 0, none⟩) (m + 1) c2) 55 3 (m + 1) ((rs ++ [v77]).flatMap vaC)] rs _ m c2 (hmi.mono fun w ho => ho.map Sub.any) hm (by omega) t htok q7 (ht1.mono fun w ho => ho.map Sub.any)
  have hP := Bd.parts B [A1] t htok q7 ht1 (by have := parts_le _ _ _ hbe; omega)
  have hM := Bd.move B [A1] 3 t q7 ht1
  obtain ⟨pa7, ca7, rfl⟩ := ht1.form
  try simp only [List.cons_append, List.nil_append]
  refine LW.q rfl (Qt.move rfl) ?_
  refine LW.q rfl (Qt.extr rfl rfl) ?_
  refine LW.q rfl (Qt.extr rfl rfl) ?_
  refine LW.e rfl (Ef.alloc [.string .empty, .int .i64 0, .int .i64 0, .int .i64 0, .string .empty, .int .i64 0, .slice none 0 0] (by unfold zeroB; kernel_rfl) ?_)
  intro g9
  refine LW.e0 rfl (Ef.store [_, _, _, _, _, _, _] (by kernel_rfl) rfl rfl rfl rfl (by simp) ?_)
  try simp only [splice, List.length_cons, List.length_nil, List.drop_succ_cons, List.cons_append, List.take_succ_cons, List.take_zero, List.drop_zero, List.nil_append, List.append_nil]
  refine LW.q rfl (Qt.assign rfl) ?_
  refine LW.done ?_
  refine T.seq ?_
  refine T.seq ?_
  refine T.region ?_
  refine LW.q rfl (Qt.move rfl) ?_
  refine LW.q rfl (Qt.neq rfl rfl) ?_
  refine LW.done ?_
  first | refine T.condF rfl ?_ | refine T.condPF rfl (rfl) ?_ | refine T.condBF rfl (rfl) ?_
  refine T.skip ?_
  refine T.seq ?_
  refine T.region ?_
  first | refine LW.q rfl (Qt.loadAgg [_, _, _, _, _, _, _] (by kernel_rfl) rfl ⟨rfl, rfl, rfl, rfl, rfl, rfl, rfl, trivial⟩) ?_ | refine LW.q rfl (Qt.loadAgg [_, _, _, _, _, _, _] (by kernel_rfl) rfl (by exact rdl_flat _ _ _ (by intros; rfl) _ (by omega))) ?_
  refine LW.q rfl (Qt.move rfl) ?_
  refine LW.e rfl (Ef.call (hE) Try.func16 rfl rfl rfl ?_)
  rintro _ _ ⟨rfl, rfl⟩
  try simp only [List.cons_append, List.nil_append]
  refine LW.q rfl (Qt.move rfl) ?_
  refine LW.q rfl (Qt.extr rfl rfl) ?_
  refine LW.q rfl (Qt.extr rfl rfl) ?_
  refine LW.e rfl (Ef.alloc [.int .i64 0, .int .i64 0, .string .empty] (by unfold zeroB; kernel_rfl) ?_)
  intro g11
  refine LW.e0 rfl (Ef.store [_, _, _] (by kernel_rfl) rfl rfl rfl rfl (by simp) ?_)
  try simp only [splice, List.length_cons, List.length_nil, List.drop_succ_cons, List.cons_append, List.take_succ_cons, List.take_zero, List.drop_zero, List.nil_append, List.append_nil]
  refine LW.q rfl (Qt.assign rfl) ?_
  refine LW.done ?_
  refine T.seq ?_
  refine T.region ?_
  first | refine LW.q rfl (Qt.loadAgg [_, _, _, _, _, _, _] (by kernel_rfl) rfl ⟨rfl, rfl, rfl, rfl, rfl, rfl, rfl, trivial⟩) ?_ | refine LW.q rfl (Qt.loadAgg [_, _, _, _, _, _, _] (by kernel_rfl) rfl (by exact rdl_flat _ _ _ (by intros; rfl) _ (by omega))) ?_
  refine LW.e rfl (Ef.call (hP) Try.func18 rfl rfl rfl ?_)
  rintro _ _ ⟨p4, n4, k4, cs4, rfl, _, _, _, rfl⟩
  try simp only [List.cons_append, List.nil_append]
  refine LW.done ?_
  refine T.seq ?_
  refine T.region ?_
  first | refine LW.q rfl (Qt.loadAgg [_, _, _, _, _, _, _] (by kernel_rfl) rfl ⟨rfl, rfl, rfl, rfl, rfl, rfl, rfl, trivial⟩) ?_ | refine LW.q rfl (Qt.loadAgg [_, _, _, _, _, _, _] (by kernel_rfl) rfl (by exact rdl_flat _ _ _ (by intros; rfl) _ (by omega))) ?_
  refine LW.e rfl (Ef.call (hM) Try.func19 rfl rfl rfl ?_)
  rintro _ _ ⟨A5, q5, rfl, ht5, rfl⟩
  try simp only [List.cons_append, List.nil_append]
  refine LW.done ?_
  refine T.seq ?_
  refine T.seq ?_
  refine T.region ?_
  refine LW.q rfl (Qt.move rfl) ?_
  refine LW.q rfl (Qt.len (e := 31) (sz := 3) (by kernel_rfl) rfl) ?_
  refine LW.q rfl (Qt.move rfl) ?_
  refine LW.done ?_
  refine T.block ?_
  refine T.loop (fun mz fz lz => ∃ (f0 : Fr) (i : Nat) (D : List Co) (f1 : Nat), (i ≤ N ∧ D.length = N) ∧ mz = N - i ∧ fz = (upd (upd (upd (upd (upd (upd (upd (upd f0 2 (.slice ra m rc)) 7 (.slice (some ⟨g24, 0, none⟩) m c2)) 8 (.slice p3 N c3)) 9 (.pointer (some ⟨g9, 0, none⟩))) 11 (.pointer (some ⟨g11, 0, none⟩))) 12 (iV (evalR rs t).2)) 52 (iV N)) 53 (iV i)) ∧ lz = row (.slice p3 N c3) 31 3 N (D.flatMap coC) :: A1 :: row (.slice (some ⟨g24, 0, none⟩) (m + 1) c2) 55 3 (m + 1) ((rs ++ [v77]).flatMap vaC) :: blk g11 (vaC (evalR rs t).1) 55 :: blk g9 [tV t.op, iV t.kind, iV t.v.kind, iV t.v.int, tV t.v.text, iV t.place, .slice pa7 t.args.length ca7] 58 :: F) ?_ ?_
  · refine ⟨_, _, ⟨_, 0, scopeP ts, 0, ⟨Nat.zero_le _, hN⟩, rfl, (updS rfl (updS rfl (updS rfl (updS rfl (updS rfl (updS rfl (updS rfl (updS rfl rfl)))))))), rfl⟩, Sub.any⟩
  ·
   rintro mz fz lz ⟨f0, i, D, f1, ⟨hi, hD⟩, hmz, rfl, rfl⟩
   subst mz
   try simp only [List.cons_append, List.nil_append]
   refine T.seq ?_
   refine T.region ?_
   refine LW.q rfl (Qt.lss rfl rfl) ?_
   refine LW.done ?_
   refine T.seq ?_
   refine T.condP rfl (fun hlt => ?_) (fun hlt => ?_)
   ·
    obtain ⟨g3', rfl⟩ := hp3 (by omega)
    obtain ⟨q, hq⟩ : ∃ q, D[i]? = some q := ⟨_, List.getElem?_eq_getElem (by omega)⟩
    have hset := flat_set coC_len D i 2 q ⟨q.table, q.name, 9⟩ (iV 9) hq (by omega) rfl
    refine T.skip ?_
    refine T.seq ?_
    refine T.block ?_
    refine T.seq ?_
    refine T.region ?_
    refine LW.q rfl (Qt.move rfl) ?_
    refine LW.q rfl (Qt.assign rfl) ?_
    refine LW.done ?_
    refine T.region ?_
    refine LW.q rfl (Qt.move rfl) ?_
    refine LW.q rfl (Qt.move rfl) ?_
    refine LW.q rfl (Qt.index _ (e := 31) (sz := 3) (by kernel_rfl) rfl rfl rfl (by omega)) ?_
    refine LW.q rfl (Qt.fieldAddr (off := 1) (by kernel_rfl) rfl) ?_
    refine LW.q rfl (Qt.fieldAddr (off := 1) (by kernel_rfl) rfl) ?_
    refine LW.e0 rfl (Ef.store1 (by kernel_rfl) rfl rfl rfl (by rw [flat_lenO (g := coC) coC_len]; omega) ?_)
    rw [show 0 + i * 3 + 1 + 1 = i * 3 + 2 by omega, hset]
    refine LW.done ?_
    refine T.region ?_
    refine LW.q rfl (Qt.add rfl rfl (wr64 (by omega) (by omega))) ?_
    refine LW.q rfl (Qt.move rfl) ?_
    refine LW.done ?_
    refine ⟨_, ?_, _, ⟨_, i + 1, D.set i ⟨q.table, q.name, 9⟩, 0, ⟨by omega, by rw [List.length_set]; exact hD⟩, rfl, (updS rfl (updS rfl (updS rfl (updS rfl (updS rfl (updS rfl (updS rfl (updS rfl rfl)))))))), rfl⟩, Sub.any⟩
    first | omega | (simp; omega)
   ·
    refine T.exit ?_
    refine T.seq ?_
    refine T.region ?_
    first | refine LW.q rfl (Qt.loadAgg [_, _, _, _, _, _, _] (by kernel_rfl) rfl ⟨rfl, rfl, rfl, rfl, rfl, rfl, rfl, trivial⟩) ?_ | refine LW.q rfl (Qt.loadAgg [_, _, _, _, _, _, _] (by kernel_rfl) rfl (by exact rdl_flat _ _ _ (by intros; rfl) _ (by omega))) ?_
    refine LW.q rfl (Qt.move rfl) ?_
    refine LW.e rfl (Ef.call (hE) Try.func16 rfl rfl rfl ?_)
    rintro _ _ ⟨rfl, rfl⟩
    try simp only [List.cons_append, List.nil_append]
    refine LW.q rfl (Qt.move rfl) ?_
    refine LW.q rfl (Qt.extr rfl rfl) ?_
    refine LW.q rfl (Qt.extr rfl rfl) ?_
    refine LW.e rfl (Ef.alloc [.int .i64 0, .int .i64 0, .string .empty] (by unfold zeroB; kernel_rfl) ?_)
    intro g14
    refine LW.e0 rfl (Ef.store [_, _, _] (by kernel_rfl) rfl rfl rfl rfl (by simp) ?_)
    try simp only [splice, List.length_cons, List.length_nil, List.drop_succ_cons, List.cons_append, List.take_succ_cons, List.take_zero, List.drop_zero, List.nil_append, List.append_nil]
    refine LW.q rfl (Qt.assign rfl) ?_
    refine LW.done ?_
    refine T.seq ?_
    refine T.seq ?_
    refine T.region ?_
    refine LW.q rfl (Qt.move rfl) ?_
    refine LW.q rfl (Qt.len (e := 55) (sz := 3) (by kernel_rfl) rfl) ?_
    refine LW.q rfl (Qt.move rfl) ?_
    refine LW.done ?_
    refine T.block ?_
    refine T.loop (fun mz fz lz => ∃ (f0 : Fr) (i : Nat), (i ≤ m) ∧ mz = m - i ∧ fz = (upd (upd (upd (upd (upd (upd (upd (upd f0 2 (.slice ra m rc)) 7 (.slice (some ⟨g24, 0, none⟩) m c2)) 11 (.pointer (some ⟨g11, 0, none⟩))) 12 (iV (evalR rs t).2)) 14 (.pointer (some ⟨g14, 0, none⟩))) 15 (iV (evalR rs t).2)) 69 (iV m)) 70 (iV i)) ∧ lz = row (.slice (some ⟨g24, 0, none⟩) (m + 1) c2) 55 3 (m + 1) ((rs ++ [v77]).flatMap vaC) :: blk g11 (vaC (evalR rs t).1) 55 :: blk g14 (vaC (evalR rs t).1) 55 :: F) ?_ ?_
    · refine ⟨_, _, ⟨_, 0, Nat.zero_le _, rfl, (updS rfl (updS rfl (updS rfl (updS rfl (updS rfl (updS rfl (updS rfl (updS rfl rfl)))))))), rfl⟩, Sub.any⟩
    ·
     rintro mz fz lz ⟨f0, i, hi2, hmz, rfl, rfl⟩
     subst mz
     try simp only [List.cons_append, List.nil_append]
     refine T.seq ?_
     refine T.region ?_
     refine LW.q rfl (Qt.lss rfl rfl) ?_
     refine LW.done ?_
     refine T.seq ?_
     refine T.condP rfl (fun hlt2 => ?_) (fun hlt2 => ?_)
     ·
      obtain ⟨b1, o1, rfl, hr1⟩ := hr.at (sz := 3) (fun _ => rfl) (by omega)
      obtain ⟨b2, o2, hb2, hr2⟩ := hmi.at (sz := 3) (fun _ => rfl) (by omega)
      injection hb2 with hb2
      injection hb2 with hb2 ho2
      subst hb2; subst ho2
      obtain ⟨q, hq⟩ : ∃ q, rs[i]? = some q := ⟨_, List.getElem?_eq_getElem (by omega)⟩
      have hq1 := hr1 i q hq
      have hq2 := hr2 i q hq
      refine T.skip ?_
      refine T.seq ?_
      refine T.block ?_
      refine T.seq ?_
      refine T.region ?_
      refine LW.q rfl (Qt.move rfl) ?_
      refine LW.q rfl (Qt.assign rfl) ?_
      refine LW.done ?_
      refine T.seq ?_
      refine T.drawAll 9 (by kernel_rfl) (Nat.le_of_ble_eq_true rfl) (by kernel_rfl) ?_
      refine RW.q 0 rfl rfl (by kernel_rfl) (Sub.refl _) (Qt.move rfl) ?_
      refine RW.q 1 rfl rfl (by kernel_rfl) (Sub.refl _) (Qt.move rfl) ?_
      refine RW.q 2 rfl rfl (by kernel_rfl) (Sub.refl _) (Qt.index _ (e := 55) (sz := 3) (by kernel_rfl) rfl rfl rfl (by omega)) ?_
      refine RW.q 3 rfl rfl (by kernel_rfl) (Sub.refl _) (Qt.loadAggW (vaC q) (by kernel_rfl) rfl (fun w ho => hq2 w (ho.map Sub.any))) ?_
      refine RW.q 4 rfl rfl (by kernel_rfl) (Sub.refl _) (Qt.move rfl) ?_
      refine RW.q 5 rfl rfl (by kernel_rfl) (Sub.refl _) (Qt.move rfl) ?_
      refine RW.q 6 rfl rfl (by kernel_rfl) (Sub.refl _) (Qt.index _ (e := 55) (sz := 3) (by kernel_rfl) rfl rfl rfl (by omega)) ?_
      refine RW.q 7 rfl rfl (by kernel_rfl) (Sub.refl _) (Qt.loadAggW (vaC q) (by kernel_rfl) rfl (fun w ho => hq1 w (ho.map fun _ _ => trivial))) ?_
      refine RW.q 8 rfl rfl (by kernel_rfl) (Sub.refl _) (Qt.neqVa q q rfl rfl) ?_
      refine RW.done (by rfl) ?_
      simp only [List.drop_succ_cons, List.drop_zero, List.drop_nil]
      refine LW.done ?_
      first | refine T.condF rfl ?_ | refine T.condPF rfl ((by simp)) ?_ | refine T.condBF rfl ((by simp)) ?_
      refine T.skip ?_
      refine T.region ?_
      refine LW.q rfl (Qt.add rfl rfl (wr64 (by omega) (by omega))) ?_
      refine LW.q rfl (Qt.move rfl) ?_
      refine LW.done ?_
      refine ⟨_, ?_, _, ⟨_, i + 1, by omega, rfl, (updS rfl (updS rfl (updS rfl (updS rfl (updS rfl (updS rfl (updS rfl (updS rfl rfl)))))))), rfl⟩, Sub.any⟩
      first | omega | (simp; omega)
     ·
      obtain ⟨b2, o2, hb2, hr2⟩ := hmine.at (sz := 3) (fun _ => rfl) (by omega)
      injection hb2 with hb2
      injection hb2 with hb2 ho2
      subst hb2; subst ho2
      have hq2 := hr2 m v77 (by rw [List.getElem?_append_right (by omega), hm]; simp)
      refine T.exit ?_
      refine T.seq ?_
      refine T.region ?_
      first | refine LW.q rfl (Qt.loadAgg [_, _, _] (by kernel_rfl) rfl ⟨rfl, rfl, rfl, trivial⟩) ?_ | refine LW.q rfl (Qt.loadAgg [_, _, _] (by kernel_rfl) rfl (by exact rdl_flat _ _ _ (by intros; rfl) _ (by omega))) ?_
      first | refine LW.q rfl (Qt.loadAgg [_, _, _] (by kernel_rfl) rfl ⟨rfl, rfl, rfl, trivial⟩) ?_ | refine LW.q rfl (Qt.loadAgg [_, _, _] (by kernel_rfl) rfl (by exact rdl_flat _ _ _ (by intros; rfl) _ (by omega))) ?_
      refine LW.q rfl (Qt.eqlVa (evalR rs t).1 (evalR rs t).1 rfl rfl) ?_
      refine LW.q rfl (Qt.move rfl) ?_
      first | refine LW.gT (t := 86) rfl rfl ?_ | refine LW.gT (t := 86) rfl (decide_eq_true ((by simp))) ?_ | refine LW.gT (t := 86) rfl ((by simp)) ?_
      refine LW.q rfl (Qt.move rfl) ?_
      refine LW.q rfl (Qt.move rfl) ?_
      refine LW.q rfl (Qt.eql rfl rfl) ?_
      refine LW.q rfl (Qt.pick rfl rfl) ?_
      refine LW.q rfl (Qt.move rfl) ?_
      first | refine LW.gT (t := 91) rfl rfl ?_ | refine LW.gT (t := 91) rfl (decide_eq_true ((by simp))) ?_ | refine LW.gT (t := 91) rfl ((by simp)) ?_
      refine LW.q rfl (Qt.move rfl) ?_
      refine LW.q rfl (Qt.move rfl) ?_
      refine LW.q rfl (Qt.len (e := 55) (sz := 3) (by kernel_rfl) rfl) ?_
      refine LW.q rfl (Qt.add rfl rfl (wr64 (by omega) (by omega))) ?_
      refine LW.q rfl (Qt.slice_nsn (m + 1) (e := 55) (sz := 3) (by kernel_rfl) rfl rfl rfl (by omega)) ?_
      refine LW.q rfl (Qt.move rfl) ?_
      refine LW.q rfl (Qt.len (e := 55) (sz := 3) (by kernel_rfl) rfl) ?_
      refine LW.q rfl (Qt.index _ (e := 55) (sz := 3) (by kernel_rfl) rfl rfl rfl (by omega)) ?_
      refine LW.q rfl (Qt.fieldAddr0 (by kernel_rfl) rfl) ?_
      refine LW.q rfl (Qt.loadW (by kernel_rfl) rfl (fun w ho => rangeAt_one (j := 0) (hq2 w (ho.map Sub.any)) rfl)) ?_
      refine LW.q rfl (Qt.eql rfl rfl) ?_
      refine LW.q rfl (Qt.pick rfl rfl) ?_
      refine LW.q rfl (Qt.assign rfl) ?_
      refine LW.done ?_
      refine T.ret ?_
      exact ⟨.inl rfl, _, _, res [_] rfl ⟨rvT rfl, trivial⟩, ⟨by rfl, rfl⟩, Sub.any⟩
 ·
  obtain ⟨code, hbe⟩ : ∃ code, bindE (scopeP ts) e = .error code := by
   cases e' : bindE (scopeP ts) e with
   | error c => exact ⟨c, rfl⟩
   | ok t => exact absurd ⟨t, e'⟩ hbe
  obtain ⟨rfl, hne, rfl⟩ := hpost.errE hbe
  try simp only [List.cons_append, List.nil_append]
  refine LW.q rfl (Qt.move rfl) ?_
  refine LW.q rfl (Qt.extr rfl rfl) ?_
  refine LW.q rfl (Qt.extr rfl rfl) ?_
  refine LW.e rfl (Ef.alloc [.string .empty, .int .i64 0, .int .i64 0, .int .i64 0, .string .empty, .int .i64 0, .slice none 0 0] (by unfold zeroB; kernel_rfl) ?_)
  intro g9
  refine LW.e0 rfl (Ef.store [_, _, _, _, _, _, _] (by kernel_rfl) rfl rfl rfl rfl (by simp) ?_)
  try simp only [splice, List.length_cons, List.length_nil, List.drop_succ_cons, List.cons_append, List.take_succ_cons, List.take_zero, List.drop_zero, List.nil_append, List.append_nil]
  refine LW.q rfl (Qt.assign rfl) ?_
  refine LW.done ?_
  refine T.seq ?_
  refine T.seq ?_
  refine T.region ?_
  refine LW.q rfl (Qt.move rfl) ?_
  refine LW.q rfl (Qt.neq rfl rfl) ?_
  refine LW.done ?_
  first | refine T.condT rfl ?_ | refine T.condPT rfl (hne) ?_ | refine T.condBT rfl (hne) ?_
  refine T.seq ?_
  refine T.region ?_
  first | refine LW.q rfl (Qt.loadAgg [_, _, _, _, _, _, _] (by kernel_rfl) rfl ⟨rfl, rfl, rfl, rfl, rfl, rfl, rfl, trivial⟩) ?_ | refine LW.q rfl (Qt.loadAgg [_, _, _, _, _, _, _] (by kernel_rfl) rfl (by exact rdl_flat _ _ _ (by intros; rfl) _ (by omega))) ?_
  refine LW.e rfl (Ef.call (Be.kindZ B) Try.func17 rfl rfl rfl ?_)
  rintro _ _ ⟨rfl, rfl⟩
  try simp only [List.cons_append, List.nil_append]
  refine LW.q rfl (Qt.eql rfl rfl) ?_
  refine LW.q rfl (Qt.assign rfl) ?_
  refine LW.done ?_
  refine T.ret ?_
  exact ⟨.inl rfl, _, _, res [_] rfl ⟨rvT rfl, trivial⟩, ⟨by rfl, rfl⟩, Sub.any⟩
end Go.Proofs.Ytopbkdpbljebgaa
