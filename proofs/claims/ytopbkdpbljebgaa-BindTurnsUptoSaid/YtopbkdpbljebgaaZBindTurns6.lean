/- The texts BeD BeF BeG BeH BeE, one behind the other: what the law leans on. Conditions: as each theorem says. -/
import Derived.Test.YtopbkdpbljebgaaZBindTurns5
import Derived.Laws.StructEq
/- The laws of bind: values compared; what is bound is of the right form; BindKeeps. Conditions: that what is handed in can be read; sizes. -/
set_option linter.unusedSimpArgs false
set_option linter.unusedVariables false
namespace Go.Proofs.Ytopbkdpbljebgaa
open Go.RowKit

instance : DecidableEq Va := fun a b => decidable_of_iff (a.kind = b.kind ∧ a.int = b.int ∧ a.text = b.text) (by cases a; cases b; simp)
theorem Va.eq_bool (a b : Va) : decide (a = b) = ((a.kind == b.kind) && ((a.int == b.int) && (a.text == b.text))) := by
  cases a; cases b
  simp only [Va.mk.injEq]
  rw [Bool.eq_iff_iff]
  simp
section
variable {B : Base} {n : Nat} {S l r : List Assn} {f : Fr}
variable {d : Option Tmp} {ty : TypeId} {pos : String} {af : Array Edge} {gd : Option (Nat × Bool)}
theorem run_eqVa (w : World) (a b : Va) : (Op.equalIn 10000 55 (vA a) (vA b)).run Try.prog w = .ok (decide (a = b)) w := by
  have hf : Try.prog.fieldsOf 55 = Try.prog.fieldsOf 55 := rfl
  rw [run_equalIn_struct w 9999 55 _ _ (by kernel_rfl) (by kernel_rfl)]
  rw [Va.eq_bool]
  have h0 : Try.prog.underlying 3 = some (.int .i64) := Try.underlying3
  have h1 : Try.prog.underlying 2 = some (.int .i64) := Try.underlying2
  have h2 : Try.prog.underlying 9 = some .string := Try.underlying9
  have e : (Try.prog.fieldsOf 55).toList.map (fun f => (f.type, f.offset, decide (f.name ≠ "_"))) = [(3, 0, true), (2, 1, true), (9, 2, true)] := by kernel_rfl
  generalize (Try.prog.fieldsOf 55).toList = L at e ⊢
  obtain ⟨f0, f1, f2, rfl⟩ : ∃ f0 f1 f2, L = [f0, f1, f2] := by
    have hlen : L.length = 3 := by have := congrArg List.length e; simpa using this
    match L, hlen with
    | [a, b, c], _ => exact ⟨a, b, c, rfl⟩
  · skip
    simp only [List.map_cons, List.map_nil, List.cons.injEq, Prod.mk.injEq, and_true, decide_eq_true_eq] at e
    obtain ⟨⟨a0, a1, a2⟩, ⟨b0, b1, b2⟩, ⟨c0, c1, c2⟩⟩ := e
    have p0 : ∀ v : Va, (part 3 (vaC v).toArray 0).run Try.prog w = .ok (iV v.kind) w := fun v => by simp [part, isAgg, run_underlying h0]
    have p1 : ∀ v : Va, (part 2 (vaC v).toArray 1).run Try.prog w = .ok (iV v.int) w := fun v => by simp [part, isAgg, run_underlying h1]
    have p2 : ∀ v : Va, (part 9 (vaC v).toArray 2).run Try.prog w = .ok (tV v.text) w := fun v => by simp [part, isAgg, run_underlying h2]
    simp only [Op.eqFields, a0, a1, b0, b1, c0, c1, a2, b2, c2, if_true, ne_eq, not_false_eq_true, Sem.run_bind, p0, p1, p2, Result.andThen_ok]
    rw [run_equalIn_int w 9998 _ _ _ _ _ h0]
    simp only [Result.andThen_ok]
    cases (a.kind == b.kind)
    · simp
    · simp only [Bool.not_true, Bool.false_eq_true, if_false, Sem.run_bind, p1, p2, Result.andThen_ok]
      rw [run_equalIn_int w 9998 _ _ _ _ _ h1]
      simp only [Result.andThen_ok]
      cases (a.int == b.int)
      · simp
      · simp only [Bool.not_true, Bool.false_eq_true, if_false, Sem.run_bind, p2, Result.andThen_ok]
        rw [run_equalIn_string w 9998 _ _ _ h2]
        simp only [Result.andThen_ok, strOf_toList]
        cases (a.text == b.text) <;> simp
theorem Qt.eqlVa {t2 : TypeId} {x y : Operand} (a b : Va) (hx : ev n f x = some (vA a)) (hy : ev n f y = some (vA b)) : Qt Try.prog B n S ⟨d, .binOp .eql 55 x y t2, ty, pos, af, gd⟩ f (.bool (decide (a = b))) := ⟨fun w _ => by
  have hg := run_eqGuard_agg (P := Try.prog) w .eql 55 x y (vaC a).toArray (vaC b).toArray (by kernel_rfl)
  have hr := run_eql_struct (P := Try.prog) w 55 (vaC a).toArray (vaC b).toArray
  have hE := run_eqVa w a b
  simp only [execOp, evu_eq hx, evu_eq hy, Sem.run_bind, hg, hr, hE, Result.andThen_ok, Sem.run_pure]⟩
theorem Qt.neqVa {t2 : TypeId} {x y : Operand} (a b : Va) (hx : ev n f x = some (vA a)) (hy : ev n f y = some (vA b)) : Qt Try.prog B n S ⟨d, .binOp .neq 55 x y t2, ty, pos, af, gd⟩ f (.bool (!decide (a = b))) := ⟨fun w _ => by
  have hg := run_eqGuard_agg (P := Try.prog) w .neq 55 x y (vaC a).toArray (vaC b).toArray (by kernel_rfl)
  have hr := run_neq_struct (P := Try.prog) w 55 (vaC a).toArray (vaC b).toArray
  have hE := run_eqVa w a b
  simp only [execOp, evu_eq hx, evu_eq hy, Sem.run_bind, hg, hr, hE, Result.andThen_ok, Sem.run_pure]⟩
end
/-! what is bound is of the right form -/
theorem kindP_len {op : Str} {ks : List Int} (h : (kindP op ks).2 = true) : (ks.length = 1 ∧ (op = sNot ∨ op = [45])) ∨ (ks.length = 2 ∧ op ≠ sNot ∧ op ≠ sVal ∧ op ≠ sCol) := by
  unfold kindP at h
  split at h
  · rename_i h1
    simp only [Bool.and_eq_true, decide_eq_true_eq] at h
    right
    refine ⟨by omega, ?_, ?_, ?_⟩ <;> rintro rfl <;> simp at h1
  · split at h
    · rename_i h1
      simp only [Bool.and_eq_true, decide_eq_true_eq] at h
      exact .inl ⟨by omega, .inl h1⟩
    · split at h
      · rename_i h1
        simp only [Bool.and_eq_true, decide_eq_true_eq] at h
        right
        refine ⟨by omega, ?_, ?_, ?_⟩ <;> rintro rfl <;> simp [cmpOp] at h1
      · split at h
        · rename_i h1
          simp only [Bool.and_eq_true, Bool.or_eq_true, decide_eq_true_eq] at h
          rcases h.1 with h2 | h2
          · exact .inl ⟨by omega, .inr h1⟩
          · right
            refine ⟨by omega, ?_, ?_, ?_⟩ <;> rintro rfl <;> simp at h1
        · split at h
          · rename_i h1
            simp only [Bool.and_eq_true, decide_eq_true_eq] at h
            right
            refine ⟨by omega, ?_, ?_, ?_⟩ <;> rintro rfl <;> simp at h1
          · cases h
mutual
theorem bindE_ok (sc : List Co) : ∀ (e : Ex) (t : Tm), bindE sc e = .ok t → TmOk t
  | .mk op n text of args, t, h => by
    rw [bindE] at h
    split at h
    · injection h with h; subst h; exact .val _ _ _
    · split at h
      · split at h
        · cases h
        · injection h with h; subst h; exact .val _ _ _
      · split at h
        · split at h
          · cases h
          · injection h with h; subst h; exact .col _ _ _
        · cases hb : bindL sc args with
          | error c => rw [hb] at h; cases h
          | ok ts =>
            rw [hb] at h
            dsimp only at h
            split at h
            · rename_i hk
              injection h with h
              subst h
              have hall := bindL_ok' sc args ts hb
              rcases kindP_len hk with ⟨h1, h2⟩ | ⟨h1, h2, h3, h4⟩
              · rw [List.length_map] at h1
                match ts, h1 with
                | [t], _ => exact .one op _ _ _ t (by rcases h2 with rfl | rfl <;> decide) (by rcases h2 with rfl | rfl <;> decide) (by rcases h2 with rfl | rfl <;> decide) (hall t (by simp))
              · rw [List.length_map] at h1
                match ts, h1 with
                | [t, u], _ => exact .two op _ _ _ t u h3 h4 h2 (hall t (by simp)) (hall u (by simp))
            · cases h
theorem bindL_ok' (sc : List Co) : ∀ (es : List Ex) (ts : List Tm), bindL sc es = .ok ts → ∀ t ∈ ts, TmOk t
  | [], ts, h => by rw [bindL] at h; injection h with h; subst h; intro t ht; cases ht
  | e :: es, ts, h => by
    rw [bindL] at h
    cases hb : bindE sc e with
    | error c => rw [hb] at h; cases h
    | ok t =>
      rw [hb] at h
      dsimp only at h
      cases hl : bindL sc es with
      | error c => rw [hl] at h; cases h
      | ok us =>
        rw [hl] at h
        injection h with h
        subst h
        intro u hu
        rcases List.mem_cons.1 hu with rfl | hu
        · exact bindE_ok sc e _ hb
        · exact bindL_ok' sc es us hl u hu
end
end Go.Proofs.Ytopbkdpbljebgaa

/- The laws of bind: what is bound, and how it is reckoned; plain. Conditions: that numbers lie in their kind's room. -/
set_option linter.unusedSimpArgs false
set_option linter.unusedVariables false
namespace Go.Proofs.Ytopbkdpbljebgaa
open Go.RowKit

abbrev sNumber : Str := [110, 117, 109, 98, 101, 114]
abbrev sText : Str := [116, 101, 120, 116]
abbrev sName : Str := [110, 97, 109, 101]
abbrev sMinus : Str := [45]
abbrev logOp (op : Str) : Prop := op = [79, 82] ∨ op = sAnd
abbrev ariOp (op : Str) : Prop := op = [43] ∨ op = sMinus ∨ op = [42]
/-- An expression and the term that it is bound to. -/
inductive BE (sc : List Co) : Ex → Tm → Prop
  | num (n : Int) (text of : Str) (args : List Ex) : BE sc (.mk sNumber n text of args) (.mk sVal 1 ⟨1, n, []⟩ 0 [])
  | text (n : Int) (text of : Str) (args : List Ex) : BE sc (.mk sText n text of args) (.mk sVal 2 ⟨2, 0, text⟩ 0 [])
  | name (n : Int) (text of : Str) (args : List Ex) (i : Nat) (c : Co) (hf : findC sc of text = (i, 0)) (hc : sc[i]? = some c) : BE sc (.mk sName n text of args) (.mk sCol c.kind vZ i [])
  | one (op : Str) (k : Int) (n : Int) (text of : Str) (e : Ex) (t : Tm) (h : BE sc e t) (hk : (op = sNot ∧ t.kind = 3 ∧ k = 3) ∨ (op = sMinus ∧ t.kind = 1 ∧ k = 1)) : BE sc (.mk op n text of [e]) (.mk op k vZ 0 [t])
  | two (op : Str) (k : Int) (n : Int) (text of : Str) (e1 e2 : Ex) (t1 t2 : Tm) (h1 : BE sc e1 t1) (h2 : BE sc e2 t2)
      (hk : (logOp op ∧ t1.kind = 3 ∧ t2.kind = 3 ∧ k = 3) ∨ (cmpOp op ∧ t1.kind = t2.kind ∧ (t1.kind = 1 ∨ t1.kind = 2) ∧ k = 3) ∨ (ariOp op ∧ t1.kind = 1 ∧ t2.kind = 1 ∧ k = 1)) : BE sc (.mk op n text of [e1, e2]) (.mk op k vZ 0 [t1, t2])
theorem alls_two {k a b : Int} : alls k [a, b] = true ↔ a = k ∧ b = k := by simp [alls]
theorem alls_one {k a : Int} : alls k [a] = true ↔ a = k := by simp [alls]
theorem kindP_one {op : Str} {a : Int} (h : (kindP op [a]).2 = true) : (op = sNot ∧ a = 3 ∧ (kindP op [a]).1 = 3) ∨ (op = sMinus ∧ a = 1 ∧ (kindP op [a]).1 = 1) := by
  unfold kindP at h ⊢
  split
  · rename_i h1; rw [if_pos h1] at h; simp at h
  · rename_i h1; rw [if_neg h1] at h
    split
    · rename_i h2; rw [if_pos h2] at h
      simp only [Bool.and_eq_true, alls_one] at h
      exact .inl ⟨h2, h.2, rfl⟩
    · rename_i h2; rw [if_neg h2] at h
      split
      · rename_i h3; rw [if_pos h3] at h; simp at h
      · rename_i h3; rw [if_neg h3] at h
        split
        · rename_i h4; rw [if_pos h4] at h
          simp only [Bool.and_eq_true, alls_one] at h
          exact .inr ⟨h4, h.2, rfl⟩
        · rename_i h4; rw [if_neg h4] at h
          split at h <;> simp at h
theorem kindP_two {op : Str} {a b : Int} (h : (kindP op [a, b]).2 = true) : (logOp op ∧ a = 3 ∧ b = 3 ∧ (kindP op [a, b]).1 = 3) ∨ (cmpOp op ∧ a = b ∧ (a = 1 ∨ a = 2) ∧ (kindP op [a, b]).1 = 3) ∨ (ariOp op ∧ a = 1 ∧ b = 1 ∧ (kindP op [a, b]).1 = 1) := by
  unfold kindP at h ⊢
  split
  · rename_i h1; rw [if_pos h1] at h
    simp only [Bool.and_eq_true, alls_two] at h
    exact .inl ⟨h1, h.2.1, h.2.2, rfl⟩
  · rename_i h1; rw [if_neg h1] at h
    split
    · rename_i h2; rw [if_pos h2] at h; simp at h
    · rename_i h2; rw [if_neg h2] at h
      split
      · rename_i h3; rw [if_pos h3] at h
        simp only [Bool.and_eq_true, Bool.or_eq_true, alls_two] at h
        exact .inr (.inl ⟨h3, by omega, by omega, rfl⟩)
      · rename_i h3; rw [if_neg h3] at h
        split
        · rename_i h4; rw [if_pos h4] at h
          simp only [Bool.and_eq_true, alls_two] at h
          exact .inr (.inr ⟨.inr (.inl h4), h.2.1, h.2.2, rfl⟩)
        · rename_i h4; rw [if_neg h4] at h
          split
          · rename_i h5; rw [if_pos h5] at h
            simp only [Bool.and_eq_true, alls_two] at h
            exact .inr (.inr ⟨h5.elim .inl fun h => .inr (.inr h), h.2.1, h.2.2, rfl⟩)
          · rename_i h5; rw [if_neg h5] at h; cases h
mutual
theorem be_of (sc : List Co) : ∀ (e : Ex) (t : Tm), bindE sc e = .ok t → BE sc e t
  | .mk op n text of args, t, h => by
    rw [bindE] at h
    split at h
    · rename_i h1; subst h1; injection h with h; subst h; exact .num n text of args
    · split at h
      · rename_i h1; subst h1
        split at h
        · cases h
        · injection h with h; subst h; exact .text n text of args
      · split at h
        · rename_i h1; subst h1
          split at h
          · cases h
          · rename_i h2
            injection h with h; subst h
            have hlt := findC_lt (Classical.not_not.1 h2)
            have hf : findC sc of text = ((findC sc of text).1, 0) := Prod.ext rfl (Classical.not_not.1 h2)
            have hc : sc[(findC sc of text).1]? = some (sc[(findC sc of text).1]'hlt) := List.getElem?_eq_getElem _
            have hk : kindAt sc (findC sc of text).1 = (sc[(findC sc of text).1]'hlt).kind := by unfold kindAt; rw [hc]
            rw [hk]
            exact .name n text of args _ _ hf hc
        · cases hb : bindL sc args with
          | error c => rw [hb] at h; cases h
          | ok ts =>
            rw [hb] at h
            dsimp only at h
            split at h
            · rename_i hk
              injection h with h
              subst h
              have hall := beL_of sc args ts hb
              rcases kindP_len hk with ⟨h1, _⟩ | ⟨h1, _, _, _⟩
              · rw [List.length_map] at h1
                match args, ts, h1, hall with
                | [e], [t], _, hall =>
                  have := hall.2 0 e t rfl rfl
                  refine .one op _ n text of e t this ?_
                  rcases kindP_one (a := t.kind) hk with ⟨a, b, c⟩ | ⟨a, b, c⟩
                  · exact .inl ⟨a, b, c⟩
                  · exact .inr ⟨a, b, c⟩
                | [], [t], _, hall => simp at hall
                | _ :: _ :: _, [t], _, hall => simp at hall
              · rw [List.length_map] at h1
                match args, ts, h1, hall with
                | [e, f], [t, u], _, hall =>
                  exact .two op _ n text of e f t u (hall.2 0 e t rfl rfl) (hall.2 1 f u rfl rfl) (kindP_two (a := t.kind) (b := u.kind) hk)
                | [], [t, u], _, hall => simp at hall
                | [_], [t, u], _, hall => simp at hall
                | _ :: _ :: _ :: _, [t, u], _, hall => simp at hall
            · cases h
theorem beL_of (sc : List Co) : ∀ (es : List Ex) (ts : List Tm), bindL sc es = .ok ts → es.length = ts.length ∧ ∀ (i : Nat) e t, es[i]? = some e → ts[i]? = some t → BE sc e t
  | [], ts, h => by rw [bindL] at h; injection h with h; subst h; exact ⟨rfl, by intro i e t h; simp at h⟩
  | e :: es, ts, h => by
    rw [bindL] at h
    cases hb : bindE sc e with
    | error c => rw [hb] at h; cases h
    | ok t =>
      rw [hb] at h
      dsimp only at h
      cases hl : bindL sc es with
      | error c => rw [hl] at h; cases h
      | ok us =>
        rw [hl] at h
        injection h with h
        subst h
        obtain ⟨h1, h2⟩ := beL_of sc es us hl
        refine ⟨by simp [h1], fun i e' t' he ht => ?_⟩
        cases i with
        | zero => simp at he ht; subst he; subst ht; exact be_of sc e _ hb
        | succ i => exact h2 i e' t' (by simpa using he) (by simpa using ht)
end
/-! numbers -/
abbrev fits (x : Int) : Prop := -9223372036854775808 ≤ x ∧ x < 9223372036854775808
theorem w64_fits (x : Int) : fits (w64 x) := by
  simp only [fits, w64, IntKind.wrap, IntKind.bits, IntKind.signed]; simp; omega
theorem w64_self {x : Int} (h : fits x) : w64 x = x := wr64 h.1 h.2
theorem w64_mod (x : Int) : ∃ q : Int, w64 x = x + 18446744073709551616 * q := by
  have : w64 x = ((x + 9223372036854775808) % 18446744073709551616) - 9223372036854775808 := by
    simp only [w64, IntKind.wrap, IntKind.bits, IntKind.signed]; simp; omega
  exact ⟨-((x + 9223372036854775808) / 18446744073709551616), by rw [this]; omega⟩
theorem w64_eq {x y : Int} (h : fits y) (q : Int) (hq : y = x + 18446744073709551616 * q) : w64 x = y := by
  obtain ⟨r, hr⟩ := w64_mod x
  have := w64_fits x
  omega
theorem wu_mod (x : Int) : wu x = x % 18446744073709551616 := by
  simp only [wu, IntKind.wrap, IntKind.bits, IntKind.signed]; simp
theorem add_ok {a b : Int} (ha : fits a) (hb : fits b) : (arithP [43] a b).2 = decide (fits (a + b)) := by
  unfold arithP
  rw [if_pos rfl]
  simp only
  obtain ⟨q, hq⟩ := w64_mod (a + b)
  have hw := w64_fits (a + b)
  rw [Bool.eq_iff_iff]
  simp only [Bool.or_eq_true, beq_iff_eq, decide_eq_true_eq]
  by_cases h : fits (a + b)
  · rw [w64_self h]
    constructor
    · intro _; exact h
    · intro _
      by_cases hb0 : b = 0
      · exact .inr hb0
      · left
        by_cases h2 : 0 < b
        · rw [decide_eq_true h2, decide_eq_true (by omega)]
        · rw [decide_eq_false h2, decide_eq_false (by omega)]
  · constructor
    · rintro (h2 | h2)
      · by_cases h3 : 0 < b
        · rw [decide_eq_true h3] at h2
          have := of_decide_eq_true h2
          omega
        · rw [decide_eq_false h3] at h2
          have := of_decide_eq_false h2
          omega
      · omega
    · intro h2; exact absurd h2 h
theorem sub_ok {a b : Int} (ha : fits a) (hb : fits b) : (arithP [45] a b).2 = decide (fits (a - b)) := by
  unfold arithP
  rw [if_neg (by decide), if_pos rfl]
  simp only
  obtain ⟨q, hq⟩ := w64_mod (a - b)
  have hw := w64_fits (a - b)
  rw [Bool.eq_iff_iff]
  simp only [Bool.or_eq_true, beq_iff_eq, decide_eq_true_eq]
  by_cases h : fits (a - b)
  · rw [w64_self h]
    constructor
    · intro _; exact h
    · intro _
      by_cases hb0 : b = 0
      · exact .inr hb0
      · left
        by_cases h2 : 0 < b
        · rw [decide_eq_true h2, decide_eq_true (by omega)]
        · rw [decide_eq_false h2, decide_eq_false (by omega)]
  · constructor
    · rintro (h2 | h2)
      · by_cases h3 : 0 < b
        · rw [decide_eq_true h3] at h2
          have := of_decide_eq_true h2
          omega
        · rw [decide_eq_false h3] at h2
          have := of_decide_eq_false h2
          omega
      · omega
    · intro h2; exact absurd h2 h
theorem mul_bound {a b : Int} (ha : fits a) (hb : fits b) : -85070591730234615865843651857942052864 ≤ a * b ∧ a * b ≤ 85070591730234615865843651857942052864 := by
  have h1 : a.natAbs ≤ 9223372036854775808 := by omega
  have h2 : b.natAbs ≤ 9223372036854775808 := by omega
  have h3 : (a * b).natAbs ≤ 85070591730234615865843651857942052864 := by
    rw [Int.natAbs_mul]
    exact Nat.le_trans (Nat.mul_le_mul h1 h2) (by decide)
  omega
theorem mul_parts {a b : Int} (ha : fits a) (hb : fits b) : wu a * wu b % 18446744073709551616 = a * b % 18446744073709551616 ∧ mulHi a b = wu (a * b / 18446744073709551616) := by
  have hA : (a < 0 ∧ wu a = a + 18446744073709551616) ∨ (0 ≤ a ∧ wu a = a) := by
    rw [wu_mod]; omega
  have hB : (b < 0 ∧ wu b = b + 18446744073709551616) ∨ (0 ≤ b ∧ wu b = b) := by
    rw [wu_mod]; omega
  unfold mulHi
  simp only
  have hm := mul_bound ha hb
  rcases hA with ⟨a1, a2⟩ | ⟨a1, a2⟩ <;> rcases hB with ⟨b1, b2⟩ | ⟨b1, b2⟩
  · have e : wu a * wu b = a * b + 18446744073709551616 * a + 18446744073709551616 * b + 340282366920938463463374607431768211456 := by
      rw [a2, b2, Int.add_mul, Int.mul_add, Int.mul_add, Int.mul_comm a 18446744073709551616]; omega
    rw [if_pos a1, if_pos b1, e, a2, b2]
    generalize a * b = p at *
    simp only [wu_mod]
    constructor <;> omega
  · have e : wu a * wu b = a * b + 18446744073709551616 * b := by
      rw [a2, b2, Int.add_mul]
    rw [if_neg (show ¬ b < 0 by omega), if_pos a1, e, b2]
    generalize a * b = p at *
    simp only [wu_mod]
    constructor <;> omega
  · have e : wu a * wu b = a * b + 18446744073709551616 * a := by
      rw [a2, b2, Int.mul_add, Int.mul_comm a 18446744073709551616]
    rw [if_pos b1, if_neg (show ¬ a < 0 by omega), e, a2]
    generalize a * b = p at *
    simp only [wu_mod]
    constructor <;> omega
  · rw [if_neg (show ¬ b < 0 by omega), if_neg (show ¬ a < 0 by omega), a2, b2]
    have h0 := Int.mul_nonneg a1 b1
    exact ⟨rfl, by
      generalize a * b = p at *
      simp only [wu_mod]; omega⟩
theorem mul_ok {a b : Int} (op : Str) (h1 : op ≠ [43]) (h2 : op ≠ [45]) (ha : fits a) (hb : fits b) : arithP op a b = (w64 (a * b), decide (fits (a * b))) := by
  obtain ⟨e1, e2⟩ := mul_parts ha hb
  have hm := mul_bound ha hb
  unfold arithP
  rw [if_neg h1, if_neg h2]
  simp only
  rw [e1, e2]
  generalize a * b = p at *
  have e3 : w64 (p % 18446744073709551616) = w64 p := by
    obtain ⟨q, hq⟩ := w64_mod p
    exact w64_eq (w64_fits p) (q + p / 18446744073709551616) (by rw [hq]; omega)
  rw [e3]
  congr 1
  obtain ⟨q, hq⟩ := w64_mod p
  have hw := w64_fits p
  rw [Bool.eq_iff_iff]
  simp only [decide_eq_true_eq]
  constructor
  · intro h
    simp only [wu_mod] at h
    omega
  · intro h
    rw [w64_self h]
    simp only [wu_mod]
    omega
theorem arith_val (op : Str) (a b : Int) (ha : fits a) (hb : fits b) : (arithP op a b).1 = w64 (if op = [43] then a + b else if op = [45] then a - b else a * b) := by
  by_cases h1 : op = [43]
  · unfold arithP; rw [if_pos h1, if_pos h1]
  · by_cases h2 : op = [45]
    · unfold arithP; rw [if_neg h1, if_pos h2, if_neg h1, if_pos h2]
    · rw [mul_ok op h1 h2 ha hb, if_neg h1, if_neg h2]
end Go.Proofs.Ytopbkdpbljebgaa

/- The laws of bind: the document's numbers and comparisons. Conditions: that numbers lie in their kind's room. -/
set_option linter.unusedSimpArgs false
set_option linter.unusedVariables false
namespace Go.Proofs.Ytopbkdpbljebgaa
open Go.RowKit

theorem tdiv_of_mul {a b : Int} (hb : b ≠ 0) : (a * b).tdiv b = a ∧ (a * b).tmod b = 0 := ⟨Int.mul_tdiv_cancel _ hb, Int.mul_tmod_left _ _⟩
theorem times_fits {a b : Int} (ha : fits a) (hb : fits b) (hb0 : b ≠ 0) : fits (a * b) ↔ (w64 ((w64 (a * b)).tdiv b) = a ∧ (w64 (a * b)).tmod b = 0 ∧ ¬ (a = -1 ∧ b = -9223372036854775808) ∧ ¬ (b = -1 ∧ a = -9223372036854775808)) := by
  constructor
  · intro h
    obtain ⟨h1, h2⟩ := tdiv_of_mul (a := a) hb0
    rw [w64_self h, h1, h2, w64_self ha]
    refine ⟨rfl, rfl, ?_, ?_⟩
    · rintro ⟨rfl, rfl⟩; omega
    · rintro ⟨rfl, rfl⟩; omega
  · rintro ⟨h1, h2, h3, h4⟩
    have hn := w64_fits (a * b)
    generalize hN : w64 (a * b) = n at h1 h2 hn
    have e : n = b * n.tdiv b + n.tmod b := (Int.mul_tdiv_add_tmod n b).symm
    rw [h2, Int.add_zero] at e
    have hq : fits (n.tdiv b) ∨ (n = -9223372036854775808 ∧ b = -1) := by
      by_cases hb1 : b = -1
      · subst hb1
        have : n.tdiv (-1) = -n := by rw [Int.tdiv_neg, Int.tdiv_one]
        rw [this]
        by_cases h5 : n = -9223372036854775808
        · exact .inr ⟨h5, rfl⟩
        · exact .inl ⟨by omega, by omega⟩
      · left
        by_cases hb3 : b = 1
        · subst hb3; rw [Int.tdiv_one]; exact hn
        have h5 : (n.tdiv b).natAbs ≤ n.natAbs := by
          rw [Int.natAbs_tdiv]; exact Nat.div_le_self _ _
        have h6 : n.natAbs = 9223372036854775808 → (n.tdiv b).natAbs < 9223372036854775808 := by
          intro h7
          rw [Int.natAbs_tdiv, h7]
          have hb2 : ¬ b.natAbs = 1 := by omega
          exact Nat.div_lt_self (n := 9223372036854775808) (k := b.natAbs) (by decide) (by omega)
        refine ⟨?_, ?_⟩
        · omega
        · omega
    rcases hq with hq | ⟨rfl, rfl⟩
    · rw [w64_self hq] at h1
      rw [← h1, Int.mul_comm, ← e]; exact hn
    · have : (-9223372036854775808 : Int).tdiv (-1) = 9223372036854775808 := by decide
      rw [this] at h1
      have h5 : w64 9223372036854775808 = -9223372036854775808 := by decide
      rw [h5] at h1
      exact absurd ⟨rfl, h1.symm⟩ h4
set_option maxHeartbeats 1000000 in
theorem Be.times (B : Base) (a b : Int) (ha : fits a) (hb : fits b) : Fn Try.prog B 43 #[iV a, iV b] [] (fun u l => u = .tuple #[iV (w64 (a * b)), .bool (decide (fits (a * b)))] ∧ l = []) := by
 refine Fn.enter2 46 Try.func43 rfl rfl (Nat.le_of_ble_eq_true rfl) (fun F => ?_)
 try simp only [List.cons_append, List.nil_append]
 refine T.seq ?_
 refine T.region ?_
 refine LW.q rfl (Qt.assign rfl) ?_
 refine LW.q rfl (Qt.assign rfl) ?_
 refine LW.done ?_
 refine T.seq ?_
 refine T.seq ?_
 refine T.region ?_
 refine LW.q rfl (Qt.move rfl) ?_
 refine LW.q rfl (Qt.eql rfl rfl) ?_
 refine LW.q rfl (Qt.move rfl) ?_
 refine LW.split (t := 9) rfl (fun h0 => ?_) (fun h0 => ?_)
 ·
  try replace h0 := of_decide_eq_true h0
  refine LW.s rfl ?_
  refine LW.s rfl ?_
  refine LW.q rfl (Qt.pick rfl rfl) ?_
  refine LW.done ?_
  first | refine T.condT rfl ?_ | refine T.condPT rfl (rfl) ?_ | refine T.condBT rfl (rfl) ?_
  refine T.seq ?_
  refine T.region ?_
  refine LW.q rfl (Qt.assign rfl) ?_
  refine LW.q rfl (Qt.assign rfl) ?_
  refine LW.done ?_
  refine T.ret ?_
  exact ⟨.inl rfl, _, _, res [_, _] rfl ⟨rvT rfl, rvT rfl, trivial⟩, ⟨by rw [h0, Int.zero_mul]; rfl, rfl⟩, Sub.any⟩
 ·
  try replace h0 := of_decide_eq_false h0
  refine LW.q rfl (Qt.move rfl) ?_
  refine LW.q rfl (Qt.eql rfl rfl) ?_
  refine LW.q rfl (Qt.pick rfl rfl) ?_
  refine LW.done ?_
  refine T.condP rfl (fun h1 => ?_) (fun h1 => ?_)
  ·
   refine T.seq ?_
   refine T.region ?_
   refine LW.q rfl (Qt.assign rfl) ?_
   refine LW.q rfl (Qt.assign rfl) ?_
   refine LW.done ?_
   refine T.ret ?_
   exact ⟨.inl rfl, _, _, res [_, _] rfl ⟨rvT rfl, rvT rfl, trivial⟩, ⟨by rw [h1, Int.mul_zero]; rfl, rfl⟩, Sub.any⟩
  ·
   have hf := times_fits ha hb h1
   refine T.skip ?_
   refine T.seq ?_
   refine T.region ?_
   refine LW.q rfl (Qt.move rfl) ?_
   refine LW.q rfl (Qt.move rfl) ?_
   refine LW.q rfl (Qt.mul rfl rfl rfl) ?_
   refine LW.q rfl (Qt.assign rfl) ?_
   refine LW.done ?_
   refine T.seq ?_
   refine T.region ?_
   refine LW.q rfl (Qt.move rfl) ?_
   refine LW.q rfl (Qt.move rfl) ?_
   refine LW.q rfl (Qt.move rfl) ?_
   refine LW.q rfl (Qt.quo rfl rfl h1 rfl) ?_
   refine LW.q rfl (Qt.move rfl) ?_
   refine LW.q rfl (Qt.eql rfl rfl) ?_
   refine LW.q rfl (Qt.move rfl) ?_
   refine LW.split (t := 22) rfl (fun g1 => ?_) (fun g1 => ?_)
   ·
    try replace g1 := of_decide_eq_true g1
    refine LW.q rfl (Qt.move rfl) ?_
    refine LW.q rfl (Qt.move rfl) ?_
    refine LW.q rfl (Qt.rem rfl rfl h1 rfl) ?_
    refine LW.q rfl (Qt.eql rfl rfl) ?_
    refine LW.q rfl (Qt.pick rfl rfl) ?_
    refine LW.q rfl (Qt.move rfl) ?_
    refine LW.split (t := 28) rfl (fun g2 => ?_) (fun g2 => ?_)
    ·
     try replace g2 := of_decide_eq_true g2
     refine LW.q rfl (Qt.move rfl) ?_
     refine LW.q rfl (Qt.eql rfl rfl) ?_
     refine LW.q rfl (Qt.move rfl) ?_
     refine LW.split (t := 31) rfl (fun g3 => ?_) (fun g3 => ?_)
     ·
      try replace g3 := of_decide_eq_true g3
      refine LW.q rfl (Qt.move rfl) ?_
      refine LW.q rfl (Qt.eql rfl rfl) ?_
      refine LW.q rfl (Qt.pick rfl rfl) ?_
      first | refine LW.q rfl (Qt.notP rfl) ?_ | refine LW.q rfl (Qt.notB rfl) ?_
      refine LW.q rfl (Qt.pick rfl rfl) ?_
      refine LW.q rfl (Qt.move rfl) ?_
      refine LW.split (t := 37) rfl (fun g4 => ?_) (fun g4 => ?_)
      ·
       try replace g4 := of_decide_eq_true g4
       refine LW.q rfl (Qt.move rfl) ?_
       refine LW.q rfl (Qt.eql rfl rfl) ?_
       refine LW.q rfl (Qt.move rfl) ?_
       refine LW.split (t := 40) rfl (fun g5 => ?_) (fun g5 => ?_)
       ·
        try replace g5 := of_decide_eq_true g5
        refine LW.q rfl (Qt.move rfl) ?_
        refine LW.q rfl (Qt.eql rfl rfl) ?_
        refine LW.q rfl (Qt.pick rfl rfl) ?_
        first | refine LW.q rfl (Qt.notP rfl) ?_ | refine LW.q rfl (Qt.notB rfl) ?_
        refine LW.q rfl (Qt.pick rfl rfl) ?_
        refine LW.q rfl (Qt.assign rfl) ?_
        refine LW.q rfl (Qt.assign rfl) ?_
        refine LW.done ?_
        refine T.ret ?_
        exact ⟨.inl rfl, _, _, res [_, _] rfl ⟨rvT rfl, rvT rfl, trivial⟩, ⟨by rw [decide_eq_true (hf.2 ⟨g1, g2, fun h => g4 h.2, fun h => by omega⟩), decide_eq_true (show ¬ a = -9223372036854775808 by omega)]; rfl, rfl⟩, Sub.any⟩
       ·
        try replace g5 := of_decide_eq_false g5
        refine LW.s rfl ?_
        refine LW.s rfl ?_
        refine LW.q rfl (Qt.pick rfl rfl) ?_
        first | refine LW.q rfl (Qt.notP rfl) ?_ | refine LW.q rfl (Qt.notB rfl) ?_
        refine LW.q rfl (Qt.pick rfl rfl) ?_
        refine LW.q rfl (Qt.assign rfl) ?_
        refine LW.q rfl (Qt.assign rfl) ?_
        refine LW.done ?_
        refine T.ret ?_
        exact ⟨.inl rfl, _, _, res [_, _] rfl ⟨rvT rfl, rvT rfl, trivial⟩, ⟨by rw [decide_eq_true (hf.2 ⟨g1, g2, fun h => g4 h.2, fun h => g5 h.1⟩)]; rfl, rfl⟩, Sub.any⟩
      ·
       try replace g4 := of_decide_eq_false g4
       refine LW.s rfl ?_
       refine LW.s rfl ?_
       refine LW.s rfl ?_
       refine LW.s rfl ?_
       refine LW.s rfl ?_
       refine LW.s rfl ?_
       refine LW.s rfl ?_
       refine LW.q rfl (Qt.pick rfl rfl) ?_
       refine LW.q rfl (Qt.assign rfl) ?_
       refine LW.q rfl (Qt.assign rfl) ?_
       refine LW.done ?_
       refine T.ret ?_
       exact ⟨.inl rfl, _, _, res [_, _] rfl ⟨rvT rfl, rvT rfl, trivial⟩, ⟨by rw [decide_eq_false (fun h => g4 fun e => (hf.1 h).2.2.1 ⟨g3, e⟩)]; rfl, rfl⟩, Sub.any⟩
     ·
      try replace g3 := of_decide_eq_false g3
      refine LW.s rfl ?_
      refine LW.s rfl ?_
      refine LW.q rfl (Qt.pick rfl rfl) ?_
      first | refine LW.q rfl (Qt.notP rfl) ?_ | refine LW.q rfl (Qt.notB rfl) ?_
      refine LW.q rfl (Qt.pick rfl rfl) ?_
      refine LW.q rfl (Qt.move rfl) ?_
      first | refine LW.gT (t := 37) rfl rfl ?_ | refine LW.gT (t := 37) rfl (decide_eq_true (rfl)) ?_ | refine LW.gT (t := 37) rfl (rfl) ?_
      refine LW.q rfl (Qt.move rfl) ?_
      refine LW.q rfl (Qt.eql rfl rfl) ?_
      refine LW.q rfl (Qt.move rfl) ?_
      refine LW.split (t := 40) rfl (fun g5 => ?_) (fun g5 => ?_)
      ·
       try replace g5 := of_decide_eq_true g5
       refine LW.q rfl (Qt.move rfl) ?_
       refine LW.q rfl (Qt.eql rfl rfl) ?_
       refine LW.q rfl (Qt.pick rfl rfl) ?_
       first | refine LW.q rfl (Qt.notP rfl) ?_ | refine LW.q rfl (Qt.notB rfl) ?_
       refine LW.q rfl (Qt.pick rfl rfl) ?_
       refine LW.q rfl (Qt.assign rfl) ?_
       refine LW.q rfl (Qt.assign rfl) ?_
       refine LW.done ?_
       refine T.ret ?_
       exact ⟨.inl rfl, _, _, res [_, _] rfl ⟨rvT rfl, rvT rfl, trivial⟩, ⟨by rw [show decide (fits (a * b)) = decide (¬ a = -9223372036854775808) from decide_eq_decide.2 ⟨fun h e => (hf.1 h).2.2.2 ⟨g5, e⟩, fun h => hf.2 ⟨g1, g2, fun h => g3 h.1, fun h' => h h'.2⟩⟩]; rfl, rfl⟩, Sub.any⟩
      ·
       try replace g5 := of_decide_eq_false g5
       refine LW.s rfl ?_
       refine LW.s rfl ?_
       refine LW.q rfl (Qt.pick rfl rfl) ?_
       first | refine LW.q rfl (Qt.notP rfl) ?_ | refine LW.q rfl (Qt.notB rfl) ?_
       refine LW.q rfl (Qt.pick rfl rfl) ?_
       refine LW.q rfl (Qt.assign rfl) ?_
       refine LW.q rfl (Qt.assign rfl) ?_
       refine LW.done ?_
       refine T.ret ?_
       exact ⟨.inl rfl, _, _, res [_, _] rfl ⟨rvT rfl, rvT rfl, trivial⟩, ⟨by rw [decide_eq_true (hf.2 ⟨g1, g2, fun h => g3 h.1, fun h => g5 h.1⟩)]; rfl, rfl⟩, Sub.any⟩
    ·
     try replace g2 := of_decide_eq_false g2
     refine LW.s rfl ?_
     refine LW.s rfl ?_
     refine LW.s rfl ?_
     refine LW.s rfl ?_
     refine LW.s rfl ?_
     refine LW.s rfl ?_
     refine LW.s rfl ?_
     refine LW.q rfl (Qt.pick rfl rfl) ?_
     refine LW.q rfl (Qt.move rfl) ?_
     first | refine LW.gF (t := 37) rfl rfl ?_ | refine LW.gF (t := 37) rfl (decide_eq_false (rfl)) ?_ | refine LW.gF (t := 37) rfl (rfl) ?_
     refine LW.s rfl ?_
     refine LW.s rfl ?_
     refine LW.s rfl ?_
     refine LW.s rfl ?_
     refine LW.s rfl ?_
     refine LW.s rfl ?_
     refine LW.s rfl ?_
     refine LW.q rfl (Qt.pick rfl rfl) ?_
     refine LW.q rfl (Qt.assign rfl) ?_
     refine LW.q rfl (Qt.assign rfl) ?_
     refine LW.done ?_
     refine T.ret ?_
     exact ⟨.inl rfl, _, _, res [_, _] rfl ⟨rvT rfl, rvT rfl, trivial⟩, ⟨by rw [decide_eq_false (fun h => g2 (hf.1 h).2.1)]; rfl, rfl⟩, Sub.any⟩
   ·
    try replace g1 := of_decide_eq_false g1
    refine LW.s rfl ?_
    refine LW.s rfl ?_
    refine LW.s rfl ?_
    refine LW.s rfl ?_
    refine LW.q rfl (Qt.pick rfl rfl) ?_
    refine LW.q rfl (Qt.move rfl) ?_
    first | refine LW.gF (t := 28) rfl rfl ?_ | refine LW.gF (t := 28) rfl (decide_eq_false (rfl)) ?_ | refine LW.gF (t := 28) rfl (rfl) ?_
    refine LW.s rfl ?_
    refine LW.s rfl ?_
    refine LW.s rfl ?_
    refine LW.s rfl ?_
    refine LW.s rfl ?_
    refine LW.s rfl ?_
    refine LW.s rfl ?_
    refine LW.q rfl (Qt.pick rfl rfl) ?_
    refine LW.q rfl (Qt.move rfl) ?_
    first | refine LW.gF (t := 37) rfl rfl ?_ | refine LW.gF (t := 37) rfl (decide_eq_false (rfl)) ?_ | refine LW.gF (t := 37) rfl (rfl) ?_
    refine LW.s rfl ?_
    refine LW.s rfl ?_
    refine LW.s rfl ?_
    refine LW.s rfl ?_
    refine LW.s rfl ?_
    refine LW.s rfl ?_
    refine LW.s rfl ?_
    refine LW.q rfl (Qt.pick rfl rfl) ?_
    refine LW.q rfl (Qt.assign rfl) ?_
    refine LW.q rfl (Qt.assign rfl) ?_
    refine LW.done ?_
    refine T.ret ?_
    exact ⟨.inl rfl, _, _, res [_, _] rfl ⟨rvT rfl, rvT rfl, trivial⟩, ⟨by rw [decide_eq_false (fun h => g1 (hf.1 h).1)]; rfl, rfl⟩, Sub.any⟩
theorem add_eq {a b : Int} (ha : fits a) (hb : fits b) : arithP [43] a b = (w64 (a + b), decide (fits (a + b))) := Prod.ext (by rw [arith_val _ _ _ ha hb, if_pos rfl]) (add_ok ha hb)
theorem sub_eq {a b : Int} (ha : fits a) (hb : fits b) : arithP [45] a b = (w64 (a - b), decide (fits (a - b))) := Prod.ext (by rw [arith_val _ _ _ ha hb, if_neg (by decide), if_pos rfl]) (sub_ok ha hb)
/-- Sum, difference or product, and the error's number. -/
def numR (op : Str) (a b : Int) : Va × Int := match arithE op a b with
  | .ok v => (v, 0)
  | .error c => (vZ, c)
theorem Be.truth (B : Base) (p : Bool) : Fn Try.prog B 34 #[.bool p] [] (fun u l => u = vA (truthV p) ∧ l = []) := by
 refine Fn.enter1 6 Try.func34 rfl rfl (Nat.le_of_ble_eq_true rfl) (fun F => ?_)
 try simp only [List.cons_append, List.nil_append]
 refine T.seq ?_
 refine T.region ?_
 refine LW.e rfl (Ef.alloc [.int .i64 0, .int .i64 0, .string .empty] (by unfold zeroB; kernel_rfl) ?_)
 intro g2
 refine LW.done ?_
 refine T.seq ?_
 refine T.seq ?_
 refine T.region ?_
 refine LW.q rfl (Qt.move rfl) ?_
 refine LW.done ?_
 refine T.cond rfl (fun h => ?_) (fun h => ?_)
 ·
  refine T.seq ?_
  refine T.region ?_
  refine LW.q rfl (Qt.build [(0, 1), (1, 1), (2, 1)] [.int .i64 0, .int .i64 0, .string .empty] [_, _, _] [(0, _), (1, _)] (by kernel_rfl) (by unfold zeroB; kernel_rfl) rfl rfl) ?_
  refine LW.e0 rfl (Ef.store [_, _, _] (by kernel_rfl) rfl rfl rfl rfl (by simp) ?_)
  try simp only [splice, List.length_cons, List.length_nil, List.drop_succ_cons, List.cons_append, List.take_succ_cons, List.take_zero, List.drop_zero, List.nil_append, List.append_nil]
  refine LW.done ?_
  refine T.ret ?_
  exact ⟨.inl rfl, _, _, res [_] rfl ⟨rvA [_, _, _] (by kernel_rfl) rfl ⟨rfl, rfl, rfl, trivial⟩, trivial⟩, ⟨by rw [h]; rfl, rfl⟩, Sub.any⟩
 ·
  refine T.skip ?_
  refine T.seq ?_
  refine T.region ?_
  refine LW.q rfl (Qt.build [(0, 1), (1, 1), (2, 1)] [.int .i64 0, .int .i64 0, .string .empty] [_, _, _] [(0, _)] (by kernel_rfl) (by unfold zeroB; kernel_rfl) rfl rfl) ?_
  refine LW.e0 rfl (Ef.store [_, _, _] (by kernel_rfl) rfl rfl rfl rfl (by simp) ?_)
  try simp only [splice, List.length_cons, List.length_nil, List.drop_succ_cons, List.cons_append, List.take_succ_cons, List.take_zero, List.drop_zero, List.nil_append, List.append_nil]
  refine LW.done ?_
  refine T.ret ?_
  exact ⟨.inl rfl, _, _, res [_] rfl ⟨rvA [_, _, _] (by kernel_rfl) rfl ⟨rfl, rfl, rfl, trivial⟩, trivial⟩, ⟨by rw [h]; rfl, rfl⟩, Sub.any⟩
set_option maxHeartbeats 1000000 in
theorem Be.number (B : Base) (op : Str) (a b : Int) (hop : ariOp op) (ha : fits a) (hb : fits b) : Fn Try.prog B 35 #[tV op, iV a, iV b] [] (fun u l => u = .tuple #[vA (numR op a b).1, iV (numR op a b).2] ∧ l = []) := by
 refine Fn.enter3 72 Try.func35 rfl rfl (Nat.le_of_ble_eq_true rfl) (fun F => ?_)
 try simp only [List.cons_append, List.nil_append]
 refine T.seq ?_
 refine T.region ?_
 refine LW.e rfl (Ef.alloc [.int .i64 0, .int .i64 0, .string .empty] (by unfold zeroB; kernel_rfl) ?_)
 intro g6
 refine LW.q rfl (Qt.assign rfl) ?_
 refine LW.done ?_
 refine T.seq ?_
 refine T.region ?_
 refine LW.q rfl (Qt.assign rfl) ?_
 refine LW.done ?_
 refine T.seq ?_
 refine T.region ?_
 refine LW.q rfl (Qt.assign rfl) ?_
 refine LW.done ?_
 refine T.cut (fun fz lz => ∃ (f0 : Fr) (r : Int) (ok : Bool), ((r, ok) = arithP op a b) ∧ fz = (upd (upd (upd f0 6 (.pointer (some ⟨g6, 0, none⟩))) 8 (iV r)) 9 (.bool ok)) ∧ lz = blk g6 [iV 0, iV 0, .string .empty] 55 :: F) ?_ ?_
 ·
  refine T.seq ?_
  refine T.region ?_
  refine LW.q rfl (Qt.move rfl) ?_
  refine LW.done ?_
  refine T.block ?_
  refine T.seq ?_
  refine T.region ?_
  refine LW.q rfl (Qt.eqlS rfl rfl) ?_
  refine LW.q rfl (Qt.assign rfl) ?_
  refine LW.done ?_
  refine T.condP rfl (fun h1 => ?_) (fun h1 => ?_)
  ·
   subst h1
   refine T.seq ?_
   refine T.region ?_
   refine LW.q rfl (Qt.move rfl) ?_
   refine LW.q rfl (Qt.gtr rfl rfl) ?_
   refine LW.q rfl (Qt.move rfl) ?_
   refine LW.split (t := 15) rfl (fun h2 => ?_) (fun h2 => ?_)
   ·
    try replace h2 := of_decide_eq_true h2
    refine LW.q rfl (Qt.move rfl) ?_
    refine LW.q rfl (Qt.move rfl) ?_
    refine LW.q rfl (Qt.sub rfl rfl (wr64 (by omega) (by omega))) ?_
    refine LW.q rfl (Qt.gtr rfl rfl) ?_
    refine LW.q rfl (Qt.pick rfl rfl) ?_
    refine LW.q rfl (Qt.move rfl) ?_
    refine LW.split (t := 21) rfl (fun h3 => ?_) (fun h3 => ?_)
    ·
     try replace h3 := of_decide_eq_true h3
     refine LW.s rfl ?_
     refine LW.s rfl ?_
     refine LW.s rfl ?_
     refine LW.s rfl ?_
     refine LW.s rfl ?_
     refine LW.s rfl ?_
     refine LW.s rfl ?_
     refine LW.s rfl ?_
     refine LW.q rfl (Qt.pick rfl rfl) ?_
     first | refine LW.q rfl (Qt.notP rfl) ?_ | refine LW.q rfl (Qt.notB rfl) ?_
     refine LW.q rfl (Qt.assign rfl) ?_
     refine LW.done ?_
     refine T.region ?_
     refine LW.q rfl (Qt.move rfl) ?_
     refine LW.q rfl (Qt.move rfl) ?_
     refine LW.q rfl (Qt.add rfl rfl rfl) ?_
     refine LW.q rfl (Qt.assign rfl) ?_
     refine LW.done ?_
     exact ⟨_, ⟨_, w64 (a + b), false, by rw [add_eq ha hb, decide_eq_false (by omega)], (updS rfl (updS rfl (updS rfl rfl))), rfl⟩, Sub.any⟩
    ·
     try replace h3 := of_decide_eq_false h3
     refine LW.q rfl (Qt.move rfl) ?_
     refine LW.q rfl (Qt.lss rfl rfl) ?_
     refine LW.q rfl (Qt.move rfl) ?_
     first | refine LW.gF (t := 24) rfl rfl ?_ | refine LW.gF (t := 24) rfl (decide_eq_false ((by omega))) ?_ | refine LW.gF (t := 24) rfl ((by omega)) ?_
     refine LW.s rfl ?_
     refine LW.s rfl ?_
     refine LW.s rfl ?_
     refine LW.s rfl ?_
     refine LW.q rfl (Qt.pick rfl rfl) ?_
     refine LW.q rfl (Qt.pick rfl rfl) ?_
     first | refine LW.q rfl (Qt.notP rfl) ?_ | refine LW.q rfl (Qt.notB rfl) ?_
     refine LW.q rfl (Qt.assign rfl) ?_
     refine LW.done ?_
     refine T.region ?_
     refine LW.q rfl (Qt.move rfl) ?_
     refine LW.q rfl (Qt.move rfl) ?_
     refine LW.q rfl (Qt.add rfl rfl rfl) ?_
     refine LW.q rfl (Qt.assign rfl) ?_
     refine LW.done ?_
     exact ⟨_, ⟨_, w64 (a + b), true, by rw [add_eq ha hb, decide_eq_true (by omega)], (updS rfl (updS rfl (updS rfl rfl))), rfl⟩, Sub.any⟩
   ·
    try replace h2 := of_decide_eq_false h2
    refine LW.s rfl ?_
    refine LW.s rfl ?_
    refine LW.s rfl ?_
    refine LW.s rfl ?_
    refine LW.q rfl (Qt.pick rfl rfl) ?_
    refine LW.q rfl (Qt.move rfl) ?_
    first | refine LW.gF (t := 21) rfl rfl ?_ | refine LW.gF (t := 21) rfl (decide_eq_false (rfl)) ?_ | refine LW.gF (t := 21) rfl (rfl) ?_
    refine LW.q rfl (Qt.move rfl) ?_
    refine LW.q rfl (Qt.lss rfl rfl) ?_
    refine LW.q rfl (Qt.move rfl) ?_
    refine LW.split (t := 24) rfl (fun h3 => ?_) (fun h3 => ?_)
    ·
     try replace h3 := of_decide_eq_true h3
     refine LW.q rfl (Qt.move rfl) ?_
     refine LW.q rfl (Qt.move rfl) ?_
     refine LW.q rfl (Qt.sub rfl rfl (wr64 (by omega) (by omega))) ?_
     refine LW.q rfl (Qt.lss rfl rfl) ?_
     refine LW.q rfl (Qt.pick rfl rfl) ?_
     refine LW.q rfl (Qt.pick rfl rfl) ?_
     first | refine LW.q rfl (Qt.notP rfl) ?_ | refine LW.q rfl (Qt.notB rfl) ?_
     refine LW.q rfl (Qt.assign rfl) ?_
     refine LW.done ?_
     refine T.region ?_
     refine LW.q rfl (Qt.move rfl) ?_
     refine LW.q rfl (Qt.move rfl) ?_
     refine LW.q rfl (Qt.add rfl rfl rfl) ?_
     refine LW.q rfl (Qt.assign rfl) ?_
     refine LW.done ?_
     exact ⟨_, ⟨_, w64 (a + b), _, by rw [add_eq ha hb, show decide (fits (a + b)) = decide (¬ a < -9223372036854775808 - b) from decide_eq_decide.2 (by omega)], (updS rfl (updS rfl (updS rfl rfl))), rfl⟩, Sub.any⟩
    ·
     try replace h3 := of_decide_eq_false h3
     refine LW.s rfl ?_
     refine LW.s rfl ?_
     refine LW.s rfl ?_
     refine LW.s rfl ?_
     refine LW.q rfl (Qt.pick rfl rfl) ?_
     refine LW.q rfl (Qt.pick rfl rfl) ?_
     first | refine LW.q rfl (Qt.notP rfl) ?_ | refine LW.q rfl (Qt.notB rfl) ?_
     refine LW.q rfl (Qt.assign rfl) ?_
     refine LW.done ?_
     refine T.region ?_
     refine LW.q rfl (Qt.move rfl) ?_
     refine LW.q rfl (Qt.move rfl) ?_
     refine LW.q rfl (Qt.add rfl rfl rfl) ?_
     refine LW.q rfl (Qt.assign rfl) ?_
     refine LW.done ?_
     exact ⟨_, ⟨_, w64 (a + b), true, by rw [add_eq ha hb, decide_eq_true (by omega)], (updS rfl (updS rfl (updS rfl rfl))), rfl⟩, Sub.any⟩
  ·
   refine T.seq ?_
   refine T.region ?_
   refine LW.q rfl (Qt.eqlS rfl rfl) ?_
   refine LW.q rfl (Qt.assign rfl) ?_
   refine LW.done ?_
   refine T.condP rfl (fun h2 => ?_) (fun h2 => ?_)
   ·
    subst h2
    refine T.seq ?_
    refine T.region ?_
    refine LW.q rfl (Qt.move rfl) ?_
    refine LW.q rfl (Qt.lss rfl rfl) ?_
    refine LW.q rfl (Qt.move rfl) ?_
    refine LW.split (t := 39) rfl (fun h2 => ?_) (fun h2 => ?_)
    ·
     try replace h2 := of_decide_eq_true h2
     refine LW.q rfl (Qt.move rfl) ?_
     refine LW.q rfl (Qt.move rfl) ?_
     refine LW.q rfl (Qt.add rfl rfl (wr64 (by omega) (by omega))) ?_
     refine LW.q rfl (Qt.gtr rfl rfl) ?_
     refine LW.q rfl (Qt.pick rfl rfl) ?_
     refine LW.q rfl (Qt.move rfl) ?_
     refine LW.split (t := 45) rfl (fun h3 => ?_) (fun h3 => ?_)
     ·
      try replace h3 := of_decide_eq_true h3
      refine LW.s rfl ?_
      refine LW.s rfl ?_
      refine LW.s rfl ?_
      refine LW.s rfl ?_
      refine LW.s rfl ?_
      refine LW.s rfl ?_
      refine LW.s rfl ?_
      refine LW.s rfl ?_
      refine LW.q rfl (Qt.pick rfl rfl) ?_
      first | refine LW.q rfl (Qt.notP rfl) ?_ | refine LW.q rfl (Qt.notB rfl) ?_
      refine LW.q rfl (Qt.assign rfl) ?_
      refine LW.done ?_
      refine T.region ?_
      refine LW.q rfl (Qt.move rfl) ?_
      refine LW.q rfl (Qt.move rfl) ?_
      refine LW.q rfl (Qt.sub rfl rfl rfl) ?_
      refine LW.q rfl (Qt.assign rfl) ?_
      refine LW.done ?_
      exact ⟨_, ⟨_, w64 (a - b), false, by rw [sub_eq ha hb, decide_eq_false (by omega)], (updS rfl (updS rfl (updS rfl rfl))), rfl⟩, Sub.any⟩
     ·
      try replace h3 := of_decide_eq_false h3
      refine LW.q rfl (Qt.move rfl) ?_
      refine LW.q rfl (Qt.gtr rfl rfl) ?_
      refine LW.q rfl (Qt.move rfl) ?_
      first | refine LW.gF (t := 48) rfl rfl ?_ | refine LW.gF (t := 48) rfl (decide_eq_false ((by omega))) ?_ | refine LW.gF (t := 48) rfl ((by omega)) ?_
      refine LW.s rfl ?_
      refine LW.s rfl ?_
      refine LW.s rfl ?_
      refine LW.s rfl ?_
      refine LW.q rfl (Qt.pick rfl rfl) ?_
      refine LW.q rfl (Qt.pick rfl rfl) ?_
      first | refine LW.q rfl (Qt.notP rfl) ?_ | refine LW.q rfl (Qt.notB rfl) ?_
      refine LW.q rfl (Qt.assign rfl) ?_
      refine LW.done ?_
      refine T.region ?_
      refine LW.q rfl (Qt.move rfl) ?_
      refine LW.q rfl (Qt.move rfl) ?_
      refine LW.q rfl (Qt.sub rfl rfl rfl) ?_
      refine LW.q rfl (Qt.assign rfl) ?_
      refine LW.done ?_
      exact ⟨_, ⟨_, w64 (a - b), true, by rw [sub_eq ha hb, decide_eq_true (by omega)], (updS rfl (updS rfl (updS rfl rfl))), rfl⟩, Sub.any⟩
    ·
     try replace h2 := of_decide_eq_false h2
     refine LW.s rfl ?_
     refine LW.s rfl ?_
     refine LW.s rfl ?_
     refine LW.s rfl ?_
     refine LW.q rfl (Qt.pick rfl rfl) ?_
     refine LW.q rfl (Qt.move rfl) ?_
     first | refine LW.gF (t := 45) rfl rfl ?_ | refine LW.gF (t := 45) rfl (decide_eq_false (rfl)) ?_ | refine LW.gF (t := 45) rfl (rfl) ?_
     refine LW.q rfl (Qt.move rfl) ?_
     refine LW.q rfl (Qt.gtr rfl rfl) ?_
     refine LW.q rfl (Qt.move rfl) ?_
     refine LW.split (t := 48) rfl (fun h3 => ?_) (fun h3 => ?_)
     ·
      try replace h3 := of_decide_eq_true h3
      refine LW.q rfl (Qt.move rfl) ?_
      refine LW.q rfl (Qt.move rfl) ?_
      refine LW.q rfl (Qt.add rfl rfl (wr64 (by omega) (by omega))) ?_
      refine LW.q rfl (Qt.lss rfl rfl) ?_
      refine LW.q rfl (Qt.pick rfl rfl) ?_
      refine LW.q rfl (Qt.pick rfl rfl) ?_
      first | refine LW.q rfl (Qt.notP rfl) ?_ | refine LW.q rfl (Qt.notB rfl) ?_
      refine LW.q rfl (Qt.assign rfl) ?_
      refine LW.done ?_
      refine T.region ?_
      refine LW.q rfl (Qt.move rfl) ?_
      refine LW.q rfl (Qt.move rfl) ?_
      refine LW.q rfl (Qt.sub rfl rfl rfl) ?_
      refine LW.q rfl (Qt.assign rfl) ?_
      refine LW.done ?_
      exact ⟨_, ⟨_, w64 (a - b), _, by rw [sub_eq ha hb, show decide (fits (a - b)) = decide (¬ a < -9223372036854775808 + b) from decide_eq_decide.2 (by omega)], (updS rfl (updS rfl (updS rfl rfl))), rfl⟩, Sub.any⟩
     ·
      try replace h3 := of_decide_eq_false h3
      refine LW.s rfl ?_
      refine LW.s rfl ?_
      refine LW.s rfl ?_
      refine LW.s rfl ?_
      refine LW.q rfl (Qt.pick rfl rfl) ?_
      refine LW.q rfl (Qt.pick rfl rfl) ?_
      first | refine LW.q rfl (Qt.notP rfl) ?_ | refine LW.q rfl (Qt.notB rfl) ?_
      refine LW.q rfl (Qt.assign rfl) ?_
      refine LW.done ?_
      refine T.region ?_
      refine LW.q rfl (Qt.move rfl) ?_
      refine LW.q rfl (Qt.move rfl) ?_
      refine LW.q rfl (Qt.sub rfl rfl rfl) ?_
      refine LW.q rfl (Qt.assign rfl) ?_
      refine LW.done ?_
      exact ⟨_, ⟨_, w64 (a - b), true, by rw [sub_eq ha hb, decide_eq_true (by omega)], (updS rfl (updS rfl (updS rfl rfl))), rfl⟩, Sub.any⟩
   ·
    refine T.seq ?_
    refine T.region ?_
    refine LW.q rfl (Qt.eqlS rfl rfl) ?_
    refine LW.q rfl (Qt.assign rfl) ?_
    refine LW.done ?_
    first | refine T.condT rfl ?_ | refine T.condPT rfl ((by rcases hop with h | h | h; exact absurd h h1; exact absurd h h2; exact h)) ?_ | refine T.condBT rfl ((by rcases hop with h | h | h; exact absurd h h1; exact absurd h h2; exact h)) ?_
    refine T.region ?_
    refine LW.q rfl (Qt.move rfl) ?_
    refine LW.q rfl (Qt.move rfl) ?_
    refine LW.e rfl (Ef.call (Be.times B a b ha hb) Try.func43 rfl rfl rfl ?_)
    rintro _ _ ⟨rfl, rfl⟩
    try simp only [List.cons_append, List.nil_append]
    refine LW.q rfl (Qt.move rfl) ?_
    refine LW.q rfl (Qt.extr rfl rfl) ?_
    refine LW.q rfl (Qt.extr rfl rfl) ?_
    refine LW.q rfl (Qt.assign rfl) ?_
    refine LW.q rfl (Qt.assign rfl) ?_
    refine LW.done ?_
    exact ⟨_, ⟨_, w64 (a * b), decide (fits (a * b)), by rw [mul_ok op h1 h2 ha hb], (updS rfl (updS rfl (updS rfl rfl))), rfl⟩, Sub.any⟩
 rintro fz lz ⟨f0, r, ok, hr, rfl, rfl⟩
 try simp only [List.cons_append, List.nil_append]
 refine T.seq ?_
 refine T.seq ?_
 refine T.region ?_
 refine LW.q rfl (Qt.move rfl) ?_
 first | refine LW.q rfl (Qt.notP rfl) ?_ | refine LW.q rfl (Qt.notB rfl) ?_
 refine LW.done ?_
 refine T.cond rfl (fun h => ?_) (fun h => ?_)
 ·
  have hn : numR op a b = (vZ, 171) := by
   have ho : ok = false := by simpa using h
   unfold numR arithE
   rw [← hr, ho]
   rfl
  refine T.seq ?_
  refine T.region ?_
  refine LW.q rfl (Qt.build [(0, 1), (1, 1), (2, 1)] [.int .i64 0, .int .i64 0, .string .empty] [_, _, _] [] (by kernel_rfl) (by unfold zeroB; kernel_rfl) rfl rfl) ?_
  refine LW.e0 rfl (Ef.store [_, _, _] (by kernel_rfl) rfl rfl rfl rfl (by simp) ?_)
  try simp only [splice, List.length_cons, List.length_nil, List.drop_succ_cons, List.cons_append, List.take_succ_cons, List.take_zero, List.drop_zero, List.nil_append, List.append_nil]
  refine LW.q rfl (Qt.assign rfl) ?_
  refine LW.done ?_
  refine T.ret ?_
  exact ⟨.inl rfl, _, _, res [_, _] rfl ⟨rvA [_, _, _] (by kernel_rfl) rfl ⟨rfl, rfl, rfl, trivial⟩, rvT rfl, trivial⟩, ⟨by rw [hn]; rfl, rfl⟩, Sub.any⟩
 ·
  have hn : numR op a b = (⟨1, r, []⟩, 0) := by
   have ho : ok = true := by simpa using h
   unfold numR arithE
   rw [← hr, ho]
   rfl
  refine T.skip ?_
  refine T.seq ?_
  refine T.region ?_
  refine LW.q rfl (Qt.move rfl) ?_
  refine LW.q rfl (Qt.build [(0, 1), (1, 1), (2, 1)] [.int .i64 0, .int .i64 0, .string .empty] [_, _, _] [(0, _), (1, _)] (by kernel_rfl) (by unfold zeroB; kernel_rfl) rfl rfl) ?_
  refine LW.e0 rfl (Ef.store [_, _, _] (by kernel_rfl) rfl rfl rfl rfl (by simp) ?_)
  try simp only [splice, List.length_cons, List.length_nil, List.drop_succ_cons, List.cons_append, List.take_succ_cons, List.take_zero, List.drop_zero, List.nil_append, List.append_nil]
  refine LW.q rfl (Qt.assign rfl) ?_
  refine LW.done ?_
  refine T.ret ?_
  exact ⟨.inl rfl, _, _, res [_, _] rfl ⟨rvA [_, _, _] (by kernel_rfl) rfl ⟨rfl, rfl, rfl, trivial⟩, rvT rfl, trivial⟩, ⟨by rw [hn]; rfl, rfl⟩, Sub.any⟩
end Go.Proofs.Ytopbkdpbljebgaa

/- The laws of bind: the document's Eval. Conditions: that what is handed in can be read; that numbers lie in their kind's room. -/
set_option linter.unusedSimpArgs false
set_option linter.unusedVariables false
namespace Go.Proofs.Ytopbkdpbljebgaa
open Go.RowKit

def oneV (a b : Va) : Int := if a.kind < b.kind ∨ a.kind = b.kind ∧ (a.int < b.int ∨ a.int = b.int ∧ Op.bytesLess a.text b.text = true) then -1 else if a = b then 0 else 1
theorem bytesLess_irrefl : ∀ a : Str, Op.bytesLess a a = false
  | [] => rfl
  | a :: l => by simp [Op.bytesLess, bytesLess_irrefl l]
theorem one_ord {a b : Va} (h : a.kind = b.kind) : oneV a b = ordV a b := by
  obtain ⟨ak, ai, at0⟩ := a
  obtain ⟨bk, bi, bt⟩ := b
  simp only at h; subst h
  unfold oneV ordV orI cmpI cmpS
  dsimp only
  by_cases h1 : ai < bi
  · simp [h1]
  · by_cases h2 : bi < ai
    · have h3 : ai ≠ bi := by omega
      simp [h1, h2, h3]
    · have h3 : ai = bi := by omega
      subst h3
      by_cases h4 : Op.bytesLess at0 bt = true
      · simp [h4]
      · by_cases h5 : at0 = bt
        · subst h5; simp [bytesLess_irrefl]
        · simp [h4, h5]
set_option maxHeartbeats 1000000 in
set_option maxRecDepth 20000 in
theorem Be.one (B : Base) (a b : Va) : Fn Try.prog B 36 #[vA a, vA b] [] (fun u l => u = iV (oneV a b) ∧ l = []) := by
 obtain ⟨ak, ai, at0⟩ := a
 obtain ⟨bk, bi, bt⟩ := b
 refine Fn.enter2 41 Try.func36 rfl rfl (Nat.le_of_ble_eq_true rfl) (fun F => ?_)
 try simp only [List.cons_append, List.nil_append]
 refine T.seq ?_
 refine T.region ?_
 refine LW.e rfl (Ef.box [_, _, _] rfl rfl ?_)
 intro g2
 refine LW.e rfl (Ef.box [_, _, _] rfl rfl ?_)
 intro g3
 refine LW.q rfl (Qt.assign rfl) ?_
 refine LW.done ?_
 refine T.cut (fun fz lz => ∃ (f0 : Fr) (f9 : Nat), (¬ (ak < bk ∨ ak = bk ∧ (ai < bi ∨ ai = bi ∧ Op.bytesLess at0 bt = true))) ∧ fz = (upd (upd f0 2 (.pointer (some ⟨g2, 0, none⟩))) 3 (.pointer (some ⟨g3, 0, none⟩))) ∧ lz = blk g3 [iV bk, iV bi, tV bt] 55 :: blk g2 [iV ak, iV ai, tV at0] 55 :: F) ?_ ?_
 ·
  refine T.seq ?_
  refine T.region ?_
  refine LW.q rfl (Qt.fieldAddr0 (by kernel_rfl) rfl) ?_
  first | refine LW.q rfl (Qt.load (by kernel_rfl) rfl rfl) ?_ | refine LW.q rfl (Qt.load (by kernel_rfl) rfl (map_at _ _ _ (by omega))) ?_ | refine LW.q rfl (Qt.load (by kernel_rfl) rfl (flat_cell0 _ _ _ (by intros; rfl) _ (by omega) (by rfl))) ?_ | refine LW.q rfl (Qt.load (by kernel_rfl) rfl (flat_cell _ _ _ (by intros; rfl) _ _ (by omega) (by rfl))) ?_ | refine LW.q rfl (Qt.load (by kernel_rfl) rfl (bytes_at _ _ (by omega))) ?_
  refine LW.q rfl (Qt.fieldAddr0 (by kernel_rfl) rfl) ?_
  first | refine LW.q rfl (Qt.load (by kernel_rfl) rfl rfl) ?_ | refine LW.q rfl (Qt.load (by kernel_rfl) rfl (map_at _ _ _ (by omega))) ?_ | refine LW.q rfl (Qt.load (by kernel_rfl) rfl (flat_cell0 _ _ _ (by intros; rfl) _ (by omega) (by rfl))) ?_ | refine LW.q rfl (Qt.load (by kernel_rfl) rfl (flat_cell _ _ _ (by intros; rfl) _ _ (by omega) (by rfl))) ?_ | refine LW.q rfl (Qt.load (by kernel_rfl) rfl (bytes_at _ _ (by omega))) ?_
  refine LW.q rfl (Qt.lss rfl rfl) ?_
  refine LW.q rfl (Qt.move rfl) ?_
  refine LW.split (t := 10) rfl (fun h1 => ?_) (fun h1 => ?_)
  ·
   try replace h1 := of_decide_eq_true h1
   refine LW.s rfl ?_
   refine LW.s rfl ?_
   refine LW.s rfl ?_
   refine LW.s rfl ?_
   refine LW.s rfl ?_
   refine LW.s rfl ?_
   refine LW.s rfl ?_
   refine LW.s rfl ?_
   refine LW.s rfl ?_
   refine LW.s rfl ?_
   refine LW.s rfl ?_
   refine LW.s rfl ?_
   refine LW.s rfl ?_
   refine LW.s rfl ?_
   refine LW.s rfl ?_
   refine LW.s rfl ?_
   refine LW.s rfl ?_
   refine LW.s rfl ?_
   refine LW.s rfl ?_
   refine LW.s rfl ?_
   refine LW.s rfl ?_
   refine LW.s rfl ?_
   refine LW.s rfl ?_
   refine LW.s rfl ?_
   refine LW.s rfl ?_
   refine LW.s rfl ?_
   refine LW.q rfl (Qt.pick rfl rfl) ?_
   refine LW.done ?_
   first | refine T.condT rfl ?_ | refine T.condPT rfl (rfl) ?_ | refine T.condBT rfl (rfl) ?_
   refine T.seq ?_
   refine T.region ?_
   refine LW.q rfl (Qt.assign rfl) ?_
   refine LW.done ?_
   refine T.ret ?_
   exact ⟨.inl rfl, _, _, res [_] rfl ⟨rvT rfl, trivial⟩, ⟨by unfold oneV; rw [if_pos (.inl h1)]; rfl, rfl⟩, Sub.any⟩
  ·
   try replace h1 := of_decide_eq_false h1
   refine LW.q rfl (Qt.fieldAddr0 (by kernel_rfl) rfl) ?_
   first | refine LW.q rfl (Qt.load (by kernel_rfl) rfl rfl) ?_ | refine LW.q rfl (Qt.load (by kernel_rfl) rfl (map_at _ _ _ (by omega))) ?_ | refine LW.q rfl (Qt.load (by kernel_rfl) rfl (flat_cell0 _ _ _ (by intros; rfl) _ (by omega) (by rfl))) ?_ | refine LW.q rfl (Qt.load (by kernel_rfl) rfl (flat_cell _ _ _ (by intros; rfl) _ _ (by omega) (by rfl))) ?_ | refine LW.q rfl (Qt.load (by kernel_rfl) rfl (bytes_at _ _ (by omega))) ?_
   refine LW.q rfl (Qt.fieldAddr0 (by kernel_rfl) rfl) ?_
   first | refine LW.q rfl (Qt.load (by kernel_rfl) rfl rfl) ?_ | refine LW.q rfl (Qt.load (by kernel_rfl) rfl (map_at _ _ _ (by omega))) ?_ | refine LW.q rfl (Qt.load (by kernel_rfl) rfl (flat_cell0 _ _ _ (by intros; rfl) _ (by omega) (by rfl))) ?_ | refine LW.q rfl (Qt.load (by kernel_rfl) rfl (flat_cell _ _ _ (by intros; rfl) _ _ (by omega) (by rfl))) ?_ | refine LW.q rfl (Qt.load (by kernel_rfl) rfl (bytes_at _ _ (by omega))) ?_
   refine LW.q rfl (Qt.eql rfl rfl) ?_
   refine LW.q rfl (Qt.move rfl) ?_
   refine LW.split (t := 16) rfl (fun h2 => ?_) (fun h2 => ?_)
   ·
    try replace h2 := of_decide_eq_true h2
    refine LW.q rfl (Qt.fieldAddr (off := 1) (by kernel_rfl) rfl) ?_
    first | refine LW.q rfl (Qt.load (by kernel_rfl) rfl rfl) ?_ | refine LW.q rfl (Qt.load (by kernel_rfl) rfl (map_at _ _ _ (by omega))) ?_ | refine LW.q rfl (Qt.load (by kernel_rfl) rfl (flat_cell0 _ _ _ (by intros; rfl) _ (by omega) (by rfl))) ?_ | refine LW.q rfl (Qt.load (by kernel_rfl) rfl (flat_cell _ _ _ (by intros; rfl) _ _ (by omega) (by rfl))) ?_ | refine LW.q rfl (Qt.load (by kernel_rfl) rfl (bytes_at _ _ (by omega))) ?_
    refine LW.q rfl (Qt.fieldAddr (off := 1) (by kernel_rfl) rfl) ?_
    first | refine LW.q rfl (Qt.load (by kernel_rfl) rfl rfl) ?_ | refine LW.q rfl (Qt.load (by kernel_rfl) rfl (map_at _ _ _ (by omega))) ?_ | refine LW.q rfl (Qt.load (by kernel_rfl) rfl (flat_cell0 _ _ _ (by intros; rfl) _ (by omega) (by rfl))) ?_ | refine LW.q rfl (Qt.load (by kernel_rfl) rfl (flat_cell _ _ _ (by intros; rfl) _ _ (by omega) (by rfl))) ?_ | refine LW.q rfl (Qt.load (by kernel_rfl) rfl (bytes_at _ _ (by omega))) ?_
    refine LW.q rfl (Qt.lss rfl rfl) ?_
    refine LW.q rfl (Qt.move rfl) ?_
    refine LW.split (t := 22) rfl (fun h3 => ?_) (fun h3 => ?_)
    ·
     try replace h3 := of_decide_eq_true h3
     refine LW.s rfl ?_
     refine LW.s rfl ?_
     refine LW.s rfl ?_
     refine LW.s rfl ?_
     refine LW.s rfl ?_
     refine LW.s rfl ?_
     refine LW.s rfl ?_
     refine LW.s rfl ?_
     refine LW.s rfl ?_
     refine LW.s rfl ?_
     refine LW.s rfl ?_
     refine LW.s rfl ?_
     refine LW.q rfl (Qt.pick rfl rfl) ?_
     refine LW.q rfl (Qt.pick rfl rfl) ?_
     refine LW.q rfl (Qt.pick rfl rfl) ?_
     refine LW.done ?_
     first | refine T.condT rfl ?_ | refine T.condPT rfl (rfl) ?_ | refine T.condBT rfl (rfl) ?_
     refine T.seq ?_
     refine T.region ?_
     refine LW.q rfl (Qt.assign rfl) ?_
     refine LW.done ?_
     refine T.ret ?_
     exact ⟨.inl rfl, _, _, res [_] rfl ⟨rvT rfl, trivial⟩, ⟨by unfold oneV; rw [if_pos (.inr ⟨h2, .inl h3⟩)]; rfl, rfl⟩, Sub.any⟩
    ·
     try replace h3 := of_decide_eq_false h3
     refine LW.q rfl (Qt.fieldAddr (off := 1) (by kernel_rfl) rfl) ?_
     first | refine LW.q rfl (Qt.load (by kernel_rfl) rfl rfl) ?_ | refine LW.q rfl (Qt.load (by kernel_rfl) rfl (map_at _ _ _ (by omega))) ?_ | refine LW.q rfl (Qt.load (by kernel_rfl) rfl (flat_cell0 _ _ _ (by intros; rfl) _ (by omega) (by rfl))) ?_ | refine LW.q rfl (Qt.load (by kernel_rfl) rfl (flat_cell _ _ _ (by intros; rfl) _ _ (by omega) (by rfl))) ?_ | refine LW.q rfl (Qt.load (by kernel_rfl) rfl (bytes_at _ _ (by omega))) ?_
     refine LW.q rfl (Qt.fieldAddr (off := 1) (by kernel_rfl) rfl) ?_
     first | refine LW.q rfl (Qt.load (by kernel_rfl) rfl rfl) ?_ | refine LW.q rfl (Qt.load (by kernel_rfl) rfl (map_at _ _ _ (by omega))) ?_ | refine LW.q rfl (Qt.load (by kernel_rfl) rfl (flat_cell0 _ _ _ (by intros; rfl) _ (by omega) (by rfl))) ?_ | refine LW.q rfl (Qt.load (by kernel_rfl) rfl (flat_cell _ _ _ (by intros; rfl) _ _ (by omega) (by rfl))) ?_ | refine LW.q rfl (Qt.load (by kernel_rfl) rfl (bytes_at _ _ (by omega))) ?_
     refine LW.q rfl (Qt.eql rfl rfl) ?_
     refine LW.q rfl (Qt.move rfl) ?_
     refine LW.split (t := 28) rfl (fun h4 => ?_) (fun h4 => ?_)
     ·
      try replace h4 := of_decide_eq_true h4
      refine LW.q rfl (Qt.fieldAddr (off := 2) (by kernel_rfl) rfl) ?_
      first | refine LW.q rfl (Qt.load (by kernel_rfl) rfl rfl) ?_ | refine LW.q rfl (Qt.load (by kernel_rfl) rfl (map_at _ _ _ (by omega))) ?_ | refine LW.q rfl (Qt.load (by kernel_rfl) rfl (flat_cell0 _ _ _ (by intros; rfl) _ (by omega) (by rfl))) ?_ | refine LW.q rfl (Qt.load (by kernel_rfl) rfl (flat_cell _ _ _ (by intros; rfl) _ _ (by omega) (by rfl))) ?_ | refine LW.q rfl (Qt.load (by kernel_rfl) rfl (bytes_at _ _ (by omega))) ?_
      refine LW.q rfl (Qt.fieldAddr (off := 2) (by kernel_rfl) rfl) ?_
      first | refine LW.q rfl (Qt.load (by kernel_rfl) rfl rfl) ?_ | refine LW.q rfl (Qt.load (by kernel_rfl) rfl (map_at _ _ _ (by omega))) ?_ | refine LW.q rfl (Qt.load (by kernel_rfl) rfl (flat_cell0 _ _ _ (by intros; rfl) _ (by omega) (by rfl))) ?_ | refine LW.q rfl (Qt.load (by kernel_rfl) rfl (flat_cell _ _ _ (by intros; rfl) _ _ (by omega) (by rfl))) ?_ | refine LW.q rfl (Qt.load (by kernel_rfl) rfl (bytes_at _ _ (by omega))) ?_
      refine LW.q rfl (Qt.lssS rfl rfl) ?_
      refine LW.q rfl (Qt.pick rfl rfl) ?_
      refine LW.q rfl (Qt.pick rfl rfl) ?_
      refine LW.q rfl (Qt.pick rfl rfl) ?_
      refine LW.q rfl (Qt.pick rfl rfl) ?_
      refine LW.done ?_
      refine T.cond rfl (fun h5 => ?_) (fun h5 => ?_)
      ·
       refine T.seq ?_
       refine T.region ?_
       refine LW.q rfl (Qt.assign rfl) ?_
       refine LW.done ?_
       refine T.ret ?_
       exact ⟨.inl rfl, _, _, res [_] rfl ⟨rvT rfl, trivial⟩, ⟨by unfold oneV; rw [if_pos (.inr ⟨h2, .inr ⟨h4, h5⟩⟩)]; rfl, rfl⟩, Sub.any⟩
      ·
       refine T.skip ?_
       exact ⟨_, ⟨_, 0, (by rintro (h6 | ⟨_, h6 | ⟨_, h6⟩⟩); exact h1 h6; exact h3 h6; rw [h6] at h5; cases h5), (updS rfl (updS rfl rfl)), rfl⟩, Sub.any⟩
     ·
      try replace h4 := of_decide_eq_false h4
      refine LW.s rfl ?_
      refine LW.s rfl ?_
      refine LW.s rfl ?_
      refine LW.s rfl ?_
      refine LW.s rfl ?_
      refine LW.q rfl (Qt.pick rfl rfl) ?_
      refine LW.q rfl (Qt.pick rfl rfl) ?_
      refine LW.q rfl (Qt.pick rfl rfl) ?_
      refine LW.q rfl (Qt.pick rfl rfl) ?_
      refine LW.done ?_
      first | refine T.condF rfl ?_ | refine T.condPF rfl (rfl) ?_ | refine T.condBF rfl (rfl) ?_
      refine T.skip ?_
      exact ⟨_, ⟨_, 0, by rintro (h6 | ⟨_, h6 | ⟨h6, _⟩⟩); exact h1 h6; exact h3 h6; exact h4 h6, (updS rfl (updS rfl rfl)), rfl⟩, Sub.any⟩
   ·
    try replace h2 := of_decide_eq_false h2
    refine LW.s rfl ?_
    refine LW.s rfl ?_
    refine LW.s rfl ?_
    refine LW.s rfl ?_
    refine LW.s rfl ?_
    refine LW.s rfl ?_
    refine LW.s rfl ?_
    refine LW.s rfl ?_
    refine LW.s rfl ?_
    refine LW.s rfl ?_
    refine LW.s rfl ?_
    refine LW.s rfl ?_
    refine LW.s rfl ?_
    refine LW.s rfl ?_
    refine LW.s rfl ?_
    refine LW.s rfl ?_
    refine LW.s rfl ?_
    refine LW.s rfl ?_
    refine LW.s rfl ?_
    refine LW.q rfl (Qt.pick rfl rfl) ?_
    refine LW.q rfl (Qt.pick rfl rfl) ?_
    refine LW.done ?_
    first | refine T.condF rfl ?_ | refine T.condPF rfl (rfl) ?_ | refine T.condBF rfl (rfl) ?_
    refine T.skip ?_
    exact ⟨_, ⟨_, 0, by rintro (h6 | ⟨h6, _⟩); exact h1 h6; exact h2 h6, (updS rfl (updS rfl rfl)), rfl⟩, Sub.any⟩
 rintro fz lz ⟨f0, f9, hn, rfl, rfl⟩
 try simp only [List.cons_append, List.nil_append]
 refine T.seq ?_
 refine T.seq ?_
 refine T.region ?_
 first | refine LW.q rfl (Qt.loadAgg [_, _, _] (by kernel_rfl) rfl ⟨rfl, rfl, rfl, trivial⟩) ?_ | refine LW.q rfl (Qt.loadAgg [_, _, _] (by kernel_rfl) rfl (by exact rdl_flat _ _ _ (by intros; rfl) _ (by omega))) ?_
 first | refine LW.q rfl (Qt.loadAgg [_, _, _] (by kernel_rfl) rfl ⟨rfl, rfl, rfl, trivial⟩) ?_ | refine LW.q rfl (Qt.loadAgg [_, _, _] (by kernel_rfl) rfl (by exact rdl_flat _ _ _ (by intros; rfl) _ (by omega))) ?_
 refine LW.q rfl (Qt.eqlVa ⟨ak, ai, at0⟩ ⟨bk, bi, bt⟩ rfl rfl) ?_
 refine LW.done ?_
 refine T.condP rfl (fun h1 => ?_) (fun h1 => ?_)
 ·
  refine T.seq ?_
  refine T.region ?_
  refine LW.q rfl (Qt.assign rfl) ?_
  refine LW.done ?_
  refine T.ret ?_
  exact ⟨.inl rfl, _, _, res [_] rfl ⟨rvT rfl, trivial⟩, ⟨by unfold oneV; rw [if_neg hn, if_pos h1]; rfl, rfl⟩, Sub.any⟩
 ·
  refine T.skip ?_
  refine T.seq ?_
  refine T.region ?_
  refine LW.q rfl (Qt.assign rfl) ?_
  refine LW.done ?_
  refine T.ret ?_
  exact ⟨.inl rfl, _, _, res [_] rfl ⟨rvT rfl, trivial⟩, ⟨by unfold oneV; rw [if_neg hn, if_neg h1]; rfl, rfl⟩, Sub.any⟩
/-! what a bound term comes to is of its kind -/
theorem ExI.sub {op : Str} {n : Int} {text of : Str} {args : List Ex} (h : ExI (.mk op n text of args)) {i : Nat} {x : Ex} (hx : args[i]? = some x) : ExI x := by
  cases h with
  | mk op n text of args hn ha => exact ha i x hx
theorem ExI.num {op : Str} {n : Int} {text of : Str} {args : List Ex} (h : ExI (.mk op n text of args)) : fits n := by
  cases h with
  | mk op n text of args hn ha => exact ⟨hn.1, by omega⟩
theorem truth_fits (p : Bool) : fits (truthV p).int := by unfold truthV; cases p <;> simp [fits]
theorem arithE_ok {op : Str} {a b : Int} {v : Va} (ha : fits a) (hb : fits b) (h : arithE op a b = .ok v) : v.kind = 1 ∧ fits v.int := by
  unfold arithE at h
  split at h
  · injection h with h; subst h
    exact ⟨rfl, by show fits (arithP op a b).1; rw [arith_val op a b ha hb]; exact w64_fits _⟩
  · cases h
theorem arithE_err {op : Str} {a b c : Int} (h : arithE op a b = .error c) : c = 171 := by
  unfold arithE at h
  split at h
  · cases h
  · injection h with h; exact h.symm
theorem reckon_ari {op : Str} (h : ariOp op) (a b : Va) : reckonT op a b = arithE op a.int b.int := by
  rcases h with rfl | rfl | rfl <;> simp [reckonT]
theorem reckon_bool {op : Str} (h : logOp op ∨ cmpOp op) (a b : Va) : ∃ p, reckonT op a b = .ok (truthV p) := by
  rcases h with (rfl | rfl) | (rfl | rfl | rfl | rfl | rfl | rfl) <;> exact ⟨_, by simp [reckonT]; rfl⟩
def okRow (row : List Va) : Prop := ∀ v ∈ row, fits v.int
theorem colT_ok {row : List Va} {k p : Int} {v : Va} (h : colT row k p = .ok v) : v ∈ row ∧ v.kind = k := by
  unfold colT at h
  split at h
  · cases h
  · split at h
    · cases h
    · split at h
      · cases h
      · rename_i v0 hv0
        split at h
        · cases h
        · rename_i hk
          injection h with h; subst h
          exact ⟨List.mem_of_getElem? hv0, Classical.not_not.1 hk⟩
theorem colT_err {row : List Va} {k p c : Int} (h : colT row k p = .error c) : c = 161 := by
  unfold colT at h
  split at h
  · injection h with h; exact h.symm
  · split at h
    · injection h with h; exact h.symm
    · split at h
      · injection h with h; exact h.symm
      · split at h
        · injection h with h; exact h.symm
        · cases h
theorem op_one {op : Str} {t k : Int} (hk : (op = sNot ∧ t = 3 ∧ k = 3) ∨ (op = sMinus ∧ t = 1 ∧ k = 1)) : op ≠ sVal ∧ op ≠ sCol ∧ op ≠ sNumber ∧ op ≠ sText ∧ op ≠ sName ∧ op ≠ sAnd := by
  rcases hk with ⟨rfl, _⟩ | ⟨rfl, _⟩ <;> decide
theorem op_two {op : Str} {a b k : Int} (hk : (logOp op ∧ a = 3 ∧ b = 3 ∧ k = 3) ∨ (cmpOp op ∧ a = b ∧ (a = 1 ∨ a = 2) ∧ k = 3) ∨ (ariOp op ∧ a = 1 ∧ b = 1 ∧ k = 1)) : op ≠ sVal ∧ op ≠ sCol ∧ op ≠ sNumber ∧ op ≠ sText ∧ op ≠ sName ∧ op ≠ sNot := by
  rcases hk with ⟨h | h, _⟩ | ⟨h | h | h | h | h | h, _⟩ | ⟨h | h | h, _⟩ <;> subst h <;> decide
theorem evalT_one {row : List Va} {op : Str} {k p : Int} {v : Va} {t : Tm} (h1 : op ≠ sVal) (h2 : op ≠ sCol) : evalT row (.mk op k v p [t]) = match evalT row t with
    | .error c => .error c
    | .ok a => if op = sNot then .ok (truthV (decide (a.int = 0))) else arithE [45] 0 a.int := by rw [evalT, if_neg h1, if_neg h2] <;> rfl
theorem evalT_two {row : List Va} {op : Str} {k p : Int} {v : Va} {t u : Tm} (h1 : op ≠ sVal) (h2 : op ≠ sCol) : evalT row (.mk op k v p [t, u]) = match evalT row t with
    | .error c => .error c
    | .ok a => match evalT row u with
      | .error c => .error c
      | .ok b => reckonT op a b := by rw [evalT, if_neg h1, if_neg h2] <;> rfl
theorem be_type {sc : List Co} {row : List Va} (hr : okRow row) {e : Ex} {t : Tm} (h : BE sc e t) : ExI e → ∀ v, evalT row t = .ok v → v.kind = t.kind ∧ fits v.int := by
  induction h with
  | num n text of args =>
    intro hi v hv
    rw [evalT, if_pos rfl] at hv; injection hv with hv; subst hv
    exact ⟨rfl, hi.num⟩
  | text n text of args =>
    intro hi v hv
    rw [evalT, if_pos rfl] at hv; injection hv with hv; subst hv
    exact ⟨rfl, show fits 0 by decide⟩
  | name n text of args i c hf hc =>
    intro hi v hv
    rw [evalT, if_neg (by decide), if_pos rfl] at hv
    obtain ⟨h1, h2⟩ := colT_ok hv
    exact ⟨h2, hr v h1⟩
  | one op k n text of e t h hk ih =>
    intro hi v hv
    obtain ⟨h1, h2, _⟩ := op_one hk
    rw [evalT_one h1 h2] at hv
    cases he : evalT row t with
    | error c => rw [he] at hv; cases hv
    | ok a =>
      rw [he] at hv
      dsimp only at hv
      have ha := ih (hi.sub (i := 0) rfl) a he
      rcases hk with ⟨h3, h4, h5⟩ | ⟨h3, h4, h5⟩
      · rw [if_pos h3] at hv; injection hv with hv; subst hv
        exact ⟨h5.symm, truth_fits _⟩
      · rw [if_neg (by rw [h3]; decide)] at hv
        obtain ⟨g1, g2⟩ := arithE_ok (by decide) ha.2 hv
        exact ⟨g1.trans h5.symm, g2⟩
  | two op k n text of e1 e2 t1 t2 b1 b2 hk ih1 ih2 =>
    intro hi v hv
    obtain ⟨h1, h2, _⟩ := op_two hk
    rw [evalT_two h1 h2] at hv
    cases he1 : evalT row t1 with
    | error c => rw [he1] at hv; cases hv
    | ok a =>
      rw [he1] at hv
      dsimp only at hv
      cases he2 : evalT row t2 with
      | error c => rw [he2] at hv; cases hv
      | ok b =>
        rw [he2] at hv
        dsimp only at hv
        have ha := ih1 (hi.sub (i := 0) rfl) a he1
        have hb := ih2 (hi.sub (i := 1) rfl) b he2
        rcases hk with ⟨h3, h4, h5, h6⟩ | ⟨h3, h4, h5, h6⟩ | ⟨h3, h4, h5, h6⟩
        · obtain ⟨p, hp⟩ := reckon_bool (.inl h3) a b
          rw [hp] at hv; injection hv with hv; subst hv
          exact ⟨h6.symm, truth_fits _⟩
        · obtain ⟨p, hp⟩ := reckon_bool (.inr h3) a b
          rw [hp] at hv; injection hv with hv; subst hv
          exact ⟨h6.symm, truth_fits _⟩
        · rw [reckon_ari h3] at hv
          obtain ⟨g1, g2⟩ := arithE_ok ha.2 hb.2 hv
          exact ⟨g1.trans h6.symm, g2⟩
theorem be_err {sc : List Co} {row : List Va} {e : Ex} {t : Tm} (h : BE sc e t) : ∀ c, evalT row t = .error c → c ≠ 0 := by
  induction h with
  | num n text of args => intro c hc; rw [evalT, if_pos rfl] at hc; cases hc
  | text n text of args => intro c hc; rw [evalT, if_pos rfl] at hc; cases hc
  | name n text of args i c hf hc =>
    intro c hv
    rw [evalT, if_neg (by decide), if_pos rfl] at hv
    rw [colT_err hv]; decide
  | one op k n text of e t h hk ih =>
    intro c hv
    obtain ⟨h1, h2, _⟩ := op_one hk
    rw [evalT_one h1 h2] at hv
    cases he : evalT row t with
    | error c' => rw [he] at hv; injection hv with hv; subst hv; exact ih _ he
    | ok a =>
      rw [he] at hv
      dsimp only at hv
      split at hv
      · cases hv
      · rw [arithE_err hv]; decide
  | two op k n text of e1 e2 t1 t2 b1 b2 hk ih1 ih2 =>
    intro c hv
    obtain ⟨h1, h2, _⟩ := op_two hk
    rw [evalT_two h1 h2] at hv
    cases he1 : evalT row t1 with
    | error c' => rw [he1] at hv; injection hv with hv; subst hv; exact ih1 _ he1
    | ok a =>
      rw [he1] at hv
      dsimp only at hv
      cases he2 : evalT row t2 with
      | error c' => rw [he2] at hv; injection hv with hv; subst hv; exact ih2 _ he2
      | ok b =>
        rw [he2] at hv
        dsimp only at hv
        rcases hk with ⟨h3, _⟩ | ⟨h3, _⟩ | ⟨h3, _⟩
        · obtain ⟨p, hp⟩ := reckon_bool (.inl h3) a b
          rw [hp] at hv; cases hv
        · obtain ⟨p, hp⟩ := reckon_bool (.inr h3) a b
          rw [hp] at hv; cases hv
        · rw [reckon_ari h3] at hv
          rw [arithE_err hv]; decide
theorem evalR_ok {row : List Va} {t : Tm} {v : Va} (h : evalT row t = .ok v) : evalR row t = (v, 0) := by unfold evalR; rw [h]
theorem evalR_err {row : List Va} {t : Tm} {c : Int} (h : evalT row t = .error c) : evalR row t = (vZ, c) := by unfold evalR; rw [h]
theorem not_ok {row : List Va} {t : Tm} (h : ¬ ∃ v, evalT row t = .ok v) : ∃ c, evalT row t = .error c := by
  cases e : evalT row t with
  | error c => exact ⟨c, rfl⟩
  | ok v => exact absurd ⟨v, e⟩ h
section
variable {B : Base} {S : List Assn} {row : List Va} {sc : List Co} {sa ra pa : Option Addr} {ns cs m rc na ca : Nat} {op text of : Str} {n : Int}
abbrev exE (op : Str) (n : Int) (text of : Str) (pa : Option Addr) (na ca : Nat) : Value := .agg #[tV op, iV n, tV text, tV of, .slice pa na ca]
set_option maxHeartbeats 1000000 in
theorem Be.evNum (h : op = sNumber) : Fn Try.prog B 27 #[exE op n text of pa na ca, .slice sa ns cs, .slice ra m rc] S (fun u l => u = .tuple #[vA (((⟨1, n, []⟩, 0) : Va × Int)).1, iV (((⟨1, n, []⟩, 0) : Va × Int)).2] ∧ l = S) := by
  refine Fn.enter3 170 Try.func27 rfl rfl (Nat.le_of_ble_eq_true rfl) (fun F => ?_)
  try simp only [List.cons_append, List.nil_append]
  refine T.seq ?_
  refine T.region ?_
  refine LW.e rfl (Ef.box [_, _, _, _, _] rfl rfl ?_)
  intro g3
  refine LW.e rfl (Ef.alloc [.int .i64 0, .int .i64 0, .string .empty] (by unfold zeroB; kernel_rfl) ?_)
  intro g6
  refine LW.q rfl (Qt.assign rfl) ?_
  refine LW.done ?_
  refine T.seq ?_
  refine T.seq ?_
  refine T.region ?_
  refine LW.q rfl (Qt.fieldAddr0 (by kernel_rfl) rfl) ?_
  first | refine LW.q rfl (Qt.load (by kernel_rfl) rfl rfl) ?_ | refine LW.q rfl (Qt.load (by kernel_rfl) rfl (map_at _ _ _ (by omega))) ?_ | refine LW.q rfl (Qt.load (by kernel_rfl) rfl (flat_cell0 _ _ _ (by intros; rfl) _ (by omega) (by rfl))) ?_ | refine LW.q rfl (Qt.load (by kernel_rfl) rfl (flat_cell _ _ _ (by intros; rfl) _ _ (by omega) (by rfl))) ?_ | refine LW.q rfl (Qt.load (by kernel_rfl) rfl (bytes_at _ _ (by omega))) ?_
  refine LW.done ?_
  refine T.block ?_
  refine T.seq ?_
  refine T.region ?_
  refine LW.q rfl (Qt.eqlS rfl rfl) ?_
  refine LW.q rfl (Qt.assign rfl) ?_
  refine LW.done ?_
  first | refine T.condT rfl ?_ | refine T.condPT rfl (h) ?_ | refine T.condBT rfl (h) ?_
  refine T.seq ?_
  refine T.region ?_
  refine LW.q rfl (Qt.fieldAddr (off := 1) (by kernel_rfl) rfl) ?_
  first | refine LW.q rfl (Qt.load (by kernel_rfl) rfl rfl) ?_ | refine LW.q rfl (Qt.load (by kernel_rfl) rfl (map_at _ _ _ (by omega))) ?_ | refine LW.q rfl (Qt.load (by kernel_rfl) rfl (flat_cell0 _ _ _ (by intros; rfl) _ (by omega) (by rfl))) ?_ | refine LW.q rfl (Qt.load (by kernel_rfl) rfl (flat_cell _ _ _ (by intros; rfl) _ _ (by omega) (by rfl))) ?_ | refine LW.q rfl (Qt.load (by kernel_rfl) rfl (bytes_at _ _ (by omega))) ?_
  refine LW.q rfl (Qt.build [(0, 1), (1, 1), (2, 1)] [.int .i64 0, .int .i64 0, .string .empty] [_, _, _] [(0, _), (1, _)] (by kernel_rfl) (by unfold zeroB; kernel_rfl) rfl rfl) ?_
  refine LW.e0 rfl (Ef.store [_, _, _] (by kernel_rfl) rfl rfl rfl rfl (by simp) ?_)
  try simp only [splice, List.length_cons, List.length_nil, List.drop_succ_cons, List.cons_append, List.take_succ_cons, List.take_zero, List.drop_zero, List.nil_append, List.append_nil]
  refine LW.q rfl (Qt.assign rfl) ?_
  refine LW.done ?_
  refine T.ret ?_
  exact ⟨.inl rfl, _, _, res [_, _] rfl ⟨rvA [_, _, _] (by kernel_rfl) rfl ⟨rfl, rfl, rfl, trivial⟩, rvT rfl, trivial⟩, ⟨rfl, rfl⟩, Sub.any⟩
set_option maxHeartbeats 1000000 in
theorem Be.evText (h : op = sText) : Fn Try.prog B 27 #[exE op n text of pa na ca, .slice sa ns cs, .slice ra m rc] S (fun u l => u = .tuple #[vA (((⟨2, 0, text⟩, 0) : Va × Int)).1, iV (((⟨2, 0, text⟩, 0) : Va × Int)).2] ∧ l = S) := by
  subst h
  refine Fn.enter3 170 Try.func27 rfl rfl (Nat.le_of_ble_eq_true rfl) (fun F => ?_)
  try simp only [List.cons_append, List.nil_append]
  refine T.seq ?_
  refine T.region ?_
  refine LW.e rfl (Ef.box [_, _, _, _, _] rfl rfl ?_)
  intro g3
  refine LW.e rfl (Ef.alloc [.int .i64 0, .int .i64 0, .string .empty] (by unfold zeroB; kernel_rfl) ?_)
  intro g6
  refine LW.q rfl (Qt.assign rfl) ?_
  refine LW.done ?_
  refine T.seq ?_
  refine T.seq ?_
  refine T.region ?_
  refine LW.q rfl (Qt.fieldAddr0 (by kernel_rfl) rfl) ?_
  first | refine LW.q rfl (Qt.load (by kernel_rfl) rfl rfl) ?_ | refine LW.q rfl (Qt.load (by kernel_rfl) rfl (map_at _ _ _ (by omega))) ?_ | refine LW.q rfl (Qt.load (by kernel_rfl) rfl (flat_cell0 _ _ _ (by intros; rfl) _ (by omega) (by rfl))) ?_ | refine LW.q rfl (Qt.load (by kernel_rfl) rfl (flat_cell _ _ _ (by intros; rfl) _ _ (by omega) (by rfl))) ?_ | refine LW.q rfl (Qt.load (by kernel_rfl) rfl (bytes_at _ _ (by omega))) ?_
  refine LW.done ?_
  refine T.block ?_
  refine T.seq ?_
  refine T.region ?_
  refine LW.q rfl (Qt.eqlS rfl rfl) ?_
  refine LW.q rfl (Qt.assign rfl) ?_
  refine LW.done ?_
  first | refine T.condF rfl ?_ | refine T.condPF rfl ((by decide)) ?_ | refine T.condBF rfl ((by decide)) ?_
  refine T.seq ?_
  refine T.region ?_
  refine LW.q rfl (Qt.eqlS rfl rfl) ?_
  refine LW.q rfl (Qt.assign rfl) ?_
  refine LW.done ?_
  first | refine T.condT rfl ?_ | refine T.condPT rfl (rfl) ?_ | refine T.condBT rfl (rfl) ?_
  refine T.seq ?_
  refine T.region ?_
  refine LW.q rfl (Qt.fieldAddr (off := 2) (by kernel_rfl) rfl) ?_
  first | refine LW.q rfl (Qt.load (by kernel_rfl) rfl rfl) ?_ | refine LW.q rfl (Qt.load (by kernel_rfl) rfl (map_at _ _ _ (by omega))) ?_ | refine LW.q rfl (Qt.load (by kernel_rfl) rfl (flat_cell0 _ _ _ (by intros; rfl) _ (by omega) (by rfl))) ?_ | refine LW.q rfl (Qt.load (by kernel_rfl) rfl (flat_cell _ _ _ (by intros; rfl) _ _ (by omega) (by rfl))) ?_ | refine LW.q rfl (Qt.load (by kernel_rfl) rfl (bytes_at _ _ (by omega))) ?_
  refine LW.q rfl (Qt.build [(0, 1), (1, 1), (2, 1)] [.int .i64 0, .int .i64 0, .string .empty] [_, _, _] [(0, _), (2, _)] (by kernel_rfl) (by unfold zeroB; kernel_rfl) rfl rfl) ?_
  refine LW.e0 rfl (Ef.store [_, _, _] (by kernel_rfl) rfl rfl rfl rfl (by simp) ?_)
  try simp only [splice, List.length_cons, List.length_nil, List.drop_succ_cons, List.cons_append, List.take_succ_cons, List.take_zero, List.drop_zero, List.nil_append, List.append_nil]
  refine LW.q rfl (Qt.assign rfl) ?_
  refine LW.done ?_
  refine T.ret ?_
  exact ⟨.inl rfl, _, _, res [_, _] rfl ⟨rvA [_, _, _] (by kernel_rfl) rfl ⟨rfl, rfl, rfl, trivial⟩, rvT rfl, trivial⟩, ⟨rfl, rfl⟩, Sub.any⟩
set_option maxHeartbeats 1000000 in
theorem Be.evName (h : op = sName) (hs : FlV B S coC (.slice sa ns cs) sc) (hsn : sc.length = ns) (hnn : ns < 2 ^ 32) (hrow : FlV B S vaC (.slice ra m rc) row) (hm : row.length = m) (hmn : m < 2 ^ 32) (i : Nat) (c : Co) (hf : findC sc of text = (i, 0)) (hc : sc[i]? = some c) : Fn Try.prog B 27 #[exE op n text of pa na ca, .slice sa ns cs, .slice ra m rc] S (fun u l => u = .tuple #[vA (evalR row (.mk sCol c.kind vZ i [])).1, iV (evalR row (.mk sCol c.kind vZ i [])).2] ∧ l = S) := by
 subst h
 have hil := (List.getElem?_eq_some_iff.1 hc).1
 have hev : evalT row (.mk sCol c.kind vZ i []) = colT row c.kind i := by rw [evalT, if_neg (by decide), if_pos rfl]
 obtain ⟨bs, os, rfl, hsr⟩ := hs.at (sz := 3) coC_len (by omega)
 have hs0 := hsr i c hc
 refine Fn.enter3 170 Try.func27 rfl rfl (Nat.le_of_ble_eq_true rfl) (fun F => ?_)
 try simp only [List.cons_append, List.nil_append]
 refine T.seq ?_
 refine T.region ?_
 refine LW.e rfl (Ef.box [_, _, _, _, _] rfl rfl ?_)
 intro g3
 refine LW.e rfl (Ef.alloc [.int .i64 0, .int .i64 0, .string .empty] (by unfold zeroB; kernel_rfl) ?_)
 intro g6
 refine LW.q rfl (Qt.assign rfl) ?_
 refine LW.done ?_
 refine T.seq ?_
 refine T.seq ?_
 refine T.region ?_
 refine LW.q rfl (Qt.fieldAddr0 (by kernel_rfl) rfl) ?_
 first | refine LW.q rfl (Qt.load (by kernel_rfl) rfl rfl) ?_ | refine LW.q rfl (Qt.load (by kernel_rfl) rfl (map_at _ _ _ (by omega))) ?_ | refine LW.q rfl (Qt.load (by kernel_rfl) rfl (flat_cell0 _ _ _ (by intros; rfl) _ (by omega) (by rfl))) ?_ | refine LW.q rfl (Qt.load (by kernel_rfl) rfl (flat_cell _ _ _ (by intros; rfl) _ _ (by omega) (by rfl))) ?_ | refine LW.q rfl (Qt.load (by kernel_rfl) rfl (bytes_at _ _ (by omega))) ?_
 refine LW.done ?_
 refine T.block ?_
 refine T.seq ?_
 refine T.region ?_
 refine LW.q rfl (Qt.eqlS rfl rfl) ?_
 refine LW.q rfl (Qt.assign rfl) ?_
 refine LW.done ?_
 first | refine T.condF rfl ?_ | refine T.condPF rfl ((by decide)) ?_ | refine T.condBF rfl ((by decide)) ?_
 refine T.seq ?_
 refine T.region ?_
 refine LW.q rfl (Qt.eqlS rfl rfl) ?_
 refine LW.q rfl (Qt.assign rfl) ?_
 refine LW.done ?_
 first | refine T.condF rfl ?_ | refine T.condPF rfl ((by decide)) ?_ | refine T.condBF rfl ((by decide)) ?_
 refine T.seq ?_
 refine T.region ?_
 refine LW.q rfl (Qt.eqlS rfl rfl) ?_
 refine LW.q rfl (Qt.assign rfl) ?_
 refine LW.done ?_
 first | refine T.condT rfl ?_ | refine T.condPT rfl (rfl) ?_ | refine T.condBT rfl (rfl) ?_
 refine T.seq ?_
 refine T.region ?_
 refine LW.q rfl (Qt.move rfl) ?_
 refine LW.q rfl (Qt.fieldAddr (off := 3) (by kernel_rfl) rfl) ?_
 first | refine LW.q rfl (Qt.load (by kernel_rfl) rfl rfl) ?_ | refine LW.q rfl (Qt.load (by kernel_rfl) rfl (map_at _ _ _ (by omega))) ?_ | refine LW.q rfl (Qt.load (by kernel_rfl) rfl (flat_cell0 _ _ _ (by intros; rfl) _ (by omega) (by rfl))) ?_ | refine LW.q rfl (Qt.load (by kernel_rfl) rfl (flat_cell _ _ _ (by intros; rfl) _ _ (by omega) (by rfl))) ?_ | refine LW.q rfl (Qt.load (by kernel_rfl) rfl (bytes_at _ _ (by omega))) ?_
 refine LW.q rfl (Qt.fieldAddr (off := 2) (by kernel_rfl) rfl) ?_
 first | refine LW.q rfl (Qt.load (by kernel_rfl) rfl rfl) ?_ | refine LW.q rfl (Qt.load (by kernel_rfl) rfl (map_at _ _ _ (by omega))) ?_ | refine LW.q rfl (Qt.load (by kernel_rfl) rfl (flat_cell0 _ _ _ (by intros; rfl) _ (by omega) (by rfl))) ?_ | refine LW.q rfl (Qt.load (by kernel_rfl) rfl (flat_cell _ _ _ (by intros; rfl) _ _ (by omega) (by rfl))) ?_ | refine LW.q rfl (Qt.load (by kernel_rfl) rfl (bytes_at _ _ (by omega))) ?_
 refine LW.e rfl (Ef.call (Be.find B S _ ns cs sc of text hs hsn hnn) Try.func10 rfl rfl rfl ?_)
 rintro _ _ ⟨rfl, rfl⟩
 try simp only [List.cons_append, List.nil_append]
 refine LW.q rfl (Qt.move rfl) ?_
 refine LW.q rfl (Qt.extr rfl rfl) ?_
 refine LW.q rfl (Qt.extr rfl rfl) ?_
 refine LW.q rfl (Qt.assign rfl) ?_
 refine LW.q rfl (Qt.assign rfl) ?_
 refine LW.done ?_
 refine T.seq ?_
 refine T.seq ?_
 rw [hf]
 refine T.drawAll 17 (by kernel_rfl) (Nat.le_of_ble_eq_true rfl) (by kernel_rfl) ?_
 refine RW.q 0 rfl rfl (by kernel_rfl) (Sub.refl _) (Qt.move rfl) ?_
 refine RW.q 1 rfl rfl (by kernel_rfl) (Sub.refl _) (Qt.move rfl) ?_
 refine RW.q 2 rfl rfl (by kernel_rfl) (Sub.refl _) (Qt.len (e := 55) (sz := 3) (by kernel_rfl) rfl) ?_
 refine RW.q 3 rfl rfl (by kernel_rfl) (Sub.refl _) (Qt.geq rfl rfl) ?_
 refine RW.q 4 rfl rfl (by kernel_rfl) (Sub.refl _) (Qt.move rfl) ?_
 refine RW.split (t := 42) rfl (fun g1 => ?_) (fun g1 => ?_)
 ·
  try replace g1 := of_decide_eq_true g1
  refine RW.s 5 rfl rfl (by kernel_rfl) (Sub.refl _) ?_
  refine RW.s 6 rfl rfl (by kernel_rfl) (Sub.refl _) ?_
  refine RW.s 7 rfl rfl (by kernel_rfl) (Sub.refl _) ?_
  refine RW.s 8 rfl rfl (by kernel_rfl) (Sub.refl _) ?_
  refine RW.s 9 rfl rfl (by kernel_rfl) (Sub.refl _) ?_
  refine RW.s 10 rfl rfl (by kernel_rfl) (Sub.refl _) ?_
  refine RW.s 11 rfl rfl (by kernel_rfl) (Sub.refl _) ?_
  refine RW.s 12 rfl rfl (by kernel_rfl) (Sub.refl _) ?_
  refine RW.s 13 rfl rfl (by kernel_rfl) (Sub.refl _) ?_
  refine RW.s 14 rfl rfl (by kernel_rfl) (Sub.refl _) ?_
  refine RW.s 15 rfl rfl (by kernel_rfl) (Sub.refl _) ?_
  refine RW.q 16 rfl rfl (by kernel_rfl) (Sub.refl _) (Qt.pick rfl rfl) ?_
  refine RW.done (by rfl) ?_
  simp only [List.drop_succ_cons, List.drop_zero, List.drop_nil]
  refine LW.done ?_
  first | refine T.condT rfl ?_ | refine T.condPT rfl (rfl) ?_ | refine T.condBT rfl (rfl) ?_
  refine T.seq ?_
  refine T.region ?_
  refine LW.q rfl (Qt.build [(0, 1), (1, 1), (2, 1)] [.int .i64 0, .int .i64 0, .string .empty] [_, _, _] [] (by kernel_rfl) (by unfold zeroB; kernel_rfl) rfl rfl) ?_
  refine LW.e0 rfl (Ef.store [_, _, _] (by kernel_rfl) rfl rfl rfl rfl (by simp) ?_)
  try simp only [splice, List.length_cons, List.length_nil, List.drop_succ_cons, List.cons_append, List.take_succ_cons, List.take_zero, List.drop_zero, List.nil_append, List.append_nil]
  refine LW.q rfl (Qt.assign rfl) ?_
  refine LW.done ?_
  refine T.ret ?_
  exact ⟨.inl rfl, _, _, res [_, _] rfl ⟨rvA [_, _, _] (by kernel_rfl) rfl ⟨rfl, rfl, rfl, trivial⟩, rvT rfl, trivial⟩, ⟨by rw [evalR_err (c := 161) (by rw [hev]; unfold colT; rw [if_neg (by omega), if_pos (by omega)])]; rfl, rfl⟩, Sub.any⟩
 ·
  try replace g1 := of_decide_eq_false g1
  obtain ⟨b, o, rfl, hr⟩ := hrow.at (sz := 3) (fun _ => rfl) (by omega)
  obtain ⟨v0, hv0⟩ : ∃ v0, row[i]? = some v0 := ⟨_, List.getElem?_eq_getElem (by omega)⟩
  have hr0 := hr i v0 hv0
  have hcv : colT row c.kind i = if v0.kind ≠ c.kind then .error 161 else .ok v0 := by unfold colT; rw [if_neg (by omega), if_neg (by omega), Int.toNat_natCast, hv0]
  refine RW.q 5 rfl rfl (by kernel_rfl) (Sub.refl _) (Qt.move rfl) ?_
  refine RW.q 6 rfl rfl (by kernel_rfl) (Sub.refl _) (Qt.move rfl) ?_
  refine RW.q 7 rfl rfl (by kernel_rfl) (Sub.refl _) (Qt.index _ (e := 55) (sz := 3) (by kernel_rfl) rfl rfl rfl (by omega)) ?_
  refine RW.q 8 rfl rfl (by kernel_rfl) (Sub.refl _) (Qt.fieldAddr0 (by kernel_rfl) rfl) ?_
  refine RW.q 9 rfl rfl (by kernel_rfl) (Sub.refl _) (Qt.loadW (by kernel_rfl) rfl (fun w ho => rangeAt_one (j := 0) (hr0 w (ho.map Sub.any)) rfl)) ?_
  refine RW.q 10 rfl rfl (by kernel_rfl) (Sub.refl _) (Qt.move rfl) ?_
  refine RW.q 11 rfl rfl (by kernel_rfl) (Sub.refl _) (Qt.move rfl) ?_
  refine RW.q 12 rfl rfl (by kernel_rfl) (Sub.refl _) (Qt.index _ (e := 33) (sz := 3) (by kernel_rfl) rfl rfl rfl (by omega)) ?_
  refine RW.q 13 rfl rfl (by kernel_rfl) (Sub.refl _) (Qt.fieldAddr (off := 2) (by kernel_rfl) rfl) ?_
  refine RW.q 14 rfl rfl (by kernel_rfl) (Sub.refl _) (Qt.loadW (by kernel_rfl) rfl (fun w ho => rangeAt_one (j := 2) (hs0 w (ho.map Sub.any)) rfl)) ?_
  refine RW.q 15 rfl rfl (by kernel_rfl) (Sub.refl _) (Qt.neq rfl rfl) ?_
  refine RW.q 16 rfl rfl (by kernel_rfl) (Sub.refl _) (Qt.pick rfl rfl) ?_
  refine RW.done (by rfl) ?_
  simp only [List.drop_succ_cons, List.drop_zero, List.drop_nil]
  refine LW.done ?_
  refine T.condP rfl (fun g2 => ?_) (fun g2 => ?_)
  ·
   refine T.seq ?_
   refine T.region ?_
   refine LW.q rfl (Qt.build [(0, 1), (1, 1), (2, 1)] [.int .i64 0, .int .i64 0, .string .empty] [_, _, _] [] (by kernel_rfl) (by unfold zeroB; kernel_rfl) rfl rfl) ?_
   refine LW.e0 rfl (Ef.store [_, _, _] (by kernel_rfl) rfl rfl rfl rfl (by simp) ?_)
   try simp only [splice, List.length_cons, List.length_nil, List.drop_succ_cons, List.cons_append, List.take_succ_cons, List.take_zero, List.drop_zero, List.nil_append, List.append_nil]
   refine LW.q rfl (Qt.assign rfl) ?_
   refine LW.done ?_
   refine T.ret ?_
   exact ⟨.inl rfl, _, _, res [_, _] rfl ⟨rvA [_, _, _] (by kernel_rfl) rfl ⟨rfl, rfl, rfl, trivial⟩, rvT rfl, trivial⟩, ⟨by rw [evalR_err (c := 161) (by rw [hev, hcv, if_pos g2])]; rfl, rfl⟩, Sub.any⟩
  ·
   refine T.skip ?_
   refine T.seq ?_
   refine T.region ?_
   refine LW.q rfl (Qt.move rfl) ?_
   refine LW.q rfl (Qt.move rfl) ?_
   refine LW.q rfl (Qt.index _ (e := 55) (sz := 3) (by kernel_rfl) rfl rfl rfl (by omega)) ?_
   refine LW.q rfl (Qt.loadAggW (vaC v0) (by kernel_rfl) rfl (fun w ho => hr0 w (ho.map Sub.any))) ?_
   refine LW.e0 rfl (Ef.store [_, _, _] (by kernel_rfl) rfl rfl rfl rfl (by simp) ?_)
   try simp only [splice, List.length_cons, List.length_nil, List.drop_succ_cons, List.cons_append, List.take_succ_cons, List.take_zero, List.drop_zero, List.nil_append, List.append_nil]
   refine LW.q rfl (Qt.assign rfl) ?_
   refine LW.done ?_
   refine T.ret ?_
   exact ⟨.inl rfl, _, _, res [_, _] rfl ⟨rvA [_, _, _] (by kernel_rfl) rfl ⟨rfl, rfl, rfl, trivial⟩, rvT rfl, trivial⟩, ⟨by rw [evalR_ok (v := v0) (by rw [hev, hcv, if_neg g2])]; rfl, rfl⟩, Sub.any⟩
set_option maxHeartbeats 1000000 in
theorem Be.evOne {b o : Nat} {c0 : C5} (hpa : pa = some ⟨b, o, none⟩) (hr0 : ∀ w, Own B w S → w.rangeAt b (o + 0 * 5) (c5 c0)) {e : Ex} {t : Tm} {k : Int} (hbe : BE sc e t) (hi : ExI e) (hok : okRow row) (hk : (op = sNot ∧ t.kind = 3 ∧ k = 3) ∨ (op = sMinus ∧ t.kind = 1 ∧ k = 1)) (hna : na = 1) (hc0 : Fn Try.prog B 27 #[eA c0, .slice sa ns cs, .slice ra m rc] S (fun u l => u = .tuple #[vA (evalR row t).1, iV (evalR row t).2] ∧ l = S)) : Fn Try.prog B 27 #[exE op n text of pa na ca, .slice sa ns cs, .slice ra m rc] S (fun u l => u = .tuple #[vA (evalR row (.mk op k vZ 0 [t])).1, iV (evalR row (.mk op k vZ 0 [t])).2] ∧ l = S) := by
 subst hpa
 subst hna
 obtain ⟨h1, h2, h3, h4, h5, h6⟩ := op_one hk
 have hev := evalT_one (row := row) (op := op) (k := k) (p := 0) (v := vZ) (t := t) h1 h2
 refine Fn.enter3 170 Try.func27 rfl rfl (Nat.le_of_ble_eq_true rfl) (fun F => ?_)
 try simp only [List.cons_append, List.nil_append]
 refine T.seq ?_
 refine T.region ?_
 refine LW.e rfl (Ef.box [_, _, _, _, _] rfl rfl ?_)
 intro g3
 refine LW.e rfl (Ef.alloc [.int .i64 0, .int .i64 0, .string .empty] (by unfold zeroB; kernel_rfl) ?_)
 intro g6
 refine LW.q rfl (Qt.assign rfl) ?_
 refine LW.done ?_
 refine T.seq ?_
 refine T.seq ?_
 refine T.region ?_
 refine LW.q rfl (Qt.fieldAddr0 (by kernel_rfl) rfl) ?_
 first | refine LW.q rfl (Qt.load (by kernel_rfl) rfl rfl) ?_ | refine LW.q rfl (Qt.load (by kernel_rfl) rfl (map_at _ _ _ (by omega))) ?_ | refine LW.q rfl (Qt.load (by kernel_rfl) rfl (flat_cell0 _ _ _ (by intros; rfl) _ (by omega) (by rfl))) ?_ | refine LW.q rfl (Qt.load (by kernel_rfl) rfl (flat_cell _ _ _ (by intros; rfl) _ _ (by omega) (by rfl))) ?_ | refine LW.q rfl (Qt.load (by kernel_rfl) rfl (bytes_at _ _ (by omega))) ?_
 refine LW.done ?_
 refine T.block ?_
 refine T.seq ?_
 refine T.region ?_
 refine LW.q rfl (Qt.eqlS rfl rfl) ?_
 refine LW.q rfl (Qt.assign rfl) ?_
 refine LW.done ?_
 first | refine T.condF rfl ?_ | refine T.condPF rfl (h3) ?_ | refine T.condBF rfl (h3) ?_
 refine T.seq ?_
 refine T.region ?_
 refine LW.q rfl (Qt.eqlS rfl rfl) ?_
 refine LW.q rfl (Qt.assign rfl) ?_
 refine LW.done ?_
 first | refine T.condF rfl ?_ | refine T.condPF rfl (h4) ?_ | refine T.condBF rfl (h4) ?_
 refine T.seq ?_
 refine T.region ?_
 refine LW.q rfl (Qt.eqlS rfl rfl) ?_
 refine LW.q rfl (Qt.assign rfl) ?_
 refine LW.done ?_
 first | refine T.condF rfl ?_ | refine T.condPF rfl (h5) ?_ | refine T.condBF rfl (h5) ?_
 by_cases hz : ∃ v, evalT row t = .ok v
 ·
  obtain ⟨v, hz⟩ := hz
  have hty := be_type hok hbe hi v hz
  rw [evalR_ok hz] at hc0
  refine T.skip ?_
  refine T.seq ?_
  refine T.region ?_
  refine LW.q rfl (Qt.fieldAddr (off := 4) (by kernel_rfl) rfl) ?_
  first | refine LW.q rfl (Qt.load (by kernel_rfl) rfl rfl) ?_ | refine LW.q rfl (Qt.load (by kernel_rfl) rfl (map_at _ _ _ (by omega))) ?_ | refine LW.q rfl (Qt.load (by kernel_rfl) rfl (flat_cell0 _ _ _ (by intros; rfl) _ (by omega) (by rfl))) ?_ | refine LW.q rfl (Qt.load (by kernel_rfl) rfl (flat_cell _ _ _ (by intros; rfl) _ _ (by omega) (by rfl))) ?_ | refine LW.q rfl (Qt.load (by kernel_rfl) rfl (bytes_at _ _ (by omega))) ?_
  refine LW.q rfl (Qt.index 0 (e := 42) (sz := 5) (by kernel_rfl) rfl rfl rfl (by omega)) ?_
  refine LW.q rfl (Qt.loadAggW (c5 c0) (by kernel_rfl) rfl (fun w ho => hr0 w (ho.map Sub.any))) ?_
  refine LW.q rfl (Qt.move rfl) ?_
  refine LW.q rfl (Qt.move rfl) ?_
  refine LW.e rfl (Ef.call (hc0) Try.func27 rfl rfl rfl ?_)
  rintro _ _ ⟨rfl, rfl⟩
  try simp only [List.cons_append, List.nil_append]
  refine LW.q rfl (Qt.move rfl) ?_
  refine LW.q rfl (Qt.extr rfl rfl) ?_
  refine LW.q rfl (Qt.extr rfl rfl) ?_
  refine LW.e rfl (Ef.alloc [.int .i64 0, .int .i64 0, .string .empty] (by unfold zeroB; kernel_rfl) ?_)
  intro g10
  refine LW.e0 rfl (Ef.store [_, _, _] (by kernel_rfl) rfl rfl rfl rfl (by simp) ?_)
  try simp only [splice, List.length_cons, List.length_nil, List.drop_succ_cons, List.cons_append, List.take_succ_cons, List.take_zero, List.drop_zero, List.nil_append, List.append_nil]
  refine LW.q rfl (Qt.assign rfl) ?_
  refine LW.done ?_
  refine T.seq ?_
  refine T.seq ?_
  refine T.region ?_
  refine LW.q rfl (Qt.move rfl) ?_
  refine LW.q rfl (Qt.neq rfl rfl) ?_
  refine LW.done ?_
  first | refine T.condF rfl ?_ | refine T.condPF rfl (rfl) ?_ | refine T.condBF rfl (rfl) ?_
  refine T.skip ?_
  refine T.seq ?_
  refine T.seq ?_
  refine T.region ?_
  refine LW.q rfl (Qt.fieldAddr0 (by kernel_rfl) rfl) ?_
  first | refine LW.q rfl (Qt.load (by kernel_rfl) rfl rfl) ?_ | refine LW.q rfl (Qt.load (by kernel_rfl) rfl (map_at _ _ _ (by omega))) ?_ | refine LW.q rfl (Qt.load (by kernel_rfl) rfl (flat_cell0 _ _ _ (by intros; rfl) _ (by omega) (by rfl))) ?_ | refine LW.q rfl (Qt.load (by kernel_rfl) rfl (flat_cell _ _ _ (by intros; rfl) _ _ (by omega) (by rfl))) ?_ | refine LW.q rfl (Qt.load (by kernel_rfl) rfl (bytes_at _ _ (by omega))) ?_
  refine LW.q rfl (Qt.eqlS rfl rfl) ?_
  refine LW.done ?_
  refine T.condP rfl (fun hn => ?_) (fun hn => ?_)
  ·
   refine T.seq ?_
   refine T.region ?_
   refine LW.q rfl (Qt.fieldAddr (off := 1) (by kernel_rfl) rfl) ?_
   first | refine LW.q rfl (Qt.load (by kernel_rfl) rfl rfl) ?_ | refine LW.q rfl (Qt.load (by kernel_rfl) rfl (map_at _ _ _ (by omega))) ?_ | refine LW.q rfl (Qt.load (by kernel_rfl) rfl (flat_cell0 _ _ _ (by intros; rfl) _ (by omega) (by rfl))) ?_ | refine LW.q rfl (Qt.load (by kernel_rfl) rfl (flat_cell _ _ _ (by intros; rfl) _ _ (by omega) (by rfl))) ?_ | refine LW.q rfl (Qt.load (by kernel_rfl) rfl (bytes_at _ _ (by omega))) ?_
   refine LW.q rfl (Qt.eql rfl rfl) ?_
   refine LW.e rfl (Ef.call (Be.truth B (decide (v.int = 0))) Try.func34 rfl rfl rfl ?_)
   rintro _ _ ⟨rfl, rfl⟩
   try simp only [List.cons_append, List.nil_append]
   refine LW.e0 rfl (Ef.store [_, _, _] (by kernel_rfl) rfl rfl rfl rfl (by simp) ?_)
   try simp only [splice, List.length_cons, List.length_nil, List.drop_succ_cons, List.cons_append, List.take_succ_cons, List.take_zero, List.drop_zero, List.nil_append, List.append_nil]
   refine LW.q rfl (Qt.assign rfl) ?_
   refine LW.done ?_
   refine T.ret ?_
   exact ⟨.inl rfl, _, _, res [_, _] rfl ⟨rvA [_, _, _] (by kernel_rfl) rfl ⟨rfl, rfl, rfl, trivial⟩, rvT rfl, trivial⟩, ⟨by rw [evalR_ok (v := truthV (decide (v.int = 0))) (by rw [hev, hz]; dsimp only; rw [if_pos hn])]; rfl, rfl⟩, Sub.any⟩
  ·
   refine T.skip ?_
   refine T.seq ?_
   refine T.seq ?_
   refine T.region ?_
   refine LW.q rfl (Qt.fieldAddr (off := 4) (by kernel_rfl) rfl) ?_
   first | refine LW.q rfl (Qt.load (by kernel_rfl) rfl rfl) ?_ | refine LW.q rfl (Qt.load (by kernel_rfl) rfl (map_at _ _ _ (by omega))) ?_ | refine LW.q rfl (Qt.load (by kernel_rfl) rfl (flat_cell0 _ _ _ (by intros; rfl) _ (by omega) (by rfl))) ?_ | refine LW.q rfl (Qt.load (by kernel_rfl) rfl (flat_cell _ _ _ (by intros; rfl) _ _ (by omega) (by rfl))) ?_ | refine LW.q rfl (Qt.load (by kernel_rfl) rfl (bytes_at _ _ (by omega))) ?_
   refine LW.q rfl (Qt.len (e := 42) (sz := 5) (by kernel_rfl) rfl) ?_
   refine LW.q rfl (Qt.eql rfl rfl) ?_
   refine LW.done ?_
   first | refine T.condT rfl ?_ | refine T.condPT rfl (rfl) ?_ | refine T.condBT rfl (rfl) ?_
   refine T.seq ?_
   refine T.region ?_
   refine LW.q rfl (Qt.fieldAddr (off := 1) (by kernel_rfl) rfl) ?_
   first | refine LW.q rfl (Qt.load (by kernel_rfl) rfl rfl) ?_ | refine LW.q rfl (Qt.load (by kernel_rfl) rfl (map_at _ _ _ (by omega))) ?_ | refine LW.q rfl (Qt.load (by kernel_rfl) rfl (flat_cell0 _ _ _ (by intros; rfl) _ (by omega) (by rfl))) ?_ | refine LW.q rfl (Qt.load (by kernel_rfl) rfl (flat_cell _ _ _ (by intros; rfl) _ _ (by omega) (by rfl))) ?_ | refine LW.q rfl (Qt.load (by kernel_rfl) rfl (bytes_at _ _ (by omega))) ?_
   refine LW.e rfl (Ef.call (Be.number B sMinus 0 v.int (.inr (.inl rfl)) (by decide) hty.2) Try.func35 rfl rfl rfl ?_)
   rintro _ _ ⟨rfl, rfl⟩
   try simp only [List.cons_append, List.nil_append]
   refine LW.q rfl (Qt.extr rfl rfl) ?_
   refine LW.q rfl (Qt.extr rfl rfl) ?_
   refine LW.e0 rfl (Ef.store [_, _, _] (by kernel_rfl) rfl rfl rfl rfl (by simp) ?_)
   try simp only [splice, List.length_cons, List.length_nil, List.drop_succ_cons, List.cons_append, List.take_succ_cons, List.take_zero, List.drop_zero, List.nil_append, List.append_nil]
   refine LW.q rfl (Qt.assign rfl) ?_
   refine LW.done ?_
   have hnum : evalR row (.mk op k vZ 0 [t]) = numR sMinus 0 v.int := by
    unfold evalR numR; rw [hev, hz]; dsimp only; rw [if_neg hn] <;> rfl
   refine T.ret ?_
   exact ⟨.inl rfl, _, _, res [_, _] rfl ⟨rvA [_, _, _] (by kernel_rfl) rfl ⟨rfl, rfl, rfl, trivial⟩, rvT rfl, trivial⟩, ⟨by rw [hnum]; rfl, rfl⟩, Sub.any⟩
 ·
  obtain ⟨c, hz⟩ := not_ok hz
  rw [evalR_err hz] at hc0
  refine T.skip ?_
  refine T.seq ?_
  refine T.region ?_
  refine LW.q rfl (Qt.fieldAddr (off := 4) (by kernel_rfl) rfl) ?_
  first | refine LW.q rfl (Qt.load (by kernel_rfl) rfl rfl) ?_ | refine LW.q rfl (Qt.load (by kernel_rfl) rfl (map_at _ _ _ (by omega))) ?_ | refine LW.q rfl (Qt.load (by kernel_rfl) rfl (flat_cell0 _ _ _ (by intros; rfl) _ (by omega) (by rfl))) ?_ | refine LW.q rfl (Qt.load (by kernel_rfl) rfl (flat_cell _ _ _ (by intros; rfl) _ _ (by omega) (by rfl))) ?_ | refine LW.q rfl (Qt.load (by kernel_rfl) rfl (bytes_at _ _ (by omega))) ?_
  refine LW.q rfl (Qt.index 0 (e := 42) (sz := 5) (by kernel_rfl) rfl rfl rfl (by omega)) ?_
  refine LW.q rfl (Qt.loadAggW (c5 c0) (by kernel_rfl) rfl (fun w ho => hr0 w (ho.map Sub.any))) ?_
  refine LW.q rfl (Qt.move rfl) ?_
  refine LW.q rfl (Qt.move rfl) ?_
  refine LW.e rfl (Ef.call (hc0) Try.func27 rfl rfl rfl ?_)
  rintro _ _ ⟨rfl, rfl⟩
  try simp only [List.cons_append, List.nil_append]
  refine LW.q rfl (Qt.move rfl) ?_
  refine LW.q rfl (Qt.extr rfl rfl) ?_
  refine LW.q rfl (Qt.extr rfl rfl) ?_
  refine LW.e rfl (Ef.alloc [.int .i64 0, .int .i64 0, .string .empty] (by unfold zeroB; kernel_rfl) ?_)
  intro g10
  refine LW.e0 rfl (Ef.store [_, _, _] (by kernel_rfl) rfl rfl rfl rfl (by simp) ?_)
  try simp only [splice, List.length_cons, List.length_nil, List.drop_succ_cons, List.cons_append, List.take_succ_cons, List.take_zero, List.drop_zero, List.nil_append, List.append_nil]
  refine LW.q rfl (Qt.assign rfl) ?_
  refine LW.done ?_
  refine T.seq ?_
  refine T.seq ?_
  refine T.region ?_
  refine LW.q rfl (Qt.move rfl) ?_
  refine LW.q rfl (Qt.neq rfl rfl) ?_
  refine LW.done ?_
  first | refine T.condT rfl ?_ | refine T.condPT rfl ((be_err hbe c hz)) ?_ | refine T.condBT rfl ((be_err hbe c hz)) ?_
  refine T.seq ?_
  refine T.region ?_
  refine LW.q rfl (Qt.build [(0, 1), (1, 1), (2, 1)] [.int .i64 0, .int .i64 0, .string .empty] [_, _, _] [] (by kernel_rfl) (by unfold zeroB; kernel_rfl) rfl rfl) ?_
  refine LW.q rfl (Qt.move rfl) ?_
  refine LW.e0 rfl (Ef.store [_, _, _] (by kernel_rfl) rfl rfl rfl rfl (by simp) ?_)
  try simp only [splice, List.length_cons, List.length_nil, List.drop_succ_cons, List.cons_append, List.take_succ_cons, List.take_zero, List.drop_zero, List.nil_append, List.append_nil]
  refine LW.q rfl (Qt.assign rfl) ?_
  refine LW.done ?_
  refine T.ret ?_
  exact ⟨.inl rfl, _, _, res [_, _] rfl ⟨rvA [_, _, _] (by kernel_rfl) rfl ⟨rfl, rfl, rfl, trivial⟩, rvT rfl, trivial⟩, ⟨by rw [evalR_err (c := c) (by rw [hev, hz])]; rfl, rfl⟩, Sub.any⟩
set_option maxHeartbeats 4000000 in
theorem Be.evTwo {b o : Nat} {c0 : C5} (hpa : pa = some ⟨b, o, none⟩) (hr0 : ∀ w, Own B w S → w.rangeAt b (o + 0 * 5) (c5 c0)) {e1 e2 : Ex} {t t2 : Tm} {k : Int} (hbe : BE sc e1 t) (hi : ExI e1) (hbe2 : BE sc e2 t2) (hi2 : ExI e2) (hok : okRow row) (hk : (logOp op ∧ t.kind = 3 ∧ t2.kind = 3 ∧ k = 3) ∨ (cmpOp op ∧ t.kind = t2.kind ∧ (t.kind = 1 ∨ t.kind = 2) ∧ k = 3) ∨ (ariOp op ∧ t.kind = 1 ∧ t2.kind = 1 ∧ k = 1)) (hna : na = 2) (hc0 : Fn Try.prog B 27 #[eA c0, .slice sa ns cs, .slice ra m rc] S (fun u l => u = .tuple #[vA (evalR row t).1, iV (evalR row t).2] ∧ l = S)) {c1 : C5} (hr1 : ∀ w, Own B w S → w.rangeAt b (o + 1 * 5) (c5 c1)) (hc1 : Fn Try.prog B 27 #[eA c1, .slice sa ns cs, .slice ra m rc] S (fun u l => u = .tuple #[vA (evalR row t2).1, iV (evalR row t2).2] ∧ l = S)) : Fn Try.prog B 27 #[exE op n text of pa na ca, .slice sa ns cs, .slice ra m rc] S (fun u l => u = .tuple #[vA (evalR row (.mk op k vZ 0 [t, t2])).1, iV (evalR row (.mk op k vZ 0 [t, t2])).2] ∧ l = S) := by
 subst hpa
 subst hna
 obtain ⟨h1, h2, h3, h4, h5, h6⟩ := op_two hk
 have hev := evalT_two (row := row) (op := op) (k := k) (p := 0) (v := vZ) (t := t) (u := t2) h1 h2
 refine Fn.enter3 170 Try.func27 rfl rfl (Nat.le_of_ble_eq_true rfl) (fun F => ?_)
 try simp only [List.cons_append, List.nil_append]
 refine T.seq ?_
 refine T.region ?_
 refine LW.e rfl (Ef.box [_, _, _, _, _] rfl rfl ?_)
 intro g3
 refine LW.e rfl (Ef.alloc [.int .i64 0, .int .i64 0, .string .empty] (by unfold zeroB; kernel_rfl) ?_)
 intro g6
 refine LW.q rfl (Qt.assign rfl) ?_
 refine LW.done ?_
 refine T.seq ?_
 refine T.seq ?_
 refine T.region ?_
 refine LW.q rfl (Qt.fieldAddr0 (by kernel_rfl) rfl) ?_
 first | refine LW.q rfl (Qt.load (by kernel_rfl) rfl rfl) ?_ | refine LW.q rfl (Qt.load (by kernel_rfl) rfl (map_at _ _ _ (by omega))) ?_ | refine LW.q rfl (Qt.load (by kernel_rfl) rfl (flat_cell0 _ _ _ (by intros; rfl) _ (by omega) (by rfl))) ?_ | refine LW.q rfl (Qt.load (by kernel_rfl) rfl (flat_cell _ _ _ (by intros; rfl) _ _ (by omega) (by rfl))) ?_ | refine LW.q rfl (Qt.load (by kernel_rfl) rfl (bytes_at _ _ (by omega))) ?_
 refine LW.done ?_
 refine T.block ?_
 refine T.seq ?_
 refine T.region ?_
 refine LW.q rfl (Qt.eqlS rfl rfl) ?_
 refine LW.q rfl (Qt.assign rfl) ?_
 refine LW.done ?_
 first | refine T.condF rfl ?_ | refine T.condPF rfl (h3) ?_ | refine T.condBF rfl (h3) ?_
 refine T.seq ?_
 refine T.region ?_
 refine LW.q rfl (Qt.eqlS rfl rfl) ?_
 refine LW.q rfl (Qt.assign rfl) ?_
 refine LW.done ?_
 first | refine T.condF rfl ?_ | refine T.condPF rfl (h4) ?_ | refine T.condBF rfl (h4) ?_
 refine T.seq ?_
 refine T.region ?_
 refine LW.q rfl (Qt.eqlS rfl rfl) ?_
 refine LW.q rfl (Qt.assign rfl) ?_
 refine LW.done ?_
 first | refine T.condF rfl ?_ | refine T.condPF rfl (h5) ?_ | refine T.condBF rfl (h5) ?_
 by_cases hz : ∃ v, evalT row t = .ok v
 ·
  obtain ⟨v1, hz1⟩ := hz
  have hty1 := be_type hok hbe hi v1 hz1
  rw [evalR_ok hz1] at hc0
  refine T.skip ?_
  refine T.seq ?_
  refine T.region ?_
  refine LW.q rfl (Qt.fieldAddr (off := 4) (by kernel_rfl) rfl) ?_
  first | refine LW.q rfl (Qt.load (by kernel_rfl) rfl rfl) ?_ | refine LW.q rfl (Qt.load (by kernel_rfl) rfl (map_at _ _ _ (by omega))) ?_ | refine LW.q rfl (Qt.load (by kernel_rfl) rfl (flat_cell0 _ _ _ (by intros; rfl) _ (by omega) (by rfl))) ?_ | refine LW.q rfl (Qt.load (by kernel_rfl) rfl (flat_cell _ _ _ (by intros; rfl) _ _ (by omega) (by rfl))) ?_ | refine LW.q rfl (Qt.load (by kernel_rfl) rfl (bytes_at _ _ (by omega))) ?_
  refine LW.q rfl (Qt.index 0 (e := 42) (sz := 5) (by kernel_rfl) rfl rfl rfl (by omega)) ?_
  refine LW.q rfl (Qt.loadAggW (c5 c0) (by kernel_rfl) rfl (fun w ho => hr0 w (ho.map Sub.any))) ?_
  refine LW.q rfl (Qt.move rfl) ?_
  refine LW.q rfl (Qt.move rfl) ?_
  refine LW.e rfl (Ef.call (hc0) Try.func27 rfl rfl rfl ?_)
  rintro _ _ ⟨rfl, rfl⟩
  try simp only [List.cons_append, List.nil_append]
  refine LW.q rfl (Qt.move rfl) ?_
  refine LW.q rfl (Qt.extr rfl rfl) ?_
  refine LW.q rfl (Qt.extr rfl rfl) ?_
  refine LW.e rfl (Ef.alloc [.int .i64 0, .int .i64 0, .string .empty] (by unfold zeroB; kernel_rfl) ?_)
  intro g10
  refine LW.e0 rfl (Ef.store [_, _, _] (by kernel_rfl) rfl rfl rfl rfl (by simp) ?_)
  try simp only [splice, List.length_cons, List.length_nil, List.drop_succ_cons, List.cons_append, List.take_succ_cons, List.take_zero, List.drop_zero, List.nil_append, List.append_nil]
  refine LW.q rfl (Qt.assign rfl) ?_
  refine LW.done ?_
  refine T.seq ?_
  refine T.seq ?_
  refine T.region ?_
  refine LW.q rfl (Qt.move rfl) ?_
  refine LW.q rfl (Qt.neq rfl rfl) ?_
  refine LW.done ?_
  first | refine T.condF rfl ?_ | refine T.condPF rfl (rfl) ?_ | refine T.condBF rfl (rfl) ?_
  refine T.skip ?_
  refine T.seq ?_
  refine T.seq ?_
  refine T.region ?_
  refine LW.q rfl (Qt.fieldAddr0 (by kernel_rfl) rfl) ?_
  first | refine LW.q rfl (Qt.load (by kernel_rfl) rfl rfl) ?_ | refine LW.q rfl (Qt.load (by kernel_rfl) rfl (map_at _ _ _ (by omega))) ?_ | refine LW.q rfl (Qt.load (by kernel_rfl) rfl (flat_cell0 _ _ _ (by intros; rfl) _ (by omega) (by rfl))) ?_ | refine LW.q rfl (Qt.load (by kernel_rfl) rfl (flat_cell _ _ _ (by intros; rfl) _ _ (by omega) (by rfl))) ?_ | refine LW.q rfl (Qt.load (by kernel_rfl) rfl (bytes_at _ _ (by omega))) ?_
  refine LW.q rfl (Qt.eqlS rfl rfl) ?_
  refine LW.done ?_
  first | refine T.condF rfl ?_ | refine T.condPF rfl (h6) ?_ | refine T.condBF rfl (h6) ?_
  refine T.skip ?_
  refine T.seq ?_
  refine T.seq ?_
  refine T.region ?_
  refine LW.q rfl (Qt.fieldAddr (off := 4) (by kernel_rfl) rfl) ?_
  first | refine LW.q rfl (Qt.load (by kernel_rfl) rfl rfl) ?_ | refine LW.q rfl (Qt.load (by kernel_rfl) rfl (map_at _ _ _ (by omega))) ?_ | refine LW.q rfl (Qt.load (by kernel_rfl) rfl (flat_cell0 _ _ _ (by intros; rfl) _ (by omega) (by rfl))) ?_ | refine LW.q rfl (Qt.load (by kernel_rfl) rfl (flat_cell _ _ _ (by intros; rfl) _ _ (by omega) (by rfl))) ?_ | refine LW.q rfl (Qt.load (by kernel_rfl) rfl (bytes_at _ _ (by omega))) ?_
  refine LW.q rfl (Qt.len (e := 42) (sz := 5) (by kernel_rfl) rfl) ?_
  refine LW.q rfl (Qt.eql rfl rfl) ?_
  refine LW.done ?_
  first | refine T.condF rfl ?_ | refine T.condPF rfl ((by omega)) ?_ | refine T.condBF rfl ((by omega)) ?_
  by_cases hz : ∃ v, evalT row t2 = .ok v
  ·
   obtain ⟨v2, hz2⟩ := hz
   have hty2 := be_type hok hbe2 hi2 v2 hz2
   rw [evalR_ok hz2] at hc1
   have hcmp : cmpOp op → v1.kind = v2.kind := by
    intro h
    rw [hty1.1, hty2.1]
    rcases hk with ⟨_, a, b, _⟩ | ⟨_, a, _, _⟩ | ⟨_, a, b, _⟩
    · omega
    · exact a
    · omega
   refine T.skip ?_
   refine T.seq ?_
   refine T.region ?_
   refine LW.q rfl (Qt.fieldAddr (off := 4) (by kernel_rfl) rfl) ?_
   first | refine LW.q rfl (Qt.load (by kernel_rfl) rfl rfl) ?_ | refine LW.q rfl (Qt.load (by kernel_rfl) rfl (map_at _ _ _ (by omega))) ?_ | refine LW.q rfl (Qt.load (by kernel_rfl) rfl (flat_cell0 _ _ _ (by intros; rfl) _ (by omega) (by rfl))) ?_ | refine LW.q rfl (Qt.load (by kernel_rfl) rfl (flat_cell _ _ _ (by intros; rfl) _ _ (by omega) (by rfl))) ?_ | refine LW.q rfl (Qt.load (by kernel_rfl) rfl (bytes_at _ _ (by omega))) ?_
   refine LW.q rfl (Qt.index 1 (e := 42) (sz := 5) (by kernel_rfl) rfl rfl rfl (by omega)) ?_
   refine LW.q rfl (Qt.loadAggW (c5 c1) (by kernel_rfl) rfl (fun w ho => hr1 w (ho.map Sub.any))) ?_
   refine LW.q rfl (Qt.move rfl) ?_
   refine LW.q rfl (Qt.move rfl) ?_
   refine LW.e rfl (Ef.call (hc1) Try.func27 rfl rfl rfl ?_)
   rintro _ _ ⟨rfl, rfl⟩
   try simp only [List.cons_append, List.nil_append]
   refine LW.q rfl (Qt.move rfl) ?_
   refine LW.q rfl (Qt.extr rfl rfl) ?_
   refine LW.q rfl (Qt.extr rfl rfl) ?_
   refine LW.e rfl (Ef.alloc [.int .i64 0, .int .i64 0, .string .empty] (by unfold zeroB; kernel_rfl) ?_)
   intro g12
   refine LW.e0 rfl (Ef.store [_, _, _] (by kernel_rfl) rfl rfl rfl rfl (by simp) ?_)
   try simp only [splice, List.length_cons, List.length_nil, List.drop_succ_cons, List.cons_append, List.take_succ_cons, List.take_zero, List.drop_zero, List.nil_append, List.append_nil]
   refine LW.q rfl (Qt.assign rfl) ?_
   refine LW.done ?_
   refine T.seq ?_
   refine T.seq ?_
   refine T.region ?_
   refine LW.q rfl (Qt.move rfl) ?_
   refine LW.q rfl (Qt.neq rfl rfl) ?_
   refine LW.done ?_
   first | refine T.condF rfl ?_ | refine T.condPF rfl (rfl) ?_ | refine T.condBF rfl (rfl) ?_
   refine T.skip ?_
   refine T.seq ?_
   refine T.region ?_
   first | refine LW.q rfl (Qt.loadAgg [_, _, _] (by kernel_rfl) rfl ⟨rfl, rfl, rfl, trivial⟩) ?_ | refine LW.q rfl (Qt.loadAgg [_, _, _] (by kernel_rfl) rfl (by exact rdl_flat _ _ _ (by intros; rfl) _ (by omega))) ?_
   first | refine LW.q rfl (Qt.loadAgg [_, _, _] (by kernel_rfl) rfl ⟨rfl, rfl, rfl, trivial⟩) ?_ | refine LW.q rfl (Qt.loadAgg [_, _, _] (by kernel_rfl) rfl (by exact rdl_flat _ _ _ (by intros; rfl) _ (by omega))) ?_
   refine LW.e rfl (Ef.call (Be.one B v1 v2) Try.func36 rfl rfl rfl ?_)
   rintro _ _ ⟨rfl, rfl⟩
   try simp only [List.cons_append, List.nil_append]
   refine LW.q rfl (Qt.assign rfl) ?_
   refine LW.done ?_
   refine T.seq ?_
   refine T.seq ?_
   refine T.region ?_
   refine LW.q rfl (Qt.fieldAddr0 (by kernel_rfl) rfl) ?_
   first | refine LW.q rfl (Qt.load (by kernel_rfl) rfl rfl) ?_ | refine LW.q rfl (Qt.load (by kernel_rfl) rfl (map_at _ _ _ (by omega))) ?_ | refine LW.q rfl (Qt.load (by kernel_rfl) rfl (flat_cell0 _ _ _ (by intros; rfl) _ (by omega) (by rfl))) ?_ | refine LW.q rfl (Qt.load (by kernel_rfl) rfl (flat_cell _ _ _ (by intros; rfl) _ _ (by omega) (by rfl))) ?_ | refine LW.q rfl (Qt.load (by kernel_rfl) rfl (bytes_at _ _ (by omega))) ?_
   refine LW.done ?_
   refine T.block ?_
   refine T.seq ?_
   refine T.region ?_
   refine LW.q rfl (Qt.eqlS rfl rfl) ?_
   refine LW.q rfl (Qt.assign rfl) ?_
   refine LW.done ?_
   refine T.condP rfl (fun q0 => ?_) (fun q0 => ?_)
   ·
    refine T.seq ?_
    refine T.region ?_
    refine LW.q rfl (Qt.fieldAddr (off := 1) (by kernel_rfl) rfl) ?_
    first | refine LW.q rfl (Qt.load (by kernel_rfl) rfl rfl) ?_ | refine LW.q rfl (Qt.load (by kernel_rfl) rfl (map_at _ _ _ (by omega))) ?_ | refine LW.q rfl (Qt.load (by kernel_rfl) rfl (flat_cell0 _ _ _ (by intros; rfl) _ (by omega) (by rfl))) ?_ | refine LW.q rfl (Qt.load (by kernel_rfl) rfl (flat_cell _ _ _ (by intros; rfl) _ _ (by omega) (by rfl))) ?_ | refine LW.q rfl (Qt.load (by kernel_rfl) rfl (bytes_at _ _ (by omega))) ?_
    refine LW.q rfl (Qt.eql rfl rfl) ?_
    refine LW.q rfl (Qt.move rfl) ?_
    refine LW.split (t := 114) rfl (fun g1 => ?_) (fun g1 => ?_)
    ·
     try replace g1 := of_decide_eq_true g1
     refine LW.s rfl ?_
     refine LW.s rfl ?_
     refine LW.s rfl ?_
     refine LW.q rfl (Qt.pick rfl rfl) ?_
     refine LW.e rfl (Ef.call (Be.truth B true) Try.func34 rfl rfl rfl ?_)
     rintro _ _ ⟨rfl, rfl⟩
     try simp only [List.cons_append, List.nil_append]
     refine LW.e0 rfl (Ef.store [_, _, _] (by kernel_rfl) rfl rfl rfl rfl (by simp) ?_)
     try simp only [splice, List.length_cons, List.length_nil, List.drop_succ_cons, List.cons_append, List.take_succ_cons, List.take_zero, List.drop_zero, List.nil_append, List.append_nil]
     refine LW.q rfl (Qt.assign rfl) ?_
     refine LW.done ?_
     refine T.ret ?_
     exact ⟨.inl rfl, _, _, res [_, _] rfl ⟨rvA [_, _, _] (by kernel_rfl) rfl ⟨rfl, rfl, rfl, trivial⟩, rvT rfl, trivial⟩, ⟨by rw [evalR_ok (v := truthV (true)) (by rw [hev, hz1]; dsimp only; rw [hz2]; dsimp only; unfold reckonT; rw [if_pos q0]; rw [decide_eq_true g1]; rfl)]; rfl, rfl⟩, Sub.any⟩
    ·
     try replace g1 := of_decide_eq_false g1
     refine LW.q rfl (Qt.fieldAddr (off := 1) (by kernel_rfl) rfl) ?_
     first | refine LW.q rfl (Qt.load (by kernel_rfl) rfl rfl) ?_ | refine LW.q rfl (Qt.load (by kernel_rfl) rfl (map_at _ _ _ (by omega))) ?_ | refine LW.q rfl (Qt.load (by kernel_rfl) rfl (flat_cell0 _ _ _ (by intros; rfl) _ (by omega) (by rfl))) ?_ | refine LW.q rfl (Qt.load (by kernel_rfl) rfl (flat_cell _ _ _ (by intros; rfl) _ _ (by omega) (by rfl))) ?_ | refine LW.q rfl (Qt.load (by kernel_rfl) rfl (bytes_at _ _ (by omega))) ?_
     refine LW.q rfl (Qt.eql rfl rfl) ?_
     refine LW.q rfl (Qt.pick rfl rfl) ?_
     refine LW.e rfl (Ef.call (Be.truth B (decide (v2.int = 1))) Try.func34 rfl rfl rfl ?_)
     rintro _ _ ⟨rfl, rfl⟩
     try simp only [List.cons_append, List.nil_append]
     refine LW.e0 rfl (Ef.store [_, _, _] (by kernel_rfl) rfl rfl rfl rfl (by simp) ?_)
     try simp only [splice, List.length_cons, List.length_nil, List.drop_succ_cons, List.cons_append, List.take_succ_cons, List.take_zero, List.drop_zero, List.nil_append, List.append_nil]
     refine LW.q rfl (Qt.assign rfl) ?_
     refine LW.done ?_
     refine T.ret ?_
     exact ⟨.inl rfl, _, _, res [_, _] rfl ⟨rvA [_, _, _] (by kernel_rfl) rfl ⟨rfl, rfl, rfl, trivial⟩, rvT rfl, trivial⟩, ⟨by rw [evalR_ok (v := truthV (decide (v2.int = 1))) (by rw [hev, hz1]; dsimp only; rw [hz2]; dsimp only; unfold reckonT; rw [if_pos q0]; rw [decide_eq_false g1]; rfl)]; rfl, rfl⟩, Sub.any⟩
   ·
    refine T.seq ?_
    refine T.region ?_
    refine LW.q rfl (Qt.eqlS rfl rfl) ?_
    refine LW.q rfl (Qt.assign rfl) ?_
    refine LW.done ?_
    refine T.condP rfl (fun q1 => ?_) (fun q1 => ?_)
    ·
     refine T.seq ?_
     refine T.region ?_
     refine LW.q rfl (Qt.fieldAddr (off := 1) (by kernel_rfl) rfl) ?_
     first | refine LW.q rfl (Qt.load (by kernel_rfl) rfl rfl) ?_ | refine LW.q rfl (Qt.load (by kernel_rfl) rfl (map_at _ _ _ (by omega))) ?_ | refine LW.q rfl (Qt.load (by kernel_rfl) rfl (flat_cell0 _ _ _ (by intros; rfl) _ (by omega) (by rfl))) ?_ | refine LW.q rfl (Qt.load (by kernel_rfl) rfl (flat_cell _ _ _ (by intros; rfl) _ _ (by omega) (by rfl))) ?_ | refine LW.q rfl (Qt.load (by kernel_rfl) rfl (bytes_at _ _ (by omega))) ?_
     refine LW.q rfl (Qt.eql rfl rfl) ?_
     refine LW.q rfl (Qt.move rfl) ?_
     refine LW.split (t := 125) rfl (fun g1 => ?_) (fun g1 => ?_)
     ·
      try replace g1 := of_decide_eq_true g1
      refine LW.q rfl (Qt.fieldAddr (off := 1) (by kernel_rfl) rfl) ?_
      first | refine LW.q rfl (Qt.load (by kernel_rfl) rfl rfl) ?_ | refine LW.q rfl (Qt.load (by kernel_rfl) rfl (map_at _ _ _ (by omega))) ?_ | refine LW.q rfl (Qt.load (by kernel_rfl) rfl (flat_cell0 _ _ _ (by intros; rfl) _ (by omega) (by rfl))) ?_ | refine LW.q rfl (Qt.load (by kernel_rfl) rfl (flat_cell _ _ _ (by intros; rfl) _ _ (by omega) (by rfl))) ?_ | refine LW.q rfl (Qt.load (by kernel_rfl) rfl (bytes_at _ _ (by omega))) ?_
      refine LW.q rfl (Qt.eql rfl rfl) ?_
      refine LW.q rfl (Qt.pick rfl rfl) ?_
      refine LW.e rfl (Ef.call (Be.truth B (decide (v2.int = 1))) Try.func34 rfl rfl rfl ?_)
      rintro _ _ ⟨rfl, rfl⟩
      try simp only [List.cons_append, List.nil_append]
      refine LW.e0 rfl (Ef.store [_, _, _] (by kernel_rfl) rfl rfl rfl rfl (by simp) ?_)
      try simp only [splice, List.length_cons, List.length_nil, List.drop_succ_cons, List.cons_append, List.take_succ_cons, List.take_zero, List.drop_zero, List.nil_append, List.append_nil]
      refine LW.q rfl (Qt.assign rfl) ?_
      refine LW.done ?_
      refine T.ret ?_
      exact ⟨.inl rfl, _, _, res [_, _] rfl ⟨rvA [_, _, _] (by kernel_rfl) rfl ⟨rfl, rfl, rfl, trivial⟩, rvT rfl, trivial⟩, ⟨by rw [evalR_ok (v := truthV (decide (v2.int = 1))) (by rw [hev, hz1]; dsimp only; rw [hz2]; dsimp only; unfold reckonT; rw [if_neg q0, if_pos q1]; rw [decide_eq_true g1]; rfl)]; rfl, rfl⟩, Sub.any⟩
     ·
      try replace g1 := of_decide_eq_false g1
      refine LW.s rfl ?_
      refine LW.s rfl ?_
      refine LW.s rfl ?_
      refine LW.q rfl (Qt.pick rfl rfl) ?_
      refine LW.e rfl (Ef.call (Be.truth B false) Try.func34 rfl rfl rfl ?_)
      rintro _ _ ⟨rfl, rfl⟩
      try simp only [List.cons_append, List.nil_append]
      refine LW.e0 rfl (Ef.store [_, _, _] (by kernel_rfl) rfl rfl rfl rfl (by simp) ?_)
      try simp only [splice, List.length_cons, List.length_nil, List.drop_succ_cons, List.cons_append, List.take_succ_cons, List.take_zero, List.drop_zero, List.nil_append, List.append_nil]
      refine LW.q rfl (Qt.assign rfl) ?_
      refine LW.done ?_
      refine T.ret ?_
      exact ⟨.inl rfl, _, _, res [_, _] rfl ⟨rvA [_, _, _] (by kernel_rfl) rfl ⟨rfl, rfl, rfl, trivial⟩, rvT rfl, trivial⟩, ⟨by rw [evalR_ok (v := truthV (false)) (by rw [hev, hz1]; dsimp only; rw [hz2]; dsimp only; unfold reckonT; rw [if_neg q0, if_pos q1]; rw [decide_eq_false g1]; rfl)]; rfl, rfl⟩, Sub.any⟩
    ·
     refine T.seq ?_
     refine T.region ?_
     refine LW.q rfl (Qt.eqlS rfl rfl) ?_
     refine LW.q rfl (Qt.assign rfl) ?_
     refine LW.done ?_
     refine T.condP rfl (fun q2 => ?_) (fun q2 => ?_)
     ·
      refine T.seq ?_
      refine T.region ?_
      refine LW.q rfl (Qt.move rfl) ?_
      refine LW.q rfl (Qt.eql rfl rfl) ?_
      refine LW.e rfl (Ef.call (Be.truth B (decide (oneV v1 v2 = 0))) Try.func34 rfl rfl rfl ?_)
      rintro _ _ ⟨rfl, rfl⟩
      try simp only [List.cons_append, List.nil_append]
      refine LW.e0 rfl (Ef.store [_, _, _] (by kernel_rfl) rfl rfl rfl rfl (by simp) ?_)
      try simp only [splice, List.length_cons, List.length_nil, List.drop_succ_cons, List.cons_append, List.take_succ_cons, List.take_zero, List.drop_zero, List.nil_append, List.append_nil]
      refine LW.q rfl (Qt.assign rfl) ?_
      refine LW.done ?_
      refine T.ret ?_
      exact ⟨.inl rfl, _, _, res [_, _] rfl ⟨rvA [_, _, _] (by kernel_rfl) rfl ⟨rfl, rfl, rfl, trivial⟩, rvT rfl, trivial⟩, ⟨by rw [evalR_ok (v := truthV (decide (oneV v1 v2 = 0))) (by rw [hev, hz1]; dsimp only; rw [hz2]; dsimp only; unfold reckonT; rw [if_neg q0, if_neg q1, if_pos q2]; rw [one_ord (hcmp (.inl q2))])]; rfl, rfl⟩, Sub.any⟩
     ·
      refine T.seq ?_
      refine T.region ?_
      refine LW.q rfl (Qt.eqlS rfl rfl) ?_
      refine LW.q rfl (Qt.assign rfl) ?_
      refine LW.done ?_
      refine T.condP rfl (fun q3 => ?_) (fun q3 => ?_)
      ·
       refine T.seq ?_
       refine T.region ?_
       refine LW.q rfl (Qt.move rfl) ?_
       refine LW.q rfl (Qt.neq rfl rfl) ?_
       refine LW.e rfl (Ef.call (Be.truth B (decide (oneV v1 v2 ≠ 0))) Try.func34 rfl rfl rfl ?_)
       rintro _ _ ⟨rfl, rfl⟩
       try simp only [List.cons_append, List.nil_append]
       refine LW.e0 rfl (Ef.store [_, _, _] (by kernel_rfl) rfl rfl rfl rfl (by simp) ?_)
       try simp only [splice, List.length_cons, List.length_nil, List.drop_succ_cons, List.cons_append, List.take_succ_cons, List.take_zero, List.drop_zero, List.nil_append, List.append_nil]
       refine LW.q rfl (Qt.assign rfl) ?_
       refine LW.done ?_
       refine T.ret ?_
       exact ⟨.inl rfl, _, _, res [_, _] rfl ⟨rvA [_, _, _] (by kernel_rfl) rfl ⟨rfl, rfl, rfl, trivial⟩, rvT rfl, trivial⟩, ⟨by rw [evalR_ok (v := truthV (decide (oneV v1 v2 ≠ 0))) (by rw [hev, hz1]; dsimp only; rw [hz2]; dsimp only; unfold reckonT; rw [if_neg q0, if_neg q1, if_neg q2, if_pos q3]; rw [one_ord (hcmp (.inr (.inl q3)))])]; rfl, rfl⟩, Sub.any⟩
      ·
       refine T.seq ?_
       refine T.region ?_
       refine LW.q rfl (Qt.eqlS rfl rfl) ?_
       refine LW.q rfl (Qt.assign rfl) ?_
       refine LW.done ?_
       refine T.condP rfl (fun q4 => ?_) (fun q4 => ?_)
       ·
        refine T.seq ?_
        refine T.region ?_
        refine LW.q rfl (Qt.move rfl) ?_
        refine LW.q rfl (Qt.leq rfl rfl) ?_
        refine LW.e rfl (Ef.call (Be.truth B (decide (oneV v1 v2 ≤ 0))) Try.func34 rfl rfl rfl ?_)
        rintro _ _ ⟨rfl, rfl⟩
        try simp only [List.cons_append, List.nil_append]
        refine LW.e0 rfl (Ef.store [_, _, _] (by kernel_rfl) rfl rfl rfl rfl (by simp) ?_)
        try simp only [splice, List.length_cons, List.length_nil, List.drop_succ_cons, List.cons_append, List.take_succ_cons, List.take_zero, List.drop_zero, List.nil_append, List.append_nil]
        refine LW.q rfl (Qt.assign rfl) ?_
        refine LW.done ?_
        refine T.ret ?_
        exact ⟨.inl rfl, _, _, res [_, _] rfl ⟨rvA [_, _, _] (by kernel_rfl) rfl ⟨rfl, rfl, rfl, trivial⟩, rvT rfl, trivial⟩, ⟨by rw [evalR_ok (v := truthV (decide (oneV v1 v2 ≤ 0))) (by rw [hev, hz1]; dsimp only; rw [hz2]; dsimp only; unfold reckonT; rw [if_neg q0, if_neg q1, if_neg q2, if_neg q3, if_pos q4]; rw [one_ord (hcmp (.inr (.inr (.inl q4))))])]; rfl, rfl⟩, Sub.any⟩
       ·
        refine T.seq ?_
        refine T.region ?_
        refine LW.q rfl (Qt.eqlS rfl rfl) ?_
        refine LW.q rfl (Qt.assign rfl) ?_
        refine LW.done ?_
        refine T.condP rfl (fun q5 => ?_) (fun q5 => ?_)
        ·
         refine T.seq ?_
         refine T.region ?_
         refine LW.q rfl (Qt.move rfl) ?_
         refine LW.q rfl (Qt.geq rfl rfl) ?_
         refine LW.e rfl (Ef.call (Be.truth B (decide (0 ≤ oneV v1 v2))) Try.func34 rfl rfl rfl ?_)
         rintro _ _ ⟨rfl, rfl⟩
         try simp only [List.cons_append, List.nil_append]
         refine LW.e0 rfl (Ef.store [_, _, _] (by kernel_rfl) rfl rfl rfl rfl (by simp) ?_)
         try simp only [splice, List.length_cons, List.length_nil, List.drop_succ_cons, List.cons_append, List.take_succ_cons, List.take_zero, List.drop_zero, List.nil_append, List.append_nil]
         refine LW.q rfl (Qt.assign rfl) ?_
         refine LW.done ?_
         refine T.ret ?_
         exact ⟨.inl rfl, _, _, res [_, _] rfl ⟨rvA [_, _, _] (by kernel_rfl) rfl ⟨rfl, rfl, rfl, trivial⟩, rvT rfl, trivial⟩, ⟨by rw [evalR_ok (v := truthV (decide (0 ≤ oneV v1 v2))) (by rw [hev, hz1]; dsimp only; rw [hz2]; dsimp only; unfold reckonT; rw [if_neg q0, if_neg q1, if_neg q2, if_neg q3, if_neg q4, if_pos q5]; rw [one_ord (hcmp (.inr (.inr (.inr (.inl q5)))))])]; rfl, rfl⟩, Sub.any⟩
        ·
         refine T.seq ?_
         refine T.region ?_
         refine LW.q rfl (Qt.eqlS rfl rfl) ?_
         refine LW.q rfl (Qt.assign rfl) ?_
         refine LW.done ?_
         refine T.condP rfl (fun q6 => ?_) (fun q6 => ?_)
         ·
          refine T.seq ?_
          refine T.region ?_
          refine LW.q rfl (Qt.move rfl) ?_
          refine LW.q rfl (Qt.lss rfl rfl) ?_
          refine LW.e rfl (Ef.call (Be.truth B (decide (oneV v1 v2 < 0))) Try.func34 rfl rfl rfl ?_)
          rintro _ _ ⟨rfl, rfl⟩
          try simp only [List.cons_append, List.nil_append]
          refine LW.e0 rfl (Ef.store [_, _, _] (by kernel_rfl) rfl rfl rfl rfl (by simp) ?_)
          try simp only [splice, List.length_cons, List.length_nil, List.drop_succ_cons, List.cons_append, List.take_succ_cons, List.take_zero, List.drop_zero, List.nil_append, List.append_nil]
          refine LW.q rfl (Qt.assign rfl) ?_
          refine LW.done ?_
          refine T.ret ?_
          exact ⟨.inl rfl, _, _, res [_, _] rfl ⟨rvA [_, _, _] (by kernel_rfl) rfl ⟨rfl, rfl, rfl, trivial⟩, rvT rfl, trivial⟩, ⟨by rw [evalR_ok (v := truthV (decide (oneV v1 v2 < 0))) (by rw [hev, hz1]; dsimp only; rw [hz2]; dsimp only; unfold reckonT; rw [if_neg q0, if_neg q1, if_neg q2, if_neg q3, if_neg q4, if_neg q5, if_pos q6]; rw [one_ord (hcmp (.inr (.inr (.inr (.inr (.inl q6))))))])]; rfl, rfl⟩, Sub.any⟩
         ·
          refine T.seq ?_
          refine T.region ?_
          refine LW.q rfl (Qt.eqlS rfl rfl) ?_
          refine LW.q rfl (Qt.assign rfl) ?_
          refine LW.done ?_
          refine T.condP rfl (fun q7 => ?_) (fun q7 => ?_)
          ·
           refine T.seq ?_
           refine T.region ?_
           refine LW.q rfl (Qt.move rfl) ?_
           refine LW.q rfl (Qt.gtr rfl rfl) ?_
           refine LW.e rfl (Ef.call (Be.truth B (decide (0 < oneV v1 v2))) Try.func34 rfl rfl rfl ?_)
           rintro _ _ ⟨rfl, rfl⟩
           try simp only [List.cons_append, List.nil_append]
           refine LW.e0 rfl (Ef.store [_, _, _] (by kernel_rfl) rfl rfl rfl rfl (by simp) ?_)
           try simp only [splice, List.length_cons, List.length_nil, List.drop_succ_cons, List.cons_append, List.take_succ_cons, List.take_zero, List.drop_zero, List.nil_append, List.append_nil]
           refine LW.q rfl (Qt.assign rfl) ?_
           refine LW.done ?_
           refine T.ret ?_
           exact ⟨.inl rfl, _, _, res [_, _] rfl ⟨rvA [_, _, _] (by kernel_rfl) rfl ⟨rfl, rfl, rfl, trivial⟩, rvT rfl, trivial⟩, ⟨by rw [evalR_ok (v := truthV (decide (0 < oneV v1 v2))) (by rw [hev, hz1]; dsimp only; rw [hz2]; dsimp only; unfold reckonT; rw [if_neg q0, if_neg q1, if_neg q2, if_neg q3, if_neg q4, if_neg q5, if_neg q6, if_pos q7]; rw [one_ord (hcmp (.inr (.inr (.inr (.inr (.inr (q7)))))))])]; rfl, rfl⟩, Sub.any⟩
          ·
           have hari : ariOp op := by
            rcases hk with ⟨a | a, _⟩ | ⟨a | a | a | a | a | a, _⟩ | ⟨a, _⟩
            all_goals first | exact absurd a q0 | exact absurd a q1 | exact absurd a q2 | exact absurd a q3 | exact absurd a q4 | exact absurd a q5 | exact absurd a q6 | exact absurd a q7 | exact a
           refine T.skip ?_
           refine T.seq ?_
           refine T.region ?_
           refine LW.q rfl (Qt.fieldAddr0 (by kernel_rfl) rfl) ?_
           first | refine LW.q rfl (Qt.load (by kernel_rfl) rfl rfl) ?_ | refine LW.q rfl (Qt.load (by kernel_rfl) rfl (map_at _ _ _ (by omega))) ?_ | refine LW.q rfl (Qt.load (by kernel_rfl) rfl (flat_cell0 _ _ _ (by intros; rfl) _ (by omega) (by rfl))) ?_ | refine LW.q rfl (Qt.load (by kernel_rfl) rfl (flat_cell _ _ _ (by intros; rfl) _ _ (by omega) (by rfl))) ?_ | refine LW.q rfl (Qt.load (by kernel_rfl) rfl (bytes_at _ _ (by omega))) ?_
           refine LW.q rfl (Qt.fieldAddr (off := 1) (by kernel_rfl) rfl) ?_
           first | refine LW.q rfl (Qt.load (by kernel_rfl) rfl rfl) ?_ | refine LW.q rfl (Qt.load (by kernel_rfl) rfl (map_at _ _ _ (by omega))) ?_ | refine LW.q rfl (Qt.load (by kernel_rfl) rfl (flat_cell0 _ _ _ (by intros; rfl) _ (by omega) (by rfl))) ?_ | refine LW.q rfl (Qt.load (by kernel_rfl) rfl (flat_cell _ _ _ (by intros; rfl) _ _ (by omega) (by rfl))) ?_ | refine LW.q rfl (Qt.load (by kernel_rfl) rfl (bytes_at _ _ (by omega))) ?_
           refine LW.q rfl (Qt.fieldAddr (off := 1) (by kernel_rfl) rfl) ?_
           first | refine LW.q rfl (Qt.load (by kernel_rfl) rfl rfl) ?_ | refine LW.q rfl (Qt.load (by kernel_rfl) rfl (map_at _ _ _ (by omega))) ?_ | refine LW.q rfl (Qt.load (by kernel_rfl) rfl (flat_cell0 _ _ _ (by intros; rfl) _ (by omega) (by rfl))) ?_ | refine LW.q rfl (Qt.load (by kernel_rfl) rfl (flat_cell _ _ _ (by intros; rfl) _ _ (by omega) (by rfl))) ?_ | refine LW.q rfl (Qt.load (by kernel_rfl) rfl (bytes_at _ _ (by omega))) ?_
           refine LW.e rfl (Ef.call (Be.number B op v1.int v2.int hari hty1.2 hty2.2) Try.func35 rfl rfl rfl ?_)
           rintro _ _ ⟨rfl, rfl⟩
           try simp only [List.cons_append, List.nil_append]
           refine LW.q rfl (Qt.extr rfl rfl) ?_
           refine LW.q rfl (Qt.extr rfl rfl) ?_
           refine LW.e0 rfl (Ef.store [_, _, _] (by kernel_rfl) rfl rfl rfl rfl (by simp) ?_)
           try simp only [splice, List.length_cons, List.length_nil, List.drop_succ_cons, List.cons_append, List.take_succ_cons, List.take_zero, List.drop_zero, List.nil_append, List.append_nil]
           refine LW.q rfl (Qt.assign rfl) ?_
           refine LW.done ?_
           have hnum : evalR row (.mk op k vZ 0 [t, t2]) = numR op v1.int v2.int := by
            unfold evalR numR; rw [hev, hz1]; dsimp only; rw [hz2]; dsimp only; rw [reckon_ari hari] <;> rfl
           refine T.ret ?_
           exact ⟨.inl rfl, _, _, res [_, _] rfl ⟨rvA [_, _, _] (by kernel_rfl) rfl ⟨rfl, rfl, rfl, trivial⟩, rvT rfl, trivial⟩, ⟨by rw [hnum]; rfl, rfl⟩, Sub.any⟩
  ·
   obtain ⟨c, hz2⟩ := not_ok hz
   rw [evalR_err hz2] at hc1
   refine T.skip ?_
   refine T.seq ?_
   refine T.region ?_
   refine LW.q rfl (Qt.fieldAddr (off := 4) (by kernel_rfl) rfl) ?_
   first | refine LW.q rfl (Qt.load (by kernel_rfl) rfl rfl) ?_ | refine LW.q rfl (Qt.load (by kernel_rfl) rfl (map_at _ _ _ (by omega))) ?_ | refine LW.q rfl (Qt.load (by kernel_rfl) rfl (flat_cell0 _ _ _ (by intros; rfl) _ (by omega) (by rfl))) ?_ | refine LW.q rfl (Qt.load (by kernel_rfl) rfl (flat_cell _ _ _ (by intros; rfl) _ _ (by omega) (by rfl))) ?_ | refine LW.q rfl (Qt.load (by kernel_rfl) rfl (bytes_at _ _ (by omega))) ?_
   refine LW.q rfl (Qt.index 1 (e := 42) (sz := 5) (by kernel_rfl) rfl rfl rfl (by omega)) ?_
   refine LW.q rfl (Qt.loadAggW (c5 c1) (by kernel_rfl) rfl (fun w ho => hr1 w (ho.map Sub.any))) ?_
   refine LW.q rfl (Qt.move rfl) ?_
   refine LW.q rfl (Qt.move rfl) ?_
   refine LW.e rfl (Ef.call (hc1) Try.func27 rfl rfl rfl ?_)
   rintro _ _ ⟨rfl, rfl⟩
   try simp only [List.cons_append, List.nil_append]
   refine LW.q rfl (Qt.move rfl) ?_
   refine LW.q rfl (Qt.extr rfl rfl) ?_
   refine LW.q rfl (Qt.extr rfl rfl) ?_
   refine LW.e rfl (Ef.alloc [.int .i64 0, .int .i64 0, .string .empty] (by unfold zeroB; kernel_rfl) ?_)
   intro g12
   refine LW.e0 rfl (Ef.store [_, _, _] (by kernel_rfl) rfl rfl rfl rfl (by simp) ?_)
   try simp only [splice, List.length_cons, List.length_nil, List.drop_succ_cons, List.cons_append, List.take_succ_cons, List.take_zero, List.drop_zero, List.nil_append, List.append_nil]
   refine LW.q rfl (Qt.assign rfl) ?_
   refine LW.done ?_
   refine T.seq ?_
   refine T.seq ?_
   refine T.region ?_
   refine LW.q rfl (Qt.move rfl) ?_
   refine LW.q rfl (Qt.neq rfl rfl) ?_
   refine LW.done ?_
   first | refine T.condT rfl ?_ | refine T.condPT rfl ((be_err hbe2 c hz2)) ?_ | refine T.condBT rfl ((be_err hbe2 c hz2)) ?_
   refine T.seq ?_
   refine T.region ?_
   refine LW.q rfl (Qt.build [(0, 1), (1, 1), (2, 1)] [.int .i64 0, .int .i64 0, .string .empty] [_, _, _] [] (by kernel_rfl) (by unfold zeroB; kernel_rfl) rfl rfl) ?_
   refine LW.q rfl (Qt.move rfl) ?_
   refine LW.e0 rfl (Ef.store [_, _, _] (by kernel_rfl) rfl rfl rfl rfl (by simp) ?_)
   try simp only [splice, List.length_cons, List.length_nil, List.drop_succ_cons, List.cons_append, List.take_succ_cons, List.take_zero, List.drop_zero, List.nil_append, List.append_nil]
   refine LW.q rfl (Qt.assign rfl) ?_
   refine LW.done ?_
   refine T.ret ?_
   exact ⟨.inl rfl, _, _, res [_, _] rfl ⟨rvA [_, _, _] (by kernel_rfl) rfl ⟨rfl, rfl, rfl, trivial⟩, rvT rfl, trivial⟩, ⟨by rw [evalR_err (c := c) (by rw [hev, hz1]; dsimp only; rw [hz2])]; rfl, rfl⟩, Sub.any⟩
 ·
  obtain ⟨c, hz1⟩ := not_ok hz
  rw [evalR_err hz1] at hc0
  refine T.skip ?_
  refine T.seq ?_
  refine T.region ?_
  refine LW.q rfl (Qt.fieldAddr (off := 4) (by kernel_rfl) rfl) ?_
  first | refine LW.q rfl (Qt.load (by kernel_rfl) rfl rfl) ?_ | refine LW.q rfl (Qt.load (by kernel_rfl) rfl (map_at _ _ _ (by omega))) ?_ | refine LW.q rfl (Qt.load (by kernel_rfl) rfl (flat_cell0 _ _ _ (by intros; rfl) _ (by omega) (by rfl))) ?_ | refine LW.q rfl (Qt.load (by kernel_rfl) rfl (flat_cell _ _ _ (by intros; rfl) _ _ (by omega) (by rfl))) ?_ | refine LW.q rfl (Qt.load (by kernel_rfl) rfl (bytes_at _ _ (by omega))) ?_
  refine LW.q rfl (Qt.index 0 (e := 42) (sz := 5) (by kernel_rfl) rfl rfl rfl (by omega)) ?_
  refine LW.q rfl (Qt.loadAggW (c5 c0) (by kernel_rfl) rfl (fun w ho => hr0 w (ho.map Sub.any))) ?_
  refine LW.q rfl (Qt.move rfl) ?_
  refine LW.q rfl (Qt.move rfl) ?_
  refine LW.e rfl (Ef.call (hc0) Try.func27 rfl rfl rfl ?_)
  rintro _ _ ⟨rfl, rfl⟩
  try simp only [List.cons_append, List.nil_append]
  refine LW.q rfl (Qt.move rfl) ?_
  refine LW.q rfl (Qt.extr rfl rfl) ?_
  refine LW.q rfl (Qt.extr rfl rfl) ?_
  refine LW.e rfl (Ef.alloc [.int .i64 0, .int .i64 0, .string .empty] (by unfold zeroB; kernel_rfl) ?_)
  intro g10
  refine LW.e0 rfl (Ef.store [_, _, _] (by kernel_rfl) rfl rfl rfl rfl (by simp) ?_)
  try simp only [splice, List.length_cons, List.length_nil, List.drop_succ_cons, List.cons_append, List.take_succ_cons, List.take_zero, List.drop_zero, List.nil_append, List.append_nil]
  refine LW.q rfl (Qt.assign rfl) ?_
  refine LW.done ?_
  refine T.seq ?_
  refine T.seq ?_
  refine T.region ?_
  refine LW.q rfl (Qt.move rfl) ?_
  refine LW.q rfl (Qt.neq rfl rfl) ?_
  refine LW.done ?_
  first | refine T.condT rfl ?_ | refine T.condPT rfl ((be_err hbe c hz1)) ?_ | refine T.condBT rfl ((be_err hbe c hz1)) ?_
  refine T.seq ?_
  refine T.region ?_
  refine LW.q rfl (Qt.build [(0, 1), (1, 1), (2, 1)] [.int .i64 0, .int .i64 0, .string .empty] [_, _, _] [] (by kernel_rfl) (by unfold zeroB; kernel_rfl) rfl rfl) ?_
  refine LW.q rfl (Qt.move rfl) ?_
  refine LW.e0 rfl (Ef.store [_, _, _] (by kernel_rfl) rfl rfl rfl rfl (by simp) ?_)
  try simp only [splice, List.length_cons, List.length_nil, List.drop_succ_cons, List.cons_append, List.take_succ_cons, List.take_zero, List.drop_zero, List.nil_append, List.append_nil]
  refine LW.q rfl (Qt.assign rfl) ?_
  refine LW.done ?_
  refine T.ret ?_
  exact ⟨.inl rfl, _, _, res [_, _] rfl ⟨rvA [_, _, _] (by kernel_rfl) rfl ⟨rfl, rfl, rfl, trivial⟩, rvT rfl, trivial⟩, ⟨by rw [evalR_err (c := c) (by rw [hev, hz1])]; rfl, rfl⟩, Sub.any⟩
end
end Go.Proofs.Ytopbkdpbljebgaa

/- The laws of bind: BindKeeps. Conditions: that what is handed in can be read; sizes. -/
set_option linter.unusedSimpArgs false
set_option linter.unusedVariables false
namespace Go.Proofs.Ytopbkdpbljebgaa
open Go.RowKit

end Go.Proofs.Ytopbkdpbljebgaa
