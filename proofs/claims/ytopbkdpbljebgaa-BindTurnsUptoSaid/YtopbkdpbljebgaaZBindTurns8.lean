/- The texts BeL, one behind the other: what the law leans on. Conditions: as each theorem says. -/
import Derived.Test.YtopbkdpbljebgaaZBindTurns7
/- The laws of bind: BindTurns. Conditions: that what is handed in can be read; sizes. -/
set_option linter.unusedSimpArgs false
set_option linter.unusedVariables false
namespace Go.Proofs.Ytopbkdpbljebgaa
open Go.RowKit

section
variable {P : Program} {B : Base} {n : Nat} {S : List Assn} {f : Fr}
variable {d : Option Tmp} {ty : TypeId} {pos : String} {af : Array Edge} {gd : Option (Nat × Bool)}
/-- An array literal of elements of several cells, all of them told. -/
theorem Qt.buildAs {t len e sz : Nat} {parts : Array (Nat × Operand)} (vs C : List Value) (ht : arrB P t len e sz = true) (hz : (P.info? t).bind (fun i => i.zero.map (·.cells.size)) = some (len * sz)) (hp : parts.toList.map (fun p => (p.1, ev n f p.2)) = (vs.zipIdx 0).map fun x => (x.2, some x.1)) (h1 : ∀ v ∈ vs, v.cells.size = sz) (hC : (vs.flatMap fun v => v.cells.toList) = C) (hl : vs.length = len) (hs0 : 0 < sz) : Qt P B n S ⟨d, .build t parts, ty, pos, af, gd⟩ f (.agg C.toArray) := ⟨fun w _ => by
  subst hC
  unfold arrB at ht
  simp only [Bool.and_eq_true, decide_eq_true_eq] at ht
  obtain ⟨q1, q2⟩ := ht
  split at q1
  · rename_i m e' hu
    simp at q1
    obtain ⟨rfl, rfl⟩ := q1
    obtain ⟨i', hi, hs⟩ := info_of_size q2
    cases hit : P.info? t with
    | none => rw [hit] at hz; cases hz
    | some it =>
      rw [hit] at hz
      simp only [Option.bind_some] at hz
      cases hzz : it.zero with
      | none => rw [hzz] at hz; cases hz
      | some z =>
        rw [hzz] at hz
        simp only [Option.map_some, Option.some.injEq] at hz
        have hpe : (parts.map fun p => (p.1, evu n f p.2)).toList = (vs.zipIdx 0).map fun x => (x.2, x.1) := by
          rw [Array.toList_map]
          have e := congrArg (List.map (fun p : Nat × Option Value => (p.1, p.2.getD undef))) hp
          simp only [List.map_map, Function.comp_def, Option.getD_some] at e
          exact e
        have hfl := Great.fill_whole hs0 vs z.cells h1 (by rw [hl]; exact hz.symm)
        show ((do pure (.value (← Instr.build t (parts.map fun p => (p.1, evu n f p.2)))) : Sem Next)).run P w = _
        simp [Instr.build, zeroValue, sizeOf, typeInfo, hit, hzz, hi, hs, run_underlying hu, hpe, hfl, -Array.toList_map]
  · cases q1⟩
end
theorem Be.not (B : Base) (op : Str) (n : Int) (text of : Str) (pa : Option Addr) (na ca : Nat) : Fn Try.prog B 13 #[.agg #[tV op, iV n, tV text, tV of, .slice pa na ca]] [] (fun u l => ∃ g, u = .agg #[tV sNot, iV 0, tV [], tV [], .slice (some ⟨g, 0, none⟩) 1 1] ∧ l = [blk g [tV op, iV n, tV text, tV of, .slice pa na ca] 42]) := by
  refine Fn.enter1 6 Try.func13 rfl rfl (Nat.le_of_ble_eq_true rfl) (fun F => ?_)
  try simp only [List.cons_append, List.nil_append]
  refine T.seq ?_
  refine T.region ?_
  refine LW.e rfl (Ef.box [_, _, _, _, _] rfl rfl ?_)
  intro g1
  refine LW.e rfl (Ef.alloc [.string .empty, .int .i64 0, .string .empty, .string .empty, .slice none 0 0] (by unfold zeroB; kernel_rfl) ?_)
  intro g2
  refine LW.done ?_
  refine T.seq ?_
  refine T.region ?_
  first | refine LW.q rfl (Qt.loadAgg [_, _, _, _, _] (by kernel_rfl) rfl ⟨rfl, rfl, rfl, rfl, rfl, trivial⟩) ?_ | refine LW.q rfl (Qt.loadAgg [_, _, _, _, _] (by kernel_rfl) rfl (by exact rdl_flat _ _ _ (by intros; rfl) _ (by omega))) ?_
  refine LW.e rfl (Ef.one [_, _, _, _, _] (e := 42) (sz := 5) (by kernel_rfl) ⟨.agg #[.string .empty, .int .i64 0, .string .empty, .string .empty, .slice none 0 0], by kernel_rfl, rfl⟩ rfl rfl rfl (by omega) (by omega) ?_)
  intro g4
  refine LW.q rfl (Qt.build [(0, 1), (1, 1), (2, 1), (3, 1), (4, 1)] [.string .empty, .int .i64 0, .string .empty, .string .empty, .slice none 0 0] [_, _, _, _, _] [(0, _), (4, _)] (by kernel_rfl) (by unfold zeroB; kernel_rfl) rfl rfl) ?_
  refine LW.e0 rfl (Ef.store [_, _, _, _, _] (by kernel_rfl) rfl rfl rfl rfl (by simp) ?_)
  try simp only [splice, List.length_cons, List.length_nil, List.drop_succ_cons, List.cons_append, List.take_succ_cons, List.take_zero, List.drop_zero, List.nil_append, List.append_nil]
  refine LW.done ?_
  refine T.ret ?_
  exact ⟨.inl rfl, _, _, res [_] rfl ⟨rvA [_, _, _, _, _] (by kernel_rfl) rfl ⟨rfl, rfl, rfl, rfl, rfl, trivial⟩, trivial⟩, ⟨g4, rfl, rfl⟩, Sub.any⟩
theorem Be.two (B : Base) (op o1 : Str) (n1 : Int) (t1 f1 : Str) (p1 : Option Addr) (l1 c1 : Nat) (o2 : Str) (n2 : Int) (t2 f2 : Str) (p2 : Option Addr) (l2 c2 : Nat) : Fn Try.prog B 14 #[tV op, .agg #[tV o1, iV n1, tV t1, tV f1, .slice p1 l1 c1], .agg #[tV o2, iV n2, tV t2, tV f2, .slice p2 l2 c2]] [] (fun u l => ∃ g, u = .agg #[tV op, iV 0, tV [], tV [], .slice (some ⟨g, 0, none⟩) 2 2] ∧ l = [blk g [tV o1, iV n1, tV t1, tV f1, .slice p1 l1 c1, tV o2, iV n2, tV t2, tV f2, .slice p2 l2 c2] 42]) := by
  refine Fn.enter3 12 Try.func14 rfl rfl (Nat.le_of_ble_eq_true rfl) (fun F => ?_)
  try simp only [List.cons_append, List.nil_append]
  refine T.seq ?_
  refine T.region ?_
  refine LW.e rfl (Ef.box [_, _, _, _, _] rfl rfl ?_)
  intro g4
  refine LW.e rfl (Ef.box [_, _, _, _, _] rfl rfl ?_)
  intro g5
  refine LW.e rfl (Ef.alloc [.string .empty, .int .i64 0, .string .empty, .string .empty, .slice none 0 0] (by unfold zeroB; kernel_rfl) ?_)
  intro g6
  refine LW.done ?_
  refine T.seq ?_
  refine T.region ?_
  refine LW.q rfl (Qt.move rfl) ?_
  first | refine LW.q rfl (Qt.loadAgg [_, _, _, _, _] (by kernel_rfl) rfl ⟨rfl, rfl, rfl, rfl, rfl, trivial⟩) ?_ | refine LW.q rfl (Qt.loadAgg [_, _, _, _, _] (by kernel_rfl) rfl (by exact rdl_flat _ _ _ (by intros; rfl) _ (by omega))) ?_
  first | refine LW.q rfl (Qt.loadAgg [_, _, _, _, _] (by kernel_rfl) rfl ⟨rfl, rfl, rfl, rfl, rfl, trivial⟩) ?_ | refine LW.q rfl (Qt.loadAgg [_, _, _, _, _] (by kernel_rfl) rfl (by exact rdl_flat _ _ _ (by intros; rfl) _ (by omega))) ?_
  refine LW.e rfl (Ef.lits [_, _] [_, _, _, _, _, _, _, _, _, _] (e := 42) (sz := 5) (by kernel_rfl) (by kernel_rfl) rfl (by simp [Value.cells]) rfl rfl (by omega) (by omega) (by omega) ?_)
  intro g10
  refine LW.q rfl (Qt.build [(0, 1), (1, 1), (2, 1), (3, 1), (4, 1)] [.string .empty, .int .i64 0, .string .empty, .string .empty, .slice none 0 0] [_, _, _, _, _] [(0, _), (4, _)] (by kernel_rfl) (by unfold zeroB; kernel_rfl) rfl rfl) ?_
  refine LW.e0 rfl (Ef.store [_, _, _, _, _] (by kernel_rfl) rfl rfl rfl rfl (by simp) ?_)
  try simp only [splice, List.length_cons, List.length_nil, List.drop_succ_cons, List.cons_append, List.take_succ_cons, List.take_zero, List.drop_zero, List.nil_append, List.append_nil]
  refine LW.done ?_
  refine T.ret ?_
  exact ⟨.inl rfl, _, _, res [_] rfl ⟨rvA [_, _, _, _, _] (by kernel_rfl) rfl ⟨rfl, rfl, rfl, rfl, rfl, trivial⟩, trivial⟩, ⟨g10, rfl, rfl⟩, Sub.any⟩
abbrev c10 (p : C5 × C5) : List Value := [p.1.op, p.1.n, p.1.text, p.1.of, p.1.args, p.2.op, p.2.n, p.2.text, p.2.of, p.2.args]
theorem ExV.not {B : Base} {S : List Assn} {e : Ex} {c : C5} (g : Nat) (h : ExV B S e c) (hin : ∀ w, Own B w S → w.rangeAt g 0 (c5 c)) : ExV B S (notE e) ⟨tV sNot, iV 0, tV [], tV [], .slice (some ⟨g, 0, none⟩) 1 1⟩ :=
  .mk sNot 0 [] [] [e] _ [c] ⟨_, 1, rfl, .inr ⟨g, 0, rfl, fun w ho => by have := hin w ho; simpa using this⟩⟩ rfl (by simp) (by simp) (by
    intro i t c' h1 h2
    match i with
    | 0 => simp at h1 h2; subst h1; subst h2; exact h
    | i + 1 => simp at h1)
theorem ExV.neg {B : Base} {S : List Assn} {e : Ex} {c : C5} (g : Nat) (h : ExV B S e c) (hin : ∀ w, Own B w S → w.rangeAt g 0 (c5 c)) : ExV B S (negE e) ⟨tV sMinus, iV 0, tV [], tV [], .slice (some ⟨g, 0, none⟩) 1 1⟩ :=
  .mk sMinus 0 [] [] [e] _ [c] ⟨_, 1, rfl, .inr ⟨g, 0, rfl, fun w ho => by have := hin w ho; simpa using this⟩⟩ rfl (by simp) (by simp) (by
    intro i t c' h1 h2
    match i with
    | 0 => simp at h1 h2; subst h1; subst h2; exact h
    | i + 1 => simp at h1)
theorem ExV.two {B : Base} {S : List Assn} (op : Str) {e f : Ex} {c d : C5} (g : Nat) (h : ExV B S e c) (k : ExV B S f d) (hin : ∀ w, Own B w S → w.rangeAt g 0 (c5 c ++ c5 d)) : ExV B S (twoE op e f) ⟨tV op, iV 0, tV [], tV [], .slice (some ⟨g, 0, none⟩) 2 2⟩ :=
  .mk op 0 [] [] [e, f] _ [c, d] ⟨_, 2, rfl, .inr ⟨g, 0, rfl, fun w ho => by have := hin w ho; simpa using this⟩⟩ rfl (by simp) (by simp) (by
    intro i t c' h1 h2
    match i with
    | 0 => simp at h1 h2; subst h1; subst h2; exact h
    | 1 => simp at h1 h2; subst h1; subst h2; exact k
    | i + 2 => simp at h1)
theorem evalR_zero {sc : List Co} {row : List Va} {e : Ex} {t : Tm} (h : BE sc e t) (hz : (evalR row t).2 = 0) : evalT row t = .ok (evalR row t).1 := by
  unfold evalR at hz ⊢
  cases e' : evalT row t with
  | error c => rw [e'] at hz; exact absurd hz (be_err h c e')
  | ok v => rfl
theorem sep4 {G1 G2 G3 G4 : List Assn} {h : Piece} (H : Has [sepL [sepL G1, sepL G2, sepL G3, sepL G4]] h) : Has (G1 ++ (G2 ++ (G3 ++ (G4 ++ [])))) h := by
  have h1 := Has.open_sepL H
  have h2 := Has.open_sepL h1
  exact Has.app_imp (fun _ k => Has.app_imp (fun _ k => Has.app_imp (fun _ k => Has.open_sepL k) (Has.open_sepL k)) (Has.open_sepL k)) h2
theorem Sub.grab {A : Assn} {l r m : List Assn} [k : TakeA A l r] (h : Sub (A :: r) m) : Sub l m := fun p H => h p (k.take p H)
section
variable {P : Program} {B : Base} {n : Nat} {ops : Array Oper} {m : Nat} {Φ : Post} {S : List Assn}
/-- The judgement by a short name. -/
theorem RW.hide {k0 : Nat} {listed0 : Array Bool} {f0 : Fr} {l0 : List Assn} (h : ∀ R : Nat → Array Bool → Fr → List Assn → Prop, (∀ k listed f l, RW P B n ops m Φ k S listed f l → R k listed f l) → (∀ k listed f l, R k listed f l → RW P B n ops m Φ k S listed f l) → R k0 listed0 f0 l0) : RW P B n ops m Φ k0 S listed0 f0 l0 := h _ (fun _ _ _ _ h => h) (fun _ _ _ _ h => h)
theorem RW.use {k : Nat} {listed listed' : Array Bool} {f f' : Fr} {l l' : List Assn} (h : RW P B n ops m Φ k S listed' f' l') (h1 : listed = listed') (h2 : f = f') (h3 : Sub l l') : RW P B n ops m Φ k S listed f l := by
  subst h1; subst h2
  exact RW.conv (fun w ho => ho.map h3) h
end
def ExPs (B : Base) (A : Assn) (ps : List (Ex × Ex)) (cs : List (C5 × C5)) : Prop := cs.length = ps.length ∧ ∀ (i : Nat) p q, ps[i]? = some p → cs[i]? = some q → ExV B [A] p.1 q.1 ∧ ExV B [A] p.2 q.2
section
variable (opa : Str) (ena : Int) (ta ofa : Str) (pa : Option Addr) (la ca : Nat) (opb : Str) (enb : Int) (tb ofb : Str) (pb : Option Addr) (lb cb : Nat) (g26 g27 g29 g31 g32 g36 g37 g39 g41 g42 g46 g47 g50 g54 g57 g61 g62 g65 g69 g72 g74 g78 g81 : Nat)
abbrev turnB : List Assn := [sepL [blk g72 [tV opb, iV enb, tV tb, tV ofb, .slice pb lb cb] 42, blk g81 [tV opb, iV enb, tV tb, tV ofb, .slice pb lb cb, tV opa, iV ena, tV ta, tV ofa, .slice pa la ca] 42, blk g78 [tV opa, iV ena, tV ta, tV ofa, .slice pa la ca, tV opb, iV enb, tV tb, tV ofb, .slice pb lb cb] 42, blk g74 [tV opa, iV ena, tV ta, tV ofa, .slice pa la ca, tV sMinus, iV 0, tV [], tV [], .slice (some ⟨g72, 0, none⟩) 1 1] 42, blk g69 [tV opa, iV ena, tV ta, tV ofa, .slice pa la ca, tV opb, iV enb, tV tb, tV ofb, .slice pb lb cb] 42, blk g65 [tV opb, iV enb, tV tb, tV ofb, .slice pb lb cb, tV opa, iV ena, tV ta, tV ofa, .slice pa la ca] 42], sepL [blk g62 [tV sEq, iV 0, tV [], tV [], .slice (some ⟨g61, 0, none⟩) 2 2] 42, blk g61 [tV opa, iV ena, tV ta, tV ofa, .slice pa la ca, tV opb, iV enb, tV tb, tV ofb, .slice pb lb cb] 42, blk g57 [tV opb, iV enb, tV tb, tV ofb, .slice pb lb cb, tV opa, iV ena, tV ta, tV ofa, .slice pa la ca] 42, blk g54 [tV opa, iV ena, tV ta, tV ofa, .slice pa la ca, tV opb, iV enb, tV tb, tV ofb, .slice pb lb cb] 42, blk g50 [tV opa, iV ena, tV ta, tV ofa, .slice pa la ca, tV opb, iV enb, tV tb, tV ofb, .slice pb lb cb] 42, blk g47 [tV sLt, iV 0, tV [], tV [], .slice (some ⟨g46, 0, none⟩) 2 2] 42], sepL [blk g46 [tV opa, iV ena, tV ta, tV ofa, .slice pa la ca, tV opb, iV enb, tV tb, tV ofb, .slice pb lb cb] 42, blk g42 [tV sNot, iV 0, tV [], tV [], .slice (some ⟨g39, 0, none⟩) 1 1, tV sNot, iV 0, tV [], tV [], .slice (some ⟨g41, 0, none⟩) 1 1] 42, blk g41 [tV opb, iV enb, tV tb, tV ofb, .slice pb lb cb] 42, blk g39 [tV opa, iV ena, tV ta, tV ofa, .slice pa la ca] 42, blk g37 [tV sAnd, iV 0, tV [], tV [], .slice (some ⟨g36, 0, none⟩) 2 2] 42, blk g36 [tV opa, iV ena, tV ta, tV ofa, .slice pa la ca, tV opb, iV enb, tV tb, tV ofb, .slice pb lb cb] 42], sepL [blk g32 [tV sNot, iV 0, tV [], tV [], .slice (some ⟨g29, 0, none⟩) 1 1, tV sNot, iV 0, tV [], tV [], .slice (some ⟨g31, 0, none⟩) 1 1] 42, blk g31 [tV opb, iV enb, tV tb, tV ofb, .slice pb lb cb] 42, blk g29 [tV opa, iV ena, tV ta, tV ofa, .slice pa la ca] 42, blk g27 [tV sOr, iV 0, tV [], tV [], .slice (some ⟨g26, 0, none⟩) 2 2] 42, blk g26 [tV opa, iV ena, tV ta, tV ofa, .slice pa la ca, tV opb, iV enb, tV tb, tV ofb, .slice pb lb cb] 42]]
abbrev turnC : List (C5 × C5) := [(⟨tV sNot, iV 0, tV [], tV [], .slice (some ⟨g27, 0, none⟩) 1 1⟩, ⟨tV sAnd, iV 0, tV [], tV [], .slice (some ⟨g32, 0, none⟩) 2 2⟩), (⟨tV sNot, iV 0, tV [], tV [], .slice (some ⟨g37, 0, none⟩) 1 1⟩, ⟨tV sOr, iV 0, tV [], tV [], .slice (some ⟨g42, 0, none⟩) 2 2⟩), (⟨tV sNot, iV 0, tV [], tV [], .slice (some ⟨g47, 0, none⟩) 1 1⟩, ⟨tV sGe, iV 0, tV [], tV [], .slice (some ⟨g50, 0, none⟩) 2 2⟩), (⟨tV sLe, iV 0, tV [], tV [], .slice (some ⟨g54, 0, none⟩) 2 2⟩, ⟨tV sGe, iV 0, tV [], tV [], .slice (some ⟨g57, 0, none⟩) 2 2⟩), (⟨tV sNot, iV 0, tV [], tV [], .slice (some ⟨g62, 0, none⟩) 1 1⟩, ⟨tV sNe, iV 0, tV [], tV [], .slice (some ⟨g65, 0, none⟩) 2 2⟩), (⟨tV sMinus, iV 0, tV [], tV [], .slice (some ⟨g69, 0, none⟩) 2 2⟩, ⟨tV sPlus, iV 0, tV [], tV [], .slice (some ⟨g74, 0, none⟩) 2 2⟩), (⟨tV sMul, iV 0, tV [], tV [], .slice (some ⟨g78, 0, none⟩) 2 2⟩, ⟨tV sMul, iV 0, tV [], tV [], .slice (some ⟨g81, 0, none⟩) 2 2⟩)]
end
set_option maxHeartbeats 4000000 in
theorem turn_exv {B : Base} {a b : Ex} (opa : Str) (ena : Int) (ta ofa : Str) (pa : Option Addr) (la ca : Nat) (opb : Str) (enb : Int) (tb ofb : Str) (pb : Option Addr) (lb cb : Nat) (g26 g27 g29 g31 g32 g36 g37 g39 g41 g42 g46 g47 g50 g54 g57 g61 g62 g65 g69 g72 g74 g78 g81 : Nat)
    (ha : ExV B [] a ⟨tV opa, iV ena, tV ta, tV ofa, .slice pa la ca⟩) (hb : ExV B [] b ⟨tV opb, iV enb, tV tb, tV ofb, .slice pb lb cb⟩) : ExPs B (sepL (turnB opa ena ta ofa pa la ca opb enb tb ofb pb lb cb g26 g27 g29 g31 g32 g36 g37 g39 g41 g42 g46 g47 g50 g54 g57 g61 g62 g65 g69 g72 g74 g78 g81)) (pairsE a b) (turnC g27 g32 g37 g42 g47 g50 g54 g57 g62 g65 g69 g74 g78 g81) := by
  have rd : ∀ (g : Nat) (C : List Value) (L : List Assn) [k : CellsAt g L C] (w : World), Own B w L → w.rangeAt g 0 C := fun g C L k w ho => ho.range (g := g) (o := 0) (C := C) (fun j v h => by rw [Nat.zero_add]; exact h)
  have op0 : ∀ w, Own B w [sepL (turnB opa ena ta ofa pa la ca opb enb tb ofb pb lb cb g26 g27 g29 g31 g32 g36 g37 g39 g41 g42 g46 g47 g50 g54 g57 g61 g62 g65 g69 g72 g74 g78 g81)] → Own B w [blk g72 [tV opb, iV enb, tV tb, tV ofb, .slice pb lb cb] 42, blk g81 [tV opb, iV enb, tV tb, tV ofb, .slice pb lb cb, tV opa, iV ena, tV ta, tV ofa, .slice pa la ca] 42, blk g78 [tV opa, iV ena, tV ta, tV ofa, .slice pa la ca, tV opb, iV enb, tV tb, tV ofb, .slice pb lb cb] 42, blk g74 [tV opa, iV ena, tV ta, tV ofa, .slice pa la ca, tV sMinus, iV 0, tV [], tV [], .slice (some ⟨g72, 0, none⟩) 1 1] 42, blk g69 [tV opa, iV ena, tV ta, tV ofa, .slice pa la ca, tV opb, iV enb, tV tb, tV ofb, .slice pb lb cb] 42, blk g65 [tV opb, iV enb, tV tb, tV ofb, .slice pb lb cb, tV opa, iV ena, tV ta, tV ofa, .slice pa la ca] 42, blk g62 [tV sEq, iV 0, tV [], tV [], .slice (some ⟨g61, 0, none⟩) 2 2] 42, blk g61 [tV opa, iV ena, tV ta, tV ofa, .slice pa la ca, tV opb, iV enb, tV tb, tV ofb, .slice pb lb cb] 42, blk g57 [tV opb, iV enb, tV tb, tV ofb, .slice pb lb cb, tV opa, iV ena, tV ta, tV ofa, .slice pa la ca] 42, blk g54 [tV opa, iV ena, tV ta, tV ofa, .slice pa la ca, tV opb, iV enb, tV tb, tV ofb, .slice pb lb cb] 42, blk g50 [tV opa, iV ena, tV ta, tV ofa, .slice pa la ca, tV opb, iV enb, tV tb, tV ofb, .slice pb lb cb] 42, blk g47 [tV sLt, iV 0, tV [], tV [], .slice (some ⟨g46, 0, none⟩) 2 2] 42, blk g46 [tV opa, iV ena, tV ta, tV ofa, .slice pa la ca, tV opb, iV enb, tV tb, tV ofb, .slice pb lb cb] 42, blk g42 [tV sNot, iV 0, tV [], tV [], .slice (some ⟨g39, 0, none⟩) 1 1, tV sNot, iV 0, tV [], tV [], .slice (some ⟨g41, 0, none⟩) 1 1] 42, blk g41 [tV opb, iV enb, tV tb, tV ofb, .slice pb lb cb] 42, blk g39 [tV opa, iV ena, tV ta, tV ofa, .slice pa la ca] 42, blk g37 [tV sAnd, iV 0, tV [], tV [], .slice (some ⟨g36, 0, none⟩) 2 2] 42, blk g36 [tV opa, iV ena, tV ta, tV ofa, .slice pa la ca, tV opb, iV enb, tV tb, tV ofb, .slice pb lb cb] 42, blk g32 [tV sNot, iV 0, tV [], tV [], .slice (some ⟨g29, 0, none⟩) 1 1, tV sNot, iV 0, tV [], tV [], .slice (some ⟨g31, 0, none⟩) 1 1] 42, blk g31 [tV opb, iV enb, tV tb, tV ofb, .slice pb lb cb] 42, blk g29 [tV opa, iV ena, tV ta, tV ofa, .slice pa la ca] 42, blk g27 [tV sOr, iV 0, tV [], tV [], .slice (some ⟨g26, 0, none⟩) 2 2] 42, blk g26 [tV opa, iV ena, tV ta, tV ofa, .slice pa la ca, tV opb, iV enb, tV tb, tV ofb, .slice pb lb cb] 42] := fun w ho => ho.map fun _ H => sep4 H
  generalize turnB opa ena ta ofa pa la ca opb enb tb ofb pb lb cb g26 g27 g29 g31 g32 g36 g37 g39 g41 g42 g46 g47 g50 g54 g57 g61 g62 g65 g69 g72 g74 g78 g81 = L at op0 ⊢
  have xa : ExV B [sepL L] a ⟨tV opa, iV ena, tV ta, tV ofa, .slice pa la ca⟩ := ha.mono fun w ho => ho.map fun _ _ => trivial
  have xb : ExV B [sepL L] b ⟨tV opb, iV enb, tV tb, tV ofb, .slice pb lb cb⟩ := hb.mono fun w ho => ho.map fun _ _ => trivial
  have x26 := ExV.two sOr g26 xa xb (fun w ho => rd g26 _ _ w (op0 w ho))
  have x27 := ExV.not g27 x26 (fun w ho => rd g27 _ _ w (op0 w ho))
  have x29 := ExV.not g29 xa (fun w ho => rd g29 _ _ w (op0 w ho))
  have x31 := ExV.not g31 xb (fun w ho => rd g31 _ _ w (op0 w ho))
  have x32 := ExV.two sAnd g32 x29 x31 (fun w ho => rd g32 _ _ w (op0 w ho))
  have x36 := ExV.two sAnd g36 xa xb (fun w ho => rd g36 _ _ w (op0 w ho))
  have x37 := ExV.not g37 x36 (fun w ho => rd g37 _ _ w (op0 w ho))
  have x39 := ExV.not g39 xa (fun w ho => rd g39 _ _ w (op0 w ho))
  have x41 := ExV.not g41 xb (fun w ho => rd g41 _ _ w (op0 w ho))
  have x42 := ExV.two sOr g42 x39 x41 (fun w ho => rd g42 _ _ w (op0 w ho))
  have x46 := ExV.two sLt g46 xa xb (fun w ho => rd g46 _ _ w (op0 w ho))
  have x47 := ExV.not g47 x46 (fun w ho => rd g47 _ _ w (op0 w ho))
  have x50 := ExV.two sGe g50 xa xb (fun w ho => rd g50 _ _ w (op0 w ho))
  have x54 := ExV.two sLe g54 xa xb (fun w ho => rd g54 _ _ w (op0 w ho))
  have x57 := ExV.two sGe g57 xb xa (fun w ho => rd g57 _ _ w (op0 w ho))
  have x61 := ExV.two sEq g61 xa xb (fun w ho => rd g61 _ _ w (op0 w ho))
  have x62 := ExV.not g62 x61 (fun w ho => rd g62 _ _ w (op0 w ho))
  have x65 := ExV.two sNe g65 xb xa (fun w ho => rd g65 _ _ w (op0 w ho))
  have x69 := ExV.two sMinus g69 xa xb (fun w ho => rd g69 _ _ w (op0 w ho))
  have x73 := ExV.neg g72 xb (fun w ho => rd g72 _ _ w (op0 w ho))
  have x74 := ExV.two sPlus g74 xa x73 (fun w ho => rd g74 _ _ w (op0 w ho))
  have x78 := ExV.two sMul g78 xa xb (fun w ho => rd g78 _ _ w (op0 w ho))
  have x81 := ExV.two sMul g81 xb xa (fun w ho => rd g81 _ _ w (op0 w ho))
  refine ⟨rfl, fun i p q hp hq => ?_⟩
  match i with
  | 0 => simp [pairsE] at hp hq; subst hp; subst hq; exact ⟨x27, x32⟩
  | 1 => simp [pairsE] at hp hq; subst hp; subst hq; exact ⟨x37, x42⟩
  | 2 => simp [pairsE] at hp hq; subst hp; subst hq; exact ⟨x47, x50⟩
  | 3 => simp [pairsE] at hp hq; subst hp; subst hq; exact ⟨x54, x57⟩
  | 4 => simp [pairsE] at hp hq; subst hp; subst hq; exact ⟨x62, x65⟩
  | 5 => simp [pairsE] at hp hq; subst hp; subst hq; exact ⟨x69, x74⟩
  | 6 => simp [pairsE] at hp hq; subst hp; subst hq; exact ⟨x78, x81⟩
  | i + 7 => simp [pairsE] at hp
set_option maxHeartbeats 40000000 in
set_option maxRecDepth 100000 in
theorem Be.bindTurns (B : Base) (a b : Ex) (ca0 cb0 : C5) (hea : ExV B [] a ca0) (heb : ExV B [] b cb0)
  (ra : Option Addr) (m rc : Nat) (rs : List Va) (hr : FlV B [] vaC (.slice ra m rc) rs) (hm : rs.length = m) (hmn : m < 2 ^ 30) : Fn Try.prog B 4 #[eA ca0, eA cb0, .slice ra m rc] [] (fun u l => u = .bool true ∧ l = []) := by
 obtain ⟨opa, ena, ta, ofa, pa, la, ca, rfl⟩ := hea.form
 obtain ⟨opb, enb, tb, ofb, pb, lb, cb, rfl⟩ := heb.form
 have hnb : noBool tblSc := by intro c hc; simp [tblSc] at hc; rcases hc with rfl | rfl <;> decide
 have hrS : ∀ S, FlV B S vaC (.slice ra m rc) rs := fun S => hr.mono fun w ho => ho.map fun _ _ => trivial
 refine Fn.enter3 142 Try.func4 rfl rfl (Nat.le_of_ble_eq_true rfl) (fun F => ?_)
 try simp only [List.cons_append, List.nil_append]
 refine T.seq ?_
 refine T.region ?_
 refine LW.e rfl (Ef.box [_, _, _, _, _] rfl rfl ?_)
 intro g3
 refine LW.e rfl (Ef.box [_, _, _, _, _] rfl rfl ?_)
 intro g4
 refine LW.q rfl (Qt.assign rfl) ?_
 refine LW.done ?_
 refine T.seq ?_
 refine T.seq ?_
 refine T.region ?_
 refine LW.e rfl (Ef.call (Be.awake B) Try.func7 rfl rfl rfl ?_)
 rintro _ _ ⟨rfl, rfl⟩
 try simp only [List.cons_append, List.nil_append]
 first | refine LW.q rfl (Qt.notP rfl) ?_ | refine LW.q rfl (Qt.notB rfl) ?_
 refine LW.done ?_
 first | refine T.condF rfl ?_ | refine T.condPF rfl (rfl) ?_ | refine T.condBF rfl (rfl) ?_
 refine T.skip ?_
 refine T.seq ?_
 refine T.region ?_
 refine LW.e rfl (Ef.call (Be.table B) Try.func12 rfl rfl rfl ?_)
 rintro _ _ ⟨gc, rfl, rfl⟩
 try simp only [List.cons_append, List.nil_append]
 refine LW.e rfl (Ef.one [_, _, _, _, _] (e := 48) (sz := 5) (by kernel_rfl) ⟨.agg #[.int .i64 0, .string .empty, .slice none 0 0, .slice none 0 0, .bool false], by kernel_rfl, rfl⟩ rfl rfl rfl (by omega) (by omega) ?_)
 intro g22
 refine LW.e rfl (Ef.call (Bd.scope B [blk g22 (tblC gc) 48, blk gc colsC 29] _ [tblT] (Be.tbV B g22 gc []) (by decide) (by decide)) Try.func11 rfl rfl rfl ?_)
 rintro _ _ ⟨ps, ks, rfl, hps, rfl⟩
 try simp only [List.cons_append, List.nil_append]
 rw [show scopeP [tblT] = tblSc from rfl, show tblSc.length = 2 from rfl]
 obtain ⟨gs0, rfl⟩ := hps (by decide)
 have hs1 : FlV B [row (.slice (some ⟨gs0, 0, none⟩) 2 ks) 31 3 2 (tblSc.flatMap coC)] coC (.slice (some ⟨gs0, 0, none⟩) 2 ks) tblSc := FlV.row (sz := 3) coC_len (by omega) rfl (fun _ => ⟨gs0, rfl⟩)
 try simp only [List.cons_append, List.nil_append]
 refine LW.q rfl (Qt.assign rfl) ?_
 refine LW.done ?_
 refine T.cut (fun fz lz => ∃ (f0 : Fr) (A : Assn) (g83 : Nat) (cs : List (C5 × C5)) (C : List Value), (ExPs B A (pairsE a b) cs ∧ C = cs.flatMap c10) ∧ fz = (upd (upd (upd f0 2 (.slice ra m rc)) 7 (.slice (some ⟨gs0, 0, none⟩) 2 ks)) 8 (.slice (some ⟨g83, 0, none⟩) 7 7)) ∧ lz = blk g83 C 52 :: A :: row (.slice (some ⟨gs0, 0, none⟩) 2 ks) 31 3 2 (tblSc.flatMap coC) :: F) ?_ ?_
 ·
  refine T.conv (l' := row (.slice (some ⟨gs0, 0, none⟩) 2 ks) 31 3 2 (tblSc.flatMap coC) :: blk g4 [tV opb, iV enb, tV tb, tV ofb, .slice pb lb cb] 42 :: blk g3 [tV opa, iV ena, tV ta, tV ofa, .slice pa la ca] 42 :: F) (fun w ho => ho.map Sub.any) ?_
  refine T.draw 60 ([blk g3 [tV opa, iV ena, tV ta, tV ofa, .slice pa la ca] 42, blk g4 [tV opb, iV enb, tV tb, tV ofb, .slice pb lb cb] 42]) (by kernel_rfl) (Nat.le_of_ble_eq_true rfl) (by kernel_rfl) ?_
  refine RW.hide fun R up dn => ?_
  have H22 : ∀ (f0 : Fr) (g72 g81 g78 g74 g69 g65 g62 g61 g57 g54 g50 g47 g46 g42 g41 g39 g37 g36 g32 g31 g29 g27 g26 : Nat), R 1 #[true, true, true, true, true, true, true, true, true, true, true, true, true, true, true, true, true, true, true, true, true, true, true, true, true, true, true, true, true, true, true, true, true, true, true, true, true, true, true, true, true, true, true, true, true, true, true, true, true, true, true, true, true, true, true, true, true, true, true, false, false] (upd (upd (upd (upd (upd (upd (upd (upd (upd f0 2 (.slice ra m rc)) 7 (.slice (some ⟨gs0, 0, none⟩) 2 ks)) 33 (.agg #[tV sNot, iV 0, tV [], tV [], .slice (some ⟨g27, 0, none⟩) 1 1, tV sAnd, iV 0, tV [], tV [], .slice (some ⟨g32, 0, none⟩) 2 2])) 43 (.agg #[tV sNot, iV 0, tV [], tV [], .slice (some ⟨g37, 0, none⟩) 1 1, tV sOr, iV 0, tV [], tV [], .slice (some ⟨g42, 0, none⟩) 2 2])) 51 (.agg #[tV sNot, iV 0, tV [], tV [], .slice (some ⟨g47, 0, none⟩) 1 1, tV sGe, iV 0, tV [], tV [], .slice (some ⟨g50, 0, none⟩) 2 2])) 58 (.agg #[tV sLe, iV 0, tV [], tV [], .slice (some ⟨g54, 0, none⟩) 2 2, tV sGe, iV 0, tV [], tV [], .slice (some ⟨g57, 0, none⟩) 2 2])) 66 (.agg #[tV sNot, iV 0, tV [], tV [], .slice (some ⟨g62, 0, none⟩) 1 1, tV sNe, iV 0, tV [], tV [], .slice (some ⟨g65, 0, none⟩) 2 2])) 75 (.agg #[tV sMinus, iV 0, tV [], tV [], .slice (some ⟨g69, 0, none⟩) 2 2, tV sPlus, iV 0, tV [], tV [], .slice (some ⟨g74, 0, none⟩) 2 2])) 82 (.agg #[tV sMul, iV 0, tV [], tV [], .slice (some ⟨g78, 0, none⟩) 2 2, tV sMul, iV 0, tV [], tV [], .slice (some ⟨g81, 0, none⟩) 2 2])) (blk g72 [tV opb, iV enb, tV tb, tV ofb, .slice pb lb cb] 42 :: blk g81 [tV opb, iV enb, tV tb, tV ofb, .slice pb lb cb, tV opa, iV ena, tV ta, tV ofa, .slice pa la ca] 42 :: blk g78 [tV opa, iV ena, tV ta, tV ofa, .slice pa la ca, tV opb, iV enb, tV tb, tV ofb, .slice pb lb cb] 42 :: blk g74 [tV opa, iV ena, tV ta, tV ofa, .slice pa la ca, tV sMinus, iV 0, tV [], tV [], .slice (some ⟨g72, 0, none⟩) 1 1] 42 :: blk g69 [tV opa, iV ena, tV ta, tV ofa, .slice pa la ca, tV opb, iV enb, tV tb, tV ofb, .slice pb lb cb] 42 :: blk g65 [tV opb, iV enb, tV tb, tV ofb, .slice pb lb cb, tV opa, iV ena, tV ta, tV ofa, .slice pa la ca] 42 :: blk g62 [tV sEq, iV 0, tV [], tV [], .slice (some ⟨g61, 0, none⟩) 2 2] 42 :: blk g61 [tV opa, iV ena, tV ta, tV ofa, .slice pa la ca, tV opb, iV enb, tV tb, tV ofb, .slice pb lb cb] 42 :: blk g57 [tV opb, iV enb, tV tb, tV ofb, .slice pb lb cb, tV opa, iV ena, tV ta, tV ofa, .slice pa la ca] 42 :: blk g54 [tV opa, iV ena, tV ta, tV ofa, .slice pa la ca, tV opb, iV enb, tV tb, tV ofb, .slice pb lb cb] 42 :: blk g50 [tV opa, iV ena, tV ta, tV ofa, .slice pa la ca, tV opb, iV enb, tV tb, tV ofb, .slice pb lb cb] 42 :: blk g47 [tV sLt, iV 0, tV [], tV [], .slice (some ⟨g46, 0, none⟩) 2 2] 42 :: blk g46 [tV opa, iV ena, tV ta, tV ofa, .slice pa la ca, tV opb, iV enb, tV tb, tV ofb, .slice pb lb cb] 42 :: blk g42 [tV sNot, iV 0, tV [], tV [], .slice (some ⟨g39, 0, none⟩) 1 1, tV sNot, iV 0, tV [], tV [], .slice (some ⟨g41, 0, none⟩) 1 1] 42 :: blk g41 [tV opb, iV enb, tV tb, tV ofb, .slice pb lb cb] 42 :: blk g39 [tV opa, iV ena, tV ta, tV ofa, .slice pa la ca] 42 :: blk g37 [tV sAnd, iV 0, tV [], tV [], .slice (some ⟨g36, 0, none⟩) 2 2] 42 :: blk g36 [tV opa, iV ena, tV ta, tV ofa, .slice pa la ca, tV opb, iV enb, tV tb, tV ofb, .slice pb lb cb] 42 :: blk g32 [tV sNot, iV 0, tV [], tV [], .slice (some ⟨g29, 0, none⟩) 1 1, tV sNot, iV 0, tV [], tV [], .slice (some ⟨g31, 0, none⟩) 1 1] 42 :: blk g31 [tV opb, iV enb, tV tb, tV ofb, .slice pb lb cb] 42 :: blk g29 [tV opa, iV ena, tV ta, tV ofa, .slice pa la ca] 42 :: blk g27 [tV sOr, iV 0, tV [], tV [], .slice (some ⟨g26, 0, none⟩) 2 2] 42 :: blk g26 [tV opa, iV ena, tV ta, tV ofa, .slice pa la ca, tV opb, iV enb, tV tb, tV ofb, .slice pb lb cb] 42 :: row (.slice (some ⟨gs0, 0, none⟩) 2 ks) 31 3 2 (tblSc.flatMap coC) :: blk g4 [tV opb, iV enb, tV tb, tV ofb, .slice pb lb cb] 42 :: blk g3 [tV opa, iV ena, tV ta, tV ofa, .slice pa la ca] 42 :: F) := by
   intro f0 g72 g81 g78 g74 g69 g65 g62 g61 g57 g54 g50 g47 g46 g42 g41 g39 g37 g36 g32 g31 g29 g27 g26
   refine up _ _ _ _ ?_
   refine RW.one 59 (by kernel_rfl) ?_
   refine RO.eS rfl rfl (Ef.lits [_, _, _, _, _, _, _] [_, _, _, _, _, _, _, _, _, _, _, _, _, _, _, _, _, _, _, _, _, _, _, _, _, _, _, _, _, _, _, _, _, _, _, _, _, _, _, _, _, _, _, _, _, _, _, _, _, _, _, _, _, _, _, _, _, _, _, _, _, _, _, _, _, _, _, _, _, _] (e := 52) (sz := 10) (by kernel_rfl) (by kernel_rfl) rfl (by simp [Value.cells]) rfl rfl (by omega) (by omega) (by omega) ?_)
   intro g83
   refine ⟨Sub.any, ?_⟩
   refine RW.done (by rfl) ?_
   simp only [List.drop_succ_cons, List.drop_zero, List.drop_nil]
   refine LW.q rfl (Qt.assign rfl) ?_
   refine LW.done ?_
   refine ⟨_, ⟨_, sepL (turnB opa ena ta ofa pa la ca opb enb tb ofb pb lb cb g26 g27 g29 g31 g32 g36 g37 g39 g41 g42 g46 g47 g50 g54 g57 g61 g62 g65 g69 g72 g74 g78 g81), g83, turnC g27 g32 g37 g42 g47 g50 g54 g57 g62 g65 g69 g74 g78 g81, [tV sNot, iV 0, tV [], tV [], .slice (some ⟨g27, 0, none⟩) 1 1, tV sAnd, iV 0, tV [], tV [], .slice (some ⟨g32, 0, none⟩) 2 2, tV sNot, iV 0, tV [], tV [], .slice (some ⟨g37, 0, none⟩) 1 1, tV sOr, iV 0, tV [], tV [], .slice (some ⟨g42, 0, none⟩) 2 2, tV sNot, iV 0, tV [], tV [], .slice (some ⟨g47, 0, none⟩) 1 1, tV sGe, iV 0, tV [], tV [], .slice (some ⟨g50, 0, none⟩) 2 2, tV sLe, iV 0, tV [], tV [], .slice (some ⟨g54, 0, none⟩) 2 2, tV sGe, iV 0, tV [], tV [], .slice (some ⟨g57, 0, none⟩) 2 2, tV sNot, iV 0, tV [], tV [], .slice (some ⟨g62, 0, none⟩) 1 1, tV sNe, iV 0, tV [], tV [], .slice (some ⟨g65, 0, none⟩) 2 2, tV sMinus, iV 0, tV [], tV [], .slice (some ⟨g69, 0, none⟩) 2 2, tV sPlus, iV 0, tV [], tV [], .slice (some ⟨g74, 0, none⟩) 2 2, tV sMul, iV 0, tV [], tV [], .slice (some ⟨g78, 0, none⟩) 2 2, tV sMul, iV 0, tV [], tV [], .slice (some ⟨g81, 0, none⟩) 2 2], ⟨turn_exv opa ena ta ofa pa la ca opb enb tb ofb pb lb cb g26 g27 g29 g31 g32 g36 g37 g39 g41 g42 g46 g47 g50 g54 g57 g61 g62 g65 g69 g72 g74 g78 g81 hea heb, rfl⟩, (updS rfl (updS rfl (updS rfl rfl))), rfl⟩, ?_⟩
   refine Sub.grab (A := sepL [blk g72 [tV opb, iV enb, tV tb, tV ofb, .slice pb lb cb] 42, blk g81 [tV opb, iV enb, tV tb, tV ofb, .slice pb lb cb, tV opa, iV ena, tV ta, tV ofa, .slice pa la ca] 42, blk g78 [tV opa, iV ena, tV ta, tV ofa, .slice pa la ca, tV opb, iV enb, tV tb, tV ofb, .slice pb lb cb] 42, blk g74 [tV opa, iV ena, tV ta, tV ofa, .slice pa la ca, tV sMinus, iV 0, tV [], tV [], .slice (some ⟨g72, 0, none⟩) 1 1] 42, blk g69 [tV opa, iV ena, tV ta, tV ofa, .slice pa la ca, tV opb, iV enb, tV tb, tV ofb, .slice pb lb cb] 42, blk g65 [tV opb, iV enb, tV tb, tV ofb, .slice pb lb cb, tV opa, iV ena, tV ta, tV ofa, .slice pa la ca] 42]) ?_
   refine Sub.grab (A := sepL [blk g62 [tV sEq, iV 0, tV [], tV [], .slice (some ⟨g61, 0, none⟩) 2 2] 42, blk g61 [tV opa, iV ena, tV ta, tV ofa, .slice pa la ca, tV opb, iV enb, tV tb, tV ofb, .slice pb lb cb] 42, blk g57 [tV opb, iV enb, tV tb, tV ofb, .slice pb lb cb, tV opa, iV ena, tV ta, tV ofa, .slice pa la ca] 42, blk g54 [tV opa, iV ena, tV ta, tV ofa, .slice pa la ca, tV opb, iV enb, tV tb, tV ofb, .slice pb lb cb] 42, blk g50 [tV opa, iV ena, tV ta, tV ofa, .slice pa la ca, tV opb, iV enb, tV tb, tV ofb, .slice pb lb cb] 42, blk g47 [tV sLt, iV 0, tV [], tV [], .slice (some ⟨g46, 0, none⟩) 2 2] 42]) ?_
   refine Sub.grab (A := sepL [blk g46 [tV opa, iV ena, tV ta, tV ofa, .slice pa la ca, tV opb, iV enb, tV tb, tV ofb, .slice pb lb cb] 42, blk g42 [tV sNot, iV 0, tV [], tV [], .slice (some ⟨g39, 0, none⟩) 1 1, tV sNot, iV 0, tV [], tV [], .slice (some ⟨g41, 0, none⟩) 1 1] 42, blk g41 [tV opb, iV enb, tV tb, tV ofb, .slice pb lb cb] 42, blk g39 [tV opa, iV ena, tV ta, tV ofa, .slice pa la ca] 42, blk g37 [tV sAnd, iV 0, tV [], tV [], .slice (some ⟨g36, 0, none⟩) 2 2] 42, blk g36 [tV opa, iV ena, tV ta, tV ofa, .slice pa la ca, tV opb, iV enb, tV tb, tV ofb, .slice pb lb cb] 42]) ?_
   refine Sub.grab (A := sepL [blk g32 [tV sNot, iV 0, tV [], tV [], .slice (some ⟨g29, 0, none⟩) 1 1, tV sNot, iV 0, tV [], tV [], .slice (some ⟨g31, 0, none⟩) 1 1] 42, blk g31 [tV opb, iV enb, tV tb, tV ofb, .slice pb lb cb] 42, blk g29 [tV opa, iV ena, tV ta, tV ofa, .slice pa la ca] 42, blk g27 [tV sOr, iV 0, tV [], tV [], .slice (some ⟨g26, 0, none⟩) 2 2] 42, blk g26 [tV opa, iV ena, tV ta, tV ofa, .slice pa la ca, tV opb, iV enb, tV tb, tV ofb, .slice pb lb cb] 42]) ?_
   exact Sub.any
  have H21 : ∀ (f0 : Fr) (g72 g78 g74 g69 g65 g62 g61 g57 g54 g50 g47 g46 g42 g41 g39 g37 g36 g32 g31 g29 g27 g26 : Nat), R 3 #[true, true, true, true, true, true, true, true, true, true, true, true, true, true, true, true, true, true, true, true, true, true, true, true, true, true, true, true, true, true, true, true, true, true, true, true, true, true, true, true, true, true, true, true, true, true, true, true, true, true, true, true, true, true, true, true, true, false, false, false, false] (upd (upd (upd (upd (upd (upd (upd (upd (upd (upd (upd f0 2 (.slice ra m rc)) 7 (.slice (some ⟨gs0, 0, none⟩) 2 ks)) 33 (.agg #[tV sNot, iV 0, tV [], tV [], .slice (some ⟨g27, 0, none⟩) 1 1, tV sAnd, iV 0, tV [], tV [], .slice (some ⟨g32, 0, none⟩) 2 2])) 43 (.agg #[tV sNot, iV 0, tV [], tV [], .slice (some ⟨g37, 0, none⟩) 1 1, tV sOr, iV 0, tV [], tV [], .slice (some ⟨g42, 0, none⟩) 2 2])) 51 (.agg #[tV sNot, iV 0, tV [], tV [], .slice (some ⟨g47, 0, none⟩) 1 1, tV sGe, iV 0, tV [], tV [], .slice (some ⟨g50, 0, none⟩) 2 2])) 58 (.agg #[tV sLe, iV 0, tV [], tV [], .slice (some ⟨g54, 0, none⟩) 2 2, tV sGe, iV 0, tV [], tV [], .slice (some ⟨g57, 0, none⟩) 2 2])) 66 (.agg #[tV sNot, iV 0, tV [], tV [], .slice (some ⟨g62, 0, none⟩) 1 1, tV sNe, iV 0, tV [], tV [], .slice (some ⟨g65, 0, none⟩) 2 2])) 75 (.agg #[tV sMinus, iV 0, tV [], tV [], .slice (some ⟨g69, 0, none⟩) 2 2, tV sPlus, iV 0, tV [], tV [], .slice (some ⟨g74, 0, none⟩) 2 2])) 78 (.agg #[tV sMul, iV 0, tV [], tV [], .slice (some ⟨g78, 0, none⟩) 2 2])) 79 (.agg #[tV opb, iV enb, tV tb, tV ofb, .slice pb lb cb])) 80 (.agg #[tV opa, iV ena, tV ta, tV ofa, .slice pa la ca])) (blk g72 [tV opb, iV enb, tV tb, tV ofb, .slice pb lb cb] 42 :: blk g78 [tV opa, iV ena, tV ta, tV ofa, .slice pa la ca, tV opb, iV enb, tV tb, tV ofb, .slice pb lb cb] 42 :: blk g74 [tV opa, iV ena, tV ta, tV ofa, .slice pa la ca, tV sMinus, iV 0, tV [], tV [], .slice (some ⟨g72, 0, none⟩) 1 1] 42 :: blk g69 [tV opa, iV ena, tV ta, tV ofa, .slice pa la ca, tV opb, iV enb, tV tb, tV ofb, .slice pb lb cb] 42 :: blk g65 [tV opb, iV enb, tV tb, tV ofb, .slice pb lb cb, tV opa, iV ena, tV ta, tV ofa, .slice pa la ca] 42 :: blk g62 [tV sEq, iV 0, tV [], tV [], .slice (some ⟨g61, 0, none⟩) 2 2] 42 :: blk g61 [tV opa, iV ena, tV ta, tV ofa, .slice pa la ca, tV opb, iV enb, tV tb, tV ofb, .slice pb lb cb] 42 :: blk g57 [tV opb, iV enb, tV tb, tV ofb, .slice pb lb cb, tV opa, iV ena, tV ta, tV ofa, .slice pa la ca] 42 :: blk g54 [tV opa, iV ena, tV ta, tV ofa, .slice pa la ca, tV opb, iV enb, tV tb, tV ofb, .slice pb lb cb] 42 :: blk g50 [tV opa, iV ena, tV ta, tV ofa, .slice pa la ca, tV opb, iV enb, tV tb, tV ofb, .slice pb lb cb] 42 :: blk g47 [tV sLt, iV 0, tV [], tV [], .slice (some ⟨g46, 0, none⟩) 2 2] 42 :: blk g46 [tV opa, iV ena, tV ta, tV ofa, .slice pa la ca, tV opb, iV enb, tV tb, tV ofb, .slice pb lb cb] 42 :: blk g42 [tV sNot, iV 0, tV [], tV [], .slice (some ⟨g39, 0, none⟩) 1 1, tV sNot, iV 0, tV [], tV [], .slice (some ⟨g41, 0, none⟩) 1 1] 42 :: blk g41 [tV opb, iV enb, tV tb, tV ofb, .slice pb lb cb] 42 :: blk g39 [tV opa, iV ena, tV ta, tV ofa, .slice pa la ca] 42 :: blk g37 [tV sAnd, iV 0, tV [], tV [], .slice (some ⟨g36, 0, none⟩) 2 2] 42 :: blk g36 [tV opa, iV ena, tV ta, tV ofa, .slice pa la ca, tV opb, iV enb, tV tb, tV ofb, .slice pb lb cb] 42 :: blk g32 [tV sNot, iV 0, tV [], tV [], .slice (some ⟨g29, 0, none⟩) 1 1, tV sNot, iV 0, tV [], tV [], .slice (some ⟨g31, 0, none⟩) 1 1] 42 :: blk g31 [tV opb, iV enb, tV tb, tV ofb, .slice pb lb cb] 42 :: blk g29 [tV opa, iV ena, tV ta, tV ofa, .slice pa la ca] 42 :: blk g27 [tV sOr, iV 0, tV [], tV [], .slice (some ⟨g26, 0, none⟩) 2 2] 42 :: blk g26 [tV opa, iV ena, tV ta, tV ofa, .slice pa la ca, tV opb, iV enb, tV tb, tV ofb, .slice pb lb cb] 42 :: row (.slice (some ⟨gs0, 0, none⟩) 2 ks) 31 3 2 (tblSc.flatMap coC) :: blk g4 [tV opb, iV enb, tV tb, tV ofb, .slice pb lb cb] 42 :: blk g3 [tV opa, iV ena, tV ta, tV ofa, .slice pa la ca] 42 :: F) := by
   intro f0 g72 g78 g74 g69 g65 g62 g61 g57 g54 g50 g47 g46 g42 g41 g39 g37 g36 g32 g31 g29 g27 g26
   refine up _ _ _ _ ?_
   refine RW.one 57 (by kernel_rfl) ?_
   refine RO.eS rfl rfl (Ef.call (Be.two B sMul _ _ _ _ _ _ _ _ _ _ _ _ _ _) Try.func14 rfl rfl rfl ?_)
   rintro _ _ ⟨g81, rfl, rfl⟩
   try simp only [List.cons_append, List.nil_append]
   refine ⟨Sub.any, ?_⟩
   refine RW.q 58 rfl rfl (by kernel_rfl) Sub.any (Qt.buildAs [_, _] [_, _, _, _, _, _, _, _, _, _] (len := 2) (e := 42) (sz := 5) (by kernel_rfl) (by kernel_rfl) rfl (by simp [Value.cells]) rfl rfl (by omega)) ?_
   exact RW.use (dn _ _ _ _ (H22 _ g72 g81 g78 g74 g69 g65 g62 g61 g57 g54 g50 g47 g46 g42 g41 g39 g37 g36 g32 g31 g29 g27 g26)) (by kernel_rfl) (updS rfl (updS rfl (updS rfl (updS rfl (updS rfl (updS rfl (updS rfl (updS rfl (updS rfl rfl))))))))) Sub.any
  have H20 : ∀ (f0 : Fr) (g72 g74 g69 g65 g62 g61 g57 g54 g50 g47 g46 g42 g41 g39 g37 g36 g32 g31 g29 g27 g26 : Nat), R 4 #[true, true, true, true, true, true, true, true, true, true, true, true, true, true, true, true, true, true, true, true, true, true, true, true, true, true, true, true, true, true, true, true, true, true, true, true, true, true, true, true, true, true, true, true, true, true, true, true, true, true, true, true, true, true, false, true, true, false, false, false, false] (upd (upd (upd (upd (upd (upd (upd (upd (upd (upd (upd (upd f0 2 (.slice ra m rc)) 7 (.slice (some ⟨gs0, 0, none⟩) 2 ks)) 33 (.agg #[tV sNot, iV 0, tV [], tV [], .slice (some ⟨g27, 0, none⟩) 1 1, tV sAnd, iV 0, tV [], tV [], .slice (some ⟨g32, 0, none⟩) 2 2])) 43 (.agg #[tV sNot, iV 0, tV [], tV [], .slice (some ⟨g37, 0, none⟩) 1 1, tV sOr, iV 0, tV [], tV [], .slice (some ⟨g42, 0, none⟩) 2 2])) 51 (.agg #[tV sNot, iV 0, tV [], tV [], .slice (some ⟨g47, 0, none⟩) 1 1, tV sGe, iV 0, tV [], tV [], .slice (some ⟨g50, 0, none⟩) 2 2])) 58 (.agg #[tV sLe, iV 0, tV [], tV [], .slice (some ⟨g54, 0, none⟩) 2 2, tV sGe, iV 0, tV [], tV [], .slice (some ⟨g57, 0, none⟩) 2 2])) 66 (.agg #[tV sNot, iV 0, tV [], tV [], .slice (some ⟨g62, 0, none⟩) 1 1, tV sNe, iV 0, tV [], tV [], .slice (some ⟨g65, 0, none⟩) 2 2])) 75 (.agg #[tV sMinus, iV 0, tV [], tV [], .slice (some ⟨g69, 0, none⟩) 2 2, tV sPlus, iV 0, tV [], tV [], .slice (some ⟨g74, 0, none⟩) 2 2])) 76 (.agg #[tV opa, iV ena, tV ta, tV ofa, .slice pa la ca])) 77 (.agg #[tV opb, iV enb, tV tb, tV ofb, .slice pb lb cb])) 79 (.agg #[tV opb, iV enb, tV tb, tV ofb, .slice pb lb cb])) 80 (.agg #[tV opa, iV ena, tV ta, tV ofa, .slice pa la ca])) (blk g72 [tV opb, iV enb, tV tb, tV ofb, .slice pb lb cb] 42 :: blk g74 [tV opa, iV ena, tV ta, tV ofa, .slice pa la ca, tV sMinus, iV 0, tV [], tV [], .slice (some ⟨g72, 0, none⟩) 1 1] 42 :: blk g69 [tV opa, iV ena, tV ta, tV ofa, .slice pa la ca, tV opb, iV enb, tV tb, tV ofb, .slice pb lb cb] 42 :: blk g65 [tV opb, iV enb, tV tb, tV ofb, .slice pb lb cb, tV opa, iV ena, tV ta, tV ofa, .slice pa la ca] 42 :: blk g62 [tV sEq, iV 0, tV [], tV [], .slice (some ⟨g61, 0, none⟩) 2 2] 42 :: blk g61 [tV opa, iV ena, tV ta, tV ofa, .slice pa la ca, tV opb, iV enb, tV tb, tV ofb, .slice pb lb cb] 42 :: blk g57 [tV opb, iV enb, tV tb, tV ofb, .slice pb lb cb, tV opa, iV ena, tV ta, tV ofa, .slice pa la ca] 42 :: blk g54 [tV opa, iV ena, tV ta, tV ofa, .slice pa la ca, tV opb, iV enb, tV tb, tV ofb, .slice pb lb cb] 42 :: blk g50 [tV opa, iV ena, tV ta, tV ofa, .slice pa la ca, tV opb, iV enb, tV tb, tV ofb, .slice pb lb cb] 42 :: blk g47 [tV sLt, iV 0, tV [], tV [], .slice (some ⟨g46, 0, none⟩) 2 2] 42 :: blk g46 [tV opa, iV ena, tV ta, tV ofa, .slice pa la ca, tV opb, iV enb, tV tb, tV ofb, .slice pb lb cb] 42 :: blk g42 [tV sNot, iV 0, tV [], tV [], .slice (some ⟨g39, 0, none⟩) 1 1, tV sNot, iV 0, tV [], tV [], .slice (some ⟨g41, 0, none⟩) 1 1] 42 :: blk g41 [tV opb, iV enb, tV tb, tV ofb, .slice pb lb cb] 42 :: blk g39 [tV opa, iV ena, tV ta, tV ofa, .slice pa la ca] 42 :: blk g37 [tV sAnd, iV 0, tV [], tV [], .slice (some ⟨g36, 0, none⟩) 2 2] 42 :: blk g36 [tV opa, iV ena, tV ta, tV ofa, .slice pa la ca, tV opb, iV enb, tV tb, tV ofb, .slice pb lb cb] 42 :: blk g32 [tV sNot, iV 0, tV [], tV [], .slice (some ⟨g29, 0, none⟩) 1 1, tV sNot, iV 0, tV [], tV [], .slice (some ⟨g31, 0, none⟩) 1 1] 42 :: blk g31 [tV opb, iV enb, tV tb, tV ofb, .slice pb lb cb] 42 :: blk g29 [tV opa, iV ena, tV ta, tV ofa, .slice pa la ca] 42 :: blk g27 [tV sOr, iV 0, tV [], tV [], .slice (some ⟨g26, 0, none⟩) 2 2] 42 :: blk g26 [tV opa, iV ena, tV ta, tV ofa, .slice pa la ca, tV opb, iV enb, tV tb, tV ofb, .slice pb lb cb] 42 :: row (.slice (some ⟨gs0, 0, none⟩) 2 ks) 31 3 2 (tblSc.flatMap coC) :: blk g4 [tV opb, iV enb, tV tb, tV ofb, .slice pb lb cb] 42 :: blk g3 [tV opa, iV ena, tV ta, tV ofa, .slice pa la ca] 42 :: F) := by
   intro f0 g72 g74 g69 g65 g62 g61 g57 g54 g50 g47 g46 g42 g41 g39 g37 g36 g32 g31 g29 g27 g26
   refine up _ _ _ _ ?_
   refine RW.one 54 (by kernel_rfl) ?_
   refine RO.eS rfl rfl (Ef.call (Be.two B sMul _ _ _ _ _ _ _ _ _ _ _ _ _ _) Try.func14 rfl rfl rfl ?_)
   rintro _ _ ⟨g78, rfl, rfl⟩
   try simp only [List.cons_append, List.nil_append]
   refine ⟨Sub.any, ?_⟩
   exact RW.use (dn _ _ _ _ (H21 _ g72 g78 g74 g69 g65 g62 g61 g57 g54 g50 g47 g46 g42 g41 g39 g37 g36 g32 g31 g29 g27 g26)) (by kernel_rfl) (updS rfl (updS rfl (updS rfl (updS rfl (updS rfl (updS rfl (updS rfl (updS rfl (updS rfl (updS rfl (updS rfl rfl))))))))))) Sub.any
  have H19 : ∀ (f0 : Fr) (g72 g69 g65 g62 g61 g57 g54 g50 g47 g46 g42 g41 g39 g37 g36 g32 g31 g29 g27 g26 : Nat), R 6 #[true, true, true, true, true, true, true, true, true, true, true, true, true, true, true, true, true, true, true, true, true, true, true, true, true, true, true, true, true, true, true, true, true, true, true, true, true, true, true, true, true, true, true, true, true, true, true, true, true, true, false, false, true, true, false, true, true, false, false, false, false] (upd (upd (upd (upd (upd (upd (upd (upd (upd (upd (upd (upd (upd (upd f0 2 (.slice ra m rc)) 7 (.slice (some ⟨gs0, 0, none⟩) 2 ks)) 33 (.agg #[tV sNot, iV 0, tV [], tV [], .slice (some ⟨g27, 0, none⟩) 1 1, tV sAnd, iV 0, tV [], tV [], .slice (some ⟨g32, 0, none⟩) 2 2])) 43 (.agg #[tV sNot, iV 0, tV [], tV [], .slice (some ⟨g37, 0, none⟩) 1 1, tV sOr, iV 0, tV [], tV [], .slice (some ⟨g42, 0, none⟩) 2 2])) 51 (.agg #[tV sNot, iV 0, tV [], tV [], .slice (some ⟨g47, 0, none⟩) 1 1, tV sGe, iV 0, tV [], tV [], .slice (some ⟨g50, 0, none⟩) 2 2])) 58 (.agg #[tV sLe, iV 0, tV [], tV [], .slice (some ⟨g54, 0, none⟩) 2 2, tV sGe, iV 0, tV [], tV [], .slice (some ⟨g57, 0, none⟩) 2 2])) 66 (.agg #[tV sNot, iV 0, tV [], tV [], .slice (some ⟨g62, 0, none⟩) 1 1, tV sNe, iV 0, tV [], tV [], .slice (some ⟨g65, 0, none⟩) 2 2])) 69 (.agg #[tV sMinus, iV 0, tV [], tV [], .slice (some ⟨g69, 0, none⟩) 2 2])) 70 (.agg #[tV opa, iV ena, tV ta, tV ofa, .slice pa la ca])) 73 (.agg #[tV sMinus, iV 0, tV [], tV [], .slice (some ⟨g72, 0, none⟩) 1 1])) 76 (.agg #[tV opa, iV ena, tV ta, tV ofa, .slice pa la ca])) 77 (.agg #[tV opb, iV enb, tV tb, tV ofb, .slice pb lb cb])) 79 (.agg #[tV opb, iV enb, tV tb, tV ofb, .slice pb lb cb])) 80 (.agg #[tV opa, iV ena, tV ta, tV ofa, .slice pa la ca])) (blk g72 [tV opb, iV enb, tV tb, tV ofb, .slice pb lb cb] 42 :: blk g69 [tV opa, iV ena, tV ta, tV ofa, .slice pa la ca, tV opb, iV enb, tV tb, tV ofb, .slice pb lb cb] 42 :: blk g65 [tV opb, iV enb, tV tb, tV ofb, .slice pb lb cb, tV opa, iV ena, tV ta, tV ofa, .slice pa la ca] 42 :: blk g62 [tV sEq, iV 0, tV [], tV [], .slice (some ⟨g61, 0, none⟩) 2 2] 42 :: blk g61 [tV opa, iV ena, tV ta, tV ofa, .slice pa la ca, tV opb, iV enb, tV tb, tV ofb, .slice pb lb cb] 42 :: blk g57 [tV opb, iV enb, tV tb, tV ofb, .slice pb lb cb, tV opa, iV ena, tV ta, tV ofa, .slice pa la ca] 42 :: blk g54 [tV opa, iV ena, tV ta, tV ofa, .slice pa la ca, tV opb, iV enb, tV tb, tV ofb, .slice pb lb cb] 42 :: blk g50 [tV opa, iV ena, tV ta, tV ofa, .slice pa la ca, tV opb, iV enb, tV tb, tV ofb, .slice pb lb cb] 42 :: blk g47 [tV sLt, iV 0, tV [], tV [], .slice (some ⟨g46, 0, none⟩) 2 2] 42 :: blk g46 [tV opa, iV ena, tV ta, tV ofa, .slice pa la ca, tV opb, iV enb, tV tb, tV ofb, .slice pb lb cb] 42 :: blk g42 [tV sNot, iV 0, tV [], tV [], .slice (some ⟨g39, 0, none⟩) 1 1, tV sNot, iV 0, tV [], tV [], .slice (some ⟨g41, 0, none⟩) 1 1] 42 :: blk g41 [tV opb, iV enb, tV tb, tV ofb, .slice pb lb cb] 42 :: blk g39 [tV opa, iV ena, tV ta, tV ofa, .slice pa la ca] 42 :: blk g37 [tV sAnd, iV 0, tV [], tV [], .slice (some ⟨g36, 0, none⟩) 2 2] 42 :: blk g36 [tV opa, iV ena, tV ta, tV ofa, .slice pa la ca, tV opb, iV enb, tV tb, tV ofb, .slice pb lb cb] 42 :: blk g32 [tV sNot, iV 0, tV [], tV [], .slice (some ⟨g29, 0, none⟩) 1 1, tV sNot, iV 0, tV [], tV [], .slice (some ⟨g31, 0, none⟩) 1 1] 42 :: blk g31 [tV opb, iV enb, tV tb, tV ofb, .slice pb lb cb] 42 :: blk g29 [tV opa, iV ena, tV ta, tV ofa, .slice pa la ca] 42 :: blk g27 [tV sOr, iV 0, tV [], tV [], .slice (some ⟨g26, 0, none⟩) 2 2] 42 :: blk g26 [tV opa, iV ena, tV ta, tV ofa, .slice pa la ca, tV opb, iV enb, tV tb, tV ofb, .slice pb lb cb] 42 :: row (.slice (some ⟨gs0, 0, none⟩) 2 ks) 31 3 2 (tblSc.flatMap coC) :: blk g4 [tV opb, iV enb, tV tb, tV ofb, .slice pb lb cb] 42 :: blk g3 [tV opa, iV ena, tV ta, tV ofa, .slice pa la ca] 42 :: F) := by
   intro f0 g72 g69 g65 g62 g61 g57 g54 g50 g47 g46 g42 g41 g39 g37 g36 g32 g31 g29 g27 g26
   refine up _ _ _ _ ?_
   refine RW.one 50 (by kernel_rfl) ?_
   refine RO.eS rfl rfl (Ef.call (Be.two B sPlus _ _ _ _ _ _ _ _ _ _ _ _ _ _) Try.func14 rfl rfl rfl ?_)
   rintro _ _ ⟨g74, rfl, rfl⟩
   try simp only [List.cons_append, List.nil_append]
   refine ⟨Sub.any, ?_⟩
   refine RW.q 51 rfl rfl (by kernel_rfl) Sub.any (Qt.buildAs [_, _] [_, _, _, _, _, _, _, _, _, _] (len := 2) (e := 42) (sz := 5) (by kernel_rfl) (by kernel_rfl) rfl (by simp [Value.cells]) rfl rfl (by omega)) ?_
   exact RW.use (dn _ _ _ _ (H20 _ g72 g74 g69 g65 g62 g61 g57 g54 g50 g47 g46 g42 g41 g39 g37 g36 g32 g31 g29 g27 g26)) (by kernel_rfl) (updS rfl (updS rfl (updS rfl (updS rfl (updS rfl (updS rfl (updS rfl (updS rfl (updS rfl (updS rfl (updS rfl (updS rfl rfl)))))))))))) Sub.any
  have H18 : ∀ (f0 : Fr) (g72 g65 g62 g61 g57 g54 g50 g47 g46 g42 g41 g39 g37 g36 g32 g31 g29 g27 g26 : Nat), R 7 #[true, true, true, true, true, true, true, true, true, true, true, true, true, true, true, true, true, true, true, true, true, true, true, true, true, true, true, true, true, true, true, true, true, true, true, true, true, true, true, true, true, true, true, true, true, false, true, true, true, true, false, false, true, true, false, true, true, false, false, false, false] (upd (upd (upd (upd (upd (upd (upd (upd (upd (upd (upd (upd (upd (upd (upd f0 2 (.slice ra m rc)) 7 (.slice (some ⟨gs0, 0, none⟩) 2 ks)) 33 (.agg #[tV sNot, iV 0, tV [], tV [], .slice (some ⟨g27, 0, none⟩) 1 1, tV sAnd, iV 0, tV [], tV [], .slice (some ⟨g32, 0, none⟩) 2 2])) 43 (.agg #[tV sNot, iV 0, tV [], tV [], .slice (some ⟨g37, 0, none⟩) 1 1, tV sOr, iV 0, tV [], tV [], .slice (some ⟨g42, 0, none⟩) 2 2])) 51 (.agg #[tV sNot, iV 0, tV [], tV [], .slice (some ⟨g47, 0, none⟩) 1 1, tV sGe, iV 0, tV [], tV [], .slice (some ⟨g50, 0, none⟩) 2 2])) 58 (.agg #[tV sLe, iV 0, tV [], tV [], .slice (some ⟨g54, 0, none⟩) 2 2, tV sGe, iV 0, tV [], tV [], .slice (some ⟨g57, 0, none⟩) 2 2])) 66 (.agg #[tV sNot, iV 0, tV [], tV [], .slice (some ⟨g62, 0, none⟩) 1 1, tV sNe, iV 0, tV [], tV [], .slice (some ⟨g65, 0, none⟩) 2 2])) 67 (.agg #[tV opa, iV ena, tV ta, tV ofa, .slice pa la ca])) 68 (.agg #[tV opb, iV enb, tV tb, tV ofb, .slice pb lb cb])) 70 (.agg #[tV opa, iV ena, tV ta, tV ofa, .slice pa la ca])) 73 (.agg #[tV sMinus, iV 0, tV [], tV [], .slice (some ⟨g72, 0, none⟩) 1 1])) 76 (.agg #[tV opa, iV ena, tV ta, tV ofa, .slice pa la ca])) 77 (.agg #[tV opb, iV enb, tV tb, tV ofb, .slice pb lb cb])) 79 (.agg #[tV opb, iV enb, tV tb, tV ofb, .slice pb lb cb])) 80 (.agg #[tV opa, iV ena, tV ta, tV ofa, .slice pa la ca])) (blk g72 [tV opb, iV enb, tV tb, tV ofb, .slice pb lb cb] 42 :: blk g65 [tV opb, iV enb, tV tb, tV ofb, .slice pb lb cb, tV opa, iV ena, tV ta, tV ofa, .slice pa la ca] 42 :: blk g62 [tV sEq, iV 0, tV [], tV [], .slice (some ⟨g61, 0, none⟩) 2 2] 42 :: blk g61 [tV opa, iV ena, tV ta, tV ofa, .slice pa la ca, tV opb, iV enb, tV tb, tV ofb, .slice pb lb cb] 42 :: blk g57 [tV opb, iV enb, tV tb, tV ofb, .slice pb lb cb, tV opa, iV ena, tV ta, tV ofa, .slice pa la ca] 42 :: blk g54 [tV opa, iV ena, tV ta, tV ofa, .slice pa la ca, tV opb, iV enb, tV tb, tV ofb, .slice pb lb cb] 42 :: blk g50 [tV opa, iV ena, tV ta, tV ofa, .slice pa la ca, tV opb, iV enb, tV tb, tV ofb, .slice pb lb cb] 42 :: blk g47 [tV sLt, iV 0, tV [], tV [], .slice (some ⟨g46, 0, none⟩) 2 2] 42 :: blk g46 [tV opa, iV ena, tV ta, tV ofa, .slice pa la ca, tV opb, iV enb, tV tb, tV ofb, .slice pb lb cb] 42 :: blk g42 [tV sNot, iV 0, tV [], tV [], .slice (some ⟨g39, 0, none⟩) 1 1, tV sNot, iV 0, tV [], tV [], .slice (some ⟨g41, 0, none⟩) 1 1] 42 :: blk g41 [tV opb, iV enb, tV tb, tV ofb, .slice pb lb cb] 42 :: blk g39 [tV opa, iV ena, tV ta, tV ofa, .slice pa la ca] 42 :: blk g37 [tV sAnd, iV 0, tV [], tV [], .slice (some ⟨g36, 0, none⟩) 2 2] 42 :: blk g36 [tV opa, iV ena, tV ta, tV ofa, .slice pa la ca, tV opb, iV enb, tV tb, tV ofb, .slice pb lb cb] 42 :: blk g32 [tV sNot, iV 0, tV [], tV [], .slice (some ⟨g29, 0, none⟩) 1 1, tV sNot, iV 0, tV [], tV [], .slice (some ⟨g31, 0, none⟩) 1 1] 42 :: blk g31 [tV opb, iV enb, tV tb, tV ofb, .slice pb lb cb] 42 :: blk g29 [tV opa, iV ena, tV ta, tV ofa, .slice pa la ca] 42 :: blk g27 [tV sOr, iV 0, tV [], tV [], .slice (some ⟨g26, 0, none⟩) 2 2] 42 :: blk g26 [tV opa, iV ena, tV ta, tV ofa, .slice pa la ca, tV opb, iV enb, tV tb, tV ofb, .slice pb lb cb] 42 :: row (.slice (some ⟨gs0, 0, none⟩) 2 ks) 31 3 2 (tblSc.flatMap coC) :: blk g4 [tV opb, iV enb, tV tb, tV ofb, .slice pb lb cb] 42 :: blk g3 [tV opa, iV ena, tV ta, tV ofa, .slice pa la ca] 42 :: F) := by
   intro f0 g72 g65 g62 g61 g57 g54 g50 g47 g46 g42 g41 g39 g37 g36 g32 g31 g29 g27 g26
   refine up _ _ _ _ ?_
   refine RW.one 45 (by kernel_rfl) ?_
   refine RO.eS rfl rfl (Ef.call (Be.two B sMinus _ _ _ _ _ _ _ _ _ _ _ _ _ _) Try.func14 rfl rfl rfl ?_)
   rintro _ _ ⟨g69, rfl, rfl⟩
   try simp only [List.cons_append, List.nil_append]
   refine ⟨Sub.any, ?_⟩
   exact RW.use (dn _ _ _ _ (H19 _ g72 g69 g65 g62 g61 g57 g54 g50 g47 g46 g42 g41 g39 g37 g36 g32 g31 g29 g27 g26)) (by kernel_rfl) (updS rfl (updS rfl (updS rfl (updS rfl (updS rfl (updS rfl (updS rfl (updS rfl (updS rfl (updS rfl (updS rfl (updS rfl (updS rfl (updS rfl rfl)))))))))))))) Sub.any
  have H17 : ∀ (f0 : Fr) (g72 g62 g61 g57 g54 g50 g47 g46 g42 g41 g39 g37 g36 g32 g31 g29 g27 g26 : Nat), R 9 #[true, true, true, true, true, true, true, true, true, true, true, true, true, true, true, true, true, true, true, true, true, true, true, true, true, true, true, true, true, true, true, true, true, true, true, true, true, true, true, true, true, false, false, true, true, false, true, true, true, true, false, false, true, true, false, true, true, false, false, false, false] (upd (upd (upd (upd (upd (upd (upd (upd (upd (upd (upd (upd (upd (upd (upd (upd (upd f0 2 (.slice ra m rc)) 7 (.slice (some ⟨gs0, 0, none⟩) 2 ks)) 33 (.agg #[tV sNot, iV 0, tV [], tV [], .slice (some ⟨g27, 0, none⟩) 1 1, tV sAnd, iV 0, tV [], tV [], .slice (some ⟨g32, 0, none⟩) 2 2])) 43 (.agg #[tV sNot, iV 0, tV [], tV [], .slice (some ⟨g37, 0, none⟩) 1 1, tV sOr, iV 0, tV [], tV [], .slice (some ⟨g42, 0, none⟩) 2 2])) 51 (.agg #[tV sNot, iV 0, tV [], tV [], .slice (some ⟨g47, 0, none⟩) 1 1, tV sGe, iV 0, tV [], tV [], .slice (some ⟨g50, 0, none⟩) 2 2])) 58 (.agg #[tV sLe, iV 0, tV [], tV [], .slice (some ⟨g54, 0, none⟩) 2 2, tV sGe, iV 0, tV [], tV [], .slice (some ⟨g57, 0, none⟩) 2 2])) 62 (.agg #[tV sNot, iV 0, tV [], tV [], .slice (some ⟨g62, 0, none⟩) 1 1])) 63 (.agg #[tV opb, iV enb, tV tb, tV ofb, .slice pb lb cb])) 64 (.agg #[tV opa, iV ena, tV ta, tV ofa, .slice pa la ca])) 67 (.agg #[tV opa, iV ena, tV ta, tV ofa, .slice pa la ca])) 68 (.agg #[tV opb, iV enb, tV tb, tV ofb, .slice pb lb cb])) 70 (.agg #[tV opa, iV ena, tV ta, tV ofa, .slice pa la ca])) 73 (.agg #[tV sMinus, iV 0, tV [], tV [], .slice (some ⟨g72, 0, none⟩) 1 1])) 76 (.agg #[tV opa, iV ena, tV ta, tV ofa, .slice pa la ca])) 77 (.agg #[tV opb, iV enb, tV tb, tV ofb, .slice pb lb cb])) 79 (.agg #[tV opb, iV enb, tV tb, tV ofb, .slice pb lb cb])) 80 (.agg #[tV opa, iV ena, tV ta, tV ofa, .slice pa la ca])) (blk g72 [tV opb, iV enb, tV tb, tV ofb, .slice pb lb cb] 42 :: blk g62 [tV sEq, iV 0, tV [], tV [], .slice (some ⟨g61, 0, none⟩) 2 2] 42 :: blk g61 [tV opa, iV ena, tV ta, tV ofa, .slice pa la ca, tV opb, iV enb, tV tb, tV ofb, .slice pb lb cb] 42 :: blk g57 [tV opb, iV enb, tV tb, tV ofb, .slice pb lb cb, tV opa, iV ena, tV ta, tV ofa, .slice pa la ca] 42 :: blk g54 [tV opa, iV ena, tV ta, tV ofa, .slice pa la ca, tV opb, iV enb, tV tb, tV ofb, .slice pb lb cb] 42 :: blk g50 [tV opa, iV ena, tV ta, tV ofa, .slice pa la ca, tV opb, iV enb, tV tb, tV ofb, .slice pb lb cb] 42 :: blk g47 [tV sLt, iV 0, tV [], tV [], .slice (some ⟨g46, 0, none⟩) 2 2] 42 :: blk g46 [tV opa, iV ena, tV ta, tV ofa, .slice pa la ca, tV opb, iV enb, tV tb, tV ofb, .slice pb lb cb] 42 :: blk g42 [tV sNot, iV 0, tV [], tV [], .slice (some ⟨g39, 0, none⟩) 1 1, tV sNot, iV 0, tV [], tV [], .slice (some ⟨g41, 0, none⟩) 1 1] 42 :: blk g41 [tV opb, iV enb, tV tb, tV ofb, .slice pb lb cb] 42 :: blk g39 [tV opa, iV ena, tV ta, tV ofa, .slice pa la ca] 42 :: blk g37 [tV sAnd, iV 0, tV [], tV [], .slice (some ⟨g36, 0, none⟩) 2 2] 42 :: blk g36 [tV opa, iV ena, tV ta, tV ofa, .slice pa la ca, tV opb, iV enb, tV tb, tV ofb, .slice pb lb cb] 42 :: blk g32 [tV sNot, iV 0, tV [], tV [], .slice (some ⟨g29, 0, none⟩) 1 1, tV sNot, iV 0, tV [], tV [], .slice (some ⟨g31, 0, none⟩) 1 1] 42 :: blk g31 [tV opb, iV enb, tV tb, tV ofb, .slice pb lb cb] 42 :: blk g29 [tV opa, iV ena, tV ta, tV ofa, .slice pa la ca] 42 :: blk g27 [tV sOr, iV 0, tV [], tV [], .slice (some ⟨g26, 0, none⟩) 2 2] 42 :: blk g26 [tV opa, iV ena, tV ta, tV ofa, .slice pa la ca, tV opb, iV enb, tV tb, tV ofb, .slice pb lb cb] 42 :: row (.slice (some ⟨gs0, 0, none⟩) 2 ks) 31 3 2 (tblSc.flatMap coC) :: blk g4 [tV opb, iV enb, tV tb, tV ofb, .slice pb lb cb] 42 :: blk g3 [tV opa, iV ena, tV ta, tV ofa, .slice pa la ca] 42 :: F) := by
   intro f0 g72 g62 g61 g57 g54 g50 g47 g46 g42 g41 g39 g37 g36 g32 g31 g29 g27 g26
   refine up _ _ _ _ ?_
   refine RW.one 41 (by kernel_rfl) ?_
   refine RO.eS rfl rfl (Ef.call (Be.two B sNe _ _ _ _ _ _ _ _ _ _ _ _ _ _) Try.func14 rfl rfl rfl ?_)
   rintro _ _ ⟨g65, rfl, rfl⟩
   try simp only [List.cons_append, List.nil_append]
   refine ⟨Sub.any, ?_⟩
   refine RW.q 42 rfl rfl (by kernel_rfl) Sub.any (Qt.buildAs [_, _] [_, _, _, _, _, _, _, _, _, _] (len := 2) (e := 42) (sz := 5) (by kernel_rfl) (by kernel_rfl) rfl (by simp [Value.cells]) rfl rfl (by omega)) ?_
   exact RW.use (dn _ _ _ _ (H18 _ g72 g65 g62 g61 g57 g54 g50 g47 g46 g42 g41 g39 g37 g36 g32 g31 g29 g27 g26)) (by kernel_rfl) (updS rfl (updS rfl (updS rfl (updS rfl (updS rfl (updS rfl (updS rfl (updS rfl (updS rfl (updS rfl (updS rfl (updS rfl (updS rfl (updS rfl (updS rfl rfl))))))))))))))) Sub.any
  have H16 : ∀ (f0 : Fr) (g72 g61 g57 g54 g50 g47 g46 g42 g41 g39 g37 g36 g32 g31 g29 g27 g26 : Nat), R 10 #[true, true, true, true, true, true, true, true, true, true, true, true, true, true, true, true, true, true, true, true, true, true, true, true, true, true, true, true, true, true, true, true, true, true, true, true, true, true, false, true, true, false, false, true, true, false, true, true, true, true, false, false, true, true, false, true, true, false, false, false, false] (upd (upd (upd (upd (upd (upd (upd (upd (upd (upd (upd (upd (upd (upd (upd (upd (upd f0 2 (.slice ra m rc)) 7 (.slice (some ⟨gs0, 0, none⟩) 2 ks)) 33 (.agg #[tV sNot, iV 0, tV [], tV [], .slice (some ⟨g27, 0, none⟩) 1 1, tV sAnd, iV 0, tV [], tV [], .slice (some ⟨g32, 0, none⟩) 2 2])) 43 (.agg #[tV sNot, iV 0, tV [], tV [], .slice (some ⟨g37, 0, none⟩) 1 1, tV sOr, iV 0, tV [], tV [], .slice (some ⟨g42, 0, none⟩) 2 2])) 51 (.agg #[tV sNot, iV 0, tV [], tV [], .slice (some ⟨g47, 0, none⟩) 1 1, tV sGe, iV 0, tV [], tV [], .slice (some ⟨g50, 0, none⟩) 2 2])) 58 (.agg #[tV sLe, iV 0, tV [], tV [], .slice (some ⟨g54, 0, none⟩) 2 2, tV sGe, iV 0, tV [], tV [], .slice (some ⟨g57, 0, none⟩) 2 2])) 61 (.agg #[tV sEq, iV 0, tV [], tV [], .slice (some ⟨g61, 0, none⟩) 2 2])) 63 (.agg #[tV opb, iV enb, tV tb, tV ofb, .slice pb lb cb])) 64 (.agg #[tV opa, iV ena, tV ta, tV ofa, .slice pa la ca])) 67 (.agg #[tV opa, iV ena, tV ta, tV ofa, .slice pa la ca])) 68 (.agg #[tV opb, iV enb, tV tb, tV ofb, .slice pb lb cb])) 70 (.agg #[tV opa, iV ena, tV ta, tV ofa, .slice pa la ca])) 73 (.agg #[tV sMinus, iV 0, tV [], tV [], .slice (some ⟨g72, 0, none⟩) 1 1])) 76 (.agg #[tV opa, iV ena, tV ta, tV ofa, .slice pa la ca])) 77 (.agg #[tV opb, iV enb, tV tb, tV ofb, .slice pb lb cb])) 79 (.agg #[tV opb, iV enb, tV tb, tV ofb, .slice pb lb cb])) 80 (.agg #[tV opa, iV ena, tV ta, tV ofa, .slice pa la ca])) (blk g72 [tV opb, iV enb, tV tb, tV ofb, .slice pb lb cb] 42 :: blk g61 [tV opa, iV ena, tV ta, tV ofa, .slice pa la ca, tV opb, iV enb, tV tb, tV ofb, .slice pb lb cb] 42 :: blk g57 [tV opb, iV enb, tV tb, tV ofb, .slice pb lb cb, tV opa, iV ena, tV ta, tV ofa, .slice pa la ca] 42 :: blk g54 [tV opa, iV ena, tV ta, tV ofa, .slice pa la ca, tV opb, iV enb, tV tb, tV ofb, .slice pb lb cb] 42 :: blk g50 [tV opa, iV ena, tV ta, tV ofa, .slice pa la ca, tV opb, iV enb, tV tb, tV ofb, .slice pb lb cb] 42 :: blk g47 [tV sLt, iV 0, tV [], tV [], .slice (some ⟨g46, 0, none⟩) 2 2] 42 :: blk g46 [tV opa, iV ena, tV ta, tV ofa, .slice pa la ca, tV opb, iV enb, tV tb, tV ofb, .slice pb lb cb] 42 :: blk g42 [tV sNot, iV 0, tV [], tV [], .slice (some ⟨g39, 0, none⟩) 1 1, tV sNot, iV 0, tV [], tV [], .slice (some ⟨g41, 0, none⟩) 1 1] 42 :: blk g41 [tV opb, iV enb, tV tb, tV ofb, .slice pb lb cb] 42 :: blk g39 [tV opa, iV ena, tV ta, tV ofa, .slice pa la ca] 42 :: blk g37 [tV sAnd, iV 0, tV [], tV [], .slice (some ⟨g36, 0, none⟩) 2 2] 42 :: blk g36 [tV opa, iV ena, tV ta, tV ofa, .slice pa la ca, tV opb, iV enb, tV tb, tV ofb, .slice pb lb cb] 42 :: blk g32 [tV sNot, iV 0, tV [], tV [], .slice (some ⟨g29, 0, none⟩) 1 1, tV sNot, iV 0, tV [], tV [], .slice (some ⟨g31, 0, none⟩) 1 1] 42 :: blk g31 [tV opb, iV enb, tV tb, tV ofb, .slice pb lb cb] 42 :: blk g29 [tV opa, iV ena, tV ta, tV ofa, .slice pa la ca] 42 :: blk g27 [tV sOr, iV 0, tV [], tV [], .slice (some ⟨g26, 0, none⟩) 2 2] 42 :: blk g26 [tV opa, iV ena, tV ta, tV ofa, .slice pa la ca, tV opb, iV enb, tV tb, tV ofb, .slice pb lb cb] 42 :: row (.slice (some ⟨gs0, 0, none⟩) 2 ks) 31 3 2 (tblSc.flatMap coC) :: blk g4 [tV opb, iV enb, tV tb, tV ofb, .slice pb lb cb] 42 :: blk g3 [tV opa, iV ena, tV ta, tV ofa, .slice pa la ca] 42 :: F) := by
   intro f0 g72 g61 g57 g54 g50 g47 g46 g42 g41 g39 g37 g36 g32 g31 g29 g27 g26
   refine up _ _ _ _ ?_
   refine RW.one 38 (by kernel_rfl) ?_
   refine RO.eS rfl rfl (Ef.call (Be.not B _ _ _ _ _ _ _) Try.func13 rfl rfl rfl ?_)
   rintro _ _ ⟨g62, rfl, rfl⟩
   try simp only [List.cons_append, List.nil_append]
   refine ⟨Sub.any, ?_⟩
   exact RW.use (dn _ _ _ _ (H17 _ g72 g62 g61 g57 g54 g50 g47 g46 g42 g41 g39 g37 g36 g32 g31 g29 g27 g26)) (by kernel_rfl) (updS rfl (updS rfl (updS rfl (updS rfl (updS rfl (updS rfl (updS rfl (updS rfl (updS rfl (updS rfl (updS rfl (updS rfl (updS rfl (updS rfl (updS rfl (updS rfl (updS rfl rfl))))))))))))))))) Sub.any
  have H15 : ∀ (f0 : Fr) (g72 g57 g54 g50 g47 g46 g42 g41 g39 g37 g36 g32 g31 g29 g27 g26 : Nat), R 11 #[true, true, true, true, true, true, true, true, true, true, true, true, true, true, true, true, true, true, true, true, true, true, true, true, true, true, true, true, true, true, true, true, true, true, true, true, true, false, false, true, true, false, false, true, true, false, true, true, true, true, false, false, true, true, false, true, true, false, false, false, false] (upd (upd (upd (upd (upd (upd (upd (upd (upd (upd (upd (upd (upd (upd (upd (upd (upd (upd f0 2 (.slice ra m rc)) 7 (.slice (some ⟨gs0, 0, none⟩) 2 ks)) 33 (.agg #[tV sNot, iV 0, tV [], tV [], .slice (some ⟨g27, 0, none⟩) 1 1, tV sAnd, iV 0, tV [], tV [], .slice (some ⟨g32, 0, none⟩) 2 2])) 43 (.agg #[tV sNot, iV 0, tV [], tV [], .slice (some ⟨g37, 0, none⟩) 1 1, tV sOr, iV 0, tV [], tV [], .slice (some ⟨g42, 0, none⟩) 2 2])) 51 (.agg #[tV sNot, iV 0, tV [], tV [], .slice (some ⟨g47, 0, none⟩) 1 1, tV sGe, iV 0, tV [], tV [], .slice (some ⟨g50, 0, none⟩) 2 2])) 58 (.agg #[tV sLe, iV 0, tV [], tV [], .slice (some ⟨g54, 0, none⟩) 2 2, tV sGe, iV 0, tV [], tV [], .slice (some ⟨g57, 0, none⟩) 2 2])) 59 (.agg #[tV opa, iV ena, tV ta, tV ofa, .slice pa la ca])) 60 (.agg #[tV opb, iV enb, tV tb, tV ofb, .slice pb lb cb])) 63 (.agg #[tV opb, iV enb, tV tb, tV ofb, .slice pb lb cb])) 64 (.agg #[tV opa, iV ena, tV ta, tV ofa, .slice pa la ca])) 67 (.agg #[tV opa, iV ena, tV ta, tV ofa, .slice pa la ca])) 68 (.agg #[tV opb, iV enb, tV tb, tV ofb, .slice pb lb cb])) 70 (.agg #[tV opa, iV ena, tV ta, tV ofa, .slice pa la ca])) 73 (.agg #[tV sMinus, iV 0, tV [], tV [], .slice (some ⟨g72, 0, none⟩) 1 1])) 76 (.agg #[tV opa, iV ena, tV ta, tV ofa, .slice pa la ca])) 77 (.agg #[tV opb, iV enb, tV tb, tV ofb, .slice pb lb cb])) 79 (.agg #[tV opb, iV enb, tV tb, tV ofb, .slice pb lb cb])) 80 (.agg #[tV opa, iV ena, tV ta, tV ofa, .slice pa la ca])) (blk g72 [tV opb, iV enb, tV tb, tV ofb, .slice pb lb cb] 42 :: blk g57 [tV opb, iV enb, tV tb, tV ofb, .slice pb lb cb, tV opa, iV ena, tV ta, tV ofa, .slice pa la ca] 42 :: blk g54 [tV opa, iV ena, tV ta, tV ofa, .slice pa la ca, tV opb, iV enb, tV tb, tV ofb, .slice pb lb cb] 42 :: blk g50 [tV opa, iV ena, tV ta, tV ofa, .slice pa la ca, tV opb, iV enb, tV tb, tV ofb, .slice pb lb cb] 42 :: blk g47 [tV sLt, iV 0, tV [], tV [], .slice (some ⟨g46, 0, none⟩) 2 2] 42 :: blk g46 [tV opa, iV ena, tV ta, tV ofa, .slice pa la ca, tV opb, iV enb, tV tb, tV ofb, .slice pb lb cb] 42 :: blk g42 [tV sNot, iV 0, tV [], tV [], .slice (some ⟨g39, 0, none⟩) 1 1, tV sNot, iV 0, tV [], tV [], .slice (some ⟨g41, 0, none⟩) 1 1] 42 :: blk g41 [tV opb, iV enb, tV tb, tV ofb, .slice pb lb cb] 42 :: blk g39 [tV opa, iV ena, tV ta, tV ofa, .slice pa la ca] 42 :: blk g37 [tV sAnd, iV 0, tV [], tV [], .slice (some ⟨g36, 0, none⟩) 2 2] 42 :: blk g36 [tV opa, iV ena, tV ta, tV ofa, .slice pa la ca, tV opb, iV enb, tV tb, tV ofb, .slice pb lb cb] 42 :: blk g32 [tV sNot, iV 0, tV [], tV [], .slice (some ⟨g29, 0, none⟩) 1 1, tV sNot, iV 0, tV [], tV [], .slice (some ⟨g31, 0, none⟩) 1 1] 42 :: blk g31 [tV opb, iV enb, tV tb, tV ofb, .slice pb lb cb] 42 :: blk g29 [tV opa, iV ena, tV ta, tV ofa, .slice pa la ca] 42 :: blk g27 [tV sOr, iV 0, tV [], tV [], .slice (some ⟨g26, 0, none⟩) 2 2] 42 :: blk g26 [tV opa, iV ena, tV ta, tV ofa, .slice pa la ca, tV opb, iV enb, tV tb, tV ofb, .slice pb lb cb] 42 :: row (.slice (some ⟨gs0, 0, none⟩) 2 ks) 31 3 2 (tblSc.flatMap coC) :: blk g4 [tV opb, iV enb, tV tb, tV ofb, .slice pb lb cb] 42 :: blk g3 [tV opa, iV ena, tV ta, tV ofa, .slice pa la ca] 42 :: F) := by
   intro f0 g72 g57 g54 g50 g47 g46 g42 g41 g39 g37 g36 g32 g31 g29 g27 g26
   refine up _ _ _ _ ?_
   refine RW.one 37 (by kernel_rfl) ?_
   refine RO.eS rfl rfl (Ef.call (Be.two B sEq _ _ _ _ _ _ _ _ _ _ _ _ _ _) Try.func14 rfl rfl rfl ?_)
   rintro _ _ ⟨g61, rfl, rfl⟩
   try simp only [List.cons_append, List.nil_append]
   refine ⟨Sub.any, ?_⟩
   exact RW.use (dn _ _ _ _ (H16 _ g72 g61 g57 g54 g50 g47 g46 g42 g41 g39 g37 g36 g32 g31 g29 g27 g26)) (by kernel_rfl) (updS rfl (updS rfl (updS rfl (updS rfl (updS rfl (updS rfl (updS rfl (updS rfl (updS rfl (updS rfl (updS rfl (updS rfl (updS rfl (updS rfl (updS rfl (updS rfl (updS rfl rfl))))))))))))))))) Sub.any
  have H14 : ∀ (f0 : Fr) (g72 g54 g50 g47 g46 g42 g41 g39 g37 g36 g32 g31 g29 g27 g26 : Nat), R 13 #[true, true, true, true, true, true, true, true, true, true, true, true, true, true, true, true, true, true, true, true, true, true, true, true, true, true, true, true, true, true, true, true, true, false, false, true, true, false, false, true, true, false, false, true, true, false, true, true, true, true, false, false, true, true, false, true, true, false, false, false, false] (upd (upd (upd (upd (upd (upd (upd (upd (upd (upd (upd (upd (upd (upd (upd (upd (upd (upd (upd (upd f0 2 (.slice ra m rc)) 7 (.slice (some ⟨gs0, 0, none⟩) 2 ks)) 33 (.agg #[tV sNot, iV 0, tV [], tV [], .slice (some ⟨g27, 0, none⟩) 1 1, tV sAnd, iV 0, tV [], tV [], .slice (some ⟨g32, 0, none⟩) 2 2])) 43 (.agg #[tV sNot, iV 0, tV [], tV [], .slice (some ⟨g37, 0, none⟩) 1 1, tV sOr, iV 0, tV [], tV [], .slice (some ⟨g42, 0, none⟩) 2 2])) 51 (.agg #[tV sNot, iV 0, tV [], tV [], .slice (some ⟨g47, 0, none⟩) 1 1, tV sGe, iV 0, tV [], tV [], .slice (some ⟨g50, 0, none⟩) 2 2])) 54 (.agg #[tV sLe, iV 0, tV [], tV [], .slice (some ⟨g54, 0, none⟩) 2 2])) 55 (.agg #[tV opb, iV enb, tV tb, tV ofb, .slice pb lb cb])) 56 (.agg #[tV opa, iV ena, tV ta, tV ofa, .slice pa la ca])) 59 (.agg #[tV opa, iV ena, tV ta, tV ofa, .slice pa la ca])) 60 (.agg #[tV opb, iV enb, tV tb, tV ofb, .slice pb lb cb])) 63 (.agg #[tV opb, iV enb, tV tb, tV ofb, .slice pb lb cb])) 64 (.agg #[tV opa, iV ena, tV ta, tV ofa, .slice pa la ca])) 67 (.agg #[tV opa, iV ena, tV ta, tV ofa, .slice pa la ca])) 68 (.agg #[tV opb, iV enb, tV tb, tV ofb, .slice pb lb cb])) 70 (.agg #[tV opa, iV ena, tV ta, tV ofa, .slice pa la ca])) 73 (.agg #[tV sMinus, iV 0, tV [], tV [], .slice (some ⟨g72, 0, none⟩) 1 1])) 76 (.agg #[tV opa, iV ena, tV ta, tV ofa, .slice pa la ca])) 77 (.agg #[tV opb, iV enb, tV tb, tV ofb, .slice pb lb cb])) 79 (.agg #[tV opb, iV enb, tV tb, tV ofb, .slice pb lb cb])) 80 (.agg #[tV opa, iV ena, tV ta, tV ofa, .slice pa la ca])) (blk g72 [tV opb, iV enb, tV tb, tV ofb, .slice pb lb cb] 42 :: blk g54 [tV opa, iV ena, tV ta, tV ofa, .slice pa la ca, tV opb, iV enb, tV tb, tV ofb, .slice pb lb cb] 42 :: blk g50 [tV opa, iV ena, tV ta, tV ofa, .slice pa la ca, tV opb, iV enb, tV tb, tV ofb, .slice pb lb cb] 42 :: blk g47 [tV sLt, iV 0, tV [], tV [], .slice (some ⟨g46, 0, none⟩) 2 2] 42 :: blk g46 [tV opa, iV ena, tV ta, tV ofa, .slice pa la ca, tV opb, iV enb, tV tb, tV ofb, .slice pb lb cb] 42 :: blk g42 [tV sNot, iV 0, tV [], tV [], .slice (some ⟨g39, 0, none⟩) 1 1, tV sNot, iV 0, tV [], tV [], .slice (some ⟨g41, 0, none⟩) 1 1] 42 :: blk g41 [tV opb, iV enb, tV tb, tV ofb, .slice pb lb cb] 42 :: blk g39 [tV opa, iV ena, tV ta, tV ofa, .slice pa la ca] 42 :: blk g37 [tV sAnd, iV 0, tV [], tV [], .slice (some ⟨g36, 0, none⟩) 2 2] 42 :: blk g36 [tV opa, iV ena, tV ta, tV ofa, .slice pa la ca, tV opb, iV enb, tV tb, tV ofb, .slice pb lb cb] 42 :: blk g32 [tV sNot, iV 0, tV [], tV [], .slice (some ⟨g29, 0, none⟩) 1 1, tV sNot, iV 0, tV [], tV [], .slice (some ⟨g31, 0, none⟩) 1 1] 42 :: blk g31 [tV opb, iV enb, tV tb, tV ofb, .slice pb lb cb] 42 :: blk g29 [tV opa, iV ena, tV ta, tV ofa, .slice pa la ca] 42 :: blk g27 [tV sOr, iV 0, tV [], tV [], .slice (some ⟨g26, 0, none⟩) 2 2] 42 :: blk g26 [tV opa, iV ena, tV ta, tV ofa, .slice pa la ca, tV opb, iV enb, tV tb, tV ofb, .slice pb lb cb] 42 :: row (.slice (some ⟨gs0, 0, none⟩) 2 ks) 31 3 2 (tblSc.flatMap coC) :: blk g4 [tV opb, iV enb, tV tb, tV ofb, .slice pb lb cb] 42 :: blk g3 [tV opa, iV ena, tV ta, tV ofa, .slice pa la ca] 42 :: F) := by
   intro f0 g72 g54 g50 g47 g46 g42 g41 g39 g37 g36 g32 g31 g29 g27 g26
   refine up _ _ _ _ ?_
   refine RW.one 33 (by kernel_rfl) ?_
   refine RO.eS rfl rfl (Ef.call (Be.two B sGe _ _ _ _ _ _ _ _ _ _ _ _ _ _) Try.func14 rfl rfl rfl ?_)
   rintro _ _ ⟨g57, rfl, rfl⟩
   try simp only [List.cons_append, List.nil_append]
   refine ⟨Sub.any, ?_⟩
   refine RW.q 34 rfl rfl (by kernel_rfl) Sub.any (Qt.buildAs [_, _] [_, _, _, _, _, _, _, _, _, _] (len := 2) (e := 42) (sz := 5) (by kernel_rfl) (by kernel_rfl) rfl (by simp [Value.cells]) rfl rfl (by omega)) ?_
   exact RW.use (dn _ _ _ _ (H15 _ g72 g57 g54 g50 g47 g46 g42 g41 g39 g37 g36 g32 g31 g29 g27 g26)) (by kernel_rfl) (updS rfl (updS rfl (updS rfl (updS rfl (updS rfl (updS rfl (updS rfl (updS rfl (updS rfl (updS rfl (updS rfl (updS rfl (updS rfl (updS rfl (updS rfl (updS rfl (updS rfl (updS rfl rfl)))))))))))))))))) Sub.any
  have H13 : ∀ (f0 : Fr) (g72 g50 g47 g46 g42 g41 g39 g37 g36 g32 g31 g29 g27 g26 : Nat), R 14 #[true, true, true, true, true, true, true, true, true, true, true, true, true, true, true, true, true, true, true, true, true, true, true, true, true, true, true, true, true, true, false, true, true, false, false, true, true, false, false, true, true, false, false, true, true, false, true, true, true, true, false, false, true, true, false, true, true, false, false, false, false] (upd (upd (upd (upd (upd (upd (upd (upd (upd (upd (upd (upd (upd (upd (upd (upd (upd (upd (upd (upd (upd f0 2 (.slice ra m rc)) 7 (.slice (some ⟨gs0, 0, none⟩) 2 ks)) 33 (.agg #[tV sNot, iV 0, tV [], tV [], .slice (some ⟨g27, 0, none⟩) 1 1, tV sAnd, iV 0, tV [], tV [], .slice (some ⟨g32, 0, none⟩) 2 2])) 43 (.agg #[tV sNot, iV 0, tV [], tV [], .slice (some ⟨g37, 0, none⟩) 1 1, tV sOr, iV 0, tV [], tV [], .slice (some ⟨g42, 0, none⟩) 2 2])) 51 (.agg #[tV sNot, iV 0, tV [], tV [], .slice (some ⟨g47, 0, none⟩) 1 1, tV sGe, iV 0, tV [], tV [], .slice (some ⟨g50, 0, none⟩) 2 2])) 52 (.agg #[tV opa, iV ena, tV ta, tV ofa, .slice pa la ca])) 53 (.agg #[tV opb, iV enb, tV tb, tV ofb, .slice pb lb cb])) 55 (.agg #[tV opb, iV enb, tV tb, tV ofb, .slice pb lb cb])) 56 (.agg #[tV opa, iV ena, tV ta, tV ofa, .slice pa la ca])) 59 (.agg #[tV opa, iV ena, tV ta, tV ofa, .slice pa la ca])) 60 (.agg #[tV opb, iV enb, tV tb, tV ofb, .slice pb lb cb])) 63 (.agg #[tV opb, iV enb, tV tb, tV ofb, .slice pb lb cb])) 64 (.agg #[tV opa, iV ena, tV ta, tV ofa, .slice pa la ca])) 67 (.agg #[tV opa, iV ena, tV ta, tV ofa, .slice pa la ca])) 68 (.agg #[tV opb, iV enb, tV tb, tV ofb, .slice pb lb cb])) 70 (.agg #[tV opa, iV ena, tV ta, tV ofa, .slice pa la ca])) 73 (.agg #[tV sMinus, iV 0, tV [], tV [], .slice (some ⟨g72, 0, none⟩) 1 1])) 76 (.agg #[tV opa, iV ena, tV ta, tV ofa, .slice pa la ca])) 77 (.agg #[tV opb, iV enb, tV tb, tV ofb, .slice pb lb cb])) 79 (.agg #[tV opb, iV enb, tV tb, tV ofb, .slice pb lb cb])) 80 (.agg #[tV opa, iV ena, tV ta, tV ofa, .slice pa la ca])) (blk g72 [tV opb, iV enb, tV tb, tV ofb, .slice pb lb cb] 42 :: blk g50 [tV opa, iV ena, tV ta, tV ofa, .slice pa la ca, tV opb, iV enb, tV tb, tV ofb, .slice pb lb cb] 42 :: blk g47 [tV sLt, iV 0, tV [], tV [], .slice (some ⟨g46, 0, none⟩) 2 2] 42 :: blk g46 [tV opa, iV ena, tV ta, tV ofa, .slice pa la ca, tV opb, iV enb, tV tb, tV ofb, .slice pb lb cb] 42 :: blk g42 [tV sNot, iV 0, tV [], tV [], .slice (some ⟨g39, 0, none⟩) 1 1, tV sNot, iV 0, tV [], tV [], .slice (some ⟨g41, 0, none⟩) 1 1] 42 :: blk g41 [tV opb, iV enb, tV tb, tV ofb, .slice pb lb cb] 42 :: blk g39 [tV opa, iV ena, tV ta, tV ofa, .slice pa la ca] 42 :: blk g37 [tV sAnd, iV 0, tV [], tV [], .slice (some ⟨g36, 0, none⟩) 2 2] 42 :: blk g36 [tV opa, iV ena, tV ta, tV ofa, .slice pa la ca, tV opb, iV enb, tV tb, tV ofb, .slice pb lb cb] 42 :: blk g32 [tV sNot, iV 0, tV [], tV [], .slice (some ⟨g29, 0, none⟩) 1 1, tV sNot, iV 0, tV [], tV [], .slice (some ⟨g31, 0, none⟩) 1 1] 42 :: blk g31 [tV opb, iV enb, tV tb, tV ofb, .slice pb lb cb] 42 :: blk g29 [tV opa, iV ena, tV ta, tV ofa, .slice pa la ca] 42 :: blk g27 [tV sOr, iV 0, tV [], tV [], .slice (some ⟨g26, 0, none⟩) 2 2] 42 :: blk g26 [tV opa, iV ena, tV ta, tV ofa, .slice pa la ca, tV opb, iV enb, tV tb, tV ofb, .slice pb lb cb] 42 :: row (.slice (some ⟨gs0, 0, none⟩) 2 ks) 31 3 2 (tblSc.flatMap coC) :: blk g4 [tV opb, iV enb, tV tb, tV ofb, .slice pb lb cb] 42 :: blk g3 [tV opa, iV ena, tV ta, tV ofa, .slice pa la ca] 42 :: F) := by
   intro f0 g72 g50 g47 g46 g42 g41 g39 g37 g36 g32 g31 g29 g27 g26
   refine up _ _ _ _ ?_
   refine RW.one 30 (by kernel_rfl) ?_
   refine RO.eS rfl rfl (Ef.call (Be.two B sLe _ _ _ _ _ _ _ _ _ _ _ _ _ _) Try.func14 rfl rfl rfl ?_)
   rintro _ _ ⟨g54, rfl, rfl⟩
   try simp only [List.cons_append, List.nil_append]
   refine ⟨Sub.any, ?_⟩
   exact RW.use (dn _ _ _ _ (H14 _ g72 g54 g50 g47 g46 g42 g41 g39 g37 g36 g32 g31 g29 g27 g26)) (by kernel_rfl) (updS rfl (updS rfl (updS rfl (updS rfl (updS rfl (updS rfl (updS rfl (updS rfl (updS rfl (updS rfl (updS rfl (updS rfl (updS rfl (updS rfl (updS rfl (updS rfl (updS rfl (updS rfl (updS rfl (updS rfl rfl)))))))))))))))))))) Sub.any
  have H12 : ∀ (f0 : Fr) (g72 g47 g46 g42 g41 g39 g37 g36 g32 g31 g29 g27 g26 : Nat), R 16 #[true, true, true, true, true, true, true, true, true, true, true, true, true, true, true, true, true, true, true, true, true, true, true, true, true, true, false, false, true, true, false, true, true, false, false, true, true, false, false, true, true, false, false, true, true, false, true, true, true, true, false, false, true, true, false, true, true, false, false, false, false] (upd (upd (upd (upd (upd (upd (upd (upd (upd (upd (upd (upd (upd (upd (upd (upd (upd (upd (upd (upd (upd (upd (upd f0 2 (.slice ra m rc)) 7 (.slice (some ⟨gs0, 0, none⟩) 2 ks)) 33 (.agg #[tV sNot, iV 0, tV [], tV [], .slice (some ⟨g27, 0, none⟩) 1 1, tV sAnd, iV 0, tV [], tV [], .slice (some ⟨g32, 0, none⟩) 2 2])) 43 (.agg #[tV sNot, iV 0, tV [], tV [], .slice (some ⟨g37, 0, none⟩) 1 1, tV sOr, iV 0, tV [], tV [], .slice (some ⟨g42, 0, none⟩) 2 2])) 47 (.agg #[tV sNot, iV 0, tV [], tV [], .slice (some ⟨g47, 0, none⟩) 1 1])) 48 (.agg #[tV opa, iV ena, tV ta, tV ofa, .slice pa la ca])) 49 (.agg #[tV opb, iV enb, tV tb, tV ofb, .slice pb lb cb])) 52 (.agg #[tV opa, iV ena, tV ta, tV ofa, .slice pa la ca])) 53 (.agg #[tV opb, iV enb, tV tb, tV ofb, .slice pb lb cb])) 55 (.agg #[tV opb, iV enb, tV tb, tV ofb, .slice pb lb cb])) 56 (.agg #[tV opa, iV ena, tV ta, tV ofa, .slice pa la ca])) 59 (.agg #[tV opa, iV ena, tV ta, tV ofa, .slice pa la ca])) 60 (.agg #[tV opb, iV enb, tV tb, tV ofb, .slice pb lb cb])) 63 (.agg #[tV opb, iV enb, tV tb, tV ofb, .slice pb lb cb])) 64 (.agg #[tV opa, iV ena, tV ta, tV ofa, .slice pa la ca])) 67 (.agg #[tV opa, iV ena, tV ta, tV ofa, .slice pa la ca])) 68 (.agg #[tV opb, iV enb, tV tb, tV ofb, .slice pb lb cb])) 70 (.agg #[tV opa, iV ena, tV ta, tV ofa, .slice pa la ca])) 73 (.agg #[tV sMinus, iV 0, tV [], tV [], .slice (some ⟨g72, 0, none⟩) 1 1])) 76 (.agg #[tV opa, iV ena, tV ta, tV ofa, .slice pa la ca])) 77 (.agg #[tV opb, iV enb, tV tb, tV ofb, .slice pb lb cb])) 79 (.agg #[tV opb, iV enb, tV tb, tV ofb, .slice pb lb cb])) 80 (.agg #[tV opa, iV ena, tV ta, tV ofa, .slice pa la ca])) (blk g72 [tV opb, iV enb, tV tb, tV ofb, .slice pb lb cb] 42 :: blk g47 [tV sLt, iV 0, tV [], tV [], .slice (some ⟨g46, 0, none⟩) 2 2] 42 :: blk g46 [tV opa, iV ena, tV ta, tV ofa, .slice pa la ca, tV opb, iV enb, tV tb, tV ofb, .slice pb lb cb] 42 :: blk g42 [tV sNot, iV 0, tV [], tV [], .slice (some ⟨g39, 0, none⟩) 1 1, tV sNot, iV 0, tV [], tV [], .slice (some ⟨g41, 0, none⟩) 1 1] 42 :: blk g41 [tV opb, iV enb, tV tb, tV ofb, .slice pb lb cb] 42 :: blk g39 [tV opa, iV ena, tV ta, tV ofa, .slice pa la ca] 42 :: blk g37 [tV sAnd, iV 0, tV [], tV [], .slice (some ⟨g36, 0, none⟩) 2 2] 42 :: blk g36 [tV opa, iV ena, tV ta, tV ofa, .slice pa la ca, tV opb, iV enb, tV tb, tV ofb, .slice pb lb cb] 42 :: blk g32 [tV sNot, iV 0, tV [], tV [], .slice (some ⟨g29, 0, none⟩) 1 1, tV sNot, iV 0, tV [], tV [], .slice (some ⟨g31, 0, none⟩) 1 1] 42 :: blk g31 [tV opb, iV enb, tV tb, tV ofb, .slice pb lb cb] 42 :: blk g29 [tV opa, iV ena, tV ta, tV ofa, .slice pa la ca] 42 :: blk g27 [tV sOr, iV 0, tV [], tV [], .slice (some ⟨g26, 0, none⟩) 2 2] 42 :: blk g26 [tV opa, iV ena, tV ta, tV ofa, .slice pa la ca, tV opb, iV enb, tV tb, tV ofb, .slice pb lb cb] 42 :: row (.slice (some ⟨gs0, 0, none⟩) 2 ks) 31 3 2 (tblSc.flatMap coC) :: blk g4 [tV opb, iV enb, tV tb, tV ofb, .slice pb lb cb] 42 :: blk g3 [tV opa, iV ena, tV ta, tV ofa, .slice pa la ca] 42 :: F) := by
   intro f0 g72 g47 g46 g42 g41 g39 g37 g36 g32 g31 g29 g27 g26
   refine up _ _ _ _ ?_
   refine RW.one 26 (by kernel_rfl) ?_
   refine RO.eS rfl rfl (Ef.call (Be.two B sGe _ _ _ _ _ _ _ _ _ _ _ _ _ _) Try.func14 rfl rfl rfl ?_)
   rintro _ _ ⟨g50, rfl, rfl⟩
   try simp only [List.cons_append, List.nil_append]
   refine ⟨Sub.any, ?_⟩
   refine RW.q 27 rfl rfl (by kernel_rfl) Sub.any (Qt.buildAs [_, _] [_, _, _, _, _, _, _, _, _, _] (len := 2) (e := 42) (sz := 5) (by kernel_rfl) (by kernel_rfl) rfl (by simp [Value.cells]) rfl rfl (by omega)) ?_
   exact RW.use (dn _ _ _ _ (H13 _ g72 g50 g47 g46 g42 g41 g39 g37 g36 g32 g31 g29 g27 g26)) (by kernel_rfl) (updS rfl (updS rfl (updS rfl (updS rfl (updS rfl (updS rfl (updS rfl (updS rfl (updS rfl (updS rfl (updS rfl (updS rfl (updS rfl (updS rfl (updS rfl (updS rfl (updS rfl (updS rfl (updS rfl (updS rfl (updS rfl rfl))))))))))))))))))))) Sub.any
  have H11 : ∀ (f0 : Fr) (g72 g46 g42 g41 g39 g37 g36 g32 g31 g29 g27 g26 : Nat), R 17 #[true, true, true, true, true, true, true, true, true, true, true, true, true, true, true, true, true, true, true, true, true, true, true, false, true, true, false, false, true, true, false, true, true, false, false, true, true, false, false, true, true, false, false, true, true, false, true, true, true, true, false, false, true, true, false, true, true, false, false, false, false] (upd (upd (upd (upd (upd (upd (upd (upd (upd (upd (upd (upd (upd (upd (upd (upd (upd (upd (upd (upd (upd (upd (upd f0 2 (.slice ra m rc)) 7 (.slice (some ⟨gs0, 0, none⟩) 2 ks)) 33 (.agg #[tV sNot, iV 0, tV [], tV [], .slice (some ⟨g27, 0, none⟩) 1 1, tV sAnd, iV 0, tV [], tV [], .slice (some ⟨g32, 0, none⟩) 2 2])) 43 (.agg #[tV sNot, iV 0, tV [], tV [], .slice (some ⟨g37, 0, none⟩) 1 1, tV sOr, iV 0, tV [], tV [], .slice (some ⟨g42, 0, none⟩) 2 2])) 46 (.agg #[tV sLt, iV 0, tV [], tV [], .slice (some ⟨g46, 0, none⟩) 2 2])) 48 (.agg #[tV opa, iV ena, tV ta, tV ofa, .slice pa la ca])) 49 (.agg #[tV opb, iV enb, tV tb, tV ofb, .slice pb lb cb])) 52 (.agg #[tV opa, iV ena, tV ta, tV ofa, .slice pa la ca])) 53 (.agg #[tV opb, iV enb, tV tb, tV ofb, .slice pb lb cb])) 55 (.agg #[tV opb, iV enb, tV tb, tV ofb, .slice pb lb cb])) 56 (.agg #[tV opa, iV ena, tV ta, tV ofa, .slice pa la ca])) 59 (.agg #[tV opa, iV ena, tV ta, tV ofa, .slice pa la ca])) 60 (.agg #[tV opb, iV enb, tV tb, tV ofb, .slice pb lb cb])) 63 (.agg #[tV opb, iV enb, tV tb, tV ofb, .slice pb lb cb])) 64 (.agg #[tV opa, iV ena, tV ta, tV ofa, .slice pa la ca])) 67 (.agg #[tV opa, iV ena, tV ta, tV ofa, .slice pa la ca])) 68 (.agg #[tV opb, iV enb, tV tb, tV ofb, .slice pb lb cb])) 70 (.agg #[tV opa, iV ena, tV ta, tV ofa, .slice pa la ca])) 73 (.agg #[tV sMinus, iV 0, tV [], tV [], .slice (some ⟨g72, 0, none⟩) 1 1])) 76 (.agg #[tV opa, iV ena, tV ta, tV ofa, .slice pa la ca])) 77 (.agg #[tV opb, iV enb, tV tb, tV ofb, .slice pb lb cb])) 79 (.agg #[tV opb, iV enb, tV tb, tV ofb, .slice pb lb cb])) 80 (.agg #[tV opa, iV ena, tV ta, tV ofa, .slice pa la ca])) (blk g72 [tV opb, iV enb, tV tb, tV ofb, .slice pb lb cb] 42 :: blk g46 [tV opa, iV ena, tV ta, tV ofa, .slice pa la ca, tV opb, iV enb, tV tb, tV ofb, .slice pb lb cb] 42 :: blk g42 [tV sNot, iV 0, tV [], tV [], .slice (some ⟨g39, 0, none⟩) 1 1, tV sNot, iV 0, tV [], tV [], .slice (some ⟨g41, 0, none⟩) 1 1] 42 :: blk g41 [tV opb, iV enb, tV tb, tV ofb, .slice pb lb cb] 42 :: blk g39 [tV opa, iV ena, tV ta, tV ofa, .slice pa la ca] 42 :: blk g37 [tV sAnd, iV 0, tV [], tV [], .slice (some ⟨g36, 0, none⟩) 2 2] 42 :: blk g36 [tV opa, iV ena, tV ta, tV ofa, .slice pa la ca, tV opb, iV enb, tV tb, tV ofb, .slice pb lb cb] 42 :: blk g32 [tV sNot, iV 0, tV [], tV [], .slice (some ⟨g29, 0, none⟩) 1 1, tV sNot, iV 0, tV [], tV [], .slice (some ⟨g31, 0, none⟩) 1 1] 42 :: blk g31 [tV opb, iV enb, tV tb, tV ofb, .slice pb lb cb] 42 :: blk g29 [tV opa, iV ena, tV ta, tV ofa, .slice pa la ca] 42 :: blk g27 [tV sOr, iV 0, tV [], tV [], .slice (some ⟨g26, 0, none⟩) 2 2] 42 :: blk g26 [tV opa, iV ena, tV ta, tV ofa, .slice pa la ca, tV opb, iV enb, tV tb, tV ofb, .slice pb lb cb] 42 :: row (.slice (some ⟨gs0, 0, none⟩) 2 ks) 31 3 2 (tblSc.flatMap coC) :: blk g4 [tV opb, iV enb, tV tb, tV ofb, .slice pb lb cb] 42 :: blk g3 [tV opa, iV ena, tV ta, tV ofa, .slice pa la ca] 42 :: F) := by
   intro f0 g72 g46 g42 g41 g39 g37 g36 g32 g31 g29 g27 g26
   refine up _ _ _ _ ?_
   refine RW.one 23 (by kernel_rfl) ?_
   refine RO.eS rfl rfl (Ef.call (Be.not B _ _ _ _ _ _ _) Try.func13 rfl rfl rfl ?_)
   rintro _ _ ⟨g47, rfl, rfl⟩
   try simp only [List.cons_append, List.nil_append]
   refine ⟨Sub.any, ?_⟩
   exact RW.use (dn _ _ _ _ (H12 _ g72 g47 g46 g42 g41 g39 g37 g36 g32 g31 g29 g27 g26)) (by kernel_rfl) (updS rfl (updS rfl (updS rfl (updS rfl (updS rfl (updS rfl (updS rfl (updS rfl (updS rfl (updS rfl (updS rfl (updS rfl (updS rfl (updS rfl (updS rfl (updS rfl (updS rfl (updS rfl (updS rfl (updS rfl (updS rfl (updS rfl (updS rfl rfl))))))))))))))))))))))) Sub.any
  have H10 : ∀ (f0 : Fr) (g72 g42 g41 g39 g37 g36 g32 g31 g29 g27 g26 : Nat), R 18 #[true, true, true, true, true, true, true, true, true, true, true, true, true, true, true, true, true, true, true, true, true, true, false, false, true, true, false, false, true, true, false, true, true, false, false, true, true, false, false, true, true, false, false, true, true, false, true, true, true, true, false, false, true, true, false, true, true, false, false, false, false] (upd (upd (upd (upd (upd (upd (upd (upd (upd (upd (upd (upd (upd (upd (upd (upd (upd (upd (upd (upd (upd (upd (upd (upd f0 2 (.slice ra m rc)) 7 (.slice (some ⟨gs0, 0, none⟩) 2 ks)) 33 (.agg #[tV sNot, iV 0, tV [], tV [], .slice (some ⟨g27, 0, none⟩) 1 1, tV sAnd, iV 0, tV [], tV [], .slice (some ⟨g32, 0, none⟩) 2 2])) 43 (.agg #[tV sNot, iV 0, tV [], tV [], .slice (some ⟨g37, 0, none⟩) 1 1, tV sOr, iV 0, tV [], tV [], .slice (some ⟨g42, 0, none⟩) 2 2])) 44 (.agg #[tV opa, iV ena, tV ta, tV ofa, .slice pa la ca])) 45 (.agg #[tV opb, iV enb, tV tb, tV ofb, .slice pb lb cb])) 48 (.agg #[tV opa, iV ena, tV ta, tV ofa, .slice pa la ca])) 49 (.agg #[tV opb, iV enb, tV tb, tV ofb, .slice pb lb cb])) 52 (.agg #[tV opa, iV ena, tV ta, tV ofa, .slice pa la ca])) 53 (.agg #[tV opb, iV enb, tV tb, tV ofb, .slice pb lb cb])) 55 (.agg #[tV opb, iV enb, tV tb, tV ofb, .slice pb lb cb])) 56 (.agg #[tV opa, iV ena, tV ta, tV ofa, .slice pa la ca])) 59 (.agg #[tV opa, iV ena, tV ta, tV ofa, .slice pa la ca])) 60 (.agg #[tV opb, iV enb, tV tb, tV ofb, .slice pb lb cb])) 63 (.agg #[tV opb, iV enb, tV tb, tV ofb, .slice pb lb cb])) 64 (.agg #[tV opa, iV ena, tV ta, tV ofa, .slice pa la ca])) 67 (.agg #[tV opa, iV ena, tV ta, tV ofa, .slice pa la ca])) 68 (.agg #[tV opb, iV enb, tV tb, tV ofb, .slice pb lb cb])) 70 (.agg #[tV opa, iV ena, tV ta, tV ofa, .slice pa la ca])) 73 (.agg #[tV sMinus, iV 0, tV [], tV [], .slice (some ⟨g72, 0, none⟩) 1 1])) 76 (.agg #[tV opa, iV ena, tV ta, tV ofa, .slice pa la ca])) 77 (.agg #[tV opb, iV enb, tV tb, tV ofb, .slice pb lb cb])) 79 (.agg #[tV opb, iV enb, tV tb, tV ofb, .slice pb lb cb])) 80 (.agg #[tV opa, iV ena, tV ta, tV ofa, .slice pa la ca])) (blk g72 [tV opb, iV enb, tV tb, tV ofb, .slice pb lb cb] 42 :: blk g42 [tV sNot, iV 0, tV [], tV [], .slice (some ⟨g39, 0, none⟩) 1 1, tV sNot, iV 0, tV [], tV [], .slice (some ⟨g41, 0, none⟩) 1 1] 42 :: blk g41 [tV opb, iV enb, tV tb, tV ofb, .slice pb lb cb] 42 :: blk g39 [tV opa, iV ena, tV ta, tV ofa, .slice pa la ca] 42 :: blk g37 [tV sAnd, iV 0, tV [], tV [], .slice (some ⟨g36, 0, none⟩) 2 2] 42 :: blk g36 [tV opa, iV ena, tV ta, tV ofa, .slice pa la ca, tV opb, iV enb, tV tb, tV ofb, .slice pb lb cb] 42 :: blk g32 [tV sNot, iV 0, tV [], tV [], .slice (some ⟨g29, 0, none⟩) 1 1, tV sNot, iV 0, tV [], tV [], .slice (some ⟨g31, 0, none⟩) 1 1] 42 :: blk g31 [tV opb, iV enb, tV tb, tV ofb, .slice pb lb cb] 42 :: blk g29 [tV opa, iV ena, tV ta, tV ofa, .slice pa la ca] 42 :: blk g27 [tV sOr, iV 0, tV [], tV [], .slice (some ⟨g26, 0, none⟩) 2 2] 42 :: blk g26 [tV opa, iV ena, tV ta, tV ofa, .slice pa la ca, tV opb, iV enb, tV tb, tV ofb, .slice pb lb cb] 42 :: row (.slice (some ⟨gs0, 0, none⟩) 2 ks) 31 3 2 (tblSc.flatMap coC) :: blk g4 [tV opb, iV enb, tV tb, tV ofb, .slice pb lb cb] 42 :: blk g3 [tV opa, iV ena, tV ta, tV ofa, .slice pa la ca] 42 :: F) := by
   intro f0 g72 g42 g41 g39 g37 g36 g32 g31 g29 g27 g26
   refine up _ _ _ _ ?_
   refine RW.one 22 (by kernel_rfl) ?_
   refine RO.eS rfl rfl (Ef.call (Be.two B sLt _ _ _ _ _ _ _ _ _ _ _ _ _ _) Try.func14 rfl rfl rfl ?_)
   rintro _ _ ⟨g46, rfl, rfl⟩
   try simp only [List.cons_append, List.nil_append]
   refine ⟨Sub.any, ?_⟩
   exact RW.use (dn _ _ _ _ (H11 _ g72 g46 g42 g41 g39 g37 g36 g32 g31 g29 g27 g26)) (by kernel_rfl) (updS rfl (updS rfl (updS rfl (updS rfl (updS rfl (updS rfl (updS rfl (updS rfl (updS rfl (updS rfl (updS rfl (updS rfl (updS rfl (updS rfl (updS rfl (updS rfl (updS rfl (updS rfl (updS rfl (updS rfl (updS rfl (updS rfl (updS rfl rfl))))))))))))))))))))))) Sub.any
  have H9 : ∀ (f0 : Fr) (g72 g41 g39 g37 g36 g32 g31 g29 g27 g26 : Nat), R 20 #[true, true, true, true, true, true, true, true, true, true, true, true, true, true, true, true, true, true, false, false, true, true, false, false, true, true, false, false, true, true, false, true, true, false, false, true, true, false, false, true, true, false, false, true, true, false, true, true, true, true, false, false, true, true, false, true, true, false, false, false, false] (upd (upd (upd (upd (upd (upd (upd (upd (upd (upd (upd (upd (upd (upd (upd (upd (upd (upd (upd (upd (upd (upd (upd (upd (upd (upd f0 2 (.slice ra m rc)) 7 (.slice (some ⟨gs0, 0, none⟩) 2 ks)) 33 (.agg #[tV sNot, iV 0, tV [], tV [], .slice (some ⟨g27, 0, none⟩) 1 1, tV sAnd, iV 0, tV [], tV [], .slice (some ⟨g32, 0, none⟩) 2 2])) 37 (.agg #[tV sNot, iV 0, tV [], tV [], .slice (some ⟨g37, 0, none⟩) 1 1])) 39 (.agg #[tV sNot, iV 0, tV [], tV [], .slice (some ⟨g39, 0, none⟩) 1 1])) 41 (.agg #[tV sNot, iV 0, tV [], tV [], .slice (some ⟨g41, 0, none⟩) 1 1])) 44 (.agg #[tV opa, iV ena, tV ta, tV ofa, .slice pa la ca])) 45 (.agg #[tV opb, iV enb, tV tb, tV ofb, .slice pb lb cb])) 48 (.agg #[tV opa, iV ena, tV ta, tV ofa, .slice pa la ca])) 49 (.agg #[tV opb, iV enb, tV tb, tV ofb, .slice pb lb cb])) 52 (.agg #[tV opa, iV ena, tV ta, tV ofa, .slice pa la ca])) 53 (.agg #[tV opb, iV enb, tV tb, tV ofb, .slice pb lb cb])) 55 (.agg #[tV opb, iV enb, tV tb, tV ofb, .slice pb lb cb])) 56 (.agg #[tV opa, iV ena, tV ta, tV ofa, .slice pa la ca])) 59 (.agg #[tV opa, iV ena, tV ta, tV ofa, .slice pa la ca])) 60 (.agg #[tV opb, iV enb, tV tb, tV ofb, .slice pb lb cb])) 63 (.agg #[tV opb, iV enb, tV tb, tV ofb, .slice pb lb cb])) 64 (.agg #[tV opa, iV ena, tV ta, tV ofa, .slice pa la ca])) 67 (.agg #[tV opa, iV ena, tV ta, tV ofa, .slice pa la ca])) 68 (.agg #[tV opb, iV enb, tV tb, tV ofb, .slice pb lb cb])) 70 (.agg #[tV opa, iV ena, tV ta, tV ofa, .slice pa la ca])) 73 (.agg #[tV sMinus, iV 0, tV [], tV [], .slice (some ⟨g72, 0, none⟩) 1 1])) 76 (.agg #[tV opa, iV ena, tV ta, tV ofa, .slice pa la ca])) 77 (.agg #[tV opb, iV enb, tV tb, tV ofb, .slice pb lb cb])) 79 (.agg #[tV opb, iV enb, tV tb, tV ofb, .slice pb lb cb])) 80 (.agg #[tV opa, iV ena, tV ta, tV ofa, .slice pa la ca])) (blk g72 [tV opb, iV enb, tV tb, tV ofb, .slice pb lb cb] 42 :: blk g41 [tV opb, iV enb, tV tb, tV ofb, .slice pb lb cb] 42 :: blk g39 [tV opa, iV ena, tV ta, tV ofa, .slice pa la ca] 42 :: blk g37 [tV sAnd, iV 0, tV [], tV [], .slice (some ⟨g36, 0, none⟩) 2 2] 42 :: blk g36 [tV opa, iV ena, tV ta, tV ofa, .slice pa la ca, tV opb, iV enb, tV tb, tV ofb, .slice pb lb cb] 42 :: blk g32 [tV sNot, iV 0, tV [], tV [], .slice (some ⟨g29, 0, none⟩) 1 1, tV sNot, iV 0, tV [], tV [], .slice (some ⟨g31, 0, none⟩) 1 1] 42 :: blk g31 [tV opb, iV enb, tV tb, tV ofb, .slice pb lb cb] 42 :: blk g29 [tV opa, iV ena, tV ta, tV ofa, .slice pa la ca] 42 :: blk g27 [tV sOr, iV 0, tV [], tV [], .slice (some ⟨g26, 0, none⟩) 2 2] 42 :: blk g26 [tV opa, iV ena, tV ta, tV ofa, .slice pa la ca, tV opb, iV enb, tV tb, tV ofb, .slice pb lb cb] 42 :: row (.slice (some ⟨gs0, 0, none⟩) 2 ks) 31 3 2 (tblSc.flatMap coC) :: blk g4 [tV opb, iV enb, tV tb, tV ofb, .slice pb lb cb] 42 :: blk g3 [tV opa, iV ena, tV ta, tV ofa, .slice pa la ca] 42 :: F) := by
   intro f0 g72 g41 g39 g37 g36 g32 g31 g29 g27 g26
   refine up _ _ _ _ ?_
   refine RW.one 18 (by kernel_rfl) ?_
   refine RO.eS rfl rfl (Ef.call (Be.two B sOr _ _ _ _ _ _ _ _ _ _ _ _ _ _) Try.func14 rfl rfl rfl ?_)
   rintro _ _ ⟨g42, rfl, rfl⟩
   try simp only [List.cons_append, List.nil_append]
   refine ⟨Sub.any, ?_⟩
   refine RW.q 19 rfl rfl (by kernel_rfl) Sub.any (Qt.buildAs [_, _] [_, _, _, _, _, _, _, _, _, _] (len := 2) (e := 42) (sz := 5) (by kernel_rfl) (by kernel_rfl) rfl (by simp [Value.cells]) rfl rfl (by omega)) ?_
   exact RW.use (dn _ _ _ _ (H10 _ g72 g42 g41 g39 g37 g36 g32 g31 g29 g27 g26)) (by kernel_rfl) (updS rfl (updS rfl (updS rfl (updS rfl (updS rfl (updS rfl (updS rfl (updS rfl (updS rfl (updS rfl (updS rfl (updS rfl (updS rfl (updS rfl (updS rfl (updS rfl (updS rfl (updS rfl (updS rfl (updS rfl (updS rfl (updS rfl (updS rfl (updS rfl rfl)))))))))))))))))))))))) Sub.any
  have H8 : ∀ (f0 : Fr) (g72 g39 g37 g36 g32 g31 g29 g27 g26 : Nat), R 21 #[true, true, true, true, true, true, true, true, true, true, true, true, true, true, true, true, true, false, false, false, true, true, false, false, true, true, false, false, true, true, false, true, true, false, false, true, true, false, false, true, true, false, false, true, true, false, true, true, true, true, false, false, true, true, false, true, true, false, false, false, false] (upd (upd (upd (upd (upd (upd (upd (upd (upd (upd (upd (upd (upd (upd (upd (upd (upd (upd (upd (upd (upd (upd (upd (upd (upd (upd f0 2 (.slice ra m rc)) 7 (.slice (some ⟨gs0, 0, none⟩) 2 ks)) 33 (.agg #[tV sNot, iV 0, tV [], tV [], .slice (some ⟨g27, 0, none⟩) 1 1, tV sAnd, iV 0, tV [], tV [], .slice (some ⟨g32, 0, none⟩) 2 2])) 37 (.agg #[tV sNot, iV 0, tV [], tV [], .slice (some ⟨g37, 0, none⟩) 1 1])) 39 (.agg #[tV sNot, iV 0, tV [], tV [], .slice (some ⟨g39, 0, none⟩) 1 1])) 40 (.agg #[tV opb, iV enb, tV tb, tV ofb, .slice pb lb cb])) 44 (.agg #[tV opa, iV ena, tV ta, tV ofa, .slice pa la ca])) 45 (.agg #[tV opb, iV enb, tV tb, tV ofb, .slice pb lb cb])) 48 (.agg #[tV opa, iV ena, tV ta, tV ofa, .slice pa la ca])) 49 (.agg #[tV opb, iV enb, tV tb, tV ofb, .slice pb lb cb])) 52 (.agg #[tV opa, iV ena, tV ta, tV ofa, .slice pa la ca])) 53 (.agg #[tV opb, iV enb, tV tb, tV ofb, .slice pb lb cb])) 55 (.agg #[tV opb, iV enb, tV tb, tV ofb, .slice pb lb cb])) 56 (.agg #[tV opa, iV ena, tV ta, tV ofa, .slice pa la ca])) 59 (.agg #[tV opa, iV ena, tV ta, tV ofa, .slice pa la ca])) 60 (.agg #[tV opb, iV enb, tV tb, tV ofb, .slice pb lb cb])) 63 (.agg #[tV opb, iV enb, tV tb, tV ofb, .slice pb lb cb])) 64 (.agg #[tV opa, iV ena, tV ta, tV ofa, .slice pa la ca])) 67 (.agg #[tV opa, iV ena, tV ta, tV ofa, .slice pa la ca])) 68 (.agg #[tV opb, iV enb, tV tb, tV ofb, .slice pb lb cb])) 70 (.agg #[tV opa, iV ena, tV ta, tV ofa, .slice pa la ca])) 73 (.agg #[tV sMinus, iV 0, tV [], tV [], .slice (some ⟨g72, 0, none⟩) 1 1])) 76 (.agg #[tV opa, iV ena, tV ta, tV ofa, .slice pa la ca])) 77 (.agg #[tV opb, iV enb, tV tb, tV ofb, .slice pb lb cb])) 79 (.agg #[tV opb, iV enb, tV tb, tV ofb, .slice pb lb cb])) 80 (.agg #[tV opa, iV ena, tV ta, tV ofa, .slice pa la ca])) (blk g72 [tV opb, iV enb, tV tb, tV ofb, .slice pb lb cb] 42 :: blk g39 [tV opa, iV ena, tV ta, tV ofa, .slice pa la ca] 42 :: blk g37 [tV sAnd, iV 0, tV [], tV [], .slice (some ⟨g36, 0, none⟩) 2 2] 42 :: blk g36 [tV opa, iV ena, tV ta, tV ofa, .slice pa la ca, tV opb, iV enb, tV tb, tV ofb, .slice pb lb cb] 42 :: blk g32 [tV sNot, iV 0, tV [], tV [], .slice (some ⟨g29, 0, none⟩) 1 1, tV sNot, iV 0, tV [], tV [], .slice (some ⟨g31, 0, none⟩) 1 1] 42 :: blk g31 [tV opb, iV enb, tV tb, tV ofb, .slice pb lb cb] 42 :: blk g29 [tV opa, iV ena, tV ta, tV ofa, .slice pa la ca] 42 :: blk g27 [tV sOr, iV 0, tV [], tV [], .slice (some ⟨g26, 0, none⟩) 2 2] 42 :: blk g26 [tV opa, iV ena, tV ta, tV ofa, .slice pa la ca, tV opb, iV enb, tV tb, tV ofb, .slice pb lb cb] 42 :: row (.slice (some ⟨gs0, 0, none⟩) 2 ks) 31 3 2 (tblSc.flatMap coC) :: blk g4 [tV opb, iV enb, tV tb, tV ofb, .slice pb lb cb] 42 :: blk g3 [tV opa, iV ena, tV ta, tV ofa, .slice pa la ca] 42 :: F) := by
   intro f0 g72 g39 g37 g36 g32 g31 g29 g27 g26
   refine up _ _ _ _ ?_
   refine RW.one 17 (by kernel_rfl) ?_
   refine RO.eS rfl rfl (Ef.call (Be.not B _ _ _ _ _ _ _) Try.func13 rfl rfl rfl ?_)
   rintro _ _ ⟨g41, rfl, rfl⟩
   try simp only [List.cons_append, List.nil_append]
   refine ⟨Sub.any, ?_⟩
   exact RW.use (dn _ _ _ _ (H9 _ g72 g41 g39 g37 g36 g32 g31 g29 g27 g26)) (by kernel_rfl) (updS rfl (updS rfl (updS rfl (updS rfl (updS rfl (updS rfl (updS rfl (updS rfl (updS rfl (updS rfl (updS rfl (updS rfl (updS rfl (updS rfl (updS rfl (updS rfl (updS rfl (updS rfl (updS rfl (updS rfl (updS rfl (updS rfl (updS rfl (updS rfl (updS rfl (updS rfl rfl)))))))))))))))))))))))))) Sub.any
  have H7 : ∀ (f0 : Fr) (g72 g37 g36 g32 g31 g29 g27 g26 : Nat), R 22 #[true, true, true, true, true, true, true, true, true, true, true, true, true, true, true, false, true, false, false, false, true, true, false, false, true, true, false, false, true, true, false, true, true, false, false, true, true, false, false, true, true, false, false, true, true, false, true, true, true, true, false, false, true, true, false, true, true, false, false, false, false] (upd (upd (upd (upd (upd (upd (upd (upd (upd (upd (upd (upd (upd (upd (upd (upd (upd (upd (upd (upd (upd (upd (upd (upd (upd (upd f0 2 (.slice ra m rc)) 7 (.slice (some ⟨gs0, 0, none⟩) 2 ks)) 33 (.agg #[tV sNot, iV 0, tV [], tV [], .slice (some ⟨g27, 0, none⟩) 1 1, tV sAnd, iV 0, tV [], tV [], .slice (some ⟨g32, 0, none⟩) 2 2])) 37 (.agg #[tV sNot, iV 0, tV [], tV [], .slice (some ⟨g37, 0, none⟩) 1 1])) 38 (.agg #[tV opa, iV ena, tV ta, tV ofa, .slice pa la ca])) 40 (.agg #[tV opb, iV enb, tV tb, tV ofb, .slice pb lb cb])) 44 (.agg #[tV opa, iV ena, tV ta, tV ofa, .slice pa la ca])) 45 (.agg #[tV opb, iV enb, tV tb, tV ofb, .slice pb lb cb])) 48 (.agg #[tV opa, iV ena, tV ta, tV ofa, .slice pa la ca])) 49 (.agg #[tV opb, iV enb, tV tb, tV ofb, .slice pb lb cb])) 52 (.agg #[tV opa, iV ena, tV ta, tV ofa, .slice pa la ca])) 53 (.agg #[tV opb, iV enb, tV tb, tV ofb, .slice pb lb cb])) 55 (.agg #[tV opb, iV enb, tV tb, tV ofb, .slice pb lb cb])) 56 (.agg #[tV opa, iV ena, tV ta, tV ofa, .slice pa la ca])) 59 (.agg #[tV opa, iV ena, tV ta, tV ofa, .slice pa la ca])) 60 (.agg #[tV opb, iV enb, tV tb, tV ofb, .slice pb lb cb])) 63 (.agg #[tV opb, iV enb, tV tb, tV ofb, .slice pb lb cb])) 64 (.agg #[tV opa, iV ena, tV ta, tV ofa, .slice pa la ca])) 67 (.agg #[tV opa, iV ena, tV ta, tV ofa, .slice pa la ca])) 68 (.agg #[tV opb, iV enb, tV tb, tV ofb, .slice pb lb cb])) 70 (.agg #[tV opa, iV ena, tV ta, tV ofa, .slice pa la ca])) 73 (.agg #[tV sMinus, iV 0, tV [], tV [], .slice (some ⟨g72, 0, none⟩) 1 1])) 76 (.agg #[tV opa, iV ena, tV ta, tV ofa, .slice pa la ca])) 77 (.agg #[tV opb, iV enb, tV tb, tV ofb, .slice pb lb cb])) 79 (.agg #[tV opb, iV enb, tV tb, tV ofb, .slice pb lb cb])) 80 (.agg #[tV opa, iV ena, tV ta, tV ofa, .slice pa la ca])) (blk g72 [tV opb, iV enb, tV tb, tV ofb, .slice pb lb cb] 42 :: blk g37 [tV sAnd, iV 0, tV [], tV [], .slice (some ⟨g36, 0, none⟩) 2 2] 42 :: blk g36 [tV opa, iV ena, tV ta, tV ofa, .slice pa la ca, tV opb, iV enb, tV tb, tV ofb, .slice pb lb cb] 42 :: blk g32 [tV sNot, iV 0, tV [], tV [], .slice (some ⟨g29, 0, none⟩) 1 1, tV sNot, iV 0, tV [], tV [], .slice (some ⟨g31, 0, none⟩) 1 1] 42 :: blk g31 [tV opb, iV enb, tV tb, tV ofb, .slice pb lb cb] 42 :: blk g29 [tV opa, iV ena, tV ta, tV ofa, .slice pa la ca] 42 :: blk g27 [tV sOr, iV 0, tV [], tV [], .slice (some ⟨g26, 0, none⟩) 2 2] 42 :: blk g26 [tV opa, iV ena, tV ta, tV ofa, .slice pa la ca, tV opb, iV enb, tV tb, tV ofb, .slice pb lb cb] 42 :: row (.slice (some ⟨gs0, 0, none⟩) 2 ks) 31 3 2 (tblSc.flatMap coC) :: blk g4 [tV opb, iV enb, tV tb, tV ofb, .slice pb lb cb] 42 :: blk g3 [tV opa, iV ena, tV ta, tV ofa, .slice pa la ca] 42 :: F) := by
   intro f0 g72 g37 g36 g32 g31 g29 g27 g26
   refine up _ _ _ _ ?_
   refine RW.one 15 (by kernel_rfl) ?_
   refine RO.eS rfl rfl (Ef.call (Be.not B _ _ _ _ _ _ _) Try.func13 rfl rfl rfl ?_)
   rintro _ _ ⟨g39, rfl, rfl⟩
   try simp only [List.cons_append, List.nil_append]
   refine ⟨Sub.any, ?_⟩
   exact RW.use (dn _ _ _ _ (H8 _ g72 g39 g37 g36 g32 g31 g29 g27 g26)) (by kernel_rfl) (updS rfl (updS rfl (updS rfl (updS rfl (updS rfl (updS rfl (updS rfl (updS rfl (updS rfl (updS rfl (updS rfl (updS rfl (updS rfl (updS rfl (updS rfl (updS rfl (updS rfl (updS rfl (updS rfl (updS rfl (updS rfl (updS rfl (updS rfl (updS rfl (updS rfl (updS rfl rfl)))))))))))))))))))))))))) Sub.any
  have H6 : ∀ (f0 : Fr) (g72 g36 g32 g31 g29 g27 g26 : Nat), R 23 #[true, true, true, true, true, true, true, true, true, true, true, true, true, false, true, false, true, false, false, false, true, true, false, false, true, true, false, false, true, true, false, true, true, false, false, true, true, false, false, true, true, false, false, true, true, false, true, true, true, true, false, false, true, true, false, true, true, false, false, false, false] (upd (upd (upd (upd (upd (upd (upd (upd (upd (upd (upd (upd (upd (upd (upd (upd (upd (upd (upd (upd (upd (upd (upd (upd (upd (upd f0 2 (.slice ra m rc)) 7 (.slice (some ⟨gs0, 0, none⟩) 2 ks)) 33 (.agg #[tV sNot, iV 0, tV [], tV [], .slice (some ⟨g27, 0, none⟩) 1 1, tV sAnd, iV 0, tV [], tV [], .slice (some ⟨g32, 0, none⟩) 2 2])) 36 (.agg #[tV sAnd, iV 0, tV [], tV [], .slice (some ⟨g36, 0, none⟩) 2 2])) 38 (.agg #[tV opa, iV ena, tV ta, tV ofa, .slice pa la ca])) 40 (.agg #[tV opb, iV enb, tV tb, tV ofb, .slice pb lb cb])) 44 (.agg #[tV opa, iV ena, tV ta, tV ofa, .slice pa la ca])) 45 (.agg #[tV opb, iV enb, tV tb, tV ofb, .slice pb lb cb])) 48 (.agg #[tV opa, iV ena, tV ta, tV ofa, .slice pa la ca])) 49 (.agg #[tV opb, iV enb, tV tb, tV ofb, .slice pb lb cb])) 52 (.agg #[tV opa, iV ena, tV ta, tV ofa, .slice pa la ca])) 53 (.agg #[tV opb, iV enb, tV tb, tV ofb, .slice pb lb cb])) 55 (.agg #[tV opb, iV enb, tV tb, tV ofb, .slice pb lb cb])) 56 (.agg #[tV opa, iV ena, tV ta, tV ofa, .slice pa la ca])) 59 (.agg #[tV opa, iV ena, tV ta, tV ofa, .slice pa la ca])) 60 (.agg #[tV opb, iV enb, tV tb, tV ofb, .slice pb lb cb])) 63 (.agg #[tV opb, iV enb, tV tb, tV ofb, .slice pb lb cb])) 64 (.agg #[tV opa, iV ena, tV ta, tV ofa, .slice pa la ca])) 67 (.agg #[tV opa, iV ena, tV ta, tV ofa, .slice pa la ca])) 68 (.agg #[tV opb, iV enb, tV tb, tV ofb, .slice pb lb cb])) 70 (.agg #[tV opa, iV ena, tV ta, tV ofa, .slice pa la ca])) 73 (.agg #[tV sMinus, iV 0, tV [], tV [], .slice (some ⟨g72, 0, none⟩) 1 1])) 76 (.agg #[tV opa, iV ena, tV ta, tV ofa, .slice pa la ca])) 77 (.agg #[tV opb, iV enb, tV tb, tV ofb, .slice pb lb cb])) 79 (.agg #[tV opb, iV enb, tV tb, tV ofb, .slice pb lb cb])) 80 (.agg #[tV opa, iV ena, tV ta, tV ofa, .slice pa la ca])) (blk g72 [tV opb, iV enb, tV tb, tV ofb, .slice pb lb cb] 42 :: blk g36 [tV opa, iV ena, tV ta, tV ofa, .slice pa la ca, tV opb, iV enb, tV tb, tV ofb, .slice pb lb cb] 42 :: blk g32 [tV sNot, iV 0, tV [], tV [], .slice (some ⟨g29, 0, none⟩) 1 1, tV sNot, iV 0, tV [], tV [], .slice (some ⟨g31, 0, none⟩) 1 1] 42 :: blk g31 [tV opb, iV enb, tV tb, tV ofb, .slice pb lb cb] 42 :: blk g29 [tV opa, iV ena, tV ta, tV ofa, .slice pa la ca] 42 :: blk g27 [tV sOr, iV 0, tV [], tV [], .slice (some ⟨g26, 0, none⟩) 2 2] 42 :: blk g26 [tV opa, iV ena, tV ta, tV ofa, .slice pa la ca, tV opb, iV enb, tV tb, tV ofb, .slice pb lb cb] 42 :: row (.slice (some ⟨gs0, 0, none⟩) 2 ks) 31 3 2 (tblSc.flatMap coC) :: blk g4 [tV opb, iV enb, tV tb, tV ofb, .slice pb lb cb] 42 :: blk g3 [tV opa, iV ena, tV ta, tV ofa, .slice pa la ca] 42 :: F) := by
   intro f0 g72 g36 g32 g31 g29 g27 g26
   refine up _ _ _ _ ?_
   refine RW.one 13 (by kernel_rfl) ?_
   refine RO.eS rfl rfl (Ef.call (Be.not B _ _ _ _ _ _ _) Try.func13 rfl rfl rfl ?_)
   rintro _ _ ⟨g37, rfl, rfl⟩
   try simp only [List.cons_append, List.nil_append]
   refine ⟨Sub.any, ?_⟩
   exact RW.use (dn _ _ _ _ (H7 _ g72 g37 g36 g32 g31 g29 g27 g26)) (by kernel_rfl) (updS rfl (updS rfl (updS rfl (updS rfl (updS rfl (updS rfl (updS rfl (updS rfl (updS rfl (updS rfl (updS rfl (updS rfl (updS rfl (updS rfl (updS rfl (updS rfl (updS rfl (updS rfl (updS rfl (updS rfl (updS rfl (updS rfl (updS rfl (updS rfl (updS rfl (updS rfl rfl)))))))))))))))))))))))))) Sub.any
  have H5 : ∀ (f0 : Fr) (g72 g32 g31 g29 g27 g26 : Nat), R 24 #[true, true, true, true, true, true, true, true, true, true, true, true, false, false, true, false, true, false, false, false, true, true, false, false, true, true, false, false, true, true, false, true, true, false, false, true, true, false, false, true, true, false, false, true, true, false, true, true, true, true, false, false, true, true, false, true, true, false, false, false, false] (upd (upd (upd (upd (upd (upd (upd (upd (upd (upd (upd (upd (upd (upd (upd (upd (upd (upd (upd (upd (upd (upd (upd (upd (upd (upd (upd f0 2 (.slice ra m rc)) 7 (.slice (some ⟨gs0, 0, none⟩) 2 ks)) 33 (.agg #[tV sNot, iV 0, tV [], tV [], .slice (some ⟨g27, 0, none⟩) 1 1, tV sAnd, iV 0, tV [], tV [], .slice (some ⟨g32, 0, none⟩) 2 2])) 34 (.agg #[tV opa, iV ena, tV ta, tV ofa, .slice pa la ca])) 35 (.agg #[tV opb, iV enb, tV tb, tV ofb, .slice pb lb cb])) 38 (.agg #[tV opa, iV ena, tV ta, tV ofa, .slice pa la ca])) 40 (.agg #[tV opb, iV enb, tV tb, tV ofb, .slice pb lb cb])) 44 (.agg #[tV opa, iV ena, tV ta, tV ofa, .slice pa la ca])) 45 (.agg #[tV opb, iV enb, tV tb, tV ofb, .slice pb lb cb])) 48 (.agg #[tV opa, iV ena, tV ta, tV ofa, .slice pa la ca])) 49 (.agg #[tV opb, iV enb, tV tb, tV ofb, .slice pb lb cb])) 52 (.agg #[tV opa, iV ena, tV ta, tV ofa, .slice pa la ca])) 53 (.agg #[tV opb, iV enb, tV tb, tV ofb, .slice pb lb cb])) 55 (.agg #[tV opb, iV enb, tV tb, tV ofb, .slice pb lb cb])) 56 (.agg #[tV opa, iV ena, tV ta, tV ofa, .slice pa la ca])) 59 (.agg #[tV opa, iV ena, tV ta, tV ofa, .slice pa la ca])) 60 (.agg #[tV opb, iV enb, tV tb, tV ofb, .slice pb lb cb])) 63 (.agg #[tV opb, iV enb, tV tb, tV ofb, .slice pb lb cb])) 64 (.agg #[tV opa, iV ena, tV ta, tV ofa, .slice pa la ca])) 67 (.agg #[tV opa, iV ena, tV ta, tV ofa, .slice pa la ca])) 68 (.agg #[tV opb, iV enb, tV tb, tV ofb, .slice pb lb cb])) 70 (.agg #[tV opa, iV ena, tV ta, tV ofa, .slice pa la ca])) 73 (.agg #[tV sMinus, iV 0, tV [], tV [], .slice (some ⟨g72, 0, none⟩) 1 1])) 76 (.agg #[tV opa, iV ena, tV ta, tV ofa, .slice pa la ca])) 77 (.agg #[tV opb, iV enb, tV tb, tV ofb, .slice pb lb cb])) 79 (.agg #[tV opb, iV enb, tV tb, tV ofb, .slice pb lb cb])) 80 (.agg #[tV opa, iV ena, tV ta, tV ofa, .slice pa la ca])) (blk g72 [tV opb, iV enb, tV tb, tV ofb, .slice pb lb cb] 42 :: blk g32 [tV sNot, iV 0, tV [], tV [], .slice (some ⟨g29, 0, none⟩) 1 1, tV sNot, iV 0, tV [], tV [], .slice (some ⟨g31, 0, none⟩) 1 1] 42 :: blk g31 [tV opb, iV enb, tV tb, tV ofb, .slice pb lb cb] 42 :: blk g29 [tV opa, iV ena, tV ta, tV ofa, .slice pa la ca] 42 :: blk g27 [tV sOr, iV 0, tV [], tV [], .slice (some ⟨g26, 0, none⟩) 2 2] 42 :: blk g26 [tV opa, iV ena, tV ta, tV ofa, .slice pa la ca, tV opb, iV enb, tV tb, tV ofb, .slice pb lb cb] 42 :: row (.slice (some ⟨gs0, 0, none⟩) 2 ks) 31 3 2 (tblSc.flatMap coC) :: blk g4 [tV opb, iV enb, tV tb, tV ofb, .slice pb lb cb] 42 :: blk g3 [tV opa, iV ena, tV ta, tV ofa, .slice pa la ca] 42 :: F) := by
   intro f0 g72 g32 g31 g29 g27 g26
   refine up _ _ _ _ ?_
   refine RW.one 12 (by kernel_rfl) ?_
   refine RO.eS rfl rfl (Ef.call (Be.two B sAnd _ _ _ _ _ _ _ _ _ _ _ _ _ _) Try.func14 rfl rfl rfl ?_)
   rintro _ _ ⟨g36, rfl, rfl⟩
   try simp only [List.cons_append, List.nil_append]
   refine ⟨Sub.any, ?_⟩
   exact RW.use (dn _ _ _ _ (H6 _ g72 g36 g32 g31 g29 g27 g26)) (by kernel_rfl) (updS rfl (updS rfl (updS rfl (updS rfl (updS rfl (updS rfl (updS rfl (updS rfl (updS rfl (updS rfl (updS rfl (updS rfl (updS rfl (updS rfl (updS rfl (updS rfl (updS rfl (updS rfl (updS rfl (updS rfl (updS rfl (updS rfl (updS rfl (updS rfl (updS rfl (updS rfl rfl)))))))))))))))))))))))))) Sub.any
  have H4 : ∀ (f0 : Fr) (g72 g31 g29 g27 g26 : Nat), R 26 #[true, true, true, true, true, true, true, true, false, false, true, true, false, false, true, false, true, false, false, false, true, true, false, false, true, true, false, false, true, true, false, true, true, false, false, true, true, false, false, true, true, false, false, true, true, false, true, true, true, true, false, false, true, true, false, true, true, false, false, false, false] (upd (upd (upd (upd (upd (upd (upd (upd (upd (upd (upd (upd (upd (upd (upd (upd (upd (upd (upd (upd (upd (upd (upd (upd (upd (upd (upd (upd (upd f0 2 (.slice ra m rc)) 7 (.slice (some ⟨gs0, 0, none⟩) 2 ks)) 27 (.agg #[tV sNot, iV 0, tV [], tV [], .slice (some ⟨g27, 0, none⟩) 1 1])) 29 (.agg #[tV sNot, iV 0, tV [], tV [], .slice (some ⟨g29, 0, none⟩) 1 1])) 31 (.agg #[tV sNot, iV 0, tV [], tV [], .slice (some ⟨g31, 0, none⟩) 1 1])) 34 (.agg #[tV opa, iV ena, tV ta, tV ofa, .slice pa la ca])) 35 (.agg #[tV opb, iV enb, tV tb, tV ofb, .slice pb lb cb])) 38 (.agg #[tV opa, iV ena, tV ta, tV ofa, .slice pa la ca])) 40 (.agg #[tV opb, iV enb, tV tb, tV ofb, .slice pb lb cb])) 44 (.agg #[tV opa, iV ena, tV ta, tV ofa, .slice pa la ca])) 45 (.agg #[tV opb, iV enb, tV tb, tV ofb, .slice pb lb cb])) 48 (.agg #[tV opa, iV ena, tV ta, tV ofa, .slice pa la ca])) 49 (.agg #[tV opb, iV enb, tV tb, tV ofb, .slice pb lb cb])) 52 (.agg #[tV opa, iV ena, tV ta, tV ofa, .slice pa la ca])) 53 (.agg #[tV opb, iV enb, tV tb, tV ofb, .slice pb lb cb])) 55 (.agg #[tV opb, iV enb, tV tb, tV ofb, .slice pb lb cb])) 56 (.agg #[tV opa, iV ena, tV ta, tV ofa, .slice pa la ca])) 59 (.agg #[tV opa, iV ena, tV ta, tV ofa, .slice pa la ca])) 60 (.agg #[tV opb, iV enb, tV tb, tV ofb, .slice pb lb cb])) 63 (.agg #[tV opb, iV enb, tV tb, tV ofb, .slice pb lb cb])) 64 (.agg #[tV opa, iV ena, tV ta, tV ofa, .slice pa la ca])) 67 (.agg #[tV opa, iV ena, tV ta, tV ofa, .slice pa la ca])) 68 (.agg #[tV opb, iV enb, tV tb, tV ofb, .slice pb lb cb])) 70 (.agg #[tV opa, iV ena, tV ta, tV ofa, .slice pa la ca])) 73 (.agg #[tV sMinus, iV 0, tV [], tV [], .slice (some ⟨g72, 0, none⟩) 1 1])) 76 (.agg #[tV opa, iV ena, tV ta, tV ofa, .slice pa la ca])) 77 (.agg #[tV opb, iV enb, tV tb, tV ofb, .slice pb lb cb])) 79 (.agg #[tV opb, iV enb, tV tb, tV ofb, .slice pb lb cb])) 80 (.agg #[tV opa, iV ena, tV ta, tV ofa, .slice pa la ca])) (blk g72 [tV opb, iV enb, tV tb, tV ofb, .slice pb lb cb] 42 :: blk g31 [tV opb, iV enb, tV tb, tV ofb, .slice pb lb cb] 42 :: blk g29 [tV opa, iV ena, tV ta, tV ofa, .slice pa la ca] 42 :: blk g27 [tV sOr, iV 0, tV [], tV [], .slice (some ⟨g26, 0, none⟩) 2 2] 42 :: blk g26 [tV opa, iV ena, tV ta, tV ofa, .slice pa la ca, tV opb, iV enb, tV tb, tV ofb, .slice pb lb cb] 42 :: row (.slice (some ⟨gs0, 0, none⟩) 2 ks) 31 3 2 (tblSc.flatMap coC) :: blk g4 [tV opb, iV enb, tV tb, tV ofb, .slice pb lb cb] 42 :: blk g3 [tV opa, iV ena, tV ta, tV ofa, .slice pa la ca] 42 :: F) := by
   intro f0 g72 g31 g29 g27 g26
   refine up _ _ _ _ ?_
   refine RW.one 8 (by kernel_rfl) ?_
   refine RO.eS rfl rfl (Ef.call (Be.two B sAnd _ _ _ _ _ _ _ _ _ _ _ _ _ _) Try.func14 rfl rfl rfl ?_)
   rintro _ _ ⟨g32, rfl, rfl⟩
   try simp only [List.cons_append, List.nil_append]
   refine ⟨Sub.any, ?_⟩
   refine RW.q 9 rfl rfl (by kernel_rfl) Sub.any (Qt.buildAs [_, _] [_, _, _, _, _, _, _, _, _, _] (len := 2) (e := 42) (sz := 5) (by kernel_rfl) (by kernel_rfl) rfl (by simp [Value.cells]) rfl rfl (by omega)) ?_
   exact RW.use (dn _ _ _ _ (H5 _ g72 g32 g31 g29 g27 g26)) (by kernel_rfl) (updS rfl (updS rfl (updS rfl (updS rfl (updS rfl (updS rfl (updS rfl (updS rfl (updS rfl (updS rfl (updS rfl (updS rfl (updS rfl (updS rfl (updS rfl (updS rfl (updS rfl (updS rfl (updS rfl (updS rfl (updS rfl (updS rfl (updS rfl (updS rfl (updS rfl (updS rfl (updS rfl rfl))))))))))))))))))))))))))) Sub.any
  have H3 : ∀ (f0 : Fr) (g72 g29 g27 g26 : Nat), R 27 #[true, true, true, true, true, true, true, false, false, false, true, true, false, false, true, false, true, false, false, false, true, true, false, false, true, true, false, false, true, true, false, true, true, false, false, true, true, false, false, true, true, false, false, true, true, false, true, true, true, true, false, false, true, true, false, true, true, false, false, false, false] (upd (upd (upd (upd (upd (upd (upd (upd (upd (upd (upd (upd (upd (upd (upd (upd (upd (upd (upd (upd (upd (upd (upd (upd (upd (upd (upd (upd (upd f0 2 (.slice ra m rc)) 7 (.slice (some ⟨gs0, 0, none⟩) 2 ks)) 27 (.agg #[tV sNot, iV 0, tV [], tV [], .slice (some ⟨g27, 0, none⟩) 1 1])) 29 (.agg #[tV sNot, iV 0, tV [], tV [], .slice (some ⟨g29, 0, none⟩) 1 1])) 30 (.agg #[tV opb, iV enb, tV tb, tV ofb, .slice pb lb cb])) 34 (.agg #[tV opa, iV ena, tV ta, tV ofa, .slice pa la ca])) 35 (.agg #[tV opb, iV enb, tV tb, tV ofb, .slice pb lb cb])) 38 (.agg #[tV opa, iV ena, tV ta, tV ofa, .slice pa la ca])) 40 (.agg #[tV opb, iV enb, tV tb, tV ofb, .slice pb lb cb])) 44 (.agg #[tV opa, iV ena, tV ta, tV ofa, .slice pa la ca])) 45 (.agg #[tV opb, iV enb, tV tb, tV ofb, .slice pb lb cb])) 48 (.agg #[tV opa, iV ena, tV ta, tV ofa, .slice pa la ca])) 49 (.agg #[tV opb, iV enb, tV tb, tV ofb, .slice pb lb cb])) 52 (.agg #[tV opa, iV ena, tV ta, tV ofa, .slice pa la ca])) 53 (.agg #[tV opb, iV enb, tV tb, tV ofb, .slice pb lb cb])) 55 (.agg #[tV opb, iV enb, tV tb, tV ofb, .slice pb lb cb])) 56 (.agg #[tV opa, iV ena, tV ta, tV ofa, .slice pa la ca])) 59 (.agg #[tV opa, iV ena, tV ta, tV ofa, .slice pa la ca])) 60 (.agg #[tV opb, iV enb, tV tb, tV ofb, .slice pb lb cb])) 63 (.agg #[tV opb, iV enb, tV tb, tV ofb, .slice pb lb cb])) 64 (.agg #[tV opa, iV ena, tV ta, tV ofa, .slice pa la ca])) 67 (.agg #[tV opa, iV ena, tV ta, tV ofa, .slice pa la ca])) 68 (.agg #[tV opb, iV enb, tV tb, tV ofb, .slice pb lb cb])) 70 (.agg #[tV opa, iV ena, tV ta, tV ofa, .slice pa la ca])) 73 (.agg #[tV sMinus, iV 0, tV [], tV [], .slice (some ⟨g72, 0, none⟩) 1 1])) 76 (.agg #[tV opa, iV ena, tV ta, tV ofa, .slice pa la ca])) 77 (.agg #[tV opb, iV enb, tV tb, tV ofb, .slice pb lb cb])) 79 (.agg #[tV opb, iV enb, tV tb, tV ofb, .slice pb lb cb])) 80 (.agg #[tV opa, iV ena, tV ta, tV ofa, .slice pa la ca])) (blk g72 [tV opb, iV enb, tV tb, tV ofb, .slice pb lb cb] 42 :: blk g29 [tV opa, iV ena, tV ta, tV ofa, .slice pa la ca] 42 :: blk g27 [tV sOr, iV 0, tV [], tV [], .slice (some ⟨g26, 0, none⟩) 2 2] 42 :: blk g26 [tV opa, iV ena, tV ta, tV ofa, .slice pa la ca, tV opb, iV enb, tV tb, tV ofb, .slice pb lb cb] 42 :: row (.slice (some ⟨gs0, 0, none⟩) 2 ks) 31 3 2 (tblSc.flatMap coC) :: blk g4 [tV opb, iV enb, tV tb, tV ofb, .slice pb lb cb] 42 :: blk g3 [tV opa, iV ena, tV ta, tV ofa, .slice pa la ca] 42 :: F) := by
   intro f0 g72 g29 g27 g26
   refine up _ _ _ _ ?_
   refine RW.one 7 (by kernel_rfl) ?_
   refine RO.eS rfl rfl (Ef.call (Be.not B _ _ _ _ _ _ _) Try.func13 rfl rfl rfl ?_)
   rintro _ _ ⟨g31, rfl, rfl⟩
   try simp only [List.cons_append, List.nil_append]
   refine ⟨Sub.any, ?_⟩
   exact RW.use (dn _ _ _ _ (H4 _ g72 g31 g29 g27 g26)) (by kernel_rfl) (updS rfl (updS rfl (updS rfl (updS rfl (updS rfl (updS rfl (updS rfl (updS rfl (updS rfl (updS rfl (updS rfl (updS rfl (updS rfl (updS rfl (updS rfl (updS rfl (updS rfl (updS rfl (updS rfl (updS rfl (updS rfl (updS rfl (updS rfl (updS rfl (updS rfl (updS rfl (updS rfl (updS rfl (updS rfl rfl))))))))))))))))))))))))))))) Sub.any
  have H2 : ∀ (f0 : Fr) (g72 g27 g26 : Nat), R 28 #[true, true, true, true, true, false, true, false, false, false, true, true, false, false, true, false, true, false, false, false, true, true, false, false, true, true, false, false, true, true, false, true, true, false, false, true, true, false, false, true, true, false, false, true, true, false, true, true, true, true, false, false, true, true, false, true, true, false, false, false, false] (upd (upd (upd (upd (upd (upd (upd (upd (upd (upd (upd (upd (upd (upd (upd (upd (upd (upd (upd (upd (upd (upd (upd (upd (upd (upd (upd (upd (upd f0 2 (.slice ra m rc)) 7 (.slice (some ⟨gs0, 0, none⟩) 2 ks)) 27 (.agg #[tV sNot, iV 0, tV [], tV [], .slice (some ⟨g27, 0, none⟩) 1 1])) 28 (.agg #[tV opa, iV ena, tV ta, tV ofa, .slice pa la ca])) 30 (.agg #[tV opb, iV enb, tV tb, tV ofb, .slice pb lb cb])) 34 (.agg #[tV opa, iV ena, tV ta, tV ofa, .slice pa la ca])) 35 (.agg #[tV opb, iV enb, tV tb, tV ofb, .slice pb lb cb])) 38 (.agg #[tV opa, iV ena, tV ta, tV ofa, .slice pa la ca])) 40 (.agg #[tV opb, iV enb, tV tb, tV ofb, .slice pb lb cb])) 44 (.agg #[tV opa, iV ena, tV ta, tV ofa, .slice pa la ca])) 45 (.agg #[tV opb, iV enb, tV tb, tV ofb, .slice pb lb cb])) 48 (.agg #[tV opa, iV ena, tV ta, tV ofa, .slice pa la ca])) 49 (.agg #[tV opb, iV enb, tV tb, tV ofb, .slice pb lb cb])) 52 (.agg #[tV opa, iV ena, tV ta, tV ofa, .slice pa la ca])) 53 (.agg #[tV opb, iV enb, tV tb, tV ofb, .slice pb lb cb])) 55 (.agg #[tV opb, iV enb, tV tb, tV ofb, .slice pb lb cb])) 56 (.agg #[tV opa, iV ena, tV ta, tV ofa, .slice pa la ca])) 59 (.agg #[tV opa, iV ena, tV ta, tV ofa, .slice pa la ca])) 60 (.agg #[tV opb, iV enb, tV tb, tV ofb, .slice pb lb cb])) 63 (.agg #[tV opb, iV enb, tV tb, tV ofb, .slice pb lb cb])) 64 (.agg #[tV opa, iV ena, tV ta, tV ofa, .slice pa la ca])) 67 (.agg #[tV opa, iV ena, tV ta, tV ofa, .slice pa la ca])) 68 (.agg #[tV opb, iV enb, tV tb, tV ofb, .slice pb lb cb])) 70 (.agg #[tV opa, iV ena, tV ta, tV ofa, .slice pa la ca])) 73 (.agg #[tV sMinus, iV 0, tV [], tV [], .slice (some ⟨g72, 0, none⟩) 1 1])) 76 (.agg #[tV opa, iV ena, tV ta, tV ofa, .slice pa la ca])) 77 (.agg #[tV opb, iV enb, tV tb, tV ofb, .slice pb lb cb])) 79 (.agg #[tV opb, iV enb, tV tb, tV ofb, .slice pb lb cb])) 80 (.agg #[tV opa, iV ena, tV ta, tV ofa, .slice pa la ca])) (blk g72 [tV opb, iV enb, tV tb, tV ofb, .slice pb lb cb] 42 :: blk g27 [tV sOr, iV 0, tV [], tV [], .slice (some ⟨g26, 0, none⟩) 2 2] 42 :: blk g26 [tV opa, iV ena, tV ta, tV ofa, .slice pa la ca, tV opb, iV enb, tV tb, tV ofb, .slice pb lb cb] 42 :: row (.slice (some ⟨gs0, 0, none⟩) 2 ks) 31 3 2 (tblSc.flatMap coC) :: blk g4 [tV opb, iV enb, tV tb, tV ofb, .slice pb lb cb] 42 :: blk g3 [tV opa, iV ena, tV ta, tV ofa, .slice pa la ca] 42 :: F) := by
   intro f0 g72 g27 g26
   refine up _ _ _ _ ?_
   refine RW.one 5 (by kernel_rfl) ?_
   refine RO.eS rfl rfl (Ef.call (Be.not B _ _ _ _ _ _ _) Try.func13 rfl rfl rfl ?_)
   rintro _ _ ⟨g29, rfl, rfl⟩
   try simp only [List.cons_append, List.nil_append]
   refine ⟨Sub.any, ?_⟩
   exact RW.use (dn _ _ _ _ (H3 _ g72 g29 g27 g26)) (by kernel_rfl) (updS rfl (updS rfl (updS rfl (updS rfl (updS rfl (updS rfl (updS rfl (updS rfl (updS rfl (updS rfl (updS rfl (updS rfl (updS rfl (updS rfl (updS rfl (updS rfl (updS rfl (updS rfl (updS rfl (updS rfl (updS rfl (updS rfl (updS rfl (updS rfl (updS rfl (updS rfl (updS rfl (updS rfl (updS rfl rfl))))))))))))))))))))))))))))) Sub.any
  have H1 : ∀ (f0 : Fr) (g72 g26 : Nat), R 29 #[true, true, true, false, true, false, true, false, false, false, true, true, false, false, true, false, true, false, false, false, true, true, false, false, true, true, false, false, true, true, false, true, true, false, false, true, true, false, false, true, true, false, false, true, true, false, true, true, true, true, false, false, true, true, false, true, true, false, false, false, false] (upd (upd (upd (upd (upd (upd (upd (upd (upd (upd (upd (upd (upd (upd (upd (upd (upd (upd (upd (upd (upd (upd (upd (upd (upd (upd (upd (upd (upd f0 2 (.slice ra m rc)) 7 (.slice (some ⟨gs0, 0, none⟩) 2 ks)) 26 (.agg #[tV sOr, iV 0, tV [], tV [], .slice (some ⟨g26, 0, none⟩) 2 2])) 28 (.agg #[tV opa, iV ena, tV ta, tV ofa, .slice pa la ca])) 30 (.agg #[tV opb, iV enb, tV tb, tV ofb, .slice pb lb cb])) 34 (.agg #[tV opa, iV ena, tV ta, tV ofa, .slice pa la ca])) 35 (.agg #[tV opb, iV enb, tV tb, tV ofb, .slice pb lb cb])) 38 (.agg #[tV opa, iV ena, tV ta, tV ofa, .slice pa la ca])) 40 (.agg #[tV opb, iV enb, tV tb, tV ofb, .slice pb lb cb])) 44 (.agg #[tV opa, iV ena, tV ta, tV ofa, .slice pa la ca])) 45 (.agg #[tV opb, iV enb, tV tb, tV ofb, .slice pb lb cb])) 48 (.agg #[tV opa, iV ena, tV ta, tV ofa, .slice pa la ca])) 49 (.agg #[tV opb, iV enb, tV tb, tV ofb, .slice pb lb cb])) 52 (.agg #[tV opa, iV ena, tV ta, tV ofa, .slice pa la ca])) 53 (.agg #[tV opb, iV enb, tV tb, tV ofb, .slice pb lb cb])) 55 (.agg #[tV opb, iV enb, tV tb, tV ofb, .slice pb lb cb])) 56 (.agg #[tV opa, iV ena, tV ta, tV ofa, .slice pa la ca])) 59 (.agg #[tV opa, iV ena, tV ta, tV ofa, .slice pa la ca])) 60 (.agg #[tV opb, iV enb, tV tb, tV ofb, .slice pb lb cb])) 63 (.agg #[tV opb, iV enb, tV tb, tV ofb, .slice pb lb cb])) 64 (.agg #[tV opa, iV ena, tV ta, tV ofa, .slice pa la ca])) 67 (.agg #[tV opa, iV ena, tV ta, tV ofa, .slice pa la ca])) 68 (.agg #[tV opb, iV enb, tV tb, tV ofb, .slice pb lb cb])) 70 (.agg #[tV opa, iV ena, tV ta, tV ofa, .slice pa la ca])) 73 (.agg #[tV sMinus, iV 0, tV [], tV [], .slice (some ⟨g72, 0, none⟩) 1 1])) 76 (.agg #[tV opa, iV ena, tV ta, tV ofa, .slice pa la ca])) 77 (.agg #[tV opb, iV enb, tV tb, tV ofb, .slice pb lb cb])) 79 (.agg #[tV opb, iV enb, tV tb, tV ofb, .slice pb lb cb])) 80 (.agg #[tV opa, iV ena, tV ta, tV ofa, .slice pa la ca])) (blk g72 [tV opb, iV enb, tV tb, tV ofb, .slice pb lb cb] 42 :: blk g26 [tV opa, iV ena, tV ta, tV ofa, .slice pa la ca, tV opb, iV enb, tV tb, tV ofb, .slice pb lb cb] 42 :: row (.slice (some ⟨gs0, 0, none⟩) 2 ks) 31 3 2 (tblSc.flatMap coC) :: blk g4 [tV opb, iV enb, tV tb, tV ofb, .slice pb lb cb] 42 :: blk g3 [tV opa, iV ena, tV ta, tV ofa, .slice pa la ca] 42 :: F) := by
   intro f0 g72 g26
   refine up _ _ _ _ ?_
   refine RW.one 3 (by kernel_rfl) ?_
   refine RO.eS rfl rfl (Ef.call (Be.not B _ _ _ _ _ _ _) Try.func13 rfl rfl rfl ?_)
   rintro _ _ ⟨g27, rfl, rfl⟩
   try simp only [List.cons_append, List.nil_append]
   refine ⟨Sub.any, ?_⟩
   exact RW.use (dn _ _ _ _ (H2 _ g72 g27 g26)) (by kernel_rfl) (updS rfl (updS rfl (updS rfl (updS rfl (updS rfl (updS rfl (updS rfl (updS rfl (updS rfl (updS rfl (updS rfl (updS rfl (updS rfl (updS rfl (updS rfl (updS rfl (updS rfl (updS rfl (updS rfl (updS rfl (updS rfl (updS rfl (updS rfl (updS rfl (updS rfl (updS rfl (updS rfl (updS rfl (updS rfl rfl))))))))))))))))))))))))))))) Sub.any
  have H0 : ∀ (f0 : Fr) (g72 : Nat), R 30 #[true, true, false, false, true, false, true, false, false, false, true, true, false, false, true, false, true, false, false, false, true, true, false, false, true, true, false, false, true, true, false, true, true, false, false, true, true, false, false, true, true, false, false, true, true, false, true, true, true, true, false, false, true, true, false, true, true, false, false, false, false] (upd (upd (upd (upd (upd (upd (upd (upd (upd (upd (upd (upd (upd (upd (upd (upd (upd (upd (upd (upd (upd (upd (upd (upd (upd (upd (upd (upd (upd (upd f0 2 (.slice ra m rc)) 7 (.slice (some ⟨gs0, 0, none⟩) 2 ks)) 24 (.agg #[tV opa, iV ena, tV ta, tV ofa, .slice pa la ca])) 25 (.agg #[tV opb, iV enb, tV tb, tV ofb, .slice pb lb cb])) 28 (.agg #[tV opa, iV ena, tV ta, tV ofa, .slice pa la ca])) 30 (.agg #[tV opb, iV enb, tV tb, tV ofb, .slice pb lb cb])) 34 (.agg #[tV opa, iV ena, tV ta, tV ofa, .slice pa la ca])) 35 (.agg #[tV opb, iV enb, tV tb, tV ofb, .slice pb lb cb])) 38 (.agg #[tV opa, iV ena, tV ta, tV ofa, .slice pa la ca])) 40 (.agg #[tV opb, iV enb, tV tb, tV ofb, .slice pb lb cb])) 44 (.agg #[tV opa, iV ena, tV ta, tV ofa, .slice pa la ca])) 45 (.agg #[tV opb, iV enb, tV tb, tV ofb, .slice pb lb cb])) 48 (.agg #[tV opa, iV ena, tV ta, tV ofa, .slice pa la ca])) 49 (.agg #[tV opb, iV enb, tV tb, tV ofb, .slice pb lb cb])) 52 (.agg #[tV opa, iV ena, tV ta, tV ofa, .slice pa la ca])) 53 (.agg #[tV opb, iV enb, tV tb, tV ofb, .slice pb lb cb])) 55 (.agg #[tV opb, iV enb, tV tb, tV ofb, .slice pb lb cb])) 56 (.agg #[tV opa, iV ena, tV ta, tV ofa, .slice pa la ca])) 59 (.agg #[tV opa, iV ena, tV ta, tV ofa, .slice pa la ca])) 60 (.agg #[tV opb, iV enb, tV tb, tV ofb, .slice pb lb cb])) 63 (.agg #[tV opb, iV enb, tV tb, tV ofb, .slice pb lb cb])) 64 (.agg #[tV opa, iV ena, tV ta, tV ofa, .slice pa la ca])) 67 (.agg #[tV opa, iV ena, tV ta, tV ofa, .slice pa la ca])) 68 (.agg #[tV opb, iV enb, tV tb, tV ofb, .slice pb lb cb])) 70 (.agg #[tV opa, iV ena, tV ta, tV ofa, .slice pa la ca])) 73 (.agg #[tV sMinus, iV 0, tV [], tV [], .slice (some ⟨g72, 0, none⟩) 1 1])) 76 (.agg #[tV opa, iV ena, tV ta, tV ofa, .slice pa la ca])) 77 (.agg #[tV opb, iV enb, tV tb, tV ofb, .slice pb lb cb])) 79 (.agg #[tV opb, iV enb, tV tb, tV ofb, .slice pb lb cb])) 80 (.agg #[tV opa, iV ena, tV ta, tV ofa, .slice pa la ca])) (blk g72 [tV opb, iV enb, tV tb, tV ofb, .slice pb lb cb] 42 :: row (.slice (some ⟨gs0, 0, none⟩) 2 ks) 31 3 2 (tblSc.flatMap coC) :: blk g4 [tV opb, iV enb, tV tb, tV ofb, .slice pb lb cb] 42 :: blk g3 [tV opa, iV ena, tV ta, tV ofa, .slice pa la ca] 42 :: F) := by
   intro f0 g72
   refine up _ _ _ _ ?_
   refine RW.one 2 (by kernel_rfl) ?_
   refine RO.eS rfl rfl (Ef.call (Be.two B sOr _ _ _ _ _ _ _ _ _ _ _ _ _ _) Try.func14 rfl rfl rfl ?_)
   rintro _ _ ⟨g26, rfl, rfl⟩
   try simp only [List.cons_append, List.nil_append]
   refine ⟨Sub.any, ?_⟩
   exact RW.use (dn _ _ _ _ (H1 _ g72 g26)) (by kernel_rfl) (updS rfl (updS rfl (updS rfl (updS rfl (updS rfl (updS rfl (updS rfl (updS rfl (updS rfl (updS rfl (updS rfl (updS rfl (updS rfl (updS rfl (updS rfl (updS rfl (updS rfl (updS rfl (updS rfl (updS rfl (updS rfl (updS rfl (updS rfl (updS rfl (updS rfl (updS rfl (updS rfl (updS rfl (updS rfl rfl))))))))))))))))))))))))))))) Sub.any
  refine up _ _ _ _ ?_
  refine RW.q 0 rfl rfl (by kernel_rfl) Sub.any (Qt.loadAgg [_, _, _, _, _] (by kernel_rfl) rfl ⟨rfl, rfl, rfl, rfl, rfl, trivial⟩) ?_
  refine RW.q 1 rfl rfl (by kernel_rfl) Sub.any (Qt.loadAgg [_, _, _, _, _] (by kernel_rfl) rfl ⟨rfl, rfl, rfl, rfl, rfl, trivial⟩) ?_
  refine RW.q 4 rfl rfl (by kernel_rfl) Sub.any (Qt.loadAgg [_, _, _, _, _] (by kernel_rfl) rfl ⟨rfl, rfl, rfl, rfl, rfl, trivial⟩) ?_
  refine RW.q 6 rfl rfl (by kernel_rfl) Sub.any (Qt.loadAgg [_, _, _, _, _] (by kernel_rfl) rfl ⟨rfl, rfl, rfl, rfl, rfl, trivial⟩) ?_
  refine RW.q 10 rfl rfl (by kernel_rfl) Sub.any (Qt.loadAgg [_, _, _, _, _] (by kernel_rfl) rfl ⟨rfl, rfl, rfl, rfl, rfl, trivial⟩) ?_
  refine RW.q 11 rfl rfl (by kernel_rfl) Sub.any (Qt.loadAgg [_, _, _, _, _] (by kernel_rfl) rfl ⟨rfl, rfl, rfl, rfl, rfl, trivial⟩) ?_
  refine RW.q 14 rfl rfl (by kernel_rfl) Sub.any (Qt.loadAgg [_, _, _, _, _] (by kernel_rfl) rfl ⟨rfl, rfl, rfl, rfl, rfl, trivial⟩) ?_
  refine RW.q 16 rfl rfl (by kernel_rfl) Sub.any (Qt.loadAgg [_, _, _, _, _] (by kernel_rfl) rfl ⟨rfl, rfl, rfl, rfl, rfl, trivial⟩) ?_
  refine RW.q 20 rfl rfl (by kernel_rfl) Sub.any (Qt.loadAgg [_, _, _, _, _] (by kernel_rfl) rfl ⟨rfl, rfl, rfl, rfl, rfl, trivial⟩) ?_
  refine RW.q 21 rfl rfl (by kernel_rfl) Sub.any (Qt.loadAgg [_, _, _, _, _] (by kernel_rfl) rfl ⟨rfl, rfl, rfl, rfl, rfl, trivial⟩) ?_
  refine RW.q 24 rfl rfl (by kernel_rfl) Sub.any (Qt.loadAgg [_, _, _, _, _] (by kernel_rfl) rfl ⟨rfl, rfl, rfl, rfl, rfl, trivial⟩) ?_
  refine RW.q 25 rfl rfl (by kernel_rfl) Sub.any (Qt.loadAgg [_, _, _, _, _] (by kernel_rfl) rfl ⟨rfl, rfl, rfl, rfl, rfl, trivial⟩) ?_
  refine RW.q 28 rfl rfl (by kernel_rfl) Sub.any (Qt.loadAgg [_, _, _, _, _] (by kernel_rfl) rfl ⟨rfl, rfl, rfl, rfl, rfl, trivial⟩) ?_
  refine RW.q 29 rfl rfl (by kernel_rfl) Sub.any (Qt.loadAgg [_, _, _, _, _] (by kernel_rfl) rfl ⟨rfl, rfl, rfl, rfl, rfl, trivial⟩) ?_
  refine RW.q 31 rfl rfl (by kernel_rfl) Sub.any (Qt.loadAgg [_, _, _, _, _] (by kernel_rfl) rfl ⟨rfl, rfl, rfl, rfl, rfl, trivial⟩) ?_
  refine RW.q 32 rfl rfl (by kernel_rfl) Sub.any (Qt.loadAgg [_, _, _, _, _] (by kernel_rfl) rfl ⟨rfl, rfl, rfl, rfl, rfl, trivial⟩) ?_
  refine RW.q 35 rfl rfl (by kernel_rfl) Sub.any (Qt.loadAgg [_, _, _, _, _] (by kernel_rfl) rfl ⟨rfl, rfl, rfl, rfl, rfl, trivial⟩) ?_
  refine RW.q 36 rfl rfl (by kernel_rfl) Sub.any (Qt.loadAgg [_, _, _, _, _] (by kernel_rfl) rfl ⟨rfl, rfl, rfl, rfl, rfl, trivial⟩) ?_
  refine RW.q 39 rfl rfl (by kernel_rfl) Sub.any (Qt.loadAgg [_, _, _, _, _] (by kernel_rfl) rfl ⟨rfl, rfl, rfl, rfl, rfl, trivial⟩) ?_
  refine RW.q 40 rfl rfl (by kernel_rfl) Sub.any (Qt.loadAgg [_, _, _, _, _] (by kernel_rfl) rfl ⟨rfl, rfl, rfl, rfl, rfl, trivial⟩) ?_
  refine RW.q 43 rfl rfl (by kernel_rfl) Sub.any (Qt.loadAgg [_, _, _, _, _] (by kernel_rfl) rfl ⟨rfl, rfl, rfl, rfl, rfl, trivial⟩) ?_
  refine RW.q 44 rfl rfl (by kernel_rfl) Sub.any (Qt.loadAgg [_, _, _, _, _] (by kernel_rfl) rfl ⟨rfl, rfl, rfl, rfl, rfl, trivial⟩) ?_
  refine RW.q 46 rfl rfl (by kernel_rfl) Sub.any (Qt.loadAgg [_, _, _, _, _] (by kernel_rfl) rfl ⟨rfl, rfl, rfl, rfl, rfl, trivial⟩) ?_
  refine RW.q 47 rfl rfl (by kernel_rfl) Sub.any (Qt.loadAgg [_, _, _, _, _] (by kernel_rfl) rfl ⟨rfl, rfl, rfl, rfl, rfl, trivial⟩) ?_
  refine RW.q 52 rfl rfl (by kernel_rfl) Sub.any (Qt.loadAgg [_, _, _, _, _] (by kernel_rfl) rfl ⟨rfl, rfl, rfl, rfl, rfl, trivial⟩) ?_
  refine RW.q 53 rfl rfl (by kernel_rfl) Sub.any (Qt.loadAgg [_, _, _, _, _] (by kernel_rfl) rfl ⟨rfl, rfl, rfl, rfl, rfl, trivial⟩) ?_
  refine RW.q 55 rfl rfl (by kernel_rfl) Sub.any (Qt.loadAgg [_, _, _, _, _] (by kernel_rfl) rfl ⟨rfl, rfl, rfl, rfl, rfl, trivial⟩) ?_
  refine RW.q 56 rfl rfl (by kernel_rfl) Sub.any (Qt.loadAgg [_, _, _, _, _] (by kernel_rfl) rfl ⟨rfl, rfl, rfl, rfl, rfl, trivial⟩) ?_
  refine RW.all [2, 48] (by kernel_rfl) (List.forall_mem_cons.2 ⟨?_, List.forall_mem_cons.2 ⟨?_, List.forall_mem_nil _⟩⟩)
  rotate_left
  ·
   refine RO.eS rfl rfl (Ef.one [_, _, _, _, _] (e := 42) (sz := 5) (by kernel_rfl) ⟨.agg #[.string .empty, .int .i64 0, .string .empty, .string .empty, .slice none 0 0], by kernel_rfl, rfl⟩ rfl rfl rfl (by omega) (by omega) ?_)
   intro g72
   refine ⟨Sub.any, ?_⟩
   refine RW.q 49 rfl rfl (by kernel_rfl) Sub.any (Qt.build [(0, 1), (1, 1), (2, 1), (3, 1), (4, 1)] [.string .empty, .int .i64 0, .string .empty, .string .empty, .slice none 0 0] [_, _, _, _, _] [(0, _), (4, _)] (by kernel_rfl) (by unfold zeroB; kernel_rfl) rfl rfl) ?_
   exact RW.use (dn _ _ _ _ (H0 _ g72)) (by kernel_rfl) (updS rfl (updS rfl (updS rfl (updS rfl (updS rfl (updS rfl (updS rfl (updS rfl (updS rfl (updS rfl (updS rfl (updS rfl (updS rfl (updS rfl (updS rfl (updS rfl (updS rfl (updS rfl (updS rfl (updS rfl (updS rfl (updS rfl (updS rfl (updS rfl (updS rfl (updS rfl (updS rfl (updS rfl (updS rfl (updS rfl rfl)))))))))))))))))))))))))))))) Sub.any
  refine RO.eS rfl rfl (Ef.call (Be.two B sOr _ _ _ _ _ _ _ _ _ _ _ _ _ _) Try.func14 rfl rfl rfl ?_)
  rintro _ _ ⟨g26, rfl, rfl⟩
  try simp only [List.cons_append, List.nil_append]
  refine ⟨Sub.any, ?_⟩
  refine RW.all [3, 48] (by kernel_rfl) (List.forall_mem_cons.2 ⟨?_, List.forall_mem_cons.2 ⟨?_, List.forall_mem_nil _⟩⟩)
  rotate_left
  ·
   refine RO.eS rfl rfl (Ef.one [_, _, _, _, _] (e := 42) (sz := 5) (by kernel_rfl) ⟨.agg #[.string .empty, .int .i64 0, .string .empty, .string .empty, .slice none 0 0], by kernel_rfl, rfl⟩ rfl rfl rfl (by omega) (by omega) ?_)
   intro g72
   refine ⟨Sub.any, ?_⟩
   refine RW.q 49 rfl rfl (by kernel_rfl) Sub.any (Qt.build [(0, 1), (1, 1), (2, 1), (3, 1), (4, 1)] [.string .empty, .int .i64 0, .string .empty, .string .empty, .slice none 0 0] [_, _, _, _, _] [(0, _), (4, _)] (by kernel_rfl) (by unfold zeroB; kernel_rfl) rfl rfl) ?_
   exact RW.use (dn _ _ _ _ (H1 _ g72 g26)) (by kernel_rfl) (updS rfl (updS rfl (updS rfl (updS rfl (updS rfl (updS rfl (updS rfl (updS rfl (updS rfl (updS rfl (updS rfl (updS rfl (updS rfl (updS rfl (updS rfl (updS rfl (updS rfl (updS rfl (updS rfl (updS rfl (updS rfl (updS rfl (updS rfl (updS rfl (updS rfl (updS rfl (updS rfl (updS rfl (updS rfl rfl))))))))))))))))))))))))))))) Sub.any
  refine RO.eS rfl rfl (Ef.call (Be.not B _ _ _ _ _ _ _) Try.func13 rfl rfl rfl ?_)
  rintro _ _ ⟨g27, rfl, rfl⟩
  try simp only [List.cons_append, List.nil_append]
  refine ⟨Sub.any, ?_⟩
  refine RW.all [5, 48] (by kernel_rfl) (List.forall_mem_cons.2 ⟨?_, List.forall_mem_cons.2 ⟨?_, List.forall_mem_nil _⟩⟩)
  rotate_left
  ·
   refine RO.eS rfl rfl (Ef.one [_, _, _, _, _] (e := 42) (sz := 5) (by kernel_rfl) ⟨.agg #[.string .empty, .int .i64 0, .string .empty, .string .empty, .slice none 0 0], by kernel_rfl, rfl⟩ rfl rfl rfl (by omega) (by omega) ?_)
   intro g72
   refine ⟨Sub.any, ?_⟩
   refine RW.q 49 rfl rfl (by kernel_rfl) Sub.any (Qt.build [(0, 1), (1, 1), (2, 1), (3, 1), (4, 1)] [.string .empty, .int .i64 0, .string .empty, .string .empty, .slice none 0 0] [_, _, _, _, _] [(0, _), (4, _)] (by kernel_rfl) (by unfold zeroB; kernel_rfl) rfl rfl) ?_
   exact RW.use (dn _ _ _ _ (H2 _ g72 g27 g26)) (by kernel_rfl) (updS rfl (updS rfl (updS rfl (updS rfl (updS rfl (updS rfl (updS rfl (updS rfl (updS rfl (updS rfl (updS rfl (updS rfl (updS rfl (updS rfl (updS rfl (updS rfl (updS rfl (updS rfl (updS rfl (updS rfl (updS rfl (updS rfl (updS rfl (updS rfl (updS rfl (updS rfl (updS rfl (updS rfl (updS rfl rfl))))))))))))))))))))))))))))) Sub.any
  refine RO.eS rfl rfl (Ef.call (Be.not B _ _ _ _ _ _ _) Try.func13 rfl rfl rfl ?_)
  rintro _ _ ⟨g29, rfl, rfl⟩
  try simp only [List.cons_append, List.nil_append]
  refine ⟨Sub.any, ?_⟩
  refine RW.all [7, 48] (by kernel_rfl) (List.forall_mem_cons.2 ⟨?_, List.forall_mem_cons.2 ⟨?_, List.forall_mem_nil _⟩⟩)
  rotate_left
  ·
   refine RO.eS rfl rfl (Ef.one [_, _, _, _, _] (e := 42) (sz := 5) (by kernel_rfl) ⟨.agg #[.string .empty, .int .i64 0, .string .empty, .string .empty, .slice none 0 0], by kernel_rfl, rfl⟩ rfl rfl rfl (by omega) (by omega) ?_)
   intro g72
   refine ⟨Sub.any, ?_⟩
   refine RW.q 49 rfl rfl (by kernel_rfl) Sub.any (Qt.build [(0, 1), (1, 1), (2, 1), (3, 1), (4, 1)] [.string .empty, .int .i64 0, .string .empty, .string .empty, .slice none 0 0] [_, _, _, _, _] [(0, _), (4, _)] (by kernel_rfl) (by unfold zeroB; kernel_rfl) rfl rfl) ?_
   exact RW.use (dn _ _ _ _ (H3 _ g72 g29 g27 g26)) (by kernel_rfl) (updS rfl (updS rfl (updS rfl (updS rfl (updS rfl (updS rfl (updS rfl (updS rfl (updS rfl (updS rfl (updS rfl (updS rfl (updS rfl (updS rfl (updS rfl (updS rfl (updS rfl (updS rfl (updS rfl (updS rfl (updS rfl (updS rfl (updS rfl (updS rfl (updS rfl (updS rfl (updS rfl (updS rfl (updS rfl rfl))))))))))))))))))))))))))))) Sub.any
  refine RO.eS rfl rfl (Ef.call (Be.not B _ _ _ _ _ _ _) Try.func13 rfl rfl rfl ?_)
  rintro _ _ ⟨g31, rfl, rfl⟩
  try simp only [List.cons_append, List.nil_append]
  refine ⟨Sub.any, ?_⟩
  refine RW.all [8, 48] (by kernel_rfl) (List.forall_mem_cons.2 ⟨?_, List.forall_mem_cons.2 ⟨?_, List.forall_mem_nil _⟩⟩)
  rotate_left
  ·
   refine RO.eS rfl rfl (Ef.one [_, _, _, _, _] (e := 42) (sz := 5) (by kernel_rfl) ⟨.agg #[.string .empty, .int .i64 0, .string .empty, .string .empty, .slice none 0 0], by kernel_rfl, rfl⟩ rfl rfl rfl (by omega) (by omega) ?_)
   intro g72
   refine ⟨Sub.any, ?_⟩
   refine RW.q 49 rfl rfl (by kernel_rfl) Sub.any (Qt.build [(0, 1), (1, 1), (2, 1), (3, 1), (4, 1)] [.string .empty, .int .i64 0, .string .empty, .string .empty, .slice none 0 0] [_, _, _, _, _] [(0, _), (4, _)] (by kernel_rfl) (by unfold zeroB; kernel_rfl) rfl rfl) ?_
   exact RW.use (dn _ _ _ _ (H4 _ g72 g31 g29 g27 g26)) (by kernel_rfl) (updS rfl (updS rfl (updS rfl (updS rfl (updS rfl (updS rfl (updS rfl (updS rfl (updS rfl (updS rfl (updS rfl (updS rfl (updS rfl (updS rfl (updS rfl (updS rfl (updS rfl (updS rfl (updS rfl (updS rfl (updS rfl (updS rfl (updS rfl (updS rfl (updS rfl (updS rfl (updS rfl (updS rfl (updS rfl rfl))))))))))))))))))))))))))))) Sub.any
  refine RO.eS rfl rfl (Ef.call (Be.two B sAnd _ _ _ _ _ _ _ _ _ _ _ _ _ _) Try.func14 rfl rfl rfl ?_)
  rintro _ _ ⟨g32, rfl, rfl⟩
  try simp only [List.cons_append, List.nil_append]
  refine ⟨Sub.any, ?_⟩
  refine RW.q 9 rfl rfl (by kernel_rfl) Sub.any (Qt.buildAs [_, _] [_, _, _, _, _, _, _, _, _, _] (len := 2) (e := 42) (sz := 5) (by kernel_rfl) (by kernel_rfl) rfl (by simp [Value.cells]) rfl rfl (by omega)) ?_
  refine RW.all [12, 48] (by kernel_rfl) (List.forall_mem_cons.2 ⟨?_, List.forall_mem_cons.2 ⟨?_, List.forall_mem_nil _⟩⟩)
  rotate_left
  ·
   refine RO.eS rfl rfl (Ef.one [_, _, _, _, _] (e := 42) (sz := 5) (by kernel_rfl) ⟨.agg #[.string .empty, .int .i64 0, .string .empty, .string .empty, .slice none 0 0], by kernel_rfl, rfl⟩ rfl rfl rfl (by omega) (by omega) ?_)
   intro g72
   refine ⟨Sub.any, ?_⟩
   refine RW.q 49 rfl rfl (by kernel_rfl) Sub.any (Qt.build [(0, 1), (1, 1), (2, 1), (3, 1), (4, 1)] [.string .empty, .int .i64 0, .string .empty, .string .empty, .slice none 0 0] [_, _, _, _, _] [(0, _), (4, _)] (by kernel_rfl) (by unfold zeroB; kernel_rfl) rfl rfl) ?_
   exact RW.use (dn _ _ _ _ (H5 _ g72 g32 g31 g29 g27 g26)) (by kernel_rfl) (updS rfl (updS rfl (updS rfl (updS rfl (updS rfl (updS rfl (updS rfl (updS rfl (updS rfl (updS rfl (updS rfl (updS rfl (updS rfl (updS rfl (updS rfl (updS rfl (updS rfl (updS rfl (updS rfl (updS rfl (updS rfl (updS rfl (updS rfl (updS rfl (updS rfl (updS rfl (updS rfl rfl))))))))))))))))))))))))))) Sub.any
  refine RO.eS rfl rfl (Ef.call (Be.two B sAnd _ _ _ _ _ _ _ _ _ _ _ _ _ _) Try.func14 rfl rfl rfl ?_)
  rintro _ _ ⟨g36, rfl, rfl⟩
  try simp only [List.cons_append, List.nil_append]
  refine ⟨Sub.any, ?_⟩
  refine RW.all [13, 48] (by kernel_rfl) (List.forall_mem_cons.2 ⟨?_, List.forall_mem_cons.2 ⟨?_, List.forall_mem_nil _⟩⟩)
  rotate_left
  ·
   refine RO.eS rfl rfl (Ef.one [_, _, _, _, _] (e := 42) (sz := 5) (by kernel_rfl) ⟨.agg #[.string .empty, .int .i64 0, .string .empty, .string .empty, .slice none 0 0], by kernel_rfl, rfl⟩ rfl rfl rfl (by omega) (by omega) ?_)
   intro g72
   refine ⟨Sub.any, ?_⟩
   refine RW.q 49 rfl rfl (by kernel_rfl) Sub.any (Qt.build [(0, 1), (1, 1), (2, 1), (3, 1), (4, 1)] [.string .empty, .int .i64 0, .string .empty, .string .empty, .slice none 0 0] [_, _, _, _, _] [(0, _), (4, _)] (by kernel_rfl) (by unfold zeroB; kernel_rfl) rfl rfl) ?_
   exact RW.use (dn _ _ _ _ (H6 _ g72 g36 g32 g31 g29 g27 g26)) (by kernel_rfl) (updS rfl (updS rfl (updS rfl (updS rfl (updS rfl (updS rfl (updS rfl (updS rfl (updS rfl (updS rfl (updS rfl (updS rfl (updS rfl (updS rfl (updS rfl (updS rfl (updS rfl (updS rfl (updS rfl (updS rfl (updS rfl (updS rfl (updS rfl (updS rfl (updS rfl (updS rfl rfl)))))))))))))))))))))))))) Sub.any
  refine RO.eS rfl rfl (Ef.call (Be.not B _ _ _ _ _ _ _) Try.func13 rfl rfl rfl ?_)
  rintro _ _ ⟨g37, rfl, rfl⟩
  try simp only [List.cons_append, List.nil_append]
  refine ⟨Sub.any, ?_⟩
  refine RW.all [15, 48] (by kernel_rfl) (List.forall_mem_cons.2 ⟨?_, List.forall_mem_cons.2 ⟨?_, List.forall_mem_nil _⟩⟩)
  rotate_left
  ·
   refine RO.eS rfl rfl (Ef.one [_, _, _, _, _] (e := 42) (sz := 5) (by kernel_rfl) ⟨.agg #[.string .empty, .int .i64 0, .string .empty, .string .empty, .slice none 0 0], by kernel_rfl, rfl⟩ rfl rfl rfl (by omega) (by omega) ?_)
   intro g72
   refine ⟨Sub.any, ?_⟩
   refine RW.q 49 rfl rfl (by kernel_rfl) Sub.any (Qt.build [(0, 1), (1, 1), (2, 1), (3, 1), (4, 1)] [.string .empty, .int .i64 0, .string .empty, .string .empty, .slice none 0 0] [_, _, _, _, _] [(0, _), (4, _)] (by kernel_rfl) (by unfold zeroB; kernel_rfl) rfl rfl) ?_
   exact RW.use (dn _ _ _ _ (H7 _ g72 g37 g36 g32 g31 g29 g27 g26)) (by kernel_rfl) (updS rfl (updS rfl (updS rfl (updS rfl (updS rfl (updS rfl (updS rfl (updS rfl (updS rfl (updS rfl (updS rfl (updS rfl (updS rfl (updS rfl (updS rfl (updS rfl (updS rfl (updS rfl (updS rfl (updS rfl (updS rfl (updS rfl (updS rfl (updS rfl (updS rfl (updS rfl rfl)))))))))))))))))))))))))) Sub.any
  refine RO.eS rfl rfl (Ef.call (Be.not B _ _ _ _ _ _ _) Try.func13 rfl rfl rfl ?_)
  rintro _ _ ⟨g39, rfl, rfl⟩
  try simp only [List.cons_append, List.nil_append]
  refine ⟨Sub.any, ?_⟩
  refine RW.all [17, 48] (by kernel_rfl) (List.forall_mem_cons.2 ⟨?_, List.forall_mem_cons.2 ⟨?_, List.forall_mem_nil _⟩⟩)
  rotate_left
  ·
   refine RO.eS rfl rfl (Ef.one [_, _, _, _, _] (e := 42) (sz := 5) (by kernel_rfl) ⟨.agg #[.string .empty, .int .i64 0, .string .empty, .string .empty, .slice none 0 0], by kernel_rfl, rfl⟩ rfl rfl rfl (by omega) (by omega) ?_)
   intro g72
   refine ⟨Sub.any, ?_⟩
   refine RW.q 49 rfl rfl (by kernel_rfl) Sub.any (Qt.build [(0, 1), (1, 1), (2, 1), (3, 1), (4, 1)] [.string .empty, .int .i64 0, .string .empty, .string .empty, .slice none 0 0] [_, _, _, _, _] [(0, _), (4, _)] (by kernel_rfl) (by unfold zeroB; kernel_rfl) rfl rfl) ?_
   exact RW.use (dn _ _ _ _ (H8 _ g72 g39 g37 g36 g32 g31 g29 g27 g26)) (by kernel_rfl) (updS rfl (updS rfl (updS rfl (updS rfl (updS rfl (updS rfl (updS rfl (updS rfl (updS rfl (updS rfl (updS rfl (updS rfl (updS rfl (updS rfl (updS rfl (updS rfl (updS rfl (updS rfl (updS rfl (updS rfl (updS rfl (updS rfl (updS rfl (updS rfl (updS rfl (updS rfl rfl)))))))))))))))))))))))))) Sub.any
  refine RO.eS rfl rfl (Ef.call (Be.not B _ _ _ _ _ _ _) Try.func13 rfl rfl rfl ?_)
  rintro _ _ ⟨g41, rfl, rfl⟩
  try simp only [List.cons_append, List.nil_append]
  refine ⟨Sub.any, ?_⟩
  refine RW.all [18, 48] (by kernel_rfl) (List.forall_mem_cons.2 ⟨?_, List.forall_mem_cons.2 ⟨?_, List.forall_mem_nil _⟩⟩)
  rotate_left
  ·
   refine RO.eS rfl rfl (Ef.one [_, _, _, _, _] (e := 42) (sz := 5) (by kernel_rfl) ⟨.agg #[.string .empty, .int .i64 0, .string .empty, .string .empty, .slice none 0 0], by kernel_rfl, rfl⟩ rfl rfl rfl (by omega) (by omega) ?_)
   intro g72
   refine ⟨Sub.any, ?_⟩
   refine RW.q 49 rfl rfl (by kernel_rfl) Sub.any (Qt.build [(0, 1), (1, 1), (2, 1), (3, 1), (4, 1)] [.string .empty, .int .i64 0, .string .empty, .string .empty, .slice none 0 0] [_, _, _, _, _] [(0, _), (4, _)] (by kernel_rfl) (by unfold zeroB; kernel_rfl) rfl rfl) ?_
   exact RW.use (dn _ _ _ _ (H9 _ g72 g41 g39 g37 g36 g32 g31 g29 g27 g26)) (by kernel_rfl) (updS rfl (updS rfl (updS rfl (updS rfl (updS rfl (updS rfl (updS rfl (updS rfl (updS rfl (updS rfl (updS rfl (updS rfl (updS rfl (updS rfl (updS rfl (updS rfl (updS rfl (updS rfl (updS rfl (updS rfl (updS rfl (updS rfl (updS rfl (updS rfl (updS rfl (updS rfl rfl)))))))))))))))))))))))))) Sub.any
  refine RO.eS rfl rfl (Ef.call (Be.two B sOr _ _ _ _ _ _ _ _ _ _ _ _ _ _) Try.func14 rfl rfl rfl ?_)
  rintro _ _ ⟨g42, rfl, rfl⟩
  try simp only [List.cons_append, List.nil_append]
  refine ⟨Sub.any, ?_⟩
  refine RW.q 19 rfl rfl (by kernel_rfl) Sub.any (Qt.buildAs [_, _] [_, _, _, _, _, _, _, _, _, _] (len := 2) (e := 42) (sz := 5) (by kernel_rfl) (by kernel_rfl) rfl (by simp [Value.cells]) rfl rfl (by omega)) ?_
  refine RW.all [22, 48] (by kernel_rfl) (List.forall_mem_cons.2 ⟨?_, List.forall_mem_cons.2 ⟨?_, List.forall_mem_nil _⟩⟩)
  rotate_left
  ·
   refine RO.eS rfl rfl (Ef.one [_, _, _, _, _] (e := 42) (sz := 5) (by kernel_rfl) ⟨.agg #[.string .empty, .int .i64 0, .string .empty, .string .empty, .slice none 0 0], by kernel_rfl, rfl⟩ rfl rfl rfl (by omega) (by omega) ?_)
   intro g72
   refine ⟨Sub.any, ?_⟩
   refine RW.q 49 rfl rfl (by kernel_rfl) Sub.any (Qt.build [(0, 1), (1, 1), (2, 1), (3, 1), (4, 1)] [.string .empty, .int .i64 0, .string .empty, .string .empty, .slice none 0 0] [_, _, _, _, _] [(0, _), (4, _)] (by kernel_rfl) (by unfold zeroB; kernel_rfl) rfl rfl) ?_
   exact RW.use (dn _ _ _ _ (H10 _ g72 g42 g41 g39 g37 g36 g32 g31 g29 g27 g26)) (by kernel_rfl) (updS rfl (updS rfl (updS rfl (updS rfl (updS rfl (updS rfl (updS rfl (updS rfl (updS rfl (updS rfl (updS rfl (updS rfl (updS rfl (updS rfl (updS rfl (updS rfl (updS rfl (updS rfl (updS rfl (updS rfl (updS rfl (updS rfl (updS rfl (updS rfl rfl)))))))))))))))))))))))) Sub.any
  refine RO.eS rfl rfl (Ef.call (Be.two B sLt _ _ _ _ _ _ _ _ _ _ _ _ _ _) Try.func14 rfl rfl rfl ?_)
  rintro _ _ ⟨g46, rfl, rfl⟩
  try simp only [List.cons_append, List.nil_append]
  refine ⟨Sub.any, ?_⟩
  refine RW.all [23, 48] (by kernel_rfl) (List.forall_mem_cons.2 ⟨?_, List.forall_mem_cons.2 ⟨?_, List.forall_mem_nil _⟩⟩)
  rotate_left
  ·
   refine RO.eS rfl rfl (Ef.one [_, _, _, _, _] (e := 42) (sz := 5) (by kernel_rfl) ⟨.agg #[.string .empty, .int .i64 0, .string .empty, .string .empty, .slice none 0 0], by kernel_rfl, rfl⟩ rfl rfl rfl (by omega) (by omega) ?_)
   intro g72
   refine ⟨Sub.any, ?_⟩
   refine RW.q 49 rfl rfl (by kernel_rfl) Sub.any (Qt.build [(0, 1), (1, 1), (2, 1), (3, 1), (4, 1)] [.string .empty, .int .i64 0, .string .empty, .string .empty, .slice none 0 0] [_, _, _, _, _] [(0, _), (4, _)] (by kernel_rfl) (by unfold zeroB; kernel_rfl) rfl rfl) ?_
   exact RW.use (dn _ _ _ _ (H11 _ g72 g46 g42 g41 g39 g37 g36 g32 g31 g29 g27 g26)) (by kernel_rfl) (updS rfl (updS rfl (updS rfl (updS rfl (updS rfl (updS rfl (updS rfl (updS rfl (updS rfl (updS rfl (updS rfl (updS rfl (updS rfl (updS rfl (updS rfl (updS rfl (updS rfl (updS rfl (updS rfl (updS rfl (updS rfl (updS rfl (updS rfl rfl))))))))))))))))))))))) Sub.any
  refine RO.eS rfl rfl (Ef.call (Be.not B _ _ _ _ _ _ _) Try.func13 rfl rfl rfl ?_)
  rintro _ _ ⟨g47, rfl, rfl⟩
  try simp only [List.cons_append, List.nil_append]
  refine ⟨Sub.any, ?_⟩
  refine RW.all [26, 48] (by kernel_rfl) (List.forall_mem_cons.2 ⟨?_, List.forall_mem_cons.2 ⟨?_, List.forall_mem_nil _⟩⟩)
  rotate_left
  ·
   refine RO.eS rfl rfl (Ef.one [_, _, _, _, _] (e := 42) (sz := 5) (by kernel_rfl) ⟨.agg #[.string .empty, .int .i64 0, .string .empty, .string .empty, .slice none 0 0], by kernel_rfl, rfl⟩ rfl rfl rfl (by omega) (by omega) ?_)
   intro g72
   refine ⟨Sub.any, ?_⟩
   refine RW.q 49 rfl rfl (by kernel_rfl) Sub.any (Qt.build [(0, 1), (1, 1), (2, 1), (3, 1), (4, 1)] [.string .empty, .int .i64 0, .string .empty, .string .empty, .slice none 0 0] [_, _, _, _, _] [(0, _), (4, _)] (by kernel_rfl) (by unfold zeroB; kernel_rfl) rfl rfl) ?_
   exact RW.use (dn _ _ _ _ (H12 _ g72 g47 g46 g42 g41 g39 g37 g36 g32 g31 g29 g27 g26)) (by kernel_rfl) (updS rfl (updS rfl (updS rfl (updS rfl (updS rfl (updS rfl (updS rfl (updS rfl (updS rfl (updS rfl (updS rfl (updS rfl (updS rfl (updS rfl (updS rfl (updS rfl (updS rfl (updS rfl (updS rfl (updS rfl (updS rfl (updS rfl (updS rfl rfl))))))))))))))))))))))) Sub.any
  refine RO.eS rfl rfl (Ef.call (Be.two B sGe _ _ _ _ _ _ _ _ _ _ _ _ _ _) Try.func14 rfl rfl rfl ?_)
  rintro _ _ ⟨g50, rfl, rfl⟩
  try simp only [List.cons_append, List.nil_append]
  refine ⟨Sub.any, ?_⟩
  refine RW.q 27 rfl rfl (by kernel_rfl) Sub.any (Qt.buildAs [_, _] [_, _, _, _, _, _, _, _, _, _] (len := 2) (e := 42) (sz := 5) (by kernel_rfl) (by kernel_rfl) rfl (by simp [Value.cells]) rfl rfl (by omega)) ?_
  refine RW.all [30, 48] (by kernel_rfl) (List.forall_mem_cons.2 ⟨?_, List.forall_mem_cons.2 ⟨?_, List.forall_mem_nil _⟩⟩)
  rotate_left
  ·
   refine RO.eS rfl rfl (Ef.one [_, _, _, _, _] (e := 42) (sz := 5) (by kernel_rfl) ⟨.agg #[.string .empty, .int .i64 0, .string .empty, .string .empty, .slice none 0 0], by kernel_rfl, rfl⟩ rfl rfl rfl (by omega) (by omega) ?_)
   intro g72
   refine ⟨Sub.any, ?_⟩
   refine RW.q 49 rfl rfl (by kernel_rfl) Sub.any (Qt.build [(0, 1), (1, 1), (2, 1), (3, 1), (4, 1)] [.string .empty, .int .i64 0, .string .empty, .string .empty, .slice none 0 0] [_, _, _, _, _] [(0, _), (4, _)] (by kernel_rfl) (by unfold zeroB; kernel_rfl) rfl rfl) ?_
   exact RW.use (dn _ _ _ _ (H13 _ g72 g50 g47 g46 g42 g41 g39 g37 g36 g32 g31 g29 g27 g26)) (by kernel_rfl) (updS rfl (updS rfl (updS rfl (updS rfl (updS rfl (updS rfl (updS rfl (updS rfl (updS rfl (updS rfl (updS rfl (updS rfl (updS rfl (updS rfl (updS rfl (updS rfl (updS rfl (updS rfl (updS rfl (updS rfl (updS rfl rfl))))))))))))))))))))) Sub.any
  refine RO.eS rfl rfl (Ef.call (Be.two B sLe _ _ _ _ _ _ _ _ _ _ _ _ _ _) Try.func14 rfl rfl rfl ?_)
  rintro _ _ ⟨g54, rfl, rfl⟩
  try simp only [List.cons_append, List.nil_append]
  refine ⟨Sub.any, ?_⟩
  refine RW.all [33, 48] (by kernel_rfl) (List.forall_mem_cons.2 ⟨?_, List.forall_mem_cons.2 ⟨?_, List.forall_mem_nil _⟩⟩)
  rotate_left
  ·
   refine RO.eS rfl rfl (Ef.one [_, _, _, _, _] (e := 42) (sz := 5) (by kernel_rfl) ⟨.agg #[.string .empty, .int .i64 0, .string .empty, .string .empty, .slice none 0 0], by kernel_rfl, rfl⟩ rfl rfl rfl (by omega) (by omega) ?_)
   intro g72
   refine ⟨Sub.any, ?_⟩
   refine RW.q 49 rfl rfl (by kernel_rfl) Sub.any (Qt.build [(0, 1), (1, 1), (2, 1), (3, 1), (4, 1)] [.string .empty, .int .i64 0, .string .empty, .string .empty, .slice none 0 0] [_, _, _, _, _] [(0, _), (4, _)] (by kernel_rfl) (by unfold zeroB; kernel_rfl) rfl rfl) ?_
   exact RW.use (dn _ _ _ _ (H14 _ g72 g54 g50 g47 g46 g42 g41 g39 g37 g36 g32 g31 g29 g27 g26)) (by kernel_rfl) (updS rfl (updS rfl (updS rfl (updS rfl (updS rfl (updS rfl (updS rfl (updS rfl (updS rfl (updS rfl (updS rfl (updS rfl (updS rfl (updS rfl (updS rfl (updS rfl (updS rfl (updS rfl (updS rfl (updS rfl rfl)))))))))))))))))))) Sub.any
  refine RO.eS rfl rfl (Ef.call (Be.two B sGe _ _ _ _ _ _ _ _ _ _ _ _ _ _) Try.func14 rfl rfl rfl ?_)
  rintro _ _ ⟨g57, rfl, rfl⟩
  try simp only [List.cons_append, List.nil_append]
  refine ⟨Sub.any, ?_⟩
  refine RW.q 34 rfl rfl (by kernel_rfl) Sub.any (Qt.buildAs [_, _] [_, _, _, _, _, _, _, _, _, _] (len := 2) (e := 42) (sz := 5) (by kernel_rfl) (by kernel_rfl) rfl (by simp [Value.cells]) rfl rfl (by omega)) ?_
  refine RW.all [37, 48] (by kernel_rfl) (List.forall_mem_cons.2 ⟨?_, List.forall_mem_cons.2 ⟨?_, List.forall_mem_nil _⟩⟩)
  rotate_left
  ·
   refine RO.eS rfl rfl (Ef.one [_, _, _, _, _] (e := 42) (sz := 5) (by kernel_rfl) ⟨.agg #[.string .empty, .int .i64 0, .string .empty, .string .empty, .slice none 0 0], by kernel_rfl, rfl⟩ rfl rfl rfl (by omega) (by omega) ?_)
   intro g72
   refine ⟨Sub.any, ?_⟩
   refine RW.q 49 rfl rfl (by kernel_rfl) Sub.any (Qt.build [(0, 1), (1, 1), (2, 1), (3, 1), (4, 1)] [.string .empty, .int .i64 0, .string .empty, .string .empty, .slice none 0 0] [_, _, _, _, _] [(0, _), (4, _)] (by kernel_rfl) (by unfold zeroB; kernel_rfl) rfl rfl) ?_
   exact RW.use (dn _ _ _ _ (H15 _ g72 g57 g54 g50 g47 g46 g42 g41 g39 g37 g36 g32 g31 g29 g27 g26)) (by kernel_rfl) (updS rfl (updS rfl (updS rfl (updS rfl (updS rfl (updS rfl (updS rfl (updS rfl (updS rfl (updS rfl (updS rfl (updS rfl (updS rfl (updS rfl (updS rfl (updS rfl (updS rfl (updS rfl rfl)))))))))))))))))) Sub.any
  refine RO.eS rfl rfl (Ef.call (Be.two B sEq _ _ _ _ _ _ _ _ _ _ _ _ _ _) Try.func14 rfl rfl rfl ?_)
  rintro _ _ ⟨g61, rfl, rfl⟩
  try simp only [List.cons_append, List.nil_append]
  refine ⟨Sub.any, ?_⟩
  refine RW.all [38, 48] (by kernel_rfl) (List.forall_mem_cons.2 ⟨?_, List.forall_mem_cons.2 ⟨?_, List.forall_mem_nil _⟩⟩)
  rotate_left
  ·
   refine RO.eS rfl rfl (Ef.one [_, _, _, _, _] (e := 42) (sz := 5) (by kernel_rfl) ⟨.agg #[.string .empty, .int .i64 0, .string .empty, .string .empty, .slice none 0 0], by kernel_rfl, rfl⟩ rfl rfl rfl (by omega) (by omega) ?_)
   intro g72
   refine ⟨Sub.any, ?_⟩
   refine RW.q 49 rfl rfl (by kernel_rfl) Sub.any (Qt.build [(0, 1), (1, 1), (2, 1), (3, 1), (4, 1)] [.string .empty, .int .i64 0, .string .empty, .string .empty, .slice none 0 0] [_, _, _, _, _] [(0, _), (4, _)] (by kernel_rfl) (by unfold zeroB; kernel_rfl) rfl rfl) ?_
   exact RW.use (dn _ _ _ _ (H16 _ g72 g61 g57 g54 g50 g47 g46 g42 g41 g39 g37 g36 g32 g31 g29 g27 g26)) (by kernel_rfl) (updS rfl (updS rfl (updS rfl (updS rfl (updS rfl (updS rfl (updS rfl (updS rfl (updS rfl (updS rfl (updS rfl (updS rfl (updS rfl (updS rfl (updS rfl (updS rfl (updS rfl rfl))))))))))))))))) Sub.any
  refine RO.eS rfl rfl (Ef.call (Be.not B _ _ _ _ _ _ _) Try.func13 rfl rfl rfl ?_)
  rintro _ _ ⟨g62, rfl, rfl⟩
  try simp only [List.cons_append, List.nil_append]
  refine ⟨Sub.any, ?_⟩
  refine RW.all [41, 48] (by kernel_rfl) (List.forall_mem_cons.2 ⟨?_, List.forall_mem_cons.2 ⟨?_, List.forall_mem_nil _⟩⟩)
  rotate_left
  ·
   refine RO.eS rfl rfl (Ef.one [_, _, _, _, _] (e := 42) (sz := 5) (by kernel_rfl) ⟨.agg #[.string .empty, .int .i64 0, .string .empty, .string .empty, .slice none 0 0], by kernel_rfl, rfl⟩ rfl rfl rfl (by omega) (by omega) ?_)
   intro g72
   refine ⟨Sub.any, ?_⟩
   refine RW.q 49 rfl rfl (by kernel_rfl) Sub.any (Qt.build [(0, 1), (1, 1), (2, 1), (3, 1), (4, 1)] [.string .empty, .int .i64 0, .string .empty, .string .empty, .slice none 0 0] [_, _, _, _, _] [(0, _), (4, _)] (by kernel_rfl) (by unfold zeroB; kernel_rfl) rfl rfl) ?_
   exact RW.use (dn _ _ _ _ (H17 _ g72 g62 g61 g57 g54 g50 g47 g46 g42 g41 g39 g37 g36 g32 g31 g29 g27 g26)) (by kernel_rfl) (updS rfl (updS rfl (updS rfl (updS rfl (updS rfl (updS rfl (updS rfl (updS rfl (updS rfl (updS rfl (updS rfl (updS rfl (updS rfl (updS rfl (updS rfl (updS rfl (updS rfl rfl))))))))))))))))) Sub.any
  refine RO.eS rfl rfl (Ef.call (Be.two B sNe _ _ _ _ _ _ _ _ _ _ _ _ _ _) Try.func14 rfl rfl rfl ?_)
  rintro _ _ ⟨g65, rfl, rfl⟩
  try simp only [List.cons_append, List.nil_append]
  refine ⟨Sub.any, ?_⟩
  refine RW.q 42 rfl rfl (by kernel_rfl) Sub.any (Qt.buildAs [_, _] [_, _, _, _, _, _, _, _, _, _] (len := 2) (e := 42) (sz := 5) (by kernel_rfl) (by kernel_rfl) rfl (by simp [Value.cells]) rfl rfl (by omega)) ?_
  refine RW.all [45, 48] (by kernel_rfl) (List.forall_mem_cons.2 ⟨?_, List.forall_mem_cons.2 ⟨?_, List.forall_mem_nil _⟩⟩)
  rotate_left
  ·
   refine RO.eS rfl rfl (Ef.one [_, _, _, _, _] (e := 42) (sz := 5) (by kernel_rfl) ⟨.agg #[.string .empty, .int .i64 0, .string .empty, .string .empty, .slice none 0 0], by kernel_rfl, rfl⟩ rfl rfl rfl (by omega) (by omega) ?_)
   intro g72
   refine ⟨Sub.any, ?_⟩
   refine RW.q 49 rfl rfl (by kernel_rfl) Sub.any (Qt.build [(0, 1), (1, 1), (2, 1), (3, 1), (4, 1)] [.string .empty, .int .i64 0, .string .empty, .string .empty, .slice none 0 0] [_, _, _, _, _] [(0, _), (4, _)] (by kernel_rfl) (by unfold zeroB; kernel_rfl) rfl rfl) ?_
   exact RW.use (dn _ _ _ _ (H18 _ g72 g65 g62 g61 g57 g54 g50 g47 g46 g42 g41 g39 g37 g36 g32 g31 g29 g27 g26)) (by kernel_rfl) (updS rfl (updS rfl (updS rfl (updS rfl (updS rfl (updS rfl (updS rfl (updS rfl (updS rfl (updS rfl (updS rfl (updS rfl (updS rfl (updS rfl (updS rfl rfl))))))))))))))) Sub.any
  refine RO.eS rfl rfl (Ef.call (Be.two B sMinus _ _ _ _ _ _ _ _ _ _ _ _ _ _) Try.func14 rfl rfl rfl ?_)
  rintro _ _ ⟨g69, rfl, rfl⟩
  try simp only [List.cons_append, List.nil_append]
  refine ⟨Sub.any, ?_⟩
  refine RW.one 48 (by kernel_rfl) ?_
  refine RO.eS rfl rfl (Ef.one [_, _, _, _, _] (e := 42) (sz := 5) (by kernel_rfl) ⟨.agg #[.string .empty, .int .i64 0, .string .empty, .string .empty, .slice none 0 0], by kernel_rfl, rfl⟩ rfl rfl rfl (by omega) (by omega) ?_)
  intro g72
  refine ⟨Sub.any, ?_⟩
  refine RW.q 49 rfl rfl (by kernel_rfl) Sub.any (Qt.build [(0, 1), (1, 1), (2, 1), (3, 1), (4, 1)] [.string .empty, .int .i64 0, .string .empty, .string .empty, .slice none 0 0] [_, _, _, _, _] [(0, _), (4, _)] (by kernel_rfl) (by unfold zeroB; kernel_rfl) rfl rfl) ?_
  exact RW.use (dn _ _ _ _ (H19 _ g72 g69 g65 g62 g61 g57 g54 g50 g47 g46 g42 g41 g39 g37 g36 g32 g31 g29 g27 g26)) (by kernel_rfl) (updS rfl (updS rfl (updS rfl (updS rfl (updS rfl (updS rfl (updS rfl (updS rfl (updS rfl (updS rfl (updS rfl (updS rfl (updS rfl (updS rfl rfl)))))))))))))) Sub.any
 rintro fz lz ⟨f0, A, g83, cs, C, ⟨hps2, hC⟩, rfl, rfl⟩
 try simp only [List.cons_append, List.nil_append]
 subst hC
 have hnone : ∀ e, (¬ ∃ t, bindE tblSc e = .ok t) → ∃ code, bindE tblSc e = .error code := by
  intro e h
  cases e' : bindE tblSc e with
  | error c => exact ⟨c, rfl⟩
  | ok t => exact absurd ⟨t, e'⟩ h
 refine T.seq ?_
 refine T.seq ?_
 refine T.region ?_
 refine LW.q rfl (Qt.move rfl) ?_
 refine LW.q rfl (Qt.len (e := 52) (sz := 10) (by kernel_rfl) rfl) ?_
 refine LW.q rfl (Qt.move rfl) ?_
 refine LW.done ?_
 refine T.block ?_
 refine T.loop (fun mz fz lz => ∃ (f0 : Fr) (i : Nat), (i ≤ 7) ∧ mz = 7 - i ∧ fz = (upd (upd (upd (upd (upd f0 2 (.slice ra m rc)) 7 (.slice (some ⟨gs0, 0, none⟩) 2 ks)) 84 (.slice (some ⟨g83, 0, none⟩) 7 7)) 85 (iV 7)) 86 (iV i)) ∧ lz = blk g83 (cs.flatMap c10) 52 :: A :: row (.slice (some ⟨gs0, 0, none⟩) 2 ks) 31 3 2 (tblSc.flatMap coC) :: F) ?_ ?_
 · refine ⟨_, _, ⟨_, 0, by omega, rfl, (updS rfl (updS rfl (updS rfl (updS rfl (updS rfl rfl))))), rfl⟩, Sub.any⟩
 ·
  rintro mz fz lz ⟨f0, i, hi, hmz, rfl, rfl⟩
  subst mz
  try simp only [List.cons_append, List.nil_append]
  refine T.seq ?_
  refine T.region ?_
  refine LW.q rfl (Qt.lss rfl rfl) ?_
  refine LW.done ?_
  refine T.seq ?_
  refine T.condP rfl (fun hlt => ?_) (fun hlt => ?_)
  ·
   have hlen : cs.length = 7 := hps2.1
   obtain ⟨q, hq⟩ : ∃ q, cs[i]? = some q := ⟨_, List.getElem?_eq_getElem (by omega)⟩
   obtain ⟨p, hp⟩ : ∃ p, (pairsE a b)[i]? = some p := ⟨_, List.getElem?_eq_getElem (by simp [pairsE]; omega)⟩
   have hmem := List.mem_of_getElem? hp
   have hkd := pairs_kd (sc := tblSc) p hmem
   have hev := pairs_eval hnb (row := rs) p hmem
   obtain ⟨hxv, hyv⟩ := hps2.2 i p q hp hq
   have hfl : FlV B [blk g83 (cs.flatMap c10) 52] c10 (.slice (some ⟨g83, 0, none⟩) 7 7) cs := FlV.blk hlen
   obtain ⟨b7, o7, hb7, hr7⟩ := hfl.at (sz := 10) (fun _ => rfl) (by omega)
   injection hb7 with hb7
   injection hb7 with hb7 ho7
   subst hb7; subst ho7
   have hq1 := hr7 i q hq
   obtain ⟨q1, q2⟩ := q
   dsimp only at hxv hyv
   obtain ⟨op1, en1, tx1, of1, pa1, la1, ca1, rfl⟩ := hxv.form
   obtain ⟨op2, en2, tx2, of2, pa2, la2, ca2, rfl⟩ := hyv.form
   have hB1 := Bd.bind B [A, row (.slice (some ⟨gs0, 0, none⟩) 2 ks) 31 3 2 (tblSc.flatMap coC)] p.1 _ _ 2 ks tblSc (hxv.mono fun w ho => ho.map Sub.any) (hs1.mono fun w ho => ho.map Sub.any) rfl (by decide)
   have hB2 := Bd.bind B [A, row (.slice (some ⟨gs0, 0, none⟩) 2 ks) 31 3 2 (tblSc.flatMap coC)] p.2 _ _ 2 ks tblSc (hyv.mono fun w ho => ho.map Sub.any) (hs1.mono fun w ho => ho.map Sub.any) rfl (by decide)
   by_cases hbx : ∃ t, bindE tblSc p.1 = .ok t
   ·
    obtain ⟨tx, hbx⟩ := hbx
    obtain ⟨ty, hby, hkk⟩ : ∃ ty, bindE tblSc p.2 = .ok ty ∧ ty.kind = tx.kind := by
     unfold kd at hkd
     rw [hbx] at hkd
     cases e' : bindE tblSc p.2 with
     | error c => rw [e'] at hkd; cases hkd
     | ok t => rw [e'] at hkd; injection hkd with hkd; exact ⟨t, rfl, hkd.symm⟩
    have hokx := bindE_ok _ _ _ hbx
    have hoky := bindE_ok _ _ _ hby
    refine T.skip ?_
    refine T.seq ?_
    refine T.block ?_
    refine T.seq ?_
    refine T.region ?_
    refine LW.q rfl (Qt.index _ (e := 52) (sz := 10) (by kernel_rfl) rfl rfl rfl (by omega)) ?_
    refine LW.q rfl (Qt.loadAggW [tV op1, iV en1, tV tx1, tV of1, .slice pa1 la1 ca1, tV op2, iV en2, tV tx2, tV of2, .slice pa2 la2 ca2] (by kernel_rfl) rfl (fun w ho => hq1 w (ho.map Sub.any))) ?_
    refine LW.e rfl (Ef.alloc [.string .empty, .int .i64 0, .string .empty, .string .empty, .slice none 0 0, .string .empty, .int .i64 0, .string .empty, .string .empty, .slice none 0 0] (by unfold zeroB; kernel_rfl) ?_)
    intro g10
    refine LW.e0 rfl (Ef.store [_, _, _, _, _, _, _, _, _, _] (by kernel_rfl) rfl rfl rfl rfl (by simp) ?_)
    try simp only [splice, List.length_cons, List.length_nil, List.drop_succ_cons, List.cons_append, List.take_succ_cons, List.take_zero, List.drop_zero, List.nil_append, List.append_nil]
    refine LW.done ?_
    refine T.seq ?_
    refine T.region ?_
    refine LW.q rfl (Qt.indexA 0 (len := 2) (e := 42) (sz := 5) (by kernel_rfl) rfl rfl rfl (by omega)) ?_
    first | refine LW.q rfl (Qt.loadAgg [_, _, _, _, _] (by kernel_rfl) rfl ⟨rfl, rfl, rfl, rfl, rfl, trivial⟩) ?_ | refine LW.q rfl (Qt.loadAgg [_, _, _, _, _] (by kernel_rfl) rfl (by exact rdl_flat _ _ _ (by intros; rfl) _ (by omega))) ?_
    refine LW.q rfl (Qt.move rfl) ?_
    refine LW.e rfl (Ef.call (hB1) Try.func15 rfl rfl rfl ?_)
    rintro u1 l1 hpost1
    try simp only [List.cons_append, List.nil_append]
    obtain ⟨A1, q7, rfl, ht1, rfl⟩ := hpost1.okE hbx
    have hE1 := Bd.evalF B [A1] rs _ m rc (hrS _) hm (by omega) tx hokx q7 ht1
    have hK1 := Bd.kindF B tx _ q7 ht1
    obtain ⟨pa7, ca7, rfl⟩ := ht1.form
    try simp only [List.cons_append, List.nil_append]
    refine LW.q rfl (Qt.move rfl) ?_
    refine LW.q rfl (Qt.extr rfl rfl) ?_
    refine LW.q rfl (Qt.extr rfl rfl) ?_
    refine LW.e rfl (Ef.alloc [.string .empty, .int .i64 0, .int .i64 0, .int .i64 0, .string .empty, .int .i64 0, .slice none 0 0] (by unfold zeroB; kernel_rfl) ?_)
    intro g11
    refine LW.e0 rfl (Ef.store [_, _, _, _, _, _, _] (by kernel_rfl) rfl rfl rfl rfl (by simp) ?_)
    try simp only [splice, List.length_cons, List.length_nil, List.drop_succ_cons, List.cons_append, List.take_succ_cons, List.take_zero, List.drop_zero, List.nil_append, List.append_nil]
    refine LW.q rfl (Qt.assign rfl) ?_
    refine LW.done ?_
    refine T.seq ?_
    refine T.region ?_
    refine LW.q rfl (Qt.indexA 1 (len := 2) (e := 42) (sz := 5) (by kernel_rfl) rfl rfl rfl (by omega)) ?_
    first | refine LW.q rfl (Qt.loadAgg [_, _, _, _, _] (by kernel_rfl) rfl ⟨rfl, rfl, rfl, rfl, rfl, trivial⟩) ?_ | refine LW.q rfl (Qt.loadAgg [_, _, _, _, _] (by kernel_rfl) rfl (by exact rdl_flat _ _ _ (by intros; rfl) _ (by omega))) ?_
    refine LW.q rfl (Qt.move rfl) ?_
    refine LW.e rfl (Ef.call (hB2) Try.func15 rfl rfl rfl ?_)
    rintro u2 l2 hpost2
    try simp only [List.cons_append, List.nil_append]
    obtain ⟨A2, q8, rfl, ht2, rfl⟩ := hpost2.okE hby
    have hE2 := Bd.evalF B [A2] rs _ m rc (hrS _) hm (by omega) ty hoky q8 ht2
    have hK2 := Bd.kindF B ty _ q8 ht2
    obtain ⟨pa8, ca8, rfl⟩ := ht2.form
    try simp only [List.cons_append, List.nil_append]
    refine LW.q rfl (Qt.move rfl) ?_
    refine LW.q rfl (Qt.extr rfl rfl) ?_
    refine LW.q rfl (Qt.extr rfl rfl) ?_
    refine LW.e rfl (Ef.alloc [.string .empty, .int .i64 0, .int .i64 0, .int .i64 0, .string .empty, .int .i64 0, .slice none 0 0] (by unfold zeroB; kernel_rfl) ?_)
    intro g13
    refine LW.e0 rfl (Ef.store [_, _, _, _, _, _, _] (by kernel_rfl) rfl rfl rfl rfl (by simp) ?_)
    try simp only [splice, List.length_cons, List.length_nil, List.drop_succ_cons, List.cons_append, List.take_succ_cons, List.take_zero, List.drop_zero, List.nil_append, List.append_nil]
    refine LW.q rfl (Qt.assign rfl) ?_
    refine LW.done ?_
    refine T.seq ?_
    refine T.seq ?_
    refine T.region ?_
    refine LW.q rfl (Qt.move rfl) ?_
    refine LW.q rfl (Qt.eql rfl rfl) ?_
    refine LW.q rfl (Qt.move rfl) ?_
    refine LW.q rfl (Qt.eql rfl rfl) ?_
    refine LW.q rfl (Qt.neqB (by kernel_rfl) rfl rfl) ?_
    refine LW.done ?_
    first | refine T.condF rfl ?_ | refine T.condPF rfl (rfl) ?_ | refine T.condBF rfl (rfl) ?_
    refine T.skip ?_
    refine T.seq ?_
    refine T.seq ?_
    refine T.region ?_
    refine LW.q rfl (Qt.move rfl) ?_
    refine LW.q rfl (Qt.neq rfl rfl) ?_
    refine LW.done ?_
    first | refine T.condF rfl ?_ | refine T.condPF rfl (rfl) ?_ | refine T.condBF rfl (rfl) ?_
    refine T.skip ?_
    refine T.seq ?_
    refine T.region ?_
    first | refine LW.q rfl (Qt.loadAgg [_, _, _, _, _, _, _] (by kernel_rfl) rfl ⟨rfl, rfl, rfl, rfl, rfl, rfl, rfl, trivial⟩) ?_ | refine LW.q rfl (Qt.loadAgg [_, _, _, _, _, _, _] (by kernel_rfl) rfl (by exact rdl_flat _ _ _ (by intros; rfl) _ (by omega))) ?_
    refine LW.q rfl (Qt.move rfl) ?_
    refine LW.e rfl (Ef.call (hE1) Try.func16 rfl rfl rfl ?_)
    rintro _ _ ⟨rfl, rfl⟩
    try simp only [List.cons_append, List.nil_append]
    refine LW.q rfl (Qt.move rfl) ?_
    refine LW.q rfl (Qt.extr rfl rfl) ?_
    refine LW.q rfl (Qt.extr rfl rfl) ?_
    refine LW.e rfl (Ef.alloc [.int .i64 0, .int .i64 0, .string .empty] (by unfold zeroB; kernel_rfl) ?_)
    intro g15
    refine LW.e0 rfl (Ef.store [_, _, _] (by kernel_rfl) rfl rfl rfl rfl (by simp) ?_)
    try simp only [splice, List.length_cons, List.length_nil, List.drop_succ_cons, List.cons_append, List.take_succ_cons, List.take_zero, List.drop_zero, List.nil_append, List.append_nil]
    refine LW.q rfl (Qt.assign rfl) ?_
    refine LW.done ?_
    refine T.seq ?_
    refine T.region ?_
    first | refine LW.q rfl (Qt.loadAgg [_, _, _, _, _, _, _] (by kernel_rfl) rfl ⟨rfl, rfl, rfl, rfl, rfl, rfl, rfl, trivial⟩) ?_ | refine LW.q rfl (Qt.loadAgg [_, _, _, _, _, _, _] (by kernel_rfl) rfl (by exact rdl_flat _ _ _ (by intros; rfl) _ (by omega))) ?_
    refine LW.q rfl (Qt.move rfl) ?_
    refine LW.e rfl (Ef.call (hE2) Try.func16 rfl rfl rfl ?_)
    rintro _ _ ⟨rfl, rfl⟩
    try simp only [List.cons_append, List.nil_append]
    refine LW.q rfl (Qt.move rfl) ?_
    refine LW.q rfl (Qt.extr rfl rfl) ?_
    refine LW.q rfl (Qt.extr rfl rfl) ?_
    refine LW.e rfl (Ef.alloc [.int .i64 0, .int .i64 0, .string .empty] (by unfold zeroB; kernel_rfl) ?_)
    intro g17
    refine LW.e0 rfl (Ef.store [_, _, _] (by kernel_rfl) rfl rfl rfl rfl (by simp) ?_)
    try simp only [splice, List.length_cons, List.length_nil, List.drop_succ_cons, List.cons_append, List.take_succ_cons, List.take_zero, List.drop_zero, List.nil_append, List.append_nil]
    refine LW.q rfl (Qt.assign rfl) ?_
    refine LW.done ?_
    refine T.seq ?_
    have hz1 := evalR_zero (row := rs) (be_of _ _ _ hbx)
    have hz2 := evalR_zero (row := rs) (be_of _ _ _ hby)
    refine T.draw 18 ([blk g11 [tV tx.op, iV tx.kind, iV tx.v.kind, iV tx.v.int, tV tx.v.text, iV tx.place, .slice pa7 tx.args.length ca7] 58, blk g13 [tV ty.op, iV ty.kind, iV ty.v.kind, iV ty.v.int, tV ty.v.text, iV ty.place, .slice pa8 ty.args.length ca8] 58, blk g15 (vaC (evalR rs tx).1) 55, blk g17 (vaC (evalR rs ty).1) 55]) (by kernel_rfl) (Nat.le_of_ble_eq_true rfl) (by kernel_rfl) ?_
    first | refine RW.q 0 rfl rfl (by kernel_rfl) Sub.any (Qt.loadAgg [_, _, _, _, _, _, _] (by kernel_rfl) rfl ⟨rfl, rfl, rfl, rfl, rfl, rfl, rfl, trivial⟩) ?_ | refine RW.q 0 rfl rfl (by kernel_rfl) Sub.any (Qt.loadAgg [_, _, _, _, _, _, _] (by kernel_rfl) rfl (by exact rdl_flat _ _ _ (by intros; rfl) _ (by omega))) ?_
    first | refine RW.q 2 rfl rfl (by kernel_rfl) Sub.any (Qt.loadAgg [_, _, _, _, _, _, _] (by kernel_rfl) rfl ⟨rfl, rfl, rfl, rfl, rfl, rfl, rfl, trivial⟩) ?_ | refine RW.q 2 rfl rfl (by kernel_rfl) Sub.any (Qt.loadAgg [_, _, _, _, _, _, _] (by kernel_rfl) rfl (by exact rdl_flat _ _ _ (by intros; rfl) _ (by omega))) ?_
    refine RW.one 1 (by kernel_rfl) ?_
    refine RO.eS rfl rfl (Ef.call hK1 Try.func17 rfl rfl rfl ?_)
    rintro _ _ ⟨rfl, rfl⟩
    try simp only [List.cons_append, List.nil_append]
    refine ⟨Sub.any, ?_⟩
    refine RW.one 3 (by kernel_rfl) ?_
    refine RO.eS rfl rfl (Ef.call hK2 Try.func17 rfl rfl rfl ?_)
    rintro _ _ ⟨rfl, rfl⟩
    try simp only [List.cons_append, List.nil_append]
    refine ⟨Sub.any, ?_⟩
    refine RW.q 4 rfl rfl (by kernel_rfl) Sub.any (Qt.neq rfl rfl) ?_
    refine RW.q 5 rfl rfl (by kernel_rfl) Sub.any (Qt.move rfl) ?_
    first | refine RW.gF (t := 128) rfl rfl ?_ | refine RW.gF (t := 128) rfl (decide_eq_false ((by omega))) ?_ | refine RW.gF (t := 128) rfl ((by omega)) ?_
    refine RW.q 6 rfl rfl (by kernel_rfl) Sub.any (Qt.move rfl) ?_
    refine RW.q 7 rfl rfl (by kernel_rfl) Sub.any (Qt.eql rfl rfl) ?_
    refine RW.q 8 rfl rfl (by kernel_rfl) Sub.any (Qt.move rfl) ?_
    refine RW.split (t := 131) rfl (fun g1 => ?_) (fun g1 => ?_)
    ·
     try replace g1 := of_decide_eq_true g1
     refine RW.q 9 rfl rfl (by kernel_rfl) Sub.any (Qt.move rfl) ?_
     refine RW.q 10 rfl rfl (by kernel_rfl) Sub.any (Qt.eql rfl rfl) ?_
     refine RW.q 11 rfl rfl (by kernel_rfl) Sub.any (Qt.pick rfl rfl) ?_
     refine RW.q 12 rfl rfl (by kernel_rfl) Sub.any (Qt.move rfl) ?_
     refine RW.split (t := 135) rfl (fun g2 => ?_) (fun g2 => ?_)
     ·
      try replace g2 := of_decide_eq_true g2
      first | refine RW.q 13 rfl rfl (by kernel_rfl) Sub.any (Qt.loadAgg [_, _, _] (by kernel_rfl) rfl ⟨rfl, rfl, rfl, trivial⟩) ?_ | refine RW.q 13 rfl rfl (by kernel_rfl) Sub.any (Qt.loadAgg [_, _, _] (by kernel_rfl) rfl (by exact rdl_flat _ _ _ (by intros; rfl) _ (by omega))) ?_
      first | refine RW.q 14 rfl rfl (by kernel_rfl) Sub.any (Qt.loadAgg [_, _, _] (by kernel_rfl) rfl ⟨rfl, rfl, rfl, trivial⟩) ?_ | refine RW.q 14 rfl rfl (by kernel_rfl) Sub.any (Qt.loadAgg [_, _, _] (by kernel_rfl) rfl (by exact rdl_flat _ _ _ (by intros; rfl) _ (by omega))) ?_
      refine RW.q 15 rfl rfl (by kernel_rfl) Sub.any (Qt.neqVa (evalR rs tx).1 (evalR rs ty).1 rfl rfl) ?_
      refine RW.q 16 rfl rfl (by kernel_rfl) Sub.any (Qt.pick rfl rfl) ?_
      refine RW.q 17 rfl rfl (by kernel_rfl) Sub.any (Qt.pick rfl rfl) ?_
      refine RW.done (by rfl) ?_
      simp only [List.drop_succ_cons, List.drop_zero, List.drop_nil]
      refine LW.done ?_
      first | refine T.condF rfl ?_ | refine T.condPF rfl ((by rw [hev tx ty _ _ hbx hby (hz1 g1) (hz2 g2)]; simp)) ?_ | refine T.condBF rfl ((by rw [hev tx ty _ _ hbx hby (hz1 g1) (hz2 g2)]; simp)) ?_
      refine T.skip ?_
      refine T.region ?_
      refine LW.q rfl (Qt.add rfl rfl (wr64 (by omega) (by omega))) ?_
      refine LW.q rfl (Qt.move rfl) ?_
      refine LW.done ?_
      refine ⟨_, ?_, _, ⟨_, i + 1, by omega, rfl, (updS rfl (updS rfl (updS rfl (updS rfl (updS rfl rfl))))), rfl⟩, Sub.any⟩
      first | omega | (simp; omega)
     ·
      try replace g2 := of_decide_eq_false g2
      refine RW.s 13 rfl rfl (by kernel_rfl) Sub.any ?_
      refine RW.s 14 rfl rfl (by kernel_rfl) Sub.any ?_
      refine RW.s 15 rfl rfl (by kernel_rfl) Sub.any ?_
      refine RW.q 16 rfl rfl (by kernel_rfl) Sub.any (Qt.pick rfl rfl) ?_
      refine RW.q 17 rfl rfl (by kernel_rfl) Sub.any (Qt.pick rfl rfl) ?_
      refine RW.done (by rfl) ?_
      simp only [List.drop_succ_cons, List.drop_zero, List.drop_nil]
      refine LW.done ?_
      first | refine T.condF rfl ?_ | refine T.condPF rfl (rfl) ?_ | refine T.condBF rfl (rfl) ?_
      refine T.skip ?_
      refine T.region ?_
      refine LW.q rfl (Qt.add rfl rfl (wr64 (by omega) (by omega))) ?_
      refine LW.q rfl (Qt.move rfl) ?_
      refine LW.done ?_
      refine ⟨_, ?_, _, ⟨_, i + 1, by omega, rfl, (updS rfl (updS rfl (updS rfl (updS rfl (updS rfl rfl))))), rfl⟩, Sub.any⟩
      first | omega | (simp; omega)
    ·
     try replace g1 := of_decide_eq_false g1
     refine RW.s 9 rfl rfl (by kernel_rfl) Sub.any ?_
     refine RW.s 10 rfl rfl (by kernel_rfl) Sub.any ?_
     refine RW.q 11 rfl rfl (by kernel_rfl) Sub.any (Qt.pick rfl rfl) ?_
     refine RW.q 12 rfl rfl (by kernel_rfl) Sub.any (Qt.move rfl) ?_
     first | refine RW.gF (t := 135) rfl rfl ?_ | refine RW.gF (t := 135) rfl (decide_eq_false (rfl)) ?_ | refine RW.gF (t := 135) rfl (rfl) ?_
     refine RW.s 13 rfl rfl (by kernel_rfl) Sub.any ?_
     refine RW.s 14 rfl rfl (by kernel_rfl) Sub.any ?_
     refine RW.s 15 rfl rfl (by kernel_rfl) Sub.any ?_
     refine RW.q 16 rfl rfl (by kernel_rfl) Sub.any (Qt.pick rfl rfl) ?_
     refine RW.q 17 rfl rfl (by kernel_rfl) Sub.any (Qt.pick rfl rfl) ?_
     refine RW.done (by rfl) ?_
     simp only [List.drop_succ_cons, List.drop_zero, List.drop_nil]
     refine LW.done ?_
     first | refine T.condF rfl ?_ | refine T.condPF rfl (rfl) ?_ | refine T.condBF rfl (rfl) ?_
     refine T.skip ?_
     refine T.region ?_
     refine LW.q rfl (Qt.add rfl rfl (wr64 (by omega) (by omega))) ?_
     refine LW.q rfl (Qt.move rfl) ?_
     refine LW.done ?_
     refine ⟨_, ?_, _, ⟨_, i + 1, by omega, rfl, (updS rfl (updS rfl (updS rfl (updS rfl (updS rfl rfl))))), rfl⟩, Sub.any⟩
     first | omega | (simp; omega)
   ·
    obtain ⟨code1, hbx⟩ := hnone _ hbx
    obtain ⟨code2, hby⟩ : ∃ code, bindE tblSc p.2 = .error code := by
     unfold kd at hkd
     rw [hbx] at hkd
     cases e' : bindE tblSc p.2 with
     | error c => exact ⟨c, rfl⟩
     | ok t => rw [e'] at hkd; cases hkd
    refine T.skip ?_
    refine T.seq ?_
    refine T.block ?_
    refine T.seq ?_
    refine T.region ?_
    refine LW.q rfl (Qt.index _ (e := 52) (sz := 10) (by kernel_rfl) rfl rfl rfl (by omega)) ?_
    refine LW.q rfl (Qt.loadAggW [tV op1, iV en1, tV tx1, tV of1, .slice pa1 la1 ca1, tV op2, iV en2, tV tx2, tV of2, .slice pa2 la2 ca2] (by kernel_rfl) rfl (fun w ho => hq1 w (ho.map Sub.any))) ?_
    refine LW.e rfl (Ef.alloc [.string .empty, .int .i64 0, .string .empty, .string .empty, .slice none 0 0, .string .empty, .int .i64 0, .string .empty, .string .empty, .slice none 0 0] (by unfold zeroB; kernel_rfl) ?_)
    intro g10
    refine LW.e0 rfl (Ef.store [_, _, _, _, _, _, _, _, _, _] (by kernel_rfl) rfl rfl rfl rfl (by simp) ?_)
    try simp only [splice, List.length_cons, List.length_nil, List.drop_succ_cons, List.cons_append, List.take_succ_cons, List.take_zero, List.drop_zero, List.nil_append, List.append_nil]
    refine LW.done ?_
    refine T.seq ?_
    refine T.region ?_
    refine LW.q rfl (Qt.indexA 0 (len := 2) (e := 42) (sz := 5) (by kernel_rfl) rfl rfl rfl (by omega)) ?_
    first | refine LW.q rfl (Qt.loadAgg [_, _, _, _, _] (by kernel_rfl) rfl ⟨rfl, rfl, rfl, rfl, rfl, trivial⟩) ?_ | refine LW.q rfl (Qt.loadAgg [_, _, _, _, _] (by kernel_rfl) rfl (by exact rdl_flat _ _ _ (by intros; rfl) _ (by omega))) ?_
    refine LW.q rfl (Qt.move rfl) ?_
    refine LW.e rfl (Ef.call (hB1) Try.func15 rfl rfl rfl ?_)
    rintro u1 l1 hpost1
    try simp only [List.cons_append, List.nil_append]
    obtain ⟨rfl, hne1, rfl⟩ := hpost1.errE hbx
    try simp only [List.cons_append, List.nil_append]
    refine LW.q rfl (Qt.move rfl) ?_
    refine LW.q rfl (Qt.extr rfl rfl) ?_
    refine LW.q rfl (Qt.extr rfl rfl) ?_
    refine LW.e rfl (Ef.alloc [.string .empty, .int .i64 0, .int .i64 0, .int .i64 0, .string .empty, .int .i64 0, .slice none 0 0] (by unfold zeroB; kernel_rfl) ?_)
    intro g11
    refine LW.e0 rfl (Ef.store [_, _, _, _, _, _, _] (by kernel_rfl) rfl rfl rfl rfl (by simp) ?_)
    try simp only [splice, List.length_cons, List.length_nil, List.drop_succ_cons, List.cons_append, List.take_succ_cons, List.take_zero, List.drop_zero, List.nil_append, List.append_nil]
    refine LW.q rfl (Qt.assign rfl) ?_
    refine LW.done ?_
    refine T.seq ?_
    refine T.region ?_
    refine LW.q rfl (Qt.indexA 1 (len := 2) (e := 42) (sz := 5) (by kernel_rfl) rfl rfl rfl (by omega)) ?_
    first | refine LW.q rfl (Qt.loadAgg [_, _, _, _, _] (by kernel_rfl) rfl ⟨rfl, rfl, rfl, rfl, rfl, trivial⟩) ?_ | refine LW.q rfl (Qt.loadAgg [_, _, _, _, _] (by kernel_rfl) rfl (by exact rdl_flat _ _ _ (by intros; rfl) _ (by omega))) ?_
    refine LW.q rfl (Qt.move rfl) ?_
    refine LW.e rfl (Ef.call (hB2) Try.func15 rfl rfl rfl ?_)
    rintro u2 l2 hpost2
    try simp only [List.cons_append, List.nil_append]
    obtain ⟨rfl, hne2, rfl⟩ := hpost2.errE hby
    try simp only [List.cons_append, List.nil_append]
    refine LW.q rfl (Qt.move rfl) ?_
    refine LW.q rfl (Qt.extr rfl rfl) ?_
    refine LW.q rfl (Qt.extr rfl rfl) ?_
    refine LW.e rfl (Ef.alloc [.string .empty, .int .i64 0, .int .i64 0, .int .i64 0, .string .empty, .int .i64 0, .slice none 0 0] (by unfold zeroB; kernel_rfl) ?_)
    intro g13
    refine LW.e0 rfl (Ef.store [_, _, _, _, _, _, _] (by kernel_rfl) rfl rfl rfl rfl (by simp) ?_)
    try simp only [splice, List.length_cons, List.length_nil, List.drop_succ_cons, List.cons_append, List.take_succ_cons, List.take_zero, List.drop_zero, List.nil_append, List.append_nil]
    refine LW.q rfl (Qt.assign rfl) ?_
    refine LW.done ?_
    refine T.seq ?_
    refine T.seq ?_
    refine T.region ?_
    refine LW.q rfl (Qt.move rfl) ?_
    refine LW.q rfl (Qt.eql rfl rfl) ?_
    refine LW.q rfl (Qt.move rfl) ?_
    refine LW.q rfl (Qt.eql rfl rfl) ?_
    refine LW.q rfl (Qt.neqB (by kernel_rfl) rfl rfl) ?_
    refine LW.done ?_
    first | refine T.condF rfl ?_ | refine T.condPF rfl ((by rw [decide_eq_false hne1, decide_eq_false hne2]; rfl)) ?_ | refine T.condBF rfl ((by rw [decide_eq_false hne1, decide_eq_false hne2]; rfl)) ?_
    refine T.skip ?_
    refine T.seq ?_
    refine T.seq ?_
    refine T.region ?_
    refine LW.q rfl (Qt.move rfl) ?_
    refine LW.q rfl (Qt.neq rfl rfl) ?_
    refine LW.done ?_
    first | refine T.condT rfl ?_ | refine T.condPT rfl (hne1) ?_ | refine T.condBT rfl (hne1) ?_
    refine T.exit ?_
    refine T.region ?_
    refine LW.q rfl (Qt.add rfl rfl (wr64 (by omega) (by omega))) ?_
    refine LW.q rfl (Qt.move rfl) ?_
    refine LW.done ?_
    refine ⟨_, ?_, _, ⟨_, i + 1, by omega, rfl, (updS rfl (updS rfl (updS rfl (updS rfl (updS rfl rfl))))), rfl⟩, Sub.any⟩
    first | omega | (simp; omega)
  ·
   refine T.exit ?_
   refine T.seq ?_
   refine T.region ?_
   refine LW.q rfl (Qt.assign rfl) ?_
   refine LW.done ?_
   refine T.ret ?_
   exact ⟨.inl rfl, _, _, res [_] rfl ⟨rvT rfl, trivial⟩, ⟨rfl, rfl⟩, Sub.any⟩
end Go.Proofs.Ytopbkdpbljebgaa
