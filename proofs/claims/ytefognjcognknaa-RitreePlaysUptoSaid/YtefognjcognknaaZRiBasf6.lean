/- The texts BtB BtC RiE RiF, one behind the other: what the law leans on. Conditions: as each theorem says. -/
import Derived.Test.YtefognjcognknaaZRiBasf5
import Derived.Lib.Bytealg
import Derived.Laws.Externs
/- strings.Compare. Conditions: none. -/
set_option linter.unusedSimpArgs false
set_option linter.unusedVariables false
namespace Go.Proofs.Ytefognjcognknaa
open Go.RowKit
section
variable {P : Program} {B : Base} {n : Nat} {l : List Assn} {f : Fr} {K : Value → List Assn → Prop}
variable {d : Option Tmp} {ty : TypeId} {pos : String} {af : Array Edge} {gd : Option (Nat × Bool)}
theorem Ef.cmpS {g : FuncId} {fn : Func} {x y : Operand} {ats : Array TypeId} {a b : List UInt8} (hf : P.funcs[g]? = some fn) (hname : (fn.name == "runtime.NumGoroutine") = false) (hb : fn.body.isNone = true) (hn : Extern.findNext fn = none)
    (he : Extern.find fn = some Extern.BytealgCompare.compare) (hx : ev n f x = some (.string (strOf a))) (hy : ev n f y = some (.string (strOf b)))
    (h : K (.int .i64 (Lib.compareBytes a b)) l) : Ef P B n ⟨d, .call ⟨.value (.func g), #[x, y], ats⟩, ty, pos, af, gd⟩ f l K := ⟨fun w next Q ho hk => by
  have hav : (#[x, y] : Array Operand).map (evu n f) = #[.string (strOf a), .string (strOf b)] := by simp [evu_eq hx, evu_eq hy]
  have hrun := Lib.run_compareString (P := P) (strOf a) (strOf b) w
  have hcf := run_callFunc_extern (P := P) hf hname hb hn he #[.string (strOf a), .string (strOf b)] w
  rw [hrun] at hcf
  unfold Oper.wp execOp
  rw [eval_act']
  have he2 : ((do let c ← resolve (evu n f) ⟨.value (.func g), #[x, y], ats⟩ ty; invoke c.target c.args) : Sem Next).run P w = .ok (.value (.int .i64 (Lib.compareBytes a b))) w := by
    have hg : evu n f (.func g) = .func (.func g) #[] #[] := rfl
    simp only [resolve, hav, hg]
    simp [Deferred.ofValue, invoke, hcf]
    rfl
  rw [he2]
  exact hk _ w _ h ho⟩
end
theorem cmp_sl : ∀ a b : Str, (0 ≤ Lib.compareBytes a b) ↔ sl a b = false
  | [], [] => by simp [Lib.compareBytes, sl, Op.bytesLess]
  | [], _ :: _ => by simp [Lib.compareBytes, sl, Op.bytesLess]
  | _ :: _, [] => by simp [Lib.compareBytes, sl, Op.bytesLess]
  | a :: x, b :: y => by
    have ih := cmp_sl x y
    unfold sl at ih ⊢
    simp only [Lib.compareBytes, Op.bytesLess]
    by_cases h1 : a < b
    · simp [h1]
    · by_cases h2 : b < a
      · have : a ≠ b := fun e => by subst e; exact h1 h2
        simp [h1, h2, this]
      · have e : a = b := UInt8.le_antisymm (UInt8.not_lt.1 h2) (UInt8.not_lt.1 h1)
        subst e
        simp [h1, ih]
theorem Bs.cmp1 (B : Base) (a b : Str) : Fn Try.prog B 94 #[kT a, kT b] [] (fun v l => v = .int .i64 (Lib.compareBytes a b) ∧ l = []) := by
  refine Fn.enter2 8 Try.func94 rfl rfl (Nat.le_of_ble_eq_true rfl) (fun F => ?_)
  try simp only [List.cons_append, List.nil_append]
  refine T.seq ?_
  refine T.region ?_
  refine LW.q rfl (Qt.assign rfl) ?_
  refine LW.done ?_
  refine T.seq ?_
  refine T.region ?_
  refine LW.q rfl (Qt.move rfl) ?_
  refine LW.q rfl (Qt.move rfl) ?_
  refine LW.e rfl (Ef.cmpS Try.func109 (by kernel_rfl) (by kernel_rfl) (by kernel_rfl) (by kernel_rfl) rfl rfl ?_)
  refine LW.q rfl (Qt.assign rfl) ?_
  refine LW.done ?_
  refine T.ret ?_
  exact ⟨.inl rfl, _, _, res [_] rfl ⟨rvT rfl, trivial⟩, ⟨rfl, rfl⟩, Sub.any⟩
theorem Bs.cmp (B : Base) (a b : Str) : Fn Try.prog B 82 #[kT a, kT b] [] (fun v l => v = .int .i64 (Lib.compareBytes a b) ∧ l = []) := by
  refine Fn.enter2 8 Try.func82 rfl rfl (Nat.le_of_ble_eq_true rfl) (fun F => ?_)
  try simp only [List.cons_append, List.nil_append]
  refine T.seq ?_
  refine T.region ?_
  refine LW.q rfl (Qt.assign rfl) ?_
  refine LW.done ?_
  refine T.seq ?_
  refine T.region ?_
  refine LW.q rfl (Qt.move rfl) ?_
  refine LW.q rfl (Qt.move rfl) ?_
  refine LW.e rfl (Ef.call (Bs.cmp1 B a b) Try.func94 rfl rfl rfl ?_)
  rintro _ _ ⟨rfl, rfl⟩
  try simp only [List.cons_append, List.nil_append]
  refine LW.q rfl (Qt.assign rfl) ?_
  refine LW.done ?_
  refine T.ret ?_
  exact ⟨.inl rfl, _, _, res [_] rfl ⟨rvT rfl, trivial⟩, ⟨rfl, rfl⟩, Sub.any⟩
end Go.Proofs.Ytefognjcognknaa

/- btree's trees: what they are, where they lie, paths into them. Conditions: none. -/
set_option linter.unusedSimpArgs false
set_option linter.unusedVariables false
namespace Go.Proofs.Ytefognjcognknaa
open Go.RowKit
abbrev iV (x : Int) : Value := .int .i64 x
abbrev pV (p : Nat) : Value := .pointer (some ⟨p, 0, none⟩)
/-- A node: where it lies, its pairs, its slices' places and capacities. -/
structure Nd where
  p : Nat
  kv : List (Str × Int)
  ka : Option Addr
  kc : Nat
  va : Option Addr
  vc : Nat
  ca : Option Addr
  cc : Nat
abbrev Nd.ks (x : Nd) : List Str := x.kv.map (·.1)
abbrev Nd.vs (x : Nd) : List Int := x.kv.map (·.2)
abbrev ndB (x : Nd) (m : Nat) : Assn := blk x.p [.slice x.ka x.kv.length x.kc, .slice x.va x.kv.length x.vc, .slice x.ca m x.cc] 98
abbrev ndK (x : Nd) : Assn := row (.slice x.ka x.kv.length x.kc) 9 1 x.kv.length (x.ks.map kT)
abbrev ndV (x : Nd) : Assn := row (.slice x.va x.kv.length x.vc) 2 1 x.kv.length (x.vs.map iV)
abbrev ndC (x : Nd) (ps : List Nat) : Assn := row (.slice x.ca ps.length x.cc) 95 1 ps.length (ps.map pV)
abbrev nodeL (x : Nd) (ps : List Nat) : List Assn := [ndB x ps.length, ndK x, ndV x, ndC x ps]
/-- A tree of a height, with its places. -/
def LT : Nat → Type
  | 0 => Nd
  | h + 1 => Nd × List (LT h)
def LT.nd : (h : Nat) → LT h → Nd
  | 0, x => x
  | _ + 1, t => t.1
def LT.sub : (h : Nat) → LT (h + 1) → List (LT h)
  | _, t => t.2
def LT.kp : (h : Nat) → LT h → List Nat
  | 0, _ => []
  | h + 1, t => t.2.map fun k => (LT.nd h k).p
def treeA : (h : Nat) → LT h → Assn
  | 0, x => sepL (nodeL x [])
  | h + 1, t => sepL (nodeL t.1 (t.2.map fun k => (LT.nd h k).p) ++ [sepL (t.2.map (treeA h))])
def restA : (h : Nat) → LT h → Assn
  | 0, _ => pu True
  | h + 1, t => sepL (t.2.map (treeA h))
abbrev treeL (h : Nat) (t : LT h) : List Assn := [ndB (LT.nd h t) (LT.kp h t).length, ndK (LT.nd h t), ndV (LT.nd h t), ndC (LT.nd h t) (LT.kp h t), restA h t]
theorem Has.openT : ∀ {h : Nat} {t : LT h} {m : List Assn} {k : Piece}, Has (treeA h t :: m) k → Has (treeL h t ++ m) k
  | 0, t, m, k, H => by
    have H1 := Has.open_sepL (l := nodeL t []) H
    exact Has.cons_imp (fun _ H => Has.cons_imp (fun _ H => Has.cons_imp (fun _ H => Has.cons_imp (fun _ H => Has.close_pu trivial H) H) H) H) H1
  | h + 1, t, m, k, H => by
    have H1 := Has.open_sepL (l := nodeL t.1 (t.2.map fun k => (LT.nd h k).p) ++ [sepL (t.2.map (treeA h))]) H
    exact H1
theorem Has.closeT : ∀ {h : Nat} {t : LT h} {m : List Assn} {k : Piece}, Has (treeL h t ++ m) k → Has (treeA h t :: m) k
  | 0, t, m, k, H => by
    refine Has.close_sepL (l := nodeL t []) ?_
    exact Has.cons_imp (fun _ H => Has.cons_imp (fun _ H => Has.cons_imp (fun _ H => Has.cons_imp (fun _ H => H.tail) H) H) H) H
  | h + 1, t, m, k, H => Has.close_sepL (l := nodeL t.1 (t.2.map fun k => (LT.nd h k).p) ++ [sepL (t.2.map (treeA h))]) H
/-- Kids, one of them apart. -/
theorem Has.kid_out {h : Nat} {L1 L2 : List (LT h)} {t : LT h} {m : List Assn} {k : Piece} (H : Has (sepL ((L1 ++ t :: L2).map (treeA h)) :: m) k) : Has (treeA h t :: sepL (L1.map (treeA h)) :: sepL (L2.map (treeA h)) :: m) k := by
  have H1 := Has.open_sepL H
  rw [List.map_append, List.map_cons, List.append_assoc, List.cons_append] at H1
  have H2 := Has.over H1
  refine Has.cons_imp (fun _ K => ?_) H2
  refine Has.close_sepL ?_
  obtain ⟨k1, k2, d, a, b, K1, K2⟩ := Has.split K
  exact Has.join d a b K1 (Has.close_sepL K2)
theorem Has.kid_in {h : Nat} {L1 L2 : List (LT h)} {t : LT h} {m : List Assn} {k : Piece} (H : Has (treeA h t :: sepL (L1.map (treeA h)) :: sepL (L2.map (treeA h)) :: m) k) : Has (sepL ((L1 ++ t :: L2).map (treeA h)) :: m) k := by
  refine Has.close_sepL ?_
  rw [List.map_append, List.map_cons, List.append_assoc, List.cons_append]
  refine Has.under (Has.cons_imp (fun _ K => ?_) H)
  have K1 := Has.open_sepL K
  obtain ⟨k1, k2, d, a, b, K1, K2⟩ := Has.split K1
  exact Has.join d a b K1 (Has.open_sepL K2)
/-- A path from a tree's root to a place within it. -/
inductive Cx (H : Nat) : Nat → Type
  | top : Cx H H
  | down {h : Nat} (c : Cx H (h + 1)) (x : Nd) (L1 L2 : List (LT h)) : Cx H h
def Cx.plug {H : Nat} : {h : Nat} → Cx H h → LT h → LT H
  | _, .top, t => t
  | _, .down c x L1 L2, t => c.plug (h := _) (show LT (_ + 1) from (x, L1 ++ t :: L2))
def cxA {H : Nat} : {h : Nat} → Cx H h → Nat → Assn
  | _, .top, _ => pu True
  | _, .down (h := h) c x L1 L2, p => sepL (nodeL x (L1.map (fun k => (LT.nd h k).p) ++ p :: L2.map (fun k => (LT.nd h k).p)) ++ [sepL (L1.map (treeA h)), sepL (L2.map (treeA h)), cxA c x.p])
theorem Has.plug {H : Nat} : ∀ {h : Nat} {c : Cx H h} {t : LT h} {m : List Assn} {k : Piece}, Has (treeA h t :: cxA c (LT.nd h t).p :: m) k → Has (treeA H (c.plug t) :: m) k
  | _, .top, t, m, k, K => Has.cons_imp (fun _ K => K.tail) K
  | h, .down c x L1 L2, t, m, k, K => by
    refine Has.plug (c := c) (t := (show LT (h + 1) from (x, L1 ++ t :: L2))) ?_
    have K1 := Has.open_sepL (l := nodeL x (L1.map (fun k => (LT.nd h k).p) ++ (LT.nd h t).p :: L2.map (fun k => (LT.nd h k).p)) ++ [sepL (L1.map (treeA h)), sepL (L2.map (treeA h)), cxA c x.p]) (Has.swap K |> fun K => Has.cons_imp (fun _ K => K) K)
    have K2 : Has (nodeL x (L1.map (fun k => (LT.nd h k).p) ++ (LT.nd h t).p :: L2.map (fun k => (LT.nd h k).p)) ++ (sepL (L1.map (treeA h)) :: sepL (L2.map (treeA h)) :: cxA c x.p :: treeA h t :: m)) k := K1
    refine Has.closeT (t := (show LT (h + 1) from (x, L1 ++ t :: L2))) ?_
    have e : (L1 ++ t :: L2).map (fun k => (LT.nd h k).p) = L1.map (fun k => (LT.nd h k).p) ++ (LT.nd h t).p :: L2.map (fun k => (LT.nd h k).p) := by simp
    show Has (nodeL x ((L1 ++ t :: L2).map fun k => (LT.nd h k).p) ++ (sepL ((L1 ++ t :: L2).map (treeA h)) :: cxA c x.p :: m)) k
    rw [e]
    refine Has.cons_imp (fun _ K => Has.cons_imp (fun _ K => Has.cons_imp (fun _ K => Has.cons_imp (fun _ K => ?_) K) K) K) K2
    refine Has.kid_in ?_
    have K3 := Has.over (m := [sepL (L1.map (treeA h)), sepL (L2.map (treeA h)), cxA c x.p]) K
    exact K3
/-- Down by one kid. -/
theorem Has.descend {H h : Nat} {c : Cx H (h + 1)} {x : Nd} {L1 L2 : List (LT h)} {t : LT h} {m : List Assn} {k : Piece} (K : Has (treeL (h + 1) (show LT (h + 1) from (x, L1 ++ t :: L2)) ++ cxA c x.p :: m) k) : Has (treeA h t :: cxA (.down c x L1 L2) (LT.nd h t).p :: m) k := by
  have e : (L1 ++ t :: L2).map (fun k => (LT.nd h k).p) = L1.map (fun k => (LT.nd h k).p) ++ (LT.nd h t).p :: L2.map (fun k => (LT.nd h k).p) := by simp
  have K1 : Has (nodeL x ((L1 ++ t :: L2).map fun k => (LT.nd h k).p) ++ (sepL ((L1 ++ t :: L2).map (treeA h)) :: cxA c x.p :: m)) k := K
  rw [e] at K1
  refine Has.swap ?_
  refine Has.close_sepL (l := nodeL x (L1.map (fun k => (LT.nd h k).p) ++ (LT.nd h t).p :: L2.map (fun k => (LT.nd h k).p)) ++ [sepL (L1.map (treeA h)), sepL (L2.map (treeA h)), cxA c x.p]) ?_
  have K2 := Has.cons_imp (fun _ K => Has.cons_imp (fun _ K => Has.cons_imp (fun _ K => Has.cons_imp (fun _ K => Has.kid_out K) K) K) K) K1
  refine Has.cons_imp (fun _ K => Has.cons_imp (fun _ K => Has.cons_imp (fun _ K => Has.cons_imp (fun _ K => ?_) K) K) K) K2
  exact Has.under (m := [sepL (L1.map (treeA h)), sepL (L2.map (treeA h)), cxA c x.p]) K
/-! what a tree says -/
def inter {α : Type} : List (List α) → List α → List α
  | [], _ => []
  | k :: _, [] => k
  | k :: ks, v :: vs => k ++ v :: inter ks vs
def toL : (h : Nat) → LT h → List (Str × Int)
  | 0, x => x.kv
  | h + 1, t => inter (t.2.map (toL h)) t.1.kv
/-- Sizes: a node below the root has order - 1 keys at least, each 2 order - 1 at most; one kid more than keys. -/
def okT (o : Nat) : (h : Nat) → Bool → LT h → Prop
  | 0, r, x => x.kv.length ≤ 2 * o - 1 ∧ (r = false → o - 1 ≤ x.kv.length)
  | h + 1, r, t => t.1.kv.length ≤ 2 * o - 1 ∧ (r = false → o - 1 ≤ t.1.kv.length) ∧ (r = true → 1 ≤ t.1.kv.length) ∧ t.2.length = t.1.kv.length + 1 ∧ ∀ k ∈ t.2, okT o h false k
end Go.Proofs.Ytefognjcognknaa

/- The way up the backbone; slices.Compact of numbers. Conditions: sizes. -/
set_option linter.unusedSimpArgs false
set_option linter.unusedVariables false
namespace Go.Proofs.Ytefognjcognknaa
open Go.RowKit
abbrev rZ (p : Option Addr) (m c : Nat) (l : List Int) : Assn := row (.slice p m c) 2 1 m (l.map iV)
theorem Ri.elemZ : ElemOk Try.prog 62 2 1 8 := ElemOk.mk' (.int .i64 0) (by kernel_rfl) (by kernel_rfl) rfl (by decide)
/-! bits -/
theorem odd_pow : ∀ n : Nat, n ≠ 0 → ∃ z q, n = (2 * q + 1) * 2 ^ z := by
  intro n
  induction n using Nat.strongRecOn with
  | _ n ih =>
    intro h0
    rcases Nat.mod_two_eq_zero_or_one n with h | h
    · obtain ⟨z, q, e⟩ := ih (n / 2) (by omega) (by omega)
      exact ⟨z + 1, q, by rw [Nat.pow_succ, ← Nat.mul_assoc, ← e]; omega⟩
    · exact ⟨0, n / 2, by omega⟩
theorem low_bits {q k : Nat} (h : (2 * q + 1) * 2 ^ k < 2 ^ 62) : (BitVec.ofInt 64 (((2 * q + 1) * 2 ^ k : Nat) : Int) &&& BitVec.ofInt 64 (-(((2 * q + 1) * 2 ^ k : Nat) : Int))).toNat = 2 ^ k := by
  have hp := Nat.two_pow_pos k
  have hn : 0 < (2 * q + 1) * 2 ^ k := Nat.mul_pos (by omega) hp
  generalize hN : (2 * q + 1) * 2 ^ k = N at *
  have e1 : BitVec.ofInt 64 (-(N : Int)) = ~~~ BitVec.ofNat 64 (N - 1) := by
    rw [BitVec.ofInt_neg, ofInt_nat]
    apply BitVec.eq_of_toNat_eq
    rw [BitVec.toNat_neg, BitVec.toNat_not, BitVec.toNat_ofNat, BitVec.toNat_ofNat]
    omega
  rw [e1, ofInt_nat]
  apply Nat.eq_of_testBit_eq
  intro i
  have e2 : N = 2 ^ (k + 1) * q + 2 ^ k := by rw [← hN, Nat.pow_succ, Nat.add_mul, Nat.one_mul, Nat.mul_comm (2 ^ k) 2, Nat.mul_right_comm]
  have e3 : N - 1 = 2 ^ (k + 1) * q + (2 ^ k - 1) := by omega
  have l1 : 2 ^ k < 2 ^ (k + 1) := by rw [Nat.pow_succ]; omega
  have hk : k < 62 := (Nat.pow_lt_pow_iff_right (by omega)).1 (show 2 ^ k < 2 ^ 62 by omega)
  rw [← BitVec.getLsbD, BitVec.getLsbD_and, BitVec.getLsbD_not, BitVec.getLsbD_ofNat, BitVec.getLsbD_ofNat, e2, show 2 ^ (k + 1) * q + 2 ^ k - 1 = 2 ^ (k + 1) * q + (2 ^ k - 1) by omega, Nat.testBit_two_pow_mul_add _ l1, Nat.testBit_two_pow_mul_add _ (by omega), Nat.testBit_two_pow]
  by_cases h1 : i < k + 1
  · rw [if_pos h1, if_pos h1, Nat.testBit_two_pow_sub_one]
    have h64 : i < 64 := by omega
    by_cases h2 : i = k
    · subst h2; simp [h64]
    · have : ¬ (k = i) := fun e => h2 e.symm
      simp [this]
  · rw [if_neg h1, if_neg h1]
    have : ¬ (k = i) := by omega
    rw [decide_eq_false this]
    by_cases h64 : i < 64
    · cases hb : q.testBit (i - (k + 1)) <;> simp [hb]
    · simp [h64]
theorem up_bits {q k : Nat} (h : (2 * q + 1) * 2 ^ k < 2 ^ 62) : ((BitVec.ofInt 64 (((2 * q + 1) * 2 ^ k : Nat) : Int) &&& ~~~ BitVec.ofInt 64 ((2 ^ k : Nat) : Int))).toNat = q * 2 ^ (k + 1) := by
  have hp := Nat.two_pow_pos k
  generalize hN : (2 * q + 1) * 2 ^ k = N at *
  rw [ofInt_nat, ofInt_nat]
  apply Nat.eq_of_testBit_eq
  intro i
  have e2 : N = 2 ^ (k + 1) * q + 2 ^ k := by rw [← hN, Nat.pow_succ, Nat.add_mul, Nat.one_mul, Nat.mul_comm (2 ^ k) 2, Nat.mul_right_comm]
  have l1 : 2 ^ k < 2 ^ (k + 1) := by rw [Nat.pow_succ]; omega
  have e3 : q * 2 ^ (k + 1) = 2 ^ (k + 1) * q + 0 := Nat.mul_comm _ _
  have hk : k < 62 := (Nat.pow_lt_pow_iff_right (by omega)).1 (show 2 ^ k < 2 ^ 62 by omega)
  have hN64 : N < 2 ^ 64 := by omega
  rw [← BitVec.getLsbD, BitVec.getLsbD_and, BitVec.getLsbD_not, BitVec.getLsbD_ofNat, BitVec.getLsbD_ofNat, e3, Nat.testBit_two_pow_mul_add _ (Nat.two_pow_pos _), Nat.testBit_two_pow]
  by_cases h64 : i < 64
  · rw [e2, Nat.testBit_two_pow_mul_add _ l1, Nat.testBit_two_pow]
    by_cases h1 : i < k + 1
    · rw [if_pos h1, if_pos h1]
      by_cases h2 : i = k
      · subst h2; simp [h64]
      · have : ¬ (k = i) := fun e => h2 e.symm
        simp [this]
    · rw [if_neg h1, if_neg h1]
      have : ¬ (k = i) := by omega
      simp [this, h64]
  · have hq : q.testBit (i - (k + 1)) = false := by
      apply Nat.testBit_lt_two_pow
      have : q * 2 ^ (k + 1) < 2 ^ 64 := by rw [e3]; omega
      have h3 : q < 2 ^ (63 - k) := by
        apply (Nat.mul_lt_mul_right (Nat.two_pow_pos (k + 1))).1
        rw [← Nat.pow_add, show 63 - k + (k + 1) = 64 by omega]; exact this
      exact Nat.lt_of_lt_of_le h3 (Nat.pow_le_pow_right (by omega) (by omega))
    have : ¬ (i < k + 1) := by omega
    simp [h64, this, hq]
theorem or_bits {q j : Nat} (h : (2 * (q / 2) + 1) * 2 ^ j < 2 ^ 62) : (BitVec.ofInt 64 ((q * 2 ^ j : Nat) : Int) ||| BitVec.ofInt 64 ((2 ^ j : Nat) : Int)).toNat = (2 * (q / 2) + 1) * 2 ^ j := by
  have hp := Nat.two_pow_pos j
  have hle : q * 2 ^ j ≤ (2 * (q / 2) + 1) * 2 ^ j := Nat.mul_le_mul_right _ (by omega)
  have hle2 : 1 * 2 ^ j ≤ (2 * (q / 2) + 1) * 2 ^ j := Nat.mul_le_mul_right _ (by omega)
  rw [ofInt_nat, ofInt_nat, BitVec.toNat_or, BitVec.toNat_ofNat, BitVec.toNat_ofNat, Nat.mod_eq_of_lt (by omega), Nat.mod_eq_of_lt (by omega)]
  rw [show q * 2 ^ j ||| 2 ^ j = (q ||| 1) * 2 ^ j by
    rw [← Nat.shiftLeft_eq, ← Nat.shiftLeft_eq, Nat.shiftLeft_or_distrib]; congr 1; rw [Nat.shiftLeft_eq, Nat.one_mul]]
  congr 1
  apply Nat.eq_of_testBit_eq
  intro i
  rw [Nat.testBit_or]
  cases i with
  | zero => simp
  | succ i => simp [Nat.testBit_succ]; congr 1; omega
/-- The nodes above a node up to a level. -/
def flatA (n k : Nat) : List Nat := (List.range k).flatMap (fun j => ancT n (j + 1))
theorem flatA_low {n z q : Nat} (h : n = (2 * q + 1) * 2 ^ z) : ∀ k, k ≤ z → flatA n k = []
  | 0, _ => rfl
  | k + 1, hk => by
    unfold flatA
    rw [List.range_succ, List.flatMap_append]
    have ih : (List.range k).flatMap (fun j => ancT n (j + 1)) = [] := flatA_low h k (by omega)
    rw [ih]
    have : n % 2 ^ (k + 1) = 0 := by
      rw [h, show z = (z - (k + 1)) + (k + 1) by omega, Nat.pow_add, ← Nat.mul_assoc]
      exact Nat.mul_mod_left _ _
    simp [ancT, this]
theorem flatA_succ {n z q k : Nat} (h : n = (2 * q + 1) * 2 ^ z) (hk : z ≤ k) : flatA n (k + 1) = flatA n k ++ [(2 * (n / 2 ^ (k + 1) / 2) + 1) * 2 ^ (k + 1)] := by
  unfold flatA
  rw [List.range_succ, List.flatMap_append]
  have : n % 2 ^ (k + 1) ≠ 0 := by
    intro e
    have hd : 2 ^ (z + 1) ∣ n := Nat.dvd_trans (Nat.pow_dvd_pow 2 (by omega)) (Nat.dvd_of_mod_eq_zero e)
    rw [h, Nat.pow_succ, Nat.mul_comm (2 ^ z) 2] at hd
    have := Nat.dvd_of_mul_dvd_mul_right (Nat.two_pow_pos z) hd
    omega
  have e2 : n / (2 * 2 ^ (k + 1)) * (2 * 2 ^ (k + 1)) + 2 ^ (k + 1) = (2 * (n / 2 ^ (k + 1) / 2) + 1) * 2 ^ (k + 1) := by
    rw [Nat.div_div_eq_div_mul, Nat.mul_comm (2 ^ (k + 1)) 2, Nat.add_mul, Nat.one_mul, ← Nat.mul_assoc, Nat.mul_comm _ 2]
  simp [ancT, this, e2]
theorem up_le {n k : Nat} (hn : n < 2 ^ 40) (hk : k + 1 ≤ 40) : (2 * (n / 2 ^ (k + 1) / 2) + 1) * 2 ^ (k + 1) ≤ 2 ^ 40 := by
  rw [Nat.div_div_eq_div_mul, show 2 ^ (k + 1) * 2 = 2 ^ (k + 2) by rw [Nat.pow_succ 2 (k + 1)]]
  rcases Nat.lt_or_ge (k + 2) 41 with h | h
  · have h1 : n / 2 ^ (k + 2) < 2 ^ (40 - (k + 2)) := by
      rw [Nat.div_lt_iff_lt_mul (Nat.two_pow_pos _), ← Nat.pow_add, show 40 - (k + 2) + (k + 2) = 40 by omega]; exact hn
    have h2 : (n / 2 ^ (k + 2) + 1) * 2 ^ (k + 2) ≤ 2 ^ 40 := by
      have := Nat.mul_le_mul_right (2 ^ (k + 2)) (show n / 2 ^ (k + 2) + 1 ≤ 2 ^ (40 - (k + 2)) from h1)
      rwa [← Nat.pow_add, show 40 - (k + 2) + (k + 2) = 40 by omega] at this
    have h3 : (2 * (n / 2 ^ (k + 2)) + 1) * 2 ^ (k + 1) ≤ (n / 2 ^ (k + 2) + 1) * 2 ^ (k + 2) := by
      rw [show 2 ^ (k + 2) = 2 * 2 ^ (k + 1) by rw [Nat.pow_succ 2 (k + 1), Nat.mul_comm], ← Nat.mul_assoc]
      exact Nat.mul_le_mul_right _ (by omega)
    omega
  · obtain rfl : k = 39 := by omega
    have : n / 2 ^ (39 + 2) = 0 := Nat.div_eq_of_lt (by omega)
    rw [this]; decide
theorem up_top {n : Nat} (hn : n < 2 ^ 40) : (2 * (n / 2 ^ (40 + 1) / 2) + 1) * 2 ^ (40 + 1) = 2 ^ 41 := by
  have : n / 2 ^ (40 + 1) = 0 := Nat.div_eq_of_lt (by omega)
  rw [this]
/-- How far the way is gone. -/
def WaySt (n k c : Nat) (o : List Nat) : Prop := (k = 41 ∧ c = 0 ∧ o = ancN n) ∨ (k ≤ 40 ∧ n ≠ 0 ∧ c = (2 * (n / 2 ^ (k + 1)) + 1) * 2 ^ k ∧ c ≤ 2 ^ 40 ∧ o = flatA n k ∧ ∃ z q, n = (2 * q + 1) * 2 ^ z ∧ z ≤ k)
theorem way_start {n : Nat} (hn : n < 2 ^ 40) : ∃ k, WaySt n k n [] := by
  by_cases h : n = 0
  · subst h; exact ⟨41, .inl ⟨rfl, rfl, rfl⟩⟩
  · obtain ⟨z, q, e⟩ := odd_pow n h
    have hp := Nat.two_pow_pos z
    have hz : z < 40 := by
      have : 1 * 2 ^ z ≤ (2 * q + 1) * 2 ^ z := Nat.mul_le_mul_right _ (by omega)
      exact (Nat.pow_lt_pow_iff_right (by omega)).1 (show 2 ^ z < 2 ^ 40 by omega)
    refine ⟨z, .inr ⟨by omega, h, ?_, by omega, (flatA_low e z (Nat.le_refl _)).symm, z, q, e, Nat.le_refl _⟩⟩
    have : n / 2 ^ (z + 1) = q := by
      have h1 : n / 2 ^ z = 2 * q + 1 := by rw [e]; exact Nat.mul_div_cancel _ hp
      rw [Nat.pow_succ, ← Nat.div_div_eq_div_mul, h1]; omega
    rw [this]; exact e
theorem way_stop {n k : Nat} {o : List Nat} (h : WaySt n k 0 o) : o = ancN n := by
  rcases h with ⟨_, _, h⟩ | ⟨_, _, h, _⟩
  · exact h
  · exfalso
    rcases Nat.mul_eq_zero.1 h.symm with e | e
    · omega
    · have := Nat.two_pow_pos k; omega
theorem way_step {n k c : Nat} {o : List Nat} (hn : n < 2 ^ 40) (h : WaySt n k c o) (hc : c ≠ 0) : k ≤ 40 ∧ o.length ≤ 41 ∧ ∃ q d, c = (2 * q + 1) * 2 ^ k ∧ c ≤ 2 ^ 40 ∧ d = (2 * (q / 2) + 1) * 2 ^ (k + 1) ∧ d ≤ 2 ^ 41 ∧ ((d ≤ 2 ^ 40 ∧ WaySt n (k + 1) d (o ++ [d])) ∨ (2 ^ 40 < d ∧ WaySt n (k + 1) 0 (o ++ [0]))) := by
  rcases h with ⟨_, h, _⟩ | ⟨h1, h2, h3, h4, h5, z, q, h6, h7⟩
  · exact absurd h hc
  · have hfl : ∀ m, (flatA n m).length ≤ m := fun m => by
      induction m with
      | zero => simp [flatA]
      | succ m ih =>
        unfold flatA at ih ⊢
        rw [List.range_succ, List.flatMap_append, List.length_append]
        have : (List.flatMap (fun j => ancT n (j + 1)) [m]).length ≤ 1 := by simp [ancT]; split <;> simp
        omega
    refine ⟨h1, by have := hfl k; rw [h5]; omega, n / 2 ^ (k + 1), _, h3, h4, rfl, ?_, ?_⟩
    · rcases Nat.lt_or_ge k 40 with hk | hk
      · have := up_le hn (by omega : k + 1 ≤ 40); omega
      · obtain rfl : k = 40 := by omega
        rw [up_top hn]; omega
    · rcases Nat.lt_or_ge k 40 with hk | hk
      · have h8 := up_le hn (by omega : k + 1 ≤ 40)
        refine .inl ⟨h8, .inr ⟨by omega, h2, ?_, h8, by rw [h5, flatA_succ h6 h7], z, q, h6, by omega⟩⟩
        rw [show n / 2 ^ (k + 1 + 1) = n / 2 ^ (k + 1) / 2 by rw [Nat.pow_succ 2 (k + 1), Nat.div_div_eq_div_mul]]
      · obtain rfl : k = 40 := by omega
        refine .inr ⟨by rw [up_top hn]; omega, .inl ⟨rfl, rfl, ?_⟩⟩
        rw [h5]; unfold ancN flatA; rw [if_neg h2]
set_option maxHeartbeats 2000000 in
set_option maxRecDepth 100000 in
theorem Ri.way (B : Base) (n : Nat) (z : Int) (hz : z = n) (hn : n < 2 ^ 40) : Fn Try.prog B 58 #[.int .i64 z] [] (fun u l => ∃ p c, u = .slice p (ancN n).length c ∧ l = [rZ p (ancN n).length c (zL (ancN n))]) := by
 subst hz
 obtain ⟨k0, hst0⟩ := way_start hn
 refine Fn.enter1 24 Try.func58 rfl rfl (Nat.le_of_ble_eq_true rfl) (fun F => ?_)
 try simp only [List.cons_append, List.nil_append]
 refine T.seq ?_
 refine T.region ?_
 refine LW.q rfl (Qt.assign rfl) ?_
 refine LW.done ?_
 refine T.seq ?_
 refine T.region ?_
 refine LW.q rfl (Qt.assign rfl) ?_
 refine LW.done ?_
 refine T.seq ?_
 refine T.block ?_
 refine T.conv (l' := rZ none ([] : List Nat).length 0 (zL []) :: F) (fun w ho => ho.row_nil _ _) ?_
 refine T.loop (fun mz fz lz => ∃ (f0 : Fr) (k c : Nat) (o : List Nat) (p : Option Addr) (cp : Nat), (WaySt n k c o) ∧ mz = 41 - k ∧ fz = (upd (upd f0 0 (.int .i64 c)) 3 (.slice p o.length cp)) ∧ lz = rZ p o.length cp (zL o) :: F) ?_ ?_
 · refine ⟨_, _, ⟨_, k0, n, [], none, 0, hst0, rfl, (updS rfl (updS rfl rfl)), rfl⟩, Sub.any⟩
 ·
  rintro mz fz lz ⟨f0, k, c, o, p, cp, hst, hmz, rfl, rfl⟩
  subst mz
  try simp only [List.cons_append, List.nil_append]
  refine T.seq ?_
  refine T.seq ?_
  refine T.region ?_
  refine LW.q rfl (Qt.move rfl) ?_
  refine LW.q rfl (Qt.neq rfl rfl) ?_
  refine LW.done ?_
  refine T.condP rfl (fun hne => ?_) (fun hne => ?_)
  ·
   obtain ⟨hk, hol, q, dd, hc, hc2, hd, hd2, hnext⟩ := way_step hn hst (by omega)
   have hpp := Nat.two_pow_pos k
   have hpk : 2 ^ k ≤ 2 ^ 40 := Nat.pow_le_pow_right (by omega) hk
   have hqk : q * 2 ^ (k + 1) ≤ c := by rw [hc, Nat.pow_succ, Nat.mul_comm (2 ^ k) 2, ← Nat.mul_assoc]; exact Nat.mul_le_mul_right _ (by omega)
   by_cases hgt : 2 ^ 40 < dd
   ·
    have hw : WaySt n (k + 1) 0 (o ++ [0]) := by rcases hnext with ⟨h, _⟩ | ⟨_, h⟩; omega; exact h
    refine T.skip ?_
    refine T.block ?_
    refine T.seq ?_
    refine T.region ?_
    refine LW.q rfl (Qt.move rfl) ?_
    refine LW.q rfl (Qt.move rfl) ?_
    refine LW.q rfl (Qt.negI (r := -(c : Int)) rfl (by rw [wr64 (by omega) (by omega)]; omega)) ?_
    refine LW.q rfl (Qt.bits64 (2 ^ k) rfl (.inl rfl) rfl rfl (by rw [hc]; exact low_bits (by omega)) (wr64 (by omega) (by omega))) ?_
    refine LW.q rfl (Qt.assign rfl) ?_
    refine LW.done ?_
    refine T.seq ?_
    refine T.region ?_
    refine LW.q rfl (Qt.move rfl) ?_
    refine LW.q rfl (Qt.move rfl) ?_
    refine LW.q rfl (Qt.bits64 (q * 2 ^ (k + 1)) rfl (.inl rfl) rfl rfl (by rw [hc]; exact up_bits (by omega)) (wr64 (by omega) (by omega))) ?_
    refine LW.q rfl (Qt.move rfl) ?_
    refine LW.q rfl (Qt.shlI (2 ^ k) 1 rfl rfl rfl rfl rfl (by omega) (wr64 (by omega) (by omega))) ?_
    refine LW.q rfl (Qt.bits64 dd rfl (.inl rfl) rfl rfl (by rw [hd]; exact or_bits (by omega)) (wr64 (by omega) (by omega))) ?_
    refine LW.q rfl (Qt.assign rfl) ?_
    refine LW.done ?_
    refine T.seq ?_
    refine T.seq ?_
    refine T.region ?_
    refine LW.q rfl (Qt.move rfl) ?_
    refine LW.q rfl (Qt.gtr rfl rfl) ?_
    refine LW.done ?_
    first | refine T.condT rfl ?_ | refine T.condPT rfl (by omega) ?_ | refine T.condBT rfl (by omega) ?_
    refine T.region ?_
    refine LW.q rfl (Qt.assign rfl) ?_
    refine LW.done ?_
    refine T.region ?_
    refine LW.q rfl (Qt.move rfl) ?_
    refine LW.q rfl (Qt.move rfl) ?_
    refine LW.e rfl (Ef.one [_] (e := 2) (sz := 1) (by kernel_rfl) ⟨.int .i64 0, by kernel_rfl, rfl⟩ rfl rfl rfl (by omega) (by omega) ?_)
    intro g21
    refine LW.e rfl (Ef.append Ri.elemZ rfl rfl (SrcOf.blk (by kernel_rfl) rfl (by simp [Value.oneCell'])) (by unfold maxLen; omega) (by omega) ?_)
    rintro p2 c2 hp2
    try simp only [List.cons_append, List.nil_append]
    rw [show o.length + 1 = (o ++ [0]).length by simp, show (zL o).map iV ++ [Value.int .i64 0] = (zL (o ++ [0])).map iV by simp]
    refine LW.q rfl (Qt.assign rfl) ?_
    refine LW.done ?_
    refine ⟨_, ?_, _, ⟨_, k + 1, 0, o ++ [0], p2, c2, hw, rfl, (updS rfl (updS rfl rfl)), rfl⟩, Sub.any⟩
    first | omega | (simp; omega)
   ·
    have hw : WaySt n (k + 1) dd (o ++ [dd]) := by rcases hnext with ⟨_, h⟩ | ⟨h, _⟩; exact h; omega
    refine T.skip ?_
    refine T.block ?_
    refine T.seq ?_
    refine T.region ?_
    refine LW.q rfl (Qt.move rfl) ?_
    refine LW.q rfl (Qt.move rfl) ?_
    refine LW.q rfl (Qt.negI (r := -(c : Int)) rfl (by rw [wr64 (by omega) (by omega)]; omega)) ?_
    refine LW.q rfl (Qt.bits64 (2 ^ k) rfl (.inl rfl) rfl rfl (by rw [hc]; exact low_bits (by omega)) (wr64 (by omega) (by omega))) ?_
    refine LW.q rfl (Qt.assign rfl) ?_
    refine LW.done ?_
    refine T.seq ?_
    refine T.region ?_
    refine LW.q rfl (Qt.move rfl) ?_
    refine LW.q rfl (Qt.move rfl) ?_
    refine LW.q rfl (Qt.bits64 (q * 2 ^ (k + 1)) rfl (.inl rfl) rfl rfl (by rw [hc]; exact up_bits (by omega)) (wr64 (by omega) (by omega))) ?_
    refine LW.q rfl (Qt.move rfl) ?_
    refine LW.q rfl (Qt.shlI (2 ^ k) 1 rfl rfl rfl rfl rfl (by omega) (wr64 (by omega) (by omega))) ?_
    refine LW.q rfl (Qt.bits64 dd rfl (.inl rfl) rfl rfl (by rw [hd]; exact or_bits (by omega)) (wr64 (by omega) (by omega))) ?_
    refine LW.q rfl (Qt.assign rfl) ?_
    refine LW.done ?_
    refine T.seq ?_
    refine T.seq ?_
    refine T.region ?_
    refine LW.q rfl (Qt.move rfl) ?_
    refine LW.q rfl (Qt.gtr rfl rfl) ?_
    refine LW.done ?_
    first | refine T.condF rfl ?_ | refine T.condPF rfl (by omega) ?_ | refine T.condBF rfl (by omega) ?_
    refine T.skip ?_
    refine T.region ?_
    refine LW.q rfl (Qt.move rfl) ?_
    refine LW.q rfl (Qt.move rfl) ?_
    refine LW.e rfl (Ef.one [_] (e := 2) (sz := 1) (by kernel_rfl) ⟨.int .i64 0, by kernel_rfl, rfl⟩ rfl rfl rfl (by omega) (by omega) ?_)
    intro g21
    refine LW.e rfl (Ef.append Ri.elemZ rfl rfl (SrcOf.blk (by kernel_rfl) rfl (by simp [Value.oneCell'])) (by unfold maxLen; omega) (by omega) ?_)
    rintro p2 c2 hp2
    try simp only [List.cons_append, List.nil_append]
    rw [show o.length + 1 = (o ++ [dd]).length by simp, show (zL o).map iV ++ [Value.int .i64 ((dd : Nat) : Int)] = (zL (o ++ [dd])).map iV by simp]
    refine LW.q rfl (Qt.assign rfl) ?_
    refine LW.done ?_
    refine ⟨_, ?_, _, ⟨_, k + 1, dd, o ++ [dd], p2, c2, hw, rfl, (updS rfl (updS rfl rfl)), rfl⟩, Sub.any⟩
    first | omega | (simp; omega)
  ·
   obtain rfl : c = 0 := by omega
   obtain rfl := way_stop hst
   refine T.exit ?_
   refine T.seq ?_
   refine T.region ?_
   refine LW.q rfl (Qt.move rfl) ?_
   refine LW.q rfl (Qt.assign rfl) ?_
   refine LW.done ?_
   refine T.ret ?_
   exact ⟨.inl rfl, _, _, res [_] rfl ⟨rvT rfl, trivial⟩, ⟨p, cp, rfl, rfl⟩, Sub.any⟩
end Go.Proofs.Ytefognjcognknaa

/- slices.Compact of numbers, slices.Sort of numbers. Conditions: sizes. -/
set_option linter.unusedSimpArgs false
set_option linter.unusedVariables false
namespace Go.Proofs.Ytefognjcognknaa
open Go.RowKit
theorem comp_short {l : List Int} (h : l.length < 2) : compZ l = l := by
  rcases l with _ | ⟨x, _ | ⟨y, l⟩⟩
  · rfl
  · rfl
  · exact absurd h (by simp)
theorem take_snocZ {l : List Int} {k : Nat} (h : k < l.length) : l.take (k + 1) = l.take k ++ [l[k]] := by rw [List.take_succ_eq_append_getElem h]
theorem last_take {l : List Int} {k : Nat} (h : k < l.length) : (l.take (k + 1)).getLast? = some l[k] := by rw [take_snocZ h, List.getLast?_append]; rfl
theorem comp_same {l : List Int} {k : Nat} (h : k + 1 < l.length) (he : l[k + 1] = l[k]) : compZ (l.take (k + 1 + 1)) = compZ (l.take (k + 1)) := by
  rw [take_snocZ h, comp_snoc', last_take (by omega), he, if_pos rfl]
theorem comp_new {l : List Int} {k : Nat} (h : k + 1 < l.length) (he : l[k + 1] ≠ l[k]) : compZ (l.take (k + 1 + 1)) = compZ (l.take (k + 1)) ++ [l[k + 1]] := by
  rw [take_snocZ h, comp_snoc', last_take (by omega), if_neg (fun e => he (Option.some.inj e).symm)]
theorem set_take {C : List Value} {j : Nat} {v : Value} {xs : List Value} (hj : j < C.length) (h : C.take j = xs) : (C.set j v).take (j + 1) = xs ++ [v] := by
  rw [List.take_succ_eq_append_getElem (by simpa using hj), List.take_set_of_le (Nat.le_refl _), h]
  simp
theorem splice_headZ {C X : List Value} {n : Nat} (h : n ≤ C.length) : (splice C n X).take n = C.take n := by
  unfold splice
  rw [List.take_append_of_le_length (by simp; omega), List.take_take, Nat.min_self]
theorem cell_of_take {C : List Value} {zs : List Int} {m : Nat} (h : C.take m = zs.map iV) (hm : zs.length = m) (j : Nat) (hj : j < zs.length) : C[j]? = some (iV zs[j]) := by
  have e : (C.take m)[j]? = (zs.map iV)[j]? := by rw [h]
  rw [List.getElem?_take, if_pos (by omega)] at e
  rw [e]; simp [hj]
set_option maxHeartbeats 2000000 in
set_option maxRecDepth 100000 in
theorem Sl.compact (B : Base) (p : Option Addr) (m c : Nat) (zs : List Int) (hm : zs.length = m) (hs : m < 2 ^ 40) : Fn Try.prog B 60 #[.slice p m c] [rZ p m c zs] (fun v l => v = .slice p (compZ zs).length c ∧ l = [rZ p (compZ zs).length c (compZ zs)]) := by
 refine Fn.enter1 61 Try.func60 rfl rfl (Nat.le_of_ble_eq_true rfl) (fun F => ?_)
 try simp only [List.cons_append, List.nil_append]
 refine T.seq ?_
 refine T.region ?_
 refine LW.q rfl (Qt.assign rfl) ?_
 refine LW.done ?_
 refine T.seq ?_
 refine T.seq ?_
 refine T.region ?_
 refine LW.q rfl (Qt.move rfl) ?_
 refine LW.q rfl (Qt.len (e := 2) (sz := 1) (by kernel_rfl) rfl) ?_
 refine LW.q rfl (Qt.lss rfl rfl) ?_
 refine LW.done ?_
 refine T.condP rfl (fun hlt => ?_) (fun hlt => ?_)
 ·
  have e := comp_short (l := zs) (by omega)
  refine T.seq ?_
  refine T.region ?_
  refine LW.q rfl (Qt.move rfl) ?_
  refine LW.q rfl (Qt.assign rfl) ?_
  refine LW.done ?_
  refine T.ret ?_
  exact ⟨.inl rfl, _, _, res [_] rfl ⟨rvT rfl, trivial⟩, ⟨by rw [e, hm]; rfl, by rw [e, hm]⟩, Sub.any⟩
 ·
  refine T.own fun w0 ho0 => ?_
  obtain ⟨g, rfl⟩ := (ho0.slice_at (p := p) (m := m) (c := c) (k := m)).2.1 (by omega)
  clear ho0
  refine T.ex (fun w ho => ho.openRow) fun C => ?_
  refine T.own fun w1 ho1 => ?_
  obtain ⟨hC1, hC2, hC3, hC4⟩ := ho1.has.elim fun h H => (Has.open_pu H.2.2).1
  refine T.conv (fun w ho => ho.tl) ?_
  clear ho1
  have hcell := cell_of_take hC2 hm
  refine T.skip ?_
  refine T.seq ?_
  refine T.seq ?_
  refine T.region ?_
  refine LW.q rfl (Qt.assign rfl) ?_
  refine LW.done ?_
  refine T.block ?_
  refine T.loop (fun mz fz lz => ∃ (f0 : Fr) (k : Nat), (1 ≤ k ∧ k ≤ m ∧ compZ (zs.take k) = zs.take k) ∧ mz = m - k ∧ fz = (upd (upd f0 0 (.slice (some ⟨g, 0, none⟩) m c)) 3 (.int .i64 k)) ∧ lz = blk g C 2 :: F) ?_ ?_
  · refine ⟨_, _, ⟨_, 1, ⟨Nat.le_refl _, by omega, comp_short (by simp; omega)⟩, rfl, (updS rfl (updS rfl rfl)), rfl⟩, Sub.any⟩
  ·
   rintro mz fz lz ⟨f0, k, ⟨hk1, hk2, hk3⟩, hmz, rfl, rfl⟩
   subst mz
   try simp only [List.cons_append, List.nil_append]
   refine T.seq ?_
   refine T.seq ?_
   refine T.region ?_
   refine LW.q rfl (Qt.move rfl) ?_
   refine LW.q rfl (Qt.move rfl) ?_
   refine LW.q rfl (Qt.len (e := 2) (sz := 1) (by kernel_rfl) rfl) ?_
   refine LW.q rfl (Qt.lss rfl rfl) ?_
   refine LW.done ?_
   refine T.condP rfl (fun hkm => ?_) (fun hkm => ?_)
   ·
    obtain ⟨k, rfl⟩ : ∃ k', k = k' + 1 := ⟨k - 1, by omega⟩
    have hkl : k + 1 < zs.length := by omega
    refine T.skip ?_
    refine T.seq ?_
    refine T.block ?_
    refine T.seq ?_
    refine T.drawAll 10 (by kernel_rfl) (Nat.le_of_ble_eq_true rfl) (by kernel_rfl) ?_
    refine RW.q 0 rfl rfl (by kernel_rfl) (Sub.refl _) (Qt.move rfl) ?_
    refine RW.q 1 rfl rfl (by kernel_rfl) (Sub.refl _) (Qt.move rfl) ?_
    refine RW.q 2 rfl rfl (by kernel_rfl) (Sub.refl _) (Qt.index (k + 1) (e := 2) (sz := 1) (by kernel_rfl) rfl rfl rfl (by omega)) ?_
    refine RW.q 3 rfl rfl (by kernel_rfl) (Sub.refl _) (Qt.load (v := iV zs[k + 1]) (by kernel_rfl) rfl (by rw [Nat.mul_one, Nat.zero_add]; exact hcell _ hkl)) ?_
    refine RW.q 4 rfl rfl (by kernel_rfl) (Sub.refl _) (Qt.move rfl) ?_
    refine RW.q 5 rfl rfl (by kernel_rfl) (Sub.refl _) (Qt.move rfl) ?_
    refine RW.q 6 rfl rfl (by kernel_rfl) (Sub.refl _) (Qt.sub (r := (k : Int)) rfl rfl (by rw [wr64 (by omega) (by omega)]; omega)) ?_
    refine RW.q 7 rfl rfl (by kernel_rfl) (Sub.refl _) (Qt.index k (e := 2) (sz := 1) (by kernel_rfl) rfl rfl rfl (by omega)) ?_
    refine RW.q 8 rfl rfl (by kernel_rfl) (Sub.refl _) (Qt.load (v := iV zs[k]) (by kernel_rfl) rfl (by rw [Nat.mul_one, Nat.zero_add]; exact hcell _ (by omega))) ?_
    refine RW.q 9 rfl rfl (by kernel_rfl) (Sub.refl _) (Qt.eql rfl rfl) ?_
    refine RW.done (by rfl) ?_
    simp only [List.drop_succ_cons, List.drop_zero, List.drop_nil]
    refine LW.done ?_
    refine T.condP rfl (fun heq => ?_) (fun heq => ?_)
    ·
     have heq' : zs[k + 1] = zs[k] := by simpa using heq
     refine T.seq ?_
     refine T.region ?_
     refine LW.q rfl (Qt.move rfl) ?_
     refine LW.q rfl (Qt.move rfl) ?_
     refine LW.q rfl (Qt.sliceE_snn (k + 1) (some ⟨g, k + 1, none⟩) (m - (k + 1)) (c - (k + 1)) (e := 2) (sz := 1) (by kernel_rfl) rfl rfl rfl (by omega) (offA_one (by omega)) rfl rfl) ?_
     refine LW.q rfl (Qt.assign rfl) ?_
     refine LW.done ?_
     refine T.seq ?_
     refine T.seq ?_
     refine T.region ?_
     refine LW.q rfl (Qt.assign rfl) ?_
     refine LW.done ?_
     refine T.block ?_
     refine T.loop (fun mz fz lz => ∃ (f0 : Fr) (j n : Nat) (D : List Value), (1 ≤ j ∧ n ≤ k + j ∧ k + 1 + j ≤ m ∧ D.length = c ∧ n = (compZ (zs.take (k + 1 + j))).length ∧ D.take n = (compZ (zs.take (k + 1 + j))).map iV ∧ ∀ i, k + j ≤ i → D[i]? = C[i]?) ∧ mz = m - j ∧ fz = (upd (upd (upd (upd f0 0 (.slice (some ⟨g, 0, none⟩) m c)) 3 (.int .i64 n)) 4 (.slice (some ⟨g, k + 1, none⟩) (m - (k + 1)) (c - (k + 1)))) 5 (.int .i64 j)) ∧ lz = blk g D 2 :: F) ?_ ?_
     · refine ⟨_, _, ⟨_, 1, k + 1, C, ⟨Nat.le_refl _, by omega, by omega, hC1, by rw [comp_same hkl heq', hk3]; simp; omega, by rw [comp_same hkl heq', hk3, List.map_take, ← hC2, List.take_take, Nat.min_eq_left (by omega)], fun _ _ => rfl⟩, rfl, (updS rfl (updS rfl (updS rfl (updS rfl rfl)))), rfl⟩, Sub.any⟩
     ·
      rintro mz fz lz ⟨f0, j, n, D, ⟨hj1, hj2, hj3, hD1, hn, hD2, hD3⟩, hmz, rfl, rfl⟩
      subst mz
      try simp only [List.cons_append, List.nil_append]
      refine T.seq ?_
      refine T.seq ?_
      refine T.region ?_
      refine LW.q rfl (Qt.move rfl) ?_
      refine LW.q rfl (Qt.move rfl) ?_
      refine LW.q rfl (Qt.len (e := 2) (sz := 1) (by kernel_rfl) rfl) ?_
      refine LW.q rfl (Qt.lss rfl rfl) ?_
      refine LW.done ?_
      refine T.condP rfl (fun hjm => ?_) (fun hjm => ?_)
      ·
       have hjl : k + j + 1 < zs.length := by omega
       obtain ⟨j, rfl⟩ : ∃ j', j = j' + 1 := ⟨j - 1, by omega⟩
       refine T.skip ?_
       refine T.seq ?_
       refine T.block ?_
       refine T.seq ?_
       refine T.drawAll 10 (by kernel_rfl) (Nat.le_of_ble_eq_true rfl) (by kernel_rfl) ?_
       refine RW.q 0 rfl rfl (by kernel_rfl) (Sub.refl _) (Qt.move rfl) ?_
       refine RW.q 1 rfl rfl (by kernel_rfl) (Sub.refl _) (Qt.move rfl) ?_
       refine RW.q 2 rfl rfl (by kernel_rfl) (Sub.refl _) (Qt.index (j + 1) (e := 2) (sz := 1) (by kernel_rfl) rfl rfl rfl (by omega)) ?_
       refine RW.q 3 rfl rfl (by kernel_rfl) (Sub.refl _) (Qt.load (v := iV zs[k + (j + 1) + 1]) (by kernel_rfl) rfl (by rw [Nat.mul_one, show k + 1 + (j + 1) = k + (j + 1) + 1 by omega, hD3 _ (by omega)]; exact hcell _ hjl)) ?_
       refine RW.q 4 rfl rfl (by kernel_rfl) (Sub.refl _) (Qt.move rfl) ?_
       refine RW.q 5 rfl rfl (by kernel_rfl) (Sub.refl _) (Qt.move rfl) ?_
       refine RW.q 6 rfl rfl (by kernel_rfl) (Sub.refl _) (Qt.sub (r := (j : Int)) rfl rfl (by rw [wr64 (by omega) (by omega)]; omega)) ?_
       refine RW.q 7 rfl rfl (by kernel_rfl) (Sub.refl _) (Qt.index j (e := 2) (sz := 1) (by kernel_rfl) rfl rfl rfl (by omega)) ?_
       refine RW.q 8 rfl rfl (by kernel_rfl) (Sub.refl _) (Qt.load (v := iV (zs[k + (j + 1)]'(by omega))) (by kernel_rfl) rfl (by rw [Nat.mul_one, show k + 1 + j = k + (j + 1) by omega, hD3 _ (by omega)]; exact hcell _ (by omega))) ?_
       refine RW.q 9 rfl rfl (by kernel_rfl) (Sub.refl _) (Qt.neq rfl rfl) ?_
       refine RW.done (by rfl) ?_
       simp only [List.drop_succ_cons, List.drop_zero, List.drop_nil]
       refine LW.done ?_
       refine T.condP rfl (fun hne => ?_) (fun hne => ?_)
       ·
        have hne' : zs[k + (j + 1) + 1] ≠ zs[k + (j + 1)]'(by omega) := by simpa using hne
        have hcn := comp_new hjl hne'
        rw [show k + 1 + (j + 1) = k + (j + 1) + 1 by omega] at hn hD2
        refine T.seq ?_
        refine T.region ?_
        refine LW.q rfl (Qt.move rfl) ?_
        refine LW.q rfl (Qt.move rfl) ?_
        refine LW.q rfl (Qt.move rfl) ?_
        refine LW.q rfl (Qt.move rfl) ?_
        refine LW.q rfl (Qt.index (j + 1) (e := 2) (sz := 1) (by kernel_rfl) rfl rfl rfl (by omega)) ?_
        refine LW.q rfl (Qt.load (v := iV zs[k + (j + 1) + 1]) (by kernel_rfl) rfl (by rw [Nat.mul_one, show k + 1 + (j + 1) = k + (j + 1) + 1 by omega, hD3 _ (by omega)]; exact hcell _ hjl)) ?_
        refine LW.q rfl (Qt.index n (e := 2) (sz := 1) (by kernel_rfl) rfl rfl rfl (by omega)) ?_
        refine LW.e0 rfl (Ef.store1 (by kernel_rfl) rfl rfl rfl (by omega) ?_)
        refine LW.done ?_
        refine T.region ?_
        refine LW.q rfl (Qt.move rfl) ?_
        refine LW.q rfl (Qt.add rfl rfl (wr64 (by omega) (by omega))) ?_
        refine LW.q rfl (Qt.assign rfl) ?_
        refine LW.done ?_
        refine T.region ?_
        refine LW.q rfl (Qt.move rfl) ?_
        refine LW.q rfl (Qt.add rfl rfl (wr64 (by omega) (by omega))) ?_
        refine LW.q rfl (Qt.assign rfl) ?_
        refine LW.done ?_
        refine ⟨_, ?_, _, ⟨_, j + 1 + 1, n + 1, D.set (0 + n * 1) (iV zs[k + (j + 1) + 1]), ⟨by omega, by omega, by omega, by rw [List.length_set]; exact hD1, by rw [show k + 1 + (j + 1 + 1) = k + (j + 1) + 1 + 1 by omega, hcn, List.length_append, ← hn]; rfl, by rw [show k + 1 + (j + 1 + 1) = k + (j + 1) + 1 + 1 by omega, hcn, List.map_append, show 0 + n * 1 = n by omega]; exact set_take (by omega) hD2, fun i hi => by rw [List.getElem?_set_ne (by omega)]; exact hD3 i (by omega)⟩, rfl, (updS rfl (updS rfl (updS rfl (updS rfl rfl)))), rfl⟩, Sub.any⟩
        first | omega | (simp; omega)
       ·
        have heq2 : zs[k + (j + 1) + 1] = zs[k + (j + 1)]'(by omega) := by simpa using hne
        have hcs := comp_same hjl heq2
        refine T.skip ?_
        refine T.region ?_
        refine LW.q rfl (Qt.move rfl) ?_
        refine LW.q rfl (Qt.add rfl rfl (wr64 (by omega) (by omega))) ?_
        refine LW.q rfl (Qt.assign rfl) ?_
        refine LW.done ?_
        refine ⟨_, ?_, _, ⟨_, j + 1 + 1, n, D, ⟨by omega, by omega, by omega, hD1, by rw [show k + 1 + (j + 1 + 1) = k + (j + 1) + 1 + 1 by omega, hcs, show k + (j + 1) + 1 = k + 1 + (j + 1) by omega]; exact hn, by rw [show k + 1 + (j + 1 + 1) = k + (j + 1) + 1 + 1 by omega, hcs, show k + (j + 1) + 1 = k + 1 + (j + 1) by omega]; exact hD2, fun i hi => hD3 i (by omega)⟩, rfl, (updS rfl (updS rfl (updS rfl (updS rfl rfl)))), rfl⟩, Sub.any⟩
        first | omega | (simp; omega)
      ·
       have ez : zs.take (k + 1 + j) = zs := List.take_of_length_le (by omega)
       rw [ez] at hn hD2
       refine T.exit ?_
       refine T.seq ?_
       refine T.region ?_
       refine LW.q rfl (Qt.move rfl) ?_
       refine LW.q rfl (Qt.move rfl) ?_
       refine LW.q rfl (Qt.sliceE_snn n (some ⟨g, n, none⟩) (m - n) (c - n) (e := 2) (sz := 1) (by kernel_rfl) rfl rfl rfl (by omega) (offA_one (by omega)) rfl rfl) ?_
       refine LW.e0 rfl (Ef.clear (e := 2) (C := D) (.int .i64 0) (by kernel_rfl) (by kernel_rfl) rfl rfl rfl (by omega) (by omega) ?_)
       try simp only [List.cons_append, List.nil_append]
       refine LW.done ?_
       refine T.seq ?_
       refine T.region ?_
       refine LW.q rfl (Qt.move rfl) ?_
       refine LW.q rfl (Qt.move rfl) ?_
       refine LW.q rfl (Qt.slice_nsn n (e := 2) (sz := 1) (by kernel_rfl) rfl rfl rfl (by omega)) ?_
       refine LW.q rfl (Qt.assign rfl) ?_
       refine LW.done ?_
       refine T.ret ?_
       exact ⟨.inl rfl, _, _, res [_] rfl ⟨rvT rfl, trivial⟩, ⟨by rw [← hn]; rfl, by rw [← hn]⟩, (fun h H => Has.closeRow (m := n) (xs := (compZ zs).map iV) (by rw [length_splice _ _ _ (by simp; omega), hD1]) (by omega) hC4 (by rw [splice_headZ (by omega)]; exact hD2) H)⟩
    ·
     have hne' : zs[k + 1] ≠ zs[k] := by simpa using heq
     refine T.skip ?_
     refine T.region ?_
     refine LW.q rfl (Qt.move rfl) ?_
     refine LW.q rfl (Qt.add rfl rfl (wr64 (by omega) (by omega))) ?_
     refine LW.q rfl (Qt.assign rfl) ?_
     refine LW.done ?_
     refine ⟨_, ?_, _, ⟨_, k + 1 + 1, ⟨by omega, by omega, by rw [comp_new hkl hne', hk3, ← take_snocZ hkl]⟩, rfl, (updS rfl (updS rfl rfl)), rfl⟩, Sub.any⟩
     first | omega | (simp; omega)
   ·
    obtain rfl : k = m := by omega
    have ez : zs.take k = zs := List.take_of_length_le (by omega)
    rw [ez] at hk3
    refine T.exit ?_
    refine T.seq ?_
    refine T.region ?_
    refine LW.q rfl (Qt.move rfl) ?_
    refine LW.q rfl (Qt.assign rfl) ?_
    refine LW.done ?_
    refine T.ret ?_
    exact ⟨.inl rfl, _, _, res [_] rfl ⟨rvT rfl, trivial⟩, ⟨by rw [hk3, hm]; rfl, by rw [hk3, hm]⟩, (fun h H => Has.closeRow hC1 hC3 hC4 hC2 H)⟩
end Go.Proofs.Ytefognjcognknaa
