/- Frames as functions, and the judgements of a walk over assertions: codes, lists of operations, regions that draw their order. Conditions: none. -/
import Derived.Test.YtdjfibkpmmcefaaSlA
namespace Go.Proofs.Ytdjfibkpmmcefaa
open Go.RowKit

abbrev Fr := Nat → Option Value
def upd (f : Fr) (d : Nat) (v : Value) : Fr := fun i => bif Nat.beq i d then some v else f i
def tm (n : Nat) (f : Fr) : Array Value := ((List.range n).map fun i => (f i).getD undef).toArray
def act (n : Nat) (f : Fr) : Act := ⟨tm n f, []⟩
def ev (n : Nat) (f : Fr) : Operand → Option Value
  | .tmp t => bif Nat.blt t n then f t else none
  | .const v => some v
  | .global g => some (.pointer (some ⟨g, 0, none⟩))
  | .func g => some (.func (.func g) #[] #[])
def evu (n : Nat) (f : Fr) (x : Operand) : Value := (ev n f x).getD undef
theorem evu_eq {n : Nat} {f : Fr} {x : Operand} {v : Value} (h : ev n f x = some v) : evu n f x = v := by rw [evu, h]; rfl
def putd (f : Fr) : Option Nat → Value → Fr
  | some d, v => upd f d v
  | none, _ => f

theorem tm_getElem? (n : Nat) (f : Fr) (t : Nat) : (tm n f)[t]? = if t < n then some ((f t).getD undef) else none := by
  unfold tm
  simp [List.getElem?_range]
  split <;> simp_all
theorem blt_eq (t n : Nat) : Nat.blt t n = decide (t < n) := by
  by_cases h : t < n
  · rw [decide_eq_true h, Nat.blt_eq]; exact h
  · rw [decide_eq_false h]
    cases hb : Nat.blt t n with
    | false => rfl
    | true => exact absurd (Nat.blt_eq ▸ hb) h
theorem eval_act (n : Nat) (f : Fr) (x : Operand) : (act n f).eval x = evu n f x := by
  cases x with
  | tmp t =>
    simp only [Act.eval, act, evu, ev, blt_eq]
    rw [Array.getD_eq_getD_getElem?, tm_getElem?]
    by_cases h : t < n <;> simp [h]
  | _ => rfl
theorem eval_act' (n : Nat) (f : Fr) : (act n f).eval = evu n f := funext (eval_act n f)
theorem upd_at (f : Fr) (d : Nat) (v : Value) : upd f d v d = some v := by simp [upd]
theorem upd_ne (f : Fr) {d i : Nat} (v : Value) (h : i ≠ d) : upd f d v i = f i := by
  have : Nat.beq i d = false := by
    cases hb : Nat.beq i d with
    | false => rfl
    | true => exact absurd (Nat.eq_of_beq_eq_true hb) h
  simp [upd, this]
theorem put_act (n : Nat) (f : Fr) (d : Option Nat) (v : Value) : (act n f).put d v = act n (putd f d v) := by
  cases d with
  | none => rfl
  | some d =>
    simp only [Act.put, act, putd]
    congr 1
    apply Array.ext_getElem?
    intro i
    rw [tm_getElem?, Array.getElem?_setIfInBounds, tm_getElem?]
    by_cases h : d = i
    · subst h; simp [tm, upd_at]
    · rw [if_neg h, upd_ne f v (fun e => h e.symm)]
theorem upd_self {f : Fr} {d : Nat} {v : Value} (h : f d = some v) : upd f d v = f := by
  funext i
  by_cases e : i = d
  · subst e; rw [upd_at, h]
  · rw [upd_ne f v e]

/-- The frame with these slots. -/
def U (f : Fr) : List (Nat × Value) → Fr
  | [] => f
  | p :: l => upd (U f l) p.1 p.2
theorem U_self {f : Fr} : ∀ {l : List (Nat × Value)}, (∀ p ∈ l, f p.1 = some p.2) → f = U f l
  | [], _ => rfl
  | p :: l, h => by
    rw [U, ← U_self (f := f) (l := l) (fun q hq => h q (List.mem_cons_of_mem _ hq))]
    exact (upd_self (h p (List.mem_cons_self ..))).symm

/-- A judgement's post: an exit, a frame, assertions. -/
abbrev Post := Exit → Fr → List Assn → Prop
def PanicKeeps (Q : Exit → Act → World → Prop) : Prop := ∀ c a d v w, Q (.panic c) (a.put d v) w → Q (.panic c) a w
structure Fits (B : Base) (n : Nat) (Φ : Post) (Q : Exit → Act → World → Prop) : Prop where
  go : ∀ e f w l, Φ e f l → Own B w l → Q e (act n f) w
  pk : PanicKeeps Q

structure T (P : Program) (B : Base) (n : Nat) (c : Code) (Φ : Post) (f : Fr) (l : List Assn) : Prop where
  run : ∀ Q w, Fits B n Φ Q → Own B w l → c.wp P Q (act n f) w
structure LW (P : Program) (B : Base) (n : Nat) (ops : Array Oper) (rest : List Oper) (Φ : Post) (f : Fr) (l : List Assn) : Prop where
  run : ∀ Q w, Fits B n Φ Q → Own B w l → wpList P ops Q rest (act n f) w
/-- A quiet operation: it yields v in each world that has S, and leaves it. -/
structure Qt (P : Program) (B : Base) (n : Nat) (S : List Assn) (o : Oper) (f : Fr) (v : Value) : Prop where
  run : ∀ w, Own B w S → (execOp (evu n f) o).run P w = .ok (.value v) w
/-- An operation that acts: what it yields and leaves serves K. -/
structure Ef (P : Program) (B : Base) (n : Nat) (o : Oper) (f : Fr) (l : List Assn) (K : Value → List Assn → Prop) : Prop where
  run : ∀ w next Q, Own B w l → (∀ v w' l', K v l' → Own B w' l' → next ((act n f).put o.dst v) w') → o.wp P (act n f) w next Q

def want (n : Nat) (ops : Array Oper) (f : Fr) (o : Oper) : Bool :=
  match o.guard with
  | none => true
  | some (j, b) => match (ops[j]?).bind (·.dst) with
    | none => false
    | some t => bif Nat.blt t n then (match f t with | some (.bool c) => c == b | _ => false) else false
theorem want_eq (n : Nat) (ops : Array Oper) (f : Fr) (o : Oper) : Region.wanted o (yielded ops (act n f).tmps) = want n ops f o := by
  unfold Region.wanted want
  cases hg : o.guard with
  | none => rfl
  | some p =>
    obtain ⟨j, b⟩ := p
    simp only [yielded, act]
    cases hd : (ops[j]?).bind (·.dst) with
    | none => simp
    | some t =>
      simp only [Option.bind_some, tm_getElem?, blt_eq]
      by_cases h : t < n
      · simp only [h, if_true, decide_true, cond_true]
        cases f t with
        | none => simp [undef]
        | some v => cases v <;> simp
      · simp [h]

section
variable {P : Program} {B : Base} {n : Nat} {ops : Array Oper} {rest : List Oper} {o : Oper} {Φ : Post} {f : Fr} {l : List Assn}

theorem LW.quiet {v : Value} (hw : want n ops f o = true) (hq : Qt P B n l o f v) (h : LW P B n ops rest Φ (putd f o.dst v) l) : LW P B n ops (o :: rest) Φ f l := ⟨fun Q w hf ho => by
  unfold wpList
  rw [want_eq, if_pos hw]
  refine .inl ?_
  unfold Oper.wp
  rw [eval_act', hq.run w ho]
  show wpList P ops Q rest ((act n f).put o.dst v) w
  rw [put_act]
  exact h.run Q w hf ho⟩
theorem LW.eff (hw : want n ops f o = true) (he : Ef P B n o f l fun v l' => LW P B n ops rest Φ (putd f o.dst v) l') : LW P B n ops (o :: rest) Φ f l := ⟨fun Q w hf ho => by
  unfold wpList
  rw [want_eq, if_pos hw]
  refine .inl (he.run w _ Q ho fun v w' l' k ho' => ?_)
  rw [put_act]
  exact k.run Q w' hf ho'⟩
theorem LW.skip (hw : want n ops f o = false) (h : LW P B n ops rest Φ (putd f o.dst undef) l) : LW P B n ops (o :: rest) Φ f l := ⟨fun Q w hf ho => by
  unfold wpList
  rw [want_eq, hw, if_neg (by simp), put_act]
  exact h.run Q w hf ho⟩
section named
variable {t : Tmp} {op : Op} {ty : TypeId} {pos : String} {af : Array Edge} {gd : Option (Nat × Bool)}
theorem LW.q {v : Value} (hw : want n ops f ⟨some t, op, ty, pos, af, gd⟩ = true) (hq : Qt P B n l ⟨some t, op, ty, pos, af, gd⟩ f v) (h : LW P B n ops rest Φ (upd f t v) l) : LW P B n ops (⟨some t, op, ty, pos, af, gd⟩ :: rest) Φ f l := LW.quiet hw hq h
theorem LW.e (hw : want n ops f ⟨some t, op, ty, pos, af, gd⟩ = true) (he : Ef P B n ⟨some t, op, ty, pos, af, gd⟩ f l fun v l' => LW P B n ops rest Φ (upd f t v) l') : LW P B n ops (⟨some t, op, ty, pos, af, gd⟩ :: rest) Φ f l := LW.eff hw he
theorem LW.e0 (hw : want n ops f ⟨none, op, ty, pos, af, gd⟩ = true) (he : Ef P B n ⟨none, op, ty, pos, af, gd⟩ f l fun _ l' => LW P B n ops rest Φ f l') : LW P B n ops (⟨none, op, ty, pos, af, gd⟩ :: rest) Φ f l := LW.eff hw he
theorem LW.s (hw : want n ops f ⟨some t, op, ty, pos, af, gd⟩ = false) (h : LW P B n ops rest Φ (upd f t undef) l) : LW P B n ops (⟨some t, op, ty, pos, af, gd⟩ :: rest) Φ f l := LW.skip hw h
end named
theorem LW.done (h : Φ .normal f l) : LW P B n ops [] Φ f l := ⟨fun _ w hf ho => hf.go _ _ w _ h ho⟩
theorem LW.split {t : Nat} {b : Bool} (hb : f t = some (.bool b)) (h1 : b = true → LW P B n ops rest Φ (upd f t (.bool true)) l) (h2 : b = false → LW P B n ops rest Φ (upd f t (.bool false)) l) : LW P B n ops rest Φ f l := by
  cases b with
  | true => have := h1 rfl; rwa [upd_self hb] at this
  | false => have := h2 rfl; rwa [upd_self hb] at this
theorem LW.gT {t : Nat} {b : Bool} (hb : f t = some (.bool b)) (h : b = true) (h1 : LW P B n ops rest Φ (upd f t (.bool true)) l) : LW P B n ops rest Φ f l := by subst h; rwa [upd_self hb] at h1
theorem LW.gF {t : Nat} {b : Bool} (hb : f t = some (.bool b)) (h : b = false) (h1 : LW P B n ops rest Φ (upd f t (.bool false)) l) : LW P B n ops rest Φ f l := by subst h; rwa [upd_self hb] at h1
/-- What the assertions say is plain. -/
theorem LW.own (h : ∀ w, Own B w l → LW P B n ops rest Φ f l) : LW P B n ops rest Φ f l := ⟨fun Q w hf ho => (h w ho).run Q w hf ho⟩
theorem LW.conv {l' : List Assn} (hc : ∀ w, Own B w l → Own B w l') (h : LW P B n ops rest Φ f l') : LW P B n ops rest Φ f l := ⟨fun Q w hf ho => h.run Q w hf (hc w ho)⟩

def Sub (l S : List Assn) : Prop := ∀ h, Has l h → Has S h
theorem Sub.refl (l : List Assn) : Sub l l := fun _ h => h
/-- The list ends in F. -/
class Tail (l F : List Assn) : Prop where
  tl : ∀ h, Has l h → Has F h
instance (F : List Assn) : Tail F F := ⟨fun _ h => h⟩
instance (A : Assn) (l F : List Assn) [k : Tail l F] : Tail (A :: l) F := ⟨fun _ h => k.tl _ h.tail⟩
class SubC (l m : List Assn) : Prop where
  sub : Sub l m
instance (l l' r F : List Assn) [k : TakeL l' l r] [t : Tail r F] : SubC l (l' ++ F) := ⟨fun _ H => by
  obtain ⟨h1, h2, d, a, b, e1, e2⟩ := Has.split (k.take _ H)
  exact Has.join d a b e1 (t.tl _ e2)⟩
instance (A : Assn) (l r m : List Assn) [k : TakeA A l r] [t : SubC r m] : SubC l (A :: m) := ⟨fun _ H => Has.cons_imp t.sub (k.take _ H)⟩
instance (priority := low) (l F : List Assn) [t : Tail l F] : SubC l F := ⟨t.tl⟩
instance (l : List Assn) : SubC l [] := ⟨fun _ _ => trivial⟩
theorem Sub.any {l m : List Assn} [k : SubC l m] : Sub l m := k.sub

theorem updS {f g : Fr} {d : Nat} {v : Value} (h : f d = some v) (e : f = g) : f = upd g d v := by rw [← e, upd_self h]

/-! codes -/
theorem T.own {c : Code} (h : ∀ w, Own B w l → T P B n c Φ f l) : T P B n c Φ f l := ⟨fun Q w hf ho => (h w ho).run Q w hf ho⟩
theorem T.conv {c : Code} {l' : List Assn} (hc : ∀ w, Own B w l → Own B w l') (h : T P B n c Φ f l') : T P B n c Φ f l := ⟨fun Q w hf ho => h.run Q w hf (hc w ho)⟩
theorem T.skip (h : Φ .normal f l) : T P B n .skip Φ f l := ⟨fun _ w hf ho => wp_skip (hf.go _ _ w _ h ho)⟩
theorem T.ret (h : Φ .ret f l) : T P B n .ret Φ f l := ⟨fun _ w hf ho => wp_ret (hf.go _ _ w _ h ho)⟩
theorem T.exit {id : Nat} (h : Φ (.exit id) f l) : T P B n (.exit id) Φ f l := ⟨fun _ w hf ho => wp_exit (hf.go _ _ w _ h ho)⟩
def thenP (K : Fr → List Assn → Prop) (Φ : Post) : Post
  | .normal, f, l => K f l
  | e, f, l => Φ e f l
theorem T.seq {x y : Code} (h : T P B n x (thenP (fun f' l' => T P B n y Φ f' l') Φ) f l) : T P B n (.seq x y) Φ f l := ⟨fun Q w hf ho => by
  refine wp_seq (h.run _ w ⟨fun e f' w' l' k ho' => ?_, fun c a d v w' k => ?_⟩ ho)
  · cases e with
    | normal => exact (show T P B n y Φ f' l' from k).run Q w' hf ho'
    | _ => exact hf.go _ _ w' l' k ho'
  · exact hf.pk c a d v w' k⟩
theorem T.cut {x y : Code} (M : Fr → List Assn → Prop) (h1 : T P B n x (thenP (fun f' l' => ∃ l'', M f' l'' ∧ Sub l' l'') Φ) f l) (h2 : ∀ f l, M f l → T P B n y Φ f l) : T P B n (.seq x y) Φ f l := by
  refine T.seq ⟨fun Q w hf ho => h1.run Q w ⟨fun e f' w' l' k ho' => ?_, hf.pk⟩ ho⟩
  cases e with
  | normal =>
    obtain ⟨l'', hM, hs⟩ := k
    exact hf.go .normal f' w' l'' (h2 f' l'' hM) (ho'.map hs)
  | _ => exact hf.go _ _ w' l' k ho'
def blockP (id : Nat) (Φ : Post) : Post
  | .exit id', f, l => bif Nat.beq id' id then Φ .normal f l else Φ (.exit id') f l
  | e, f, l => Φ e f l
theorem T.block {id : Nat} {c : Code} (h : T P B n c (blockP id Φ) f l) : T P B n (.block id c) Φ f l := ⟨fun Q w hf ho => by
  refine wp_block (h.run _ w ⟨fun e f' w' l' k ho' => ?_, fun c a d v w' k => ?_⟩ ho)
  · cases e with
    | exit id' =>
      simp only [blockP, Exit.inBlock] at k ⊢
      by_cases hid : id' = id
      · subst hid; simp only [Nat.beq_refl, cond_true] at k; rw [if_pos rfl]; exact hf.go _ _ w' l' k ho'
      · have hb : Nat.beq id' id = false := by
          cases hb : Nat.beq id' id with
          | false => rfl
          | true => exact absurd (Nat.eq_of_beq_eq_true hb) hid
        rw [hb] at k; rw [if_neg hid]; exact hf.go _ _ w' l' k ho'
    | _ => exact hf.go _ _ w' l' k ho'
  · exact hf.pk c a d v w' k⟩
theorem T.cond {c : Operand} {x y : Code} {b : Bool} (hb : ev n f c = some (.bool b)) (h1 : b = true → T P B n x Φ f l) (h2 : b = false → T P B n y Φ f l) : T P B n (.cond c x y) Φ f l := ⟨fun Q w hf ho => by
  refine wp_cond (t := b) (by rw [eval_act, evu_eq hb]) ?_
  cases b with
  | true => exact (h1 rfl).run Q w hf ho
  | false => exact (h2 rfl).run Q w hf ho⟩
theorem T.condP {c : Operand} {x y : Code} {p : Prop} [i : Decidable p] (hb : ev n f c = some (.bool (decide p))) (h1 : p → T P B n x Φ f l) (h2 : ¬ p → T P B n y Φ f l) : T P B n (.cond c x y) Φ f l :=
  T.cond hb (fun h => h1 (of_decide_eq_true h)) (fun h => h2 (of_decide_eq_false h))
theorem T.condT {c : Operand} {x y : Code} (hb : ev n f c = some (.bool true)) (h : T P B n x Φ f l) : T P B n (.cond c x y) Φ f l := T.cond hb (fun _ => h) (fun h => by cases h)
theorem T.condF {c : Operand} {x y : Code} (hb : ev n f c = some (.bool false)) (h : T P B n y Φ f l) : T P B n (.cond c x y) Φ f l := T.cond hb (fun h => by cases h) (fun _ => h)
theorem T.condPT {c : Operand} {x y : Code} {p : Prop} [i : Decidable p] (hb : ev n f c = some (.bool (decide p))) (hp : p) (h1 : T P B n x Φ f l) : T P B n (.cond c x y) Φ f l := T.condP hb (fun _ => h1) (fun h => absurd hp h)
theorem T.condPF {c : Operand} {x y : Code} {p : Prop} [i : Decidable p] (hb : ev n f c = some (.bool (decide p))) (hp : ¬ p) (h1 : T P B n y Φ f l) : T P B n (.cond c x y) Φ f l := T.condP hb (fun h => absurd h hp) (fun _ => h1)
theorem T.condBT {c : Operand} {x y : Code} {b : Bool} (hb : ev n f c = some (.bool b)) (h : b = true) (h1 : T P B n x Φ f l) : T P B n (.cond c x y) Φ f l := T.cond hb (fun _ => h1) (fun e => by rw [e] at h; cases h)
theorem T.condBF {c : Operand} {x y : Code} {b : Bool} (hb : ev n f c = some (.bool b)) (h : b = false) (h1 : T P B n y Φ f l) : T P B n (.cond c x y) Φ f l := T.cond hb (fun e => by rw [e] at h; cases h) (fun _ => h1)
theorem T.region {id : Nat} {ol : List Oper} (h : LW P B n ol.toArray ol Φ f l) : T P B n (.region id ol.toArray false) Φ f l := ⟨fun Q w hf ho => wp_region_lit (h.run Q w hf ho)⟩
theorem T.imp {c : Code} {Φ' : Post} (hi : ∀ e f l, Φ' e f l → Φ e f l) (h : T P B n c Φ' f l) : T P B n c Φ f l := ⟨fun Q w hf ho => h.run Q w ⟨fun e f' w' l' k => hf.go e f' w' l' (hi _ _ _ k), hf.pk⟩ ho⟩
/-- A loop: I m at its head, m sinks in each round. -/
theorem T.loop {c : Code} (I : Nat → Fr → List Assn → Prop) (h0 : ∃ m l', I m f l' ∧ Sub l l') (round : ∀ m f l, I m f l → T P B n c (thenP (fun f' l' => ∃ m', m' < m ∧ ∃ l'', I m' f' l'' ∧ Sub l' l'') Φ) f l) : T P B n (.loop c) Φ f l := ⟨fun Q w hf ho => by
  obtain ⟨m, l0, hm, hs0⟩ := h0
  replace ho := ho.map hs0
  intro b k cs
  have key : ∀ m f w l, I m f l → Own B w l → ∃ e a' w', Q e a' w' ∧ Arrives P (lone (b.at (act n f) (.code c :: .inLoop c :: k)) cs w) b k cs e a' w' := by
    intro m
    induction m using Nat.strongRecOn with
    | _ m ih =>
      intro f w l hI ho
      obtain ⟨e, a₁, w₁, hq, harr⟩ := (round m f l hI).run (Exit.then (fun a' w' => ∃ m' f' l', m' < m ∧ I m' f' l' ∧ Own B w' l' ∧ a' = act n f') Q) w
        ⟨fun e f' w' l' k ho' => by
          cases e with
          | normal => obtain ⟨m', h1, l'', h2, h3⟩ := k; exact ⟨m', f', l'', h1, h2, ho'.map h3, rfl⟩
          | _ => exact hf.go _ _ w' l' k ho', fun c a d v w' k => hf.pk c a d v w' k⟩ ho b (.inLoop c :: k) cs
      cases e with
      | normal =>
        obtain ⟨m', f', l', h1, h2, h3, rfl⟩ := hq
        obtain ⟨e₂, a₂, w₂, hq₂, harr₂⟩ := ih m' h1 f' w₁ l' h2 h3
        exact ⟨e₂, a₂, w₂, hq₂, .of_steps (Steps.trans harr (.one step_inLoop)) harr₂⟩
      | exit id => exact ⟨_, a₁, w₁, hq, .pass (x := .inLoop c) rfl (fun _ _ => .inl (by simp)) harr⟩
      | goto l => exact ⟨_, a₁, w₁, hq, .pass (x := .inLoop c) rfl (fun _ _ => .inl (by simp)) harr⟩
      | ret => exact ⟨_, a₁, w₁, hq, .pass (x := .inLoop c) rfl (fun _ _ => .inl (by simp)) harr⟩
      | panic ch => exact ⟨_, a₁, w₁, hq, .pass (x := .inLoop c) rfl (fun _ _ => .inl (by simp)) harr⟩
      | outgrown => exact ⟨_, a₁, w₁, hq, .pass (x := .inLoop c) rfl (fun _ _ => .inl (by simp)) harr⟩
  obtain ⟨e, a', w', hq, harr⟩ := key m f w l0 hm ho
  exact ⟨e, a', w', hq, .of_steps (.one step_loop) harr⟩⟩

/-! a region that draws its order -/
structure RW (P : Program) (B : Base) (n : Nat) (ops : Array Oper) (m : Nat) (Φ : Post) (k : Nat) (S : List Assn) (listed : Array Bool) (f : Fr) (l : List Assn) : Prop where
  run : ∀ Q w, Fits B n Φ Q → Own B w l → wpT P .any ops Q m (wpList P ops Q (ops.toList.drop m)) k (fun u => Own B u S) listed (act n f) w
structure RO (P : Program) (B : Base) (n : Nat) (ops : Array Oper) (m : Nat) (Φ : Post) (k : Nat) (S : List Assn) (listed : Array Bool) (f : Fr) (l : List Assn) (i : Nat) : Prop where
  run : ∀ Q w, Fits B n Φ Q → Own B w l → wpOp P ops Q i (fun a' w' => ∃ S' : World → Prop, (∀ u, S' u → Own B u S) ∧ S' w' ∧ wpT P .any ops Q m (wpList P ops Q (ops.toList.drop m)) k S' (listed.setIfInBounds i true) a' w') (act n f) w

theorem T.draw {id : Nat} {ol : List Oper} (m : Nat) (S : List Assn) (hm : P.follows .mixedOrders = true) (hn : m ≤ ol.length) (hseq : Region.seqB .any ol.toArray (ol.drop m).length m (doneB m ol.length) = true)
    (h : RW P B n ol.toArray m Φ m S (Array.replicate ol.length false) f l) : T P B n (.region id ol.toArray true) Φ f l := ⟨fun Q w hf ho =>
  wp_region_T m (fun u => Own B u S) hm hn hseq (h.run Q _ hf ho.drew)⟩

theorem T.drawAll {id : Nat} {ol : List Oper} (m : Nat) (hm : P.follows .mixedOrders = true) (hn : m ≤ ol.length) (hseq : Region.seqB .any ol.toArray (ol.drop m).length m (doneB m ol.length) = true)
    (h : RW P B n ol.toArray m Φ m l (Array.replicate ol.length false) f l) : T P B n (.region id ol.toArray true) Φ f l := T.draw m l hm hn hseq h

/-- The list without block g. -/
class Wo (g : Nat) (l : List Assn) (S : outParam (List Assn)) : Prop where
  sub : Sub l S
instance (g : Nat) (C : List Value) (t : TypeId) (l : List Assn) : Wo g (blk g C t :: l) l := ⟨fun _ h => h.tail⟩
instance (g : Nat) (A : Assn) (l S : List Assn) [k : Wo g l S] : Wo g (A :: l) (A :: S) := ⟨fun _ h => Has.cons_imp k.sub h⟩
theorem T.drawEx {id : Nat} {ol : List Oper} (m g : Nat) {S : List Assn} [k : Wo g l S] (hm : P.follows .mixedOrders = true) (hn : m ≤ ol.length) (hseq : Region.seqB .any ol.toArray (ol.drop m).length m (doneB m ol.length) = true)
    (h : RW P B n ol.toArray m Φ m S (Array.replicate ol.length false) f l) : T P B n (.region id ol.toArray true) Φ f l := T.draw m S hm hn hseq h

/-- The list's bare blocks, without block g (none: all of them). -/
class Bl (g : Option Nat) (l : List Assn) (S : outParam (List Assn)) : Prop where
  sub : Sub l S
instance (priority := high) (g : Nat) (C : List Value) (t : TypeId) (l S : List Assn) [k : Bl (some g) l S] : Bl (some g) (blk g C t :: l) S := ⟨fun _ h => k.sub _ h.tail⟩
instance (g : Option Nat) (g' : Nat) (C : List Value) (t : TypeId) (l S : List Assn) [k : Bl g l S] : Bl g (blk g' C t :: l) (blk g' C t :: S) := ⟨fun _ h => Has.cons_imp k.sub h⟩
instance (priority := low) (g : Option Nat) (A : Assn) (l S : List Assn) [k : Bl g l S] : Bl g (A :: l) S := ⟨fun _ h => k.sub _ h.tail⟩
instance (priority := 10) (g : Option Nat) (l : List Assn) : Bl g l [] := ⟨fun _ _ => trivial⟩
theorem T.drawBl {id : Nat} {ol : List Oper} (m : Nat) (g : Option Nat) {S : List Assn} [k : Bl g l S] (hm : P.follows .mixedOrders = true) (hn : m ≤ ol.length) (hseq : Region.seqB .any ol.toArray (ol.drop m).length m (doneB m ol.length) = true)
    (h : RW P B n ol.toArray m Φ m S (Array.replicate ol.length false) f l) : T P B n (.region id ol.toArray true) Φ f l := T.draw m S hm hn hseq h

variable {m k : Nat} {S : List Assn} {listed : Array Bool}
theorem RW.take {rest' : List Oper} {v : Value} (i : Nat) (hi : ops.toList.drop i = o :: rest') (hw : want n ops f o = true) (hb : takeB .any ops m i listed = true) (hs : Sub l S) (hq : Qt P B n S o f v)
    (h : RW P B n ops m Φ k S (listed.setIfInBounds i true) (putd f o.dst v) l) : RW P B n ops m Φ (k + 1) S listed f l := ⟨fun Q w hf ho => by
  refine wpT_take hi hb (fun c a w => hf.pk c a o.dst v w) (ho.map hs) (.inl ⟨by rw [want_eq, hw], fun w' ho' => by rw [eval_act']; exact hq.run w' ho'⟩) ?_
  rw [put_act]
  exact h.run Q w hf ho⟩
theorem RW.skip {rest' : List Oper} (i : Nat) (hi : ops.toList.drop i = o :: rest') (hw : want n ops f o = false) (hb : takeB .any ops m i listed = true) (hs : Sub l S)
    (h : RW P B n ops m Φ k S (listed.setIfInBounds i true) (putd f o.dst undef) l) : RW P B n ops m Φ (k + 1) S listed f l := ⟨fun Q w hf ho => by
  refine wpT_take hi hb (fun c a w => hf.pk c a o.dst undef w) (ho.map hs) (.inr ⟨by rw [want_eq, hw], rfl⟩) ?_
  rw [put_act]
  exact h.run Q w hf ho⟩
section named
variable {t : Tmp} {op : Op} {ty : TypeId} {pos : String} {af : Array Edge} {gd : Option (Nat × Bool)} {rest' : List Oper} {v : Value}
theorem RW.q (i : Nat) (hi : ops.toList.drop i = ⟨some t, op, ty, pos, af, gd⟩ :: rest') (hw : want n ops f ⟨some t, op, ty, pos, af, gd⟩ = true) (hb : takeB .any ops m i listed = true) (hs : Sub l S) (hq : Qt P B n S ⟨some t, op, ty, pos, af, gd⟩ f v)
    (h : RW P B n ops m Φ k S (listed.setIfInBounds i true) (upd f t v) l) : RW P B n ops m Φ (k + 1) S listed f l := RW.take i hi hw hb hs hq h
theorem RW.s (i : Nat) (hi : ops.toList.drop i = ⟨some t, op, ty, pos, af, gd⟩ :: rest') (hw : want n ops f ⟨some t, op, ty, pos, af, gd⟩ = false) (hb : takeB .any ops m i listed = true) (hs : Sub l S)
    (h : RW P B n ops m Φ k S (listed.setIfInBounds i true) (upd f t undef) l) : RW P B n ops m Φ (k + 1) S listed f l := RW.skip i hi hw hb hs h
end named
theorem RW.all (is : List Nat) (hb : (decide (Region.ready .any ops listed = is) && !is.isEmpty && is.all (fun i => decide (i < m))) = true) (h : ∀ i ∈ is, RO P B n ops m Φ k S listed f l i) : RW P B n ops m Φ (k + 1) S listed f l := ⟨fun Q w hf ho => by
  simp only [Bool.and_eq_true, decide_eq_true_eq, List.all_eq_true] at hb
  obtain ⟨⟨h1, h2⟩, h3⟩ := hb
  refine ⟨(fun e => by rw [h1] at e; rw [e] at h2; simp at h2), fun i hi => ?_⟩
  rw [h1] at hi
  exact ⟨h3 i hi, (h i hi).run Q w hf ho⟩⟩
theorem RW.one (i : Nat) (hb : (decide (Region.ready .any ops listed = [i]) && decide (i < m)) = true) (h : RO P B n ops m Φ k S listed f l i) : RW P B n ops m Φ (k + 1) S listed f l := by
  simp only [Bool.and_eq_true, decide_eq_true_eq] at hb
  refine RW.all [i] ?_ (List.forall_mem_cons.2 ⟨h, List.forall_mem_nil _⟩)
  simp [hb.1, hb.2]
/-- What is yielded and left serves the rest; what may be read from now on: all that is left. -/
theorem RO.eff {rest' : List Oper} {i : Nat} (hi : ops.toList.drop i = o :: rest') (hw : want n ops f o = true)
    (he : Ef P B n o f l fun v l' => Sub l' S ∧ RW P B n ops m Φ k l' (listed.setIfInBounds i true) (putd f o.dst v) l') : RO P B n ops m Φ k S listed f l i := ⟨fun Q w hf ho => by
  have hi' := getElem?_of_drop hi
  unfold wpOp
  simp only [hi']
  rw [want_eq, if_pos hw]
  refine .inl (he.run w _ Q ho fun v w' l' hK ho' => ?_)
  rw [put_act]
  exact ⟨fun u => Own B u l', fun u hu => hu.map hK.1, ho', hK.2.run Q w' hf ho'⟩⟩
theorem RO.effS {rest' : List Oper} {i : Nat} (hi : ops.toList.drop i = o :: rest') (hw : want n ops f o = true)
    (he : Ef P B n o f l fun v l' => Sub l' S ∧ RW P B n ops m Φ k S (listed.setIfInBounds i true) (putd f o.dst v) l') : RO P B n ops m Φ k S listed f l i := ⟨fun Q w hf ho => by
  have hi' := getElem?_of_drop hi
  unfold wpOp
  simp only [hi']
  rw [want_eq, if_pos hw]
  refine .inl (he.run w _ Q ho fun v w' l' hK ho' => ?_)
  rw [put_act]
  exact ⟨fun u => Own B u S, fun u hu => hu, ho'.map hK.1, hK.2.run Q w' hf ho'⟩⟩
section named
variable {t : Tmp} {op : Op} {ty : TypeId} {pos : String} {af : Array Edge} {gd : Option (Nat × Bool)} {rest' : List Oper} {i : Nat}
theorem RO.e (hi : ops.toList.drop i = ⟨some t, op, ty, pos, af, gd⟩ :: rest') (hw : want n ops f ⟨some t, op, ty, pos, af, gd⟩ = true)
    (he : Ef P B n ⟨some t, op, ty, pos, af, gd⟩ f l fun v l' => Sub l' S ∧ RW P B n ops m Φ k l' (listed.setIfInBounds i true) (upd f t v) l') : RO P B n ops m Φ k S listed f l i := RO.eff hi hw he
theorem RO.e0 (hi : ops.toList.drop i = ⟨none, op, ty, pos, af, gd⟩ :: rest') (hw : want n ops f ⟨none, op, ty, pos, af, gd⟩ = true)
    (he : Ef P B n ⟨none, op, ty, pos, af, gd⟩ f l fun _ l' => Sub l' S ∧ RW P B n ops m Φ k l' (listed.setIfInBounds i true) f l') : RO P B n ops m Φ k S listed f l i := RO.eff hi hw he
theorem RO.eS (hi : ops.toList.drop i = ⟨some t, op, ty, pos, af, gd⟩ :: rest') (hw : want n ops f ⟨some t, op, ty, pos, af, gd⟩ = true)
    (he : Ef P B n ⟨some t, op, ty, pos, af, gd⟩ f l fun v l' => Sub l' S ∧ RW P B n ops m Φ k S (listed.setIfInBounds i true) (upd f t v) l') : RO P B n ops m Φ k S listed f l i := RO.effS hi hw he
theorem RO.eS0 (hi : ops.toList.drop i = ⟨none, op, ty, pos, af, gd⟩ :: rest') (hw : want n ops f ⟨none, op, ty, pos, af, gd⟩ = true)
    (he : Ef P B n ⟨none, op, ty, pos, af, gd⟩ f l fun _ l' => Sub l' S ∧ RW P B n ops m Φ k S (listed.setIfInBounds i true) f l') : RO P B n ops m Φ k S listed f l i := RO.effS hi hw he
end named
theorem RW.done (hb : listed = doneB m ops.size) (h : LW P B n ops (ops.toList.drop m) Φ f l) : RW P B n ops m Φ 0 S listed f l := ⟨fun Q w hf ho => ⟨hb, h.run Q w hf ho⟩⟩
theorem RW.split {t : Nat} {b : Bool} (hb : f t = some (.bool b)) (h1 : b = true → RW P B n ops m Φ k S listed (upd f t (.bool true)) l) (h2 : b = false → RW P B n ops m Φ k S listed (upd f t (.bool false)) l) : RW P B n ops m Φ k S listed f l := by
  cases b with
  | true => have := h1 rfl; rwa [upd_self hb] at this
  | false => have := h2 rfl; rwa [upd_self hb] at this
theorem RW.gT {t : Nat} {b : Bool} (hb : f t = some (.bool b)) (h : b = true) (h1 : RW P B n ops m Φ k S listed (upd f t (.bool true)) l) : RW P B n ops m Φ k S listed f l := by subst h; rwa [upd_self hb] at h1
theorem RW.gF {t : Nat} {b : Bool} (hb : f t = some (.bool b)) (h : b = false) (h1 : RW P B n ops m Φ k S listed (upd f t (.bool false)) l) : RW P B n ops m Φ k S listed f l := by subst h; rwa [upd_self hb] at h1
theorem RW.own (h : ∀ w, Own B w l → RW P B n ops m Φ k S listed f l) : RW P B n ops m Φ k S listed f l := ⟨fun Q w hf ho => (h w ho).run Q w hf ho⟩
theorem RW.conv {l' : List Assn} (hc : ∀ w, Own B w l → Own B w l') (h : RW P B n ops m Φ k S listed f l') : RW P B n ops m Φ k S listed f l := ⟨fun Q w hf ho => h.run Q w hf (hc w ho)⟩

/-! functions -/
/-- A function's contract: from assertions to what it returns and assertions, whatever else there is. -/
structure Fn (P : Program) (B : Base) (g : FuncId) (args : Array Value) (pre : List Assn) (R : Value → List Assn → Prop) : Prop where
  run : ∀ w F, Own B w (pre ++ F) → Calls P g args w fun e w' => ∃ v l, e = .returned v ∧ R v l ∧ Own B w' (l ++ F)

theorem enter_eq (args : List Value) (n : Nat) (h : args.length ≤ n) : (⟨args.toArray ++ Array.replicate (n - args.toArray.size) undef, []⟩ : Act) = act n (U (fun _ => none) ((List.range args.length).zip args)) := by
  unfold act
  congr 1
  apply Array.ext_getElem?
  intro i
  rw [tm_getElem?]
  have key : ∀ (args : List Value) (k : Nat), U (fun _ => none) ((List.range' k args.length).zip args) i = if k ≤ i then args[i - k]? else none := by
    intro args
    induction args with
    | nil => intro k; simp [U]
    | cons a args ih =>
      intro k
      simp only [List.length_cons, List.range'_succ, List.zip_cons_cons, U]
      by_cases e : i = k
      · subst e; simp [upd_at]
      · rw [upd_ne _ _ e, ih (k + 1)]
        by_cases h2 : k ≤ i
        · rw [if_pos (by omega), if_pos h2, show i - k = (i - (k + 1)) + 1 by omega]; simp
        · rw [if_neg (by omega), if_neg h2]
  have hk := key args 0
  rw [List.range_eq_range', hk]
  simp only [Nat.zero_le, if_true, Nat.sub_zero, List.size_toArray]
  rw [Array.getElem?_append]
  by_cases h1 : i < args.length
  · simp [h1]; omega
  · simp [h1, Array.getElem?_replicate]
    by_cases h2 : i < n
    · rw [if_pos (by omega), if_pos h2]
    · rw [if_neg (by omega), if_neg h2]

/-- Entering a function of plain results. -/
theorem Fn.enter {g : FuncId} {fn : Func} {c : Code} {args : List Value} {pre : List Assn} {R : Value → List Assn → Prop} (hfn : P.funcs[g]? = some fn) (hc : fn.body = some c) (hn : fn.ntmps = n) (hl : args.length ≤ n)
    (h : ∀ F, T P B n c (fun e f l => (e = .ret ∨ e = .normal) ∧ ∃ v l', (∀ w, Own B w l → (results fn (act n f).tmps).run P w = .ok v w) ∧ R v l' ∧ Sub l (l' ++ F)) (U (fun _ => none) ((List.range args.length).zip args)) (pre ++ F)) : Fn P B g args.toArray pre R := ⟨fun w F ho => by
  refine calls_of_wp hfn hc ?_
  rw [hn, enter_eq args n hl]
  refine (h F).run _ w ⟨fun e f w' l hk ho' => ?_, fun c a d v w' k => (by cases d <;> exact k)⟩ ho
  obtain ⟨he, v, l', hr, hR, hs⟩ := hk
  rcases he with rfl | rfl
  · exact ⟨rfl, v, hr w' ho', v, l', rfl, hR, ho'.map hs⟩
  · exact ⟨rfl, v, hr w' ho', v, l', rfl, hR, ho'.map hs⟩⟩

def FnPost (P : Program) (B : Base) (n : Nat) (fn : Func) (R : Value → List Assn → Prop) (F : List Assn) : Post := fun e f l => (e = .ret ∨ e = .normal) ∧ ∃ v l', (∀ w, Own B w l → (results fn (act n f).tmps).run P w = .ok v w) ∧ R v l' ∧ Sub l (l' ++ F)
theorem Fn.mono {g : FuncId} {args : Array Value} {pre : List Assn} {R R' : Value → List Assn → Prop} (h : Fn P B g args pre R) (hr : ∀ v l, R v l → R' v l) : Fn P B g args pre R' := ⟨fun w F ho => (h.run w F ho).mono fun _ _ ⟨v, l, a, b, c⟩ => ⟨v, l, a, hr _ _ b, c⟩⟩
theorem Fn.enter0 {g : FuncId} {fn : Func} {c : Code} {pre : List Assn} {R : Value → List Assn → Prop} (n : Nat) (hfn : P.funcs[g]? = some fn) (hc : fn.body = some c) (hn : fn.ntmps = n) (hl : 0 ≤ n)
    (h : ∀ F, T P B n c (FnPost P B n fn R F) (fun _ => none) (pre ++ F)) : Fn P B g #[] pre R := Fn.enter (args := []) hfn hc hn hl h
theorem Fn.enter1 {g : FuncId} {fn : Func} {c : Code} {a0 : Value} {pre : List Assn} {R : Value → List Assn → Prop} (n : Nat) (hfn : P.funcs[g]? = some fn) (hc : fn.body = some c) (hn : fn.ntmps = n) (hl : 1 ≤ n)
    (h : ∀ F, T P B n c (FnPost P B n fn R F) (upd (fun _ => none) 0 a0) (pre ++ F)) : Fn P B g #[a0] pre R := Fn.enter (args := [a0]) hfn hc hn hl h
theorem Fn.enter2 {g : FuncId} {fn : Func} {c : Code} {a0 a1 : Value} {pre : List Assn} {R : Value → List Assn → Prop} (n : Nat) (hfn : P.funcs[g]? = some fn) (hc : fn.body = some c) (hn : fn.ntmps = n) (hl : 2 ≤ n)
    (h : ∀ F, T P B n c (FnPost P B n fn R F) (upd (upd (fun _ => none) 1 a1) 0 a0) (pre ++ F)) : Fn P B g #[a0, a1] pre R := Fn.enter (args := [a0, a1]) hfn hc hn hl h
theorem Fn.enter3 {g : FuncId} {fn : Func} {c : Code} {a0 a1 a2 : Value} {pre : List Assn} {R : Value → List Assn → Prop} (n : Nat) (hfn : P.funcs[g]? = some fn) (hc : fn.body = some c) (hn : fn.ntmps = n) (hl : 3 ≤ n)
    (h : ∀ F, T P B n c (FnPost P B n fn R F) (upd (upd (upd (fun _ => none) 2 a2) 1 a1) 0 a0) (pre ++ F)) : Fn P B g #[a0, a1, a2] pre R := Fn.enter (args := [a0, a1, a2]) hfn hc hn hl h
theorem Fn.enter4 {g : FuncId} {fn : Func} {c : Code} {a0 a1 a2 a3 : Value} {pre : List Assn} {R : Value → List Assn → Prop} (n : Nat) (hfn : P.funcs[g]? = some fn) (hc : fn.body = some c) (hn : fn.ntmps = n) (hl : 4 ≤ n)
    (h : ∀ F, T P B n c (FnPost P B n fn R F) (upd (upd (upd (upd (fun _ => none) 3 a3) 2 a2) 1 a1) 0 a0) (pre ++ F)) : Fn P B g #[a0, a1, a2, a3] pre R := Fn.enter (args := [a0, a1, a2, a3]) hfn hc hn hl h
theorem Fn.enter5 {g : FuncId} {fn : Func} {c : Code} {a0 a1 a2 a3 a4 : Value} {pre : List Assn} {R : Value → List Assn → Prop} (n : Nat) (hfn : P.funcs[g]? = some fn) (hc : fn.body = some c) (hn : fn.ntmps = n) (hl : 5 ≤ n)
    (h : ∀ F, T P B n c (FnPost P B n fn R F) (upd (upd (upd (upd (upd (fun _ => none) 4 a4) 3 a3) 2 a2) 1 a1) 0 a0) (pre ++ F)) : Fn P B g #[a0, a1, a2, a3, a4] pre R := Fn.enter (args := [a0, a1, a2, a3, a4]) hfn hc hn hl h
theorem Fn.enter6 {g : FuncId} {fn : Func} {c : Code} {a0 a1 a2 a3 a4 a5 : Value} {pre : List Assn} {R : Value → List Assn → Prop} (n : Nat) (hfn : P.funcs[g]? = some fn) (hc : fn.body = some c) (hn : fn.ntmps = n) (hl : 6 ≤ n)
    (h : ∀ F, T P B n c (FnPost P B n fn R F) (upd (upd (upd (upd (upd (upd (fun _ => none) 5 a5) 4 a4) 3 a3) 2 a2) 1 a1) 0 a0) (pre ++ F)) : Fn P B g #[a0, a1, a2, a3, a4, a5] pre R := Fn.enter (args := [a0, a1, a2, a3, a4, a5]) hfn hc hn hl h
theorem Fn.enter7 {g : FuncId} {fn : Func} {c : Code} {a0 a1 a2 a3 a4 a5 a6 : Value} {pre : List Assn} {R : Value → List Assn → Prop} (n : Nat) (hfn : P.funcs[g]? = some fn) (hc : fn.body = some c) (hn : fn.ntmps = n) (hl : 7 ≤ n)
    (h : ∀ F, T P B n c (FnPost P B n fn R F) (upd (upd (upd (upd (upd (upd (upd (fun _ => none) 6 a6) 5 a5) 4 a4) 3 a3) 2 a2) 1 a1) 0 a0) (pre ++ F)) : Fn P B g #[a0, a1, a2, a3, a4, a5, a6] pre R := Fn.enter (args := [a0, a1, a2, a3, a4, a5, a6]) hfn hc hn hl h
theorem getD_tm (n : Nat) (f : Fr) (t : Nat) : (act n f).tmps.getD t undef = evu n f (.tmp t) := by rw [← eval_act]; rfl
theorem map_run {P : Program} {α β : Type} (g : α → β) (x : Sem α) (w : World) : (Functor.map g x).run P w = (x.run P w).andThen fun a w' => .ok (g a) w' := by
  rw [← bind_pure_comp]; simp
def rvSem (tmps : Array Value) : ResultVar → Sem Value
  | .tmp t => pure (tmps.getD t undef)
  | .cell a t => do loadVar t (← asAddr (tmps.getD a undef))
/-- What a result's place holds. -/
structure RVal (P : Program) (B : Base) (n : Nat) (l : List Assn) (f : Fr) (r : ResultVar) (v : Value) : Prop where
  run : ∀ w, Own B w l → (rvSem (act n f).tmps r).run P w = .ok v w
def RVs (P : Program) (B : Base) (n : Nat) (l : List Assn) (f : Fr) : List ResultVar → List Value → Prop
  | [], [] => True
  | r :: rs, v :: vs => RVal P B n l f r v ∧ RVs P B n l f rs vs
  | _, _ => False
def outV : List Value → Value
  | [v] => v
  | vs => .tuple vs.toArray
theorem rvT {t : Nat} {v : Value} (h : ev n f (.tmp t) = some v) : RVal P B n l f (.tmp t) v := ⟨fun w _ => by rw [rvSem, getD_tm, evu_eq h]; rfl⟩
theorem res {fn : Func} {rs : List ResultVar} (vs : List Value) (h : fn.results = rs.toArray) (hv : RVs P B n l f rs vs) (w : World) (ho : Own B w l) : (results fn (act n f).tmps).run P w = .ok (outV vs) w := by
  have key : ∀ (rs : List ResultVar) (vs : List Value), RVs P B n l f rs vs → (rs.mapM (rvSem (act n f).tmps) : Sem (List Value)).run P w = .ok vs w := by
    intro rs
    induction rs with
    | nil => intro vs hv; cases vs with
      | nil => simp
      | cons v vs => exact hv.elim
    | cons r rs ih => intro vs hv; cases vs with
      | nil => exact hv.elim
      | cons v vs =>
        have h1 := hv.1.run w ho
        have h2 := ih vs hv.2
        rw [List.mapM_cons]
        simp only [Sem.run_bind, h1, h2, Result.andThen_ok, Sem.run_pure]
  have hm := key rs vs hv
  unfold results
  rw [h]
  show ((do let vs ← rs.toArray.mapM (rvSem (act n f).tmps); pure (if h : vs.size = 1 then vs[0] else .tuple vs)) : Sem Value).run P w = _
  rw [Array.mapM_eq_mapM_toList]
  simp only [Sem.run_bind, Sem.run_pure]
  rw [map_run, hm]
  simp only [Result.andThen_ok]
  congr 1
  match vs with
  | [] => rfl
  | [v] => rfl
  | _ :: _ :: _ => simp [outV]
end
end Go.Proofs.Ytdjfibkpmmcefaa
