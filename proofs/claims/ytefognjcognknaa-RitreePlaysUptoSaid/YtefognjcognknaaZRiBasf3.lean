/- The texts SlR SlS SlT SlU SlW, one behind the other: what the law leans on. Conditions: as each theorem says. -/
import Derived.Test.YtefognjcognknaaZRiBasf2
import Derived.RangeFuncIn
import Derived.RangeFuncRecord
import Derived.RangeFuncLeaves
import Derived.RangeFuncSeq
import Derived.TacticsIn
/- Walks at a fence: in a function or in a round of a range over a function; calls of yield; the statement itself. Conditions: no defer statement within. -/
set_option linter.unusedSimpArgs false
set_option linter.unusedVariables false
namespace Go.Proofs.Ytefognjcognknaa
open Go.RowKit

/-- The fence of a function's own code (none), or of a round's of the loop at block r. -/
def fen (ro : Option Nat) : Fence := { Fence.wide with round := ro }
theorem calls_fen {P : Program} {f : FuncId} {args : Array Value} {w : World} {R : Ending → World → Prop} (ro : Option Nat) (n : Nat) (h : Calls P f args w R) : CallsIn (fen ro) n P f args w R := (callsIn_wide (n := n)).2 h
theorem rows_fen {P : Program} {row : String} {args : Array Value} {w : World} {R : Value → World → Prop} (ro : Option Nat) (n : Nat) (h : Rows P row args w R) : RowsIn (fen ro) n P row args w R := fun c cs _ => by
  obtain ⟨v, w', r, s⟩ := h c cs
  exact ⟨v, w', r, (stepsIn_wide (P := P)).2 s⟩
theorem depth_fen (ro : Option Nat) (n : Nat) : (fen ro).depth.isSome = true → 1 ≤ n := fun h => by simp [fen, Fence.wide] at h

def aD (n : Nat) (f : Fr) (ds : List Deferred) : Act := ⟨tm n f, ds⟩
def Act.more (a : Act) (ds : List Deferred) : Act := ⟨a.tmps, a.defers ++ ds⟩
theorem more_act (n : Nat) (f : Fr) (ds : List Deferred) : Act.more (act n f) ds = aD n f ds := rfl
theorem more_eval (a : Act) (ds : List Deferred) : (Act.more a ds).eval = a.eval := by funext x; cases x <;> rfl
theorem more_put (a : Act) (ds : List Deferred) (d : Option Nat) (v : Value) : (Act.more a ds).put d v = Act.more (a.put d v) ds := by cases d <;> rfl
theorem eval_aD (n : Nat) (f : Fr) (ds : List Deferred) : (aD n f ds).eval = evu n f := by rw [← more_act, more_eval, eval_act']
theorem put_aD (n : Nat) (f : Fr) (ds : List Deferred) (d : Option Nat) (v : Value) : (aD n f ds).put d v = aD n (putd f d v) ds := by rw [← more_act, more_put, put_act, more_act]

/-- No deferred call is taken up. -/
def noDef (o : Oper) : Bool := match o.op with | .defer _ => false | _ => true
theorem noDef_spec {o : Oper} (h : noDef o = true) : ∀ c, o.op ≠ .defer c := fun c e => by unfold noDef at h; rw [e] at h; cases h

section
variable {P : Program} {o : Oper} {a : Act} {w : World} {next next' : Act → World → Prop} {Q Q' : Exit → Act → World → Prop}
theorem op_fen (ro : Option Nat) (ds : List Deferred) (hd : noDef o = true) (hn : ∀ a w, next a w → next' (Act.more a ds) w) (hq : ∀ e a w, Q' e a w → e ≠ .outgrown ∧ Q e (Act.more a ds) w) (h : o.wp P a w next Q') : o.wpIn (fen ro) 0 P (Act.more a ds) w next' Q := by
  refine ⟨fun _ _ => trivial, ?_⟩
  rw [Oper.semAt_eq _ _ _ (noDef_spec hd), more_eval]
  unfold Oper.wp at h
  generalize (execOp a.eval o).run P w = r at h ⊢
  cases r with
  | ok x w' =>
    cases x <;> simp only [Oper.upon, Oper.uponIn] at h ⊢
    case value v => rw [more_put]; exact hn _ _ h
    case skip => rw [more_put]; exact hn _ _ h
    case defer d =>
      have e : ({ (Act.more a ds) with defers := d :: (Act.more a ds).defers }.put o.dst undef) = Act.more ({ a with defers := d :: a.defers }.put o.dst undef) ds := by cases o.dst <;> rfl
      rw [e]; exact hn _ _ h
    case enter f args =>
      refine ⟨depth_fen ro 0, calls_fen ro _ (Calls.mono h ?_)⟩
      intro e w'' k
      cases e with
      | returned v => show next' ((Act.more a ds).put o.dst v) w''; rw [more_put]; exact hn _ _ k
      | panicked c => exact (hq _ _ _ k).2
      | outgrown => obtain ⟨a0, w0, k⟩ := k; exact absurd rfl (hq _ _ _ k).1
    case row row args =>
      refine ⟨depth_fen ro 0, rows_fen ro _ (Rows.mono h ?_)⟩
      intro v w'' k
      rw [more_put]; exact hn _ _ k
  | halt x w' =>
    cases x <;> simp only [Oper.upon, Oper.uponIn] at h ⊢
    exact (hq _ _ _ h).2
theorem ops_fen {ops : Array Oper} (ro : Option Nat) (ds : List Deferred) (hd : ∀ (i : Nat) (o : Oper), ops[i]? = some o → noDef o = true) (hq : ∀ e a w, Q' e a w → e ≠ .outgrown ∧ Q e (Act.more a ds) w) : ∀ is a w, wpOps P ops Q' is a w → wpOpsIn (fen ro) 0 P ops Q is (Act.more a ds) w
  | [], a, w, h => (hq _ _ _ h).2
  | i :: is, a, w, h => by
    simp only [wpOps] at h
    simp only [wpOpsIn]
    cases ho : ops[i]? with
    | none => rw [ho] at h; exact ops_fen ro ds hd hq is a w h
    | some o =>
      rw [ho] at h
      simp only at h ⊢
      have e : yielded ops (Act.more a ds).tmps = yielded ops a.tmps := rfl
      rw [e]
      split
      · rename_i hw
        rw [if_pos hw] at h
        rcases h with h | ⟨_, a0, w0, k⟩
        · exact op_fen ro ds (hd i o ho) (fun a w k => ops_fen ro ds hd hq is a w k) hq h
        · exact absurd rfl (hq _ _ _ k).1
      · rename_i hw
        rw [if_neg hw] at h
        refine ⟨fun _ _ => trivial, ?_⟩
        rw [more_put]
        exact ops_fen ro ds hd hq is _ w h
end

abbrev PostD := Exit → List Deferred → Fr → List Assn → Prop
structure FitsD (B : Base) (n : Nat) (Φ : PostD) (Q : Exit → Act → World → Prop) : Prop where
  go : ∀ e ds f w l, Φ e ds f l → Own B w l → Q e (aD n f ds) w
  pk : PanicKeeps Q
/-- A code's walk within a function (ro = none) or a round, with the deferred calls ds. -/
structure TI (P : Program) (B : Base) (n : Nat) (ro : Option Nat) (c : Code) (Φ : PostD) (ds : List Deferred) (f : Fr) (l : List Assn) : Prop where
  run : ∀ Q w, FitsD B n Φ Q → Own B w l → c.wpIn (fen ro) 0 P Q (aD n f ds) w
structure LI (P : Program) (B : Base) (n : Nat) (ro : Option Nat) (ops : Array Oper) (rest : List Oper) (Φ : PostD) (ds : List Deferred) (f : Fr) (l : List Assn) : Prop where
  run : ∀ Q w, FitsD B n Φ Q → Own B w l → wpListIn (fen ro) 0 P ops Q rest (aD n f ds) w
/-- An operation that may be a call of yield. -/
structure Ey (P : Program) (B : Base) (n : Nat) (ro : Option Nat) (o : Oper) (f : Fr) (l : List Assn) (K : Value → List Assn → Prop) : Prop where
  run : ∀ ds w next Q, Own B w l → (∀ v w' l', K v l' → Own B w' l' → next ((aD n f ds).put o.dst v) w') → o.wpIn (fen ro) 0 P (aD n f ds) w next Q
def regP (Φ : PostD) (ds : List Deferred) : Post
  | .outgrown, _, _ => False
  | e, f, l => Φ e ds f l
def thenI (K : List Deferred → Fr → List Assn → Prop) (Φ : PostD) : PostD
  | .normal, ds, f, l => K ds f l
  | e, ds, f, l => Φ e ds f l
def blockI (id : Nat) (Φ : PostD) : PostD
  | .exit id', ds, f, l => bif Nat.beq id' id then Φ .normal ds f l else Φ (.exit id') ds f l
  | e, ds, f, l => Φ e ds f l
def noDefs (ol : List Oper) : Bool := ol.all noDef
theorem noDefs_spec {ol : List Oper} (h : noDefs ol = true) : ∀ (i : Nat) (o : Oper), ol.toArray[i]? = some o → noDef o = true := fun i o e => by
  refine List.all_eq_true.1 h o ?_
  rw [List.getElem?_toArray] at e
  exact List.mem_of_getElem? e

section
variable {P : Program} {B : Base} {n : Nat} {ro : Option Nat} {ops : Array Oper} {rest : List Oper} {o : Oper} {Φ : PostD} {ds : List Deferred} {f : Fr} {l : List Assn}
def shiftQ (Q : Exit → Act → World → Prop) (ds : List Deferred) (e : Exit) (a : Act) (w : World) : Prop := e ≠ .outgrown ∧ Q e (Act.more a ds) w
theorem FitsD.shift {Q : Exit → Act → World → Prop} (hf : FitsD B n Φ Q) (ds : List Deferred) : Fits B n (regP Φ ds) (shiftQ Q ds) := ⟨fun e f w l k ho => by
  cases e with
  | outgrown => exact k.elim
  | _ => exact ⟨(by simp), hf.go _ ds f w l k ho⟩, fun c a d v w k => ⟨by simp, hf.pk c _ d v w (by rw [more_put]; exact k.2)⟩⟩
theorem TI.own {c : Code} (h : ∀ w, Own B w l → TI P B n ro c Φ ds f l) : TI P B n ro c Φ ds f l := ⟨fun Q w hf ho => (h w ho).run Q w hf ho⟩
theorem TI.conv {c : Code} {l' : List Assn} (hc : ∀ w, Own B w l → Own B w l') (h : TI P B n ro c Φ ds f l') : TI P B n ro c Φ ds f l := ⟨fun Q w hf ho => h.run Q w hf (hc w ho)⟩
theorem TI.ex {c : Code} {α : Type} {l' : α → List Assn} (h : ∀ w, Own B w l → ∃ x, Own B w (l' x)) (k : ∀ x, TI P B n ro c Φ ds f (l' x)) : TI P B n ro c Φ ds f l := ⟨fun Q w hf ho => by
  obtain ⟨x, hx⟩ := h w ho
  exact (k x).run Q w hf hx⟩
theorem TI.skip (h : Φ .normal ds f l) : TI P B n ro .skip Φ ds f l := ⟨fun _ w hf ho => wpIn_skip (hf.go _ _ _ w _ h ho)⟩
theorem TI.ret (h : Φ .ret ds f l) : TI P B n ro .ret Φ ds f l := ⟨fun _ w hf ho => wpIn_ret (hf.go _ _ _ w _ h ho)⟩
theorem TI.exit {id : Nat} (h : Φ (.exit id) ds f l) : TI P B n ro (.exit id) Φ ds f l := ⟨fun _ w hf ho => wpIn_exit (hf.go _ _ _ w _ h ho)⟩
theorem TI.seq {x y : Code} (h : TI P B n ro x (thenI (fun ds' f' l' => TI P B n ro y Φ ds' f' l') Φ) ds f l) : TI P B n ro (.seq x y) Φ ds f l := ⟨fun Q w hf ho => by
  refine wpIn_seq (h.run _ w ⟨fun e ds' f' w' l' k ho' => ?_, fun c a d v w' k => ?_⟩ ho)
  · cases e with
    | normal => exact (show TI P B n ro y Φ ds' f' l' from k).run Q w' hf ho'
    | _ => exact hf.go _ _ _ w' l' k ho'
  · exact hf.pk c a d v w' k⟩
theorem TI.cut {x y : Code} (M : Fr → List Assn → Prop) (h1 : TI P B n ro x (thenI (fun ds' f' l' => ds' = ds ∧ ∃ l'', M f' l'' ∧ Sub l' l'') Φ) ds f l) (h2 : ∀ f l, M f l → TI P B n ro y Φ ds f l) : TI P B n ro (.seq x y) Φ ds f l := by
  refine TI.seq ⟨fun Q w hf ho => h1.run Q w ⟨fun e ds' f' w' l' k ho' => ?_, hf.pk⟩ ho⟩
  cases e with
  | normal =>
    obtain ⟨rfl, l'', hM, hs⟩ := k
    exact hf.go .normal _ f' w' l'' (h2 f' l'' hM) (ho'.map hs)
  | _ => exact hf.go _ _ _ w' l' k ho'
theorem TI.block {id : Nat} {c : Code} (h : TI P B n ro c (blockI id Φ) ds f l) : TI P B n ro (.block id c) Φ ds f l := ⟨fun Q w hf ho => by
  refine wpIn_block (h.run _ w ⟨fun e ds' f' w' l' k ho' => ?_, fun c a d v w' k => ?_⟩ ho)
  · cases e with
    | exit id' =>
      simp only [blockI, Exit.inBlock] at k ⊢
      by_cases hid : id' = id
      · subst hid; simp only [Nat.beq_refl, cond_true] at k; rw [if_pos rfl]; exact hf.go _ _ _ w' l' k ho'
      · have hb : Nat.beq id' id = false := by
          cases hb : Nat.beq id' id with
          | false => rfl
          | true => exact absurd (Nat.eq_of_beq_eq_true hb) hid
        rw [hb] at k; rw [if_neg hid]; exact hf.go _ _ _ w' l' k ho'
    | _ => exact hf.go _ _ _ w' l' k ho'
  · exact hf.pk c a d v w' k⟩
theorem TI.cond {c : Operand} {x y : Code} {b : Bool} (hb : ev n f c = some (.bool b)) (h1 : b = true → TI P B n ro x Φ ds f l) (h2 : b = false → TI P B n ro y Φ ds f l) : TI P B n ro (.cond c x y) Φ ds f l := ⟨fun Q w hf ho => by
  refine wpIn_cond (t := b) (by rw [eval_aD, evu_eq hb]) ?_
  cases b with
  | true => exact (h1 rfl).run Q w hf ho
  | false => exact (h2 rfl).run Q w hf ho⟩
theorem TI.condP {c : Operand} {x y : Code} {p : Prop} [i : Decidable p] (hb : ev n f c = some (.bool (decide p))) (h1 : p → TI P B n ro x Φ ds f l) (h2 : ¬ p → TI P B n ro y Φ ds f l) : TI P B n ro (.cond c x y) Φ ds f l :=
  TI.cond hb (fun h => h1 (of_decide_eq_true h)) (fun h => h2 (of_decide_eq_false h))
theorem TI.condT {c : Operand} {x y : Code} (hb : ev n f c = some (.bool true)) (h : TI P B n ro x Φ ds f l) : TI P B n ro (.cond c x y) Φ ds f l := TI.cond hb (fun _ => h) (fun h => by cases h)
theorem TI.condF {c : Operand} {x y : Code} (hb : ev n f c = some (.bool false)) (h : TI P B n ro y Φ ds f l) : TI P B n ro (.cond c x y) Φ ds f l := TI.cond hb (fun h => by cases h) (fun _ => h)
theorem TI.condPT {c : Operand} {x y : Code} {p : Prop} [i : Decidable p] (hb : ev n f c = some (.bool (decide p))) (hp : p) (h1 : TI P B n ro x Φ ds f l) : TI P B n ro (.cond c x y) Φ ds f l := TI.condP hb (fun _ => h1) (fun h => absurd hp h)
theorem TI.condPF {c : Operand} {x y : Code} {p : Prop} [i : Decidable p] (hb : ev n f c = some (.bool (decide p))) (hp : ¬ p) (h1 : TI P B n ro y Φ ds f l) : TI P B n ro (.cond c x y) Φ ds f l := TI.condP hb (fun h => absurd h hp) (fun _ => h1)
theorem TI.condBT {c : Operand} {x y : Code} {b : Bool} (hb : ev n f c = some (.bool b)) (h : b = true) (h1 : TI P B n ro x Φ ds f l) : TI P B n ro (.cond c x y) Φ ds f l := TI.cond hb (fun _ => h1) (fun e => by rw [e] at h; cases h)
theorem TI.condBF {c : Operand} {x y : Code} {b : Bool} (hb : ev n f c = some (.bool b)) (h : b = false) (h1 : TI P B n ro y Φ ds f l) : TI P B n ro (.cond c x y) Φ ds f l := TI.cond hb (fun e => by rw [e] at h; cases h) (fun _ => h1)
theorem TI.imp {c : Code} {Φ' : PostD} (hi : ∀ e ds f l, Φ' e ds f l → Φ e ds f l) (h : TI P B n ro c Φ' ds f l) : TI P B n ro c Φ ds f l := ⟨fun Q w hf ho => h.run Q w ⟨fun e ds' f' w' l' k => hf.go e ds' f' w' l' (hi _ _ _ _ k), hf.pk⟩ ho⟩
/-- A region without a call of yield: the walk of SlB's. -/
theorem TI.region {id : Nat} {ol : List Oper} (hd : noDefs ol = true) (h : LW P B n ol.toArray ol (regP Φ ds) f l) : TI P B n ro (.region id ol.toArray false) Φ ds f l := ⟨fun Q w hf ho => by
  have h1 := h.run (shiftQ Q ds) w (hf.shift ds) ho
  rw [← wpOps_eq_wpList ol 0 (by simp)] at h1
  refine wpIn_region ?_
  rw [List.range_eq_range', List.size_toArray]
  exact ops_fen ro ds (noDefs_spec hd) (fun _ _ _ k => k) _ _ _ h1⟩
theorem TI.draw {id : Nat} {ol : List Oper} (m : Nat) (S : List Assn) (hm : P.follows .mixedOrders = true) (hn : m ≤ ol.length) (hseq : Region.seqB .any ol.toArray (ol.drop m).length m (doneB m ol.length) = true)
    (hd : noDefs ol = true) (h : RW P B n ol.toArray m (regP Φ ds) m S (Array.replicate ol.length false) f l) : TI P B n ro (.region id ol.toArray true) Φ ds f l := ⟨fun Q w hf ho => by
  have h1 := h.run (shiftQ Q ds) _ (Closed.none _) (hf.shift ds) ho.drew
  have h2 := wpAny_of_wpU (P := P) (md := .any) (ops := ol.toArray) (Q := shiftQ Q ds) (n := m) (by simpa using hseq) m _ (Array.replicate ol.length false) _ _ h1
  have e : m + (ol.toArray.toList.drop m).length = ol.toArray.size := by simp; omega
  rw [e] at h2
  refine wpIn_region_draw fun t => ?_
  simp only [Region.schedule, hm, Bool.true_or, if_true]
  refine ops_fen (Q' := shiftQ Q ds) (a := act n f) ro ds (noDefs_spec hd) (fun _ _ _ k => k) _ _ (wpAny_sound _ t _ _ _ ?_)
  simpa using h2⟩
theorem TI.drawAll {id : Nat} {ol : List Oper} (m : Nat) (hm : P.follows .mixedOrders = true) (hn : m ≤ ol.length) (hseq : Region.seqB .any ol.toArray (ol.drop m).length m (doneB m ol.length) = true)
    (hd : noDefs ol = true) (h : RW P B n ol.toArray m (regP Φ ds) m l (Array.replicate ol.length false) f l) : TI P B n ro (.region id ol.toArray true) Φ ds f l := TI.draw m l hm hn hseq hd h
theorem TI.drawBl {id : Nat} {ol : List Oper} (m : Nat) (g : Option Nat) {S : List Assn} [k : Bl g l S] (hm : P.follows .mixedOrders = true) (hn : m ≤ ol.length) (hseq : Region.seqB .any ol.toArray (ol.drop m).length m (doneB m ol.length) = true)
    (hd : noDefs ol = true) (h : RW P B n ol.toArray m (regP Φ ds) m S (Array.replicate ol.length false) f l) : TI P B n ro (.region id ol.toArray true) Φ ds f l := TI.draw m S hm hn hseq hd h
/-- A loop that leaves the deferred calls as they are. -/
theorem TI.loop {c : Code} (I : Nat → Fr → List Assn → Prop) (h0 : ∃ m l', I m f l' ∧ Sub l l') (round : ∀ m f l, I m f l → TI P B n ro c (thenI (fun ds' f' l' => ds' = ds ∧ ∃ m', m' < m ∧ ∃ l'', I m' f' l'' ∧ Sub l' l'') Φ) ds f l) : TI P B n ro (.loop c) Φ ds f l := ⟨fun Q w hf ho => by
  obtain ⟨m, l0, hm, hs0⟩ := h0
  replace ho := ho.map hs0
  intro b k cs hro hb hr
  have key : ∀ m f w l, I m f l → Own B w l → ∃ e a' w', Q e a' w' ∧ ArrivesIn (Machine.fenced P (fen ro)) P (lone (b.atR (aD n f ds) (.code c :: .inLoop c :: k)) cs w) b k cs e a' w' := by
    intro m
    induction m using Nat.strongRecOn with
    | _ m ih =>
      intro f w l hI ho
      obtain ⟨e, a₁, w₁, hq, harr⟩ := (round m f l hI).run (Exit.then (fun a' w' => ∃ m' f' l', m' < m ∧ I m' f' l' ∧ Own B w' l' ∧ a' = aD n f' ds) Q) w
        ⟨fun e ds' f' w' l' k ho' => by
          cases e with
          | normal => obtain ⟨rfl, m', h1, l'', h2, h3⟩ := k; exact ⟨m', f', l'', h1, h2, ho'.map h3, rfl⟩
          | _ => exact hf.go _ _ _ w' l' k ho', fun c a d v w' k => hf.pk c a d v w' k⟩ ho b (.inLoop c :: k) cs hro hb hr
      cases e with
      | normal =>
        obtain ⟨m', f', l', h1, h2, h3, rfl⟩ := hq
        obtain ⟨e₂, a₂, w₂, hq₂, harr₂⟩ := ih m' h1 f' w₁ l' h2 h3
        exact ⟨e₂, a₂, w₂, hq₂, .of_steps (StepsIn.trans harr (.one (fenced_calm hb hr rfl) stepR_inLoop)) harr₂⟩
      | exit id => exact ⟨_, a₁, w₁, hq, .pass (x := .inLoop c) rfl (fun _ _ => .inl (by simp)) harr⟩
      | goto l => exact ⟨_, a₁, w₁, hq, .pass (x := .inLoop c) rfl (fun _ _ => .inl (by simp)) harr⟩
      | ret => exact ⟨_, a₁, w₁, hq, .pass (x := .inLoop c) rfl (fun _ _ => .inl (by simp)) harr⟩
      | panic ch => exact ⟨_, a₁, w₁, hq, .pass (x := .inLoop c) rfl (fun _ _ => .inl (by simp)) harr⟩
      | outgrown => exact ⟨_, a₁, w₁, hq, .pass (x := .inLoop c) rfl (fun _ _ => .inl (by simp)) harr⟩
  obtain ⟨e, a', w', hq, harr⟩ := key m f w l0 hm ho
  exact ⟨e, a', w', hq, .of_steps (.one (fenced_calm hb hr rfl) stepR_loop) harr⟩⟩

/-! lists with calls of yield -/
theorem want_aD (n : Nat) (ops : Array Oper) (f : Fr) (ds : List Deferred) (o : Oper) : Region.wanted o (yielded ops (aD n f ds).tmps) = want n ops f o := want_eq n ops f o
theorem Ey.of {K : Value → List Assn → Prop} (hd : noDef o = true) (h : Ef P B n o f l K) : Ey P B n ro o f l K := ⟨fun ds w next Q ho hk => by
  have h1 := h.run w (fun a w => next (Act.more a ds) w) (fun _ _ _ => False) ho (fun v w' l' k ho' => by rw [← more_put]; exact hk v w' l' k ho')
  exact op_fen (a := act n f) ro ds hd (fun _ _ k => k) (fun _ _ _ k => k.elim) h1⟩
theorem LI.act (hw : want n ops f o = true) (he : Ey P B n ro o f l fun v l' => LI P B n ro ops rest Φ ds (putd f o.dst v) l') : LI P B n ro ops (o :: rest) Φ ds f l := ⟨fun Q w hf ho => by
  unfold wpListIn
  rw [want_aD, if_pos hw]
  refine he.run ds w _ Q ho fun v w' l' k ho' => ?_
  rw [put_aD]
  exact k.run Q w' hf ho'⟩
theorem LI.skip (hw : want n ops f o = false) (h : LI P B n ro ops rest Φ ds (putd f o.dst undef) l) : LI P B n ro ops (o :: rest) Φ ds f l := ⟨fun Q w hf ho => by
  unfold wpListIn
  rw [want_aD, hw, if_neg (by simp), put_aD]
  exact ⟨fun _ _ => trivial, h.run Q w hf ho⟩⟩
theorem LI.quiet {v : Value} (hd : noDef o = true) (hw : want n ops f o = true) (hq : Qt P B n l o f v) (h : LI P B n ro ops rest Φ ds (putd f o.dst v) l) : LI P B n ro ops (o :: rest) Φ ds f l := LI.act hw ⟨fun ds' w next Q ho hk => by
  refine ⟨fun _ _ => trivial, ?_⟩
  rw [Oper.semAt_eq _ _ _ (noDef_spec hd), eval_aD, hq.run w ho]
  exact hk v w l h ho⟩
section named
variable {t : Tmp} {op : Op} {ty : TypeId} {pos : String} {af : Array Edge} {gd : Option (Nat × Bool)}
def wantD (n : Nat) (ops : Array Oper) (f : Fr) (o : Oper) : Bool := noDef o && want n ops f o
theorem wantD_spec (h : wantD n ops f o = true) : noDef o = true ∧ want n ops f o = true := by simpa [wantD] using h
theorem LI.q {v : Value} (hw : wantD n ops f ⟨some t, op, ty, pos, af, gd⟩ = true) (hq : Qt P B n l ⟨some t, op, ty, pos, af, gd⟩ f v) (h : LI P B n ro ops rest Φ ds (upd f t v) l) : LI P B n ro ops (⟨some t, op, ty, pos, af, gd⟩ :: rest) Φ ds f l := LI.quiet (wantD_spec hw).1 (wantD_spec hw).2 hq h
theorem LI.e (hw : wantD n ops f ⟨some t, op, ty, pos, af, gd⟩ = true) (he : Ef P B n ⟨some t, op, ty, pos, af, gd⟩ f l fun v l' => LI P B n ro ops rest Φ ds (upd f t v) l') : LI P B n ro ops (⟨some t, op, ty, pos, af, gd⟩ :: rest) Φ ds f l := LI.act (wantD_spec hw).2 (Ey.of (wantD_spec hw).1 he)
theorem LI.e0 (hw : wantD n ops f ⟨none, op, ty, pos, af, gd⟩ = true) (he : Ef P B n ⟨none, op, ty, pos, af, gd⟩ f l fun _ l' => LI P B n ro ops rest Φ ds f l') : LI P B n ro ops (⟨none, op, ty, pos, af, gd⟩ :: rest) Φ ds f l := LI.act (wantD_spec hw).2 (Ey.of (wantD_spec hw).1 he)
theorem LI.y (hw : want n ops f ⟨some t, op, ty, pos, af, gd⟩ = true) (he : Ey P B n ro ⟨some t, op, ty, pos, af, gd⟩ f l fun v l' => LI P B n ro ops rest Φ ds (upd f t v) l') : LI P B n ro ops (⟨some t, op, ty, pos, af, gd⟩ :: rest) Φ ds f l := LI.act hw he
theorem LI.s (hw : want n ops f ⟨some t, op, ty, pos, af, gd⟩ = false) (h : LI P B n ro ops rest Φ ds (upd f t undef) l) : LI P B n ro ops (⟨some t, op, ty, pos, af, gd⟩ :: rest) Φ ds f l := LI.skip hw h
end named
theorem LI.done (h : Φ .normal ds f l) : LI P B n ro ops [] Φ ds f l := ⟨fun _ w hf ho => hf.go _ _ _ w _ h ho⟩
theorem LI.split {t : Nat} {b : Bool} (hb : f t = some (.bool b)) (h1 : b = true → LI P B n ro ops rest Φ ds (upd f t (.bool true)) l) (h2 : b = false → LI P B n ro ops rest Φ ds (upd f t (.bool false)) l) : LI P B n ro ops rest Φ ds f l := by
  cases b with
  | true => have := h1 rfl; rwa [upd_self hb] at this
  | false => have := h2 rfl; rwa [upd_self hb] at this
theorem LI.gT {t : Nat} {b : Bool} (hb : f t = some (.bool b)) (h : b = true) (h1 : LI P B n ro ops rest Φ ds (upd f t (.bool true)) l) : LI P B n ro ops rest Φ ds f l := by subst h; rwa [upd_self hb] at h1
theorem LI.gF {t : Nat} {b : Bool} (hb : f t = some (.bool b)) (h : b = false) (h1 : LI P B n ro ops rest Φ ds (upd f t (.bool false)) l) : LI P B n ro ops rest Φ ds f l := by subst h; rwa [upd_self hb] at h1
theorem LI.own (h : ∀ w, Own B w l → LI P B n ro ops rest Φ ds f l) : LI P B n ro ops rest Φ ds f l := ⟨fun Q w hf ho => (h w ho).run Q w hf ho⟩
theorem LI.conv {l' : List Assn} (hc : ∀ w, Own B w l → Own B w l') (h : LI P B n ro ops rest Φ ds f l') : LI P B n ro ops rest Φ ds f l := ⟨fun Q w hf ho => h.run Q w hf (hc w ho)⟩
end
end Go.Proofs.Ytefognjcognknaa

/- Calls of yield; the statement 'for .. := range f'; functions that hold one. Conditions: no defer statement within. -/
set_option linter.unusedSimpArgs false
set_option linter.unusedVariables false
namespace Go.Proofs.Ytefognjcognknaa
open Go.RowKit

/-- A block of any kind. -/
def objA (r : Nat) (o : Obj) : Assn := fun h => h r = some o
section
variable {B : Base} {w : World} {l : List Assn}
theorem Own.objGet {r : Nat} {o : Obj} (H : Own B w (objA r o :: l)) : w.heap[r]? = some o := by
  obtain ⟨h, _, hl, h1, _, _, a1, _, hA, _⟩ := H.has
  exact hl.p _ _ (a1.p _ _ hA)
theorem Own.objNew (H : Own B w l) (o : Obj) : Own B (w.alloc o) (objA w.heap.size o :: l) :=
  Own.fresh H ((Kept.refl _ _).alloc _) fun h e => by
    have := e w.heap.size (Nat.le_refl _)
    unfold objA
    rw [this]
    exact World.alloc_heap_new w o
theorem Own.objPut {r : Nat} {o : Obj} (H : Own B w (objA r o :: l)) (o' : Obj) : Own B (w.putObj r o') (objA r o' :: l) := by
  have hr := H.objGet
  have hlt : r < w.heap.size := (Array.getElem?_eq_some_iff.1 hr).1
  refine Own.kept (fp := [r]) H ⟨rfl, rfl, rfl, (by simp), fun i hi hn => World.putObj_heap_other (by simpa using hn)⟩ (fun h e g' hg => by simp at hg; subst hg; exact ⟨_, e⟩) (fun h1 h _ _ e _ => ?_)
  have := e r (.inl (by simp))
  unfold objA
  rw [this]
  exact World.putObj_heap_same hlt
end
theorem Has.over {A : Assn} : ∀ {m r : List Assn} {h : Piece}, Has (m ++ A :: r) h → Has (A :: (m ++ r)) h
  | [], _, _, H => H
  | _ :: _, _, _, H => Has.swap (Has.cons_imp (fun _ k => Has.over k) H)
theorem Has.flip {m r : List Assn} {h : Piece} (H : Has (m ++ r) h) : Has (r ++ m) h := by
  obtain ⟨h1, h2, d, a, b, hm, hr⟩ := Has.split H
  exact Has.join d.disj_symm b a hr hm

/-- What a call of yield does, from assertions to what it answers and assertions, whatever else there is. -/
structure FnY (P : Program) (B : Base) (lp : Nat) (args : List Value) (pre : List Assn) (R : Value → List Assn → Prop) : Prop where
  run : ∀ w F, Own B w (pre ++ F) → YieldAt Fence.wide 0 P lp args.toArray w fun e w' => ∃ v l, e = .returned v ∧ R v l ∧ Own B w' (l ++ F)
section
variable {P : Program} {B : Base} {n : Nat} {ro : Option Nat} {f : Fr} {l : List Assn}
variable {d : Option Tmp} {ty : TypeId} {pos : String} {af : Array Edge} {gd : Option (Nat × Bool)}
theorem Ey.yield {x : Operand} {lp : Nat} {args : Array Operand} {ats : Array TypeId} {pre F : List Assn} {R : Value → List Assn → Prop} {K : Value → List Assn → Prop} (vs : List Value) (hc : FnY P B lp vs pre R)
    (hx : ev n f x = some (.func (.yield lp) #[] #[])) (ha : args.toList.map (ev n f) = vs.map some) [k : TakeL pre l F] (h : ∀ v l', R v l' → K v (l' ++ F)) : Ey P B n ro ⟨d, .call ⟨.value x, args, ats⟩, ty, pos, af, gd⟩ f l K := ⟨fun ds w next Q ho hk => by
  have hav : args.map (evu n f) = vs.toArray := by
    have : args.toList.map (evu n f) = vs := by
      have e := congrArg (List.map (fun o : Option Value => o.getD undef)) ha
      have e2 : (fun x => evu n f x) = evu n f := rfl
      simp only [List.map_map, Function.comp_def, Option.getD_some, List.map_id'] at e
      exact e
    rw [← Array.toList_inj, Array.toList_map]
    simpa using this
  obtain ⟨fn, tmps, assign, body, hy, hR⟩ := hc.run w F ho.takeL
  refine ⟨fun _ _ => trivial, ?_⟩
  rw [Oper.semAt_eq _ _ _ (fun c e => by cases e), eval_aD]
  have he : (execOp (evu n f) ⟨d, .call ⟨.value x, args, ats⟩, ty, pos, af, gd⟩).run P w = .ok (.round lp fn tmps assign body) w := by
    have h1 : ((do let c ← resolve (evu n f) ⟨.value x, args, ats⟩ ty; invoke c.target c.args) : Sem Next).run P w = (Instr.yield lp vs.toArray).run P w := by
      simp only [resolve, hav]
      simp [evu_eq hx, Deferred.ofValue, invoke]
    exact h1.trans hy
  rw [he]
  refine ⟨depth_fen ro 0, ?_⟩
  have hR' : RoundIn (fen ro) 0 P lp fn tmps assign body w (fun e w' => ∃ v l, e = .returned v ∧ R v l ∧ Own B w' (l ++ F)) := hR
  refine RoundIn.mono hR' ?_
  rintro e w' ⟨v, l', rfl, hRv, ho'⟩
  exact hk v w' _ (h v l' hRv) ho'⟩
end

theorem entersOf {P : Program} {g : FuncId} {fn : Func} (hf : P.funcs[g]? = some fn) (hn : (fn.name == "runtime.NumGoroutine") = false) (hb : fn.body.isNone = false) (args : Array Value) (w : World) : (callFunc g args).run P w = .ok (.enter g args) w := by
  have hn' : ¬ fn.name = "runtime.NumGoroutine" := by simpa using hn
  have hb' : ¬ fn.body = none := fun e => by rw [e] at hb; cases hb
  simp [callFunc, hf, hn', hb']
/-! the statement -/
def mkD (D : Nat) : Deferred := { target := .collected D, args := #[] }
def pjs (f : Fr) : List (Nat × Value) → Fr
  | [] => f
  | p :: r => pjs (upd f p.1 p.2) r
theorem tm_pjs (n : Nat) : ∀ (f : Fr) (l : List (Nat × Value)), l.foldl (fun t p => t.setIfInBounds p.1 p.2) (tm n f) = tm n (pjs f l)
  | _, [] => rfl
  | f, p :: r => by
    have e := put_act n f (some p.1) p.2
    have e2 : (tm n f).setIfInBounds p.1 p.2 = tm n (upd f p.1 p.2) := congrArg Act.tmps e
    rw [List.foldl_cons, e2]
    exact tm_pjs n _ r
/-- What an iterator does: it hands out elements; its own assertions are it's; the rounds' (J, and Jx behind a round that has said 'no more') are not touched by it, but for a part of them (st0) that it may ask for ahead of the first round. -/
def Iter (P : Program) (B : Base) {α : Type} (gf : FuncId) (lb : List Value) (encs : α → List Value) (st0 pre0 : List Assn) (G : List α → α → Prop) (S Sx : List α → Prop) (itp itx : List α → List Assn) : Prop :=
  ∀ (lp : Nat) (J Jx : List α → List Assn) (K0 : List Assn), Sub (J []) (st0 ++ K0) → Sub (st0 ++ K0) (J []) → (∀ pre x, G pre x → FnY P B lp (encs x) (J pre) (fun v l => (v = .bool true ∧ l = J (pre ++ [x])) ∨ (v = .bool false ∧ l = Jx (pre ++ [x])))) →
    Fn P B gf (#[.func (.yield lp) #[] #[]] ++ lb.toArray) (pre0 ++ J []) (fun _ l => (∃ xs, S xs ∧ l = itp xs ++ J xs) ∨ (∃ xs, Sx xs ∧ l = itx xs ++ Jx xs))
/-- How a round's body is left. -/
def roundP {α : Type} (I : List α → List Assn) (Ix : Code → List α → List Assn) (xs : List α) (F : List Assn) : PostD
  | .normal, ds, _, l => ds = [] ∧ Sub l (I xs ++ F)
  | .ret, ds, _, l => ds = [] ∧ Sub l (Ix .ret xs ++ F)
  | .exit id, ds, _, l => ds = [] ∧ Sub l (Ix (.exit id) xs ++ F)
  | .goto t, ds, _, l => ds = [] ∧ Sub l (Ix (.goto t) xs ++ F)
  | _, _, _, _ => False
section
variable {P : Program} {B : Base} {n : Nat} {f : Fr} {l : List Assn} {Φ : PostD} {ds : List Deferred}
theorem TI.range {α : Type} {g : Operand} {ps : List Tmp} {assign body : Code} {gf : FuncId} {lb : List Value} {encs : α → List Value} {st0 pre0 F : List Assn} {G : List α → α → Prop} {S Sx : List α → Prop} {itp itx : List α → List Assn}
    (I : List α → List Assn) (Ix : Code → List α → List Assn) (K0 : List Assn) (hI : I [] = st0 ++ K0) (hit : Iter P B gf lb encs st0 pre0 G S Sx itp itx)
    (hg : ev n f g = some (.func (.func gf) #[] lb.toArray)) (eg : ∀ args w, (callFunc gf args).run P w = .ok (.enter gf args) w) (hps : ∀ x, (encs x).length = ps.length)
    (hl : Sub l (pre0 ++ I [] ++ F))
    (hbody : ∀ lp pre x F0, G pre x → TI P B n (some lp) assign (fun e ds' f' l' => e = .normal ∧ ds' = [] ∧ ∃ l1, Sub l' (l1 ++ F0) ∧ ∀ F1, TI P B n (some lp) body (roundP I Ix (pre ++ [x]) F1) [] f' (l1 ++ F1)) [] (pjs f (ps.zip (encs x))) (I pre ++ F0))
    (hdone : ∀ D xs, S xs → Φ .normal (mkD D :: ds) f (objA D (.deferred (some [])) :: (itp xs ++ I xs ++ F)))
    (hstop : ∀ D c xs, Sx xs → TI P B n none c Φ (mkD D :: ds) f (objA D (.deferred (some [])) :: (itx xs ++ Ix c xs ++ F))) :
    TI P B n none (.rangeFunc g ps.toArray assign body) Φ ds f l := ⟨fun Q w hf ho => by
  refine wpIn_rangeFunc ?_
  intro fn hfn
  obtain ⟨rec, hrec⟩ : ∃ rec : LoopState → Option Code → Loop, rec = fun st pe => { state := st, pending := pe, fn, tmps := tm n f, params := ps.toArray, assign, body, defers := w.heap.size } := ⟨_, rfl⟩
  obtain ⟨W1, hW1⟩ : ∃ W1, (w.alloc (.deferred (some []))).alloc (.loop (rec .ready none)) = W1 := ⟨_, rfl⟩
  have ho0 := ho.map hl
  have ho1 := (ho0.objNew (.deferred (some []))).objNew (.loop (rec .ready none))
  rw [World.size_alloc, hW1] at ho1
  obtain ⟨J, hJ⟩ : ∃ J : List α → List Assn, J = fun xs => objA (w.heap.size + 1) (.loop (rec .ready none)) :: objA w.heap.size (.deferred (some [])) :: I xs := ⟨_, rfl⟩
  obtain ⟨Jx, hJx⟩ : ∃ Jx : List α → List Assn, Jx = fun xs => [exA fun c => sepL (objA (w.heap.size + 1) (.loop (rec .done (some c))) :: objA w.heap.size (.deferred (some [])) :: Ix c xs)] := ⟨_, rfl⟩
  have hY : ∀ pre x, G pre x → FnY P B (w.heap.size + 1) (encs x) (J pre) (fun v l => (v = .bool true ∧ l = J (pre ++ [x])) ∨ (v = .bool false ∧ l = Jx (pre ++ [x]))) := by
    intro pre x hG
    refine ⟨fun W F' hW => ?_⟩
    rw [hJ] at hW
    have hl1 := hW.objGet
    have hy := run_yield (P := P) (args := (encs x).toArray) hl1 (by rw [hrec]; simpa using hps x)
    rw [hrec] at hy
    refine ⟨fn, _, assign, body, hy, roundIn_of_wpIn hfn ?_⟩
    have et : (ps.toArray.zip (encs x).toArray).foldl (fun tmps (t, a) => tmps.setIfInBounds t a) (tm n f) = tm n (pjs f (ps.zip (encs x))) := by
      rw [← tm_pjs, ← Array.foldl_toList]
      simp
    rw [show ((ps.toArray.zip (encs x).toArray).foldl (fun tmps (t, a) => tmps.setIfInBounds t a) (tm n f)) = _ from et]
    have hW2 : Own B W (I pre ++ (objA (w.heap.size + 1) (.loop (rec .ready none)) :: objA w.heap.size (.deferred (some [])) :: F')) := hW.map fun h H => by
      have H2 : Has ([objA (w.heap.size + 1) (.loop (rec .ready none)), objA w.heap.size (.deferred (some []))] ++ (I pre ++ F')) h := H
      refine Has.under (m := I pre) (Has.cons_imp (fun _ k => ?_) H2)
      exact Has.under (m := I pre) k
    refine (hbody (w.heap.size + 1) pre x _ hG).run _ W ⟨?_, ?_⟩ hW2
    · rintro e ds' f' W3 l' ⟨rfl, rfl, l1, hs, hb⟩ ho3
      have ho4 : Own B W3 (objA (w.heap.size + 1) (.loop (rec .ready none)) :: (l1 ++ objA w.heap.size (.deferred (some [])) :: F')) := ho3.map fun h H => Has.over (hs h H)
      have hl4 := ho4.objGet
      have ho5 := ho4.objPut (.loop { rec .ready none with state := .busy })
      refine ⟨_, run_beginRound hl4 (by rw [hrec]), ?_⟩
      have ho6 := ho5.map fun h H => Has.under (m := l1) H
      refine (hb _).run _ _ ⟨?_, fun c a d v w' k => k.elim⟩ ho6
      have fin : ∀ (L : List Assn) (jump : Option Code) (l7 : List Assn) (W7 : World), Sub l7 (L ++ objA (w.heap.size + 1) (.loop { rec .ready none with state := .busy }) :: objA w.heap.size (.deferred (some [])) :: F') → Own B W7 l7 →
          ∃ W8, (Instr.endRound (w.heap.size + 1) jump).run P W7 = .ok (.bool jump.isNone) W8 ∧ Own B W8 (objA (w.heap.size + 1) (.loop (rec (if jump.isNone then .ready else .done) jump)) :: objA w.heap.size (.deferred (some [])) :: (L ++ F')) := by
        intro L jump l7 W7 h7 o7
        have o8 : Own B W7 (objA (w.heap.size + 1) (.loop { rec .ready none with state := .busy }) :: (L ++ objA w.heap.size (.deferred (some [])) :: F')) := o7.map fun h H => Has.over (h7 h H)
        have o9 := o8.objPut (.loop (rec (if jump.isNone then .ready else .done) jump))
        refine ⟨_, ?_, o9.map fun h H => Has.cons_imp (fun _ k => Has.over k) H⟩
        have := run_endRound (P := P) jump o8.objGet
        rw [hrec] at this ⊢
        exact this
      have stop : ∀ (c : Code) (l7 : List Assn) (W7 : World), Sub l7 (Ix c (pre ++ [x]) ++ objA (w.heap.size + 1) (.loop { rec .ready none with state := .busy }) :: objA w.heap.size (.deferred (some [])) :: F') → Own B W7 l7 →
          ∃ v W8, (Instr.endRound (w.heap.size + 1) (some c)).run P W7 = .ok v W8 ∧ ∃ v' l, Ending.returned v = .returned v' ∧ ((v' = .bool true ∧ l = J (pre ++ [x])) ∨ (v' = .bool false ∧ l = Jx (pre ++ [x]))) ∧ Own B W8 (l ++ F') := by
        intro c l7 W7 h7 o7
        obtain ⟨W8, hr, o8⟩ := fin _ (some c) l7 W7 h7 o7
        refine ⟨_, W8, hr, _, _, rfl, .inr ⟨rfl, rfl⟩, ?_⟩
        rw [hJx]
        exact o8.map fun h H => Has.close_ex c (Has.close_sepL (l := objA (w.heap.size + 1) (.loop (rec .done (some c))) :: objA w.heap.size (.deferred (some [])) :: Ix c (pre ++ [x])) H)
      intro e ds7 f7 W7 l7 hp o7
      cases e with
      | normal =>
        obtain ⟨W8, hr, o8⟩ := fin _ none l7 W7 hp.2 o7
        refine ⟨_, W8, hr, _, _, rfl, .inl ⟨rfl, rfl⟩, ?_⟩
        rw [hJ]
        exact o8
      | ret => exact stop _ l7 W7 hp.2 o7
      | exit id => exact stop _ l7 W7 hp.2 o7
      | goto t => exact stop _ l7 W7 hp.2 o7
      | panic c => exact hp.elim
      | outgrown => exact hp.elim
    · exact fun c a d v w' k => k.elim
  have hs1 : ∀ h, Has (J []) h → Has (st0 ++ (objA (w.heap.size + 1) (.loop (rec .ready none)) :: objA w.heap.size (.deferred (some [])) :: K0)) h := fun h H => by
    rw [hJ] at H
    have H2 : Has ([objA (w.heap.size + 1) (.loop (rec .ready none)), objA w.heap.size (.deferred (some []))] ++ (st0 ++ K0)) h := by
      have e : (fun xs => objA (w.heap.size + 1) (.loop (rec .ready none)) :: objA w.heap.size (.deferred (some [])) :: I xs) [] = [objA (w.heap.size + 1) (.loop (rec .ready none)), objA w.heap.size (.deferred (some []))] ++ (st0 ++ K0) := by simp [hI]
      rw [← e]; exact H
    refine Has.under (m := st0) (Has.cons_imp (fun _ k => ?_) H2)
    exact Has.under (m := st0) k
  have hs2 : ∀ h, Has (st0 ++ (objA (w.heap.size + 1) (.loop (rec .ready none)) :: objA w.heap.size (.deferred (some [])) :: K0)) h → Has (J []) h := fun h H => by
    rw [hJ]
    show Has (objA (w.heap.size + 1) (.loop (rec .ready none)) :: objA w.heap.size (.deferred (some [])) :: I []) h
    rw [hI]
    exact Has.cons_imp (fun _ k => Has.over (m := st0) k) (Has.over (m := st0) H)
  have hcall := (hit (w.heap.size + 1) J Jx _ hs1 hs2 hY).run W1 F (ho1.map fun h H => by
    rw [hJ]
    have H2 : Has ([objA (w.heap.size + 1) (.loop (rec .ready none)), objA w.heap.size (.deferred (some []))] ++ (pre0 ++ (I [] ++ F))) h := by
      simpa using H
    have H3 : Has (pre0 ++ (objA (w.heap.size + 1) (.loop (rec .ready none)) :: objA w.heap.size (.deferred (some [])) :: (I [] ++ F))) h := by
      refine Has.under (m := pre0) (Has.cons_imp (fun _ k => ?_) H2)
      exact Has.under (m := pre0) k
    simpa using H3)
  refine ⟨w.heap.size + 1, [mkD w.heap.size], W1, { target := .fn (.func gf) lb.toArray, args := #[.func (.yield (w.heap.size + 1)) #[] #[]] }, W1, gf, #[.func (.yield (w.heap.size + 1)) #[] #[]] ++ lb.toArray, W1, ?_, ?_, fun _ _ => trivial, ?_, depth_fen none 0, ?_⟩
  · rw [← hW1, hrec]; exact run_enterLoop_outer _ _ _ _ _
  · have hg' : (aD n f ds).eval g = .func (.func gf) #[] lb.toArray := by rw [eval_aD]; exact evu_eq hg
    simp only [resolve, hg']
    simp [Deferred.ofValue, Act.eval]
  · simp [invoke, eg]
  · refine calls_fen none _ (Calls.mono hcall ?_)
    rintro e W2 ⟨v, l2, rfl, hd, o2⟩
    rcases hd with ⟨xs, hS, rfl⟩ | ⟨xs, hS, rfl⟩
    · rw [hJ] at o2
      have o3 : Own B W2 (objA (w.heap.size + 1) (.loop (rec .ready none)) :: objA w.heap.size (.deferred (some [])) :: (itp xs ++ I xs ++ F)) := o2.map fun h H => by
        have H2 : Has (itp xs ++ (objA (w.heap.size + 1) (.loop (rec .ready none)) :: objA w.heap.size (.deferred (some [])) :: (I xs ++ F))) h := by simpa using H
        have H3 := Has.cons_imp (fun _ k => Has.over (m := itp xs) k) (Has.over (m := itp xs) H2)
        simpa using H3
      have o4 := (o3.objPut (.loop (rec .exhausted none))).map fun h H => H.tail
      exact ⟨none, W2.putObj (w.heap.size + 1) (.loop (rec .exhausted none)), by have := run_endLoop (P := P) o3.objGet (by rw [hrec]; simp); rw [hrec] at this ⊢; exact this, hf.go .normal _ f _ _ (hdone _ xs hS) o4⟩
    · rw [hJx] at o2
      obtain ⟨c, o2'⟩ : ∃ c, Own B W2 (objA (w.heap.size + 1) (.loop (rec .done (some c))) :: objA w.heap.size (.deferred (some [])) :: (itx xs ++ Ix c xs ++ F)) := by
        have H := o2.has
        obtain ⟨h, a, b, H⟩ := H
        have H2 : Has (itx xs ++ (exA (fun c => sepL (objA (w.heap.size + 1) (.loop (rec .done (some c))) :: objA w.heap.size (.deferred (some [])) :: Ix c xs)) :: F)) h := by simpa using H
        obtain ⟨c, H3⟩ := Has.open_ex (Has.over (m := itx xs) H2)
        refine ⟨c, o2.os, o2.tape, o2.output, o2.ro, h, a, b, ?_⟩
        have H4 := Has.open_sepL H3
        have H5 : Has (objA (w.heap.size + 1) (.loop (rec .done (some c))) :: objA w.heap.size (.deferred (some [])) :: (Ix c xs ++ (itx xs ++ F))) h := by simpa using H4
        refine Has.cons_imp (fun _ k => Has.cons_imp (fun _ k => ?_) k) H5
        obtain ⟨k1, k2, d, e1, e2, m1, m2⟩ := Has.split k
        obtain ⟨k3, k4, d2, e3, e4, m3, m4⟩ := Has.split m2
        rw [List.append_assoc]
        exact Has.join (Piece.disj.disj_symm (Piece.add_disj (d.disj_symm.disj_symm.disj_le e3) ((d2.disj_symm.disj_le (Piece.le_refl _)))) |>.disj_symm.disj_symm) (e3.le_trans e2) (Piece.add_le e1 (e4.le_trans e2)) m3 (Has.join (d.disj_le e4) (Piece.le_add_left _ _) (Piece.le_add_right (d.disj_le e4)) m1 m4)
      have o4 := (o2'.objPut (.loop (rec .exhausted (some c)))).map fun h H => H.tail
      exact ⟨some c, W2.putObj (w.heap.size + 1) (.loop (rec .exhausted (some c))), by have := run_endLoop (P := P) o2'.objGet (by rw [hrec]; simp); rw [hrec] at this ⊢; exact this, (hstop _ c xs hS).run Q _ hf o4⟩⟩
theorem TI.rangeL {α : Type} {g : Operand} {ps : List Tmp} {assign body : Code} {gf : FuncId} {lb : List Value} {encs : α → List Value} {st0 pre0 F : List Assn} {G : List α → α → Prop} {S Sx : List α → Prop} {itp itx : List α → List Assn}
    (I : List α → List Assn) (Ix : Code → List α → List Assn) (K0 : List Assn) (hI : I [] = st0 ++ K0) (hit : Iter P B gf lb encs st0 pre0 G S Sx itp itx)
    (hg : ev n f g = some (.func (.func gf) #[] lb.toArray)) (eg : ∀ args w, (callFunc gf args).run P w = .ok (.enter gf args) w) (hps : ∀ x, (encs x).length = ps.length)
    (PI : List Assn) (hPI : PI = pre0 ++ I []) [k : TakeL PI l F]
    (hbody : ∀ lp pre x F0, G pre x → TI P B n (some lp) assign (fun e ds' f' l' => e = .normal ∧ ds' = [] ∧ ∃ l1, Sub l' (l1 ++ F0) ∧ ∀ F1, TI P B n (some lp) body (roundP I Ix (pre ++ [x]) F1) [] f' (l1 ++ F1)) [] (pjs f (ps.zip (encs x))) (I pre ++ F0))
    (hdone : ∀ D xs, S xs → Φ .normal (mkD D :: ds) f (objA D (.deferred (some [])) :: (itp xs ++ I xs ++ F)))
    (hstop : ∀ D c xs, Sx xs → TI P B n none c Φ (mkD D :: ds) f (objA D (.deferred (some [])) :: (itx xs ++ Ix c xs ++ F))) :
    TI P B n none (.rangeFunc g ps.toArray assign body) Φ ds f l := TI.range I Ix K0 hI hit hg eg hps (by rw [← hPI]; exact k.take) hbody hdone hstop
end
end Go.Proofs.Ytefognjcognknaa

/- Functions that hold a range over a function, or call yield: their contracts out of their walks. Conditions: no defer statement within. -/
set_option linter.unusedSimpArgs false
set_option linter.unusedVariables false
namespace Go.Proofs.Ytefognjcognknaa
open Go.RowKit
/-- The marks among the deferred calls have their blocks in the list; what is left of it. -/
inductive Marks : List Deferred → List Assn → List Assn → Prop
  | nil {l : List Assn} : Marks [] l l
  | cons {D : Nat} {ds : List Deferred} {l r s : List Assn} : (∀ h, Has l h → Has (objA D (.deferred (some [])) :: r) h) → Marks ds r s → Marks (mkD D :: ds) l s
theorem Marks.one {D : Nat} {l r : List Assn} [k : TakeA (objA D (.deferred (some []))) l r] : Marks [mkD D] l r := .cons k.take .nil
section
variable {P : Program} {B : Base} {n : Nat} {f : Fr}
theorem leaves_marks {fn : Func} {R : Ending → World → Prop} : ∀ {ds : List Deferred} {l r : List Assn} {w : World}, Marks ds l r → Own B w l → (∀ w', Own B w' r → ∃ v, (results fn (tm n f)).run P w' = .ok v w' ∧ R (.returned v) w') → LeavesInM Fence.wide 0 P fn (tm n f) R ds .returning w
  | _, _, _, w, .nil, ho, h => h w ho
  | _, _, _, w, .cons (D := D) (r := r) k hm, ho, h => by
    have h1 := ho.map k
    refine ⟨by simp, .inl ⟨D, _, rfl, run_takeDeferred h1.objGet, ?_⟩⟩
    exact leaves_marks hm ((h1.objPut (.deferred none)).map fun _ H => H.tail) h
def FnPostM (P : Program) (B : Base) (n : Nat) (fn : Func) (R : Value → List Assn → Prop) (F : List Assn) : PostD := fun e ds f l => (e = .ret ∨ e = .normal) ∧ ∃ lR, Marks ds l lR ∧ ∃ v l', (∀ w, Own B w lR → (results fn (act n f).tmps).run P w = .ok v w) ∧ R v l' ∧ Sub lR (l' ++ F)
theorem Fn.enterM {g : FuncId} {fn : Func} {c : Code} {args : List Value} {pre : List Assn} {R : Value → List Assn → Prop} (hfn : P.funcs[g]? = some fn) (hc : fn.body = some c) (hn : fn.ntmps = n) (hl : args.length ≤ n)
    (h : ∀ F, TI P B n none c (FnPostM P B n fn R F) [] (U (fun _ => none) ((List.range args.length).zip args)) (pre ++ F)) : Fn P B g args.toArray pre R := ⟨fun w F ho => by
  refine (callsIn_wide (n := 0)).1 (callsIn_of_wp_marks (F := Fence.wide) hfn hc trivial ?_)
  rw [hn, enter_eq args n hl]
  refine wpIn_mono ((h F).run (fun e a w' => (∀ c, e ≠ .panic c) ∧ bodyPostM Fence.wide 0 P fn (fun e w' => ∃ v l, e = .returned v ∧ R v l ∧ Own B w' (l ++ F)) e a w') w ⟨fun e ds f w' l hk ho' => ?_, fun c a d v w' k => absurd rfl (k.1 c)⟩ ho) fun _ _ _ k => k.2
  obtain ⟨he, lR, hm, v, l', hr, hR, hs⟩ := hk
  have := leaves_marks (P := P) (n := n) (f := f) (fn := fn) (R := fun e w' => ∃ v l, e = .returned v ∧ R v l ∧ Own B w' (l ++ F)) hm ho' (fun w' ho' => ⟨v, hr w' ho', v, l', rfl, hR, ho'.map hs⟩)
  rcases he with rfl | rfl <;> exact ⟨fun c e => (by cases e), this⟩⟩
theorem Fn.enterM3 {g : FuncId} {fn : Func} {c : Code} {a0 a1 a2 : Value} {pre : List Assn} {R : Value → List Assn → Prop} (n : Nat) (hfn : P.funcs[g]? = some fn) (hc : fn.body = some c) (hn : fn.ntmps = n) (hl : 3 ≤ n)
    (h : ∀ F, TI P B n none c (FnPostM P B n fn R F) [] (upd (upd (upd (fun _ => none) 2 a2) 1 a1) 0 a0) (pre ++ F)) : Fn P B g #[a0, a1, a2] pre R := Fn.enterM (args := [a0, a1, a2]) hfn hc hn hl h
theorem Fn.enterM4 {g : FuncId} {fn : Func} {c : Code} {a0 a1 a2 a3 : Value} {pre : List Assn} {R : Value → List Assn → Prop} (n : Nat) (hfn : P.funcs[g]? = some fn) (hc : fn.body = some c) (hn : fn.ntmps = n) (hl : 4 ≤ n)
    (h : ∀ F, TI P B n none c (FnPostM P B n fn R F) [] (upd (upd (upd (upd (fun _ => none) 3 a3) 2 a2) 1 a1) 0 a0) (pre ++ F)) : Fn P B g #[a0, a1, a2, a3] pre R := Fn.enterM (args := [a0, a1, a2, a3]) hfn hc hn hl h
end
end Go.Proofs.Ytefognjcognknaa

/- Regions that draw their order and hold calls of yield: the law of Reg's and the judgement of SlB's, at a fence. Conditions: no defer statement within. -/
set_option linter.unusedSimpArgs false
set_option linter.unusedVariables false
namespace Go.Proofs.Ytefognjcognknaa
open Go.RowKit
section
variable {ro : Option Nat} {P : Program} {ops : Array Oper} {Q : Exit → Act → World → Prop} {md : Region.Mode} {S : World → Prop}
def wpR (ro : Option Nat) (P : Program) (o : Oper) (a : Act) (w : World) (next : Act → World → Prop) (Q : Exit → Act → World → Prop) : Prop := o.uponIn (fen ro) 0 P a next Q ((execOp a.eval o).run P w)
theorem wpR_mono {o : Oper} {a : Act} {w : World} {K K' : Act → World → Prop} (h : ∀ a w, K a w → K' a w) (hh : wpR ro P o a w K Q) : wpR ro P o a w K' Q := by
  unfold wpR at *
  generalize (execOp a.eval o).run P w = r at *
  cases r with
  | ok x w' =>
    cases x <;> simp only [Oper.uponIn] at hh ⊢ <;>
      first
        | exact h _ _ hh
        | exact ⟨hh.1, CallsIn.mono hh.2 (fun e w'' he => by cases e <;> first | exact h _ _ he | exact he)⟩
        | exact ⟨hh.1, RowsIn.mono hh.2 (fun _ _ he => h _ _ he)⟩
        | exact ⟨hh.1, RoundIn.mono hh.2 (fun e w'' he => by cases e <;> first | exact h _ _ he | exact he)⟩
  | halt x w' => cases x <;> simp only [Oper.uponIn] at hh ⊢ <;> exact hh
theorem wpIn_wpR {o : Oper} {a : Act} {w : World} {K : Act → World → Prop} (hd : noDef o = true) : o.wpIn (fen ro) 0 P a w K Q ↔ wpR ro P o a w K Q := by
  unfold Oper.wpIn wpR
  rw [Oper.semAt_eq _ _ _ (noDef_spec hd)]
  exact ⟨fun h => h.2, fun h => ⟨fun _ _ => trivial, h⟩⟩
def wpOpR (ro : Option Nat) (P : Program) (ops : Array Oper) (Q : Exit → Act → World → Prop) (i : Nat) (K : Act → World → Prop) (a : Act) (w : World) : Prop :=
  match ops[i]? with
  | none => K a w
  | some o => if Region.wanted o (yielded ops a.tmps) then wpR ro P o a w K Q else K (a.put o.dst undef) w
theorem wpOpR_mono {i : Nat} {a : Act} {w : World} {K K' : Act → World → Prop} (h : ∀ a w, K a w → K' a w) (hh : wpOpR ro P ops Q i K a w) : wpOpR ro P ops Q i K' a w := by
  unfold wpOpR at *
  split
  · exact h _ _ (by simpa [*] using hh)
  · rename_i o ho
    simp only [ho] at hh
    split
    · rename_i hw; simp only [hw, if_true] at hh; exact wpR_mono h hh
    · rename_i hw; simp only [hw] at hh; exact h _ _ hh
theorem wpOpR_yields {i : Nat} {o : Oper} {v : Value} {a : Act} (hi : ops[i]? = some o) (hy : YieldsIf P ops S o v a)
    {K : Act → World → Prop} {w : World} (hS : S w) (h : K (a.put o.dst v) w) : wpOpR ro P ops Q i K a w := by
  unfold wpOpR
  simp only [hi]
  rcases hy with ⟨hw, hv⟩ | ⟨hw, rfl⟩
  · simp only [hw, if_true, wpR, hv w hS, Oper.uponIn]; exact h
  · simp only [hw, Bool.false_eq_true, if_false]; exact h
theorem wpOpR_putIf {j : Nat} {oi oj : Oper} {v : Value} (hj : ops[j]? = some oj) (hap : oi.apart ops oj = true)
    (hsi : ∀ cs b, oi.op ≠ .select cs b) (hsj : ∀ cs b, oj.op ≠ .select cs b)
    (hQ : ∀ c a w, Q (.panic c) (a.put oi.dst v) w → Q (.panic c) a w) {K : Act → World → Prop} {a : Act} {w : World}
    (hy : YieldsIf P ops S oi v a) (h : wpOpR ro P ops Q j K (a.put oi.dst v) w) :
    wpOpR ro P ops Q j (fun a' w' => YieldsIf P ops S oi v a' ∧ K (a'.put oi.dst v) w') a w := by
  obtain ⟨h1, h2, h3⟩ := Oper.apart_spec hap
  have keep : ∀ (a : Act), YieldsIf P ops S oi v a → ∀ u, YieldsIf P ops S oi v (a.put oj.dst u) := fun a hy u =>
    hy.of_same (execOp_put oi hsi a oj.dst u h3) (wanted_put oi a oj.dst u h3)
  have keepD : ∀ d, YieldsIf P ops S oi v { a with defers := d :: a.defers } := fun d => hy.of_same rfl rfl
  unfold wpOpR at *
  simp only [hj] at *
  rw [wanted_put oj a oi.dst v h1] at h
  split
  · rename_i hw
    simp only [hw, if_true] at h
    unfold wpR at *
    rw [execOp_put oj hsj a oi.dst v h1] at h
    generalize (execOp a.eval oj).run P w = r at *
    cases r with
    | ok x w' =>
      cases x <;> simp only [Oper.uponIn] at h ⊢
      case value u => exact ⟨keep a hy u, by rw [← Act.put_comm a v u h2]; exact h⟩
      case skip => exact ⟨keep a hy _, by rw [← Act.put_comm a v undef h2]; exact h⟩
      case defer d =>
        refine ⟨keep _ (keepD d) _, ?_⟩
        rw [← Act.put_comm _ v undef h2, ← Act.put_defers]
        exact h
      case enter f args =>
        refine ⟨h.1, CallsIn.mono h.2 fun e w'' he => ?_⟩
        cases e with
        | returned u => exact ⟨keep a hy u, by rw [← Act.put_comm a v u h2]; exact he⟩
        | panicked c => exact hQ _ _ _ he
        | outgrown => exact he
      case row row args => exact ⟨h.1, RowsIn.mono h.2 fun u w'' he => ⟨keep a hy u, by rw [← Act.put_comm a v u h2]; exact he⟩⟩
      case round l f tmps assign body =>
        refine ⟨h.1, RoundIn.mono h.2 fun e w'' he => ?_⟩
        cases e with
        | returned u => exact ⟨keep a hy u, by rw [← Act.put_comm a v u h2]; exact he⟩
        | panicked c => exact hQ _ _ _ he
        | outgrown => exact he
    | halt x w' =>
      cases x <;> simp only [Oper.uponIn] at h ⊢
      case panic u => exact hQ _ _ _ h
  · rename_i hw
    simp only [hw] at h
    exact ⟨keep a hy _, by rw [← Act.put_comm a v undef h2]; exact h⟩
def wpOpsR (ro : Option Nat) (P : Program) (ops : Array Oper) (Q : Exit → Act → World → Prop) : List Nat → Act → World → Prop
  | [], a, w => Q .normal a w
  | i :: is, a, w => wpOpR ro P ops Q i (wpOpsR ro P ops Q is) a w
theorem wpOpsR_in (hd : ∀ (i : Nat) (o : Oper), ops[i]? = some o → noDef o = true) : ∀ is a w, wpOpsR ro P ops Q is a w → wpOpsIn (fen ro) 0 P ops Q is a w
  | [], a, w, h => h
  | i :: is, a, w, h => by
    have ih := wpOpsR_in hd is
    simp only [wpOpsR, wpOpR] at h
    simp only [wpOpsIn]
    cases ho : ops[i]? with
    | none => rw [ho] at h; exact ih a w h
    | some o =>
      rw [ho] at h
      simp only at h ⊢
      split
      · rename_i hw
        rw [if_pos hw] at h
        exact (wpIn_wpR (hd i o ho)).2 (wpR_mono ih h)
      · rename_i hw
        rw [if_neg hw] at h
        exact ⟨fun _ _ => trivial, ih _ _ h⟩
def wpListR (ro : Option Nat) (P : Program) (ops : Array Oper) (Q : Exit → Act → World → Prop) : List Oper → Act → World → Prop
  | [], a, w => Q .normal a w
  | o :: rest, a, w => if Region.wanted o (yielded ops a.tmps) then wpR ro P o a w (wpListR ro P ops Q rest) Q else wpListR ro P ops Q rest (a.put o.dst undef) w
theorem wpListR_of : ∀ (l : List Oper), (∀ o ∈ l, noDef o = true) → ∀ a w, wpListIn (fen ro) 0 P ops Q l a w → wpListR ro P ops Q l a w
  | [], _, a, w, h => h
  | o :: l, hd, a, w, h => by
    have ih := wpListR_of l (fun o h => hd o (List.mem_cons_of_mem _ h))
    simp only [wpListIn] at h
    simp only [wpListR]
    split
    · rename_i hw
      rw [if_pos hw] at h
      exact wpR_mono ih ((wpIn_wpR (hd o (List.mem_cons_self ..))).1 h)
    · rename_i hw
      rw [if_neg hw] at h
      exact ih _ _ h.2
def wpAnyR (ro : Option Nat) (P : Program) (md : Region.Mode) (ops : Array Oper) (Q : Exit → Act → World → Prop) : Nat → Array Bool → Act → World → Prop
  | 0, listed, a, w => Region.ready md ops listed = [] ∧ Q .normal a w
  | fuel + 1, listed, a, w =>
    (Region.ready md ops listed = [] → Q .normal a w) ∧
    ∀ i ∈ Region.ready md ops listed, wpOpR ro P ops Q i (wpAnyR ro P md ops Q fuel (listed.setIfInBounds i true)) a w
theorem wpAnyR_sound : ∀ (fuel t : Nat) (listed : Array Bool) (a : Act) (w : World), wpAnyR ro P md ops Q fuel listed a w →
    wpOpsR ro P ops Q (Region.linearise.go md ops fuel t listed []) a w := by
  intro fuel
  induction fuel with
  | zero => intro t listed a w h; simpa [Region.linearise.go, wpOpsR] using h.2
  | succ fuel ih =>
    intro t listed a w h
    obtain ⟨h₀, h₁⟩ := h
    simp only [Region.linearise.go]
    change wpOpsR ro P ops Q (match (Region.ready md ops listed)[t % (Region.ready md ops listed).length]? with
      | some i => Region.linearise.go md ops fuel (t / (Region.ready md ops listed).length) (listed.setIfInBounds i true) [i]
      | none => [].reverse) a w
    cases hi : (Region.ready md ops listed)[t % (Region.ready md ops listed).length]? with
    | none =>
      have hnil : Region.ready md ops listed = [] := by
        cases hr : Region.ready md ops listed with
        | nil => rfl
        | cons x xs =>
          rw [hr] at hi
          have hlt : t % (x :: xs).length < (x :: xs).length := Nat.mod_lt _ (by simp)
          simp at hi
          simp at hlt
          omega
      simpa [wpOpsR] using h₀ hnil
    | some i =>
      simp only []
      rw [linearise_go_acc, List.reverse_singleton, List.singleton_append]
      exact wpOpR_mono (fun a w => ih _ _ a w) (h₁ i (List.mem_of_getElem? hi))
theorem wpAnyR_of_seq : ∀ (l : List Oper) (k : Nat) (listed : Array Bool) (a : Act) (w : World), (∀ j, l[j]? = ops[k + j]?) →
    Region.seqB md ops l.length k listed = true → wpListR ro P ops Q l a w → wpAnyR ro P md ops Q l.length listed a w
  | [], _, _, _, _, _, hB, h => ⟨by simpa [Region.seqB] using hB, h⟩
  | o :: l, k, listed, a, w, hl, hB, h => by
    have h0 : ops[k]? = some o := by simpa using (hl 0).symm
    simp only [List.length_cons, Region.seqB, Bool.and_eq_true, decide_eq_true_eq] at hB
    refine ⟨fun h1 => (by rw [hB.1] at h1; cases h1), fun i hi => ?_⟩
    rw [hB.1] at hi
    have hik : i = k := by simpa using hi
    subst hik
    have hw : wpOpR ro P ops Q i (wpListR ro P ops Q l) a w := by unfold wpOpR; simp only [h0]; exact h
    exact wpOpR_mono (fun a' w' h' => wpAnyR_of_seq l (i + 1) _ a' w' (fun j => by have := hl (j + 1); simpa [Nat.add_assoc, Nat.add_comm 1 j] using this) hB.2 h') hw
def wpTR (ro : Option Nat) (P : Program) (md : Region.Mode) (ops : Array Oper) (Q : Exit → Act → World → Prop) (n : Nat) (T : Act → World → Prop) : Nat → (World → Prop) → Array Bool → Act → World → Prop
  | 0, _, listed, a, w => listed = doneB n ops.size ∧ T a w
  | f + 1, S, listed, a, w => Region.ready md ops listed ≠ [] ∧ ∀ i ∈ Region.ready md ops listed, i < n ∧
      wpOpR ro P ops Q i (fun a' w' => ∃ S' : World → Prop, (∀ u, S' u → S u) ∧ S' w' ∧ wpTR ro P md ops Q n T f S' (listed.setIfInBounds i true) a' w') a w


theorem wpTR_first {n i : Nat} {T : Act → World → Prop} {oi : Oper} {v : Value} (hi : ops[i]? = some oi) (hsel : ∀ (j : Nat) (o : Oper) cs b, ops[j]? = some o → o.op ≠ .select cs b)
    (hQ : ∀ c a w, Q (.panic c) (a.put oi.dst v) w → Q (.panic c) a w) (hd : directB md ops n = true) (hin : i < n) :
    ∀ (f : Nat) (S : World → Prop) (listed : Array Bool) (a : Act) (w : World), TailFree n ops listed →
      (∀ j oj, ops[j]? = some oj → j ≠ i → listed.getD j true = false → (∀ e ∈ oj.after, Region.binds md e = true → e.on ≠ i) → oi.apart ops oj = true) →
      i ∈ Region.ready md ops listed → YieldsIf P ops S oi v a → S w →
      wpTR ro P md ops Q n T f S (listed.setIfInBounds i true) (a.put oi.dst v) w → wpTR ro P md ops Q n T (f + 1) S listed a w := by
  intro f
  induction f with
  | zero =>
    intro S listed a w ht _ hr hy hS H
    refine ⟨(fun h => (by rw [h] at hr; cases hr)), fun j hj => ?_⟩
    have hjn := head_only hd ht hin (mem_ready.1 hr).1 j hj
    refine ⟨hjn, ?_⟩
    by_cases hji : j = i
    · subst hji; exact wpOpR_yields hi hy hS ⟨S, fun _ h => h, hS, H⟩
    · have h1 := (mem_ready.1 hj).1
      rw [← getD_set_ne true (Ne.symm hji), H.1, getD_doneB hjn] at h1
      cases h1
  | succ f ih =>
    intro S listed a w ht hfree hr hy hS H
    refine ⟨(fun h => (by rw [h] at hr; cases hr)), fun j hj => ?_⟩
    have hjn := head_only hd ht hin (mem_ready.1 hr).1 j hj
    refine ⟨hjn, ?_⟩
    by_cases hji : j = i
    · subst hji; exact wpOpR_yields hi hy hS ⟨S, fun _ h => h, hS, H⟩
    · have h1 := (H.2 j (ready_mono hj hji)).2
      obtain ⟨hjun, oj, hoj, hall⟩ := mem_ready.1 hj
      have hnot : ∀ e ∈ oj.after, Region.binds md e = true → e.on ≠ i := fun e he hb heq => by
        have h2 := hall e he hb
        rw [heq] at h2
        exact getD_clash (mem_ready.1 hr).1 h2
      have h2 := wpOpR_putIf (S := S) hoj (hfree j oj hoj hji hjun hnot) (fun cs b => hsel i oi cs b hi) (fun cs b => hsel j oj cs b hoj) hQ hy h1
      refine wpOpR_mono (fun a' w' h3 => ?_) h2
      obtain ⟨hy', S', hSS, hS', hT⟩ := h3
      refine ⟨S', hSS, hS', ih S' (listed.setIfInBounds j true) a' w' (ht.set hjn) (fun k ok hk hki hun hno => ?_) (ready_mono hr (Ne.symm hji)) (YieldsIf.weaken hy' hSS) hS' ?_⟩
      · refine hfree k ok hk hki ?_ hno
        by_cases hjk : j = k
        · subst hjk; exact hjun
        · rw [getD_set_ne true hjk] at hun; exact hun
      · rw [Array.setIfInBounds_comm _ _ hji]; exact hT


/-- Take number i first: it yields v in every world that meets S. -/
theorem wpTR_take {rest : List Oper} {n i f : Nat} {S : World → Prop} {T : Act → World → Prop} {oi : Oper} {v : Value} {listed : Array Bool} {a : Act} {w : World} (hi' : ops.toList.drop i = oi :: rest) (hb : takeB md ops n i listed = true)
    (hQ : ∀ c a w, Q (.panic c) (a.put oi.dst v) w → Q (.panic c) a w) (hS : S w) (hy : YieldsIf P ops S oi v a)
    (h : wpTR ro P md ops Q n T f S (listed.setIfInBounds i true) (a.put oi.dst v) w) : wpTR ro P md ops Q n T (f + 1) S listed a w := by
  have hi := getElem?_of_drop hi'
  simp only [takeB, Bool.and_eq_true, decide_eq_true_eq] at hb
  obtain ⟨⟨⟨⟨⟨h1, h2⟩, h3⟩, h4⟩, h5⟩, h6⟩ := hb
  exact wpTR_first hi (Region.noSelect_spec h1) hQ h5 h4 f S listed a w (tailFreeB_spec h6) (Region.free_spec hi h2) (by simpa using h3) hy hS h


theorem wpAnyR_of_wpTR {n : Nat} (hseq : Region.seqB md ops (ops.toList.drop n).length n (doneB n ops.size) = true) :
    ∀ (f : Nat) (S : World → Prop) (listed : Array Bool) (a : Act) (w : World), wpTR ro P md ops Q n (wpListR ro P ops Q (ops.toList.drop n)) f S listed a w → wpAnyR ro P md ops Q (f + (ops.toList.drop n).length) listed a w
  | 0, _, listed, a, w, h => by
    obtain ⟨rfl, h⟩ := h
    rw [Nat.zero_add]
    exact wpAnyR_of_seq _ n _ a w (fun j => by simp) hseq h
  | f + 1, S, listed, a, w, h => by
    rw [show f + 1 + (ops.toList.drop n).length = (f + (ops.toList.drop n).length) + 1 by omega]
    refine ⟨fun h0 => absurd h0 h.1, fun i hi => wpOpR_mono (fun a' w' h' => ?_) (h.2 i hi).2⟩
    obtain ⟨S', _, _, h'⟩ := h'
    exact wpAnyR_of_wpTR hseq f S' _ a' w' h'

end

structure RY (P : Program) (B : Base) (n : Nat) (ro : Option Nat) (ops : Array Oper) (m : Nat) (Φ : PostD) (ds : List Deferred) (k : Nat) (S : List Assn) (listed : Array Bool) (f : Fr) (l : List Assn) : Prop where
  run : ∀ Q w, FitsD B n Φ Q → Own B w l → wpTR ro P .any ops Q m (wpListIn (fen ro) 0 P ops Q (ops.toList.drop m)) k (fun u => Own B u S) listed (aD n f ds) w
structure RJ (P : Program) (B : Base) (n : Nat) (ro : Option Nat) (ops : Array Oper) (m : Nat) (Φ : PostD) (ds : List Deferred) (k : Nat) (S : List Assn) (listed : Array Bool) (f : Fr) (l : List Assn) (i : Nat) : Prop where
  run : ∀ Q w, FitsD B n Φ Q → Own B w l → wpOpR ro P ops Q i (fun a' w' => ∃ S' : World → Prop, (∀ u, S' u → Own B u S) ∧ S' w' ∧ wpTR ro P .any ops Q m (wpListIn (fen ro) 0 P ops Q (ops.toList.drop m)) k S' (listed.setIfInBounds i true) a' w') (aD n f ds) w
section
variable {P : Program} {B : Base} {n : Nat} {ro : Option Nat} {ops : Array Oper} {rest : List Oper} {o : Oper} {Φ : PostD} {ds : List Deferred} {f : Fr} {l : List Assn}
theorem wpTR_mono {Q : Exit → Act → World → Prop} {m : Nat} {T1 T2 : Act → World → Prop} (h : ∀ a w, T1 a w → T2 a w) : ∀ (k : Nat) (S : World → Prop) (listed : Array Bool) (a : Act) (w : World), wpTR ro P .any ops Q m T1 k S listed a w → wpTR ro P .any ops Q m T2 k S listed a w
  | 0, _, _, a, w, hh => ⟨hh.1, h a w hh.2⟩
  | k + 1, S, listed, a, w, hh => ⟨hh.1, fun i hi => ⟨(hh.2 i hi).1, wpOpR_mono (fun a' w' ⟨S', h1, h2, h3⟩ => ⟨S', h1, h2, wpTR_mono h k S' _ a' w' h3⟩) (hh.2 i hi).2⟩⟩
theorem TI.drawY {id : Nat} {ol : List Oper} (m : Nat) (S : List Assn) (hm : P.follows .mixedOrders = true) (hn : m ≤ ol.length) (hseq : Region.seqB .any ol.toArray (ol.drop m).length m (doneB m ol.length) = true)
    (hd : noDefs ol = true) (h : RY P B n ro ol.toArray m Φ ds m S (Array.replicate ol.length false) f l) : TI P B n ro (.region id ol.toArray true) Φ ds f l := ⟨fun Q w hf ho => by
  have h1 := wpTR_mono (wpListR_of _ (fun o ho => List.all_eq_true.1 hd o (List.mem_of_mem_drop ho))) _ _ _ _ _ (h.run Q _ hf ho.drew)
  have h2 := wpAnyR_of_wpTR (ro := ro) (P := P) (md := .any) (ops := ol.toArray) (Q := Q) (n := m) (by simpa using hseq) m _ (Array.replicate ol.length false) _ _ h1
  have e : m + (ol.toArray.toList.drop m).length = ol.toArray.size := by simp; omega
  rw [e] at h2
  refine wpIn_region_draw fun t => ?_
  simp only [Region.schedule, hm, Bool.true_or, if_true]
  refine wpOpsR_in (noDefs_spec hd) _ _ _ (wpAnyR_sound _ t _ _ _ ?_)
  simpa using h2⟩
variable {m k : Nat} {S : List Assn} {listed : Array Bool}
theorem RY.take {rest' : List Oper} {v : Value} (i : Nat) (hi : ops.toList.drop i = o :: rest') (hw : want n ops f o = true) (hb : takeB .any ops m i listed = true) (hs : Sub l S) (hq : Qt P B n S o f v)
    (h : RY P B n ro ops m Φ ds k S (listed.setIfInBounds i true) (putd f o.dst v) l) : RY P B n ro ops m Φ ds (k + 1) S listed f l := ⟨fun Q w hf ho => by
  refine wpTR_take hi hb (fun c a w => hf.pk c a o.dst v w) (ho.map hs) (.inl ⟨by rw [want_aD, hw], fun w' ho' => by rw [eval_aD]; exact hq.run w' ho'⟩) ?_
  rw [put_aD]
  exact h.run Q w hf ho⟩
theorem RY.skip {rest' : List Oper} (i : Nat) (hi : ops.toList.drop i = o :: rest') (hw : want n ops f o = false) (hb : takeB .any ops m i listed = true) (hs : Sub l S)
    (h : RY P B n ro ops m Φ ds k S (listed.setIfInBounds i true) (putd f o.dst undef) l) : RY P B n ro ops m Φ ds (k + 1) S listed f l := ⟨fun Q w hf ho => by
  refine wpTR_take hi hb (fun c a w => hf.pk c a o.dst undef w) (ho.map hs) (.inr ⟨by rw [want_aD, hw], rfl⟩) ?_
  rw [put_aD]
  exact h.run Q w hf ho⟩
section named
variable {t : Tmp} {op : Op} {ty : TypeId} {pos : String} {af : Array Edge} {gd : Option (Nat × Bool)} {rest' : List Oper} {v : Value}
theorem RY.q (i : Nat) (hi : ops.toList.drop i = ⟨some t, op, ty, pos, af, gd⟩ :: rest') (hw : want n ops f ⟨some t, op, ty, pos, af, gd⟩ = true) (hb : takeB .any ops m i listed = true) (hs : Sub l S) (hq : Qt P B n S ⟨some t, op, ty, pos, af, gd⟩ f v)
    (h : RY P B n ro ops m Φ ds k S (listed.setIfInBounds i true) (upd f t v) l) : RY P B n ro ops m Φ ds (k + 1) S listed f l := RY.take i hi hw hb hs hq h
theorem RY.s (i : Nat) (hi : ops.toList.drop i = ⟨some t, op, ty, pos, af, gd⟩ :: rest') (hw : want n ops f ⟨some t, op, ty, pos, af, gd⟩ = false) (hb : takeB .any ops m i listed = true) (hs : Sub l S)
    (h : RY P B n ro ops m Φ ds k S (listed.setIfInBounds i true) (upd f t undef) l) : RY P B n ro ops m Φ ds (k + 1) S listed f l := RY.skip i hi hw hb hs h
end named
theorem RY.all (is : List Nat) (hb : (decide (Region.ready .any ops listed = is) && !is.isEmpty && is.all (fun i => decide (i < m))) = true) (h : ∀ i ∈ is, RJ P B n ro ops m Φ ds k S listed f l i) : RY P B n ro ops m Φ ds (k + 1) S listed f l := ⟨fun Q w hf ho => by
  simp only [Bool.and_eq_true, decide_eq_true_eq, List.all_eq_true] at hb
  obtain ⟨⟨h1, h2⟩, h3⟩ := hb
  refine ⟨(fun e => by rw [h1] at e; rw [e] at h2; simp at h2), fun i hi => ?_⟩
  rw [h1] at hi
  exact ⟨h3 i hi, (h i hi).run Q w hf ho⟩⟩
theorem RY.one (i : Nat) (hb : (decide (Region.ready .any ops listed = [i]) && decide (i < m)) = true) (h : RJ P B n ro ops m Φ ds k S listed f l i) : RY P B n ro ops m Φ ds (k + 1) S listed f l := by
  simp only [Bool.and_eq_true, decide_eq_true_eq] at hb
  refine RY.all [i] ?_ (List.forall_mem_cons.2 ⟨h, List.forall_mem_nil _⟩)
  simp [hb.1, hb.2]
theorem RJ.act {rest' : List Oper} {i : Nat} (hi : ops.toList.drop i = o :: rest') (hw : wantD n ops f o = true)
    (he : Ey P B n ro o f l fun v l' => Sub l' S ∧ RY P B n ro ops m Φ ds k l' (listed.setIfInBounds i true) (putd f o.dst v) l') : RJ P B n ro ops m Φ ds k S listed f l i := ⟨fun Q w hf ho => by
  have hi' := getElem?_of_drop hi
  unfold wpOpR
  simp only [hi']
  rw [want_aD, if_pos (wantD_spec hw).2]
  refine (wpIn_wpR (wantD_spec hw).1).1 (he.run ds w _ Q ho fun v w' l' hK ho' => ?_)
  rw [put_aD]
  exact ⟨fun u => Own B u l', fun u hu => hu.map hK.1, ho', hK.2.run Q w' hf ho'⟩⟩
theorem RJ.actS {rest' : List Oper} {i : Nat} (hi : ops.toList.drop i = o :: rest') (hw : wantD n ops f o = true)
    (he : Ey P B n ro o f l fun v l' => Sub l' S ∧ RY P B n ro ops m Φ ds k S (listed.setIfInBounds i true) (putd f o.dst v) l') : RJ P B n ro ops m Φ ds k S listed f l i := ⟨fun Q w hf ho => by
  have hi' := getElem?_of_drop hi
  unfold wpOpR
  simp only [hi']
  rw [want_aD, if_pos (wantD_spec hw).2]
  refine (wpIn_wpR (wantD_spec hw).1).1 (he.run ds w _ Q ho fun v w' l' hK ho' => ?_)
  rw [put_aD]
  exact ⟨fun u => Own B u S, fun u hu => hu, ho'.map hK.1, hK.2.run Q w' hf ho'⟩⟩
section named
variable {t : Tmp} {op : Op} {ty : TypeId} {pos : String} {af : Array Edge} {gd : Option (Nat × Bool)} {rest' : List Oper} {i : Nat}
theorem RJ.e (hi : ops.toList.drop i = ⟨some t, op, ty, pos, af, gd⟩ :: rest') (hw : wantD n ops f ⟨some t, op, ty, pos, af, gd⟩ = true)
    (he : Ef P B n ⟨some t, op, ty, pos, af, gd⟩ f l fun v l' => Sub l' S ∧ RY P B n ro ops m Φ ds k l' (listed.setIfInBounds i true) (upd f t v) l') : RJ P B n ro ops m Φ ds k S listed f l i := RJ.act hi hw (Ey.of (wantD_spec hw).1 he)
theorem RJ.e0 (hi : ops.toList.drop i = ⟨none, op, ty, pos, af, gd⟩ :: rest') (hw : wantD n ops f ⟨none, op, ty, pos, af, gd⟩ = true)
    (he : Ef P B n ⟨none, op, ty, pos, af, gd⟩ f l fun _ l' => Sub l' S ∧ RY P B n ro ops m Φ ds k l' (listed.setIfInBounds i true) f l') : RJ P B n ro ops m Φ ds k S listed f l i := RJ.act hi hw (Ey.of (wantD_spec hw).1 he)
theorem RJ.eS (hi : ops.toList.drop i = ⟨some t, op, ty, pos, af, gd⟩ :: rest') (hw : wantD n ops f ⟨some t, op, ty, pos, af, gd⟩ = true)
    (he : Ef P B n ⟨some t, op, ty, pos, af, gd⟩ f l fun v l' => Sub l' S ∧ RY P B n ro ops m Φ ds k S (listed.setIfInBounds i true) (upd f t v) l') : RJ P B n ro ops m Φ ds k S listed f l i := RJ.actS hi hw (Ey.of (wantD_spec hw).1 he)
theorem RJ.eS0 (hi : ops.toList.drop i = ⟨none, op, ty, pos, af, gd⟩ :: rest') (hw : wantD n ops f ⟨none, op, ty, pos, af, gd⟩ = true)
    (he : Ef P B n ⟨none, op, ty, pos, af, gd⟩ f l fun _ l' => Sub l' S ∧ RY P B n ro ops m Φ ds k S (listed.setIfInBounds i true) f l') : RJ P B n ro ops m Φ ds k S listed f l i := RJ.actS hi hw (Ey.of (wantD_spec hw).1 he)
theorem RJ.y (hi : ops.toList.drop i = ⟨some t, op, ty, pos, af, gd⟩ :: rest') (hw : wantD n ops f ⟨some t, op, ty, pos, af, gd⟩ = true)
    (he : Ey P B n ro ⟨some t, op, ty, pos, af, gd⟩ f l fun v l' => Sub l' S ∧ RY P B n ro ops m Φ ds k l' (listed.setIfInBounds i true) (upd f t v) l') : RJ P B n ro ops m Φ ds k S listed f l i := RJ.act hi hw he
theorem RJ.yS (hi : ops.toList.drop i = ⟨some t, op, ty, pos, af, gd⟩ :: rest') (hw : wantD n ops f ⟨some t, op, ty, pos, af, gd⟩ = true)
    (he : Ey P B n ro ⟨some t, op, ty, pos, af, gd⟩ f l fun v l' => Sub l' S ∧ RY P B n ro ops m Φ ds k S (listed.setIfInBounds i true) (upd f t v) l') : RJ P B n ro ops m Φ ds k S listed f l i := RJ.actS hi hw he
end named
theorem RY.done (hb : listed = doneB m ops.size) (h : LI P B n ro ops (ops.toList.drop m) Φ ds f l) : RY P B n ro ops m Φ ds 0 S listed f l := ⟨fun Q w hf ho => ⟨hb, h.run Q w hf ho⟩⟩
theorem RY.split {t : Nat} {b : Bool} (hb : f t = some (.bool b)) (h1 : b = true → RY P B n ro ops m Φ ds k S listed (upd f t (.bool true)) l) (h2 : b = false → RY P B n ro ops m Φ ds k S listed (upd f t (.bool false)) l) : RY P B n ro ops m Φ ds k S listed f l := by
  cases b with
  | true => have := h1 rfl; rwa [upd_self hb] at this
  | false => have := h2 rfl; rwa [upd_self hb] at this
theorem RY.gT {t : Nat} {b : Bool} (hb : f t = some (.bool b)) (h : b = true) (h1 : RY P B n ro ops m Φ ds k S listed (upd f t (.bool true)) l) : RY P B n ro ops m Φ ds k S listed f l := by subst h; rwa [upd_self hb] at h1
theorem RY.gF {t : Nat} {b : Bool} (hb : f t = some (.bool b)) (h : b = false) (h1 : RY P B n ro ops m Φ ds k S listed (upd f t (.bool false)) l) : RY P B n ro ops m Φ ds k S listed f l := by subst h; rwa [upd_self hb] at h1
theorem RY.own (h : ∀ w, Own B w l → RY P B n ro ops m Φ ds k S listed f l) : RY P B n ro ops m Φ ds k S listed f l := ⟨fun Q w hf ho => (h w ho).run Q w hf ho⟩
theorem RY.conv {l' : List Assn} (hc : ∀ w, Own B w l → Own B w l') (h : RY P B n ro ops m Φ ds k S listed f l') : RY P B n ro ops m Φ ds k S listed f l := ⟨fun Q w hf ho => h.run Q w hf (hc w ho)⟩

end
end Go.Proofs.Ytefognjcognknaa

/- A contract used where there is more. Conditions: none. -/
set_option linter.unusedSimpArgs false
set_option linter.unusedVariables false
namespace Go.Proofs.Ytefognjcognknaa
open Go.RowKit

/-- A contract used where there is more. -/
theorem Fn.wide {P : Program} {B : Base} {g : FuncId} {args : Array Value} {pre l F : List Assn} {R R' : Value → List Assn → Prop} (h : Fn P B g args pre R) [k : TakeL pre l F] (hr : ∀ v l', R v l' → ∃ l2, Sub (l' ++ F) l2 ∧ R' v l2) : Fn P B g args l R' := ⟨fun w F0 ho => by
  have ho' : Own B w (pre ++ (F ++ F0)) := ho.map fun hh H => by
    obtain ⟨h1, h2, d, a, b, e1, e2⟩ := Has.split H
    rw [← List.append_assoc]
    exact Has.join d a b (k.take _ e1) e2
  refine (h.run w (F ++ F0) ho').mono ?_
  rintro _ w' ⟨v, l', rfl, hR, ho2⟩
  obtain ⟨l2, hs, hR'⟩ := hr v l' hR
  refine ⟨v, l2, rfl, hR', ho2.map fun hh H => ?_⟩
  rw [← List.append_assoc] at H
  obtain ⟨h1, h2, d, a, b, e1, e2⟩ := Has.split H
  exact Has.join d a b (hs _ e1) e2⟩

end Go.Proofs.Ytefognjcognknaa
