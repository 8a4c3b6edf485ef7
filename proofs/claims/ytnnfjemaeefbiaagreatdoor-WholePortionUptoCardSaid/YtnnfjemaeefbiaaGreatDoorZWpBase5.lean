/- The texts SlX SlR SlS SlT SlU SlW, one behind the other: what the law leans on. Conditions: as each theorem says. -/
import Derived.Test.YtnnfjemaeefbiaaGreatDoorZWpBase4
import Derived.Lib.ConvBytes
import Derived.RangeFuncIn
import Derived.RangeFuncRecord
import Derived.RangeFuncLeaves
import Derived.RangeFuncSeq
import Derived.TacticsIn
set_option linter.unusedSimpArgs false
set_option linter.unusedVariables false
set_option maxRecDepth 100000
set_option maxHeartbeats 16000000
namespace Go.Proofs.YtnnfjemaeefbiaaGreatDoor
open Go.RowKit
section
variable {P : Program} {B:Wn} {n:Nat} {S l r:List Wp} {f:Fr} {K:Value->List Wp->Prop} {Φ:Post}
variable {d : Option Tmp} {ty:TypeId} {pos:String} {af:Array Edge} {gd:Option (Nat×Bool)}
def byteE (P:Program) (t e:TypeId):Bool:=(match P.underlying t with | some (.slice e')=>e' == e | _=>false) && isInt P e .u8
theorem byteE_spec {t e:TypeId} (h:byteE P t e=true):P.underlying t=some (.slice e)/\P.underlying e=some (.int .u8):=by
  unfold byteE at h
  rw [Bool.and_eq_true] at h
  obtain ⟨h1,h2⟩:=h
  constructor
  . split at h1
    . rename_i e' he;rw [he,beq_iff_eq.1 h1]
    . cases h1
  . unfold isInt at h2
    split at h2
    . rename_i k hk;simp at h2;subst h2;exact hk
    . cases h2
theorem Ef.bytes {s t e:TypeId} {x:Operand} {a:List UInt8} (hs:isStr P s=true) (ht:byteE P t e=true) (hx:ev n f x=some (.string (Zq a)))
    (h : ∀ g Z,K (.slice (some ⟨g,0,none⟩) a.length (a.length+Z.length)) (fblk g (Zb a++Z) e ((Zb a++Z).length,(Zb a++Z).length+1)::l)):Ef P B n ⟨d,.convert s t x,ty,pos,af,gd⟩ f l K:=⟨λ w next Q ho hk=>by
  obtain ⟨h1,h2⟩:=byteE_spec ht
  have hr:=Go.Lib.run_convert_string_bytes w s t e (Zq a) (isStr_spec hs) h1 h2
  have hsz:(Zq a).size=a.length:=size_strOf a
  have hge:=grownCap_ge w (Zq a).size 0 e
  obtain ⟨Z,hZ⟩ : ∃ Z:List Value,List.replicate (grownCap w (Zq a).size 0 e-(Zq a).size) (.int .u8 0)=Z:=⟨_,rfl⟩
  have hZl:Z.length=grownCap w (Zq a).size 0 e-(Zq a).size:=by rw [<-hZ];simp
  have hc:Go.Lib.bytesCells w e (Zq a)=(Zb a++Z).toArray:=by
    unfold Go.Lib.bytesCells
    apply Array.ext'
    rw [Array.toList_append,Array.toList_replicate,hZ]
    simp [Zb,Zq]
  have hcs:(Go.Lib.bytesCells w e (Zq a)).size=(Zb a++Z).length:=by rw [hc];simp
  unfold Oper.wp execOp
  simp only [Wk,Zc hx,Sem.run_bind,hr,Sem.run_pure,Result.andThen_ok]
  have hcap:grownCap w (Zq a).size 0 e=a.length+Z.length:=by omega
  rw [hcap,hsz]
  have hn:=Go.Lib.bytesWorld_at_new w e (Zq a)
  have ho':=Go.Lib.bytesWorld_at_old w e (Zq a)
  have hsize:=Go.Lib.bytesWorld_size w e (Zq a)
  refine hk _ _ _ (h w.heap.size Z) (ho.fresh ⟨?_,?_,?_,by omega,λ k hk' _=>ho' k hk',by first | exact Nat.le_refl _ | exact Nat.le_succ _⟩ (λ p hp=>?_))
  . rfl
  . rfl
  . rfl
  . unfold fblk
    rw [hp _ (Nat.le_refl _),hn,hcs,hc]⟩
end
open Go.RowKit
def fen (ro:Option Nat):Fence:={Fence.wide with round:=ro}
theorem calls_fen {P:Program} {f:FuncId} {args:Array Value} {w:World} {R:Ending->World->Prop} (ro:Option Nat) (n:Nat) (h:Calls P f args w R):CallsIn (fen ro) n P f args w R:=(callsIn_wide (n:=n)).2 h
theorem rows_fen {P:Program} {row:String} {args:Array Value} {w:World} {R:Value->World->Prop} (ro:Option Nat) (n:Nat) (h:Rows P row args w R):RowsIn (fen ro) n P row args w R:=λ c cs _=>by
  obtain ⟨v,w',r,s⟩:=h c cs
  exact ⟨v,w',r,(stepsIn_wide (P:=P)).2 s⟩
theorem depth_fen (ro:Option Nat) (n:Nat):(fen ro).depth.isSome=true->1<=n:=λ h=>by simp [fen,Fence.wide] at h
def aD (n:Nat) (f:Fr) (ds:List Deferred):Act:=⟨tm n f,ds⟩
def Act.more (a:Act) (ds:List Deferred):Act:=⟨a.tmps,a.defers++ds⟩
theorem more_act (n:Nat) (f:Fr) (ds:List Deferred):Act.more (act n f) ds=aD n f ds:=rfl
theorem more_eval (a:Act) (ds:List Deferred):(Act.more a ds).eval=a.eval:=by funext x;cases x <;> rfl
theorem more_put (a:Act) (ds:List Deferred) (d:Option Nat) (v:Value):(Act.more a ds).put d v=Act.more (a.put d v) ds:=by cases d <;> rfl
theorem eval_aD (n:Nat) (f:Fr) (ds:List Deferred):(aD n f ds).eval=evu n f:=by rw [<-more_act,more_eval,Wk]
theorem put_aD (n:Nat) (f:Fr) (ds:List Deferred) (d:Option Nat) (v:Value):(aD n f ds).put d v=aD n (putd f d v) ds:=by rw [<-more_act,more_put,put_act,more_act]
def noDef (o:Oper):Bool:=match o.op with | .defer _=>false | _=>true
theorem noDef_spec {o:Oper} (h:noDef o=true) : ∀ c,o.op ≠ .defer c:=λ c e=>by unfold noDef at h;rw [e] at h;cases h
section
variable {P : Program} {o:Oper} {a:Act} {w:World} {next next':Act->World->Prop} {Q Q':Exit->Act->World->Prop}
theorem op_fen (ro:Option Nat) (ds:List Deferred) (hd:noDef o=true) (hn : ∀ a w,next a w->next' (Act.more a ds) w) (hq : ∀ e a w,Q' e a w->e ≠ .outgrown/\Q e (Act.more a ds) w) (h:o.wp P a w next Q'):o.wpIn (fen ro) 0 P (Act.more a ds) w next' Q:=by
  refine ⟨λ _ _=>trivial,?_⟩
  rw [Oper.semAt_eq _ _ _ (noDef_spec hd),more_eval]
  unfold Oper.wp at h
  generalize (execOp a.eval o).run P w=r at h ⊢
  cases r with
  | ok x w' =>
    cases x <;> simp only [Oper.upon,Oper.uponIn] at h ⊢
    case value v=>rw [more_put];exact hn _ _ h
    case skip=>rw [more_put];exact hn _ _ h
    case defer d =>
      have e:({ (Act.more a ds) with defers:=d::(Act.more a ds).defers}.put o.dst undef)=Act.more ({a with defers:=d::a.defers}.put o.dst undef) ds:=by cases o.dst <;> rfl
      rw [e];exact hn _ _ h
    case enter f args =>
      refine ⟨depth_fen ro 0,calls_fen ro _ (Calls.mono h ?_)⟩
      intro e w'' k
      cases e with
      | returned v=>show next' ((Act.more a ds).put o.dst v) w'';rw [more_put];exact hn _ _ k
      | panicked c=>exact (hq _ _ _ k).2
      | outgrown=>obtain ⟨a0,w0,k⟩:=k;exact absurd rfl (hq _ _ _ k).1
    case row row args =>
      refine ⟨depth_fen ro 0,rows_fen ro _ (Rows.mono h ?_)⟩
      intro v w'' k
      rw [more_put];exact hn _ _ k
  | halt x w' =>
    cases x <;> simp only [Oper.upon,Oper.uponIn] at h ⊢
    exact (hq _ _ _ h).2
theorem ops_fen {ops:Array Oper} (ro:Option Nat) (ds:List Deferred) (hd : ∀ (i:Nat) (o:Oper),ops[i]? = some o->noDef o=true) (hq : ∀ e a w,Q' e a w->e ≠ .outgrown/\Q e (Act.more a ds) w) : ∀ is a w,wpOps P ops Q' is a w->wpOpsIn (fen ro) 0 P ops Q is (Act.more a ds) w
  | [],a,w,h=>(hq _ _ _ h).2
  | i::is,a,w,h=>by
    simp only [wpOps] at h
    simp only [wpOpsIn]
    cases ho:ops[i]? with
    | none=>rw [ho] at h;exact ops_fen ro ds hd hq is a w h
    | some o =>
      rw [ho] at h
      simp only at h ⊢
      have e:yielded ops (Act.more a ds).tmps=yielded ops a.tmps:=rfl
      rw [e]
      split
      . rename_i hw
        rw [if_pos hw] at h
        rcases h with h | ⟨_,a0,w0,k⟩
        . exact op_fen ro ds (hd i o ho) (λ a w k=>ops_fen ro ds hd hq is a w k) hq h
        . exact absurd rfl (hq _ _ _ k).1
      . rename_i hw
        rw [if_neg hw] at h
        refine ⟨λ _ _=>trivial,?_⟩
        rw [more_put]
        exact ops_fen ro ds hd hq is _ w h
end
abbrev PostD := Exit->List Deferred->Fr->List Wp->Prop
structure FitsD (B:Wn) (n:Nat) (Φ:PostD) (Q:Exit->Act->World->Prop):Prop where
  go : ∀ e ds f w l,Φ e ds f l->Own B w l->Q e (aD n f ds) w
  pk:PanicKeeps Q
structure TI (P:Program) (B:Wn) (n:Nat) (ro:Option Nat) (c:Code) (Φ:PostD) (ds:List Deferred) (f:Fr) (l:List Wp):Prop where
  run : ∀ Q w,FitsD B n Φ Q->Own B w l->c.wpIn (fen ro) 0 P Q (aD n f ds) w
structure LI (P:Program) (B:Wn) (n:Nat) (ro:Option Nat) (ops:Array Oper) (rest:List Oper) (Φ:PostD) (ds:List Deferred) (f:Fr) (l:List Wp):Prop where
  run : ∀ Q w,FitsD B n Φ Q->Own B w l->wpListIn (fen ro) 0 P ops Q rest (aD n f ds) w
structure Ey (P:Program) (B:Wn) (n:Nat) (ro:Option Nat) (o:Oper) (f:Fr) (l:List Wp) (K:Value->List Wp->Prop):Prop where
  run : ∀ ds w next Q,Own B w l->(∀ v w' l',K v l'->Own B w' l'->next ((aD n f ds).put o.dst v) w')->o.wpIn (fen ro) 0 P (aD n f ds) w next Q
def regP (Φ:PostD) (ds:List Deferred):Post
  | .outgrown,_,_=>False
  | e,f,l=>Φ e ds f l
def thenI (K:List Deferred->Fr->List Wp->Prop) (Φ:PostD):PostD
  | .normal,ds,f,l=>K ds f l
  | e,ds,f,l=>Φ e ds f l
def blockI (id:Nat) (Φ:PostD):PostD
  | .exit id',ds,f,l=>bif Nat.beq id' id then Φ .normal ds f l else Φ (.exit id') ds f l
  | e,ds,f,l=>Φ e ds f l
def noDefs (ol:List Oper):Bool:=ol.all noDef
theorem noDefs_spec {ol:List Oper} (h:noDefs ol=true) : ∀ (i:Nat) (o:Oper),ol.toArray[i]? = some o->noDef o=true:=λ i o e=>by
  refine List.all_eq_true.1 h o ?_
  rw [List.getElem?_toArray] at e
  exact List.mem_of_getElem? e
section
variable {P : Program} {B:Wn} {n:Nat} {ro:Option Nat} {ops:Array Oper} {rest:List Oper} {o:Oper} {Φ:PostD} {ds:List Deferred} {f:Fr} {l:List Wp}
def shiftQ (Q:Exit->Act->World->Prop) (ds:List Deferred) (e:Exit) (a:Act) (w:World):Prop:=e ≠ .outgrown/\Q e (Act.more a ds) w
theorem FitsD.shift {Q:Exit->Act->World->Prop} (hf:FitsD B n Φ Q) (ds:List Deferred):Fits B n (regP Φ ds) (shiftQ Q ds):=⟨λ e f w l k ho=>by
  cases e with
  | outgrown=>exact k.elim
  | _=>exact ⟨(by simp),hf.go _ ds f w l k ho⟩,λ c a d v w k=>⟨by simp,hf.pk c _ d v w (by rw [more_put];exact k.2)⟩⟩
theorem TI.own {c:Code} (h : ∀ w,Own B w l->TI P B n ro c Φ ds f l):TI P B n ro c Φ ds f l:=⟨λ Q w hf ho=>(h w ho).run Q w hf ho⟩
theorem TI.conv {c:Code} {l':List Wp} (hc : ∀ w,Own B w l->Own B w l') (h:TI P B n ro c Φ ds f l'):TI P B n ro c Φ ds f l:=⟨λ Q w hf ho=>h.run Q w hf (hc w ho)⟩
theorem TI.ex {c:Code} {α:Type} {l':α->List Wp} (h : ∀ w,Own B w l -> ∃ x,Own B w (l' x)) (k : ∀ x,TI P B n ro c Φ ds f (l' x)):TI P B n ro c Φ ds f l:=⟨λ Q w hf ho=>by
  obtain ⟨x,hx⟩:=h w ho
  exact (k x).run Q w hf hx⟩
theorem TI.skip (h:Φ .normal ds f l):TI P B n ro .skip Φ ds f l:=⟨λ _ w hf ho=>wpIn_skip (hf.go _ _ _ w _ h ho)⟩
theorem TI.ret (h:Φ .ret ds f l):TI P B n ro .ret Φ ds f l:=⟨λ _ w hf ho=>wpIn_ret (hf.go _ _ _ w _ h ho)⟩
theorem TI.exit {id:Nat} (h:Φ (.exit id) ds f l):TI P B n ro (.exit id) Φ ds f l:=⟨λ _ w hf ho=>wpIn_exit (hf.go _ _ _ w _ h ho)⟩
theorem TI.seq {x y:Code} (h:TI P B n ro x (thenI (λ ds' f' l'=>TI P B n ro y Φ ds' f' l') Φ) ds f l):TI P B n ro (.seq x y) Φ ds f l:=⟨λ Q w hf ho=>by
  refine wpIn_seq (h.run _ w ⟨λ e ds' f' w' l' k ho'=>?_,λ c a d v w' k=>?_⟩ ho)
  . cases e with
    | normal=>exact (show TI P B n ro y Φ ds' f' l' from k).run Q w' hf ho'
    | _=>exact hf.go _ _ _ w' l' k ho'
  . exact hf.pk c a d v w' k⟩
theorem TI.cut {x y:Code} (M:Fr->List Wp->Prop) (h1:TI P B n ro x (thenI (λ ds' f' l'=>ds'=ds /\ ∃ l'',M f' l''/\Sub l' l'') Φ) ds f l) (h2 : ∀ f l,M f l->TI P B n ro y Φ ds f l):TI P B n ro (.seq x y) Φ ds f l:=by
  refine TI.seq ⟨λ Q w hf ho=>h1.run Q w ⟨λ e ds' f' w' l' k ho'=>?_,hf.pk⟩ ho⟩
  cases e with
  | normal =>
    obtain ⟨rfl,l'',hM,hs⟩:=k
    exact hf.go .normal _ f' w' l'' (h2 f' l'' hM) (ho'.map hs)
  | _=>exact hf.go _ _ _ w' l' k ho'
theorem TI.block {id:Nat} {c:Code} (h:TI P B n ro c (blockI id Φ) ds f l):TI P B n ro (.block id c) Φ ds f l:=⟨λ Q w hf ho=>by
  refine wpIn_block (h.run _ w ⟨λ e ds' f' w' l' k ho'=>?_,λ c a d v w' k=>?_⟩ ho)
  . cases e with
    | exit id' =>
      simp only [blockI,Exit.inBlock] at k ⊢
      by_cases hid:id'=id
      . subst hid;simp only [Nat.beq_refl,cond_true] at k;rw [if_pos rfl];exact hf.go _ _ _ w' l' k ho'
      . have hb:Nat.beq id' id=false:=by
          cases hb:Nat.beq id' id with
          | false=>rfl
          | true=>exact absurd (Nat.eq_of_beq_eq_true hb) hid
        rw [hb] at k;rw [if_neg hid];exact hf.go _ _ _ w' l' k ho'
    | _=>exact hf.go _ _ _ w' l' k ho'
  . exact hf.pk c a d v w' k⟩
theorem TI.cond {c:Operand} {x y:Code} {b:Bool} (hb:ev n f c=some (.bool b)) (h1:b=true->TI P B n ro x Φ ds f l) (h2:b=false->TI P B n ro y Φ ds f l):TI P B n ro (.cond c x y) Φ ds f l:=⟨λ Q w hf ho=>by
  refine wpIn_cond (t:=b) (by rw [eval_aD,Zc hb]) ?_
  cases b with
  | true=>exact (h1 rfl).run Q w hf ho
  | false=>exact (h2 rfl).run Q w hf ho⟩
theorem TI.condP {c:Operand} {x y:Code} {p:Prop} [i:Decidable p] (hb:ev n f c=some (.bool (decide p))) (h1:p->TI P B n ro x Φ ds f l) (h2 : ¬ p->TI P B n ro y Φ ds f l):TI P B n ro (.cond c x y) Φ ds f l :=
  TI.cond hb (λ h=>h1 (of_decide_eq_true h)) (λ h=>h2 (of_decide_eq_false h))
theorem TI.condT {c:Operand} {x y:Code} (hb:ev n f c=some (.bool true)) (h:TI P B n ro x Φ ds f l):TI P B n ro (.cond c x y) Φ ds f l:=TI.cond hb (λ _=>h) (λ h=>by cases h)
theorem TI.condF {c:Operand} {x y:Code} (hb:ev n f c=some (.bool false)) (h:TI P B n ro y Φ ds f l):TI P B n ro (.cond c x y) Φ ds f l:=TI.cond hb (λ h=>by cases h) (λ _=>h)
theorem TI.condPT {c:Operand} {x y:Code} {p:Prop} [i:Decidable p] (hb:ev n f c=some (.bool (decide p))) (hp:p) (h1:TI P B n ro x Φ ds f l):TI P B n ro (.cond c x y) Φ ds f l:=TI.condP hb (λ _=>h1) (λ h=>absurd hp h)
theorem TI.condPF {c:Operand} {x y:Code} {p:Prop} [i:Decidable p] (hb:ev n f c=some (.bool (decide p))) (hp : ¬ p) (h1:TI P B n ro y Φ ds f l):TI P B n ro (.cond c x y) Φ ds f l:=TI.condP hb (λ h=>absurd h hp) (λ _=>h1)
theorem TI.condBF {c:Operand} {x y:Code} {b:Bool} (hb:ev n f c=some (.bool b)) (h:b=false) (h1:TI P B n ro y Φ ds f l):TI P B n ro (.cond c x y) Φ ds f l:=TI.cond hb (λ e=>by rw [e] at h;cases h) (λ _=>h1)
theorem TI.imp {c:Code} {Φ':PostD} (hi : ∀ e ds f l,Φ' e ds f l->Φ e ds f l) (h:TI P B n ro c Φ' ds f l):TI P B n ro c Φ ds f l:=⟨λ Q w hf ho=>h.run Q w ⟨λ e ds' f' w' l' k=>hf.go e ds' f' w' l' (hi _ _ _ _ k),hf.pk⟩ ho⟩
theorem TI.region {id:Nat} {ol:List Oper} (hd:noDefs ol=true) (h:LW P B n ol.toArray ol (regP Φ ds) f l):TI P B n ro (.region id ol.toArray false) Φ ds f l:=⟨λ Q w hf ho=>by
  have h1:=h.run (shiftQ Q ds) w (hf.shift ds) ho
  rw [<-wpOps_eq_wpList ol 0 (by simp)] at h1
  refine wpIn_region ?_
  rw [List.range_eq_range',List.size_toArray]
  exact ops_fen ro ds (noDefs_spec hd) (λ _ _ _ k=>k) _ _ _ h1⟩
theorem TI.draw {id:Nat} {ol:List Oper} (m:Nat) (S:List Wp) (hm:P.follows .mixedOrders=true) (hn:m<=ol.length) (hseq:Region.seqB .any ol.toArray (ol.drop m).length m (doneB m ol.length)=true)
    (hd:noDefs ol=true) (h:RW P B n ol.toArray m (regP Φ ds) m S (Array.replicate ol.length false) f l):TI P B n ro (.region id ol.toArray true) Φ ds f l:=⟨λ Q w hf ho=>by
  have h1:=h.run (shiftQ Q ds) _ (Closed.none _) (hf.shift ds) ho.drew
  have h2:=wpAny_of_wpU (P:=P) (md := .any) (ops:=ol.toArray) (Q:=shiftQ Q ds) (n:=m) (by simpa using hseq) m _ (Array.replicate ol.length false) _ _ h1
  have e:m+(ol.toArray.toList.drop m).length=ol.toArray.size:=by simp;omega
  rw [e] at h2
  refine wpIn_region_draw λ t=>?_
  simp only [Region.schedule,hm,Bool.true_or,if_true]
  refine ops_fen (Q':=shiftQ Q ds) (a:=act n f) ro ds (noDefs_spec hd) (λ _ _ _ k=>k) _ _ (wpAny_sound _ t _ _ _ ?_)
  simpa using h2⟩
theorem TI.drawAll {id:Nat} {ol:List Oper} (m:Nat) (hm:P.follows .mixedOrders=true) (hn:m<=ol.length) (hseq:Region.seqB .any ol.toArray (ol.drop m).length m (doneB m ol.length)=true)
    (hd:noDefs ol=true) (h:RW P B n ol.toArray m (regP Φ ds) m l (Array.replicate ol.length false) f l):TI P B n ro (.region id ol.toArray true) Φ ds f l:=TI.draw m l hm hn hseq hd h
theorem TI.drawBl {id:Nat} {ol:List Oper} (m:Nat) (g:Option Nat) {S:List Wp} [k:Bl g l S] (hm:P.follows .mixedOrders=true) (hn:m<=ol.length) (hseq:Region.seqB .any ol.toArray (ol.drop m).length m (doneB m ol.length)=true)
    (hd:noDefs ol=true) (h:RW P B n ol.toArray m (regP Φ ds) m S (Array.replicate ol.length false) f l):TI P B n ro (.region id ol.toArray true) Φ ds f l:=TI.draw m S hm hn hseq hd h
theorem TI.loop {c:Code} (I:Nat->Fr->List Wp->Prop) (h0 : ∃ m l',I m f l'/\Sub l l') (round : ∀ m f l,I m f l->TI P B n ro c (thenI (λ ds' f' l'=>ds'=ds /\ ∃ m',m'<m /\ ∃ l'',I m' f' l''/\Sub l' l'') Φ) ds f l):TI P B n ro (.loop c) Φ ds f l:=⟨λ Q w hf ho=>by
  obtain ⟨m,l0,hm,hs0⟩:=h0
  replace ho:=ho.map hs0
  intro b k cs hro hb hr
  have key : ∀ m f w l,I m f l->Own B w l -> ∃ e a' w',Q e a' w'/\ArrivesIn (Machine.fenced P (fen ro)) P (lone (b.atR (aD n f ds) (.code c :: .inLoop c::k)) cs w) b k cs e a' w':=by
    intro m
    induction m using Nat.strongRecOn with
    | _ m ih =>
      intro f w l hI ho
      obtain ⟨e,a₁,w₁,hq,harr⟩:=(round m f l hI).run (Exit.then (λ a' w' => ∃ m' f' l',m'<m/\I m' f' l'/\Own B w' l'/\a'=aD n f' ds) Q) w
        ⟨λ e ds' f' w' l' k ho'=>by
          cases e with
          | normal=>obtain ⟨rfl,m',h1,l'',h2,h3⟩:=k;exact ⟨m',f',l'',h1,h2,ho'.map h3,rfl⟩
          | _=>exact hf.go _ _ _ w' l' k ho',λ c a d v w' k=>hf.pk c a d v w' k⟩ ho b (.inLoop c::k) cs hro hb hr
      cases e with
      | normal =>
        obtain ⟨m',f',l',h1,h2,h3,rfl⟩:=hq
        obtain ⟨e₂,a₂,w₂,hq₂,harr₂⟩:=ih m' h1 f' w₁ l' h2 h3
        exact ⟨e₂,a₂,w₂,hq₂,.of_steps (StepsIn.trans harr (.one (fenced_calm hb hr rfl) stepR_inLoop)) harr₂⟩
      | exit id=>exact ⟨_,a₁,w₁,hq,.pass (x := .inLoop c) rfl (λ _ _ => .inl (by simp)) harr⟩
      | goto l=>exact ⟨_,a₁,w₁,hq,.pass (x := .inLoop c) rfl (λ _ _ => .inl (by simp)) harr⟩
      | ret=>exact ⟨_,a₁,w₁,hq,.pass (x := .inLoop c) rfl (λ _ _ => .inl (by simp)) harr⟩
      | panic ch=>exact ⟨_,a₁,w₁,hq,.pass (x := .inLoop c) rfl (λ _ _ => .inl (by simp)) harr⟩
      | outgrown=>exact ⟨_,a₁,w₁,hq,.pass (x := .inLoop c) rfl (λ _ _ => .inl (by simp)) harr⟩
  obtain ⟨e,a',w',hq,harr⟩:=key m f w l0 hm ho
  exact ⟨e,a',w',hq,.of_steps (.one (fenced_calm hb hr rfl) stepR_loop) harr⟩⟩
theorem want_aD (n:Nat) (ops:Array Oper) (f:Fr) (ds:List Deferred) (o:Oper):Region.wanted o (yielded ops (aD n f ds).tmps)=want n ops f o:=want_eq n ops f o
theorem Ey.of {K:Value->List Wp->Prop} (hd:noDef o=true) (h:Ef P B n o f l K):Ey P B n ro o f l K:=⟨λ ds w next Q ho hk=>by
  have h1:=h.run w (λ a w=>next (Act.more a ds) w) (λ _ _ _=>False) ho (λ v w' l' k ho'=>by rw [<-more_put];exact hk v w' l' k ho')
  exact op_fen (a:=act n f) ro ds hd (λ _ _ k=>k) (λ _ _ _ k=>k.elim) h1⟩
theorem LI.act (hw:want n ops f o=true) (he:Ey P B n ro o f l λ v l'=>LI P B n ro ops rest Φ ds (putd f o.dst v) l'):LI P B n ro ops (o::rest) Φ ds f l:=⟨λ Q w hf ho=>by
  unfold wpListIn
  rw [want_aD,if_pos hw]
  refine he.run ds w _ Q ho λ v w' l' k ho'=>?_
  rw [put_aD]
  exact k.run Q w' hf ho'⟩
theorem LI.skip (hw:want n ops f o=false) (h:LI P B n ro ops rest Φ ds (putd f o.dst undef) l):LI P B n ro ops (o::rest) Φ ds f l:=⟨λ Q w hf ho=>by
  unfold wpListIn
  rw [want_aD,hw,if_neg (by simp),put_aD]
  exact ⟨λ _ _=>trivial,h.run Q w hf ho⟩⟩
theorem LI.quiet {v:Value} (hd:noDef o=true) (hw:want n ops f o=true) (hq:Qt P B n l o f v) (h:LI P B n ro ops rest Φ ds (putd f o.dst v) l):LI P B n ro ops (o::rest) Φ ds f l:=LI.act hw ⟨λ ds' w next Q ho hk=>by
  refine ⟨λ _ _=>trivial,?_⟩
  rw [Oper.semAt_eq _ _ _ (noDef_spec hd),eval_aD,hq.run w ho]
  exact hk v w l h ho⟩
section named
variable {t : Tmp} {op:Op} {ty:TypeId} {pos:String} {af:Array Edge} {gd:Option (Nat×Bool)}
def wantD (n:Nat) (ops:Array Oper) (f:Fr) (o:Oper):Bool:=noDef o && want n ops f o
theorem wantD_spec (h:wantD n ops f o=true):noDef o=true/\want n ops f o=true:=by simpa [wantD] using h
theorem LI.q {v:Value} (hw:wantD n ops f ⟨some t,op,ty,pos,af,gd⟩=true) (hq:Qt P B n l ⟨some t,op,ty,pos,af,gd⟩ f v) (h:LI P B n ro ops rest Φ ds (upd f t v) l):LI P B n ro ops (⟨some t,op,ty,pos,af,gd⟩::rest) Φ ds f l:=LI.quiet (wantD_spec hw).1 (wantD_spec hw).2 hq h
theorem LI.e (hw:wantD n ops f ⟨some t,op,ty,pos,af,gd⟩=true) (he:Ef P B n ⟨some t,op,ty,pos,af,gd⟩ f l λ v l'=>LI P B n ro ops rest Φ ds (upd f t v) l'):LI P B n ro ops (⟨some t,op,ty,pos,af,gd⟩::rest) Φ ds f l:=LI.act (wantD_spec hw).2 (Ey.of (wantD_spec hw).1 he)
theorem LI.e0 (hw:wantD n ops f ⟨none,op,ty,pos,af,gd⟩=true) (he:Ef P B n ⟨none,op,ty,pos,af,gd⟩ f l λ _ l'=>LI P B n ro ops rest Φ ds f l'):LI P B n ro ops (⟨none,op,ty,pos,af,gd⟩::rest) Φ ds f l:=LI.act (wantD_spec hw).2 (Ey.of (wantD_spec hw).1 he)
theorem LI.y (hw:want n ops f ⟨some t,op,ty,pos,af,gd⟩=true) (he:Ey P B n ro ⟨some t,op,ty,pos,af,gd⟩ f l λ v l'=>LI P B n ro ops rest Φ ds (upd f t v) l'):LI P B n ro ops (⟨some t,op,ty,pos,af,gd⟩::rest) Φ ds f l:=LI.act hw he
theorem LI.s (hw:want n ops f ⟨some t,op,ty,pos,af,gd⟩=false) (h:LI P B n ro ops rest Φ ds (upd f t undef) l):LI P B n ro ops (⟨some t,op,ty,pos,af,gd⟩::rest) Φ ds f l:=LI.skip hw h
end named
theorem LI.done (h:Φ .normal ds f l):LI P B n ro ops [] Φ ds f l:=⟨λ _ w hf ho=>hf.go _ _ _ w _ h ho⟩
theorem LI.split {t:Nat} {b:Bool} (hb:f t=some (.bool b)) (h1:b=true->LI P B n ro ops rest Φ ds (upd f t (.bool true)) l) (h2:b=false->LI P B n ro ops rest Φ ds (upd f t (.bool false)) l):LI P B n ro ops rest Φ ds f l:=by
  cases b with
  | true=>have:=h1 rfl;rwa [upd_self hb] at this
  | false=>have:=h2 rfl;rwa [upd_self hb] at this
theorem LI.gT {t:Nat} {b:Bool} (hb:f t=some (.bool b)) (h:b=true) (h1:LI P B n ro ops rest Φ ds (upd f t (.bool true)) l):LI P B n ro ops rest Φ ds f l:=by subst h;rwa [upd_self hb] at h1
theorem LI.gF {t:Nat} {b:Bool} (hb:f t=some (.bool b)) (h:b=false) (h1:LI P B n ro ops rest Φ ds (upd f t (.bool false)) l):LI P B n ro ops rest Φ ds f l:=by subst h;rwa [upd_self hb] at h1
theorem LI.own (h : ∀ w,Own B w l->LI P B n ro ops rest Φ ds f l):LI P B n ro ops rest Φ ds f l:=⟨λ Q w hf ho=>(h w ho).run Q w hf ho⟩
theorem LI.conv {l':List Wp} (hc : ∀ w,Own B w l->Own B w l') (h:LI P B n ro ops rest Φ ds f l'):LI P B n ro ops rest Φ ds f l:=⟨λ Q w hf ho=>h.run Q w hf (hc w ho)⟩
end
open Go.RowKit
def objA (r:Nat) (o:Obj):Wp:=λ h=>h r=some o
section
variable {B : Wn} {w:World} {l:List Wp}
theorem Own.objGet {r:Nat} {o:Obj} (H:Own B w (objA r o::l)):w.heap[r]? = some o:=by
  obtain ⟨h,_,hl,h1,_,_,a1,_,hA,_⟩:=H.has
  exact hl.p _ _ (a1.p _ _ hA)
theorem Own.objNew (H:Own B w l) (o:Obj):Own B (w.alloc o) (objA w.heap.size o::l) :=
  Own.fresh H ((Kept.refl _ _).alloc _) λ h e=>by
    have:=e w.heap.size (Nat.le_refl _)
    unfold objA
    rw [this]
    exact World.alloc_heap_new w o
theorem Own.objPut {r:Nat} {o:Obj} (H:Own B w (objA r o::l)) (o':Obj):Own B (w.putObj r o') (objA r o'::l):=by
  have hr:=H.objGet
  have hlt:r<w.heap.size:=(Array.getElem?_eq_some_iff.1 hr).1
  refine Own.kept (fp:=[r]) H ⟨rfl,rfl,rfl,(by simp),λ i hi hn=>World.putObj_heap_other (by simpa using hn),Nat.le_refl _⟩ (λ h e g' hg=>by simp at hg;subst hg;exact ⟨_,e⟩) (λ h1 h _ _ e _=>?_)
  have:=e r (.inl (by simp))
  unfold objA
  rw [this]
  exact World.putObj_heap_same hlt
end
theorem Has.overY {A:Wp} : ∀ {m r:List Wp} {h:Piece},Has (m++A::r) h->Has (A::(m++r)) h
  | [],_,_,H=>H
  | _::_,_,_,H=>Has.swap (Wt (λ _ k=>Has.overY k) H)
structure FnY (P:Program) (B:Wn) (lp:Nat) (args:List Value) (pre:List Wp) (R:Value->List Wp->Prop):Prop where
  run : ∀ w F,Own B w (pre++F)->YieldAt Fence.wide 0 P lp args.toArray w λ e w' => ∃ v l,e = .returned v/\R v l/\Own B w' (l++F)
section
variable {P : Program} {B:Wn} {n:Nat} {ro:Option Nat} {f:Fr} {l:List Wp}
variable {d : Option Tmp} {ty:TypeId} {pos:String} {af:Array Edge} {gd:Option (Nat×Bool)}
theorem Ey.yield {x:Operand} {lp:Nat} {args:Array Operand} {ats:Array TypeId} {pre F:List Wp} {R:Value->List Wp->Prop} {K:Value->List Wp->Prop} (vs:List Value) (hc:FnY P B lp vs pre R)
    (hx:ev n f x=some (.func (.yield lp) #[] #[])) (ha:args.toList.map (ev n f)=vs.map some) [k:TakeL pre l F] (h : ∀ v l',R v l'->K v (l'++F)):Ey P B n ro ⟨d,.call ⟨.value x,args,ats⟩,ty,pos,af,gd⟩ f l K:=⟨λ ds w next Q ho hk=>by
  have hav:args.map (evu n f)=vs.toArray:=by
    have:args.toList.map (evu n f)=vs:=by
      have e:=congrArg (List.map (λ o:Option Value=>o.getD undef)) ha
      have e2:(λ x=>evu n f x)=evu n f:=rfl
      simp only [List.map_map,Function.comp_def,Option.getD_some,List.map_id'] at e
      exact e
    rw [<-Array.toList_inj,Array.toList_map]
    simpa using this
  obtain ⟨fn,tmps,assign,body,hy,hR⟩:=hc.run w F ho.takeL
  refine ⟨λ _ _=>trivial,?_⟩
  rw [Oper.semAt_eq _ _ _ (λ c e=>by cases e),eval_aD]
  have he:(execOp (evu n f) ⟨d,.call ⟨.value x,args,ats⟩,ty,pos,af,gd⟩).run P w = .ok (.round lp fn tmps assign body) w:=by
    have h1:((do let c <-resolve (evu n f) ⟨.value x,args,ats⟩ ty;invoke c.target c.args):Sem Next).run P w=(Instr.yield lp vs.toArray).run P w:=by
      simp only [resolve,hav]
      simp [Zc hx,Deferred.ofValue,invoke]
    exact h1.trans hy
  rw [he]
  refine ⟨depth_fen ro 0,?_⟩
  have hR':RoundIn (fen ro) 0 P lp fn tmps assign body w (λ e w' => ∃ v l,e = .returned v/\R v l/\Own B w' (l++F)):=hR
  refine RoundIn.mono hR' ?_
  rintro e w' ⟨v,l',rfl,hRv,ho'⟩
  exact hk v w' _ (h v l' hRv) ho'⟩
end
def mkD (D:Nat):Deferred:={target := .collected D,args := #[]}
def pjs (f:Fr):List (Nat×Value)->Fr
  | []=>f
  | p::r=>pjs (upd f p.1 p.2) r
theorem tm_pjs (n:Nat) : ∀ (f:Fr) (l:List (Nat×Value)),l.foldl (λ t p=>t.setIfInBounds p.1 p.2) (tm n f)=tm n (pjs f l)
  | _,[]=>rfl
  | f,p::r=>by
    have e:=put_act n f (some p.1) p.2
    have e2:(tm n f).setIfInBounds p.1 p.2=tm n (upd f p.1 p.2):=congrArg Act.tmps e
    rw [List.foldl_cons,e2]
    exact tm_pjs n _ r
def Iter (P:Program) (B:Wn) {α:Type} (gf:FuncId) (lb:List Value) (encs:α->List Value) (st0 pre0:List Wp) (G:List α->α->Prop) (S Sx:List α->Prop) (itp itx:List α->List Wp):Prop :=
  ∀ (lp:Nat) (J Jx:List α->List Wp) (K0:List Wp),Sub (J []) (st0++K0)->Sub (st0++K0) (J [])->(∀ pre x,G pre x->FnY P B lp (encs x) (J pre) (λ v l=>(v = .bool true/\l=J (pre++[x]))\/(v = .bool false/\l=Jx (pre++[x])))) ->
    Fn P B gf (#[.func (.yield lp) #[] #[]]++lb.toArray) (pre0++J []) (λ _ l=>(∃ xs,S xs/\l=itp xs++J xs)\/(∃ xs,Sx xs/\l=itx xs++Jx xs))
def roundP {α:Type} (I:List α->List Wp) (Ix:Code->List α->List Wp) (xs:List α) (F:List Wp):PostD
  | .normal,ds,_,l=>ds=[]/\Sub l (I xs++F)
  | .ret,ds,_,l=>ds=[]/\Sub l (Ix .ret xs++F)
  | .exit id,ds,_,l=>ds=[]/\Sub l (Ix (.exit id) xs++F)
  | .goto t,ds,_,l=>ds=[]/\Sub l (Ix (.goto t) xs++F)
  | _,_,_,_=>False
section
variable {P : Program} {B:Wn} {n:Nat} {f:Fr} {l:List Wp} {Φ:PostD} {ds:List Deferred}
theorem TI.range {α:Type} {g:Operand} {ps:List Tmp} {assign body:Code} {gf:FuncId} {lb:List Value} {encs:α->List Value} {st0 pre0 F:List Wp} {G:List α->α->Prop} {S Sx:List α->Prop} {itp itx:List α->List Wp}
    (I:List α->List Wp) (Ix:Code->List α->List Wp) (K0:List Wp) (hI:I []=st0++K0) (hit:Iter P B gf lb encs st0 pre0 G S Sx itp itx)
    (hg:ev n f g=some (.func (.func gf) #[] lb.toArray)) (eg : ∀ args w,(callFunc gf args).run P w = .ok (.enter gf args) w) (hps : ∀ x,(encs x).length=ps.length)
    (hl:Sub l (pre0++I []++F))
    (hbody : ∀ lp pre x F0,G pre x->TI P B n (some lp) assign (λ e ds' f' l'=>e = .normal/\ds'=[] /\ ∃ l1,Sub l' (l1++F0) /\ ∀ F1,TI P B n (some lp) body (roundP I Ix (pre++[x]) F1) [] f' (l1++F1)) [] (pjs f (ps.zip (encs x))) (I pre++F0))
    (hdone : ∀ D xs,S xs->Φ .normal (mkD D::ds) f (objA D (.deferred (some []))::(itp xs++I xs++F)))
    (hstop : ∀ D c xs,Sx xs->TI P B n none c Φ (mkD D::ds) f (objA D (.deferred (some []))::(itx xs++Ix c xs++F))) :
    TI P B n none (.rangeFunc g ps.toArray assign body) Φ ds f l:=⟨λ Q w hf ho=>by
  refine wpIn_rangeFunc ?_
  intro fn hfn
  obtain ⟨rec,hrec⟩ : ∃ rec:LoopState->Option Code->Loop,rec=λ st pe=>{state:=st,pending:=pe,fn,tmps:=tm n f,params:=ps.toArray,assign,body,defers:=w.heap.size}:=⟨_,rfl⟩
  obtain ⟨W1,hW1⟩ : ∃ W1,(w.alloc (.deferred (some []))).alloc (.loop (rec .ready none))=W1:=⟨_,rfl⟩
  have ho0:=ho.map hl
  have ho1:=(ho0.objNew (.deferred (some []))).objNew (.loop (rec .ready none))
  rw [World.size_alloc,hW1] at ho1
  obtain ⟨J,hJ⟩ : ∃ J:List α->List Wp,J=λ xs=>objA (w.heap.size+1) (.loop (rec .ready none))::objA w.heap.size (.deferred (some []))::I xs:=⟨_,rfl⟩
  obtain ⟨Jx,hJx⟩ : ∃ Jx:List α->List Wp,Jx=λ xs=>[exA λ c=>sepL (objA (w.heap.size+1) (.loop (rec .done (some c)))::objA w.heap.size (.deferred (some []))::Ix c xs)]:=⟨_,rfl⟩
  have hY : ∀ pre x,G pre x->FnY P B (w.heap.size+1) (encs x) (J pre) (λ v l=>(v = .bool true/\l=J (pre++[x]))\/(v = .bool false/\l=Jx (pre++[x]))):=by
    intro pre x hG
    refine ⟨λ W F' hW=>?_⟩
    rw [hJ] at hW
    have hl1:=hW.objGet
    have hy:=run_yield (P:=P) (args:=(encs x).toArray) hl1 (by rw [hrec];simpa using hps x)
    rw [hrec] at hy
    refine ⟨fn,_,assign,body,hy,roundIn_of_wpIn hfn ?_⟩
    have et:(ps.toArray.zip (encs x).toArray).foldl (λ tmps (t,a)=>tmps.setIfInBounds t a) (tm n f)=tm n (pjs f (ps.zip (encs x))):=by
      rw [<-tm_pjs,<-Array.foldl_toList]
      simp
    rw [show ((ps.toArray.zip (encs x).toArray).foldl (λ tmps (t,a)=>tmps.setIfInBounds t a) (tm n f))=_ from et]
    have hW2:Own B W (I pre++(objA (w.heap.size+1) (.loop (rec .ready none))::objA w.heap.size (.deferred (some []))::F')):=hW.map λ h H=>by
      have H2:Has ([objA (w.heap.size+1) (.loop (rec .ready none)),objA w.heap.size (.deferred (some []))]++(I pre++F')) h:=H
      refine Has.under (m:=I pre) (Wt (λ _ k=>?_) H2)
      exact Has.under (m:=I pre) k
    refine (hbody (w.heap.size+1) pre x _ hG).run _ W ⟨?_,?_⟩ hW2
    . rintro e ds' f' W3 l' ⟨rfl,rfl,l1,hs,hb⟩ ho3
      have ho4:Own B W3 (objA (w.heap.size+1) (.loop (rec .ready none))::(l1++objA w.heap.size (.deferred (some []))::F')):=ho3.map λ h H=>Has.overY (hs h H)
      have hl4:=ho4.objGet
      have ho5:=ho4.objPut (.loop {rec .ready none with state := .busy})
      refine ⟨_,run_beginRound hl4 (by rw [hrec]),?_⟩
      have ho6:=ho5.map λ h H=>Has.under (m:=l1) H
      refine (hb _).run _ _ ⟨?_,λ c a d v w' k=>k.elim⟩ ho6
      have fin : ∀ (L:List Wp) (jump:Option Code) (l7:List Wp) (W7:World),Sub l7 (L++objA (w.heap.size+1) (.loop {rec .ready none with state := .busy})::objA w.heap.size (.deferred (some []))::F')->Own B W7 l7 ->
          ∃ W8,(Instr.endRound (w.heap.size+1) jump).run P W7 = .ok (.bool jump.isNone) W8/\Own B W8 (objA (w.heap.size+1) (.loop (rec (if jump.isNone then .ready else .done) jump))::objA w.heap.size (.deferred (some []))::(L++F')):=by
        intro L jump l7 W7 h7 o7
        have o8:Own B W7 (objA (w.heap.size+1) (.loop {rec .ready none with state := .busy})::(L++objA w.heap.size (.deferred (some []))::F')):=o7.map λ h H=>Has.overY (h7 h H)
        have o9:=o8.objPut (.loop (rec (if jump.isNone then .ready else .done) jump))
        refine ⟨_,?_,o9.map λ h H=>Wt (λ _ k=>Has.overY k) H⟩
        have:=run_endRound (P:=P) jump o8.objGet
        rw [hrec] at this ⊢
        exact this
      have stop : ∀ (c:Code) (l7:List Wp) (W7:World),Sub l7 (Ix c (pre++[x])++objA (w.heap.size+1) (.loop {rec .ready none with state := .busy})::objA w.heap.size (.deferred (some []))::F')->Own B W7 l7 ->
          ∃ v W8,(Instr.endRound (w.heap.size+1) (some c)).run P W7 = .ok v W8 /\ ∃ v' l,Ending.returned v = .returned v'/\((v' = .bool true/\l=J (pre++[x]))\/(v' = .bool false/\l=Jx (pre++[x])))/\Own B W8 (l++F'):=by
        intro c l7 W7 h7 o7
        obtain ⟨W8,hr,o8⟩:=fin _ (some c) l7 W7 h7 o7
        refine ⟨_,W8,hr,_,_,rfl,.inr ⟨rfl,rfl⟩,?_⟩
        rw [hJx]
        exact o8.map λ h H=>Has.close_ex c (Has.close_sepL (l:=objA (w.heap.size+1) (.loop (rec .done (some c)))::objA w.heap.size (.deferred (some []))::Ix c (pre++[x])) H)
      intro e ds7 f7 W7 l7 hp o7
      cases e with
      | normal =>
        obtain ⟨W8,hr,o8⟩:=fin _ none l7 W7 hp.2 o7
        refine ⟨_,W8,hr,_,_,rfl,.inl ⟨rfl,rfl⟩,?_⟩
        rw [hJ]
        exact o8
      | ret=>exact stop _ l7 W7 hp.2 o7
      | exit id=>exact stop _ l7 W7 hp.2 o7
      | goto t=>exact stop _ l7 W7 hp.2 o7
      | panic c=>exact hp.elim
      | outgrown=>exact hp.elim
    . exact λ c a d v w' k=>k.elim
  have hs1 : ∀ h,Has (J []) h->Has (st0++(objA (w.heap.size+1) (.loop (rec .ready none))::objA w.heap.size (.deferred (some []))::K0)) h:=λ h H=>by
    rw [hJ] at H
    have H2:Has ([objA (w.heap.size+1) (.loop (rec .ready none)),objA w.heap.size (.deferred (some []))]++(st0++K0)) h:=by
      have e:(λ xs=>objA (w.heap.size+1) (.loop (rec .ready none))::objA w.heap.size (.deferred (some []))::I xs) []=[objA (w.heap.size+1) (.loop (rec .ready none)),objA w.heap.size (.deferred (some []))]++(st0++K0):=by simp [hI]
      rw [<-e];exact H
    refine Has.under (m:=st0) (Wt (λ _ k=>?_) H2)
    exact Has.under (m:=st0) k
  have hs2 : ∀ h,Has (st0++(objA (w.heap.size+1) (.loop (rec .ready none))::objA w.heap.size (.deferred (some []))::K0)) h->Has (J []) h:=λ h H=>by
    rw [hJ]
    show Has (objA (w.heap.size+1) (.loop (rec .ready none))::objA w.heap.size (.deferred (some []))::I []) h
    rw [hI]
    exact Wt (λ _ k=>Has.overY (m:=st0) k) (Has.overY (m:=st0) H)
  have hcall:=(hit (w.heap.size+1) J Jx _ hs1 hs2 hY).run W1 F (ho1.map λ h H=>by
    rw [hJ]
    have H2:Has ([objA (w.heap.size+1) (.loop (rec .ready none)),objA w.heap.size (.deferred (some []))]++(pre0++(I []++F))) h:=by
      simpa using H
    have H3:Has (pre0++(objA (w.heap.size+1) (.loop (rec .ready none))::objA w.heap.size (.deferred (some []))::(I []++F))) h:=by
      refine Has.under (m:=pre0) (Wt (λ _ k=>?_) H2)
      exact Has.under (m:=pre0) k
    simpa using H3)
  refine ⟨w.heap.size+1,[mkD w.heap.size],W1,{target := .fn (.func gf) lb.toArray,args := #[.func (.yield (w.heap.size+1)) #[] #[]]},W1,gf,#[.func (.yield (w.heap.size+1)) #[] #[]]++lb.toArray,W1,?_,?_,λ _ _=>trivial,?_,depth_fen none 0,?_⟩
  . rw [<-hW1,hrec];exact run_enterLoop_outer _ _ _ _ _
  . have hg':(aD n f ds).eval g = .func (.func gf) #[] lb.toArray:=by rw [eval_aD];exact Zc hg
    simp only [resolve,hg']
    simp [Deferred.ofValue,Act.eval]
  . simp [invoke,eg]
  . refine calls_fen none _ (Calls.mono hcall ?_)
    rintro e W2 ⟨v,l2,rfl,hd,o2⟩
    rcases hd with ⟨xs,hS,rfl⟩ | ⟨xs,hS,rfl⟩
    . rw [hJ] at o2
      have o3:Own B W2 (objA (w.heap.size+1) (.loop (rec .ready none))::objA w.heap.size (.deferred (some []))::(itp xs++I xs++F)):=o2.map λ h H=>by
        have H2:Has (itp xs++(objA (w.heap.size+1) (.loop (rec .ready none))::objA w.heap.size (.deferred (some []))::(I xs++F))) h:=by simpa using H
        have H3:=Wt (λ _ k=>Has.overY (m:=itp xs) k) (Has.overY (m:=itp xs) H2)
        simpa using H3
      have o4:=(o3.objPut (.loop (rec .exhausted none))).map λ h H=>H.tail
      exact ⟨none,W2.putObj (w.heap.size+1) (.loop (rec .exhausted none)),by have:=run_endLoop (P:=P) o3.objGet (by rw [hrec];simp);rw [hrec] at this ⊢;exact this,hf.go .normal _ f _ _ (hdone _ xs hS) o4⟩
    . rw [hJx] at o2
      obtain ⟨c,o2'⟩ : ∃ c,Own B W2 (objA (w.heap.size+1) (.loop (rec .done (some c)))::objA w.heap.size (.deferred (some []))::(itx xs++Ix c xs++F)):=by
        have H:=o2.has
        obtain ⟨h,a,b,H⟩:=H
        have H2:Has (itx xs++(exA (λ c=>sepL (objA (w.heap.size+1) (.loop (rec .done (some c)))::objA w.heap.size (.deferred (some []))::Ix c xs))::F)) h:=by simpa using H
        obtain ⟨c,H3⟩:=Has.open_ex (Has.overY (m:=itx xs) H2)
        refine ⟨c,o2.os,o2.tape,o2.output,o2.low,o2.ro,h,a,b,?_⟩
        have H4:=Has.open_sepL H3
        have H5:Has (objA (w.heap.size+1) (.loop (rec .done (some c)))::objA w.heap.size (.deferred (some []))::(Ix c xs++(itx xs++F))) h:=by simpa using H4
        refine Wt (λ _ k=>Wt (λ _ k=>?_) k) H5
        obtain ⟨k1,k2,d,e1,e2,m1,m2⟩:=Has.split k
        obtain ⟨k3,k4,d2,e3,e4,m3,m4⟩:=Has.split m2
        rw [List.append_assoc]
        exact Has.join (Piece.disj.disj_symm (Piece.add_disj (d.disj_symm.disj_symm.disj_le e3) ((d2.disj_symm.disj_le (Piece.le_refl _)))) |>.disj_symm.disj_symm) (e3.le_trans e2) (Piece.add_le e1 (e4.le_trans e2)) m3 (Has.join (d.disj_le e4) (Piece.le_add_left _ _) (Piece.le_add_right (d.disj_le e4)) m1 m4)
      have o4:=(o2'.objPut (.loop (rec .exhausted (some c)))).map λ h H=>H.tail
      exact ⟨some c,W2.putObj (w.heap.size+1) (.loop (rec .exhausted (some c))),by have:=run_endLoop (P:=P) o2'.objGet (by rw [hrec];simp);rw [hrec] at this ⊢;exact this,(hstop _ c xs hS).run Q _ hf o4⟩⟩
end
open Go.RowKit
inductive Marks : List Deferred->List Wp->List Wp->Prop
  | nil {l:List Wp}:Marks [] l l
  | cons {D:Nat} {ds:List Deferred} {l r s:List Wp}:(∀ h,Has l h->Has (objA D (.deferred (some []))::r) h)->Marks ds r s->Marks (mkD D::ds) l s
theorem Marks.one {D:Nat} {l r:List Wp} [k:TakeA (objA D (.deferred (some []))) l r]:Marks [mkD D] l r := .cons k.take .nil
section
variable {P : Program} {B:Wn} {n:Nat} {f:Fr}
end
open Go.RowKit
section
variable {ro : Option Nat} {P:Program} {ops:Array Oper} {Q:Exit->Act->World->Prop} {md:Region.Mode} {S:World->Prop}
def wpR (ro:Option Nat) (P:Program) (o:Oper) (a:Act) (w:World) (next:Act->World->Prop) (Q:Exit->Act->World->Prop):Prop:=o.uponIn (fen ro) 0 P a next Q ((execOp a.eval o).run P w)
theorem wpR_mono {o:Oper} {a:Act} {w:World} {K K':Act->World->Prop} (h : ∀ a w,K a w->K' a w) (hh:wpR ro P o a w K Q):wpR ro P o a w K' Q:=by
  unfold wpR at *
  generalize (execOp a.eval o).run P w=r at *
  cases r with
  | ok x w' =>
    cases x <;> simp only [Oper.uponIn] at hh ⊢ <;>
      first
        | exact h _ _ hh
        | exact ⟨hh.1,CallsIn.mono hh.2 (λ e w'' he=>by cases e <;> first | exact h _ _ he | exact he)⟩
        | exact ⟨hh.1,RowsIn.mono hh.2 (λ _ _ he=>h _ _ he)⟩
        | exact ⟨hh.1,RoundIn.mono hh.2 (λ e w'' he=>by cases e <;> first | exact h _ _ he | exact he)⟩
  | halt x w'=>cases x <;> simp only [Oper.uponIn] at hh ⊢ <;> exact hh
theorem wpIn_wpR {o:Oper} {a:Act} {w:World} {K:Act->World->Prop} (hd:noDef o=true):o.wpIn (fen ro) 0 P a w K Q↔wpR ro P o a w K Q:=by
  unfold Oper.wpIn wpR
  rw [Oper.semAt_eq _ _ _ (noDef_spec hd)]
  exact ⟨λ h=>h.2,λ h=>⟨λ _ _=>trivial,h⟩⟩
def wpOpR (ro:Option Nat) (P:Program) (ops:Array Oper) (Q:Exit->Act->World->Prop) (i:Nat) (K:Act->World->Prop) (a:Act) (w:World):Prop :=
  match ops[i]? with
  | none=>K a w
  | some o=>if Region.wanted o (yielded ops a.tmps) then wpR ro P o a w K Q else K (a.put o.dst undef) w
theorem wpOpR_mono {i:Nat} {a:Act} {w:World} {K K':Act->World->Prop} (h : ∀ a w,K a w->K' a w) (hh:wpOpR ro P ops Q i K a w):wpOpR ro P ops Q i K' a w:=by
  unfold wpOpR at *
  split
  . exact h _ _ (by simpa [*] using hh)
  . rename_i o ho
    simp only [ho] at hh
    split
    . rename_i hw;simp only [hw,if_true] at hh;exact wpR_mono h hh
    . rename_i hw;simp only [hw] at hh;exact h _ _ hh
theorem wpOpR_yields {i:Nat} {o:Oper} {v:Value} {a:Act} (hi:ops[i]? = some o) (hy:YieldsIf P ops S o v a)
    {K:Act->World->Prop} {w:World} (hS:S w) (h:K (a.put o.dst v) w):wpOpR ro P ops Q i K a w:=by
  unfold wpOpR
  simp only [hi]
  rcases hy with ⟨hw,hv⟩ | ⟨hw,rfl⟩
  . simp only [hw,if_true,wpR,hv w hS,Oper.uponIn];exact h
  . simp only [hw,Bool.false_eq_true,if_false];exact h
theorem wpOpR_putIf {j:Nat} {oi oj:Oper} {v:Value} (hj:ops[j]? = some oj) (hap:oi.apart ops oj=true)
    (hsi : ∀ cs b,oi.op ≠ .select cs b) (hsj : ∀ cs b,oj.op ≠ .select cs b)
    (hQ : ∀ c a w,Q (.panic c) (a.put oi.dst v) w->Q (.panic c) a w) {K:Act->World->Prop} {a:Act} {w:World}
    (hy:YieldsIf P ops S oi v a) (h:wpOpR ro P ops Q j K (a.put oi.dst v) w) :
    wpOpR ro P ops Q j (λ a' w'=>YieldsIf P ops S oi v a'/\K (a'.put oi.dst v) w') a w:=by
  obtain ⟨h1,h2,h3⟩:=Oper.apart_spec hap
  have keep : ∀ (a:Act),YieldsIf P ops S oi v a -> ∀ u,YieldsIf P ops S oi v (a.put oj.dst u):=λ a hy u =>
    hy.of_same (execOp_put oi hsi a oj.dst u h3) (wanted_put oi a oj.dst u h3)
  have keepD : ∀ d,YieldsIf P ops S oi v {a with defers:=d::a.defers}:=λ d=>hy.of_same rfl rfl
  unfold wpOpR at *
  simp only [hj] at *
  rw [wanted_put oj a oi.dst v h1] at h
  split
  . rename_i hw
    simp only [hw,if_true] at h
    unfold wpR at *
    rw [execOp_put oj hsj a oi.dst v h1] at h
    generalize (execOp a.eval oj).run P w=r at *
    cases r with
    | ok x w' =>
      cases x <;> simp only [Oper.uponIn] at h ⊢
      case value u=>exact ⟨keep a hy u,by rw [<-Act.put_comm a v u h2];exact h⟩
      case skip=>exact ⟨keep a hy _,by rw [<-Act.put_comm a v undef h2];exact h⟩
      case defer d =>
        refine ⟨keep _ (keepD d) _,?_⟩
        rw [<-Act.put_comm _ v undef h2,<-Act.put_defers]
        exact h
      case enter f args =>
        refine ⟨h.1,CallsIn.mono h.2 λ e w'' he=>?_⟩
        cases e with
        | returned u=>exact ⟨keep a hy u,by rw [<-Act.put_comm a v u h2];exact he⟩
        | panicked c=>exact hQ _ _ _ he
        | outgrown=>exact he
      case row row args=>exact ⟨h.1,RowsIn.mono h.2 λ u w'' he=>⟨keep a hy u,by rw [<-Act.put_comm a v u h2];exact he⟩⟩
      case round l f tmps assign body =>
        refine ⟨h.1,RoundIn.mono h.2 λ e w'' he=>?_⟩
        cases e with
        | returned u=>exact ⟨keep a hy u,by rw [<-Act.put_comm a v u h2];exact he⟩
        | panicked c=>exact hQ _ _ _ he
        | outgrown=>exact he
    | halt x w' =>
      cases x <;> simp only [Oper.uponIn] at h ⊢
      case panic u=>exact hQ _ _ _ h
  . rename_i hw
    simp only [hw] at h
    exact ⟨keep a hy _,by rw [<-Act.put_comm a v undef h2];exact h⟩
def wpTR (ro:Option Nat) (P:Program) (md:Region.Mode) (ops:Array Oper) (Q:Exit->Act->World->Prop) (n:Nat) (T:Act->World->Prop):Nat->(World->Prop)->Array Bool->Act->World->Prop
  | 0,_,listed,a,w=>listed=doneB n ops.size/\T a w
  | f+1,S,listed,a,w=>Region.ready md ops listed≠[] /\ ∀ i∈Region.ready md ops listed,i<n /\
      wpOpR ro P ops Q i (λ a' w' => ∃ S':World->Prop,(∀ u,S' u->S u)/\S' w'/\wpTR ro P md ops Q n T f S' (listed.setIfInBounds i true) a' w') a w
theorem wpTR_first {n i:Nat} {T:Act->World->Prop} {oi:Oper} {v:Value} (hi:ops[i]? = some oi) (hsel : ∀ (j:Nat) (o:Oper) cs b,ops[j]? = some o->o.op ≠ .select cs b)
    (hQ : ∀ c a w,Q (.panic c) (a.put oi.dst v) w->Q (.panic c) a w) (hd:directB md ops n=true) (hin:i<n) :
    ∀ (f:Nat) (S:World->Prop) (listed:Array Bool) (a:Act) (w:World),TailFree n ops listed ->
      (∀ j oj,ops[j]? = some oj->j≠i->listed.getD j true=false->(∀ e∈oj.after,Region.binds md e=true->e.on≠i)->oi.apart ops oj=true) ->
      i∈Region.ready md ops listed->YieldsIf P ops S oi v a->S w ->
      wpTR ro P md ops Q n T f S (listed.setIfInBounds i true) (a.put oi.dst v) w->wpTR ro P md ops Q n T (f+1) S listed a w:=by
  intro f
  induction f with
  | zero =>
    intro S listed a w ht _ hr hy hS H
    refine ⟨(λ h=>(by rw [h] at hr;cases hr)),λ j hj=>?_⟩
    have hjn:=head_only hd ht hin (mem_ready.1 hr).1 j hj
    refine ⟨hjn,?_⟩
    by_cases hji:j=i
    . subst hji;exact wpOpR_yields hi hy hS ⟨S,λ _ h=>h,hS,H⟩
    . have h1:=(mem_ready.1 hj).1
      rw [<-getD_set_ne true (Ne.symm hji),H.1,getD_doneB hjn] at h1
      cases h1
  | succ f ih =>
    intro S listed a w ht hfree hr hy hS H
    refine ⟨(λ h=>(by rw [h] at hr;cases hr)),λ j hj=>?_⟩
    have hjn:=head_only hd ht hin (mem_ready.1 hr).1 j hj
    refine ⟨hjn,?_⟩
    by_cases hji:j=i
    . subst hji;exact wpOpR_yields hi hy hS ⟨S,λ _ h=>h,hS,H⟩
    . have h1:=(H.2 j (ready_mono hj hji)).2
      obtain ⟨hjun,oj,hoj,hall⟩:=mem_ready.1 hj
      have hnot : ∀ e∈oj.after,Region.binds md e=true->e.on≠i:=λ e he hb heq=>by
        have h2:=hall e he hb
        rw [heq] at h2
        exact getD_clash (mem_ready.1 hr).1 h2
      have h2:=wpOpR_putIf (S:=S) hoj (hfree j oj hoj hji hjun hnot) (λ cs b=>hsel i oi cs b hi) (λ cs b=>hsel j oj cs b hoj) hQ hy h1
      refine wpOpR_mono (λ a' w' h3=>?_) h2
      obtain ⟨hy',S',hSS,hS',hT⟩:=h3
      refine ⟨S',hSS,hS',ih S' (listed.setIfInBounds j true) a' w' (ht.set hjn) (λ k ok hk hki hun hno=>?_) (ready_mono hr (Ne.symm hji)) (YieldsIf.weaken hy' hSS) hS' ?_⟩
      . refine hfree k ok hk hki ?_ hno
        by_cases hjk:j=k
        . subst hjk;exact hjun
        . rw [getD_set_ne true hjk] at hun;exact hun
      . rw [Array.setIfInBounds_comm _ _ hji];exact hT
theorem wpTR_take {rest:List Oper} {n i f:Nat} {S:World->Prop} {T:Act->World->Prop} {oi:Oper} {v:Value} {listed:Array Bool} {a:Act} {w:World} (hi':ops.toList.drop i=oi::rest) (hb:takeB md ops n i listed=true)
    (hQ : ∀ c a w,Q (.panic c) (a.put oi.dst v) w->Q (.panic c) a w) (hS:S w) (hy:YieldsIf P ops S oi v a)
    (h:wpTR ro P md ops Q n T f S (listed.setIfInBounds i true) (a.put oi.dst v) w):wpTR ro P md ops Q n T (f+1) S listed a w:=by
  have hi:=getElem?_of_drop hi'
  simp only [takeB,Bool.and_eq_true,decide_eq_true_eq] at hb
  obtain ⟨⟨⟨⟨⟨h1,h2⟩,h3⟩,h4⟩,h5⟩,h6⟩:=hb
  exact wpTR_first hi (Region.noSelect_spec h1) hQ h5 h4 f S listed a w (tailFreeB_spec h6) (Region.free_spec hi h2) (by simpa using h3) hy hS h
end
structure RY (P:Program) (B:Wn) (n:Nat) (ro:Option Nat) (ops:Array Oper) (m:Nat) (Φ:PostD) (ds:List Deferred) (k:Nat) (S:List Wp) (listed:Array Bool) (f:Fr) (l:List Wp):Prop where
  run : ∀ Q w,FitsD B n Φ Q->Own B w l->wpTR ro P .any ops Q m (wpListIn (fen ro) 0 P ops Q (ops.toList.drop m)) k (λ u=>Own B u S) listed (aD n f ds) w
structure RJ (P:Program) (B:Wn) (n:Nat) (ro:Option Nat) (ops:Array Oper) (m:Nat) (Φ:PostD) (ds:List Deferred) (k:Nat) (S:List Wp) (listed:Array Bool) (f:Fr) (l:List Wp) (i:Nat):Prop where
  run : ∀ Q w,FitsD B n Φ Q->Own B w l->wpOpR ro P ops Q i (λ a' w' => ∃ S':World->Prop,(∀ u,S' u->Own B u S)/\S' w'/\wpTR ro P .any ops Q m (wpListIn (fen ro) 0 P ops Q (ops.toList.drop m)) k S' (listed.setIfInBounds i true) a' w') (aD n f ds) w
section
variable {P : Program} {B:Wn} {n:Nat} {ro:Option Nat} {ops:Array Oper} {rest:List Oper} {o:Oper} {Φ:PostD} {ds:List Deferred} {f:Fr} {l:List Wp}
variable {m k:Nat} {S:List Wp} {listed:Array Bool}
theorem RY.take {rest':List Oper} {v:Value} (i:Nat) (hi:ops.toList.drop i=o::rest') (hw:want n ops f o=true) (hb:takeB .any ops m i listed=true) (hs:Sub l S) (hq:Qt P B n S o f v)
    (h:RY P B n ro ops m Φ ds k S (listed.setIfInBounds i true) (putd f o.dst v) l):RY P B n ro ops m Φ ds (k+1) S listed f l:=⟨λ Q w hf ho=>by
  refine wpTR_take hi hb (λ c a w=>hf.pk c a o.dst v w) (ho.map hs) (.inl ⟨by rw [want_aD,hw],λ w' ho'=>by rw [eval_aD];exact hq.run w' ho'⟩) ?_
  rw [put_aD]
  exact h.run Q w hf ho⟩
theorem RY.skip {rest':List Oper} (i:Nat) (hi:ops.toList.drop i=o::rest') (hw:want n ops f o=false) (hb:takeB .any ops m i listed=true) (hs:Sub l S)
    (h:RY P B n ro ops m Φ ds k S (listed.setIfInBounds i true) (putd f o.dst undef) l):RY P B n ro ops m Φ ds (k+1) S listed f l:=⟨λ Q w hf ho=>by
  refine wpTR_take hi hb (λ c a w=>hf.pk c a o.dst undef w) (ho.map hs) (.inr ⟨by rw [want_aD,hw],rfl⟩) ?_
  rw [put_aD]
  exact h.run Q w hf ho⟩
section named
variable {t : Tmp} {op:Op} {ty:TypeId} {pos:String} {af:Array Edge} {gd:Option (Nat×Bool)} {rest':List Oper} {v:Value}
theorem RY.q (i:Nat) (hi:ops.toList.drop i=⟨some t,op,ty,pos,af,gd⟩::rest') (hw:want n ops f ⟨some t,op,ty,pos,af,gd⟩=true) (hb:takeB .any ops m i listed=true) (hs:Sub l S) (hq:Qt P B n S ⟨some t,op,ty,pos,af,gd⟩ f v)
    (h:RY P B n ro ops m Φ ds k S (listed.setIfInBounds i true) (upd f t v) l):RY P B n ro ops m Φ ds (k+1) S listed f l:=RY.take i hi hw hb hs hq h
theorem RY.s (i:Nat) (hi:ops.toList.drop i=⟨some t,op,ty,pos,af,gd⟩::rest') (hw:want n ops f ⟨some t,op,ty,pos,af,gd⟩=false) (hb:takeB .any ops m i listed=true) (hs:Sub l S)
    (h:RY P B n ro ops m Φ ds k S (listed.setIfInBounds i true) (upd f t undef) l):RY P B n ro ops m Φ ds (k+1) S listed f l:=RY.skip i hi hw hb hs h
end named
theorem RY.all (is:List Nat) (hb:(decide (Region.ready .any ops listed=is) && !is.isEmpty && is.all (λ i=>decide (i<m)))=true) (h : ∀ i∈is,RJ P B n ro ops m Φ ds k S listed f l i):RY P B n ro ops m Φ ds (k+1) S listed f l:=⟨λ Q w hf ho=>by
  simp only [Bool.and_eq_true,decide_eq_true_eq,List.all_eq_true] at hb
  obtain ⟨⟨h1,h2⟩,h3⟩:=hb
  refine ⟨(λ e=>by rw [h1] at e;rw [e] at h2;simp at h2),λ i hi=>?_⟩
  rw [h1] at hi
  exact ⟨h3 i hi,(h i hi).run Q w hf ho⟩⟩
theorem RY.one (i:Nat) (hb:(decide (Region.ready .any ops listed=[i]) && decide (i<m))=true) (h:RJ P B n ro ops m Φ ds k S listed f l i):RY P B n ro ops m Φ ds (k+1) S listed f l:=by
  simp only [Bool.and_eq_true,decide_eq_true_eq] at hb
  refine RY.all [i] ?_ (List.forall_mem_cons.2 ⟨h,List.forall_mem_nil _⟩)
  simp [hb.1,hb.2]
theorem RJ.act {rest':List Oper} {i:Nat} (hi:ops.toList.drop i=o::rest') (hw:wantD n ops f o=true)
    (he:Ey P B n ro o f l λ v l'=>Sub l' S/\RY P B n ro ops m Φ ds k l' (listed.setIfInBounds i true) (putd f o.dst v) l'):RJ P B n ro ops m Φ ds k S listed f l i:=⟨λ Q w hf ho=>by
  have hi':=getElem?_of_drop hi
  unfold wpOpR
  simp only [hi']
  rw [want_aD,if_pos (wantD_spec hw).2]
  refine (wpIn_wpR (wantD_spec hw).1).1 (he.run ds w _ Q ho λ v w' l' hK ho'=>?_)
  rw [put_aD]
  exact ⟨λ u=>Own B u l',λ u hu=>hu.map hK.1,ho',hK.2.run Q w' hf ho'⟩⟩
theorem RJ.actS {rest':List Oper} {i:Nat} (hi:ops.toList.drop i=o::rest') (hw:wantD n ops f o=true)
    (he:Ey P B n ro o f l λ v l'=>Sub l' S/\RY P B n ro ops m Φ ds k S (listed.setIfInBounds i true) (putd f o.dst v) l'):RJ P B n ro ops m Φ ds k S listed f l i:=⟨λ Q w hf ho=>by
  have hi':=getElem?_of_drop hi
  unfold wpOpR
  simp only [hi']
  rw [want_aD,if_pos (wantD_spec hw).2]
  refine (wpIn_wpR (wantD_spec hw).1).1 (he.run ds w _ Q ho λ v w' l' hK ho'=>?_)
  rw [put_aD]
  exact ⟨λ u=>Own B u S,λ u hu=>hu,ho'.map hK.1,hK.2.run Q w' hf ho'⟩⟩
section named
variable {t : Tmp} {op:Op} {ty:TypeId} {pos:String} {af:Array Edge} {gd:Option (Nat×Bool)} {rest':List Oper} {i:Nat}
theorem RJ.e (hi:ops.toList.drop i=⟨some t,op,ty,pos,af,gd⟩::rest') (hw:wantD n ops f ⟨some t,op,ty,pos,af,gd⟩=true)
    (he:Ef P B n ⟨some t,op,ty,pos,af,gd⟩ f l λ v l'=>Sub l' S/\RY P B n ro ops m Φ ds k l' (listed.setIfInBounds i true) (upd f t v) l'):RJ P B n ro ops m Φ ds k S listed f l i:=RJ.act hi hw (Ey.of (wantD_spec hw).1 he)
theorem RJ.e0 (hi:ops.toList.drop i=⟨none,op,ty,pos,af,gd⟩::rest') (hw:wantD n ops f ⟨none,op,ty,pos,af,gd⟩=true)
    (he:Ef P B n ⟨none,op,ty,pos,af,gd⟩ f l λ _ l'=>Sub l' S/\RY P B n ro ops m Φ ds k l' (listed.setIfInBounds i true) f l'):RJ P B n ro ops m Φ ds k S listed f l i:=RJ.act hi hw (Ey.of (wantD_spec hw).1 he)
theorem RJ.eS (hi:ops.toList.drop i=⟨some t,op,ty,pos,af,gd⟩::rest') (hw:wantD n ops f ⟨some t,op,ty,pos,af,gd⟩=true)
    (he:Ef P B n ⟨some t,op,ty,pos,af,gd⟩ f l λ v l'=>Sub l' S/\RY P B n ro ops m Φ ds k S (listed.setIfInBounds i true) (upd f t v) l'):RJ P B n ro ops m Φ ds k S listed f l i:=RJ.actS hi hw (Ey.of (wantD_spec hw).1 he)
theorem RJ.eS0 (hi:ops.toList.drop i=⟨none,op,ty,pos,af,gd⟩::rest') (hw:wantD n ops f ⟨none,op,ty,pos,af,gd⟩=true)
    (he:Ef P B n ⟨none,op,ty,pos,af,gd⟩ f l λ _ l'=>Sub l' S/\RY P B n ro ops m Φ ds k S (listed.setIfInBounds i true) f l'):RJ P B n ro ops m Φ ds k S listed f l i:=RJ.actS hi hw (Ey.of (wantD_spec hw).1 he)
theorem RJ.y (hi:ops.toList.drop i=⟨some t,op,ty,pos,af,gd⟩::rest') (hw:wantD n ops f ⟨some t,op,ty,pos,af,gd⟩=true)
    (he:Ey P B n ro ⟨some t,op,ty,pos,af,gd⟩ f l λ v l'=>Sub l' S/\RY P B n ro ops m Φ ds k l' (listed.setIfInBounds i true) (upd f t v) l'):RJ P B n ro ops m Φ ds k S listed f l i:=RJ.act hi hw he
end named
theorem RY.done (hb:listed=doneB m ops.size) (h:LI P B n ro ops (ops.toList.drop m) Φ ds f l):RY P B n ro ops m Φ ds 0 S listed f l:=⟨λ Q w hf ho=>⟨hb,h.run Q w hf ho⟩⟩
theorem RY.split {t:Nat} {b:Bool} (hb:f t=some (.bool b)) (h1:b=true->RY P B n ro ops m Φ ds k S listed (upd f t (.bool true)) l) (h2:b=false->RY P B n ro ops m Φ ds k S listed (upd f t (.bool false)) l):RY P B n ro ops m Φ ds k S listed f l:=by
  cases b with
  | true=>have:=h1 rfl;rwa [upd_self hb] at this
  | false=>have:=h2 rfl;rwa [upd_self hb] at this
theorem RY.gT {t:Nat} {b:Bool} (hb:f t=some (.bool b)) (h:b=true) (h1:RY P B n ro ops m Φ ds k S listed (upd f t (.bool true)) l):RY P B n ro ops m Φ ds k S listed f l:=by subst h;rwa [upd_self hb] at h1
theorem RY.gF {t:Nat} {b:Bool} (hb:f t=some (.bool b)) (h:b=false) (h1:RY P B n ro ops m Φ ds k S listed (upd f t (.bool false)) l):RY P B n ro ops m Φ ds k S listed f l:=by subst h;rwa [upd_self hb] at h1
theorem RY.own (h : ∀ w,Own B w l->RY P B n ro ops m Φ ds k S listed f l):RY P B n ro ops m Φ ds k S listed f l:=⟨λ Q w hf ho=>(h w ho).run Q w hf ho⟩
theorem RY.conv {l':List Wp} (hc : ∀ w,Own B w l->Own B w l') (h:RY P B n ro ops m Φ ds k S listed f l'):RY P B n ro ops m Φ ds k S listed f l:=⟨λ Q w hf ho=>h.run Q w hf (hc w ho)⟩
end
open Go.RowKit
end Go.Proofs.YtnnfjemaeefbiaaGreatDoor
