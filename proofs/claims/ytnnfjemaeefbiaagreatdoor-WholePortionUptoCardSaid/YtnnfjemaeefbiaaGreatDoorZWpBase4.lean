/- The texts BdD BdE BdF BeA, one behind the other: what the law leans on. Conditions: as each theorem says. -/
import Derived.Test.YtnnfjemaeefbiaaGreatDoorZWpBase3
import Derived.Recover
import Derived.Control
set_option linter.unusedSimpArgs false
set_option linter.unusedVariables false
set_option maxRecDepth 100000
set_option maxHeartbeats 16000000
namespace Go.Proofs.YtnnfjemaeefbiaaGreatDoor
open Go.RowKit
def actD (n:Nat) (f:Fr) (ds:List Deferred):Act:=⟨tm n f,ds⟩
section
variable {P : Program} {B:Wn} {n:Nat} {o:Oper} {f:Fr} {l:List Wp} {K:Value->List Wp->Prop} {ds:List Deferred}
theorem eval_actD : (actD n f ds).eval=evu n f:=by
  rw [<-Wk]
  funext x
  cases x <;> rfl
theorem wp_D {a:Act} {w:World} {next:Act->World->Prop} {Q:Exit->Act->World->Prop} (ds:List Deferred) (h:o.wp P a w (λ a' w'=>next ⟨a'.tmps,a'.defers++ds⟩ w') (λ e a' w'=>Q e ⟨a'.tmps,a'.defers++ds⟩ w')):o.wp P ⟨a.tmps,a.defers++ds⟩ w next Q:=by
  unfold Oper.wp at h ⊢
  have he:(⟨a.tmps,a.defers++ds⟩:Act).eval=a.eval:=by funext x;cases x <;> rfl
  have hp : ∀ d v,(⟨a.tmps,a.defers++ds⟩:Act).put d v=⟨(a.put d v).tmps,(a.put d v).defers++ds⟩:=by intro d v;cases d <;> rfl
  rw [he]
  generalize (execOp a.eval o).run P w=r at h ⊢
  unfold Oper.upon at h ⊢
  split
  . rw [hp];exact h
  . rw [hp];exact h
  . rename_i d w'
    have:({ (⟨a.tmps,a.defers++ds⟩:Act) with defers:=d::(a.defers++ds)}.put o.dst undef)=⟨({a with defers:=d::a.defers}.put o.dst undef).tmps,({a with defers:=d::a.defers}.put o.dst undef).defers++ds⟩:=by cases o.dst <;> rfl
    rw [this];exact h
  . refine Calls.mono h ?_
    intro e w' k
    cases e with
    | returned v =>
      show next ((⟨a.tmps,a.defers++ds⟩:Act).put o.dst v) w'
      rw [hp];exact k
    | panicked c=>exact k
    | outgrown=>obtain ⟨a0,w0,k⟩:=k;exact ⟨_,w0,k⟩
  . refine Rows.mono h ?_
    intro v w' k
    rw [hp];exact k
  . exact h
  . rename_i h1 h2 h3 h4 h5 h6
    revert h
    split <;> simp_all
variable {ops : Array Oper} {rest:List Oper} {Q:Exit->Act->World->Prop} {w:World}
structure LD (P:Program) (ops:Array Oper) (Q:Exit->Act->World->Prop) (n:Nat) (ds:List Deferred) (rest:List Oper) (f:Fr) (w:World):Prop where
  run:wpList P ops Q rest (actD n f ds) w
theorem LD.done (h:Q .normal (actD n f ds) w):LD P ops Q n ds [] f w:=⟨h⟩
theorem wlq {v:Value} (ho:Own B w l) (hq:Qt P B n l o f v) (h:LD P ops Q n ds rest (putd f o.dst v) w) (hw:want n ops f o=true:=by exact rfl):LD P ops Q n ds (o::rest) f w:=by
  constructor
  unfold wpList
  have e:Region.wanted o (yielded ops (actD n f ds).tmps)=true:=(want_eq n ops f o).trans hw
  rw [e,if_pos rfl]
  refine .inl ?_
  unfold Oper.wp
  rw [eval_actD,hq.run w ho]
  have:(actD n f ds).put o.dst v=actD n (putd f o.dst v) ds:=by
    have:=put_act n f o.dst v
    unfold actD
    cases hd:o.dst with
    | none=>rfl
    | some d=>rw [hd] at this;injection this with this _;unfold Act.put;exact congrArg (Act.mk · ds) this
  show wpList P ops Q rest ((actD n f ds).put o.dst v) w
  rw [this];exact h.run
theorem wle (ho:Own B w l) (he:Ef P B n o f l λ v l' => ∀ w',Own B w' l'->LD P ops Q n ds rest (putd f o.dst v) w') (hw:want n ops f o=true:=by exact rfl):LD P ops Q n ds (o::rest) f w:=by
  constructor
  unfold wpList
  have e:Region.wanted o (yielded ops (actD n f ds).tmps)=true:=(want_eq n ops f o).trans hw
  rw [e,if_pos rfl]
  refine .inl ?_
  refine wp_D (a:=act n f) ds (he.run w _ _ ho λ v w' l' k ho'=>?_)
  rw [put_act]
  exact (k w' ho').run
theorem wld {pv:Value} {l':List Wp} (hw:want n ops f o=true) (ho:Own B w l) (hd:Dx P B n o f l pv l') (h : ∀ w',Own B w' l'->Q (.panic (chainOf pv)) (actD n f ds) w'):LD P ops Q n ds (o::rest) f w:=by
  constructor
  unfold wpList
  have e:Region.wanted o (yielded ops (actD n f ds).tmps)=true:=(want_eq n ops f o).trans hw
  rw [e,if_pos rfl]
  refine .inl ?_
  exact wp_D (a:=act n f) ds (hd.run w _ _ ho λ w' ho'=>h w' ho')
theorem ldDefer (hw:want n ops f o=true) (d:Deferred) (hr : ∀ w,(execOp (evu n f) o).run P w = .ok (.defer d) w) (h:LD P ops Q n (d::ds) rest (putd f o.dst undef) w):LD P ops Q n ds (o::rest) f w:=by
  constructor
  unfold wpList
  have e:Region.wanted o (yielded ops (actD n f ds).tmps)=true:=(want_eq n ops f o).trans hw
  rw [e,if_pos rfl]
  refine .inl ?_
  unfold Oper.wp
  rw [eval_actD,hr]
  have:({ (actD n f ds) with defers:=d::(actD n f ds).defers}.put o.dst undef)=actD n (putd f o.dst undef) (d::ds):=by
    have:=put_act n f o.dst undef
    unfold actD
    cases hd:o.dst with
    | none=>rfl
    | some d'=>rw [hd] at this;injection this with this _;unfold Act.put;exact congrArg (Act.mk · (d::ds)) this
  show wpList P ops Q rest ({ (actD n f ds) with defers:=d::(actD n f ds).defers}.put o.dst undef) w
  rw [this];exact h.run
end
def wlS (P:Program) (ops:Array Oper) (Q:Exit->Act->List Frame->World->Prop):List Oper->Act->List Frame->World->Prop
  | [],a,cs,w=>Q .normal a cs w
  | o::rest,a,cs,w =>
    if Region.wanted o (yielded ops a.tmps) then
      match (execOp a.eval o).run P w with
      | .ok .recover w' =>
        match recoverD cs with
        | some (v,cs')=>wlS P ops Q rest (a.put o.dst v) cs' w'
        | none=>wlS P ops Q rest (a.put o.dst .nilIface) cs w'
      | r=>o.upon P a (λ a' w'=>wlS P ops Q rest a' cs w') (λ e a' w'=>Q e a' cs w') r
    else wlS P ops Q rest (a.put o.dst undef) cs w
theorem uponNext {P:Program} {o:Oper} {a:Act} {n1 n2:Act->World->Prop} {Q:Exit->Act->World->Prop} {r:Result Next} (hn : ∀ a w,n1 a w->n2 a w) (h:o.upon P a n1 Q r):o.upon P a n2 Q r:=by
  unfold Oper.upon at h ⊢
  split
  . exact hn _ _ h
  . exact hn _ _ h
  . exact hn _ _ h
  . refine Calls.mono h ?_
    intro e w' k
    cases e with
    | returned v=>exact hn _ _ k
    | panicked c=>exact k
    | outgrown=>exact k
  . exact Rows.mono h λ v w' k=>hn _ _ k
  . exact h
  . revert h
    split <;> simp_all
theorem wlS_ops {P:Program} {ops:Array Oper} {Q:Exit->Act->List Frame->World->Prop} : ∀ (rest:List Oper) (i:Nat) (a:Act) (cs:List Frame) (w:World),ops.toList.drop i=rest->wlS P ops Q rest a cs w->wpOpsS P ops Q (List.range' i rest.length) a cs w
  | [],_,_,_,_,_,h=>h
  | o::rest,i,a,cs,w,hd,h=>by
    have hi:ops[i]? = some o:=getElem?_of_drop hd
    have hd':ops.toList.drop (i+1)=rest:=by
      rw [<-List.drop_drop,hd];rfl
    have ih:=λ a cs w=>wlS_ops (P:=P) (Q:=Q) rest (i+1) a cs w hd'
    unfold wlS at h
    rw [List.length_cons,List.range'_succ]
    simp only [wpOpsS,hi]
    split
    . rename_i hw
      rw [if_pos hw] at h
      split
      . rename_i w' hr
        rw [hr] at h
        dsimp only at h
        split
        . rename_i v cs' hc
          rw [hc] at h
          exact ih _ _ _ h
        . rename_i hc
          rw [hc] at h
          exact ih _ _ _ h
      . rename_i hnr
        have h2:o.upon P a (λ a' w'=>wlS P ops Q rest a' cs w') (λ e a' w'=>Q e a' cs w') ((execOp a.eval o).run P w):=by
          revert h
          split
          . rename_i w' hr;exact absurd hr (hnr w')
          . exact id
        exact uponNext (λ a' w' k=>ih _ _ _ k) h2
    . rename_i hw
      rw [if_neg hw] at h
      exact ih _ _ _ h
theorem wpS_lit0 {P:Program} {QS:Exit->Act->List Frame->World->Prop} {ol:List Oper} {id:Nat} {a:Act} {cs:List Frame} {w:World} (h:wlS P ol.toArray QS ol a cs w):(Code.region id ol.toArray false).wpS P QS a cs w:=by
  refine wpS_region ?_
  have:=wlS_ops ol 0 a cs w (by simp) h
  rwa [<-List.range_eq_range'] at this
section
variable {P : Program} {B:Wn} {n:Nat} {o:Oper} {f:Fr} {l:List Wp}
variable {ops : Array Oper} {rest:List Oper} {w:World}
variable {QS : Exit->Act->List Frame->World->Prop} {cs:List Frame}
structure LS (P:Program) (ops:Array Oper) (QS:Exit->Act->List Frame->World->Prop) (n:Nat) (rest:List Oper) (f:Fr) (cs:List Frame) (w:World):Prop where
  run:wlS P ops QS rest (act n f) cs w
theorem LS.done (h:QS .normal (act n f) cs w):LS P ops QS n [] f cs w:=⟨h⟩
theorem wosq {v:Value} (ho:Own B w l) (hq:Qt P B n l o f v) (h:LS P ops QS n rest (putd f o.dst v) cs w) (hw:want n ops f o=true:=by exact rfl):LS P ops QS n (o::rest) f cs w:=by
  constructor
  unfold wlS
  rw [want_eq,if_pos hw,Wk,hq.run w ho]
  show wlS P ops QS rest ((act n f).put o.dst v) cs w
  rw [put_act];exact h.run
theorem wose (ho:Own B w l) (he:Ef P B n o f l λ v l' => ∀ w',Own B w' l'->LS P ops QS n rest (putd f o.dst v) cs w') (hw:want n ops f o=true:=by exact rfl):LS P ops QS n (o::rest) f cs w:=by
  constructor
  unfold wlS
  rw [want_eq,if_pos hw]
  have h:=he.run w (λ a' w'=>wlS P ops QS rest a' cs w') (λ e a' w'=>QS e a' cs w') ho (λ v w' l' k ho'=>by rw [put_act];exact (k w' ho').run)
  unfold Oper.wp at h
  split
  . rename_i w' hr
    rw [hr] at h
    exact h.elim
  . exact h
theorem wosr {rest':List Frame} {v:Value} (hw:want n ops f o=true) (hr:(execOp (evu n f) o).run P w = .ok .recover w) (hc:recoverD cs=some (v,rest')) (h:LS P ops QS n rest (putd f o.dst v) rest' w):LS P ops QS n (o::rest) f cs w:=by
  constructor
  unfold wlS
  rw [want_eq,if_pos hw,Wk,hr]
  simp only [hc]
  rw [put_act];exact h.run
theorem wosn (hw:want n ops f o=true) (hr:(execOp (evu n f) o).run P w = .ok .recover w) (hc:recoverD cs=none) (h:LS P ops QS n rest (putd f o.dst .nilIface) cs w):LS P ops QS n (o::rest) f cs w:=by
  constructor
  unfold wlS
  rw [want_eq,if_pos hw,Wk,hr]
  simp only [hc]
  rw [put_act];exact h.run
end
theorem wpS_lit {P:Program} {QS:Exit->Act->List Frame->World->Prop} {ol:List Oper} {id n:Nat} {f:Fr} {cs:List Frame} {w:World} (h:LS P ol.toArray QS n ol f cs w):(Code.region id ol.toArray false).wpS P QS (act n f) cs w:=wpS_lit0 h.run
section
variable {P : Program} {B:Wn} {n:Nat} {S:List Wp} {f:Fr}
variable {d : Option Tmp} {ty:TypeId} {pos:String} {af:Array Edge} {gd:Option (Nat×Bool)}
def plainT (P:Program) (t:TypeId):Bool:=match P.underlying t with | some (.interface _)=>false | some _=>true | none=>false
theorem Qt.assertY {x:Operand} {s t:TypeId} {v:Value} (ht:plainT P t=true) (hx:ev n f x=some (.iface t v)):Qt P B n S ⟨d,.typeAssert x s t true,ty,pos,af,gd⟩ f (.tuple [v,.bool true].toArray):=⟨λ w _=>by
  unfold plainT at ht
  split at ht
  . cases ht
  . rename_i dd n1 hu
    simp only [execOp,Zc hx,Instr.typeAssert,Sem.run_bind,run_underlying hu,Result.andThen_ok]
    cases dd <;> first | exact (n1 _ rfl).elim | simp
  . cases ht⟩
theorem Qt.assertN {x:Operand} {s t:TypeId} {i:TypeInfo} {z:Value} (ht:plainT P t=true) (hi:(P.info? t).bind (·.zero)=some z) (hx:ev n f x=some .nilIface):Qt P B n S ⟨d,.typeAssert x s t true,ty,pos,af,gd⟩ f (.tuple [z,.bool false].toArray):=⟨λ w _=>by
  unfold plainT at ht
  cases hii:P.info? t with
  | none=>rw [hii] at hi;cases hi
  | some i =>
    rw [hii] at hi
    simp only [Option.bind_some] at hi
    split at ht
    . cases ht
    . rename_i dd n1 hu
      simp only [execOp,Zc hx,Instr.typeAssert,Sem.run_bind,run_underlying hu,Result.andThen_ok]
      cases dd <;> first | exact (n1 _ rfl).elim | simp [zeroValue,typeInfo,hii,hi]
    . cases ht⟩
end
theorem run_recover {P:Program} {n:Nat} {f:Fr} {d:Option Tmp} {ty:TypeId} {pos:String} {af:Array Edge} {gd:Option (Nat×Bool)} (w:World):(execOp (evu n f) ⟨d,.call ⟨.builtin .recover,#[],#[]⟩,ty,pos,af,gd⟩).run P w = .ok .recover w:=by
  simp [execOp,resolve,invoke,builtin]
open Go.RowKit
theorem results_none {P:Program} {fn:Func} (h:fn.results = #[]) (tmps:Array Value) (w:World):(results fn tmps).run P w = .ok (.tuple #[]) w:=by
  unfold results
  rw [h]
  simp
abbrev a25 (p q:Nat):Array Value := #[.pointer (some ⟨p,0,none⟩),.pointer (some ⟨q,0,none⟩)]
theorem Bd.calm (B:Wn) (l:List Wp) (g4 g5:Nat) (w:World) (ho:Own B w l):CallsD Tryz.prog 25 (a25 g4 g5) .returning w λ e u' w'=>e = .returned (.tuple #[])/\u' = .returning/\Own B w' l:=by
  refine callsD_of_wpS Tryz.func25 rfl λ c₀ cs hu=>?_
  have he:({tmps:=a25 g4 g5++Array.replicate (13-(a25 g4 g5).size) undef,defers:=[]}:Act)=act 13 _:=enter_eq [_,_] 13 (nB rfl)
  rw [show (Func.ntmps _)=13 from rfl,he]
  apply wpS_seq
  apply wpS_lit
  refine wosn rfl (run_recover w) (by simp [recoverD,hu]) ?_
  refine wosq ho (Qt.assertN (i:=default) (z := .agg [iV 0].toArray) (by kernel_rfl) (by kernel_rfl) rfl) ?_
  refine wosq ho (Qm rfl) ?_
  refine wosq ho (Qx rfl rfl) ?_
  refine wosq ho (Qx rfl rfl) ?_
  refine wose ho (El [iV 0] (by unfold Zf;kernel_rfl) ?_)
  intro g w1 ho1
  refine wose ho1 (Es [_] rfl rfl rfl rfl (by simp) ?_)
  intro w2 ho2
  refine wosq ho2 (Qa rfl) ?_
  refine LS.done ?_
  show (Code.seq _ _).wpS _ _ _ _ _
  apply wpS_seq
  apply wpS_lit
  refine wosq ho2 (Qm rfl) ?_
  refine LS.done ?_
  refine wpS_cond (t:=false) rfl ?_
  simp only [Bool.false_eq_true,if_false]
  refine wpS_of_wp (wp_skip ?_)
  exact ⟨rfl,.returning,by cases c₀;simp only at hu;subst hu;rfl,_,results_none rfl _ _,rfl,rfl,ho2.tl⟩
theorem Bd.catch (B:Wn) (l:List Wp) (g4 g5:Nat) (C4 C5:List Value) (h4:C4.length=3) (h5:C5.length=1) (code:Int) (w:World) (ho:Own B w (blk g5 C5 36::blk g4 C4 24::l)):CallsD Tryz.prog 25 (a25 g4 g5) (.panicking (chainOf (pvC code))) w λ e u' w'=>e = .returned (.tuple #[])/\u' = .panicking [{v:=pvC code,recovered:=true}]/\Own B w' (blk g5 [iV code] 36::blk g4 (vaC vZ) 24::l):=by
 obtain ⟨x,rfl⟩ : ∃ x,C5=[x]:=by
  match C5,h5 with
  | [x],_=>exact ⟨x,rfl⟩
 obtain ⟨y0,y1,y2,rfl⟩ : ∃ y0 y1 y2,C4=[y0,y1,y2]:=by
  match C4,h4 with
  | [x,y,z],_=>exact ⟨x,y,z,rfl⟩
 refine callsD_of_wpS Tryz.func25 rfl λ c₀ cs hu=>?_
 have he:({tmps:=a25 g4 g5++Array.replicate (13-(a25 g4 g5).size) undef,defers:=[]}:Act)=act 13 _:=enter_eq [_,_] 13 (nB rfl)
 rw [show (Func.ntmps _)=13 from rfl,he]
 apply wpS_seq
 apply wpS_lit
 refine wosr (v:=pvC code) rfl (run_recover w) (by simp only [recoverD,hu];rfl) ?_
 refine wosq ho (Qt.assertY (by kernel_rfl) rfl) ?_
 refine wosq ho (Qm rfl) ?_
 refine wosq ho (Qx rfl rfl) ?_
 refine wosq ho (Qx rfl rfl) ?_
 refine wose ho (El [iV 0] (by unfold Zf;kernel_rfl) ?_)
 intro g w1 ho1
 refine wose ho1 (Es [_] rfl rfl rfl rfl (by simp) ?_)
 intro w2 ho2
 refine wosq ho2 (Qa rfl) ?_
 refine LS.done ?_
 show (Code.seq _ _).wpS _ _ _ _ _
 apply wpS_seq
 apply wpS_lit
 refine wosq ho2 (Qm rfl) ?_
 refine LS.done ?_
 refine wpS_cond (t:=true) rfl ?_
 simp only [if_true]
 refine wpS_of_wp (wp_mono ((?_:T Tryz.prog B 13 _ (λ e _ l'=>e = .normal/\Sub l' (blk g [iV code] 94::blk g5 [iV code] 36::blk g4 (vaC vZ) 24::l)) _ (blk g [iV code] 94::blk g5 [x] 36::blk g4 [y0,y1,y2] 24::l)).run (λ e a w=>e = .normal/\a.defers=[]/\Own B w (blk g5 [iV code] 36::blk g4 (vaC vZ) 24::l)) w2 ⟨λ e f w l' h ho=>⟨h.1,rfl,(ho.map h.2).tl⟩,λ c a d v w h=>by cases h.1⟩ ho2) ?_)
 .
  refine T.draw 4 ([blk g [iV code] 94]) (nB rfl) ?_
  refine Rq 0 rfl Sa (z8 [(0,1),(1,1),(2,1)] [.int .i64 0,.int .i64 0,.string .empty] [_,_,_] [] (by unfold Zf;kernel_rfl) rfl rfl) ?_
  refine Rq 1 rfl Sa (Q0 rfl) ?_
  refine Rq 2 rfl Sa (Ql rfl rfl) ?_
  refine yK 3 ?_
  refine YH rfl (Es [_,_,_] rfl rfl rfl rfl (by simp) ?_)
  try simp only [splice,lC,lN,dS,cA,tS,tZ,dZ,nA,aN]
  refine ⟨Sa,?_⟩
  refine Rd0 (by rfl) ?_
  simp only [dS,dZ,dN]
  refine L0 (E1 rfl rfl rfl (by first | (simp;done) | (simp;omega)) ?_)
  try simp only [List.set_cons_zero,List.set_cons_succ]
  refine Ld ?_
  exact ⟨rfl,(Sa:Sub _ (blk g [iV code] 94::blk g5 [iV code] 36::blk g4 [iV 0,iV 0,.string .empty] 24::l))⟩
 rintro e a w' ⟨rfl,h1,h2⟩
 exact ⟨h1,.panicking [{v:=pvC code,recovered:=true}],by cases c₀;simp only at hu;subst hu;rfl,_,results_none rfl _ _,rfl,rfl,h2⟩
def evalR (row:List Va) (t:Tm):Va×Int:=match evalT row t with
  | .ok v=>(v,0)
  | .error c=>(vZ,c)
abbrev evD (g4 g5:Nat):Deferred:=⟨.fn (.func 25) (a25 g4 g5),#[]⟩
theorem inv25 (g4 g5:Nat) (w:World):(invoke (.fn (.func 25) (a25 g4 g5)) #[]).run Tryz.prog w = .ok (.enter 25 (a25 g4 g5)) w:=by
  have hf:Tryz.prog.funcs[25]? = some Tryz.f25:=Tryz.func25
  have hn : ¬ Tryz.f25.name = "runtime.NumGoroutine" := by
    have:(Tryz.f25.name == "runtime.NumGoroutine")=false:=rfl
    simpa using this
  have hb : ¬ Tryz.f25.body=none:=λ e=>by
    have:Tryz.f25.body.isNone=false:=rfl
    rw [e] at this;cases this
  simp [invoke,callFunc,hf,hn,hb]
theorem Bd.evalF (B:Wn) (S:List Wp) (row:List Va) (ra:Option Addr) (m rc:Nat) (hrow:FlV B S vaC (.slice ra m rc) row) (hm:row.length=m) (hmn:m<2^32) (t:Tm) (hok:TmOk t) (c:C7) (hc:TmV B S t c):Fn Tryz.prog B 7 #[tA c,.slice ra m rc] S (λ u l=>u = .tuple #[vA (evalR row t).1,iV (evalR row t).2]/\l=S):=by
  obtain ⟨hgood,hbad⟩:=Bd.eval B S row ra m rc hrow hm hmn t hok c hc
  obtain ⟨pa,ca,hcf⟩:=hc.form
  refine ⟨λ w F ho=>?_⟩
  refine calls_of_wp_defers Tryz.func7 rfl ?_
  rw [show (Func.ntmps _)=10 from rfl,enter_eq [_,_] 10 (nB rfl)]
  apply wp_seq
  apply wp_region_lit
  refine (?_:LD _ _ _ 10 [] _ _ _).run
  subst hcf
  refine wle ho (zL [_,_,_,_,_,_,_] rfl rfl ?_)
  intro g2 w1 ho1
  refine wle ho1 (El [iV 0,iV 0,.string .empty] (by unfold Zf;kernel_rfl) ?_)
  intro g4 w2 ho2
  refine wle ho2 (El [iV 0] (by unfold Zf;kernel_rfl) ?_)
  intro g5 w3 ho3
  refine LD.done ?_
  show (Code.seq _ _).wp _ _ _ _
  apply wp_seq
  apply wp_region_lit
  refine (?_:LD _ _ _ 10 [] _ _ _).run
  refine wlq ho3 (Y4 [.pointer (some ⟨g4,0,none⟩),.pointer (some ⟨g5,0,none⟩)] rfl) ?_
  refine ldDefer rfl (evD g4 g5) (λ w=>?_) ?_
  . simp [execOp,resolve,Deferred.ofValue]
    rfl
  refine LD.done ?_
  show (Code.seq _ _).wp _ _ _ _
  apply wp_seq
  apply wp_region_lit
  refine (?_:LD _ _ _ 10 [evD g4 g5] _ _ _).run
  refine wlq ho3 (QL [_,_,_,_,_,_,_] rfl ⟨rfl,rfl,rfl,rfl,rfl,rfl,rfl,trivial⟩) ?_
  refine wlq ho3 (Qm rfl) ?_
  cases e:evalT row t with
  | ok v =>
    refine wle ho3 (Ec (hgood v e) Tryz.func26 rfl rfl rfl ?_)
    rintro _ _ ⟨rfl,rfl⟩ w4 ho4
    refine wle ho4 (Es [_,_,_] rfl rfl rfl rfl (by simp) ?_)
    intro w5 ho5
    refine wle ho5 (Es [_] rfl rfl rfl rfl (by simp) ?_)
    intro w6 ho6
    refine LD.done ?_
    refine wp_ret ?_
    refine leaves_cons (by simp) (inv25 g4 g5 _) ((Bd.calm B _ g4 g5 w6 ho6).mono ?_)
    rintro _ _ w7 ⟨rfl,rfl,ho7⟩
    simp only [settle]
    have hR:evalR row t=(v,0):=by unfold evalR;rw [e]
    rw [hR]
    show ∃ u,(results Tryz.f7 (act 10 _).tmps).run Tryz.prog w7 = .ok u w7/\_
    refine ⟨_,res (rs:=[.cell 4 24,.cell 5 36]) [vA v,iV 0] rfl ⟨rvA [_,_,_] rfl ⟨rfl,rfl,rfl,trivial⟩,rvC (by kernel_rfl) rfl rfl,trivial⟩ w7 ho7,_,_,rfl,⟨rfl,rfl⟩,ho7.map Sa⟩
  | error code =>
    refine wld rfl ho3 (Dx.call (hbad code e) Tryz.func26 rfl rfl rfl) ?_
    intro w4 ho4
    have ho4':Own B w4 (blk g5 [iV 0] 36::blk g4 [iV 0,iV 0,.string .empty] 24::(S++F)):=ho4.map Sa
    refine leaves_cons (by simp) (inv25 g4 g5 _) ((Bd.catch B _ g4 g5 _ _ rfl rfl code w4 ho4').mono ?_)
    rintro _ _ w7 ⟨rfl,rfl,ho7⟩
    simp only [settle,List.dropWhile_nil]
    have hR:evalR row t=(vZ,code):=by unfold evalR;rw [e]
    rw [hR]
    show ∃ u,(results Tryz.f7 (act 10 _).tmps).run Tryz.prog w7 = .ok u w7/\_
    refine ⟨_,res (rs:=[.cell 4 24,.cell 5 36]) [vA vZ,iV code] rfl ⟨rvA [_,_,_] rfl ⟨rfl,rfl,rfl,trivial⟩,rvC (by kernel_rfl) rfl rfl,trivial⟩ w7 ho7,_,_,rfl,⟨rfl,rfl⟩,ho7.map Sa⟩
open Go.RowKit
def TmsS (B:Wn) (S:List Wp) (ts:List Tm) (css:List C7):Prop:=css.length=ts.length /\ ∀ (i:Nat) (t:Tm) (c:C7),ts[i]? = some t->css[i]? = some c->TmV B S t c
theorem TmsS.mono {B:Wn} {S S':List Wp} {ts:List Tm} {css:List C7} (h:TmsS B S ts css) (hs : ∀ w,Own B w S'->Own B w S):TmsS B S' ts css:=⟨h.1,λ i t c h1 h2=>(h.2 i t c h1 h2).mono hs⟩
theorem TmsS.app {B:Wn} {S:List Wp} {ts us:List Tm} {css dss:List C7} (h:TmsS B S ts css) (k:TmsS B S us dss):TmsS B S (ts++us) (css++dss):=⟨by rw [List.length_append,List.length_append,h.1,k.1],λ i t c h1 h2=>by
  by_cases hi:i<ts.length
  . rw [List.getElem?_append_left hi] at h1
    rw [List.getElem?_append_left (by rw [h.1];exact hi)] at h2
    exact h.2 i t c h1 h2
  . rw [List.getElem?_append_right (by omega)] at h1
    rw [List.getElem?_append_right (by rw [h.1];omega),h.1] at h2
    exact k.2 _ t c h1 h2⟩
theorem TmsS.oneC {B:Wn} {S:List Wp} {ts:List Tm} {css:List C7} (h:TmsS B S ts css) : ∀ x∈css.flatMap c7,x.oneCell'=true:=by
  intro x hx
  obtain ⟨c,hc,hxc⟩:=List.mem_flatMap.1 hx
  obtain ⟨i,hi,rfl⟩:=List.getElem_of_mem hc
  obtain ⟨a,m,hf⟩:=(h.2 i _ _ (List.getElem?_eq_getElem (by rw [<-h.1];exact hi)) (List.getElem?_eq_getElem hi)).form
  rw [hf] at hxc
  simp at hxc
  rcases hxc with rfl | rfl | rfl | rfl | rfl | rfl | rfl <;> rfl
theorem TmsS.one {B:Wn} {S:List Wp} {t:Tm} {c:C7} (h:TmV B S t c):TmsS B S [t] [c]:=⟨rfl,λ i u d h1 h2=>by
  cases i with
  | zero=>simp at h1 h2;subst h1;subst h2;exact h
  | succ i=>simp at h1⟩
def holds1 (row:List Va) (t:Tm):Bool:=decide ((evalR row t).2=0) && decide ((evalR row t).1.kind=3) && decide ((evalR row t).1.int=1)
def holdsL (row:List Va) (ts:List Tm):Bool:=ts.all (holds1 row)
theorem holdsL_succ {row:List Va} {ts:List Tm} {k:Nat} {t:Tm} (h:ts[k]? = some t):holdsL row (ts.take (k+1))=(holdsL row (ts.take k) && holds1 row t):=by
  unfold holdsL
  rw [List.take_add_one,h,List.all_append]
  simp
theorem holdsL_false {row:List Va} {ts:List Tm} {k:Nat} {t:Tm} (h:ts[k]? = some t) (hf:holds1 row t=false):holdsL row ts=false:=by
  unfold holdsL
  rw [List.all_eq_false]
  exact ⟨t,List.mem_of_getElem? h,by simpa using hf⟩
theorem Bd.holds (B:Wn) (S:List Wp) (row:List Va) (ra:Option Addr) (m rc:Nat) (hrow:FlV B S vaC (.slice ra m rc) row) (hm:row.length=m) (hmn:m<2^32) (pa:Option Addr) (n pc:Nat) (ts:List Tm) (css:List C7) (hf:FlV B S c7 (.slice pa n pc) css) (hts:TmsS B S ts css) (hn:ts.length=n) (hnn:n<2^32) (hok : ∀ t∈ts,TmOk t):Fn Tryz.prog B 6 #[.slice ra m rc,.slice pa n pc] S (λ u l=>u = .bool (holdsL row ts)/\l=S):=by
 refine Wr 34 Tryz.func6 rfl rfl (nB rfl) (λ F=>?_)
 refine Ts ?_
 refine TR ?_
 refine La rfl ?_
 refine Ld ?_
 refine Ts ?_
 refine Ts ?_
 refine TR ?_
 refine Lm rfl ?_
 refine Lq (yI (e:=27) (sz:=7) rfl) ?_
 refine Lm rfl ?_
 refine Ld ?_
 refine yH ?_
 refine zG (λ mz fz lz => ∃ (f0:Fr) (k:Nat),(k<=n/\holdsL row (ts.take k)=true)/\mz=n-k/\fz=(upd (upd (upd (upd f0 0 (.slice ra m rc)) 9 (.slice pa n pc)) 10 (.int .i64 n)) 11 (.int .i64 k))/\lz=S++F) ?_ ?_
 . refine ⟨_,_,⟨_,0,⟨Nat.zero_le _,rfl⟩,rfl,(Za rfl (Za rfl (Za rfl (Za rfl rfl)))),rfl⟩,Sa⟩
 rintro mz fz lz ⟨f0,k,⟨hk,hh⟩,hmz,rfl,rfl⟩
 subst mz
 refine Ts ?_
 refine TR ?_
 refine Lq (yM rfl rfl) ?_
 refine Ld ?_
 refine Ts ?_
 refine yN rfl (λ hlt=>?_) (λ hlt=>?_)
 .
  obtain ⟨b,o,rfl,hr⟩:=hf.at (sz:=7) (λ _=>rfl) (by omega)
  obtain ⟨t,ht⟩ : ∃ t,ts[k]? = some t:=⟨_,List.getElem?_eq_getElem (by omega)⟩
  obtain ⟨q,hq⟩ : ∃ q,css[k]? = some q:=⟨_,List.getElem?_eq_getElem (by rw [hts.1];omega)⟩
  have hq1:=hr k q hq
  have htv:=hts.2 k t q ht hq
  have hE:=Bd.evalF B S row ra m rc hrow hm hmn t (hok t (List.mem_of_getElem? ht)) q htv
  obtain ⟨pa7,ca7,rfl⟩:=htv.form
  refine Tk ?_
  refine Ts ?_
  refine yH ?_
  refine Ts ?_
  refine TR ?_
  refine Lq (Qi _ (e:=27) (sz:=7) rfl rfl rfl) ?_
  refine Lq (Qt.loadAggW (c7 ⟨tV t.op,iV t.kind,iV t.v.kind,iV t.v.int,tV t.v.text,iV t.place,.slice pa7 t.args.length ca7⟩) rfl (λ w ho=>hq1 w (ho.map Sa))) ?_
  refine Le (El [.string .empty,.int .i64 0,.int .i64 0,.int .i64 0,.string .empty,.int .i64 0,.slice none 0 0] (by unfold Zf;kernel_rfl) ?_)
  intro g6
  refine L0 (Es [_,_,_,_,_,_,_] rfl rfl rfl rfl (by simp) ?_)
  try simp only [splice,lC,lN,dS,cA,tS,tZ,dZ,nA,aN]
  refine Ld ?_
  refine Ts ?_
  refine TR ?_
  refine Lq (QL [_,_,_,_,_,_,_] rfl ⟨rfl,rfl,rfl,rfl,rfl,rfl,rfl,trivial⟩) ?_
  refine Lm rfl ?_
  refine Le (Ec (hE) Tryz.func7 rfl rfl rfl ?_)
  rintro _ _ ⟨rfl,rfl⟩
  refine Lm rfl ?_
  refine Lq (Qx rfl rfl) ?_
  refine Lq (Qx rfl rfl) ?_
  refine Le (El [.int .i64 0,.int .i64 0,.string .empty] (by unfold Zf;kernel_rfl) ?_)
  intro g7
  refine L0 (Es [_,_,_] rfl rfl rfl rfl (by simp) ?_)
  try simp only [splice,lC,lN,dS,cA,tS,tZ,dZ,nA,aN]
  refine La rfl ?_
  refine Ld ?_
  refine Ts ?_
  refine TR ?_
  refine Lm rfl ?_
  refine Lq (yW rfl rfl) ?_
  refine Lm rfl ?_
  refine zZ (t:=23) rfl (λ g1=>?_) (λ g1=>?_)
  .
   try replace g1:=of_decide_eq_true g1
   refine Ls rfl ?_
   refine Ls rfl ?_
   refine Ls rfl ?_
   refine Lq (Qp rfl rfl) ?_
   refine Lm rfl ?_
   refine zQ (t:=28) rfl rfl ?_
   refine Ls rfl ?_
   refine Ls rfl ?_
   refine Ls rfl ?_
   refine Lq (Qp rfl rfl) ?_
   refine Ld ?_
   refine zF rfl ?_
   refine Ts ?_
   refine TR ?_
   refine La rfl ?_
   refine Ld ?_
   refine T.ret ?_
   exact ⟨.inl rfl,_,_,res [_] rfl ⟨rvT rfl,trivial⟩,⟨by rw [holdsL_false ht (by unfold holds1;rw [decide_eq_false g1];rfl)];rfl,rfl⟩,Sa⟩
  try replace g1:=of_decide_eq_false g1
  refine Lq (Q0 rfl) ?_
  refine Lq (Ql rfl rfl) ?_
  refine Lq (yW rfl rfl) ?_
  refine Lq (Qp rfl rfl) ?_
  refine Lm rfl ?_
  refine zZ (t:=28) rfl (λ g2=>?_) (λ g2=>?_)
  .
   try replace g2:=of_decide_eq_true g2
   refine Ls rfl ?_
   refine Ls rfl ?_
   refine Ls rfl ?_
   refine Lq (Qp rfl rfl) ?_
   refine Ld ?_
   refine zF rfl ?_
   refine Ts ?_
   refine TR ?_
   refine La rfl ?_
   refine Ld ?_
   refine T.ret ?_
   exact ⟨.inl rfl,_,_,res [_] rfl ⟨rvT rfl,trivial⟩,⟨by rw [holdsL_false ht (by unfold holds1;rw [decide_eq_false g2];simp)];rfl,rfl⟩,Sa⟩
  try replace g2:=of_decide_eq_false g2
  refine Lq (Qf (off:=1) rfl) ?_
  refine Lq (Ql rfl rfl) ?_
  refine Lq (yW rfl rfl) ?_
  refine Lq (Qp rfl rfl) ?_
  refine Ld ?_
  refine yN rfl (λ g3=>?_) (λ g3=>?_)
  .
   refine Ts ?_
   refine TR ?_
   refine La rfl ?_
   refine Ld ?_
   refine T.ret ?_
   exact ⟨.inl rfl,_,_,res [_] rfl ⟨rvT rfl,trivial⟩,⟨by rw [holdsL_false ht (by unfold holds1;rw [decide_eq_false g3];simp)];rfl,rfl⟩,Sa⟩
  refine Tk ?_
  refine TR ?_
  refine Lq (Qd rfl rfl (Ze)) ?_
  refine Lm rfl ?_
  refine Ld ?_
  refine ⟨_,?_,_,⟨_,k+1,⟨by omega,by rw [holdsL_succ ht,hh];unfold holds1;rw [decide_eq_true (Classical.not_not.1 g1),decide_eq_true (Classical.not_not.1 g2),decide_eq_true (Classical.not_not.1 g3)];rfl⟩,rfl,(Za rfl (Za rfl (Za rfl (Za rfl rfl)))),rfl⟩,Sa⟩
  omega
 obtain rfl:n=k:=by omega
 rw [<-hn,List.take_length] at hh
 refine zB ?_
 refine Ts ?_
 refine TR ?_
 refine La rfl ?_
 refine Ld ?_
 refine T.ret ?_
 exact ⟨.inl rfl,_,_,res [_] rfl ⟨rvT rfl,trivial⟩,⟨by rw [hh];rfl,rfl⟩,Sa⟩
theorem Own.blk_row {B:Wn} {w:World} {g:Nat} {C:List Value} {t sz n:Nat} {l:List Wp} (H:Own B w (blk g C t::l)) (hn:C.length=n*sz) (hm:n<=maxLen):Own B w (row (.slice (some ⟨g,0,none⟩) n n) t sz n C::l) :=
  H.map λ _ k=>Has.weaken (λ _ hb=>⟨hn,.inr ⟨g,n,C.toArray,rfl,hb,Nat.le_refl _,hm,by simp [hn],by simp [<-hn]⟩⟩) k
theorem Bd.elemT7 : ElemOk Tryz.prog 25 27 7 88:=Bd.elemT
open Go.RowKit
section
variable {P : Program} {B:Wn} {n:Nat} {S l r:List Wp} {f:Fr} {K:Value->List Wp->Prop} {Φ:Post}
variable {d : Option Tmp} {ty:TypeId} {pos:String} {af:Array Edge} {gd:Option (Nat×Bool)}
theorem Ef.lits {t e sz len:Nat} {parts:Array (Nat×Operand)} (vs C:List Value) (hp:parts.toList.map (λ p=>(p.1,ev n f p.2))=(vs.zipIdx 0).map λ x=>(x.2,some x.1)) (h1 : ∀ v∈vs,v.cells.size=sz) (hC:(vs.flatMap λ v=>v.cells.toList)=C) (hl:vs.length=len)
    (h : ∀ g,K (.slice (some ⟨g,0,none⟩) len len) (blk g C e::l)) (hk:sliceB P t e sz=true:=by kernel_rfl) (hz:((P.info? e).bind (·.zero)).isSome=true:=by kernel_rfl) (h0:0<len:=by omega) (hs0:0<sz:=by omega) (h24:len*sz<=16777216:=by omega):Ef P B n ⟨d,.buildSlice t len parts,ty,pos,af,gd⟩ f l K:=⟨λ w next Q ho hk'=>by
  subst hC
  obtain ⟨q1,q2⟩:=sliceB_spec hk
  obtain ⟨i,hi,his⟩:=info_of_size q2
  rw [hi] at hz
  obtain ⟨z,hzz⟩:=Option.isSome_iff_exists.1 hz
  have hpe:(parts.map λ p=>(p.1,evu n f p.2)).toList=(vs.zipIdx 0).map λ x=>(x.2,x.1):=by
    rw [Array.toList_map]
    have e:=congrArg (List.map (λ p:Nat×Option Value=>(p.1,p.2.getD undef))) hp
    simp only [List.map_map,Function.comp_def,Option.getD_some] at e
    exact e
  have hpos:0<len*sz:=Nat.mul_pos h0 hs0
  have hr:=run_buildSlice (P:=P) w t e len (parts.map λ p=>(p.1,evu n f p.2)) (vs.flatMap λ v=>v.cells.toList).toArray i z q1 hi (by simpa using hzz) (by rw [his];omega) (by rw [his];omega) (by rw [hpe,his];exact Great.fill_whole hs0 _ _ h1 (by simp [hl]))
  unfold Oper.wp execOp
  simp only [Wk,Sem.run_bind,hr,Sem.run_pure,Result.andThen_ok]
  exact hk' _ _ _ (h _) (ho.alloc _ e)⟩
end
abbrev tblC (g:Nat):List Value:=[iV 1,.string ⟨#[84]⟩,.slice (some ⟨g,0,none⟩) 2 2,.slice none 0 0,.bool false]
abbrev colsC : List Value:=[.string ⟨#[65]⟩,iV 1,.string ⟨#[66]⟩,iV 2]
def tblT : Tb:=⟨1,[84],[([65],1),([66],2)]⟩
def tblSc : List Co:=[⟨[84],[65],1⟩,⟨[84],[66],2⟩]
theorem Be.tbV (B:Wn) (g1 g2:Nat) (l:List Wp):TbV B (blk g1 (tblC g2) 82::blk g2 colsC 140::l) (.slice (some ⟨g1,0,none⟩) 1 1) [tblT] :=
  ⟨_,1,rfl,.inr ⟨g1,0,rfl,λ i t h=>by
    cases i with
    | succ i=>simp at h
    | zero =>
      simp at h;subst h
      exact ⟨_,2,none,0,0,false,λ w ho=>ho.range (g:=g1) (o:=0) (C:=tblC g2) (λ j v hj=>by rw [Nat.zero_add];exact hj),
        ⟨_,2,rfl,.inr ⟨g2,0,rfl,λ w ho=>ho.range (g:=g2) (o:=0) (C:=colsC) (λ j v hj=>by rw [Nat.zero_add];exact hj)⟩⟩⟩⟩⟩
abbrev inI (a:Int):Prop := -9223372036854775808<=a/\a<=9223372036854775807
theorem Bd.kindF (B:Wn) (t:Tm) (S:List Wp) (c:C7) (h:TmV B S t c):Fn Tryz.prog B 24 #[tA c] [] (λ u l=>u=iV t.kind/\l=[]):=by
  obtain ⟨a,m,rfl⟩:=h.form
  refine Wq 5 Tryz.func24 rfl rfl (nB rfl) (λ F=>?_)
  try simp only [cA,nA]
  refine Ts ?_
  refine TR ?_
  refine Le (zL [_,_,_,_,_,_,_] rfl rfl ?_)
  intro g1
  refine La rfl ?_
  refine Ld ?_
  refine Ts ?_
  refine TR ?_
  refine Lq (Qf (off:=1) rfl) ?_
  refine Lq (Ql rfl rfl) ?_
  refine La rfl ?_
  refine Ld ?_
  refine T.ret ?_
  exact ⟨.inl rfl,_,_,res [_] rfl ⟨rvT rfl,trivial⟩,⟨rfl,rfl⟩,Sa⟩
end Go.Proofs.YtnnfjemaeefbiaaGreatDoor
