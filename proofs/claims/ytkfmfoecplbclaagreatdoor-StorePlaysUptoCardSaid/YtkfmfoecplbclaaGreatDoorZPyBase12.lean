/- The texts SxR SxG HeG HeH HeI HeJ HeK HeL HeM HeN HeO, one behind the other: what the law leans on. Conditions: as each theorem says. -/
import Derived.Test.YtkfmfoecplbclaaGreatDoorZPyBase11
import Derived.Recover
import Derived.Control
set_option linter.unusedSimpArgs false
set_option linter.unusedVariables false
set_option maxRecDepth 100000
set_option maxHeartbeats 16000000
namespace Go.Proofs.YtkfmfoecplbclaaGreatDoor
open Go.RowKit
def actD (n:Nat) (f:Fr) (ds:List Deferred):Act:=⟨tm n f,ds⟩
section
variable {P : Program} {B:Wn} {n:Nat} {o:Oper} {f:Fr} {l:List Wp} {K:Value->List Wp->Prop} {ds:List Deferred}
theorem eval_actD : (actD n f ds).eval=evu n f:=by
 rw [<-Wk]
 funext x
 cases x <;> rfl
theorem wp_D {a:Act} {w:World} {next:Act->World->Prop} {Q:Exit->Act->World->Prop} (ds:List Deferred) (h:o.wp P a w (λ a' w'=>next ⟨a'.tmps,a'.defers++ds⟩ w') (λ e a' w'=>Q e ⟨a'.tmps,a'.defers++ds⟩ w')):o.wp P ⟨a.tmps,a.defers++ds⟩ w next Q:=by
  unfold Oper.wp at h ⊢
  have he:(⟨a.tmps,a.defers++ds⟩:Act).eval=a.eval:=by funext x;cases x <;> rfl
  have hp : ∀ d v,(⟨a.tmps,a.defers++ds⟩:Act).put d v=⟨(a.put d v).tmps,(a.put d v).defers++ds⟩:=by intro d v;cases d <;> rfl
  rw [he]
  generalize (execOp a.eval o).run P w=r at h ⊢
  unfold Oper.upon at h ⊢
  split
  . rw [hp];exact h
  . rw [hp];exact h
  . rename_i d w'
    have:({ (⟨a.tmps,a.defers++ds⟩:Act) with defers:=d::(a.defers++ds)}.put o.dst undef)=⟨({a with defers:=d::a.defers}.put o.dst undef).tmps,({a with defers:=d::a.defers}.put o.dst undef).defers++ds⟩:=by cases o.dst <;> rfl
    rw [this];exact h
  . refine Calls.mono h ?_
    intro e w' k
    cases e with
    | returned v =>
      show next ((⟨a.tmps,a.defers++ds⟩:Act).put o.dst v) w'
      rw [hp];exact k
    | panicked c=>exact k
    | outgrown=>obtain ⟨a0,w0,k⟩:=k;exact ⟨_,w0,k⟩
  . refine Rows.mono h ?_
    intro v w' k
    rw [hp];exact k
  . exact h
  . rename_i h1 h2 h3 h4 h5 h6
    revert h
    split <;> simp_all
variable {ops : Array Oper} {rest:List Oper} {Q:Exit->Act->World->Prop} {w:World}
structure LD (P:Program) (ops:Array Oper) (Q:Exit->Act->World->Prop) (n:Nat) (ds:List Deferred) (rest:List Oper) (f:Fr) (w:World):Prop where
 run:wpList P ops Q rest (actD n f ds) w
theorem LD.done (h:Q .normal (actD n f ds) w):LD P ops Q n ds [] f w:=⟨h⟩
theorem wlq {v:Value} (hw:want n ops f o=true) (ho:Own B w l) (hq:Qt P B n l o f v) (h:LD P ops Q n ds rest (putd f o.dst v) w):LD P ops Q n ds (o::rest) f w:=by
 constructor
 unfold wpList
 have e:Region.wanted o (yielded ops (actD n f ds).tmps)=true:=(want_eq n ops f o).trans hw
 rw [e,if_pos rfl]
 refine .inl ?_
 unfold Oper.wp
 rw [eval_actD,hq.run w ho]
 have:(actD n f ds).put o.dst v=actD n (putd f o.dst v) ds:=by
  have:=put_act n f o.dst v
  unfold actD
  cases hd:o.dst with
  | none=>rfl
  | some d=>rw [hd] at this;injection this with this _;unfold Act.put;exact congrArg (Act.mk · ds) this
 show wpList P ops Q rest ((actD n f ds).put o.dst v) w
 rw [this];exact h.run
theorem wle (hw:want n ops f o=true) (ho:Own B w l) (he:Ef P B n o f l λ v l' => ∀ w',Own B w' l'->LD P ops Q n ds rest (putd f o.dst v) w'):LD P ops Q n ds (o::rest) f w:=by
 constructor
 unfold wpList
 have e:Region.wanted o (yielded ops (actD n f ds).tmps)=true:=(want_eq n ops f o).trans hw
 rw [e,if_pos rfl]
 refine .inl ?_
 refine wp_D (a:=act n f) ds (he.run w _ _ ho λ v w' l' k ho'=>?_)
 rw [put_act]
 exact (k w' ho').run
theorem ldDefer (hw:want n ops f o=true) (d:Deferred) (hr : ∀ w,(execOp (evu n f) o).run P w = .ok (.defer d) w) (h:LD P ops Q n (d::ds) rest (putd f o.dst undef) w):LD P ops Q n ds (o::rest) f w:=by
 constructor
 unfold wpList
 have e:Region.wanted o (yielded ops (actD n f ds).tmps)=true:=(want_eq n ops f o).trans hw
 rw [e,if_pos rfl]
 refine .inl ?_
 unfold Oper.wp
 rw [eval_actD,hr]
 have:({ (actD n f ds) with defers:=d::(actD n f ds).defers}.put o.dst undef)=actD n (putd f o.dst undef) (d::ds):=by
  have:=put_act n f o.dst undef
  unfold actD
  cases hd:o.dst with
  | none=>rfl
  | some d'=>rw [hd] at this;injection this with this _;unfold Act.put;exact congrArg (Act.mk · (d::ds)) this
 show wpList P ops Q rest ({ (actD n f ds) with defers:=d::(actD n f ds).defers}.put o.dst undef) w
 rw [this];exact h.run
end
def wlZ (P:Program) (ops:Array Oper) (Q:Exit->Act->List Frame->World->Prop):List Oper->Act->List Frame->World->Prop
 | [],a,cs,w=>Q .normal a cs w
 | o::rest,a,cs,w =>
  if Region.wanted o (yielded ops a.tmps) then
   match (execOp a.eval o).run P w with
   | .ok .recover w' =>
    match recoverD cs with
    | some (v,cs')=>wlZ P ops Q rest (a.put o.dst v) cs' w'
    | none=>wlZ P ops Q rest (a.put o.dst .nilIface) cs w'
   | r=>o.upon P a (λ a' w'=>wlZ P ops Q rest a' cs w') (λ e a' w'=>Q e a' cs w') r
  else wlZ P ops Q rest (a.put o.dst undef) cs w
theorem uponNext {P:Program} {o:Oper} {a:Act} {n1 n2:Act->World->Prop} {Q:Exit->Act->World->Prop} {r:Result Next} (hn : ∀ a w,n1 a w->n2 a w) (h:o.upon P a n1 Q r):o.upon P a n2 Q r:=by
  unfold Oper.upon at h ⊢
  split
  . exact hn _ _ h
  . exact hn _ _ h
  . exact hn _ _ h
  . refine Calls.mono h ?_
    intro e w' k
    cases e with
    | returned v=>exact hn _ _ k
    | panicked c=>exact k
    | outgrown=>exact k
  . exact Rows.mono h λ v w' k=>hn _ _ k
  . exact h
  . revert h
    split <;> simp_all
theorem wlZ_ops {P:Program} {ops:Array Oper} {Q:Exit->Act->List Frame->World->Prop} : ∀ (rest:List Oper) (i:Nat) (a:Act) (cs:List Frame) (w:World),ops.toList.drop i=rest->wlZ P ops Q rest a cs w->wpOpsS P ops Q (List.range' i rest.length) a cs w
  | [],_,_,_,_,_,h=>h
  | o::rest,i,a,cs,w,hd,h=>by
    have hi:ops[i]? = some o:=getElem?_of_drop hd
    have hd':ops.toList.drop (i+1)=rest:=by
      rw [<-List.drop_drop,hd];rfl
    have ih:=λ a cs w=>wlZ_ops (P:=P) (Q:=Q) rest (i+1) a cs w hd'
    unfold wlZ at h
    rw [List.length_cons,List.range'_succ]
    simp only [wpOpsS,hi]
    split
    . rename_i hw
      rw [if_pos hw] at h
      split
      . rename_i w' hr
        rw [hr] at h
        dsimp only at h
        split
        . rename_i v cs' hc
          rw [hc] at h
          exact ih _ _ _ h
        . rename_i hc
          rw [hc] at h
          exact ih _ _ _ h
      . rename_i hnr
        have h2:o.upon P a (λ a' w'=>wlZ P ops Q rest a' cs w') (λ e a' w'=>Q e a' cs w') ((execOp a.eval o).run P w):=by
          revert h
          split
          . rename_i w' hr;exact absurd hr (hnr w')
          . exact id
        exact uponNext (λ a' w' k=>ih _ _ _ k) h2
    . rename_i hw
      rw [if_neg hw] at h
      exact ih _ _ _ h
theorem wpS_lit0 {P:Program} {QS:Exit->Act->List Frame->World->Prop} {ol:List Oper} {id:Nat} {a:Act} {cs:List Frame} {w:World} (h:wlZ P ol.toArray QS ol a cs w):(Code.region id ol.toArray false).wpS P QS a cs w:=by
 refine wpS_region ?_
 have:=wlZ_ops ol 0 a cs w (by simp) h
 rwa [<-List.range_eq_range'] at this
section
variable {P : Program} {B:Wn} {n:Nat} {o:Oper} {f:Fr} {l:List Wp}
variable {ops : Array Oper} {rest:List Oper} {w:World}
variable {QS : Exit->Act->List Frame->World->Prop} {cs:List Frame}
structure LS (P:Program) (ops:Array Oper) (QS:Exit->Act->List Frame->World->Prop) (n:Nat) (rest:List Oper) (f:Fr) (cs:List Frame) (w:World):Prop where
 run:wlZ P ops QS rest (act n f) cs w
theorem LS.done (h:QS .normal (act n f) cs w):LS P ops QS n [] f cs w:=⟨h⟩
theorem wosq {v:Value} (hw:want n ops f o=true) (ho:Own B w l) (hq:Qt P B n l o f v) (h:LS P ops QS n rest (putd f o.dst v) cs w):LS P ops QS n (o::rest) f cs w:=by
 constructor
 unfold wlZ
 rw [want_eq,if_pos hw,Wk,hq.run w ho]
 show wlZ P ops QS rest ((act n f).put o.dst v) cs w
 rw [put_act];exact h.run
theorem wose (hw:want n ops f o=true) (ho:Own B w l) (he:Ef P B n o f l λ v l' => ∀ w',Own B w' l'->LS P ops QS n rest (putd f o.dst v) cs w'):LS P ops QS n (o::rest) f cs w:=by
  constructor
  unfold wlZ
  rw [want_eq,if_pos hw]
  have h:=he.run w (λ a' w'=>wlZ P ops QS rest a' cs w') (λ e a' w'=>QS e a' cs w') ho (λ v w' l' k ho'=>by rw [put_act];exact (k w' ho').run)
  unfold Oper.wp at h
  split
  . rename_i w' hr
    rw [hr] at h
    exact h.elim
  . exact h
theorem wosn (hw:want n ops f o=true) (hr:(execOp (evu n f) o).run P w = .ok .recover w) (hc:recoverD cs=none) (h:LS P ops QS n rest (putd f o.dst .nilIface) cs w):LS P ops QS n (o::rest) f cs w:=by
 constructor
 unfold wlZ
 rw [want_eq,if_pos hw,Wk,hr]
 simp only [hc]
 rw [put_act];exact h.run
end
theorem wpS_lit {P:Program} {QS:Exit->Act->List Frame->World->Prop} {ol:List Oper} {id n:Nat} {f:Fr} {cs:List Frame} {w:World} (h:LS P ol.toArray QS n ol f cs w):(Code.region id ol.toArray false).wpS P QS (act n f) cs w:=wpS_lit0 h.run
section
variable {P : Program} {B:Wn} {n:Nat} {S:List Wp} {f:Fr}
variable {d : Option Tmp} {ty:TypeId} {pos:String} {af:Array Edge} {gd:Option (Nat×Bool)}
def plainT (P:Program) (t:TypeId):Bool:=match P.underlying t with | some (.interface _)=>false | some _=>true | none=>false
theorem Qt.assertN {x:Operand} {s t:TypeId} {i:TypeInfo} {z:Value} (ht:plainT P t=true) (hi:(P.info? t).bind (·.zero)=some z) (hx:ev n f x=some .nilIface):Qt P B n S ⟨d,.typeAssert x s t true,ty,pos,af,gd⟩ f (.tuple [z,.bool false].toArray):=⟨λ w _=>by
  unfold plainT at ht
  cases hii:P.info? t with
  | none=>rw [hii] at hi;cases hi
  | some i =>
    rw [hii] at hi
    simp only [Option.bind_some] at hi
    split at ht
    . cases ht
    . rename_i dd n1 hu
      simp only [execOp,Zc hx,Instr.typeAssert,Sem.run_bind,run_underlying hu,Result.andThen_ok]
      cases dd <;> first | exact (n1 _ rfl).elim | simp [zeroValue,typeInfo,hii,hi]
    . cases ht⟩
end
theorem run_recover {P:Program} {n:Nat} {f:Fr} {d:Option Tmp} {ty:TypeId} {pos:String} {af:Array Edge} {gd:Option (Nat×Bool)} (w:World):(execOp (evu n f) ⟨d,.call ⟨.builtin .recover,#[],#[]⟩,ty,pos,af,gd⟩).run P w = .ok .recover w:=by
 simp [execOp,resolve,invoke,builtin]
theorem results_none {P:Program} {fn:Func} (h:fn.results = #[]) (tmps:Array Value) (w:World):(results fn tmps).run P w = .ok (.tuple #[]) w:=by
 unfold results
 rw [h]
 simp
theorem wp_ofTI {P:Program} {B:Wn} {n:Nat} {c:Code} {Φ:PostD} {ds:List Deferred} {f:Fr} {l:List Wp} {Q:Exit->Act->World->Prop} {w:World} (h:TI P B n none c Φ ds f l) (ho:Own B w l) (hq : ∀ e ds f w l,Φ e ds f l->Own B w l->(∀ c,e ≠ .panic c)/\Q e (actD n f ds) w):c.wp P Q (actD n f ds) w:=by
 refine (wpIn_wide (n:=0)).1 ?_
 exact wpIn_mono (h.run (λ e a w=>(∀ c,e ≠ .panic c)/\Q e a w) w ⟨λ e ds f w l k ho=>hq e ds f w l k ho,λ c a d v w k=>absurd rfl (k.1 c)⟩ ho) (λ _ _ _ k=>k.2)
open Go.RowKit
theorem Cx.elemX : ElemOk Tryz.prog 57 125 3 32 := .mk' (.agg #[.int .i64 0,.int .i64 0,.string ⟨#[]⟩]) Tryz.underlying57 (by kernel_rfl) rfl (by omega)
abbrev a23 (p q:Nat):Array Value := #[.pointer (some ⟨p,0,none⟩),.pointer (some ⟨q,0,none⟩)]
theorem Cx.calm (B:Wn) (l:List Wp) (g2 g3:Nat) (w:World) (ho:Own B w l):CallsD Tryz.prog 110 (a23 g2 g3) .returning w λ e u' w'=>e = .returned (.tuple #[])/\u' = .returning/\Own B w' l:=by
 refine callsD_of_wpS Tryz.func110 rfl λ c₀ cs hu=>?_
 have he:({tmps:=a23 g2 g3++Array.replicate (12-(a23 g2 g3).size) undef,defers:=[]}:Act)=act 12 _:=enter_eq [_,_] 12 (nB rfl)
 rw [show (Func.ntmps _)=12 from rfl,he]
 apply wpS_seq
 apply wpS_lit
 refine wosn rfl (run_recover w) (by simp [recoverD,hu]) ?_
 refine wosq rfl ho (Qt.assertN (i:=default) (z := .agg [.int .i64 0,.int .i64 0].toArray) (by kernel_rfl) (by kernel_rfl) rfl) ?_
 refine wosq rfl ho (Qm rfl) ?_
 refine wosq rfl ho (Qx rfl rfl) ?_
 refine wosq rfl ho (Qx rfl rfl) ?_
 refine wose rfl ho (El [.int .i64 0,.int .i64 0] (by unfold Zf;kernel_rfl) ?_)
 intro g w1 ho1
 refine wose rfl ho1 (Es [_,_] rfl rfl rfl rfl (by simp) ?_)
 intro w2 ho2
 refine wosq rfl ho2 (Qa rfl) ?_
 refine LS.done ?_
 show (Code.seq _ _).wpS _ _ _ _ _
 apply wpS_seq
 apply wpS_lit
 refine wosq rfl ho2 (Qm rfl) ?_
 refine LS.done ?_
 refine wpS_cond (t:=false) rfl ?_
 simp only [Bool.false_eq_true,if_false]
 refine wpS_of_wp (wp_skip ?_)
 exact ⟨rfl,.returning,by cases c₀;simp only at hu;subst hu;rfl,_,results_none rfl _ _,rfl,rfl,ho2.tl⟩
abbrev dcD (g2 g3:Nat):Deferred:=⟨.fn (.func 110) (a23 g2 g3),#[]⟩
theorem inv23 (g2 g3:Nat) (w:World):(invoke (.fn (.func 110) (a23 g2 g3)) #[]).run Tryz.prog w = .ok (.enter 110 (a23 g2 g3)) w:=by
 have hf:Tryz.prog.funcs[110]? = some Tryz.f110:=Tryz.func110
 have hn : ¬ Tryz.f110.name = "runtime.NumGoroutine" := by
  have:(Tryz.f110.name == "runtime.NumGoroutine")=false:=rfl
  simpa using this
 have hb : ¬ Tryz.f110.body=none:=λ e=>by
  have:Tryz.f110.body.isNone=false:=rfl
  rw [e] at this;cases this
 simp [invoke,callFunc,hf,hn,hb]
def DecP (B:Wn) (S F:List Wp) (l:List Vx) (d:Deferred):PostD:=λ e ds f l'=>e = .ret/\ds=[d] /\ ∃ p c,(0<l.length -> ∃ g,p=some ⟨g,0,none⟩)/\(∀ w,Own B w l'->(results Tryz.f57 (act 58 f).tmps).run Tryz.prog w = .ok (.tuple #[.slice p l.length c,.agg #[.int .i64 0,.int .i64 0]]) w)/\Sub l' (vxR p l.length c l::(S++F))
theorem encL_drop {l:List Vx} {bs:List UInt8} (hbs:bs=encL l) {k:Nat} {v:Vx} (h:l[k]? = some v):bs.drop (encL (l.take k)).length=encX v++encL (l.drop (k+1)):=by
 obtain ⟨hk,hv⟩:=List.getElem?_eq_some_iff.1 h
 have:l=l.take k++v::l.drop (k+1):=by rw [<-hv,<-List.drop_eq_getElem_cons hk,List.take_append_drop]
 conv=>lhs;rw [hbs,this,encL_app,encL_cons]
 have e:(l.take k++v::l.drop (k+1)).take k=l.take k:=by rw [<-this]
 rw [e,List.drop_left' rfl]
theorem encL_at {l:List Vx} {bs:List UInt8} (hbs:bs=encL l) (hok : ∀ v∈l,v.Ok) {k:Nat} (hk:k<=l.length):(encL (l.take k)).length<bs.length↔k<l.length:=by
  constructor
  . intro h
    rcases Nat.lt_or_ge k l.length with q | q
    . exact q
    . rw [List.take_of_length_le q,<-hbs] at h;omega
  . intro h
    have hx:l[k]? = some l[k]:=List.getElem?_eq_getElem h
    have h1:=congrArg List.length (encL_drop hbs hx)
    have h2:=(encX_len (hok _ (List.getElem_mem h))).1
    rw [List.length_drop,List.length_append] at h1
    omega
theorem Cx.decode (B:Wn) (S:List Wp) (l:List Vx) (pb:Option Addr) (m cb:Nat) (bs:List UInt8) (hbs:bs=encL l) (hm:bs.length=m) (hok : ∀ v∈l,v.Ok) (hv:RdV B S (.slice pb m cb) (Zb bs)) (hmx:m<2^30) :
    Fn Tryz.prog B 57 #[.slice pb m cb] S (λ u r => ∃ p c,(0<l.length -> ∃ g,p=some ⟨g,0,none⟩)/\u = .tuple #[.slice p l.length c,.agg #[.int .i64 0,.int .i64 0]]/\r=vxR p l.length c l::S):=by
  have hll:=(encL_len hok).1
  rw [<-hbs,hm] at hll
  refine ⟨λ w F ho=>?_⟩
  refine calls_of_wp_defers Tryz.func57 rfl ?_
  rw [show (Func.ntmps _)=58 from rfl,enter_eq [_] 58 (nB rfl)]
  apply wp_seq
  apply wp_region_lit
  refine (?_:LD _ _ _ 58 [] _ _ _).run
  refine wle rfl ho (El [.slice none 0 0] (by unfold Zf;kernel_rfl) ?_)
  intro g2 w2 ho2
  refine wle rfl ho2 (El [.int .i64 0,.int .i64 0] (by unfold Zf;kernel_rfl) ?_)
  intro g3 w3 ho3
  refine LD.done ?_
  show (Code.seq _ _).wp _ _ _ _
  apply wp_seq
  apply wp_region_lit
  refine (?_:LD _ _ _ 58 [] _ _ _).run
  refine wlq rfl ho3 (Y4 [.pointer (some ⟨g2,0,none⟩),.pointer (some ⟨g3,0,none⟩)] rfl) ?_
  refine ldDefer rfl (dcD g2 g3) (λ w=>?_) ?_
  . simp [execOp,resolve,Deferred.ofValue]
    rfl
  refine LD.done ?_
  show (Code.seq _ _).wp _ _ _ _
  refine wp_ofTI (B:=B) (Φ:=DecP B S F l (dcD g2 g3)) (l:=blk g3 [.int .i64 0,.int .i64 0] 176::blk g2 [.slice none 0 0] 57::(S++F)) ?_ ho3 ?_
  . skip
    refine TI.seq ?_
    refine TI.region (by rfl) ?_
    refine Lm rfl (Lq (z8 [(0,1),(1,1)] [.slice none 0 0,.int .i64 0] [_,_] [(0,_)] (by unfold Zf;kernel_rfl) rfl rfl) ?_)
    refine Le (zL [.slice pb m cb,.int .i64 0] rfl rfl ?_)
    intro g10
    refine LW.conv (l':=vxR none 0 0 (l.take 0)::srcB g10 pb m cb 0::_) (λ w ho=>ho.row_nil _ _) (La rfl (Ld ?_))
    refine TI.seq ?_
    refine TI.block ?_
    refine TI.loop (λ mz fz lz => ∃ (f0:Fr) (k q:Nat) (p:Option Addr) (c:Nat),(k<=l.length/\q=(encL (l.take k)).length/\(0<k -> ∃ g,p=some ⟨g,0,none⟩))/\mz=l.length-k/\fz=(upd (upd (upd (upd f0 0 (.slice pb m cb)) 2 (.pointer (some ⟨g2,0,none⟩))) 3 (.pointer (some ⟨g3,0,none⟩))) 4 (.pointer (some ⟨g10,0,none⟩)))/\lz=vxR p k c (l.take k)::blk g2 [.slice p k c] 57::blk g3 [.int .i64 0,.int .i64 0] 176::srcB g10 pb m cb q::(S++F)) ?_ ?_
    . refine ⟨_,_,⟨_,0,0,none,0,⟨Nat.zero_le _,rfl,λ h=>by omega⟩,rfl,U4,rfl⟩,Sa⟩
    rintro mz fz lz ⟨f0,k,q,p,c,⟨hk,hq,hp⟩,hmz,rfl,rfl⟩
    subst mz
    have hiff:=encL_at hbs hok hk
    rw [<-hq,hm] at hiff
    refine TI.seq ?_
    refine TI.seq ?_
    refine TI.region (by rfl) ?_
    iterate 7 refine Lz ?_
    refine Ld ?_
    refine TI.condP rfl (λ hlt=>?_) (λ hlt=>?_)
    . skip
      have hkl:k<l.length:=hiff.1 (by omega)
      obtain ⟨v,hx⟩ : ∃ v,l[k]? = some v:=⟨_,List.getElem?_eq_getElem hkl⟩
      have hvo:=hok v (List.mem_of_getElem? hx)
      have hdq:=encL_drop hbs hx
      rw [<-hq] at hdq
      have hnx:=encL_next hx
      have htk:l.take (k+1)=l.take k++[v]:=by rw [List.take_succ_eq_append_getElem hkl,(List.getElem?_eq_some_iff.1 hx).2]
      by_cases k1:v.k=1
      . skip
        have hes:encX v=1::be (numX v.n) 8:=by unfold encX;rw [if_pos k1]
        have hvs:v.s=[] /\ -(2^63)<=v.n/\v.n<2^63:=by rcases hvo with ⟨_,q1,q2,q3⟩ | ⟨q,_⟩;exact ⟨q1,q2,q3⟩;omega
        rw [hes,List.cons_append] at hdq
        refine TI.skip ?_
        refine TI.block ?_
        refine TI.seq ?_
        refine TI.region (by rfl) ?_
        refine Lm rfl ?_
        refine Le (Ec (Cx.next B S g10 pb m cb q bs 1 hm (drop_get hdq) hv (by omega)) Tryz.func111 rfl rfl rfl ?_)
        rintro _ _ ⟨rfl,rfl⟩
        try simp only [cA,nA]
        refine Lq (yX (k' := .i64) (r:=1) rfl rfl) (La rfl (Ld ?_))
        refine TI.seq ?_
        refine TI.region (by rfl) ?_
        refine Lm rfl (Ld ?_)
        refine TI.block ?_
        refine TI.seq ?_
        refine TI.region (by rfl) ?_
        refine Lq (yU rfl rfl) (La rfl (Ld ?_))
        refine TI.condT rfl ?_
        have hdq2:bs.drop (q+1)=be (numX v.n) 8++encL (l.drop (k+1)):=drop_more (a:=[1]) hdq
        refine TI.seq ?_
        refine TI.region (by rfl) ?_
        refine La rfl (Ld ?_)
        refine TI.seq ?_
        refine TI.seq ?_
        refine TI.region (by rfl) ?_
        refine Lm rfl (Ld ?_)
        refine TI.block ?_
        refine TI.loop (λ mz fz lz => ∃ (f0:Fr) (j:Nat) (u:UInt64),(j<=8/\u=Wg ((be (numX v.n) 8).take j))/\mz=8-j/\fz=(upd (upd (upd (upd (upd (upd f0 0 (.slice pb m cb)) 2 (.pointer (some ⟨g2,0,none⟩))) 3 (.pointer (some ⟨g3,0,none⟩))) 4 (.pointer (some ⟨g10,0,none⟩))) 6 (.int .u64 u.toNat)) 32 (.int .i64 j))/\lz=vxR p k c (l.take k)::blk g2 [.slice p k c] 57::blk g3 [.int .i64 0,.int .i64 0] 176::srcB g10 pb m cb (q+1+j)::(S++F)) ?_ ?_
        . refine ⟨_,_,⟨_,0,0,⟨Nat.zero_le _,rfl⟩,rfl,U6,rfl⟩,Sa⟩
        rintro mz fz lz ⟨f0,j,u,⟨hj,hu⟩,hmz,rfl,rfl⟩
        subst mz
        refine TI.seq ?_
        refine TI.region (by rfl) ?_
        refine Lq (yM rfl rfl) (Ld ?_)
        refine TI.seq ?_
        refine TI.condP rfl (λ hlt2=>?_) (λ hlt2=>?_)
        . skip
          have hbl:(be (numX v.n) 8).length=8:=Zd _ _
          have hj8:j<(be (numX v.n) 8).length:=by omega
          obtain ⟨x,hxx⟩ : ∃ x,(be (numX v.n) 8)[j]'hj8=x:=⟨_,rfl⟩
          have hat:bs[q+1+j]? = some x:=by rw [<-List.getElem?_drop,hdq2,List.getElem?_append_left hj8,List.getElem?_eq_getElem hj8,hxx]
          refine TI.skip ?_
          refine TI.seq ?_
          refine TI.block ?_
          refine TI.region (by rfl) ?_
          refine Lm rfl (Lq (ZU rfl rfl) (Lm rfl ?_))
          refine Le (Ec (Cx.next B S g10 pb m cb (q+1+j) bs x hm hat hv (by omega)) Tryz.func111 rfl rfl rfl ?_)
          rintro _ _ ⟨rfl,rfl⟩
          try simp only [cA,nA]
          refine Lq (yX (k' := .u64) (r:=x.toNat) rfl (by have:=x.toNat_lt;simp [IntKind.wrap,IntKind.bits,IntKind.signed];omega)) (Lq (ZY x.toUInt64 rfl rfl (by simp)) (La rfl (Ld ?_)))
          refine TI.region (by rfl) ?_
          iterate 2 refine Lz ?_
          refine Ld ?_
          refine ⟨rfl,_,?_,_,⟨_,j+1,_,⟨by omega,by rw [List.take_succ_eq_append_getElem hj8,hxx,get64_snoc,<-hu]⟩,rfl,U6,rfl⟩,Sa⟩
          omega
        obtain rfl:j=8:=by omega
        rw [List.take_of_length_le (by rw [Zd];omega),get64_be _ (by have:=(numX v.n).toNat_lt;omega)] at hu
        subst hu
        refine TI.exit ?_
        refine TI.region (by rfl) ?_
        iterate 2 refine Lz ?_
        refine Lq (Qt.bits64 (BitVec.ofInt 64 v.n).toNat rfl (.inr rfl) rfl rfl (by show (BitVec.ofInt 64 _ ^^^ BitVec.ofInt 64 _).toNat=_;rw [BitVec.toNat_xor,<-num_back hvs.2.1 hvs.2.2,show (BitVec.ofInt 64 ((numX v.n).toNat:Int)).toNat=(numX v.n).toNat by rw [BitVec.toNat_ofInt];have:=(numX v.n).toNat_lt;omega];rfl) (by rw [wrU_bits,BitVec.toNat_ofInt,BitVec.toNat_ofInt];omega)) (Lq (yX (k' := .i64) (r:=v.n) rfl (wrI_bits hvs.2.1 hvs.2.2)) (Lq (z8 [(0,1),(1,1),(2,1)] [.int .i64 0,.int .i64 0,.string .empty] [_,_,_] [(0,_),(1,_)] (by unfold Zf;kernel_rfl) rfl rfl) ?_))
        refine Le (zK [_,_,_] (e:=125) (sz:=3) ⟨.agg #[.int .i64 0,.int .i64 0,.string .empty],by kernel_rfl,rfl⟩ rfl rfl rfl ?_)
        intro g46
        refine Le (Ea Cx.elemX rfl rfl (SrcOf.blk (by kernel_rfl) rfl (by simp [Value.oneCell'])) (by unfold maxLen;omega) ?_)
        rintro p1 c1 hp1
        try simp only [cA,nA]
        rw [show List.flatMap vxC (List.take k l)++[Value.int .i64 1,Value.int .i64 v.n,Value.string ByteArray.empty]=List.flatMap vxC (List.take (k+1) l) by rw [htk,List.flatMap_append];congr 1;simp [k1,hvs.1];rfl]
        refine L0 (E1 (by kernel_rfl) rfl rfl rfl (by first | (simp;done) | (simp;omega)) ?_)
        try simp only [List.set_cons_zero,List.set_cons_succ]
        refine Ld ?_
        refine ⟨rfl,_,?_,_,⟨_,k+1,q+1+8,p1,c1,⟨by omega,by rw [hnx,hes,List.length_append,<-hq];simp [Zd],hp1⟩,rfl,U4,rfl⟩,Sa⟩
        omega
      have hk2:v.k=2/\v.n=0/\v.s.length<=64:=by rcases hvo with ⟨q,_⟩ | q;exact absurd q k1;exact q
      have hes:encX v=2::(escB v.s++[0,0]):=by unfold encX;rw [if_neg k1]
      rw [hes,List.cons_append] at hdq
      refine TI.skip ?_
      refine TI.block ?_
      refine TI.seq ?_
      refine TI.region (by rfl) ?_
      refine Lm rfl ?_
      refine Le (Ec (Cx.next B S g10 pb m cb q bs 2 hm (drop_get hdq) hv (by omega)) Tryz.func111 rfl rfl rfl ?_)
      rintro _ _ ⟨rfl,rfl⟩
      try simp only [cA,nA]
      refine Lq (yX (k' := .i64) (r:=2) rfl rfl) (La rfl (Ld ?_))
      refine TI.seq ?_
      refine TI.region (by rfl) ?_
      refine Lm rfl (Ld ?_)
      refine TI.block ?_
      refine TI.seq ?_
      refine TI.region (by rfl) ?_
      refine Lq (yU rfl rfl) (La rfl (Ld ?_))
      refine TI.condF rfl ?_
      refine TI.seq ?_
      refine TI.region (by rfl) ?_
      refine Lq (yU rfl rfl) (La rfl (Ld ?_))
      refine TI.condT rfl ?_
      have hdq2:bs.drop (q+1)=escB v.s++0::0::encL (l.drop (k+1)):=(drop_more (a:=[2]) hdq).trans (by simp)
      refine TI.draw 6 ([blk g2 [.slice p k c] 57]) (by kernel_rfl) (nB rfl) (by kernel_rfl) (by rfl) ?_
      refine Rz 0 ?_;refine Rz 1 ?_
      refine yK 2 ?_
      refine z6 rfl (Ec (Cx.text B S g10 pb m cb (q+1) bs v.s (encL (l.drop (k+1))) hm hdq2 hk2.2.2 hv (by omega)) Tryz.func112 rfl rfl rfl ?_)
      rintro _ _ ⟨rfl,rfl⟩
      try simp only [cA,nA]
      refine ⟨Sa,?_⟩
      refine Rq 3 rfl Sa (z8 [(0,1),(1,1),(2,1)] [.int .i64 0,.int .i64 0,.string .empty] [_,_,_] [(0,_),(2,_)] (by unfold Zf;kernel_rfl) rfl rfl) (yK 4 ?_)
      refine z6 rfl (zK [_,_,_] (e:=125) (sz:=3) ⟨.agg #[.int .i64 0,.int .i64 0,.string .empty],by kernel_rfl,rfl⟩ rfl rfl rfl ?_)
      intro g54
      refine ⟨Sa,?_⟩
      refine yK 5 ?_
      refine zY rfl (Ea Cx.elemX rfl rfl (SrcOf.blk (by kernel_rfl) rfl (by simp [Value.oneCell'])) (by unfold maxLen;omega) ?_)
      rintro p1 c1 hp1
      try simp only [cA,nA]
      rw [show List.flatMap vxC (List.take k l)++[Value.int .i64 2,Value.int .i64 0,strW v.s]=List.flatMap vxC (List.take (k+1) l) by rw [htk,List.flatMap_append];congr 1;simp [hk2.1,hk2.2.1]]
      refine Rd0 (by rfl) ?_
      simp only [dS,dZ,dN]
      refine L0 (E1 (by kernel_rfl) rfl rfl rfl (by first | (simp;done) | (simp;omega)) ?_)
      try simp only [List.set_cons_zero,List.set_cons_succ]
      refine Ld ?_
      refine ⟨rfl,_,?_,_,⟨_,k+1,q+1+(escB v.s).length+2,p1,c1,⟨by omega,by rw [hnx,hes,List.length_append,<-hq];simp;omega,hp1⟩,rfl,U4,rfl⟩,Sa⟩
      omega
    obtain rfl:k=l.length:=by have:=mt hiff.2;omega
    rw [List.take_length]
    refine TI.exit ?_
    refine TI.seq ?_
    refine TI.region (by rfl) ?_
    refine Lq (Ql rfl rfl) (Lq (z8 [(0,1),(1,1)] [.int .i64 0,.int .i64 0] [_,_] [] (by unfold Zf;kernel_rfl) rfl rfl) ?_)
    refine L0 (E1 (by kernel_rfl) rfl rfl rfl (by first | (simp;done) | (simp;omega)) ?_)
    try simp only [List.set_cons_zero,List.set_cons_succ]
    refine L0 (Es [_,_] rfl rfl rfl rfl (by simp) ?_)
    try simp only [splice,lC,lN,dS,cA,tS,tZ,dZ,nA,aN]
    refine Ld ?_
    refine TI.ret ?_
    exact ⟨rfl,rfl,p,c,hp,res (rs:=[.cell 2 57,.cell 3 176]) [_,_] rfl ⟨rvC rfl rfl,rvA [_,_] rfl ⟨rfl,rfl,trivial⟩,trivial⟩,Sa⟩
  . rintro e ds f w l' ⟨rfl,rfl,p,c,hp,hres,hs⟩ ho'
    refine ⟨(λ c e=>by cases e),?_⟩
    refine leaves_cons (by simp) (inv23 g2 g3 _) ((Cx.calm B _ g2 g3 w ho').mono ?_)
    rintro _ _ w7 ⟨rfl,rfl,ho7⟩
    simp only [settle]
    exact ⟨_,hres w7 ho7,_,_,rfl,⟨p,c,hp,rfl,rfl⟩,ho7.map hs⟩
open Go.RowKit
structure HpQ where
 gm:Nat
 gl:Nat
 gp:Nat
abbrev hpB (g:Nat) (q:HpQ) (pc:Option Addr) (nc cc:Nat) (last:Int):Wp:=blk g [.map (some q.gm),.slice pc nc cc,.int .i64 last,pV q.gl,pV q.gp] 139
abbrev wlS (b:Nat) (q:HpQ) (s:Pl):Wp:=wlA q.gl b s.W
abbrev plS (b n logs count:Nat) (q:HpQ) (s:Pl):Wp:=plA q.gp b n logs count s.hand q.gl s.A
def rcSet (rc:Nat->List (List UInt8)) (bb:Bool) (p:Nat) (r:List (List UInt8)):Nat->List (List UInt8):=if bb=true then λ x=>if x=p then r else rc x else rc
theorem Hp.with (B:Wn) (g b n logs count K:Nat) (q:HpQ) (pc:Option Addr) (nc cc:Nat) (last:Int) (s:Pl) (es:List En) (rc:Nat->List (List UInt8)) (hs:SInv logs count n K s es rc) (hK:K<2^30) (p:Nat) (hp:p<count) (pi:Int) (hpi:pi=p) (mark:Nat) (mi:Int) (hmi:mi=mark) (hm:mark<2^40)
  (gc:FuncId) (fn:Func) (caps:List Value) (X:List Wp) (R:Bool->List (List UInt8)->List Wp->Prop) (hf:Tryz.prog.funcs[gc]? = some fn) (hn:(fn.name == "runtime.NumGoroutine")=false) (hb:fn.body.isNone=false)
  (hdo : ∀ gpg m,Fn Tryz.prog B gc ([pV gpg]++caps).toArray (pgA gpg (rc p) m::hpB g q pc nc cc last::X) (λ v l => ∃ bb r' X',R bb r' X'/\v = .bool bb/\l=pgA gpg r' m::hpB g q pc nc cc last::X'))
  (hR : ∀ r' X',R true r' X'->PgOk r'/\r'.length<256) :
  Fn Tryz.prog B 52 #[pV g,.int .i64 pi,.int .i64 mi,.func (.func gc) #[] caps.toArray] (hpB g q pc nc cc last::wlS b q s::plS b n logs count q s::Zn b s.D::X)
   (λ u l => ∃ bb r' X' s',R bb r' X'/\SInv logs count n (K+1) s' es (rcSet rc bb p r')/\u = .tuple #[]/\l=hpB g q pc nc cc last::wlS b q s'::plS b n logs count q s'::Zn b s'.D::X'):=by
 subst hpi;subst hmi
 obtain ⟨s1,i,x,m,hP⟩:=hs.round (by omega) hp
 have hF:=hs.inv.F
 have hn2:=hF.n2
 have hlen:=hF.len
 have hpins : ∀ x∈s.A,x.pins<2^62:=λ x hx=>by have:=hs.inv.pins x hx;omega
 have hF1:=hP.inv.F
 have hlen1:=hF1.len
 have hpins1 : ∀ x∈s1.A,x.pins<2^62:=λ x hx=>by have:=hP.inv.pins x hx;omega
 have hpe:=hs.inv.pend
 have hx256:=hP.bl
 obtain ⟨A,hand,W,D⟩:=s
 dsimp only [wlS,plS] at hF hlen hpins hpe ⊢
 refine Fn.enter4 53 Tryz.func52 rfl rfl (nB rfl) (λ F=>?_)
 try simp only [cA,nA]
 refine TS ?_
 iterate 5 refine Lz ?_
 refine Le (Ec (Bp.pin B q.gp b n logs count hand q.gl A W D p hF hpins hs.inv.hand (hs.inv.w (by omega)) hs.inv.ok (by omega) hs.inv.sec) Tryz.func44 rfl rfl rfl ?_)
 rintro _ _ ⟨rfl,rfl⟩
 try simp only [cA,nA]
 rw [hP.pin]
 refine Ld (TS ?_)
 iterate 5 refine Lz ?_
 refine Le (Ec (Bp.bytes B q.gp b n logs count s1.hand q.gl s1.A p hlen1 hn2 i x hP.pnd 256 hP.bl (by omega)) Tryz.func106 rfl rfl rfl ?_)
 rintro _ _ ⟨p5,c5,rfl,hp5,rfl⟩
 try simp only [cA,nA]
 iterate 5 refine Lz ?_
 refine Ld (TS (Lm rfl (LW.own λ w ho=>?_)))
 have hcap:=ho.cap_at (p:=p5) (m:=256) (c:=c5)
 clear ho
 refine Le (Ec (Pg.open_ok hP.opn (Pg.open B [rB (.slice p5 256 c5) 256 x.b] p5 256 c5 x.b (RdV.rB hP.bl hp5) hP.bl hcap (by omega))) Tryz.func107 rfl rfl rfl ?_)
 rintro _ _ ⟨gpg,rfl,rfl⟩
 try simp only [cA,nA]
 iterate 5 refine Lz ?_
 refine Ld (Ts (TS (Lm rfl (Lm rfl ?_))))
 refine Le (ZE [pV gpg] caps (hdo gpg m) hf hn hb rfl rfl rfl ?_)
 rintro _ _ ⟨bb,r',X',hRR,rfl,rfl⟩
 simp only [List.cons_append,List.nil_append]
 refine Ld ?_
 refine Y9 rfl (λ hbb=>?_) (λ hbb=>?_)
 .
  subst hbb
  obtain ⟨hr1,hr2⟩:=hR r' X' hRR
  obtain ⟨A2,A3,hput,hinv2,hun,hS⟩:=hP.put r' mark hr1 hr2 hm
  have hl2:=hinv2.F.len
  have hpins2 : ∀ x∈A2,x.pins<2^62:=λ x hx=>by have:=hinv2.pins x hx;omega
  have hpl:=length_pgBytes (recs:=r') (mark:=mark) hr1.used
  refine TS (Lm rfl (Lm rfl ?_))
  refine Le (Ec (Pg.setMark B gpg r' m mark) Tryz.func108 rfl rfl rfl ?_)
  rintro _ _ ⟨rfl,rfl⟩
  try simp only [cA,nA]
  refine Ld (T.draw 9 ([hpB g q pc nc cc last]) (nB rfl) ?_)
  refine Rz 0 ?_;refine Rz 1 ?_;refine Rz 2 ?_;refine Rz 3 ?_;refine Rz 4 ?_;refine Rz 5 ?_;refine Rz 7 ?_
  refine yK 6 ?_
  refine z6 rfl (Ec (Fn.own (Pg.bytes B gpg r' mark)) Tryz.func47 rfl rfl rfl ?_)
  rintro _ _ ⟨⟨p6,c6,rfl,rfl⟩,w6,F6,ho6⟩
  try simp only [cA,nA]
  simp only [List.cons_append,List.nil_append] at ho6
  have hp6:0<256 -> ∃ g,p6=some ⟨g,0,none⟩:=(ho6.slice_at (p:=p6) (m:=256) (c:=c6)).2.1
  clear ho6
  refine ⟨Sa,?_⟩
  refine yK 8 ?_
  refine zY rfl (Ec (Bp.put B [rB (.slice p6 256 c6) 256 (Zx r' mark)] q.gp b n logs count s1.hand q.gl s1.A p hlen1 hn2 i x hP.pnd p6 c6 (Zx r' mark) mark hpl (RdV.rB hpl hp6)) Tryz.func45 rfl rfl rfl ?_)
  rintro _ _ ⟨rfl,rfl⟩
  try simp only [cA,nA]
  rw [hput]
  refine Rd0 (by rfl) ?_
  simp only [dS,dZ,dN]
  refine Ld (TR ?_)
  iterate 5 refine Lz ?_
  refine Le (Ec (Bp.unpin B q.gp b n logs count s1.hand q.gl A2 p hl2 hn2 hpins2) Tryz.func48 rfl rfl rfl ?_)
  rintro _ _ ⟨rfl,rfl⟩
  try simp only [cA,nA]
  rw [hun]
  refine Ld ?_
  exact ⟨.inr rfl,_,_,res [] rfl trivial,⟨true,r',X',{s1 with A:=A3},hRR,hS,rfl,rfl⟩,Sa⟩
 subst hbb
 obtain ⟨A3,hun,hS⟩:=hP.keep
 refine Tk (TR ?_)
 iterate 5 refine Lz ?_
 refine Le (Ec (Bp.unpin B q.gp b n logs count s1.hand q.gl s1.A p hlen1 hn2 hpins1) Tryz.func48 rfl rfl rfl ?_)
 rintro _ _ ⟨rfl,rfl⟩
 try simp only [cA,nA]
 rw [hun]
 refine Ld ?_
 exact ⟨.inr rfl,_,_,res [] rfl trivial,⟨false,r',X',{s1 with A:=A3},hRR,hS,rfl,rfl⟩,Sa⟩
open Go.RowKit
theorem Hp.redo1 (B:Wn) (S:List Wp) (A:Wp) (g gpg g3 g4 g6:Nat) (recs recs':List (List UInt8)) (m:Int) (e:En) (p:Option Addr) (c:Nat)
  (hap:Fn Tryz.prog B 100 #[pV g,pV gpg,enV e p c] (pgA gpg recs m::S) (λ u l=>u = .int .i64 0/\l=pgA gpg recs' m::S)) :
  Fn Tryz.prog B 99 #[pV gpg,pV g3,pV g4,pV g6] (pgA gpg recs m::A::blk g3 [pV g] 83::enB g4 e p c::blk g6 [.int .i64 0] 42::S) (λ v l=>v = .bool true/\l=pgA gpg recs' m::A::blk g3 [pV g] 83::enB g4 e p c::blk g6 [.int .i64 0] 42::S):=by
 refine Fn.enter4 12 Tryz.func99 rfl rfl (nB rfl) (λ F=>?_)
 try simp only [cA,nA]
 refine TS (La rfl (Ld (TS ?_)))
 iterate 3 refine Lz ?_
 refine Le (Ec (hap) Tryz.func100 rfl rfl rfl ?_)
 rintro _ _ ⟨rfl,rfl⟩
 try simp only [cA,nA]
 refine L0 (E1 (by kernel_rfl) rfl rfl rfl (by first | (simp;done) | (simp;omega)) ?_)
 try simp only [List.set_cons_zero,List.set_cons_succ]
 refine Ld (TS ?_)
 iterate 3 refine Lz ?_
 refine Ld (T.ret ?_)
 exact ⟨.inl rfl,_,_,res [_] rfl ⟨rvT rfl,trivial⟩,⟨rfl,rfl⟩,Sa⟩
theorem Hp.redoC (B:Wn) (g:Nat) (mark:Int) (e:En) (p:Option Addr) (c:Nat) (hk:e.kind=3):Fn Tryz.prog B 50 #[pV g,enV e p c,.int .i64 mark] [] (λ u l=>u = .int .i64 0/\l=[]):=by
 refine Ws 27 Tryz.func50 rfl rfl (nB rfl) (λ F=>?_)
 try simp only [cA,nA]
 refine TS ?_
 refine Le (zL [_] rfl rfl ?_)
 intro g3
 refine Le (zL [_,_,_,_,_,_] rfl rfl ?_)
 intro g4
 refine Le (El [.int .i64 0] (by unfold Zf;kernel_rfl) ?_)
 intro g6
 refine Ld (Ts (TS ?_))
 iterate 3 refine Lz ?_
 refine Ld (zM rfl (TS ?_))
 refine L0 (E1 (by kernel_rfl) rfl rfl rfl (by first | (simp;done) | (simp;omega)) ?_)
 try simp only [List.set_cons_zero,List.set_cons_succ]
 refine Ld (T.ret ?_)
 exact ⟨.inl rfl,_,_,res [_] rfl ⟨rvC rfl rfl,trivial⟩,⟨rfl,rfl⟩,Sa⟩
theorem Hp.redoP (B:Wn) (S:List Wp) (g b n logs count K:Nat) (q:HpQ) (pc:Option Addr) (nc cc:Nat) (last:Int) (s:Pl) (es:List En) (rc:Nat->List (List UInt8)) (hs:SInv logs count n K s es rc) (hK:K<2^30) (mark:Nat) (hm:mark<2^40) (e:En) (p:Option Addr) (c:Nat) (hk:e.kind≠3) (j:Nat) (hj:e.page=j) (hjc:j<count) (recs':List (List UInt8)) (hr1:PgOk recs') (hr2:recs'.length<256)
  (hap : ∀ gpg m,Fn Tryz.prog B 100 #[pV g,pV gpg,enV e p c] (pgA gpg (rc j) m::S) (λ u l=>u = .int .i64 0/\l=pgA gpg recs' m::S)) :
  Fn Tryz.prog B 50 #[pV g,enV e p c,.int .i64 mark] (hpB g q pc nc cc last::wlS b q s::plS b n logs count q s::Zn b s.D::S)
   (λ u l => ∃ s',SInv logs count n (K+1) s' es (rcSet rc true j recs')/\u = .int .i64 0/\l=hpB g q pc nc cc last::wlS b q s'::plS b n logs count q s'::Zn b s'.D::S):=by
 refine Ws 27 Tryz.func50 rfl rfl (nB rfl) (λ F=>?_)
 try simp only [cA,nA]
 refine TS ?_
 refine Le (zL [_] rfl rfl ?_)
 intro g3
 refine Le (zL [_,_,_,_,_,_] rfl rfl ?_)
 intro g4
 refine Le (El [.int .i64 0] (by unfold Zf;kernel_rfl) ?_)
 intro g6
 refine Ld (Ts (TS ?_))
 iterate 3 refine Lz ?_
 refine Ld (yL rfl (Tk (Ts (Ts (T.draw 10 ([hpB g q pc nc cc last,enB g4 e p c,blk g3 [pV g] 83]) (nB rfl) ?_)))))
 refine Rz 0 ?_;refine Rz 1 ?_;refine Rz 2 ?_;refine Rz 3 ?_;refine Rz 4 ?_;refine Rz 5 ?_;refine Rz 6 ?_;refine Rz 7 ?_
 refine yK 8 ?_
 refine z6 rfl (Ec (Bp.pages B q.gp b n logs count s.hand q.gl s.A) Tryz.func43 rfl rfl rfl ?_)
 rintro _ _ ⟨rfl,rfl⟩
 try simp only [cA,nA]
 refine ⟨Sa,?_⟩
 refine Rz 9 ?_
 refine Rd0 (by rfl) ?_
 simp only [dS,dZ,dN]
 refine Ld (yL rfl (Tk (TS ?_)))
 iterate 4 refine Lz ?_
 refine Lq (Y4 [_,_,_] rfl) ?_
 refine Le (Ec (Hp.with B g b n logs count K q pc nc cc last s es rc hs hK j hjc e.page hj mark mark rfl hm 99 Tryz.f99 [pV g3,pV g4,pV g6] (blk g3 [pV g] 83::enB g4 e p c::blk g6 [.int .i64 0] 42::S) (λ bb r' X'=>bb=true/\r'=recs'/\X'=blk g3 [pV g] 83::enB g4 e p c::blk g6 [.int .i64 0] 42::S) Tryz.func99 rfl rfl (λ gpg m=>(Hp.redo1 B S (hpB g q pc nc cc last) g gpg g3 g4 g6 (rc j) recs' m e p c (hap gpg m)).mono (λ v l ⟨h1,h2⟩=>⟨true,recs',_,⟨rfl,rfl,rfl⟩,h1,h2⟩)) (λ r' X' h=>by obtain ⟨_,rfl,_⟩:=h;exact ⟨hr1,hr2⟩)) Tryz.func52 rfl rfl rfl ?_)
 rintro _ _ ⟨bb,r',X',s',⟨rfl,rfl,rfl⟩,hS,rfl,rfl⟩
 try simp only [cA,nA]
 refine Ld (TS (Lq (Ql rfl rfl) ?_))
 refine L0 (E1 (by kernel_rfl) rfl rfl rfl (by first | (simp;done) | (simp;omega)) ?_)
 try simp only [List.set_cons_zero,List.set_cons_succ]
 refine Ld (T.ret ?_)
 exact ⟨.inl rfl,_,_,res [_] rfl ⟨rvC rfl rfl,trivial⟩,⟨s',hS,rfl,rfl⟩,Sa⟩
open Go.RowKit
theorem LogI.room {logs:Nat} {W:Wl} {D:DD} {es:List En} (h:LogI logs W D es) (hw:W.st.length<=W.count*256) (e:En) (he:EnOk e) (hf:logs*256<W.st.length+enSz e):addW W (Zj e)=(W,0,3):=by
 obtain ⟨l1,l2,l3⟩:=h.first
 have hd:=encE_ok he
 unfold enSz at hf
 unfold addW
 rw [if_neg hd.1,if_neg (by have:=hd.2;omega),if_pos (by rw [l2];omega)]
theorem Hp.writeFull (B:Wn) (S:List Wp) (g b logs count n K:Nat) (q:HpQ) (pc:Option Addr) (nc cc:Nat) (last:Int) (s:Pl) (es:List En) (rc:Nat->List (List UInt8)) (hs:SInv logs count n K s es rc) (e:En) (p:Option Addr) (c:Nat) (he:EnOk e) (hv:RdV B S (.slice p e.data.length c) (Zb e.data)) (hf:logs*256<s.W.st.length+enSz e:=by omega) :
  Fn Tryz.prog B 82 #[pV g,enV e p c] (hpB g q pc nc cc last::wlS b q s::S) (λ u l=>u = .int .i64 3/\l=hpB g q pc nc cc last::wlS b q s::S):=by
 have hwst:=hs.inv.wst
 obtain ⟨l1,l2,l3⟩:=hs.log.first
 have hlen:=hs.len
 have hmax:=hs.inv.ok.max
 have hel:(Zj e).length<=2^40:=by have:=(encE_ok he).2;omega
 have hadd:=hs.log.room hwst e he hf
 refine Wr 33 Tryz.func82 rfl rfl (nB rfl) (λ F=>?_)
 try simp only [cA,nA]
 refine TS ?_
 refine Le (zL [_,_,_,_,_,_] rfl rfl ?_)
 intro g3
 refine La rfl (Ld (TS ?_))
 refine Lz ?_
 refine Le (Ec (Tl.encode B S e p c he hv) Tryz.func126 rfl rfl rfl ?_)
 rintro _ _ ⟨p1,c1,rfl,hp1,rfl⟩
 try simp only [cA,nA]
 iterate 5 refine Lz ?_
 refine Ld (Ts (TS (Lm rfl (Lq (yW rfl rfl) (Ld (yQ rfl (Tk (TS ?_))))))))
 iterate 5 refine Lz ?_
 refine Le (zK [_] (e:=97) (sz:=1) ⟨.slice none 0 0,by kernel_rfl,rfl⟩ rfl rfl rfl ?_)
 intro g22
 refine Le (Ec (Wl.add B [blk g22 [.slice p1 (Zj e).length c1] 97,rB (.slice p1 (Zj e).length c1) (Zj e).length (Zj e)] q.gl b s.W (some ⟨g22,0,none⟩) 1 [Zj e] 1 rfl (PartsV.one ((RdV.rB rfl hp1).mono (λ w ho=>ho.map Sa))) (by simp) (by simp) (Zj e) (by simp) hel (by omega) hwst) Tryz.func127 rfl rfl rfl ?_)
 rintro _ _ ⟨rfl,rfl⟩
 try simp only [cA,nA]
 rw [hadd]
 iterate 5 refine Lz ?_
 refine Ld (Ts (TS (Lm rfl (Lq (yW rfl rfl) (Ld (zF rfl (TS (Lm rfl (La rfl (Ld (T.ret ?_)))))))))))
 exact ⟨.inl rfl,_,_,res [_] rfl ⟨rvT rfl,trivial⟩,⟨rfl,rfl⟩,Sa⟩
theorem Hp.writeP (B:Wn) (S:List Wp) (g b logs count n K:Nat) (q:HpQ) (pc:Option Addr) (nc cc:Nat) (last:Int) (s:Pl) (es:List En) (rc:Nat->List (List UInt8)) (hs:SInv logs count n K s es rc) (hK:K<2^30) (e:En) (p:Option Addr) (c:Nat) (he:EnOk e) (hv:RdV B S (.slice p e.data.length c) (Zb e.data)) (hf:s.W.st.length+enSz e<=logs*256) (hk:e.kind≠3) (j:Nat) (hj:e.page=j) (hjc:j<count) (recs':List (List UInt8)) (hr1:PgOk recs') (hr2:recs'.length<256)
  (hap : ∀ (X:List Wp),RdV B X (.slice p e.data.length c) (Zb e.data) -> ∀ gpg m,Fn Tryz.prog B 100 #[pV g,pV gpg,enV e p c] (pgA gpg (rc j) m::X) (λ u l=>u = .int .i64 0/\l=pgA gpg recs' m::X)) :
  Fn Tryz.prog B 82 #[pV g,enV e p c] (hpB g q pc nc cc last::wlS b q s::plS b n logs count q s::Zn b s.D::S) (λ u l => ∃ s',SInv logs count n (K+1) s' (es++[e]) (rcSet rc true j recs')/\u = .int .i64 0/\l=hpB g q pc nc cc last::wlS b q s'::plS b n logs count q s'::Zn b s'.D::S):=by
 have hwst:=hs.inv.wst
 obtain ⟨l1,l2,l3⟩:=hs.log.first
 have hlen:=hs.len
 have hmax:=hs.inv.ok.max
 have hel:(Zj e).length<=2^40:=by have:=(encE_ok he).2;omega
 obtain ⟨hadd,hs2⟩:=hs.append he hk hf
 obtain ⟨W2,hW2⟩ : ∃ W2,mkW 0 logs ((es++[e]).map Zj) s.W.dur=W2:=⟨_,rfl⟩
 rw [hW2] at hadd hs2
 have hredo:=Hp.redoP B S g b n logs count K q pc nc cc last _ (es++[e]) rc hs2 hK (s.W.st.length+enSz e) (by omega) e p c hk j hj hjc recs' hr1 hr2 (hap S hv)
 dsimp only [wlS,plS] at hredo ⊢
 refine Wr 33 Tryz.func82 rfl rfl (nB rfl) (λ F=>?_)
 try simp only [cA,nA]
 refine TS ?_
 refine Le (zL [_,_,_,_,_,_] rfl rfl ?_)
 intro g3
 refine La rfl (Ld (TS ?_))
 refine Lz ?_
 refine Le (Ec (Tl.encode B S e p c he hv) Tryz.func126 rfl rfl rfl ?_)
 rintro _ _ ⟨p1,c1,rfl,hp1,rfl⟩
 try simp only [cA,nA]
 iterate 5 refine Lz ?_
 refine Ld (Ts (TS (Lm rfl (Lq (yW rfl rfl) (Ld (yQ rfl (Tk (TS ?_))))))))
 iterate 5 refine Lz ?_
 refine Le (zK [_] (e:=97) (sz:=1) ⟨.slice none 0 0,by kernel_rfl,rfl⟩ rfl rfl rfl ?_)
 intro g22
 refine Le (Ec (Wl.add B [blk g22 [.slice p1 (Zj e).length c1] 97,rB (.slice p1 (Zj e).length c1) (Zj e).length (Zj e)] q.gl b s.W (some ⟨g22,0,none⟩) 1 [Zj e] 1 rfl (PartsV.one ((RdV.rB rfl hp1).mono (λ w ho=>ho.map Sa))) (by simp) (by simp) (Zj e) (by simp) hel (by omega) hwst) Tryz.func127 rfl rfl rfl ?_)
 rintro _ _ ⟨rfl,rfl⟩
 try simp only [cA,nA]
 rw [hadd]
 iterate 5 refine Lz ?_
 refine Ld (Ts (TS (Lm rfl (Lq (yW rfl rfl) (Ld (yQ rfl (Tk (TS ?_))))))))
 iterate 3 refine Lz ?_
 refine Le (Ec (hredo) Tryz.func50 rfl rfl rfl ?_)
 rintro _ _ ⟨s',hS,rfl,rfl⟩
 try simp only [cA,nA]
 refine La rfl (Ld (T.ret ?_))
 exact ⟨.inl rfl,_,_,res [_] rfl ⟨rvT rfl,trivial⟩,⟨s',hS,rfl,rfl⟩,Sa⟩
theorem Hp.writeC (B:Wn) (g b logs count n K:Nat) (q:HpQ) (pc:Option Addr) (nc cc:Nat) (last:Int) (s:Pl) (es:List En) (rc:Nat->List (List UInt8)) (hs:SInv logs count n K s es rc) (e:En) (he:EnOk e) (hd:e.data=[]) (hf:s.W.st.length+enSz e<=logs*256) (hk:e.kind=3) (W2:Wl) (r:Int) (hadd:addW s.W (Zj e)=(W2,r,0)) :
  Fn Tryz.prog B 82 #[pV g,enV e none 0] [hpB g q pc nc cc last,wlS b q s] (λ u l=>u = .int .i64 0/\l=[hpB g q pc nc cc last,wlA q.gl b W2]):=by
 have hwst:=hs.inv.wst
 obtain ⟨l1,l2,l3⟩:=hs.log.first
 have hlen:=hs.len
 have hmax:=hs.inv.ok.max
 have hel:(Zj e).length<=2^40:=by have:=(encE_ok he).2;omega
 refine Wr 33 Tryz.func82 rfl rfl (nB rfl) (λ F=>?_)
 try simp only [cA,nA]
 refine TS ?_
 refine Le (zL [_,_,_,_,_,_] rfl rfl ?_)
 intro g3
 refine La rfl (Ld (TS ?_))
 refine Lz ?_
 refine Le (Ec (Tl.encode B [] e none 0 he (by rw [hd];exact RdV.nil _ 0)) Tryz.func126 rfl rfl rfl ?_)
 rintro _ _ ⟨p1,c1,rfl,hp1,rfl⟩
 try simp only [cA,nA]
 iterate 5 refine Lz ?_
 refine Ld (Ts (TS (Lm rfl (Lq (yW rfl rfl) (Ld (yQ rfl (Tk (TS ?_))))))))
 iterate 5 refine Lz ?_
 refine Le (zK [_] (e:=97) (sz:=1) ⟨.slice none 0 0,by kernel_rfl,rfl⟩ rfl rfl rfl ?_)
 intro g22
 refine Le (Ec (Wl.add B [blk g22 [.slice p1 (Zj e).length c1] 97,rB (.slice p1 (Zj e).length c1) (Zj e).length (Zj e)] q.gl b s.W (some ⟨g22,0,none⟩) 1 [Zj e] 1 rfl (PartsV.one ((RdV.rB rfl hp1).mono (λ w ho=>ho.map Sa))) (by simp) (by simp) (Zj e) (by simp) hel (by omega) hwst) Tryz.func127 rfl rfl rfl ?_)
 rintro _ _ ⟨rfl,rfl⟩
 try simp only [cA,nA]
 rw [hadd]
 iterate 5 refine Lz ?_
 refine Ld (Ts (TS (Lm rfl (Lq (yW rfl rfl) (Ld (yQ rfl (Tk (TS ?_))))))))
 iterate 3 refine Lz ?_
 refine Le (Ec (Hp.redoC B g r e none 0 hk) Tryz.func50 rfl rfl rfl ?_)
 rintro _ _ ⟨rfl,rfl⟩
 try simp only [cA,nA]
 refine La rfl (Ld (T.ret ?_))
 exact ⟨.inl rfl,_,_,res [_] rfl ⟨rvT rfl,trivial⟩,⟨rfl,rfl⟩,Sa⟩
open Go.RowKit
abbrev zV (a:Int):Value := .int .i64 a
abbrev stC (p:Int×Int):List Value:=[.int .i64 p.1,.int .i64 p.2]
abbrev cmR (pc:Option Addr) (n cc:Nat) (l:List (Int×Int)):Wp:=row (.slice pc n cc) 94 2 n (l.flatMap stC)
abbrev stA (q:HpQ) (st:List (Int×Int)):Wp:=mpA zV zV q.gm st
structure HpX where
 q:HpQ
 pc:Option Addr
 cc:Nat
 s:Pl
 st:List (Int×Int)
abbrev hpC (g b logs count n:Nat) (x:HpX) (h:HR):List Wp:=[hpB g x.q x.pc h.cm.length x.cc h.last,stA x.q x.st,cmR x.pc h.cm.length x.cc h.cm,wlS b x.q x.s,plS b n logs count x.q x.s,Zn b x.s.D]
def hpA (g b logs count n K:Nat) (h:HR):Wp:=exA λ x:HpX=>sepL (pu (HInv logs count n K x.s x.st h)::hpC g b logs count n x h)
theorem Own.openHp {B:Wn} {w:World} {g b logs count n K:Nat} {h:HR} {l:List Wp} (H:Own B w (hpA g b logs count n K h::l)) : ∃ x,HInv logs count n K x.s x.st h/\Own B w (hpC g b logs count n x h++l):=by
 obtain ⟨k,a,c,H0⟩:=H.has
 obtain ⟨x,H1⟩:=Has.open_ex H0
 have H2:=Has.open_sepL H1
 obtain ⟨hA,H3⟩:=Has.open_pu H2
 exact ⟨x,hA,H.os,H.tape,H.output,H.ro,k,a,c,H3⟩
theorem Fn.openHp {P:Program} {B:Wn} {f:FuncId} {args:Array Value} {g b logs count n K:Nat} {h:HR} {S:List Wp} {R:Value->List Wp->Prop}
  (hh : ∀ x:HpX,HInv logs count n K x.s x.st h->(0<h.cm.length -> ∃ g,x.pc=some ⟨g,0,none⟩)->Fn P B f args (hpC g b logs count n x h++S) R):Fn P B f args (hpA g b logs count n K h::S) R:=⟨λ w F ho=>by
 obtain ⟨x,hi,ho'⟩:=Own.openHp (l:=S++F) ho
 rw [<-List.append_assoc] at ho'
 have ho2:=ho'
 simp only [List.cons_append,List.nil_append] at ho2
 exact (hh x hi (ho2.slice_at (p:=x.pc) (m:=h.cm.length) (c:=x.cc)).2.1).run w F ho'⟩
theorem Wb {g b logs count n K:Nat} (L:List Wp) (x:HpX) (h:HR) (hi:HInv logs count n K x.s x.st h) (e:L=hpC g b logs count n x h) {l r m:List Wp} [k:TakeL L l r] [t:SubC (hpA g b logs count n K h::r) m]:Sub l m:=λ p H=>by
 refine t.sub p (Has.close_ex x ?_)
 refine Has.close_sepL (l:=pu _::hpC g b logs count n x h) (Has.close_pu hi ?_)
 have:=k.take p H
 rw [e] at this
 exact this
theorem Hp.okS : MapOk Tryz.prog 133 zV (zV 0):=MapOk.mk3 2 3 (.int .i64) Tryz.underlying133 Tryz.underlying2 (λ _=>rfl) i64_inj
theorem Hp.elemC : ElemOk Tryz.prog 84 94 2 16 := .mk' (.agg #[.int .i64 0,.int .i64 0]) Tryz.underlying84 (by kernel_rfl) rfl (by omega)
theorem one_stC {l:List (Int×Int)} : ∀ v∈l.flatMap stC,v.oneCell'=true:=by
 intro v hv
 obtain ⟨x,_,h⟩:=List.mem_flatMap.1 hv
 simp at h
 rcases h with rfl | rfl <;> rfl
theorem HInv.begin {logs count n K:Nat} {s:Pl} {st:List (Int×Int)} {h:HR} (i:HInv logs count n K s st h):HInv logs count n (K+1) s (putL st (h.last+1) 1) (beginR h):=⟨i.s.mono (Nat.le_succ _),i.r.begin,i.st.begin,i.pages,i.room,by have:=i.lastK;show h.last+1<=_;omega⟩
theorem HInv.without {logs count n K:Nat} {s:Pl} {st:List (Int×Int)} {h:HR} (i:HInv logs count n K s st h) {t:Int} (ht:Zp h t=true):HInv logs count n K s (putL st t 0) (Zo h t):=⟨i.s,i.r.without t,i.st.without i.r ht,i.pages,i.room,i.lastK⟩
theorem Hp.begin (B:Wn) (g b logs count n K:Nat) (h:HR) (hK:K<2^30):Fn Tryz.prog B 36 #[pV g] [hpA g b logs count n K h] (λ u l=>u = .int .i64 (h.last+1)/\l=[hpA g b logs count n (K+1) (beginR h)]):=by
 refine Fn.openHp λ x hi hp=>?_
 simp only [hpC,List.append_nil]
 have h0:=hi.r.last0
 have h1:=hi.lastK
 refine Wq 22 Tryz.func36 rfl rfl (nB rfl) (λ F=>?_)
 try simp only [cA,nA]
 refine TS (La rfl (Ld (TS ?_)))
 iterate 7 refine Lz ?_
 refine L0 (E1 (by kernel_rfl) rfl rfl rfl (by first | (simp;done) | (simp;omega)) ?_)
 try simp only [List.set_cons_zero,List.set_cons_succ]
 refine Ld (Ts (T.draw 8 ([hpB g x.q x.pc h.cm.length x.cc (h.last+1)]) (nB rfl) ?_))
 refine Rz 0 ?_;refine Rz 1 ?_;refine Rz 2 ?_;refine Rz 3 ?_;refine Rz 4 ?_;refine Rz 5 ?_;refine Rz 6 ?_;refine Rz 7 ?_
 refine Rd0 (by rfl) ?_
 simp only [dS,dZ,dN]
 refine L0 (Y0 Hp.okS rfl (h.last+1) rfl 1 rfl ?_)
 refine Ld (TS ?_)
 iterate 5 refine Lz ?_
 refine Ld (T.ret ?_)
 exact ⟨.inl rfl,_,_,res [_] rfl ⟨rvT rfl,trivial⟩,⟨rfl,rfl⟩,Wb [hpB g x.q x.pc h.cm.length x.cc (h.last+1),stA x.q (putL x.st (h.last+1) 1),cmR x.pc h.cm.length x.cc h.cm,wlS b x.q x.s,plS b n logs count x.q x.s,Zn b x.s.D] {x with st:=putL x.st (h.last+1) 1} (beginR h) hi.begin rfl⟩
theorem Hp.flush (B:Wn) (g b logs count n K:Nat) (h:HR) (hK:K<2^30):Fn Tryz.prog B 29 #[pV g] [hpA g b logs count n K h] (λ u l=>u = .tuple #[]/\l=[hpA g b logs count n K h]):=by
 refine Fn.openHp λ x hi hp=>?_
 simp only [hpC,List.append_nil]
 have hf:=hi.s.flush (by omega)
 refine Wq 7 Tryz.func29 rfl rfl (nB rfl) (λ F=>?_)
 try simp only [cA,nA]
 refine TR ?_
 iterate 4 refine Lz ?_
 refine Le (Ec (Bp.flush B x.q.gp b n logs count x.s.hand x.q.gl x.s.A x.s.W x.s.D hi.s.inv.F hi.s.inv.dp (hi.s.inv.w (by omega)) hi.s.inv.ok hi.s.inv.sec) Tryz.func69 rfl rfl rfl ?_)
 rintro _ _ ⟨rfl,rfl⟩
 try simp only [cA,nA]
 refine Ld ?_
 exact ⟨.inr rfl,_,_,res [] rfl trivial,⟨rfl,rfl⟩,Wb [hpB g x.q x.pc h.cm.length x.cc h.last,stA x.q x.st,cmR x.pc h.cm.length x.cc h.cm,wlA x.q.gl b (Zv x.s.W x.s.D (Zm x.s.A)).1,plA x.q.gp b n logs count x.s.hand x.q.gl (cleanA x.s.A),Zn b (Zz (Zv x.s.W x.s.D (Zm x.s.A)).2 (dirtyL logs x.s.A)).sync] {x with s:=flushP logs x.s} h ⟨hf,hi.r,hi.st,hi.pages,hi.room,hi.lastK⟩ rfl⟩
open Go.RowKit
theorem Sub.eqL {l L L' r F:List Wp} (e:L=L') [k:TakeL L l r] [t:Tail r F]:Sub l (L'++F):=λ p H=>by
 subst e
 obtain ⟨h1,h2,d,a,b,e1,e2⟩:=Has.split (k.take p H)
 exact Has.join d a b e1 (t.tl _ e2)
theorem cm_at {l:List (Int×Int)} {j:Nat} {c:Int×Int} (h:l[j]? = some c):(l.flatMap stC)[0+j*2+1]? = some (.int .i64 c.2):=by
 obtain ⟨hj,hc⟩:=List.getElem?_eq_some_iff.1 h
 have:=flat_cell stC 2 l (λ _ _=>rfl) j 1 hj (v := .int .i64 c.2) (by rw [hc];rfl)
 exact this
theorem HInv.commit {logs count n K:Nat} {s:Pl} {st:List (Int×Int)} {h:HR} (i:HInv logs count n K s st h) (hK:K<2^31) {t stamp:Int} (ht:Zp h t=true) (hb:badStamp h stamp=false) (hf:h.used+25<=h.room) :
  EnOk (cmE t stamp)/\s.W.st.length+enSz (cmE t stamp)<=logs*256 /\ ∃ r,addW s.W (Zj (cmE t stamp))=(mkW 0 logs ((h.es++[cmE t stamp]).map Zj) s.W.dur,r,0)/\WOk (mkW 0 logs ((h.es++[cmE t stamp]).map Zj) s.W.dur) s.D /\
   HInv logs count n K {s with W:=(mkW 0 logs ((h.es++[cmE t stamp]).map Zj) s.W.dur).flushed,D:=Wh (mkW 0 logs ((h.es++[cmE t stamp]).map Zj) s.W.dur) s.D} (putL st t 2) (Zg (Zo h t) (cmE t stamp)):=by
 have hu:=i.used
 have hl:h.last<2^62:=by have:=i.lastK;omega
 have hok:=i.r.cmStep hl ht hb hf
 have hsz:s.W.st.length+enSz (cmE t stamp)<=logs*256:=by
  have hr:=i.room
  rw [enSz_eq];simp only [if_true];omega
 obtain ⟨h1,h2,h3⟩:=i.s.commit hK hok.ok hsz
 have hrc:Zi (Zg (Zo h t) (cmE t stamp)).vs=Zi h.vs:=funext λ q=>recs_commit (h:=Zo h t) rfl q
 refine ⟨hok.ok,hsz,_,h1,h2,?_,(i.r.without t).write hok (i.r.act1 t (isAct_iff.1 ht)).2 (λ _=>by simp [Zo]),i.st.commit i.r ht,i.pages,i.room,i.lastK⟩
 rw [hrc]
 exact h3
def cmDisk (logs:Nat) (h:HR) (s:Pl) (t stamp:Int):DD:=if (Zl h t stamp).2=0 then Wh (mkW 0 logs ((h.es++[cmE t stamp]).map Zj) s.W.dur) s.D else s.D
theorem Hp.commitX (B:Wn) (g b logs count n K:Nat) (h:HR) (hK:K<2^30) (t stamp:Int) (x:HpX) (hi:HInv logs count n K x.s x.st h) (hp:0<h.cm.length -> ∃ g,x.pc=some ⟨g,0,none⟩) (hcl:h.cm.length<2^32) :
    Fn Tryz.prog B 39 #[pV g,.int .i64 t,.int .i64 stamp] (hpC g b logs count n x h) (λ u l => ∃ x',HInv logs count n K x'.s x'.st (Zl h t stamp).1/\x'.s.D=cmDisk logs h x.s t stamp/\u = .int .i64 (Zl h t stamp).2/\l=hpC g b logs count n x' (Zl h t stamp).1):=by
  simp only [hpC]
  have ha:=hi.st.act t
  by_cases hc:Zp h t=true
  . by_cases hb:badStamp h stamp=true
    . have he:Zl h t stamp=(h,1):=by unfold Zl;rw [if_pos hc,if_pos hb]
      have hd:cmDisk logs h x.s t stamp=x.s.D:=by unfold cmDisk;rw [he];simp
      rw [he,hd]
      unfold badStamp at hb
      simp only [Bool.or_eq_true,decide_eq_true_eq] at hb
      refine Ws 82 Tryz.func39 rfl rfl (nB rfl) (λ F=>?_)
      try simp only [cA,nA]
      refine TS (La rfl (Ld (TS ?_)))
      iterate 7 refine Lz ?_
      refine Ld (Ts (yH (TS ?_)))
      iterate 6 refine Lz ?_
      refine Lq (zT Hp.okS rfl t rfl 0 rfl) (Lq (yW rfl rfl) (La rfl (Ld (yL rfl (hp:=((λ q=>q (ha.2 hc)))) ?_))))
      by_cases h1:stamp<0
      . skip
        refine TS ?_
        iterate 3 refine Lz ?_
        refine zQ (t:=27) rfl (decide_eq_true (by omega)) ?_
        iterate 4 refine Lz ?_
        refine zQ (t:=31) rfl rfl ?_
        iterate 18 refine Lz ?_
        refine Ld (zF rfl (TS (La rfl (Ld (T.ret ?_)))))
        exact ⟨.inl rfl,_,_,res [_] rfl ⟨rvT rfl,trivial⟩,⟨x,hi,rfl,rfl,rfl⟩,Sa⟩
      refine TS ?_
      iterate 3 refine Lz ?_
      refine yT (t:=27) rfl (decide_eq_false (by omega)) ?_
      iterate 4 refine Lz ?_
      by_cases h2:1099511627776<stamp
      . skip
        refine zQ (t:=31) rfl (decide_eq_true (by omega)) ?_
        iterate 18 refine Lz ?_
        refine Ld (zF rfl (TS (La rfl (Ld (T.ret ?_)))))
        exact ⟨.inl rfl,_,_,res [_] rfl ⟨rvT rfl,trivial⟩,⟨x,hi,rfl,rfl,rfl⟩,Sa⟩
      obtain ⟨c,hcl2,hcs⟩ : ∃ c,h.cm.getLast? = some c/\stamp<=c.2:=by
        cases hg:h.cm.getLast? with
        | none=>rw [hg] at hb;simp at hb;omega
        | some c=>rw [hg] at hb;simp at hb;exact ⟨c,rfl,by omega⟩
      have hne:0<h.cm.length:=by cases hq:h.cm with | nil=>rw [hq] at hcl2;cases hcl2 | cons a l=>simp
      have hcat:h.cm[h.cm.length-1]? = some c:=by rw [<-List.getLast?_eq_getElem?];exact hcl2
      obtain ⟨gc,hgc⟩:=hp hne
      rw [hgc]
      refine yT (t:=31) rfl (decide_eq_false (by omega)) ?_
      iterate 3 refine Lz ?_
      refine zQ (t:=34) rfl (decide_eq_true (by omega)) ?_
      iterate 8 refine Lz ?_
      refine Lq (Qi (h.cm.length-1) (e:=94) (sz:=2) rfl rfl (by omega)) (Lq (Qf (off:=1) rfl) (Lq (Ql (v := .int .i64 c.2) rfl (cm_at hcat)) ?_))
      iterate 4 refine Lz ?_
      refine Ld (zM rfl (TS (La rfl (Ld (T.ret ?_)))))
      exact ⟨.inl rfl,_,_,res [_] rfl ⟨rvT rfl,trivial⟩,⟨x,hi,rfl,rfl,by rw [hgc]⟩,Sa⟩
    . have hb:badStamp h stamp=false:=by simpa using hb
      have hb2:=hb
      unfold badStamp at hb2
      simp only [Bool.or_eq_false_iff,decide_eq_false_iff_not] at hb2
      obtain ⟨⟨s1,s2⟩,s3⟩:=hb2
      have hu:=hi.used
      have hr:=hi.room
      have hlk:h.last<2^62:=by have:=hi.lastK;omega
      have hokE:EnOk (cmE t stamp):=⟨by simp,by have:=hi.r.act1 t (isAct_iff.1 hc);simp;omega,by simp [enPlace],by simp;omega,by simp,by simp,by simp,by simp⟩
      have hsz:enSz (cmE t stamp)=25:=by rw [enSz_eq];simp
      by_cases hf:(h.room:Int)<h.used+25
      . have he:Zl h t stamp=(h,3):=by unfold Zl;rw [if_pos hc,if_neg (by simp [hb]),if_pos hf]
        have hd:cmDisk logs h x.s t stamp=x.s.D:=by unfold cmDisk;rw [he];simp
        rw [he,hd]
        refine Ws 82 Tryz.func39 rfl rfl (nB rfl) (λ F=>?_)
        try simp only [cA,nA]
        refine TS (La rfl (Ld (TS ?_)))
        iterate 7 refine Lz ?_
        refine Ld (Ts (yH (TS ?_)))
        iterate 6 refine Lz ?_
        refine Lq (zT Hp.okS rfl t rfl 0 rfl) (Lq (yW rfl rfl) (La rfl (Ld (yL rfl (hp:=((λ q=>q (ha.2 hc)))) (TS ?_)))))
        iterate 3 refine Lz ?_
        refine yT (t:=27) rfl (decide_eq_false (by omega)) ?_
        iterate 4 refine Lz ?_
        refine yT (t:=31) rfl (decide_eq_false (by omega)) ?_
        iterate 3 refine Lz ?_
        by_cases hne:0<h.cm.length
        . skip
          obtain ⟨c,hcl2⟩ : ∃ c,h.cm.getLast? = some c:=by
            cases hg:h.cm with
            | nil=>rw [hg] at hne;simp at hne
            | cons a l=>exact ⟨_,List.getLast?_eq_some_getLast (by simp)⟩
          have hcat:h.cm[h.cm.length-1]? = some c:=by rw [<-List.getLast?_eq_getElem?];exact hcl2
          have hcs : ¬ stamp<=c.2:=by rw [hcl2] at s3;simpa using s3
          obtain ⟨gc,hgc⟩:=hp hne
          rw [hgc]
          refine zQ (t:=34) rfl (decide_eq_true (by omega)) ?_
          iterate 8 refine Lz ?_
          refine Lq (Qi (h.cm.length-1) (e:=94) (sz:=2) rfl rfl (by omega)) (Lq (Qf (off:=1) rfl) (Lq (Ql (v := .int .i64 c.2) rfl (cm_at hcat)) ?_))
          iterate 4 refine Lz ?_
          refine Ld (yL rfl (Tk (Ts (TS ?_))))
          iterate 3 refine Lz ?_
          refine Lq (z8 [(0,1),(1,1),(2,1),(3,1),(4,1),(5,1)] [.int .i64 0,.int .i64 0,.int .i64 0,.int .i64 0,.int .i64 0,.slice none 0 0] [_,_,_,_,_,_] [(0,_),(1,_),(4,_)] (by unfold Zf;kernel_rfl) rfl rfl) ?_
          refine Le (Ec (Hp.writeFull B [] g b logs count n K x.q (some ⟨gc,0,none⟩) h.cm.length x.cc h.last x.s h.es (Zi h.vs) hi.s (cmE t stamp) none 0 hokE (RdV.nil _ 0)) Tryz.func82 rfl rfl rfl ?_)
          rintro _ _ ⟨rfl,rfl⟩
          try simp only [cA,nA]
          refine La rfl (Ld (TS (Lm rfl (Lq (yW rfl rfl) (Ld (zF rfl (TS (Lm rfl (La rfl (Ld (T.ret ?_)))))))))))
          exact ⟨.inl rfl,_,_,res [_] rfl ⟨rvT rfl,trivial⟩,⟨x,hi,rfl,rfl,by rw [hgc]⟩,Sa⟩
        refine yT (t:=34) rfl (decide_eq_false (by omega)) ?_
        iterate 15 refine Lz ?_
        refine Ld (yQ rfl (Tk (Ts (TS ?_))))
        iterate 3 refine Lz ?_
        refine Lq (z8 [(0,1),(1,1),(2,1),(3,1),(4,1),(5,1)] [.int .i64 0,.int .i64 0,.int .i64 0,.int .i64 0,.int .i64 0,.slice none 0 0] [_,_,_,_,_,_] [(0,_),(1,_),(4,_)] (by unfold Zf;kernel_rfl) rfl rfl) ?_
        refine Le (Ec (Hp.writeFull B [] g b logs count n K x.q x.pc h.cm.length x.cc h.last x.s h.es (Zi h.vs) hi.s (cmE t stamp) none 0 hokE (RdV.nil _ 0)) Tryz.func82 rfl rfl rfl ?_)
        rintro _ _ ⟨rfl,rfl⟩
        try simp only [cA,nA]
        refine La rfl (Ld (TS (Lm rfl (Lq (yW rfl rfl) (Ld (zF rfl (TS (Lm rfl (La rfl (Ld (T.ret ?_)))))))))))
        exact ⟨.inl rfl,_,_,res [_] rfl ⟨rvT rfl,trivial⟩,⟨x,hi,rfl,rfl,rfl⟩,Sa⟩
      . have he:Zl h t stamp=(Zg (Zo h t) (cmE t stamp),0):=by unfold Zl;rw [if_pos hc,if_neg (by simp [hb]),if_neg hf]
        have hd:cmDisk logs h x.s t stamp=Wh (mkW 0 logs ((h.es++[cmE t stamp]).map Zj) x.s.W.dur) x.s.D:=by unfold cmDisk;rw [he];simp
        rw [he,hd]
        obtain ⟨e1,e2,r,hadd,hw2,hi2⟩:=hi.commit (by omega) hc hb (by omega)
        obtain ⟨W2,hW2⟩ : ∃ W2,mkW 0 logs ((h.es++[cmE t stamp]).map Zj) x.s.W.dur=W2:=⟨_,rfl⟩
        rw [hW2] at hadd hw2 hi2
        rw [hW2]
        have hcm:(Zg (Zo h t) (cmE t stamp)).cm=h.cm++[(t,stamp)]:=by simp [Zg,Zo]
        have hcml:(Zg (Zo h t) (cmE t stamp)).cm.length=h.cm.length+1:=by rw [hcm];simp
        have hlst:(Zg (Zo h t) (cmE t stamp)).last=h.last:=rfl
        generalize Zg (Zo h t) (cmE t stamp)=h' at hi2 hcm hcml hlst ⊢
        have hcl3 : ∀ (p:Option Addr) (c:Nat),[hpB g x.q p (h.cm.length+1) c h.last,stA x.q (putL x.st t 2),row (.slice p (h.cm.length+1) c) 94 2 (h.cm.length+1) (h.cm.flatMap stC++[.int .i64 t,.int .i64 stamp]),wlA x.q.gl b W2.flushed,plS b n logs count x.q x.s,Zn b (Wh W2 x.s.D)]=hpC g b logs count n ⟨x.q,p,c,{x.s with W:=W2.flushed,D:=Wh W2 x.s.D},putL x.st t 2⟩ h':=λ p c=>by
          unfold hpC cmR
          dsimp only
          rw [hcml,hlst,hcm,List.flatMap_append]
          rfl
        have hi2x : ∀ (p:Option Addr) (c:Nat),HInv logs count n K (HpX.mk x.q p c {x.s with W:=W2.flushed,D:=Wh W2 x.s.D} (putL x.st t 2)).s (HpX.mk x.q p c {x.s with W:=W2.flushed,D:=Wh W2 x.s.D} (putL x.st t 2)).st h':=λ p c=>hi2
        refine Ws 82 Tryz.func39 rfl rfl (nB rfl) (λ F=>?_)
        try simp only [cA,nA]
        refine TS (La rfl (Ld (TS ?_)))
        iterate 7 refine Lz ?_
        refine Ld (Ts (yH (TS ?_)))
        iterate 6 refine Lz ?_
        refine Lq (zT Hp.okS rfl t rfl 0 rfl) (Lq (yW rfl rfl) (La rfl (Ld (yL rfl (hp:=((λ q=>q (ha.2 hc)))) (TS ?_)))))
        iterate 3 refine Lz ?_
        refine yT (t:=27) rfl (decide_eq_false (by omega)) ?_
        iterate 4 refine Lz ?_
        refine yT (t:=31) rfl (decide_eq_false (by omega)) ?_
        iterate 3 refine Lz ?_
        by_cases hne:0<h.cm.length
        . skip
          obtain ⟨c,hcl2⟩ : ∃ c,h.cm.getLast? = some c:=by
            cases hg:h.cm with
            | nil=>rw [hg] at hne;simp at hne
            | cons a l=>exact ⟨_,List.getLast?_eq_some_getLast (by simp)⟩
          have hcat:h.cm[h.cm.length-1]? = some c:=by rw [<-List.getLast?_eq_getElem?];exact hcl2
          have hcs : ¬ stamp<=c.2:=by rw [hcl2] at s3;simpa using s3
          obtain ⟨gc,hgc⟩:=hp hne
          rw [hgc]
          refine zQ (t:=34) rfl (decide_eq_true (by omega)) ?_
          iterate 8 refine Lz ?_
          refine Lq (Qi (h.cm.length-1) (e:=94) (sz:=2) rfl rfl (by omega)) (Lq (Qf (off:=1) rfl) (Lq (Ql (v := .int .i64 c.2) rfl (cm_at hcat)) ?_))
          iterate 4 refine Lz ?_
          refine Ld (yL rfl ?_)
          rw [<-hgc]
          refine Tk (Ts (TS ?_))
          iterate 3 refine Lz ?_
          refine Lq (z8 [(0,1),(1,1),(2,1),(3,1),(4,1),(5,1)] [.int .i64 0,.int .i64 0,.int .i64 0,.int .i64 0,.int .i64 0,.slice none 0 0] [_,_,_,_,_,_] [(0,_),(1,_),(4,_)] (by unfold Zf;kernel_rfl) rfl rfl) ?_
          refine Le (Ec (Hp.writeC B g b logs count n K x.q x.pc h.cm.length x.cc h.last x.s h.es (Zi h.vs) hi.s (cmE t stamp) hokE rfl e2 rfl W2 r hadd) Tryz.func82 rfl rfl rfl ?_)
          rintro _ _ ⟨rfl,rfl⟩
          try simp only [cA,nA]
          refine La rfl (Ld (TS (Lm rfl (Lq (yW rfl rfl) (Ld (yQ rfl (Tk (TS ?_))))))))
          iterate 4 refine Lz ?_
          refine Le (Ec (Wl.flush B x.q.gl b W2 x.s.D hw2.fit hw2.max hw2.st hw2.dur (by have:=hw2.room;omega)) Tryz.func85 rfl rfl rfl ?_)
          rintro _ _ ⟨rfl,rfl⟩
          try simp only [cA,nA]
          refine Ld (TS ?_)
          iterate 6 refine Lz ?_
          refine L0 (Y0 Hp.okS rfl t rfl 2 rfl ?_)
          refine Ld (TS ?_)
          iterate 8 refine Lz ?_
          refine Lq (z8 [(0,1),(1,1)] [.int .i64 0,.int .i64 0] [_,_] [(0,_),(1,_)] (by unfold Zf;kernel_rfl) rfl rfl) ?_
          refine Le (zK [_,_] (e:=94) (sz:=2) ⟨.agg #[.int .i64 0,.int .i64 0],by kernel_rfl,rfl⟩ rfl rfl rfl ?_)
          intro g77
          refine Le (Ea Hp.elemC rfl rfl (SrcOf.blk (by kernel_rfl) rfl (by simp [Value.oneCell'])) (by unfold maxLen;omega) ?_)
          rintro p4 c4 hp4
          try simp only [cA,nA]
          iterate 3 refine Lz ?_
          refine L0 (E1 (by kernel_rfl) rfl rfl rfl (by first | (simp;done) | (simp;omega)) ?_)
          try simp only [List.set_cons_zero,List.set_cons_succ]
          refine Ld (TS (La rfl (Ld (T.ret ?_))))
          exact ⟨.inl rfl,_,_,res [_] rfl ⟨rvT rfl,trivial⟩,⟨_,hi2x p4 c4,rfl,rfl,rfl⟩,(Sub.eqL (hcl3 p4 c4))⟩
        refine yT (t:=34) rfl (decide_eq_false (by omega)) ?_
        iterate 15 refine Lz ?_
        refine Ld (yQ rfl (Tk (Ts (TS ?_))))
        iterate 3 refine Lz ?_
        refine Lq (z8 [(0,1),(1,1),(2,1),(3,1),(4,1),(5,1)] [.int .i64 0,.int .i64 0,.int .i64 0,.int .i64 0,.int .i64 0,.slice none 0 0] [_,_,_,_,_,_] [(0,_),(1,_),(4,_)] (by unfold Zf;kernel_rfl) rfl rfl) ?_
        refine Le (Ec (Hp.writeC B g b logs count n K x.q x.pc h.cm.length x.cc h.last x.s h.es (Zi h.vs) hi.s (cmE t stamp) hokE rfl e2 rfl W2 r hadd) Tryz.func82 rfl rfl rfl ?_)
        rintro _ _ ⟨rfl,rfl⟩
        try simp only [cA,nA]
        refine La rfl (Ld (TS (Lm rfl (Lq (yW rfl rfl) (Ld (yQ rfl (Tk (TS ?_))))))))
        iterate 4 refine Lz ?_
        refine Le (Ec (Wl.flush B x.q.gl b W2 x.s.D hw2.fit hw2.max hw2.st hw2.dur (by have:=hw2.room;omega)) Tryz.func85 rfl rfl rfl ?_)
        rintro _ _ ⟨rfl,rfl⟩
        try simp only [cA,nA]
        refine Ld (TS ?_)
        iterate 6 refine Lz ?_
        refine L0 (Y0 Hp.okS rfl t rfl 2 rfl ?_)
        refine Ld (TS ?_)
        iterate 8 refine Lz ?_
        refine Lq (z8 [(0,1),(1,1)] [.int .i64 0,.int .i64 0] [_,_] [(0,_),(1,_)] (by unfold Zf;kernel_rfl) rfl rfl) ?_
        refine Le (zK [_,_] (e:=94) (sz:=2) ⟨.agg #[.int .i64 0,.int .i64 0],by kernel_rfl,rfl⟩ rfl rfl rfl ?_)
        intro g77
        refine Le (Ea Hp.elemC rfl rfl (SrcOf.blk (by kernel_rfl) rfl (by simp [Value.oneCell'])) (by unfold maxLen;omega) ?_)
        rintro p4 c4 hp4
        try simp only [cA,nA]
        iterate 3 refine Lz ?_
        refine L0 (E1 (by kernel_rfl) rfl rfl rfl (by first | (simp;done) | (simp;omega)) ?_)
        try simp only [List.set_cons_zero,List.set_cons_succ]
        refine Ld (TS (La rfl (Ld (T.ret ?_))))
        exact ⟨.inl rfl,_,_,res [_] rfl ⟨rvT rfl,trivial⟩,⟨_,hi2x p4 c4,rfl,rfl,rfl⟩,(Sub.eqL (hcl3 p4 c4))⟩
  . have he:Zl h t stamp=(h,70):=by unfold Zl;rw [if_neg hc]
    have hd:cmDisk logs h x.s t stamp=x.s.D:=by unfold cmDisk;rw [he];simp
    rw [he,hd]
    refine Ws 82 Tryz.func39 rfl rfl (nB rfl) (λ F=>?_)
    try simp only [cA,nA]
    refine TS (La rfl (Ld (TS ?_)))
    iterate 7 refine Lz ?_
    refine Ld (Ts (yH (TS ?_)))
    iterate 6 refine Lz ?_
    refine Lq (zT Hp.okS rfl t rfl 0 rfl) (Lq (yW rfl rfl) (La rfl (Ld (zM rfl (hp:=((λ q=>hc (ha.1 q)))) (TS (La rfl (Ld (T.ret ?_))))))))
    exact ⟨.inl rfl,_,_,res [_] rfl ⟨rvT rfl,trivial⟩,⟨x,hi,rfl,rfl,rfl⟩,Sa⟩
theorem Hp.commit (B:Wn) (g b logs count n K:Nat) (h:HR) (hK:K<2^30) (t stamp:Int) (hcl:h.cm.length<2^32):Fn Tryz.prog B 39 #[pV g,.int .i64 t,.int .i64 stamp] [hpA g b logs count n K h] (λ u l=>u = .int .i64 (Zl h t stamp).2/\l=[hpA g b logs count n K (Zl h t stamp).1]):=by
 refine Fn.openHp λ x hi hp=>?_
 rw [List.append_nil]
 refine (Hp.commitX B g b logs count n K h hK t stamp x hi hp hcl).sub ?_
 rintro u l ⟨x',hi',_,rfl,rfl⟩
 exact ⟨_,Wb (hpC g b logs count n x' (Zl h t stamp).1) x' _ hi' rfl (r:=[]),rfl,rfl⟩
open Go.RowKit
theorem HInv.write {logs count n K K':Nat} {s s':Pl} {st:List (Int×Int)} {h:HR} (i:HInv logs count n K s st h) {e:En} (ok:OkStep h e) (hk:e.kind≠3) (hl:e.txn<=h.last) (hs:SInv logs count n K' s' (h.es++[e]) (Zi (Zg h e).vs)) (hKK:K<=K'):HInv logs count n K' s' st (Zg h e) :=
 ⟨hs,i.r.write ok hl (λ k=>absurd k hk),i.st.write hk,i.pages,i.room,by have:=i.lastK;show h.last<=_;omega⟩
theorem rc_add {h:HR} {t:Int} {d:List UInt8} {q:Nat}:rcSet (Zi h.vs) true q (Zi h.vs q++[newB t d])=Zi (Zg h (addE h t d q)).vs:=by
 funext x
 rw [recs_add (h:=h) (e:=addE h t d q) rfl x]
 unfold rcSet
 simp only [if_true]
 by_cases e:x=q
 . subst e;rw [if_pos rfl,if_pos (by simp)];rfl
 . rw [if_neg e,if_neg (by simpa using e)]
abbrev ridB (g:Nat) (a b:Int):Wp:=blk g [.int .i64 a,.int .i64 b] 67
theorem Hp.add1 (B:Wn) (A:Wp) (gpg g5 g9 g8:Nat) (recs:List (List UInt8)) (m:Int) (a:Option Addr) (mm c:Nat) (k a0 a1:Int) (hu:ZO recs<=243) (hmm:mm<2^62) :
    Fn Tryz.prog B 83 #[pV gpg,pV g5,pV g9,pV g8] (pgA gpg recs m::A::[blk g5 [.slice a mm c] 97,blk g9 [.int .i64 k] 3,ridB g8 a0 a1])
      (λ v l=>v = .bool false/\l=pgA gpg recs m::A::[blk g5 [.slice a mm c] 97,blk g9 [.int .i64 k] 3,if mm+16<=roomR recs then ridB g8 k recs.length else ridB g8 a0 a1]):=by
  by_cases hr:mm+16<=roomR recs
  . rw [if_pos hr]
    refine Fn.enter4 16 Tryz.func83 rfl rfl (nB rfl) (λ F=>?_)
    try simp only [cA,nA]
    refine TS (La rfl (Ld (Ts (Ts (T.draw 6 ([blk g5 [.slice a mm c] 97]) (nB rfl) ?_)))))
    refine Rz 0 ?_;refine Rz 2 ?_;refine Rz 3 ?_;refine Rz 4 ?_
    refine yK 1 ?_
    refine z6 rfl (Ec (Pg.room B gpg recs m hu) Tryz.func84 rfl rfl rfl ?_)
    rintro _ _ ⟨rfl,rfl⟩
    try simp only [cA,nA]
    refine ⟨Sa,?_⟩
    refine Rz 5 ?_
    refine Rd0 (by rfl) ?_
    simp only [dS,dZ,dN]
    refine Ld (zM rfl (T.draw 4 ([blk g9 [.int .i64 k] 3]) (nB rfl) ?_))
    refine Rz 0 ?_;refine Rz 1 ?_
    refine yK 2 ?_
    refine z6 rfl (Ec (Pg.count B gpg recs m) Tryz.func54 rfl rfl rfl ?_)
    rintro _ _ ⟨rfl,rfl⟩
    try simp only [cA,nA]
    refine ⟨Sa,?_⟩
    refine Rq 3 rfl Sa (z8 [(0,1),(1,1)] [.int .i64 0,.int .i64 0] [_,_] [(0,_),(1,_)] (by unfold Zf;kernel_rfl) rfl rfl) (Rd0 (by rfl) ?_)
    simp only [dS,dZ,dN]
    refine L0 (Es [_,_] rfl rfl rfl rfl (by simp) ?_)
    try simp only [splice,lC,lN,dS,cA,tS,tZ,dZ,nA,aN]
    refine Ld (TS (La rfl (Ld (T.ret ?_))))
    exact ⟨.inl rfl,_,_,res [_] rfl ⟨rvT rfl,trivial⟩,⟨rfl,rfl⟩,Sa⟩
  . rw [if_neg hr]
    refine Fn.enter4 16 Tryz.func83 rfl rfl (nB rfl) (λ F=>?_)
    try simp only [cA,nA]
    refine TS (La rfl (Ld (Ts (Ts (T.draw 6 ([blk g5 [.slice a mm c] 97]) (nB rfl) ?_)))))
    refine Rz 0 ?_;refine Rz 2 ?_;refine Rz 3 ?_;refine Rz 4 ?_
    refine yK 1 ?_
    refine z6 rfl (Ec (Pg.room B gpg recs m hu) Tryz.func84 rfl rfl rfl ?_)
    rintro _ _ ⟨rfl,rfl⟩
    try simp only [cA,nA]
    refine ⟨Sa,?_⟩
    refine Rz 5 ?_
    refine Rd0 (by rfl) ?_
    simp only [dS,dZ,dN]
    refine Ld (yL rfl (Tk (TS (La rfl (Ld (T.ret ?_))))))
    exact ⟨.inl rfl,_,_,res [_] rfl ⟨rvT rfl,trivial⟩,⟨rfl,rfl⟩,Sa⟩
theorem roomR_iff (h:HR) (q n:Nat) (hn:n<=184):n+16<=roomR (Zi h.vs q)↔Wi h.vs q+17+n<=256:=by
 unfold roomR Wi
 rw [used_recs]
 omega
theorem addE_ok {h:HR} (r:RInv h) (hp:h.pages<=4096) (hl:h.last<2^62) {t:Int} {d:List UInt8} {q:Nat} (ht:Zp h t=true) (hd:d.length<=184) (hq:q<h.pages):EnOk (addE h t d q):=by
 have h1:=r.act1 t (isAct_iff.1 ht)
 have h2:=pages_len r.ok q
 exact ⟨by simp,by simp;omega,by simp only [enPlace];omega,by simp,by simp,by simp,by simp,by simp;omega⟩
def Seek (h:HR) (n k:Nat) (a0 a1:Int):Prop:=(a0 = -1/\a1=0 /\ ∀ j,j<k -> ¬ Wi h.vs j+17+n<=256) \/ ∃ q:Nat,k=q+1/\a0=q/\a1=((Zh h.vs q).length:Nat)/\roomyP h n=some q
theorem Hp.add (B:Wn) (S:List Wp) (g b logs count n K:Nat) (h:HR) (hK:K+count+1<2^30) (t:Int) (a:Option Addr) (c:Nat) (d:List UInt8) (hv:RdV B S (.slice a d.length c) (Zb d)) (hdl:d.length<2^40) :
    Fn Tryz.prog B 38 #[pV g,.int .i64 t,.slice a d.length c] (hpA g b logs count n K h::S) (λ u l=>u = .tuple #[.agg #[.int .i64 (Wm h t d).2.1,.int .i64 (Wm h t d).2.2.1],.int .i64 (Wm h t d).2.2.2]/\l=hpA g b logs count n (K+count+1) (Wm h t d).1::S):=by
  refine Fn.openHp λ x hi hp=>?_
  simp only [hpC,List.cons_append,List.nil_append]
  have ha:=hi.st.act t
  have hi1:HInv logs count n (K+count+1) x.s x.st h:=hi.mono (by omega)
  by_cases hc:Zp h t=true
  . by_cases hd:184<d.length
    . have he:Wm h t d=(h,0,0,2):=by unfold Wm;rw [if_pos hc,if_pos hd]
      rw [he]
      refine Ws 66 Tryz.func38 rfl rfl (nB rfl) (λ F=>?_)
      try simp only [cA,nA]
      refine TS ?_
      refine Le (zL [_] rfl rfl ?_)
      intro g5
      refine Le (El [.int .i64 0,.int .i64 0] (by unfold Zf;kernel_rfl) ?_)
      intro g6
      refine La rfl (Ld (Ts (yH (TS ?_))))
      iterate 6 refine Lz ?_
      refine Lq (zT Hp.okS rfl t rfl 0 rfl) (Lq (yW rfl rfl) (La rfl (Ld (yL rfl (hp:=((λ q=>q (ha.2 hc)))) (TS ?_)))))
      iterate 4 refine Lz ?_
      refine Ld (zM rfl (TS (Lq (z8 [(0,1),(1,1)] [.int .i64 0,.int .i64 0] [_,_] [] (by unfold Zf;kernel_rfl) rfl rfl) ?_)))
      refine L0 (Es [_,_] rfl rfl rfl rfl (by simp) ?_)
      try simp only [splice,lC,lN,dS,cA,tS,tZ,dZ,nA,aN]
      refine La rfl (Ld (T.ret ?_))
      exact ⟨.inl rfl,_,_,res [_,_] rfl ⟨rvA [_,_] rfl ⟨rfl,rfl,trivial⟩,rvT rfl,trivial⟩,⟨rfl,rfl⟩,Wb [hpB g x.q x.pc h.cm.length x.cc h.last,stA x.q x.st,cmR x.pc h.cm.length x.cc h.cm,wlS b x.q x.s,plS b n logs count x.q x.s,Zn b x.s.D] x h hi1 rfl⟩
    . have hct:=hi.cnt
      have hpg:=hi.pages
      have hu:=hi.used
      have hr:=hi.room
      have hlk:h.last<2^62:=by have:=hi.lastK;omega
      refine Ws 66 Tryz.func38 rfl rfl (nB rfl) (λ F=>?_)
      try simp only [cA,nA]
      refine TS ?_
      refine Le (zL [_] rfl rfl ?_)
      intro g5
      refine Le (El [.int .i64 0,.int .i64 0] (by unfold Zf;kernel_rfl) ?_)
      intro g6
      refine La rfl (Ld (Ts (yH (TS ?_))))
      iterate 6 refine Lz ?_
      refine Lq (zT Hp.okS rfl t rfl 0 rfl) (Lq (yW rfl rfl) (La rfl (Ld (yL rfl (hp:=((λ q=>q (ha.2 hc)))) (TS ?_)))))
      iterate 4 refine Lz ?_
      refine Ld (yL rfl (Tk (TS (Lq (z8 [(0,1),(1,1)] [.int .i64 0,.int .i64 0] [_,_] [(0,_)] (by unfold Zf;kernel_rfl) rfl rfl) ?_))))
      refine Le (El [.int .i64 0,.int .i64 0] (by unfold Zf;kernel_rfl) ?_)
      intro g8
      refine L0 (Es [_,_] rfl rfl rfl rfl (by simp) ?_)
      try simp only [splice,lC,lN,dS,cA,tS,tZ,dZ,nA,aN]
      refine Ld ?_
      refine T.cut (λ fz lz => ∃ (f0:Fr) (s2:Pl) (a0 a1:Int),(SInv logs count n (K+count) s2 h.es (Zi h.vs)/\((a0 = -1/\a1=0/\roomyP h d.length=none) \/ ∃ q:Nat,a0=q/\a1=((Zh h.vs q).length:Nat)/\roomyP h d.length=some q))/\fz=(upd (upd (upd (upd (upd (upd f0 0 (pV g)) 1 (.int .i64 t)) 5 (pV g5)) 6 (pV g6)) 7 (.int .i64 0)) 8 (pV g8))/\lz=ridB g8 a0 a1::blk g5 [.slice a d.length c] 97::ridB g6 0 0::hpB g x.q x.pc h.cm.length x.cc h.last::stA x.q x.st::cmR x.pc h.cm.length x.cc h.cm::wlS b x.q s2::plS b n logs count x.q s2::Zn b s2.D::(S++F)) ?_ ?_
      . skip
        refine TS ?_
        refine Le (El [.int .i64 0] (by unfold Zf;kernel_rfl) ?_)
        intro g9
        refine L0 (E1 (by kernel_rfl) rfl rfl rfl (by first | (simp;done) | (simp;omega)) ?_)
        try simp only [List.set_cons_zero,List.set_cons_succ]
        refine Ld (yH ?_)
        refine zG (λ mz fz lz => ∃ (f0:Fr) (k gk:Nat) (s2:Pl) (a0 a1:Int),(k<=count/\SInv logs count n (K+k) s2 h.es (Zi h.vs)/\Seek h d.length k a0 a1)/\mz=count-k/\fz=(upd (upd (upd (upd (upd (upd (upd f0 0 (pV g)) 1 (.int .i64 t)) 5 (pV g5)) 6 (pV g6)) 7 (.int .i64 0)) 8 (pV g8)) 9 (pV gk))/\lz=blk gk [.int .i64 k] 3::ridB g8 a0 a1::blk g5 [.slice a d.length c] 97::ridB g6 0 0::hpB g x.q x.pc h.cm.length x.cc h.last::stA x.q x.st::cmR x.pc h.cm.length x.cc h.cm::wlS b x.q s2::plS b n logs count x.q s2::Zn b s2.D::(S++F)) ?_ ?_
        . refine ⟨_,_,⟨_,0,_,x.s,-1,0,⟨Nat.zero_le _,hi.s,.inl ⟨rfl,rfl,λ j hj=>by omega⟩⟩,rfl,U7,rfl⟩,Sa⟩
        rintro mz fz lz ⟨f0,k,gk,s2,a0,a1,⟨hk,hs2,hseek⟩,hmz,rfl,rfl⟩
        subst mz
        refine Ts (Ts (T.draw 14 ([hpB g x.q x.pc h.cm.length x.cc h.last,blk gk [.int .i64 k] 3,ridB g8 a0 a1]) (nB rfl) ?_))
        refine Rz 0 ?_;refine Rz 1 ?_;refine Rz 2 ?_;refine Rz 3 ?_;refine Rz 4 ?_;refine Rz 5 ?_;refine Rz 6 ?_
        refine yK 7 ?_
        refine z6 rfl (Ec (Bp.pages B x.q.gp b n logs count s2.hand x.q.gl s2.A) Tryz.func43 rfl rfl rfl ?_)
        rintro _ _ ⟨rfl,rfl⟩
        try simp only [cA,nA]
        refine ⟨Sa,?_⟩
        refine Rz 8 ?_;refine Rz 9 ?_
        by_cases ha0:a0 = -1
        . skip
          obtain ⟨ha1,hno⟩:a1=0 /\ ∀ j,j<k -> ¬ Wi h.vs j+17+d.length<=256:=by
            rcases hseek with ⟨_,h1,h2⟩ | ⟨q,_,h1,_⟩
            . exact ⟨h1,h2⟩
            . omega
          subst ha0
          subst ha1
          refine YE (t:=36) rfl (λ hkc=>?_) (λ hkc=>?_)
          . skip
            try replace hkc:=of_decide_eq_true hkc
            refine Rz 10 ?_;refine Rz 11 ?_;refine Rz 12 ?_;refine Rz 13 ?_
            refine Rd0 (by rfl) ?_
            simp only [dS,dZ,dN]
            refine Ld (zF rfl (Tk (Ts (yH (TR ?_)))))
            iterate 2 refine Lz ?_
            refine Lq (Y4 [_,_,_] rfl) ?_
            refine Le (Ec (Hp.with B g b n logs count (K+k) x.q x.pc h.cm.length x.cc h.last s2 h.es (Zi h.vs) hs2 (by omega) k (by omega) k rfl 0 0 rfl (by omega) 83 Tryz.f83 [pV g5,pV gk,pV g8] [blk g5 [.slice a d.length c] 97,blk gk [.int .i64 k] 3,ridB g8 (-1) 0] (λ bb r' X'=>bb=false/\X'=[blk g5 [.slice a d.length c] 97,blk gk [.int .i64 k] 3,if d.length+16<=roomR (Zi h.vs k) then ridB g8 k (Zi h.vs k).length else ridB g8 (-1) 0]) Tryz.func83 rfl rfl (λ gpg m=>(Hp.add1 B (hpB g x.q x.pc h.cm.length x.cc h.last) gpg g5 gk g8 (Zi h.vs k) m a d.length c k (-1) 0 (recs_ok hi.r.ok k).1.used (by omega)).mono (λ v l ⟨h1,h2⟩=>⟨false,_,_,⟨rfl,rfl⟩,h1,h2⟩)) (λ r' X' hh=>by obtain ⟨h1,_⟩:=hh;cases h1)) Tryz.func52 rfl rfl rfl ?_)
            rintro _ _ ⟨bb,r',X',s',⟨rfl,rfl⟩,hS,rfl,rfl⟩
            try simp only [cA,nA]
            have hS2:SInv logs count n (K+k+1) s' h.es (Zi h.vs):=by simpa [rcSet] using hS
            have hroom:=roomR_iff h k d.length (by omega)
            refine Ld (Ts (TS (Lq (Ql rfl rfl) (Ld (TR ?_)))))
            refine Le (El [.int .i64 0] (by unfold Zf;kernel_rfl) ?_)
            intro g9
            refine L0 (E1 (by kernel_rfl) rfl rfl rfl (by first | (simp;done) | (simp;omega)) ?_)
            try simp only [List.set_cons_zero,List.set_cons_succ]
            refine Ld (TR (Lq (Ql rfl rfl) (Lq (Qd (r:=((k+1:Nat):Int)) rfl rfl (by rw [Ze];omega)) ?_)))
            refine L0 (E1 (by kernel_rfl) rfl rfl rfl (by first | (simp;done) | (simp;omega)) ?_)
            try simp only [List.set_cons_zero,List.set_cons_succ]
            refine Ld ?_
            by_cases hfit:Wi h.vs k+17+d.length<=256
            . skip
              rw [if_pos (hroom.2 hfit)]
              refine ⟨_,?_,_,⟨_,k+1,_,s',k,(Zi h.vs k).length,⟨by omega,hS2,.inr ⟨k,rfl,rfl,by simp [Zi],roomy_of (by omega) hfit hno⟩⟩,rfl,U7,rfl⟩,Sa⟩
              omega
            rw [if_neg (λ q=>hfit (hroom.1 q))]
            refine ⟨_,?_,_,⟨_,k+1,_,s',-1,0,⟨by omega,hS2,.inl ⟨rfl,rfl,λ j hj=>by rcases Nat.lt_or_eq_of_le (Nat.lt_succ_iff.1 hj) with h1 | h1;exact hno j h1;rw [h1];exact hfit⟩⟩,rfl,U7,rfl⟩,Sa⟩
            omega
          try replace hkc:=of_decide_eq_false hkc
          refine Rz 10 ?_;refine Rz 11 ?_;refine Rz 12 ?_;refine Rz 13 ?_
          refine Rd0 (by rfl) ?_
          simp only [dS,dZ,dN]
          refine Ld (yQ rfl (zB ?_))
          exact ⟨_,⟨_,s2,-1,0,⟨hs2.mono (by omega),.inl ⟨rfl,rfl,roomy_no (λ j hj=>hno j (by omega))⟩⟩,U6,rfl⟩,Sa⟩
        obtain ⟨q,hkq,ha1,ha2,hq⟩:=hseek.resolve_left (λ hh=>ha0 hh.1)
        refine YE (t:=36) rfl (λ hkc=>?_) (λ hkc=>?_)
        . skip
          try replace hkc:=of_decide_eq_true hkc
          refine Rz 10 ?_;refine Rz 11 ?_;refine Rz 12 ?_;refine Rz 13 ?_
          refine Rd0 (by rfl) ?_
          simp only [dS,dZ,dN]
          refine Ld (yL rfl (zB ?_))
          exact ⟨_,⟨_,s2,a0,a1,⟨hs2.mono (by omega),.inr ⟨q,ha1,ha2,hq⟩⟩,U6,rfl⟩,Sa⟩
        try replace hkc:=of_decide_eq_false hkc
        refine Rz 10 ?_;refine Rz 11 ?_;refine Rz 12 ?_;refine Rz 13 ?_
        refine Rd0 (by rfl) ?_
        simp only [dS,dZ,dN]
        refine Ld (yQ rfl (zB ?_))
        exact ⟨_,⟨_,s2,a0,a1,⟨hs2.mono (by omega),.inr ⟨q,ha1,ha2,hq⟩⟩,U6,rfl⟩,Sa⟩
      rintro fz lz ⟨f0,s2,a0,a1,⟨hs2,hseek⟩,rfl,rfl⟩
      have hi2:HInv logs count n (K+count+1) s2 x.st h:=⟨hs2.mono (by omega),hi.r,hi.st,hi.pages,hi.room,by have:=hi.lastK;omega⟩
      by_cases ha0:a0 = -1
      . skip
        have hnone:roomyP h d.length=none:=by
          rcases hseek with ⟨_,_,h2⟩ | ⟨q,h1,_⟩
          . exact h2
          . omega
        refine Ts (TS ?_)
        iterate 3 refine Lz ?_
        refine Ld (zM rfl ?_)
        have he:Wm h t d=(h,0,0,3):=by unfold Wm;rw [if_pos hc,if_neg hd,hnone]
        rw [he]
        refine TS (Lq (z8 [(0,1),(1,1)] [.int .i64 0,.int .i64 0] [_,_] [] (by unfold Zf;kernel_rfl) rfl rfl) ?_)
        refine L0 (Es [_,_] rfl rfl rfl rfl (by simp) ?_)
        try simp only [splice,lC,lN,dS,cA,tS,tZ,dZ,nA,aN]
        refine La rfl (Ld (T.ret ?_))
        exact ⟨.inl rfl,_,_,res [_,_] rfl ⟨rvA [_,_] rfl ⟨rfl,rfl,trivial⟩,rvT rfl,trivial⟩,⟨rfl,rfl⟩,Wb [hpB g x.q x.pc h.cm.length x.cc h.last,stA x.q x.st,cmR x.pc h.cm.length x.cc h.cm,wlS b x.q s2,plS b n logs count x.q s2,Zn b s2.D] {x with s:=s2} h hi2 rfl⟩
      obtain ⟨q,ha1,ha2,hq⟩:=hseek.resolve_left (λ hh=>ha0 hh.1)
      subst ha1
      subst ha2
      obtain ⟨hq1,hq2,hq3⟩:=roomy_some hq
      have hokE:=addE_ok hi.r (by omega) hlk hc (d:=d) (q:=q) (by omega) hq1
      have hsz:enSz (addE h t d q)=20+d.length:=by rw [enSz_eq];simp
      have hu2:=hi2.used
      refine Ts (TS ?_)
      iterate 3 refine Lz ?_
      refine Ld (yQ rfl ?_)
      by_cases hf:(h.room:Int)<h.used+20+d.length
      . skip
        have he:Wm h t d=(h,0,0,3):=by unfold Wm;rw [if_pos hc,if_neg hd,hq];dsimp only;rw [if_pos hf]
        rw [he]
        refine Tk (Ts (TS ?_))
        iterate 7 refine Lz ?_
        refine Lq (z8 [(0,1),(1,1),(2,1),(3,1),(4,1),(5,1)] [.int .i64 0,.int .i64 0,.int .i64 0,.int .i64 0,.int .i64 0,.slice none 0 0] [_,_,_,_,_,_] [(0,_),(1,_),(2,_),(3,_),(5,_)] (by unfold Zf;kernel_rfl) rfl rfl) ?_
        refine Le (Ec (Hp.writeFull B S g b logs count n (K+count) x.q x.pc h.cm.length x.cc h.last s2 h.es (Zi h.vs) hs2 (addE h t d q) a c hokE hv) Tryz.func82 rfl rfl rfl ?_)
        rintro _ _ ⟨rfl,rfl⟩
        try simp only [cA,nA]
        refine La rfl (Ld (TS (Lm rfl (Lq (yW rfl rfl) (Ld (zF rfl (TS (Lq (z8 [(0,1),(1,1)] [.int .i64 0,.int .i64 0] [_,_] [] (by unfold Zf;kernel_rfl) rfl rfl) (Lm rfl ?_)))))))))
        refine L0 (Es [_,_] rfl rfl rfl rfl (by simp) ?_)
        try simp only [splice,lC,lN,dS,cA,tS,tZ,dZ,nA,aN]
        refine La rfl (Ld (T.ret ?_))
        exact ⟨.inl rfl,_,_,res [_,_] rfl ⟨rvA [_,_] rfl ⟨rfl,rfl,trivial⟩,rvT rfl,trivial⟩,⟨rfl,rfl⟩,Wb [hpB g x.q x.pc h.cm.length x.cc h.last,stA x.q x.st,cmR x.pc h.cm.length x.cc h.cm,wlS b x.q s2,plS b n logs count x.q s2,Zn b s2.D] {x with s:=s2} h hi2 rfl⟩
      have he:Wm h t d=(Zg h (addE h t d q),(q:Int),((Zh h.vs q).length:Int),0):=by unfold Wm;rw [if_pos hc,if_neg hd,hq];dsimp only;rw [if_neg hf]
      rw [he]
      have hstep:=hi.r.addStep (by omega) hlk hc (d:=d) (q:=q) (by omega) hq1 hq2 (by omega)
      have hrl:(Zi h.vs q).length=(Zh h.vs q).length:=by simp [Zi]
      have hro:=recs_ok hi.r.ok q
      have hus:ZO (Zi h.vs q)+17+d.length<=243:=by rw [used_recs];unfold Wi at hq2;omega
      have hro2:=(recs_ok (hi.r.ok.write hstep) q)
      have hrc:=rc_add (h:=h) (t:=t) (d:=d) (q:=q)
      have hro3:PgOk (Zi h.vs q++[newB t d])/\(Zi h.vs q++[newB t d]).length<256:=by have:=congrFun hrc q;unfold rcSet at this;simp only [if_true] at this;rw [this];exact hro2
      refine Tk (Ts (TS ?_))
      iterate 7 refine Lz ?_
      refine Lq (z8 [(0,1),(1,1),(2,1),(3,1),(4,1),(5,1)] [.int .i64 0,.int .i64 0,.int .i64 0,.int .i64 0,.int .i64 0,.slice none 0 0] [_,_,_,_,_,_] [(0,_),(1,_),(2,_),(3,_),(5,_)] (by unfold Zf;kernel_rfl) rfl rfl) ?_
      refine Le (Ec (Hp.writeP B S g b logs count n (K+count) x.q x.pc h.cm.length x.cc h.last s2 h.es (Zi h.vs) hs2 (by omega) (addE h t d q) a c hokE hv (by omega) (by simp) q rfl (by omega) (Zi h.vs q++[newB t d]) hro3.1 hro3.2 (λ X hX gpg m=>Hp.applyAdd B X (pV g) gpg (Zi h.vs q) m (addE h t d q) a c hokE rfl hX (by rw [hrl]) (by show d.length<=184;omega) hus)) Tryz.func82 rfl rfl rfl ?_)
      rintro _ _ ⟨s',hS,rfl,rfl⟩
      try simp only [cA,nA]
      refine La rfl (Ld (TS (Lm rfl (Lq (yW rfl rfl) (Ld ?_)))))
      rw [hrc] at hS
      have hi3:=hi.write hstep (by simp) (hi.r.act1 t (isAct_iff.1 hc)).2 hS (by omega)
      refine yQ rfl (Tk (TS ?_))
      refine Lz ?_
      refine L0 (Es [_,_] rfl rfl rfl rfl (by simp) ?_)
      try simp only [splice,lC,lN,dS,cA,tS,tZ,dZ,nA,aN]
      refine La rfl (Ld (T.ret ?_))
      exact ⟨.inl rfl,_,_,res [_,_] rfl ⟨rvA [_,_] rfl ⟨rfl,rfl,trivial⟩,rvT rfl,trivial⟩,⟨rfl,rfl⟩,Wb [hpB g x.q x.pc h.cm.length x.cc h.last,stA x.q x.st,cmR x.pc h.cm.length x.cc h.cm,wlS b x.q s',plS b n logs count x.q s',Zn b s'.D] {x with s:=s'} (Zg h (addE h t d q)) hi3 rfl⟩
  . have he:Wm h t d=(h,0,0,70):=by unfold Wm;rw [if_neg hc]
    rw [he]
    refine Ws 66 Tryz.func38 rfl rfl (nB rfl) (λ F=>?_)
    try simp only [cA,nA]
    refine TS ?_
    refine Le (zL [_] rfl rfl ?_)
    intro g5
    refine Le (El [.int .i64 0,.int .i64 0] (by unfold Zf;kernel_rfl) ?_)
    intro g6
    refine La rfl (Ld (Ts (yH (TS ?_))))
    iterate 6 refine Lz ?_
    refine Lq (zT Hp.okS rfl t rfl 0 rfl) (Lq (yW rfl rfl) (La rfl (Ld (zM rfl (hp:=((λ q=>hc (ha.1 q)))) (TS (Lq (z8 [(0,1),(1,1)] [.int .i64 0,.int .i64 0] [_,_] [] (by unfold Zf;kernel_rfl) rfl rfl) ?_))))))
    refine L0 (Es [_,_] rfl rfl rfl rfl (by simp) ?_)
    try simp only [splice,lC,lN,dS,cA,tS,tZ,dZ,nA,aN]
    refine La rfl (Ld (T.ret ?_))
    exact ⟨.inl rfl,_,_,res [_,_] rfl ⟨rvA [_,_] rfl ⟨rfl,rfl,trivial⟩,rvT rfl,trivial⟩,⟨rfl,rfl⟩,Wb [hpB g x.q x.pc h.cm.length x.cc h.last,stA x.q x.st,cmR x.pc h.cm.length x.cc h.cm,wlS b x.q x.s,plS b n logs count x.q x.s,Zn b x.s.D] x h hi1 rfl⟩
open Go.RowKit
theorem ver_beg (v:Ver):(verB v).take 8=be (UInt64.ofInt v.beg) 8:=by unfold verB;rw [List.append_assoc,List.take_left' (Zd _ _)]
theorem ver_fin (v:Ver):((verB v).take 16).drop 8=be (UInt64.ofInt v.fin) 8:=by unfold verB;rw [List.take_left' (by simp [Zd]),List.drop_left' (Zd _ _)]
theorem ver_data (v:Ver):(verB v).drop 16=v.data:=by unfold verB;rw [List.drop_left' (by simp [Zd])]
abbrev verV (n slot:Int) (v:Ver) (a:Option Addr) (c:Nat):Value := .agg #[.int .i64 n,.int .i64 slot,.int .i64 v.beg,.int .i64 v.fin,.slice (offA a c 16 1) v.data.length (c-16)]
theorem Hp.version (B:Wn) (S:List Wp) (n slot:Int) (a:Option Addr) (m c:Nat) (v:Ver) (hv:RdV B S (.slice a m c) (Zb (verB v))) (hm:(verB v).length=m) (hmc:m<=c) (hb:0<=v.beg/\v.beg<9223372036854775808) (hf:0<=v.fin/\v.fin<9223372036854775808) :
  Fn Tryz.prog B 56 #[.int .i64 n,.int .i64 slot,.slice a m c] S (λ u l=>u=verV n slot v a c/\l=S):=by
 have hml:m=16+v.data.length:=by rw [<-hm,length_verB]
 have h1:=RdV.part hv 0 8 (by omega) hm (by omega) (by omega) (z:=8) rfl
 have h2:=RdV.part hv 8 16 (by omega) hm (by omega) (by omega) (z:=8) rfl
 rw [List.drop_zero,ver_beg,offA_zero] at h1
 rw [ver_fin] at h2
 have g1:=get_at (n:=v.beg) (k:=8)
 have g2:=get_at (n:=v.fin) (k:=8)
 have hz:m-16=v.data.length:=by omega
 refine Ws 21 Tryz.func56 rfl rfl (nB rfl) (λ F=>?_)
 refine TS ?_
 refine Le (El [.int .i64 0,.int .i64 0,.int .i64 0,.int .i64 0,.slice none 0 0] (by unfold Zf;kernel_rfl) ?_)
 intro g6
 refine Ld (Ts (zW 14 none (nB rfl) ?_))
 refine Rz 0 ?_;refine Rz 1 ?_
 refine Rq 2 rfl Sa (z8 [(0,1),(1,1)] [.int .i64 0,.int .i64 0] [_,_] [(0,_),(1,_)] (by unfold Zf;kernel_rfl) rfl rfl) ?_
 refine Rz 3 ?_
 refine Rq 4 rfl Sa (Y6 8 (e:=5) (sz:=1) rfl rfl rfl) ?_
 refine Rz 7 ?_
 refine Rq 8 rfl Sa (zS 8 16 (e:=5) (sz:=1) rfl rfl rfl rfl rfl) ?_
 refine Rz 11 ?_
 refine Rq 12 rfl Sa (zP 16 (e:=5) (sz:=1) rfl rfl rfl) (yK 5 ?_)
 refine z6 rfl (Ec (Cd.get B _ _ (be (UInt64.ofInt v.beg) 8) (h1.takeAll c) (by simp [Zd])) Tryz.func87 rfl rfl rfl ?_)
 rintro _ l2 ⟨rfl,hl2⟩
 try simp only [cA,nA]
 rw [hl2]
 clear hl2
 refine ⟨Sa,?_⟩
 refine Rq 6 rfl Sa (yX rfl g1) (yK 9 ?_)
 refine z6 rfl (Ec (Cd.get B _ _ (be (UInt64.ofInt v.fin) 8) h2 (by simp [Zd])) Tryz.func87 rfl rfl rfl ?_)
 rintro _ l2 ⟨rfl,hl2⟩
 rw [hl2]
 clear hl2
 refine ⟨Sa,?_⟩
 refine Rq 10 rfl Sa (yX rfl g2) (Rq 13 rfl Sa (z8 [(0,2),(2,1),(3,1),(4,1)] [.int .i64 0,.int .i64 0,.int .i64 0,.int .i64 0,.slice none 0 0] [_,_,_,_,_] [(0,_),(1,_),(2,_),(3,_)] (by unfold Zf;kernel_rfl) rfl rfl) (Rd0 (by rfl) ?_))
 simp only [dS,dZ,dN]
 refine L0 (Es [_,_,_,_,_] rfl rfl rfl rfl (by simp) ?_)
 try simp only [splice,lC,lN,dS,cA,tS,tZ,dZ,nA,aN]
 refine Ld ?_
 rw [hz]
 refine T.ret ?_
 exact ⟨.inl rfl,_,_,res [_] rfl ⟨rvA [_,_,_,_,_] rfl ⟨rfl,rfl,rfl,rfl,rfl,trivial⟩,trivial⟩,⟨rfl,rfl⟩,Sa⟩
open Go.RowKit
theorem ver_ok {h:HR} (r:RInv h) {v:Ver} (hv:v∈h.vs):1<=v.beg/\v.beg<=h.last/\0<=v.fin/\v.fin<=h.last:=by
  obtain ⟨_,_,⟨e,he,_,h2⟩,h3⟩:=r.ok.vok v hv
  have h4:=(r.ok.eok e he).txn
  have h5:=r.lst e he
  have h0:=r.last0
  rcases h3 with h3 | ⟨e',he',_,h6⟩
  . omega
  . have h7:=(r.ok.eok e' he').txn
    have h8:=r.lst e' he'
    omega
abbrev verB5 (g:Nat) (a b c d:Int) (sl:Value):Wp:=blk g [.int .i64 a,.int .i64 b,.int .i64 c,.int .i64 d,sl] 99
def Found (l:List Ver) (page slot:Int) (g4 g5:Nat) (X:List Wp):Prop:=(∃ (j:Nat) (v:Ver) (p:Option Addr) (mm c:Nat),slot=j/\l[j]? = some v/\X=[verB5 g4 page slot v.beg v.fin (.slice p mm c),blk g5 [.bool true] 4])\/((∀ j:Nat,slot=j->l[j]? = none)/\X=[verB5 g4 0 0 0 0 (.slice none 0 0),blk g5 [.bool false] 4])
theorem Hp.find1 (B:Wn) (A:Wp) (gpg g3 g4 g5:Nat) (l:List Ver) (m page slot:Int) (hl : ∀ v∈l,0<=v.beg/\v.beg<9223372036854775808/\0<=v.fin/\v.fin<9223372036854775808) :
    Fn Tryz.prog B 125 #[pV gpg,pV g3,pV g4,pV g5] (pgA gpg (l.map verB) m::A::[ridB g3 page slot,verB5 g4 0 0 0 0 (.slice none 0 0),blk g5 [.bool false] 4])
      (λ u L=>u = .bool false /\ ∃ X,Found l page slot g4 g5 X/\L=pgA gpg (l.map verB) m::A::ridB g3 page slot::X):=by
  by_cases hs:0<=slot/\slot<((l.map verB).length:Int)
  . have hjl:slot.toNat<l.length:=by have:=hs.2;simp at this;omega
    obtain ⟨v,hv⟩ : ∃ v,l[slot.toNat]? = some v:=⟨_,List.getElem?_eq_getElem hjl⟩
    obtain ⟨v1,v2,v3,v4⟩:=hl v (List.mem_of_getElem? hv)
    refine Fn.enter4 28 Tryz.func125 rfl rfl (nB rfl) (λ F=>?_)
    try simp only [cA,nA]
    refine TS (La rfl (Ld (Ts (TS ?_))))
    iterate 3 refine Lz ?_
    refine Le (Ec (Fn.own (Pg.getE B gpg (l.map verB) m slot slot.toNat (16+v.data.length) (verB v) (by omega) (by rw [List.getElem?_map,hv];rfl) (length_verB v))) Tryz.func55 rfl rfl rfl ?_)
    rintro _ _ ⟨⟨p1,c1,rfl,rfl⟩,w1,F1,ho1⟩
    try simp only [cA,nA]
    simp only [List.cons_append,List.nil_append] at ho1
    have hp1:=(ho1.slice_at (p:=p1) (m:=16+v.data.length) (c:=c1)).2.1
    have hc1:=ho1.cap_at (p:=p1) (m:=16+v.data.length) (c:=c1)
    clear ho1
    iterate 5 refine Lz ?_
    refine Ld (TS ?_)
    iterate 3 refine Lz ?_
    refine zQ (t:=17) rfl rfl ?_
    iterate 4 refine Lz ?_
    refine Ld (zM rfl (TR ?_))
    iterate 5 refine Lz ?_
    refine Le (Ec (Hp.version B [rB (.slice p1 (16+v.data.length) c1) (16+v.data.length) (verB v)] page slot p1 (16+v.data.length) c1 v (RdV.rB (length_verB v) hp1) (length_verB v) hc1 ⟨v1,v2⟩ ⟨v3,v4⟩) Tryz.func56 rfl rfl rfl ?_)
    rintro _ _ ⟨rfl,rfl⟩
    try simp only [cA,nA]
    refine L0 (Es [_,_,_,_,_] rfl rfl rfl rfl (by simp) ?_)
    try simp only [splice,lC,lN,dS,cA,tS,tZ,dZ,nA,aN]
    refine L0 (E1 (by kernel_rfl) rfl rfl rfl (by first | (simp;done) | (simp;omega)) ?_)
    try simp only [List.set_cons_zero,List.set_cons_succ]
    refine Ld (TS (La rfl (Ld (T.ret ?_))))
    exact ⟨.inl rfl,_,_,res [_] rfl ⟨rvT rfl,trivial⟩,⟨rfl,_,.inl ⟨slot.toNat,v,offA p1 c1 16 1,v.data.length,c1-16,by omega,hv,rfl⟩,rfl⟩,Sa⟩
  refine Fn.enter4 28 Tryz.func125 rfl rfl (nB rfl) (λ F=>?_)
  try simp only [cA,nA]
  refine TS (La rfl (Ld (Ts (TS ?_))))
  iterate 3 refine Lz ?_
  refine Le (Ec (Pg.get_no B gpg (l.map verB) m slot hs) Tryz.func55 rfl rfl rfl ?_)
  rintro _ _ ⟨rfl,rfl⟩
  try simp only [cA,nA]
  iterate 5 refine Lz ?_
  refine Ld (TS ?_)
  iterate 3 refine Lz ?_
  refine yT (t:=17) rfl rfl ?_
  iterate 4 refine Lz ?_
  refine Ld (yQ rfl (Tk (TS (La rfl (Ld (T.ret ?_))))))
  exact ⟨.inl rfl,_,_,res [_] rfl ⟨rvT rfl,trivial⟩,⟨rfl,_,.inr ⟨λ j hj=>List.getElem?_eq_none (by simp at hs;omega),rfl⟩,rfl⟩,Sa⟩
def FindR (h:HR) (page slot:Int) (u:Value):Prop:=(∃ (v:Ver) (p:Option Addr) (mm c:Nat),(We h.vs page slot).bind (h.vs[·]?)=some v/\u = .tuple #[.agg #[.int .i64 page,.int .i64 slot,.int .i64 v.beg,.int .i64 v.fin,.slice p mm c],.bool true])\/((We h.vs page slot).bind (h.vs[·]?)=none/\u = .tuple #[.agg #[.int .i64 0,.int .i64 0,.int .i64 0,.int .i64 0,.slice none 0 0],.bool false])
theorem Hp.find (B:Wn) (g b logs count n K:Nat) (h:HR) (hK:K<2^29) (page slot:Int) (x:HpX) (hi:HInv logs count n K x.s x.st h) (pc:Option Addr) (cc:Nat) :
    Fn Tryz.prog B 81 #[pV g,.agg #[.int .i64 page,.int .i64 slot]] [hpB g x.q pc h.cm.length cc h.last,wlS b x.q x.s,plS b n logs count x.q x.s,Zn b x.s.D]
      (λ u l => ∃ s',SInv logs count n (K+1) s' h.es (Zi h.vs)/\FindR h page slot u/\l=[hpB g x.q pc h.cm.length cc h.last,wlS b x.q s',plS b n logs count x.q s',Zn b s'.D]):=by
  have hpg:=hi.pages
  have hct:=hi.cnt
  have hlk:h.last<2^62:=by have:=hi.lastK;omega
  by_cases hr:0<=page/\page<(count:Int)
  . obtain ⟨q,rfl⟩ : ∃ q:Nat,page=q:=⟨page.toNat,by omega⟩
    have hvl : ∀ v∈Zh h.vs q,0<=v.beg/\v.beg<9223372036854775808/\0<=v.fin/\v.fin<9223372036854775808:=λ v hv=>by
      have:=ver_ok hi.r (mem_of_filt hv)
      omega
    have hfp:=findV_page hi.r.ok.slots q slot
    refine Wr 29 Tryz.func81 rfl rfl (nB rfl) (λ F=>?_)
    try simp only [cA,nA]
    refine TS ?_
    refine Le (zL [_,_] rfl rfl ?_)
    intro g3
    refine Le (El [.int .i64 0,.int .i64 0,.int .i64 0,.int .i64 0,.slice none 0 0] (by unfold Zf;kernel_rfl) ?_)
    intro g4
    refine Le (El [.bool false] (by unfold Zf;kernel_rfl) ?_)
    intro g5
    refine Ld (Ts (Ts (T.draw 15 ([hpB g x.q pc h.cm.length cc h.last,ridB g3 q slot]) (nB rfl) ?_)))
    refine Rz 0 ?_;refine Rz 1 ?_;refine Rz 2 ?_;refine Rz 3 ?_
    refine ZD (t:=9) rfl rfl ?_
    refine Rz 4 ?_;refine Rz 5 ?_;refine Rz 6 ?_;refine Rz 7 ?_;refine Rz 8 ?_;refine Rz 9 ?_;refine Rz 10 ?_;refine Rz 11 ?_
    refine yK 12 ?_
    refine z6 rfl (Ec (Bp.pages B x.q.gp b n logs count x.s.hand x.q.gl x.s.A) Tryz.func43 rfl rfl rfl ?_)
    rintro _ _ ⟨rfl,rfl⟩
    try simp only [cA,nA]
    refine ⟨Sa,?_⟩
    refine Rz 13 ?_;refine Rz 14 ?_
    refine Rd0 (by rfl) ?_
    simp only [dS,dZ,dN]
    refine Ld (yL rfl (Tk (TS ?_)))
    iterate 3 refine Lz ?_
    refine Lq (Y4 [_,_,_] rfl) ?_
    refine Le (Ec (Hp.with B g b n logs count K x.q pc h.cm.length cc h.last x.s h.es (Zi h.vs) hi.s (by omega) q (by omega) q rfl 0 0 rfl (by omega) 125 Tryz.f125 [pV g3,pV g4,pV g5] [ridB g3 q slot,verB5 g4 0 0 0 0 (.slice none 0 0),blk g5 [.bool false] 4] (λ bb r' X'=>bb=false /\ ∃ X,Found (Zh h.vs q) q slot g4 g5 X/\X'=ridB g3 q slot::X) Tryz.func125 rfl rfl (λ gpg m=>(Hp.find1 B (hpB g x.q pc h.cm.length cc h.last) gpg g3 g4 g5 (Zh h.vs q) m q slot hvl).mono (λ v l ⟨h1,X,h2,h3⟩=>⟨false,_,_,⟨rfl,X,h2,rfl⟩,h1,h3⟩)) (λ r' X' hh=>by obtain ⟨h1,_⟩:=hh;cases h1)) Tryz.func52 rfl rfl rfl ?_)
    rintro _ _ ⟨bb,r',X',s',⟨rfl,X,hX,rfl⟩,hS,rfl,rfl⟩
    try simp only [cA,nA]
    have hS2:SInv logs count n (K+1) s' h.es (Zi h.vs):=by simpa [rcSet] using hS
    refine Ld (Ts ?_)
    by_cases hfo : ∃ (j:Nat) (v:Ver) (p:Option Addr) (mm c:Nat),slot=j/\(Zh h.vs q)[j]? = some v/\X=[verB5 g4 q slot v.beg v.fin (.slice p mm c),blk g5 [.bool true] 4]
    . skip
      obtain ⟨j,v,p,mm,c,rfl,hv,rfl⟩:=hfo
      simp only [List.cons_append,List.nil_append]
      refine zU 3 (nB rfl) ?_
      refine Rz 0 ?_;refine Rz 1 ?_
      refine yK 2 ?_
      refine ZX rfl rfl (Es [_,_,_,_,_] rfl rfl rfl rfl (by simp) ?_)
      try simp only [splice,lC,lN,dS,cA,tS,tZ,dZ,nA,aN]
      refine ⟨Sa,?_⟩
      refine Rd0 (by rfl) ?_
      simp only [dS,dZ,dN]
      refine L0 (E1 (by kernel_rfl) rfl rfl rfl (by first | (simp;done) | (simp;omega)) ?_)
      try simp only [List.set_cons_zero,List.set_cons_succ]
      refine Ld (T.ret ?_)
      exact ⟨.inl rfl,_,_,res [_,_] rfl ⟨rvA [_,_,_,_,_] rfl ⟨rfl,rfl,rfl,rfl,rfl,trivial⟩,rvC rfl rfl,trivial⟩,⟨s',hS2,.inl ⟨v,p,mm,c,by rw [hfp,if_pos (by omega)];simpa using hv,rfl⟩,rfl⟩,Sa⟩
    obtain ⟨hn,rfl⟩:=hX.resolve_left hfo
    simp only [List.cons_append,List.nil_append]
    refine zU 3 (nB rfl) ?_
    refine Rz 0 ?_;refine Rz 1 ?_
    refine yK 2 ?_
    refine ZX rfl rfl (Es [_,_,_,_,_] rfl rfl rfl rfl (by simp) ?_)
    try simp only [splice,lC,lN,dS,cA,tS,tZ,dZ,nA,aN]
    refine ⟨Sa,?_⟩
    refine Rd0 (by rfl) ?_
    simp only [dS,dZ,dN]
    refine L0 (E1 (by kernel_rfl) rfl rfl rfl (by first | (simp;done) | (simp;omega)) ?_)
    try simp only [List.set_cons_zero,List.set_cons_succ]
    refine Ld (T.ret ?_)
    exact ⟨.inl rfl,_,_,res [_,_] rfl ⟨rvA [_,_,_,_,_] rfl ⟨rfl,rfl,rfl,rfl,rfl,trivial⟩,rvC rfl rfl,trivial⟩,⟨s',hS2,.inr ⟨by rw [hfp];split;(next h0=>simpa using hn slot.toNat (by omega));rfl,rfl⟩,rfl⟩,Sa⟩
  . have hnone:(We h.vs page slot).bind (h.vs[·]?)=none:=by
      rw [findV_page hi.r.ok.slots]
      split
      . rename_i h0
        refine List.getElem?_eq_none ?_
        have:Zh h.vs page.toNat=[]:=by
          unfold Zh
          rw [List.filter_eq_nil_iff]
          intro v hv
          have:=(hi.r.ok.vok v hv).1
          simp;omega
        rw [this];simp
      . rfl
    refine Wr 29 Tryz.func81 rfl rfl (nB rfl) (λ F=>?_)
    try simp only [cA,nA]
    refine TS ?_
    refine Le (zL [_,_] rfl rfl ?_)
    intro g3
    refine Le (El [.int .i64 0,.int .i64 0,.int .i64 0,.int .i64 0,.slice none 0 0] (by unfold Zf;kernel_rfl) ?_)
    intro g4
    refine Le (El [.bool false] (by unfold Zf;kernel_rfl) ?_)
    intro g5
    refine Ld (Ts (Ts (T.draw 15 ([hpB g x.q pc h.cm.length cc h.last,ridB g3 page slot]) (nB rfl) ?_)))
    refine Rz 0 ?_;refine Rz 1 ?_;refine Rz 2 ?_;refine Rz 3 ?_
    by_cases h0:page<0
    . skip
      refine YY (t:=9) rfl (decide_eq_true (by omega)) ?_
      refine Rz 4 ?_;refine Rz 5 ?_;refine Rz 6 ?_;refine Rz 7 ?_;refine Rz 8 ?_;refine Rz 9 ?_;refine Rz 10 ?_;refine Rz 11 ?_;refine Rz 12 ?_;refine Rz 13 ?_;refine Rz 14 ?_
      refine Rd0 (by rfl) ?_
      simp only [dS,dZ,dN]
      refine Ld (zF rfl (TS ?_))
      refine Lz ?_
      refine L0 (Es [_,_,_,_,_] rfl rfl rfl rfl (by simp) ?_)
      try simp only [splice,lC,lN,dS,cA,tS,tZ,dZ,nA,aN]
      refine L0 (E1 (by kernel_rfl) rfl rfl rfl (by first | (simp;done) | (simp;omega)) ?_)
      try simp only [List.set_cons_zero,List.set_cons_succ]
      refine Ld (T.ret ?_)
      exact ⟨.inl rfl,_,_,res [_,_] rfl ⟨rvA [_,_,_,_,_] rfl ⟨rfl,rfl,rfl,rfl,rfl,trivial⟩,rvC rfl rfl,trivial⟩,⟨x.s,hi.s.mono (by omega),.inr ⟨hnone,rfl⟩,rfl⟩,Sa⟩
    refine ZD (t:=9) rfl (decide_eq_false (by omega)) ?_
    refine Rz 4 ?_;refine Rz 5 ?_;refine Rz 6 ?_;refine Rz 7 ?_;refine Rz 8 ?_;refine Rz 9 ?_;refine Rz 10 ?_;refine Rz 11 ?_
    refine yK 12 ?_
    refine z6 rfl (Ec (Bp.pages B x.q.gp b n logs count x.s.hand x.q.gl x.s.A) Tryz.func43 rfl rfl rfl ?_)
    rintro _ _ ⟨rfl,rfl⟩
    try simp only [cA,nA]
    refine ⟨Sa,?_⟩
    refine Rz 13 ?_;refine Rz 14 ?_
    refine Rd0 (by rfl) ?_
    simp only [dS,dZ,dN]
    refine Ld (zM rfl (TS ?_))
    refine Lz ?_
    refine L0 (Es [_,_,_,_,_] rfl rfl rfl rfl (by simp) ?_)
    try simp only [splice,lC,lN,dS,cA,tS,tZ,dZ,nA,aN]
    refine L0 (E1 (by kernel_rfl) rfl rfl rfl (by first | (simp;done) | (simp;omega)) ?_)
    try simp only [List.set_cons_zero,List.set_cons_succ]
    refine Ld (T.ret ?_)
    exact ⟨.inl rfl,_,_,res [_,_] rfl ⟨rvA [_,_,_,_,_] rfl ⟨rfl,rfl,rfl,rfl,rfl,trivial⟩,rvC rfl rfl,trivial⟩,⟨x.s,hi.s.mono (by omega),.inr ⟨hnone,rfl⟩,rfl⟩,Sa⟩
open Go.RowKit
theorem modify_set {α:Type} {a:α} : ∀ {l:List α} {i:Nat},l[i]? = some a -> ∀ f:α->α,l.modify i f=l.set i (f a)
 | [],_,h,_=>by simp at h
 | b::l,0,h,f=>by simp at h;simp [h]
 | b::l,i+1,h,f=>by simp [modify_set (l:=l) (i:=i) (by simpa using h) f]
section
variable {h : HR} {t page slot:Int} {v:Ver}
theorem end4 (hc:Zp h t=true) (hv:(We h.vs page slot).bind (h.vs[·]?)=some v) (hb:(v.beg≠t/\Wa h v.beg=false)\/v.fin=t\/Wa h v.fin=true):endR h t page slot=(h,4):=by
 unfold endR;rw [if_pos hc,hv];dsimp only;rw [if_pos hb]
theorem not_bad (hbg:v.beg=t\/Wa h v.beg=true) (h5 : ¬ v.fin=t) (hcf:Wa h v.fin=false) : ¬ ((v.beg≠t/\Wa h v.beg=false)\/v.fin=t\/Wa h v.fin=true):=by
  rintro (⟨q1,q2⟩ | q | q)
  . rcases hbg with k | k
    . exact q1 k
    . rw [k] at q2;cases q2
  . exact h5 q
  . rw [hcf] at q;cases q
theorem end71 (hc:Zp h t=true) (hv:(We h.vs page slot).bind (h.vs[·]?)=some v) (hbg:v.beg=t\/Wa h v.beg=true) (h5 : ¬ v.fin=t) (hcf:Wa h v.fin=false) (haf:Zp h v.fin=true):endR h t page slot=(h,71):=by
 unfold endR;rw [if_pos hc,hv];dsimp only;rw [if_neg (not_bad hbg h5 hcf),if_pos haf]
theorem end3 (hc:Zp h t=true) (hv:(We h.vs page slot).bind (h.vs[·]?)=some v) (hbg:v.beg=t\/Wa h v.beg=true) (h5:v.fin≠t) (hcf:Wa h v.fin=false) (haf:Zp h v.fin=false) (hf:(h.room:Int)<h.used+20):endR h t page slot=(h,3):=by
 unfold endR;rw [if_pos hc,hv];dsimp only;rw [if_neg (not_bad hbg h5 hcf),if_neg (by simp [haf]),if_pos hf]
theorem end0 (hc:Zp h t=true) (hv:(We h.vs page slot).bind (h.vs[·]?)=some v) (hbg:v.beg=t\/Wa h v.beg=true) (h5:v.fin≠t) (hcf:Wa h v.fin=false) (haf:Zp h v.fin=false) (hf : ¬ (h.room:Int)<h.used+20):endR h t page slot=(Zg h (endE t page slot),0):=by
 unfold endR;rw [if_pos hc,hv];dsimp only;rw [if_neg (not_bad hbg h5 hcf),if_neg (by simp [haf]),if_neg hf]
theorem rc_end (r:RepOk h) {i:Nat} (hi:We h.vs page slot=some i) (hv:h.vs[i]? = some v):rcSet (Zi h.vs) true v.page ((Zi h.vs v.page).set v.slot (setB 8 (be (UInt64.ofInt t) 8) (verB v)))=Zi (Zg h (endE t page slot)).vs:=by
  obtain ⟨u,hu,e1,e2⟩:=findV_some hi
  rw [hv] at hu;cases hu
  have hp:=page_at r.slots hv
  funext x
  rw [recs_end (h:=h) (e:=endE t page slot) r rfl hi hv x]
  unfold rcSet
  simp only [if_true]
  have e3:page.toNat=v.page:=by omega
  have e4:slot.toNat=v.slot:=by omega
  by_cases e:x=v.page
  . subst e
    rw [if_pos rfl,if_pos e3.symm,e4]
    have hl:=(List.getElem?_eq_some_iff.1 hp).1
    have hr:(Zi h.vs v.page)[v.slot]? = some (verB v):=by unfold Zi;rw [List.getElem?_map,hp];rfl
    have hl2:=(List.getElem?_eq_some_iff.1 hr)
    obtain ⟨q1,q2⟩:=hl2
    exact (modify_set hr _).symm
  . rw [if_neg e,if_neg (by rw [e3];exact e)]
end
theorem Hp.end_ (B:Wn) (g b logs count n K:Nat) (h:HR) (hK:K<2^28) (t page slot:Int) :
    Fn Tryz.prog B 37 #[pV g,.int .i64 t,.agg #[.int .i64 page,.int .i64 slot]] [hpA g b logs count n K h] (λ u l=>u = .int .i64 (endR h t page slot).2/\l=[hpA g b logs count n (K+2) (endR h t page slot).1]):=by
  refine Fn.openHp λ x hi hp=>?_
  simp only [hpC,List.cons_append,List.nil_append]
  have ha:=hi.st.act t
  have hi1:HInv logs count n (K+2) x.s x.st h:=hi.mono (by omega)
  by_cases hc:Zp h t=true
  . have hct:=hi.cnt
    have hpg:=hi.pages
    have hu:=hi.used
    have hr:=hi.room
    have hlk:h.last<2^62:=by have:=hi.lastK;omega
    refine Ws 75 Tryz.func37 rfl rfl (nB rfl) (λ F=>?_)
    try simp only [cA,nA]
    refine TS ?_
    refine Le (zL [_,_] rfl rfl ?_)
    intro g5
    refine La rfl (Ld (Ts (TS ?_)))
    iterate 6 refine Lz ?_
    refine Lq (zT Hp.okS rfl t rfl 0 rfl) (Lq (yW rfl rfl) (Ld (yL rfl (hp:=((λ q=>q (ha.2 hc)))) (Tk (TS ?_)))))
    iterate 2 refine Lz ?_
    refine Le (Ec (Hp.find B g b logs count n K h (by omega) page slot x hi x.pc x.cc) Tryz.func81 rfl rfl rfl ?_)
    rintro u _ ⟨s',hS,hfd,rfl⟩
    try simp only [cA,nA]
    by_cases hfo : ∃ (v:Ver) (p:Option Addr) (mm c:Nat),(We h.vs page slot).bind (h.vs[·]?)=some v/\u = .tuple #[.agg #[.int .i64 page,.int .i64 slot,.int .i64 v.beg,.int .i64 v.fin,.slice p mm c],.bool true]
    . skip
      have hi2:HInv logs count n (K+2) s' x.st h:=⟨hS.mono (by omega),hi.r,hi.st,hi.pages,hi.room,by have:=hi.lastK;omega⟩
      have hu2:=hi2.used
      obtain ⟨v,p,mm,c,hv,rfl⟩:=hfo
      obtain ⟨i,hfi,hvi⟩ : ∃ i,We h.vs page slot=some i/\h.vs[i]? = some v:=by
        cases hq:We h.vs page slot with
        | none=>rw [hq] at hv;cases hv
        | some i=>rw [hq] at hv;exact ⟨i,rfl,hv⟩
      obtain ⟨v0,hv0,hvp,hvs⟩:=findV_some hfi
      rw [hvi] at hv0
      cases hv0
      have hvo:=ver_ok hi.r (List.mem_of_getElem? hvi)
      have hvk:=hi.r.ok.vok v (List.mem_of_getElem? hvi)
      have hrv:(Zi h.vs v.page)[v.slot]? = some (verB v):=by unfold Zi;rw [List.getElem?_map,page_at hi.r.ok.slots hvi];rfl
      have hokE:EnOk (endE t page slot):=by
        have h1:=hi.r.act1 t (isAct_iff.1 hc)
        have h3:=pages_len hi.r.ok v.page
        have h4:=(List.getElem?_eq_some_iff.1 (page_at hi.r.ok.slots hvi)).1
        exact ⟨by simp,by simp;omega,by simp only [enPlace];omega,by simp,by simp,by simp,by simp,by simp⟩
      have hsz:enSz (endE t page slot)=20:=by rw [enSz_eq];simp
      iterate 3 refine Lz ?_
      refine Le (El [.int .i64 0,.int .i64 0,.int .i64 0,.int .i64 0,.slice none 0 0] (by unfold Zf;kernel_rfl) ?_)
      intro g7
      refine L0 (Es [_,_,_,_,_] rfl rfl rfl rfl (by simp) ?_)
      try simp only [splice,lC,lN,dS,cA,tS,tZ,dZ,nA,aN]
      refine La rfl (Ld (Ts (Ts (T.draw 17 ([hpB g x.q x.pc h.cm.length x.cc h.last,stA x.q x.st,verB5 g7 page slot v.beg v.fin (.slice p mm c)]) (nB rfl) ?_))))
      refine Rz 0 ?_;refine Rz 1 ?_;refine Rz 2 ?_;refine Rz 3 ?_;refine Rz 4 ?_;refine Rz 5 ?_;refine Rz 6 ?_
      refine Rq 7 rfl Sa (zT Hp.okS rfl v.beg rfl 0 rfl) ?_
      refine Rz 8 ?_;refine Rz 9 ?_;refine Rz 10 ?_;refine Rz 11 ?_;refine Rz 12 ?_;refine Rz 13 ?_;refine Rz 14 ?_
      refine Rq 15 rfl Sa (zT Hp.okS rfl v.fin rfl 0 rfl) ?_
      refine Rz 16 ?_
      refine Rd0 (by rfl) ?_
      simp only [dS,dZ,dN]
      refine La rfl (Ld (yH ?_))
      refine T.cut (λ fz lz => ∃ (f0:Fr) (bb:Bool),((bb=true->(v.beg≠t/\Wa h v.beg=false)\/v.fin=t\/Wa h v.fin=true)/\(bb=false->(v.beg=t\/Wa h v.beg=true)/\v.fin≠t/\Wa h v.fin=false))/\fz=(upd (upd (upd (upd (upd f0 0 (pV g)) 1 (.int .i64 t)) 5 (pV g5)) 10 (.int .i64 (lookS x.st v.fin))) 41 (.bool bb))/\lz=ridB g5 page slot::hpB g x.q x.pc h.cm.length x.cc h.last::stA x.q x.st::cmR x.pc h.cm.length x.cc h.cm::wlS b x.q s'::plS b n logs count x.q s'::Zn b s'.D::F) ?_ ?_
      . skip
        refine TS ?_
        iterate 3 refine Lz ?_
        refine Ld (yQ rfl (TS ?_))
        iterate 3 refine Lz ?_
        refine Ld ?_
        refine yN rfl (λ h0=>?_) (λ h0=>?_)
        . skip
          have h00:=stN_lost.1 ((hi.st v.beg).symm.trans h0)
          refine Tk ?_
          exact ⟨_,⟨_,decide ((Zy x.st v.beg).getD 0=0),⟨λ _ => .inl ⟨(λ hq=>by rw [hq,hc] at h00;cases h00.1),h00.2⟩,λ hq=>absurd h0 (of_decide_eq_false hq)⟩,U5,rfl⟩,Sa⟩
        refine TS ?_
        iterate 3 refine Lz ?_
        refine zZ (t:=48) rfl (λ h1=>?_) (λ h1=>?_)
        . skip
          try replace h1:=of_decide_eq_true h1
          have hab:=(hi.st.act v.beg).1 h1
          have hcb:=hi.r.actcm v.beg (isAct_iff.1 hab)
          iterate 6 refine Lz ?_
          refine Ld ?_
          refine yN rfl (λ h2=>?_) (λ h2=>?_)
          . skip
            refine Tk ?_
            exact ⟨_,⟨_,decide (v.beg≠t),⟨λ _ => .inl ⟨h2,hcb⟩,λ hq=>absurd h2 (of_decide_eq_false hq)⟩,U5,rfl⟩,Sa⟩
          have hbg:v.beg=t\/Wa h v.beg=true := .inl (Decidable.not_not.1 h2)
          refine TS ?_
          iterate 3 refine Lz ?_
          refine Ld ?_
          refine yN rfl (λ h3=>?_) (λ h3=>?_)
          . skip
            refine Tk ?_
            exact ⟨_,⟨_,decide ((Zy x.st v.fin).getD 0=2),⟨λ _ => .inr (.inr ((stN_cm hi.r).1 (by rw [<-hi.st v.fin];exact h3))),λ hq=>absurd h3 (of_decide_eq_false hq)⟩,U5,rfl⟩,Sa⟩
          have hcf:Wa h v.fin=false:=by
            cases hq:Wa h v.fin with
            | false=>rfl
            | true=>exact absurd (by rw [show (Zy x.st v.fin).getD 0=stN h v.fin from hi.st v.fin];exact (stN_cm hi.r).2 hq) h3
          refine TR ?_
          iterate 3 refine Lz ?_
          refine zZ (t:=58) rfl (λ h4=>?_) (λ h4=>?_)
          . skip
            try replace h4:=of_decide_eq_true h4
            iterate 6 refine Lz ?_
            refine Ld ?_
            exact ⟨_,⟨_,decide (v.fin=t),⟨λ hq => .inr (.inl (of_decide_eq_true hq)),λ hq=>⟨hbg,of_decide_eq_false hq,hcf⟩⟩,U5,rfl⟩,Sa⟩
          try replace h4:=of_decide_eq_false h4
          iterate 6 refine Lz ?_
          refine Ld ?_
          exact ⟨_,⟨_,false,⟨(λ hq=>by cases hq),λ _=>⟨hbg,λ hq=>h4 ((hi.st.act v.fin).2 (by rw [hq];exact hc)),hcf⟩⟩,U5,rfl⟩,Sa⟩
        try replace h1:=of_decide_eq_false h1
        have hbg:v.beg=t\/Wa h v.beg=true:=by
          cases hq:Wa h v.beg with
          | true=>exact .inr rfl
          | false =>
            cases hq2:Zp h v.beg with
            | true=>exact absurd ((hi.st.act v.beg).2 hq2) h1
            | false=>exact absurd ((hi.st v.beg).trans (stN_lost.2 ⟨hq2,hq⟩)) h0
        iterate 6 refine Lz ?_
        refine Ld (yQ rfl (TS ?_))
        iterate 3 refine Lz ?_
        refine Ld ?_
        refine yN rfl (λ h3=>?_) (λ h3=>?_)
        . skip
          refine Tk ?_
          exact ⟨_,⟨_,decide ((Zy x.st v.fin).getD 0=2),⟨λ _ => .inr (.inr ((stN_cm hi.r).1 (by rw [<-hi.st v.fin];exact h3))),λ hq=>absurd h3 (of_decide_eq_false hq)⟩,U5,rfl⟩,Sa⟩
        have hcf:Wa h v.fin=false:=by
          cases hq:Wa h v.fin with
          | false=>rfl
          | true=>exact absurd (by rw [show (Zy x.st v.fin).getD 0=stN h v.fin from hi.st v.fin];exact (stN_cm hi.r).2 hq) h3
        refine TR ?_
        iterate 3 refine Lz ?_
        refine zZ (t:=58) rfl (λ h4=>?_) (λ h4=>?_)
        . skip
          try replace h4:=of_decide_eq_true h4
          iterate 6 refine Lz ?_
          refine Ld ?_
          exact ⟨_,⟨_,decide (v.fin=t),⟨λ hq => .inr (.inl (of_decide_eq_true hq)),λ hq=>⟨hbg,of_decide_eq_false hq,hcf⟩⟩,U5,rfl⟩,Sa⟩
        try replace h4:=of_decide_eq_false h4
        iterate 6 refine Lz ?_
        refine Ld ?_
        exact ⟨_,⟨_,false,⟨(λ hq=>by cases hq),λ _=>⟨hbg,λ hq=>h4 ((hi.st.act v.fin).2 (by rw [hq];exact hc)),hcf⟩⟩,U5,rfl⟩,Sa⟩
      rintro fz lz ⟨f0,bb,⟨hb1,hb2⟩,rfl,rfl⟩
      by_cases hbb:bb=true
      . skip
        subst hbb
        refine zF rfl ?_
        rw [end4 hc hv (hb1 rfl)]
        refine TS (La rfl (Ld (T.ret ?_)))
        exact ⟨.inl rfl,_,_,res [_] rfl ⟨rvT rfl,trivial⟩,⟨rfl,rfl⟩,Wb [hpB g x.q x.pc h.cm.length x.cc h.last,stA x.q x.st,cmR x.pc h.cm.length x.cc h.cm,wlS b x.q s',plS b n logs count x.q s',Zn b s'.D] {x with s:=s'} h hi2 rfl⟩
      have hbb2:bb=false:=by simpa using hbb
      subst hbb2
      obtain ⟨hbg,h5,hcf⟩:=hb2 rfl
      refine yQ rfl (TS ?_)
      iterate 3 refine Lz ?_
      refine Ld ?_
      refine yN rfl (λ h4=>?_) (λ h4=>?_)
      . skip
        have haf:=(hi.st.act v.fin).1 h4
        rw [end71 hc hv hbg h5 hcf haf]
        refine TS (La rfl (Ld (T.ret ?_)))
        exact ⟨.inl rfl,_,_,res [_] rfl ⟨rvT rfl,trivial⟩,⟨rfl,rfl⟩,Wb [hpB g x.q x.pc h.cm.length x.cc h.last,stA x.q x.st,cmR x.pc h.cm.length x.cc h.cm,wlS b x.q s',plS b n logs count x.q s',Zn b s'.D] {x with s:=s'} h hi2 rfl⟩
      have haf:Zp h v.fin=false:=by
        cases hq:Zp h v.fin with
        | false=>rfl
        | true=>exact absurd ((hi.st.act v.fin).2 hq) h4
      by_cases hf:(h.room:Int)<h.used+20
      . skip
        rw [end3 hc hv hbg h5 hcf haf hf]
        refine Tk (TS ?_)
        iterate 6 refine Lz ?_
        refine Lq (z8 [(0,1),(1,1),(2,1),(3,1),(4,1),(5,1)] [.int .i64 0,.int .i64 0,.int .i64 0,.int .i64 0,.int .i64 0,.slice none 0 0] [_,_,_,_,_,_] [(0,_),(1,_),(2,_),(3,_)] (by unfold Zf;kernel_rfl) rfl rfl) ?_
        refine Le (Ec (Hp.writeFull B [] g b logs count n (K+1) x.q x.pc h.cm.length x.cc h.last s' h.es (Zi h.vs) hS (endE t page slot) none 0 hokE (RdV.nil _ 0)) Tryz.func82 rfl rfl rfl ?_)
        rintro _ _ ⟨rfl,rfl⟩
        try simp only [cA,nA]
        refine La rfl (Ld (T.ret ?_))
        exact ⟨.inl rfl,_,_,res [_] rfl ⟨rvT rfl,trivial⟩,⟨rfl,rfl⟩,Wb [hpB g x.q x.pc h.cm.length x.cc h.last,stA x.q x.st,cmR x.pc h.cm.length x.cc h.cm,wlS b x.q s',plS b n logs count x.q s',Zn b s'.D] {x with s:=s'} h hi2 rfl⟩
      rw [end0 hc hv hbg h5 hcf haf hf]
      have hstep:=hi.r.endStep (by omega) hlk hc hfi hvi hcf (by omega)
      have hrc:=rc_end hi.r.ok hfi hvi (t:=t)
      have hro3:=recs_ok (hi.r.ok.write hstep) v.page
      have hrq:=congrFun hrc v.page
      simp only [rcSet,if_true] at hrq
      rw [<-hrq] at hro3
      refine Tk (TS ?_)
      iterate 6 refine Lz ?_
      refine Lq (z8 [(0,1),(1,1),(2,1),(3,1),(4,1),(5,1)] [.int .i64 0,.int .i64 0,.int .i64 0,.int .i64 0,.int .i64 0,.slice none 0 0] [_,_,_,_,_,_] [(0,_),(1,_),(2,_),(3,_)] (by unfold Zf;kernel_rfl) rfl rfl) ?_
      refine Le (Ec (Hp.writeP B [] g b logs count n (K+1) x.q x.pc h.cm.length x.cc h.last s' h.es (Zi h.vs) hS (by omega) (endE t page slot) none 0 hokE (RdV.nil _ 0) (by omega) (by simp) v.page hvp.symm (by omega) _ hro3.1 hro3.2 (λ X hX gpg m=>Hp.applyEnd B X (pV g) gpg (Zi h.vs v.page) m (endE t page slot) none 0 hokE rfl v.slot hvs.symm (verB v) hrv (by rw [length_verB];omega))) Tryz.func82 rfl rfl rfl ?_)
      rintro _ _ ⟨s3,hS3,rfl,rfl⟩
      try simp only [cA,nA]
      refine La rfl (Ld ?_)
      rw [hrc] at hS3
      have hi3:=hi.write hstep (by simp) (hi.r.act1 t (isAct_iff.1 hc)).2 hS3 (by omega)
      refine T.ret ?_
      exact ⟨.inl rfl,_,_,res [_] rfl ⟨rvT rfl,trivial⟩,⟨rfl,rfl⟩,Wb [hpB g x.q x.pc h.cm.length x.cc h.last,stA x.q x.st,cmR x.pc h.cm.length x.cc h.cm,wlS b x.q s3,plS b n logs count x.q s3,Zn b s3.D] {x with s:=s3} (Zg h (endE t page slot)) hi3 rfl⟩
    have hi2:HInv logs count n (K+2) s' x.st h:=⟨hS.mono (by omega),hi.r,hi.st,hi.pages,hi.room,by have:=hi.lastK;omega⟩
    obtain ⟨hn,rfl⟩:=hfd.resolve_left hfo
    have he:endR h t page slot=(h,4):=by unfold endR;rw [if_pos hc,hn]
    rw [he]
    iterate 3 refine Lz ?_
    refine Le (El [.int .i64 0,.int .i64 0,.int .i64 0,.int .i64 0,.slice none 0 0] (by unfold Zf;kernel_rfl) ?_)
    intro g7
    refine L0 (Es [_,_,_,_,_] rfl rfl rfl rfl (by simp) ?_)
    try simp only [splice,lC,lN,dS,cA,tS,tZ,dZ,nA,aN]
    refine La rfl (Ld (Ts (Ts (T.draw 17 ([hpB g x.q x.pc h.cm.length x.cc h.last,stA x.q x.st,verB5 g7 0 0 0 0 (.slice none 0 0)]) (nB rfl) ?_))))
    refine Rz 0 ?_;refine Rz 1 ?_;refine Rz 2 ?_;refine Rz 3 ?_;refine Rz 4 ?_;refine Rz 5 ?_;refine Rz 6 ?_
    refine Rq 7 rfl Sa (zT Hp.okS rfl 0 rfl 0 rfl) ?_
    refine Rz 8 ?_;refine Rz 9 ?_;refine Rz 10 ?_;refine Rz 11 ?_;refine Rz 12 ?_;refine Rz 13 ?_;refine Rz 14 ?_
    refine Rq 15 rfl Sa (zT Hp.okS rfl 0 rfl 0 rfl) ?_
    refine Rz 16 ?_
    refine Rd0 (by rfl) ?_
    simp only [dS,dZ,dN]
    refine La rfl (Ld (yH (Ts (TS ?_))))
    iterate 3 refine Lz ?_
    refine Ld (zF rfl (Tk (zF rfl (TS (La rfl (Ld (T.ret ?_)))))))
    exact ⟨.inl rfl,_,_,res [_] rfl ⟨rvT rfl,trivial⟩,⟨rfl,rfl⟩,Wb [hpB g x.q x.pc h.cm.length x.cc h.last,stA x.q x.st,cmR x.pc h.cm.length x.cc h.cm,wlS b x.q s',plS b n logs count x.q s',Zn b s'.D] {x with s:=s'} h hi2 rfl⟩
  . have he:endR h t page slot=(h,70):=by unfold endR;rw [if_neg hc]
    rw [he]
    refine Ws 75 Tryz.func37 rfl rfl (nB rfl) (λ F=>?_)
    try simp only [cA,nA]
    refine TS ?_
    refine Le (zL [_,_] rfl rfl ?_)
    intro g5
    refine La rfl (Ld (Ts (TS ?_)))
    iterate 6 refine Lz ?_
    refine Lq (zT Hp.okS rfl t rfl 0 rfl) (Lq (yW rfl rfl) (Ld (zM rfl (hp:=((λ q=>hc (ha.1 q)))) (TS (La rfl (Ld (T.ret ?_)))))))
    exact ⟨.inl rfl,_,_,res [_] rfl ⟨rvT rfl,trivial⟩,⟨rfl,rfl⟩,Wb [hpB g x.q x.pc h.cm.length x.cc h.last,stA x.q x.st,cmR x.pc h.cm.length x.cc h.cm,wlS b x.q x.s,plS b n logs count x.q x.s,Zn b x.s.D] {x with s:=x.s} h hi1 rfl⟩
end Go.Proofs.YtkfmfoecplbclaaGreatDoor
