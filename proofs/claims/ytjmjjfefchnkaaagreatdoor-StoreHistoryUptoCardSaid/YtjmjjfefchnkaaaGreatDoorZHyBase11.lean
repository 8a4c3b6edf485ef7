/- The texts SxR SxG HeG HeH HeI HeJ HeK HeL HeM HeN, one behind the other: what the law leans on. Conditions: as each theorem says. -/
import Derived.Test.YtjmjjfefchnkaaaGreatDoorZHyBase10
import Derived.Recover
import Derived.Control
set_option linter.unusedSimpArgs false
set_option linter.unusedVariables false
set_option maxRecDepth 100000
set_option maxHeartbeats 16000000
namespace Go.Proofs.YtjmjjfefchnkaaaGreatDoor
open Go.RowKit
def actD (n:Nat) (f:Fr) (ds:List Deferred):Act:=⟨tm n f,ds⟩
section
variable {P : Program} {B:Wn} {n:Nat} {o:Oper} {f:Fr} {l:List Wp} {K:Value→List Wp→Prop} {ds:List Deferred}
theorem eval_actD : (actD n f ds).eval=evu n f:=by
 rw [←Wk]
 funext x
 cases x <;> rfl
theorem wp_D {a:Act} {w:World} {next:Act→World→Prop} {Q:Exit→Act→World→Prop} (ds:List Deferred) (h:o.wp P a w (fun a' w'=>next ⟨a'.tmps,a'.defers++ds⟩ w') (fun e a' w'=>Q e ⟨a'.tmps,a'.defers++ds⟩ w')):o.wp P ⟨a.tmps,a.defers++ds⟩ w next Q:=by
  unfold Oper.wp at h ⊢
  have he:(⟨a.tmps,a.defers++ds⟩:Act).eval=a.eval:=by funext x;cases x <;> rfl
  have hp : ∀ d v,(⟨a.tmps,a.defers++ds⟩:Act).put d v=⟨(a.put d v).tmps,(a.put d v).defers++ds⟩:=by intro d v;cases d <;> rfl
  rw [he]
  generalize (execOp a.eval o).run P w=r at h ⊢
  unfold Oper.upon at h ⊢
  split
  · rw [hp];exact h
  · rw [hp];exact h
  · rename_i d w'
    have:({ (⟨a.tmps,a.defers++ds⟩:Act) with defers:=d::(a.defers++ds)}.put o.dst undef)=⟨({a with defers:=d::a.defers}.put o.dst undef).tmps,({a with defers:=d::a.defers}.put o.dst undef).defers++ds⟩:=by cases o.dst <;> rfl
    rw [this];exact h
  · refine Calls.mono h ?_
    intro e w' k
    cases e with
    | returned v =>
      show next ((⟨a.tmps,a.defers++ds⟩:Act).put o.dst v) w'
      rw [hp];exact k
    | panicked c=>exact k
    | outgrown=>obtain ⟨a0,w0,k⟩:=k;exact ⟨_,w0,k⟩
  · refine Rows.mono h ?_
    intro v w' k
    rw [hp];exact k
  · exact h
  · rename_i h1 h2 h3 h4 h5 h6
    revert h
    split <;> simp_all
variable {ops : Array Oper} {rest:List Oper} {Q:Exit→Act→World→Prop} {w:World}
structure LD (P:Program) (ops:Array Oper) (Q:Exit→Act→World→Prop) (n:Nat) (ds:List Deferred) (rest:List Oper) (f:Fr) (w:World):Prop where
 run:wpList P ops Q rest (actD n f ds) w
theorem LD.done (h:Q .normal (actD n f ds) w):LD P ops Q n ds [] f w:=⟨h⟩
theorem wlq {v:Value} (hw:want n ops f o=true) (ho:Own B w l) (hq:Qt P B n l o f v) (h:LD P ops Q n ds rest (putd f o.dst v) w):LD P ops Q n ds (o::rest) f w:=by
 constructor
 unfold wpList
 have e:Region.wanted o (yielded ops (actD n f ds).tmps)=true:=(want_eq n ops f o).trans hw
 rw [e,if_pos rfl]
 refine .inl ?_
 unfold Oper.wp
 rw [eval_actD,hq.run w ho]
 have:(actD n f ds).put o.dst v=actD n (putd f o.dst v) ds:=by
  have:=put_act n f o.dst v
  unfold actD
  cases hd:o.dst with
  | none=>rfl
  | some d=>rw [hd] at this;injection this with this _;unfold Act.put;exact congrArg (Act.mk · ds) this
 show wpList P ops Q rest ((actD n f ds).put o.dst v) w
 rw [this];exact h.run
theorem wle (hw:want n ops f o=true) (ho:Own B w l) (he:Ef P B n o f l fun v l' => ∀ w',Own B w' l'→LD P ops Q n ds rest (putd f o.dst v) w'):LD P ops Q n ds (o::rest) f w:=by
 constructor
 unfold wpList
 have e:Region.wanted o (yielded ops (actD n f ds).tmps)=true:=(want_eq n ops f o).trans hw
 rw [e,if_pos rfl]
 refine .inl ?_
 refine wp_D (a:=act n f) ds (he.run w _ _ ho fun v w' l' k ho'=>?_)
 rw [put_act]
 exact (k w' ho').run
theorem ldDefer (hw:want n ops f o=true) (d:Deferred) (hr : ∀ w,(execOp (evu n f) o).run P w = .ok (.defer d) w) (h:LD P ops Q n (d::ds) rest (putd f o.dst undef) w):LD P ops Q n ds (o::rest) f w:=by
 constructor
 unfold wpList
 have e:Region.wanted o (yielded ops (actD n f ds).tmps)=true:=(want_eq n ops f o).trans hw
 rw [e,if_pos rfl]
 refine .inl ?_
 unfold Oper.wp
 rw [eval_actD,hr]
 have:({ (actD n f ds) with defers:=d::(actD n f ds).defers}.put o.dst undef)=actD n (putd f o.dst undef) (d::ds):=by
  have:=put_act n f o.dst undef
  unfold actD
  cases hd:o.dst with
  | none=>rfl
  | some d'=>rw [hd] at this;injection this with this _;unfold Act.put;exact congrArg (Act.mk · (d::ds)) this
 show wpList P ops Q rest ({ (actD n f ds) with defers:=d::(actD n f ds).defers}.put o.dst undef) w
 rw [this];exact h.run
end
def wlZ (P:Program) (ops:Array Oper) (Q:Exit→Act→List Frame→World→Prop):List Oper→Act→List Frame→World→Prop
 | [],a,cs,w=>Q .normal a cs w
 | o::rest,a,cs,w =>
  if Region.wanted o (yielded ops a.tmps) then
   match (execOp a.eval o).run P w with
   | .ok .recover w' =>
    match recoverD cs with
    | some (v,cs')=>wlZ P ops Q rest (a.put o.dst v) cs' w'
    | none=>wlZ P ops Q rest (a.put o.dst .nilIface) cs w'
   | r=>o.upon P a (fun a' w'=>wlZ P ops Q rest a' cs w') (fun e a' w'=>Q e a' cs w') r
  else wlZ P ops Q rest (a.put o.dst undef) cs w
theorem uponNext {P:Program} {o:Oper} {a:Act} {n1 n2:Act→World→Prop} {Q:Exit→Act→World→Prop} {r:Result Next} (hn : ∀ a w,n1 a w→n2 a w) (h:o.upon P a n1 Q r):o.upon P a n2 Q r:=by
  unfold Oper.upon at h ⊢
  split
  · exact hn _ _ h
  · exact hn _ _ h
  · exact hn _ _ h
  · refine Calls.mono h ?_
    intro e w' k
    cases e with
    | returned v=>exact hn _ _ k
    | panicked c=>exact k
    | outgrown=>exact k
  · exact Rows.mono h fun v w' k=>hn _ _ k
  · exact h
  · revert h
    split <;> simp_all
theorem wlZ_ops {P:Program} {ops:Array Oper} {Q:Exit→Act→List Frame→World→Prop} : ∀ (rest:List Oper) (i:Nat) (a:Act) (cs:List Frame) (w:World),ops.toList.drop i=rest→wlZ P ops Q rest a cs w→wpOpsS P ops Q (List.range' i rest.length) a cs w
  | [],_,_,_,_,_,h=>h
  | o::rest,i,a,cs,w,hd,h=>by
    have hi:ops[i]? = some o:=getElem?_of_drop hd
    have hd':ops.toList.drop (i+1)=rest:=by
      rw [←List.drop_drop,hd];rfl
    have ih:=fun a cs w=>wlZ_ops (P:=P) (Q:=Q) rest (i+1) a cs w hd'
    unfold wlZ at h
    rw [List.length_cons,List.range'_succ]
    simp only [wpOpsS,hi]
    split
    · rename_i hw
      rw [if_pos hw] at h
      split
      · rename_i w' hr
        rw [hr] at h
        dsimp only at h
        split
        · rename_i v cs' hc
          rw [hc] at h
          exact ih _ _ _ h
        · rename_i hc
          rw [hc] at h
          exact ih _ _ _ h
      · rename_i hnr
        have h2:o.upon P a (fun a' w'=>wlZ P ops Q rest a' cs w') (fun e a' w'=>Q e a' cs w') ((execOp a.eval o).run P w):=by
          revert h
          split
          · rename_i w' hr;exact absurd hr (hnr w')
          · exact id
        exact uponNext (fun a' w' k=>ih _ _ _ k) h2
    · rename_i hw
      rw [if_neg hw] at h
      exact ih _ _ _ h
theorem wpS_lit0 {P:Program} {QS:Exit→Act→List Frame→World→Prop} {ol:List Oper} {id:Nat} {a:Act} {cs:List Frame} {w:World} (h:wlZ P ol.toArray QS ol a cs w):(Code.region id ol.toArray false).wpS P QS a cs w:=by
 refine wpS_region ?_
 have:=wlZ_ops ol 0 a cs w (by simp) h
 rwa [←List.range_eq_range'] at this
section
variable {P : Program} {B:Wn} {n:Nat} {o:Oper} {f:Fr} {l:List Wp}
variable {ops : Array Oper} {rest:List Oper} {w:World}
variable {QS : Exit→Act→List Frame→World→Prop} {cs:List Frame}
structure LS (P:Program) (ops:Array Oper) (QS:Exit→Act→List Frame→World→Prop) (n:Nat) (rest:List Oper) (f:Fr) (cs:List Frame) (w:World):Prop where
 run:wlZ P ops QS rest (act n f) cs w
theorem LS.done (h:QS .normal (act n f) cs w):LS P ops QS n [] f cs w:=⟨h⟩
theorem wosq {v:Value} (hw:want n ops f o=true) (ho:Own B w l) (hq:Qt P B n l o f v) (h:LS P ops QS n rest (putd f o.dst v) cs w):LS P ops QS n (o::rest) f cs w:=by
 constructor
 unfold wlZ
 rw [want_eq,if_pos hw,Wk,hq.run w ho]
 show wlZ P ops QS rest ((act n f).put o.dst v) cs w
 rw [put_act];exact h.run
theorem wose (hw:want n ops f o=true) (ho:Own B w l) (he:Ef P B n o f l fun v l' => ∀ w',Own B w' l'→LS P ops QS n rest (putd f o.dst v) cs w'):LS P ops QS n (o::rest) f cs w:=by
  constructor
  unfold wlZ
  rw [want_eq,if_pos hw]
  have h:=he.run w (fun a' w'=>wlZ P ops QS rest a' cs w') (fun e a' w'=>QS e a' cs w') ho (fun v w' l' k ho'=>by rw [put_act];exact (k w' ho').run)
  unfold Oper.wp at h
  split
  · rename_i w' hr
    rw [hr] at h
    exact h.elim
  · exact h
theorem wosn (hw:want n ops f o=true) (hr:(execOp (evu n f) o).run P w = .ok .recover w) (hc:recoverD cs=none) (h:LS P ops QS n rest (putd f o.dst .nilIface) cs w):LS P ops QS n (o::rest) f cs w:=by
 constructor
 unfold wlZ
 rw [want_eq,if_pos hw,Wk,hr]
 simp only [hc]
 rw [put_act];exact h.run
end
theorem wpS_lit {P:Program} {QS:Exit→Act→List Frame→World→Prop} {ol:List Oper} {id n:Nat} {f:Fr} {cs:List Frame} {w:World} (h:LS P ol.toArray QS n ol f cs w):(Code.region id ol.toArray false).wpS P QS (act n f) cs w:=wpS_lit0 h.run
section
variable {P : Program} {B:Wn} {n:Nat} {S:List Wp} {f:Fr}
variable {d : Option Tmp} {ty:TypeId} {pos:String} {af:Array Edge} {gd:Option (Nat×Bool)}
def plainT (P:Program) (t:TypeId):Bool:=match P.underlying t with | some (.interface _)=>false | some _=>true | none=>false
theorem Qt.assertN {x:Operand} {s t:TypeId} {i:TypeInfo} {z:Value} (ht:plainT P t=true) (hi:(P.info? t).bind (·.zero)=some z) (hx:ev n f x=some .nilIface):Qt P B n S ⟨d,.typeAssert x s t true,ty,pos,af,gd⟩ f (.tuple [z,.bool false].toArray):=⟨fun w _=>by
  unfold plainT at ht
  cases hii:P.info? t with
  | none=>rw [hii] at hi;cases hi
  | some i =>
    rw [hii] at hi
    simp only [Option.bind_some] at hi
    split at ht
    · cases ht
    · rename_i dd n1 hu
      simp only [execOp,Zc hx,Instr.typeAssert,Sem.run_bind,run_underlying hu,Result.andThen_ok]
      cases dd <;> first | exact (n1 _ rfl).elim | simp [zeroValue,typeInfo,hii,hi]
    · cases ht⟩
end
theorem run_recover {P:Program} {n:Nat} {f:Fr} {d:Option Tmp} {ty:TypeId} {pos:String} {af:Array Edge} {gd:Option (Nat×Bool)} (w:World):(execOp (evu n f) ⟨d,.call ⟨.builtin .recover,#[],#[]⟩,ty,pos,af,gd⟩).run P w = .ok .recover w:=by
 simp [execOp,resolve,invoke,builtin]
theorem results_none {P:Program} {fn:Func} (h:fn.results = #[]) (tmps:Array Value) (w:World):(results fn tmps).run P w = .ok (.tuple #[]) w:=by
 unfold results
 rw [h]
 simp
theorem wp_ofTI {P:Program} {B:Wn} {n:Nat} {c:Code} {Φ:PostD} {ds:List Deferred} {f:Fr} {l:List Wp} {Q:Exit→Act→World→Prop} {w:World} (h:TI P B n none c Φ ds f l) (ho:Own B w l) (hq : ∀ e ds f w l,Φ e ds f l→Own B w l→(∀ c,e ≠ .panic c)∧Q e (actD n f ds) w):c.wp P Q (actD n f ds) w:=by
 refine (wpIn_wide (n:=0)).1 ?_
 exact wpIn_mono (h.run (fun e a w=>(∀ c,e ≠ .panic c)∧Q e a w) w ⟨fun e ds f w l k ho=>hq e ds f w l k ho,fun c a d v w k=>absurd rfl (k.1 c)⟩ ho) (fun _ _ _ k=>k.2)
open Go.RowKit
theorem Cx.elemX : ElemOk Tryz.prog 46 58 3 32 := .mk' (.agg #[.int .i64 0,.int .i64 0,.string ⟨#[]⟩]) Tryz.underlying46 (by kernel_rfl) rfl (by omega)
abbrev a23 (p q:Nat):Array Value := #[.pointer (some ⟨p,0,none⟩),.pointer (some ⟨q,0,none⟩)]
theorem Cx.calm (B:Wn) (l:List Wp) (g2 g3:Nat) (w:World) (ho:Own B w l):CallsD Tryz.prog 116 (a23 g2 g3) .returning w fun e u' w'=>e = .returned (.tuple #[])∧u' = .returning∧Own B w' l:=by
 refine callsD_of_wpS Tryz.func116 rfl fun c₀ cs hu=>?_
 have he:({tmps:=a23 g2 g3++Array.replicate (12-(a23 g2 g3).size) undef,defers:=[]}:Act)=act 12 _:=enter_eq [_,_] 12 (nB rfl)
 rw [show (Func.ntmps _)=12 from rfl,he]
 apply wpS_seq
 apply wpS_lit
 refine wosn rfl (run_recover w) (by simp [recoverD,hu]) ?_
 refine wosq rfl ho (Qt.assertN (i:=default) (z := .agg [.int .i64 0,.int .i64 0].toArray) (by kernel_rfl) (by kernel_rfl) rfl) ?_
 refine wosq rfl ho (Qm rfl) ?_
 refine wosq rfl ho (Qx rfl rfl) ?_
 refine wosq rfl ho (Qx rfl rfl) ?_
 refine wose rfl ho (El [.int .i64 0,.int .i64 0] (by unfold Zf;kernel_rfl) ?_)
 intro g w1 ho1
 refine wose rfl ho1 (Es [_,_] (by kernel_rfl) rfl rfl rfl rfl (by simp) ?_)
 intro w2 ho2
 refine wosq rfl ho2 (Qa rfl) ?_
 refine LS.done ?_
 show (Code.seq _ _).wpS _ _ _ _ _
 apply wpS_seq
 apply wpS_lit
 refine wosq rfl ho2 (Qm rfl) ?_
 refine LS.done ?_
 refine wpS_cond (t:=false) rfl ?_
 simp only [Bool.false_eq_true,if_false]
 refine wpS_of_wp (wp_skip ?_)
 exact ⟨rfl,.returning,by cases c₀;simp only at hu;subst hu;rfl,_,results_none rfl _ _,rfl,rfl,ho2.tl⟩
abbrev dcD (g2 g3:Nat):Deferred:=⟨.fn (.func 116) (a23 g2 g3),#[]⟩
theorem inv23 (g2 g3:Nat) (w:World):(invoke (.fn (.func 116) (a23 g2 g3)) #[]).run Tryz.prog w = .ok (.enter 116 (a23 g2 g3)) w:=by
 have hf:Tryz.prog.funcs[116]? = some Tryz.f116:=Tryz.func116
 have hn : ¬ Tryz.f116.name = "runtime.NumGoroutine" := by
  have:(Tryz.f116.name == "runtime.NumGoroutine")=false:=rfl
  simpa using this
 have hb : ¬ Tryz.f116.body=none:=fun e=>by
  have:Tryz.f116.body.isNone=false:=rfl
  rw [e] at this;cases this
 simp [invoke,callFunc,hf,hn,hb]
def DecP (B:Wn) (S F:List Wp) (l:List Vx) (d:Deferred):PostD:=fun e ds f l'=>e = .ret∧ds=[d] ∧ ∃ p c,(0<l.length → ∃ g,p=some ⟨g,0,none⟩)∧(∀ w,Own B w l'→(results Tryz.f63 (act 58 f).tmps).run Tryz.prog w = .ok (.tuple #[.slice p l.length c,.agg #[.int .i64 0,.int .i64 0]]) w)∧Sub l' (vxR p l.length c l::(S++F))
theorem encL_drop {l:List Vx} {bs:List UInt8} (hbs:bs=encL l) {k:Nat} {v:Vx} (h:l[k]? = some v):bs.drop (encL (l.take k)).length=encX v++encL (l.drop (k+1)):=by
 obtain ⟨hk,hv⟩:=List.getElem?_eq_some_iff.1 h
 have:l=l.take k++v::l.drop (k+1):=by rw [←hv,←List.drop_eq_getElem_cons hk,List.take_append_drop]
 conv=>lhs;rw [hbs,this,encL_app,encL_cons]
 have e:(l.take k++v::l.drop (k+1)).take k=l.take k:=by rw [←this]
 rw [e,List.drop_left' rfl]
theorem encL_at {l:List Vx} {bs:List UInt8} (hbs:bs=encL l) (hok : ∀ v∈l,v.Ok) {k:Nat} (hk:k≤l.length):(encL (l.take k)).length<bs.length↔k<l.length:=by
  constructor
  · intro h
    rcases Nat.lt_or_ge k l.length with q | q
    · exact q
    · rw [List.take_of_length_le q,←hbs] at h;omega
  · intro h
    have hx:l[k]? = some l[k]:=List.getElem?_eq_getElem h
    have h1:=congrArg List.length (encL_drop hbs hx)
    have h2:=(encX_len (hok _ (List.getElem_mem h))).1
    rw [List.length_drop,List.length_append] at h1
    omega
theorem Cx.decode (B:Wn) (S:List Wp) (l:List Vx) (pb:Option Addr) (m cb:Nat) (bs:List UInt8) (hbs:bs=encL l) (hm:bs.length=m) (hok : ∀ v∈l,v.Ok) (hv:RdV B S (.slice pb m cb) (Zb bs)) (hmx:m<2^30) :
    Fn Tryz.prog B 63 #[.slice pb m cb] S (fun u r => ∃ p c,(0<l.length → ∃ g,p=some ⟨g,0,none⟩)∧u = .tuple #[.slice p l.length c,.agg #[.int .i64 0,.int .i64 0]]∧r=vxR p l.length c l::S):=by
  have hll:=(encL_len hok).1
  rw [←hbs,hm] at hll
  refine ⟨fun w F ho=>?_⟩
  refine calls_of_wp_defers Tryz.func63 rfl ?_
  rw [show (Func.ntmps _)=58 from rfl,enter_eq [_] 58 (nB rfl)]
  apply wp_seq
  apply wp_region_lit
  refine (?_:LD _ _ _ 58 [] _ _ _).run
  refine wle rfl ho (El [.slice none 0 0] (by unfold Zf;kernel_rfl) ?_)
  intro g2 w2 ho2
  refine wle rfl ho2 (El [.int .i64 0,.int .i64 0] (by unfold Zf;kernel_rfl) ?_)
  intro g3 w3 ho3
  refine LD.done ?_
  show (Code.seq _ _).wp _ _ _ _
  apply wp_seq
  apply wp_region_lit
  refine (?_:LD _ _ _ 58 [] _ _ _).run
  refine wlq rfl ho3 (Y4 [.pointer (some ⟨g2,0,none⟩),.pointer (some ⟨g3,0,none⟩)] rfl) ?_
  refine ldDefer rfl (dcD g2 g3) (fun w=>?_) ?_
  · simp [execOp,resolve,Deferred.ofValue]
    rfl
  refine LD.done ?_
  show (Code.seq _ _).wp _ _ _ _
  refine wp_ofTI (B:=B) (Φ:=DecP B S F l (dcD g2 g3)) (l:=blk g3 [.int .i64 0,.int .i64 0] 184::blk g2 [.slice none 0 0] 46::(S++F)) ?_ ho3 ?_
  · skip
    refine TI.seq ?_
    refine TI.region (by rfl) ?_
    refine Lm rfl rfl (Lq rfl (z8 [(0,1),(1,1)] [.slice none 0 0,.int .i64 0] [_,_] [(0,_)] (by kernel_rfl) (by unfold Zf;kernel_rfl) rfl rfl) ?_)
    refine Le rfl (zL [.slice pb m cb,.int .i64 0] rfl rfl ?_)
    intro g10
    refine LW.conv (l':=vxR none 0 0 (l.take 0)::srcB g10 pb m cb 0::_) (fun w ho=>ho.row_nil _ _) (La rfl rfl (Ld ?_))
    refine TI.seq ?_
    refine TI.block ?_
    refine TI.loop (fun mz fz lz => ∃ (f0:Fr) (k q:Nat) (p:Option Addr) (c:Nat),(k≤l.length∧q=(encL (l.take k)).length∧(0<k → ∃ g,p=some ⟨g,0,none⟩))∧mz=l.length-k∧fz=(upd (upd (upd (upd f0 0 (.slice pb m cb)) 2 (.pointer (some ⟨g2,0,none⟩))) 3 (.pointer (some ⟨g3,0,none⟩))) 4 (.pointer (some ⟨g10,0,none⟩)))∧lz=vxR p k c (l.take k)::blk g2 [.slice p k c] 46::blk g3 [.int .i64 0,.int .i64 0] 184::srcB g10 pb m cb q::(S++F)) ?_ ?_
    · refine ⟨_,_,⟨_,0,0,none,0,⟨Nat.zero_le _,rfl,fun h=>by omega⟩,rfl,(Za rfl (Za rfl (Za rfl (Za rfl rfl)))),rfl⟩,Sa⟩
    rintro mz fz lz ⟨f0,k,q,p,c,⟨hk,hq,hp⟩,hmz,rfl,rfl⟩
    subst mz
    have hiff:=encL_at hbs hok hk
    rw [←hq,hm] at hiff
    refine TI.seq ?_
    refine TI.seq ?_
    refine TI.region (by rfl) ?_
    refine Lm rfl rfl (Lq rfl (Qn rfl) (Lq rfl (Qf (off:=1) (by kernel_rfl) rfl) (Lq rfl (Ql (by kernel_rfl) rfl rfl) (Lm rfl rfl (Lq rfl (yI (e:=5) (sz:=1) (by kernel_rfl) rfl) (Lq rfl (yM rfl rfl) (Ld ?_)))))))
    refine TI.condP rfl (fun hlt=>?_) (fun hlt=>?_)
    · skip
      have hkl:k<l.length:=hiff.1 (by omega)
      obtain ⟨v,hx⟩ : ∃ v,l[k]? = some v:=⟨_,List.getElem?_eq_getElem hkl⟩
      have hvo:=hok v (List.mem_of_getElem? hx)
      have hdq:=encL_drop hbs hx
      rw [←hq] at hdq
      have hnx:=encL_next hx
      have htk:l.take (k+1)=l.take k++[v]:=by rw [List.take_succ_eq_append_getElem hkl,(List.getElem?_eq_some_iff.1 hx).2]
      by_cases k1:v.k=1
      · skip
        have hes:encX v=1::be (numX v.n) 8:=by unfold encX;rw [if_pos k1]
        have hvs:v.s=[] ∧ -(2^63)≤v.n∧v.n<2^63:=by rcases hvo with ⟨_,q1,q2,q3⟩ | ⟨q,_⟩;exact ⟨q1,q2,q3⟩;omega
        rw [hes,List.cons_append] at hdq
        refine TI.skip ?_
        refine TI.block ?_
        refine TI.seq ?_
        refine TI.region (by rfl) ?_
        refine Lm rfl rfl ?_
        refine Le rfl (Ec (Cx.next B S g10 pb m cb q bs 1 hm (drop_get hdq) hv (by omega)) Tryz.func117 rfl rfl rfl ?_)
        rintro _ _ ⟨rfl,rfl⟩
        try simp only [cA,nA]
        refine Lq rfl (yX (k' := .i64) (r:=1) (by kernel_rfl) (by kernel_rfl) rfl rfl) (La rfl rfl (Ld ?_))
        refine TI.seq ?_
        refine TI.region (by rfl) ?_
        refine Lm rfl rfl (Ld ?_)
        refine TI.block ?_
        refine TI.seq ?_
        refine TI.region (by rfl) ?_
        refine Lq rfl (yU rfl rfl) (La rfl rfl (Ld ?_))
        refine TI.condT rfl ?_
        have hdq2:bs.drop (q+1)=be (numX v.n) 8++encL (l.drop (k+1)):=drop_more (a:=[1]) hdq
        refine TI.seq ?_
        refine TI.region (by rfl) ?_
        refine La rfl rfl (Ld ?_)
        refine TI.seq ?_
        refine TI.seq ?_
        refine TI.region (by rfl) ?_
        refine Lm rfl rfl (Ld ?_)
        refine TI.block ?_
        refine TI.loop (fun mz fz lz => ∃ (f0:Fr) (j:Nat) (u:UInt64),(j≤8∧u=Wg ((be (numX v.n) 8).take j))∧mz=8-j∧fz=(upd (upd (upd (upd (upd (upd f0 0 (.slice pb m cb)) 2 (.pointer (some ⟨g2,0,none⟩))) 3 (.pointer (some ⟨g3,0,none⟩))) 4 (.pointer (some ⟨g10,0,none⟩))) 6 (.int .u64 u.toNat)) 32 (.int .i64 j))∧lz=vxR p k c (l.take k)::blk g2 [.slice p k c] 46::blk g3 [.int .i64 0,.int .i64 0] 184::srcB g10 pb m cb (q+1+j)::(S++F)) ?_ ?_
        · refine ⟨_,_,⟨_,0,0,⟨Nat.zero_le _,rfl⟩,rfl,(Za rfl (Za rfl (Za rfl (Za rfl (Za rfl (Za rfl rfl)))))),rfl⟩,Sa⟩
        rintro mz fz lz ⟨f0,j,u,⟨hj,hu⟩,hmz,rfl,rfl⟩
        subst mz
        refine TI.seq ?_
        refine TI.region (by rfl) ?_
        refine Lq rfl (yM rfl rfl) (Ld ?_)
        refine TI.seq ?_
        refine TI.condP rfl (fun hlt2=>?_) (fun hlt2=>?_)
        · skip
          have hbl:(be (numX v.n) 8).length=8:=Zd _ _
          have hj8:j<(be (numX v.n) 8).length:=by omega
          obtain ⟨x,hxx⟩ : ∃ x,(be (numX v.n) 8)[j]'hj8=x:=⟨_,rfl⟩
          have hat:bs[q+1+j]? = some x:=by rw [←List.getElem?_drop,hdq2,List.getElem?_append_left hj8,List.getElem?_eq_getElem hj8,hxx]
          refine TI.skip ?_
          refine TI.seq ?_
          refine TI.block ?_
          refine TI.region (by rfl) ?_
          refine Lm rfl rfl (Lq rfl (ZU rfl rfl) (Lm rfl rfl ?_))
          refine Le rfl (Ec (Cx.next B S g10 pb m cb (q+1+j) bs x hm hat hv (by omega)) Tryz.func117 rfl rfl rfl ?_)
          rintro _ _ ⟨rfl,rfl⟩
          try simp only [cA,nA]
          refine Lq rfl (yX (k' := .u64) (r:=x.toNat) (by kernel_rfl) (by kernel_rfl) rfl (by have:=x.toNat_lt;simp [IntKind.wrap,IntKind.bits,IntKind.signed];omega)) (Lq rfl (ZY x.toUInt64 rfl rfl (by simp)) (La rfl rfl (Ld ?_)))
          refine TI.region (by rfl) ?_
          refine Lq rfl (Qd rfl rfl (Ze (by omega) (by omega))) (Lm rfl rfl (Ld ?_))
          refine ⟨rfl,_,?_,_,⟨_,j+1,_,⟨by omega,by rw [List.take_succ_eq_append_getElem hj8,hxx,get64_snoc,←hu]⟩,rfl,(Za rfl (Za rfl (Za rfl (Za rfl (Za rfl (Za rfl rfl)))))),rfl⟩,Sa⟩
          omega
        obtain rfl:j=8:=by omega
        rw [List.take_of_length_le (by rw [Zd];omega),get64_be _ (by omega) (by have:=(numX v.n).toNat_lt;omega)] at hu
        subst hu
        refine TI.exit ?_
        refine TI.region (by rfl) ?_
        refine Lq rfl (Ql (by kernel_rfl) rfl rfl) (Lm rfl rfl (Lq rfl (Qt.bits64 (BitVec.ofInt 64 v.n).toNat rfl (.inr rfl) rfl rfl (by show (BitVec.ofInt 64 _ ^^^ BitVec.ofInt 64 _).toNat=_;rw [BitVec.toNat_xor,←num_back hvs.2.1 hvs.2.2,show (BitVec.ofInt 64 ((numX v.n).toNat:Int)).toNat=(numX v.n).toNat by rw [BitVec.toNat_ofInt];have:=(numX v.n).toNat_lt;omega];rfl) (by rw [wrU_bits,BitVec.toNat_ofInt,BitVec.toNat_ofInt];omega)) (Lq rfl (yX (k' := .i64) (r:=v.n) (by kernel_rfl) (by kernel_rfl) rfl (wrI_bits hvs.2.1 hvs.2.2)) (Lq rfl (z8 [(0,1),(1,1),(2,1)] [.int .i64 0,.int .i64 0,.string .empty] [_,_,_] [(0,_),(1,_)] (by kernel_rfl) (by unfold Zf;kernel_rfl) rfl rfl) ?_))))
        refine Le rfl (zK [_,_,_] (e:=58) (sz:=3) (by kernel_rfl) ⟨.agg #[.int .i64 0,.int .i64 0,.string .empty],by kernel_rfl,rfl⟩ rfl rfl rfl (by omega) (by omega) ?_)
        intro g46
        refine Le rfl (Ea Cx.elemX rfl rfl (SrcOf.blk (by kernel_rfl) rfl (by simp [Value.oneCell'])) (by unfold maxLen;omega) (by omega) ?_)
        rintro p1 c1 hp1
        try simp only [cA,nA]
        rw [show List.flatMap vxC (List.take k l)++[Value.int .i64 1,Value.int .i64 v.n,Value.string ByteArray.empty]=List.flatMap vxC (List.take (k+1) l) by rw [htk,List.flatMap_append];congr 1;simp [k1,hvs.1];rfl]
        refine L0 rfl (E1 (by kernel_rfl) rfl rfl rfl (by first | (simp;done) | (simp;omega)) ?_)
        try simp only [List.set_cons_zero,List.set_cons_succ]
        refine Ld ?_
        refine ⟨rfl,_,?_,_,⟨_,k+1,q+1+8,p1,c1,⟨by omega,by rw [hnx,hes,List.length_append,←hq];simp [Zd],hp1⟩,rfl,(Za rfl (Za rfl (Za rfl (Za rfl rfl)))),rfl⟩,Sa⟩
        omega
      have hk2:v.k=2∧v.n=0∧v.s.length≤64:=by rcases hvo with ⟨q,_⟩ | q;exact absurd q k1;exact q
      have hes:encX v=2::(escB v.s++[0,0]):=by unfold encX;rw [if_neg k1]
      rw [hes,List.cons_append] at hdq
      refine TI.skip ?_
      refine TI.block ?_
      refine TI.seq ?_
      refine TI.region (by rfl) ?_
      refine Lm rfl rfl ?_
      refine Le rfl (Ec (Cx.next B S g10 pb m cb q bs 2 hm (drop_get hdq) hv (by omega)) Tryz.func117 rfl rfl rfl ?_)
      rintro _ _ ⟨rfl,rfl⟩
      try simp only [cA,nA]
      refine Lq rfl (yX (k' := .i64) (r:=2) (by kernel_rfl) (by kernel_rfl) rfl rfl) (La rfl rfl (Ld ?_))
      refine TI.seq ?_
      refine TI.region (by rfl) ?_
      refine Lm rfl rfl (Ld ?_)
      refine TI.block ?_
      refine TI.seq ?_
      refine TI.region (by rfl) ?_
      refine Lq rfl (yU rfl rfl) (La rfl rfl (Ld ?_))
      refine TI.condF rfl ?_
      refine TI.seq ?_
      refine TI.region (by rfl) ?_
      refine Lq rfl (yU rfl rfl) (La rfl rfl (Ld ?_))
      refine TI.condT rfl ?_
      have hdq2:bs.drop (q+1)=escB v.s++0::0::encL (l.drop (k+1)):=(drop_more (a:=[2]) hdq).trans (by simp)
      refine TI.draw 6 ([blk g2 [.slice p k c] 46]) (by kernel_rfl) (nB rfl) (by kernel_rfl) (by rfl) ?_
      refine Rq 0 rfl rfl (by kernel_rfl) Sa (Ql (by kernel_rfl) rfl rfl) (Rq 1 rfl rfl (by kernel_rfl) Sa (Qm rfl) (yK 2 (by kernel_rfl) ?_))
      refine z6 rfl rfl (Ec (Cx.text B S g10 pb m cb (q+1) bs v.s (encL (l.drop (k+1))) hm hdq2 hk2.2.2 hv (by omega)) Tryz.func118 rfl rfl rfl ?_)
      rintro _ _ ⟨rfl,rfl⟩
      try simp only [cA,nA]
      refine ⟨Sa,?_⟩
      refine Rq 3 rfl rfl (by kernel_rfl) Sa (z8 [(0,1),(1,1),(2,1)] [.int .i64 0,.int .i64 0,.string .empty] [_,_,_] [(0,_),(2,_)] (by kernel_rfl) (by unfold Zf;kernel_rfl) rfl rfl) (yK 4 (by kernel_rfl) ?_)
      refine z6 rfl rfl (zK [_,_,_] (e:=58) (sz:=3) (by kernel_rfl) ⟨.agg #[.int .i64 0,.int .i64 0,.string .empty],by kernel_rfl,rfl⟩ rfl rfl rfl (by omega) (by omega) ?_)
      intro g54
      refine ⟨Sa,?_⟩
      refine yK 5 (by kernel_rfl) ?_
      refine zY rfl rfl (by kernel_rfl) (Ea Cx.elemX rfl rfl (SrcOf.blk (by kernel_rfl) rfl (by simp [Value.oneCell'])) (by unfold maxLen;omega) (by omega) ?_)
      rintro p1 c1 hp1
      try simp only [cA,nA]
      rw [show List.flatMap vxC (List.take k l)++[Value.int .i64 2,Value.int .i64 0,strW v.s]=List.flatMap vxC (List.take (k+1) l) by rw [htk,List.flatMap_append];congr 1;simp [hk2.1,hk2.2.1]]
      refine Rd0 (by rfl) ?_
      simp only [dS,dZ,dN]
      refine L0 rfl (E1 (by kernel_rfl) rfl rfl rfl (by first | (simp;done) | (simp;omega)) ?_)
      try simp only [List.set_cons_zero,List.set_cons_succ]
      refine Ld ?_
      refine ⟨rfl,_,?_,_,⟨_,k+1,q+1+(escB v.s).length+2,p1,c1,⟨by omega,by rw [hnx,hes,List.length_append,←hq];simp;omega,hp1⟩,rfl,(Za rfl (Za rfl (Za rfl (Za rfl rfl)))),rfl⟩,Sa⟩
      omega
    obtain rfl:k=l.length:=by have:=mt hiff.2;omega
    rw [List.take_length]
    refine TI.exit ?_
    refine TI.seq ?_
    refine TI.region (by rfl) ?_
    refine Lq rfl (Ql (by kernel_rfl) rfl rfl) (Lq rfl (z8 [(0,1),(1,1)] [.int .i64 0,.int .i64 0] [_,_] [] (by kernel_rfl) (by unfold Zf;kernel_rfl) rfl rfl) ?_)
    refine L0 rfl (E1 (by kernel_rfl) rfl rfl rfl (by first | (simp;done) | (simp;omega)) ?_)
    try simp only [List.set_cons_zero,List.set_cons_succ]
    refine L0 rfl (Es [_,_] (by kernel_rfl) rfl rfl rfl rfl (by simp) ?_)
    try simp only [splice,lC,lN,dS,cA,tS,tZ,dZ,nA,aN]
    refine Ld ?_
    refine TI.ret ?_
    exact ⟨rfl,rfl,p,c,hp,res (rs:=[.cell 2 46,.cell 3 184]) [_,_] rfl ⟨rvC (by kernel_rfl) rfl rfl,rvA [_,_] (by kernel_rfl) rfl ⟨rfl,rfl,trivial⟩,trivial⟩,Sa⟩
  · rintro e ds f w l' ⟨rfl,rfl,p,c,hp,hres,hs⟩ ho'
    refine ⟨(fun c e=>by cases e),?_⟩
    refine leaves_cons (by simp) (inv23 g2 g3 _) ((Cx.calm B _ g2 g3 w ho').mono ?_)
    rintro _ _ w7 ⟨rfl,rfl,ho7⟩
    simp only [settle]
    exact ⟨_,hres w7 ho7,_,_,rfl,⟨p,c,hp,rfl,rfl⟩,ho7.map hs⟩
open Go.RowKit
structure HpQ where
 gm:Nat
 gl:Nat
 gp:Nat
abbrev hpB (g:Nat) (q:HpQ) (pc:Option Addr) (nc cc:Nat) (last:Int):Wp:=blk g [.map (some q.gm),.slice pc nc cc,.int .i64 last,pV q.gl,pV q.gp] 125
abbrev wlS (b:Nat) (q:HpQ) (s:Pl):Wp:=wlA q.gl b s.W
abbrev plS (b n logs count:Nat) (q:HpQ) (s:Pl):Wp:=plA q.gp b n logs count s.hand q.gl s.A
def rcSet (rc:Nat→List (List UInt8)) (bb:Bool) (p:Nat) (r:List (List UInt8)):Nat→List (List UInt8):=if bb=true then fun x=>if x=p then r else rc x else rc
theorem Hp.with (B:Wn) (g b n logs count K:Nat) (q:HpQ) (pc:Option Addr) (nc cc:Nat) (last:Int) (s:Pl) (es:List En) (rc:Nat→List (List UInt8)) (hs:SInv logs count n K s es rc) (hK:K<2^30) (p:Nat) (hp:p<count) (pi:Int) (hpi:pi=p) (mark:Nat) (mi:Int) (hmi:mi=mark) (hm:mark<2^40)
  (gc:FuncId) (fn:Func) (caps:List Value) (X:List Wp) (R:Bool→List (List UInt8)→List Wp→Prop) (hf:Tryz.prog.funcs[gc]? = some fn) (hn:(fn.name == "runtime.NumGoroutine")=false) (hb:fn.body.isNone=false)
  (hdo : ∀ gpg m,Fn Tryz.prog B gc ([pV gpg]++caps).toArray (pgA gpg (rc p) m::hpB g q pc nc cc last::X) (fun v l => ∃ bb r' X',R bb r' X'∧v = .bool bb∧l=pgA gpg r' m::hpB g q pc nc cc last::X'))
  (hR : ∀ r' X',R true r' X'→PgOk r'∧r'.length<256) :
  Fn Tryz.prog B 58 #[pV g,.int .i64 pi,.int .i64 mi,.func (.func gc) #[] caps.toArray] (hpB g q pc nc cc last::wlS b q s::plS b n logs count q s::Zn b s.D::X)
   (fun u l => ∃ bb r' X' s',R bb r' X'∧SInv logs count n (K+1) s' es (rcSet rc bb p r')∧u = .tuple #[]∧l=hpB g q pc nc cc last::wlS b q s'::plS b n logs count q s'::Zn b s'.D::X'):=by
 subst hpi;subst hmi
 obtain ⟨s1,i,x,m,hP⟩:=hs.round (by omega) hp
 have hF:=hs.inv.F
 have hn2:=hF.n2
 have hlen:=hF.len
 have hpins : ∀ x∈s.A,x.pins<2^62:=fun x hx=>by have:=hs.inv.pins x hx;omega
 have hF1:=hP.inv.F
 have hlen1:=hF1.len
 have hpins1 : ∀ x∈s1.A,x.pins<2^62:=fun x hx=>by have:=hP.inv.pins x hx;omega
 have hpe:=hs.inv.pend
 have hx256:=hP.bl
 obtain ⟨A,hand,W,D⟩:=s
 dsimp only [wlS,plS] at hF hlen hpins hpe ⊢
 refine Fn.enter4 53 Tryz.func58 rfl rfl (nB rfl) (fun F=>?_)
 try simp only [cA,nA]
 refine TS (Lm rfl rfl (Lq rfl (Qn rfl) (Lq rfl (Qf (off:=4) (by kernel_rfl) rfl) (Lq rfl (Ql (by kernel_rfl) rfl rfl) (Lm rfl rfl ?_)))))
 refine Le rfl (Ec (Bp.pin B q.gp b n logs count hand q.gl A W D p hF hpins hs.inv.hand (hs.inv.w (by omega)) hs.inv.ok (by omega) hs.inv.sec) Tryz.func50 rfl rfl rfl ?_)
 rintro _ _ ⟨rfl,rfl⟩
 try simp only [cA,nA]
 rw [hP.pin]
 refine Ld (TS (Lm rfl rfl (Lq rfl (Qn rfl) (Lq rfl (Qf (off:=4) (by kernel_rfl) rfl) (Lq rfl (Ql (by kernel_rfl) rfl rfl) (Lm rfl rfl ?_))))))
 refine Le rfl (Ec (Bp.bytes B q.gp b n logs count s1.hand q.gl s1.A p hlen1 hn2 i x hP.pnd 256 hP.bl (by omega)) Tryz.func112 rfl rfl rfl ?_)
 rintro _ _ ⟨p5,c5,rfl,hp5,rfl⟩
 try simp only [cA,nA]
 refine Lm rfl rfl (Lq rfl (Qx rfl rfl) (Lq rfl (Qx rfl rfl) (La rfl rfl (La rfl rfl (Ld (TS ?_))))))
 refine Lm rfl rfl (LW.own fun w ho=>?_)
 have hcap:=ho.cap_at (p:=p5) (m:=256) (c:=c5)
 clear ho
 refine Le rfl (Ec (Pg.open_ok hP.opn (Pg.open B [rB (.slice p5 256 c5) 256 x.b] p5 256 c5 x.b (RdV.rB hP.bl hp5) hP.bl hcap (by omega))) Tryz.func113 rfl rfl rfl ?_)
 rintro _ _ ⟨gpg,rfl,rfl⟩
 try simp only [cA,nA]
 refine Lm rfl rfl (Lq rfl (Qx rfl rfl) (Lq rfl (Qx rfl rfl) (La rfl rfl (La rfl rfl (Ld (Ts (Ts ?_)))))))
 refine TR (Lm rfl rfl (Lm rfl rfl ?_))
 refine Le rfl (ZE [pV gpg] caps (hdo gpg m) hf hn hb rfl rfl rfl ?_)
 rintro _ _ ⟨bb,r',X',hRR,rfl,rfl⟩
 simp only [List.cons_append,List.nil_append]
 refine Ld ?_
 refine Y9 rfl (fun hbb=>?_) (fun hbb=>?_)
 ·
  subst hbb
  obtain ⟨hr1,hr2⟩:=hR r' X' hRR
  obtain ⟨A2,A3,hput,hinv2,hun,hS⟩:=hP.put r' mark hr1 hr2 hm
  have hl2:=hinv2.F.len
  have hpins2 : ∀ x∈A2,x.pins<2^62:=fun x hx=>by have:=hinv2.pins x hx;omega
  have hpl:=length_pgBytes (recs:=r') (mark:=mark) hr1.used
  refine TS (Lm rfl rfl (Lm rfl rfl ?_))
  refine Le rfl (Ec (Pg.setMark B gpg r' m mark) Tryz.func114 rfl rfl rfl ?_)
  rintro _ _ ⟨rfl,rfl⟩
  try simp only [cA,nA]
  refine Ld (T.draw 9 ([hpB g q pc nc cc last]) (by kernel_rfl) (nB rfl) (by kernel_rfl) (Rq 0 rfl rfl (by kernel_rfl) Sa (Qm rfl) (Rq 1 rfl rfl (by kernel_rfl) Sa (Qn rfl) (Rq 2 rfl rfl (by kernel_rfl) Sa (Qf (off:=4) (by kernel_rfl) rfl) (Rq 3 rfl rfl (by kernel_rfl) Sa (Ql (by kernel_rfl) rfl rfl) (Rq 4 rfl rfl (by kernel_rfl) Sa (Qm rfl) (Rq 5 rfl rfl (by kernel_rfl) Sa (Qm rfl) ?_)))))))
  refine Rq 7 rfl rfl (by kernel_rfl) Sa (Qm rfl) (yK 6 (by kernel_rfl) ?_)
  refine z6 rfl rfl (Ec (Fn.own (Pg.bytes B gpg r' mark)) Tryz.func53 rfl rfl rfl ?_)
  rintro _ _ ⟨⟨p6,c6,rfl,rfl⟩,w6,F6,ho6⟩
  try simp only [cA,nA]
  simp only [List.cons_append,List.nil_append] at ho6
  have hp6:0<256 → ∃ g,p6=some ⟨g,0,none⟩:=(ho6.slice_at (p:=p6) (m:=256) (c:=c6)).2.1
  clear ho6
  refine ⟨Sa,?_⟩
  refine yK 8 (by kernel_rfl) ?_
  refine zY rfl rfl (by kernel_rfl) (Ec (Bp.put B [rB (.slice p6 256 c6) 256 (Zx r' mark)] q.gp b n logs count s1.hand q.gl s1.A p hlen1 hn2 i x hP.pnd p6 c6 (Zx r' mark) mark hpl (RdV.rB hpl hp6)) Tryz.func51 rfl rfl rfl ?_)
  rintro _ _ ⟨rfl,rfl⟩
  try simp only [cA,nA]
  rw [hput]
  refine Rd0 (by rfl) ?_
  simp only [dS,dZ,dN]
  refine Ld (TR (Lm rfl rfl (Lq rfl (Qn rfl) (Lq rfl (Qf (off:=4) (by kernel_rfl) rfl) (Lq rfl (Ql (by kernel_rfl) rfl rfl) (Lm rfl rfl ?_))))))
  refine Le rfl (Ec (Bp.unpin B q.gp b n logs count s1.hand q.gl A2 p hl2 hn2 hpins2) Tryz.func54 rfl rfl rfl ?_)
  rintro _ _ ⟨rfl,rfl⟩
  try simp only [cA,nA]
  rw [hun]
  refine Ld ?_
  exact ⟨.inr rfl,_,_,res [] rfl trivial,⟨true,r',X',{s1 with A:=A3},hRR,hS,rfl,rfl⟩,Sa⟩
 subst hbb
 obtain ⟨A3,hun,hS⟩:=hP.keep
 refine Tk (TR (Lm rfl rfl (Lq rfl (Qn rfl) (Lq rfl (Qf (off:=4) (by kernel_rfl) rfl) (Lq rfl (Ql (by kernel_rfl) rfl rfl) (Lm rfl rfl ?_))))))
 refine Le rfl (Ec (Bp.unpin B q.gp b n logs count s1.hand q.gl s1.A p hlen1 hn2 hpins1) Tryz.func54 rfl rfl rfl ?_)
 rintro _ _ ⟨rfl,rfl⟩
 try simp only [cA,nA]
 rw [hun]
 refine Ld ?_
 exact ⟨.inr rfl,_,_,res [] rfl trivial,⟨false,r',X',{s1 with A:=A3},hRR,hS,rfl,rfl⟩,Sa⟩
open Go.RowKit
theorem Hp.redo1 (B:Wn) (S:List Wp) (A:Wp) (g gpg g3 g4 g6:Nat) (recs recs':List (List UInt8)) (m:Int) (e:En) (p:Option Addr) (c:Nat)
  (hap:Fn Tryz.prog B 106 #[pV g,pV gpg,enV e p c] (pgA gpg recs m::S) (fun u l=>u = .int .i64 0∧l=pgA gpg recs' m::S)) :
  Fn Tryz.prog B 105 #[pV gpg,pV g3,pV g4,pV g6] (pgA gpg recs m::A::blk g3 [pV g] 94::enB g4 e p c::blk g6 [.int .i64 0] 37::S) (fun v l=>v = .bool true∧l=pgA gpg recs' m::A::blk g3 [pV g] 94::enB g4 e p c::blk g6 [.int .i64 0] 37::S):=by
 refine Fn.enter4 12 Tryz.func105 rfl rfl (nB rfl) (fun F=>?_)
 try simp only [cA,nA]
 refine TS (La rfl rfl (Ld (TS (Lq rfl (Ql (by kernel_rfl) rfl rfl) (Lm rfl rfl ?_)))))
 refine Lq rfl (QL [_,_,_,_,_,_] (by kernel_rfl) rfl ⟨rfl,rfl,rfl,rfl,rfl,rfl,trivial⟩) ?_
 refine Le rfl (Ec (hap) Tryz.func106 rfl rfl rfl ?_)
 rintro _ _ ⟨rfl,rfl⟩
 try simp only [cA,nA]
 refine L0 rfl (E1 (by kernel_rfl) rfl rfl rfl (by first | (simp;done) | (simp;omega)) ?_)
 try simp only [List.set_cons_zero,List.set_cons_succ]
 refine Ld (TS (Lq rfl (Ql (by kernel_rfl) rfl rfl) (Lq rfl (yU rfl rfl) (La rfl rfl (Ld (T.ret ?_))))))
 exact ⟨.inl rfl,_,_,res [_] rfl ⟨rvT rfl,trivial⟩,⟨rfl,rfl⟩,Sa⟩
theorem Hp.redoC (B:Wn) (g:Nat) (mark:Int) (e:En) (p:Option Addr) (c:Nat) (hk:e.kind=3):Fn Tryz.prog B 56 #[pV g,enV e p c,.int .i64 mark] [] (fun u l=>u = .int .i64 0∧l=[]):=by
 refine Ws 27 Tryz.func56 rfl rfl (nB rfl) (fun F=>?_)
 try simp only [cA,nA]
 refine TS ?_
 refine Le rfl (zL [_] rfl rfl ?_)
 intro g3
 refine Le rfl (zL [_,_,_,_,_,_] rfl rfl ?_)
 intro g4
 refine Le rfl (El [.int .i64 0] (by unfold Zf;kernel_rfl) ?_)
 intro g6
 refine Ld (Ts (TS (Lq rfl (Q0 (by kernel_rfl) rfl) (Lq rfl (Ql (by kernel_rfl) rfl rfl) (Lq rfl (yU rfl rfl) (Ld ?_))))))
 refine zM rfl (by omega) (TS ?_)
 refine L0 rfl (E1 (by kernel_rfl) rfl rfl rfl (by first | (simp;done) | (simp;omega)) ?_)
 try simp only [List.set_cons_zero,List.set_cons_succ]
 refine Ld (T.ret ?_)
 exact ⟨.inl rfl,_,_,res [_] rfl ⟨rvC (by kernel_rfl) rfl rfl,trivial⟩,⟨rfl,rfl⟩,Sa⟩
theorem Hp.redoP (B:Wn) (S:List Wp) (g b n logs count K:Nat) (q:HpQ) (pc:Option Addr) (nc cc:Nat) (last:Int) (s:Pl) (es:List En) (rc:Nat→List (List UInt8)) (hs:SInv logs count n K s es rc) (hK:K<2^30) (mark:Nat) (hm:mark<2^40) (e:En) (p:Option Addr) (c:Nat) (hk:e.kind≠3) (j:Nat) (hj:e.page=j) (hjc:j<count) (recs':List (List UInt8)) (hr1:PgOk recs') (hr2:recs'.length<256)
  (hap : ∀ gpg m,Fn Tryz.prog B 106 #[pV g,pV gpg,enV e p c] (pgA gpg (rc j) m::S) (fun u l=>u = .int .i64 0∧l=pgA gpg recs' m::S)) :
  Fn Tryz.prog B 56 #[pV g,enV e p c,.int .i64 mark] (hpB g q pc nc cc last::wlS b q s::plS b n logs count q s::Zn b s.D::S)
   (fun u l => ∃ s',SInv logs count n (K+1) s' es (rcSet rc true j recs')∧u = .int .i64 0∧l=hpB g q pc nc cc last::wlS b q s'::plS b n logs count q s'::Zn b s'.D::S):=by
 refine Ws 27 Tryz.func56 rfl rfl (nB rfl) (fun F=>?_)
 try simp only [cA,nA]
 refine TS ?_
 refine Le rfl (zL [_] rfl rfl ?_)
 intro g3
 refine Le rfl (zL [_,_,_,_,_,_] rfl rfl ?_)
 intro g4
 refine Le rfl (El [.int .i64 0] (by unfold Zf;kernel_rfl) ?_)
 intro g6
 refine Ld (Ts (TS (Lq rfl (Q0 (by kernel_rfl) rfl) (Lq rfl (Ql (by kernel_rfl) rfl rfl) (Lq rfl (yU rfl rfl) (Ld ?_))))))
 refine yL rfl (by omega) (Tk (Ts (Ts (T.draw 10 ([hpB g q pc nc cc last,enB g4 e p c,blk g3 [pV g] 94]) (by kernel_rfl) (nB rfl) (by kernel_rfl) (Rq 0 rfl rfl (by kernel_rfl) Sa (Qf (off:=2) (by kernel_rfl) rfl) (Rq 1 rfl rfl (by kernel_rfl) Sa (Ql (by kernel_rfl) rfl rfl) (Rq 2 rfl rfl (by kernel_rfl) Sa (Ql (by kernel_rfl) rfl rfl) ?_)))))))
 refine Rq 3 rfl rfl (by kernel_rfl) Sa (Qn rfl) (Rq 4 rfl rfl (by kernel_rfl) Sa (Qf (off:=4) (by kernel_rfl) rfl) (Rq 5 rfl rfl (by kernel_rfl) Sa (Ql (by kernel_rfl) rfl rfl) (Rq 6 rfl rfl (by kernel_rfl) Sa (Qn rfl) (Rq 7 rfl rfl (by kernel_rfl) Sa (Q0 (by kernel_rfl) rfl) (yK 8 (by kernel_rfl) ?_)))))
 refine z6 rfl rfl (Ec (Bp.pages B q.gp b n logs count s.hand q.gl s.A) Tryz.func49 rfl rfl rfl ?_)
 rintro _ _ ⟨rfl,rfl⟩
 try simp only [cA,nA]
 refine ⟨Sa,?_⟩
 refine Rq 9 rfl rfl (by kernel_rfl) Sa (zX rfl rfl) (Rd0 (by rfl) ?_)
 simp only [dS,dZ,dN]
 refine Ld (yL rfl (by omega) (Tk (TS (Lq rfl (Ql (by kernel_rfl) rfl rfl) (Lq rfl (Qf (off:=2) (by kernel_rfl) rfl) (Lq rfl (Ql (by kernel_rfl) rfl rfl) ?_))))))
 refine Lm rfl rfl (Lq rfl (Y4 [_,_,_] rfl) ?_)
 refine Le rfl (Ec (Hp.with B g b n logs count K q pc nc cc last s es rc hs hK j hjc e.page hj mark mark rfl hm 105 Tryz.f105 [pV g3,pV g4,pV g6] (blk g3 [pV g] 94::enB g4 e p c::blk g6 [.int .i64 0] 37::S) (fun bb r' X'=>bb=true∧r'=recs'∧X'=blk g3 [pV g] 94::enB g4 e p c::blk g6 [.int .i64 0] 37::S) Tryz.func105 rfl rfl (fun gpg m=>(Hp.redo1 B S (hpB g q pc nc cc last) g gpg g3 g4 g6 (rc j) recs' m e p c (hap gpg m)).mono (fun v l ⟨h1,h2⟩=>⟨true,recs',_,⟨rfl,rfl,rfl⟩,h1,h2⟩)) (fun r' X' h=>by obtain ⟨_,rfl,_⟩:=h;exact ⟨hr1,hr2⟩)) Tryz.func58 rfl rfl rfl ?_)
 rintro _ _ ⟨bb,r',X',s',⟨rfl,rfl,rfl⟩,hS,rfl,rfl⟩
 try simp only [cA,nA]
 refine Ld (TS (Lq rfl (Ql (by kernel_rfl) rfl rfl) ?_))
 refine L0 rfl (E1 (by kernel_rfl) rfl rfl rfl (by first | (simp;done) | (simp;omega)) ?_)
 try simp only [List.set_cons_zero,List.set_cons_succ]
 refine Ld (T.ret ?_)
 exact ⟨.inl rfl,_,_,res [_] rfl ⟨rvC (by kernel_rfl) rfl rfl,trivial⟩,⟨s',hS,rfl,rfl⟩,Sa⟩
open Go.RowKit
theorem LogI.room {logs:Nat} {W:Wl} {D:DD} {es:List En} (h:LogI logs W D es) (hw:W.st.length≤W.count*256) (e:En) (he:EnOk e) (hf:logs*256<W.st.length+enSz e):addW W (Zj e)=(W,0,3):=by
 obtain ⟨l1,l2,l3⟩:=h.first
 have hd:=encE_ok he
 unfold enSz at hf
 unfold addW
 rw [if_neg hd.1,if_neg (by have:=hd.2;omega),if_pos (by rw [l2];omega)]
theorem Hp.writeFull (B:Wn) (S:List Wp) (g b logs count n K:Nat) (q:HpQ) (pc:Option Addr) (nc cc:Nat) (last:Int) (s:Pl) (es:List En) (rc:Nat→List (List UInt8)) (hs:SInv logs count n K s es rc) (e:En) (p:Option Addr) (c:Nat) (he:EnOk e) (hv:RdV B S (.slice p e.data.length c) (Zb e.data)) (hf:logs*256<s.W.st.length+enSz e) :
  Fn Tryz.prog B 72 #[pV g,enV e p c] (hpB g q pc nc cc last::wlS b q s::S) (fun u l=>u = .int .i64 3∧l=hpB g q pc nc cc last::wlS b q s::S):=by
 have hwst:=hs.inv.wst
 obtain ⟨l1,l2,l3⟩:=hs.log.first
 have hlen:=hs.len
 have hmax:=hs.inv.ok.max
 have hel:(Zj e).length≤2^40:=by have:=(encE_ok he).2;omega
 have hadd:=hs.log.room hwst e he hf
 refine Wr 33 Tryz.func72 rfl rfl (nB rfl) (fun F=>?_)
 try simp only [cA,nA]
 refine TS ?_
 refine Le rfl (zL [_,_,_,_,_,_] rfl rfl ?_)
 intro g3
 refine La rfl rfl (Ld (TS (Lq rfl (QL [_,_,_,_,_,_] (by kernel_rfl) rfl ⟨rfl,rfl,rfl,rfl,rfl,rfl,trivial⟩) ?_)))
 refine Le rfl (Ec (Tl.encode B S e p c he hv) Tryz.func122 rfl rfl rfl ?_)
 rintro _ _ ⟨p1,c1,rfl,hp1,rfl⟩
 try simp only [cA,nA]
 refine Lm rfl rfl (Lq rfl (Qx rfl rfl) (Lq rfl (Qx rfl rfl) (La rfl rfl (La rfl rfl (Ld (Ts (Ts ?_)))))))
 refine TR (Lm rfl rfl (Lq rfl (yW rfl rfl) (Ld (yQ rfl (Tk (TS ?_))))))
 refine Lm rfl rfl (Lq rfl (Qn rfl) (Lq rfl (Qf (off:=3) (by kernel_rfl) rfl) (Lq rfl (Ql (by kernel_rfl) rfl rfl) (Lm rfl rfl ?_))))
 refine Le rfl (zK [_] (e:=108) (sz:=1) (by kernel_rfl) ⟨.slice none 0 0,by kernel_rfl,rfl⟩ rfl rfl rfl (by omega) (by omega) ?_)
 intro g22
 refine Le rfl (Ec (Wl.add B [blk g22 [.slice p1 (Zj e).length c1] 108,rB (.slice p1 (Zj e).length c1) (Zj e).length (Zj e)] q.gl b s.W (some ⟨g22,0,none⟩) 1 [Zj e] 1 rfl (PartsV.one ((RdV.rB rfl hp1).mono (fun w ho=>ho.map Sa))) (by simp) (by simp) (Zj e) (by simp) hel (by omega) hwst) Tryz.func123 rfl rfl rfl ?_)
 rintro _ _ ⟨rfl,rfl⟩
 try simp only [cA,nA]
 rw [hadd]
 refine Lm rfl rfl (Lq rfl (Qx rfl rfl) (Lq rfl (Qx rfl rfl) (La rfl rfl (La rfl rfl (Ld (Ts (Ts ?_)))))))
 refine TR (Lm rfl rfl (Lq rfl (yW rfl rfl) (Ld (zF rfl (TS (Lm rfl rfl ?_))))))
 refine La rfl rfl (Ld (T.ret ?_))
 exact ⟨.inl rfl,_,_,res [_] rfl ⟨rvT rfl,trivial⟩,⟨rfl,rfl⟩,Sa⟩
theorem Hp.writeP (B:Wn) (S:List Wp) (g b logs count n K:Nat) (q:HpQ) (pc:Option Addr) (nc cc:Nat) (last:Int) (s:Pl) (es:List En) (rc:Nat→List (List UInt8)) (hs:SInv logs count n K s es rc) (hK:K<2^30) (e:En) (p:Option Addr) (c:Nat) (he:EnOk e) (hv:RdV B S (.slice p e.data.length c) (Zb e.data)) (hf:s.W.st.length+enSz e≤logs*256) (hk:e.kind≠3) (j:Nat) (hj:e.page=j) (hjc:j<count) (recs':List (List UInt8)) (hr1:PgOk recs') (hr2:recs'.length<256)
  (hap : ∀ (X:List Wp),RdV B X (.slice p e.data.length c) (Zb e.data) → ∀ gpg m,Fn Tryz.prog B 106 #[pV g,pV gpg,enV e p c] (pgA gpg (rc j) m::X) (fun u l=>u = .int .i64 0∧l=pgA gpg recs' m::X)) :
  Fn Tryz.prog B 72 #[pV g,enV e p c] (hpB g q pc nc cc last::wlS b q s::plS b n logs count q s::Zn b s.D::S) (fun u l => ∃ s',SInv logs count n (K+1) s' (es++[e]) (rcSet rc true j recs')∧u = .int .i64 0∧l=hpB g q pc nc cc last::wlS b q s'::plS b n logs count q s'::Zn b s'.D::S):=by
 have hwst:=hs.inv.wst
 obtain ⟨l1,l2,l3⟩:=hs.log.first
 have hlen:=hs.len
 have hmax:=hs.inv.ok.max
 have hel:(Zj e).length≤2^40:=by have:=(encE_ok he).2;omega
 obtain ⟨hadd,hs2⟩:=hs.append he hk hf
 obtain ⟨W2,hW2⟩ : ∃ W2,mkW 0 logs ((es++[e]).map Zj) s.W.dur=W2:=⟨_,rfl⟩
 rw [hW2] at hadd hs2
 have hredo:=Hp.redoP B S g b n logs count K q pc nc cc last _ (es++[e]) rc hs2 hK (s.W.st.length+enSz e) (by omega) e p c hk j hj hjc recs' hr1 hr2 (hap S hv)
 dsimp only [wlS,plS] at hredo ⊢
 refine Wr 33 Tryz.func72 rfl rfl (nB rfl) (fun F=>?_)
 try simp only [cA,nA]
 refine TS ?_
 refine Le rfl (zL [_,_,_,_,_,_] rfl rfl ?_)
 intro g3
 refine La rfl rfl (Ld (TS (Lq rfl (QL [_,_,_,_,_,_] (by kernel_rfl) rfl ⟨rfl,rfl,rfl,rfl,rfl,rfl,trivial⟩) ?_)))
 refine Le rfl (Ec (Tl.encode B S e p c he hv) Tryz.func122 rfl rfl rfl ?_)
 rintro _ _ ⟨p1,c1,rfl,hp1,rfl⟩
 try simp only [cA,nA]
 refine Lm rfl rfl (Lq rfl (Qx rfl rfl) (Lq rfl (Qx rfl rfl) (La rfl rfl (La rfl rfl (Ld (Ts (Ts ?_)))))))
 refine TR (Lm rfl rfl (Lq rfl (yW rfl rfl) (Ld (yQ rfl (Tk (TS ?_))))))
 refine Lm rfl rfl (Lq rfl (Qn rfl) (Lq rfl (Qf (off:=3) (by kernel_rfl) rfl) (Lq rfl (Ql (by kernel_rfl) rfl rfl) (Lm rfl rfl ?_))))
 refine Le rfl (zK [_] (e:=108) (sz:=1) (by kernel_rfl) ⟨.slice none 0 0,by kernel_rfl,rfl⟩ rfl rfl rfl (by omega) (by omega) ?_)
 intro g22
 refine Le rfl (Ec (Wl.add B [blk g22 [.slice p1 (Zj e).length c1] 108,rB (.slice p1 (Zj e).length c1) (Zj e).length (Zj e)] q.gl b s.W (some ⟨g22,0,none⟩) 1 [Zj e] 1 rfl (PartsV.one ((RdV.rB rfl hp1).mono (fun w ho=>ho.map Sa))) (by simp) (by simp) (Zj e) (by simp) hel (by omega) hwst) Tryz.func123 rfl rfl rfl ?_)
 rintro _ _ ⟨rfl,rfl⟩
 try simp only [cA,nA]
 rw [hadd]
 refine Lm rfl rfl (Lq rfl (Qx rfl rfl) (Lq rfl (Qx rfl rfl) (La rfl rfl (La rfl rfl (Ld (Ts (Ts ?_)))))))
 refine TR (Lm rfl rfl (Lq rfl (yW rfl rfl) (Ld (yQ rfl (Tk (TS ?_))))))
 refine Lm rfl rfl (Lq rfl (QL [_,_,_,_,_,_] (by kernel_rfl) rfl ⟨rfl,rfl,rfl,rfl,rfl,rfl,trivial⟩) (Lm rfl rfl ?_))
 refine Le rfl (Ec (hredo) Tryz.func56 rfl rfl rfl ?_)
 rintro _ _ ⟨s',hS,rfl,rfl⟩
 try simp only [cA,nA]
 refine La rfl rfl (Ld (T.ret ?_))
 exact ⟨.inl rfl,_,_,res [_] rfl ⟨rvT rfl,trivial⟩,⟨s',hS,rfl,rfl⟩,Sa⟩
theorem Hp.writeC (B:Wn) (g b logs count n K:Nat) (q:HpQ) (pc:Option Addr) (nc cc:Nat) (last:Int) (s:Pl) (es:List En) (rc:Nat→List (List UInt8)) (hs:SInv logs count n K s es rc) (e:En) (he:EnOk e) (hd:e.data=[]) (hf:s.W.st.length+enSz e≤logs*256) (hk:e.kind=3) (W2:Wl) (r:Int) (hadd:addW s.W (Zj e)=(W2,r,0)) :
  Fn Tryz.prog B 72 #[pV g,enV e none 0] [hpB g q pc nc cc last,wlS b q s] (fun u l=>u = .int .i64 0∧l=[hpB g q pc nc cc last,wlA q.gl b W2]):=by
 have hwst:=hs.inv.wst
 obtain ⟨l1,l2,l3⟩:=hs.log.first
 have hlen:=hs.len
 have hmax:=hs.inv.ok.max
 have hel:(Zj e).length≤2^40:=by have:=(encE_ok he).2;omega
 refine Wr 33 Tryz.func72 rfl rfl (nB rfl) (fun F=>?_)
 try simp only [cA,nA]
 refine TS ?_
 refine Le rfl (zL [_,_,_,_,_,_] rfl rfl ?_)
 intro g3
 refine La rfl rfl (Ld (TS (Lq rfl (QL [_,_,_,_,_,_] (by kernel_rfl) rfl ⟨rfl,rfl,rfl,rfl,rfl,rfl,trivial⟩) ?_)))
 refine Le rfl (Ec (Tl.encode B [] e none 0 he (by rw [hd];exact RdV.nil _ 0)) Tryz.func122 rfl rfl rfl ?_)
 rintro _ _ ⟨p1,c1,rfl,hp1,rfl⟩
 try simp only [cA,nA]
 refine Lm rfl rfl (Lq rfl (Qx rfl rfl) (Lq rfl (Qx rfl rfl) (La rfl rfl (La rfl rfl (Ld (Ts (Ts ?_)))))))
 refine TR (Lm rfl rfl (Lq rfl (yW rfl rfl) (Ld (yQ rfl (Tk (TS ?_))))))
 refine Lm rfl rfl (Lq rfl (Qn rfl) (Lq rfl (Qf (off:=3) (by kernel_rfl) rfl) (Lq rfl (Ql (by kernel_rfl) rfl rfl) (Lm rfl rfl ?_))))
 refine Le rfl (zK [_] (e:=108) (sz:=1) (by kernel_rfl) ⟨.slice none 0 0,by kernel_rfl,rfl⟩ rfl rfl rfl (by omega) (by omega) ?_)
 intro g22
 refine Le rfl (Ec (Wl.add B [blk g22 [.slice p1 (Zj e).length c1] 108,rB (.slice p1 (Zj e).length c1) (Zj e).length (Zj e)] q.gl b s.W (some ⟨g22,0,none⟩) 1 [Zj e] 1 rfl (PartsV.one ((RdV.rB rfl hp1).mono (fun w ho=>ho.map Sa))) (by simp) (by simp) (Zj e) (by simp) hel (by omega) hwst) Tryz.func123 rfl rfl rfl ?_)
 rintro _ _ ⟨rfl,rfl⟩
 try simp only [cA,nA]
 rw [hadd]
 refine Lm rfl rfl (Lq rfl (Qx rfl rfl) (Lq rfl (Qx rfl rfl) (La rfl rfl (La rfl rfl (Ld (Ts (Ts ?_)))))))
 refine TR (Lm rfl rfl (Lq rfl (yW rfl rfl) (Ld (yQ rfl (Tk (TS ?_))))))
 refine Lm rfl rfl (Lq rfl (QL [_,_,_,_,_,_] (by kernel_rfl) rfl ⟨rfl,rfl,rfl,rfl,rfl,rfl,trivial⟩) (Lm rfl rfl ?_))
 refine Le rfl (Ec (Hp.redoC B g r e none 0 hk) Tryz.func56 rfl rfl rfl ?_)
 rintro _ _ ⟨rfl,rfl⟩
 try simp only [cA,nA]
 refine La rfl rfl (Ld (T.ret ?_))
 exact ⟨.inl rfl,_,_,res [_] rfl ⟨rvT rfl,trivial⟩,⟨rfl,rfl⟩,Sa⟩
open Go.RowKit
abbrev zV (a:Int):Value := .int .i64 a
abbrev stC (p:Int×Int):List Value:=[.int .i64 p.1,.int .i64 p.2]
abbrev cmR (pc:Option Addr) (n cc:Nat) (l:List (Int×Int)):Wp:=row (.slice pc n cc) 105 2 n (l.flatMap stC)
abbrev stA (q:HpQ) (st:List (Int×Int)):Wp:=mpA zV zV q.gm st
structure HpX where
 q:HpQ
 pc:Option Addr
 cc:Nat
 s:Pl
 st:List (Int×Int)
abbrev hpC (g b logs count n:Nat) (x:HpX) (h:HR):List Wp:=[hpB g x.q x.pc h.cm.length x.cc h.last,stA x.q x.st,cmR x.pc h.cm.length x.cc h.cm,wlS b x.q x.s,plS b n logs count x.q x.s,Zn b x.s.D]
def hpA (g b logs count n K:Nat) (h:HR):Wp:=exA fun x:HpX=>sepL (pu (HInv logs count n K x.s x.st h)::hpC g b logs count n x h)
theorem Own.openHp {B:Wn} {w:World} {g b logs count n K:Nat} {h:HR} {l:List Wp} (H:Own B w (hpA g b logs count n K h::l)) : ∃ x,HInv logs count n K x.s x.st h∧Own B w (hpC g b logs count n x h++l):=by
 obtain ⟨k,a,c,H0⟩:=H.has
 obtain ⟨x,H1⟩:=Has.open_ex H0
 have H2:=Has.open_sepL H1
 obtain ⟨hA,H3⟩:=Has.open_pu H2
 exact ⟨x,hA,H.os,H.tape,H.output,H.ro,k,a,c,H3⟩
theorem Fn.openHp {P:Program} {B:Wn} {f:FuncId} {args:Array Value} {g b logs count n K:Nat} {h:HR} {S:List Wp} {R:Value→List Wp→Prop}
  (hh : ∀ x:HpX,HInv logs count n K x.s x.st h→(0<h.cm.length → ∃ g,x.pc=some ⟨g,0,none⟩)→Fn P B f args (hpC g b logs count n x h++S) R):Fn P B f args (hpA g b logs count n K h::S) R:=⟨fun w F ho=>by
 obtain ⟨x,hi,ho'⟩:=Own.openHp (l:=S++F) ho
 rw [←List.append_assoc] at ho'
 have ho2:=ho'
 simp only [List.cons_append,List.nil_append] at ho2
 exact (hh x hi (ho2.slice_at (p:=x.pc) (m:=h.cm.length) (c:=x.cc)).2.1).run w F ho'⟩
theorem Wb {g b logs count n K:Nat} (L:List Wp) (x:HpX) (h:HR) (hi:HInv logs count n K x.s x.st h) (e:L=hpC g b logs count n x h) {l r m:List Wp} [k:TakeL L l r] [t:SubC (hpA g b logs count n K h::r) m]:Sub l m:=fun p H=>by
 refine t.sub p (Has.close_ex x ?_)
 refine Has.close_sepL (l:=pu _::hpC g b logs count n x h) (Has.close_pu hi ?_)
 have:=k.take p H
 rw [e] at this
 exact this
theorem Hp.okS : MapOk Tryz.prog 119 zV (zV 0):=MapOk.mk3 2 3 (.int .i64) Tryz.underlying119 Tryz.underlying2 (fun _=>rfl) (by kernel_rfl) i64_inj
theorem Hp.elemC : ElemOk Tryz.prog 95 105 2 16 := .mk' (.agg #[.int .i64 0,.int .i64 0]) Tryz.underlying95 (by kernel_rfl) rfl (by omega)
theorem one_stC {l:List (Int×Int)} : ∀ v∈l.flatMap stC,v.oneCell'=true:=by
 intro v hv
 obtain ⟨x,_,h⟩:=List.mem_flatMap.1 hv
 simp at h
 rcases h with rfl | rfl <;> rfl
theorem HInv.begin {logs count n K:Nat} {s:Pl} {st:List (Int×Int)} {h:HR} (i:HInv logs count n K s st h):HInv logs count n (K+1) s (putL st (h.last+1) 1) (beginR h):=⟨i.s.mono (Nat.le_succ _),i.r.begin,i.st.begin,i.pages,i.room,by have:=i.lastK;show h.last+1≤_;omega⟩
theorem HInv.without {logs count n K:Nat} {s:Pl} {st:List (Int×Int)} {h:HR} (i:HInv logs count n K s st h) {t:Int} (ht:Zp h t=true):HInv logs count n K s (putL st t 0) (Zo h t):=⟨i.s,i.r.without t,i.st.without i.r ht,i.pages,i.room,i.lastK⟩
theorem Hp.begin (B:Wn) (g b logs count n K:Nat) (h:HR) (hK:K<2^30):Fn Tryz.prog B 33 #[pV g] [hpA g b logs count n K h] (fun u l=>u = .int .i64 (h.last+1)∧l=[hpA g b logs count n (K+1) (beginR h)]):=by
 refine Fn.openHp fun x hi hp=>?_
 simp only [hpC,List.append_nil]
 have h0:=hi.r.last0
 have h1:=hi.lastK
 refine Wq 22 Tryz.func33 rfl rfl (nB rfl) (fun F=>?_)
 try simp only [cA,nA]
 refine TS (La rfl rfl (Ld (TS (Lm rfl rfl (Lq rfl (Qn rfl) ?_)))))
 refine Lq rfl (Qf (off:=2) (by kernel_rfl) rfl) (Lq rfl (Ql (by kernel_rfl) rfl rfl) (Lq rfl (Qd rfl rfl (Ze (by omega) (by omega))) (Lq rfl (Qn rfl) (Lq rfl (Qf (off:=2) (by kernel_rfl) rfl) ?_))))
 refine L0 rfl (E1 (by kernel_rfl) rfl rfl rfl (by first | (simp;done) | (simp;omega)) ?_)
 try simp only [List.set_cons_zero,List.set_cons_succ]
 refine Ld (Ts (T.draw 8 ([hpB g x.q x.pc h.cm.length x.cc (h.last+1)]) (by kernel_rfl) (nB rfl) (by kernel_rfl) (Rq 0 rfl rfl (by kernel_rfl) Sa (Qm rfl) (Rq 1 rfl rfl (by kernel_rfl) Sa (Qn rfl) (Rq 2 rfl rfl (by kernel_rfl) Sa (Q0 (by kernel_rfl) rfl) (Rq 3 rfl rfl (by kernel_rfl) Sa (Ql (by kernel_rfl) rfl rfl) (Rq 4 rfl rfl (by kernel_rfl) Sa (Qm rfl) ?_)))))))
 refine Rq 5 rfl rfl (by kernel_rfl) Sa (Qn rfl) (Rq 6 rfl rfl (by kernel_rfl) Sa (Qf (off:=2) (by kernel_rfl) rfl) (Rq 7 rfl rfl (by kernel_rfl) Sa (Ql (by kernel_rfl) rfl rfl) (Rd0 (by rfl) ?_)))
 simp only [dS,dZ,dN]
 refine L0 rfl (Y0 Hp.okS rfl (h.last+1) rfl 1 rfl ?_)
 refine Ld (TS (Lm rfl rfl (Lq rfl (Qn rfl) (Lq rfl (Qf (off:=2) (by kernel_rfl) rfl) (Lq rfl (Ql (by kernel_rfl) rfl rfl) (La rfl rfl ?_))))))
 refine Ld (T.ret ?_)
 exact ⟨.inl rfl,_,_,res [_] rfl ⟨rvT rfl,trivial⟩,⟨rfl,rfl⟩,Wb [hpB g x.q x.pc h.cm.length x.cc (h.last+1),stA x.q (putL x.st (h.last+1) 1),cmR x.pc h.cm.length x.cc h.cm,wlS b x.q x.s,plS b n logs count x.q x.s,Zn b x.s.D] {x with st:=putL x.st (h.last+1) 1} (beginR h) hi.begin rfl⟩
open Go.RowKit
theorem Sub.eqL {l L L' r F:List Wp} (e:L=L') [k:TakeL L l r] [t:Tail r F]:Sub l (L'++F):=fun p H=>by
 subst e
 obtain ⟨h1,h2,d,a,b,e1,e2⟩:=Has.split (k.take p H)
 exact Has.join d a b e1 (t.tl _ e2)
theorem cm_at {l:List (Int×Int)} {j:Nat} {c:Int×Int} (h:l[j]? = some c):(l.flatMap stC)[0+j*2+1]? = some (.int .i64 c.2):=by
 obtain ⟨hj,hc⟩:=List.getElem?_eq_some_iff.1 h
 have:=flat_cell stC 2 l (fun _ _=>rfl) j 1 hj (v := .int .i64 c.2) (by rw [hc];rfl)
 exact this
theorem HInv.commit {logs count n K:Nat} {s:Pl} {st:List (Int×Int)} {h:HR} (i:HInv logs count n K s st h) (hK:K<2^31) {t stamp:Int} (ht:Zp h t=true) (hb:badStamp h stamp=false) (hf:h.used+25≤h.room) :
  EnOk (cmE t stamp)∧s.W.st.length+enSz (cmE t stamp)≤logs*256 ∧ ∃ r,addW s.W (Zj (cmE t stamp))=(mkW 0 logs ((h.es++[cmE t stamp]).map Zj) s.W.dur,r,0)∧WOk (mkW 0 logs ((h.es++[cmE t stamp]).map Zj) s.W.dur) s.D ∧
   HInv logs count n K {s with W:=(mkW 0 logs ((h.es++[cmE t stamp]).map Zj) s.W.dur).flushed,D:=Wh (mkW 0 logs ((h.es++[cmE t stamp]).map Zj) s.W.dur) s.D} (putL st t 2) (Zg (Zo h t) (cmE t stamp)):=by
 have hu:=i.used
 have hl:h.last<2^62:=by have:=i.lastK;omega
 have hok:=i.r.cmStep hl ht hb hf
 have hsz:s.W.st.length+enSz (cmE t stamp)≤logs*256:=by
  have hr:=i.room
  rw [enSz_eq];simp only [if_true];omega
 obtain ⟨h1,h2,h3⟩:=i.s.commit hK hok.ok hsz
 have hrc:Zi (Zg (Zo h t) (cmE t stamp)).vs=Zi h.vs:=funext fun q=>recs_commit (h:=Zo h t) rfl q
 refine ⟨hok.ok,hsz,_,h1,h2,?_,(i.r.without t).write hok (i.r.act1 t (isAct_iff.1 ht)).2 (fun _=>by simp [Zo]),i.st.commit i.r ht,i.pages,i.room,i.lastK⟩
 rw [hrc]
 exact h3
def cmDisk (logs:Nat) (h:HR) (s:Pl) (t stamp:Int):DD:=if (Zl h t stamp).2=0 then Wh (mkW 0 logs ((h.es++[cmE t stamp]).map Zj) s.W.dur) s.D else s.D
theorem Hp.commitX (B:Wn) (g b logs count n K:Nat) (h:HR) (hK:K<2^30) (t stamp:Int) (x:HpX) (hi:HInv logs count n K x.s x.st h) (hp:0<h.cm.length → ∃ g,x.pc=some ⟨g,0,none⟩) (hcl:h.cm.length<2^32) :
    Fn Tryz.prog B 36 #[pV g,.int .i64 t,.int .i64 stamp] (hpC g b logs count n x h) (fun u l => ∃ x',HInv logs count n K x'.s x'.st (Zl h t stamp).1∧x'.s.D=cmDisk logs h x.s t stamp∧u = .int .i64 (Zl h t stamp).2∧l=hpC g b logs count n x' (Zl h t stamp).1):=by
  simp only [hpC]
  have ha:=hi.st.act t
  by_cases hc:Zp h t=true
  · by_cases hb:badStamp h stamp=true
    · have he:Zl h t stamp=(h,1):=by unfold Zl;rw [if_pos hc,if_pos hb]
      have hd:cmDisk logs h x.s t stamp=x.s.D:=by unfold cmDisk;rw [he];simp
      rw [he,hd]
      unfold badStamp at hb
      simp only [Bool.or_eq_true,decide_eq_true_eq] at hb
      refine Ws 82 Tryz.func36 rfl rfl (nB rfl) (fun F=>?_)
      try simp only [cA,nA]
      refine TS (La rfl rfl (Ld (TS (Lm rfl rfl (Lq rfl (Qn rfl) ?_)))))
      refine Lq rfl (Q0 (by kernel_rfl) rfl) (Lq rfl (Qf (off:=1) (by kernel_rfl) rfl) (Lq rfl (Ql (by kernel_rfl) rfl rfl) (Lq rfl (yI (e:=105) (sz:=2) (by kernel_rfl) rfl) (La rfl rfl (Ld (Ts (yH ?_)))))))
      refine TS (Lm rfl rfl (Lq rfl (Qn rfl) (Lq rfl (Q0 (by kernel_rfl) rfl) (Lq rfl (Q0 (by kernel_rfl) rfl) (Lq rfl (Ql (by kernel_rfl) rfl rfl) (Lm rfl rfl ?_))))))
      refine Lq rfl (zT Hp.okS rfl t rfl 0 rfl) (Lq rfl (yW rfl rfl) (La rfl rfl (Ld (yL rfl ((fun q=>q (ha.2 hc))) ?_))))
      by_cases h1:stamp<0
      · skip
        refine TS (Lm rfl rfl (Lq rfl (yM rfl rfl) (Lm rfl rfl (zQ (t:=27) rfl (decide_eq_true (by omega)) (Ls rfl (Ls rfl ?_))))))
        refine Lq rfl (Qp rfl rfl) (Lm rfl rfl (zQ (t:=31) rfl rfl (Ls rfl (Ls rfl (Ls rfl (Ls rfl (Ls rfl ?_)))))))
        refine Ls rfl (Ls rfl (Ls rfl (Ls rfl (Ls rfl (Ls rfl (Ls rfl (Ls rfl ?_)))))))
        refine Ls rfl (Ls rfl (Ls rfl (Lq rfl (Qp rfl rfl) (La rfl rfl (Ld (zF rfl (Ts ?_)))))))
        refine TR (La rfl rfl (Ld (T.ret ?_)))
        exact ⟨.inl rfl,_,_,res [_] rfl ⟨rvT rfl,trivial⟩,⟨x,hi,rfl,rfl,rfl⟩,Sa⟩
      refine TS (Lm rfl rfl (Lq rfl (yM rfl rfl) (Lm rfl rfl (yT (t:=27) rfl (decide_eq_false (by omega)) (Lm rfl rfl (Lq rfl (yZ rfl rfl) ?_))))))
      refine Lq rfl (Qp rfl rfl) (Lm rfl rfl ?_)
      by_cases h2:1099511627776<stamp
      · skip
        refine zQ (t:=31) rfl (decide_eq_true (by omega)) (Ls rfl (Ls rfl (Ls rfl (Ls rfl (Ls rfl (Ls rfl (Ls rfl ?_)))))))
        refine Ls rfl (Ls rfl (Ls rfl (Ls rfl (Ls rfl (Ls rfl (Ls rfl (Ls rfl ?_)))))))
        refine Ls rfl (Lq rfl (Qp rfl rfl) (La rfl rfl (Ld (zF rfl (TS (La rfl rfl ?_))))))
        refine Ld (T.ret ?_)
        exact ⟨.inl rfl,_,_,res [_] rfl ⟨rvT rfl,trivial⟩,⟨x,hi,rfl,rfl,rfl⟩,Sa⟩
      obtain ⟨c,hcl2,hcs⟩ : ∃ c,h.cm.getLast? = some c∧stamp≤c.2:=by
        cases hg:h.cm.getLast? with
        | none=>rw [hg] at hb;simp at hb;omega
        | some c=>rw [hg] at hb;simp at hb;exact ⟨c,rfl,by omega⟩
      have hne:0<h.cm.length:=by cases hq:h.cm with | nil=>rw [hq] at hcl2;cases hcl2 | cons a l=>simp
      have hcat:h.cm[h.cm.length-1]? = some c:=by rw [←List.getLast?_eq_getElem?];exact hcl2
      obtain ⟨gc,hgc⟩:=hp hne
      rw [hgc]
      refine yT (t:=31) rfl (decide_eq_false (by omega)) (Lm rfl rfl (Lq rfl (yZ rfl rfl) (Lm rfl rfl (zQ (t:=34) rfl (decide_eq_true (by omega)) (Lm rfl rfl (Lm rfl rfl (Lq rfl (Qn rfl) ?_)))))))
      refine Lq rfl (Q0 (by kernel_rfl) rfl) (Lq rfl (Qf (off:=1) (by kernel_rfl) rfl) (Lq rfl (Ql (by kernel_rfl) rfl rfl) (Lm rfl rfl (Lq rfl (Qt.sub rfl rfl (Ze (by omega) (by omega))) (Lq rfl (Qi (h.cm.length-1) (e:=105) (sz:=2) (by kernel_rfl) rfl rfl (by omega) (by omega)) (Lq rfl (Qf (off:=1) (by kernel_rfl) rfl) (Lq rfl (Ql (v := .int .i64 c.2) (by kernel_rfl) rfl (cm_at hcat)) ?_)))))))
      refine Lq rfl (YF rfl rfl) (Lq rfl (Qp rfl rfl) (Lq rfl (Qp rfl rfl) (La rfl rfl (Ld (zM rfl (by omega) (TS ?_))))))
      refine La rfl rfl (Ld (T.ret ?_))
      exact ⟨.inl rfl,_,_,res [_] rfl ⟨rvT rfl,trivial⟩,⟨x,hi,rfl,rfl,by rw [hgc]⟩,Sa⟩
    · have hb:badStamp h stamp=false:=by simpa using hb
      have hb2:=hb
      unfold badStamp at hb2
      simp only [Bool.or_eq_false_iff,decide_eq_false_iff_not] at hb2
      obtain ⟨⟨s1,s2⟩,s3⟩:=hb2
      have hu:=hi.used
      have hr:=hi.room
      have hlk:h.last<2^62:=by have:=hi.lastK;omega
      have hokE:EnOk (cmE t stamp):=⟨by simp,by have:=hi.r.act1 t (isAct_iff.1 hc);simp;omega,by simp [enPlace],by simp;omega,by simp,by simp,by simp,by simp⟩
      have hsz:enSz (cmE t stamp)=25:=by rw [enSz_eq];simp
      by_cases hf:(h.room:Int)<h.used+25
      · have he:Zl h t stamp=(h,3):=by unfold Zl;rw [if_pos hc,if_neg (by simp [hb]),if_pos hf]
        have hd:cmDisk logs h x.s t stamp=x.s.D:=by unfold cmDisk;rw [he];simp
        rw [he,hd]
        refine Ws 82 Tryz.func36 rfl rfl (nB rfl) (fun F=>?_)
        try simp only [cA,nA]
        refine TS (La rfl rfl (Ld (TS (Lm rfl rfl (Lq rfl (Qn rfl) ?_)))))
        refine Lq rfl (Q0 (by kernel_rfl) rfl) (Lq rfl (Qf (off:=1) (by kernel_rfl) rfl) (Lq rfl (Ql (by kernel_rfl) rfl rfl) (Lq rfl (yI (e:=105) (sz:=2) (by kernel_rfl) rfl) (La rfl rfl (Ld (Ts (yH ?_)))))))
        refine TS (Lm rfl rfl (Lq rfl (Qn rfl) (Lq rfl (Q0 (by kernel_rfl) rfl) (Lq rfl (Q0 (by kernel_rfl) rfl) (Lq rfl (Ql (by kernel_rfl) rfl rfl) (Lm rfl rfl ?_))))))
        refine Lq rfl (zT Hp.okS rfl t rfl 0 rfl) (Lq rfl (yW rfl rfl) (La rfl rfl (Ld (yL rfl ((fun q=>q (ha.2 hc))) (TS (Lm rfl rfl ?_))))))
        refine Lq rfl (yM rfl rfl) (Lm rfl rfl (yT (t:=27) rfl (decide_eq_false (by omega)) (Lm rfl rfl (Lq rfl (yZ rfl rfl) (Lq rfl (Qp rfl rfl) (Lm rfl rfl (yT (t:=31) rfl (decide_eq_false (by omega)) ?_)))))))
        refine Lm rfl rfl (Lq rfl (yZ rfl rfl) (Lm rfl rfl ?_))
        by_cases hne:0<h.cm.length
        · skip
          obtain ⟨c,hcl2⟩ : ∃ c,h.cm.getLast? = some c:=by
            cases hg:h.cm with
            | nil=>rw [hg] at hne;simp at hne
            | cons a l=>exact ⟨_,List.getLast?_eq_some_getLast (by simp)⟩
          have hcat:h.cm[h.cm.length-1]? = some c:=by rw [←List.getLast?_eq_getElem?];exact hcl2
          have hcs : ¬ stamp≤c.2:=by rw [hcl2] at s3;simpa using s3
          obtain ⟨gc,hgc⟩:=hp hne
          rw [hgc]
          refine zQ (t:=34) rfl (decide_eq_true (by omega)) (Lm rfl rfl (Lm rfl rfl (Lq rfl (Qn rfl) (Lq rfl (Q0 (by kernel_rfl) rfl) (Lq rfl (Qf (off:=1) (by kernel_rfl) rfl) (Lq rfl (Ql (by kernel_rfl) rfl rfl) (Lm rfl rfl ?_)))))))
          refine Lq rfl (Qt.sub rfl rfl (Ze (by omega) (by omega))) (Lq rfl (Qi (h.cm.length-1) (e:=105) (sz:=2) (by kernel_rfl) rfl rfl (by omega) (by omega)) (Lq rfl (Qf (off:=1) (by kernel_rfl) rfl) (Lq rfl (Ql (v := .int .i64 c.2) (by kernel_rfl) rfl (cm_at hcat)) (Lq rfl (YF rfl rfl) (Lq rfl (Qp rfl rfl) (Lq rfl (Qp rfl rfl) (La rfl rfl ?_)))))))
          refine Ld (yL rfl (by omega) (Tk (Ts (TS (Lm rfl rfl (Lm rfl rfl ?_))))))
          refine Lm rfl rfl (Lq rfl (z8 [(0,1),(1,1),(2,1),(3,1),(4,1),(5,1)] [.int .i64 0,.int .i64 0,.int .i64 0,.int .i64 0,.int .i64 0,.slice none 0 0] [_,_,_,_,_,_] [(0,_),(1,_),(4,_)] (by kernel_rfl) (by unfold Zf;kernel_rfl) rfl rfl) ?_)
          refine Le rfl (Ec (Hp.writeFull B [] g b logs count n K x.q (some ⟨gc,0,none⟩) h.cm.length x.cc h.last x.s h.es (Zi h.vs) hi.s (cmE t stamp) none 0 hokE (RdV.nil _ 0) (by omega)) Tryz.func72 rfl rfl rfl ?_)
          rintro _ _ ⟨rfl,rfl⟩
          try simp only [cA,nA]
          refine La rfl rfl (Ld (TS (Lm rfl rfl (Lq rfl (yW rfl rfl) (Ld (zF rfl ?_))))))
          refine TS (Lm rfl rfl (La rfl rfl (Ld (T.ret ?_))))
          exact ⟨.inl rfl,_,_,res [_] rfl ⟨rvT rfl,trivial⟩,⟨x,hi,rfl,rfl,by rw [hgc]⟩,Sa⟩
        refine yT (t:=34) rfl (decide_eq_false (by omega)) (Ls rfl (Ls rfl (Ls rfl (Ls rfl (Ls rfl (Ls rfl (Ls rfl ?_)))))))
        refine Ls rfl (Ls rfl (Ls rfl (Ls rfl (Ls rfl (Lq rfl (Qp rfl rfl) (Lq rfl (Qp rfl rfl) (La rfl rfl ?_)))))))
        refine Ld (yQ rfl (Tk (Ts (TS (Lm rfl rfl (Lm rfl rfl ?_))))))
        refine Lm rfl rfl (Lq rfl (z8 [(0,1),(1,1),(2,1),(3,1),(4,1),(5,1)] [.int .i64 0,.int .i64 0,.int .i64 0,.int .i64 0,.int .i64 0,.slice none 0 0] [_,_,_,_,_,_] [(0,_),(1,_),(4,_)] (by kernel_rfl) (by unfold Zf;kernel_rfl) rfl rfl) ?_)
        refine Le rfl (Ec (Hp.writeFull B [] g b logs count n K x.q x.pc h.cm.length x.cc h.last x.s h.es (Zi h.vs) hi.s (cmE t stamp) none 0 hokE (RdV.nil _ 0) (by omega)) Tryz.func72 rfl rfl rfl ?_)
        rintro _ _ ⟨rfl,rfl⟩
        try simp only [cA,nA]
        refine La rfl rfl (Ld (TS (Lm rfl rfl (Lq rfl (yW rfl rfl) (Ld (zF rfl ?_))))))
        refine TS (Lm rfl rfl (La rfl rfl (Ld (T.ret ?_))))
        exact ⟨.inl rfl,_,_,res [_] rfl ⟨rvT rfl,trivial⟩,⟨x,hi,rfl,rfl,rfl⟩,Sa⟩
      · have he:Zl h t stamp=(Zg (Zo h t) (cmE t stamp),0):=by unfold Zl;rw [if_pos hc,if_neg (by simp [hb]),if_neg hf]
        have hd:cmDisk logs h x.s t stamp=Wh (mkW 0 logs ((h.es++[cmE t stamp]).map Zj) x.s.W.dur) x.s.D:=by unfold cmDisk;rw [he];simp
        rw [he,hd]
        obtain ⟨e1,e2,r,hadd,hw2,hi2⟩:=hi.commit (by omega) hc hb (by omega)
        obtain ⟨W2,hW2⟩ : ∃ W2,mkW 0 logs ((h.es++[cmE t stamp]).map Zj) x.s.W.dur=W2:=⟨_,rfl⟩
        rw [hW2] at hadd hw2 hi2
        rw [hW2]
        have hcm:(Zg (Zo h t) (cmE t stamp)).cm=h.cm++[(t,stamp)]:=by simp [Zg,Zo]
        have hcml:(Zg (Zo h t) (cmE t stamp)).cm.length=h.cm.length+1:=by rw [hcm];simp
        have hlst:(Zg (Zo h t) (cmE t stamp)).last=h.last:=rfl
        generalize Zg (Zo h t) (cmE t stamp)=h' at hi2 hcm hcml hlst ⊢
        have hcl3 : ∀ (p:Option Addr) (c:Nat),[hpB g x.q p (h.cm.length+1) c h.last,stA x.q (putL x.st t 2),row (.slice p (h.cm.length+1) c) 105 2 (h.cm.length+1) (h.cm.flatMap stC++[.int .i64 t,.int .i64 stamp]),wlA x.q.gl b W2.flushed,plS b n logs count x.q x.s,Zn b (Wh W2 x.s.D)]=hpC g b logs count n ⟨x.q,p,c,{x.s with W:=W2.flushed,D:=Wh W2 x.s.D},putL x.st t 2⟩ h':=fun p c=>by
          unfold hpC cmR
          dsimp only
          rw [hcml,hlst,hcm,List.flatMap_append]
          rfl
        have hi2x : ∀ (p:Option Addr) (c:Nat),HInv logs count n K (HpX.mk x.q p c {x.s with W:=W2.flushed,D:=Wh W2 x.s.D} (putL x.st t 2)).s (HpX.mk x.q p c {x.s with W:=W2.flushed,D:=Wh W2 x.s.D} (putL x.st t 2)).st h':=fun p c=>hi2
        refine Ws 82 Tryz.func36 rfl rfl (nB rfl) (fun F=>?_)
        try simp only [cA,nA]
        refine TS (La rfl rfl (Ld (TS (Lm rfl rfl (Lq rfl (Qn rfl) ?_)))))
        refine Lq rfl (Q0 (by kernel_rfl) rfl) (Lq rfl (Qf (off:=1) (by kernel_rfl) rfl) (Lq rfl (Ql (by kernel_rfl) rfl rfl) (Lq rfl (yI (e:=105) (sz:=2) (by kernel_rfl) rfl) (La rfl rfl (Ld (Ts (yH ?_)))))))
        refine TS (Lm rfl rfl (Lq rfl (Qn rfl) (Lq rfl (Q0 (by kernel_rfl) rfl) (Lq rfl (Q0 (by kernel_rfl) rfl) (Lq rfl (Ql (by kernel_rfl) rfl rfl) (Lm rfl rfl ?_))))))
        refine Lq rfl (zT Hp.okS rfl t rfl 0 rfl) (Lq rfl (yW rfl rfl) (La rfl rfl (Ld (yL rfl ((fun q=>q (ha.2 hc))) (TS (Lm rfl rfl ?_))))))
        refine Lq rfl (yM rfl rfl) (Lm rfl rfl (yT (t:=27) rfl (decide_eq_false (by omega)) (Lm rfl rfl (Lq rfl (yZ rfl rfl) (Lq rfl (Qp rfl rfl) (Lm rfl rfl (yT (t:=31) rfl (decide_eq_false (by omega)) ?_)))))))
        refine Lm rfl rfl (Lq rfl (yZ rfl rfl) (Lm rfl rfl ?_))
        by_cases hne:0<h.cm.length
        · skip
          obtain ⟨c,hcl2⟩ : ∃ c,h.cm.getLast? = some c:=by
            cases hg:h.cm with
            | nil=>rw [hg] at hne;simp at hne
            | cons a l=>exact ⟨_,List.getLast?_eq_some_getLast (by simp)⟩
          have hcat:h.cm[h.cm.length-1]? = some c:=by rw [←List.getLast?_eq_getElem?];exact hcl2
          have hcs : ¬ stamp≤c.2:=by rw [hcl2] at s3;simpa using s3
          obtain ⟨gc,hgc⟩:=hp hne
          rw [hgc]
          refine zQ (t:=34) rfl (decide_eq_true (by omega)) (Lm rfl rfl (Lm rfl rfl (Lq rfl (Qn rfl) (Lq rfl (Q0 (by kernel_rfl) rfl) (Lq rfl (Qf (off:=1) (by kernel_rfl) rfl) (Lq rfl (Ql (by kernel_rfl) rfl rfl) (Lm rfl rfl ?_)))))))
          refine Lq rfl (Qt.sub rfl rfl (Ze (by omega) (by omega))) (Lq rfl (Qi (h.cm.length-1) (e:=105) (sz:=2) (by kernel_rfl) rfl rfl (by omega) (by omega)) (Lq rfl (Qf (off:=1) (by kernel_rfl) rfl) (Lq rfl (Ql (v := .int .i64 c.2) (by kernel_rfl) rfl (cm_at hcat)) (Lq rfl (YF rfl rfl) (Lq rfl (Qp rfl rfl) (Lq rfl (Qp rfl rfl) (La rfl rfl ?_)))))))
          refine Ld (yL rfl (by omega) ?_)
          rw [←hgc]
          refine Tk (Ts (TS (Lm rfl rfl (Lm rfl rfl (Lm rfl rfl (Lq rfl (z8 [(0,1),(1,1),(2,1),(3,1),(4,1),(5,1)] [.int .i64 0,.int .i64 0,.int .i64 0,.int .i64 0,.int .i64 0,.slice none 0 0] [_,_,_,_,_,_] [(0,_),(1,_),(4,_)] (by kernel_rfl) (by unfold Zf;kernel_rfl) rfl rfl) ?_))))))
          refine Le rfl (Ec (Hp.writeC B g b logs count n K x.q x.pc h.cm.length x.cc h.last x.s h.es (Zi h.vs) hi.s (cmE t stamp) hokE rfl e2 rfl W2 r hadd) Tryz.func72 rfl rfl rfl ?_)
          rintro _ _ ⟨rfl,rfl⟩
          try simp only [cA,nA]
          refine La rfl rfl (Ld (TS (Lm rfl rfl (Lq rfl (yW rfl rfl) (Ld (yQ rfl ?_))))))
          refine Tk (TS (Lm rfl rfl (Lq rfl (Qn rfl) (Lq rfl (Qf (off:=3) (by kernel_rfl) rfl) (Lq rfl (Ql (by kernel_rfl) rfl rfl) ?_)))))
          refine Le rfl (Ec (Wl.flush B x.q.gl b W2 x.s.D hw2.fit hw2.max hw2.st hw2.dur (by have:=hw2.room;omega)) Tryz.func75 rfl rfl rfl ?_)
          rintro _ _ ⟨rfl,rfl⟩
          try simp only [cA,nA]
          refine Ld (TS (Lm rfl rfl (Lq rfl (Qn rfl) (Lq rfl (Q0 (by kernel_rfl) rfl) (Lq rfl (Q0 (by kernel_rfl) rfl) (Lq rfl (Ql (by kernel_rfl) rfl rfl) ?_))))))
          refine Lm rfl rfl ?_
          refine L0 rfl (Y0 Hp.okS rfl t rfl 2 rfl ?_)
          refine Ld (TS (Lm rfl rfl (Lm rfl rfl (Lq rfl (Qn rfl) (Lq rfl (Q0 (by kernel_rfl) rfl) (Lq rfl (Qf (off:=1) (by kernel_rfl) rfl) ?_))))))
          refine Lq rfl (Ql (by kernel_rfl) rfl rfl) (Lm rfl rfl (Lm rfl rfl (Lq rfl (z8 [(0,1),(1,1)] [.int .i64 0,.int .i64 0] [_,_] [(0,_),(1,_)] (by kernel_rfl) (by unfold Zf;kernel_rfl) rfl rfl) ?_)))
          refine Le rfl (zK [_,_] (e:=105) (sz:=2) (by kernel_rfl) ⟨.agg #[.int .i64 0,.int .i64 0],by kernel_rfl,rfl⟩ rfl rfl rfl (by omega) (by omega) ?_)
          intro g77
          refine Le rfl (Ea Hp.elemC rfl rfl (SrcOf.blk (by kernel_rfl) rfl (by simp [Value.oneCell'])) (by unfold maxLen;omega) (by omega) ?_)
          rintro p4 c4 hp4
          try simp only [cA,nA]
          refine Lq rfl (Qn rfl) (Lq rfl (Q0 (by kernel_rfl) rfl) (Lq rfl (Qf (off:=1) (by kernel_rfl) rfl) ?_))
          refine L0 rfl (E1 (by kernel_rfl) rfl rfl rfl (by first | (simp;done) | (simp;omega)) ?_)
          try simp only [List.set_cons_zero,List.set_cons_succ]
          refine Ld (TS (La rfl rfl (Ld (T.ret ?_))))
          exact ⟨.inl rfl,_,_,res [_] rfl ⟨rvT rfl,trivial⟩,⟨_,hi2x p4 c4,rfl,rfl,rfl⟩,(Sub.eqL (hcl3 p4 c4))⟩
        refine yT (t:=34) rfl (decide_eq_false (by omega)) (Ls rfl (Ls rfl (Ls rfl (Ls rfl (Ls rfl (Ls rfl (Ls rfl ?_)))))))
        refine Ls rfl (Ls rfl (Ls rfl (Ls rfl (Ls rfl (Lq rfl (Qp rfl rfl) (Lq rfl (Qp rfl rfl) (La rfl rfl ?_)))))))
        refine Ld (yQ rfl (Tk (Ts (TS (Lm rfl rfl (Lm rfl rfl ?_))))))
        refine Lm rfl rfl (Lq rfl (z8 [(0,1),(1,1),(2,1),(3,1),(4,1),(5,1)] [.int .i64 0,.int .i64 0,.int .i64 0,.int .i64 0,.int .i64 0,.slice none 0 0] [_,_,_,_,_,_] [(0,_),(1,_),(4,_)] (by kernel_rfl) (by unfold Zf;kernel_rfl) rfl rfl) ?_)
        refine Le rfl (Ec (Hp.writeC B g b logs count n K x.q x.pc h.cm.length x.cc h.last x.s h.es (Zi h.vs) hi.s (cmE t stamp) hokE rfl e2 rfl W2 r hadd) Tryz.func72 rfl rfl rfl ?_)
        rintro _ _ ⟨rfl,rfl⟩
        try simp only [cA,nA]
        refine La rfl rfl (Ld (TS (Lm rfl rfl (Lq rfl (yW rfl rfl) (Ld (yQ rfl ?_))))))
        refine Tk (TS (Lm rfl rfl (Lq rfl (Qn rfl) (Lq rfl (Qf (off:=3) (by kernel_rfl) rfl) (Lq rfl (Ql (by kernel_rfl) rfl rfl) ?_)))))
        refine Le rfl (Ec (Wl.flush B x.q.gl b W2 x.s.D hw2.fit hw2.max hw2.st hw2.dur (by have:=hw2.room;omega)) Tryz.func75 rfl rfl rfl ?_)
        rintro _ _ ⟨rfl,rfl⟩
        try simp only [cA,nA]
        refine Ld (TS (Lm rfl rfl (Lq rfl (Qn rfl) (Lq rfl (Q0 (by kernel_rfl) rfl) (Lq rfl (Q0 (by kernel_rfl) rfl) (Lq rfl (Ql (by kernel_rfl) rfl rfl) ?_))))))
        refine Lm rfl rfl ?_
        refine L0 rfl (Y0 Hp.okS rfl t rfl 2 rfl ?_)
        refine Ld (TS (Lm rfl rfl (Lm rfl rfl (Lq rfl (Qn rfl) (Lq rfl (Q0 (by kernel_rfl) rfl) (Lq rfl (Qf (off:=1) (by kernel_rfl) rfl) ?_))))))
        refine Lq rfl (Ql (by kernel_rfl) rfl rfl) (Lm rfl rfl (Lm rfl rfl (Lq rfl (z8 [(0,1),(1,1)] [.int .i64 0,.int .i64 0] [_,_] [(0,_),(1,_)] (by kernel_rfl) (by unfold Zf;kernel_rfl) rfl rfl) ?_)))
        refine Le rfl (zK [_,_] (e:=105) (sz:=2) (by kernel_rfl) ⟨.agg #[.int .i64 0,.int .i64 0],by kernel_rfl,rfl⟩ rfl rfl rfl (by omega) (by omega) ?_)
        intro g77
        refine Le rfl (Ea Hp.elemC rfl rfl (SrcOf.blk (by kernel_rfl) rfl (by simp [Value.oneCell'])) (by unfold maxLen;omega) (by omega) ?_)
        rintro p4 c4 hp4
        try simp only [cA,nA]
        refine Lq rfl (Qn rfl) (Lq rfl (Q0 (by kernel_rfl) rfl) (Lq rfl (Qf (off:=1) (by kernel_rfl) rfl) ?_))
        refine L0 rfl (E1 (by kernel_rfl) rfl rfl rfl (by first | (simp;done) | (simp;omega)) ?_)
        try simp only [List.set_cons_zero,List.set_cons_succ]
        refine Ld (TS (La rfl rfl (Ld (T.ret ?_))))
        exact ⟨.inl rfl,_,_,res [_] rfl ⟨rvT rfl,trivial⟩,⟨_,hi2x p4 c4,rfl,rfl,rfl⟩,(Sub.eqL (hcl3 p4 c4))⟩
  · have he:Zl h t stamp=(h,70):=by unfold Zl;rw [if_neg hc]
    have hd:cmDisk logs h x.s t stamp=x.s.D:=by unfold cmDisk;rw [he];simp
    rw [he,hd]
    refine Ws 82 Tryz.func36 rfl rfl (nB rfl) (fun F=>?_)
    try simp only [cA,nA]
    refine TS (La rfl rfl (Ld (TS (Lm rfl rfl (Lq rfl (Qn rfl) ?_)))))
    refine Lq rfl (Q0 (by kernel_rfl) rfl) (Lq rfl (Qf (off:=1) (by kernel_rfl) rfl) (Lq rfl (Ql (by kernel_rfl) rfl rfl) (Lq rfl (yI (e:=105) (sz:=2) (by kernel_rfl) rfl) (La rfl rfl (Ld (Ts (yH ?_)))))))
    refine TS (Lm rfl rfl (Lq rfl (Qn rfl) (Lq rfl (Q0 (by kernel_rfl) rfl) (Lq rfl (Q0 (by kernel_rfl) rfl) (Lq rfl (Ql (by kernel_rfl) rfl rfl) (Lm rfl rfl ?_))))))
    refine Lq rfl (zT Hp.okS rfl t rfl 0 rfl) (Lq rfl (yW rfl rfl) (La rfl rfl (Ld (zM rfl ((fun q=>hc (ha.1 q))) (TS (La rfl rfl ?_))))))
    refine Ld (T.ret ?_)
    exact ⟨.inl rfl,_,_,res [_] rfl ⟨rvT rfl,trivial⟩,⟨x,hi,rfl,rfl,rfl⟩,Sa⟩
theorem Hp.commit (B:Wn) (g b logs count n K:Nat) (h:HR) (hK:K<2^30) (t stamp:Int) (hcl:h.cm.length<2^32):Fn Tryz.prog B 36 #[pV g,.int .i64 t,.int .i64 stamp] [hpA g b logs count n K h] (fun u l=>u = .int .i64 (Zl h t stamp).2∧l=[hpA g b logs count n K (Zl h t stamp).1]):=by
 refine Fn.openHp fun x hi hp=>?_
 rw [List.append_nil]
 refine (Hp.commitX B g b logs count n K h hK t stamp x hi hp hcl).sub ?_
 rintro u l ⟨x',hi',_,rfl,rfl⟩
 exact ⟨_,Wb (hpC g b logs count n x' (Zl h t stamp).1) x' _ hi' rfl (r:=[]),rfl,rfl⟩
open Go.RowKit
theorem HInv.write {logs count n K K':Nat} {s s':Pl} {st:List (Int×Int)} {h:HR} (i:HInv logs count n K s st h) {e:En} (ok:OkStep h e) (hk:e.kind≠3) (hl:e.txn≤h.last) (hs:SInv logs count n K' s' (h.es++[e]) (Zi (Zg h e).vs)) (hKK:K≤K'):HInv logs count n K' s' st (Zg h e) :=
 ⟨hs,i.r.write ok hl (fun k=>absurd k hk),i.st.write hk,i.pages,i.room,by have:=i.lastK;show h.last≤_;omega⟩
theorem rc_add {h:HR} {t:Int} {d:List UInt8} {q:Nat}:rcSet (Zi h.vs) true q (Zi h.vs q++[newB t d])=Zi (Zg h (addE h t d q)).vs:=by
 funext x
 rw [recs_add (h:=h) (e:=addE h t d q) rfl x]
 unfold rcSet
 simp only [if_true]
 by_cases e:x=q
 · subst e;rw [if_pos rfl,if_pos (by simp)];rfl
 · rw [if_neg e,if_neg (by simpa using e)]
abbrev ridB (g:Nat) (a b:Int):Wp:=blk g [.int .i64 a,.int .i64 b] 45
theorem Hp.add1 (B:Wn) (A:Wp) (gpg g5 g9 g8:Nat) (recs:List (List UInt8)) (m:Int) (a:Option Addr) (mm c:Nat) (k a0 a1:Int) (hu:ZO recs≤243) (hmm:mm<2^62) :
    Fn Tryz.prog B 73 #[pV gpg,pV g5,pV g9,pV g8] (pgA gpg recs m::A::[blk g5 [.slice a mm c] 108,blk g9 [.int .i64 k] 3,ridB g8 a0 a1])
      (fun v l=>v = .bool false∧l=pgA gpg recs m::A::[blk g5 [.slice a mm c] 108,blk g9 [.int .i64 k] 3,if mm+16≤roomR recs then ridB g8 k recs.length else ridB g8 a0 a1]):=by
  by_cases hr:mm+16≤roomR recs
  · rw [if_pos hr]
    refine Fn.enter4 16 Tryz.func73 rfl rfl (nB rfl) (fun F=>?_)
    try simp only [cA,nA]
    refine TS (La rfl rfl (Ld (Ts (Ts (T.draw 6 ([blk g5 [.slice a mm c] 108]) (by kernel_rfl) (nB rfl) (by kernel_rfl) (Rq 0 rfl rfl (by kernel_rfl) Sa (Qm rfl) ?_))))))
    refine Rq 2 rfl rfl (by kernel_rfl) Sa (Ql (by kernel_rfl) rfl rfl) (Rq 3 rfl rfl (by kernel_rfl) Sa (yI (e:=5) (sz:=1) (by kernel_rfl) rfl) (Rq 4 rfl rfl (by kernel_rfl) Sa (Qd rfl rfl (Ze (by omega) (by omega))) (yK 1 (by kernel_rfl) ?_)))
    refine z6 rfl rfl (Ec (Pg.room B gpg recs m hu) Tryz.func74 rfl rfl rfl ?_)
    rintro _ _ ⟨rfl,rfl⟩
    try simp only [cA,nA]
    refine ⟨Sa,?_⟩
    refine Rq 5 rfl rfl (by kernel_rfl) Sa (zX rfl rfl) (Rd0 (by rfl) ?_)
    simp only [dS,dZ,dN]
    refine Ld (zM rfl (by omega) (T.draw 4 ([blk g9 [.int .i64 k] 3]) (by kernel_rfl) (nB rfl) (by kernel_rfl) (Rq 0 rfl rfl (by kernel_rfl) Sa (Ql (by kernel_rfl) rfl rfl) (Rq 1 rfl rfl (by kernel_rfl) Sa (Qm rfl) (yK 2 (by kernel_rfl) ?_)))))
    refine z6 rfl rfl (Ec (Pg.count B gpg recs m) Tryz.func60 rfl rfl rfl ?_)
    rintro _ _ ⟨rfl,rfl⟩
    try simp only [cA,nA]
    refine ⟨Sa,?_⟩
    refine Rq 3 rfl rfl (by kernel_rfl) Sa (z8 [(0,1),(1,1)] [.int .i64 0,.int .i64 0] [_,_] [(0,_),(1,_)] (by kernel_rfl) (by unfold Zf;kernel_rfl) rfl rfl) (Rd0 (by rfl) ?_)
    simp only [dS,dZ,dN]
    refine L0 rfl (Es [_,_] (by kernel_rfl) rfl rfl rfl rfl (by simp) ?_)
    try simp only [splice,lC,lN,dS,cA,tS,tZ,dZ,nA,aN]
    refine Ld (TS (La rfl rfl (Ld (T.ret ?_))))
    exact ⟨.inl rfl,_,_,res [_] rfl ⟨rvT rfl,trivial⟩,⟨rfl,rfl⟩,Sa⟩
  · rw [if_neg hr]
    refine Fn.enter4 16 Tryz.func73 rfl rfl (nB rfl) (fun F=>?_)
    try simp only [cA,nA]
    refine TS (La rfl rfl (Ld (Ts (Ts (T.draw 6 ([blk g5 [.slice a mm c] 108]) (by kernel_rfl) (nB rfl) (by kernel_rfl) (Rq 0 rfl rfl (by kernel_rfl) Sa (Qm rfl) ?_))))))
    refine Rq 2 rfl rfl (by kernel_rfl) Sa (Ql (by kernel_rfl) rfl rfl) (Rq 3 rfl rfl (by kernel_rfl) Sa (yI (e:=5) (sz:=1) (by kernel_rfl) rfl) (Rq 4 rfl rfl (by kernel_rfl) Sa (Qd rfl rfl (Ze (by omega) (by omega))) (yK 1 (by kernel_rfl) ?_)))
    refine z6 rfl rfl (Ec (Pg.room B gpg recs m hu) Tryz.func74 rfl rfl rfl ?_)
    rintro _ _ ⟨rfl,rfl⟩
    try simp only [cA,nA]
    refine ⟨Sa,?_⟩
    refine Rq 5 rfl rfl (by kernel_rfl) Sa (zX rfl rfl) (Rd0 (by rfl) ?_)
    simp only [dS,dZ,dN]
    refine Ld (yL rfl (by omega) (Tk (TS (La rfl rfl (Ld (T.ret ?_))))))
    exact ⟨.inl rfl,_,_,res [_] rfl ⟨rvT rfl,trivial⟩,⟨rfl,rfl⟩,Sa⟩
theorem roomR_iff (h:HR) (q n:Nat) (hn:n≤184):n+16≤roomR (Zi h.vs q)↔Wi h.vs q+17+n≤256:=by
 unfold roomR Wi
 rw [used_recs]
 omega
theorem addE_ok {h:HR} (r:RInv h) (hp:h.pages≤4096) (hl:h.last<2^62) {t:Int} {d:List UInt8} {q:Nat} (ht:Zp h t=true) (hd:d.length≤184) (hq:q<h.pages):EnOk (addE h t d q):=by
 have h1:=r.act1 t (isAct_iff.1 ht)
 have h2:=pages_len r.ok q
 exact ⟨by simp,by simp;omega,by simp only [enPlace];omega,by simp,by simp,by simp,by simp,by simp;omega⟩
def Seek (h:HR) (n k:Nat) (a0 a1:Int):Prop:=(a0 = -1∧a1=0 ∧ ∀ j,j<k → ¬ Wi h.vs j+17+n≤256) ∨ ∃ q:Nat,k=q+1∧a0=q∧a1=((Zh h.vs q).length:Nat)∧roomyP h n=some q
theorem Hp.add (B:Wn) (S:List Wp) (g b logs count n K:Nat) (h:HR) (hK:K+count+1<2^30) (t:Int) (a:Option Addr) (c:Nat) (d:List UInt8) (hv:RdV B S (.slice a d.length c) (Zb d)) (hdl:d.length<2^40) :
    Fn Tryz.prog B 35 #[pV g,.int .i64 t,.slice a d.length c] (hpA g b logs count n K h::S) (fun u l=>u = .tuple #[.agg #[.int .i64 (Wm h t d).2.1,.int .i64 (Wm h t d).2.2.1],.int .i64 (Wm h t d).2.2.2]∧l=hpA g b logs count n (K+count+1) (Wm h t d).1::S):=by
  refine Fn.openHp fun x hi hp=>?_
  simp only [hpC,List.cons_append,List.nil_append]
  have ha:=hi.st.act t
  have hi1:HInv logs count n (K+count+1) x.s x.st h:=hi.mono (by omega)
  by_cases hc:Zp h t=true
  · by_cases hd:184<d.length
    · have he:Wm h t d=(h,0,0,2):=by unfold Wm;rw [if_pos hc,if_pos hd]
      rw [he]
      refine Ws 66 Tryz.func35 rfl rfl (nB rfl) (fun F=>?_)
      try simp only [cA,nA]
      refine TS ?_
      refine Le rfl (zL [_] rfl rfl ?_)
      intro g5
      refine Le rfl (El [.int .i64 0,.int .i64 0] (by unfold Zf;kernel_rfl) ?_)
      intro g6
      refine La rfl rfl (Ld (Ts (yH (TS (Lm rfl rfl (Lq rfl (Qn rfl) ?_))))))
      refine Lq rfl (Q0 (by kernel_rfl) rfl) (Lq rfl (Q0 (by kernel_rfl) rfl) (Lq rfl (Ql (by kernel_rfl) rfl rfl) (Lm rfl rfl (Lq rfl (zT Hp.okS rfl t rfl 0 rfl) (Lq rfl (yW rfl rfl) (La rfl rfl (Ld ?_)))))))
      refine yL rfl ((fun q=>q (ha.2 hc))) (TS (Lq rfl (Ql (by kernel_rfl) rfl rfl) (Lq rfl (yI (e:=5) (sz:=1) (by kernel_rfl) rfl) (Lq rfl (yZ rfl rfl) (La rfl rfl (Ld ?_))))))
      refine zM rfl (by omega) (TS (Lq rfl (z8 [(0,1),(1,1)] [.int .i64 0,.int .i64 0] [_,_] [] (by kernel_rfl) (by unfold Zf;kernel_rfl) rfl rfl) ?_))
      refine L0 rfl (Es [_,_] (by kernel_rfl) rfl rfl rfl rfl (by simp) ?_)
      try simp only [splice,lC,lN,dS,cA,tS,tZ,dZ,nA,aN]
      refine La rfl rfl (Ld (T.ret ?_))
      exact ⟨.inl rfl,_,_,res [_,_] rfl ⟨rvA [_,_] (by kernel_rfl) rfl ⟨rfl,rfl,trivial⟩,rvT rfl,trivial⟩,⟨rfl,rfl⟩,Wb [hpB g x.q x.pc h.cm.length x.cc h.last,stA x.q x.st,cmR x.pc h.cm.length x.cc h.cm,wlS b x.q x.s,plS b n logs count x.q x.s,Zn b x.s.D] x h hi1 rfl⟩
    · have hct:=hi.cnt
      have hpg:=hi.pages
      have hu:=hi.used
      have hr:=hi.room
      have hlk:h.last<2^62:=by have:=hi.lastK;omega
      refine Ws 66 Tryz.func35 rfl rfl (nB rfl) (fun F=>?_)
      try simp only [cA,nA]
      refine TS ?_
      refine Le rfl (zL [_] rfl rfl ?_)
      intro g5
      refine Le rfl (El [.int .i64 0,.int .i64 0] (by unfold Zf;kernel_rfl) ?_)
      intro g6
      refine La rfl rfl (Ld (Ts (yH (TS (Lm rfl rfl (Lq rfl (Qn rfl) ?_))))))
      refine Lq rfl (Q0 (by kernel_rfl) rfl) (Lq rfl (Q0 (by kernel_rfl) rfl) (Lq rfl (Ql (by kernel_rfl) rfl rfl) (Lm rfl rfl (Lq rfl (zT Hp.okS rfl t rfl 0 rfl) (Lq rfl (yW rfl rfl) (La rfl rfl (Ld ?_)))))))
      refine yL rfl ((fun q=>q (ha.2 hc))) (TS (Lq rfl (Ql (by kernel_rfl) rfl rfl) (Lq rfl (yI (e:=5) (sz:=1) (by kernel_rfl) rfl) (Lq rfl (yZ rfl rfl) (La rfl rfl (Ld ?_))))))
      refine yL rfl (by omega) (Tk (TS (Lq rfl (z8 [(0,1),(1,1)] [.int .i64 0,.int .i64 0] [_,_] [(0,_)] (by kernel_rfl) (by unfold Zf;kernel_rfl) rfl rfl) ?_)))
      refine Le rfl (El [.int .i64 0,.int .i64 0] (by unfold Zf;kernel_rfl) ?_)
      intro g8
      refine L0 rfl (Es [_,_] (by kernel_rfl) rfl rfl rfl rfl (by simp) ?_)
      try simp only [splice,lC,lN,dS,cA,tS,tZ,dZ,nA,aN]
      refine Ld ?_
      refine T.cut (fun fz lz => ∃ (f0:Fr) (s2:Pl) (a0 a1:Int),(SInv logs count n (K+count) s2 h.es (Zi h.vs)∧((a0 = -1∧a1=0∧roomyP h d.length=none) ∨ ∃ q:Nat,a0=q∧a1=((Zh h.vs q).length:Nat)∧roomyP h d.length=some q))∧fz=(upd (upd (upd (upd (upd (upd f0 0 (pV g)) 1 (.int .i64 t)) 5 (pV g5)) 6 (pV g6)) 7 (.int .i64 0)) 8 (pV g8))∧lz=ridB g8 a0 a1::blk g5 [.slice a d.length c] 108::ridB g6 0 0::hpB g x.q x.pc h.cm.length x.cc h.last::stA x.q x.st::cmR x.pc h.cm.length x.cc h.cm::wlS b x.q s2::plS b n logs count x.q s2::Zn b s2.D::(S++F)) ?_ ?_
      · skip
        refine TS ?_
        refine Le rfl (El [.int .i64 0] (by unfold Zf;kernel_rfl) ?_)
        intro g9
        refine L0 rfl (E1 (by kernel_rfl) rfl rfl rfl (by first | (simp;done) | (simp;omega)) ?_)
        try simp only [List.set_cons_zero,List.set_cons_succ]
        refine Ld (yH ?_)
        refine zG (fun mz fz lz => ∃ (f0:Fr) (k gk:Nat) (s2:Pl) (a0 a1:Int),(k≤count∧SInv logs count n (K+k) s2 h.es (Zi h.vs)∧Seek h d.length k a0 a1)∧mz=count-k∧fz=(upd (upd (upd (upd (upd (upd (upd f0 0 (pV g)) 1 (.int .i64 t)) 5 (pV g5)) 6 (pV g6)) 7 (.int .i64 0)) 8 (pV g8)) 9 (pV gk))∧lz=blk gk [.int .i64 k] 3::ridB g8 a0 a1::blk g5 [.slice a d.length c] 108::ridB g6 0 0::hpB g x.q x.pc h.cm.length x.cc h.last::stA x.q x.st::cmR x.pc h.cm.length x.cc h.cm::wlS b x.q s2::plS b n logs count x.q s2::Zn b s2.D::(S++F)) ?_ ?_
        · refine ⟨_,_,⟨_,0,_,x.s,-1,0,⟨Nat.zero_le _,hi.s,.inl ⟨rfl,rfl,fun j hj=>by omega⟩⟩,rfl,(Za rfl (Za rfl (Za rfl (Za rfl (Za rfl (Za rfl (Za rfl rfl))))))),rfl⟩,Sa⟩
        rintro mz fz lz ⟨f0,k,gk,s2,a0,a1,⟨hk,hs2,hseek⟩,hmz,rfl,rfl⟩
        subst mz
        refine Ts (Ts (T.draw 14 ([hpB g x.q x.pc h.cm.length x.cc h.last,blk gk [.int .i64 k] 3,ridB g8 a0 a1]) (by kernel_rfl) (nB rfl) (by kernel_rfl) (Rq 0 rfl rfl (by kernel_rfl) Sa (Ql (by kernel_rfl) rfl rfl) (Rq 1 rfl rfl (by kernel_rfl) Sa (Qm rfl) (Rq 2 rfl rfl (by kernel_rfl) Sa (Qn rfl) (Rq 3 rfl rfl (by kernel_rfl) Sa (Qf (off:=4) (by kernel_rfl) rfl) (Rq 4 rfl rfl (by kernel_rfl) Sa (Ql (by kernel_rfl) rfl rfl) ?_)))))))
        refine Rq 5 rfl rfl (by kernel_rfl) Sa (Qn rfl) (Rq 6 rfl rfl (by kernel_rfl) Sa (Q0 (by kernel_rfl) rfl) (yK 7 (by kernel_rfl) ?_))
        refine z6 rfl rfl (Ec (Bp.pages B x.q.gp b n logs count s2.hand x.q.gl s2.A) Tryz.func49 rfl rfl rfl ?_)
        rintro _ _ ⟨rfl,rfl⟩
        try simp only [cA,nA]
        refine ⟨Sa,?_⟩
        refine Rq 8 rfl rfl (by kernel_rfl) Sa (yM rfl rfl) (Rq 9 rfl rfl (by kernel_rfl) Sa (Qm rfl) ?_)
        by_cases ha0:a0 = -1
        · skip
          obtain ⟨ha1,hno⟩:a1=0 ∧ ∀ j,j<k → ¬ Wi h.vs j+17+d.length≤256:=by
            rcases hseek with ⟨_,h1,h2⟩ | ⟨q,_,h1,_⟩
            · exact ⟨h1,h2⟩
            · omega
          subst ha0
          subst ha1
          refine YE (t:=36) rfl (fun hkc=>?_) (fun hkc=>?_)
          · skip
            try replace hkc:=of_decide_eq_true hkc
            refine Rq 10 rfl rfl (by kernel_rfl) Sa (Q0 (by kernel_rfl) rfl) (Rq 11 rfl rfl (by kernel_rfl) Sa (Ql (by kernel_rfl) rfl rfl) (Rq 12 rfl rfl (by kernel_rfl) Sa (yM rfl rfl) (Rq 13 rfl rfl (by kernel_rfl) Sa (Qp rfl rfl) (Rd0 (by rfl) ?_))))
            simp only [dS,dZ,dN]
            refine Ld (zF rfl (Tk (Ts (yH (TR (Lm rfl rfl (Lq rfl (Ql (by kernel_rfl) rfl rfl) ?_)))))))
            refine Lq rfl (Y4 [_,_,_] rfl) ?_
            refine Le rfl (Ec (Hp.with B g b n logs count (K+k) x.q x.pc h.cm.length x.cc h.last s2 h.es (Zi h.vs) hs2 (by omega) k (by omega) k rfl 0 0 rfl (by omega) 73 Tryz.f73 [pV g5,pV gk,pV g8] [blk g5 [.slice a d.length c] 108,blk gk [.int .i64 k] 3,ridB g8 (-1) 0] (fun bb r' X'=>bb=false∧X'=[blk g5 [.slice a d.length c] 108,blk gk [.int .i64 k] 3,if d.length+16≤roomR (Zi h.vs k) then ridB g8 k (Zi h.vs k).length else ridB g8 (-1) 0]) Tryz.func73 rfl rfl (fun gpg m=>(Hp.add1 B (hpB g x.q x.pc h.cm.length x.cc h.last) gpg g5 gk g8 (Zi h.vs k) m a d.length c k (-1) 0 (recs_ok hi.r.ok k).1.used (by omega)).mono (fun v l ⟨h1,h2⟩=>⟨false,_,_,⟨rfl,rfl⟩,h1,h2⟩)) (fun r' X' hh=>by obtain ⟨h1,_⟩:=hh;cases h1)) Tryz.func58 rfl rfl rfl ?_)
            rintro _ _ ⟨bb,r',X',s',⟨rfl,rfl⟩,hS,rfl,rfl⟩
            try simp only [cA,nA]
            have hS2:SInv logs count n (K+k+1) s' h.es (Zi h.vs):=by simpa [rcSet] using hS
            have hroom:=roomR_iff h k d.length (by omega)
            refine Ld (Ts (TS (Lq rfl (Ql (by kernel_rfl) rfl rfl) (Ld (TR ?_)))))
            refine Le rfl (El [.int .i64 0] (by unfold Zf;kernel_rfl) ?_)
            intro g9
            refine L0 rfl (E1 (by kernel_rfl) rfl rfl rfl (by first | (simp;done) | (simp;omega)) ?_)
            try simp only [List.set_cons_zero,List.set_cons_succ]
            refine Ld (TR (Lq rfl (Ql (by kernel_rfl) rfl rfl) (Lq rfl (Qd (r:=((k+1:Nat):Int)) rfl rfl (by rw [Ze (by omega) (by omega)];omega)) ?_)))
            refine L0 rfl (E1 (by kernel_rfl) rfl rfl rfl (by first | (simp;done) | (simp;omega)) ?_)
            try simp only [List.set_cons_zero,List.set_cons_succ]
            refine Ld ?_
            by_cases hfit:Wi h.vs k+17+d.length≤256
            · skip
              rw [if_pos (hroom.2 hfit)]
              refine ⟨_,?_,_,⟨_,k+1,_,s',k,(Zi h.vs k).length,⟨by omega,hS2,.inr ⟨k,rfl,rfl,by simp [Zi],roomy_of (by omega) hfit hno⟩⟩,rfl,(Za rfl (Za rfl (Za rfl (Za rfl (Za rfl (Za rfl (Za rfl rfl))))))),rfl⟩,Sa⟩
              omega
            rw [if_neg (fun q=>hfit (hroom.1 q))]
            refine ⟨_,?_,_,⟨_,k+1,_,s',-1,0,⟨by omega,hS2,.inl ⟨rfl,rfl,fun j hj=>by rcases Nat.lt_or_eq_of_le (Nat.lt_succ_iff.1 hj) with h1 | h1;exact hno j h1;rw [h1];exact hfit⟩⟩,rfl,(Za rfl (Za rfl (Za rfl (Za rfl (Za rfl (Za rfl (Za rfl rfl))))))),rfl⟩,Sa⟩
            omega
          try replace hkc:=of_decide_eq_false hkc
          refine yY 10 rfl rfl (by kernel_rfl) Sa (yY 11 rfl rfl (by kernel_rfl) Sa (yY 12 rfl rfl (by kernel_rfl) Sa (Rq 13 rfl rfl (by kernel_rfl) Sa (Qp rfl rfl) (Rd0 (by rfl) ?_))))
          simp only [dS,dZ,dN]
          refine Ld (yQ rfl (zB ?_))
          exact ⟨_,⟨_,s2,-1,0,⟨hs2.mono (by omega),.inl ⟨rfl,rfl,roomy_no (fun j hj=>hno j (by omega))⟩⟩,(Za rfl (Za rfl (Za rfl (Za rfl (Za rfl (Za rfl rfl)))))),rfl⟩,Sa⟩
        obtain ⟨q,hkq,ha1,ha2,hq⟩:=hseek.resolve_left (fun hh=>ha0 hh.1)
        refine YE (t:=36) rfl (fun hkc=>?_) (fun hkc=>?_)
        · skip
          try replace hkc:=of_decide_eq_true hkc
          refine Rq 10 rfl rfl (by kernel_rfl) Sa (Q0 (by kernel_rfl) rfl) (Rq 11 rfl rfl (by kernel_rfl) Sa (Ql (by kernel_rfl) rfl rfl) (Rq 12 rfl rfl (by kernel_rfl) Sa (yM rfl rfl) (Rq 13 rfl rfl (by kernel_rfl) Sa (Qp rfl rfl) (Rd0 (by rfl) ?_))))
          simp only [dS,dZ,dN]
          refine Ld (yL rfl (by omega) (zB ?_))
          exact ⟨_,⟨_,s2,a0,a1,⟨hs2.mono (by omega),.inr ⟨q,ha1,ha2,hq⟩⟩,(Za rfl (Za rfl (Za rfl (Za rfl (Za rfl (Za rfl rfl)))))),rfl⟩,Sa⟩
        try replace hkc:=of_decide_eq_false hkc
        refine yY 10 rfl rfl (by kernel_rfl) Sa (yY 11 rfl rfl (by kernel_rfl) Sa (yY 12 rfl rfl (by kernel_rfl) Sa (Rq 13 rfl rfl (by kernel_rfl) Sa (Qp rfl rfl) (Rd0 (by rfl) ?_))))
        simp only [dS,dZ,dN]
        refine Ld (yQ rfl (zB ?_))
        exact ⟨_,⟨_,s2,a0,a1,⟨hs2.mono (by omega),.inr ⟨q,ha1,ha2,hq⟩⟩,(Za rfl (Za rfl (Za rfl (Za rfl (Za rfl (Za rfl rfl)))))),rfl⟩,Sa⟩
      rintro fz lz ⟨f0,s2,a0,a1,⟨hs2,hseek⟩,rfl,rfl⟩
      have hi2:HInv logs count n (K+count+1) s2 x.st h:=⟨hs2.mono (by omega),hi.r,hi.st,hi.pages,hi.room,by have:=hi.lastK;omega⟩
      by_cases ha0:a0 = -1
      · skip
        have hnone:roomyP h d.length=none:=by
          rcases hseek with ⟨_,_,h2⟩ | ⟨q,h1,_⟩
          · exact h2
          · omega
        refine Ts (TS (Lq rfl (Q0 (by kernel_rfl) rfl) (Lq rfl (Ql (by kernel_rfl) rfl rfl) (Lq rfl (yM rfl rfl) (Ld (zM rfl (by omega) ?_))))))
        have he:Wm h t d=(h,0,0,3):=by unfold Wm;rw [if_pos hc,if_neg hd,hnone]
        rw [he]
        refine TS (Lq rfl (z8 [(0,1),(1,1)] [.int .i64 0,.int .i64 0] [_,_] [] (by kernel_rfl) (by unfold Zf;kernel_rfl) rfl rfl) ?_)
        refine L0 rfl (Es [_,_] (by kernel_rfl) rfl rfl rfl rfl (by simp) ?_)
        try simp only [splice,lC,lN,dS,cA,tS,tZ,dZ,nA,aN]
        refine La rfl rfl (Ld (T.ret ?_))
        exact ⟨.inl rfl,_,_,res [_,_] rfl ⟨rvA [_,_] (by kernel_rfl) rfl ⟨rfl,rfl,trivial⟩,rvT rfl,trivial⟩,⟨rfl,rfl⟩,Wb [hpB g x.q x.pc h.cm.length x.cc h.last,stA x.q x.st,cmR x.pc h.cm.length x.cc h.cm,wlS b x.q s2,plS b n logs count x.q s2,Zn b s2.D] {x with s:=s2} h hi2 rfl⟩
      obtain ⟨q,ha1,ha2,hq⟩:=hseek.resolve_left (fun hh=>ha0 hh.1)
      subst ha1
      subst ha2
      obtain ⟨hq1,hq2,hq3⟩:=roomy_some hq
      have hokE:=addE_ok hi.r (by omega) hlk hc (d:=d) (q:=q) (by omega) hq1
      have hsz:enSz (addE h t d q)=20+d.length:=by rw [enSz_eq];simp
      have hu2:=hi2.used
      refine Ts (TS (Lq rfl (Q0 (by kernel_rfl) rfl) (Lq rfl (Ql (by kernel_rfl) rfl rfl) (Lq rfl (yM rfl rfl) (Ld (yQ rfl ?_))))))
      by_cases hf:(h.room:Int)<h.used+20+d.length
      · skip
        have he:Wm h t d=(h,0,0,3):=by unfold Wm;rw [if_pos hc,if_neg hd,hq];dsimp only;rw [if_pos hf]
        rw [he]
        refine Tk (Ts (TS (Lm rfl rfl (Lm rfl rfl (Lq rfl (Q0 (by kernel_rfl) rfl) (Lq rfl (Ql (by kernel_rfl) rfl rfl) ?_))))))
        refine Lq rfl (Qf (off:=1) (by kernel_rfl) rfl) (Lq rfl (Ql (by kernel_rfl) rfl rfl) (Lq rfl (Ql (by kernel_rfl) rfl rfl) (Lq rfl (z8 [(0,1),(1,1),(2,1),(3,1),(4,1),(5,1)] [.int .i64 0,.int .i64 0,.int .i64 0,.int .i64 0,.int .i64 0,.slice none 0 0] [_,_,_,_,_,_] [(0,_),(1,_),(2,_),(3,_),(5,_)] (by kernel_rfl) (by unfold Zf;kernel_rfl) rfl rfl) ?_)))
        refine Le rfl (Ec (Hp.writeFull B S g b logs count n (K+count) x.q x.pc h.cm.length x.cc h.last s2 h.es (Zi h.vs) hs2 (addE h t d q) a c hokE hv (by omega)) Tryz.func72 rfl rfl rfl ?_)
        rintro _ _ ⟨rfl,rfl⟩
        try simp only [cA,nA]
        refine La rfl rfl (Ld (TS (Lm rfl rfl (Lq rfl (yW rfl rfl) (Ld (zF rfl ?_))))))
        refine TS (Lq rfl (z8 [(0,1),(1,1)] [.int .i64 0,.int .i64 0] [_,_] [] (by kernel_rfl) (by unfold Zf;kernel_rfl) rfl rfl) (Lm rfl rfl ?_))
        refine L0 rfl (Es [_,_] (by kernel_rfl) rfl rfl rfl rfl (by simp) ?_)
        try simp only [splice,lC,lN,dS,cA,tS,tZ,dZ,nA,aN]
        refine La rfl rfl (Ld (T.ret ?_))
        exact ⟨.inl rfl,_,_,res [_,_] rfl ⟨rvA [_,_] (by kernel_rfl) rfl ⟨rfl,rfl,trivial⟩,rvT rfl,trivial⟩,⟨rfl,rfl⟩,Wb [hpB g x.q x.pc h.cm.length x.cc h.last,stA x.q x.st,cmR x.pc h.cm.length x.cc h.cm,wlS b x.q s2,plS b n logs count x.q s2,Zn b s2.D] {x with s:=s2} h hi2 rfl⟩
      have he:Wm h t d=(Zg h (addE h t d q),(q:Int),((Zh h.vs q).length:Int),0):=by unfold Wm;rw [if_pos hc,if_neg hd,hq];dsimp only;rw [if_neg hf]
      rw [he]
      have hstep:=hi.r.addStep (by omega) hlk hc (d:=d) (q:=q) (by omega) hq1 hq2 (by omega)
      have hrl:(Zi h.vs q).length=(Zh h.vs q).length:=by simp [Zi]
      have hro:=recs_ok hi.r.ok q
      have hus:ZO (Zi h.vs q)+17+d.length≤243:=by rw [used_recs];unfold Wi at hq2;omega
      have hro2:=(recs_ok (hi.r.ok.write hstep) q)
      have hrc:=rc_add (h:=h) (t:=t) (d:=d) (q:=q)
      have hro3:PgOk (Zi h.vs q++[newB t d])∧(Zi h.vs q++[newB t d]).length<256:=by have:=congrFun hrc q;unfold rcSet at this;simp only [if_true] at this;rw [this];exact hro2
      refine Tk (Ts (TS (Lm rfl rfl (Lm rfl rfl (Lq rfl (Q0 (by kernel_rfl) rfl) (Lq rfl (Ql (by kernel_rfl) rfl rfl) ?_))))))
      refine Lq rfl (Qf (off:=1) (by kernel_rfl) rfl) (Lq rfl (Ql (by kernel_rfl) rfl rfl) (Lq rfl (Ql (by kernel_rfl) rfl rfl) (Lq rfl (z8 [(0,1),(1,1),(2,1),(3,1),(4,1),(5,1)] [.int .i64 0,.int .i64 0,.int .i64 0,.int .i64 0,.int .i64 0,.slice none 0 0] [_,_,_,_,_,_] [(0,_),(1,_),(2,_),(3,_),(5,_)] (by kernel_rfl) (by unfold Zf;kernel_rfl) rfl rfl) ?_)))
      refine Le rfl (Ec (Hp.writeP B S g b logs count n (K+count) x.q x.pc h.cm.length x.cc h.last s2 h.es (Zi h.vs) hs2 (by omega) (addE h t d q) a c hokE hv (by omega) (by simp) q rfl (by omega) (Zi h.vs q++[newB t d]) hro3.1 hro3.2 (fun X hX gpg m=>Hp.applyAdd B X (pV g) gpg (Zi h.vs q) m (addE h t d q) a c hokE rfl hX (by rw [hrl]) (by show d.length≤184;omega) hus)) Tryz.func72 rfl rfl rfl ?_)
      rintro _ _ ⟨s',hS,rfl,rfl⟩
      try simp only [cA,nA]
      refine La rfl rfl (Ld (TS (Lm rfl rfl (Lq rfl (yW rfl rfl) (Ld ?_)))))
      rw [hrc] at hS
      have hi3:=hi.write hstep (by simp) (hi.r.act1 t (isAct_iff.1 hc)).2 hS (by omega)
      refine yQ rfl (Tk (TS (Lq rfl (QL [_,_] (by kernel_rfl) rfl ⟨rfl,rfl,trivial⟩) ?_)))
      refine L0 rfl (Es [_,_] (by kernel_rfl) rfl rfl rfl rfl (by simp) ?_)
      try simp only [splice,lC,lN,dS,cA,tS,tZ,dZ,nA,aN]
      refine La rfl rfl (Ld (T.ret ?_))
      exact ⟨.inl rfl,_,_,res [_,_] rfl ⟨rvA [_,_] (by kernel_rfl) rfl ⟨rfl,rfl,trivial⟩,rvT rfl,trivial⟩,⟨rfl,rfl⟩,Wb [hpB g x.q x.pc h.cm.length x.cc h.last,stA x.q x.st,cmR x.pc h.cm.length x.cc h.cm,wlS b x.q s',plS b n logs count x.q s',Zn b s'.D] {x with s:=s'} (Zg h (addE h t d q)) hi3 rfl⟩
  · have he:Wm h t d=(h,0,0,70):=by unfold Wm;rw [if_neg hc]
    rw [he]
    refine Ws 66 Tryz.func35 rfl rfl (nB rfl) (fun F=>?_)
    try simp only [cA,nA]
    refine TS ?_
    refine Le rfl (zL [_] rfl rfl ?_)
    intro g5
    refine Le rfl (El [.int .i64 0,.int .i64 0] (by unfold Zf;kernel_rfl) ?_)
    intro g6
    refine La rfl rfl (Ld (Ts (yH (TS (Lm rfl rfl (Lq rfl (Qn rfl) ?_))))))
    refine Lq rfl (Q0 (by kernel_rfl) rfl) (Lq rfl (Q0 (by kernel_rfl) rfl) (Lq rfl (Ql (by kernel_rfl) rfl rfl) (Lm rfl rfl (Lq rfl (zT Hp.okS rfl t rfl 0 rfl) (Lq rfl (yW rfl rfl) (La rfl rfl (Ld ?_)))))))
    refine zM rfl ((fun q=>hc (ha.1 q))) (TS (Lq rfl (z8 [(0,1),(1,1)] [.int .i64 0,.int .i64 0] [_,_] [] (by kernel_rfl) (by unfold Zf;kernel_rfl) rfl rfl) ?_))
    refine L0 rfl (Es [_,_] (by kernel_rfl) rfl rfl rfl rfl (by simp) ?_)
    try simp only [splice,lC,lN,dS,cA,tS,tZ,dZ,nA,aN]
    refine La rfl rfl (Ld (T.ret ?_))
    exact ⟨.inl rfl,_,_,res [_,_] rfl ⟨rvA [_,_] (by kernel_rfl) rfl ⟨rfl,rfl,trivial⟩,rvT rfl,trivial⟩,⟨rfl,rfl⟩,Wb [hpB g x.q x.pc h.cm.length x.cc h.last,stA x.q x.st,cmR x.pc h.cm.length x.cc h.cm,wlS b x.q x.s,plS b n logs count x.q x.s,Zn b x.s.D] x h hi1 rfl⟩
open Go.RowKit
theorem ver_beg (v:Ver):(verB v).take 8=be (UInt64.ofInt v.beg) 8:=by unfold verB;rw [List.append_assoc,List.take_left' (Zd _ _)]
theorem ver_fin (v:Ver):((verB v).take 16).drop 8=be (UInt64.ofInt v.fin) 8:=by unfold verB;rw [List.take_left' (by simp [Zd]),List.drop_left' (Zd _ _)]
theorem ver_data (v:Ver):(verB v).drop 16=v.data:=by unfold verB;rw [List.drop_left' (by simp [Zd])]
abbrev verV (n slot:Int) (v:Ver) (a:Option Addr) (c:Nat):Value := .agg #[.int .i64 n,.int .i64 slot,.int .i64 v.beg,.int .i64 v.fin,.slice (offA a c 16 1) v.data.length (c-16)]
theorem Hp.version (B:Wn) (S:List Wp) (n slot:Int) (a:Option Addr) (m c:Nat) (v:Ver) (hv:RdV B S (.slice a m c) (Zb (verB v))) (hm:(verB v).length=m) (hmc:m≤c) (hb:0≤v.beg∧v.beg<9223372036854775808) (hf:0≤v.fin∧v.fin<9223372036854775808) :
  Fn Tryz.prog B 62 #[.int .i64 n,.int .i64 slot,.slice a m c] S (fun u l=>u=verV n slot v a c∧l=S):=by
 have hml:m=16+v.data.length:=by rw [←hm,length_verB]
 have h1:=RdV.part hv 0 8 (by omega) hm (by omega) (by omega) (z:=8) rfl
 have h2:=RdV.part hv 8 16 (by omega) hm (by omega) (by omega) (z:=8) rfl
 rw [List.drop_zero,ver_beg,offA_zero] at h1
 rw [ver_fin] at h2
 have g1:=get_at (n:=v.beg) (k:=8) (by omega) (by omega) (by omega) (by omega)
 have g2:=get_at (n:=v.fin) (k:=8) (by omega) (by omega) (by omega) (by omega)
 have hz:m-16=v.data.length:=by omega
 refine Ws 21 Tryz.func62 rfl rfl (nB rfl) (fun F=>?_)
 refine TS ?_
 refine Le rfl (El [.int .i64 0,.int .i64 0,.int .i64 0,.int .i64 0,.slice none 0 0] (by unfold Zf;kernel_rfl) ?_)
 intro g6
 refine Ld (Ts (zW 14 none (by kernel_rfl) (nB rfl) (by kernel_rfl) (Rq 0 rfl rfl (by kernel_rfl) Sa (Qm rfl) (Rq 1 rfl rfl (by kernel_rfl) Sa (Qm rfl) (Rq 2 rfl rfl (by kernel_rfl) Sa (z8 [(0,1),(1,1)] [.int .i64 0,.int .i64 0] [_,_] [(0,_),(1,_)] (by kernel_rfl) (by unfold Zf;kernel_rfl) rfl rfl) (Rq 3 rfl rfl (by kernel_rfl) Sa (Qm rfl) (Rq 4 rfl rfl (by kernel_rfl) Sa (Y6 8 (e:=5) (sz:=1) (by kernel_rfl) rfl rfl rfl (by omega)) ?_)))))))
 refine Rq 7 rfl rfl (by kernel_rfl) Sa (Qm rfl) (Rq 8 rfl rfl (by kernel_rfl) Sa (zS 8 16 (e:=5) (sz:=1) (by kernel_rfl) rfl rfl rfl rfl rfl (by omega) (by omega)) (Rq 11 rfl rfl (by kernel_rfl) Sa (Qm rfl) (Rq 12 rfl rfl (by kernel_rfl) Sa (zP 16 (e:=5) (sz:=1) (by kernel_rfl) rfl rfl rfl (by omega)) (yK 5 (by kernel_rfl) ?_))))
 refine z6 rfl rfl (Ec (Cd.get B _ _ (be (UInt64.ofInt v.beg) 8) (h1.takeAll c) (by simp [Zd])) Tryz.func93 rfl rfl rfl ?_)
 rintro _ l2 ⟨rfl,hl2⟩
 try simp only [cA,nA]
 rw [hl2]
 clear hl2
 refine ⟨Sa,?_⟩
 refine Rq 6 rfl rfl (by kernel_rfl) Sa (yX (by kernel_rfl) (by kernel_rfl) rfl g1) (yK 9 (by kernel_rfl) ?_)
 refine z6 rfl rfl (Ec (Cd.get B _ _ (be (UInt64.ofInt v.fin) 8) h2 (by simp [Zd])) Tryz.func93 rfl rfl rfl ?_)
 rintro _ l2 ⟨rfl,hl2⟩
 rw [hl2]
 clear hl2
 refine ⟨Sa,?_⟩
 refine Rq 10 rfl rfl (by kernel_rfl) Sa (yX (by kernel_rfl) (by kernel_rfl) rfl g2) (Rq 13 rfl rfl (by kernel_rfl) Sa (z8 [(0,2),(2,1),(3,1),(4,1)] [.int .i64 0,.int .i64 0,.int .i64 0,.int .i64 0,.slice none 0 0] [_,_,_,_,_] [(0,_),(1,_),(2,_),(3,_)] (by kernel_rfl) (by unfold Zf;kernel_rfl) rfl rfl) (Rd0 (by rfl) ?_))
 simp only [dS,dZ,dN]
 refine L0 rfl (Es [_,_,_,_,_] (by kernel_rfl) rfl rfl rfl rfl (by simp) ?_)
 try simp only [splice,lC,lN,dS,cA,tS,tZ,dZ,nA,aN]
 refine Ld ?_
 rw [hz]
 refine T.ret ?_
 exact ⟨.inl rfl,_,_,res [_] rfl ⟨rvA [_,_,_,_,_] (by kernel_rfl) rfl ⟨rfl,rfl,rfl,rfl,rfl,trivial⟩,trivial⟩,⟨rfl,rfl⟩,Sa⟩
open Go.RowKit
theorem ver_ok {h:HR} (r:RInv h) {v:Ver} (hv:v∈h.vs):1≤v.beg∧v.beg≤h.last∧0≤v.fin∧v.fin≤h.last:=by
  obtain ⟨_,_,⟨e,he,_,h2⟩,h3⟩:=r.ok.vok v hv
  have h4:=(r.ok.eok e he).txn
  have h5:=r.lst e he
  have h0:=r.last0
  rcases h3 with h3 | ⟨e',he',_,h6⟩
  · omega
  · have h7:=(r.ok.eok e' he').txn
    have h8:=r.lst e' he'
    omega
abbrev verB5 (g:Nat) (a b c d:Int) (sl:Value):Wp:=blk g [.int .i64 a,.int .i64 b,.int .i64 c,.int .i64 d,sl] 110
def Found (l:List Ver) (page slot:Int) (g4 g5:Nat) (X:List Wp):Prop:=(∃ (j:Nat) (v:Ver) (p:Option Addr) (mm c:Nat),slot=j∧l[j]? = some v∧X=[verB5 g4 page slot v.beg v.fin (.slice p mm c),blk g5 [.bool true] 4])∨((∀ j:Nat,slot=j→l[j]? = none)∧X=[verB5 g4 0 0 0 0 (.slice none 0 0),blk g5 [.bool false] 4])
theorem Hp.find1 (B:Wn) (A:Wp) (gpg g3 g4 g5:Nat) (l:List Ver) (m page slot:Int) (hl : ∀ v∈l,0≤v.beg∧v.beg<9223372036854775808∧0≤v.fin∧v.fin<9223372036854775808) :
    Fn Tryz.prog B 121 #[pV gpg,pV g3,pV g4,pV g5] (pgA gpg (l.map verB) m::A::[ridB g3 page slot,verB5 g4 0 0 0 0 (.slice none 0 0),blk g5 [.bool false] 4])
      (fun u L=>u = .bool false ∧ ∃ X,Found l page slot g4 g5 X∧L=pgA gpg (l.map verB) m::A::ridB g3 page slot::X):=by
  by_cases hs:0≤slot∧slot<((l.map verB).length:Int)
  · have hjl:slot.toNat<l.length:=by have:=hs.2;simp at this;omega
    obtain ⟨v,hv⟩ : ∃ v,l[slot.toNat]? = some v:=⟨_,List.getElem?_eq_getElem hjl⟩
    obtain ⟨v1,v2,v3,v4⟩:=hl v (List.mem_of_getElem? hv)
    refine Fn.enter4 28 Tryz.func121 rfl rfl (nB rfl) (fun F=>?_)
    try simp only [cA,nA]
    refine TS (La rfl rfl (Ld (Ts (TS (Lm rfl rfl ?_)))))
    refine Lq rfl (Qf (off:=1) (by kernel_rfl) rfl) (Lq rfl (Ql (by kernel_rfl) rfl rfl) ?_)
    refine Le rfl (Ec (Fn.own (Pg.getE B gpg (l.map verB) m slot slot.toNat (16+v.data.length) (verB v) (by omega) (by rw [List.getElem?_map,hv];rfl) (length_verB v))) Tryz.func61 rfl rfl rfl ?_)
    rintro _ _ ⟨⟨p1,c1,rfl,rfl⟩,w1,F1,ho1⟩
    try simp only [cA,nA]
    simp only [List.cons_append,List.nil_append] at ho1
    have hp1:=(ho1.slice_at (p:=p1) (m:=16+v.data.length) (c:=c1)).2.1
    have hc1:=ho1.cap_at (p:=p1) (m:=16+v.data.length) (c:=c1)
    clear ho1
    refine Lm rfl rfl (Lq rfl (Qx rfl rfl) (Lq rfl (Qx rfl rfl) (La rfl rfl (La rfl rfl (Ld (TS ?_))))))
    refine Lm rfl rfl (Lq rfl (yU rfl rfl) (Lm rfl rfl (zQ (t:=17) rfl rfl (Lm rfl rfl (Lq rfl (yI (e:=5) (sz:=1) (by kernel_rfl) rfl) (Lq rfl (zX rfl rfl) (Lq rfl (Qp rfl rfl) ?_)))))))
    refine Ld (zM rfl (by omega) (TR (Lq rfl (Q0 (by kernel_rfl) rfl) (Lq rfl (Ql (by kernel_rfl) rfl rfl) (Lq rfl (Qf (off:=1) (by kernel_rfl) rfl) (Lq rfl (Ql (by kernel_rfl) rfl rfl) (Lm rfl rfl ?_)))))))
    refine Le rfl (Ec (Hp.version B [rB (.slice p1 (16+v.data.length) c1) (16+v.data.length) (verB v)] page slot p1 (16+v.data.length) c1 v (RdV.rB (length_verB v) hp1) (length_verB v) hc1 ⟨v1,v2⟩ ⟨v3,v4⟩) Tryz.func62 rfl rfl rfl ?_)
    rintro _ _ ⟨rfl,rfl⟩
    try simp only [cA,nA]
    refine L0 rfl (Es [_,_,_,_,_] (by kernel_rfl) rfl rfl rfl rfl (by simp) ?_)
    try simp only [splice,lC,lN,dS,cA,tS,tZ,dZ,nA,aN]
    refine L0 rfl (E1 (by kernel_rfl) rfl rfl rfl (by first | (simp;done) | (simp;omega)) ?_)
    try simp only [List.set_cons_zero,List.set_cons_succ]
    refine Ld (TS (La rfl rfl (Ld (T.ret ?_))))
    exact ⟨.inl rfl,_,_,res [_] rfl ⟨rvT rfl,trivial⟩,⟨rfl,_,.inl ⟨slot.toNat,v,offA p1 c1 16 1,v.data.length,c1-16,by omega,hv,rfl⟩,rfl⟩,Sa⟩
  refine Fn.enter4 28 Tryz.func121 rfl rfl (nB rfl) (fun F=>?_)
  try simp only [cA,nA]
  refine TS (La rfl rfl (Ld (Ts (TS (Lm rfl rfl ?_)))))
  refine Lq rfl (Qf (off:=1) (by kernel_rfl) rfl) (Lq rfl (Ql (by kernel_rfl) rfl rfl) ?_)
  refine Le rfl (Ec (Pg.get_no B gpg (l.map verB) m slot hs) Tryz.func61 rfl rfl rfl ?_)
  rintro _ _ ⟨rfl,rfl⟩
  try simp only [cA,nA]
  refine Lm rfl rfl (Lq rfl (Qx rfl rfl) (Lq rfl (Qx rfl rfl) (La rfl rfl (La rfl rfl (Ld (TS ?_))))))
  refine Lm rfl rfl (Lq rfl (yU rfl rfl) (Lm rfl rfl (yT (t:=17) rfl rfl (Ls rfl (Ls rfl (Ls rfl (Lq rfl (Qp rfl rfl) ?_)))))))
  refine Ld (yQ rfl (Tk (TS (La rfl rfl (Ld (T.ret ?_))))))
  exact ⟨.inl rfl,_,_,res [_] rfl ⟨rvT rfl,trivial⟩,⟨rfl,_,.inr ⟨fun j hj=>List.getElem?_eq_none (by simp at hs;omega),rfl⟩,rfl⟩,Sa⟩
def FindR (h:HR) (page slot:Int) (u:Value):Prop:=(∃ (v:Ver) (p:Option Addr) (mm c:Nat),(We h.vs page slot).bind (h.vs[·]?)=some v∧u = .tuple #[.agg #[.int .i64 page,.int .i64 slot,.int .i64 v.beg,.int .i64 v.fin,.slice p mm c],.bool true])∨((We h.vs page slot).bind (h.vs[·]?)=none∧u = .tuple #[.agg #[.int .i64 0,.int .i64 0,.int .i64 0,.int .i64 0,.slice none 0 0],.bool false])
theorem Hp.find (B:Wn) (g b logs count n K:Nat) (h:HR) (hK:K<2^29) (page slot:Int) (x:HpX) (hi:HInv logs count n K x.s x.st h) (pc:Option Addr) (cc:Nat) :
    Fn Tryz.prog B 71 #[pV g,.agg #[.int .i64 page,.int .i64 slot]] [hpB g x.q pc h.cm.length cc h.last,wlS b x.q x.s,plS b n logs count x.q x.s,Zn b x.s.D]
      (fun u l => ∃ s',SInv logs count n (K+1) s' h.es (Zi h.vs)∧FindR h page slot u∧l=[hpB g x.q pc h.cm.length cc h.last,wlS b x.q s',plS b n logs count x.q s',Zn b s'.D]):=by
  have hpg:=hi.pages
  have hct:=hi.cnt
  have hlk:h.last<2^62:=by have:=hi.lastK;omega
  by_cases hr:0≤page∧page<(count:Int)
  · obtain ⟨q,rfl⟩ : ∃ q:Nat,page=q:=⟨page.toNat,by omega⟩
    have hvl : ∀ v∈Zh h.vs q,0≤v.beg∧v.beg<9223372036854775808∧0≤v.fin∧v.fin<9223372036854775808:=fun v hv=>by
      have:=ver_ok hi.r (mem_of_filt hv)
      omega
    have hfp:=findV_page hi.r.ok.slots q slot
    refine Wr 29 Tryz.func71 rfl rfl (nB rfl) (fun F=>?_)
    try simp only [cA,nA]
    refine TS ?_
    refine Le rfl (zL [_,_] rfl rfl ?_)
    intro g3
    refine Le rfl (El [.int .i64 0,.int .i64 0,.int .i64 0,.int .i64 0,.slice none 0 0] (by unfold Zf;kernel_rfl) ?_)
    intro g4
    refine Le rfl (El [.bool false] (by unfold Zf;kernel_rfl) ?_)
    intro g5
    refine Ld (Ts (Ts (T.draw 15 ([hpB g x.q pc h.cm.length cc h.last,ridB g3 q slot]) (by kernel_rfl) (nB rfl) (by kernel_rfl) (Rq 0 rfl rfl (by kernel_rfl) Sa (Q0 (by kernel_rfl) rfl) (Rq 1 rfl rfl (by kernel_rfl) Sa (Ql (by kernel_rfl) rfl rfl) (Rq 2 rfl rfl (by kernel_rfl) Sa (yM rfl rfl) (Rq 3 rfl rfl (by kernel_rfl) Sa (Qm rfl) ?_)))))))
    refine ZD (t:=9) rfl rfl (Rq 4 rfl rfl (by kernel_rfl) Sa (Q0 (by kernel_rfl) rfl) (Rq 5 rfl rfl (by kernel_rfl) Sa (Ql (by kernel_rfl) rfl rfl) (Rq 6 rfl rfl (by kernel_rfl) Sa (Qm rfl) (Rq 7 rfl rfl (by kernel_rfl) Sa (Qn rfl) (Rq 8 rfl rfl (by kernel_rfl) Sa (Qf (off:=4) (by kernel_rfl) rfl) (Rq 9 rfl rfl (by kernel_rfl) Sa (Ql (by kernel_rfl) rfl rfl) (Rq 10 rfl rfl (by kernel_rfl) Sa (Qn rfl) ?_)))))))
    refine Rq 11 rfl rfl (by kernel_rfl) Sa (Q0 (by kernel_rfl) rfl) (yK 12 (by kernel_rfl) ?_)
    refine z6 rfl rfl (Ec (Bp.pages B x.q.gp b n logs count x.s.hand x.q.gl x.s.A) Tryz.func49 rfl rfl rfl ?_)
    rintro _ _ ⟨rfl,rfl⟩
    try simp only [cA,nA]
    refine ⟨Sa,?_⟩
    refine Rq 13 rfl rfl (by kernel_rfl) Sa (zX rfl rfl) (Rq 14 rfl rfl (by kernel_rfl) Sa (Qp rfl rfl) (Rd0 (by rfl) ?_))
    simp only [dS,dZ,dN]
    refine Ld (yL rfl (by omega) (Tk (TS (Lm rfl rfl (Lq rfl (Q0 (by kernel_rfl) rfl) (Lq rfl (Ql (by kernel_rfl) rfl rfl) ?_))))))
    refine Lq rfl (Y4 [_,_,_] rfl) ?_
    refine Le rfl (Ec (Hp.with B g b n logs count K x.q pc h.cm.length cc h.last x.s h.es (Zi h.vs) hi.s (by omega) q (by omega) q rfl 0 0 rfl (by omega) 121 Tryz.f121 [pV g3,pV g4,pV g5] [ridB g3 q slot,verB5 g4 0 0 0 0 (.slice none 0 0),blk g5 [.bool false] 4] (fun bb r' X'=>bb=false ∧ ∃ X,Found (Zh h.vs q) q slot g4 g5 X∧X'=ridB g3 q slot::X) Tryz.func121 rfl rfl (fun gpg m=>(Hp.find1 B (hpB g x.q pc h.cm.length cc h.last) gpg g3 g4 g5 (Zh h.vs q) m q slot hvl).mono (fun v l ⟨h1,X,h2,h3⟩=>⟨false,_,_,⟨rfl,X,h2,rfl⟩,h1,h3⟩)) (fun r' X' hh=>by obtain ⟨h1,_⟩:=hh;cases h1)) Tryz.func58 rfl rfl rfl ?_)
    rintro _ _ ⟨bb,r',X',s',⟨rfl,X,hX,rfl⟩,hS,rfl,rfl⟩
    try simp only [cA,nA]
    have hS2:SInv logs count n (K+1) s' h.es (Zi h.vs):=by simpa [rcSet] using hS
    refine Ld (Ts ?_)
    by_cases hfo : ∃ (j:Nat) (v:Ver) (p:Option Addr) (mm c:Nat),slot=j∧(Zh h.vs q)[j]? = some v∧X=[verB5 g4 q slot v.beg v.fin (.slice p mm c),blk g5 [.bool true] 4]
    · skip
      obtain ⟨j,v,p,mm,c,rfl,hv,rfl⟩:=hfo
      simp only [List.cons_append,List.nil_append]
      refine zU 3 (by kernel_rfl) (nB rfl) (by kernel_rfl) (Rq 0 rfl rfl (by kernel_rfl) (Sr _) (QL [_,_,_,_,_] (by kernel_rfl) rfl ⟨rfl,rfl,rfl,rfl,rfl,trivial⟩) (Rq 1 rfl rfl (by kernel_rfl) (Sr _) (Ql (by kernel_rfl) rfl rfl) (yK 2 (by kernel_rfl) ?_)))
      refine ZX rfl rfl (Es [_,_,_,_,_] (by kernel_rfl) rfl rfl rfl rfl (by simp) ?_)
      try simp only [splice,lC,lN,dS,cA,tS,tZ,dZ,nA,aN]
      refine ⟨Sa,?_⟩
      refine Rd0 (by rfl) ?_
      simp only [dS,dZ,dN]
      refine L0 rfl (E1 (by kernel_rfl) rfl rfl rfl (by first | (simp;done) | (simp;omega)) ?_)
      try simp only [List.set_cons_zero,List.set_cons_succ]
      refine Ld (T.ret ?_)
      exact ⟨.inl rfl,_,_,res [_,_] rfl ⟨rvA [_,_,_,_,_] (by kernel_rfl) rfl ⟨rfl,rfl,rfl,rfl,rfl,trivial⟩,rvC (by kernel_rfl) rfl rfl,trivial⟩,⟨s',hS2,.inl ⟨v,p,mm,c,by rw [hfp,if_pos (by omega)];simpa using hv,rfl⟩,rfl⟩,Sa⟩
    obtain ⟨hn,rfl⟩:=hX.resolve_left hfo
    simp only [List.cons_append,List.nil_append]
    refine zU 3 (by kernel_rfl) (nB rfl) (by kernel_rfl) (Rq 0 rfl rfl (by kernel_rfl) (Sr _) (QL [_,_,_,_,_] (by kernel_rfl) rfl ⟨rfl,rfl,rfl,rfl,rfl,trivial⟩) (Rq 1 rfl rfl (by kernel_rfl) (Sr _) (Ql (by kernel_rfl) rfl rfl) (yK 2 (by kernel_rfl) ?_)))
    refine ZX rfl rfl (Es [_,_,_,_,_] (by kernel_rfl) rfl rfl rfl rfl (by simp) ?_)
    try simp only [splice,lC,lN,dS,cA,tS,tZ,dZ,nA,aN]
    refine ⟨Sa,?_⟩
    refine Rd0 (by rfl) ?_
    simp only [dS,dZ,dN]
    refine L0 rfl (E1 (by kernel_rfl) rfl rfl rfl (by first | (simp;done) | (simp;omega)) ?_)
    try simp only [List.set_cons_zero,List.set_cons_succ]
    refine Ld (T.ret ?_)
    exact ⟨.inl rfl,_,_,res [_,_] rfl ⟨rvA [_,_,_,_,_] (by kernel_rfl) rfl ⟨rfl,rfl,rfl,rfl,rfl,trivial⟩,rvC (by kernel_rfl) rfl rfl,trivial⟩,⟨s',hS2,.inr ⟨by rw [hfp];split;(next h0=>simpa using hn slot.toNat (by omega));rfl,rfl⟩,rfl⟩,Sa⟩
  · have hnone:(We h.vs page slot).bind (h.vs[·]?)=none:=by
      rw [findV_page hi.r.ok.slots]
      split
      · rename_i h0
        refine List.getElem?_eq_none ?_
        have:Zh h.vs page.toNat=[]:=by
          unfold Zh
          rw [List.filter_eq_nil_iff]
          intro v hv
          have:=(hi.r.ok.vok v hv).1
          simp;omega
        rw [this];simp
      · rfl
    refine Wr 29 Tryz.func71 rfl rfl (nB rfl) (fun F=>?_)
    try simp only [cA,nA]
    refine TS ?_
    refine Le rfl (zL [_,_] rfl rfl ?_)
    intro g3
    refine Le rfl (El [.int .i64 0,.int .i64 0,.int .i64 0,.int .i64 0,.slice none 0 0] (by unfold Zf;kernel_rfl) ?_)
    intro g4
    refine Le rfl (El [.bool false] (by unfold Zf;kernel_rfl) ?_)
    intro g5
    refine Ld (Ts (Ts (T.draw 15 ([hpB g x.q pc h.cm.length cc h.last,ridB g3 page slot]) (by kernel_rfl) (nB rfl) (by kernel_rfl) (Rq 0 rfl rfl (by kernel_rfl) Sa (Q0 (by kernel_rfl) rfl) (Rq 1 rfl rfl (by kernel_rfl) Sa (Ql (by kernel_rfl) rfl rfl) (Rq 2 rfl rfl (by kernel_rfl) Sa (yM rfl rfl) (Rq 3 rfl rfl (by kernel_rfl) Sa (Qm rfl) ?_)))))))
    by_cases h0:page<0
    · skip
      refine YY (t:=9) rfl (decide_eq_true (by omega)) (yY 4 rfl rfl (by kernel_rfl) Sa (yY 5 rfl rfl (by kernel_rfl) Sa (yY 6 rfl rfl (by kernel_rfl) Sa (yY 7 rfl rfl (by kernel_rfl) Sa (yY 8 rfl rfl (by kernel_rfl) Sa (yY 9 rfl rfl (by kernel_rfl) Sa (yY 10 rfl rfl (by kernel_rfl) Sa ?_)))))))
      refine yY 11 rfl rfl (by kernel_rfl) Sa (yY 12 rfl rfl (by kernel_rfl) Sa (yY 13 rfl rfl (by kernel_rfl) Sa (Rq 14 rfl rfl (by kernel_rfl) Sa (Qp rfl rfl) (Rd0 (by rfl) ?_))))
      simp only [dS,dZ,dN]
      refine Ld (zF rfl (TS (Lq rfl (QL [_,_,_,_,_] (by kernel_rfl) rfl ⟨rfl,rfl,rfl,rfl,rfl,trivial⟩) ?_)))
      refine L0 rfl (Es [_,_,_,_,_] (by kernel_rfl) rfl rfl rfl rfl (by simp) ?_)
      try simp only [splice,lC,lN,dS,cA,tS,tZ,dZ,nA,aN]
      refine L0 rfl (E1 (by kernel_rfl) rfl rfl rfl (by first | (simp;done) | (simp;omega)) ?_)
      try simp only [List.set_cons_zero,List.set_cons_succ]
      refine Ld (T.ret ?_)
      exact ⟨.inl rfl,_,_,res [_,_] rfl ⟨rvA [_,_,_,_,_] (by kernel_rfl) rfl ⟨rfl,rfl,rfl,rfl,rfl,trivial⟩,rvC (by kernel_rfl) rfl rfl,trivial⟩,⟨x.s,hi.s.mono (by omega),.inr ⟨hnone,rfl⟩,rfl⟩,Sa⟩
    refine ZD (t:=9) rfl (decide_eq_false (by omega)) (Rq 4 rfl rfl (by kernel_rfl) Sa (Q0 (by kernel_rfl) rfl) (Rq 5 rfl rfl (by kernel_rfl) Sa (Ql (by kernel_rfl) rfl rfl) (Rq 6 rfl rfl (by kernel_rfl) Sa (Qm rfl) (Rq 7 rfl rfl (by kernel_rfl) Sa (Qn rfl) (Rq 8 rfl rfl (by kernel_rfl) Sa (Qf (off:=4) (by kernel_rfl) rfl) (Rq 9 rfl rfl (by kernel_rfl) Sa (Ql (by kernel_rfl) rfl rfl) (Rq 10 rfl rfl (by kernel_rfl) Sa (Qn rfl) ?_)))))))
    refine Rq 11 rfl rfl (by kernel_rfl) Sa (Q0 (by kernel_rfl) rfl) (yK 12 (by kernel_rfl) ?_)
    refine z6 rfl rfl (Ec (Bp.pages B x.q.gp b n logs count x.s.hand x.q.gl x.s.A) Tryz.func49 rfl rfl rfl ?_)
    rintro _ _ ⟨rfl,rfl⟩
    try simp only [cA,nA]
    refine ⟨Sa,?_⟩
    refine Rq 13 rfl rfl (by kernel_rfl) Sa (zX rfl rfl) (Rq 14 rfl rfl (by kernel_rfl) Sa (Qp rfl rfl) (Rd0 (by rfl) ?_))
    simp only [dS,dZ,dN]
    refine Ld (zM rfl (by omega) (TS (Lq rfl (QL [_,_,_,_,_] (by kernel_rfl) rfl ⟨rfl,rfl,rfl,rfl,rfl,trivial⟩) ?_)))
    refine L0 rfl (Es [_,_,_,_,_] (by kernel_rfl) rfl rfl rfl rfl (by simp) ?_)
    try simp only [splice,lC,lN,dS,cA,tS,tZ,dZ,nA,aN]
    refine L0 rfl (E1 (by kernel_rfl) rfl rfl rfl (by first | (simp;done) | (simp;omega)) ?_)
    try simp only [List.set_cons_zero,List.set_cons_succ]
    refine Ld (T.ret ?_)
    exact ⟨.inl rfl,_,_,res [_,_] rfl ⟨rvA [_,_,_,_,_] (by kernel_rfl) rfl ⟨rfl,rfl,rfl,rfl,rfl,trivial⟩,rvC (by kernel_rfl) rfl rfl,trivial⟩,⟨x.s,hi.s.mono (by omega),.inr ⟨hnone,rfl⟩,rfl⟩,Sa⟩
end Go.Proofs.YtjmjjfefchnkaaaGreatDoor
