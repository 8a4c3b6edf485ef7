/- The texts SlH PgF PgG PgH PgI JnA WlA WlB WlC WlD WlE WlF WlG WlH WlI WlJ WlK, one behind the other: what the law leans on. Conditions: as each theorem says. -/
import Derived.Test.YtkfmfoecplbclaaGreatDoorZPyBase4
import Derived.Great.BuildSlice
import Derived.Lib.MakeNoZero
import Derived.Laws.Externs
set_option linter.unusedSimpArgs false
set_option linter.unusedVariables false
set_option maxRecDepth 100000
set_option maxHeartbeats 16000000
namespace Go.Proofs.YtkfmfoecplbclaaGreatDoor
open Go.RowKit
section
variable {P : Program} {B:Wn} {n:Nat} {S l r:List Wp} {f:Fr} {K:Value->List Wp->Prop} {Φ:Post}
variable {d : Option Tmp} {ty:TypeId} {pos:String} {af:Array Edge} {gd:Option (Nat×Bool)}
def fblk (g:Nat) (C:List Value) (t:TypeId) (fr:Nat×Nat):Wp:=λ h=>h g=some (.cells C.toArray t fr)
instance (g : Nat) (l:List Wp) (C:List Value) (t:TypeId) (fr:Nat×Nat):CellsAt g (fblk g C t fr::l) C:=⟨λ _ ⟨_,_,_,a,_,e,_⟩=>⟨[],t,fr,by rw [List.append_nil];exact a.p _ _ e⟩⟩
class FrzB (g:Nat) (l:List Wp) (r:outParam (List Wp)):Prop where
 cut : ∃ C t m,(∀ h,Has l h->Has (blk g C t::m) h) /\ ∀ h,Has (fblk g C t (C.length,C.length+1)::m) h->Has r h
instance (g : Nat) (C:List Value) (t:TypeId) (l:List Wp):FrzB g (blk g C t::l) (fblk g C t (C.length,C.length+1)::l):=⟨C,t,l,λ _ H=>H,λ _ H=>H⟩
instance (g : Nat) (A:Wp) (l r:List Wp) [k:FrzB g l r]:FrzB g (A::l) (A::r):=⟨by
 obtain ⟨C,t,m,h1,h2⟩:=k.cut
 exact ⟨C,t,A::m,λ h H=>Has.swap (Wt h1 H),λ h H=>Wt h2 (Has.swap H)⟩⟩
theorem Own.frz {w:World} {g:Nat} (H:Own B w l) [k:FrzB g l r] : ∃ (C:List Value) (t:TypeId),w.heap[g]? = some (.cells C.toArray t (0,0))/\Own B (w.freeze ⟨g,C.length,none⟩ 1) r:=by
  obtain ⟨C,t,m,h1,h2⟩:=k.cut
  have H1:Own B w (blk g C t::m):=H.map h1
  refine ⟨C,t,H1.get,Own.map ?_ h2⟩
  have e:w.freeze ⟨g,C.length,none⟩ 1={w with heap:=w.heap.modify g fun | .cells c elem (lo,hi) => .cells c elem (if lo == hi then (C.length,C.length+1) else (min lo C.length,max hi (C.length+1))) | o=>o}:=by
    unfold World.freeze;rw [if_neg (by decide)];rfl
  rw [e]
  refine Own.kept (fp:=[g]) H1 ⟨rfl,rfl,rfl,by simp,λ k _ hn=>?_⟩ (λ h e g' hg=>by simp at hg;subst hg;exact ⟨_,e⟩) (λ h1 h _ _ e _=>?_)
  . simp only [List.mem_singleton] at hn
    simp only [Array.getElem?_modify]
    rw [if_neg (λ q=>hn q.symm)]
  . have:=e g (.inl (by simp))
    unfold fblk
    rw [this]
    simp only [Array.getElem?_modify,if_true]
    have hg:=H1.get
    rw [hg]
    rfl
theorem YX {t g m c:Nat} {x:Operand} (hb:bytesB P t=true) (hx:ev n f x=some (.slice (some ⟨g,0,none⟩) m c)) [k:FrzB g l r] (h:K (.slice (some ⟨g,0,none⟩) m c) r):Ef P B n ⟨d,.convert t t x,ty,pos,af,gd⟩ f l K:=⟨λ w next Q ho hk=>by
 obtain ⟨e,h1,h2⟩:=bytesB_spec hb
 obtain ⟨C,t',hg,ho'⟩:=ho.frz (k:=k)
 have hsh:w.shape? g=some (t',C.length):=by
  unfold World.shape?;rw [hg];simp
 have hr:(convert t t (.slice (some ⟨g,0,none⟩) m c)).run P w = .ok (.slice (some ⟨g,0,none⟩) m c) (w.freeze ⟨g,C.length,none⟩ 1):=by
  simp [convert,run_underlying h1,run_underlying h2,markStringish,hsh]
 unfold Oper.wp execOp
 simp only [Wk,Zc hx,Sem.run_bind,hr,Sem.run_pure,Result.andThen_ok]
 exact hk _ _ _ h ho'⟩
theorem ZC {t e len:Nat} {parts:Array (Nat×Operand)} (vs:List Value) (hk:sliceB P t e 1=true) (hz:((P.info? e).bind (·.zero)).isSome=true) (hp:parts.toList.map (λ p=>(p.1,ev n f p.2))=(vs.zipIdx 0).map λ x=>(x.2,some x.1)) (h1 : ∀ v∈vs,v.cells = #[v]) (hl:vs.length=len) (h0:0<len) (h24:len<=16777216)
  (h : ∀ g,K (.slice (some ⟨g,0,none⟩) len len) (blk g vs e::l)):Ef P B n ⟨d,.buildSlice t len parts,ty,pos,af,gd⟩ f l K:=⟨λ w next Q ho hk'=>by
 obtain ⟨q1,q2⟩:=sliceB_spec hk
 obtain ⟨i,hi,his⟩:=info_of_size q2
 rw [hi] at hz
 obtain ⟨z,hzz⟩:=Option.isSome_iff_exists.1 hz
 have hpe:(parts.map λ p=>(p.1,evu n f p.2)).toList=(vs.zipIdx 0).map λ x=>(x.2,x.1):=by
  rw [Array.toList_map]
  have e:=congrArg (List.map (λ p:Nat×Option Value=>(p.1,p.2.getD undef))) hp
  simp only [List.map_map,Function.comp_def,Option.getD_some] at e
  exact e
 have hr:=run_buildSlice (P:=P) w t e len (parts.map λ p=>(p.1,evu n f p.2)) vs.toArray i z q1 hi (by simpa using hzz) (by rw [his];omega) (by rw [his];omega) (by rw [hpe,his];exact Great.fill_flat _ _ h1 (by simp [hl]))
 unfold Oper.wp execOp
 simp only [Wk,Sem.run_bind,hr,Sem.run_pure,Result.andThen_ok]
 exact hk' _ _ _ (h _) (ho.alloc vs e)⟩
end
open Go.RowKit
theorem rdv_blk {B:Wn} {L:List Wp} {g n c:Nat} {C:List Value} {b:List UInt8} [k:Rd B g L C] (hC:C=Zb b) (hn:b.length=n):RdV B L (.slice (some ⟨g,0,none⟩) n c) (Zb b):=by
 subst hC
 exact ⟨_,c,by simp [hn],.inr ⟨g,0,rfl,λ w ho=>ho.range (g:=g) (C:=Zb b) (λ j u hj=>by rw [Nat.zero_add];exact hj)⟩⟩
theorem RdV.str {B:Wn} {S:List Wp} {v:Value} {b:List UInt8} (h:RdV B S v (Zb b)) : ∀ w,Own B w S -> ∃ fp,Reads w v (Zb b) fp:=λ w ho=>h.reads w ho
theorem Pg.open_ok {P:Program} {B:Wn} {f:FuncId} {args:Array Value} {S:List Wp} {b:List UInt8} {recs:List (List UInt8)} {mark:Int} (h:openR b = .ok (recs,mark)) (H:Fn P B f args S (OpenPost S b)):Fn P B f args S (λ v l => ∃ g,v = .tuple #[.pointer (some ⟨g,0,none⟩),.int .i64 0]/\l=pgA g recs mark::S):=by
 have e:OpenPost S b=λ v l => ∃ g,v = .tuple #[.pointer (some ⟨g,0,none⟩),.int .i64 0]/\l=pgA g recs mark::S:=by
  funext v l;unfold OpenPost;rw [h]
 rwa [e] at H
theorem Pg.getE (B:Wn) (g:Nat) (recs:List (List UInt8)) (mark i:Int) (j n:Nat) (b:List UInt8) (hi:i=j) (hb:recs[j]? = some b) (hn:b.length=n):Fn Tryz.prog B 55 #[.pointer (some ⟨g,0,none⟩),.int .i64 i] [pgA g recs mark] (λ v l => ∃ p c,v = .tuple #[.slice p n c,.int .i64 0]/\l=[rB (.slice p n c) n b,pgA g recs mark]):=by
 obtain ⟨hj,rfl⟩:=List.getElem?_eq_some_iff.1 hb
 subst hn
 exact Pg.get B g recs mark i j hi hj
open Go.RowKit
theorem Fn.frame {P:Program} {B:Wn} {g:FuncId} {args:Array Value} {pre:List Wp} {R:Value->List Wp->Prop} (h:Fn P B g args pre R) (S:List Wp):Fn P B g args (pre++S) (λ v l => ∃ l',R v l'/\l=l'++S):=⟨λ w F ho=>by
 rw [List.append_assoc] at ho
 refine (h.run w (S++F) ho).mono ?_
 rintro _ w' ⟨v,l,rfl,hR,ho'⟩
 exact ⟨v,l++S,rfl,⟨l,hR,rfl⟩,by rw [List.append_assoc];exact ho'⟩⟩
theorem RdV.takeB {B:Wn} {S:List Wp} {a:Option Addr} {m c:Nat} {b:List UInt8} (hv:RdV B S (.slice a m c) (Zb b)) (hi c':Nat) (hh:hi<=b.length):RdV B S (.slice a hi c') (Zb (b.take hi)):=by
 have:=hv.take hi c' (by simpa using hh)
 rwa [show (Zb b).take hi=Zb (b.take hi) by simp [Zb]] at this
open Go.RowKit
open Go.RowKit
theorem Fn.sub {P:Program} {B:Wn} {g:FuncId} {args:Array Value} {pre:List Wp} {R R':Value->List Wp->Prop} (h:Fn P B g args pre R) (hr : ∀ v l,R v l -> ∃ l',Sub l l'/\R' v l'):Fn P B g args pre R':=⟨λ w F ho=>by
 refine (h.run w F ho).mono ?_
 rintro _ w' ⟨v,l,rfl,hR,ho'⟩
 obtain ⟨l',hs,hR'⟩:=hr v l hR
 exact ⟨v,l',rfl,hR',ho'.map λ k H=>by
  obtain ⟨h1,h2,d,a,b,e1,e2⟩:=Has.split H
  exact Has.join d a b (hs _ e1) e2⟩⟩
open Go.RowKit
section
variable {P : Program} {B:Wn} {n:Nat} {S l r:List Wp} {f:Fr} {K:Value->List Wp->Prop} {Φ:Post}
variable {d : Option Tmp} {ty:TypeId} {pos:String} {af:Array Edge} {gd:Option (Nat×Bool)}
theorem YN {g:FuncId} {fn:Func} {x:Operand} {ats:Array TypeId} {t e:TypeId} {ps:Array TypeId} {i:Int} (m:Nat) (hf:P.funcs[g]? = some fn) (hname:(fn.name == "runtime.NumGoroutine")=false) (hb:fn.body.isNone=true) (hn:Extern.findNext fn=none)
  (he:Extern.find fn=some (Extern.BytealgMakeNoZero.makeNoZero ps #[t])) (ht:P.underlying t=some (.slice e)) (hx:ev n f x=some (.int .i64 i)) (hi:i=(m:Int)) (hm:m<=281474976710656) (hm2:m<=maxLen)
  (h : ∀ g c xs,m<=c->K (.slice (some ⟨g,0,none⟩) m c) (row (.slice (some ⟨g,0,none⟩) m c) e 1 m xs::l)):Ef P B n ⟨d,.call ⟨.value (.func g),#[x],ats⟩,ty,pos,af,gd⟩ f l K:=⟨λ w next Q ho hk=>by
 subst hi
 obtain ⟨cs,hrun,hle,hmax⟩:=Lib.run_makeNoZero (P:=P) w ps t e ht m hm
 have hav:(#[x]:Array Operand).map (evu n f) = #[.int .i64 m]:=by simp [Zc hx]
 unfold Oper.wp execOp
 rw [Wk]
 have he:((do let c <-resolve (evu n f) ⟨.value (.func g),#[x],ats⟩ ty;invoke c.target c.args):Sem Next).run P w = .ok (.value (.slice (some ⟨w.heap.size,0,none⟩) m cs.size)) (w.drew.drew.alloc (.cells cs e)):=by
  simp only [resolve,hav]
  have hg:evu n f (.func g) = .func (.func g) #[] #[]:=rfl
  have hc:=run_callFunc_extern (P:=P) hf hname hb hn he #[.int .i64 m] w
  rw [hrun] at hc
  simp [hg,Deferred.ofValue,invoke,hc]
 rw [he]
 have ho2:Own B w.drew.drew l:=⟨ho.os,ho.tape,ho.output,ho.ro,ho.has⟩
 have ho3:=ho2.alloc cs.toList e
 have e2:cs.toList.toArray=cs:=by simp
 rw [e2] at ho3
 refine hk _ _ _ (h w.heap.size cs.size (cs.toList.take m) hle) (ho3.map λ _ ⟨h1,h2,dd,a1,a2,hA,H⟩=>⟨h1,h2,dd,a1,a2,?_,H⟩)
 refine ⟨by simp;omega,.inr ⟨w.heap.size,cs.size,cs,rfl,?_,hle,hmax hm2,by simp,by rw [Nat.mul_one]⟩⟩
 have:h1 w.heap.size=some (.cells cs.toList.toArray e (0,0)):=by rw [e2];exact hA
 rwa [e2] at this⟩
theorem Z1 {t e sz:Nat} {x y z:Operand} {p:Option Addr} {m c:Nat} {k k2:IntKind} {i j:Int} (hi mx:Nat) (ht:sliceB P t e sz=true) (hx:ev n f x=some (.slice p m c)) (hy:ev n f y=some (.int k i)) (hz:ev n f z=some (.int k2 j)) (h1:i=(hi:Int)) (h2:j=(mx:Int)) (h3:hi<=mx) (h4:mx<=c) :
  Qt P B n S ⟨d,.slice t x none (some y) (some z),ty,pos,af,gd⟩ f (.slice p hi mx):=⟨λ w _=>by
 subst h1;subst h2
 obtain ⟨hu,hs⟩:=sliceB_spec ht
 obtain ⟨i,hi',his⟩:=info_of_size hs
 subst his
 have h0:(if mx=0 then p else p.map (·.add (0*i.size)))=p:=by
  split
  . rfl
  . cases p <;> simp [Addr.add]
 have h5:hi<=c:=by omega
 have:(Instr.sliceAt t (.slice p m c) none (some (.int k hi)) (some (.int k2 mx))).run P w = .ok (.slice p hi mx) w:=by
  simp [Instr.sliceAt,run_underlying hu,Instr.slice,Instr.sliceBounds,Instr.sliceBound,asIntOf,sizeOf,typeInfo,hi',h3,h4,h5]
  intro _
  cases p <;> simp [Addr.add]
 simp [execOp,Zc hx,Zc hy,Zc hz,this]⟩
theorem YB {t e sz:Nat} {x y:Operand} {p:Option Addr} {m c:Nat} {k:IntKind} {i:Int} (lo:Nat) (p':Option Addr) (m' c':Nat) (hx:ev n f x=some (.slice p m c)) (hy:ev n f y=some (.int k i)) (hi1:i=(lo:Int)) (hp:offA p c lo sz=p') (hm:m-lo=m') (hc:c-lo=c') (ht:sliceB P t e sz=true:=by kernel_rfl) (h1:lo<=m:=by omega) :
  Qt P B n S ⟨d,.slice t x (some y) none none,ty,pos,af,gd⟩ f (.slice p' m' c'):=by
 subst hp;subst hm;subst hc
 exact zP lo (ht:=ht) hx hy hi1 (h1:=h1)
theorem YJ {dT sT e:Nat} {x y:Operand} {a b:Option Addr} {dLen dCap sLen sCap:Nat} {ty2:TypeId} (hx:ev n f x=some (.slice b dLen dCap)) (hy:ev n f y=some (.slice a sLen sCap)) (hm:Nat.min sLen dLen=0)
  (h:K (.int .i64 0) l) (hk:sliceB P dT e 1=true:=by kernel_rfl):Ef P B n ⟨d,.call ⟨.builtin .copy,#[x,y],#[dT,sT]⟩,ty2,pos,af,gd⟩ f l K:=⟨λ w next Q ho hk2=>by
 obtain ⟨hu,hs⟩:=sliceB_spec hk
 have hr:=run_copy_none (P:=P) w dT sT ty2 e b a dLen dCap sLen sCap hu hs hm
 unfold Oper.wp execOp
 simp only [Wk,resolve,invoke,builtin,Sem.run_bind,Sem.run_pure,Result.andThen_ok,List.map_toArray,List.map_cons,List.map_nil,Zc hx,Zc hy,hr]
 exact hk2 _ _ _ h ho⟩
end
theorem flat_take (bs:List (List UInt8)) (k:Nat) (h:k<bs.length):(bs.take (k+1)).flatten=(bs.take k).flatten++bs[k]:=by
 rw [List.take_succ_eq_append_getElem h,List.flatten_append,List.flatten_cons,List.flatten_nil,List.append_nil]
theorem flat_le (bs:List (List UInt8)) (k:Nat):(bs.take k).flatten.length<=bs.flatten.length:=by
 have:bs.flatten=(bs.take k).flatten++(bs.drop k).flatten:=by rw [<-List.flatten_append,List.take_append_drop]
 rw [this,List.length_append];omega
theorem splice_take (C:List Value) (o:Nat) (x:List Value) (h:o+x.length<=C.length):(splice C o x).take (o+x.length)=C.take o++x:=by
 unfold splice
 rw [<-List.append_assoc,List.take_left' (by simp;omega)]
theorem Jn.join (B:Wn) (S:List Wp) (a:Option Addr) (c:Nat) (bs:List (List UInt8)) (hv:PartsV B S (.slice a bs.length c) bs) (hc:bs.length<=c) (hn:bs.length<2^32) (N:Nat) (hN:bs.flatten.length=N) (hN2:N<=2^40):Fn Tryz.prog B 142 #[.slice a bs.length c,.slice none 0 0] S (λ u l => ∃ p c c',u = .slice p N c'/\(0<N -> ∃ g,p=some ⟨g,0,none⟩)/\l=rB (.slice p N c) N bs.flatten::S):=by
 obtain ⟨vs,h1,h2,h3⟩:=hv
 have hz0:=flat_le bs
 refine Wr 92 Tryz.func142 rfl rfl (nB rfl) (λ F=>?_)
 refine TS (La rfl (Ld (Ts (TS ?_))))
 iterate 3 refine Lz ?_
 refine Ld ?_
 refine yN rfl (λ h0=>?_) (λ h0=>?_)
 .
  obtain rfl:bs=[]:=List.eq_nil_of_length_eq_zero (by omega)
  obtain rfl:N=0:=by rw [<-hN];rfl
  refine TS ?_
  refine Le (Y8 Cd.elemB ?_)
  rintro g15
  rw [show (row (.slice (some ⟨g15,0,none⟩) 0 0) 5 1 0 []:Wp)=rB (.slice (some ⟨g15,0,none⟩) 0 0) 0 [] from rfl]
  refine La rfl (Ld (T.ret ?_))
  exact ⟨.inl rfl,_,_,res [_] rfl ⟨rvT rfl,trivial⟩,⟨some ⟨g15,0,none⟩,0,0,rfl,λ h=>by omega,by rw [List.flatten_nil]⟩,Sa⟩
 obtain ⟨g,o,rfl,hcell⟩:=h1.at (by omega)
 obtain ⟨pa,pc,hp0⟩:=(h3 0 (by omega) (by omega)).form (m:=bs[0].length) (by simp)
 have r0:=h3 0 (by omega) (by omega)
 rw [hp0] at r0
 refine Tk (Ts (TS ?_))
 iterate 3 refine Lz ?_
 refine Ld ?_
 refine yN rfl (λ hone=>?_) (λ hone=>?_)
 .
  obtain ⟨x,rfl⟩ : ∃ x,bs=[x]:=by match bs,hone with | [x],_=>exact ⟨x,rfl⟩ | [],e=>simp at e | _::_::_,e=>simp at e;omega
  simp only [List.getElem_cons_zero] at r0
  obtain rfl:x.length=N:=by rw [<-hN];simp
  have hx1:[x].flatten=x:=by simp
  refine TS (Lm rfl (Lq (Qi 0 (e:=97) (sz:=1) rfl rfl rfl) (Lq (zN (v := .slice pa x.length pc) rfl (λ w ho=>by rw [hcell 0 (by simp at h2;omega) w ho.drop,hp0];rfl)) ?_)))
  refine Le (ZA Cd.elemB rfl rfl (SrcOf.rd (m:=x.length) (r0.mono (λ w ho=>ho.drop)) (by kernel_rfl) (by simp) Zu) (by unfold maxLen;omega) (by omega) ?_)
  rintro p1 c1 hp1
  refine La rfl (Ld (T.ret ?_))
  exact ⟨.inl rfl,_,_,res [_] rfl ⟨rvT rfl,trivial⟩,⟨p1,c1,c1,rfl,hp1,by rw [hx1]⟩,Sa⟩
 refine Tk (TS (La rfl (Ld (Ts (TS ?_)))))
 iterate 3 refine Lz ?_
 refine Ld (yQ rfl (Tk (Ts (TS ?_))))
 iterate 3 refine Lz ?_
 refine Ld (yH ?_)
 refine zG (λ mz fz lz => ∃ (f0:Fr) (k m:Nat),(k<=bs.length/\m=(bs.take k).flatten.length)/\mz=bs.length-k/\fz=(upd (upd (upd (upd (upd (upd f0 0 (.slice (some ⟨g,o,none⟩) bs.length c)) 1 (.slice none 0 0)) 5 (.int .i64 m)) 42 (.slice (some ⟨g,o,none⟩) bs.length c)) 43 (.int .i64 bs.length)) 44 (.int .i64 k))/\lz=S++F) ?_ ?_
 . refine ⟨_,_,⟨_,0,0,⟨Nat.zero_le _,rfl⟩,rfl,U6,rfl⟩,Sa⟩
 rintro mz fz lz ⟨f0,k,m,⟨hk,hm⟩,hmz,rfl,rfl⟩
 subst mz
 refine TS (Lq (yM rfl rfl) (Ld (Ts ?_)))
 refine yN rfl (λ hlt=>?_) (λ hlt=>?_)
 .
  obtain ⟨x,hx⟩ : ∃ x,bs[k]'(by omega)=x:=⟨_,rfl⟩
  have hft:=flat_take bs k (by omega)
  rw [hx] at hft
  have hfl:=flat_le bs (k+1)
  rw [hft,List.length_append,<-hm] at hfl
  have rk:=h3 k (by omega) (by omega)
  rw [hx] at rk
  obtain ⟨pk,ck,hpk⟩:=rk.form (m:=x.length) (by simp)
  refine Tk (Ts (yH (TS ?_)))
  refine Lz ?_
  refine Lq (zN (v := .slice pk x.length ck) rfl (λ w ho=>by rw [hcell k (by omega) w ho.drop,hpk])) (La rfl (Ld (Ts (TS ?_))))
  iterate 5 refine Lz ?_
  refine Ld (yL rfl (Tk (TR ?_)))
  iterate 5 refine Lz ?_
  refine Ld (TR ?_)
  iterate 2 refine Lz ?_
  refine Ld ?_
  refine ⟨_,?_,_,⟨_,k+1,m+x.length,⟨by omega,by rw [hft,List.length_append,hm]⟩,rfl,U6,rfl⟩,Sa⟩
  omega
 obtain rfl:k=bs.length:=by omega
 obtain rfl:m=N:=by rw [hm,List.take_length,hN]
 have hfl1:=flat_le bs 1
 have hft0:=flat_take bs 0 (by omega)
 simp only [List.take_zero,List.flatten_nil,List.nil_append,Nat.zero_add] at hft0
 rw [hft0] at hfl1
 by_cases hz:bs[0].length=0
 .
  refine zB (TS (Lm rfl ?_))
  refine Le (YN m Tryz.func172 (by kernel_rfl) (by kernel_rfl) (by kernel_rfl) (ps := #[3]) (t:=97) (by kernel_rfl) Tryz.underlying97 rfl rfl (by omega) (by unfold maxLen;omega) ?_)
  intro g60 c60 xs60 hc60
  refine LW.own (λ w ho=>?_)
  have hxl:xs60.length=m:=by have:=(ho.row_owns).1;simpa using this
  clear ho
  refine Lm rfl (Lm rfl (Lq (Z1 m m (e:=5) (sz:=1) (by kernel_rfl) rfl rfl rfl rfl rfl (by omega) (by omega)) (La rfl (Ld (TS (Lm rfl (Lm rfl (Lq (Qi 0 (e:=97) (sz:=1) rfl rfl rfl) (Lq (zN (v := .slice pa bs[0].length pc) rfl (λ w ho=>by rw [hcell 0 (by omega) w ho.tl.drop,hp0])) ?_)))))))))
  refine Le (YJ (e:=5) rfl rfl (by simp [hz]) ?_)
  refine La rfl (Ld (Ts (TS (Lm rfl (Lq (YB 1 (some ⟨g,o+1*1,none⟩) (bs.length-1) (c-1) (e:=97) (sz:=1) rfl rfl rfl (offA_some) rfl rfl) ?_)))))
  iterate 2 refine Lz ?_
  refine Ld (yH ?_)
  refine zG (λ mz fz lz => ∃ (f0:Fr) (k bp:Nat) (C:List Value),(k+1<=bs.length/\bp=(bs.take (k+1)).flatten.length/\C.length=m/\C.take bp=Zb (bs.take (k+1)).flatten)/\mz=bs.length-1-k/\fz=(upd (upd (upd (upd (upd (upd f0 1 (.slice none 0 0)) 8 (.slice (some ⟨g60,0,none⟩) m m)) 9 (.int .i64 bp)) 70 (.slice (some ⟨g,o+1*1,none⟩) (bs.length-1) (c-1))) 71 (.int .i64 (bs.length-1:Nat))) 72 (.int .i64 k))/\lz=row (.slice (some ⟨g60,0,none⟩) m c60) 5 1 m C::(S++F)) ?_ ?_
  . refine ⟨_,_,⟨_,0,0,xs60,⟨by omega,by rw [hft0,hz],hxl,by rw [hft0,List.eq_nil_of_length_eq_zero hz];rfl⟩,rfl,U6,rfl⟩,Sa⟩
  rintro mz fz lz ⟨f0,k,bp,C,⟨hk,hbp,hC,hpre⟩,hmz,rfl,rfl⟩
  subst mz
  have hbn:=flat_le bs (k+1)
  refine TS (Lq (yM rfl rfl) (Ld (Ts ?_)))
  refine yN rfl (λ hlt=>?_) (λ hlt=>?_)
  .
   obtain ⟨x,hx⟩ : ∃ x,bs[k+1]'(by omega)=x:=⟨_,rfl⟩
   have hft:=flat_take bs (k+1) (by omega)
   rw [hx] at hft
   have hfl:=flat_le bs (k+1+1)
   rw [hft,List.length_append,<-hbp] at hfl
   have rk:=h3 (k+1) (by omega) (by omega)
   rw [hx] at rk
   obtain ⟨pk,ck,hpk⟩:=rk.form (m:=x.length) (by simp)
   rw [hpk] at rk
   refine Tk (Ts (yH (TS ?_)))
   refine Lz ?_
   refine Lq (zN (v := .slice pk x.length ck) rfl (λ w ho=>by have:=hcell (k+1) (by omega) w ho.tl.drop;rw [show o+1*1+k*1=o+(k+1)*1 by omega,this,hpk])) (La rfl (Ld (TS ?_)))
   iterate 3 refine Lz ?_
   refine Lq (zP bp (e:=5) (sz:=1) rfl rfl rfl) (Lm rfl ?_)
   refine Le (YJ (e:=5) rfl rfl (by simp) ?_)
   iterate 2 refine Lz ?_
   refine Ld (TR ?_)
   iterate 3 refine Lz ?_
   refine Lq (zP bp (e:=5) (sz:=1) rfl rfl (by omega)) (Lm rfl ?_)
   by_cases hx0:x.length=0
   .
    refine Le (YJ (e:=5) rfl rfl (by simp [hx0]) ?_)
    iterate 2 refine Lz ?_
    refine Ld (TR ?_)
    iterate 2 refine Lz ?_
    refine Ld ?_
    obtain rfl:x=[]:=List.eq_nil_of_length_eq_zero hx0
    refine ⟨_,?_,_,⟨_,k+1,bp,C,⟨by omega,by rw [hft,hbp];simp,hC,by rw [hft,hpre];simp⟩,rfl,U6,rfl⟩,Sa⟩
    omega
   rw [offA_some (c:=m) (lo:=bp)]
   refine Le (YI (e:=5) (C:=C) (cs:=Zb x) (src:=Zb x) rfl rfl (rk.mono (λ w ho=>ho.tl.drop)) x.length (Nat.min_eq_left (by omega)).symm (by omega) (by rw [List.take_of_length_le (by simp)]) (by simp) Zu (by omega) ?_)
   simp only [Nat.zero_add,Nat.mul_one]
   iterate 2 refine Lz ?_
   refine Ld (TR ?_)
   iterate 2 refine Lz ?_
   refine Ld ?_
   refine ⟨_,?_,_,⟨_,k+1,bp+x.length,splice C bp (Zb x),⟨by omega,by rw [hft,List.length_append,hbp],by rw [length_splice _ _ _ (by simp;omega)];exact hC,by have:=splice_take C bp (Zb x) (by simp;omega);rw [Wd] at this;rw [this,hft,hpre,Zt]⟩,rfl,U6,rfl⟩,Sa⟩
   omega
  have hke:k+1=bs.length:=by omega
  rw [hke,List.take_length] at hbp hpre
  obtain rfl:C=Zb bs.flatten:=by rw [<-hpre,List.take_of_length_le (by omega)]
  refine zB (TS (Lm rfl (La rfl (Ld (T.ret ?_)))))
  exact ⟨.inl rfl,_,_,res [_] rfl ⟨rvT rfl,trivial⟩,⟨some ⟨g60,0,none⟩,c60,m,rfl,λ _=>⟨_,rfl⟩,rfl⟩,Sa⟩
 refine zB (TS (Lm rfl ?_))
 refine Le (YN m Tryz.func172 (by kernel_rfl) (by kernel_rfl) (by kernel_rfl) (ps := #[3]) (t:=97) (by kernel_rfl) Tryz.underlying97 rfl rfl (by omega) (by unfold maxLen;omega) ?_)
 intro g60 c60 xs60 hc60
 refine LW.own (λ w ho=>?_)
 have hxl:xs60.length=m:=by have:=(ho.row_owns).1;simpa using this
 clear ho
 refine Lm rfl (Lm rfl (Lq (Z1 m m (e:=5) (sz:=1) (by kernel_rfl) rfl rfl rfl rfl rfl (by omega) (by omega)) (La rfl (Ld (TS (Lm rfl (Lm rfl (Lq (Qi 0 (e:=97) (sz:=1) rfl rfl rfl) (Lq (zN (v := .slice pa bs[0].length pc) rfl (λ w ho=>by rw [hcell 0 (by omega) w ho.tl.drop,hp0])) ?_)))))))))
 refine Le (YI (e:=5) (C:=xs60) (cs:=Zb bs[0]) (src:=Zb bs[0]) rfl rfl (r0.mono (λ w ho=>ho.tl.drop)) bs[0].length (Nat.min_eq_left (by omega)).symm (by omega) (by rw [List.take_of_length_le (by simp)]) (by simp) Zu (by omega) ?_)
 refine La rfl (Ld (Ts (TS (Lm rfl (Lq (YB 1 (some ⟨g,o+1*1,none⟩) (bs.length-1) (c-1) (e:=97) (sz:=1) rfl rfl rfl (offA_some) rfl rfl) ?_)))))
 iterate 2 refine Lz ?_
 refine Ld (yH ?_)
 refine zG (λ mz fz lz => ∃ (f0:Fr) (k bp:Nat) (C:List Value),(k+1<=bs.length/\bp=(bs.take (k+1)).flatten.length/\C.length=m/\C.take bp=Zb (bs.take (k+1)).flatten)/\mz=bs.length-1-k/\fz=(upd (upd (upd (upd (upd (upd f0 1 (.slice none 0 0)) 8 (.slice (some ⟨g60,0,none⟩) m m)) 9 (.int .i64 bp)) 70 (.slice (some ⟨g,o+1*1,none⟩) (bs.length-1) (c-1))) 71 (.int .i64 (bs.length-1:Nat))) 72 (.int .i64 k))/\lz=row (.slice (some ⟨g60,0,none⟩) m c60) 5 1 m C::(S++F)) ?_ ?_
 . refine ⟨_,_,⟨_,0,bs[0].length,splice xs60 0 (Zb bs[0]),⟨by omega,by rw [hft0],by rw [length_splice _ _ _ (by simp;omega)];exact hxl,by have:=splice_take xs60 0 (Zb bs[0]) (by simp;omega);rw [Wd,Nat.zero_add] at this;rw [this,hft0];simp⟩,rfl,U6,rfl⟩,Sa⟩
 rintro mz fz lz ⟨f0,k,bp,C,⟨hk,hbp,hC,hpre⟩,hmz,rfl,rfl⟩
 subst mz
 have hbn:=flat_le bs (k+1)
 refine TS (Lq (yM rfl rfl) (Ld (Ts ?_)))
 refine yN rfl (λ hlt=>?_) (λ hlt=>?_)
 .
  obtain ⟨x,hx⟩ : ∃ x,bs[k+1]'(by omega)=x:=⟨_,rfl⟩
  have hft:=flat_take bs (k+1) (by omega)
  rw [hx] at hft
  have hfl:=flat_le bs (k+1+1)
  rw [hft,List.length_append,<-hbp] at hfl
  have rk:=h3 (k+1) (by omega) (by omega)
  rw [hx] at rk
  obtain ⟨pk,ck,hpk⟩:=rk.form (m:=x.length) (by simp)
  rw [hpk] at rk
  refine Tk (Ts (yH (TS ?_)))
  refine Lz ?_
  refine Lq (zN (v := .slice pk x.length ck) rfl (λ w ho=>by have:=hcell (k+1) (by omega) w ho.tl.drop;rw [show o+1*1+k*1=o+(k+1)*1 by omega,this,hpk])) (La rfl (Ld (TS ?_)))
  iterate 3 refine Lz ?_
  refine Lq (zP bp (e:=5) (sz:=1) rfl rfl rfl) (Lm rfl ?_)
  refine Le (YJ (e:=5) rfl rfl (by simp) ?_)
  iterate 2 refine Lz ?_
  refine Ld (TR ?_)
  iterate 3 refine Lz ?_
  refine Lq (zP bp (e:=5) (sz:=1) rfl rfl (by omega)) (Lm rfl ?_)
  by_cases hx0:x.length=0
  .
   refine Le (YJ (e:=5) rfl rfl (by simp [hx0]) ?_)
   iterate 2 refine Lz ?_
   refine Ld (TR ?_)
   iterate 2 refine Lz ?_
   refine Ld ?_
   obtain rfl:x=[]:=List.eq_nil_of_length_eq_zero hx0
   refine ⟨_,?_,_,⟨_,k+1,bp,C,⟨by omega,by rw [hft,hbp];simp,hC,by rw [hft,hpre];simp⟩,rfl,U6,rfl⟩,Sa⟩
   omega
  rw [offA_some (c:=m) (lo:=bp)]
  refine Le (YI (e:=5) (C:=C) (cs:=Zb x) (src:=Zb x) rfl rfl (rk.mono (λ w ho=>ho.tl.drop)) x.length (Nat.min_eq_left (by omega)).symm (by omega) (by rw [List.take_of_length_le (by simp)]) (by simp) Zu (by omega) ?_)
  simp only [Nat.zero_add,Nat.mul_one]
  iterate 2 refine Lz ?_
  refine Ld (TR ?_)
  iterate 2 refine Lz ?_
  refine Ld ?_
  refine ⟨_,?_,_,⟨_,k+1,bp+x.length,splice C bp (Zb x),⟨by omega,by rw [hft,List.length_append,hbp],by rw [length_splice _ _ _ (by simp;omega)];exact hC,by have:=splice_take C bp (Zb x) (by simp;omega);rw [Wd] at this;rw [this,hft,hpre,Zt]⟩,rfl,U6,rfl⟩,Sa⟩
  omega
 have hke:k+1=bs.length:=by omega
 rw [hke,List.take_length] at hbp hpre
 obtain rfl:C=Zb bs.flatten:=by rw [<-hpre,List.take_of_length_le (by omega)]
 refine zB (TS (Lm rfl (La rfl (Ld (T.ret ?_)))))
 exact ⟨.inl rfl,_,_,res [_] rfl ⟨rvT rfl,trivial⟩,⟨some ⟨g60,0,none⟩,c60,m,rfl,λ _=>⟨_,rfl⟩,rfl⟩,Sa⟩
open Go.RowKit
instance (priority := low) (g:Nat) (S l:List Wp) (C:List Value) [k:CellsAt g l C]:CellsAt g (S++l) C:=⟨λ _ H=>by
 obtain ⟨_,_,_,_,a,_,e⟩:=Has.split H
 obtain ⟨X,t,fr,hx⟩:=k.find _ e
 exact ⟨X,t,fr,a.p _ _ hx⟩⟩
instance (priority := low) (v:Value) (S l r:List Wp) (e sz n:Nat) (xs:List Value) [k:TakeR v l e sz n xs r]:TakeR v (S++l) e sz n xs (S++r):=⟨λ _ H=>Has.over (Has.app_imp k.take H)⟩
instance (priority := low) (g:Nat) (S l r:List Wp) (C D:List Value) [k:StoreAt g l C D r]:StoreAt g (S++l) C D (S++r):=⟨λ hd h H=>by
 obtain ⟨h1,h2,d,a,b,e1,e2⟩:=Has.split H
 obtain ⟨X,t,m,k1,k2⟩:=k.cut hd h2 e2
 exact ⟨X,t,S++m,Has.over (Has.join d a b e1 k1),λ h' H'=>Has.app_imp k2 (Has.under H')⟩⟩
structure Wl where
 first:Nat
 count:Nat
 st:List UInt8
 sum:UInt32
 dur:Nat
abbrev wlB (g b:Nat) (W:Wl) (p:Option Addr) (c:Nat):Wp:=blk g [.pointer (some ⟨b,0,none⟩),.int .i64 W.first,.int .i64 W.count,.slice p W.st.length c,.int .u32 W.sum.toNat,.int .i64 W.dur] 210
def wlA (g b:Nat) (W:Wl):Wp:=λ h => ∃ p c,Has [wlB g b W p c,rB (.slice p W.st.length c) W.st.length W.st] h
section
variable {P : Program} {B:Wn} {n:Nat} {l r F:List Wp} {f:Fr} {Φ:Post} {c:Code} {w:World}
theorem Own.openWl {g b:Nat} {W:Wl} (H:Own B w (wlA g b W::l)) : ∃ p c,Own B w (wlB g b W p c::rB (.slice p W.st.length c) W.st.length W.st::l):=by
 obtain ⟨h,hd,hl,h1,h2,d,a1,a2,⟨p,c,e⟩,H2⟩:=H.has
 exact ⟨p,c,H.os,H.tape,H.output,H.ro,h,hd,hl,Has.join d a1 a2 e H2⟩
theorem ZG (g b:Nat) (W:Wl) [k:TakeA (wlA g b W) l r] (h : ∀ p cc,(0<W.st.length -> ∃ g,p=some ⟨g,0,none⟩)->W.st.length<=cc->T P B n c Φ f (wlB g b W p cc::rB (.slice p W.st.length cc) W.st.length W.st::r)):T P B n c Φ f l:=⟨λ Q w hf ho=>by
 obtain ⟨p,cc,e⟩:=(ho.take (k:=k)).openWl
 exact (h p cc (e.tl.slice_at (p:=p) (m:=W.st.length) (c:=cc)).2.1 (e.tl.cap_at (p:=p) (m:=W.st.length) (c:=cc))).run Q w hf e⟩
theorem Sub.wl (g b:Nat) (W:Wl) (p:Option Addr) (cc:Nat) {m:List Wp} [k:TakeL [wlB g b W p cc,rB (.slice p W.st.length cc) W.st.length W.st] l r] [t:SubC (wlA g b W::r) m]:Sub l m:=λ h H=>by
 obtain ⟨h1,h2,d,a1,a2,k1,k2⟩:=Has.split (k.take h H)
 exact t.sub h ⟨h1,h2,d,a1,a2,⟨p,cc,k1⟩,k2⟩
end
theorem PartsV.blk3 {B:Wn} {L:List Wp} {g:Nat} {v1 v2 v3:Value} {b1 b2 b3:List UInt8} (h1:RdV B L v1 (Zb b1)) (h2:RdV B L v2 (Zb b2)) (h3:RdV B L v3 (Zb b3)) [k:Rd B g L [v1,v2,v3]]:PartsV B L (.slice (some ⟨g,0,none⟩) 3 3) [b1,b2,b3]:=by
 refine ⟨[v1,v2,v3],⟨_,3,rfl,.inr ⟨g,0,rfl,λ w ho=>ho.range (g:=g) (C:=[v1,v2,v3]) (λ j u hj=>by rw [Nat.zero_add];exact hj)⟩⟩,rfl,λ i i1 i2=>?_⟩
 match i,i1 with
 | 0,_=>exact h1
 | 1,_=>exact h2
 | 2,_=>exact h3
theorem wru64_u32 (x:UInt32):IntKind.u64.wrap (x.toNat:Int)=(x.toUInt64.toNat:Int):=by
 rw [wru64 (h1:=(by have:=x.toNat_lt;omega)),UInt32.toNat_toUInt64]
def sealW (last:UInt32) (at_:Int) (data:List UInt8):UInt32:=crc (be last.toUInt64 4++be (UInt64.ofInt at_) 8++data)
theorem Wl.seal (B:Wn) (S:List Wp) (last:UInt32) (at_:Int) (a:Option Addr) (m c:Nat) (data:List UInt8) (hv:RdV B S (.slice a m c) (Zb data)) (hm:data.length=m) (hl:m<2^40):Fn Tryz.prog B 88 #[.int .u32 last.toNat,.int .i64 at_,.slice a m c] S (λ u l=>u = .int .u32 (sealW last at_ data).toNat/\l=S):=by
 refine Ws 16 Tryz.func88 rfl rfl (nB rfl) (λ F=>?_)
 refine TS (La rfl (Ld (TS (Lm rfl (Lq (yX rfl (wru64_u32 last)) ?_)))))
 refine Le (Ec (Cd.put B [] (.slice none 0 0) [] 0 rfl last.toUInt64 4 4 rfl (by omega) (RdV.nil [] 0) (by omega)) Tryz.func95 rfl rfl rfl ?_)
 rintro _ _ ⟨p1,c1,rfl,rfl⟩
 try simp only [cA,nA]
 simp only [Nat.zero_add,List.nil_append]
 refine Lm rfl (Lq (yX rfl (wru64_i64 _)) ?_)
 refine Le (Ec (Cd.put B [] (.slice none 0 0) [] 0 rfl (UInt64.ofInt at_) 8 8 rfl (by omega) (RdV.nil [] 0) (by omega)) Tryz.func95 rfl rfl rfl ?_)
 rintro _ _ ⟨p2,c2,rfl,rfl⟩
 try simp only [cA,nA]
 simp only [Nat.zero_add,List.nil_append]
 refine LW.own (λ w ho=>?_)
 have hp1:=(ho.slice_at (p:=p1) (m:=4) (c:=c1)).2.1
 have hp2:=(ho.slice_at (p:=p2) (m:=8) (c:=c2)).2.1
 clear ho
 refine Lm rfl ?_
 refine Le (ZC [_,_,_] (e:=97) (by kernel_rfl) (by kernel_rfl) rfl (by simp [Value.cells]) rfl (by omega) (by omega) ?_)
 intro g14
 refine Le (Y7 (Cd.sum B _ _ [be last.toUInt64 4,be (UInt64.ofInt at_) 8,data] (PartsV.blk3 ((RdV.rB (Zd _ _) hp1).mono (λ w ho=>ho.map Sa)) ((RdV.rB (Zd _ _) hp2).mono (λ w ho=>ho.map Sa)) (hv.mono (λ w ho=>ho.map Sa))) (by simp) (by intro b hb;simp at hb;rcases hb with rfl | rfl | rfl <;> simp [Zd];omega)) Tryz.func96 rfl rfl rfl ?_)
 rintro _ _ ⟨rfl,rfl⟩
 refine La rfl (Ld (T.ret ?_))
 exact ⟨.inl rfl,_,_,res [_] rfl ⟨rvT rfl,trivial⟩,⟨by simp [sealW,outV],rfl⟩,Sa⟩
theorem Wl.size (B:Wn) (v:Value) (first:Int) (count:Nat) (h:count<=4096):Fn Tryz.prog B 124 #[.agg #[v,.int .i64 first,.int .i64 count]] [] (λ u l=>u = .int .i64 ((count:Int)*256)/\l=[]):=by
 refine Wq 6 Tryz.func124 rfl rfl (nB rfl) (λ F=>?_)
 try simp only [cA,nA]
 refine TS ?_
 refine Le (zL [_,_,_] rfl rfl ?_)
 intro g1
 refine La rfl (Ld (TS ?_))
 iterate 4 refine Lz ?_
 refine Ld (T.ret ?_)
 exact ⟨.inl rfl,_,_,res [_] rfl ⟨rvT rfl,trivial⟩,⟨rfl,rfl⟩,Sa⟩
theorem Wl.endOf (B:Wn) (g b:Nat) (W:Wl) (h:W.st.length<2^40):Fn Tryz.prog B 129 #[.pointer (some ⟨g,0,none⟩)] [wlA g b W] (λ u l=>u = .int .i64 W.st.length/\l=[wlA g b W]):=by
 refine Wq 8 Tryz.func129 rfl rfl (nB rfl) (λ F=>?_)
 try simp only [cA,nA]
 refine ZG g b W (λ p c hp hc=>?_)
 refine TS (La rfl (Ld (TS ?_)))
 iterate 6 refine Lz ?_
 refine Ld (T.ret ?_)
 exact ⟨.inl rfl,_,_,res [_] rfl ⟨rvT rfl,trivial⟩,⟨rfl,rfl⟩,Sub.wl g b W p c⟩
theorem Wl.left (B:Wn) (g b:Nat) (W:Wl) (h:W.st.length<2^40) (hcnt:W.count<=4096):Fn Tryz.prog B 76 #[.pointer (some ⟨g,0,none⟩)] [wlA g b W] (λ u l=>u = .int .i64 ((W.count:Int)*256-W.st.length)/\l=[wlA g b W]):=by
 refine Wq 14 Tryz.func76 rfl rfl (nB rfl) (λ F=>?_)
 try simp only [cA,nA]
 refine ZG g b W (λ p c hp hc=>?_)
 refine TS (La rfl (Ld (Ts (zU 11 (nB rfl) ?_))))
 refine Rz 0 ?_;refine Rz 1 ?_;refine Rz 2 ?_;refine Rz 3 ?_;refine Rz 5 ?_;refine Rz 6 ?_;refine Rz 7 ?_;refine Rz 8 ?_;refine Rz 9 ?_
 refine yK 4 ?_
 refine ZK rfl (Ec (Wl.size B (.pointer (some ⟨b,0,none⟩)) W.first W.count hcnt) Tryz.func124 rfl rfl rfl ?_)
 rintro _ _ ⟨rfl,rfl⟩
 try simp only [cA,nA]
 refine ⟨Sa,?_⟩
 refine Rz 10 ?_
 refine Rd0 (by rfl) ?_
 simp only [dS,dZ,dN]
 refine La rfl (Ld (T.ret ?_))
 exact ⟨.inl rfl,_,_,res [_] rfl ⟨rvT rfl,trivial⟩,⟨rfl,rfl⟩,Sub.wl g b W p c⟩
open Go.RowKit
def secW (st:List UInt8) (n:Nat):List UInt8:=(st.drop (n*256)).take 256++List.replicate (256-((st.drop (n*256)).take 256).length) 0
theorem length_secW (st:List UInt8) (n:Nat):(secW st n).length=256:=by simp [secW];omega
theorem secW_none {st:List UInt8} {n:Nat} (h:st.length<=n*256):secW st n=List.replicate 256 0:=by
 unfold secW;rw [List.drop_of_length_le h];rfl
theorem splice_sec (st:List UInt8) (n:Nat):splice (Zb (List.replicate 256 0)) 0 ((Zb (st.drop (n*256))).take (Nat.min (st.length-n*256) 256))=Zb (secW st n):=by
 have e:(Zb (st.drop (n*256))).take (Nat.min (st.length-n*256) 256)=Zb ((st.drop (n*256)).take 256):=by
  rw [show Nat.min (st.length-n*256) 256=Min.min (st.drop (n*256)).length 256 by rw [List.length_drop]]
  unfold Zb
  rw [<-List.map_take,Nat.min_comm,<-List.take_take,List.take_length]
 rw [e]
 unfold splice secW
 rw [Nat.zero_add,List.take_zero,List.nil_append,Wd,Zt]
 congr 1
 unfold Zb
 rw [<-List.map_drop,List.drop_replicate]
theorem row_bytes {p:Option Addr} {g m c:Nat} {b:List UInt8} (h:Piece) (k:rB (.slice (some ⟨g,0,none⟩) m c) m b h) : ∃ C t fr,h g=some (.cells C t fr) /\ ∀ j v,(Zb b)[j]? = some v->C[0+j]? = some v:=by
  obtain ⟨hl,⟨e,_⟩ | ⟨g',cap,cur,e1,e2,_,_,_,e3⟩⟩:=k
  . cases e
  . injection e1 with e1 _ _
    injection e1 with e1
    injection e1 with e1
    subst e1
    refine ⟨cur,_,_,e2,λ j v hv=>?_⟩
    rw [<-e3,List.getElem?_take] at hv
    split at hv
    . rw [Nat.zero_add];simpa using hv
    . cases hv
theorem Wl.lay (B:Wn) (g b:Nat) (W:Wl) (p:Option Addr) (c:Nat) (hp:0<W.st.length -> ∃ g,p=some ⟨g,0,none⟩) (hc:W.st.length<=c) (D:DD) (n:Nat) (hn:n<W.count) (hD:W.first+W.count<=D.secs.length) (hs:D.secs.length<=4096) (hst:W.st.length<2^40) (hroom:D.pend.length<2^32):Fn Tryz.prog B 132 #[.pointer (some ⟨g,0,none⟩),.int .i64 n] [wlB g b W p c,rB (.slice p W.st.length c) W.st.length W.st,Zn b D] (λ u l=>u = .tuple #[]/\l=[wlB g b W p c,rB (.slice p W.st.length c) W.st.length W.st,Zn b (D.write (W.first+n) (secW W.st n))]):=by
 refine Wr 38 Tryz.func132 rfl rfl (nB rfl) (λ F=>?_)
 try simp only [cA,nA]
 refine TS ?_
 refine Le (YK 256 (.int .u8 0) 1 Cd.elemB rfl rfl rfl rfl (by unfold maxLen;omega) ?_)
 rintro g6
 rw [made_bytes]
 refine La rfl (Ld (Ts (TS ?_)))
 iterate 3 refine Lz ?_
 refine Ld (TS ?_)
 iterate 7 refine Lz ?_
 refine Ld ?_
 refine yN rfl (λ hlt=>?_) (λ hlt=>?_)
 .
  obtain ⟨gs,rfl⟩:=hp (by omega)
  have hsrc:RdV B [rB (.slice (some ⟨gs,0,none⟩) W.st.length c) W.st.length W.st] (.slice (some ⟨gs,0+n*256,none⟩) (W.st.length-n*256) (c-n*256)) (Zb (W.st.drop (n*256))):=by have:=(RdV.rB (B:=B) (p:=some ⟨gs,0,none⟩) (c:=c) (b:=W.st) rfl (λ _=>⟨_,rfl⟩)).sub (n*256) W.st.length (c-n*256) (by omega) (by simp) (some ⟨gs,0+n*256,none⟩) (λ _ b' o' e=>by cases e;rfl);rwa [List.take_of_length_le (by simp),show (Zb W.st).drop (n*256)=Zb (W.st.drop (n*256)) by simp [Zb]] at this
  refine TR ?_
  iterate 6 refine Lz ?_
  refine Lq (YB (n*256) (some ⟨gs,0+n*256,none⟩) (W.st.length-n*256) (c-n*256) (e:=5) (sz:=1) rfl rfl (by omega) (by rw [offA_some,Nat.mul_one]) rfl rfl) ?_
  refine Le (YI (e:=5) (C:=Zb (List.replicate 256 0)) (cs:=(Zb (W.st.drop (n*256))).take (Nat.min (W.st.length-n*256) 256)) (src:=Zb (W.st.drop (n*256))) rfl rfl (hsrc.mono (λ w ho=>ho.map Sa)) (Nat.min (W.st.length-n*256) 256) rfl (by show 0<Min.min _ _;omega) rfl (by simp) Zu (by rw [Wd,List.length_replicate];show 0+Min.min _ _<=_;omega) ?_)
  rw [splice_sec]
  refine Ld (zW 14 none (nB rfl) ?_)
  refine Rz 0 ?_;refine Rz 1 ?_;refine Rz 2 ?_;refine Rz 3 ?_;refine Rz 4 ?_;refine Rz 5 ?_;refine Rz 6 ?_;refine Rz 7 ?_;refine Rz 8 ?_;refine Rz 9 ?_;refine Rz 10 ?_;refine Rz 11 ?_;refine Rz 12 ?_
  refine yK 13 ?_
  refine zY rfl (Ec (Dk.writeF B b D (rB (.slice (some ⟨g6,0,none⟩) 256 256) 256 (secW W.st n)) g6 0 256 (W.first+n) _ (secW W.st n) (row_bytes (p:=none)) (length_secW _ _) hroom) Tryz.func120 rfl rfl rfl ?_)
  rintro _ _ ⟨rfl,rfl⟩
  try simp only [cA,nA]
  refine Rd0 (by rfl) ?_
  simp only [dS,dZ,dN]
  refine Ld ?_
  exact ⟨.inr rfl,_,_,res [] rfl trivial,⟨rfl,rfl⟩,Sa⟩
 rw [<-secW_none (st:=W.st) (n:=n) (by omega)]
 refine Tk (zW 14 none (nB rfl) ?_)
 refine Rz 0 ?_;refine Rz 1 ?_;refine Rz 2 ?_;refine Rz 3 ?_;refine Rz 4 ?_;refine Rz 5 ?_;refine Rz 6 ?_;refine Rz 7 ?_;refine Rz 8 ?_;refine Rz 9 ?_;refine Rz 10 ?_;refine Rz 11 ?_;refine Rz 12 ?_
 refine yK 13 ?_
 refine zY rfl (Ec (Dk.writeF B b D (rB (.slice (some ⟨g6,0,none⟩) 256 256) 256 (secW W.st n)) g6 0 256 (W.first+n) _ (secW W.st n) (row_bytes (p:=none)) (length_secW _ _) hroom) Tryz.func120 rfl rfl rfl ?_)
 rintro _ _ ⟨rfl,rfl⟩
 try simp only [cA,nA]
 refine Rd0 (by rfl) ?_
 simp only [dS,dZ,dN]
 refine Ld ?_
 exact ⟨.inr rfl,_,_,res [] rfl trivial,⟨rfl,rfl⟩,Sa⟩
def laysW (W:Wl):DD->Nat->Nat->DD
 | D,_,0=>D
 | D,n,k+1=>laysW W (D.write (W.first+n) (secW W.st n)) (n+1) k
def flushN (W:Wl):Nat:=(W.st.length+255)/256-W.dur/256
abbrev flushD (W:Wl) (D:DD):DD:=(laysW W D (W.dur/256) (flushN W)).sync
abbrev Wl.flushed (W:Wl):Wl:={W with dur:=W.st.length}
theorem quo256i (m:Nat) (h:m<2^62):IntKind.i64.wrap ((m:Int).tdiv 256)=((m/256:Nat):Int):=by
 have:(m:Int).tdiv 256=((m/256:Nat):Int):=rfl
 rw [this];exact Ze
theorem Wl.durableB (B:Wn) (g b:Nat) (W:Wl) (p:Option Addr) (c:Nat) (h:W.dur<2^40):Fn Tryz.prog B 143 #[.pointer (some ⟨g,0,none⟩)] [wlB g b W p c] (λ u l=>u = .int .i64 W.dur/\l=[wlB g b W p c]):=by
 refine Wq 7 Tryz.func143 rfl rfl (nB rfl) (λ F=>?_)
 try simp only [cA,nA]
 refine TS (La rfl (Ld (TS ?_)))
 iterate 5 refine Lz ?_
 refine Ld (T.ret ?_)
 exact ⟨.inl rfl,_,_,res [_] rfl ⟨rvT rfl,trivial⟩,⟨rfl,rfl⟩,Sa⟩
theorem Wl.endB (B:Wn) (g b:Nat) (W:Wl) (p:Option Addr) (c:Nat) (h:W.st.length<2^40):Fn Tryz.prog B 129 #[.pointer (some ⟨g,0,none⟩)] [wlB g b W p c] (λ u l=>u = .int .i64 W.st.length/\l=[wlB g b W p c]):=by
 refine Wq 8 Tryz.func129 rfl rfl (nB rfl) (λ F=>?_)
 try simp only [cA,nA]
 refine TS (La rfl (Ld (TS ?_)))
 iterate 6 refine Lz ?_
 refine Ld (T.ret ?_)
 exact ⟨.inl rfl,_,_,res [_] rfl ⟨rvT rfl,trivial⟩,⟨rfl,rfl⟩,Sa⟩
theorem Wl.force_no (B:Wn) (g b:Nat) (W:Wl) (p:Option Addr) (c:Nat) (mark:Int) (hd:W.dur<2^40) (h:mark<=W.dur\/W.dur=W.st.length):Fn Tryz.prog B 128 #[.pointer (some ⟨g,0,none⟩),.int .i64 mark] [wlB g b W p c] (λ u l=>u = .tuple #[]/\l=[wlB g b W p c]):=by
 refine Wr 53 Tryz.func128 rfl rfl (nB rfl) (λ F=>?_)
 try simp only [cA,nA]
 refine Ts (Ts (zU 16 (nB rfl) ?_))
 refine Rz 0 ?_;refine Rz 1 ?_
 refine yK 2 ?_
 refine zY rfl (Ec (Wl.durableB B g b W p c hd) Tryz.func143 rfl rfl rfl ?_)
 rintro _ _ ⟨rfl,rfl⟩
 try simp only [cA,nA]
 refine Rz 3 ?_;refine Rz 4 ?_
 refine YE (t:=9) rfl (λ h1=>?_) (λ h1=>?_)
 .
  try replace h1:=of_decide_eq_true h1
  refine Rz 5 ?_;refine Rz 6 ?_;refine Rz 7 ?_;refine Rz 8 ?_;refine Rz 9 ?_;refine Rz 10 ?_;refine Rz 11 ?_;refine Rz 12 ?_;refine Rz 13 ?_;refine Rz 14 ?_;refine Rz 15 ?_
  refine Rd0 (by rfl) ?_
  simp only [dS,dZ,dN]
  refine Ld (zF rfl (T.ret ?_))
  exact ⟨.inl rfl,_,_,res [] rfl trivial,⟨rfl,rfl⟩,Sa⟩
 try replace h1:=of_decide_eq_false h1
 refine Rz 5 ?_;refine Rz 6 ?_;refine Rz 7 ?_;refine Rz 8 ?_;refine Rz 9 ?_;refine Rz 10 ?_;refine Rz 11 ?_;refine Rz 12 ?_;refine Rz 13 ?_;refine Rz 14 ?_;refine Rz 15 ?_
 refine Rd0 (by rfl) ?_
 simp only [dS,dZ,dN]
 refine Ld (zM rfl (T.ret ?_))
 exact ⟨.inl rfl,_,_,res [] rfl trivial,⟨rfl,rfl⟩,Sa⟩
theorem Wl.force (B:Wn) (g b:Nat) (W:Wl) (p:Option Addr) (c:Nat) (hp:0<W.st.length -> ∃ g,p=some ⟨g,0,none⟩) (hc:W.st.length<=c) (D:DD) (mark:Int) (hD:W.first+W.count<=D.secs.length) (hs:D.secs.length<=4096) (hst:W.st.length<=W.count*256) (hdur:W.dur<=W.st.length) (hroom:D.pend.length+4096<2^32) (h1:W.dur<mark) (h2:W.dur≠W.st.length) :
  Fn Tryz.prog B 128 #[.pointer (some ⟨g,0,none⟩),.int .i64 mark] [wlB g b W p c,rB (.slice p W.st.length c) W.st.length W.st,Zn b D] (λ u l=>u = .tuple #[]/\l=[wlB g b W.flushed p c,rB (.slice p W.st.length c) W.st.length W.st,Zn b (flushD W D)]):=by
 refine Wr 53 Tryz.func128 rfl rfl (nB rfl) (λ F=>?_)
 try simp only [cA,nA]
 refine Ts (Ts (zU 16 (nB rfl) ?_))
 refine Rz 0 ?_;refine Rz 1 ?_
 refine yK 2 ?_
 refine zY rfl (Ec (Wl.durableB B g b W p c (by omega)) Tryz.func143 rfl rfl rfl ?_)
 rintro _ _ ⟨rfl,rfl⟩
 try simp only [cA,nA]
 refine Rz 3 ?_;refine Rz 4 ?_
 refine ZD (t:=9) rfl (decide_eq_false (by omega)) ?_
 refine Rz 5 ?_;refine Rz 6 ?_;refine Rz 7 ?_;refine Rz 8 ?_;refine Rz 9 ?_;refine Rz 10 ?_;refine Rz 11 ?_;refine Rz 12 ?_;refine Rz 13 ?_;refine Rz 14 ?_;refine Rz 15 ?_
 refine Rd0 (by rfl) ?_
 simp only [dS,dZ,dN]
 refine Ld (yL rfl (Tk (Ts (TS ?_))))
 iterate 4 refine Lz ?_
 refine Lq (ZR rfl rfl (quo256i W.dur (by omega))) (La rfl (Ld (yH ?_)))
 refine zG (λ mz fz lz => ∃ (f0:Fr) (n:Nat) (D':DD),(W.dur/256<=n/\n<=(W.st.length+255)/256/\D'.secs.length=D.secs.length/\D'.pend.length+W.dur/256=D.pend.length+n/\laysW W D' n ((W.st.length+255)/256-n)=laysW W D (W.dur/256) (flushN W))/\mz=(W.st.length+255)/256-n/\fz=(upd (upd f0 0 (.pointer (some ⟨g,0,none⟩))) 4 (.int .i64 n))/\lz=wlB g b W p c::rB (.slice p W.st.length c) W.st.length W.st::Zn b D'::F) ?_ ?_
 . refine ⟨_,_,⟨_,W.dur/256,D,⟨Nat.le_refl _,by omega,rfl,rfl,rfl⟩,rfl,U2,rfl⟩,Sa⟩
 rintro mz fz lz ⟨f0,n,D',⟨hn1,hn2,hs',hpend,hlay⟩,hmz,rfl,rfl⟩
 subst mz
 refine Ts (TS ?_)
 iterate 8 refine Lz ?_
 refine Ld ?_
 refine yN rfl (λ hlt=>?_) (λ hlt=>?_)
 .
  refine Tk (Ts (yH (TR (Lm rfl (Lm rfl ?_)))))
  refine Le (Ec (Wl.lay B g b W p c hp hc D' n (by omega) (by omega) (by omega) (by omega) (by omega)) Tryz.func132 rfl rfl rfl ?_)
  rintro _ _ ⟨rfl,rfl⟩
  try simp only [cA,nA]
  refine Ld (TR ?_)
  iterate 3 refine Lz ?_
  refine Ld ?_
  refine ⟨_,?_,_,⟨_,n+1,D'.write (W.first+n) (secW W.st n),⟨by omega,by omega,hs',by simp [DD.write];omega,by rw [<-hlay,show (W.st.length+255)/256-n=((W.st.length+255)/256-(n+1))+1 by omega];rfl⟩,rfl,U2,rfl⟩,Sa⟩
  omega
 obtain rfl:n=(W.st.length+255)/256:=by omega
 rw [Nat.sub_self] at hlay
 obtain rfl:D'=laysW W D (W.dur/256) (flushN W):=hlay
 refine zB (TS ?_)
 iterate 5 refine Lz ?_
 refine Le (Ec (Dk.syncF B b (laysW W D (W.dur/256) (flushN W))) Tryz.func121 rfl rfl rfl ?_)
 rintro _ _ ⟨rfl,rfl⟩
 try simp only [cA,nA]
 refine Ld (TR ?_)
 iterate 8 refine Lz ?_
 refine L0 (E1 (by kernel_rfl) rfl rfl rfl (by first | (simp;done) | (simp;omega)) ?_)
 try simp only [List.set_cons_zero,List.set_cons_succ]
 refine Ld ?_
 exact ⟨.inr rfl,_,_,res [] rfl trivial,⟨rfl,rfl⟩,Sa⟩
open Go.RowKit
theorem RdV.takeAll {B:Wn} {S:List Wp} {a:Option Addr} {m c:Nat} {cs:List Value} (h:RdV B S (.slice a m c) cs) (c':Nat):RdV B S (.slice a m c') cs:=by
 obtain ⟨a2,c2,e,h⟩:=h
 injection e with e1 e2 _
 subst e1;subst e2
 exact ⟨a,c',rfl,h⟩
instance (priority := low) (S l r m:List Wp) [k:TakeL S l r] [t:SubC r m]:SubC l (S++m):=⟨λ _ H=>by
 obtain ⟨h1,h2,d,a,b,e1,e2⟩:=Has.split (k.take _ H)
 exact Has.join d a b e1 (t.sub _ e2)⟩
theorem Fn.own {P:Program} {B:Wn} {g:FuncId} {args:Array Value} {pre:List Wp} {R:Value->List Wp->Prop} (h:Fn P B g args pre R):Fn P B g args pre (λ v l=>R v l /\ ∃ w F,Own B w (l++F)):=⟨λ w F ho=>(h.run w F ho).mono λ _ w' ⟨v,l,a,b,c⟩=>⟨v,l,a,⟨b,w',F,c⟩,c⟩⟩
theorem Cd.putP (B:Wn) (S:List Wp) (v:Value) (b:List UInt8) (m:Nat) (hm:b.length=m) (n:UInt64) (i:Int) (k:Nat) (hi:i=k) (hv:RdV B S v (Zb b)) (hk:k<=8:=by omega) (hb:m<2^40:=by omega):Fn Tryz.prog B 95 #[v,.int .u64 n.toNat,.int .i64 i] S (λ u l => ∃ p c,u = .slice p (m+k) c/\(0<m+k -> ∃ g,p=some ⟨g,0,none⟩)/\l=rB (.slice p (m+k) c) (m+k) (b++be n k)::S):=(Cd.put B S v b m hm n i k hi hk hv hb).own.mono λ v l ⟨⟨p,c,e1,e2⟩,w,F,ho⟩=>by
 subst e2
 rw [List.cons_append] at ho
 exact ⟨p,c,e1,(ho.slice_at (p:=p) (m:=m+k) (c:=c)).2.1,rfl⟩
def addW (W:Wl) (data:List UInt8):Wl×Int×Int :=
 if data.length=0 then (W,0,5)
 else if 1024<data.length then (W,0,2)
 else if W.count*256<W.st.length+8+data.length then (W,0,3)
 else ({W with st:=W.st++be (UInt64.ofInt data.length) 4++be (sealW W.sum W.st.length data).toUInt64 4++data,sum:=sealW W.sum W.st.length data},(W.st.length:Int)+8+data.length,0)
theorem Wl.append_no (B:Wn) (S:List Wp) (g b:Nat) (W:Wl) (p:Option Addr) (cc:Nat) (a:Option Addr) (c:Nat) (bs:List (List UInt8)) (hv:PartsV B S (.slice a bs.length c) bs) (hc:bs.length<=c) (hn:bs.length<2^32) (hN2:bs.flatten.length<=2^40) (hcnt:W.count<=4096) (hst:W.st.length<=W.count*256) (code:Int)
  (h:(bs.flatten.length=0/\code=5)\/(bs.flatten.length≠0/\1024<bs.flatten.length/\code=2)\/(bs.flatten.length≠0/\bs.flatten.length<=1024/\W.count*256<W.st.length+8+bs.flatten.length/\code=3)) :
  Fn Tryz.prog B 127 #[.pointer (some ⟨g,0,none⟩),.slice a bs.length c] (wlB g b W p cc::S) (λ u l=>u = .tuple #[.int .i64 0,.int .i64 code]/\l=wlB g b W p cc::S):=by
 obtain ⟨N,hN⟩ : ∃ N,bs.flatten.length=N:=⟨_,rfl⟩
 rw [hN] at h hN2
 refine Wr 75 Tryz.func127 rfl rfl (nB rfl) (λ F=>?_)
 try simp only [cA,nA]
 refine TS (La rfl (La rfl (Ld (TS (Lm rfl ?_)))))
 refine Le (Ec (Jn.join B S a c bs hv hc hn N hN hN2) Tryz.func142 rfl rfl rfl ?_)
 rintro _ _ ⟨p8,c8,c9,rfl,hp8,rfl⟩
 try simp only [cA,nA]
 refine La rfl (Ld (Ts (yH (TS ?_))))
 iterate 4 refine Lz ?_
 refine Ld ?_
 refine yN rfl (λ h0=>?_) (λ h0=>?_)
 .
  obtain rfl:code=5:=by omega
  refine TS (La rfl (La rfl (Ld (T.ret ?_))))
  exact ⟨.inl rfl,_,_,res [_,_] rfl ⟨rvT rfl,rvT rfl,trivial⟩,⟨rfl,rfl⟩,Sa⟩
 refine TS ?_
 iterate 4 refine Lz ?_
 refine Ld ?_
 refine yN rfl (λ h1=>?_) (λ h1=>?_)
 .
  obtain rfl:code=2:=by omega
  refine TS (La rfl (La rfl (Ld (T.ret ?_))))
  exact ⟨.inl rfl,_,_,res [_,_] rfl ⟨rvT rfl,rvT rfl,trivial⟩,⟨rfl,rfl⟩,Sa⟩
 obtain ⟨hbig,rfl⟩:W.count*256<W.st.length+8+N/\code=3:=by omega
 refine Ts (zU 16 (nB rfl) ?_)
 refine Rz 0 ?_;refine Rz 1 ?_;refine Rz 2 ?_;refine Rz 3 ?_;refine Rz 4 ?_;refine Rz 5 ?_;refine Rz 6 ?_;refine Rz 7 ?_;refine Rz 8 ?_;refine Rz 9 ?_;refine Rz 10 ?_;refine Rz 11 ?_;refine Rz 12 ?_
 refine yK 13 ?_
 refine ZK rfl (Ec (Wl.size B (.pointer (some ⟨b,0,none⟩)) W.first W.count hcnt) Tryz.func124 rfl rfl rfl ?_)
 rintro _ _ ⟨rfl,rfl⟩
 try simp only [cA,nA]
 refine ⟨Sa,?_⟩
 refine Rz 14 ?_;refine Rz 15 ?_
 refine Rd0 (by rfl) ?_
 simp only [dS,dZ,dN]
 refine Ld (zM rfl (TS (La rfl (La rfl (Ld (T.ret ?_))))))
 exact ⟨.inl rfl,_,_,res [_,_] rfl ⟨rvT rfl,rvT rfl,trivial⟩,⟨rfl,rfl⟩,Sa⟩
theorem Wl.append (B:Wn) (S:List Wp) (g b:Nat) (W:Wl) (p:Option Addr) (cc:Nat) (hp:0<W.st.length -> ∃ g,p=some ⟨g,0,none⟩) (a:Option Addr) (c:Nat) (bs:List (List UInt8)) (hv:PartsV B S (.slice a bs.length c) bs) (hc:bs.length<=c) (hn:bs.length<2^32) (hcnt:W.count<=4096) (data:List UInt8) (hdata:bs.flatten=data) (h0:data.length≠0) (h1:data.length<=1024) (h2:W.st.length+8+data.length<=W.count*256) :
  Fn Tryz.prog B 127 #[.pointer (some ⟨g,0,none⟩),.slice a bs.length c] (wlB g b W p cc::rB (.slice p W.st.length cc) W.st.length W.st::S) (λ u l => ∃ p' c',u = .tuple #[.int .i64 (addW W data).2.1,.int .i64 0]/\(0<(addW W data).1.st.length -> ∃ g,p'=some ⟨g,0,none⟩)/\l=wlB g b (addW W data).1 p' c'::rB (.slice p' (addW W data).1.st.length c') (addW W data).1.st.length (addW W data).1.st::S):=by
 have hadd:addW W data=({W with st:=W.st++be (UInt64.ofInt data.length) 4++be (sealW W.sum W.st.length data).toUInt64 4++data,sum:=sealW W.sum W.st.length data},(W.st.length:Int)+8+data.length,0):=by
  unfold addW;rw [if_neg h0,if_neg (by omega),if_neg (by omega)]
 rw [hadd]
 obtain ⟨N,hN⟩ : ∃ N,data.length=N:=⟨_,rfl⟩
 obtain ⟨s,hs⟩ : ∃ s,sealW W.sum W.st.length data=s:=⟨_,rfl⟩
 rw [hN,hs]
 rw [hN] at h0 h1 h2
 refine Wr 75 Tryz.func127 rfl rfl (nB rfl) (λ F=>?_)
 try simp only [cA,nA]
 refine TS (La rfl (La rfl (Ld (TS (Lm rfl ?_)))))
 refine Le (Ec (Jn.join B S a c bs hv hc hn N (by rw [hdata,hN]) (by omega)) Tryz.func142 rfl rfl rfl ?_)
 rintro _ _ ⟨p8,c8,c9,rfl,hp8,rfl⟩
 try simp only [cA,nA]
 rw [hdata]
 refine La rfl (Ld (Ts (yH (TS ?_))))
 iterate 4 refine Lz ?_
 refine Ld ?_
 have rdat:RdV B [rB (.slice p8 N c8) N data] (.slice p8 N c9) (Zb data):=(RdV.rB (c:=c8) hN hp8).takeAll c9
 refine yL rfl (TS ?_)
 iterate 4 refine Lz ?_
 refine Ld (yL rfl (Ts (zU 16 (nB rfl) ?_)))
 refine Rz 0 ?_;refine Rz 1 ?_;refine Rz 2 ?_;refine Rz 3 ?_;refine Rz 4 ?_;refine Rz 5 ?_;refine Rz 6 ?_;refine Rz 7 ?_;refine Rz 8 ?_;refine Rz 9 ?_;refine Rz 10 ?_;refine Rz 11 ?_;refine Rz 12 ?_
 refine yK 13 ?_
 refine ZK rfl (Ec (Wl.size B (.pointer (some ⟨b,0,none⟩)) W.first W.count hcnt) Tryz.func124 rfl rfl rfl ?_)
 rintro _ _ ⟨rfl,rfl⟩
 try simp only [cA,nA]
 refine ⟨Sa,?_⟩
 refine Rz 14 ?_;refine Rz 15 ?_
 refine Rd0 (by rfl) ?_
 simp only [dS,dZ,dN]
 refine Ld (yL rfl (Tk (Ts (zU 12 (nB rfl) ?_))))
 refine Rz 0 ?_;refine Rz 1 ?_;refine Rz 2 ?_;refine Rz 3 ?_;refine Rz 4 ?_;refine Rz 5 ?_;refine Rz 6 ?_;refine Rz 7 ?_;refine Rz 8 ?_;refine Rz 9 ?_;refine Rz 10 ?_
 refine yK 11 ?_
 refine zY rfl (Ec (Wl.seal B [rB (.slice p8 N c8) N data] W.sum W.st.length p8 N c9 data rdat hN (by omega)) Tryz.func88 rfl rfl rfl ?_)
 rintro _ _ ⟨rfl,rfl⟩
 try simp only [cA,nA]
 rw [hs]
 refine Rd0 (by rfl) ?_
 simp only [dS,dZ,dN]
 iterate 2 refine Lz ?_
 refine L0 (E1 (by kernel_rfl) rfl rfl rfl (by first | (simp;done) | (simp;omega)) ?_)
 try simp only [List.set_cons_zero,List.set_cons_succ]
 refine Ld (Ts (zU 15 (nB rfl) ?_))
 refine Rz 0 ?_;refine Rz 1 ?_;refine Rz 2 ?_;refine Rz 3 ?_;refine Rz 4 ?_;refine Rz 5 ?_;refine Rz 6 ?_
 refine Rq 7 rfl (Sr _) (yX rfl (wru64_i64 _)) ?_
 refine Rz 9 ?_;refine Rz 10 ?_;refine Rz 11 ?_;refine Rz 12 ?_
 refine Rq 13 rfl (Sr _) (yX rfl (wru64_u32 s)) (yK 8 ?_)
 refine ZK rfl (Ec (Cd.putP B [rB (.slice p W.st.length cc) W.st.length W.st] (.slice p W.st.length cc) W.st W.st.length rfl (UInt64.ofInt N) 4 4 rfl (RdV.rB rfl hp)) Tryz.func95 rfl rfl rfl ?_)
 rintro _ _ ⟨p1,c1,rfl,hp1,rfl⟩
 try simp only [cA,nA]
 refine ⟨Sa,?_⟩
 refine yK 14 ?_
 refine zY rfl (Ec (Cd.putP B [rB (.slice p1 (W.st.length+4) c1) (W.st.length+4) (W.st++be (UInt64.ofInt N) 4)] (.slice p1 (W.st.length+4) c1) (W.st++be (UInt64.ofInt N) 4) (W.st.length+4) (by simp [Zd]) s.toUInt64 4 4 rfl (RdV.rB (by simp [Zd]) hp1)) Tryz.func95 rfl rfl rfl ?_)
 rintro _ _ ⟨p2,c2,rfl,hp2,rfl⟩
 try simp only [cA,nA]
 refine Rd0 (by rfl) ?_
 simp only [dS,dZ,dN]
 iterate 2 refine Lz ?_
 refine L0 (E1 (by kernel_rfl) rfl rfl rfl (by first | (simp;done) | (simp;omega)) ?_)
 try simp only [List.set_cons_zero,List.set_cons_succ]
 refine Ld (TS ?_)
 iterate 6 refine Lz ?_
 refine Le (Ea Cd.elemB rfl rfl (SrcOf.rd (m:=N) (rdat.mono (λ w ho=>ho.map Sa)) (by kernel_rfl) (by simp [hN]) Zu) (by unfold maxLen;omega) ?_)
 rintro p4 c4 hp4
 rw [<-Zt]
 obtain ⟨st2,hst2,hlen⟩ : ∃ st2,W.st++be (UInt64.ofInt N) 4++be s.toUInt64 4++data=st2/\W.st.length+4+4+N=st2.length:=⟨_,rfl,by simp [Zd,hN];omega⟩
 rw [hst2,hlen]
 rw [hlen] at hp4
 iterate 2 refine Lz ?_
 refine L0 (E1 (by kernel_rfl) rfl rfl rfl (by first | (simp;done) | (simp;omega)) ?_)
 try simp only [List.set_cons_zero,List.set_cons_succ]
 refine Ld (TS (Lm rfl ?_))
 refine Le (Ec (Wl.endB B g b ⟨W.first,W.count,st2,s,W.dur⟩ p4 c4 (by show st2.length<_;omega)) Tryz.func129 rfl rfl rfl ?_)
 rintro _ _ ⟨rfl,rfl⟩
 try simp only [cA,nA]
 refine La rfl (La rfl (Ld (T.ret ?_)))
 exact ⟨.inl rfl,_,_,res [_,_] rfl ⟨rvT rfl,rvT rfl,trivial⟩,⟨p4,c4,by rw [show ((W.st.length:Int)+8+N)=((st2.length:Nat):Int) by omega];rfl,hp4,rfl⟩,Sa⟩
open Go.RowKit
def wipeD (W:Wl) (al:List UInt8):DD->Nat->Nat->DD
 | D,_,0=>D
 | D,n,k+1=>wipeD W al (if ((al.take ((n+1)*256)).drop (max (n*256) W.dur)).all (· == 0) then D else D.write (W.first+n) (secW W.st n)) (n+1) k
theorem Wl.wipe (B:Wn) (S:List Wp) (g b:Nat) (W:Wl) (p:Option Addr) (c:Nat) (hp:0<W.st.length -> ∃ g,p=some ⟨g,0,none⟩) (hc:W.st.length<=c) (D:DD) (a:Option Addr) (m ca:Nat) (al:List UInt8) (hv:RdV B S (.slice a m ca) (Zb al)) (hm:al.length=m) (hmc:m<=ca) (hmw:m=W.count*256)
  (hD:W.first+W.count<=D.secs.length) (hs:D.secs.length<=4096) (hst:W.st.length<=W.count*256) (hdur:W.dur<=W.st.length) (hroom:D.pend.length+4096<2^32) :
  Fn Tryz.prog B 90 #[.pointer (some ⟨g,0,none⟩),.slice a m ca] (wlB g b W p c::rB (.slice p W.st.length c) W.st.length W.st::Zn b D::S) (λ u l=>u = .tuple #[]/\l=wlB g b W p c::rB (.slice p W.st.length c) W.st.length W.st::Zn b (wipeD W al D (W.dur/256) (W.count-W.dur/256)).sync::S):=by
 refine Wr 49 Tryz.func90 rfl rfl (nB rfl) (λ F=>?_)
 try simp only [cA,nA]
 refine Ts (TS ?_)
 iterate 4 refine Lz ?_
 refine Lq (ZR rfl rfl (quo256i W.dur (by omega))) (La rfl (Ld (yH ?_)))
 refine zG (λ mz fz lz => ∃ (f0:Fr) (n:Nat) (D':DD),(W.dur/256<=n/\n<=W.count/\D'.secs.length=D.secs.length/\D'.pend.length<=D.pend.length+n/\wipeD W al D' n (W.count-n)=wipeD W al D (W.dur/256) (W.count-W.dur/256))/\mz=W.count-n/\fz=(upd (upd (upd f0 0 (.pointer (some ⟨g,0,none⟩))) 1 (.slice a m ca)) 4 (.int .i64 n))/\lz=wlB g b W p c::rB (.slice p W.st.length c) W.st.length W.st::Zn b D'::(S++F)) ?_ ?_
 . refine ⟨_,_,⟨_,W.dur/256,D,⟨Nat.le_refl _,by omega,rfl,by omega,rfl⟩,rfl,U3,rfl⟩,Sa⟩
 rintro mz fz lz ⟨f0,n,D',⟨hn1,hn2,hs',hpend,hlay⟩,hmz,rfl,rfl⟩
 subst mz
 refine Ts (TS ?_)
 iterate 7 refine Lz ?_
 refine Ld ?_
 refine yN rfl (λ hlt=>?_) (λ hlt=>?_)
 .
  obtain ⟨lo,hlo⟩ : ∃ lo,max (n*256) W.dur=lo:=⟨_,rfl⟩
  refine Tk (Ts (yH (TS ?_)))
  iterate 7 refine Lz ?_
  refine Ld (TS ?_)
  iterate 6 refine Lz ?_
  refine Lq (YP rfl rfl) (Lm rfl (Lq (zS lo ((n+1)*256) (e:=5) (sz:=1) rfl rfl rfl (by omega) (by omega)) (La rfl (Ld (TS (Lm rfl ?_))))))
  refine Le (Ec (Tr.trim B S (offA a ca lo 1) ((n+1)*256-lo) (ca-lo) ((al.take ((n+1)*256)).drop lo) (hv.part lo ((n+1)*256) (by omega) hm (by omega) (by omega) rfl) (by simp;omega) (by omega) (by omega)) Tryz.func131 rfl rfl rfl ?_)
  rintro _ S ⟨p3,m3,c3,rfl,hz,rfl⟩
  iterate 2 refine Lz ?_
  refine Ld ?_
  have hstep:wipeD W al D' n (W.count-n)=wipeD W al (if ((al.take ((n+1)*256)).drop lo).all (· == 0) then D' else D'.write (W.first+n) (secW W.st n)) (n+1) (W.count-(n+1)):=by rw [show W.count-n=(W.count-(n+1))+1 by omega,wipeD,hlo]
  refine yN rfl (λ hpos=>?_) (λ hpos=>?_)
  .
   rw [if_neg (by intro h;have:=hz.2 (by simpa using h);omega)] at hstep
   refine TR (Lm rfl (Lm rfl ?_))
   refine Le (Ec (Wl.lay B g b W p c hp hc D' n (by omega) (by omega) (by omega) (by omega) (by omega)) Tryz.func132 rfl rfl rfl ?_)
   rintro _ _ ⟨rfl,rfl⟩
   try simp only [cA,nA]
   refine Ld (TR ?_)
   iterate 3 refine Lz ?_
   refine Ld ?_
   refine ⟨_,?_,_,⟨_,n+1,D'.write (W.first+n) (secW W.st n),⟨by omega,by omega,hs',by simp [DD.write];omega,by rw [<-hstep];exact hlay⟩,rfl,U3,rfl⟩,Sa⟩
   omega
  rw [if_pos (by simpa using hz.1 (by omega))] at hstep
  refine Tk (TR ?_)
  iterate 3 refine Lz ?_
  refine Ld ?_
  refine ⟨_,?_,_,⟨_,n+1,D',⟨by omega,by omega,hs',by omega,by rw [<-hstep];exact hlay⟩,rfl,U3,rfl⟩,Sa⟩
  omega
 obtain rfl:n=W.count:=by omega
 rw [Nat.sub_self] at hlay
 obtain rfl:D'=wipeD W al D (W.dur/256) (W.count-W.dur/256):=hlay
 refine zB (TR ?_)
 iterate 5 refine Lz ?_
 refine Le (Ec (Dk.syncF B b (wipeD W al D (W.dur/256) (W.count-W.dur/256))) Tryz.func121 rfl rfl rfl ?_)
 rintro _ _ ⟨rfl,rfl⟩
 try simp only [cA,nA]
 refine Ld ?_
 exact ⟨.inr rfl,_,_,res [] rfl trivial,⟨rfl,rfl⟩,Sa⟩
open Go.RowKit
theorem Bc.clone (B:Wn) (S:List Wp) (v:Value) (b:List UInt8) (m:Nat) (hm:b.length=m) (hv:RdV B S v (Zb b)) (hb:m<2^40):Fn Tryz.prog B 89 #[v] S (λ u l => ∃ p c,u = .slice p m c/\(0<m -> ∃ g,p=some ⟨g,0,none⟩)/\l=rB (.slice p m c) m b::S):=by
 subst hm
 obtain ⟨a,c,rfl⟩:=hv.form (m:=b.length) (by simp)
 refine Wq 8 Tryz.func89 rfl rfl (nB rfl) (λ F=>?_)
 refine TS (La rfl (Ld (Ts (TS (Lm rfl (Lq (YT rfl rfl) (Ld ?_)))))))
 refine Y9 rfl (λ h=>?_) (λ h=>?_)
 .
  have hb0:b=[]:=by rcases Nat.eq_zero_or_pos b.length with h0 | h0;exact List.eq_nil_of_length_eq_zero h0;obtain ⟨g,o,rfl,_⟩:=hv.at h0;cases h
  subst hb0
  refine T.conv (l':=rB (.slice none ([]:List UInt8).length 0) ([]:List UInt8).length []::(S++F)) (λ w ho=>ho.row_nil _ _) (TS (La rfl (Ld (T.ret ?_))))
  exact ⟨.inl rfl,_,_,res [_] rfl ⟨rvT rfl,trivial⟩,⟨none,0,rfl,λ h=>by simp at h,rfl⟩,Sa⟩
 refine Tk (TS ?_)
 refine Le (Y8 Cd.elemB ?_)
 rintro g5
 refine Lm rfl ?_
 refine Le (Ea Cd.elemB rfl rfl (SrcOf.rd (m:=b.length) (hv.mono (λ w ho=>ho.tl.drop)) (by kernel_rfl) (by simp) Zu) (by unfold maxLen;omega) ?_)
 rintro p1 c1 hp1
 try simp only [cA,nA]
 simp only [Nat.zero_add,List.nil_append]
 refine La rfl (Ld (T.ret ?_))
 exact ⟨.inl rfl,_,_,res [_] rfl ⟨rvT rfl,trivial⟩,⟨_,_,rfl,λ h=>hp1 (by omega),rfl⟩,Sa⟩
open Go.RowKit
def takeRec (al:List UInt8) (k:Nat) (s:UInt32):Option (Nat×UInt32) :=
 if (al.drop k).length<8 then none
 else if (Wg ((al.drop k).take 4)).toNat=0\/1024<(Wg ((al.drop k).take 4)).toNat\/(al.drop k).length-8<(Wg ((al.drop k).take 4)).toNat\/sealW s k (((al.drop k).take (8+(Wg ((al.drop k).take 4)).toNat)).drop 8)≠(Wg (((al.drop k).take 8).drop 4)).toUInt32 then none
 else some ((Wg ((al.drop k).take 4)).toNat,(Wg (((al.drop k).take 8).drop 4)).toUInt32)
def Wj (al:List UInt8):Nat->Nat->UInt32->Nat×UInt32×List (Nat×List UInt8)
 | 0,k,s=>(k,s,[])
 | f+1,k,s=>match takeRec al k s with
  | none=>(k,s,[])
  | some (n,s')=>((Wj al f (k+(8+n)) s').1,(Wj al f (k+(8+n)) s').2.1,(k+(8+n),((al.drop k).take (8+n)).drop 8)::(Wj al f (k+(8+n)) s').2.2)
theorem wru32_u64 (x:UInt64):IntKind.u32.wrap (x.toNat:Int)=(x.toUInt32.toNat:Int):=by
 simp [IntKind.wrap,IntKind.bits,IntKind.signed]
open Go.RowKit
theorem YL {P:Program} {B:Wn} {n:Nat} {o:Oper} {f:Fr} {l:List Wp} {K:Value->List Wp->Prop} {v:Value} (hq:Qt P B n l o f v) (h:K v l):Ef P B n o f l K:=⟨λ w next Q ho hk=>by
 unfold Oper.wp
 rw [Wk,hq.run w ho]
 exact hk _ _ _ h ho⟩
def allD (D:DD) (first n:Nat):List UInt8:=(List.range n).flatMap λ i=>D.read (first+i)
structure WRec where
 mark:Nat
 r:Rec
abbrev wrecC (x:WRec):List Value:=[.int .i64 x.mark,recV x.r]
abbrev wrecR (q:Option Addr) (n c:Nat) (R:List WRec):Wp:=row (.slice q n c) 164 2 n (R.flatMap wrecC)
theorem allD_snoc (D:DD) (first n:Nat):allD D first n++D.read (first+n)=allD D first (n+1):=by simp [allD,List.range_succ]
theorem WRec.elem : ElemOk Tryz.prog 146 164 2 32 := .mk' (.agg #[.int .i64 0,.slice none 0 0]) Tryz.underlying146 (by kernel_rfl) rfl (by omega)
theorem takeRec_short {al:List UInt8} {k:Nat} {s:UInt32} (h:al.length-k<8):takeRec al k s=none:=by
 unfold takeRec;rw [if_pos (by simpa using h)]
theorem takeRec_no {al:List UInt8} {k nn:Nat} {s:UInt32} (hnn:(Wg ((al.drop k).take 4)).toNat=nn) (h:nn=0\/1024<nn\/al.length-k-8<nn\/sealW s k (((al.drop k).take (8+nn)).drop 8)≠(Wg (((al.drop k).take 8).drop 4)).toUInt32):takeRec al k s=none:=by
 unfold takeRec
 rw [hnn]
 by_cases h8:(al.drop k).length<8
 . rw [if_pos h8]
 . rw [if_neg h8,if_pos (by simpa using h)]
theorem takeRec_yes {al:List UInt8} {k nn:Nat} {s:UInt32} (hnn:(Wg ((al.drop k).take 4)).toNat=nn) (h8:8<=al.length-k) (h0:nn≠0) (h1:nn<=1024) (h2:nn<=al.length-k-8) (h3:sealW s k (((al.drop k).take (8+nn)).drop 8)=(Wg (((al.drop k).take 8).drop 4)).toUInt32):takeRec al k s=some (nn,(Wg (((al.drop k).take 8).drop 4)).toUInt32):=by
 unfold takeRec
 rw [hnn,if_neg (by simp;omega),if_neg (by simp [h3];omega)]
def ScanF (al:List UInt8) (m k:Nat) (s:UInt32) (R:List WRec):Prop := ∃ f,m<f+k/\Wj al (m+1) 0 0=((Wj al f k s).1,(Wj al f k s).2.1,R.map (λ x=>(x.mark,x.r.b))++(Wj al f k s).2.2)
theorem ScanF.init (al:List UInt8) (m:Nat):ScanF al m 0 0 []:=⟨m+1,by omega,rfl⟩
theorem ScanF.stop {al:List UInt8} {m k:Nat} {s:UInt32} {R:List WRec} (h:ScanF al m k s R) (ht:takeRec al k s=none):Wj al (m+1) 0 0=(k,s,R.map (λ x=>(x.mark,x.r.b))):=by
 obtain ⟨f,_,e⟩:=h
 have:Wj al f k s=(k,s,[]):=by cases f with
  | zero=>rfl
  | succ f=>rw [Wj,ht]
 rw [e,this,List.append_nil]
theorem ScanF.next {al:List UInt8} {m k nn:Nat} {s s':UInt32} {R:List WRec} (h:ScanF al m k s R) (hk:k<=m) (ht:takeRec al k s=some (nn,s')) {q:Option Addr} {c:Nat}:ScanF al m (k+(8+nn)) s' (R++[⟨k+(8+nn),q,c,((al.drop k).take (8+nn)).drop 8⟩]):=by
 obtain ⟨f,hf,e⟩:=h
 cases f with
 | zero=>omega
 | succ f =>
  refine ⟨f,by omega,?_⟩
  rw [e,Wj,ht]
  simp
theorem wrec_nil {B:Wn} {w:World} {l:List Wp} (H:Own B w l):Own B w (wrecR none 0 0 []::recsA (List.map WRec.r [])::l) :=
 Own.row_nil (H.map λ h k=>show Has (recsA []::l) h from ⟨λ _=>none,h,⟨λ _ => .inl rfl⟩,⟨λ _ _ h=>(by cases h)⟩,Piece.le_refl _,trivial,k⟩) _ _
theorem Sub.wrecAdd {l r m:List Wp} (R:List WRec) (x:WRec) (q:Option Addr) (n c z:Nat) (hz:x.r.b.length=z) [k:TakeL [row (.slice q n c) 164 2 n (R.flatMap wrecC++[.int .i64 x.mark,.slice x.r.p z x.r.c]),recsA (R.map WRec.r),rB (.slice x.r.p z x.r.c) z x.r.b] l r] [t:SubC (wrecR q n c (R++[x])::recsA ((R++[x]).map WRec.r)::r) m]:Sub l m:=λ h H=>by
 subst hz
 have H1:=k.take h H
 refine t.sub h ?_
 rw [List.map_append]
 refine Wt (λ _ k=>recsA_snoc k) (m:=_) (l:=recsA (R.map WRec.r)::recA x.r::r) ?_
 have e:(R++[x]).flatMap wrecC=R.flatMap wrecC++[.int .i64 x.mark,.slice x.r.p x.r.b.length x.r.c]:=by simp [wrecC,recV]
 show Has (wrecR q n c (R++[x])::_) h
 unfold wrecR
 rw [e]
 exact H1
def OpenW (b first count:Nat) (al:List UInt8) (D:DD) (u:Value) (l:List Wp):Prop := ∃ g p c q cq R k s,Wj al (count*256+1) 0 0=(k,s,R.map λ x=>(x.mark,x.r.b))/\k<=count*256/\(0<k -> ∃ g,p=some ⟨g,0,none⟩)/\k<=c/\(al.take k).length=k /\
 u = .tuple #[.pointer (some ⟨g,0,none⟩),.slice q R.length cq,.int .i64 0]/\l=[wrecR q R.length cq R,recsA (R.map WRec.r),rB (.slice p k c) k (al.take k),wlB g b ⟨first,count,al.take k,s,k⟩ p c,Zn b (wipeD ⟨first,count,al.take k,s,k⟩ al D (k/256) (count-k/256)).sync]
theorem OpenW.mk {b first n m:Nat} {al st:List UInt8} {D:DD} {s:UInt32} {R:List WRec} {g c cq nq:Nat} {p q:Option Addr} {u:Value} {l:List Wp} (hm:m=n*256) (hk:st.length<=m) (hst:st=al.take st.length) (hnq:nq=R.length) (hp:0<st.length -> ∃ g,p=some ⟨g,0,none⟩) (hkc:st.length<=c) (hsc:ScanF al m st.length s R) (ht:takeRec al st.length s=none)
  (hu:u = .tuple #[.pointer (some ⟨g,0,none⟩),.slice q nq cq,.int .i64 0]) (hl:l=[wrecR q nq cq R,recsA (R.map WRec.r),rB (.slice p st.length c) st.length st,wlB g b ⟨first,n,st,s,st.length⟩ p c,Zn b (wipeD ⟨first,n,st,s,st.length⟩ al D (st.length/256) (n-st.length/256)).sync]):OpenW b first n al D u l:=by
 subst hm hnq
 have e:=hsc.stop ht
 obtain ⟨k,hk2⟩ : ∃ k,st.length=k:=⟨_,rfl⟩
 rw [hk2] at hst hk hp hkc e hl
 subst hst
 exact ⟨g,p,c,q,cq,R,k,s,e,hk,hp,hkc,hk2,hu,hl⟩
theorem Wl.open (B:Wn) (b:Nat) (D:DD) (first count:Nat) (h1:1<=count) (hD:first+count<=D.secs.length) (hs:D.secs.length<=4096) (hroom:D.pend.length+4096<2^32) (hrl : ∀ n,n<D.secs.length->(D.read n).length=256) :
  Fn Tryz.prog B 41 #[.pointer (some ⟨b,0,none⟩),.int .i64 first,.int .i64 count] [Zn b D] (OpenW b first count (allD D first count) D):=by
 refine Ws 159 Tryz.func41 rfl rfl (nB rfl) (λ F=>?_)
 try simp only [cA,nA]
 refine TS ?_
 iterate 3 refine Lz ?_
 refine Ld (Ts (TS ?_))
 iterate 3 refine Lz ?_
 refine yT (t:=21) rfl rfl ?_
 iterate 4 refine Lz ?_
 refine yT (t:=25) rfl (decide_eq_false (by omega)) ?_
 iterate 4 refine Lz ?_
 refine Le (Ec (Dk.sectorsF B b D) Tryz.func40 rfl rfl rfl ?_)
 rintro _ _ ⟨rfl,rfl⟩
 try simp only [cA,nA]
 iterate 3 refine Lz ?_
 refine yT (t:=33) rfl (decide_eq_false (by omega)) ?_
 iterate 4 refine Lz ?_
 refine Le (Ec (Dk.sectorsF B b D) Tryz.func40 rfl rfl rfl ?_)
 rintro _ _ ⟨rfl,rfl⟩
 try simp only [cA,nA]
 iterate 4 refine Lz ?_
 refine Ld (yL rfl (Tk (TS ?_)))
 iterate 3 refine Lz ?_
 refine Lq (z8 [(0,1),(1,1),(2,1)] [.pointer none,.int .i64 0,.int .i64 0] [_,_,_] [(0,_),(1,_),(2,_)] (by unfold Zf;kernel_rfl) rfl rfl) (Lq (z8 [(0,3),(3,1),(4,1),(5,1)] [.pointer none,.int .i64 0,.int .i64 0,.slice none 0 0,.int .u32 0,.int .i64 0] [_,_,_,_,_,_] [(0,_)] (by unfold Zf;kernel_rfl) rfl rfl) ?_)
 refine Le (zL [_,_,_,_,_,_] rfl rfl ?_)
 intro g48
 refine LW.conv (l':=rB (.slice none 0 0) 0 (allD D first 0)::wlB g48 b ⟨first,count,[],0,0⟩ none 0::Zn b D::F) (λ w ho=>ho.row_nil _ _) (La rfl (Ld (TS (La rfl (Ld (Ts (TS (Lm rfl (Lm rfl (Ld (yH ?_)))))))))))
 refine zG (λ mz fz lz => ∃ (f0:Fr) (n m:Nat) (pa:Option Addr) (ca:Nat),(n<=count/\m=n*256/\(allD D first n).length=m)/\mz=count-n/\fz=(upd (upd (upd (upd (upd (upd (upd f0 0 (.pointer (some ⟨b,0,none⟩))) 1 (.int .i64 first)) 2 (.int .i64 count)) 9 (.pointer (some ⟨g48,0,none⟩))) 10 (.slice pa m ca)) 49 (.int .i64 count)) 50 (.int .i64 n))/\lz=rB (.slice pa m ca) m (allD D first n)::wlB g48 b ⟨first,count,[],0,0⟩ none 0::Zn b D::F) ?_ ?_
 . refine ⟨_,_,⟨_,0,0,none,0,⟨Nat.zero_le _,rfl,rfl⟩,rfl,U7,rfl⟩,Sa⟩
 rintro mz fz lz ⟨f0,n,m,pa,ca,⟨hn,hm,hal⟩,hmz,rfl,rfl⟩
 subst mz
 refine TS (Lq (yM rfl rfl) (Ld (Ts ?_)))
 refine yN rfl (λ hlt=>?_) (λ hlt=>?_)
 .
  refine Tk (Ts (yH (TS (Lm rfl (La rfl (Ld (TS ?_)))))))
  iterate 4 refine Lz ?_
  refine Le (Ec (Dk.readF B b D (first+n) _ (by omega)) Tryz.func86 rfl rfl rfl ?_)
  rintro _ _ ⟨gr,cr,rfl,rfl⟩
  try simp only [cA,nA]
  iterate 5 refine Lz ?_
  refine Ld (TR (Lm rfl (Lm rfl ?_)))
  refine Le (Ea (u := .slice (some ⟨gr,0,none⟩) 256 cr) (m:=256) (news:=Zb (D.read (first+n))) Cd.elemB rfl rfl (SrcOf.row (by kernel_rfl) Zu) (by unfold maxLen;omega) ?_)
  rintro p2 c2 hp2
  rw [<-Zt,allD_snoc]
  refine La rfl (Ld (TR ?_))
  iterate 2 refine Lz ?_
  refine Ld ?_
  refine ⟨_,?_,_,⟨_,n+1,m+256,p2,c2,⟨by omega,by omega,by rw [<-allD_snoc,List.length_append,hal,hrl _ (by omega)]⟩,rfl,U7,rfl⟩,Sa⟩
  omega
 obtain rfl:n=count:=by omega
 obtain ⟨al,hall⟩ : ∃ al,allD D first n=al:=⟨_,rfl⟩
 rw [hall] at hal
 rw [hall]
 refine T.own (λ w ho=>?_)
 have hpa:0<m -> ∃ g,pa=some ⟨g,0,none⟩:=(ho.slice_at (p:=pa) (m:=m) (c:=ca)).2.1
 have hmca:m<=ca:=ho.cap_at (p:=pa) (m:=m) (c:=ca)
 clear ho
 have rall:RdV B [rB (.slice pa m ca) m al] (.slice pa m ca) (Zb al):=RdV.rB hal hpa
 refine T.conv (l':=wrecR none 0 0 []::recsA (List.map WRec.r [])::rB (.slice none 0 0) 0 (al.take 0)::rB (.slice pa m ca) m al::wlB g48 b ⟨first,n,al.take 0,0,0⟩ none 0::Zn b D::F) (λ w ho=>wrec_nil (ho.row_nil _ _)) (zB (TS (La rfl (Ld (Ts (yH ?_))))))
 refine zG (λ mz fz lz => ∃ (f0:Fr) (k:Nat) (st:List UInt8) (s:UInt32) (p:Option Addr) (c:Nat) (R:List WRec) (q:Option Addr) (cq nq:Nat),(k<=m/\st=al.take k/\st.length=k/\nq=R.length/\nq<=k/\(0<k -> ∃ g,p=some ⟨g,0,none⟩)/\k<=c/\ScanF al m k s R)/\mz=m-k/\fz=(upd (upd (upd (upd f0 0 (.pointer (some ⟨b,0,none⟩))) 9 (.pointer (some ⟨g48,0,none⟩))) 10 (.slice pa m ca)) 14 (.slice q nq cq))/\lz=wrecR q nq cq R::recsA (R.map WRec.r)::rB (.slice p k c) k st::rB (.slice pa m ca) m al::wlB g48 b ⟨first,n,st,s,0⟩ p c::Zn b D::F) ?_ ?_
 . refine ⟨_,_,⟨_,0,al.take 0,0,none,0,[],none,0,0,⟨Nat.zero_le _,rfl,rfl,rfl,Nat.le_refl _,λ h=>by omega,Nat.le_refl _,ScanF.init al m⟩,rfl,U4,rfl⟩,Sa⟩
 rintro mz fz lz ⟨f0,k,st,s,p,c,R,q,cq,nq,⟨hk,hst,hstl,hnq,hnk,hp,hkc,hsc⟩,hmz,rfl,rfl⟩
 subst mz
 have rrest:=rall.dropB k (by omega) hal hmca
 refine yH (TS ?_)
 iterate 6 refine Lz ?_
 refine Lq (zP k (e:=5) (sz:=1) rfl rfl (by show (st.length:Int)=k;omega)) (La rfl (Ld (Ts (TS ?_))))
 iterate 3 refine Lz ?_
 refine Ld ?_
 refine yN rfl (λ h8=>?_) (λ h8=>?_)
 .
  subst hstl
  refine zB (TS ?_)
  iterate 8 refine Lz ?_
  refine L0 (E1 (by kernel_rfl) rfl rfl rfl (by first | (simp;done) | (simp;omega)) ?_)
  try simp only [List.set_cons_zero,List.set_cons_succ]
  refine Ld (TS (Lm rfl (Lm rfl ?_)))
  refine Le (Ec (Wl.wipe B [rB (.slice pa m ca) m al] g48 b ⟨first,n,st,s,st.length⟩ p c hp hkc D pa m ca al rall hal hmca hm hD hs (by show st.length<=n*256;omega) (Nat.le_refl _) hroom) Tryz.func90 rfl rfl rfl ?_)
  rintro _ _ ⟨rfl,rfl⟩
  try simp only [cA,nA]
  refine Ld (TS ?_)
  iterate 5 refine Lz ?_
  refine Ld (T.ret ?_)
  exact ⟨.inl rfl,_,_,res [_,_,_] rfl ⟨rvT rfl,rvT rfl,rvT rfl,trivial⟩,OpenW.mk hm hk hst hnq hp hkc hsc (takeRec_short (by omega)) rfl rfl,Sa⟩
 refine Tk (Ts (zW 8 none (nB rfl) ?_))
 refine Rz 0 ?_
 refine Rq 1 rfl Sa (Y6 4 (e:=5) (sz:=1) rfl rfl rfl) ?_
 refine Rz 3 ?_
 refine Rq 4 rfl Sa (zS 4 8 (e:=5) (sz:=1) rfl rfl rfl rfl rfl) (yK 2 ?_)
 refine z6 rfl (Ec (Cd.get B [rB (.slice pa m ca) m al] (.slice (offA pa ca k 1) 4 (ca-k)) ((al.drop k).take 4) (rrest.takeB 4 (ca-k) (by simp;omega)) (by simp;omega)) Tryz.func87 rfl rfl rfl ?_)
 rintro _ _ ⟨rfl,rfl⟩
 try simp only [cA,nA]
 refine ⟨Sa,?_⟩
 refine yK 5 ?_
 refine zY rfl (Ec (Cd.get B [rB (.slice pa m ca) m al] (.slice (offA (offA pa ca k 1) (ca-k) 4 1) 4 (ca-k-4)) (((al.drop k).take 8).drop 4) (rrest.part 4 8 (by omega) (by simp;omega) (by omega) (by omega) rfl) (by simp;omega)) Tryz.func87 rfl rfl rfl ?_)
 rintro _ _ ⟨rfl,rfl⟩
 try simp only [cA,nA]
 refine Rq 6 rfl (Sr _) (yX rfl (wru32_u64 _)) ?_
 refine Rz 7 ?_
 refine Rd0 (by rfl) ?_
 simp only [dS,dZ,dN]
 refine La rfl (Ld (Ts (Ts ?_)))
 obtain ⟨nn,hnn⟩ : ∃ nn,(Wg ((al.drop k).take 4)).toNat=nn:=⟨_,rfl⟩
 rw [hnn]
 refine zU 33 (nB rfl) ?_
 refine Rz 0 ?_;refine Rz 1 ?_;refine Rz 2 ?_
 refine YE (t:=84) rfl (λ hz=>?_) (λ hz=>?_)
 .
  try replace hz:=of_decide_eq_true hz
  refine Rz 3 ?_;refine Rz 4 ?_;refine Rz 5 ?_;refine Rz 6 ?_
  refine YY (t:=88) rfl rfl ?_
  refine Rz 7 ?_;refine Rz 8 ?_;refine Rz 9 ?_;refine Rz 10 ?_;refine Rz 11 ?_;refine Rz 12 ?_;refine Rz 13 ?_;refine Rz 14 ?_
  refine YY (t:=96) rfl rfl ?_
  refine Rz 15 ?_;refine Rz 16 ?_;refine Rz 17 ?_;refine Rz 18 ?_;refine Rz 19 ?_;refine Rz 20 ?_;refine Rz 21 ?_;refine Rz 22 ?_;refine Rz 23 ?_;refine Rz 24 ?_;refine Rz 25 ?_;refine Rz 26 ?_;refine Rz 27 ?_;refine Rz 28 ?_;refine Rz 29 ?_;refine Rz 30 ?_;refine Rz 31 ?_;refine Rz 32 ?_
  refine Rd0 (by rfl) ?_
  simp only [dS,dZ,dN]
  refine Ld (zF rfl ?_)
  subst hstl
  refine zB (TS ?_)
  iterate 8 refine Lz ?_
  refine L0 (E1 (by kernel_rfl) rfl rfl rfl (by first | (simp;done) | (simp;omega)) ?_)
  try simp only [List.set_cons_zero,List.set_cons_succ]
  refine Ld (TS (Lm rfl (Lm rfl ?_)))
  refine Le (Ec (Wl.wipe B [rB (.slice pa m ca) m al] g48 b ⟨first,n,st,s,st.length⟩ p c hp hkc D pa m ca al rall hal hmca hm hD hs (by show st.length<=n*256;omega) (Nat.le_refl _) hroom) Tryz.func90 rfl rfl rfl ?_)
  rintro _ _ ⟨rfl,rfl⟩
  try simp only [cA,nA]
  refine Ld (TS ?_)
  iterate 5 refine Lz ?_
  refine Ld (T.ret ?_)
  exact ⟨.inl rfl,_,_,res [_,_,_] rfl ⟨rvT rfl,rvT rfl,rvT rfl,trivial⟩,OpenW.mk hm hk hst hnq hp hkc hsc (takeRec_no hnn (.inl (by omega))) rfl rfl,Sa⟩
 try replace hz:=of_decide_eq_false hz
 refine Rz 3 ?_;refine Rz 4 ?_;refine Rz 5 ?_;refine Rz 6 ?_
 refine YE (t:=88) rfl (λ hbig=>?_) (λ hbig=>?_)
 .
  try replace hbig:=of_decide_eq_true hbig
  refine Rz 7 ?_;refine Rz 8 ?_;refine Rz 9 ?_;refine Rz 10 ?_;refine Rz 11 ?_;refine Rz 12 ?_;refine Rz 13 ?_;refine Rz 14 ?_
  refine YY (t:=96) rfl rfl ?_
  refine Rz 15 ?_;refine Rz 16 ?_;refine Rz 17 ?_;refine Rz 18 ?_;refine Rz 19 ?_;refine Rz 20 ?_;refine Rz 21 ?_;refine Rz 22 ?_;refine Rz 23 ?_;refine Rz 24 ?_;refine Rz 25 ?_;refine Rz 26 ?_;refine Rz 27 ?_;refine Rz 28 ?_;refine Rz 29 ?_;refine Rz 30 ?_;refine Rz 31 ?_;refine Rz 32 ?_
  refine Rd0 (by rfl) ?_
  simp only [dS,dZ,dN]
  refine Ld (zF rfl ?_)
  subst hstl
  refine zB (TS ?_)
  iterate 8 refine Lz ?_
  refine L0 (E1 (by kernel_rfl) rfl rfl rfl (by first | (simp;done) | (simp;omega)) ?_)
  try simp only [List.set_cons_zero,List.set_cons_succ]
  refine Ld (TS (Lm rfl (Lm rfl ?_)))
  refine Le (Ec (Wl.wipe B [rB (.slice pa m ca) m al] g48 b ⟨first,n,st,s,st.length⟩ p c hp hkc D pa m ca al rall hal hmca hm hD hs (by show st.length<=n*256;omega) (Nat.le_refl _) hroom) Tryz.func90 rfl rfl rfl ?_)
  rintro _ _ ⟨rfl,rfl⟩
  try simp only [cA,nA]
  refine Ld (TS ?_)
  iterate 5 refine Lz ?_
  refine Ld (T.ret ?_)
  exact ⟨.inl rfl,_,_,res [_,_,_] rfl ⟨rvT rfl,rvT rfl,rvT rfl,trivial⟩,OpenW.mk hm hk hst hnq hp hkc hsc (takeRec_no hnn (.inr (.inl (by omega)))) rfl rfl,Sa⟩
 try replace hbig:=of_decide_eq_false hbig
 refine Rz 7 ?_;refine Rz 8 ?_;refine Rz 9 ?_;refine Rz 10 ?_;refine Rz 11 ?_;refine Rz 12 ?_;refine Rz 13 ?_;refine Rz 14 ?_
 refine YE (t:=96) rfl (λ hlen=>?_) (λ hlen=>?_)
 .
  try replace hlen:=of_decide_eq_true hlen
  refine Rz 15 ?_;refine Rz 16 ?_;refine Rz 17 ?_;refine Rz 18 ?_;refine Rz 19 ?_;refine Rz 20 ?_;refine Rz 21 ?_;refine Rz 22 ?_;refine Rz 23 ?_;refine Rz 24 ?_;refine Rz 25 ?_;refine Rz 26 ?_;refine Rz 27 ?_;refine Rz 28 ?_;refine Rz 29 ?_;refine Rz 30 ?_;refine Rz 31 ?_;refine Rz 32 ?_
  refine Rd0 (by rfl) ?_
  simp only [dS,dZ,dN]
  refine Ld (zF rfl ?_)
  subst hstl
  refine zB (TS ?_)
  iterate 8 refine Lz ?_
  refine L0 (E1 (by kernel_rfl) rfl rfl rfl (by first | (simp;done) | (simp;omega)) ?_)
  try simp only [List.set_cons_zero,List.set_cons_succ]
  refine Ld (TS (Lm rfl (Lm rfl ?_)))
  refine Le (Ec (Wl.wipe B [rB (.slice pa m ca) m al] g48 b ⟨first,n,st,s,st.length⟩ p c hp hkc D pa m ca al rall hal hmca hm hD hs (by show st.length<=n*256;omega) (Nat.le_refl _) hroom) Tryz.func90 rfl rfl rfl ?_)
  rintro _ _ ⟨rfl,rfl⟩
  try simp only [cA,nA]
  refine Ld (TS ?_)
  iterate 5 refine Lz ?_
  refine Ld (T.ret ?_)
  exact ⟨.inl rfl,_,_,res [_,_,_] rfl ⟨rvT rfl,rvT rfl,rvT rfl,trivial⟩,OpenW.mk hm hk hst hnq hp hkc hsc (takeRec_no hnn (.inr (.inr (.inl (by omega))))) rfl rfl,Sa⟩
 try replace hlen:=of_decide_eq_false hlen
 refine Rz 15 ?_;refine Rz 16 ?_;refine Rz 17 ?_;refine Rz 18 ?_;refine Rz 19 ?_;refine Rz 20 ?_;refine Rz 21 ?_;refine Rz 22 ?_;refine Rz 23 ?_;refine Rz 24 ?_;refine Rz 25 ?_;refine Rz 26 ?_;refine Rz 27 ?_
 refine Rq 28 rfl (Sr _) (zS 8 (8+nn) (e:=5) (sz:=1) rfl rfl rfl rfl (by omega)) ?_
 refine Rz 30 ?_
 refine yK 29 ?_
 refine zY rfl (Ec (Wl.seal B [rB (.slice pa m ca) m al] s st.length (offA (offA pa ca k 1) (ca-k) 8 1) (8+nn-8) (ca-k-8) (((al.drop k).take (8+nn)).drop 8) (rrest.part 8 (8+nn) (by omega) (by simp;omega) (by omega) (by omega) rfl) (by simp;omega) (by omega)) Tryz.func88 rfl rfl rfl ?_)
 rintro _ _ ⟨rfl,rfl⟩
 try simp only [cA,nA]
 refine Rz 31 ?_;refine Rz 32 ?_
 refine Rd0 (by rfl) ?_
 simp only [dS,dZ,dN]
 refine Ld ?_
 refine yN rfl (λ hsum=>?_) (λ hsum=>?_)
 .
  subst hstl
  refine zB (TS ?_)
  iterate 8 refine Lz ?_
  refine L0 (E1 (by kernel_rfl) rfl rfl rfl (by first | (simp;done) | (simp;omega)) ?_)
  try simp only [List.set_cons_zero,List.set_cons_succ]
  refine Ld (TS (Lm rfl (Lm rfl ?_)))
  refine Le (Ec (Wl.wipe B [rB (.slice pa m ca) m al] g48 b ⟨first,n,st,s,st.length⟩ p c hp hkc D pa m ca al rall hal hmca hm hD hs (by show st.length<=n*256;omega) (Nat.le_refl _) hroom) Tryz.func90 rfl rfl rfl ?_)
  rintro _ _ ⟨rfl,rfl⟩
  try simp only [cA,nA]
  refine Ld (TS ?_)
  iterate 5 refine Lz ?_
  refine Ld (T.ret ?_)
  exact ⟨.inl rfl,_,_,res [_,_,_] rfl ⟨rvT rfl,rvT rfl,rvT rfl,trivial⟩,OpenW.mk hm hk hst hnq hp hkc hsc (takeRec_no hnn (.inr (.inr (.inr (by intro h;apply hsum;rw [h]))))) rfl rfl,Sa⟩
 subst hstl
 obtain ⟨s',hs'⟩ : ∃ s',(Wg (((al.drop st.length).take 8).drop 4)).toUInt32=s':=⟨_,rfl⟩
 have ht:=takeRec_yes (s:=s) hnn (by omega) (by omega) (by omega) (by omega) (by rw [hs'];apply UInt32.toNat_inj.1;rw [hs'] at hsum;simp at hsum;omega)
 rw [hs'] at ht ⊢
 refine Tk (TS ?_)
 iterate 4 refine Lz ?_
 refine Ld (Ts (zW 14 (some g48) (nB rfl) ?_))
 refine Rz 0 ?_;refine Rz 1 ?_;refine Rz 2 ?_;refine Rz 3 ?_;refine Rz 4 ?_;refine Rz 6 ?_;refine Rz 7 ?_
 refine Rq 8 rfl Sa (Y6 (8+nn) (e:=5) (sz:=1) rfl rfl rfl) ?_
 refine Rz 10 ?_
 refine yK 5 ?_
 refine z6 rfl (YL (Ql rfl rfl) ?_)
 refine ⟨Sa,?_⟩
 refine yK 9 ?_
 refine zY rfl (Ea Cd.elemB rfl rfl (SrcOf.rd (m:=8+nn) ((rrest.takeB (8+nn) (ca-st.length) (by simp;omega)).mono (λ w ho=>ho.map Sa)) (by kernel_rfl) (by simp;omega) Zu) (by unfold maxLen;omega) ?_)
 rintro p4 c4 hp4
 try simp only [cA,nA]
 rw [<-Zt]
 obtain ⟨st2,hst2,hlen2⟩ : ∃ st2,st++(al.drop st.length).take (8+nn)=st2/\st.length+(8+nn)=st2.length:=⟨_,rfl,by simp;omega⟩
 rw [hst2,hlen2]
 rw [hlen2] at hp4
 refine Rz 11 ?_;refine Rz 12 ?_
 refine yK 13 ?_
 refine X1 rfl rfl (by kernel_rfl) (E1 (by kernel_rfl) rfl rfl rfl (by first | (simp;done) | (simp;omega)) ?_)
 try simp only [List.set_cons_zero,List.set_cons_succ]
 refine Rd0 (by rfl) ?_
 simp only [dS,dZ,dN]
 iterate 2 refine Lz ?_
 refine L0 (E1 (by kernel_rfl) rfl rfl rfl (by first | (simp;done) | (simp;omega)) ?_)
 try simp only [List.set_cons_zero,List.set_cons_succ]
 refine Ld ?_
 refine T.own (λ w ho=>?_)
 have hc4:st2.length<=c4:=ho.cap_at (p:=p4) (m:=st2.length) (c:=c4)
 clear ho
 refine zW 13 none (nB rfl) ?_
 refine Rz 0 ?_;refine Rz 1 ?_;refine Rz 2 ?_;refine Rz 3 ?_;refine Rz 4 ?_;refine Rz 5 ?_;refine Rz 6 ?_;refine Rz 7 ?_
 refine Rq 8 rfl Sa (zS 8 (8+nn) (e:=5) (sz:=1) rfl rfl rfl rfl (by omega)) (yK 9 ?_)
 refine z6 rfl (Ec (Bc.clone B [rB (.slice pa m ca) m al] (.slice (offA (offA pa ca st.length 1) (ca-st.length) 8 1) (8+nn-8) (ca-st.length-8)) (((al.drop st.length).take (8+nn)).drop 8) (8+nn-8) (by simp;omega) (rrest.part 8 (8+nn) (by omega) (by simp;omega) (by omega) (by omega) rfl) (by omega)) Tryz.func89 rfl rfl rfl ?_)
 rintro _ _ ⟨p5,c5,rfl,hp5,rfl⟩
 try simp only [cA,nA]
 refine ⟨Sa,?_⟩
 refine Rq 10 rfl Sa (z8 [(0,1),(1,1)] [.int .i64 0,.slice none 0 0] [_,_] [(0,_),(1,_)] (by unfold Zf;kernel_rfl) rfl rfl) (yK 11 ?_)
 refine zY rfl (zK [_,_] (e:=164) (sz:=2) ⟨.agg #[.int .i64 0,.slice none 0 0],by kernel_rfl,rfl⟩ rfl rfl rfl ?_)
 intro g144
 refine yK 12 ?_
 refine zY rfl (Ea WRec.elem rfl rfl (SrcOf.blk (by kernel_rfl) rfl (by simp [Value.oneCell'])) (by unfold maxLen;omega) ?_)
 rintro p6 c6 hp6
 try simp only [cA,nA]
 refine Rd0 (by rfl) ?_
 simp only [dS,dZ,dN]
 refine La rfl (Ld ?_)
 have hsc2:=hsc.next hk ht (q:=p5) (c:=c5)
 rw [hlen2] at hsc2
 refine ⟨_,?_,_,⟨_,st2.length,st2,s',p4,c4,_,p6,c6,nq+1,⟨by omega,by rw [<-hlen2,List.take_add,<-hst,hst2],rfl,by simp [hnq],by omega,hp4,hc4,hsc2⟩,rfl,U4,rfl⟩,Sub.wrecAdd R ⟨st2.length,p5,c5,((al.drop st.length).take (8+nn)).drop 8⟩ p6 (nq+1) c6 (8+nn-8) (by simp;omega)⟩
 omega
open Go.RowKit
theorem DD.rdN (D:DD) (hp:D.pend=[]) (n:Nat):D.read n=D.secs.getD n []:=by
 unfold DD.read;rw [hp];exact DD.readK_zero D n
theorem DD.rdW (D:DD) (s:Nat) (d:List UInt8) (n:Nat):(D.write s d).read n=if s=n then d else D.read n:=by
 unfold DD.read DD.readK DD.write
 simp only [List.take_length,List.foldl_append,List.foldl_cons,List.foldl_nil]
theorem layW_256 (S:List (List UInt8)) (n:Nat) (d:List UInt8) (hd:d.length=256) (hl:(S.getD n []).length=256):layW S n 256 d=S.set n d:=by
 unfold layW
 rw [List.take_of_length_le (by omega),List.drop_of_length_le (by omega),List.append_nil]
theorem DD.rdS_lays {D:DD} (h:D.Ok) (n:Nat) (hn:n<D.secs.length) : ∀ k,k<=D.pend.length->(D.lays (λ _=>some 256) k).getD n []=D.readK n k
  | 0,_=>by rw [DD.readK_zero];rfl
  | k+1,hk=>by
    have hlt:k<D.pend.length:=by omega
    obtain ⟨hS,hSl⟩:=DD.lays_ok h (λ _=>some 256) (by simp) k
    have ih:=DD.rdS_lays h n hn k (by omega)
    have hd:=h.data _ (List.getElem_mem hlt)
    have ha:=h.at_ _ (List.getElem_mem hlt)
    rw [DD.lays_some D _ k 256 hlt rfl,DD.readK_succ D n k hlt]
    rw [layW_256 _ _ _ hd (by rw [List.getD_eq_getElem?_getD,List.getElem?_eq_getElem (by omega)];exact hS _ (List.getElem_mem _))]
    by_cases h1:D.pend[k].1=n
    . rw [if_pos h1,<-h1,List.getD_eq_getElem?_getD,List.getElem?_set_self (by omega)]
      rfl
    . rw [if_neg h1,List.getD_eq_getElem?_getD,List.getElem?_set_ne h1,<-List.getD_eq_getElem?_getD,ih]
theorem DD.rdS {D:DD} (h:D.Ok) (n:Nat) (hn:n<D.secs.length):D.sync.read n=D.read n:=by
 rw [DD.rdN _ rfl]
 exact DD.rdS_lays h n hn _ (Nat.le_refl _)
theorem DD.Ok.rd {D:DD} (h:D.Ok) (n:Nat) (hn:n<D.secs.length):(D.read n).length=256:=h.readK n hn _ (Nat.le_refl _)
theorem DD.Ok.lys {D:DD} (h:D.Ok) (f:Nat->Option Nat) (hf : ∀ i k,f i=some k->k<=256) (k:Nat):DD.Ok ⟨D.lays f k,[]⟩:=by
 obtain ⟨h1,h2⟩:=DD.lays_ok h f hf k
 exact ⟨by simp only;rw [h2];exact h.pos,by simp only;rw [h2];exact h.max,h1,by simp,by simp⟩
theorem DD.Ok.sy {D:DD} (h:D.Ok):D.sync.Ok:=h.lys _ (by simp) _
theorem DD.sync_len {D:DD} (h:D.Ok):D.sync.secs.length=D.secs.length:=(DD.lays_ok h _ (by simp) _).2
theorem DD.Ok.cr {D:DD} (h:D.Ok) (keep:List Bool) (t a:Int):(D.crash keep t a).Ok:=h.lys _ (amount_le _ _ _) _
theorem DD.crash_len {D:DD} (h:D.Ok) (keep:List Bool) (t a:Int):(D.crash keep t a).secs.length=D.secs.length:=(DD.lays_ok h _ (amount_le _ _ _) _).2
theorem DD.Ok.wr2 {D:DD} (h:D.Ok) (n:Nat) (d:List UInt8) (hn:n<D.secs.length) (hd:d.length=256):(D.write n d).Ok :=
 ⟨h.pos,h.max,h.secs,by
  intro p hp
  simp only [DD.write,List.mem_append,List.mem_singleton] at hp
  rcases hp with hp | rfl
  . exact h.at_ p hp
  . exact hn,by
  intro p hp
  simp only [DD.write,List.mem_append,List.mem_singleton] at hp
  rcases hp with hp | rfl
  . exact h.data p hp
  . exact hd⟩
theorem DD.new_read {n i:Nat} (hi:i<n):DD.read ⟨List.replicate n zs,[]⟩ i=List.replicate 256 0:=by
 rw [DD.rdN _ rfl,List.getD_eq_getElem?_getD,List.getElem?_replicate,if_pos hi]
 rfl
def Secs (D:DD) (first count:Nat) (st:List UInt8):Prop := ∀ j,j<count->D.read (first+j)=secW st j
theorem Secs.new {n first count:Nat} (h:first+count<=n):Secs ⟨List.replicate n zs,[]⟩ first count []:=λ j hj=>by
 rw [DD.new_read (by omega),secW_none (by simp)]
theorem Secs.sync {D:DD} {first count:Nat} {st:List UInt8} (h:Secs D first count st) (ho:D.Ok) (hl:first+count<=D.secs.length):Secs D.sync first count st:=λ j hj=>by
 rw [DD.rdS ho _ (by omega)];exact h j hj
theorem secW_take {st:List UInt8} {j k:Nat} (h:(j+1)*256<=k):secW (st.take k) j=secW st j:=by
 have e:((st.take k).drop (j*256)).take 256=(st.drop (j*256)).take 256:=by
  rw [List.drop_take,List.take_take,Nat.min_eq_left (by omega)]
 unfold secW
 rw [e]
theorem secW_app {st z:List UInt8} {j c:Nat} (hl:st.length<=c*256) (hj:j<c) (hz:z=List.replicate (c*256-st.length) 0):secW st j=((st++z).drop (j*256)).take 256:=by
 subst hz
 unfold secW
 rw [List.drop_append,List.take_append,List.drop_replicate,List.take_replicate]
 congr 2
 simp only [List.length_take,List.length_drop]
 omega
theorem all_text {D:DD} {first count:Nat} {st:List UInt8} (h:Secs D first count st) (hl:st.length<=count*256):allD D first count=st++List.replicate (count*256-st.length) 0:=by
 have key : ∀ n,n<=count->allD D first n=(st++List.replicate (count*256-st.length) 0).take (n*256):=by
  intro n
  induction n with
  | zero=>intro _;simp [allD]
  | succ n ih =>
   intro hn
   rw [<-allD_snoc,ih (by omega),h n (by omega),secW_app hl (by omega) rfl,show (n+1)*256=n*256+256 by omega,List.take_add]
 rw [key count (Nat.le_refl _),List.take_of_length_le]
 simp;omega
theorem allD_length {D:DD} (h:D.Ok) {first:Nat} : ∀ n,first+n<=D.secs.length->(allD D first n).length=n*256
 | 0,_=>rfl
 | n+1,hn=>by rw [<-allD_snoc,List.length_append,allD_length h n (by omega),h.rd _ (by omega)];omega
theorem allD_sec {D:DD} (h:D.Ok) {first j:Nat} : ∀ n,first+n<=D.secs.length->j<n->D.read (first+j)=((allD D first n).drop (j*256)).take 256
  | 0,_,hj=>by omega
  | n+1,hn,hj=>by
    have hl:=allD_length h n (by omega:first+n<=D.secs.length)
    rw [<-allD_snoc]
    by_cases e:j=n
    . subst e
      rw [List.drop_left' hl,List.take_of_length_le (by rw [h.rd _ (by omega)];omega)]
    . have:(j+1)*256<=n*256:=by omega
      rw [List.drop_append_of_le_length (by omega),List.take_append_of_le_length (by rw [List.length_drop];omega)]
      exact allD_sec h n (by omega) (by omega)
theorem lays_ok {W:Wl} : ∀ {k n:Nat} {D:DD},D.Ok->W.first+(n+k)<=D.secs.length->(laysW W D n k).Ok/\(laysW W D n k).secs.length=D.secs.length
 | 0,_,_,h,_=>⟨h,rfl⟩
 | k+1,n,D,h,hl=>by
  have:=lays_ok (W:=W) (k:=k) (n:=n+1) (h.wr2 (W.first+n) (secW W.st n) (by omega) (length_secW _ _)) (by simp only [DD.write];omega)
  exact this
theorem lays_out {W:Wl} {x:Nat} : ∀ {k n:Nat} {D:DD},(x<W.first+n\/W.first+(n+k)<=x)->(laysW W D n k).read x=D.read x
 | 0,_,_,_=>rfl
 | k+1,n,D,h=>by
  rw [laysW,lays_out (by omega),DD.rdW,if_neg (by omega)]
theorem lays_at {W:Wl} {j:Nat} : ∀ {k n:Nat} {D:DD},n<=j->j<n+k->(laysW W D n k).read (W.first+j)=secW W.st j
  | 0,_,_,_,_=>by omega
  | k+1,n,D,h1,h2=>by
    rw [laysW]
    by_cases e:j=n
    . subst e
      rw [lays_out (by omega),DD.rdW,if_pos rfl]
    . exact lays_at (by omega) (by omega)
theorem wipe_ok {W:Wl} {al:List UInt8} : ∀ {k n:Nat} {D:DD},D.Ok->W.first+(n+k)<=D.secs.length->(wipeD W al D n k).Ok/\(wipeD W al D n k).secs.length=D.secs.length
  | 0,_,_,h,_=>⟨h,rfl⟩
  | k+1,n,D,h,hl=>by
    rw [wipeD]
    split
    . exact wipe_ok h (by omega)
    . have:=wipe_ok (W:=W) (al:=al) (k:=k) (n:=n+1) (h.wr2 (W.first+n) (secW W.st n) (by omega) (length_secW _ _)) (by simp only [DD.write];omega)
      exact this
theorem wipe_out {W:Wl} {al:List UInt8} {x:Nat} : ∀ {k n:Nat} {D:DD},(x<W.first+n\/W.first+(n+k)<=x)->(wipeD W al D n k).read x=D.read x
 | 0,_,_,_=>rfl
 | k+1,n,D,h=>by
  rw [wipeD,wipe_out (by omega)]
  split
  . rfl
  . rw [DD.rdW,if_neg (by omega)]
theorem wipe_at {W:Wl} {al:List UInt8} {j:Nat} : ∀ {k n:Nat} {D:DD},n<=j->j<n+k->(wipeD W al D n k).read (W.first+j)=if ((al.take ((j+1)*256)).drop (max (j*256) W.dur)).all (· == 0) then D.read (W.first+j) else secW W.st j
  | 0,_,_,_,_=>by omega
  | k+1,n,D,h1,h2=>by
    rw [wipeD]
    by_cases e:j=n
    . subst e
      rw [wipe_out (by omega)]
      split
      . rfl
      . rw [DD.rdW,if_pos rfl]
    . rw [wipe_at (by omega) (by omega)]
      split
      . split
        . rfl
        . rw [DD.rdW,if_neg (by omega)]
      . rfl
theorem all_zero {l:List UInt8} (h:l.all (· == 0)=true):l=List.replicate l.length 0:=by
 rw [List.eq_replicate_iff]
 exact ⟨rfl,λ b hb=>by simpa using List.all_eq_true.1 h b hb⟩
theorem Secs.wiped {D:DD} {first count k:Nat} {s:UInt32} (ho:D.Ok) (hl:first+count<=D.secs.length) (hk:k<=count*256) :
    Secs (wipeD ⟨first,count,(allD D first count).take k,s,k⟩ (allD D first count) D (k/256) (count-k/256)) first count ((allD D first count).take k):=by
  obtain ⟨al,hal⟩ : ∃ al,allD D first count=al:=⟨_,rfl⟩
  have hlen:al.length=count*256:=by rw [<-hal];exact allD_length ho count hl
  have hsec : ∀ j,j<count->D.read (first+j)=(al.drop (j*256)).take 256:=λ j hj=>by rw [<-hal];exact allD_sec ho count hl hj
  rw [hal]
  intro j hj
  have hj2:(j+1)*256<=count*256:=by omega
  by_cases h:j<k/256
  . have hk2:(j+1)*256<=k:=by omega
    rw [wipe_out (W:=⟨first,count,al.take k,s,k⟩) (.inl (by show first+j<first+k/256;omega)),hsec j hj,secW_take hk2]
    unfold secW
    have e:((al.drop (j*256)).take 256).length=256:=by simp;omega
    rw [e];simp
  . rw [wipe_at (W:=⟨first,count,al.take k,s,k⟩) (by omega) (by omega)]
    split
    . next hz =>
      have hz2:=all_zero hz
      rw [hsec j hj]
      have hk3:k<(j+1)*256:=by omega
      have hml:max (j*256) k<=(j+1)*256:=by omega
      obtain ⟨lo,hlo⟩ : ∃ lo,max (j*256) k=lo:=⟨_,rfl⟩
      simp only at hz2
      rw [hlo] at hz2 hml
      have e1:(al.drop (j*256)).take 256=(al.take ((j+1)*256)).drop (j*256):=by
        rw [List.drop_take];congr 1;omega
      have e2:((al.take ((j+1)*256)).drop (j*256))=((al.take k).drop (j*256))++((al.take ((j+1)*256)).drop lo):=by
        by_cases hjk:j*256<=k
        . obtain rfl:k=lo:=by omega
          have:al.take ((j+1)*256)=al.take k++(al.take ((j+1)*256)).drop k:=by
            have:=List.take_append_drop k (al.take ((j+1)*256))
            rw [List.take_take,Nat.min_eq_left (by omega)] at this
            exact this.symm
          conv=>lhs;rw [this]
          rw [List.drop_append_of_le_length (by simp;omega)]
        . obtain rfl:j*256=lo:=by omega
          rw [List.drop_of_length_le (l:=al.take k) (by simp;omega),List.nil_append]
      rw [e1,e2,hz2]
      unfold secW
      rw [List.take_of_length_le (l:=((al.take k).drop (j*256))) (by simp;omega)]
      congr 2
      simp only [List.length_drop,List.length_take]
      omega
    . rfl
theorem Secs.flushed {D:DD} {W:Wl} (h:Secs D W.first W.count (W.st.take W.dur)) (hd:W.dur<=W.st.length) (hl:W.st.length<=W.count*256):Secs (laysW W D (W.dur/256) (flushN W)) W.first W.count W.st:=λ j hj=>by
  unfold flushN
  by_cases h1:j<W.dur/256
  . rw [lays_out (by omega),h j hj]
    exact secW_take (by omega)
  . by_cases h2:j<(W.st.length+255)/256
    . exact lays_at (by omega) (by omega)
    . have h3:W.st.length<=j*256:=by omega
      rw [lays_out (by omega),h j hj,secW_none h3,secW_none (by simp;omega)]
open Go.RowKit
def OkD (d:List UInt8):Prop:=d.length≠0/\d.length<=1024
instance (d : List UInt8):Decidable (OkD d):=inferInstanceAs (Decidable (_/\_))
def recB (s:UInt32) (k:Nat) (d:List UInt8):List UInt8:=be (UInt64.ofInt d.length) 4++be (sealW s k d).toUInt64 4++d
theorem Wf (s:UInt32) (k:Nat) (d:List UInt8):(recB s k d).length=8+d.length:=by simp [recB,Zd];omega
def logS : UInt32->Nat->List (List UInt8)->UInt32
 | s,_,[]=>s
 | s,k,d::ds=>logS (sealW s k d) (k+(8+d.length)) ds
def Zr : UInt32->Nat->List (List UInt8)->List UInt8
 | _,_,[]=>[]
 | s,k,d::ds=>recB s k d++Zr (sealW s k d) (k+(8+d.length)) ds
def logR : Nat->List (List UInt8)->List (Nat×List UInt8)
 | _,[]=>[]
 | k,d::ds=>(k+(8+d.length),d)::logR (k+(8+d.length)) ds
theorem length_logR : ∀ (k:Nat) (ds:List (List UInt8)),(logR k ds).length=ds.length
 | _,[]=>rfl
 | k,d::ds=>by simp [logR,length_logR _ ds]
theorem logR_snd : ∀ (k:Nat) (ds:List (List UInt8)),(logR k ds).map Prod.snd=ds
 | _,[]=>rfl
 | k,d::ds=>by simp [logR,logR_snd _ ds]
theorem length_logB_le : ∀ (s:UInt32) (k:Nat) (ds:List (List UInt8)),ds.length<=(Zr s k ds).length
 | _,_,[]=>Nat.le_refl _
 | s,k,d::ds=>by
  have:=length_logB_le (sealW s k d) (k+(8+d.length)) ds
  simp [Zr,Wf];omega
theorem logB_snoc : ∀ (s:UInt32) (k:Nat) (ds:List (List UInt8)) (d:List UInt8),Zr s k (ds++[d])=Zr s k ds++recB (logS s k ds) (k+(Zr s k ds).length) d
 | _,_,[],_=>by simp [Zr,logS]
 | s,k,e::ds,d=>by
  simp only [List.cons_append,Zr,logS,List.append_assoc,logB_snoc _ _ ds d,List.length_append,Wf]
  rw [Nat.add_assoc]
theorem logS_snoc : ∀ (s:UInt32) (k:Nat) (ds:List (List UInt8)) (d:List UInt8),logS s k (ds++[d])=sealW (logS s k ds) (k+(Zr s k ds).length) d
 | _,_,[],_=>by simp [Zr,logS]
 | s,k,e::ds,d=>by
  simp only [List.cons_append,Zr,logS,logS_snoc _ _ ds d,List.length_append,Wf]
  congr 1
  omega
theorem logB_app : ∀ (s:UInt32) (k:Nat) (ds es:List (List UInt8)),Zr s k (ds++es)=Zr s k ds++Zr (logS s k ds) (k+(Zr s k ds).length) es
 | _,_,[],_=>by simp [Zr,logS]
 | s,k,e::ds,es=>by
  simp only [List.cons_append,Zr,logS,List.append_assoc,logB_app _ _ ds es,List.length_append,Wf]
  rw [Nat.add_assoc]
theorem be_u32 (x:UInt32):x.toUInt64.toNat<256^4:=by rw [UInt32.toNat_toUInt64];exact x.toNat_lt
theorem u32_back (x:UInt32):(Wg (be x.toUInt64 4)).toUInt32=x:=by
 rw [get64_be _ (be_u32 x)]
 apply UInt32.toNat_inj.1
 have:=x.toNat_lt
 rw [UInt64.toNat_toUInt32,UInt32.toNat_toUInt64]
 omega
theorem u32_fwd {b:List UInt8} (h:b.length=4):be ((Wg b).toUInt32).toUInt64 4=b:=by
 have h1:=be_get64 (l:=b) (by omega)
 rw [h] at h1
 have h2:(Wg b).toNat<256^4:=by rw [get64_nat _ (by omega)];have:=natOf_lt b;rwa [h] at this
 have:((Wg b).toUInt32).toUInt64=Wg b:=by
  apply UInt64.toNat_inj.1
  rw [UInt32.toNat_toUInt64,UInt64.toNat_toUInt32]
  omega
 rw [this,h1]
theorem len_u64 (n:Nat) (h:n<=1024):(UInt64.ofInt n).toNat=n:=by
 have:=wru64_i64 (n:Int)
 rw [wru64] at this
 omega
theorem takeRec_at {al rest:List UInt8} {k:Nat} {s:UInt32} {d:List UInt8} (h:al.drop k=recB s k d++rest) (hd:OkD d):takeRec al k s=some (d.length,sealW s k d)/\((al.drop k).take (8+d.length)).drop 8=d:=by
 obtain ⟨h0,h1⟩:=hd
 have e1:(al.drop k).take 4=be (UInt64.ofInt d.length) 4:=by rw [h,recB,List.append_assoc,List.append_assoc,List.take_left' (Zd _ _)]
 have e2:((al.drop k).take 8).drop 4=be (sealW s k d).toUInt64 4:=by
  rw [h,recB,List.append_assoc,List.take_left' (l₁:=be (UInt64.ofInt d.length) 4++be (sealW s k d).toUInt64 4) (by simp [Zd]),List.drop_left' (Zd _ _)]
 have e3:((al.drop k).take (8+d.length)).drop 8=d:=by
  rw [h,List.take_left' (by rw [Wf]),recB,List.drop_left' (by simp [Zd])]
 have hl:(al.drop k).length=8+d.length+rest.length:=by rw [h,List.length_append,Wf]
 have e4:(Wg ((al.drop k).take 4)).toNat=d.length:=by
  rw [e1,get64_be _ (by rw [len_u64 _ h1];omega),len_u64 _ h1]
 refine ⟨?_,e3⟩
 rw [List.length_drop] at hl
 rw [takeRec_yes e4 (by omega) h0 h1 (by omega) (by rw [e3,e2,u32_back]),e2,u32_back]
theorem scan_at : ∀ (ds:List (List UInt8)) (k:Nat) (s:UInt32) (f:Nat) (al rest:List UInt8),al.drop k=Zr s k ds++rest->(∀ d∈ds,OkD d) ->
  Wj al (f+ds.length) k s=((Wj al f (k+(Zr s k ds).length) (logS s k ds)).1,(Wj al f (k+(Zr s k ds).length) (logS s k ds)).2.1,logR k ds++(Wj al f (k+(Zr s k ds).length) (logS s k ds)).2.2)
 | [],k,s,f,al,rest,_,_=>by simp [Zr,logS,logR]
 | d::ds,k,s,f,al,rest,h,hok=>by
  rw [Zr,List.append_assoc] at h
  obtain ⟨e1,e2⟩:=takeRec_at h (hok d (by simp))
  have h':al.drop (k+(8+d.length))=Zr (sealW s k d) (k+(8+d.length)) ds++rest:=by
   rw [<-List.drop_drop,h,List.drop_left' (Wf _ _ _)]
  have ih:=scan_at ds (k+(8+d.length)) (sealW s k d) f al rest h' (λ x hx=>hok x (by simp [hx]))
  rw [List.length_cons,<-Nat.add_assoc,Wj,e1]
  simp only [e2]
  rw [ih]
  simp only [Zr,logS,logR,List.length_append,Wf,List.cons_append,Nat.add_assoc]
theorem take_zeros {al:List UInt8} {k n:Nat} {s:UInt32} (h:al.drop k=List.replicate n 0):takeRec al k s=none:=by
  have hl:al.length-k=n:=by rw [<-List.length_drop,h,List.length_replicate]
  by_cases h8:al.length-k<8
  . exact takeRec_short h8
  . refine takeRec_no rfl (.inl ?_)
    rw [h,List.take_replicate,Nat.min_eq_left (by omega)]
    rfl
theorem scan_none {al:List UInt8} {k:Nat} {s:UInt32} (h:takeRec al k s=none) : ∀ f,Wj al f k s=(k,s,[])
 | 0=>rfl
 | f+1=>by rw [Wj,h]
theorem scan_text (ds:List (List UInt8)) (n f:Nat) (hf:ds.length<=f) (hok : ∀ d∈ds,OkD d):Wj (Zr 0 0 ds++List.replicate n 0) f 0 0=((Zr 0 0 ds).length,logS 0 0 ds,logR 0 ds):=by
 have:=scan_at ds 0 0 (f-ds.length) (Zr 0 0 ds++List.replicate n 0) (List.replicate n 0) rfl hok
 have h2:=scan_none (al:=Zr 0 0 ds++List.replicate n 0) (k:=0+(Zr 0 0 ds).length) (s:=logS 0 0 ds) (take_zeros (n:=n) (by rw [Nat.zero_add,List.drop_left' rfl])) (f-ds.length)
 rw [Nat.sub_add_cancel hf,h2] at this
 rw [this]
 simp
theorem take_back {al:List UInt8} {k nn:Nat} {s s':UInt32} (h:takeRec al k s=some (nn,s')) : ∃ d,d=((al.drop k).take (8+nn)).drop 8/\d.length=nn/\OkD d/\s'=sealW s k d/\(al.drop k).take (8+nn)=recB s k d/\k+(8+nn)<=al.length:=by
  unfold takeRec at h
  split at h
  . cases h
  . next h8 =>
    split at h
    . cases h
    . next hn =>
      injection h with h
      injection h with e1 e2
      rw [e1,e2] at hn
      have hn1:nn≠0/\nn<=1024/\nn<=(al.drop k).length-8:=by omega
      have hn2:sealW s k (((al.drop k).take (8+nn)).drop 8)=s':=by
        apply Decidable.not_not.1
        intro hne
        exact hn (.inr (.inr (.inr hne)))
      have hl:(((al.drop k).take (8+nn)).drop 8).length=nn:=by simp at hn1 h8 ⊢;omega
      refine ⟨_,rfl,hl,⟨by omega,by omega⟩,hn2.symm,?_,by simp at hn1 h8;omega⟩
      have f1:be (UInt64.ofInt nn) 4=(al.drop k).take 4:=by
        have h4:((al.drop k).take 4).length=4:=by simp at h8 ⊢;omega
        have:=be_get64 (l:=(al.drop k).take 4) (by omega)
        rw [h4] at this
        rw [<-this]
        congr 1
        apply UInt64.toNat_inj.1
        rw [len_u64 _ (by omega),e1]
      have f2:be s'.toUInt64 4=((al.drop k).take 8).drop 4:=by
        rw [<-e2]
        exact u32_fwd (by simp at h8 ⊢;omega)
      unfold recB
      rw [hl,hn2,f1,f2]
      have g1:((al.drop k).take 8).drop 4=((al.drop k).drop 4).take 4:=by rw [List.drop_take]
      have g2:((al.drop k).take (8+nn)).drop 8=((al.drop k).drop 8).take nn:=by rw [List.drop_take];congr 1;omega
      rw [g1,g2,List.append_assoc,show 8+nn=4+(4+nn) by omega,List.take_add,List.take_add,List.drop_drop,List.drop_drop,List.drop_drop]
theorem scan_back : ∀ (f k:Nat) (s:UInt32) (al:List UInt8),k<=al.length -> ∃ ds,(∀ d∈ds,OkD d)/\Wj al f k s=(k+(Zr s k ds).length,logS s k ds,logR k ds)/\(al.drop k).take (Zr s k ds).length=Zr s k ds/\k+(Zr s k ds).length<=al.length
  | 0,k,s,al,hk=>⟨[],by simp,rfl,rfl,hk⟩
  | f+1,k,s,al,hk=>by
    rw [Wj]
    cases ht:takeRec al k s with
    | none=>exact ⟨[],by simp,rfl,rfl,hk⟩
    | some p =>
      obtain ⟨nn,s'⟩:=p
      obtain ⟨d,e0,e1,e2,e3,e4,e5⟩:=take_back ht
      subst e1
      subst e3
      obtain ⟨ds,h1,h2,h3,h4⟩:=scan_back f (k+(8+d.length)) (sealW s k d) al e5
      refine ⟨d::ds,?_,?_,?_,?_⟩
      . intro x hx
        rcases List.mem_cons.1 hx with rfl | hx
        . exact e2
        . exact h1 x hx
      . simp only [h2,<-e0,Zr,logS,logR,List.length_append,Wf,Nat.add_assoc]
      . rw [Zr,List.length_append,Wf,List.take_add,e4,List.drop_drop,h3]
      . rw [Zr,List.length_append,Wf];omega
def mkW (first count:Nat) (ds:List (List UInt8)) (dur:Nat):Wl:=⟨first,count,Zr 0 0 ds,logS 0 0 ds,dur⟩
theorem addW_mk {first count dur:Nat} {ds:List (List UInt8)} {d:List UInt8} (hd:OkD d) (hr:(Zr 0 0 ds).length+8+d.length<=count*256):addW (mkW first count ds dur) d=(mkW first count (ds++[d]) dur,((Zr 0 0 (ds++[d])).length:Int),0):=by
 have hl:(Zr 0 0 (ds++[d])).length=(Zr 0 0 ds).length+(8+d.length):=by rw [logB_snoc,List.length_append,Wf]
 unfold addW
 rw [if_neg hd.1,if_neg (by have:=hd.2;omega),if_neg (by show ¬ count*256<(Zr 0 0 ds).length+8+d.length;omega),hl]
 unfold mkW
 rw [logB_snoc,logS_snoc]
 simp only [recB,Nat.zero_add,List.append_assoc,Int.natCast_zero,Int.zero_add]
 congr 2
 omega
open Go.RowKit
theorem Own.dskOk {B:Wn} {w:World} {b:Nat} {D:DD} {l:List Wp} (H:Own B w (Zn b D::l)):D.Ok:=by
 obtain ⟨_,_,_,_,_,h⟩:=H.disk
 exact h.ok
theorem Fn.diskOk {P:Program} {B:Wn} {f:FuncId} {args:Array Value} {b:Nat} {D:DD} {S:List Wp} {R:Value->List Wp->Prop} (h:D.Ok->Fn P B f args (Zn b D::S) R):Fn P B f args (Zn b D::S) R:=⟨λ w F ho=>(h ho.dskOk).run w F ho⟩
section
variable {P : Program} {B:Wn} {n:Nat} {l r:List Wp} {f:Fr} {Φ:Post} {c:Code}
end
theorem Fn.openWl {P:Program} {B:Wn} {f:FuncId} {args:Array Value} {g b:Nat} {W:Wl} {S:List Wp} {R:Value->List Wp->Prop} (h : ∀ p c,(0<W.st.length -> ∃ g,p=some ⟨g,0,none⟩)->W.st.length<=c->Fn P B f args (wlB g b W p c::rB (.slice p W.st.length c) W.st.length W.st::S) R):Fn P B f args (wlA g b W::S) R:=⟨λ w F ho=>by
 obtain ⟨p,c,e⟩:=Own.openWl (l:=S++F) ho
 exact (h p c (e.tl.slice_at (p:=p) (m:=W.st.length) (c:=c)).2.1 (e.tl.cap_at (p:=p) (m:=W.st.length) (c:=c))).run w F e⟩
theorem sub_wlA {g b:Nat} {W:Wl} {p:Option Addr} {c:Nat} {S:List Wp}:Sub (wlB g b W p c::rB (.slice p W.st.length c) W.st.length W.st::S) (wlA g b W::S):=λ h H=>by
 obtain ⟨h1,h2,d,a1,a2,k1,k2⟩:=Has.split (l:=[_,_]) H
 exact ⟨h1,h2,d,a1,a2,⟨p,c,k1⟩,k2⟩
theorem PartsV.mono {B:Wn} {S S':List Wp} {v:Value} {bs:List (List UInt8)} (h:PartsV B S v bs) (hm : ∀ w,Own B w S'->Own B w S):PartsV B S' v bs:=by
 obtain ⟨vs,h1,h2,h3⟩:=h
 exact ⟨vs,h1.mono hm,h2,λ i a b=>(h3 i a b).mono hm⟩
theorem addW_cases (W:Wl) (d:List UInt8):((d.length=0/\addW W d=(W,0,5))\/(d.length≠0/\1024<d.length/\addW W d=(W,0,2))\/(d.length≠0/\d.length<=1024/\W.count*256<W.st.length+8+d.length/\addW W d=(W,0,3)))\/(OkD d/\W.st.length+8+d.length<=W.count*256/\(addW W d).2.2=0):=by
  by_cases h0:d.length=0
  . exact .inl (.inl ⟨h0,by unfold addW;rw [if_pos h0]⟩)
  . by_cases h1:1024<d.length
    . exact .inl (.inr (.inl ⟨h0,h1,by unfold addW;rw [if_neg h0,if_pos h1]⟩))
    . by_cases h2:W.count*256<W.st.length+8+d.length
      . exact .inl (.inr (.inr ⟨h0,by omega,h2,by unfold addW;rw [if_neg h0,if_neg h1,if_pos h2]⟩))
      . exact .inr ⟨⟨h0,by omega⟩,by omega,by unfold addW;rw [if_neg h0,if_neg h1,if_neg h2]⟩
theorem Wl.add (B:Wn) (S:List Wp) (g b:Nat) (W:Wl) (a:Option Addr) (c:Nat) (bs:List (List UInt8)) (n:Nat) (hbn:bs.length=n) (hv:PartsV B S (.slice a bs.length c) bs) (hc:bs.length<=c) (hn:bs.length<2^32) (d:List UInt8) (hdd:bs.flatten=d) (hN2:d.length<=2^40) (hcnt:W.count<=4096) (hst:W.st.length<=W.count*256) :
    Fn Tryz.prog B 127 #[.pointer (some ⟨g,0,none⟩),.slice a n c] (wlA g b W::S) (λ u l=>u = .tuple #[.int .i64 (addW W d).2.1,.int .i64 (addW W d).2.2]/\l=wlA g b (addW W d).1::S):=by
  subst hdd
  subst hbn
  refine Fn.openWl λ p cc hp hcc=>?_
  rcases addW_cases W bs.flatten with h | ⟨h1,h2,h3⟩
  . have key : ∀ code,((bs.flatten.length=0/\code=5)\/(bs.flatten.length≠0/\1024<bs.flatten.length/\code=2)\/(bs.flatten.length≠0/\bs.flatten.length<=1024/\W.count*256<W.st.length+8+bs.flatten.length/\code=3))->addW W bs.flatten=(W,0,code) ->
        Fn Tryz.prog B 127 #[.pointer (some ⟨g,0,none⟩),.slice a bs.length c] (wlB g b W p cc::rB (.slice p W.st.length cc) W.st.length W.st::S) (λ u l=>u = .tuple #[.int .i64 (addW W bs.flatten).2.1,.int .i64 (addW W bs.flatten).2.2]/\l=wlA g b (addW W bs.flatten).1::S):=by
      intro code hcode e
      rw [e]
      have h0:=Wl.append_no B (rB (.slice p W.st.length cc) W.st.length W.st::S) g b W p cc a c bs (PartsV.mono hv (λ w ho=>ho.tl)) hc hn hN2 hcnt hst code hcode
      exact h0.sub λ v l ⟨e1,e2⟩=>⟨_,e2 ▸ sub_wlA,e1,rfl⟩
    rcases h with ⟨h0,e⟩ | ⟨h0,h1,e⟩ | ⟨h0,h1,h2,e⟩
    . exact key 5 (.inl ⟨h0,rfl⟩) e
    . exact key 2 (.inr (.inl ⟨h0,h1,rfl⟩)) e
    . exact key 3 (.inr (.inr ⟨h0,h1,h2,rfl⟩)) e
  . have h0:=Wl.append B S g b W p cc hp a c bs hv hc hn hcnt bs.flatten rfl h1.1 h1.2 h2
    exact h0.sub λ v l ⟨p',c',e1,e2,e3⟩=>⟨_,e3 ▸ sub_wlA,by rw [h3];exact e1,rfl⟩
def Wh (W:Wl) (D:DD):DD:=if W.dur=W.st.length then D else flushD W D
theorem Wl.forceYes (B:Wn) (g b:Nat) (W:Wl) (D:DD) (mark:Int) (hD:W.first+W.count<=D.secs.length) (hs:D.secs.length<=4096) (hst:W.st.length<=W.count*256) (hdur:W.dur<=W.st.length) (hroom:D.pend.length+4096<2^32) (hm:W.dur<mark\/W.dur=W.st.length) :
    Fn Tryz.prog B 128 #[.pointer (some ⟨g,0,none⟩),.int .i64 mark] [wlA g b W,Zn b D] (λ u l=>u = .tuple #[]/\l=[wlA g b W.flushed,Zn b (Wh W D)]):=by
  refine Fn.openWl λ p cc hp hcc=>?_
  unfold Wh
  by_cases h:W.dur=W.st.length
  . rw [if_pos h]
    have h0:=(Wl.force_no B g b W p cc mark (by omega) (.inr h)).frame [rB (.slice p W.st.length cc) W.st.length W.st,Zn b D]
    refine h0.sub λ v l ⟨l',⟨e1,e2⟩,e3⟩=>⟨_,?_,e1,rfl⟩
    subst e2;subst e3
    rw [show W.flushed=W by cases W;simp_all [Wl.flushed]]
    exact sub_wlA
  . rw [if_neg h]
    have h0:=Wl.force B g b W p cc hp hcc D mark hD hs hst hdur hroom (by omega) h
    exact h0.sub λ v l ⟨e1,e2⟩=>⟨_,e2 ▸ sub_wlA (W:=W.flushed),e1,rfl⟩
theorem Wl.forceNo (B:Wn) (g b:Nat) (W:Wl) (mark:Int) (hdur:W.dur<2^40) (hm:mark<=W.dur) :
  Fn Tryz.prog B 128 #[.pointer (some ⟨g,0,none⟩),.int .i64 mark] [wlA g b W] (λ u l=>u = .tuple #[]/\l=[wlA g b W]):=by
 refine Fn.openWl λ p cc hp hcc=>?_
 have h0:=(Wl.force_no B g b W p cc mark hdur (.inl hm)).frame [rB (.slice p W.st.length cc) W.st.length W.st]
 refine h0.sub λ v l ⟨l',⟨e1,e2⟩,e3⟩=>⟨_,?_,e1,rfl⟩
 subst e2;subst e3
 exact sub_wlA
theorem Wl.flush (B:Wn) (g b:Nat) (W:Wl) (D:DD) (hD:W.first+W.count<=D.secs.length) (hs:D.secs.length<=4096) (hst:W.st.length<=W.count*256) (hdur:W.dur<=W.st.length) (hroom:D.pend.length+4096<2^32) :
  Fn Tryz.prog B 85 #[.pointer (some ⟨g,0,none⟩)] [wlA g b W,Zn b D] (λ u l=>u = .tuple #[]/\l=[wlA g b W.flushed,Zn b (Wh W D)]):=by
 refine Wq 6 Tryz.func85 rfl rfl (nB rfl) (λ F=>?_)
 try simp only [cA,nA]
 refine TR (Lm rfl (Lm rfl ?_))
 refine Le (Ec (Wl.endOf B g b W (by omega)) Tryz.func129 rfl rfl rfl ?_)
 rintro _ _ ⟨rfl,rfl⟩
 try simp only [cA,nA]
 refine Le (Ec (Wl.forceYes B g b W D W.st.length hD hs hst hdur hroom (by omega)) Tryz.func128 rfl rfl rfl ?_)
 rintro _ _ ⟨rfl,rfl⟩
 try simp only [cA,nA]
 refine Ld ?_
 exact ⟨.inr rfl,_,_,res [] rfl trivial,⟨rfl,rfl⟩,Sa⟩
theorem flushE_secs {W:Wl} {D:DD} (ho:D.Ok) (hD:W.first+W.count<=D.secs.length) (h:Secs D W.first W.count (W.st.take W.dur)) (hdur:W.dur<=W.st.length) (hst:W.st.length<=W.count*256):Secs (Wh W D) W.first W.count W.st:=by
  unfold Wh
  split
  . next e=>rwa [e,List.take_length] at h
  . obtain ⟨h1,h2⟩:=lays_ok (W:=W) (k:=flushN W) (n:=W.dur/256) ho (by unfold flushN;omega)
    exact (h.flushed hdur hst).sync h1 (by omega)
theorem flushE_out {W:Wl} {D:DD} (ho:D.Ok) (hD:W.first+W.count<=D.secs.length) (hdur:W.dur<=W.st.length) (hst:W.st.length<=W.count*256) {x:Nat} (hx:x<D.secs.length) (h:x<W.first\/W.first+W.count<=x):(Wh W D).read x=D.read x:=by
  unfold Wh
  split
  . rfl
  . obtain ⟨h1,h2⟩:=lays_ok (W:=W) (k:=flushN W) (n:=W.dur/256) ho (by unfold flushN;omega)
    rw [flushD,DD.rdS h1 _ (by omega),lays_out (by unfold flushN;omega)]
def OpenAny (b first count:Nat) (D:DD) (u:Value) (l:List Wp):Prop := ∃ g q cq R ds D',(∀ d∈ds,OkD d)/\R.map (λ x:WRec=>(x.mark,x.r.b))=logR 0 ds/\D'.Ok/\D'.secs.length=D.secs.length/\D'.pend=[]/\Secs D' first count (Zr 0 0 ds)/\(Zr 0 0 ds).length<=count*256 /\
 (∀ x,x<D.secs.length->(x<first\/first+count<=x)->D'.read x=D.read x)/\((Zr 0 0 ds).length,logS 0 0 ds,logR 0 ds)=Wj (allD D first count) (count*256+1) 0 0 /\
 u = .tuple #[.pointer (some ⟨g,0,none⟩),.slice q ds.length cq,.int .i64 0]/\l=[wrecR q ds.length cq R,recsA (R.map WRec.r),wlA g b (mkW first count ds (Zr 0 0 ds).length),Zn b D']
theorem Wl.openAny (B:Wn) (b:Nat) (D:DD) (first count:Nat) (i j:Int) (hi:i=first) (hj:j=count) (h1:1<=count) (hD:first+count<=D.secs.length) (hroom:D.pend.length+4096<2^32) :
    Fn Tryz.prog B 41 #[.pointer (some ⟨b,0,none⟩),.int .i64 i,.int .i64 j] [Zn b D] (OpenAny b first count D):=by
  subst hi;subst hj
  refine Fn.diskOk λ ho=>?_
  refine (Wl.open B b D first count h1 hD ho.max hroom (λ n hn=>ho.rd n hn)).sub λ u l h=>?_
  obtain ⟨g,p,c,q,cq,R,k,s,e1,e2,e3,e4,e5,e6,e7⟩:=h
  have hal:=allD_length ho count hD
  obtain ⟨ds,k1,k2,k3,k4⟩:=scan_back (count*256+1) 0 0 (allD D first count) (Nat.zero_le _)
  rw [k2] at e1
  injection e1 with f1 f2
  injection f2 with f2 f3
  rw [Nat.zero_add] at f1 k4 k2
  rw [List.drop_zero] at k3
  subst f1
  subst f2
  have hw:=Secs.wiped (s:=logS 0 0 ds) ho hD (show (Zr 0 0 ds).length<=count*256 by omega)
  obtain ⟨w1,w2⟩:=wipe_ok (W:=⟨first,count,(allD D first count).take (Zr 0 0 ds).length,logS 0 0 ds,(Zr 0 0 ds).length⟩) (al:=allD D first count) (k:=count-(Zr 0 0 ds).length/256) (n:=(Zr 0 0 ds).length/256) ho (by show first+_<=_;omega)
  have hR:R.length=ds.length:=by rw [<-length_logR 0 ds,f3,List.length_map]
  rw [hR] at e6 e7
  rw [k3] at e7 hw w1 w2
  refine ⟨_,?_,g,q,cq,R,ds,_,k1,f3.symm,w1.sy,(DD.sync_len w1).trans w2,rfl,hw.sync w1 (by rw [w2];exact hD),e2,?_,k2.symm,e6,rfl⟩
  . rw [e7]
    intro h H
    refine Wt (λ _ H=>Wt (λ _ H=>?_) H) H
    obtain ⟨h1,h2,d,a1,a2,k1,k2⟩:=Has.split (l:=[_,_]) H
    refine ⟨h1,h2,d,a1,a2,⟨p,c,?_⟩,k2⟩
    exact Has.swap k1
  . intro x hx hxo
    rw [DD.rdS w1 _ (by omega),wipe_out (by show x<first+_\/first+(_+_)<=x;omega)]
open Go.RowKit
end Go.Proofs.YtkfmfoecplbclaaGreatDoor
