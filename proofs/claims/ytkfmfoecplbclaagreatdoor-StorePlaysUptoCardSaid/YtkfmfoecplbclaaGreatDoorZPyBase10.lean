/- The texts SpA HeE HeF SxF, one behind the other: what the law leans on. Conditions: as each theorem says. -/
import Derived.Test.YtkfmfoecplbclaaGreatDoorZPyBase9
set_option linter.unusedSimpArgs false
set_option linter.unusedVariables false
set_option maxRecDepth 100000
set_option maxHeartbeats 16000000
namespace Go.Proofs.YtkfmfoecplbclaaGreatDoor
open Go.RowKit
theorem Has.permS {L M:List Wp} (hp:L.Perm M) : ∀ {h:Piece},Has L h->Has M h:=by
 induction hp with
 | nil=>exact λ H=>H
 | cons A _ ih=>exact λ H=>Wt (λ _=>ih) H
 | swap A A' l=>exact λ H=>Has.swap H
 | trans _ _ ih1 ih2=>exact λ H=>ih2 (ih1 H)
theorem perm_eraseS {α:Type} : ∀ {L:List α} {i:Nat} {A:α},L[i]? = some A->L.Perm (A::L.eraseIdx i)
 | [],_,_,h=>by simp at h
 | B::L,0,A,h=>by simp at h;subst h;exact List.Perm.refl _
 | B::L,i+1,A,h=>((perm_eraseS (L:=L) (i:=i) (by simpa using h)).cons B).trans (List.Perm.swap ..)
theorem set_eraseS {α:Type} : ∀ {L:List α} {i:Nat} (A:α),i<L.length->(L.set i A).eraseIdx i=L.eraseIdx i
 | [],_,_,h=>by simp at h
 | B::L,0,A,_=>rfl
 | B::L,i+1,A,h=>by simp [set_eraseS (L:=L) (i:=i) A (by simpa using h)]
theorem sep_takeS {L l:List Wp} {i:Nat} {A:Wp} (hi:L[i]? = some A) {h:Piece} (H:Has (sepL L::l) h):Has (A::sepL (L.eraseIdx i)::l) h:=by
 obtain ⟨h1,h2,d,a,b,e1,e2⟩:=H
 obtain ⟨k1,k2,d2,a1,a2,hA,f2⟩:=Has.permS (perm_eraseS hi) e1
 have d1:=d.disj_symm.disj_le a1
 have d3:=d.disj_symm.disj_le a2
 exact ⟨k1,Piece.add k2 h2,(Piece.add_disj d2.disj_symm d1).disj_symm,a1.le_trans a,Piece.add_le (a2.le_trans a) b,hA,k2,h2,d3.disj_symm,Piece.le_add_left _ _,Piece.le_add_right d3.disj_symm,f2,e2⟩
theorem sep_putS {L l:List Wp} {i:Nat} {A:Wp} (hi:i<L.length) {h:Piece} (H:Has (A::sepL (L.eraseIdx i)::l) h):Has (sepL (L.set i A)::l) h:=by
 obtain ⟨k1,k0,d0,a1,a0,hA,k2,h2,d3,b1,b2,f2,e2⟩:=H
 have d12:=d0.disj_le b1
 have d1h:=d0.disj_le b2
 refine ⟨Piece.add k1 k2,h2,Piece.add_disj d1h d3,Piece.add_le a1 (b1.le_trans a0),b2.le_trans a0,?_,e2⟩
 refine Has.permS (perm_eraseS (L:=L.set i A) (i:=i) (by rw [List.getElem?_set_self hi])).symm ?_
 rw [set_eraseS A hi]
 exact ⟨k1,k2,d12,Piece.le_add_left _ _,Piece.le_add_right d12,hA,f2⟩
theorem sep_nilS {l:List Wp} {h:Piece} (H:Has l h):Has (sepL []::l) h:=⟨λ _=>none,h,⟨λ _ => .inl rfl⟩,⟨λ _ _ e=>(by cases e)⟩,Piece.le_refl h,trivial,H⟩
theorem sep_pushS {L l:List Wp} {A:Wp} {h:Piece} (H:Has (A::sepL L::l) h):Has (sepL (L++[A])::l) h:=by
 obtain ⟨k1,k0,d0,a1,a0,hA,k2,h2,d3,b1,b2,f2,e2⟩:=H
 have d12:=d0.disj_le b1
 have d1h:=d0.disj_le b2
 refine ⟨Piece.add k1 k2,h2,Piece.add_disj d1h d3,Piece.add_le a1 (b1.le_trans a0),b2.le_trans a0,?_,e2⟩
 exact Has.permS (List.perm_append_singleton A L).symm ⟨k1,k2,d12,Piece.le_add_left _ _,Piece.le_add_right d12,hA,f2⟩
section
variable {P : Program} {B:Wn} {n:Nat} {S l r:List Wp} {f:Fr}
variable {ty : TypeId} {pos:String} {af:Array Edge} {gd:Option (Nat×Bool)}
variable {d : Option Tmp}
theorem Y4 {g:FuncId} {bs:Array Operand} (vs:List Value) (hb:bs.toList.map (ev n f)=vs.map some):Qt P B n S ⟨d,.makeFunc (.func g) #[] bs,ty,pos,af,gd⟩ f (.func (.func g) #[] vs.toArray):=⟨λ w _=>by
 have hav:bs.map (evu n f)=vs.toArray:=by
  have:bs.toList.map (evu n f)=vs:=by
   have e:=congrArg (List.map (λ o:Option Value=>o.getD undef)) hb
   have e2:(λ x=>evu n f x)=evu n f:=rfl
   simp only [List.map_map,Function.comp_def,Option.getD_some,List.map_id'] at e
   exact e
  rw [<-Array.toList_inj,Array.toList_map]
  simpa using this
 simp [execOp,hav,Instr.makeFunc]⟩
theorem ZE {d:Option Tmp} {x:Operand} {g:FuncId} {fn:Func} {args:Array Operand} {ats:Array TypeId} {pre F:List Wp} {R:Value->List Wp->Prop} {K:Value->List Wp->Prop} (vs cap:List Value) (hc:Fn P B g (vs++cap).toArray pre R) (hf:P.funcs[g]? = some fn) (hn:(fn.name == "runtime.NumGoroutine")=false) (hb:fn.body.isNone=false)
  (hx:ev n f x=some (.func (.func g) #[] cap.toArray)) (ha:args.toList.map (ev n f)=vs.map some) (hne:(match x with | .func _=>false | _=>true)=true) [k:TakeL pre l F] (h : ∀ v l',R v l'->K v (l'++F)):Ef P B n ⟨d,.call ⟨.value x,args,ats⟩,ty,pos,af,gd⟩ f l K:=⟨λ w next Q ho hk=>by
 have hav:args.map (evu n f)=vs.toArray:=by
  have:args.toList.map (evu n f)=vs:=by
   have e:=congrArg (List.map (λ o:Option Value=>o.getD undef)) ha
   have e2:(λ x=>evu n f x)=evu n f:=rfl
   simp only [List.map_map,Function.comp_def,Option.getD_some,List.map_id'] at e
   exact e
  rw [<-Array.toList_inj,Array.toList_map]
  simpa using this
 have h0:=hc.run w F ho.takeL
 unfold Oper.wp execOp
 rw [Wk]
 have he:((do let c <-resolve (evu n f) ⟨.value x,args,ats⟩ ty;invoke c.target c.args):Sem Next).run P w = .ok (.enter g (vs++cap).toArray) w:=by
  simp only [resolve,hav]
  have hn' : ¬ fn.name = "runtime.NumGoroutine" := by simpa using hn
  have hb' : ¬ fn.body=none:=λ e=>by rw [e] at hb;cases hb
  simp [Zc hx,Deferred.ofValue,invoke,callFunc,hf,hn',hb']
 rw [he]
 show Calls P g (vs++cap).toArray w _
 refine Calls.mono h0 ?_
 rintro e w' ⟨v,l',rfl,hR,ho'⟩
 exact hk v w' _ (h v l' hR) ho'⟩
end
open Go.RowKit
theorem splice_setB (off:Nat) (d b:List UInt8) (h:off+d.length<=b.length):splice (Zb b) off (Zb d)=Zb (setB off d b):=by
 unfold splice setB
 simp [Zb,List.map_take,List.map_drop]
theorem length_setB {off:Nat} {d b:List UInt8} (h:off+d.length<=b.length):(setB off d b).length=b.length:=by
 unfold setB;simp;omega
theorem used_set {recs:List (List UInt8)} {j:Nat} {b:List UInt8} (hj:j<recs.length) (h:b.length=recs[j].length):ZO (recs.set j b)=ZO recs:=by
 unfold ZO
 congr 1
 rw [List.map_set]
 apply List.ext_getElem?
 intro i
 rw [List.getElem?_set]
 split
 . rename_i e;subst e;simp [hj,h]
 . rfl
theorem pgok_set {recs:List (List UInt8)} (h:PgOk recs) {j:Nat} {b:List UInt8} (hj:j<recs.length) (hb:b.length=recs[j].length):PgOk (recs.set j b):=by
 refine ⟨by rw [used_set hj hb];exact h.used,λ x hx=>?_⟩
 rcases List.mem_or_eq_of_mem_set hx with hx | rfl
 . exact h.len x hx
 . rw [hb];exact h.len _ (List.getElem_mem _)
theorem rec_set {R:List Rec} {j:Nat} (hj:j<R.length) (b:List UInt8):(R.set j {R[j] with b:=b}).map Rec.b=(R.map Rec.b).set j b:=by rw [List.map_set]
theorem pg_set {g:Nat} {p:Option Addr} {c:Nat} {R:List Rec} {j:Nat} {mark:Int} (hj:j<R.length) {b:List UInt8} (hb:b.length=R[j].b.length) (hok:PgOk (R.map Rec.b)) {l:List Wp} {h:Piece}
    (H:Has (rB (.slice R[j].p R[j].b.length R[j].c) R[j].b.length b::sepL ((R.map recA).eraseIdx j)::pgB g p R.length c mark::pgR p R.length c R::l) h):Has (pgA g ((R.map Rec.b).set j b) mark::l) h:=by
  have hjm:j<(R.map recA).length:=by simpa using hj
  have e1:(R.map recA).set j (rB (.slice R[j].p R[j].b.length R[j].c) R[j].b.length b)=(R.set j {R[j] with b:=b}).map recA:=by
    rw [List.map_set];congr 1;unfold recA;dsimp only;rw [hb]
  have H1:=sep_putS (L:=R.map recA) hjm H
  rw [e1] at H1
  have e2:R.map recV=(R.set j {R[j] with b:=b}).map recV:=by
    rw [List.map_set]
    apply List.ext_getElem?
    intro i
    rw [List.getElem?_set]
    split
    . rename_i e;subst e;simp [hj,hb]
    . rfl
  have H0:Has (recsA (R.set j {R[j] with b:=b})::pgB g p R.length c mark::pgR p R.length c R::l) h:=H1
  have H2:Has (pgB g p R.length c mark::pgR p R.length c R::recsA (R.set j {R[j] with b:=b})::l) h:=Sa h H0
  have e3:(R.set j {R[j] with b:=b}).length=R.length:=by simp
  obtain ⟨h1,h2,d,a1,a2,k1,k2⟩:=Has.split (l:=[pgB g p R.length c mark,pgR p R.length c R,recsA (R.set j {R[j] with b:=b})]) H2
  refine ⟨h1,h2,d,a1,a2,⟨p,c,R.set j {R[j] with b:=b},rec_set hj b,?_,?_⟩,k2⟩
  . exact pgok_set hok (by simpa using hj) (by simpa using hb)
  . rw [e3]
    unfold pgR
    rw [<-e2]
    exact k1
theorem Pg.set (B:Wn) (S:List Wp) (g:Nat) (recs:List (List UInt8)) (mark i:Int) (j:Nat) (hi:i=j) (b:List UInt8) (hb:recs[j]? = some b) (off:Nat) (oi:Int) (ho:oi=off) (a:Option Addr) (m c:Nat) (d:List UInt8) (hv:RdV B S (.slice a m c) (Zb d)) (hm:d.length=m) (h0:0<m) (hf:off+m<=b.length) :
  Fn Tryz.prog B 133 #[.pointer (some ⟨g,0,none⟩),.int .i64 i,.int .i64 oi,.slice a m c] (pgA g recs mark::S) (λ v l=>v = .int .i64 0/\l=pgA g (recs.set j (setB off d b)) mark::S):=by
 subst hi;subst ho
 have hjl:=(List.getElem?_eq_some_iff.1 hb).1
 refine Fn.enter4 55 Tryz.func133 rfl rfl (nB rfl) (λ F=>?_)
 try simp only [cA,nA]
 refine TS (La rfl (Ld (Ts (yH (TS (Lm rfl (Lm rfl ?_)))))))
 refine Le (Ec (Pg.has B g recs mark j) Tryz.func109 rfl rfl rfl ?_)
 rintro _ _ ⟨rfl,rfl⟩
 try simp only [cA,nA]
 refine Lq (YS rfl) (La rfl (Ld (yL rfl (hp:=((by omega))) ?_)))
 refine Y3 g recs mark (λ p c2 R hR hok hro hlen hp=>?_)
 subst hR
 have hj2:j<R.length:=by simpa using hjl
 obtain ⟨gp,rfl⟩:=hp (by omega)
 have hl:=hok.len (R[j]).b (List.mem_map_of_mem (List.getElem_mem _))
 have e:R[j].b=b:=by rw [List.getElem?_map,List.getElem?_eq_getElem hj2] at hb;exact Option.some.inj hb
 have el:R[j].b.length=b.length:=by rw [e]
 have hml:(R.map Rec.b).length=R.length:=by simp
 obtain ⟨gr,hgr⟩:=hro j hj2 (by omega)
 refine TS ?_
 iterate 3 refine Lz ?_
 refine yT (t:=17) rfl rfl ?_
 iterate 7 refine Lz ?_
 refine Lq (Ql rfl (map_at _ _ _ (by omega))) ?_
 iterate 4 refine Lz ?_
 refine yT (t:=29) rfl (decide_eq_false (by omega)) ?_
 iterate 8 refine Lz ?_
 refine Lq (Ql rfl (map_at _ _ _ (by omega))) ?_
 iterate 6 refine Lz ?_
 refine Ld (yL rfl ?_)
 have htk : ∀ k,Has (recsA R::pgB g (some ⟨gp,0,none⟩) R.length c2 mark::pgR (some ⟨gp,0,none⟩) R.length c2 R::(S++F)) k->Has (rB (.slice (some ⟨gr,0,none⟩) b.length R[j].c) b.length b::sepL ((R.map recA).eraseIdx j)::pgB g (some ⟨gp,0,none⟩) R.length c2 mark::pgR (some ⟨gp,0,none⟩) R.length c2 R::(S++F)) k:=λ k K=>by have:=sep_takeS (L:=R.map recA) (i:=j) (A:=recA R[j]) (by rw [List.getElem?_map,List.getElem?_eq_getElem hj2];rfl) K;unfold recA at this;rw [hgr,e] at this;exact this
 refine T.conv (l':=rB (.slice (some ⟨gr,0,none⟩) b.length R[j].c) b.length b::sepL ((R.map recA).eraseIdx j)::pgB g (some ⟨gp,0,none⟩) R.length c2 mark::pgR (some ⟨gp,0,none⟩) R.length c2 R::(S++F)) (λ w ho=>ho.map λ k K=>htk k (Sa k K)) (T.own λ w ho=>?_)
 have hcap:=ho.cap_at (p:=some ⟨gr,0,none⟩) (m:=b.length) (c:=R[j].c)
 clear ho
 have hrv:recV R[j] = .slice (some ⟨gr,0,none⟩) b.length R[j].c:=by rw [show recV R[j] = .slice R[j].p R[j].b.length R[j].c from rfl,hgr,e]
 refine Tk (TS ?_)
 iterate 6 refine Lz ?_
 refine Lq (Ql (v := .slice (some ⟨gr,0,none⟩) b.length R[j].c) rfl (by rw [map_at _ _ _ (by omega),hrv])) (Lm rfl (Lq (YB off (some ⟨gr,off,none⟩) (b.length-off) (R[j].c-off) (e:=5) (sz:=1) rfl rfl rfl (by rw [offA_some];simp) rfl rfl) (Lm rfl ?_)))
 refine Le (YI (e:=5) (cs:=Zb d) (src:=Zb d) rfl rfl (hv.mono (λ w ho=>ho.map Sa)) m (by exact (Nat.min_eq_left (by omega)).symm) h0 (by rw [List.take_of_length_le (by simp [hm])]) (by simp [hm]) Zu (by simp;omega) ?_)
 rw [splice_setB off d b (by omega)]
 refine Ld (TS (La rfl (Ld ?_)))
 have hlb:=length_setB (off:=off) (d:=d) (b:=b) (by omega)
 have hpgs:=λ h:Piece=>pg_set (h:=h) (g:=g) (p:=some ⟨gp,0,none⟩) (c:=c2) (R:=R) (mark:=mark) hj2 (b:=setB off d b) (by rw [hlb,e]) hok (l:=S++F)
 rw [hgr,e] at hpgs
 refine T.ret ?_
 exact ⟨.inl rfl,_,_,res [_] rfl ⟨rvT rfl,trivial⟩,⟨rfl,rfl⟩,(λ h H=>hpgs h (Sa h H))⟩
open Go.RowKit
abbrev pV (g:Nat):Value := .pointer (some ⟨g,0,none⟩)
abbrev enB (g:Nat) (e:En) (p:Option Addr) (c:Nat):Wp:=blk g (enC e p c) 166
abbrev newB (t:Int) (d:List UInt8):List UInt8:=be (UInt64.ofInt t) 8++be (UInt64.ofInt 0) 8++d
theorem Hp.applyAdd (B:Wn) (S:List Wp) (v:Value) (g:Nat) (recs:List (List UInt8)) (m:Int) (e:En) (p:Option Addr) (c:Nat) (he:EnOk e) (hk:e.kind=1) (hv:RdV B S (.slice p e.data.length c) (Zb e.data)) (hs:e.slot=recs.length) (hd:e.data.length<=184) (hu:ZO recs+17+e.data.length<=243) :
  Fn Tryz.prog B 100 #[v,pV g,enV e p c] (pgA g recs m::S) (λ u l=>u = .int .i64 0/\l=pgA g (recs++[newB e.txn e.data]) m::S):=by
 obtain ⟨t1,t2⟩:=he.txn
 refine Ws 39 Tryz.func100 rfl rfl (nB rfl) (λ F=>?_)
 try simp only [cA,nA]
 refine TS ?_
 refine Le (zL [_,_,_,_,_,_] rfl rfl ?_)
 intro g5
 refine La rfl (Ld (Ts (TS ?_)))
 iterate 3 refine Lz ?_
 refine Ld (yL rfl (Tk (Ts (Ts (zW 5 none (nB rfl) ?_)))))
 refine Rz 0 ?_;refine Rz 1 ?_;refine Rz 2 ?_
 refine yK 3 ?_
 refine z6 rfl (Ec (Pg.count B g recs m) Tryz.func54 rfl rfl rfl ?_)
 rintro _ _ ⟨rfl,rfl⟩
 try simp only [cA,nA]
 refine ⟨Sa,?_⟩
 refine Rz 4 ?_
 refine Rd0 (by rfl) ?_
 simp only [dS,dZ,dN]
 refine Ld (yL rfl (Tk (Ts (T.draw 14 ([enB g5 e p c]) (nB rfl) ?_))))
 refine Rz 0 ?_;refine Rz 1 ?_;refine Rz 2 ?_
 refine Rq 3 rfl Sa (yX rfl (wru64_i64 e.txn)) ?_
 refine Rz 6 ?_;refine Rz 7 ?_
 refine yK 4 ?_
 refine z6 rfl (Ec (Cd.putP B [] (.slice none 0 0) [] 0 rfl (UInt64.ofInt e.txn) 8 8 rfl (RdV.nil _ 0)) Tryz.func95 rfl rfl rfl ?_)
 rintro _ _ ⟨p1,c1,rfl,hp1,rfl⟩
 try simp only [cA,nA]
 simp only [Nat.zero_add,List.nil_append]
 simp only [Nat.zero_add] at hp1
 refine ⟨Sa,?_⟩
 refine yK 5 ?_
 refine z6 rfl (Ec (Cd.putP B [rB (.slice p1 8 c1) 8 (be (UInt64.ofInt e.txn) 8)] (.slice p1 8 c1) (be (UInt64.ofInt e.txn) 8) 8 (Zd _ _) (UInt64.ofInt 0) 8 8 rfl (RdV.rB (Zd _ _) hp1)) Tryz.func95 rfl rfl rfl ?_)
 rintro _ _ ⟨p2,c2,rfl,hp2,rfl⟩
 try simp only [cA,nA]
 simp only [Nat.reduceAdd] at hp2
 simp only [Nat.reduceAdd]
 refine ⟨Sa,?_⟩
 refine yK 8 ?_
 refine zY rfl (Ea Cd.elemB rfl rfl (SrcOf.rd (m:=e.data.length) (hv.mono (λ w ho=>ho.map Sa)) (by kernel_rfl) (by simp) Zu) (by unfold maxLen;omega) ?_)
 rintro p3 c3 hp3
 rw [<-Zt]
 have hL:(newB e.txn e.data).length=16+e.data.length:=by simp [Zd];omega
 refine yK 9 ?_
 refine zY rfl (Ec (Pg.add B [rB (.slice p3 (16+e.data.length) c3) (16+e.data.length) (newB e.txn e.data)] g recs m p3 (16+e.data.length) c3 (newB e.txn e.data) (RdV.rB hL hp3) hL (by omega) (by omega)) Tryz.func134 rfl rfl rfl ?_)
 rintro _ _ ⟨rfl,rfl⟩
 try simp only [cA,nA]
 refine Rz 10 ?_;refine Rz 11 ?_;refine Rz 12 ?_;refine Rz 13 ?_
 refine Rd0 (by rfl) ?_
 simp only [dS,dZ,dN]
 refine La rfl (Ld (TS (Lm rfl (La rfl (Ld (T.ret ?_))))))
 exact ⟨.inl rfl,_,_,res [_] rfl ⟨rvT rfl,trivial⟩,⟨rfl,rfl⟩,Sa⟩
theorem Hp.applyEnd (B:Wn) (S:List Wp) (v:Value) (g:Nat) (recs:List (List UInt8)) (m:Int) (e:En) (p:Option Addr) (c:Nat) (he:EnOk e) (hk:e.kind=2) (j:Nat) (hs:e.slot=j) (b:List UInt8) (hb:recs[j]? = some b) (hl:16<=b.length) :
  Fn Tryz.prog B 100 #[v,pV g,enV e p c] (pgA g recs m::S) (λ u l=>u = .int .i64 0/\l=pgA g (recs.set j (setB 8 (be (UInt64.ofInt e.txn) 8) b)) m::S):=by
 obtain ⟨t1,t2⟩:=he.txn
 refine Ws 39 Tryz.func100 rfl rfl (nB rfl) (λ F=>?_)
 try simp only [cA,nA]
 refine TS ?_
 refine Le (zL [_,_,_,_,_,_] rfl rfl ?_)
 intro g5
 refine La rfl (Ld (Ts (TS ?_)))
 iterate 3 refine Lz ?_
 refine Ld (zM rfl (Ts (T.draw 8 ([enB g5 e p c]) (nB rfl) ?_)))
 refine Rz 0 ?_;refine Rz 1 ?_;refine Rz 2 ?_;refine Rz 3 ?_;refine Rz 4 ?_
 refine Rq 5 rfl Sa (yX rfl (wru64_i64 e.txn)) (yK 6 ?_)
 refine z6 rfl (Ec (Cd.putP B [] (.slice none 0 0) [] 0 rfl (UInt64.ofInt e.txn) 8 8 rfl (RdV.nil _ 0)) Tryz.func95 rfl rfl rfl ?_)
 rintro _ _ ⟨p1,c1,rfl,hp1,rfl⟩
 try simp only [cA,nA]
 simp only [Nat.zero_add,List.nil_append]
 simp only [Nat.zero_add] at hp1
 refine ⟨Sa,?_⟩
 refine yK 7 ?_
 refine zY rfl (Ec (Pg.set B [rB (.slice p1 8 c1) 8 (be (UInt64.ofInt e.txn) 8)] g recs m e.slot j hs b hb 8 8 rfl p1 8 c1 (be (UInt64.ofInt e.txn) 8) (RdV.rB (Zd _ _) hp1) (Zd _ _) (by omega) (by omega)) Tryz.func133 rfl rfl rfl ?_)
 rintro _ _ ⟨rfl,rfl⟩
 try simp only [cA,nA]
 refine Rd0 (by rfl) ?_
 simp only [dS,dZ,dN]
 refine La rfl (Ld (T.ret ?_))
 exact ⟨.inl rfl,_,_,res [_] rfl ⟨rvT rfl,trivial⟩,⟨rfl,rfl⟩,Sa⟩
open Go.RowKit
abbrev srcB (g:Nat) (pb:Option Addr) (m cb at_:Nat):Wp:=blk g [.slice pb m cb,.int .i64 at_] 248
theorem Cx.next (B:Wn) (S:List Wp) (g:Nat) (pb:Option Addr) (m cb at_:Nat) (bs:List UInt8) (x:UInt8) (hm:bs.length=m) (hx:bs[at_]? = some x) (hv:RdV B S (.slice pb m cb) (Zb bs)) (hmx:m<2^40) :
  Fn Tryz.prog B 111 #[pV g] (srcB g pb m cb at_::S) (λ u l=>u = .int .u8 x.toNat/\l=srcB g pb m cb (at_+1)::S):=by
 obtain ⟨hat,hxe⟩:=List.getElem?_eq_some_iff.1 hx
 obtain ⟨gb,o,rfl,hr⟩:=hv.at (by omega)
 refine Wq 38 Tryz.func111 rfl rfl (nB rfl) (λ F=>?_)
 try simp only [cA,nA]
 refine TS (La rfl (Ld (Ts (Ts (T.draw 10 ([srcB g (some ⟨gb,o,none⟩) m cb at_]) (nB rfl) ?_)))))
 refine Rz 0 ?_;refine Rz 1 ?_;refine Rz 2 ?_;refine Rz 3 ?_;refine Rz 4 ?_;refine Rz 5 ?_;refine Rz 6 ?_;refine Rz 7 ?_;refine Rz 8 ?_;refine Rz 9 ?_
 refine Rd0 (by rfl) ?_
 simp only [dS,dZ,dN]
 refine Ld (yL rfl (Tk (TS ?_)))
 iterate 7 refine Lz ?_
 refine L0 (E1 (by kernel_rfl) rfl rfl rfl (by first | (simp;done) | (simp;omega)) ?_)
 try simp only [List.set_cons_zero,List.set_cons_succ]
 rw [show ((at_:Int)+1)=((at_+1:Nat):Int) from rfl]
 refine Ld (Ts (zU 11 (nB rfl) ?_))
 refine Rz 0 ?_;refine Rz 1 ?_;refine Rz 2 ?_;refine Rz 3 ?_;refine Rz 4 ?_;refine Rz 5 ?_;refine Rz 6 ?_;refine Rz 7 ?_;refine Rz 8 ?_
 refine Rq 9 rfl (Sr _) (Qi at_ (e:=5) (sz:=1) rfl rfl (by omega)) (Rq 10 rfl (Sr _) (zN (v := .int .u8 x.toNat) rfl (λ w ho=>(hr at_ (by simp;omega) w (ho.map Sa)).trans (by simp [Zb,hxe]))) (Rd0 (by rfl) ?_))
 simp only [dS,dZ,dN]
 refine La rfl (Ld (T.ret ?_))
 exact ⟨.inl rfl,_,_,res [_] rfl ⟨rvT rfl,trivial⟩,⟨rfl,rfl⟩,Sa⟩
theorem drop_get {bs:List UInt8} {p:Nat} {y:UInt8} {r:List UInt8} (h:bs.drop p=y::r):bs[p]? = some y:=by
 have:=congrArg (λ l=>l[0]?) h
 simpa using this
theorem drop_more {bs a r:List UInt8} {p:Nat} (h:bs.drop p=a++r):bs.drop (p+a.length)=r:=by
 rw [<-List.drop_drop,h,List.drop_left' rfl]
theorem Cx.text (B:Wn) (S:List Wp) (g:Nat) (pb:Option Addr) (m cb at_:Nat) (bs s rest:List UInt8) (hm:bs.length=m) (hd:bs.drop at_=escB s++0::0::rest) (hs:s.length<=64) (hv:RdV B S (.slice pb m cb) (Zb bs)) (hmx:m<2^40) :
  Fn Tryz.prog B 112 #[pV g] (srcB g pb m cb at_::S) (λ u l=>u=strW s/\l=srcB g pb m cb (at_+(escB s).length+2)::S):=by
 have hlen:=congrArg List.length hd
 simp only [List.length_drop,List.length_append,List.length_cons] at hlen
 refine Wq 50 Tryz.func112 rfl rfl (nB rfl) (λ F=>?_)
 try simp only [cA,nA]
 refine TS (La rfl (Ld (TS (La rfl (Ld (TS ?_))))))
 iterate 6 refine Lz ?_
 refine Ld (yH (T.conv (l':=rB (.slice none 0 0) 0 (s.take 0)::_) (λ w ho=>ho.row_nil _ _) ?_))
 refine zG (λ mz fz lz => ∃ (f0:Fr) (j q:Nat) (p:Option Addr) (c:Nat),(j<=s.length/\q=at_+(escB (s.take j)).length/\(0<j -> ∃ g,p=some ⟨g,0,none⟩))/\mz=s.length+1-j/\fz=(upd (upd f0 0 (pV g)) 3 (.slice p j c))/\lz=rB (.slice p j c) j (s.take j)::srcB g pb m cb q::S++F) ?_ ?_
 . refine ⟨_,_,⟨_,0,at_,none,0,⟨Nat.zero_le _,rfl,λ h=>by omega⟩,rfl,U2,rfl⟩,Sa⟩
 rintro mz fz lz ⟨f0,j,q,p,c,⟨hj,hq,hp⟩,hmz,rfl,rfl⟩
 subst mz
 try simp only [cA,nA]
 have hsplit:escB s=escB (s.take j)++escB (s.drop j):=by rw [<-escB_app,List.take_append_drop]
 have hdq:bs.drop q=escB (s.drop j)++0::0::rest:=by rw [hq];exact drop_more (a:=escB (s.take j)) (by rw [hd,hsplit,List.append_assoc])
 by_cases hlt:j<s.length
 .
  have hdj:s.drop j=s[j]::s.drop (j+1):=List.drop_eq_getElem_cons hlt
  obtain ⟨x,hx⟩ : ∃ x,s[j]=x:=⟨_,rfl⟩
  have hen:=esc_next hlt
  have htk:s.take (j+1)=s.take j++[x]:=by rw [List.take_succ_eq_append_getElem hlt,hx]
  rw [hx] at hdj hen
  rw [hdj,escB_cons] at hdq
  by_cases hx0:x=0
  .
   subst hx0
   rw [if_pos rfl] at hdq hen
   refine yH (TS (Lm rfl ?_))
   refine Le (Ec (Cx.next B S g pb m cb q bs 0 hm (drop_get hdq) hv hmx) Tryz.func111 rfl rfl rfl ?_)
   rintro _ _ ⟨rfl,rfl⟩
   try simp only [cA,nA]
   refine La rfl (Ld (Ts (TS (Lm rfl (Lq (yU rfl rfl) (Ld (zF rfl (TS (Lm rfl ?_)))))))))
   refine Le (Ec (Cx.next B S g pb m cb (q+1) bs 255 hm (drop_get (drop_more (a:=[0]) hdq)) hv hmx) Tryz.func111 rfl rfl rfl ?_)
   rintro _ _ ⟨rfl,rfl⟩
   try simp only [cA,nA]
   refine La rfl (Ld (yH (TS ?_)))
   iterate 3 refine Lz ?_
   refine yT (t:=21) rfl rfl ?_
   iterate 5 refine Lz ?_
   refine Ld (yQ rfl (TS ?_))
   iterate 3 refine Lz ?_
   refine Ld (yQ rfl (TS ?_))
   iterate 3 refine Lz ?_
   refine Ld (yQ rfl (Tk (TR (Lm rfl (Lm rfl ?_)))))
   refine Le (zK [_] (e:=5) (sz:=1) ⟨.int .u8 0,by kernel_rfl,rfl⟩ rfl rfl rfl ?_)
   intro g48
   refine Le (Ea Cd.elemB rfl rfl (SrcOf.blk (by kernel_rfl) rfl (by simp [Value.oneCell'])) (by unfold maxLen;omega) ?_)
   rintro p1 c1 hp1
   rw [show Zb (s.take j)++[Value.int .u8 (0:UInt8).toNat]=Zb (s.take (j+1)) by rw [htk];exact bytes_app (s.take j) [0]]
   refine La rfl (Ld ?_)
   refine ⟨_,?_,_,⟨_,j+1,q+1+1,p1,c1,⟨by omega,by rw [hen,hq,List.length_append];simp;omega,hp1⟩,rfl,U2,rfl⟩,Sa⟩
   omega
  have hxn : ¬ ((x.toNat:Nat):Int)=0:=λ e=>hx0 (by apply UInt8.toNat_inj.1;show x.toNat=0;omega)
  rw [if_neg hx0] at hdq hen
  refine yH (TS (Lm rfl ?_))
  refine Le (Ec (Cx.next B S g pb m cb q bs x hm (drop_get hdq) hv hmx) Tryz.func111 rfl rfl rfl ?_)
  rintro _ _ ⟨rfl,rfl⟩
  try simp only [cA,nA]
  refine La rfl (Ld (Ts (TS (Lm rfl (Lq (yU rfl rfl) (Ld (yL rfl (Tk (TR (Lm rfl (Lm rfl ?_)))))))))))
  refine Le (zK [_] (e:=5) (sz:=1) ⟨.int .u8 0,by kernel_rfl,rfl⟩ rfl rfl rfl ?_)
  intro g48
  refine Le (Ea Cd.elemB rfl rfl (SrcOf.blk (by kernel_rfl) rfl (by simp [Value.oneCell'])) (by unfold maxLen;omega) ?_)
  rintro p1 c1 hp1
  rw [show Zb (s.take j)++[Value.int .u8 x.toNat]=Zb (s.take (j+1)) by rw [htk];exact bytes_app (s.take j) [x]]
  refine La rfl (Ld ?_)
  refine ⟨_,?_,_,⟨_,j+1,q+1,p1,c1,⟨by omega,by rw [hen,hq,List.length_append];simp;omega,hp1⟩,rfl,U2,rfl⟩,Sa⟩
  omega
 obtain rfl:j=s.length:=by omega
 rw [List.drop_length] at hdq
 rw [List.take_length] at hq
 rw [List.take_length]
 refine yH (TS (Lm rfl ?_))
 refine Le (Ec (Cx.next B S g pb m cb q bs 0 hm (drop_get hdq) hv hmx) Tryz.func111 rfl rfl rfl ?_)
 rintro _ _ ⟨rfl,rfl⟩
 try simp only [cA,nA]
 refine La rfl (Ld (Ts (TS (Lm rfl (Lq (yU rfl rfl) (Ld (zF rfl (TS (Lm rfl ?_)))))))))
 refine Le (Ec (Cx.next B S g pb m cb (q+1) bs 0 hm (drop_get (drop_more (a:=[0]) hdq)) hv hmx) Tryz.func111 rfl rfl rfl ?_)
 rintro _ _ ⟨rfl,rfl⟩
 try simp only [cA,nA]
 refine La rfl (Ld (yH (TS ?_)))
 iterate 3 refine Lz ?_
 refine zQ (t:=21) rfl rfl ?_
 iterate 5 refine Lz ?_
 refine Ld (yL rfl (TS ?_))
 iterate 3 refine Lz ?_
 refine Ld (zF rfl ?_)
 subst hq
 refine TS (Lm rfl (Lq (Z2 s rfl (λ _ ho=>(RdV.rB rfl hp).reads _ (ho.map Sa))) (La rfl (Ld (T.ret ?_)))))
 exact ⟨.inl rfl,_,_,res [_] rfl ⟨rvT rfl,trivial⟩,⟨rfl,rfl⟩,Sa⟩
end Go.Proofs.YtkfmfoecplbclaaGreatDoor
