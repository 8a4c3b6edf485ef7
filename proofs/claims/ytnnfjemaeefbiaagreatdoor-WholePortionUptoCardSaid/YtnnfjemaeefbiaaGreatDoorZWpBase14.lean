/- The texts QeE QeF QeG, one behind the other: what the law leans on. Conditions: as each theorem says. -/
import Derived.Test.YtnnfjemaeefbiaaGreatDoorZWpBase13
import Derived.Lib.AppendZeros
set_option linter.unusedSimpArgs false
set_option linter.unusedVariables false
set_option maxRecDepth 100000
set_option maxHeartbeats 16000000
namespace Go.Proofs.YtnnfjemaeefbiaaGreatDoor
open Go.RowKit Go.Shelf Go.Lib Go.Sort
section
variable {P : Program} {B:Wn} {n:Nat} {S l r:List Wp} {f:Fr} {K:Value->List Wp->Prop}
variable {d : Option Tmp} {ty:TypeId} {pos:String} {af:Array Edge} {gd:Option (Nat×Bool)}
theorem Ef.room {t tx e sz bytes m:Nat} {x y:Operand} {ki kk:IntKind} {ty2:TypeId} (E:ElemOk P t e sz bytes) (hk:P.underlying tx=some (.int ki)) (hx:ev n f x=some (.slice none 0 0)) (hy:ev n f y=some (.int kk (m:Int))) (h0:0<m) (h63:m<=maxLen) (hbytes:m*bytes<=140737488355328)
    {Z:List Value} (hZ:Z=[]) (h : ∀ g c,m<=c->K (.slice (some ⟨g,0,none⟩) m c) (row (.slice (some ⟨g,0,none⟩) 0 c) e sz 0 Z::l)):Ef P B n ⟨d,.call ⟨.builtin .append,#[x,y],#[t,tx]⟩,ty2,pos,af,gd⟩ f l K:=⟨λ w next Q ho hk2=>by
  subst hZ
  obtain ⟨i,z,hi,hz,hsz,hby,hzs⟩:=E.ex
  subst hsz;subst hby
  have hb:m<=9223372036854775807:=by simp only [maxLen] at h63;omega
  have hr:=run_append_nil_zeros (P:=P) w t tx ty2 e i z kk ki E.ht hk hi hz m h0 E.pos (by omega) (by omega)
  have hge:=grownCap_ge w m 0 e
  have hcm:=grownCap_le_maxLen w m 0 e h63
  unfold Oper.wp execOp
  simp only [Wk,resolve,invoke,builtin,Sem.run_bind,Sem.run_pure,Result.andThen_ok,List.map_toArray,List.map_cons,List.map_nil,Zc hx,Zc hy,hr]
  refine hk2 _ _ _ (h w.heap.size _ hge) (ho.fresh ((Kept.refl _ _).drew.alloc _) λ hh eh=>⟨by simp,.inr ⟨w.heap.size,_,_,rfl,by rw [eh _ (Nat.le_refl _)];exact heap_alloc_new w.drew _,Nat.zero_le _,hcm,?_,by simp⟩⟩)
  rw [Array.size_append,size_zeroCells,size_zeroCells,hzs,<-Nat.add_mul]
  congr 1
  omega⟩
end
structure FctV (B:Wn) (S:List Wp) (v:Value) (Q:List Fq):Prop where
  l:FlV B S fqC v Q
  r : ∀ x∈Q,FqV B S x
theorem FctV.mono {B:Wn} {S S':List Wp} {v:Value} {Q:List Fq} (h:FctV B S v Q) (hs : ∀ w,Own B w S'->Own B w S):FctV B S' v Q:=⟨h.l.mono hs,λ x hx=>(h.r x hx).mono hs⟩
theorem FctV.own {B:Wn} {A:Wp} {Q:List Fq} {p:Option Addr} {n c:Nat} (h:FqsA B A Q) (hn:Q.length=n) (hp:0<n -> ∃ g,p=some ⟨g,0,none⟩):FctV B [fqR p n c Q,A] (.slice p n c) Q:=⟨FlV.row (sz:=3) (λ _=>rfl) (by omega) hn hp,λ x hx=>(h x hx).mono λ w ho=>ho.tl⟩
abbrev okQ (x:Fq):Bool:=okX (x.fr,x.to)
theorem fz_filter (Q:List Fq):(Q.filter okQ).map Fq.fz=(Q.map Fq.fz).filter okF:=by rw [List.filter_map];rfl
def RightPost (B:Wn) (S:List Wp) (Q:List Fq) (u:Value) (l:List Wp):Prop := ∃ Q2 A p c,u = .slice p Q2.length c/\(0<Q2.length -> ∃ g,p=some ⟨g,0,none⟩)/\FqsA B A Q2/\(Q2.map Fq.fz).Perm ((Q.map Fq.fz).filter okF)/\Ord cmpF (Q2.map Fq.fz)/\Q2.length<=Q.length/\l=fqR p Q2.length c Q2::A::S
theorem Qe.right (B:Wn) (S:List Wp) (a:Option Addr) (m c:Nat) (Q:List Fq) (h:FctV B S (.slice a m c) Q) (hm:Q.length=m) (hb:m<2^40:=by omega):Fn Tryz.prog B 27 #[.slice a m c] S (RightPost B S Q):=by
 refine Wq 30 Tryz.func27 rfl rfl (nB rfl) (λ F=>?_)
 refine Ts ?_
 refine TR ?_
 refine La rfl ?_
 refine Ld ?_
 refine Ts ?_
 refine TR ?_
 refine La rfl ?_
 refine Ld ?_
 refine Ts ?_
 refine Ts ?_
 refine TR ?_
 refine Lm rfl ?_
 refine Lq (yI (e:=35) (sz:=3) rfl) ?_
 refine Lm rfl ?_
 refine Ld ?_
 refine yH ?_
 refine T.conv (l':=fqR none 0 0 []::pu True::_) (λ w ho=>(ho.row_nil 35 3).map λ _ H=>Has.swap (Has.close_pu trivial H)) ?_
 refine zG (λ mz fz lz => ∃ (f0:Fr) (i:Nat) (Q2:List Fq) (A:Wp) (p:Option Addr) (n0 c0:Nat),(i<=m/\Q2.map Fq.fz=((Q.take i).map Fq.fz).filter okF/\Q2.length=n0/\n0<=i/\FqsA B A Q2/\(0<n0 -> ∃ g,p=some ⟨g,0,none⟩))/\mz=m-i/\fz=(upd (upd (upd (upd f0 3 (.slice p n0 c0)) 6 (.slice a m c)) 7 (iV m)) 8 (iV i))/\lz=fqR p n0 c0 Q2::A::(S++F)) ?_ ?_
 . refine ⟨_,_,⟨_,0,[],pu True,none,0,0,⟨Nat.zero_le _,rfl,rfl,Nat.le_refl _,by intro x hx;simp at hx,λ z=>absurd z (by omega)⟩,rfl,(Za rfl (Za rfl (Za rfl (Za rfl rfl)))),rfl⟩,Sa⟩
 rintro mz fz lz ⟨f0,i,Q2,A,p,n0,c0,⟨hi,hQ2,hn,hni,hA,hp⟩,hmz,rfl,rfl⟩
 subst mz
 refine Ts ?_
 refine TR ?_
 refine Lq (yM rfl rfl) ?_
 refine Ld ?_
 refine Ts ?_
 refine yN rfl (λ hlt=>?_) (λ hlt=>?_)
 .
  obtain ⟨b,o,rfl,hr⟩:=h.l.at (sz:=3) (λ _=>rfl) (by omega)
  obtain ⟨x,hx⟩ : ∃ x,Q[i]? = some x:=⟨_,List.getElem?_eq_getElem (by omega)⟩
  have hx1:=hr i x hx
  have hxv:=h.r x (List.mem_of_getElem? hx)
  have hsn:((Q.take (i+1)).map Fq.fz).filter okF=((Q.take i).map Fq.fz).filter okF++(if okX (x.fr,x.to)=true then [x.fz] else []):=by rw [<-fz_filter,filter_snoc hx,List.map_append,fz_filter];split <;> rfl
  obtain ⟨pa,ca,ex⟩:=hxv.form
  obtain ⟨xs,xr,xf,xt⟩:=x
  dsimp only at ex hsn
  subst ex
  refine Tk ?_
  refine Ts ?_
  refine yH ?_
  refine Ts ?_
  refine TR ?_
  refine Lq (Qi _ (e:=35) (sz:=3) rfl rfl rfl) ?_
  refine Lq (Qt.loadAggW (fqC ⟨.slice pa xr.length ca,xr,xf,xt⟩) rfl (λ w ho=>hx1 w (ho.map Sa))) ?_
  refine Le (El [.slice none 0 0,.int .i64 0,.int .i64 0] (by unfold Zf;kernel_rfl) ?_)
  intro g5
  refine L0 (Es [_,_,_] rfl rfl rfl rfl (by simp) ?_)
  try simp only [splice,lC,lN,dS,cA,tS,tZ,dZ,nA,aN]
  refine Ld ?_
  refine Ts ?_
  refine TR ?_
  refine Lq (Qf (off:=1) rfl) ?_
  refine Lq (QL [_,_] rfl ⟨rfl,rfl,trivial⟩) ?_
  refine Le (Ec (Qd.check B (xf,xt)) Tryz.func55 rfl rfl rfl ?_)
  rintro _ _ ⟨rfl,rfl⟩
  try simp only [cA,nA]
  refine Lq (yU rfl rfl) ?_
  refine Ld ?_
  refine yN rfl (λ hz=>?_) (λ hz=>?_)
  .
   have hok:=(codeX_ok (xf,xt)).1 hz
   rw [if_pos hok] at hsn
   refine zW 10 none (nB rfl) ?_
   refine Rq 0 rfl Sa (Qm rfl) ?_
   refine Rq 1 rfl Sa (Q0 rfl) ?_
   refine Rq 2 rfl Sa (Ql rfl rfl) ?_
   refine Rq 5 rfl Sa (Qf (off:=1) rfl) ?_
   refine Rq 6 rfl Sa (QL [_,_] rfl ⟨rfl,rfl,trivial⟩) ?_
   refine yK 3 ?_
   refine z6 rfl (zK [_] (e:=31) (sz:=1) ⟨.slice none 0 0,by kernel_rfl,rfl⟩ rfl rfl rfl ?_)
   intro g19
   refine ⟨Sa,?_⟩
   refine yK 4 ?_
   refine z6 rfl (Ec (Qe.copied B S g19 31 pa xr.length ca xr hxv.2 rfl hxv.1) Tryz.func41 rfl rfl rfl ?_)
   rintro _ _ ⟨pr,cr,rfl,hpr,rfl⟩
   try simp only [cA,nA]
   refine ⟨Sa,?_⟩
   refine Rq 7 rfl Sa (z8 [(0,1),(1,2)] [.slice none 0 0,.int .i64 0,.int .i64 0] [_,_,_] [(0,_),(1,_)] (by unfold Zf;kernel_rfl) rfl rfl) ?_
   refine yK 8 ?_
   refine zY rfl (zK [_,_,_] (e:=35) (sz:=3) ⟨.agg #[.slice none 0 0,.int .i64 0,.int .i64 0],by kernel_rfl,rfl⟩ rfl rfl rfl ?_)
   intro g24
   refine yK 9 ?_
   refine zY rfl (Ea Qe.elemF rfl rfl (SrcOf.blk (by kernel_rfl) rfl (by simp [Value.oneCell'])) (by unfold maxLen;omega) ?_)
   rintro p4 c4 hp4
   try simp only [cA,nA]
   have hfx:FqV B [vaR pr xr.length cr xr] ⟨.slice pr xr.length cr,xr,xf,xt⟩:=⟨hxv.1,FlV.row (l:=[]) (sz:=3) (λ _=>rfl) (by omega) rfl hpr⟩
   have hsn2:=hA.snoc hfx
   rw [show Q2.flatMap fqC++[.slice pr xr.length cr,iV xf,iV xt]=(Q2++[(⟨.slice pr xr.length cr,xr,xf,xt⟩:Fq)]).flatMap fqC by simp]
   refine Rd0 (by rfl) ?_
   simp only [dS,dZ,dN]
   refine La rfl ?_
   refine Ld ?_
   refine TR ?_
   refine Lq (Qd rfl rfl (Ze)) ?_
   refine Lm rfl ?_
   refine Ld ?_
   refine ⟨_,?_,_,⟨_,i+1,Q2++[⟨.slice pr xr.length cr,xr,xf,xt⟩],sepL [A,vaR pr xr.length cr xr],p4,n0+1,c4,⟨by omega,by rw [hsn,List.map_append,hQ2];rfl,by simp [hn],by omega,hsn2,hp4⟩,rfl,(Za rfl (Za rfl (Za rfl (Za rfl rfl)))),rfl⟩,Sa⟩
   omega
  have hok:=mt (codeX_ok (xf,xt)).2 hz
  rw [if_neg hok,List.append_nil] at hsn
  refine Tk ?_
  refine TR ?_
  refine Lq (Qd rfl rfl (Ze)) ?_
  refine Lm rfl ?_
  refine Ld ?_
  refine ⟨_,?_,_,⟨_,i+1,Q2,A,p,n0,c0,⟨by omega,by rw [hsn];exact hQ2,hn,by omega,hA,hp⟩,rfl,(Za rfl (Za rfl (Za rfl (Za rfl rfl)))),rfl⟩,Sa⟩
  omega
 have ez:Q.take i=Q:=List.take_of_length_le (by omega)
 rw [ez] at hQ2
 refine zB ?_
 refine Ts ?_
 refine TR ?_
 refine Lm rfl ?_
 refine Le (Ec (Qc.sortF B [A] p n0 c0 Q2 hn (by omega) hA) Tryz.func33 rfl rfl rfl ?_)
 rintro _ _ ⟨rfl,Q3,hQ3,hord,hA3,rfl⟩
 try simp only [cA,nA]
 have h3n:Q3.length=n0:=by rw [hQ3.length_eq,hn]
 rw [<-h3n] at hp ⊢
 refine Ld ?_
 refine Ts ?_
 refine TR ?_
 refine Lm rfl ?_
 refine La rfl ?_
 refine Ld ?_
 refine T.ret ?_
 exact ⟨.inl rfl,_,_,res [_] rfl ⟨rvT rfl,trivial⟩,⟨Q3,A,p,c0,rfl,hp,hA3,hQ2 ▸ hQ3.map _,hord,by omega,rfl⟩,Sa⟩
structure LsV (B:Wn) (S:List Wp) (v:Value) (Ls:List (Value×List Fq)):Prop where
  l:FlV B S (λ x:Value×List Fq=>[x.1]) v Ls
  r : ∀ x∈Ls,FctV B S x.1 x.2
def allQ (Ls:List (Value×List Fq)):List Fq:=Ls.flatMap (·.2)
theorem allQ_snoc {Ls:List (Value×List Fq)} {i:Nat} {x:Value×List Fq} (h:Ls[i]? = some x):allQ (Ls.take (i+1))=allQ (Ls.take i)++x.2:=by
  unfold allQ
  rw [List.take_add_one,h,List.flatMap_append]
  simp
theorem allQ_le (Ls:List (Value×List Fq)) (i:Nat):(allQ (Ls.take i)).length<=(allQ Ls).length:=by
  have:allQ Ls=allQ (Ls.take i)++allQ (Ls.drop i):=by unfold allQ;rw [<-List.flatMap_append,List.take_append_drop]
  rw [this,List.length_append];omega
theorem Qe.grow (B:Wn) (m:Nat) (hb:m<2^40):Fn Tryz.prog B 65 #[.slice none 0 0,iV m] [] (λ u l => ∃ p c,u = .slice p 0 c/\l=[fqR p 0 c []]):=by
 refine Wr 27 Tryz.func65 rfl rfl (nB rfl) (λ F=>?_)
 try simp only [cA,nA]
 refine Ts ?_
 refine TR ?_
 refine La rfl ?_
 refine Ld ?_
 refine Ts ?_
 refine Ts ?_
 refine TR ?_
 refine Lm rfl ?_
 refine Lq (yM rfl rfl) ?_
 refine Ld ?_
 refine yQ rfl ?_
 refine Tk ?_
 refine Ts ?_
 refine Ts ?_
 refine TR ?_
 refine Lm rfl ?_
 refine Lm rfl ?_
 refine Lq (Qt.cap (e:=35) (sz:=3) (by kernel_rfl) rfl) ?_
 refine Lm rfl ?_
 refine Lq (yI (e:=35) (sz:=3) rfl) ?_
 refine Lq (Qt.sub (r:=0) rfl rfl (by decide)) ?_
 refine Lq (Qt.sub (r:=(m:Int)) rfl rfl (by rw [Ze];omega)) ?_
 refine La rfl ?_
 refine Ld ?_
 refine Ts ?_
 refine TR ?_
 refine Lm rfl ?_
 refine Lq (yZ rfl rfl) ?_
 refine Ld ?_
 refine yN rfl (λ h0=>?_) (λ h0=>?_)
 .
  refine TR ?_
  refine Lm rfl ?_
  refine Lm rfl ?_
  refine Lq (Qt.cap (e:=35) (sz:=3) (by kernel_rfl) rfl) ?_
  refine Lq (Y6 0 (e:=35) (sz:=3) rfl rfl rfl) ?_
  refine Lm rfl ?_
  refine Le (Ef.room (m:=m) (ki := .i64) Qe.elemF (by kernel_rfl) rfl (by first | exact rfl | (simp;done)) (by omega) (by unfold maxLen;omega) (by omega) (Z:=([]:List Fq).flatMap fqC) rfl ?_)
  intro g c hc
  refine Lm rfl ?_
  refine Lq (yI (e:=35) (sz:=3) rfl) ?_
  refine Lq (Y6 0 (e:=35) (sz:=3) rfl rfl rfl) ?_
  refine La rfl ?_
  refine Ld ?_
  refine Ts ?_
  refine TR ?_
  refine Lm rfl ?_
  refine La rfl ?_
  refine Ld ?_
  refine T.ret ?_
  exact ⟨.inl rfl,_,_,res [_] rfl ⟨rvT rfl,trivial⟩,⟨_,_,rfl,rfl⟩,Sa⟩
 refine T.conv (l':=fqR none 0 0 []::_) (λ w ho=>ho.row_nil 35 3) ?_
 refine Tk ?_
 refine Ts ?_
 refine TR ?_
 refine Lm rfl ?_
 refine La rfl ?_
 refine Ld ?_
 refine T.ret ?_
 exact ⟨.inl rfl,_,_,res [_] rfl ⟨rvT rfl,trivial⟩,⟨none,0,rfl,rfl⟩,Sa⟩
theorem Qe.concat (B:Wn) (S:List Wp) (a:Option Addr) (k c:Nat) (Ls:List (Value×List Fq)) (h:LsV B S (.slice a k c) Ls) (hk:Ls.length=k) (hkb:k<2^20) (hb:(allQ Ls).length<2^40):Fn Tryz.prog B 35 #[.slice a k c] S (λ u l => ∃ p c',u = .slice p (allQ Ls).length c'/\(0<(allQ Ls).length -> ∃ g,p=some ⟨g,0,none⟩)/\l=fqR p (allQ Ls).length c' (allQ Ls)::S):=by
 refine Wq 36 Tryz.func35 rfl rfl (nB rfl) (λ F=>?_)
 refine Ts ?_
 refine TR ?_
 refine La rfl ?_
 refine Ld ?_
 refine Ts ?_
 refine TR ?_
 refine La rfl ?_
 refine Ld ?_
 refine Ts ?_
 refine Ts ?_
 refine TR ?_
 refine Lm rfl ?_
 refine Lq (yI (e:=22) (sz:=1) rfl) ?_
 refine Lm rfl ?_
 refine Ld ?_
 refine yH ?_
 refine zG (λ mz fz lz => ∃ (f0:Fr) (i:Nat),(i<=k)/\mz=k-i/\fz=(upd (upd (upd (upd (upd f0 0 (.slice a k c)) 3 (iV (allQ (Ls.take i)).length)) 9 (.slice a k c)) 10 (iV k)) 11 (iV i))/\lz=S++F) ?_ ?_
 . refine ⟨_,_,⟨_,0,Nat.zero_le _,rfl,(Za rfl (Za rfl (Za rfl (Za rfl (Za rfl rfl))))),rfl⟩,Sa⟩
 rintro mz fz lz ⟨f0,i,hi,hmz,rfl,rfl⟩
 subst mz
 refine Ts ?_
 refine TR ?_
 refine Lq (yM rfl rfl) ?_
 refine Ld ?_
 refine Ts ?_
 refine yN rfl (λ hlt=>?_) (λ hlt=>?_)
 .
  obtain ⟨b,o,rfl,hr⟩:=h.l.at (sz:=1) (λ _=>rfl) (by omega)
  obtain ⟨x,hx⟩ : ∃ x,Ls[i]? = some x:=⟨_,List.getElem?_eq_getElem (by omega)⟩
  have hx1:=hr i x hx
  obtain ⟨ax,cx,ex⟩:=(h.r x (List.mem_of_getElem? hx)).l.form rfl
  obtain ⟨xv,xq⟩:=x
  dsimp only at ex
  subst ex
  have hsn:=allQ_snoc hx
  have hle:=allQ_le Ls (i+1)
  rw [hsn,List.length_append] at hle
  dsimp only at hle hsn
  refine Tk ?_
  refine Ts ?_
  refine yH ?_
  refine Ts ?_
  refine TR ?_
  refine Lq (Qi _ (e:=22) (sz:=1) rfl rfl rfl) ?_
  refine Lq (zN (v := .slice ax xq.length cx) rfl (λ w ho=>hx1 w (ho.map Sa) 0 _ rfl)) ?_
  refine La rfl ?_
  refine Ld ?_
  refine Ts ?_
  refine TR ?_
  refine Lm rfl ?_
  refine Lm rfl ?_
  refine Lq (yI (e:=35) (sz:=3) rfl) ?_
  refine Lq (Qd (r:=((allQ (Ls.take (i+1))).length:Int)) rfl rfl (by rw [Ze,hsn,List.length_append];omega)) ?_
  refine La rfl ?_
  refine Ld ?_
  refine Ts ?_
  refine TR ?_
  refine Lm rfl ?_
  refine Lq (yM rfl rfl) ?_
  refine Ld ?_
  refine yQ rfl ?_
  refine Tk ?_
  refine TR ?_
  refine Lq (Qd rfl rfl (Ze)) ?_
  refine Lm rfl ?_
  refine Ld ?_
  refine ⟨_,?_,_,⟨_,i+1,by omega,rfl,(Za rfl (Za rfl (Za rfl (Za rfl (Za rfl rfl))))),rfl⟩,Sa⟩
  omega
 obtain rfl:k=i:=by omega
 have ez:Ls.take k=Ls:=List.take_of_length_le (by omega)
 rw [ez]
 refine zB ?_
 refine Ts ?_
 refine TR ?_
 refine Lm rfl ?_
 refine Le (Ec (Qe.grow B (allQ Ls).length hb) Tryz.func65 rfl rfl rfl ?_)
 rintro _ _ ⟨p0,c0,rfl,rfl⟩
 try simp only [cA,nA]
 refine La rfl ?_
 refine Ld ?_
 refine Ts ?_
 refine Ts ?_
 refine TR ?_
 refine Lm rfl ?_
 refine Lq (yI (e:=22) (sz:=1) rfl) ?_
 refine Lm rfl ?_
 refine Ld ?_
 refine yH ?_
 refine T.conv (l':=fqR p0 0 c0 (allQ (Ls.take 0))::_) (λ w ho=>ho) ?_
 refine zG (λ mz fz lz => ∃ (f0:Fr) (j:Nat) (p:Option Addr) (n0 cc:Nat),(j<=k/\n0=(allQ (Ls.take j)).length/\(0<n0 -> ∃ g,p=some ⟨g,0,none⟩))/\mz=k-j/\fz=(upd (upd (upd (upd (upd f0 0 (.slice a k c)) 6 (.slice p n0 cc)) 25 (.slice a k c)) 26 (iV k)) 27 (iV j))/\lz=fqR p n0 cc (allQ (Ls.take j))::(S++F)) ?_ ?_
 . refine ⟨_,_,⟨_,0,p0,0,c0,⟨Nat.zero_le _,rfl,λ z=>absurd z (by omega)⟩,rfl,(Za rfl (Za rfl (Za rfl (Za rfl (Za rfl rfl))))),rfl⟩,Sa⟩
 rintro mz fz lz ⟨f0,j,p,n0,cc,⟨hj,hn,hp⟩,hmz,rfl,rfl⟩
 subst mz
 refine Ts ?_
 refine TR ?_
 refine Lq (yM rfl rfl) ?_
 refine Ld ?_
 refine Ts ?_
 refine yN rfl (λ hlt2=>?_) (λ hlt2=>?_)
 .
  obtain ⟨b,o,rfl,hr⟩:=h.l.at (sz:=1) (λ _=>rfl) (by omega)
  obtain ⟨x,hx⟩ : ∃ x,Ls[j]? = some x:=⟨_,List.getElem?_eq_getElem (by omega)⟩
  have hx1:=hr j x hx
  have hxv:=h.r x (List.mem_of_getElem? hx)
  obtain ⟨ax,cx,ex⟩:=hxv.l.form rfl
  obtain ⟨xv,xq⟩:=x
  dsimp only at ex
  subst ex
  have hsn:=allQ_snoc hx
  have hle:=allQ_le Ls (j+1)
  rw [hsn,List.length_append] at hle
  dsimp only at hle hsn hxv
  refine Tk ?_
  refine Ts ?_
  refine yH ?_
  refine Ts ?_
  refine TR ?_
  refine Lq (Qi _ (e:=22) (sz:=1) rfl rfl rfl) ?_
  refine Lq (zN (v := .slice ax xq.length cx) rfl (λ w ho=>hx1 w (ho.map Sa) 0 _ rfl)) ?_
  refine La rfl ?_
  refine Ld ?_
  refine TR ?_
  refine Lm rfl ?_
  refine Lm rfl ?_
  refine Le (Ea Qe.elemF rfl rfl (SrcOf.fq (m:=xq.length) (hxv.l.mono (λ w ho=>ho.tl.drop)) (λ _=>rfl) rfl (fqC_one hxv.r)) (by unfold maxLen;omega) ?_)
  rintro p4 c4 hp4
  rw [<-List.flatMap_append,<-hsn]
  refine La rfl ?_
  refine Ld ?_
  refine TR ?_
  refine Lq (Qd rfl rfl (Ze)) ?_
  refine Lm rfl ?_
  refine Ld ?_
  refine ⟨_,?_,_,⟨_,j+1,p4,n0+xq.length,c4,⟨by omega,by rw [hsn,List.length_append,hn],hp4⟩,rfl,(Za rfl (Za rfl (Za rfl (Za rfl (Za rfl rfl))))),rfl⟩,Sa⟩
  omega
 obtain rfl:k=j:=by omega
 rw [ez] at hn ⊢
 subst hn
 refine zB ?_
 refine Ts ?_
 refine TR ?_
 refine Lm rfl ?_
 refine La rfl ?_
 refine Ld ?_
 refine T.ret ?_
 exact ⟨.inl rfl,_,_,res [_] rfl ⟨rvT rfl,trivial⟩,⟨p,cc,rfl,hp,rfl⟩,Sa⟩
def pdsQ (Q:List Fq):List (Int×Int):=Q.map λ x=>(x.fr,x.to)
theorem Qe.group (B:Wn) (S:List Wp) (a:Option Addr) (m c:Nat) (Q:List Fq) (h:FctV B S (.slice a m c) Q) (hm:Q.length=m) (hb:m<2^40) (hord:Ord cmpF (Q.map Fq.fz)) (fg:FuncId) (fn:Func) (hf:Tryz.prog.funcs[fg]? = some fn) (hn:(fn.name == "runtime.NumGoroutine")=false) (hbb:fn.body.isNone=false) (caps:List Value) (D:Nat->Wp)
    (hdo : ∀ (i k:Nat) (x:Fq) (pp:Option Addr) (kc:Nat),i<k->k<=m->Q[i]? = some x->Bound (Q.map Fq.fz) i->(∀ (j:Nat) y,i<=j->j<k->(Q.map Fq.fz)[j]? = some y->y.row=x.row)->perR x.row (Q.map Fq.fz)=pdsQ ((Q.drop i).take (k-i))->(pdsQ ((Q.drop i).take (k-i))).length=k-i->(0<k-i -> ∃ g,pp=some ⟨g,0,none⟩) ->
      Fn Tryz.prog B fg ([x.s,.slice pp (k-i) kc]++caps).toArray (D i::pdR pp (k-i) kc (pdsQ ((Q.drop i).take (k-i)))::S) (λ u l=>u = .tuple #[]/\l=D k::S)) :
    Fn Tryz.prog B 28 #[.slice a m c,.func (.func fg) #[] caps.toArray] (D 0::S) (λ u l=>u = .tuple #[]/\l=D m::S):=by
  have hfl:(Q.map Fq.fz).length=m:=by simpa using hm
  refine Wr 49 Tryz.func28 rfl rfl (nB rfl) (λ F=>?_)
  try simp only [cA,nA]
  refine Ts ?_
  refine TR ?_
  refine La rfl ?_
  refine Ld ?_
  refine yH ?_
  refine zG (λ mz fz lz => ∃ (f0:Fr) (i:Nat),(i<=m/\Bound (Q.map Fq.fz) i)/\mz=m-i/\fz=(upd (upd (upd f0 0 (.slice a m c)) 1 (.func (.func fg) #[] caps.toArray)) 4 (iV i))/\lz=D i::(S++F)) ?_ ?_
  . refine ⟨_,_,⟨_,0,⟨Nat.zero_le _,by intro y hy;simp at hy⟩,rfl,(Za rfl (Za rfl (Za rfl rfl))),rfl⟩,Sa⟩
  rintro mz fz lz ⟨f0,i,⟨hi,hbd⟩,hmz,rfl,rfl⟩
  subst mz
  refine Ts ?_
  refine Ts ?_
  refine TR ?_
  refine Lm rfl ?_
  refine Lm rfl ?_
  refine Lq (yI (e:=35) (sz:=3) rfl) ?_
  refine Lq (yM rfl rfl) ?_
  refine Ld ?_
  refine yN rfl (λ hlt=>?_) (λ hlt=>?_)
  . skip
    obtain ⟨b,o,rfl,hr⟩:=h.l.at (sz:=3) (λ _=>rfl) (by omega)
    obtain ⟨x,hx⟩ : ∃ x,Q[i]? = some x:=⟨_,List.getElem?_eq_getElem (by omega)⟩
    have hx1:=hr i x hx
    have hxv:=h.r x (List.mem_of_getElem? hx)
    have hxf:(Q.map Fq.fz)[i]? = some x.fz:=by rw [List.getElem?_map,hx];rfl
    obtain ⟨pa,ca,ex⟩:=hxv.form
    refine T.conv (l':=pdR none 0 0 []::_) (λ w ho=>ho.row_nil 33 2) ?_
    refine Tk ?_
    refine yH ?_
    refine Ts ?_
    refine TR ?_
    refine La rfl ?_
    refine Ld ?_
    refine Ts ?_
    refine TR ?_
    refine Lm rfl ?_
    refine La rfl ?_
    refine Ld ?_
    refine Ts ?_
    refine yH ?_
    refine zG (λ mz fz lz => ∃ (f0:Fr) (k:Nat) (per:List (Int×Int)) (p1:Option Addr) (n1 c1:Nat),(i<=k/\k<=m/\per=pdsQ ((Q.drop i).take (k-i))/\per.length=n1/\n1=k-i/\(0<n1 -> ∃ g,p1=some ⟨g,0,none⟩)/\(∀ (j:Nat) y,i<=j->j<k->(Q.map Fq.fz)[j]? = some y->y.row=x.row))/\mz=m-k/\fz=(upd (upd (upd (upd (upd f0 0 (.slice (some ⟨b,o,none⟩) m c)) 1 (.func (.func fg) #[] caps.toArray)) 4 (iV i)) 5 (.slice p1 n1 c1)) 6 (iV k))/\lz=pdR p1 n1 c1 per::D i::(S++F)) ?_ ?_
    . refine ⟨_,_,⟨_,i,[],none,0,0,⟨Nat.le_refl _,hi,by rw [Nat.sub_self];rfl,rfl,by omega,λ z=>absurd z (by omega),λ j y h1 h2=>by omega⟩,rfl,(Za rfl (Za rfl (Za rfl (Za rfl (Za rfl rfl))))),rfl⟩,Sa⟩
    rintro mz fz lz ⟨f0,k,per,p1,n1,c1,⟨hik,hkm,hper,hpn,hnk,hp1,hsame⟩,hmz,rfl,rfl⟩
    subst mz
    by_cases hkl:k<m
    . skip
      obtain ⟨y,hy⟩ : ∃ y,Q[k]? = some y:=⟨_,List.getElem?_eq_getElem (by omega)⟩
      have hy1:=hr k y hy
      have hyv:=h.r y (List.mem_of_getElem? hy)
      have hyf:(Q.map Fq.fz)[k]? = some y.fz:=by rw [List.getElem?_map,hy];rfl
      obtain ⟨pb,cb,ey⟩:=hyv.form
      have hxs : ∀ w,Own B w S->w.cell? ⟨b,o+i*3,none⟩=some (.slice pa x.row.length ca):=λ w ho=>by have:=hx1 w ho 0 _ rfl;rw [ex] at this;exact this
      have hys : ∀ w,Own B w S->w.cell? ⟨b,o+k*3,none⟩=some (.slice pb y.row.length cb):=λ w ho=>by have:=hy1 w ho 0 _ rfl;rw [ey] at this;exact this
      have hcmp:=Qc.compare B S y.row x.row pb y.row.length cb pa x.row.length ca (ey ▸ hyv.2) rfl (ex ▸ hxv.2) rfl hyv.1 hxv.1
      refine Ts ?_
      refine Ts ?_
      refine T.draw 18 (S) (nB rfl) ?_
      refine Rq 0 rfl Sa (Qm rfl) ?_
      refine Rq 1 rfl Sa (Qm rfl) ?_
      refine Rq 2 rfl Sa (yI (e:=35) (sz:=3) rfl) ?_
      refine Rq 3 rfl Sa (yM rfl rfl) ?_
      refine Rq 4 rfl Sa (Qm rfl) ?_
      refine YY (t:=16) rfl (decide_eq_true ((by omega))) ?_
      refine Rq 5 rfl Sa (Qm rfl) ?_
      refine Rq 6 rfl Sa (Qm rfl) ?_
      refine Rq 7 rfl Sa (Qi _ (e:=35) (sz:=3) rfl rfl rfl) ?_
      refine Rq 8 rfl Sa (Q0 rfl) ?_
      refine Rq 9 rfl Sa (zN (v := .slice pb y.row.length cb) rfl hys) ?_
      refine Rq 10 rfl Sa (Qm rfl) ?_
      refine Rq 11 rfl Sa (Qm rfl) ?_
      refine Rq 12 rfl Sa (Qi _ (e:=35) (sz:=3) rfl rfl rfl) ?_
      refine Rq 13 rfl Sa (Q0 rfl) ?_
      refine Rq 14 rfl Sa (zN (v := .slice pa x.row.length ca) rfl hxs) ?_
      refine yK 15 ?_
      refine zY rfl (Ec (hcmp) Tryz.func30 rfl rfl rfl ?_)
      rintro _ _ ⟨rfl,rfl⟩
      by_cases he:cmpRw y.row x.row=0
      . skip
        have hrow:y.row=x.row:=linR.eq _ _ he
        refine Rq 16 rfl (Sr _) (yU rfl rfl) ?_
        refine Rq 17 rfl (Sr _) (Qp rfl rfl) ?_
        refine Rd0 (by rfl) ?_
        simp only [dS,dZ,dN]
        refine Ld ?_
        refine zM rfl (he) ?_
        refine Tk ?_
        refine Ts ?_
        refine yH ?_
        refine TR ?_
        refine Lm rfl ?_
        refine Lm rfl ?_
        refine Lm rfl ?_
        refine Lq (Qi _ (e:=35) (sz:=3) rfl rfl rfl) ?_
        refine Lq (Qf (off:=1) rfl) ?_
        refine Lq (Qt.loadAggW (pC (y.fr,y.to)) rfl (λ w ho=>by have:=hy1 w (ho.map Sa);exact λ j v hv=>by have:=this (1+j) v (by match j,hv with | 0,hv=>exact hv | 1,hv=>exact hv);rwa [<-Nat.add_assoc] at this)) ?_
        refine Le (zK [_,_] (e:=33) (sz:=2) ⟨.agg #[.int .i64 0,.int .i64 0],by kernel_rfl,rfl⟩ rfl rfl rfl ?_)
        intro g38
        refine Le (Ea Qd.elem rfl rfl (SrcOf.blk (by kernel_rfl) rfl (by simp [Value.oneCell'])) (by unfold maxLen;omega) ?_)
        rintro p4 c4 hp4
        try simp only [cA,nA]
        rw [show per.flatMap pC++[iV y.fr,iV y.to]=(per++[(y.fr,y.to)]).flatMap pC by simp]
        have hext:per++[(y.fr,y.to)]=pdsQ ((Q.drop i).take (k+1-i)):=by
          rw [hper,show k+1-i=(k-i)+1 by omega,List.take_add_one]
          rw [show (Q.drop i)[k-i]? = some y by rw [List.getElem?_drop,show i+(k-i)=k by omega];exact hy]
          unfold pdsQ
          rw [List.map_append];rfl
        have hsame2 : ∀ (j:Nat) z,i<=j->j<k+1->(Q.map Fq.fz)[j]? = some z->z.row=x.row:=λ j z h1 h2 h3=>by
          rcases Nat.lt_or_ge j k with q | q
          . exact hsame j z h1 q h3
          . obtain rfl:j=k:=by omega
            rw [hyf] at h3;cases h3;exact hrow
        refine La rfl ?_
        refine Ld ?_
        refine TR ?_
        refine Lm rfl ?_
        refine Lq (Qd rfl rfl (Ze)) ?_
        refine La rfl ?_
        refine Ld ?_
        refine ⟨_,?_,_,⟨_,k+1,per++[(y.fr,y.to)],p4,n1+1,c4,⟨by omega,by omega,hext,by simp [hpn],by omega,hp4,hsame2⟩,rfl,(Za rfl (Za rfl (Za rfl (Za rfl (Za rfl rfl))))),rfl⟩,Sa⟩
        omega
      have hik2:i<k:=by
        rcases Nat.lt_or_ge i k with q | q
        . exact q
        . obtain rfl:i=k:=by omega
          rw [hx] at hy;cases hy
          exact absurd (linR.refl _) he
      have hne:y.row≠x.row:=λ e=>he (by rw [e];exact linR.refl _)
      have hg:=group_next hord hbd hxf hik2 (by omega) hsame (.inr ⟨y.fz,hyf,hne⟩)
      have hpr:perR x.row (Q.map Fq.fz)=pdsQ ((Q.drop i).take (k-i)):=by rw [hg.1];unfold pdsQ;rw [<-List.map_drop,<-List.map_take,List.map_map];rfl
      subst hper
      subst hnk
      refine Rq 16 rfl (Sr _) (yU rfl rfl) ?_
      refine Rq 17 rfl (Sr _) (Qp rfl rfl) ?_
      refine Rd0 (by rfl) ?_
      simp only [dS,dZ,dN]
      refine Ld ?_
      refine yL rfl (he) ?_
      refine zB ?_
      refine Ts ?_
      refine TR ?_
      refine Lm rfl ?_
      refine Lm rfl ?_
      refine Lm rfl ?_
      refine Lq (Qi _ (e:=35) (sz:=3) rfl rfl rfl) ?_
      refine Lq (Q0 rfl) ?_
      refine Lq (zN (v:=x.s) rfl (λ w ho=>hx1 w (ho.map Sa) 0 _ rfl)) ?_
      refine Lm rfl ?_
      refine Le (ZE [x.s,.slice p1 (k-i) c1] caps (hdo i k x p1 c1 hik2 hkm hx hbd hsame hpr hpn hp1) hf hn hbb rfl rfl rfl ?_)
      rintro _ _ ⟨rfl,rfl⟩
      try simp only [cA,nA]
      refine Ld ?_
      refine TR ?_
      refine Lm rfl ?_
      refine La rfl ?_
      refine Ld ?_
      refine ⟨_,?_,_,⟨_,k,⟨hkm,hg.2⟩,rfl,(Za rfl (Za rfl (Za rfl rfl))),rfl⟩,Sa⟩
      omega
    obtain rfl:k=m:=by omega
    have hg:=group_next hord hbd hxf (by omega:i<k) (by omega) hsame (.inl hfl.symm)
    have hpr:perR x.row (Q.map Fq.fz)=pdsQ ((Q.drop i).take (k-i)):=by rw [hg.1];unfold pdsQ;rw [<-List.map_drop,<-List.map_take,List.map_map];rfl
    subst hper
    subst hnk
    refine Ts ?_
    refine Ts ?_
    refine T.draw 18 (S) (nB rfl) ?_
    refine Rq 0 rfl Sa (Qm rfl) ?_
    refine Rq 1 rfl Sa (Qm rfl) ?_
    refine Rq 2 rfl Sa (yI (e:=35) (sz:=3) rfl) ?_
    refine Rq 3 rfl Sa (yM rfl rfl) ?_
    refine Rq 4 rfl Sa (Qm rfl) ?_
    refine ZD (t:=16) rfl (decide_eq_false ((by omega))) ?_
    refine yY 5 rfl Sa ?_
    refine yY 6 rfl Sa ?_
    refine yY 7 rfl Sa ?_
    refine yY 8 rfl Sa ?_
    refine yY 9 rfl Sa ?_
    refine yY 10 rfl Sa ?_
    refine yY 11 rfl Sa ?_
    refine yY 12 rfl Sa ?_
    refine yY 13 rfl Sa ?_
    refine yY 14 rfl Sa ?_
    refine yY 15 rfl Sa ?_
    refine yY 16 rfl Sa ?_
    refine Rq 17 rfl Sa (Qp rfl rfl) ?_
    refine Rd0 (by rfl) ?_
    simp only [dS,dZ,dN]
    refine Ld ?_
    refine yQ rfl ?_
    refine zB ?_
    refine Ts ?_
    refine TR ?_
    refine Lm rfl ?_
    refine Lm rfl ?_
    refine Lm rfl ?_
    refine Lq (Qi _ (e:=35) (sz:=3) rfl rfl rfl) ?_
    refine Lq (Q0 rfl) ?_
    refine Lq (zN (v:=x.s) rfl (λ w ho=>hx1 w (ho.map Sa) 0 _ rfl)) ?_
    refine Lm rfl ?_
    refine Le (ZE [x.s,.slice p1 (k-i) c1] caps (hdo i k x p1 c1 (by omega) hkm hx hbd hsame hpr hpn hp1) hf hn hbb rfl rfl rfl ?_)
    rintro _ _ ⟨rfl,rfl⟩
    try simp only [cA,nA]
    refine Ld ?_
    refine TR ?_
    refine Lm rfl ?_
    refine La rfl ?_
    refine Ld ?_
    refine ⟨_,?_,_,⟨_,k,⟨hkm,hg.2⟩,rfl,(Za rfl (Za rfl (Za rfl rfl))),rfl⟩,Sa⟩
    omega
  obtain rfl:m=i:=by omega
  refine zB ?_
  exact ⟨.inr rfl,_,_,res [] rfl trivial,⟨rfl,rfl⟩,Sa⟩
end Go.Proofs.YtnnfjemaeefbiaaGreatDoor
namespace Go.Proofs.YtnnfjemaeefbiaaGreatDoor
open Go.RowKit Go.Shelf Go.Lib Go.Sort
theorem LW.ex {P:Program} {B:Wn} {n:Nat} {ops:Array Oper} {rest:List Oper} {Φ:Post} {f:Fr} {l:List Wp} {α:Type} {l':α->List Wp} (h : ∀ w,Own B w l -> ∃ x,Own B w (l' x)) (k : ∀ x,LW P B n ops rest Φ f (l' x)):LW P B n ops rest Φ f l:=⟨λ Q w hf ho=>by
  obtain ⟨x,hx⟩:=h w ho
  exact (k x).run Q w hf hx⟩
structure GSt where
  Q:List Fq
  A:Wp
  p:Option Addr
  n:Nat
  c:Nat
def gsP (B:Wn) (L M:List Fz) (i:Nat) (s:GSt):Prop:=s.Q.length=s.n/\(0<s.n -> ∃ g,s.p=some ⟨g,0,none⟩)/\FqsA B s.A s.Q/\GP L M i (s.Q.map Fq.fz)
def gsA (B:Wn) (g:Nat) (L M:List Fz) (i:Nat):Wp:=exA λ s:GSt=>sepL [pu (gsP B L M i s),blk g [.slice s.p s.n s.c] 22,fqR s.p s.n s.c s.Q,s.A]
theorem gsA.open {B:Wn} {g:Nat} {L M:List Fz} {i:Nat} {l:List Wp} {w:World} (H:Own B w (gsA B g L M i::l)) : ∃ s:GSt,Own B w (pu (gsP B L M i s)::blk g [.slice s.p s.n s.c] 22::fqR s.p s.n s.c s.Q::s.A::l):=by
  obtain ⟨h,a,b,H1⟩:=H.has
  obtain ⟨s,H2⟩:=Has.open_ex H1
  exact ⟨s,H.os,H.tape,H.output,H.low,H.ro,h,a,b,Has.open_sepL H2⟩
theorem gsA.close {B:Wn} {g:Nat} {L M:List Fz} {i:Nat} {l:List Wp} {h:Piece} (s:GSt) (hs:gsP B L M i s) (H:Has (blk g [.slice s.p s.n s.c] 22::fqR s.p s.n s.c s.Q::s.A::l) h):Has (gsA B g L M i::l) h:=Has.close_ex s (Has.close_sepL (Has.close_pu hs H))
theorem fz_len {Q:List Fq} {r:List Va} {G:List (Int×Int)} (h:Q.map Fq.fz=fzs r G):G.length=Q.length:=by
  have:=congrArg List.length h
  rw [List.length_map,fzs_len] at this
  exact this.symm
theorem gsP.step {B:Wn} {L M:List Fz} {i k:Nat} {s:GSt} {x:Fq} {Q2:List Fq} {A2:Wp} {G:List (Int×Int)} {p4:Option Addr} {c4:Nat} (hs:gsP B L M i s) (hb:Bound L i) (hx:L[i]? = some x.fz) (hik:i<k) (hk:k<=L.length) (hss : ∀ (j:Nat) y,i<=j->j<k->L[j]? = some y->y.row=x.row) (hper:(perR x.row L).length=k-i) (hA2:FqsA B A2 Q2) (hQ2:Q2.map Fq.fz=fzs x.row G) (hl:Layers (cD (perR x.row L) (perR x.row M)) 0 G) (hlen:Q2.length<=(perR x.row L).length+(perR x.row M).length) (hp4:0<s.n+Q2.length -> ∃ g,p4=some ⟨g,0,none⟩):gsP B L M k ⟨s.Q++Q2,sepL [s.A,A2],p4,s.n+Q2.length,c4⟩:=by
  obtain ⟨h1,h2,h3,h4⟩:=hs
  refine ⟨by simp [h1],hp4,h3.app hA2,?_⟩
  rw [List.map_append,hQ2]
  exact GP.step (x:=x.fz) h4 hb hx hik hk hss hper hl (by rw [fz_len hQ2];exact hlen)
theorem Qe.normal1 (B:Wn) (S:List Wp) (g:Nat) (L:List Fz) (hL : ∀ f∈L,okF f=true) (hLb:L.length<2^36) (i k:Nat) (x:Fq) (hxv:FqV B S x) (hx:L[i]? = some x.fz) (hb:Bound L i) (hik:i<k) (hk:k<=L.length) (hs : ∀ (j:Nat) y,i<=j->j<k->L[j]? = some y->y.row=x.row) (pp:Option Addr) (kc:Nat) (per:List (Int×Int)) (hper:perR x.row L=per) (hpn:per.length=k-i) (hpp:0<k-i -> ∃ g,pp=some ⟨g,0,none⟩) :
    Fn Tryz.prog B 36 #[x.s,.slice pp (k-i) kc,.pointer (some ⟨g,0,none⟩)] (gsA B g L [] i::pdR pp (k-i) kc per::S) (λ u l=>u = .tuple #[]/\l=gsA B g L [] k::S):=by
  obtain ⟨pa,ca,ex⟩:=hxv.form
  have hper2:=hper ▸ perR_ok (r:=x.row) hL
  rw [ex]
  refine Ws 11 Tryz.func36 rfl rfl (nB rfl) (λ F=>?_)
  try simp only [cA,nA]
  refine T.ex (λ w ho=>gsA.open ho) λ s=>?_
  refine T.own λ w ho=>?_
  have hgs:=ho.pure
  refine T.conv (λ w ho=>ho.unpure) ?_
  clear ho w
  refine T.draw 6 ([blk g [.slice s.p s.n s.c] 22]) (nB rfl) ?_
  refine Rq 0 rfl Sa (Ql rfl rfl) ?_
  refine Rq 1 rfl Sa (Qm rfl) ?_
  refine Rq 2 rfl Sa (Qm rfl) ?_
  refine yK 3 ?_
  refine z6 rfl (Ec (Qe.steps B [pdR pp (k-i) kc per] pp (k-i) kc per (FlV.row (sz:=2) (λ _=>rfl) (by omega) hpn hpp) hpn (by omega) none 0 0 [] (FlV.empty _ _) rfl (by omega)) Tryz.func32 rfl rfl rfl ?_)
  rintro _ _ ⟨p3,c3,rfl,hp3,rfl⟩
  try simp only [cA,nA]
  refine ⟨Sa,?_⟩
  refine yK 4 ?_
  refine z6 rfl (Ec (Qe.layers B (stR p3 (stepsZ per []).length c3 (stepsZ per [])::S) pa x.row.length ca x.row ((ex ▸ hxv.2:FlV B S vaC (.slice pa x.row.length ca) x.row).mono λ w ho=>ho.tl) rfl hxv.1 per [] hper2 (by simp) (by omega) (by simp) p3 (stepsZ per []).length c3 (FlV.row (sz:=3) (λ _=>rfl) (by omega) rfl hp3) rfl) Tryz.func31 rfl rfl rfl ?_)
  rintro _ _ ⟨Q2,A2,p2,c2,G,rfl,hp2,hA2,hQ2,hlay,hQl,rfl⟩
  try simp only [cA,nA]
  refine ⟨Sa,?_⟩
  refine yK 5 ?_
  obtain ⟨hg1,hg2,hg3,hg4⟩:=hgs
  have hQn:s.n<=i+0:=by obtain ⟨R,G,_,_,_,_,h5⟩:=hg4;rw [<-hg1];simpa using h5
  refine zY rfl (Ea Qe.elemF rfl rfl (SrcOf.row (by kernel_rfl) (fqC_one hA2)) (by unfold maxLen;simp at hQl;omega) (hbytes:=(by simp at hQl;omega)) ?_)
  rintro p4 c4 hp4
  rw [<-List.flatMap_append]
  refine Rd0 (by rfl) ?_
  simp only [dS,dZ,dN]
  refine L0 (E1 rfl rfl rfl (by first | (simp;done) | (simp;omega)) ?_)
  try simp only [List.set_cons_zero,List.set_cons_succ]
  refine Ld ?_
  exact ⟨.inr rfl,_,_,res [] rfl trivial,⟨rfl,rfl⟩,(λ h H=>gsA.close ⟨s.Q++Q2,sepL [s.A,A2],p4,s.n+Q2.length,c4⟩ (gsP.step ⟨hg1,hg2,hg3,hg4⟩ hb hx hik hk hs (by rw [hper];exact hpn) hA2 hQ2 (by rw [hper];exact hlay) (by rw [hper];exact hQl) hp4) ((Sa:Sub _ (blk g [.slice p4 (s.n+Q2.length) c4] 22::fqR p4 (s.n+Q2.length) c4 (s.Q++Q2)::sepL [s.A,A2]::(S++F))) h H))⟩
theorem gsA.zero {B:Wn} {g:Nat} {L M:List Fz} {l:List Wp} {w:World} (H:Own B w (blk g [.slice none 0 0] 22::l)):Own B w (gsA B g L M 0::l):=by
  have h1:=H.row_nil 35 3
  refine h1.map λ h H2=>gsA.close ⟨[],pu True,none,0,0⟩ ⟨rfl,λ z=>absurd z (by decide),(by intro x hx;cases hx),GP.zero L M⟩ ?_
  exact Wt (λ _ H3=>Wt (λ _ H4=>Has.close_pu trivial H4) H3) (Has.swap H2)
def NormPost (B:Wn) (S:List Wp) (cf:List Va->Int->Int) (mx:Nat) (u:Value) (l:List Wp):Prop := ∃ Q A p c,u = .slice p Q.length c/\(0<Q.length -> ∃ g,p=some ⟨g,0,none⟩)/\FqsA B A Q/\NF (Q.map Fq.fz) cf/\Q.length<=mx/\l=fqR p Q.length c Q::A::S
theorem NormPost.fct {B:Wn} {A:Wp} {Q:List Fq} {p:Option Addr} {c:Nat} (h:FqsA B A Q) (hp:0<Q.length -> ∃ g,p=some ⟨g,0,none⟩):FctV B [fqR p Q.length c Q,A] (.slice p Q.length c) Q:=FctV.own h rfl hp
theorem right_ok {Q Q2:List Fq} (h:(Q2.map Fq.fz).Perm ((Q.map Fq.fz).filter okF)) : ∀ f∈Q2.map Fq.fz,okF f=true:=λ f hf=>(List.mem_filter.1 (h.mem_iff.1 hf)).2
theorem Qe.normal (B:Wn) (S:List Wp) (a:Option Addr) (k c:Nat) (Ls:List (Value×List Fq)) (h:LsV B S (.slice a k c) Ls) (hk:Ls.length=k) (hkb:k<2^20) (hb:(allQ Ls).length<2^36):Fn Tryz.prog B 10 #[.slice a k c] S (NormPost B S (cnt ((allQ Ls).map Fq.fz)) (allQ Ls).length):=by
  have hcc:=Qe.concat B S a k c Ls h hk hkb (by omega)
  refine Wq 12 Tryz.func10 rfl rfl (nB rfl) (λ F=>?_)
  refine Ts ?_
  refine TR ?_
  refine La rfl ?_
  refine Ld ?_
  refine Ts ?_
  refine TR ?_
  refine Le (El [.slice none 0 0] (by unfold Zf;kernel_rfl) ?_)
  intro g3
  refine Ld ?_
  refine Ts ?_
  refine TR ?_
  refine Lm rfl ?_
  refine Le (Ec (hcc) Tryz.func35 rfl rfl rfl ?_)
  rintro _ _ ⟨p1,c1,rfl,hp1,rfl⟩
  try simp only [cA,nA]
  have hall : ∀ x∈allQ Ls,FqV B S x:=λ x hx=>by
    unfold allQ at hx
    obtain ⟨y,hy,hxy⟩:=List.mem_flatMap.1 hx
    exact (h.r y hy).r x hxy
  refine Le (Ec (Qe.right B (fqR p1 (allQ Ls).length c1 (allQ Ls)::S) p1 (allQ Ls).length c1 (allQ Ls) ⟨FlV.row (sz:=3) (λ _=>rfl) (by omega) rfl hp1,λ x hx=>(hall x hx).mono λ w ho=>ho.tl⟩ rfl) Tryz.func27 rfl rfl rfl ?_)
  rintro _ _ ⟨Q2,A2,p2,c2,rfl,hp2,hA2,hperm,hord,hQ2l,rfl⟩
  try simp only [cA,nA]
  have hL:=right_ok hperm
  obtain ⟨L,hLe⟩ : ∃ L,L=Q2.map Fq.fz:=⟨_,rfl⟩
  have hLl:L.length=Q2.length:=by rw [hLe,List.length_map]
  refine LW.conv (l':=blk g3 [.slice none 0 0] 22::fqR p2 Q2.length c2 Q2::A2::(S++F)) (λ w ho=>ho.map Sa) ?_
  refine LW.conv (λ w ho=>gsA.zero (L:=L) (M:=[]) ho) ?_
  refine Lq (Y4 [_] rfl) ?_
  rw [<-hLe] at hperm hord hL
  refine Le (Ec (Qe.group B [fqR p2 Q2.length c2 Q2,A2] p2 Q2.length c2 Q2 (FctV.own hA2 rfl hp2) rfl (by omega) (hLe ▸ hord) 36 _ Tryz.func36 rfl rfl [.pointer (some ⟨g3,0,none⟩)] (gsA B g3 L []) (λ i k x pp kc hik hk hx hbd hs hper hpn hpp=>Qe.normal1 B _ g3 L hL (by omega) i k x ((FctV.own hA2 rfl hp2).r x (List.mem_of_getElem? hx)) (by rw [hLe,List.getElem?_map,hx];rfl) (hLe ▸ hbd) hik (by omega) (hLe ▸ hs) pp kc _ (hLe ▸ hper) hpn hpp)) Tryz.func28 rfl rfl rfl ?_)
  rintro _ _ ⟨rfl,rfl⟩
  try simp only [cA,nA]
  refine LW.ex (λ w ho=>gsA.open ho) λ s=>?_
  refine LW.own λ w ho=>?_
  obtain ⟨hg1,hg2,hg3,hg4⟩:=ho.pure
  refine LW.conv (λ w ho=>ho.unpure) ?_
  clear ho w
  refine Ld ?_
  refine Ts ?_
  refine TR ?_
  refine Lq (Ql rfl rfl) ?_
  refine Le (Ec (Qc.sortF B [s.A] s.p s.n s.c s.Q hg1 (by obtain ⟨R,G,_,_,_,_,h5⟩:=hg4;simp at h5;omega) hg3) Tryz.func33 rfl rfl rfl ?_)
  rintro _ _ ⟨rfl,Q3,hQ3,hord3,hA3,rfl⟩
  try simp only [cA,nA]
  have hnf:=GP.nf (hLl ▸ hg4) hL (by simp) (hQ3.map Fq.fz) hord3
  have h3n:Q3.length=s.n:=by rw [hQ3.length_eq,hg1]
  have hcf:(λ r t=>cnt L r t-cnt [] r t)=cnt ((allQ Ls).map Fq.fz):=by
    funext r t
    rw [cnt_nil,cnt_perm hperm,cnt_ok];omega
  rw [hcf] at hnf
  refine Ld ?_
  refine Ts ?_
  refine TR ?_
  refine Lq (Ql rfl rfl) ?_
  refine La rfl ?_
  refine Ld ?_
  rw [<-h3n] at hg2 ⊢
  refine T.ret ?_
  exact ⟨.inl rfl,_,_,res [_] rfl ⟨rvT rfl,trivial⟩,⟨Q3,s.A,s.p,s.c,rfl,hg2,hA3,hnf.1,by have:=hnf.2;simp at this;omega,rfl⟩,Sa⟩
end Go.Proofs.YtnnfjemaeefbiaaGreatDoor
namespace Go.Proofs.YtnnfjemaeefbiaaGreatDoor
open Go.RowKit Go.Shelf Go.Lib Go.Sort
theorem perR_snoc {M:List Fz} {i:Nat} {f:Fz} (r:List Va) (h:M[i]? = some f):perR r (M.take (i+1))=perR r (M.take i)++(if f.row=r then [(f.fr,f.to)] else []):=by
  unfold perR
  rw [filter_snoc h,List.map_append]
  by_cases q:f.row=r
  . rw [if_pos q,if_pos (by simpa using q)];rfl
  . rw [if_neg q,if_neg (by simpa using q)];rfl
theorem perR_le (r:List Va) (M:List Fz):(perR r M).length<=M.length:=by
  unfold perR
  rw [List.length_map]
  exact List.length_filter_le _ _
theorem Qe.except1 (B:Wn) (S:List Wp) (g gm:Nat) (tm:TypeId) (pm:Option Addr) (m cm:Nat) (MQ:List Fq) (hM:FctV B S (.slice pm m cm) MQ) (hMm:MQ.length=m) (hMo : ∀ f∈MQ.map Fq.fz,okF f=true) (hMb:m<2^36) (L:List Fz) (hL : ∀ f∈L,okF f=true) (hLb:L.length<2^36) (i k:Nat) (x:Fq) (hxv:FqV B S x) (hx:L[i]? = some x.fz) (hb:Bound L i) (hik:i<k) (hk:k<=L.length) (hs : ∀ (j:Nat) y,i<=j->j<k->L[j]? = some y->y.row=x.row) (pp:Option Addr) (kc:Nat) (per:List (Int×Int)) (hper:perR x.row L=per) (hpn:per.length=k-i) (hpp:0<k-i -> ∃ g,pp=some ⟨g,0,none⟩) :
  Fn Tryz.prog B 29 #[x.s,.slice pp (k-i) kc,.pointer (some ⟨gm,0,none⟩),.pointer (some ⟨g,0,none⟩)] (gsA B g L (MQ.map Fq.fz) i::pdR pp (k-i) kc per::blk gm [.slice pm m cm] tm::S) (λ u l=>u = .tuple #[]/\l=gsA B g L (MQ.map Fq.fz) k::blk gm [.slice pm m cm] tm::S):=by
 obtain ⟨pa,ca,ex⟩:=hxv.form
 have hper2:=hper ▸ perR_ok (r:=x.row) hL
 have hoff:=perR_ok (r:=x.row) hMo
 have hxr:FlV B S vaC (.slice pa x.row.length ca) x.row:=ex ▸ hxv.2
 rw [ex]
 refine Fn.enter4 33 Tryz.func29 rfl rfl (nB rfl) (λ F=>?_)
 try simp only [cA,nA]
 refine Ts ?_
 refine TR ?_
 refine La rfl ?_
 refine Ld ?_
 refine Ts ?_
 refine Ts ?_
 refine TR ?_
 refine Lq (Ql rfl rfl) ?_
 refine Lq (yI (e:=35) (sz:=3) rfl) ?_
 refine Lm rfl ?_
 refine Ld ?_
 refine yH ?_
 refine T.conv (l':=pdR none 0 0 []::_) (λ w ho=>ho.row_nil 33 2) ?_
 refine zG (λ mz fz lz => ∃ (f0:Fr) (j:Nat) (off:List (Int×Int)) (p1:Option Addr) (n1 c1:Nat),(j<=m/\off=perR x.row ((MQ.map Fq.fz).take j)/\off.length=n1/\n1<=j/\(0<n1 -> ∃ g,p1=some ⟨g,0,none⟩))/\mz=m-j/\fz=(upd (upd (upd (upd (upd (upd (upd f0 0 (.slice pa x.row.length ca)) 1 (.slice pp (k-i) kc)) 3 (.pointer (some ⟨g,0,none⟩))) 6 (.slice p1 n1 c1)) 9 (.slice pm m cm)) 10 (iV m)) 11 (iV j))/\lz=pdR p1 n1 c1 off::gsA B g L (MQ.map Fq.fz) i::pdR pp (k-i) kc per::blk gm [.slice pm m cm] tm::(S++F)) ?_ ?_
 . refine ⟨_,_,⟨_,0,[],none,0,0,⟨Nat.zero_le _,rfl,rfl,Nat.le_refl _,λ z=>absurd z (by omega)⟩,rfl,(Za rfl (Za rfl (Za rfl (Za rfl (Za rfl (Za rfl (Za rfl rfl))))))),rfl⟩,Sa⟩
 rintro mz fz lz ⟨f0,j,off,p1,n1,c1,⟨hj,hoffe,hn1,hnj,hp1⟩,hmz,rfl,rfl⟩
 subst mz
 refine Ts ?_
 refine TR ?_
 refine Lq (yM rfl rfl) ?_
 refine Ld ?_
 refine Ts ?_
 refine yN rfl (λ hlt=>?_) (λ hlt=>?_)
 .
  obtain ⟨b,o,rfl,hr⟩:=hM.l.at (sz:=3) (λ _=>rfl) (by omega)
  obtain ⟨y,hy⟩ : ∃ y,MQ[j]? = some y:=⟨_,List.getElem?_eq_getElem (by omega)⟩
  have hy1:=hr j y hy
  have hyv:=hM.r y (List.mem_of_getElem? hy)
  have hsn:=perR_snoc (M:=MQ.map Fq.fz) (f:=y.fz) (i:=j) x.row (by rw [List.getElem?_map,hy];rfl)
  obtain ⟨pb,cb,ey⟩:=hyv.form
  obtain ⟨ys,yr,yf,yt⟩:=y
  dsimp only at ey hsn
  subst ey
  have hcmp:=Qc.compare B S yr x.row pb yr.length cb pa x.row.length ca hyv.2 rfl hxr rfl hyv.1 hxv.1
  refine Tk ?_
  refine Ts ?_
  refine yH ?_
  refine Ts ?_
  refine TR ?_
  refine Lq (Qi _ (e:=35) (sz:=3) rfl rfl rfl) ?_
  refine Lq (Qt.loadAggW (fqC ⟨.slice pb yr.length cb,yr,yf,yt⟩) rfl (λ w ho=>hy1 w (ho.map Sa))) ?_
  refine Le (El [.slice none 0 0,.int .i64 0,.int .i64 0] (by unfold Zf;kernel_rfl) ?_)
  intro g8
  refine L0 (Es [_,_,_] rfl rfl rfl rfl (by simp) ?_)
  try simp only [splice,lC,lN,dS,cA,tS,tZ,dZ,nA,aN]
  refine Ld ?_
  refine Ts ?_
  refine TR ?_
  refine Lq (Q0 rfl) ?_
  refine Lq (Ql rfl rfl) ?_
  refine Lm rfl ?_
  refine Le (Ec (hcmp) Tryz.func30 rfl rfl rfl ?_)
  rintro _ _ ⟨rfl,rfl⟩
  refine Lq (yU rfl rfl) ?_
  refine Ld ?_
  refine yN rfl (λ he=>?_) (λ he=>?_)
  .
   rw [if_pos (linR.eq _ _ he)] at hsn
   refine TR ?_
   refine Lm rfl ?_
   refine Lq (Qf (off:=1) rfl) ?_
   refine Lq (QL [_,_] rfl ⟨rfl,rfl,trivial⟩) ?_
   refine Le (zK [_,_] (e:=33) (sz:=2) ⟨.agg #[.int .i64 0,.int .i64 0],by kernel_rfl,rfl⟩ rfl rfl rfl ?_)
   intro g23
   refine Le (Ea Qd.elem rfl rfl (SrcOf.blk (by kernel_rfl) rfl (by simp [Value.oneCell'])) (by unfold maxLen;omega) ?_)
   rintro p4 c4 hp4
   rw [show off.flatMap pC++[iV yf,iV yt]=(off++[(yf,yt)]).flatMap pC by simp]
   refine La rfl ?_
   refine Ld ?_
   refine TR ?_
   refine Lq (Qd rfl rfl (Ze)) ?_
   refine Lm rfl ?_
   refine Ld ?_
   refine ⟨_,?_,_,⟨_,j+1,off++[(yf,yt)],p4,n1+1,c4,⟨by omega,by rw [hsn,hoffe],by simp [hn1],by omega,hp4⟩,rfl,(Za rfl (Za rfl (Za rfl (Za rfl (Za rfl (Za rfl (Za rfl rfl))))))),rfl⟩,Sa⟩
   omega
  rw [if_neg (λ e=>he (by rw [e];exact linR.refl _)),List.append_nil] at hsn
  refine Tk ?_
  refine TR ?_
  refine Lq (Qd rfl rfl (Ze)) ?_
  refine Lm rfl ?_
  refine Ld ?_
  refine ⟨_,?_,_,⟨_,j+1,off,p1,n1,c1,⟨by omega,by rw [hsn,hoffe],hn1,by omega,hp1⟩,rfl,(Za rfl (Za rfl (Za rfl (Za rfl (Za rfl (Za rfl (Za rfl rfl))))))),rfl⟩,Sa⟩
  omega
 have ez:(MQ.map Fq.fz).take j=MQ.map Fq.fz:=List.take_of_length_le (by simp;omega)
 rw [ez] at hoffe
 subst hoffe
 have hofl:=perR_le x.row (MQ.map Fq.fz)
 rw [List.length_map] at hofl
 refine T.conv (l':=gsA B g L (MQ.map Fq.fz) i::pdR p1 n1 c1 (perR x.row (MQ.map Fq.fz))::pdR pp (k-i) kc per::blk gm [.slice pm m cm] tm::(S++F)) (λ w ho=>ho.map Sa) ?_
 refine T.ex (λ w ho=>gsA.open ho) λ s=>?_
 refine T.own λ w ho=>?_
 have hgs:=ho.pure
 refine T.conv (λ w ho=>ho.unpure) ?_
 clear ho w
 refine zB ?_
 refine T.draw 7 ([blk g [.slice s.p s.n s.c] 22]) (nB rfl) ?_
 refine Rq 0 rfl Sa (Ql rfl rfl) ?_
 refine Rq 1 rfl Sa (Qm rfl) ?_
 refine Rq 2 rfl Sa (Qm rfl) ?_
 refine Rq 3 rfl Sa (Qm rfl) ?_
 refine yK 4 ?_
 refine z6 rfl (Ec (Qe.steps B [pdR pp (k-i) kc per,pdR p1 n1 c1 (perR x.row (MQ.map Fq.fz))] pp (k-i) kc per (FlV.row (sz:=2) (λ _=>rfl) (by omega) hpn hpp) hpn (by omega) p1 n1 c1 (perR x.row (MQ.map Fq.fz)) ((FlV.row (l:=[]) (sz:=2) (λ _=>rfl) (by omega) hn1 hp1).mono λ w ho=>ho.tl) hn1 (by omega)) Tryz.func32 rfl rfl rfl ?_)
 rintro _ _ ⟨p3,c3,rfl,hp3,rfl⟩
 try simp only [cA,nA]
 refine ⟨Sa,?_⟩
 refine yK 5 ?_
 refine z6 rfl (Ec (Qe.layers B (stR p3 (stepsZ per (perR x.row (MQ.map Fq.fz))).length c3 (stepsZ per (perR x.row (MQ.map Fq.fz)))::S) pa x.row.length ca x.row (hxr.mono λ w ho=>ho.tl) rfl hxv.1 per (perR x.row (MQ.map Fq.fz)) hper2 hoff (by omega) (by omega) p3 (stepsZ per (perR x.row (MQ.map Fq.fz))).length c3 (FlV.row (sz:=3) (λ _=>rfl) (by omega) rfl hp3) rfl) Tryz.func31 rfl rfl rfl ?_)
 rintro _ _ ⟨Q2,A2,p2,c2,G,rfl,hp2,hA2,hQ2,hlay,hQl,rfl⟩
 try simp only [cA,nA]
 refine ⟨Sa,?_⟩
 refine yK 6 ?_
 obtain ⟨hg1,hg2,hg3,hg4⟩:=hgs
 have hQn:s.n<=i+m:=by
  obtain ⟨R,G,_,_,_,_,h5⟩:=hg4
  have:=List.length_filter_le (λ f:Fz=>decide (f.row∈R)) (MQ.map Fq.fz)
  rw [List.length_map] at this
  rw [<-hg1];simp only [List.length_map] at h5;omega
 refine zY rfl (Ea Qe.elemF rfl rfl (SrcOf.row (by kernel_rfl) (fqC_one hA2)) (by unfold maxLen;omega) ?_)
 rintro p4 c4 hp4
 rw [<-List.flatMap_append]
 refine Rd0 (by rfl) ?_
 simp only [dS,dZ,dN]
 refine L0 (E1 rfl rfl rfl (by first | (simp;done) | (simp;omega)) ?_)
 try simp only [List.set_cons_zero,List.set_cons_succ]
 refine Ld ?_
 exact ⟨.inr rfl,_,_,res [] rfl trivial,⟨rfl,rfl⟩,(λ h H=>gsA.close ⟨s.Q++Q2,sepL [s.A,A2],p4,s.n+Q2.length,c4⟩ (gsP.step ⟨hg1,hg2,hg3,hg4⟩ hb hx hik hk hs (by rw [hper];exact hpn) hA2 hQ2 (by rw [hper];exact hlay) (by rw [hper];exact hQl) hp4) ((Sa:Sub _ (blk g [.slice p4 (s.n+Q2.length) c4] 22::fqR p4 (s.n+Q2.length) c4 (s.Q++Q2)::sepL [s.A,A2]::blk gm [.slice pm m cm] tm::(S++F))) h H))⟩
theorem Qe.except (B:Wn) (S:List Wp) (a:Option Addr) (m c:Nat) (Q:List Fq) (h:FctV B S (.slice a m c) Q) (hm:Q.length=m) (hb:m<2^36) (a2:Option Addr) (m2 c2:Nat) (R:List Fq) (h2:FctV B S (.slice a2 m2 c2) R) (hm2:R.length=m2) (hb2:m2<2^36):Fn Tryz.prog B 9 #[.slice a m c,.slice a2 m2 c2] S (NormPost B S (λ r t=>cnt (Q.map Fq.fz) r t-cnt (R.map Fq.fz) r t) (m+m2)):=by
  refine Wr 16 Tryz.func9 rfl rfl (nB rfl) (λ F=>?_)
  refine Ts ?_
  refine TR ?_
  refine La rfl ?_
  refine Ld ?_
  refine Ts ?_
  refine TR ?_
  refine Lm rfl ?_
  refine Le (Ec (Qe.right B S a2 m2 c2 R h2 hm2) Tryz.func27 rfl rfl rfl ?_)
  rintro _ _ ⟨MQ,AM,pM,cM,rfl,hpM,hAM,hpermM,hordM,hMl,rfl⟩
  try simp only [cA,nA]
  refine Le (El [.slice none 0 0] (by unfold Zf;kernel_rfl) ?_)
  intro g5
  refine L0 (E1 rfl rfl rfl (by first | (simp;done) | (simp;omega)) ?_)
  try simp only [List.set_cons_zero,List.set_cons_succ]
  refine Ld ?_
  refine Ts ?_
  refine TR ?_
  refine Le (El [.slice none 0 0] (by unfold Zf;kernel_rfl) ?_)
  intro g6
  refine Ld ?_
  refine Ts ?_
  refine TR ?_
  refine Lm rfl ?_
  refine Le (Ec (Qe.right B S a m c Q h hm) Tryz.func27 rfl rfl rfl ?_)
  rintro _ _ ⟨Q2,A2,p2,c2',rfl,hp2,hA2,hperm,hord,hQ2l,rfl⟩
  try simp only [cA,nA]
  have hL:=right_ok hperm
  have hMo:=right_ok hpermM
  obtain ⟨L,hLe⟩ : ∃ L,L=Q2.map Fq.fz:=⟨_,rfl⟩
  have hLl:L.length=Q2.length:=by rw [hLe,List.length_map]
  rw [<-hLe] at hperm hord hL
  refine LW.conv (l':=blk g6 [.slice none 0 0] 22::blk g5 [.slice pM MQ.length cM] 22::fqR p2 Q2.length c2' Q2::A2::fqR pM MQ.length cM MQ::AM::(S++F)) (λ w ho=>ho.map Sa) ?_
  refine LW.conv (λ w ho=>gsA.zero (L:=L) (M:=MQ.map Fq.fz) ho) ?_
  have hfM:FctV B [fqR p2 Q2.length c2' Q2,A2,fqR pM MQ.length cM MQ,AM] (.slice pM MQ.length cM) MQ:=(FctV.own hAM rfl hpM).mono λ w ho=>ho.tl.tl
  have hfL:FctV B [fqR p2 Q2.length c2' Q2,A2,fqR pM MQ.length cM MQ,AM] (.slice p2 Q2.length c2') Q2:=(FctV.own hA2 rfl hp2).mono λ w ho=>ho.map Sa
  refine Lq (Y4 [_,_] rfl) ?_
  refine Le (Ec (Qe.group B [blk g5 [.slice pM MQ.length cM] 22,fqR p2 Q2.length c2' Q2,A2,fqR pM MQ.length cM MQ,AM] p2 Q2.length c2' Q2 (hfL.mono λ w ho=>ho.tl) rfl (by omega) (hLe ▸ hord) 29 _ Tryz.func29 rfl rfl [.pointer (some ⟨g5,0,none⟩),.pointer (some ⟨g6,0,none⟩)] (gsA B g6 L (MQ.map Fq.fz)) (λ i k x pp kc hik hk hx hbd hs hper hpn hpp=>Qe.except1 B _ g6 g5 _ pM MQ.length cM MQ hfM rfl hMo (by omega) L hL (by omega) i k x (hfL.r x (List.mem_of_getElem? hx)) (by rw [hLe,List.getElem?_map,hx];rfl) (hLe ▸ hbd) hik (by omega) (hLe ▸ hs) pp kc _ (hLe ▸ hper) hpn hpp)) Tryz.func28 rfl rfl rfl ?_)
  rintro _ _ ⟨rfl,rfl⟩
  try simp only [cA,nA]
  refine LW.ex (λ w ho=>gsA.open ho) λ s=>?_
  refine LW.own λ w ho=>?_
  obtain ⟨hg1,hg2,hg3,hg4⟩:=ho.pure
  refine LW.conv (λ w ho=>ho.unpure) ?_
  clear ho w
  have hsz:s.n<2^60:=by
    obtain ⟨R,G,_,_,_,_,h5⟩:=hg4
    have:=List.length_filter_le (λ f:Fz=>decide (f.row∈R)) (MQ.map Fq.fz)
    rw [List.length_map] at this
    simp only [List.length_map] at h5;omega
  refine Ld ?_
  refine Ts ?_
  refine TR ?_
  refine Lq (Ql rfl rfl) ?_
  refine Le (Ec (Qc.sortF B [s.A] s.p s.n s.c s.Q hg1 hsz hg3) Tryz.func33 rfl rfl rfl ?_)
  rintro _ _ ⟨rfl,Q3,hQ3,hord3,hA3,rfl⟩
  try simp only [cA,nA]
  have hnf:=GP.nf (hLl ▸ hg4) hL hMo (hQ3.map Fq.fz) hord3
  have h3n:Q3.length=s.n:=by rw [hQ3.length_eq,hg1]
  have hcf:(λ r t=>cnt L r t-cnt (MQ.map Fq.fz) r t)=(λ r t=>cnt (Q.map Fq.fz) r t-cnt (R.map Fq.fz) r t):=by
    funext r t
    rw [cnt_perm hperm,cnt_ok,cnt_perm hpermM,cnt_ok]
  rw [hcf] at hnf
  refine Ld ?_
  refine Ts ?_
  refine TR ?_
  refine Lq (Ql rfl rfl) ?_
  refine La rfl ?_
  refine Ld ?_
  rw [<-h3n] at hg2 ⊢
  refine T.ret ?_
  exact ⟨.inl rfl,_,_,res [_] rfl ⟨rvT rfl,trivial⟩,⟨Q3,s.A,s.p,s.c,rfl,hg2,hA3,hnf.1,by have:=hnf.2;simp only [List.length_map] at this;omega,rfl⟩,Sa⟩
end Go.Proofs.YtnnfjemaeefbiaaGreatDoor
