/- The texts RaD RaE RaI RaF RbA RbB RbC RbD RbE RaG RaH RpA RpB, one behind the other: what the law leans on. Conditions: as each theorem says. -/
import Derived.Test.YtnnfjemaeefbiaaGreatDoorZWpBase15
set_option linter.unusedSimpArgs false
set_option linter.unusedVariables false
set_option maxRecDepth 100000
set_option maxHeartbeats 16000000
namespace Go.Proofs.YtnnfjemaeefbiaaGreatDoor
open Go.RowKit
structure Pt where
  i:Nat
  f:Fz
  s:Value
  R:List Fq
abbrev pdF (f:Fz):Int×Int:=(f.fr,f.to)
def rstF (y:Int×Int) (f:Fz):List Fz:=(rstZ (pdF f) y).map λ z=>⟨f.row,z.1,z.2⟩
abbrev ptC (y:Int×Int) (p:Pt):List Value:=[iV p.i,iV (ovX (pdF p.f) y).1,iV (ovX (pdF p.f) y).2,p.s]
abbrev ptR (y:Int×Int) (p:Option Addr) (n c:Nat) (L:List Pt):Wp:=row (.slice p n c) 124 4 n (L.flatMap (ptC y))
abbrev hitP (y:Int×Int) (h:List Va->Bool) (f:Fz):Bool:=ovB (pdF f) y && h f.row
def hitN (y:Int×Int) (h:List Va->Bool) (L:List Fz) (k:Nat):List (Nat×Fz):=(List.range k).flatMap λ i=>match L[i]? with
  | some f=>if hitP y h f=true then [(i,f)] else []
  | none=>[]
theorem hit_snoc {y:Int×Int} {h:List Va->Bool} {L:List Fz} {k:Nat} {f:Fz} (e:L[k]? = some f):hitN y h L (k+1)=hitN y h L k++(if hitP y h f=true then [(k,f)] else []):=by
  unfold hitN
  rw [List.range_succ,List.flatMap_append,List.flatMap_singleton,e]
def PtsA (B:Wn) (A:Wp) (y:Int×Int) (L:List Pt):Prop := ∀ p∈L,FctV B [A] p.s p.R/\p.R.map Fq.fz=rstF y p.f
theorem PtsA.snoc {B:Wn} {A:Wp} {l:List Wp} {y:Int×Int} {L:List Pt} {p:Pt} (h:PtsA B A y L) (h2:FctV B l p.s p.R) (h3:p.R.map Fq.fz=rstF y p.f):PtsA B (sepL (A::l)) y (L++[p]):=λ q hq=>by
  rcases List.mem_append.1 hq with hq | hq
  . exact ⟨(h q hq).1.mono λ w ho=>ho.sepQ.map Sa,(h q hq).2⟩
  . rw [List.mem_singleton] at hq;subst hq;exact ⟨h2.mono λ w ho=>ho.sepQ.tl,h3⟩
def PrtPost (B:Wn) (S:List Wp) (y:Int×Int) (h:List Va->Bool) (L:List Fz) (u:Value) (l:List Wp):Prop := ∃ PL A p c,u = .slice p PL.length c/\(0<PL.length -> ∃ g,p=some ⟨g,0,none⟩)/\PtsA B A y PL/\PL.map (λ q=>(q.i,q.f))=hitN y h L L.length/\PL.length<=L.length/\l=ptR y p PL.length c PL::A::S
theorem Ra.elemP : ElemOk Tryz.prog 121 124 4 48 := .mk' (.agg #[iV 0,iV 0,iV 0,.slice none 0 0]) Tryz.underlying121 (by kernel_rfl) rfl (by omega)
theorem Ra.parts (B:Wn) (S:List Wp) (a:Option Addr) (m c:Nat) (Q:List Fq) (h:FctV B S (.slice a m c) Q) (hm:Q.length=m) (hb:m<2^36) (y:Int×Int) (pt:Option Addr) (n ct:Nat) (ts:List Tm) (css:List C7) (hf:FlV B S c7 (.slice pt n ct) css) (hts:TmsS B S ts css) (hn:ts.length=n) (hnb:n<2^32) (hok : ∀ t∈ts,TmOk t):Fn Tryz.prog B 43 #[.slice a m c,pdV y.1 y.2,.slice pt n ct] S (PrtPost B S y (λ r=>holdsL r ts) (Q.map Fq.fz)):=by
 refine Ws 68 Tryz.func43 rfl rfl (nB rfl) (λ F=>?_)
 refine Ts ?_
 refine TR ?_
 refine Le (zL [_,_] rfl rfl ?_)
 intro g4
 refine La rfl ?_
 refine Ld ?_
 refine Ts ?_
 refine TR ?_
 refine La rfl ?_
 refine Ld ?_
 refine Ts ?_
 refine Ts ?_
 refine TR ?_
 refine Lm rfl ?_
 refine Lq (yI (e:=35) (sz:=3) rfl) ?_
 refine Lm rfl ?_
 refine Ld ?_
 refine yH ?_
 refine T.conv (l':=ptR y none 0 0 []::pu True::_) (λ w ho=>(ho.row_nil 124 4).map λ _ H=>Has.swap (Has.close_pu trivial H)) ?_
 refine zG (λ mz fz lz => ∃ (f0:Fr) (i:Nat) (PL:List Pt) (A:Wp) (p:Option Addr) (n0 c0:Nat),(i<=m/\PL.map (λ q=>(q.i,q.f))=hitN y (λ r=>holdsL r ts) (Q.map Fq.fz) i/\PL.length=n0/\n0<=i/\PtsA B A y PL/\(0<n0 -> ∃ g,p=some ⟨g,0,none⟩))/\mz=m-i/\fz=(upd (upd (upd (upd (upd (upd f0 2 (.slice pt n ct)) 4 (.pointer (some ⟨g4,0,none⟩))) 7 (.slice p n0 c0)) 15 (.slice a m c)) 16 (iV m)) 17 (iV i))/\lz=ptR y p n0 c0 PL::A::blk g4 (pC y) 33::(S++F)) ?_ ?_
 . refine ⟨_,_,⟨_,0,[],pu True,none,0,0,⟨Nat.zero_le _,rfl,rfl,Nat.le_refl _,by intro x hx;simp at hx,λ z=>absurd z (by omega)⟩,rfl,(Za rfl (Za rfl (Za rfl (Za rfl (Za rfl (Za rfl rfl)))))),rfl⟩,Sa⟩
 rintro mz fz lz ⟨f0,i,PL,A,p,n0,c0,⟨hi,hPL,hPn,hni,hA,hp⟩,hmz,rfl,rfl⟩
 subst mz
 refine Ts ?_
 refine TR ?_
 refine Lq (yM rfl rfl) ?_
 refine Ld ?_
 refine Ts ?_
 refine yN rfl (λ hlt=>?_) (λ hlt=>?_)
 .
  obtain ⟨b,o,rfl,hr⟩:=h.l.at (sz:=3) (λ _=>rfl) (by omega)
  obtain ⟨x,hx⟩ : ∃ x,Q[i]? = some x:=⟨_,List.getElem?_eq_getElem (by omega)⟩
  have hx1:=hr i x hx
  have hxv:=h.r x (List.mem_of_getElem? hx)
  have hsn:=hit_snoc (y:=y) (h:=λ r=>holdsL r ts) (show (Q.map Fq.fz)[i]? = some x.fz by rw [List.getElem?_map,hx];rfl)
  obtain ⟨pa,ca,ex⟩:=hxv.form
  obtain ⟨xs,xr,xf,xt⟩:=x
  dsimp only [Fq.fz] at ex hsn
  subst ex
  refine Tk ?_
  refine Ts ?_
  refine yH ?_
  refine Ts ?_
  refine TR ?_
  refine Lm rfl ?_
  refine Lq (Qi _ (e:=35) (sz:=3) rfl rfl rfl) ?_
  refine Lq (Qt.loadAggW (fqC ⟨.slice pa xr.length ca,xr,xf,xt⟩) rfl (λ w ho=>hx1 w (ho.map Sa))) ?_
  refine Le (El [.slice none 0 0,.int .i64 0,.int .i64 0] (by unfold Zf;kernel_rfl) ?_)
  intro g9
  refine La rfl ?_
  refine L0 (Es [_,_,_] rfl rfl rfl rfl (by simp) ?_)
  try simp only [splice,lC,lN,dS,cA,tS,tZ,dZ,nA,aN]
  refine Ld ?_
  refine Ts ?_
  refine TR ?_
  refine Lq (Qf (off:=1) rfl) ?_
  refine Lq (QL [_,_] rfl ⟨rfl,rfl,trivial⟩) ?_
  refine Lq (QL [_,_] rfl ⟨rfl,rfl,trivial⟩) ?_
  refine Le (Ec (Ra.overlap B (xf,xt) y) Tryz.func40 rfl rfl rfl ?_)
  rintro _ _ ⟨rfl,rfl⟩
  try simp only [cA,nA]
  by_cases hov:ovB (xf,xt) y=true
  .
   have eR:ovR (xf,xt) y=ovX (xf,xt) y:=if_pos hov
   rw [hov,eR]
   refine Lm rfl ?_
   refine Lq (Qx rfl rfl) ?_
   refine Lq (Qx rfl rfl) ?_
   refine Le (El [.int .i64 0,.int .i64 0] (by unfold Zf;kernel_rfl) ?_)
   intro g10
   refine L0 (Es [_,_] rfl rfl rfl rfl (by simp) ?_)
   try simp only [splice,lC,lN,dS,cA,tS,tZ,dZ,nA,aN]
   refine La rfl ?_
   refine Ld ?_
   refine Ts ?_
   refine Ts ?_
   refine TR ?_
   refine Lm rfl ?_
   refine Lq (Y2 rfl) ?_
   refine Lm rfl ?_
   refine yT (t:=31) rfl rfl ?_
   refine Lq (Q0 rfl) ?_
   refine Lq (Ql rfl rfl) ?_
   refine Lm rfl ?_
   refine Le (Ec (Bd.holds B S xr pa xr.length ca hxv.2 rfl hxv.1 pt n ct ts css hf hts hn hnb hok) Tryz.func6 rfl rfl rfl ?_)
   rintro _ l9 ⟨rfl,hl9⟩
   rw [hl9]
   refine Lq (Y2 rfl) ?_
   refine Lq (Qp rfl rfl) ?_
   refine Ld ?_
   by_cases hh:holdsL xr ts=true
   .
    rw [if_pos (by simp [hitP,hov,hh])] at hsn
    rw [hh]
    refine yQ rfl ?_
    refine Tk ?_
    refine Ts ?_
    refine TR ?_
    refine Lm rfl ?_
    refine Lq (QL [_,_] rfl ⟨rfl,rfl,trivial⟩) ?_
    refine Lq (z8 [(0,1),(1,2),(3,1)] [.int .i64 0,.int .i64 0,.int .i64 0,.slice none 0 0] [_,_,_,_] [(0,_),(1,_)] (by unfold Zf;kernel_rfl) rfl rfl) ?_
    refine Le (El [.int .i64 0,.int .i64 0,.int .i64 0,.slice none 0 0] (by unfold Zf;kernel_rfl) ?_)
    intro g12
    refine L0 (Es [_,_,_,_] rfl rfl rfl rfl (by simp) ?_)
    try simp only [splice,lC,lN,dS,cA,tS,tZ,dZ,nA,aN]
    refine Ld ?_
    refine Ts ?_
    refine Ts ?_
    refine TR ?_
    refine Lq (Qf (off:=1) rfl) ?_
    refine Lq (QL [_,_] rfl ⟨rfl,rfl,trivial⟩) ?_
    refine Lq (QL [_,_] rfl ⟨rfl,rfl,trivial⟩) ?_
    refine Le (zK [_,_] (e:=33) (sz:=2) ⟨.agg #[.int .i64 0,.int .i64 0],by kernel_rfl,rfl⟩ rfl rfl rfl ?_)
    intro g44
    refine Le (Ec (Ra.minus B (xf,xt) y g44 hov) Tryz.func68 rfl rfl rfl ?_)
    rintro _ _ ⟨pm,cm,rfl,hpm,rfl⟩
    try simp only [cA,nA]
    refine Lq (yI (e:=33) (sz:=2) rfl) ?_
    refine Lm rfl ?_
    refine Ld ?_
    refine yH ?_
    have hrl:=rst_len (xf,xt) y
    obtain ⟨Z,hZ⟩ : ∃ Z,Z=rstZ (xf,xt) y:=⟨_,rfl⟩
    rw [<-hZ] at hpm hrl ⊢
    refine T.conv (l':=fqR none 0 0 []::pu True::_) (λ w ho=>(ho.row_nil 35 3).map λ _ H=>Has.swap (Has.close_pu trivial H)) ?_
    refine zG (λ mz fz lz => ∃ (f0:Fr) (j:Nat) (R:List Fq) (AR:Wp) (pr:Option Addr) (nr cr:Nat),(j<=Z.length/\R.map Fq.fz=(Z.take j).map (λ z=>(⟨xr,z.1,z.2⟩:Fz))/\R.length=nr/\nr=j/\FqsA B AR R/\(0<nr -> ∃ g,pr=some ⟨g,0,none⟩))/\mz=Z.length-j/\fz=(upd (upd (upd (upd (upd (upd (upd (upd (upd (upd (upd f0 2 (.slice pt n ct)) 4 (.pointer (some ⟨g4,0,none⟩))) 7 (.slice p n0 c0)) 9 (.pointer (some ⟨g9,0,none⟩))) 12 (.pointer (some ⟨g12,0,none⟩))) 15 (.slice (some ⟨b,o,none⟩) m c)) 16 (iV m)) 17 (iV i)) 45 (.slice pm Z.length cm)) 46 (iV Z.length)) 47 (iV j))/\lz=fqR pr nr cr R::AR::blk g12 [iV i,iV (ovX (xf,xt) y).1,iV (ovX (xf,xt) y).2,.slice pr nr cr] 124::pdR pm Z.length cm Z::blk g9 (fqC ⟨.slice pa xr.length ca,xr,xf,xt⟩) 35::ptR y p n0 c0 PL::A::blk g4 (pC y) 33::(S++F)) ?_ ?_
    . refine ⟨_,_,⟨_,0,[],pu True,none,0,0,⟨Nat.zero_le _,rfl,rfl,rfl,by intro x hx;simp at hx,λ z=>absurd z (by omega)⟩,rfl,(Za rfl (Za rfl (Za rfl (Za rfl (Za rfl (Za rfl (Za rfl (Za rfl (Za rfl (Za rfl (Za rfl rfl))))))))))),rfl⟩,Sa⟩
    rintro mz fz lz ⟨f0,j,R,AR,pr,nr,cr,⟨hj,hR,hRn,hnj,hAR,hpr⟩,hmz,rfl,rfl⟩
    subst mz
    refine Ts ?_
    refine TR ?_
    refine Lq (yM rfl rfl) ?_
    refine Ld ?_
    refine Ts ?_
    refine yN rfl (λ hlj=>?_) (λ hlj=>?_)
    .
     obtain ⟨gm,rfl⟩:=hpm (by omega)
     obtain ⟨z,hz⟩ : ∃ z,Z[j]? = some z:=⟨_,List.getElem?_eq_getElem (by omega)⟩
     have hzn:Z.take (j+1)=Z.take j++[z]:=by rw [List.take_add_one,hz];rfl
     refine Tk ?_
     refine Ts ?_
     refine yH ?_
     refine Ts ?_
     refine TR ?_
     refine Lq (Qi j (e:=33) (sz:=2) rfl rfl rfl) ?_
     refine Lq (QL (pC z) rfl ⟨by rw [Nat.zero_add];exact (pC_at hz).1,by rw [Nat.zero_add];exact (pC_at hz).2,trivial⟩) ?_
     refine Le (El [.int .i64 0,.int .i64 0] (by unfold Zf;kernel_rfl) ?_)
     intro g14
     refine L0 (Es [_,_] rfl rfl rfl rfl (by simp) ?_)
     try simp only [splice,lC,lN,dS,cA,tS,tZ,dZ,nA,aN]
     refine Ld ?_
     refine T.draw 9 ([blk g12 [iV i,iV (ovX (xf,xt) y).1,iV (ovX (xf,xt) y).2,.slice pr nr cr] 124,blk g9 (fqC ⟨.slice pa xr.length ca,xr,xf,xt⟩) 35,blk g14 (pC z) 33]) (nB rfl) ?_
     refine Rq 0 rfl Sa (Qf (off:=3) rfl) ?_
     refine Rq 1 rfl Sa (Ql rfl rfl) ?_
     refine Rq 2 rfl Sa (Q0 rfl) ?_
     refine Rq 3 rfl Sa (Ql rfl rfl) ?_
     refine Rq 5 rfl Sa (QL [_,_] rfl ⟨rfl,rfl,trivial⟩) ?_
     refine yK 4 ?_
     refine z6 rfl (Ec (Ra.copied B S pa xr.length ca xr hxv.2 rfl hxv.1) Tryz.func42 rfl rfl rfl ?_)
     rintro _ _ ⟨pq,cq,rfl,hpq,rfl⟩
     try simp only [cA,nA]
     refine ⟨Sa,?_⟩
     refine Rq 6 rfl Sa (z8 [(0,1),(1,2)] [.slice none 0 0,.int .i64 0,.int .i64 0] [_,_,_] [(0,_),(1,_)] (by unfold Zf;kernel_rfl) rfl rfl) ?_
     refine yK 7 ?_
     refine z6 rfl (zK [_,_,_] (e:=35) (sz:=3) ⟨.agg #[.slice none 0 0,.int .i64 0,.int .i64 0],by kernel_rfl,rfl⟩ rfl rfl rfl ?_)
     intro g58
     refine ⟨Sa,?_⟩
     refine yK 8 ?_
     refine zY rfl (Ea Qe.elemF rfl rfl (SrcOf.blk (by kernel_rfl) rfl (by simp [Value.oneCell'])) (by unfold maxLen;omega) ?_)
     rintro p4 c4 hp4
     try simp only [cA,nA]
     have hfx:FqV B [vaR pq xr.length cq xr] ⟨.slice pq xr.length cq,xr,z.1,z.2⟩:=⟨hxv.1,FlV.row (l:=[]) (sz:=3) (λ _=>rfl) (by omega) rfl hpq⟩
     have hsn2:=hAR.snoc hfx
     rw [show R.flatMap fqC++[.slice pq xr.length cq,iV z.1,iV z.2]=(R++[(⟨.slice pq xr.length cq,xr,z.1,z.2⟩:Fq)]).flatMap fqC by simp]
     refine Rd0 (by rfl) ?_
     simp only [dS,dZ,dN]
     refine Lq (Qf (off:=3) rfl) ?_
     refine L0 (E1 rfl rfl rfl (by first | (simp;done) | (simp;omega)) ?_)
     try simp only [List.set_cons_zero,List.set_cons_succ]
     refine Ld ?_
     refine TR ?_
     refine Lq (Qd rfl rfl (Ze)) ?_
     refine Lm rfl ?_
     refine Ld ?_
     refine ⟨_,?_,_,⟨_,j+1,R++[⟨.slice pq xr.length cq,xr,z.1,z.2⟩],sepL [AR,vaR pq xr.length cq xr],p4,nr+1,c4,⟨by omega,by rw [hzn,List.map_append,List.map_append,hR];rfl,by simp [hRn],by omega,hsn2,hp4⟩,rfl,(Za rfl (Za rfl (Za rfl (Za rfl (Za rfl (Za rfl (Za rfl (Za rfl (Za rfl (Za rfl (Za rfl rfl))))))))))),rfl⟩,Sa⟩
     omega
    have ez:Z.take j=Z:=List.take_of_length_le (by omega)
    rw [ez] at hR
    subst hRn
    have hFR:FctV B [fqR pr R.length cr R,AR] (.slice pr R.length cr) R:=FctV.own hAR rfl hpr
    have hsn3:=hA.snoc (p:=⟨i,⟨xr,xf,xt⟩,.slice pr R.length cr,R⟩) hFR (by rw [hR,hZ];rfl)
    refine zB ?_
    refine TR ?_
    refine Lm rfl ?_
    refine Lq (QL [_,_,_,_] rfl ⟨rfl,rfl,rfl,rfl,trivial⟩) ?_
    refine Le (zK [_,_,_,_] (e:=124) (sz:=4) ⟨.agg #[.int .i64 0,.int .i64 0,.int .i64 0,.slice none 0 0],by kernel_rfl,rfl⟩ rfl rfl rfl ?_)
    intro g64
    refine Le (Ea Ra.elemP rfl rfl (SrcOf.blk (by kernel_rfl) rfl (by simp [Value.oneCell'])) (by unfold maxLen;omega) ?_)
    rintro p5 c5 hp5
    rw [show PL.flatMap (ptC y)++[iV i,iV (ovX (xf,xt) y).1,iV (ovX (xf,xt) y).2,.slice pr R.length cr]=(PL++[(⟨i,⟨xr,xf,xt⟩,.slice pr R.length cr,R⟩:Pt)]).flatMap (ptC y) by simp]
    refine La rfl ?_
    refine Ld ?_
    refine TR ?_
    refine Lq (Qd rfl rfl (Ze)) ?_
    refine Lm rfl ?_
    refine Ld ?_
    refine ⟨_,?_,_,⟨_,i+1,PL++[⟨i,⟨xr,xf,xt⟩,.slice pr R.length cr,R⟩],sepL [A,fqR pr R.length cr R,AR],p5,n0+1,c5,⟨by omega,by rw [hsn,List.map_append,hPL];rfl,by simp [hPn],by omega,hsn3,hp5⟩,rfl,(Za rfl (Za rfl (Za rfl (Za rfl (Za rfl (Za rfl rfl)))))),rfl⟩,Sa⟩
    omega
   have hh:holdsL xr ts=false:=by simpa using hh
   rw [if_neg (by simp [hitP,hh]),List.append_nil] at hsn
   rw [hh]
   refine zF rfl ?_
   refine zB ?_
   refine TR ?_
   refine Lq (Qd rfl rfl (Ze)) ?_
   refine Lm rfl ?_
   refine Ld ?_
   refine ⟨_,?_,_,⟨_,i+1,PL,A,p,n0,c0,⟨by omega,by rw [hsn];exact hPL,hPn,by omega,hA,hp⟩,rfl,(Za rfl (Za rfl (Za rfl (Za rfl (Za rfl (Za rfl rfl)))))),rfl⟩,Sa⟩
   omega
  have hov:ovB (xf,xt) y=false:=by simpa using hov
  rw [if_neg (by simp [hitP,hov]),List.append_nil] at hsn
  rw [hov]
  refine Lm rfl ?_
  refine Lq (Qx rfl rfl) ?_
  refine Lq (Qx rfl rfl) ?_
  refine Le (El [.int .i64 0,.int .i64 0] (by unfold Zf;kernel_rfl) ?_)
  intro g10
  refine L0 (Es [_,_] rfl rfl rfl rfl (by simp) ?_)
  try simp only [splice,lC,lN,dS,cA,tS,tZ,dZ,nA,aN]
  refine La rfl ?_
  refine Ld ?_
  refine Ts ?_
  refine Ts ?_
  refine TR ?_
  refine Lm rfl ?_
  refine Lq (Y2 rfl) ?_
  refine Lm rfl ?_
  refine zQ (t:=31) rfl rfl ?_
  refine Ls rfl ?_
  refine Ls rfl ?_
  refine Ls rfl ?_
  refine Ls rfl ?_
  refine Ls rfl ?_
  refine Lq (Qp rfl rfl) ?_
  refine Ld ?_
  refine zF rfl ?_
  refine zB ?_
  refine TR ?_
  refine Lq (Qd rfl rfl (Ze)) ?_
  refine Lm rfl ?_
  refine Ld ?_
  refine ⟨_,?_,_,⟨_,i+1,PL,A,p,n0,c0,⟨by omega,by rw [hsn];exact hPL,hPn,by omega,hA,hp⟩,rfl,(Za rfl (Za rfl (Za rfl (Za rfl (Za rfl (Za rfl rfl)))))),rfl⟩,Sa⟩
  omega
 have ez:Q.length<=i:=by omega
 subst hPn
 obtain rfl:i=(Q.map Fq.fz).length:=by rw [List.length_map];omega
 refine zB ?_
 refine Ts ?_
 refine TR ?_
 refine Lm rfl ?_
 refine La rfl ?_
 refine Ld ?_
 refine T.ret ?_
 exact ⟨.inl rfl,_,_,res [_] rfl ⟨rvT rfl,trivial⟩,⟨PL,A,p,c0,rfl,hp,hA,hPL,by omega,rfl⟩,Sa⟩
open Go.RowKit
abbrev niR (p:Option Addr) (n c:Nat) (L:List Nat):Wp:=row (.slice p n c) 3 1 n (L.map λ (i:Nat)=>iV i)
theorem Ra.elemN : ElemOk Tryz.prog 54 3 1 8 := .mk' (iV 0) Tryz.underlying54 (by kernel_rfl) rfl (by omega)
def allR (L:List Pt):List Fq:=L.flatMap (·.R)
theorem allR_snoc {L:List Pt} {j:Nat} {x:Pt} (h:L[j]? = some x):allR (L.take (j+1))=allR (L.take j)++x.R:=by
  unfold allR
  rw [List.take_add_one,h,List.flatMap_append]
  simp
theorem PtsA.len {B:Wn} {A:Wp} {y:Int×Int} {L:List Pt} (h:PtsA B A y L) : ∀ p∈L,p.R.length<=2:=λ p hp=>by
  have:=congrArg List.length (h p hp).2
  rw [List.length_map] at this
  rw [this]
  unfold rstF
  rw [List.length_map]
  exact rst_len _ _
theorem allR_len : ∀ {L:List Pt},(∀ p∈L,p.R.length<=2)->(allR L).length<=2*L.length
  | [],_=>by simp [allR]
  | a::L,h=>by
    have h1:=allR_len (L:=L) λ p hp=>h p (by simp [hp])
    have h2:=h a (by simp)
    unfold allR at h1 ⊢
    rw [List.flatMap_cons,List.length_append,List.length_cons]
    omega
theorem PtsA.facts {B:Wn} {A:Wp} {y:Int×Int} {L:List Pt} (h:PtsA B A y L):FqsA B A (allR L):=λ x hx=>by
  obtain ⟨p,hp,hx⟩:=List.mem_flatMap.1 hx
  exact (h p hp).1.r x hx
theorem ptC_at {y:Int×Int} {L:List Pt} {j:Nat} {x:Pt} (h:L[j]? = some x):rdl (L.flatMap (ptC y)) (0+j*4) (ptC y x):=by
  have key : ∀ k u,(ptC y x)[k]? = some u->(L.flatMap (ptC y))[0+j*4+k]? = some u:=λ k u hu=>by
    rw [Nat.zero_add]
    exact flat_part (g:=ptC y) (sz:=4) (λ _=>rfl) h k _ hu
  exact ⟨key 0 _ rfl,key 1 _ rfl,key 2 _ rfl,key 3 _ rfl,trivial⟩
def ChgPost (B:Wn) (S:List Wp) (E:List Nat) (Z:List Fz) (u:Value) (l:List Wp):Prop := ∃ Q A pe ce pa ca,u = .agg #[.slice pe E.length ce,.slice pa Q.length ca]/\(0<E.length -> ∃ g,pe=some ⟨g,0,none⟩)/\(0<Q.length -> ∃ g,pa=some ⟨g,0,none⟩)/\FqsA B A Q/\Q.map Fq.fz=Z/\l=niR pe E.length ce E::fqR pa Q.length ca Q::A::S
def delZ (y:Int×Int) (H:List (Nat×Fz)):List Fz:=H.flatMap λ q=>rstF y q.2
theorem allR_fz {B:Wn} {A:Wp} {y:Int×Int} : ∀ {L:List Pt},PtsA B A y L->(allR L).map Fq.fz=delZ y (L.map λ q=>(q.i,q.f))
  | [],_=>rfl
  | a::L,h=>by
    have h1:=allR_fz (L:=L) λ p hp=>h p (by simp [hp])
    unfold allR delZ at h1 ⊢
    rw [List.flatMap_cons,List.map_append,List.map_cons,List.flatMap_cons,h1,(h a (by simp)).2]
theorem Ra.delete (B:Wn) (S:List Wp) (a:Option Addr) (m c:Nat) (Q:List Fq) (h:FctV B S (.slice a m c) Q) (hm:Q.length=m) (hb:m<2^36) (y:Int×Int) (pt:Option Addr) (n ct:Nat) (ts:List Tm) (css:List C7) (hf:FlV B S c7 (.slice pt n ct) css) (hts:TmsS B S ts css) (hn:ts.length=n) (hnb:n<2^32) (hok : ∀ t∈ts,TmOk t):Fn Tryz.prog B 17 #[.slice a m c,pdV y.1 y.2,.slice pt n ct] S (λ u l => ∃ E H,H=hitN y (λ r=>holdsL r ts) (Q.map Fq.fz) Q.length/\E=H.map (·.1)/\ChgPost B S E (delZ y H) u l):=by
 refine Ws 34 Tryz.func17 rfl rfl (nB rfl) (λ F=>?_)
 refine Ts ?_
 refine TR ?_
 refine Le (zL [_,_] rfl rfl ?_)
 intro g4
 refine Le (El [.slice none 0 0,.slice none 0 0] (by unfold Zf;kernel_rfl) ?_)
 intro g6
 refine Ld ?_
 refine Ts ?_
 refine TR ?_
 refine Le (El [.slice none 0 0,.slice none 0 0] (by unfold Zf;kernel_rfl) ?_)
 intro g7
 refine Ld ?_
 refine Ts ?_
 refine Ts ?_
 refine TR ?_
 refine Lm rfl ?_
 refine Lq (QL [_,_] rfl ⟨rfl,rfl,trivial⟩) ?_
 refine Lm rfl ?_
 refine Le (Ec (Ra.parts B S a m c Q h hm hb y pt n ct ts css hf hts hn hnb hok) Tryz.func43 rfl rfl rfl ?_)
 rintro _ _ ⟨PL,A,p1,c1,rfl,hp1,hA,hPL,hPn,rfl⟩
 try simp only [cA,nA]
 rw [List.length_map] at hPL hPn
 obtain ⟨k,hk⟩ : ∃ k,k=PL.length:=⟨_,rfl⟩
 rw [<-hk] at hp1 ⊢
 refine Lq (yI (e:=124) (sz:=4) rfl) ?_
 refine Lm rfl ?_
 refine Ld ?_
 refine yH ?_
 refine T.conv (l':=fqR none 0 0 (allR (PL.take 0))::niR none 0 0 ((PL.take 0).map (·.i))::_) (λ w ho=>(ho.row_nil 3 1).row_nil 35 3) ?_
 refine zG (λ mz fz lz => ∃ (f0:Fr) (i:Nat) (pe:Option Addr) (ce:Nat) (pa:Option Addr) (na ca:Nat),(i<=k/\(0<i -> ∃ g,pe=some ⟨g,0,none⟩)/\(allR (PL.take i)).length=na/\(0<na -> ∃ g,pa=some ⟨g,0,none⟩))/\mz=k-i/\fz=(upd (upd (upd (upd (upd f0 6 (.pointer (some ⟨g6,0,none⟩))) 7 (.pointer (some ⟨g7,0,none⟩))) 13 (.slice p1 k c1)) 14 (iV k)) 15 (iV i))/\lz=fqR pa na ca (allR (PL.take i))::niR pe i ce ((PL.take i).map (·.i))::ptR y p1 k c1 PL::A::(S++blk g7 [.slice pe i ce,.slice pa na ca] 56::blk g6 [.slice none 0 0,.slice none 0 0] 56::blk g4 (pC y) 33::F)) ?_ ?_
 . refine ⟨_,_,⟨_,0,none,0,none,0,0,⟨Nat.zero_le _,λ z=>absurd z (by omega),rfl,λ z=>absurd z (by omega)⟩,rfl,(Za rfl (Za rfl (Za rfl (Za rfl (Za rfl rfl))))),rfl⟩,Sa⟩
 rintro mz fz lz ⟨f0,i,pe,ce,pa,na,ca,⟨hi,hpe,hna,hpa⟩,hmz,rfl,rfl⟩
 subst mz
 refine Ts ?_
 refine TR ?_
 refine Lq (yM rfl rfl) ?_
 refine Ld ?_
 refine Ts ?_
 refine yN rfl (λ hlt=>?_) (λ hlt=>?_)
 .
  obtain ⟨g1,rfl⟩:=hp1 (by omega)
  obtain ⟨x,hx⟩ : ∃ x,PL[i]? = some x:=⟨_,List.getElem?_eq_getElem (by omega)⟩
  have hxm:=List.mem_of_getElem? hx
  have hR:=(hA x hxm).1
  have hR2:=hA.len x hxm
  have hsn:=allR_snoc hx
  have hin:(PL.take (i+1)).map (·.i)=(PL.take i).map (·.i)++[x.i]:=by rw [List.take_add_one,hx,List.map_append];rfl
  have hal:=allR_len (L:=PL.take i) λ p hp=>hA.len p (List.mem_of_mem_take hp)
  rw [List.length_take] at hal
  obtain ⟨xa,xc,ex⟩:=hR.l.form rfl
  obtain ⟨xi,xz,xs,xR⟩:=x
  dsimp only at ex hR hR2 hsn hin
  subst ex
  refine Tk ?_
  refine Ts ?_
  refine yH ?_
  refine Ts ?_
  refine TR ?_
  refine Lq (Qi i (e:=124) (sz:=4) rfl rfl rfl) ?_
  refine Lq (QL (ptC y ⟨xi,xz,.slice xa xR.length xc,xR⟩) rfl (ptC_at hx)) ?_
  refine Le (El [.int .i64 0,.int .i64 0,.int .i64 0,.slice none 0 0] (by unfold Zf;kernel_rfl) ?_)
  intro g9
  refine L0 (Es [_,_,_,_] rfl rfl rfl rfl (by simp) ?_)
  try simp only [splice,lC,lN,dS,cA,tS,tZ,dZ,nA,aN]
  refine Ld ?_
  refine Ts ?_
  refine TR ?_
  refine Lq (Q0 rfl) ?_
  refine Lq (Ql rfl rfl) ?_
  refine Lq (Q0 rfl) ?_
  refine Lq (Ql rfl rfl) ?_
  refine Le (zK [_] (e:=3) (sz:=1) ⟨.int .i64 0,by kernel_rfl,rfl⟩ rfl rfl rfl ?_)
  intro g23
  refine Le (Ea Ra.elemN rfl rfl (SrcOf.blk (by kernel_rfl) rfl (by simp [Value.oneCell'])) (by unfold maxLen;omega) ?_)
  rintro p4 c4 hp4
  rw [show ((PL.take i).map (·.i)).map (λ (i:Nat)=>iV i)++[iV xi]=((PL.take (i+1)).map (·.i)).map (λ (i:Nat)=>iV i) by rw [hin,List.map_append];rfl]
  refine Lq (Q0 rfl) ?_
  refine L0 (E1 rfl rfl rfl (by first | (simp;done) | (simp;omega)) ?_)
  try simp only [List.set_cons_zero,List.set_cons_succ]
  refine Ld ?_
  refine TR ?_
  refine Lq (Qf (off:=1) rfl) ?_
  refine Lq (Ql rfl rfl) ?_
  refine Lq (Qf (off:=3) rfl) ?_
  refine Lq (Ql rfl rfl) ?_
  refine Le (Ea Qe.elemF rfl rfl (SrcOf.fq (m:=xR.length) (hR.l.mono λ w ho=>ho.map Sa) (λ _=>rfl) rfl (fqC_one hR.r)) (by unfold maxLen;omega) ?_)
  rintro p5 c5 hp5
  rw [<-List.flatMap_append,<-hsn]
  refine Lq (Qf (off:=1) rfl) ?_
  refine L0 (E1 rfl rfl rfl (by first | (simp;done) | (simp;omega)) ?_)
  try simp only [List.set_cons_zero,List.set_cons_succ]
  refine Ld ?_
  refine TR ?_
  refine Lq (Qd rfl rfl (Ze)) ?_
  refine Lm rfl ?_
  refine Ld ?_
  refine ⟨_,?_,_,⟨_,i+1,p4,c4,p5,na+xR.length,c5,⟨by omega,hp4,by rw [hsn,List.length_append,hna],hp5⟩,rfl,(Za rfl (Za rfl (Za rfl (Za rfl (Za rfl rfl))))),rfl⟩,Sa⟩
  omega
 obtain rfl:i=k:=by omega
 have ez:PL.take i=PL:=List.take_of_length_le (by omega)
 rw [ez] at hna ⊢
 subst hna
 obtain ⟨E,hE⟩ : ∃ E,E=PL.map (·.i):=⟨_,rfl⟩
 rw [<-hE]
 obtain rfl:E.length=i:=by rw [hE,List.length_map];exact hk.symm
 refine zB ?_
 refine Ts ?_
 refine TR ?_
 refine Lq (QL [_,_] rfl ⟨rfl,rfl,trivial⟩) ?_
 refine L0 (Es [_,_] rfl rfl rfl rfl (by simp) ?_)
 try simp only [splice,lC,lN,dS,cA,tS,tZ,dZ,nA,aN]
 refine Ld ?_
 refine T.ret ?_
 exact ⟨.inl rfl,_,_,res [_] rfl ⟨rvA [_,_] rfl ⟨rfl,rfl,trivial⟩,trivial⟩,⟨E,_,rfl,by rw [hE,<-hPL,List.map_map];rfl,allR PL,A,pe,ce,pa,ca,rfl,hpe,hpa,hA.facts,by rw [allR_fz hA,hPL],rfl⟩,Sa⟩
open Go.RowKit
abbrev nC (i:Nat):List Value:=[iV i]
def bitZ (E:List Nat) (m k:Nat):List Bool:=(List.range m).map λ j=>decide (j∈E.take k)
abbrev bitR (p:Option Addr) (m c:Nat) (L:List Bool):Wp:=row (.slice p m c) 4 1 m (L.map Value.bool)
theorem made_bits (n:Nat) (E:List Nat):(madeCells (Value.bool false).cells (n*1)).toList=(bitZ E n 0).map Value.bool:=by
  have h:=made_replicate (.bool false) 1 (n*1) (by omega)
  rw [show (Value.bool false).cells=(List.replicate 1 (Value.bool false)).toArray from rfl,h]
  apply List.ext_getElem
  . simp [bitZ]
  . intro i h1 h2;simp [bitZ]
theorem bit_set {E:List Nat} {m k e:Nat} (h:E[k]? = some e):((bitZ E m k).map Value.bool).set e (.bool true)=(bitZ E m (k+1)).map Value.bool:=by
  have ht:E.take (k+1)=E.take k++[e]:=by rw [List.take_add_one,h];rfl
  apply List.ext_getElem
  . simp [bitZ]
  . intro i h1 h2
    rw [List.getElem_set]
    simp only [bitZ,List.getElem_map,List.getElem_range,ht,List.mem_append,List.mem_singleton]
    by_cases q:e=i
    . simp [q]
    . simp [q,Ne.symm q]
theorem bit_at {E:List Nat} {m k j:Nat} (h:j<m):((bitZ E m k).map Value.bool)[0+j*1]? = some (.bool (decide (j∈E.take k))):=by
  simp [bitZ,h]
def keepN (E:List Nat) (L:List Fz) (k:Nat):List Fz:=(List.range k).flatMap λ i=>match L[i]? with
  | some f=>if i∈E then [] else [f]
  | none=>[]
theorem keep_snoc {E:List Nat} {L:List Fz} {k:Nat} {f:Fz} (e:L[k]? = some f):keepN E L (k+1)=keepN E L k++(if k∈E then [] else [f]):=by
  unfold keepN
  rw [List.range_succ,List.flatMap_append,List.flatMap_singleton,e]
theorem nodup_new {E:List Nat} (h:E.Nodup) {k e:Nat} (hk:E[k]? = some e):e∉E.take k:=λ hm=>by
  obtain ⟨j,hj,he⟩:=List.getElem_of_mem hm
  rw [List.length_take] at hj
  rw [List.getElem_take] at he
  obtain ⟨hkl,hke⟩:=List.getElem?_eq_some_iff.1 hk
  exact (List.pairwise_iff_getElem.1 h) j k (by omega) hkl (by omega) (he.trans hke.symm)
theorem Ra.elemO : ElemOk Tryz.prog 119 4 1 1 := .mk' (.bool false) Tryz.underlying119 (by kernel_rfl) rfl (by omega)
def AppZ (B:Wn) (S:List Wp) (Z:List Fz) (mx:Nat) (u:Value) (l:List Wp):Prop := ∃ O A p e,u = .tuple #[.slice p O.length e,iV 0]/\(0<O.length -> ∃ g,p=some ⟨g,0,none⟩)/\FqsA B A O/\O.map Fq.fz=Z/\O.length<=mx/\l=fqR p O.length e O::A::S
theorem Ra.apply (B:Wn) (S:List Wp) (a:Option Addr) (m c:Nat) (Q:List Fq) (h:FctV B S (.slice a m c) Q) (hm:Q.length=m) (pe:Option Addr) (k ce:Nat) (E:List Nat) (hE:FlV B S nC (.slice pe k ce) E) (hEk:E.length=k) (pb:Option Addr) (z cb:Nat) (R:List Fq) (hR:FctV B S (.slice pb z cb) R) (hz:R.length=z) (hlt : ∀ e∈E,e<m) (hnd:E.Nodup) (hb:m<2^36:=by omega) (hkb:k<2^36:=by omega) (hzb:z<2^36:=by omega):Fn Tryz.prog B 16 #[.slice a m c,.agg #[.slice pe k ce,.slice pb z cb]] S (AppZ B S (keepN E (Q.map Fq.fz) m++R.map Fq.fz) (m+z)):=by
 refine Wr 82 Tryz.func16 rfl rfl (nB rfl) (λ F=>?_)
 refine Ts ?_
 refine TR ?_
 refine Le (zL [_,_] rfl rfl ?_)
 intro g3
 refine La rfl ?_
 refine La rfl ?_
 refine Ld ?_
 refine Ts ?_
 refine TR ?_
 refine Lm rfl ?_
 refine Lq (yI (e:=35) (sz:=3) rfl) ?_
 refine Le (YK m (.bool false) 1 Ra.elemO (by kernel_rfl) rfl rfl rfl rfl (by omega) (by unfold maxLen;omega) ?_)
 rintro gb
 rw [made_bits m E]
 refine La rfl ?_
 refine Ld ?_
 refine Ts ?_
 refine Ts ?_
 refine TR ?_
 refine Lq (Q0 rfl) ?_
 refine Lq (Ql rfl rfl) ?_
 refine Lq (yI (e:=3) (sz:=1) rfl) ?_
 refine Lm rfl ?_
 refine Ld ?_
 refine yH ?_
 refine zG (λ mz fz lz => ∃ (f0:Fr) (i:Nat),(i<=k)/\mz=k-i/\fz=(upd (upd (upd (upd (upd (upd f0 0 (.slice a m c)) 3 (.pointer (some ⟨g3,0,none⟩))) 6 (.slice (some ⟨gb,0,none⟩) m m)) 18 (.slice pe k ce)) 19 (iV k)) 20 (iV i))/\lz=bitR (some ⟨gb,0,none⟩) m m (bitZ E m i)::blk g3 [.slice pe k ce,.slice pb z cb] 56::(S++F)) ?_ ?_
 . refine ⟨_,_,⟨_,0,Nat.zero_le _,rfl,(Za rfl (Za rfl (Za rfl (Za rfl (Za rfl (Za rfl rfl)))))),rfl⟩,Sa⟩
 rintro mz fz lz ⟨f0,i,hi,hmz,rfl,rfl⟩
 subst mz
 refine Ts ?_
 refine TR ?_
 refine Lq (yM rfl rfl) ?_
 refine Ld ?_
 refine Ts ?_
 refine yN rfl (λ hlt2=>?_) (λ hlt2=>?_)
 .
  obtain ⟨b,o,rfl,hr⟩:=hE.at (sz:=1) (λ _=>rfl) (by omega)
  obtain ⟨e,he⟩ : ∃ e,E[i]? = some e:=⟨_,List.getElem?_eq_getElem (by omega)⟩
  have hem:=hlt e (List.mem_of_getElem? he)
  have hx1:=hr i e he
  have hno:=nodup_new hnd he
  refine Tk ?_
  refine Ts ?_
  refine yH ?_
  refine Ts ?_
  refine TR ?_
  refine Lq (Qi _ (e:=3) (sz:=1) rfl rfl rfl) ?_
  refine Lq (zN (v:=iV e) rfl (λ w ho=>hx1 w (ho.map Sa) 0 _ rfl)) ?_
  refine La rfl ?_
  refine Ld ?_
  refine Ts ?_
  refine yH ?_
  refine Ts ?_
  refine TR ?_
  refine Lm rfl ?_
  refine Lq (yM rfl rfl) ?_
  refine Lm rfl ?_
  refine yT (t:=27) rfl rfl ?_
  refine Lm rfl ?_
  refine Lm rfl ?_
  refine Lq (yI (e:=35) (sz:=3) rfl) ?_
  refine Lq (zX rfl rfl) ?_
  refine Lq (Qp rfl rfl) ?_
  refine La rfl ?_
  refine Ld ?_
  refine yL rfl ((by omega)) ?_
  refine Ts ?_
  refine TR ?_
  refine Lm rfl ?_
  refine Lm rfl ?_
  refine Lq (Qi e (e:=4) (sz:=1) rfl rfl rfl) ?_
  refine Lq (Ql (v := .bool false) rfl (by rw [bit_at hem,decide_eq_false hno])) ?_
  refine La rfl ?_
  refine Ld ?_
  refine yQ rfl ?_
  refine Tk ?_
  refine TR ?_
  refine Lm rfl ?_
  refine Lm rfl ?_
  refine Lq (Qi e (e:=4) (sz:=1) rfl rfl rfl) ?_
  refine L0 (E1 rfl rfl rfl (by simp [bitZ];omega) ?_)
  rw [show 0+e*1=e by omega,bit_set he]
  refine Ld ?_
  refine TR ?_
  refine Lq (Qd rfl rfl (Ze)) ?_
  refine Lm rfl ?_
  refine Ld ?_
  refine ⟨_,?_,_,⟨_,i+1,by omega,rfl,(Za rfl (Za rfl (Za rfl (Za rfl (Za rfl (Za rfl rfl)))))),rfl⟩,Sa⟩
  omega
 obtain rfl:i=k:=by omega
 have ek:E.take i=E:=List.take_of_length_le (by omega)
 refine T.conv (l':=fqR none 0 0 []::pu True::_) (λ w ho=>(ho.row_nil 35 3).map λ _ H=>Has.swap (Has.close_pu trivial H)) ?_
 refine zB ?_
 refine Ts ?_
 refine TR ?_
 refine La rfl ?_
 refine Ld ?_
 refine Ts ?_
 refine Ts ?_
 refine TR ?_
 refine Lm rfl ?_
 refine Lq (yI (e:=35) (sz:=3) rfl) ?_
 refine Lm rfl ?_
 refine Ld ?_
 refine yH ?_
 refine zG (λ mz fz lz => ∃ (f0:Fr) (j:Nat) (O:List Fq) (A:Wp) (p:Option Addr) (n0 c0:Nat),(j<=m/\O.map Fq.fz=keepN E (Q.map Fq.fz) j/\O.length=n0/\n0<=j/\FqsA B A O/\(0<n0 -> ∃ g,p=some ⟨g,0,none⟩))/\mz=m-j/\fz=(upd (upd (upd (upd (upd (upd f0 3 (.pointer (some ⟨g3,0,none⟩))) 6 (.slice (some ⟨gb,0,none⟩) m m)) 9 (.slice p n0 c0)) 42 (.slice a m c)) 43 (iV m)) 44 (iV j))/\lz=fqR p n0 c0 O::A::bitR (some ⟨gb,0,none⟩) m m (bitZ E m i)::blk g3 [.slice pe i ce,.slice pb z cb] 56::(S++F)) ?_ ?_
 . refine ⟨_,_,⟨_,0,[],pu True,none,0,0,⟨Nat.zero_le _,rfl,rfl,Nat.le_refl _,by intro x hx;simp at hx,λ z=>absurd z (by omega)⟩,rfl,(Za rfl (Za rfl (Za rfl (Za rfl (Za rfl (Za rfl rfl)))))),rfl⟩,Sa⟩
 rintro mz fz lz ⟨f0,j,O,A,p,n0,c0,⟨hj,hO,hOn,hnj,hA,hp⟩,hmz,rfl,rfl⟩
 subst mz
 refine Ts ?_
 refine TR ?_
 refine Lq (yM rfl rfl) ?_
 refine Ld ?_
 refine Ts ?_
 refine yN rfl (λ hlj=>?_) (λ hlj=>?_)
 .
  obtain ⟨b,o,rfl,hr⟩:=h.l.at (sz:=3) (λ _=>rfl) (by omega)
  obtain ⟨x,hx⟩ : ∃ x,Q[j]? = some x:=⟨_,List.getElem?_eq_getElem (by omega)⟩
  have hx1:=hr j x hx
  have hxv:=h.r x (List.mem_of_getElem? hx)
  have hsn:=keep_snoc (E:=E) (show (Q.map Fq.fz)[j]? = some x.fz by rw [List.getElem?_map,hx];rfl)
  obtain ⟨pa,ca,ex⟩:=hxv.form
  obtain ⟨xs,xr,xf,xt⟩:=x
  dsimp only [Fq.fz] at ex hsn
  subst ex
  by_cases hin:j∈E
  .
   rw [if_pos hin,List.append_nil] at hsn
   refine Tk ?_
   refine Ts ?_
   refine yH ?_
   refine Ts ?_
   refine TR ?_
   refine Lm rfl ?_
   refine Lq (Qi _ (e:=35) (sz:=3) rfl rfl rfl) ?_
   refine Lq (Qt.loadAggW (fqC ⟨.slice pa xr.length ca,xr,xf,xt⟩) rfl (λ w ho=>hx1 w (ho.map Sa))) ?_
   refine Le (El [.slice none 0 0,.int .i64 0,.int .i64 0] (by unfold Zf;kernel_rfl) ?_)
   intro g11
   refine La rfl ?_
   refine L0 (Es [_,_,_] rfl rfl rfl rfl (by simp) ?_)
   try simp only [splice,lC,lN,dS,cA,tS,tZ,dZ,nA,aN]
   refine Ld ?_
   refine Ts ?_
   refine TR ?_
   refine Lm rfl ?_
   refine Lm rfl ?_
   refine Lq (Qi j (e:=4) (sz:=1) rfl rfl rfl) ?_
   refine Lq (Ql (v := .bool (decide (j∈E))) rfl (by rw [bit_at (by omega),ek])) ?_
   refine Lq (YS rfl) ?_
   refine Ld ?_
   refine yL rfl ((by simp [hin])) ?_
   refine Tk ?_
   refine TR ?_
   refine Lq (Qd rfl rfl (Ze)) ?_
   refine Lm rfl ?_
   refine Ld ?_
   refine ⟨_,?_,_,⟨_,j+1,O,A,p,n0,c0,⟨by omega,by rw [hsn];exact hO,hOn,by omega,hA,hp⟩,rfl,(Za rfl (Za rfl (Za rfl (Za rfl (Za rfl (Za rfl rfl)))))),rfl⟩,Sa⟩
   omega
  rw [if_neg hin] at hsn
  refine Tk ?_
  refine Ts ?_
  refine yH ?_
  refine Ts ?_
  refine TR ?_
  refine Lm rfl ?_
  refine Lq (Qi _ (e:=35) (sz:=3) rfl rfl rfl) ?_
  refine Lq (Qt.loadAggW (fqC ⟨.slice pa xr.length ca,xr,xf,xt⟩) rfl (λ w ho=>hx1 w (ho.map Sa))) ?_
  refine Le (El [.slice none 0 0,.int .i64 0,.int .i64 0] (by unfold Zf;kernel_rfl) ?_)
  intro g11
  refine La rfl ?_
  refine L0 (Es [_,_,_] rfl rfl rfl rfl (by simp) ?_)
  try simp only [splice,lC,lN,dS,cA,tS,tZ,dZ,nA,aN]
  refine Ld ?_
  refine Ts ?_
  refine TR ?_
  refine Lm rfl ?_
  refine Lm rfl ?_
  refine Lq (Qi j (e:=4) (sz:=1) rfl rfl rfl) ?_
  refine Lq (Ql (v := .bool (decide (j∈E))) rfl (by rw [bit_at (by omega),ek])) ?_
  refine Lq (YS rfl) ?_
  refine Ld ?_
  refine zM rfl ((by simp [hin])) ?_
  refine T.draw 9 ([blk g11 (fqC ⟨.slice pa xr.length ca,xr,xf,xt⟩) 35]) (nB rfl) ?_
  refine Rq 0 rfl Sa (Qm rfl) ?_
  refine Rq 1 rfl Sa (Q0 rfl) ?_
  refine Rq 2 rfl Sa (Ql rfl rfl) ?_
  refine Rq 4 rfl Sa (Qf (off:=1) rfl) ?_
  refine Rq 5 rfl Sa (QL [_,_] rfl ⟨rfl,rfl,trivial⟩) ?_
  refine yK 3 ?_
  refine z6 rfl (Ec (Ra.copied B S pa xr.length ca xr hxv.2 rfl hxv.1) Tryz.func42 rfl rfl rfl ?_)
  rintro _ _ ⟨pq,cq,rfl,hpq,rfl⟩
  try simp only [cA,nA]
  refine ⟨Sa,?_⟩
  refine Rq 6 rfl Sa (z8 [(0,1),(1,2)] [.slice none 0 0,.int .i64 0,.int .i64 0] [_,_,_] [(0,_),(1,_)] (by unfold Zf;kernel_rfl) rfl rfl) ?_
  refine yK 7 ?_
  refine zY rfl (zK [_,_,_] (e:=35) (sz:=3) ⟨.agg #[.slice none 0 0,.int .i64 0,.int .i64 0],by kernel_rfl,rfl⟩ rfl rfl rfl ?_)
  intro g61
  refine yK 8 ?_
  refine zY rfl (Ea Qe.elemF rfl rfl (SrcOf.blk (by kernel_rfl) rfl (by simp [Value.oneCell'])) (by unfold maxLen;omega) ?_)
  rintro p4 c4 hp4
  try simp only [cA,nA]
  have hfx:FqV B [vaR pq xr.length cq xr] ⟨.slice pq xr.length cq,xr,xf,xt⟩:=⟨hxv.1,FlV.row (l:=[]) (sz:=3) (λ _=>rfl) (by omega) rfl hpq⟩
  have hsn2:=hA.snoc hfx
  rw [show O.flatMap fqC++[.slice pq xr.length cq,iV xf,iV xt]=(O++[(⟨.slice pq xr.length cq,xr,xf,xt⟩:Fq)]).flatMap fqC by simp]
  refine Rd0 (by rfl) ?_
  simp only [dS,dZ,dN]
  refine La rfl ?_
  refine Ld ?_
  refine TR ?_
  refine Lq (Qd rfl rfl (Ze)) ?_
  refine Lm rfl ?_
  refine Ld ?_
  refine ⟨_,?_,_,⟨_,j+1,O++[⟨.slice pq xr.length cq,xr,xf,xt⟩],sepL [A,vaR pq xr.length cq xr],p4,n0+1,c4,⟨by omega,by rw [hsn,List.map_append,hO];rfl,by simp [hOn],by omega,hsn2,hp4⟩,rfl,(Za rfl (Za rfl (Za rfl (Za rfl (Za rfl (Za rfl rfl)))))),rfl⟩,Sa⟩
  omega
 obtain rfl:j=m:=by omega
 refine zB ?_
 refine Ts ?_
 refine Ts ?_
 refine TR ?_
 refine Lq (Qf (off:=1) rfl) ?_
 refine Lq (Ql rfl rfl) ?_
 refine Lq (yI (e:=35) (sz:=3) rfl) ?_
 refine Lm rfl ?_
 refine Ld ?_
 refine yH ?_
 refine zG (λ mz fz lz => ∃ (f0:Fr) (q:Nat) (O:List Fq) (A:Wp) (p:Option Addr) (n0 c0:Nat),(q<=z/\O.map Fq.fz=keepN E (Q.map Fq.fz) j++(R.take q).map Fq.fz/\O.length=n0/\n0<=j+q/\FqsA B A O/\(0<n0 -> ∃ g,p=some ⟨g,0,none⟩))/\mz=z-q/\fz=(upd (upd (upd (upd f0 9 (.slice p n0 c0)) 65 (.slice pb z cb)) 66 (iV z)) 67 (iV q))/\lz=fqR p n0 c0 O::A::(S++F)) ?_ ?_
 . refine ⟨_,_,⟨_,0,O,A,p,n0,c0,⟨Nat.zero_le _,by rw [hO,List.take_zero,List.map_nil,List.append_nil],hOn,by omega,hA,hp⟩,rfl,(Za rfl (Za rfl (Za rfl (Za rfl rfl)))),rfl⟩,Sa⟩
 rintro mz fz lz ⟨f0,q,O,A,p,n0,c0,⟨hq,hO2,hOn2,hnq,hA2,hp2⟩,hmz,rfl,rfl⟩
 subst mz
 refine Ts ?_
 refine TR ?_
 refine Lq (yM rfl rfl) ?_
 refine Ld ?_
 refine Ts ?_
 refine yN rfl (λ hlq=>?_) (λ hlq=>?_)
 .
  obtain ⟨b,o,rfl,hr⟩:=hR.l.at (sz:=3) (λ _=>rfl) (by omega)
  obtain ⟨x,hx⟩ : ∃ x,R[q]? = some x:=⟨_,List.getElem?_eq_getElem (by omega)⟩
  have hx1:=hr q x hx
  have hxv:=hR.r x (List.mem_of_getElem? hx)
  have hsn:(R.take (q+1)).map Fq.fz=(R.take q).map Fq.fz++[x.fz]:=by rw [List.take_add_one,hx,List.map_append];rfl
  obtain ⟨pa,ca,ex⟩:=hxv.form
  obtain ⟨xs,xr,xf,xt⟩:=x
  dsimp only [Fq.fz] at ex hsn
  subst ex
  refine Tk ?_
  refine Ts ?_
  refine yH ?_
  refine Ts ?_
  refine TR ?_
  refine Lq (Qi _ (e:=35) (sz:=3) rfl rfl rfl) ?_
  refine Lq (Qt.loadAggW (fqC ⟨.slice pa xr.length ca,xr,xf,xt⟩) rfl (λ w ho=>hx1 w (ho.map Sa))) ?_
  refine Le (El [.slice none 0 0,.int .i64 0,.int .i64 0] (by unfold Zf;kernel_rfl) ?_)
  intro g13
  refine L0 (Es [_,_,_] rfl rfl rfl rfl (by simp) ?_)
  try simp only [splice,lC,lN,dS,cA,tS,tZ,dZ,nA,aN]
  refine Ld ?_
  refine T.draw 9 ([blk g13 (fqC ⟨.slice pa xr.length ca,xr,xf,xt⟩) 35]) (nB rfl) ?_
  refine Rq 0 rfl Sa (Qm rfl) ?_
  refine Rq 1 rfl Sa (Q0 rfl) ?_
  refine Rq 2 rfl Sa (Ql rfl rfl) ?_
  refine Rq 4 rfl Sa (Qf (off:=1) rfl) ?_
  refine Rq 5 rfl Sa (QL [_,_] rfl ⟨rfl,rfl,trivial⟩) ?_
  refine yK 3 ?_
  refine z6 rfl (Ec (Ra.copied B S pa xr.length ca xr hxv.2 rfl hxv.1) Tryz.func42 rfl rfl rfl ?_)
  rintro _ _ ⟨pq,cq,rfl,hpq,rfl⟩
  try simp only [cA,nA]
  refine ⟨Sa,?_⟩
  refine Rq 6 rfl Sa (z8 [(0,1),(1,2)] [.slice none 0 0,.int .i64 0,.int .i64 0] [_,_,_] [(0,_),(1,_)] (by unfold Zf;kernel_rfl) rfl rfl) ?_
  refine yK 7 ?_
  refine zY rfl (zK [_,_,_] (e:=35) (sz:=3) ⟨.agg #[.slice none 0 0,.int .i64 0,.int .i64 0],by kernel_rfl,rfl⟩ rfl rfl rfl ?_)
  intro g78
  refine yK 8 ?_
  refine zY rfl (Ea Qe.elemF rfl rfl (SrcOf.blk (by kernel_rfl) rfl (by simp [Value.oneCell'])) (by unfold maxLen;omega) ?_)
  rintro p4 c4 hp4
  try simp only [cA,nA]
  have hfx:FqV B [vaR pq xr.length cq xr] ⟨.slice pq xr.length cq,xr,xf,xt⟩:=⟨hxv.1,FlV.row (l:=[]) (sz:=3) (λ _=>rfl) (by omega) rfl hpq⟩
  have hsn2:=hA2.snoc hfx
  rw [show O.flatMap fqC++[.slice pq xr.length cq,iV xf,iV xt]=(O++[(⟨.slice pq xr.length cq,xr,xf,xt⟩:Fq)]).flatMap fqC by simp]
  refine Rd0 (by rfl) ?_
  simp only [dS,dZ,dN]
  refine La rfl ?_
  refine Ld ?_
  refine TR ?_
  refine Lq (Qd rfl rfl (Ze)) ?_
  refine Lm rfl ?_
  refine Ld ?_
  refine ⟨_,?_,_,⟨_,q+1,O++[⟨.slice pq xr.length cq,xr,xf,xt⟩],sepL [A,vaR pq xr.length cq xr],p4,n0+1,c4,⟨by omega,by rw [hsn,List.map_append,hO2,List.append_assoc];rfl,by simp [hOn2],by omega,hsn2,hp4⟩,rfl,(Za rfl (Za rfl (Za rfl (Za rfl rfl)))),rfl⟩,Sa⟩
  omega
 have ez:R.take q=R:=List.take_of_length_le (by omega)
 rw [ez] at hO2
 subst hOn2
 refine zB ?_
 refine Ts ?_
 refine TR ?_
 refine Lm rfl ?_
 refine La rfl ?_
 refine La rfl ?_
 refine Ld ?_
 refine T.ret ?_
 exact ⟨.inl rfl,_,_,res [_,_] rfl ⟨rvT rfl,rvT rfl,trivial⟩,⟨O,A,p,c0,rfl,hp2,hA2,hO2,by omega,rfl⟩,Sa⟩
open Go.RowKit
structure St where
  p:Nat
  t:Tm
  c:C7
abbrev stSC (s:St):List Value:=[iV s.p,s.c.op,s.c.kind,s.c.vkind,s.c.vint,s.c.vtext,s.c.place,s.c.args]
def setZ (row:List Va) (SL:List St):List Va:=SL.foldl (λ z s=>z.set s.p (evalR row s.t).1) row
theorem setZ_snoc {row:List Va} {SL:List St} {j:Nat} {s:St} (h:SL[j]? = some s):setZ row (SL.take (j+1))=(setZ row (SL.take j)).set s.p (evalR row s.t).1:=by
  unfold setZ
  rw [List.take_add_one,h,List.foldl_append]
  rfl
theorem setZ_len (row:List Va) (SL:List St):(setZ row SL).length=row.length:=by
  unfold setZ
  suffices h : ∀ (L:List St) (z:List Va),(L.foldl (λ z s=>z.set s.p (evalR row s.t).1) z).length=z.length from h SL row
  intro L
  induction L with
  | nil=>intro z;rfl
  | cons a L ih=>intro z;rw [List.foldl_cons,ih,List.length_set]
def FitS (row:List Va) (SL:List St):Prop := ∀ (k:Nat) (s:St),SL[k]? = some s->(evalR row s.t).2=0 /\ ∃ v,(setZ row (SL.take k))[s.p]? = some v/\(evalR row s.t).1.kind=v.kind
theorem hit_mem {y:Int×Int} {h:List Va->Bool} {L:List Fz} {k i:Nat} {f:Fz} (hm:(i,f)∈hitN y h L k):L[i]? = some f/\hitP y h f=true:=by
  unfold hitN at hm
  obtain ⟨j,_,hj⟩:=List.mem_flatMap.1 hm
  split at hj
  . rename_i g hg
    split at hj
    . simp at hj
      obtain ⟨rfl,rfl⟩:=hj
      exact ⟨hg,by assumption⟩
    . cases hj
  . cases hj
def updZ (y:Int×Int) (SL:List St) (H:List (Nat×Fz)):List Fz:=H.flatMap λ q=>rstF y q.2++[⟨setZ q.2.row SL,(ovX (pdF q.2) y).1,(ovX (pdF q.2) y).2⟩]
theorem upd_snoc {y:Int×Int} {SL:List St} {PL:List Pt} {i:Nat} {x:Pt} (h:PL[i]? = some x):updZ y SL ((PL.take (i+1)).map λ q=>(q.i,q.f))=updZ y SL ((PL.take i).map λ q=>(q.i,q.f))++(rstF y x.f++[⟨setZ x.f.row SL,(ovX (pdF x.f) y).1,(ovX (pdF x.f) y).2⟩]):=by
  unfold updZ
  rw [List.take_add_one,h,List.map_append,List.flatMap_append]
  simp
theorem vaC_set {z:List Va} {p:Nat} {v:Va} (h:p<z.length):splice (z.flatMap vaC) (0+p*3) (vaC v)=(z.set p v).flatMap vaC:=by
  have:=flat_splice (f:=vaC) (sz:=3) z (λ _ _=>rfl) p h 0 (vaC v) (by simp) v (by simp [splice])
  simpa using this
theorem upd_own {B:Wn} {A AW AN:Wp} {O R:List Fq} {x:Fq} (h : ∀ x∈O,FqV B [A,AW] x) (h2 : ∀ x∈R,FqV B [A] x) (h3:FqV B [AN] x) : ∀ z∈O++R++[x],FqV B [A,sepL [AW,AN]] z:=λ z hz=>by
  have key : ∀ w,Own B w [A,sepL [AW,AN]]->Own B w [A,AW,AN]:=λ w ho=>ho.map λ _ H=>Wt (λ _ H2=>by simpa using Has.open_sepL H2) H
  rcases List.mem_append.1 hz with hz | hz
  . rcases List.mem_append.1 hz with hz | hz
    . exact (h z hz).mono λ w ho=>(key w ho).map Sa
    . exact (h2 z hz).mono λ w ho=>(key w ho).map Sa
  . rw [List.mem_singleton] at hz;subst hz;exact h3.mono λ w ho=>(key w ho).map Sa
def UpdPost (B:Wn) (S:List Wp) (y:Int×Int) (SL:List St) (H:List (Nat×Fz)) (u:Value) (l:List Wp):Prop := ∃ E v,u = .tuple #[v,iV 0]/\E=H.map (·.1)/\ChgPost B S E (updZ y SL H) v l
theorem Ra.update (B:Wn) (S:List Wp) (a:Option Addr) (m c:Nat) (Q:List Fq) (h:FctV B S (.slice a m c) Q) (hm:Q.length=m) (hb:m<2^36) (y:Int×Int) (ps:Option Addr) (ns cs:Nat) (SL:List St) (hSL:FlV B S stSC (.slice ps ns cs) SL) (hSt : ∀ s∈SL,TmV B S s.t s.c/\TmOk s.t) (hns:SL.length=ns) (hnsb:ns<2^20) (pt:Option Addr) (n ct:Nat) (ts:List Tm) (css:List C7) (hf:FlV B S c7 (.slice pt n ct) css) (hts:TmsS B S ts css) (hn:ts.length=n) (hnb:n<2^32) (hok : ∀ t∈ts,TmOk t) (hfit : ∀ f∈Q.map Fq.fz,hitP y (λ r=>holdsL r ts) f=true->FitS f.row SL):Fn Tryz.prog B 18 #[.slice a m c,pdV y.1 y.2,.slice ps ns cs,.slice pt n ct] S (UpdPost B S y SL (hitN y (λ r=>holdsL r ts) (Q.map Fq.fz) Q.length)):=by
 refine Fn.enter4 107 Tryz.func18 rfl rfl (nB rfl) (λ F=>?_)
 refine Ts ?_
 refine TR ?_
 refine Le (zL [_,_] rfl rfl ?_)
 intro g5
 refine Le (El [.slice none 0 0,.slice none 0 0] (by unfold Zf;kernel_rfl) ?_)
 intro g8
 refine La rfl ?_
 refine Ld ?_
 refine Ts ?_
 refine TR ?_
 refine Le (El [.slice none 0 0,.slice none 0 0] (by unfold Zf;kernel_rfl) ?_)
 intro g10
 refine Ld ?_
 refine Ts ?_
 refine Ts ?_
 refine TR ?_
 refine Lm rfl ?_
 refine Lq (QL [_,_] rfl ⟨rfl,rfl,trivial⟩) ?_
 refine Lm rfl ?_
 refine Le (Ec (Ra.parts B S a m c Q h hm hb y pt n ct ts css hf hts hn hnb hok) Tryz.func43 rfl rfl rfl ?_)
 rintro _ _ ⟨PL,A,p1,c1,rfl,hp1,hA,hPL,hPn,rfl⟩
 try simp only [cA,nA]
 rw [List.length_map] at hPL hPn
 obtain ⟨k,hk⟩ : ∃ k,k=PL.length:=⟨_,rfl⟩
 rw [<-hk] at hp1 ⊢
 refine Lq (yI (e:=124) (sz:=4) rfl) ?_
 refine Lm rfl ?_
 refine Ld ?_
 refine yH ?_
 refine T.conv (l':=fqR none 0 0 []::pu True::niR none 0 0 ((PL.take 0).map (·.i))::_) (λ w ho=>((ho.row_nil 3 1).row_nil 35 3).map λ _ H=>Wt (λ _ H2=>Has.close_pu trivial H2) H) ?_
 refine zG (λ mz fz lz => ∃ (f0:Fr) (i:Nat) (O:List Fq) (AW:Wp) (pe:Option Addr) (ce:Nat) (pa:Option Addr) (na ca:Nat),(i<=k/\(0<i -> ∃ g,pe=some ⟨g,0,none⟩)/\O.map Fq.fz=updZ y SL ((PL.take i).map λ q=>(q.i,q.f))/\O.length=na/\na<=3*i/\(∀ x∈O,FqV B [A,AW] x)/\(0<na -> ∃ g,pa=some ⟨g,0,none⟩))/\mz=k-i/\fz=(upd (upd (upd (upd (upd (upd (upd f0 2 (.slice ps ns cs)) 8 (.pointer (some ⟨g8,0,none⟩))) 10 (.pointer (some ⟨g10,0,none⟩))) 0 (.slice a m c)) 21 (.slice p1 k c1)) 22 (iV k)) 23 (iV i))/\lz=fqR pa na ca O::AW::niR pe i ce ((PL.take i).map (·.i))::ptR y p1 k c1 PL::A::(S++blk g10 [.slice pe i ce,.slice pa na ca] 56::blk g8 [.slice none 0 0,.slice none 0 0] 56::blk g5 (pC y) 33::F)) ?_ ?_
 . refine ⟨_,_,⟨_,0,[],pu True,none,0,none,0,0,⟨Nat.zero_le _,λ z=>absurd z (by omega),rfl,rfl,Nat.le_refl _,by intro x hx;simp at hx,λ z=>absurd z (by omega)⟩,rfl,(Za rfl (Za rfl (Za rfl (Za rfl (Za rfl (Za rfl (Za rfl rfl))))))),rfl⟩,Sa⟩
 rintro mz fz lz ⟨f0,i,O,AW,pe,ce,pa,na,ca,⟨hi,hpe,hO,hOn,hnai,hOA,hpa⟩,hmz,rfl,rfl⟩
 subst mz
 refine Ts ?_
 refine TR ?_
 refine Lq (yM rfl rfl) ?_
 refine Ld ?_
 refine Ts ?_
 refine yN rfl (λ hlt=>?_) (λ hlt=>?_)
 .
  obtain ⟨g1,rfl⟩:=hp1 (by omega)
  obtain ⟨x,hx⟩ : ∃ x,PL[i]? = some x:=⟨_,List.getElem?_eq_getElem (by omega)⟩
  have hxm:=List.mem_of_getElem? hx
  have hR:=(hA x hxm).1
  have hRz:=(hA x hxm).2
  have hR2:=hA.len x hxm
  have hin:(PL.take (i+1)).map (·.i)=(PL.take i).map (·.i)++[x.i]:=by rw [List.take_add_one,hx,List.map_append];rfl
  have hsn:=upd_snoc (y:=y) (SL:=SL) hx
  obtain ⟨hq,hhit⟩:=hit_mem (hPL ▸ List.mem_map_of_mem (f:=λ q:Pt=>(q.i,q.f)) hxm)
  have hfx:=hfit x.f (List.mem_of_getElem? hq) hhit
  obtain ⟨xa,xc,ex⟩:=hR.l.form rfl
  obtain ⟨xi,xz,xs,xR⟩:=x
  dsimp only at ex hR hRz hR2 hsn hin hq hfx
  subst ex
  obtain ⟨q,hqq,rfl⟩:=Option.map_eq_some_iff.1 (List.getElem?_map .. ▸ hq)
  have hxm2:xi<m:=by rw [<-hm];exact (List.getElem?_eq_some_iff.1 hqq).1
  obtain ⟨b,o,rfl,hr⟩:=h.l.at (sz:=3) (λ _=>rfl) (by omega)
  have hq1:=hr xi q hqq
  have hqv:=h.r q (List.mem_of_getElem? hqq)
  obtain ⟨pq,cq,eq⟩:=hqv.form
  obtain ⟨qs,xr,xf,xt⟩:=q
  dsimp only [Fq.fz] at eq hRz hsn hfx hx
  subst eq
  refine Tk ?_
  refine Ts ?_
  refine yH ?_
  refine Ts ?_
  refine TR ?_
  refine Lq (Qi i (e:=124) (sz:=4) rfl rfl rfl) ?_
  refine Lq (QL (ptC y ⟨xi,⟨xr,xf,xt⟩,.slice xa xR.length xc,xR⟩) rfl (ptC_at hx)) ?_
  refine Le (El [.int .i64 0,.int .i64 0,.int .i64 0,.slice none 0 0] (by unfold Zf;kernel_rfl) ?_)
  intro g12
  refine L0 (Es [_,_,_,_] rfl rfl rfl rfl (by simp) ?_)
  try simp only [splice,lC,lN,dS,cA,tS,tZ,dZ,nA,aN]
  refine Ld ?_
  refine Ts ?_
  refine TR ?_
  refine Lm rfl ?_
  refine Lq (Q0 rfl) ?_
  refine Lq (Ql rfl rfl) ?_
  refine Lq (Qi xi (e:=35) (sz:=3) rfl rfl rfl) ?_
  refine Lq (Q0 rfl) ?_
  refine Lq (zN (v := .slice pq xr.length cq) rfl (λ w ho=>hq1 w (ho.map Sa) 0 _ rfl)) ?_
  refine Le (Ec (Ra.copied B S pq xr.length cq xr hqv.2 rfl hqv.1) Tryz.func42 rfl rfl rfl ?_)
  rintro _ _ ⟨pr,cr,rfl,hpr,rfl⟩
  try simp only [cA,nA]
  refine La rfl ?_
  refine Ld ?_
  refine Ts ?_
  refine Ts ?_
  refine TR ?_
  refine Lm rfl ?_
  refine Lq (yI (e:=85) (sz:=8) rfl) ?_
  refine Lm rfl ?_
  refine Ld ?_
  refine yH ?_
  refine T.conv (l':=vaR pr xr.length cr (setZ xr (SL.take 0))::_) (λ w ho=>ho) ?_
  refine zG (λ mz fz lz => ∃ (f0:Fr) (j:Nat),(j<=ns)/\mz=ns-j/\fz=(upd (upd (upd (upd (upd (upd (upd (upd (upd (upd (upd (upd f0 0 (.slice (some ⟨b,o,none⟩) m c)) 2 (.slice ps ns cs)) 8 (.pointer (some ⟨g8,0,none⟩))) 10 (.pointer (some ⟨g10,0,none⟩))) 12 (.pointer (some ⟨g12,0,none⟩))) 13 (.slice pr xr.length cr)) 21 (.slice (some ⟨g1,0,none⟩) k c1)) 22 (iV k)) 23 (iV i)) 34 (.slice ps ns cs)) 35 (iV ns)) 36 (iV j))/\lz=vaR pr xr.length cr (setZ xr (SL.take j))::blk g12 (ptC y ⟨xi,⟨xr,xf,xt⟩,.slice xa xR.length xc,xR⟩) 124::fqR pa na ca O::AW::niR pe i ce ((PL.take i).map (·.i))::ptR y (some ⟨g1,0,none⟩) k c1 PL::A::(S++blk g10 [.slice pe i ce,.slice pa na ca] 56::blk g8 [.slice none 0 0,.slice none 0 0] 56::blk g5 (pC y) 33::F)) ?_ ?_
  . refine ⟨_,_,⟨_,0,Nat.zero_le _,rfl,(Za rfl (Za rfl (Za rfl (Za rfl (Za rfl (Za rfl (Za rfl (Za rfl (Za rfl (Za rfl (Za rfl (Za rfl rfl)))))))))))),rfl⟩,Sa⟩
  rintro mz fz lz ⟨f0,j,hj,hmz,rfl,rfl⟩
  subst mz
  refine Ts ?_
  refine TR ?_
  refine Lq (yM rfl rfl) ?_
  refine Ld ?_
  refine Ts ?_
  refine yN rfl (λ hlj=>?_) (λ hlj=>?_)
  .
   obtain ⟨b2,o2,rfl,hr2⟩:=hSL.at (sz:=8) (λ _=>rfl) (by omega)
   obtain ⟨s,hs⟩ : ∃ s,SL[j]? = some s:=⟨_,List.getElem?_eq_getElem (by omega)⟩
   have hs1:=hr2 j s hs
   obtain ⟨htv,hto⟩:=hSt s (List.mem_of_getElem? hs)
   have hsz:=setZ_snoc (row:=xr) hs
   obtain ⟨he0,v,hv,hkd⟩:=hfx j s hs
   have hsl:=setZ_len xr (SL.take j)
   have hpl:s.p<xr.length:=by rw [<-hsl];exact (List.getElem?_eq_some_iff.1 hv).1
   obtain ⟨gr,rfl⟩:=hpr (by omega)
   obtain ⟨c0,c1',c2,c3,c4,c5,c6,c7',c8,ec⟩:=htv.tmF
   obtain ⟨sp,st,sc⟩:=s
   dsimp only at htv hto hsz he0 hv hkd hpl ec hs1
   subst ec
   have hc0:=flat_part (g:=vaC) (sz:=3) (λ _=>rfl) hv 0 _ rfl
   have hE:=Bd.evalF B S xr pq xr.length cq hqv.2 rfl hqv.1 st hto _ htv
   refine Tk ?_
   refine Ts ?_
   refine yH ?_
   refine Ts ?_
   refine TR ?_
   refine Lq (Qi _ (e:=85) (sz:=8) rfl rfl rfl) ?_
   refine Lq (Qt.loadAggW (stSC ⟨sp,st,⟨tV c0,iV c1',iV c2,iV c3,tV c4,iV c5,.slice c6 c7' c8⟩⟩) rfl (λ w ho=>hs1 w (ho.map Sa))) ?_
   refine Le (El [.int .i64 0,.string .empty,.int .i64 0,.int .i64 0,.int .i64 0,.string .empty,.int .i64 0,.slice none 0 0] (by unfold Zf;kernel_rfl) ?_)
   intro g15
   refine L0 (Es [_,_,_,_,_,_,_,_] rfl rfl rfl rfl (by simp) ?_)
   try simp only [splice,lC,lN,dS,cA,tS,tZ,dZ,nA,aN]
   refine Ld ?_
   refine Ts ?_
   refine T.draw 14 ((blk g15 (stSC ⟨sp,st,⟨tV c0,iV c1',iV c2,iV c3,tV c4,iV c5,.slice c6 c7' c8⟩⟩) 85::blk g12 (ptC y ⟨xi,⟨xr,xf,xt⟩,.slice xa xR.length xc,xR⟩) 124::S)) (nB rfl) ?_
   refine Rq 0 rfl Sa (Qf (off:=1) rfl) ?_
   refine Rq 1 rfl Sa (QL [_,_,_,_,_,_,_] rfl ⟨rfl,rfl,rfl,rfl,rfl,rfl,rfl,trivial⟩) ?_
   refine Rq 2 rfl Sa (Qm rfl) ?_
   refine Rq 3 rfl Sa (Q0 rfl) ?_
   refine Rq 4 rfl Sa (Ql rfl rfl) ?_
   refine Rq 5 rfl Sa (Qi xi (e:=35) (sz:=3) rfl rfl rfl) ?_
   refine Rq 6 rfl Sa (Q0 rfl) ?_
   refine Rq 7 rfl Sa (zN (v := .slice pq xr.length cq) rfl (λ w ho=>hq1 w (ho.map Sa) 0 _ rfl)) ?_
   refine YC [8,12] (List.forall_mem_cons.2 ⟨?_,List.forall_mem_cons.2 ⟨?_,List.forall_mem_nil _⟩⟩)
   .
    refine z6 rfl (Ec (hE) Tryz.func7 rfl rfl rfl ?_)
    rintro _ l9 ⟨rfl,hl9⟩
    try simp only [cA,nA]
    rw [hl9]
    refine ⟨Sa,?_⟩
    refine Rq 9 rfl Sa (Qm rfl) ?_
    refine Rq 10 rfl Sa (Qx rfl rfl) ?_
    refine Rq 11 rfl Sa (Qx rfl rfl) ?_
    refine yK 12 ?_
    refine z6 rfl (El [.int .i64 0,.int .i64 0,.string .empty] (by unfold Zf;kernel_rfl) ?_)
    intro g16
    refine ⟨Sa,?_⟩
    refine yK 13 ?_
    refine YH rfl (Es [_,_,_] rfl rfl rfl rfl (by simp) ?_)
    try simp only [splice,lC,lN,dS,cA,tS,tZ,dZ,nA,aN]
    refine ⟨Sa,?_⟩
    refine Rd0 (by rfl) ?_
    simp only [dS,dZ,dN]
    refine La rfl ?_
    refine Ld ?_
    refine Ts ?_
    refine yH ?_
    refine Ts ?_
    refine TR ?_
    refine Lm rfl ?_
    refine Lq (yW rfl rfl) ?_
    refine La rfl ?_
    refine Ld ?_
    refine yL rfl ((λ z=>z he0)) ?_
    refine Ts ?_
    refine TR ?_
    refine Lq (Q0 rfl) ?_
    refine Lq (Ql rfl rfl) ?_
    refine Lq (yM rfl rfl) ?_
    refine Lm rfl ?_
    refine yT (t:=61) rfl rfl ?_
    refine Lq (Q0 rfl) ?_
    refine Lq (Ql rfl rfl) ?_
    refine Lm rfl ?_
    refine Lq (yI (e:=24) (sz:=3) rfl) ?_
    refine Lq (zX rfl rfl) ?_
    refine Lq (Qp rfl rfl) ?_
    refine La rfl ?_
    refine Ld ?_
    refine yL rfl ((by omega)) ?_
    refine Ts ?_
    refine T.draw 10 ([blk g16 (vaC (evalR xr st).1) 24,blk g15 (stSC ⟨sp,st,⟨tV c0,iV c1',iV c2,iV c3,tV c4,iV c5,.slice c6 c7' c8⟩⟩) 85,vaR (some ⟨gr,0,none⟩) xr.length cr (setZ xr (SL.take j))]) (nB rfl) ?_
    refine Rq 0 rfl Sa (Q0 rfl) ?_
    refine Rq 1 rfl Sa (Ql rfl rfl) ?_
    refine Rq 2 rfl Sa (Qm rfl) ?_
    refine Rq 3 rfl Sa (Q0 rfl) ?_
    refine Rq 4 rfl Sa (Ql rfl rfl) ?_
    refine Rq 5 rfl Sa (Qi sp (e:=24) (sz:=3) rfl rfl rfl) ?_
    refine Rq 6 rfl Sa (Q0 rfl) ?_
    refine Rq 7 rfl Sa (Ql (v:=iV v.kind) rfl (by rw [Nat.zero_add];exact hc0)) ?_
    refine Rq 8 rfl Sa (yW rfl rfl) ?_
    refine Rq 9 rfl Sa (Qa rfl) ?_
    refine Rd0 (by rfl) ?_
    simp only [dS,dZ,dN]
    refine Ld ?_
    refine yL rfl ((λ z=>z hkd)) ?_
    refine Tk ?_
    refine TR ?_
    refine Lm rfl ?_
    refine Lq (Q0 rfl) ?_
    refine Lq (Ql rfl rfl) ?_
    refine Lq (QL [_,_,_] rfl ⟨rfl,rfl,rfl,trivial⟩) ?_
    refine Lq (Qi sp (e:=24) (sz:=3) rfl rfl rfl) ?_
    refine L0 (Es (vaC (evalR xr st).1) rfl rfl rfl rfl (by rw [flat_length vaC 3 _ (λ _ _=>rfl),hsl];simp only [List.length_cons,List.length_nil];omega) ?_)
    rw [vaC_set (by omega),<-hsz]
    refine Ld ?_
    refine TR ?_
    refine Lq (Qd rfl rfl (Ze)) ?_
    refine Lm rfl ?_
    refine Ld ?_
    refine ⟨_,?_,_,⟨_,j+1,by omega,rfl,(Za rfl (Za rfl (Za rfl (Za rfl (Za rfl (Za rfl (Za rfl (Za rfl (Za rfl (Za rfl (Za rfl (Za rfl rfl)))))))))))),rfl⟩,Sa⟩
    omega
   refine z6 rfl (El [.int .i64 0,.int .i64 0,.string .empty] (by unfold Zf;kernel_rfl) ?_)
   intro g16
   refine ⟨Sa,?_⟩
   refine yK 8 ?_
   refine z6 rfl (Ec (hE) Tryz.func7 rfl rfl rfl ?_)
   rintro _ l9 ⟨rfl,hl9⟩
   try simp only [cA,nA]
   rw [hl9]
   refine ⟨Sa,?_⟩
   refine Rq 9 rfl Sa (Qm rfl) ?_
   refine Rq 10 rfl Sa (Qx rfl rfl) ?_
   refine Rq 11 rfl Sa (Qx rfl rfl) ?_
   refine yK 13 ?_
   refine YH rfl (Es [_,_,_] rfl rfl rfl rfl (by simp) ?_)
   try simp only [splice,lC,lN,dS,cA,tS,tZ,dZ,nA,aN]
   refine ⟨Sa,?_⟩
   refine Rd0 (by rfl) ?_
   simp only [dS,dZ,dN]
   refine La rfl ?_
   refine Ld ?_
   refine Ts ?_
   refine yH ?_
   refine Ts ?_
   refine TR ?_
   refine Lm rfl ?_
   refine Lq (yW rfl rfl) ?_
   refine La rfl ?_
   refine Ld ?_
   refine yL rfl ((λ z=>z he0)) ?_
   refine Ts ?_
   refine TR ?_
   refine Lq (Q0 rfl) ?_
   refine Lq (Ql rfl rfl) ?_
   refine Lq (yM rfl rfl) ?_
   refine Lm rfl ?_
   refine yT (t:=61) rfl rfl ?_
   refine Lq (Q0 rfl) ?_
   refine Lq (Ql rfl rfl) ?_
   refine Lm rfl ?_
   refine Lq (yI (e:=24) (sz:=3) rfl) ?_
   refine Lq (zX rfl rfl) ?_
   refine Lq (Qp rfl rfl) ?_
   refine La rfl ?_
   refine Ld ?_
   refine yL rfl ((by omega)) ?_
   refine Ts ?_
   refine T.draw 10 ([blk g16 (vaC (evalR xr st).1) 24,blk g15 (stSC ⟨sp,st,⟨tV c0,iV c1',iV c2,iV c3,tV c4,iV c5,.slice c6 c7' c8⟩⟩) 85,vaR (some ⟨gr,0,none⟩) xr.length cr (setZ xr (SL.take j))]) (nB rfl) ?_
   refine Rq 0 rfl Sa (Q0 rfl) ?_
   refine Rq 1 rfl Sa (Ql rfl rfl) ?_
   refine Rq 2 rfl Sa (Qm rfl) ?_
   refine Rq 3 rfl Sa (Q0 rfl) ?_
   refine Rq 4 rfl Sa (Ql rfl rfl) ?_
   refine Rq 5 rfl Sa (Qi sp (e:=24) (sz:=3) rfl rfl rfl) ?_
   refine Rq 6 rfl Sa (Q0 rfl) ?_
   refine Rq 7 rfl Sa (Ql (v:=iV v.kind) rfl (by rw [Nat.zero_add];exact hc0)) ?_
   refine Rq 8 rfl Sa (yW rfl rfl) ?_
   refine Rq 9 rfl Sa (Qa rfl) ?_
   refine Rd0 (by rfl) ?_
   simp only [dS,dZ,dN]
   refine Ld ?_
   refine yL rfl ((λ z=>z hkd)) ?_
   refine Tk ?_
   refine TR ?_
   refine Lm rfl ?_
   refine Lq (Q0 rfl) ?_
   refine Lq (Ql rfl rfl) ?_
   refine Lq (QL [_,_,_] rfl ⟨rfl,rfl,rfl,trivial⟩) ?_
   refine Lq (Qi sp (e:=24) (sz:=3) rfl rfl rfl) ?_
   refine L0 (Es (vaC (evalR xr st).1) rfl rfl rfl rfl (by rw [flat_length vaC 3 _ (λ _ _=>rfl),hsl];simp only [List.length_cons,List.length_nil];omega) ?_)
   rw [vaC_set (by omega),<-hsz]
   refine Ld ?_
   refine TR ?_
   refine Lq (Qd rfl rfl (Ze)) ?_
   refine Lm rfl ?_
   refine Ld ?_
   refine ⟨_,?_,_,⟨_,j+1,by omega,rfl,(Za rfl (Za rfl (Za rfl (Za rfl (Za rfl (Za rfl (Za rfl (Za rfl (Za rfl (Za rfl (Za rfl (Za rfl rfl)))))))))))),rfl⟩,Sa⟩
   omega
  have ez:SL.take j=SL:=List.take_of_length_le (by omega)
  rw [ez]
  refine zB ?_
  refine Ts ?_
  refine TR ?_
  refine Lq (Q0 rfl) ?_
  refine Lq (Ql rfl rfl) ?_
  refine Lq (Q0 rfl) ?_
  refine Lq (Ql rfl rfl) ?_
  refine Le (zK [_] (e:=3) (sz:=1) ⟨.int .i64 0,by kernel_rfl,rfl⟩ rfl rfl rfl ?_)
  intro g90
  refine Le (Ea Ra.elemN rfl rfl (SrcOf.blk (by kernel_rfl) rfl (by simp [Value.oneCell'])) (by unfold maxLen;omega) ?_)
  rintro p4 c4 hp4
  try simp only [cA,nA]
  rw [show ((PL.take i).map (·.i)).map (λ (i:Nat)=>iV i)++[iV xi]=((PL.take (i+1)).map (·.i)).map (λ (i:Nat)=>iV i) by rw [hin,List.map_append];rfl]
  refine Lq (Q0 rfl) ?_
  refine L0 (E1 rfl rfl rfl (by first | (simp;done) | (simp;omega)) ?_)
  try simp only [List.set_cons_zero,List.set_cons_succ]
  refine Ld ?_
  refine T.draw 11 ([blk g10 [.slice p4 (i+1) c4,.slice pa na ca] 56,blk g12 (ptC y ⟨xi,⟨xr,xf,xt⟩,.slice xa xR.length xc,xR⟩) 124]) (nB rfl) ?_
  refine Rq 0 rfl Sa (Qf (off:=1) rfl) ?_
  refine Rq 1 rfl Sa (Ql rfl rfl) ?_
  refine Rq 2 rfl Sa (Qf (off:=3) rfl) ?_
  refine Rq 3 rfl Sa (Ql rfl rfl) ?_
  refine Rq 5 rfl Sa (Qm rfl) ?_
  refine Rq 6 rfl Sa (Qf (off:=1) rfl) ?_
  refine Rq 7 rfl Sa (QL [_,_] rfl ⟨rfl,rfl,trivial⟩) ?_
  refine Rq 8 rfl Sa (z8 [(0,1),(1,2)] [.slice none 0 0,.int .i64 0,.int .i64 0] [_,_,_] [(0,_),(1,_)] (by unfold Zf;kernel_rfl) rfl rfl) ?_
  refine YC [4,9] (List.forall_mem_cons.2 ⟨?_,List.forall_mem_cons.2 ⟨?_,List.forall_mem_nil _⟩⟩)
  .
   refine z6 rfl (Ea Qe.elemF rfl rfl (SrcOf.fq (m:=xR.length) (hR.l.mono λ w ho=>ho.map Sa) (λ _=>rfl) rfl (fqC_one hR.r)) (by unfold maxLen;omega) ?_)
   rintro p5 c5 hp5
   try simp only [cA,nA]
   rw [<-List.flatMap_append]
   refine ⟨Sa,?_⟩
   refine yK 9 ?_
   refine z6 rfl (zK [_,_,_] (e:=35) (sz:=3) ⟨.agg #[.slice none 0 0,.int .i64 0,.int .i64 0],by kernel_rfl,rfl⟩ rfl rfl rfl ?_)
   intro g102
   refine ⟨Sa,?_⟩
   refine yK 10 ?_
   refine zY rfl (Ea Qe.elemF rfl rfl (SrcOf.blk (by kernel_rfl) rfl (by simp [Value.oneCell'])) (by unfold maxLen;omega) ?_)
   rintro p6 c6 hp6
   rw [show (O++xR).flatMap fqC++[.slice pr xr.length cr,iV (ovX (pdF ⟨xr,xf,xt⟩) y).1,iV (ovX (pdF ⟨xr,xf,xt⟩) y).2]=(O++xR++[(⟨.slice pr xr.length cr,setZ xr SL,(ovX (pdF ⟨xr,xf,xt⟩) y).1,(ovX (pdF ⟨xr,xf,xt⟩) y).2⟩:Fq)]).flatMap fqC by simp]
   refine Rd0 (by rfl) ?_
   simp only [dS,dZ,dN]
   refine Lq (Qf (off:=1) rfl) ?_
   refine L0 (E1 rfl rfl rfl (by first | (simp;done) | (simp;omega)) ?_)
   try simp only [List.set_cons_zero,List.set_cons_succ]
   refine Ld ?_
   refine TR ?_
   refine Lq (Qd rfl rfl (Ze)) ?_
   refine Lm rfl ?_
   refine Ld ?_
   have hFn:FqV B [vaR pr xr.length cr (setZ xr SL)] ⟨.slice pr xr.length cr,setZ xr SL,(ovX (pdF ⟨xr,xf,xt⟩) y).1,(ovX (pdF ⟨xr,xf,xt⟩) y).2⟩:=⟨by rw [setZ_len];exact hqv.1,FlV.row (l:=[]) (sz:=3) (λ _=>rfl) (by omega) (setZ_len xr SL) hpr⟩
   have hOA2:=upd_own hOA hR.r hFn
   refine ⟨_,?_,_,⟨_,i+1,O++xR++[⟨.slice pr xr.length cr,setZ xr SL,(ovX (pdF ⟨xr,xf,xt⟩) y).1,(ovX (pdF ⟨xr,xf,xt⟩) y).2⟩],sepL [AW,vaR pr xr.length cr (setZ xr SL)],p4,c4,p6,na+xR.length+1,c6,⟨by omega,hp4,by rw [hsn,List.map_append,List.map_append,hO,hRz,List.append_assoc];rfl,by rw [List.length_append,List.length_append,hOn];rfl,by omega,hOA2,hp6⟩,rfl,(Za rfl (Za rfl (Za rfl (Za rfl (Za rfl (Za rfl (Za rfl rfl))))))),rfl⟩,Sa⟩
   omega
  refine z6 rfl (zK [_,_,_] (e:=35) (sz:=3) ⟨.agg #[.slice none 0 0,.int .i64 0,.int .i64 0],by kernel_rfl,rfl⟩ rfl rfl rfl ?_)
  intro g102
  refine ⟨Sa,?_⟩
  refine yK 4 ?_
  refine z6 rfl (Ea Qe.elemF rfl rfl (SrcOf.fq (m:=xR.length) (hR.l.mono λ w ho=>ho.map Sa) (λ _=>rfl) rfl (fqC_one hR.r)) (by unfold maxLen;omega) ?_)
  rintro p5 c5 hp5
  try simp only [cA,nA]
  rw [<-List.flatMap_append]
  refine ⟨Sa,?_⟩
  refine yK 10 ?_
  refine zY rfl (Ea Qe.elemF rfl rfl (SrcOf.blk (by kernel_rfl) rfl (by simp [Value.oneCell'])) (by unfold maxLen;omega) ?_)
  rintro p6 c6 hp6
  rw [show (O++xR).flatMap fqC++[.slice pr xr.length cr,iV (ovX (pdF ⟨xr,xf,xt⟩) y).1,iV (ovX (pdF ⟨xr,xf,xt⟩) y).2]=(O++xR++[(⟨.slice pr xr.length cr,setZ xr SL,(ovX (pdF ⟨xr,xf,xt⟩) y).1,(ovX (pdF ⟨xr,xf,xt⟩) y).2⟩:Fq)]).flatMap fqC by simp]
  refine Rd0 (by rfl) ?_
  simp only [dS,dZ,dN]
  refine Lq (Qf (off:=1) rfl) ?_
  refine L0 (E1 rfl rfl rfl (by first | (simp;done) | (simp;omega)) ?_)
  try simp only [List.set_cons_zero,List.set_cons_succ]
  refine Ld ?_
  refine TR ?_
  refine Lq (Qd rfl rfl (Ze)) ?_
  refine Lm rfl ?_
  refine Ld ?_
  have hFn:FqV B [vaR pr xr.length cr (setZ xr SL)] ⟨.slice pr xr.length cr,setZ xr SL,(ovX (pdF ⟨xr,xf,xt⟩) y).1,(ovX (pdF ⟨xr,xf,xt⟩) y).2⟩:=⟨by rw [setZ_len];exact hqv.1,FlV.row (l:=[]) (sz:=3) (λ _=>rfl) (by omega) (setZ_len xr SL) hpr⟩
  have hOA2:=upd_own hOA hR.r hFn
  refine ⟨_,?_,_,⟨_,i+1,O++xR++[⟨.slice pr xr.length cr,setZ xr SL,(ovX (pdF ⟨xr,xf,xt⟩) y).1,(ovX (pdF ⟨xr,xf,xt⟩) y).2⟩],sepL [AW,vaR pr xr.length cr (setZ xr SL)],p4,c4,p6,na+xR.length+1,c6,⟨by omega,hp4,by rw [hsn,List.map_append,List.map_append,hO,hRz,List.append_assoc];rfl,by rw [List.length_append,List.length_append,hOn];rfl,by omega,hOA2,hp6⟩,rfl,(Za rfl (Za rfl (Za rfl (Za rfl (Za rfl (Za rfl (Za rfl rfl))))))),rfl⟩,Sa⟩
  omega
 obtain rfl:i=k:=by omega
 have ez:PL.take i=PL:=List.take_of_length_le (by omega)
 rw [ez] at hO ⊢
 subst hOn
 obtain ⟨E,hE⟩ : ∃ E,E=PL.map (·.i):=⟨_,rfl⟩
 rw [<-hE]
 obtain rfl:E.length=i:=by rw [hE,List.length_map];exact hk.symm
 refine zB ?_
 refine Ts ?_
 refine TR ?_
 refine Lq (QL [_,_] rfl ⟨rfl,rfl,trivial⟩) ?_
 refine L0 (Es [_,_] rfl rfl rfl rfl (by simp) ?_)
 try simp only [splice,lC,lN,dS,cA,tS,tZ,dZ,nA,aN]
 refine La rfl ?_
 refine Ld ?_
 refine T.ret ?_
 exact ⟨.inl rfl,_,_,res [_,_] rfl ⟨rvA [_,_] rfl ⟨rfl,rfl,trivial⟩,rvT rfl,trivial⟩,⟨E,_,rfl,by rw [hE,<-hPL,List.map_map];rfl,O,sepL [A,AW],pe,ce,pa,ca,rfl,hpe,hpa,λ x hx=>(hOA x hx).mono λ w ho=>ho.sepQ,by rw [hO,hPL],rfl⟩,Sa⟩
open Go.RowKit
theorem Ps.set (B:Wn) (gs:Nat) (q:Sq) (a:Nat) (hq:q.L.length<2^27) (hx : ∀ x∈q.L,x.text.length<2^40) {cn:Str} {b2 b:Nat} {e:Ex} (ha:a<q.L.length) (h1:nameR q a = .ok (cn,a+1)) (h2:mustA q (a+1) [[61]] = .ok b2) (hb2:b2<=q.L.length) (h3:exprR q b2 = .ok (e,b)):FnE Tryz.prog B 88 #[pV gs] [srB gs q a 0,srT q] (λ u l => ∃ A c,u = .agg #[tV cn,c.op,c.n,c.text,c.of,c.args]/\ExV B [A] e c/\l=[A,srB gs q b 0,srT q]) (Xm (α:=Unit) (.ok ())):=by
  have hE:=Ps.exprC B gs q hq hx b2 hb2
  refine FnE.enter1 13 Tryz.func88 rfl rfl (nB rfl) (λ F=>?_)
  try simp only [cA,nA]
  refine Ts ?_
  refine TR ?_
  refine Le (El [.string .empty,.string .empty,.int .i64 0,.string .empty,.string .empty,.slice none 0 0] (by unfold Zf;kernel_rfl) ?_)
  intro g2
  refine Ld ?_
  refine Ts ?_
  refine TR ?_
  refine Lm rfl ?_
  refine LW.p rfl (Ee.call (Ps.name B gs q a 0 (by omega) (by omega) hx) Tryz.func79 rfl rfl rfl (by exact (λ pv ⟨e,he,hp⟩=>FnEPost.dead ⟨e,(by rw [h1] at he;cases he),hp⟩ Sa)) ?_)
  rintro _ _ ⟨x,e1,rfl,ex,_,rfl⟩
  try simp only [cA,nA]
  rw [h1] at e1
  cases e1
  refine La rfl ?_
  refine Ld ?_
  refine Ts ?_
  refine TR ?_
  refine Lm rfl ?_
  refine Le (zK [_] (e:=9) (sz:=1) ⟨.string .empty,by kernel_rfl,rfl⟩ rfl rfl rfl ?_)
  intro g7
  refine LW.p rfl (Ee.call (Ps.must B [blk g7 [.string ⟨#[61]⟩] 9] gs q (a+1) 0 (by omega) (by omega) (some ⟨g7,0,none⟩) 1 1 [[61]] rfl (by omega) (FlV.blk (x:=[[61]]) (g:=sC) rfl)) Tryz.func80 rfl rfl rfl (by exact (λ pv ⟨e,he,hp⟩=>FnEPost.dead ⟨e,(by rw [h2] at he;cases he),hp⟩ Sa)) ?_)
  rintro _ _ ⟨bb,e2,rfl,rfl⟩
  try simp only [cA,nA]
  rw [h2] at e2
  cases e2
  refine Ld ?_
  refine Ts ?_
  refine TR ?_
  refine Lm rfl ?_
  refine Lm rfl ?_
  refine LW.p rfl (Ee.call (hE) Tryz.func85 rfl rfl rfl (by exact (λ pv ⟨e,he,hp⟩=>FnEPost.dead ⟨e,(by rw [h3] at he;cases he),hp⟩ Sa)) ?_)
  rintro _ _ ⟨x2,b3,A,c,e3,_,_,rfl,hv,rfl⟩
  try simp only [cA,nA]
  rw [h3] at e3
  cases e3
  obtain ⟨o1,n1,x1,f1,a1,m1,k1,rfl⟩:=hv.form
  refine Lq (z8 [(0,1),(1,5)] [.string .empty,.string .empty,.int .i64 0,.string .empty,.string .empty,.slice none 0 0] [_,_,_,_,_,_] [(0,_),(1,_)] (by unfold Zf;kernel_rfl) rfl rfl) ?_
  refine L0 (Es [_,_,_,_,_,_] rfl rfl rfl rfl (by simp) ?_)
  try simp only [splice,lC,lN,dS,cA,tS,tZ,dZ,nA,aN]
  refine Ld ?_
  refine T.ret ?_
  exact ⟨.inl rfl,_,_,res [_] rfl ⟨rvA [_,_,_,_,_,_] rfl ⟨rfl,rfl,rfl,rfl,rfl,rfl,trivial⟩,trivial⟩,⟨A,_,rfl,hv,rfl⟩,Sa⟩
theorem Ps.portion (B:Wn) (gs:Nat) (q:Sq) (a:Nat) (hq:q.L.length<2^26) (ha:a<2^27) (h:mayA q.L a [[70,79,82]]=none):FnE Tryz.prog B 89 #[pV gs] [srB gs q a 0,srT q] (λ u l=>u=pdV 0 1099511627776/\l=[srB gs q a 0,srT q]) (Xm (α:=Unit) (.ok ())):=by
  refine FnE.enter1 9 Tryz.func89 rfl rfl (nB rfl) (λ F=>?_)
  try simp only [cA,nA]
  refine Ts ?_
  refine TR ?_
  refine Le (El [.int .i64 0,.int .i64 0] (by unfold Zf;kernel_rfl) ?_)
  intro g2
  refine Ld ?_
  refine Ts ?_
  refine Ts ?_
  refine TR ?_
  refine Lm rfl ?_
  refine Le (zK [_] (e:=9) (sz:=1) ⟨.string .empty,by kernel_rfl,rfl⟩ rfl rfl rfl ?_)
  intro g4
  refine Le (Ec (Ps.may B [blk g4 [.string ⟨#[70,79,82]⟩] 9] gs q a 0 (some ⟨g4,0,none⟩) 1 1 [[70,79,82]] rfl (FlV.blk (x:=[[70,79,82]]) (g:=sC) rfl)) Tryz.func47 rfl rfl rfl ?_)
  rintro _ _ ⟨rfl,rfl⟩
  try simp only [cA,nA]
  refine Ld ?_
  rw [h]
  dsimp only [Option.isSome,Option.getD]
  refine yQ rfl ?_
  refine Tk ?_
  refine Ts ?_
  refine TR ?_
  refine Lq (z8 [(0,1),(1,1)] [.int .i64 0,.int .i64 0] [_,_] [(1,_)] (by unfold Zf;kernel_rfl) rfl rfl) ?_
  refine L0 (Es [_,_] rfl rfl rfl rfl (by simp) ?_)
  try simp only [splice,lC,lN,dS,cA,tS,tZ,dZ,nA,aN]
  refine Ld ?_
  refine T.ret ?_
  exact ⟨.inl rfl,_,_,res [_] rfl ⟨rvA [_,_] rfl ⟨rfl,rfl,trivial⟩,trivial⟩,⟨rfl,rfl⟩,Sa⟩
open Go.RowKit
theorem Ps.sets (B:Wn) (gs:Nat) (q:Sq) (a:Nat) (hq:q.L.length<2^26) (hx : ∀ x∈q.L,x.text.length<2^40) {cn:Str} {b2 b:Nat} {e:Ex} (ha:a<q.L.length) (h1:nameR q a = .ok (cn,a+1)) (h2:mustA q (a+1) [[61]] = .ok b2) (hb2:b2<=q.L.length) (h3:exprR q b2 = .ok (e,b)) (hb:b<=q.L.length) (h4:mayA q.L b [[44]]=none):FnE Tryz.prog B 87 #[pV gs,.func (.func 88) #[pV gs] #[]] [srB gs q a 0,srT q] (λ u l => ∃ g A c,u = .slice (some ⟨g,0,none⟩) 1 1/\ExV B [A] e c/\l=[blk g [tV cn,c.op,c.n,c.text,c.of,c.args] 78,A,srB gs q b 0,srT q]) (Xm (α:=Unit) (.ok ())):=by
 have hS:=Ps.set B gs q a (by omega) hx ha h1 h2 hb2 h3
 refine FnE.enter2 18 Tryz.func87 rfl rfl (nB rfl) (λ F=>?_)
 try simp only [cA,nA]
 refine Ts ?_
 refine TR ?_
 refine La rfl ?_
 refine Ld ?_
 refine Ts ?_
 refine TR ?_
 refine Lm rfl ?_
 refine LW.p rfl (Ee.callF [] [pV gs] (hS) Tryz.func88 rfl rfl rfl rfl rfl (by exact (λ pv ⟨e,he,hp⟩=>FnEPost.dead ⟨e,(by cases he),hp⟩ Sa)) ?_)
 rintro _ _ ⟨A,c,rfl,hv,rfl⟩
 try simp only [cA,nA]
 obtain ⟨o1,n1,x1,f1,a1,m1,k1,rfl⟩:=hv.form
 refine Le (zK [_,_,_,_,_,_] (e:=78) (sz:=6) ⟨.agg #[.string .empty,.string .empty,.int .i64 0,.string .empty,.string .empty,.slice none 0 0],by kernel_rfl,rfl⟩ rfl rfl rfl ?_)
 intro g8
 refine La rfl ?_
 refine Ld ?_
 refine Ts ?_
 refine yH ?_
 refine zG (λ mz fz lz => ∃ (f0:Fr) (z:Nat),(z=0)/\mz=z/\fz=(upd (upd (upd f0 0 (pV gs)) 1 (.func (.func 88) #[pV gs] #[])) 5 (.slice (some ⟨g8,0,none⟩) 1 1))/\lz=blk g8 [tV cn,tV o1,iV n1,tV x1,tV f1,.slice a1 m1 k1] 78::A::srB gs q b 0::srT q::F) ?_ ?_
 . refine ⟨_,_,⟨_,0,rfl,rfl,(Za rfl (Za rfl (Za rfl rfl))),rfl⟩,Sa⟩
 rintro mz fz lz ⟨f0,z,hz,hmz,rfl,rfl⟩
 subst mz
 refine Ts ?_
 refine Ts ?_
 refine TR ?_
 refine Lm rfl ?_
 refine Le (zK [_] (e:=9) (sz:=1) ⟨.string .empty,by kernel_rfl,rfl⟩ rfl rfl rfl ?_)
 intro g10
 refine Le (Ec (Ps.may B [blk g10 [.string ⟨#[44]⟩] 9] gs q b 0 (some ⟨g10,0,none⟩) 1 1 [[44]] rfl (FlV.blk (x:=[[44]]) (g:=sC) rfl)) Tryz.func47 rfl rfl rfl ?_)
 rintro _ _ ⟨rfl,rfl⟩
 try simp only [cA,nA]
 refine Ld ?_
 rw [h4]
 dsimp only [Option.isSome,Option.getD]
 refine yQ rfl ?_
 refine zB ?_
 refine Ts ?_
 refine TR ?_
 refine Lm rfl ?_
 refine La rfl ?_
 refine Ld ?_
 refine T.ret ?_
 exact ⟨.inl rfl,_,_,res [_] rfl ⟨rvT rfl,trivial⟩,⟨g8,A,_,rfl,hv,rfl⟩,Sa⟩
open Go.RowKit
def plusS : Str:=[117,112,100,97,116,101,32,116,32,115,101,116,32,97,32,61,32,97,32,43,32,49]
def plusL : List Tok:=[⟨1,[85,80,68,65,84,69],0,0⟩,⟨1,[84],0,7⟩,⟨1,[83,69,84],0,9⟩,⟨1,[65],0,13⟩,⟨4,[61],0,15⟩,⟨1,[65],0,17⟩,⟨4,[43],0,19⟩,⟨2,[],1,21⟩]
def plusE : Ex:=opEx [43] [.mk [110,97,109,101] 0 [65] [] [],.mk [110,117,109,98,101,114] 1 [] [] []]
theorem plus_lex : lexR plusS = .ok plusL:=by kernel_rfl
theorem plus_may (w:Str) (h:(w == [85,80,68,65,84,69])=false) (ts:List Str):mayA plusL 0 (w::ts)=none:=mayA_ne (y:=⟨1,[85,80,68,65,84,69],0,0⟩) rfl h
theorem plus_go : mayA plusL 0 [[85,80,68,65,84,69]]=some 1:=by rfl
section
variable (p : Option Addr) (c:Nat) (en:Int)
theorem plus_n1 : nameR ⟨p,c,en,plusL⟩ 1 = .ok ([84],2):=by rfl
theorem plus_m2 : mustA ⟨p,c,en,plusL⟩ 2 [[83,69,84]] = .ok 3:=by rfl
theorem plus_n3 : nameR ⟨p,c,en,plusL⟩ 3 = .ok ([65],3+1):=by rfl
theorem plus_m4 : mustA ⟨p,c,en,plusL⟩ (3+1) [[61]] = .ok 5:=by rfl
theorem plus_e5 : exprR ⟨p,c,en,plusL⟩ 5 = .ok (plusE,8):=by rfl
theorem plus_w8 : whereR ⟨p,c,en,plusL⟩ 8 = .ok ([],8):=by rfl
end
abbrev stU (vs vw:Value):List Value:=[.string ⟨#[85,80,68,65,84,69]⟩,tV [84],.slice none 0 0,.slice none 0 0,.slice none 0 0,vs,iV 0,iV 1099511627776,vw,.slice none 0 0,.slice none 0 0,.slice none 0 0,.slice none 0 0,.slice none 0 0]
theorem plus_text : ∀ x∈plusL,x.text.length<2^40:=by decide
theorem Ps.update (B:Wn) (gs:Nat) (p:Option Addr) (c:Nat) (en:Int):FnE Tryz.prog B 46 #[pV gs] [srB gs ⟨p,c,en,plusL⟩ 0 0,srT ⟨p,c,en,plusL⟩] (λ u l => ∃ g A e AW pw cw,u = .agg (stU (.slice (some ⟨g,0,none⟩) 1 1) (.slice pw 0 cw)).toArray/\ExV B [A] plusE e/\l=[blk g [tV [65],e.op,e.n,e.text,e.of,e.args] 78,A,AW,srB gs ⟨p,c,en,plusL⟩ 8 0,srT ⟨p,c,en,plusL⟩]) (Xm (α:=Unit) (.ok ())):=by
  have hl:(⟨p,c,en,plusL⟩:Sq).L.length=8:=rfl
  have hq:(⟨p,c,en,plusL⟩:Sq).L.length<2^30:=by rw [hl];decide
  refine FnE.enter1 133 Tryz.func46 rfl rfl (nB rfl) (λ F=>?_)
  try simp only [cA,nA]
  refine Ts ?_
  refine TR ?_
  refine Le (El [.string .empty,.string .empty,.slice none 0 0,.slice none 0 0,.slice none 0 0,.slice none 0 0,.int .i64 0,.int .i64 0,.slice none 0 0,.slice none 0 0,.slice none 0 0,.slice none 0 0,.slice none 0 0,.slice none 0 0] (by unfold Zf;kernel_rfl) ?_)
  intro g2
  refine Ld ?_
  refine Ts ?_
  refine TR ?_
  refine Le (El [.string .empty,.string .empty,.slice none 0 0,.slice none 0 0,.slice none 0 0,.slice none 0 0,.int .i64 0,.int .i64 0,.slice none 0 0,.slice none 0 0,.slice none 0 0,.slice none 0 0,.slice none 0 0,.slice none 0 0] (by unfold Zf;kernel_rfl) ?_)
  intro g3
  refine Ld ?_
  refine Ts ?_
  refine yH ?_
  refine Ts ?_
  refine TR ?_
  refine Lm rfl ?_
  refine Le (ZC [_,_] (e:=9) rfl (by simp [Value.cells]) rfl ?_)
  intro g8
  refine Le (Ec (Ps.may B [blk g8 [.string ⟨#[67,82,69,65,84,69]⟩,.string ⟨#[84,65,66,76,69]⟩] 9] gs ⟨p,c,en,plusL⟩ 0 0 (hq:=hq) (some ⟨g8,0,none⟩) 2 2 [[67,82,69,65,84,69],[84,65,66,76,69]] rfl (FlV.blk (x:=[[67,82,69,65,84,69],[84,65,66,76,69]]) (g:=sC) rfl)) Tryz.func47 rfl rfl rfl ?_)
  rintro _ _ ⟨rfl,rfl⟩
  try simp only [cA,nA]
  refine La rfl ?_
  refine Ld ?_
  rw [plus_may [67,82,69,65,84,69] (by decide) _]
  dsimp only [Option.isSome,Option.getD]
  refine yQ rfl ?_
  refine Ts ?_
  refine TR ?_
  refine Lm rfl ?_
  refine Le (zK [_] (e:=9) (sz:=1) ⟨.string .empty,by kernel_rfl,rfl⟩ rfl rfl rfl ?_)
  intro g36
  refine Le (Ec (Ps.may B [blk g36 [.string ⟨#[67,82,69,65,84,69]⟩] 9] gs ⟨p,c,en,plusL⟩ 0 0 (hq:=hq) (some ⟨g36,0,none⟩) 1 1 [[67,82,69,65,84,69]] rfl (FlV.blk (x:=[[67,82,69,65,84,69]]) (g:=sC) rfl)) Tryz.func47 rfl rfl rfl ?_)
  rintro _ _ ⟨rfl,rfl⟩
  try simp only [cA,nA]
  refine La rfl ?_
  refine Ld ?_
  rw [plus_may [67,82,69,65,84,69] (by decide) _]
  dsimp only [Option.isSome,Option.getD]
  refine yQ rfl ?_
  refine Ts ?_
  refine TR ?_
  refine Lm rfl ?_
  refine Le (zK [_] (e:=9) (sz:=1) ⟨.string .empty,by kernel_rfl,rfl⟩ rfl rfl rfl ?_)
  intro g47
  refine Le (Ec (Ps.may B [blk g47 [.string ⟨#[73,78,83,69,82,84]⟩] 9] gs ⟨p,c,en,plusL⟩ 0 0 (hq:=hq) (some ⟨g47,0,none⟩) 1 1 [[73,78,83,69,82,84]] rfl (FlV.blk (x:=[[73,78,83,69,82,84]]) (g:=sC) rfl)) Tryz.func47 rfl rfl rfl ?_)
  rintro _ _ ⟨rfl,rfl⟩
  try simp only [cA,nA]
  refine La rfl ?_
  refine Ld ?_
  rw [plus_may [73,78,83,69,82,84] (by decide) _]
  dsimp only [Option.isSome,Option.getD]
  refine yQ rfl ?_
  refine Ts ?_
  refine TR ?_
  refine Lm rfl ?_
  refine Le (zK [_] (e:=9) (sz:=1) ⟨.string .empty,by kernel_rfl,rfl⟩ rfl rfl rfl ?_)
  intro g72
  refine Le (Ec (Ps.may B [blk g72 [.string ⟨#[85,80,68,65,84,69]⟩] 9] gs ⟨p,c,en,plusL⟩ 0 0 (hq:=hq) (some ⟨g72,0,none⟩) 1 1 [[85,80,68,65,84,69]] rfl (FlV.blk (x:=[[85,80,68,65,84,69]]) (g:=sC) rfl)) Tryz.func47 rfl rfl rfl ?_)
  rintro _ _ ⟨rfl,rfl⟩
  try simp only [cA,nA]
  refine La rfl ?_
  refine Ld ?_
  rw [plus_go]
  dsimp only [Option.isSome,Option.getD]
  refine zF rfl ?_
  refine Ts ?_
  refine TR ?_
  refine Lm rfl ?_
  refine LW.p rfl (Ee.call (Ps.name B gs ⟨p,c,en,plusL⟩ 1 0 (by rw [hl];decide) (by omega) plus_text) Tryz.func79 rfl rfl rfl (by exact (λ pv ⟨e,he,hp⟩=>FnEPost.dead ⟨e,(by rw [plus_n1] at he;cases he),hp⟩ Sa)) ?_)
  rintro _ _ ⟨x,e1,rfl,ex,_,rfl⟩
  try simp only [cA,nA]
  rw [plus_n1] at e1
  cases e1
  refine Lq (Q0 rfl) ?_
  refine L0 (E1 rfl rfl rfl (by first | (simp;done) | (simp;omega)) ?_)
  try simp only [List.set_cons_zero,List.set_cons_succ]
  refine Lq (Qf (off:=1) rfl) ?_
  refine L0 (E1 rfl rfl rfl (by first | (simp;done) | (simp;omega)) ?_)
  try simp only [List.set_cons_zero,List.set_cons_succ]
  refine Ld ?_
  refine Ts ?_
  refine TR ?_
  refine Lm rfl ?_
  refine Le (zK [_] (e:=9) (sz:=1) ⟨.string .empty,by kernel_rfl,rfl⟩ rfl rfl rfl ?_)
  intro g79
  refine LW.p rfl (Ee.call (Ps.must B [blk g79 [.string ⟨#[83,69,84]⟩] 9] gs ⟨p,c,en,plusL⟩ 2 0 (by rw [hl];decide) (by omega) (some ⟨g79,0,none⟩) 1 1 [[83,69,84]] rfl (by omega) (FlV.blk (x:=[[83,69,84]]) (g:=sC) rfl)) Tryz.func80 rfl rfl rfl (by exact (λ pv ⟨e,he,hp⟩=>FnEPost.dead ⟨e,(by rw [plus_m2] at he;cases he),hp⟩ Sa)) ?_)
  rintro _ _ ⟨bb,e2,rfl,rfl⟩
  try simp only [cA,nA]
  rw [plus_m2] at e2
  cases e2
  refine Ld ?_
  refine Ts ?_
  refine TR ?_
  refine Lm rfl ?_
  refine Lm rfl ?_
  refine Lq (Qt.makeFuncF [_] rfl) ?_
  refine LW.p rfl (Ee.call (Ps.sets B gs ⟨p,c,en,plusL⟩ 3 (by rw [hl];decide) plus_text (by rw [hl];decide) (plus_n3 p c en) (plus_m4 p c en) (by rw [hl];decide) (plus_e5 p c en) (by rw [hl];decide) rfl) Tryz.func87 rfl rfl rfl (by exact (λ pv ⟨e,he,hp⟩=>FnEPost.dead ⟨e,(by cases he),hp⟩ Sa)) ?_)
  rintro _ _ ⟨g,A,e,rfl,hv,rfl⟩
  try simp only [cA,nA]
  refine Lq (Qf (off:=5) rfl) ?_
  refine L0 (E1 rfl rfl rfl (by first | (simp;done) | (simp;omega)) ?_)
  try simp only [List.set_cons_zero,List.set_cons_succ]
  refine Ld ?_
  refine TR ?_
  refine Lm rfl ?_
  refine LW.p rfl (Ee.call (Ps.portion B gs ⟨p,c,en,plusL⟩ 8 (by rw [hl];decide) (by omega) rfl) Tryz.func89 rfl rfl rfl (by exact (λ pv ⟨e,he,hp⟩=>FnEPost.dead ⟨e,(by cases he),hp⟩ Sa)) ?_)
  rintro _ _ ⟨rfl,rfl⟩
  try simp only [cA,nA]
  refine Lm rfl ?_
  refine LW.p rfl (Ee.call (Ps.where B gs ⟨p,c,en,plusL⟩ 8 (by rw [hl];decide) plus_text (by rw [hl];decide)) Tryz.func90 rfl rfl rfl (by exact (λ pv ⟨e,he,hp⟩=>FnEPost.dead ⟨e,(by rw [plus_w8] at he;cases he),hp⟩ Sa)) ?_)
  rintro _ _ ⟨x,b,AW,pw,cw,hw,_,_,rfl,_,rfl⟩
  try simp only [cA,nA]
  rw [plus_w8] at hw
  cases hw
  refine Lq (Qf (off:=6) rfl) ?_
  refine L0 (Es [_,_] rfl rfl rfl rfl (by simp) ?_)
  try simp only [splice,lC,lN,dS,cA,tS,tZ,dZ,nA,aN]
  refine Lq (Qf (off:=8) rfl) ?_
  refine L0 (E1 rfl rfl rfl (by first | (simp;done) | (simp;omega)) ?_)
  try simp only [List.set_cons_zero,List.set_cons_succ]
  refine Ld ?_
  refine Ts ?_
  refine TR ?_
  refine Lq (QL [_,_,_,_,_,_,_,_,_,_,_,_,_,_] rfl ⟨rfl,rfl,rfl,rfl,rfl,rfl,rfl,rfl,rfl,rfl,rfl,rfl,rfl,rfl,trivial⟩) ?_
  refine L0 (Es [_,_,_,_,_,_,_,_,_,_,_,_,_,_] rfl rfl rfl rfl (by simp) ?_)
  try simp only [splice,lC,lN,dS,cA,tS,tZ,dZ,nA,aN]
  refine Ld ?_
  refine T.ret ?_
  exact ⟨.inl rfl,_,_,res [_] rfl ⟨rvA [_,_,_,_,_,_,_,_,_,_,_,_,_,_] rfl ⟨rfl,rfl,rfl,rfl,rfl,rfl,rfl,rfl,rfl,rfl,rfl,rfl,rfl,rfl,trivial⟩,trivial⟩,⟨g,A,e,AW,pw,cw,rfl,hv,rfl⟩,Sa⟩
open Go.RowKit
def PlusPost (B:Wn) (u:Value) (l:List Wp):Prop := ∃ g A e pw cw,u = .tuple #[.agg (stU (.slice (some ⟨g,0,none⟩) 1 1) (.slice pw 0 cw)).toArray,.agg #[iV 0,iV 0]]/\ExV B [A] plusE e/\l=[blk g [tV [65],e.op,e.n,e.text,e.of,e.args] 78,A]
theorem plus_end : (mayA plusL 8 [[59]])=none:=by rfl
theorem Ps.plus (B:Wn) (h0:B.low=0):Fn Tryz.prog B 19 #[tV plusS] [] (PlusPost B):=by
  have hpl:plusL.length=8:=rfl
  have htk:=Lx.tokens B h0 plusS (by decide)
  refine ⟨λ w F ho=>?_⟩
  refine calls_of_wp_defers Tryz.func19 rfl ?_
  rw [show (Func.ntmps _)=38 from rfl,enter_eq [_] 38 (nB rfl)]
  apply wp_seq
  apply wp_region_lit
  refine (?_:LD _ _ _ 38 [] _ _ _).run
  refine wle ho (El zSt (by unfold Zf;kernel_rfl) ?_)
  intro g2 w2 ho2
  refine wle ho2 (El [iV 0,iV 0] (by unfold Zf;kernel_rfl) ?_)
  intro g3 w3 ho3
  refine LD.done ?_
  show (Code.seq _ _).wp _ _ _ _
  apply wp_seq
  apply wp_region_lit
  refine (?_:LD _ _ _ 38 [] _ _ _).run
  refine wlq ho3 (Qm rfl) ?_
  refine wle ho3 (Ec htk Tryz.func44 rfl rfl rfl ?_)
  intro u l hpost w4 ho4
  unfold TokPost at hpost
  have hlx:=plus_lex
  rw [hlx] at hpost
  obtain ⟨p,c,rfl,rfl⟩:=hpost
  refine wlq ho4 (Qm rfl) ?_
  refine wlq ho4 (Qx rfl rfl) ?_
  refine wlq ho4 (Qx rfl rfl) ?_
  refine wlq ho4 (Qa rfl) ?_
  refine wle ho4 (Es [_,_] rfl rfl rfl rfl (by simp) ?_)
  intro w5 ho5'
  have ho5:Own B w5 (tkR p plusL.length c plusL::blk g3 [iV 0,iV 0] 70::blk g2 zSt 68::F):=ho5'
  refine LD.done ?_
  show (Code.seq _ _).wp _ _ _ _
  apply wp_seq
  apply wp_seq
  apply wp_region_lit
  refine (?_:LD _ _ _ 38 [] _ _ _).run
  refine wlq ho5 (Qf (off:=0) rfl) ?_
  refine wlq ho5 (Ql (v:=iV 0) rfl rfl) ?_
  refine wlq ho5 (yW rfl rfl) ?_
  refine LD.done ?_
  show (Code.cond _ _ _).wp _ _ _ _
  refine wp_cond (t:=false) rfl ?_
  simp only [Bool.false_eq_true,if_false]
  refine wp_skip ?_
  show (Code.seq _ _).wp _ _ _ _
  apply wp_seq
  apply wp_region_lit
  refine (?_:LD _ _ _ 38 [] _ _ _).run
  refine wlq ho5 (Y4 [.pointer (some ⟨g2,0,none⟩),.pointer (some ⟨g3,0,none⟩)] rfl) ?_
  refine ldDefer rfl (psD g2 g3) (λ w=>?_) ?_
  . simp [execOp,resolve,Deferred.ofValue]
    rfl
  refine LD.done ?_
  show (Code.seq _ _).wp _ _ _ _
  apply wp_seq
  apply wp_region_lit
  refine (?_:LD _ _ _ 38 [psD g2 g3] _ _ _).run
  refine wlq ho5 (Qm rfl) ?_
  refine wlq ho5 (Qm rfl) ?_
  refine wlq ho5 (YU rfl) ?_
  refine wlq ho5 (z8 [(0,1),(1,1),(2,1),(3,1)] [.slice none 0 0,iV 0,iV 0,iV 0] [_,_,_,_] [(0,_),(2,_)] (by unfold Zf;kernel_rfl) rfl rfl) ?_
  refine wle ho5 (zL [_,_,_,_] rfl rfl ?_)
  intro gs w6 ho6
  refine wlq ho6 (Qa rfl) ?_
  refine LD.done ?_
  show (Code.seq _ _).wp _ _ _ _
  apply wp_seq
  apply wp_region_lit
  refine (?_:LD _ _ _ 38 [psD g2 g3] _ _ _).run
  refine wlq ho6 (Qm rfl) ?_
  have hst:=Ps.update B gs p c plusS.length
  have hfn:=hst.fn (by rintro v ⟨e,he,-⟩;cases he)
  refine wle ho6 (Ec hfn Tryz.func46 rfl rfl rfl ?_)
  rintro _ _ ⟨g,A,e,AW,pw,cw,rfl,hv,rfl⟩ w7 ho7
  obtain ⟨o1,n1,x1,f1,a1,m1,k1,rfl⟩:=hv.form
  refine wle ho7 (Es [_,_,_,_,_,_,_,_,_,_,_,_,_,_] rfl rfl rfl rfl (by simp) ?_)
  intro w8 ho8'
  have ho8:Own B w8 (blk g [tV [65],tV o1,iV n1,tV x1,tV f1,.slice a1 m1 k1] 78::A::AW::srB gs ⟨p,c,plusS.length,plusL⟩ 8 0::srT ⟨p,c,plusS.length,plusL⟩::blk g3 [iV 0,iV 0] 70::blk g2 (stU (.slice (some ⟨g,0,none⟩) 1 1) (.slice pw 0 cw)) 68::F):=ho8'
  refine LD.done ?_
  show (Code.seq _ _).wp _ _ _ _
  apply wp_seq
  apply wp_region_lit
  refine (?_:LD _ _ _ 38 [psD g2 g3] _ _ _).run
  refine wlq ho8 (Qm rfl) ?_
  refine wle ho8 (zK [_] (e:=9) (sz:=1) ⟨.string .empty,by kernel_rfl,rfl⟩ rfl rfl rfl ?_)
  intro g25 w9 ho9
  refine wle ho9 (Ec (Ps.may B [blk g25 [.string ⟨#[59]⟩] 9] gs ⟨p,c,plusS.length,plusL⟩ 8 0 (hq:=(by dsimp only;rw [hpl];omega)) (some ⟨g25,0,none⟩) 1 1 [[59]] rfl (FlV.blk (x:=[[59]]) (g:=sC) rfl)) Tryz.func47 rfl rfl rfl ?_)
  rintro _ _ ⟨rfl,rfl⟩ w10 ho10
  simp only [List.cons_append,List.nil_append] at ho10
  rw [show (mayA (⟨p,c,plusS.length,plusL⟩:Sq).L 8 [[59]])=none from plus_end] at ho10
  simp only [Option.getD_none] at ho10
  refine LD.done ?_
  show (Code.seq _ _).wp _ _ _ _
  apply wp_seq
  apply wp_seq
  apply wp_region_lit
  refine (?_:LD _ _ _ 38 [psD g2 g3] _ _ _).run
  refine wlq ho10 (Qm rfl) ?_
  refine wlq ho10 (Qn rfl) ?_
  refine wlq ho10 (Qf (off:=1) rfl) ?_
  refine wlq ho10 (Ql (v:=iV 8) rfl rfl) ?_
  refine wlq ho10 (Qm rfl) ?_
  refine wlq ho10 (yI (e:=171) (sz:=4) rfl) ?_
  refine wlq ho10 (yM rfl rfl) ?_
  refine LD.done ?_
  show (Code.cond _ _ _).wp _ _ _ _
  refine wp_cond (t:=false) rfl ?_
  simp only [Bool.false_eq_true,if_false]
  refine wp_skip ?_
  show (Code.seq _ _).wp _ _ _ _
  apply wp_seq
  apply wp_region_lit
  refine (?_:LD _ _ _ 38 [psD g2 g3] _ _ _).run
  refine wlq ho10 (QL [_,_,_,_,_,_,_,_,_,_,_,_,_,_] rfl ⟨rfl,rfl,rfl,rfl,rfl,rfl,rfl,rfl,rfl,rfl,rfl,rfl,rfl,rfl,trivial⟩) ?_
  refine wlq ho10 (z8 [(0,1),(1,1)] [.int .i64 0,.int .i64 0] [_,_] [] (by unfold Zf;kernel_rfl) rfl rfl) ?_
  refine wle ho10 (Es [_,_,_,_,_,_,_,_,_,_,_,_,_,_] rfl rfl rfl rfl (by simp) ?_)
  intro w11 ho11
  refine wle ho11 (Es [_,_] rfl rfl rfl rfl (by simp) ?_)
  intro w12 ho12
  refine LD.done ?_
  refine wp_ret ?_
  refine leaves_cons (by simp) (Ps.inv g2 g3 _) ((Ps.calm B _ g2 g3 w12 ho12).mono ?_)
  rintro _ _ w13 ⟨rfl,rfl,ho13⟩
  simp only [settle]
  show ∃ u,(results Tryz.f19 (act 38 _).tmps).run Tryz.prog w13 = .ok u w13/\_
  refine ⟨_,res (rs:=[.cell 2 68,.cell 3 70]) [_,_] rfl ⟨rvA [_,_,_,_,_,_,_,_,_,_,_,_,_,_] rfl ⟨rfl,rfl,rfl,rfl,rfl,rfl,rfl,rfl,rfl,rfl,rfl,rfl,rfl,rfl,trivial⟩,rvA [_,_] rfl ⟨rfl,rfl,trivial⟩,trivial⟩ w13 ho13,_,_,rfl,⟨g,A,_,pw,cw,rfl,hv,rfl⟩,ho13.map Sa⟩
open Go.RowKit
def plusT : Tm := .mk [43] 1 vZ 0 [.mk sCol 1 vZ 0 [],.mk sVal 1 ⟨1,1,[]⟩ 0 []]
theorem plus_bind : bindE tblSc plusE = .ok plusT:=by
  simp [plusE,opEx,bindE,bindL,plusT,findC,hits,tabs,tblSc,hitB,tabB,okT,kindP,Tm.kind,alls,kindAt,cmpOp,List.range,List.range.loop]
theorem plus_ok : TmOk plusT:=bindE_ok tblSc plusE plusT plus_bind
def RowP (row:List Va):Prop := ∃ a s,row=[⟨1,a,[]⟩,⟨2,0,s⟩] /\ -(2^63)<=a/\a<=2^62
theorem plus_add {a:Int} (h : -(2^63)<=a/\a<=2^62):arithE [43] a 1 = .ok ⟨1,a+1,[]⟩:=by
  have hw:w64 (a+1)=a+1:=by simp only [w64];exact Ze
  have hp:arithP [43] a 1=(a+1,true):=by
    unfold arithP
    rw [if_pos rfl,hw,decide_eq_true (show a<a+1 by omega)]
    rfl
  unfold arithE
  rw [hp]
  rfl
theorem plus_val {a:Int} {s:Str} (h : -(2^63)<=a/\a<=2^62):evalR [⟨1,a,[]⟩,⟨2,0,s⟩] plusT=(⟨1,a+1,[]⟩,0):=by
  have e:evalT [⟨1,a,[]⟩,⟨2,0,s⟩] plusT = .ok ⟨1,a+1,[]⟩:=by
    simp [plusT,evalT,colT,reckonT]
    exact plus_add h
  unfold evalR
  rw [e]
open Go.RowKit
theorem LsV.one {B:Wn} {S:List Wp} {v:Value} {R:List Fq} {g:Nat} (h:FctV B S v R):LsV B (blk g [v] 22::S) (.slice (some ⟨g,0,none⟩) 1 1) [(v,R)] :=
  ⟨FlV.blk (x:=[(v,R)]) (g:=λ x:Value×List Fq=>[x.1]) rfl,λ x hx=>by simp at hx;subst hx;exact h.mono λ w ho=>ho.tl⟩
def clpZ (y:Int×Int) (L:List Fz):List Fz:=(L.filter λ f=>ovB (pdF f) y).map λ f=>⟨f.row,(ovX (pdF f) y).1,(ovX (pdF f) y).2⟩
theorem clp_snoc {y:Int×Int} {L:List Fz} {i:Nat} {f:Fz} (h:L[i]? = some f):clpZ y (L.take (i+1))=clpZ y (L.take i)++(if ovB (pdF f) y=true then [⟨f.row,(ovX (pdF f) y).1,(ovX (pdF f) y).2⟩] else []):=by
  unfold clpZ
  rw [filter_snoc h,List.map_append]
  split <;> rfl
theorem Ra.clip (B:Wn) (S:List Wp) (a:Option Addr) (m c:Nat) (Q:List Fq) (h:FctV B S (.slice a m c) Q) (hm:Q.length=m) (hb:m<2^36) (y:Int×Int):Fn Tryz.prog B 15 #[.slice a m c,pdV y.1 y.2] S (NormPost B S (cnt (clpZ y (Q.map Fq.fz))) m):=by
 refine Wr 37 Tryz.func15 rfl rfl (nB rfl) (λ F=>?_)
 refine Ts ?_
 refine TR ?_
 refine Le (zL [_,_] rfl rfl ?_)
 intro g3
 refine La rfl ?_
 refine Ld ?_
 refine Ts ?_
 refine TR ?_
 refine La rfl ?_
 refine Ld ?_
 refine Ts ?_
 refine Ts ?_
 refine TR ?_
 refine Lm rfl ?_
 refine Lq (yI (e:=35) (sz:=3) rfl) ?_
 refine Lm rfl ?_
 refine Ld ?_
 refine yH ?_
 refine T.conv (l':=fqR none 0 0 []::pu True::_) (λ w ho=>(ho.row_nil 35 3).map λ _ H=>Has.swap (Has.close_pu trivial H)) ?_
 refine zG (λ mz fz lz => ∃ (f0:Fr) (i:Nat) (R:List Fq) (A:Wp) (p:Option Addr) (n0 c0:Nat),(i<=m/\R.map Fq.fz=clpZ y ((Q.map Fq.fz).take i)/\R.length=n0/\n0<=i/\FqsA B A R/\(0<n0 -> ∃ g,p=some ⟨g,0,none⟩))/\mz=m-i/\fz=(upd (upd (upd (upd (upd f0 3 (.pointer (some ⟨g3,0,none⟩))) 5 (.slice p n0 c0)) 10 (.slice a m c)) 11 (iV m)) 12 (iV i))/\lz=fqR p n0 c0 R::A::blk g3 (pC y) 33::(S++F)) ?_ ?_
 . refine ⟨_,_,⟨_,0,[],pu True,none,0,0,⟨Nat.zero_le _,rfl,rfl,Nat.le_refl _,by intro x hx;simp at hx,λ z=>absurd z (by omega)⟩,rfl,(Za rfl (Za rfl (Za rfl (Za rfl (Za rfl rfl))))),rfl⟩,Sa⟩
 rintro mz fz lz ⟨f0,i,R,A,p,n0,c0,⟨hi,hR,hRn,hni,hA,hp⟩,hmz,rfl,rfl⟩
 subst mz
 refine Ts ?_
 refine TR ?_
 refine Lq (yM rfl rfl) ?_
 refine Ld ?_
 refine Ts ?_
 refine yN rfl (λ hlt=>?_) (λ hlt=>?_)
 .
  obtain ⟨b,o,rfl,hr⟩:=h.l.at (sz:=3) (λ _=>rfl) (by omega)
  obtain ⟨x,hx⟩ : ∃ x,Q[i]? = some x:=⟨_,List.getElem?_eq_getElem (by omega)⟩
  have hx1:=hr i x hx
  have hxv:=h.r x (List.mem_of_getElem? hx)
  have hsn:=clp_snoc (y:=y) (show (Q.map Fq.fz)[i]? = some x.fz by rw [List.getElem?_map,hx];rfl)
  obtain ⟨pa,ca,ex⟩:=hxv.form
  obtain ⟨xs,xr,xf,xt⟩:=x
  dsimp only [Fq.fz] at ex hsn
  subst ex
  refine Tk ?_
  refine Ts ?_
  refine yH ?_
  refine Ts ?_
  refine TR ?_
  refine Lq (Qi _ (e:=35) (sz:=3) rfl rfl rfl) ?_
  refine Lq (Qt.loadAggW (fqC ⟨.slice pa xr.length ca,xr,xf,xt⟩) rfl (λ w ho=>hx1 w (ho.map Sa))) ?_
  refine Le (El [.slice none 0 0,.int .i64 0,.int .i64 0] (by unfold Zf;kernel_rfl) ?_)
  intro g7
  refine L0 (Es [_,_,_] rfl rfl rfl rfl (by simp) ?_)
  try simp only [splice,lC,lN,dS,cA,tS,tZ,dZ,nA,aN]
  refine Ld ?_
  refine Ts ?_
  refine TR ?_
  refine Lq (Qf (off:=1) rfl) ?_
  refine Lq (QL [_,_] rfl ⟨rfl,rfl,trivial⟩) ?_
  refine Lq (QL [_,_] rfl ⟨rfl,rfl,trivial⟩) ?_
  refine Le (Ec (Ra.overlap B (xf,xt) y) Tryz.func40 rfl rfl rfl ?_)
  rintro _ _ ⟨rfl,rfl⟩
  try simp only [cA,nA]
  by_cases hov:ovB (xf,xt) y=true
  .
   have eR:ovR (xf,xt) y=ovX (xf,xt) y:=if_pos hov
   rw [if_pos hov] at hsn
   rw [hov,eR]
   refine Lm rfl ?_
   refine Lq (Qx rfl rfl) ?_
   refine Lq (Qx rfl rfl) ?_
   refine Le (El [.int .i64 0,.int .i64 0] (by unfold Zf;kernel_rfl) ?_)
   intro g8
   refine L0 (Es [_,_] rfl rfl rfl rfl (by simp) ?_)
   try simp only [splice,lC,lN,dS,cA,tS,tZ,dZ,nA,aN]
   refine La rfl ?_
   refine Ld ?_
   refine Ts ?_
   refine TR ?_
   refine Lm rfl ?_
   refine Ld ?_
   refine zF rfl ?_
   refine T.draw 9 ([blk g7 (fqC ⟨.slice pa xr.length ca,xr,xf,xt⟩) 35,blk g8 (pC (ovX (xf,xt) y)) 33]) (nB rfl) ?_
   refine Rq 0 rfl Sa (Qm rfl) ?_
   refine Rq 1 rfl Sa (Q0 rfl) ?_
   refine Rq 2 rfl Sa (Ql rfl rfl) ?_
   refine Rq 5 rfl Sa (QL [_,_] rfl ⟨rfl,rfl,trivial⟩) ?_
   refine yK 3 ?_
   refine z6 rfl (zK [_] (e:=31) (sz:=1) ⟨.slice none 0 0,by kernel_rfl,rfl⟩ rfl rfl rfl ?_)
   intro g27
   refine ⟨Sa,?_⟩
   refine yK 4 ?_
   refine z6 rfl (Ec (Qe.copied B S g27 31 pa xr.length ca xr hxv.2 rfl hxv.1) Tryz.func41 rfl rfl rfl ?_)
   rintro _ _ ⟨pq,cq,rfl,hpq,rfl⟩
   try simp only [cA,nA]
   refine ⟨Sa,?_⟩
   refine Rq 6 rfl Sa (z8 [(0,1),(1,2)] [.slice none 0 0,.int .i64 0,.int .i64 0] [_,_,_] [(0,_),(1,_)] (by unfold Zf;kernel_rfl) rfl rfl) ?_
   refine yK 7 ?_
   refine zY rfl (zK [_,_,_] (e:=35) (sz:=3) ⟨.agg #[.slice none 0 0,.int .i64 0,.int .i64 0],by kernel_rfl,rfl⟩ rfl rfl rfl ?_)
   intro g31
   refine yK 8 ?_
   refine zY rfl (Ea Qe.elemF rfl rfl (SrcOf.blk (by kernel_rfl) rfl (by simp [Value.oneCell'])) (by unfold maxLen;omega) ?_)
   rintro p4 c4 hp4
   try simp only [cA,nA]
   have hfx:FqV B [vaR pq xr.length cq xr] ⟨.slice pq xr.length cq,xr,(ovX (xf,xt) y).1,(ovX (xf,xt) y).2⟩:=⟨hxv.1,FlV.row (l:=[]) (sz:=3) (λ _=>rfl) (by omega) rfl hpq⟩
   have hsn2:=hA.snoc hfx
   rw [show R.flatMap fqC++[.slice pq xr.length cq,iV (ovX (xf,xt) y).1,iV (ovX (xf,xt) y).2]=(R++[(⟨.slice pq xr.length cq,xr,(ovX (xf,xt) y).1,(ovX (xf,xt) y).2⟩:Fq)]).flatMap fqC by simp]
   refine Rd0 (by rfl) ?_
   simp only [dS,dZ,dN]
   refine La rfl ?_
   refine Ld ?_
   refine TR ?_
   refine Lq (Qd rfl rfl (Ze)) ?_
   refine Lm rfl ?_
   refine Ld ?_
   refine ⟨_,?_,_,⟨_,i+1,R++[⟨.slice pq xr.length cq,xr,(ovX (xf,xt) y).1,(ovX (xf,xt) y).2⟩],sepL [A,vaR pq xr.length cq xr],p4,n0+1,c4,⟨by omega,by rw [hsn,List.map_append,hR];rfl,by simp [hRn],by omega,hsn2,hp4⟩,rfl,(Za rfl (Za rfl (Za rfl (Za rfl (Za rfl rfl))))),rfl⟩,Sa⟩
   omega
  have hov:ovB (xf,xt) y=false:=by simpa using hov
  rw [if_neg (by simp [hov]),List.append_nil] at hsn
  rw [hov]
  refine Lm rfl ?_
  refine Lq (Qx rfl rfl) ?_
  refine Lq (Qx rfl rfl) ?_
  refine Le (El [.int .i64 0,.int .i64 0] (by unfold Zf;kernel_rfl) ?_)
  intro g8
  refine L0 (Es [_,_] rfl rfl rfl rfl (by simp) ?_)
  try simp only [splice,lC,lN,dS,cA,tS,tZ,dZ,nA,aN]
  refine La rfl ?_
  refine Ld ?_
  refine Ts ?_
  refine TR ?_
  refine Lm rfl ?_
  refine Ld ?_
  refine yQ rfl ?_
  refine Tk ?_
  refine TR ?_
  refine Lq (Qd rfl rfl (Ze)) ?_
  refine Lm rfl ?_
  refine Ld ?_
  refine ⟨_,?_,_,⟨_,i+1,R,A,p,n0,c0,⟨by omega,by rw [hsn];exact hR,hRn,by omega,hA,hp⟩,rfl,(Za rfl (Za rfl (Za rfl (Za rfl (Za rfl rfl))))),rfl⟩,Sa⟩
  omega
 have ez:(Q.map Fq.fz).take i=Q.map Fq.fz:=List.take_of_length_le (by rw [List.length_map];omega)
 rw [ez] at hR
 refine zB ?_
 refine Ts ?_
 refine TR ?_
 refine Lm rfl ?_
 refine Le (zK [_] (e:=22) (sz:=1) ⟨.slice none 0 0,by kernel_rfl,rfl⟩ rfl rfl rfl ?_)
 intro g35
 refine Le (Ec (Qe.normal B [blk g35 [.slice p n0 c0] 22,fqR p n0 c0 R,A] (some ⟨g35,0,none⟩) 1 1 [(.slice p n0 c0,R)] (LsV.one (FctV.own hA hRn hp)) rfl (by decide) (by simp [allQ];omega)) Tryz.func10 rfl rfl rfl ?_)
 rintro _ _ ⟨Q4,B4,q4,d4,rfl,hq4,hB4,hn4,hl4,rfl⟩
 try simp only [cA,nA]
 rw [show allQ [((.slice p n0 c0:Value),R)]=R by simp [allQ]] at hn4 hl4
 rw [hR] at hn4
 refine La rfl ?_
 refine Ld ?_
 refine T.ret ?_
 exact ⟨.inl rfl,_,_,res [_] rfl ⟨rvT rfl,trivial⟩,⟨Q4,B4,q4,d4,rfl,hq4,hB4,hn4,by omega,rfl⟩,Sa⟩
open Go.RowKit
def slcN (t:Int) (L:List Fz):Nat:=((L.filter okF).filter λ f=>hasX (pdF f) t).length
theorem Ra.elemR : ElemOk Tryz.prog 87 31 1 24 := .mk' (.slice none 0 0) Tryz.underlying87 (by kernel_rfl) rfl (by omega)
theorem Ra.slice (B:Wn) (S:List Wp) (a:Option Addr) (m c:Nat) (Q:List Fq) (h:FctV B S (.slice a m c) Q) (hm:Q.length=m) (hb:m<2^36) (t:Int):Fn Tryz.prog B 23 #[.slice a m c,iV t] S (λ u l => ∃ p e,u = .slice p (slcN t (Q.map Fq.fz)) e/\l=S):=by
 refine Wr 26 Tryz.func23 rfl rfl (nB rfl) (λ F=>?_)
 refine Ts ?_
 refine TR ?_
 refine La rfl ?_
 refine Ld ?_
 refine Ts ?_
 refine TR ?_
 refine La rfl ?_
 refine Ld ?_
 refine Ts ?_
 refine Ts ?_
 refine TR ?_
 refine Lm rfl ?_
 refine Le (Ec (Qe.right B S a m c Q h hm) Tryz.func27 rfl rfl rfl ?_)
 rintro _ _ ⟨R,A,p1,c1,rfl,hp1,hA,hperm,hord,hRl,rfl⟩
 try simp only [cA,nA]
 obtain ⟨k,hk⟩ : ∃ k,k=R.length:=⟨_,rfl⟩
 rw [<-hk] at hp1 ⊢
 refine Lq (yI (e:=35) (sz:=3) rfl) ?_
 refine Lm rfl ?_
 refine Ld ?_
 refine yH ?_
 refine T.conv (l':=row (.slice none 0 0) 31 1 0 []::_) (λ w ho=>ho.row_nil 31 1) ?_
 refine zG (λ mz fz lz => ∃ (f0:Fr) (i:Nat) (W:List Value) (p:Option Addr) (n0 c0:Nat),(i<=k/\(((R.map Fq.fz).take i).filter λ f=>hasX (pdF f) t).length=n0/\n0<=i/\(0<n0 -> ∃ g,p=some ⟨g,0,none⟩))/\mz=k-i/\fz=(upd (upd (upd (upd (upd f0 1 (iV t)) 5 (.slice p n0 c0)) 9 (.slice p1 k c1)) 10 (iV k)) 11 (iV i))/\lz=row (.slice p n0 c0) 31 1 n0 W::fqR p1 k c1 R::A::(S++F)) ?_ ?_
 . refine ⟨_,_,⟨_,0,[],none,0,0,⟨Nat.zero_le _,rfl,Nat.le_refl _,λ z=>absurd z (by omega)⟩,rfl,(Za rfl (Za rfl (Za rfl (Za rfl (Za rfl rfl))))),rfl⟩,Sa⟩
 rintro mz fz lz ⟨f0,i,W,p,n0,c0,⟨hi,hn,hni,hp⟩,hmz,rfl,rfl⟩
 subst mz
 refine Ts ?_
 refine TR ?_
 refine Lq (yM rfl rfl) ?_
 refine Ld ?_
 refine Ts ?_
 refine yN rfl (λ hlt=>?_) (λ hlt=>?_)
 .
  obtain ⟨g1,rfl⟩:=hp1 (by omega)
  obtain ⟨x,hx⟩ : ∃ x,R[i]? = some x:=⟨_,List.getElem?_eq_getElem (by omega)⟩
  have hxv:=hA x (List.mem_of_getElem? hx)
  have hsn:=filter_snoc (p:=λ f:Fz=>hasX (pdF f) t) (show (R.map Fq.fz)[i]? = some x.fz by rw [List.getElem?_map,hx];rfl)
  obtain ⟨pa,ca,ex⟩:=hxv.form
  obtain ⟨xs,xr,xf,xt⟩:=x
  dsimp only [Fq.fz] at ex hsn
  subst ex
  have hc:=λ j v hv=>flat_part (g:=fqC) (sz:=3) (λ _=>rfl) hx j v hv
  refine Tk ?_
  refine Ts ?_
  refine yH ?_
  refine Ts ?_
  refine TR ?_
  refine Lq (Qi i (e:=35) (sz:=3) rfl rfl rfl) ?_
  refine Lq (QL (fqC ⟨.slice pa xr.length ca,xr,xf,xt⟩) rfl ⟨by rw [Nat.zero_add];exact hc 0 _ rfl,by rw [Nat.zero_add];exact hc 1 _ rfl,by rw [Nat.zero_add];exact hc 2 _ rfl,trivial⟩) ?_
  refine Le (El [.slice none 0 0,.int .i64 0,.int .i64 0] (by unfold Zf;kernel_rfl) ?_)
  intro g7
  refine L0 (Es [_,_,_] rfl rfl rfl rfl (by simp) ?_)
  try simp only [splice,lC,lN,dS,cA,tS,tZ,dZ,nA,aN]
  refine Ld ?_
  refine Ts ?_
  refine TR ?_
  refine Lq (Qf (off:=1) rfl) ?_
  refine Lq (QL [_,_] rfl ⟨rfl,rfl,trivial⟩) ?_
  refine Lm rfl ?_
  refine Le (Ec (Qd.has B (xf,xt) t) Tryz.func51 rfl rfl rfl ?_)
  rintro _ _ ⟨rfl,rfl⟩
  try simp only [cA,nA]
  by_cases hh:hasX (xf,xt) t=true
  .
   rw [if_pos hh] at hsn
   rw [hh]
   refine Ld ?_
   refine zF rfl ?_
   refine TR ?_
   refine Lm rfl ?_
   refine Lq (Q0 rfl) ?_
   refine Lq (Ql rfl rfl) ?_
   refine Le (zK [_] (e:=31) (sz:=1) ⟨.slice none 0 0,by kernel_rfl,rfl⟩ rfl rfl rfl ?_)
   intro g22
   refine Le (Ea Ra.elemR rfl rfl (SrcOf.blk (by kernel_rfl) rfl (by simp [Value.oneCell'])) (by unfold maxLen;omega) ?_)
   rintro p4 c4 hp4
   refine La rfl ?_
   refine Ld ?_
   refine TR ?_
   refine Lq (Qd rfl rfl (Ze)) ?_
   refine Lm rfl ?_
   refine Ld ?_
   refine ⟨_,?_,_,⟨_,i+1,W++[.slice pa xr.length ca],p4,n0+1,c4,⟨by omega,by rw [hsn,List.length_append,hn];rfl,by omega,hp4⟩,rfl,(Za rfl (Za rfl (Za rfl (Za rfl (Za rfl rfl))))),rfl⟩,Sa⟩
   omega
  have hh:hasX (xf,xt) t=false:=by simpa using hh
  rw [if_neg (by simp [hh]),List.append_nil] at hsn
  rw [hh]
  refine Ld ?_
  refine yQ rfl ?_
  refine Tk ?_
  refine TR ?_
  refine Lq (Qd rfl rfl (Ze)) ?_
  refine Lm rfl ?_
  refine Ld ?_
  refine ⟨_,?_,_,⟨_,i+1,W,p,n0,c0,⟨by omega,by rw [hsn];exact hn,by omega,hp⟩,rfl,(Za rfl (Za rfl (Za rfl (Za rfl (Za rfl rfl))))),rfl⟩,Sa⟩
  omega
 have ez:(R.map Fq.fz).take i=R.map Fq.fz:=List.take_of_length_le (by rw [List.length_map];omega)
 rw [ez] at hn
 obtain rfl:slcN t (Q.map Fq.fz)=n0:=by unfold slcN;rw [<-hn];exact ((hperm.filter _).length_eq).symm
 refine zB ?_
 refine Ts ?_
 refine TR ?_
 refine Lm rfl ?_
 refine La rfl ?_
 refine Ld ?_
 refine T.ret ?_
 exact ⟨.inl rfl,_,_,res [_] rfl ⟨rvT rfl,trivial⟩,⟨p,c0,rfl,rfl⟩,Sa⟩
open Go.RowKit
theorem cnt_cons (f:Fz) (L:List Fz) (r:List Va) (t:Int):cnt (f::L) r t=cnt [f] r t+cnt L r t:=cnt_append [f] L r t
theorem cnt_one (f:Fz) (r:List Va) (t:Int):cnt [f] r t=if (okP f.fr f.to/\f.row=r)/\f.fr<=t/\t<f.to then 1 else 0:=by
  unfold cnt
  rw [List.filter_cons]
  by_cases h:hitF r t f=true
  . rw [if_pos h]
    simp only [hitF,Bool.and_eq_true,decide_eq_true_eq] at h
    rw [if_pos h]
    rfl
  . rw [if_neg h]
    simp only [hitF,Bool.and_eq_true,decide_eq_true_eq] at h
    rw [if_neg h]
    rfl
abbrev inY (y:Int×Int) (t:Int):Prop:=okP y.1 y.2/\y.1<=t/\t<y.2
theorem ovB_iff (x y:Int×Int):ovB x y=true↔okP x.1 x.2/\okP y.1 y.2/\okP (max x.1 y.1) (min x.2 y.2):=by
  unfold ovB ovX
  simp only [okX,Bool.and_eq_true,decide_eq_true_eq]
  exact ⟨λ ⟨⟨a,b⟩,c⟩=>⟨a,b,c⟩,λ ⟨a,b,c⟩=>⟨⟨a,b⟩,c⟩⟩
theorem max_cases (a b:Int):(max a b=a/\b<=a)\/(max a b=b/\a<=b):=by
  rcases Int.le_total a b with h | h
  . exact .inr ⟨Int.max_eq_right h,h⟩
  . exact .inl ⟨Int.max_eq_left h,h⟩
theorem min_cases (a b:Int):(min a b=a/\a<=b)\/(min a b=b/\b<=a):=by
  rcases Int.le_total a b with h | h
  . exact .inl ⟨Int.min_eq_left h,h⟩
  . exact .inr ⟨Int.min_eq_right h,h⟩
abbrev clF (y:Int×Int) (f:Fz):Fz:=⟨f.row,(ovX (pdF f) y).1,(ovX (pdF f) y).2⟩
theorem cnt_mk (row:List Va) (a b:Int) (r:List Va) (t:Int):cnt [⟨row,a,b⟩] r t=if row=r/\0<=a/\b<=1099511627776/\a<=t/\t<b then 1 else 0:=by
  rw [cnt_one]
  dsimp only
  by_cases h:row=r/\0<=a/\b<=1099511627776/\a<=t/\t<b
  . obtain ⟨h1,h2,h3,h4,h5⟩:=h
    rw [if_pos ⟨⟨⟨h2,by omega,h3⟩,h1⟩,h4,h5⟩,if_pos ⟨h1,h2,h3,h4,h5⟩]
  . rw [if_neg (λ ⟨⟨⟨a1,a2,a3⟩,a4⟩,a5,a6⟩=>h ⟨a4,a1,a3,a5,a6⟩),if_neg h]
theorem cl_one {y:Int×Int} {f:Fz} (h:ovB (pdF f) y=true) (r:List Va) (t:Int):cnt [clF y f] r t=if inY y t then cnt [f] r t else 0:=by
  obtain ⟨h1,h2,h3⟩:=(ovB_iff _ _).1 h
  obtain ⟨row,fr,to⟩:=f
  obtain ⟨y1,y2⟩:=y
  have m1:=max_cases fr y1
  have m2:=min_cases to y2
  rw [show clF (y1,y2) ⟨row,fr,to⟩=⟨row,max fr y1,min to y2⟩ from rfl,cnt_mk,cnt_mk]
  dsimp only [pdF,okP,inY] at h1 h2 h3 ⊢
  generalize max fr y1=M at *
  generalize min to y2=N at *
  by_cases e:row=r
  . simp only [e,true_and]
    split <;> split <;> (try split) <;> omega
  . simp only [e,false_and,if_false]
    split <;> rfl
theorem rst_one {y:Int×Int} {f:Fz} (h:ovB (pdF f) y=true) (r:List Va) (t:Int):cnt (rstF y f) r t+cnt [clF y f] r t=cnt [f] r t:=by
  rw [cl_one h]
  obtain ⟨h1,h2,h3⟩:=(ovB_iff _ _).1 h
  obtain ⟨hx,hy,h12,h21,hxx,hyy⟩:=ov_in h
  obtain ⟨row,fr,to⟩:=f
  obtain ⟨y1,y2⟩:=y
  unfold rstF rstZ lefZ rigZ
  dsimp only [pdF,okP,inY] at h1 h2 h12 h21 hxx hyy ⊢
  rw [List.map_append,cnt_append]
  by_cases e:row=r
  . split <;> split <;> simp only [List.map_cons,List.map_nil,cnt_mk,cnt_nil,e,true_and] <;> (repeat' split) <;> omega
  . split <;> split <;> simp only [List.map_cons,List.map_nil,cnt_mk,cnt_nil,e,false_and,if_false] <;> (repeat' split) <;> omega
theorem no_one {y:Int×Int} {f:Fz} (h:ovB (pdF f) y=false) (r:List Va) (t:Int) (hi:inY y t):cnt [f] r t=0:=by
  have h' : ¬ (okP (pdF f).1 (pdF f).2/\okP y.1 y.2/\okP (max (pdF f).1 y.1) (min (pdF f).2 y.2)):=λ q=>by rw [(ovB_iff _ _).2 q] at h;cases h
  obtain ⟨row,fr,to⟩:=f
  obtain ⟨y1,y2⟩:=y
  have m1:=max_cases fr y1
  have m2:=min_cases to y2
  rw [cnt_mk,if_neg]
  rintro ⟨_,a1,a2,a3,a4⟩
  dsimp only [pdF,okP,inY] at h' hi
  generalize max fr y1=M at *
  generalize min to y2=N at *
  omega
theorem cnt_clp (y:Int×Int) (r:List Va) (t:Int) : ∀ L:List Fz,cnt (clpZ y L) r t=if inY y t then cnt L r t else 0
  | []=>by unfold clpZ;simp [cnt_nil]
  | f::L=>by
    have ih:=cnt_clp y r t L
    unfold clpZ at ih ⊢
    rw [List.filter_cons,cnt_cons f L]
    by_cases h:ovB (pdF f) y=true
    . rw [if_pos h,List.map_cons,cnt_cons,ih,cl_one h]
      split <;> omega
    . rw [if_neg h,ih]
      split
      . rw [no_one (by simpa using h) r t (by assumption)];omega
      . rfl
open Go.RowKit
theorem hit_iff {y:Int×Int} {h:List Va->Bool} {L:List Fz} {n i:Nat} {f:Fz} (e:L[i]? = some f) (hi:i<n):i∈(hitN y h L n).map (·.1)↔hitP y h f=true:=by
  constructor
  . intro hm
    obtain ⟨⟨j,g⟩,hj,rfl⟩:=List.mem_map.1 hm
    obtain ⟨h1,h2⟩:=hit_mem hj
    rw [e] at h1
    cases h1
    exact h2
  . intro hp
    refine List.mem_map.2 ⟨(i,f),?_,rfl⟩
    unfold hitN
    refine List.mem_flatMap.2 ⟨i,List.mem_range.2 hi,?_⟩
    rw [e]
    dsimp only
    rw [if_pos hp]
    exact List.mem_singleton.2 rfl
def updW (y:Int×Int) (W:Fz->List Fz) (H:List (Nat×Fz)):List Fz:=H.flatMap λ q=>rstF y q.2++W q.2
abbrev clH (y:Int×Int) (H:List (Nat×Fz)):List Fz:=H.map λ q=>clF y q.2
theorem take_snoc {L:List Fz} {k:Nat} {f:Fz} (e:L[k]? = some f):L.take (k+1)=L.take k++[f]:=by rw [List.take_add_one,e];rfl
theorem clH_cnt {y:Int×Int} {h:List Va->Bool} {L:List Fz} (r:List Va) (t:Int) : ∀ k,k<=L.length->cnt (clH y (hitN y h L k)) r t=if inY y t/\h r=true then cnt (L.take k) r t else 0
  | 0,_=>by simp [hitN,cnt_nil]
  | k+1,hk=>by
    obtain ⟨f,e⟩ : ∃ f,L[k]? = some f:=⟨_,List.getElem?_eq_getElem (by omega)⟩
    have ih:=clH_cnt (y:=y) (h:=h) (L:=L) r t k (by omega)
    rw [hit_snoc e,take_snoc e,cnt_append]
    unfold clH at ih ⊢
    rw [List.map_append,cnt_append,ih]
    by_cases p:hitP y h f=true
    . rw [if_pos p,List.map_cons,List.map_nil]
      simp only [hitP,Bool.and_eq_true] at p
      rw [cl_one p.1]
      by_cases q:inY y t
      . by_cases w:h r=true
        . rw [if_pos ⟨q,w⟩,if_pos q,if_pos ⟨q,w⟩]
        . have hz:cnt [f] r t=0:=by
            rw [cnt_mk,if_neg]
            rintro ⟨rfl,_⟩
            exact w p.2
          rw [if_neg (λ z=>w z.2),if_pos q,if_neg (λ z=>w z.2),hz];rfl
      . rw [if_neg (λ z=>q z.1),if_neg q,if_neg (λ z=>q z.1)];rfl
    . rw [if_neg p,List.map_nil,cnt_nil]
      by_cases q:inY y t/\h r=true
      . have hz:cnt [f] r t=0:=by
          by_cases w:h f.row=true
          . refine no_one ?_ r t q.1
            by_cases z:ovB (pdF f) y=true
            . exact absurd (by simp only [hitP,z,w,Bool.and_self]) p
            . simpa using z
          . rw [cnt_mk,if_neg]
            rintro ⟨rfl,_⟩
            exact w q.2
        rw [if_pos q,if_pos q,hz]
      . rw [if_neg q,if_neg q];rfl
theorem upd_cnt {y:Int×Int} {h:List Va->Bool} {L:List Fz} {W:Fz->List Fz} (r:List Va) (t:Int) {n:Nat} {E:List Nat} (hE:E=(hitN y h L n).map (·.1)) : ∀ k,k<=L.length->k<=n->cnt (keepN E L k) r t+cnt (updW y W (hitN y h L k)) r t=cnt (L.take k) r t-cnt (clH y (hitN y h L k)) r t+cnt ((hitN y h L k).flatMap λ q=>W q.2) r t
  | 0,_,_=>by simp [hitN,keepN,updW,cnt_nil]
  | k+1,hk,hn=>by
    obtain ⟨f,e⟩ : ∃ f,L[k]? = some f:=⟨_,List.getElem?_eq_getElem (by omega)⟩
    have ih:=upd_cnt (y:=y) (h:=h) (L:=L) (W:=W) r t hE k (by omega) (by omega)
    have hi:=hit_iff (y:=y) (h:=h) e (by omega:k<n)
    rw [<-hE] at hi
    rw [keep_snoc e,hit_snoc e,take_snoc e,cnt_append,cnt_append]
    unfold updW clH at ih ⊢
    by_cases p:hitP y h f=true
    . rw [if_pos (hi.2 p),if_pos p]
      simp only [List.flatMap_append,List.map_append,cnt_append,List.flatMap_cons,List.flatMap_nil,List.append_nil,List.map_cons,List.map_nil,cnt_nil]
      simp only [hitP,Bool.and_eq_true] at p
      have:=rst_one p.1 r t
      omega
    . rw [if_neg (λ z=>p (hi.1 z)),if_neg p]
      simp only [List.append_nil,cnt_append,cnt_nil]
      omega
end Go.Proofs.YtnnfjemaeefbiaaGreatDoor
