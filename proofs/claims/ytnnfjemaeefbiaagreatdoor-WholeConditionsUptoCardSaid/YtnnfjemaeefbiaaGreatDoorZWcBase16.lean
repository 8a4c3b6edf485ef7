/- The texts QhC, one behind the other: what the law leans on. Conditions: as each theorem says. -/
import Derived.Test.YtnnfjemaeefbiaaGreatDoorZWcBase15
set_option linter.unusedSimpArgs false
set_option linter.unusedVariables false
set_option maxRecDepth 100000
set_option maxHeartbeats 16000000
namespace Go.Proofs.YtnnfjemaeefbiaaGreatDoor
open Go.RowKit Go.Shelf Go.Lib Go.Sort
theorem Qh.filter (B:Wn) (A:Wp) (g:Nat) (c:C7) (t:Tm) (ht:TmV B [A] t c) (ot:TypeId) (ou:Value):Fn Tryz.prog B 12 #[.iface ot ou,.slice (some ⟨g,0,none⟩) 1 1] [blk g (c7 c) 27,A] (λ u l => ∃ p e,u = .iface 112 (.agg #[.iface ot ou,.slice p 1 e])/\(∃ g',p=some ⟨g',0,none⟩)/\l=[tmR p 1 e [c],A]):=by
  refine (Qf.filter B [blk g (c7 c) 27,A] ot ou (some ⟨g,0,none⟩) 1 1 [t] [c] (FlV.blk (x:=[c]) (g:=c7) rfl) (TmsS.one (ht.mono λ w ho=>ho.tl)) rfl (by decide)).pre (λ F w ho=>ho) ?_
  rintro v l ⟨p,e,rfl,hp,rfl⟩
  exact ⟨_,⟨p,e,rfl,hp (by decide),rfl⟩,λ F w (ho:Own B w (tmR p 1 e [c]::blk g (c7 c) 27::A::F))=>(ho.map Sa:Own B w (tmR p 1 e [c]::A::F))⟩
theorem Qh.both {B:Wn} {A Ax Ay:Wp} {v:Value} {Q:List Fq} (h:OpC B [A] v Q) (hb:Q.length<2^36) {px py:Option Addr} {ex ey:Nat} {cx cy:C7} {tx ty:Tm} (hx:TmV B [Ax] tx cx) (hy:TmV B [Ay] ty cy) (okx:TmOk tx) (oky:TmOk ty) (hpx : ∃ g,px=some ⟨g,0,none⟩) (hpy : ∃ g,py=some ⟨g,0,none⟩):OpC B [A,tmR px 1 ex [cx],Ax,tmR py 1 ey [cy],Ay] (.iface 112 (.agg #[.iface 112 (.agg #[v,.slice px 1 ex]),.slice py 1 ey])) ((Q.filter λ x=>holdsL x.row [tx]).filter λ x=>holdsL x.row [ty]):=by
  have h1:=h.grow [tmR px 1 ex [cx],Ax,tmR py 1 ey [cy],Ay] [A,tmR px 1 ex [cx],Ax,tmR py 1 ey [cy],Ay] (λ F h H=>H) (λ A0 F h H=>H)
  have hfx:FlV B [A,tmR px 1 ex [cx],Ax,tmR py 1 ey [cy],Ay] c7 (.slice px 1 ex) [cx]:=(FlV.row (l:=[]) (e:=27) (x:=[cx]) (g:=c7) (sz:=7) (λ _=>rfl) (by omega) rfl (λ _=>hpx)).mono λ w ho=>ho.map Sa
  have hfy:FlV B [A,tmR px 1 ex [cx],Ax,tmR py 1 ey [cy],Ay] c7 (.slice py 1 ey) [cy]:=(FlV.row (l:=[]) (e:=27) (x:=[cy]) (g:=c7) (sz:=7) (λ _=>rfl) (by omega) rfl (λ _=>hpy)).mono λ w ho=>ho.map Sa
  have h2:=OpC.filter h1 (by omega) hfx (TmsS.one (hx.mono λ w ho=>ho.map Sa)) rfl (by omega) (λ t' h'=>by simp at h';subst h';exact okx)
  exact OpC.filter h2 (Nat.lt_of_le_of_lt (List.length_filter_le _ _) (by omega)) hfy (TmsS.one (hy.mono λ w ho=>ho.map Sa)) rfl (by omega) (λ t' h'=>by simp at h';subst h';exact oky)
theorem FctV.filter {B:Wn} {S:List Wp} {v:Value} {Q:List Fq} (h:FctV B S v Q) (p:Fq->Bool) (q:Option Addr) (n c:Nat) (hn:(Q.filter p).length=n) (hq:0<n -> ∃ g,q=some ⟨g,0,none⟩):FctV B (fqR q n c (Q.filter p)::S) (.slice q n c) (Q.filter p) :=
  ⟨FlV.row (sz:=3) (λ _=>rfl) (by omega) hn hq,λ x hx=>(h.r x (List.mem_filter.1 hx).1).mono λ w ho=>ho.tl⟩
theorem LsV.two {B:Wn} {A1 A2:Wp} {Q1 Q2:List Fq} {p1 p2:Option Addr} {d1 d2 g:Nat} (h1:FctV B [fqR p1 Q1.length d1 Q1,A1] (.slice p1 Q1.length d1) Q1) (h2:FctV B [fqR p2 Q2.length d2 Q2,A2] (.slice p2 Q2.length d2) Q2):LsV B [blk g [.slice p1 Q1.length d1,.slice p2 Q2.length d2] 22,fqR p1 Q1.length d1 Q1,A1,fqR p2 Q2.length d2 Q2,A2] (.slice (some ⟨g,0,none⟩) 2 2) [(.slice p1 Q1.length d1,Q1),(.slice p2 Q2.length d2,Q2)] :=
  ⟨FlV.blk (x:=[((.slice p1 Q1.length d1:Value),Q1),(.slice p2 Q2.length d2,Q2)]) (g:=λ x:Value×List Fq=>[x.1]) rfl,λ x hx=>by
    simp at hx
    rcases hx with rfl | rfl
    . exact h1.mono λ w ho=>ho.map Sa
    . exact h2.mono λ w ho=>ho.map Sa⟩
theorem allQ_two (a b:Value) (Q R:List Fq):allQ [(a,Q),(b,R)]=Q++R:=by simp [allQ]
theorem both_len (Q:List Fq) (p q:Fq->Bool):((Q.filter p).filter q).length<=Q.length:=Nat.le_trans (List.length_filter_le _ _) (List.length_filter_le _ _)
theorem both_fz (Q:List Fq) (t u:Tm):(((Q.filter λ x=>holdsL x.row [t]).filter λ x=>holdsL x.row [u])).map Fq.fz=((Q.map Fq.fz).filter λ f=>holds1 f.row t).filter λ f=>holds1 f.row u:=by
  rw [filter_fz _ (λ r=>holdsL r [u]),filter_fz Q (λ r=>holdsL r [t])]
  simp only [holdsL_one]
theorem Qh.conditions (B:Wn) (h0:B.low=0) (a:Option Addr) (m c:Nat) (Q:List Fq) (h:FctV B [] (.slice a m c) Q) (hm:Q.length=m) (hmb:m<2^30) (sa sb:Str) (ha:sa.length<2^30) (hb:sb.length<2^30):Fn Tryz.prog B 3 #[.slice a m c,tV sa,tV sb] [] (λ u l=>u = .bool true/\l=[]):=by
 refine Ws 170 Tryz.func3 rfl rfl (nB rfl) (λ F=>?_)
 try simp only [cA,nA]
 refine Ts ?_
 refine TR ?_
 refine La rfl ?_
 refine Ld ?_
 refine Ts ?_
 refine Ts ?_
 refine TR ?_
 refine Le (Ec (Qg.term B h0 oneS (by decide)) Tryz.func5 rfl rfl rfl ?_)
 rintro _ _ ⟨c1,p1,A1,rfl,hF1,rfl,hG1,hV1⟩
 try simp only [cA,nA]
 obtain rfl:=hG1 one_good
 obtain ⟨e1,t1,k1,k2,k3⟩:=hV1 rfl
 cases one_only k1 k2
 refine Lm rfl ?_
 refine Lq (Qx rfl rfl) ?_
 refine Lq (Qx rfl rfl) ?_
 refine Le (El [.string .empty,.int .i64 0,.int .i64 0,.int .i64 0,.string .empty,.int .i64 0,.slice none 0 0] (by unfold Zf;kernel_rfl) ?_)
 intro g7
 refine L0 (Es (c7 c1) rfl rfl rfl hF1.one (by simp) ?_)
 rw [splT c1 rfl]
 refine La rfl ?_
 refine Ld ?_
 refine Ts ?_
 refine TR ?_
 refine Lm rfl ?_
 refine Lq (Y2 rfl) ?_
 refine Lm rfl ?_
 refine yT (t:=36) rfl rfl ?_
 refine Lq (z8 [(0,1),(1,1),(2,1)] [.int .i64 0,.int .i64 0,.string .empty] [_,_,_] [(0,_),(1,_)] (by unfold Zf;kernel_rfl) rfl rfl) ?_
 refine Le (zK [_,_,_] (e:=24) (sz:=3) ⟨.agg #[.int .i64 0,.int .i64 0,.string .empty],by kernel_rfl,rfl⟩ rfl rfl rfl ?_)
 intro g38
 refine Lq (QL [_,_,_,_,_,_,_] rfl ⟨rfl,rfl,rfl,rfl,rfl,rfl,rfl,trivial⟩) ?_
 refine Le (zK (c7 c1) (e:=27) (sz:=7) ⟨.agg #[.string .empty,.int .i64 0,.int .i64 0,.int .i64 0,.string .empty,.int .i64 0,.slice none 0 0],by kernel_rfl,rfl⟩ rfl rfl rfl ?_)
 intro g40
 dsimp only
 refine Le (Ec (Bd.holds B [blk g38 [.int .i64 1,.int .i64 1,.string .empty] 24,blk g40 (c7 c1) 27,A1] [⟨1,1,[]⟩] (some ⟨g38,0,none⟩) 1 1 (FlV.blk (x:=[⟨1,1,[]⟩]) (g:=vaC) rfl) rfl (by decide) (some ⟨g40,0,none⟩) 1 1 [oneT1] [c1] ((FlV.blk (l:=[A1]) (x:=[c1]) (g:=c7) rfl).mono λ w ho=>ho.tl) (TmsS.one (k3.mono λ w ho=>ho.tl.tl)) rfl (by decide) (λ t' h'=>by simp at h';subst h';exact k2.ok)) Tryz.func6 rfl rfl rfl ?_)
 rintro _ _ ⟨rfl,rfl⟩
 try simp only [cA,nA]
 rw [one_holds]
 refine Lq (Y2 rfl) ?_
 refine Lq (Qp rfl rfl) ?_
 refine Ld ?_
 refine yQ rfl ?_
 refine Tk ?_
 refine Ts ?_
 refine TR ?_
 refine Lm rfl ?_
 refine Le (Ec (Qg.term B h0 sa (by omega)) Tryz.func5 rfl rfl rfl ?_)
 rintro _ _ ⟨c2,p2,A2,rfl,hF2,rfl,-,hV2⟩
 try simp only [cA,nA]
 refine Lm rfl ?_
 refine Lq (Qx rfl rfl) ?_
 refine Lq (Qx rfl rfl) ?_
 refine Le (El [.string .empty,.int .i64 0,.int .i64 0,.int .i64 0,.string .empty,.int .i64 0,.slice none 0 0] (by unfold Zf;kernel_rfl) ?_)
 intro g9
 refine L0 (Es (c7 c2) rfl rfl rfl hF2.one (by simp) ?_)
 rw [splT c2 rfl]
 refine La rfl ?_
 refine Ld ?_
 refine Ts ?_
 refine TR ?_
 refine Lm rfl ?_
 refine Le (Ec (Qg.term B h0 sb (by omega)) Tryz.func5 rfl rfl rfl ?_)
 rintro _ _ ⟨c3,p3,A3,rfl,hF3,rfl,-,hV3⟩
 try simp only [cA,nA]
 refine Lm rfl ?_
 refine Lq (Qx rfl rfl) ?_
 refine Lq (Qx rfl rfl) ?_
 refine Le (El [.string .empty,.int .i64 0,.int .i64 0,.int .i64 0,.string .empty,.int .i64 0,.slice none 0 0] (by unfold Zf;kernel_rfl) ?_)
 intro g11
 refine L0 (Es (c7 c3) rfl rfl rfl hF3.one (by simp) ?_)
 rw [splT c3 rfl]
 refine La rfl ?_
 refine Ld ?_
 refine Ts ?_
 refine TR ?_
 refine Lm rfl ?_
 refine Lq (Qt.addS (a:=[40]) (b:=sa) rfl rfl (by simp;omega)) ?_
 refine Lq (Qt.addS (a:=[40]++sa) (b:=[41,32,97,110,100,32,40]) rfl rfl (by simp;omega)) ?_
 refine Lm rfl ?_
 refine Lq (Qt.addS (a:=[40]++sa++[41,32,97,110,100,32,40]) (b:=sb) rfl rfl (by simp;omega)) ?_
 refine Lq (Qt.addS (a:=[40]++sa++[41,32,97,110,100,32,40]++sb) (b:=[41]) rfl rfl (by simp;omega)) ?_
 refine Le (Ec (Qg.term B h0 ([40]++sa++[41,32,97,110,100,32,40]++sb++[41]) (by simp;omega)) Tryz.func5 rfl rfl rfl ?_)
 rintro _ _ ⟨c4,p4,A4,rfl,hF4,rfl,-,hV4⟩
 try simp only [cA,nA]
 refine Lm rfl ?_
 refine Lq (Qx rfl rfl) ?_
 refine Lq (Qx rfl rfl) ?_
 refine Le (El [.string .empty,.int .i64 0,.int .i64 0,.int .i64 0,.string .empty,.int .i64 0,.slice none 0 0] (by unfold Zf;kernel_rfl) ?_)
 intro g13
 refine L0 (Es (c7 c4) rfl rfl rfl hF4.one (by simp) ?_)
 rw [splT c4 rfl]
 refine La rfl ?_
 refine Ld ?_
 refine Ts ?_
 refine TR ?_
 refine Lm rfl ?_
 refine Lq (Qt.addS (a:=[40]) (b:=sa) rfl rfl (by simp;omega)) ?_
 refine Lq (Qt.addS (a:=[40]++sa) (b:=[41,32,111,114,32,40]) rfl rfl (by simp;omega)) ?_
 refine Lm rfl ?_
 refine Lq (Qt.addS (a:=[40]++sa++[41,32,111,114,32,40]) (b:=sb) rfl rfl (by simp;omega)) ?_
 refine Lq (Qt.addS (a:=[40]++sa++[41,32,111,114,32,40]++sb) (b:=[41]) rfl rfl (by simp;omega)) ?_
 refine Le (Ec (Qg.term B h0 ([40]++sa++[41,32,111,114,32,40]++sb++[41]) (by simp;omega)) Tryz.func5 rfl rfl rfl ?_)
 rintro _ _ ⟨c5,p5,A5,rfl,hF5,rfl,-,hV5⟩
 try simp only [cA,nA]
 refine Lm rfl ?_
 refine Lq (Qx rfl rfl) ?_
 refine Lq (Qx rfl rfl) ?_
 refine Le (El [.string .empty,.int .i64 0,.int .i64 0,.int .i64 0,.string .empty,.int .i64 0,.slice none 0 0] (by unfold Zf;kernel_rfl) ?_)
 intro g15
 refine L0 (Es (c7 c5) rfl rfl rfl hF5.one (by simp) ?_)
 rw [splT c5 rfl]
 refine La rfl ?_
 refine Ld ?_
 refine Ts ?_
 refine TR ?_
 refine Lm rfl ?_
 refine Lq (Qt.addS (a:=[110,111,116,32,40]) (b:=sa) rfl rfl (by simp;omega)) ?_
 refine Lq (Qt.addS (a:=[110,111,116,32,40]++sa) (b:=[41]) rfl rfl (by simp;omega)) ?_
 refine Le (Ec (Qg.term B h0 ([110,111,116,32,40]++sa++[41]) (by simp;omega)) Tryz.func5 rfl rfl rfl ?_)
 rintro _ _ ⟨c6,p6,A6,rfl,hF6,rfl,-,hV6⟩
 try simp only [cA,nA]
 refine Lm rfl ?_
 refine Lq (Qx rfl rfl) ?_
 refine Lq (Qx rfl rfl) ?_
 refine Le (El [.string .empty,.int .i64 0,.int .i64 0,.int .i64 0,.string .empty,.int .i64 0,.slice none 0 0] (by unfold Zf;kernel_rfl) ?_)
 intro g17
 refine L0 (Es (c7 c6) rfl rfl rfl hF6.one (by simp) ?_)
 rw [splT c6 rfl]
 refine La rfl ?_
 refine Ld ?_
 refine Ts ?_
 refine Ts ?_
 refine TR ?_
 refine Lm rfl ?_
 refine Lq (Y2 rfl) ?_
 refine Lm rfl ?_
 by_cases hp2:p2=true
 .
  subst hp2
  by_cases hp3:p3=true
  .
   subst hp3
   by_cases hp4:p4=true
   .
    subst hp4
    by_cases hp5:p5=true
    .
     subst hp5
     by_cases hp6:p6=true
     .
      subst hp6
      obtain ⟨ea,tx,ok2,cd2,vx⟩:=hV2 rfl
      obtain ⟨eb,ty,ok3,cd3,vy⟩:=hV3 rfl
      obtain ⟨e4,t4,ok4,cd4,v4⟩:=hV4 rfl
      obtain ⟨e5,t5,ok5,cd5,v5⟩:=hV5 rfl
      obtain ⟨e6,t6,ok6,cd6,v6⟩:=hV6 rfl
      rw [str_and] at ok4
      rw [str_or] at ok5
      rw [str_not] at ok6
      cases cond_and ok2 ok3 ok4
      cases cond_or ok2 ok3 ok5
      cases cond_not ok2 ok6
      have hand:=and_holds cd2 cd3 cd4
      have hor:=or_holds cd2 cd3 cd5
      have hnot:=not_holds cd2 cd6
      clear hV1 hV2 hV3 hV4 hV5 hV6 hG1 ok2 ok3 ok4 ok5 ok6
      refine yT (t:=83) rfl rfl ?_
      refine Lm rfl ?_
      refine Lq (Y2 rfl) ?_
      refine Lq (Qp rfl rfl) ?_
      refine Lm rfl ?_
      refine yT (t:=87) rfl rfl ?_
      refine Lm rfl ?_
      refine Lq (Y2 rfl) ?_
      refine Lq (Qp rfl rfl) ?_
      refine Lm rfl ?_
      refine yT (t:=91) rfl rfl ?_
      refine Lm rfl ?_
      refine Lq (Y2 rfl) ?_
      refine Lq (Qp rfl rfl) ?_
      refine Lm rfl ?_
      refine yT (t:=95) rfl rfl ?_
      refine Lm rfl ?_
      refine Lq (Y2 rfl) ?_
      refine Lq (Qp rfl rfl) ?_
      refine Ld ?_
      refine yQ rfl ?_
      refine T.conv (l':=fqR none 0 0 ((Q.take 0).filter λ x=>okE tx ty x.row)::_) (λ w ho=>ho.row_nil 35 3) ?_
      refine Tk ?_
      refine Ts ?_
      refine TR ?_
      refine La rfl ?_
      refine Ld ?_
      refine Ts ?_
      refine Ts ?_
      refine TR ?_
      refine Lm rfl ?_
      refine Lq (yI (e:=35) (sz:=3) rfl) ?_
      refine Lm rfl ?_
      refine Ld ?_
      refine yH ?_
      refine zG (λ mz fz lz => ∃ (f0:Fr) (i:Nat) (p:Option Addr) (n0 c0:Nat),(i<=m/\((Q.take i).filter λ x=>okE tx ty x.row).length=n0/\n0<=i/\(0<n0 -> ∃ g,p=some ⟨g,0,none⟩))/\mz=m-i/\fz=(upd (upd (upd (upd (upd (upd (upd (upd (upd (upd f0 0 (.slice a m c)) 9 (.pointer (some ⟨g9,0,none⟩))) 11 (.pointer (some ⟨g11,0,none⟩))) 13 (.pointer (some ⟨g13,0,none⟩))) 15 (.pointer (some ⟨g15,0,none⟩))) 17 (.pointer (some ⟨g17,0,none⟩))) 19 (.slice p n0 c0)) 99 (.slice a m c)) 100 (iV m)) 101 (iV i))/\lz=fqR p n0 c0 ((Q.take i).filter λ x=>okE tx ty x.row)::blk g17 (c7 c6) 27::A6::blk g15 (c7 c5) 27::A5::blk g13 (c7 c4) 27::A4::blk g11 (c7 c3) 27::A3::blk g9 (c7 c2) 27::A2::F) ?_ ?_
      . refine ⟨_,_,⟨_,0,none,0,0,⟨Nat.zero_le _,rfl,Nat.le_refl _,λ z=>absurd z (by omega)⟩,rfl,(Za rfl (Za rfl (Za rfl (Za rfl (Za rfl (Za rfl (Za rfl (Za rfl (Za rfl (Za rfl rfl)))))))))),rfl⟩,Sa⟩
      rintro mz fz lz ⟨f0,i,p,n0,c0,⟨hi,hn0,hni,hp⟩,hmz,rfl,rfl⟩
      subst mz
      refine Ts ?_
      refine TR ?_
      refine Lq (yM rfl rfl) ?_
      refine Ld ?_
      refine Ts ?_
      refine yN rfl (λ hlt=>?_) (λ hlt=>?_)
      .
       obtain ⟨b,o,rfl,hr⟩:=h.l.at (sz:=3) (λ _=>rfl) (by omega)
       obtain ⟨x,hx⟩ : ∃ x,Q[i]? = some x:=⟨_,List.getElem?_eq_getElem (by omega)⟩
       have hx1:=hr i x hx
       have hxv:=h.r x (List.mem_of_getElem? hx)
       have hsn:=filter_snoc (p:=λ x:Fq=>okE tx ty x.row) hx
       obtain ⟨pa,ca,ex⟩:=hxv.form
       obtain ⟨xs,xr,xf,xt⟩:=x
       dsimp only at ex hsn
       subst ex
       have hh:=Bd.evalF B [A2] xr pa xr.length ca (hxv.2.mono λ w ho=>ho.tl) rfl hxv.1 tx cd2.ok c2 vx
       have hk:=Bd.evalF B [A3] xr pa xr.length ca (hxv.2.mono λ w ho=>ho.tl) rfl hxv.1 ty cd3.ok c3 vy
       refine Tk ?_
       refine Ts ?_
       refine yH ?_
       refine Ts ?_
       refine TR ?_
       refine Lq (Qi _ (e:=35) (sz:=3) rfl rfl rfl) ?_
       refine Lq (Qt.loadAggW (fqC ⟨.slice pa xr.length ca,xr,xf,xt⟩) rfl (λ w ho=>hx1 w (ho.map Sa))) ?_
       refine Le (El [.slice none 0 0,.int .i64 0,.int .i64 0] (by unfold Zf;kernel_rfl) ?_)
       intro g21
       refine L0 (Es [_,_,_] rfl rfl rfl rfl (by simp) ?_)
       try simp only [splice,lC,lN,dS,cA,tS,tZ,dZ,nA,aN]
       refine Ld ?_
       refine Ts ?_
       refine TR ?_
       refine Lq (QL [_,_,_,_,_,_,_] rfl ⟨rfl,rfl,rfl,rfl,rfl,rfl,rfl,trivial⟩) ?_
       refine Lq (Q0 rfl) ?_
       refine Lq (Ql rfl rfl) ?_
       refine Le (Ec (hh) Tryz.func7 rfl rfl rfl ?_)
       rintro _ _ ⟨rfl,rfl⟩
       try simp only [cA,nA]
       refine Lm rfl ?_
       refine Lq (Qx rfl rfl) ?_
       refine Lq (Qx rfl rfl) ?_
       refine Le (El [.int .i64 0,.int .i64 0,.string .empty] (by unfold Zf;kernel_rfl) ?_)
       intro g22
       refine L0 (Es [_,_,_] rfl rfl rfl rfl (by simp) ?_)
       try simp only [splice,lC,lN,dS,cA,tS,tZ,dZ,nA,aN]
       refine La rfl ?_
       refine Ld ?_
       refine Ts ?_
       refine TR ?_
       refine Lq (QL [_,_,_,_,_,_,_] rfl ⟨rfl,rfl,rfl,rfl,rfl,rfl,rfl,trivial⟩) ?_
       refine Lq (Q0 rfl) ?_
       refine Lq (Ql rfl rfl) ?_
       refine Le (Ec (hk) Tryz.func7 rfl rfl rfl ?_)
       rintro _ _ ⟨rfl,rfl⟩
       try simp only [cA,nA]
       refine Lm rfl ?_
       refine Lq (Qx rfl rfl) ?_
       refine Lq (Qx rfl rfl) ?_
       refine Le (El [.int .i64 0,.int .i64 0,.string .empty] (by unfold Zf;kernel_rfl) ?_)
       intro g24
       refine L0 (Es [_,_,_] rfl rfl rfl rfl (by simp) ?_)
       try simp only [splice,lC,lN,dS,cA,tS,tZ,dZ,nA,aN]
       refine La rfl ?_
       refine Ld ?_
       refine Ts ?_
       refine TR ?_
       refine Lm rfl ?_
       refine Lq (yU rfl rfl) ?_
       refine Lm rfl ?_
       refine zZ (t:=121) rfl (λ hb1=>?_) (λ hb1=>?_)
       .
        try replace hb1:=of_decide_eq_true hb1
        refine Lm rfl ?_
        refine Lq (yU rfl rfl) ?_
        refine Lq (Qp rfl rfl) ?_
        refine Ld ?_
        refine yN rfl (λ hb2=>?_) (λ hb2=>?_)
        .
         rw [if_pos (by simp only [okE,hb1,hb2,and_self,decide_true])] at hsn
         refine TR ?_
         refine Lm rfl ?_
         refine Lq (QL [_,_,_] rfl ⟨rfl,rfl,rfl,trivial⟩) ?_
         refine Le (zK [_,_,_] (e:=35) (sz:=3) ⟨.agg #[.slice none 0 0,.int .i64 0,.int .i64 0],by kernel_rfl,rfl⟩ rfl rfl rfl ?_)
         intro g127
         refine Le (Ea Qe.elemF rfl rfl (SrcOf.blk (by kernel_rfl) rfl (by simp [Value.oneCell'])) (by unfold maxLen;omega) ?_)
         rintro p4 c4 hp4
         rw [show ((Q.take i).filter λ x=>okE tx ty x.row).flatMap fqC++[.slice pa xr.length ca,iV xf,iV xt]=((Q.take (i+1)).filter λ x=>okE tx ty x.row).flatMap fqC by rw [hsn,List.flatMap_append];simp]
         refine La rfl ?_
         refine Ld ?_
         refine TR ?_
         refine Lq (Qd rfl rfl (Ze)) ?_
         refine Lm rfl ?_
         refine Ld ?_
         refine ⟨_,?_,_,⟨_,i+1,p4,n0+1,c4,⟨by omega,by rw [hsn,List.length_append,hn0];rfl,by omega,hp4⟩,rfl,(Za rfl (Za rfl (Za rfl (Za rfl (Za rfl (Za rfl (Za rfl (Za rfl (Za rfl (Za rfl rfl)))))))))),rfl⟩,Sa⟩
         omega
        rw [if_neg (by simp [okE,hb1,hb2]),List.append_nil] at hsn
        rw [<-hsn] at hn0 ⊢
        refine Tk ?_
        refine TR ?_
        refine Lq (Qd rfl rfl (Ze)) ?_
        refine Lm rfl ?_
        refine Ld ?_
        refine ⟨_,?_,_,⟨_,i+1,p,n0,c0,⟨by omega,hn0,by omega,hp⟩,rfl,(Za rfl (Za rfl (Za rfl (Za rfl (Za rfl (Za rfl (Za rfl (Za rfl (Za rfl (Za rfl rfl)))))))))),rfl⟩,Sa⟩
        omega
       try replace hb1:=of_decide_eq_false hb1
       rw [if_neg (by simp [okE,hb1]),List.append_nil] at hsn
       refine Ls rfl ?_
       refine Ls rfl ?_
       refine Lq (Qp rfl rfl) ?_
       refine Ld ?_
       refine yQ rfl ?_
       rw [<-hsn] at hn0 ⊢
       refine Tk ?_
       refine TR ?_
       refine Lq (Qd rfl rfl (Ze)) ?_
       refine Lm rfl ?_
       refine Ld ?_
       refine ⟨_,?_,_,⟨_,i+1,p,n0,c0,⟨by omega,hn0,by omega,hp⟩,rfl,(Za rfl (Za rfl (Za rfl (Za rfl (Za rfl (Za rfl (Za rfl (Za rfl (Za rfl (Za rfl rfl)))))))))),rfl⟩,Sa⟩
       omega
      have ez:Q.take i=Q:=List.take_of_length_le (by omega)
      rw [ez] at hn0 ⊢
      have hW:FctV B [fqR p n0 c0 (Q.filter λ x=>okE tx ty x.row)] (.slice p n0 c0) (Q.filter λ x=>okE tx ty x.row):=h.filter _ p n0 c0 hn0 hp
      have hWf:(Q.filter λ x=>okE tx ty x.row).map Fq.fz=(Q.map Fq.fz).filter λ f=>okE tx ty f.row:=filter_fz Q (okE tx ty)
      generalize (Q.filter λ x=>okE tx ty x.row)=W at *
      refine zB ?_
      refine Ts ?_
      refine TR ?_
      refine Lm rfl ?_
      refine Lq (QL [_,_,_,_,_,_,_] rfl ⟨rfl,rfl,rfl,rfl,rfl,rfl,rfl,trivial⟩) ?_
      refine Le (Ec (Qf.kept B [fqR p n0 c0 W,A2] p n0 c0 W (hW.mono λ w ho=>ho.map Sa) hn0 (by omega) tx c2 (vx.mono λ w ho=>ho.tl) cd2.ok) Tryz.func8 rfl rfl rfl ?_)
      rintro _ _ ⟨Q1,B1,q1,d1,rfl,hq1,hB1,hn1,hl1,rfl⟩
      try simp only [cA,nA]
      rw [hWf] at hn1
      refine La rfl ?_
      refine Ld ?_
      refine Ts ?_
      refine TR ?_
      refine Lm rfl ?_
      refine Lm rfl ?_
      refine Le (Ec (Qe.except B [fqR p n0 c0 W,fqR q1 Q1.length d1 Q1,B1] p n0 c0 W (hW.mono λ w ho=>ho.map Sa) hn0 (by omega) q1 Q1.length d1 Q1 ((NormPost.fct hB1 hq1).mono λ w ho=>ho.tl) rfl (by omega)) Tryz.func9 rfl rfl rfl ?_)
      rintro _ _ ⟨Q2,B2,q2,d2,rfl,hq2,hB2,hn2,hl2,rfl⟩
      try simp only [cA,nA]
      rw [hWf] at hn2
      refine La rfl ?_
      refine Ld ?_
      refine Ts ?_
      refine TR ?_
      refine Lm rfl ?_
      refine Lm rfl ?_
      refine Lq (QL [_,_,_,_,_,_,_] rfl ⟨rfl,rfl,rfl,rfl,rfl,rfl,rfl,trivial⟩) ?_
      refine Le (Ec (Qf.kept B [fqR q2 Q2.length d2 Q2,B2,A3] q2 Q2.length d2 Q2 ((NormPost.fct hB2 hq2).mono λ w ho=>ho.map Sa) rfl (by omega) ty c3 (vy.mono λ w ho=>ho.tl.tl) cd3.ok) Tryz.func8 rfl rfl rfl ?_)
      rintro _ _ ⟨Q3,B3,q3,d3,rfl,hq3,hB3,hn3,hl3,rfl⟩
      try simp only [cA,nA]
      refine Le (ZC [_,_] (e:=22) rfl (by simp [Value.cells]) rfl ?_)
      intro g140
      refine Le (Ec (Qe.normal B [blk g140 [.slice q1 Q1.length d1,.slice q3 Q3.length d3] 22,fqR q1 Q1.length d1 Q1,B1,fqR q3 Q3.length d3 Q3,B3] (some ⟨g140,0,none⟩) 2 2 [(.slice q1 Q1.length d1,Q1),(.slice q3 Q3.length d3,Q3)] (LsV.two (NormPost.fct hB1 hq1) (NormPost.fct hB3 hq3)) rfl (by decide) (by simp [allQ];omega)) Tryz.func10 rfl rfl rfl ?_)
      rintro _ _ ⟨Q4,B4,q4,d4,rfl,hq4,hB4,hn4,hl4,rfl⟩
      try simp only [cA,nA]
      rw [allQ_two,List.map_append] at hn4
      refine La rfl ?_
      refine Ld ?_
      refine Ts ?_
      refine T.draw 9 ([blk g9 (c7 c2) 27,blk g11 (c7 c3) 27]) (nB rfl) ?_
      refine Rq 0 rfl Sa (Qm rfl) ?_
      refine Rq 2 rfl Sa (QL [_,_,_,_,_,_,_] rfl ⟨rfl,rfl,rfl,rfl,rfl,rfl,rfl,trivial⟩) ?_
      refine Rq 5 rfl Sa (QL [_,_,_,_,_,_,_] rfl ⟨rfl,rfl,rfl,rfl,rfl,rfl,rfl,trivial⟩) ?_
      refine YC [1,3,6] (List.forall_mem_cons.2 ⟨?_,List.forall_mem_cons.2 ⟨?_,List.forall_mem_cons.2 ⟨?_,List.forall_mem_nil _⟩⟩⟩)
      .
       refine z6 rfl (Ec (Qf.scan B [] a m c Q h hm) Tryz.func13 rfl rfl rfl ?_)
       rintro _ _ ⟨Q5,B5,hop,hQ5,rfl⟩
       try simp only [cA,nA]
       have hl5:Q5.length=m:=by have:=congrArg List.length hQ5;simp only [List.length_map] at this;omega
       obtain ⟨ot,ou,rfl⟩:=hop.form
       refine ⟨Sa,?_⟩
       refine YC [3,6] (List.forall_mem_cons.2 ⟨?_,List.forall_mem_cons.2 ⟨?_,List.forall_mem_nil _⟩⟩)
       .
        refine z6 rfl (zK (c7 c2) (e:=27) (sz:=7) ⟨.agg #[.string .empty,.int .i64 0,.int .i64 0,.int .i64 0,.string .empty,.int .i64 0,.slice none 0 0],by kernel_rfl,rfl⟩ rfl rfl rfl ?_)
        intro g145
        refine ⟨Sa,?_⟩
        refine YC [4,6] (List.forall_mem_cons.2 ⟨?_,List.forall_mem_cons.2 ⟨?_,List.forall_mem_nil _⟩⟩)
        .
         refine z6 rfl (Ec (Qh.filter B A2 g145 c2 tx vx ot ou) Tryz.func12 rfl rfl rfl ?_)
         rintro _ _ ⟨px,ex,rfl,hpx,rfl⟩
         try simp only [cA,nA]
         refine ⟨Sa,?_⟩
         refine yK 6 ?_
         refine z6 rfl (zK (c7 c3) (e:=27) (sz:=7) ⟨.agg #[.string .empty,.int .i64 0,.int .i64 0,.int .i64 0,.string .empty,.int .i64 0,.slice none 0 0],by kernel_rfl,rfl⟩ rfl rfl rfl ?_)
         intro g148
         refine ⟨Sa,?_⟩
         refine yK 7 ?_
         refine zY rfl (Ec (Qh.filter B A3 g148 c3 ty vy _ _) Tryz.func12 rfl rfl rfl ?_)
         rintro _ _ ⟨py,ey,rfl,hpy,rfl⟩
         try simp only [cA,nA]
         refine yK 8 ?_
         refine zY rfl (Ec (Qf.result B [B5,tmR px 1 ex [c2],A2,tmR py 1 ey [c3],A3] _ _ (Qh.both hop (by omega) vx vy cd2.ok cd3.ok hpx hpy) (Nat.lt_of_le_of_lt (both_len _ _ _) (by omega))) Tryz.func11 rfl rfl rfl ?_)
         rintro _ _ ⟨Q6,B6,q6,d6,rfl,hq6,hB6,hn6,hl6,rfl⟩
         try simp only [cA,nA]
         rw [both_fz,hQ5] at hn6
         have hl6:Q6.length<=m:=Nat.le_trans hl6 (Nat.le_trans (both_len _ _ _) (by omega))
         refine Rd0 (by rfl) ?_
         simp only [dS,dZ,dN]
         refine La rfl ?_
         refine Ld ?_
         refine Ts ?_
         refine TR ?_
         refine Lm rfl ?_
         refine Lq (QL [_,_,_,_,_,_,_] rfl ⟨rfl,rfl,rfl,rfl,rfl,rfl,rfl,trivial⟩) ?_
         refine Le (Ec (Qf.kept B [A4] a m c Q (h.mono λ w ho=>ho.tl) hm (by omega) t4 c4 v4 cd4.ok) Tryz.func8 rfl rfl rfl ?_)
         rintro _ _ ⟨Q7,B7,q7,d7,rfl,hq7,hB7,hn7,hl7,rfl⟩
         try simp only [cA,nA]
         refine Lm rfl ?_
         refine Le (Ec (Qf.same B [fqR q7 Q7.length d7 Q7,B7,fqR q6 Q6.length d6 Q6,B6] q7 Q7.length d7 Q7 ((NormPost.fct hB7 hq7).mono λ w ho=>ho.map Sa) rfl q6 Q6.length d6 Q6 ((NormPost.fct hB6 hq6).mono λ w ho=>ho.tl.tl) rfl (keep_and hand hn7 hn6)) Tryz.func14 rfl rfl rfl ?_)
         rintro _ _ ⟨rfl,rfl⟩
         try simp only [cA,nA]
         refine Lm rfl ?_
         refine zQ (t:=156) rfl rfl ?_
         refine Lm rfl ?_
         refine Lq (QL [_,_,_,_,_,_,_] rfl ⟨rfl,rfl,rfl,rfl,rfl,rfl,rfl,trivial⟩) ?_
         refine Le (Ec (Qf.kept B [fqR p n0 c0 W,A5] p n0 c0 W (hW.mono λ w ho=>ho.map Sa) hn0 (by omega) t5 c5 (v5.mono λ w ho=>ho.tl) cd5.ok) Tryz.func8 rfl rfl rfl ?_)
         rintro _ _ ⟨Q8,B8,q8,d8,rfl,hq8,hB8,hn8,hl8,rfl⟩
         try simp only [cA,nA]
         rw [hWf] at hn8
         refine Lm rfl ?_
         refine Le (Ec (Qf.same B [fqR q8 Q8.length d8 Q8,B8,fqR q4 Q4.length d4 Q4,B4] q8 Q8.length d8 Q8 ((NormPost.fct hB8 hq8).mono λ w ho=>ho.map Sa) rfl q4 Q4.length d4 Q4 ((NormPost.fct hB4 hq4).mono λ w ho=>ho.tl.tl) rfl (keep_or (ok:=okE tx ty) (λ r q=>hor r (of_decide_eq_true q).1 (of_decide_eq_true q).2) hn1 hn2 hn3 hn8 hn4)) Tryz.func14 rfl rfl rfl ?_)
         rintro _ _ ⟨rfl,rfl⟩
         try simp only [cA,nA]
         refine Lq (Qp rfl rfl) ?_
         refine Lm rfl ?_
         refine zQ (t:=163) rfl rfl ?_
         refine Lm rfl ?_
         refine Lq (QL [_,_,_,_,_,_,_] rfl ⟨rfl,rfl,rfl,rfl,rfl,rfl,rfl,trivial⟩) ?_
         refine Le (Ec (Qf.kept B [fqR p n0 c0 W,A6] p n0 c0 W (hW.mono λ w ho=>ho.map Sa) hn0 (by omega) t6 c6 (v6.mono λ w ho=>ho.tl) cd6.ok) Tryz.func8 rfl rfl rfl ?_)
         rintro _ _ ⟨Q9,B9,q9,d9,rfl,hq9,hB9,hn9,hl9,rfl⟩
         try simp only [cA,nA]
         rw [hWf] at hn9
         refine Lm rfl ?_
         refine Le (Ec (Qf.same B [fqR q9 Q9.length d9 Q9,B9,fqR q2 Q2.length d2 Q2,B2] q9 Q9.length d9 Q9 ((NormPost.fct hB9 hq9).mono λ w ho=>ho.map Sa) rfl q2 Q2.length d2 Q2 ((NormPost.fct hB2 hq2).mono λ w ho=>ho.tl.tl) rfl (keep_not (ok:=okE tx ty) (λ r q=>hnot r (of_decide_eq_true q).1) hn1 hn2 hn9)) Tryz.func14 rfl rfl rfl ?_)
         rintro _ _ ⟨rfl,rfl⟩
         try simp only [cA,nA]
         refine Lq (Qp rfl rfl) ?_
         refine La rfl ?_
         refine Ld ?_
         refine T.ret ?_
         exact ⟨.inl rfl,_,_,res [_] rfl ⟨rvT rfl,trivial⟩,⟨rfl,rfl⟩,Sa⟩
        refine z6 rfl (zK (c7 c3) (e:=27) (sz:=7) ⟨.agg #[.string .empty,.int .i64 0,.int .i64 0,.int .i64 0,.string .empty,.int .i64 0,.slice none 0 0],by kernel_rfl,rfl⟩ rfl rfl rfl ?_)
        intro g148
        refine ⟨Sa,?_⟩
        refine yK 4 ?_
        refine z6 rfl (Ec (Qh.filter B A2 g145 c2 tx vx ot ou) Tryz.func12 rfl rfl rfl ?_)
        rintro _ _ ⟨px,ex,rfl,hpx,rfl⟩
        try simp only [cA,nA]
        refine ⟨Sa,?_⟩
        refine yK 7 ?_
        refine zY rfl (Ec (Qh.filter B A3 g148 c3 ty vy _ _) Tryz.func12 rfl rfl rfl ?_)
        rintro _ _ ⟨py,ey,rfl,hpy,rfl⟩
        try simp only [cA,nA]
        refine yK 8 ?_
        refine zY rfl (Ec (Qf.result B [B5,tmR px 1 ex [c2],A2,tmR py 1 ey [c3],A3] _ _ (Qh.both hop (by omega) vx vy cd2.ok cd3.ok hpx hpy) (Nat.lt_of_le_of_lt (both_len _ _ _) (by omega))) Tryz.func11 rfl rfl rfl ?_)
        rintro _ _ ⟨Q6,B6,q6,d6,rfl,hq6,hB6,hn6,hl6,rfl⟩
        try simp only [cA,nA]
        rw [both_fz,hQ5] at hn6
        have hl6:Q6.length<=m:=Nat.le_trans hl6 (Nat.le_trans (both_len _ _ _) (by omega))
        refine Rd0 (by rfl) ?_
        simp only [dS,dZ,dN]
        refine La rfl ?_
        refine Ld ?_
        refine Ts ?_
        refine TR ?_
        refine Lm rfl ?_
        refine Lq (QL [_,_,_,_,_,_,_] rfl ⟨rfl,rfl,rfl,rfl,rfl,rfl,rfl,trivial⟩) ?_
        refine Le (Ec (Qf.kept B [A4] a m c Q (h.mono λ w ho=>ho.tl) hm (by omega) t4 c4 v4 cd4.ok) Tryz.func8 rfl rfl rfl ?_)
        rintro _ _ ⟨Q7,B7,q7,d7,rfl,hq7,hB7,hn7,hl7,rfl⟩
        try simp only [cA,nA]
        refine Lm rfl ?_
        refine Le (Ec (Qf.same B [fqR q7 Q7.length d7 Q7,B7,fqR q6 Q6.length d6 Q6,B6] q7 Q7.length d7 Q7 ((NormPost.fct hB7 hq7).mono λ w ho=>ho.map Sa) rfl q6 Q6.length d6 Q6 ((NormPost.fct hB6 hq6).mono λ w ho=>ho.tl.tl) rfl (keep_and hand hn7 hn6)) Tryz.func14 rfl rfl rfl ?_)
        rintro _ _ ⟨rfl,rfl⟩
        try simp only [cA,nA]
        refine Lm rfl ?_
        refine zQ (t:=156) rfl rfl ?_
        refine Lm rfl ?_
        refine Lq (QL [_,_,_,_,_,_,_] rfl ⟨rfl,rfl,rfl,rfl,rfl,rfl,rfl,trivial⟩) ?_
        refine Le (Ec (Qf.kept B [fqR p n0 c0 W,A5] p n0 c0 W (hW.mono λ w ho=>ho.map Sa) hn0 (by omega) t5 c5 (v5.mono λ w ho=>ho.tl) cd5.ok) Tryz.func8 rfl rfl rfl ?_)
        rintro _ _ ⟨Q8,B8,q8,d8,rfl,hq8,hB8,hn8,hl8,rfl⟩
        try simp only [cA,nA]
        rw [hWf] at hn8
        refine Lm rfl ?_
        refine Le (Ec (Qf.same B [fqR q8 Q8.length d8 Q8,B8,fqR q4 Q4.length d4 Q4,B4] q8 Q8.length d8 Q8 ((NormPost.fct hB8 hq8).mono λ w ho=>ho.map Sa) rfl q4 Q4.length d4 Q4 ((NormPost.fct hB4 hq4).mono λ w ho=>ho.tl.tl) rfl (keep_or (ok:=okE tx ty) (λ r q=>hor r (of_decide_eq_true q).1 (of_decide_eq_true q).2) hn1 hn2 hn3 hn8 hn4)) Tryz.func14 rfl rfl rfl ?_)
        rintro _ _ ⟨rfl,rfl⟩
        try simp only [cA,nA]
        refine Lq (Qp rfl rfl) ?_
        refine Lm rfl ?_
        refine zQ (t:=163) rfl rfl ?_
        refine Lm rfl ?_
        refine Lq (QL [_,_,_,_,_,_,_] rfl ⟨rfl,rfl,rfl,rfl,rfl,rfl,rfl,trivial⟩) ?_
        refine Le (Ec (Qf.kept B [fqR p n0 c0 W,A6] p n0 c0 W (hW.mono λ w ho=>ho.map Sa) hn0 (by omega) t6 c6 (v6.mono λ w ho=>ho.tl) cd6.ok) Tryz.func8 rfl rfl rfl ?_)
        rintro _ _ ⟨Q9,B9,q9,d9,rfl,hq9,hB9,hn9,hl9,rfl⟩
        try simp only [cA,nA]
        rw [hWf] at hn9
        refine Lm rfl ?_
        refine Le (Ec (Qf.same B [fqR q9 Q9.length d9 Q9,B9,fqR q2 Q2.length d2 Q2,B2] q9 Q9.length d9 Q9 ((NormPost.fct hB9 hq9).mono λ w ho=>ho.map Sa) rfl q2 Q2.length d2 Q2 ((NormPost.fct hB2 hq2).mono λ w ho=>ho.tl.tl) rfl (keep_not (ok:=okE tx ty) (λ r q=>hnot r (of_decide_eq_true q).1) hn1 hn2 hn9)) Tryz.func14 rfl rfl rfl ?_)
        rintro _ _ ⟨rfl,rfl⟩
        try simp only [cA,nA]
        refine Lq (Qp rfl rfl) ?_
        refine La rfl ?_
        refine Ld ?_
        refine T.ret ?_
        exact ⟨.inl rfl,_,_,res [_] rfl ⟨rvT rfl,trivial⟩,⟨rfl,rfl⟩,Sa⟩
       refine z6 rfl (zK (c7 c3) (e:=27) (sz:=7) ⟨.agg #[.string .empty,.int .i64 0,.int .i64 0,.int .i64 0,.string .empty,.int .i64 0,.slice none 0 0],by kernel_rfl,rfl⟩ rfl rfl rfl ?_)
       intro g148
       refine ⟨Sa,?_⟩
       refine yK 3 ?_
       refine z6 rfl (zK (c7 c2) (e:=27) (sz:=7) ⟨.agg #[.string .empty,.int .i64 0,.int .i64 0,.int .i64 0,.string .empty,.int .i64 0,.slice none 0 0],by kernel_rfl,rfl⟩ rfl rfl rfl ?_)
       intro g145
       refine ⟨Sa,?_⟩
       refine yK 4 ?_
       refine z6 rfl (Ec (Qh.filter B A2 g145 c2 tx vx ot ou) Tryz.func12 rfl rfl rfl ?_)
       rintro _ _ ⟨px,ex,rfl,hpx,rfl⟩
       try simp only [cA,nA]
       refine ⟨Sa,?_⟩
       refine yK 7 ?_
       refine zY rfl (Ec (Qh.filter B A3 g148 c3 ty vy _ _) Tryz.func12 rfl rfl rfl ?_)
       rintro _ _ ⟨py,ey,rfl,hpy,rfl⟩
       try simp only [cA,nA]
       refine yK 8 ?_
       refine zY rfl (Ec (Qf.result B [B5,tmR px 1 ex [c2],A2,tmR py 1 ey [c3],A3] _ _ (Qh.both hop (by omega) vx vy cd2.ok cd3.ok hpx hpy) (Nat.lt_of_le_of_lt (both_len _ _ _) (by omega))) Tryz.func11 rfl rfl rfl ?_)
       rintro _ _ ⟨Q6,B6,q6,d6,rfl,hq6,hB6,hn6,hl6,rfl⟩
       try simp only [cA,nA]
       rw [both_fz,hQ5] at hn6
       have hl6:Q6.length<=m:=Nat.le_trans hl6 (Nat.le_trans (both_len _ _ _) (by omega))
       refine Rd0 (by rfl) ?_
       simp only [dS,dZ,dN]
       refine La rfl ?_
       refine Ld ?_
       refine Ts ?_
       refine TR ?_
       refine Lm rfl ?_
       refine Lq (QL [_,_,_,_,_,_,_] rfl ⟨rfl,rfl,rfl,rfl,rfl,rfl,rfl,trivial⟩) ?_
       refine Le (Ec (Qf.kept B [A4] a m c Q (h.mono λ w ho=>ho.tl) hm (by omega) t4 c4 v4 cd4.ok) Tryz.func8 rfl rfl rfl ?_)
       rintro _ _ ⟨Q7,B7,q7,d7,rfl,hq7,hB7,hn7,hl7,rfl⟩
       try simp only [cA,nA]
       refine Lm rfl ?_
       refine Le (Ec (Qf.same B [fqR q7 Q7.length d7 Q7,B7,fqR q6 Q6.length d6 Q6,B6] q7 Q7.length d7 Q7 ((NormPost.fct hB7 hq7).mono λ w ho=>ho.map Sa) rfl q6 Q6.length d6 Q6 ((NormPost.fct hB6 hq6).mono λ w ho=>ho.tl.tl) rfl (keep_and hand hn7 hn6)) Tryz.func14 rfl rfl rfl ?_)
       rintro _ _ ⟨rfl,rfl⟩
       try simp only [cA,nA]
       refine Lm rfl ?_
       refine zQ (t:=156) rfl rfl ?_
       refine Lm rfl ?_
       refine Lq (QL [_,_,_,_,_,_,_] rfl ⟨rfl,rfl,rfl,rfl,rfl,rfl,rfl,trivial⟩) ?_
       refine Le (Ec (Qf.kept B [fqR p n0 c0 W,A5] p n0 c0 W (hW.mono λ w ho=>ho.map Sa) hn0 (by omega) t5 c5 (v5.mono λ w ho=>ho.tl) cd5.ok) Tryz.func8 rfl rfl rfl ?_)
       rintro _ _ ⟨Q8,B8,q8,d8,rfl,hq8,hB8,hn8,hl8,rfl⟩
       try simp only [cA,nA]
       rw [hWf] at hn8
       refine Lm rfl ?_
       refine Le (Ec (Qf.same B [fqR q8 Q8.length d8 Q8,B8,fqR q4 Q4.length d4 Q4,B4] q8 Q8.length d8 Q8 ((NormPost.fct hB8 hq8).mono λ w ho=>ho.map Sa) rfl q4 Q4.length d4 Q4 ((NormPost.fct hB4 hq4).mono λ w ho=>ho.tl.tl) rfl (keep_or (ok:=okE tx ty) (λ r q=>hor r (of_decide_eq_true q).1 (of_decide_eq_true q).2) hn1 hn2 hn3 hn8 hn4)) Tryz.func14 rfl rfl rfl ?_)
       rintro _ _ ⟨rfl,rfl⟩
       try simp only [cA,nA]
       refine Lq (Qp rfl rfl) ?_
       refine Lm rfl ?_
       refine zQ (t:=163) rfl rfl ?_
       refine Lm rfl ?_
       refine Lq (QL [_,_,_,_,_,_,_] rfl ⟨rfl,rfl,rfl,rfl,rfl,rfl,rfl,trivial⟩) ?_
       refine Le (Ec (Qf.kept B [fqR p n0 c0 W,A6] p n0 c0 W (hW.mono λ w ho=>ho.map Sa) hn0 (by omega) t6 c6 (v6.mono λ w ho=>ho.tl) cd6.ok) Tryz.func8 rfl rfl rfl ?_)
       rintro _ _ ⟨Q9,B9,q9,d9,rfl,hq9,hB9,hn9,hl9,rfl⟩
       try simp only [cA,nA]
       rw [hWf] at hn9
       refine Lm rfl ?_
       refine Le (Ec (Qf.same B [fqR q9 Q9.length d9 Q9,B9,fqR q2 Q2.length d2 Q2,B2] q9 Q9.length d9 Q9 ((NormPost.fct hB9 hq9).mono λ w ho=>ho.map Sa) rfl q2 Q2.length d2 Q2 ((NormPost.fct hB2 hq2).mono λ w ho=>ho.tl.tl) rfl (keep_not (ok:=okE tx ty) (λ r q=>hnot r (of_decide_eq_true q).1) hn1 hn2 hn9)) Tryz.func14 rfl rfl rfl ?_)
       rintro _ _ ⟨rfl,rfl⟩
       try simp only [cA,nA]
       refine Lq (Qp rfl rfl) ?_
       refine La rfl ?_
       refine Ld ?_
       refine T.ret ?_
       exact ⟨.inl rfl,_,_,res [_] rfl ⟨rvT rfl,trivial⟩,⟨rfl,rfl⟩,Sa⟩
      .
       refine z6 rfl (zK (c7 c2) (e:=27) (sz:=7) ⟨.agg #[.string .empty,.int .i64 0,.int .i64 0,.int .i64 0,.string .empty,.int .i64 0,.slice none 0 0],by kernel_rfl,rfl⟩ rfl rfl rfl ?_)
       intro g145
       refine ⟨Sa,?_⟩
       refine YC [1,6] (List.forall_mem_cons.2 ⟨?_,List.forall_mem_cons.2 ⟨?_,List.forall_mem_nil _⟩⟩)
       .
        refine z6 rfl (Ec (Qf.scan B [] a m c Q h hm) Tryz.func13 rfl rfl rfl ?_)
        rintro _ _ ⟨Q5,B5,hop,hQ5,rfl⟩
        try simp only [cA,nA]
        have hl5:Q5.length=m:=by have:=congrArg List.length hQ5;simp only [List.length_map] at this;omega
        obtain ⟨ot,ou,rfl⟩:=hop.form
        refine ⟨Sa,?_⟩
        refine YC [4,6] (List.forall_mem_cons.2 ⟨?_,List.forall_mem_cons.2 ⟨?_,List.forall_mem_nil _⟩⟩)
        .
         refine z6 rfl (Ec (Qh.filter B A2 g145 c2 tx vx ot ou) Tryz.func12 rfl rfl rfl ?_)
         rintro _ _ ⟨px,ex,rfl,hpx,rfl⟩
         try simp only [cA,nA]
         refine ⟨Sa,?_⟩
         refine yK 6 ?_
         refine z6 rfl (zK (c7 c3) (e:=27) (sz:=7) ⟨.agg #[.string .empty,.int .i64 0,.int .i64 0,.int .i64 0,.string .empty,.int .i64 0,.slice none 0 0],by kernel_rfl,rfl⟩ rfl rfl rfl ?_)
         intro g148
         refine ⟨Sa,?_⟩
         refine yK 7 ?_
         refine zY rfl (Ec (Qh.filter B A3 g148 c3 ty vy _ _) Tryz.func12 rfl rfl rfl ?_)
         rintro _ _ ⟨py,ey,rfl,hpy,rfl⟩
         try simp only [cA,nA]
         refine yK 8 ?_
         refine zY rfl (Ec (Qf.result B [B5,tmR px 1 ex [c2],A2,tmR py 1 ey [c3],A3] _ _ (Qh.both hop (by omega) vx vy cd2.ok cd3.ok hpx hpy) (Nat.lt_of_le_of_lt (both_len _ _ _) (by omega))) Tryz.func11 rfl rfl rfl ?_)
         rintro _ _ ⟨Q6,B6,q6,d6,rfl,hq6,hB6,hn6,hl6,rfl⟩
         try simp only [cA,nA]
         rw [both_fz,hQ5] at hn6
         have hl6:Q6.length<=m:=Nat.le_trans hl6 (Nat.le_trans (both_len _ _ _) (by omega))
         refine Rd0 (by rfl) ?_
         simp only [dS,dZ,dN]
         refine La rfl ?_
         refine Ld ?_
         refine Ts ?_
         refine TR ?_
         refine Lm rfl ?_
         refine Lq (QL [_,_,_,_,_,_,_] rfl ⟨rfl,rfl,rfl,rfl,rfl,rfl,rfl,trivial⟩) ?_
         refine Le (Ec (Qf.kept B [A4] a m c Q (h.mono λ w ho=>ho.tl) hm (by omega) t4 c4 v4 cd4.ok) Tryz.func8 rfl rfl rfl ?_)
         rintro _ _ ⟨Q7,B7,q7,d7,rfl,hq7,hB7,hn7,hl7,rfl⟩
         try simp only [cA,nA]
         refine Lm rfl ?_
         refine Le (Ec (Qf.same B [fqR q7 Q7.length d7 Q7,B7,fqR q6 Q6.length d6 Q6,B6] q7 Q7.length d7 Q7 ((NormPost.fct hB7 hq7).mono λ w ho=>ho.map Sa) rfl q6 Q6.length d6 Q6 ((NormPost.fct hB6 hq6).mono λ w ho=>ho.tl.tl) rfl (keep_and hand hn7 hn6)) Tryz.func14 rfl rfl rfl ?_)
         rintro _ _ ⟨rfl,rfl⟩
         try simp only [cA,nA]
         refine Lm rfl ?_
         refine zQ (t:=156) rfl rfl ?_
         refine Lm rfl ?_
         refine Lq (QL [_,_,_,_,_,_,_] rfl ⟨rfl,rfl,rfl,rfl,rfl,rfl,rfl,trivial⟩) ?_
         refine Le (Ec (Qf.kept B [fqR p n0 c0 W,A5] p n0 c0 W (hW.mono λ w ho=>ho.map Sa) hn0 (by omega) t5 c5 (v5.mono λ w ho=>ho.tl) cd5.ok) Tryz.func8 rfl rfl rfl ?_)
         rintro _ _ ⟨Q8,B8,q8,d8,rfl,hq8,hB8,hn8,hl8,rfl⟩
         try simp only [cA,nA]
         rw [hWf] at hn8
         refine Lm rfl ?_
         refine Le (Ec (Qf.same B [fqR q8 Q8.length d8 Q8,B8,fqR q4 Q4.length d4 Q4,B4] q8 Q8.length d8 Q8 ((NormPost.fct hB8 hq8).mono λ w ho=>ho.map Sa) rfl q4 Q4.length d4 Q4 ((NormPost.fct hB4 hq4).mono λ w ho=>ho.tl.tl) rfl (keep_or (ok:=okE tx ty) (λ r q=>hor r (of_decide_eq_true q).1 (of_decide_eq_true q).2) hn1 hn2 hn3 hn8 hn4)) Tryz.func14 rfl rfl rfl ?_)
         rintro _ _ ⟨rfl,rfl⟩
         try simp only [cA,nA]
         refine Lq (Qp rfl rfl) ?_
         refine Lm rfl ?_
         refine zQ (t:=163) rfl rfl ?_
         refine Lm rfl ?_
         refine Lq (QL [_,_,_,_,_,_,_] rfl ⟨rfl,rfl,rfl,rfl,rfl,rfl,rfl,trivial⟩) ?_
         refine Le (Ec (Qf.kept B [fqR p n0 c0 W,A6] p n0 c0 W (hW.mono λ w ho=>ho.map Sa) hn0 (by omega) t6 c6 (v6.mono λ w ho=>ho.tl) cd6.ok) Tryz.func8 rfl rfl rfl ?_)
         rintro _ _ ⟨Q9,B9,q9,d9,rfl,hq9,hB9,hn9,hl9,rfl⟩
         try simp only [cA,nA]
         rw [hWf] at hn9
         refine Lm rfl ?_
         refine Le (Ec (Qf.same B [fqR q9 Q9.length d9 Q9,B9,fqR q2 Q2.length d2 Q2,B2] q9 Q9.length d9 Q9 ((NormPost.fct hB9 hq9).mono λ w ho=>ho.map Sa) rfl q2 Q2.length d2 Q2 ((NormPost.fct hB2 hq2).mono λ w ho=>ho.tl.tl) rfl (keep_not (ok:=okE tx ty) (λ r q=>hnot r (of_decide_eq_true q).1) hn1 hn2 hn9)) Tryz.func14 rfl rfl rfl ?_)
         rintro _ _ ⟨rfl,rfl⟩
         try simp only [cA,nA]
         refine Lq (Qp rfl rfl) ?_
         refine La rfl ?_
         refine Ld ?_
         refine T.ret ?_
         exact ⟨.inl rfl,_,_,res [_] rfl ⟨rvT rfl,trivial⟩,⟨rfl,rfl⟩,Sa⟩
        refine z6 rfl (zK (c7 c3) (e:=27) (sz:=7) ⟨.agg #[.string .empty,.int .i64 0,.int .i64 0,.int .i64 0,.string .empty,.int .i64 0,.slice none 0 0],by kernel_rfl,rfl⟩ rfl rfl rfl ?_)
        intro g148
        refine ⟨Sa,?_⟩
        refine yK 4 ?_
        refine z6 rfl (Ec (Qh.filter B A2 g145 c2 tx vx ot ou) Tryz.func12 rfl rfl rfl ?_)
        rintro _ _ ⟨px,ex,rfl,hpx,rfl⟩
        try simp only [cA,nA]
        refine ⟨Sa,?_⟩
        refine yK 7 ?_
        refine zY rfl (Ec (Qh.filter B A3 g148 c3 ty vy _ _) Tryz.func12 rfl rfl rfl ?_)
        rintro _ _ ⟨py,ey,rfl,hpy,rfl⟩
        try simp only [cA,nA]
        refine yK 8 ?_
        refine zY rfl (Ec (Qf.result B [B5,tmR px 1 ex [c2],A2,tmR py 1 ey [c3],A3] _ _ (Qh.both hop (by omega) vx vy cd2.ok cd3.ok hpx hpy) (Nat.lt_of_le_of_lt (both_len _ _ _) (by omega))) Tryz.func11 rfl rfl rfl ?_)
        rintro _ _ ⟨Q6,B6,q6,d6,rfl,hq6,hB6,hn6,hl6,rfl⟩
        try simp only [cA,nA]
        rw [both_fz,hQ5] at hn6
        have hl6:Q6.length<=m:=Nat.le_trans hl6 (Nat.le_trans (both_len _ _ _) (by omega))
        refine Rd0 (by rfl) ?_
        simp only [dS,dZ,dN]
        refine La rfl ?_
        refine Ld ?_
        refine Ts ?_
        refine TR ?_
        refine Lm rfl ?_
        refine Lq (QL [_,_,_,_,_,_,_] rfl ⟨rfl,rfl,rfl,rfl,rfl,rfl,rfl,trivial⟩) ?_
        refine Le (Ec (Qf.kept B [A4] a m c Q (h.mono λ w ho=>ho.tl) hm (by omega) t4 c4 v4 cd4.ok) Tryz.func8 rfl rfl rfl ?_)
        rintro _ _ ⟨Q7,B7,q7,d7,rfl,hq7,hB7,hn7,hl7,rfl⟩
        try simp only [cA,nA]
        refine Lm rfl ?_
        refine Le (Ec (Qf.same B [fqR q7 Q7.length d7 Q7,B7,fqR q6 Q6.length d6 Q6,B6] q7 Q7.length d7 Q7 ((NormPost.fct hB7 hq7).mono λ w ho=>ho.map Sa) rfl q6 Q6.length d6 Q6 ((NormPost.fct hB6 hq6).mono λ w ho=>ho.tl.tl) rfl (keep_and hand hn7 hn6)) Tryz.func14 rfl rfl rfl ?_)
        rintro _ _ ⟨rfl,rfl⟩
        try simp only [cA,nA]
        refine Lm rfl ?_
        refine zQ (t:=156) rfl rfl ?_
        refine Lm rfl ?_
        refine Lq (QL [_,_,_,_,_,_,_] rfl ⟨rfl,rfl,rfl,rfl,rfl,rfl,rfl,trivial⟩) ?_
        refine Le (Ec (Qf.kept B [fqR p n0 c0 W,A5] p n0 c0 W (hW.mono λ w ho=>ho.map Sa) hn0 (by omega) t5 c5 (v5.mono λ w ho=>ho.tl) cd5.ok) Tryz.func8 rfl rfl rfl ?_)
        rintro _ _ ⟨Q8,B8,q8,d8,rfl,hq8,hB8,hn8,hl8,rfl⟩
        try simp only [cA,nA]
        rw [hWf] at hn8
        refine Lm rfl ?_
        refine Le (Ec (Qf.same B [fqR q8 Q8.length d8 Q8,B8,fqR q4 Q4.length d4 Q4,B4] q8 Q8.length d8 Q8 ((NormPost.fct hB8 hq8).mono λ w ho=>ho.map Sa) rfl q4 Q4.length d4 Q4 ((NormPost.fct hB4 hq4).mono λ w ho=>ho.tl.tl) rfl (keep_or (ok:=okE tx ty) (λ r q=>hor r (of_decide_eq_true q).1 (of_decide_eq_true q).2) hn1 hn2 hn3 hn8 hn4)) Tryz.func14 rfl rfl rfl ?_)
        rintro _ _ ⟨rfl,rfl⟩
        try simp only [cA,nA]
        refine Lq (Qp rfl rfl) ?_
        refine Lm rfl ?_
        refine zQ (t:=163) rfl rfl ?_
        refine Lm rfl ?_
        refine Lq (QL [_,_,_,_,_,_,_] rfl ⟨rfl,rfl,rfl,rfl,rfl,rfl,rfl,trivial⟩) ?_
        refine Le (Ec (Qf.kept B [fqR p n0 c0 W,A6] p n0 c0 W (hW.mono λ w ho=>ho.map Sa) hn0 (by omega) t6 c6 (v6.mono λ w ho=>ho.tl) cd6.ok) Tryz.func8 rfl rfl rfl ?_)
        rintro _ _ ⟨Q9,B9,q9,d9,rfl,hq9,hB9,hn9,hl9,rfl⟩
        try simp only [cA,nA]
        rw [hWf] at hn9
        refine Lm rfl ?_
        refine Le (Ec (Qf.same B [fqR q9 Q9.length d9 Q9,B9,fqR q2 Q2.length d2 Q2,B2] q9 Q9.length d9 Q9 ((NormPost.fct hB9 hq9).mono λ w ho=>ho.map Sa) rfl q2 Q2.length d2 Q2 ((NormPost.fct hB2 hq2).mono λ w ho=>ho.tl.tl) rfl (keep_not (ok:=okE tx ty) (λ r q=>hnot r (of_decide_eq_true q).1) hn1 hn2 hn9)) Tryz.func14 rfl rfl rfl ?_)
        rintro _ _ ⟨rfl,rfl⟩
        try simp only [cA,nA]
        refine Lq (Qp rfl rfl) ?_
        refine La rfl ?_
        refine Ld ?_
        refine T.ret ?_
        exact ⟨.inl rfl,_,_,res [_] rfl ⟨rvT rfl,trivial⟩,⟨rfl,rfl⟩,Sa⟩
       refine z6 rfl (zK (c7 c3) (e:=27) (sz:=7) ⟨.agg #[.string .empty,.int .i64 0,.int .i64 0,.int .i64 0,.string .empty,.int .i64 0,.slice none 0 0],by kernel_rfl,rfl⟩ rfl rfl rfl ?_)
       intro g148
       refine ⟨Sa,?_⟩
       refine yK 1 ?_
       refine z6 rfl (Ec (Qf.scan B [] a m c Q h hm) Tryz.func13 rfl rfl rfl ?_)
       rintro _ _ ⟨Q5,B5,hop,hQ5,rfl⟩
       try simp only [cA,nA]
       have hl5:Q5.length=m:=by have:=congrArg List.length hQ5;simp only [List.length_map] at this;omega
       obtain ⟨ot,ou,rfl⟩:=hop.form
       refine ⟨Sa,?_⟩
       refine yK 4 ?_
       refine z6 rfl (Ec (Qh.filter B A2 g145 c2 tx vx ot ou) Tryz.func12 rfl rfl rfl ?_)
       rintro _ _ ⟨px,ex,rfl,hpx,rfl⟩
       try simp only [cA,nA]
       refine ⟨Sa,?_⟩
       refine yK 7 ?_
       refine zY rfl (Ec (Qh.filter B A3 g148 c3 ty vy _ _) Tryz.func12 rfl rfl rfl ?_)
       rintro _ _ ⟨py,ey,rfl,hpy,rfl⟩
       try simp only [cA,nA]
       refine yK 8 ?_
       refine zY rfl (Ec (Qf.result B [B5,tmR px 1 ex [c2],A2,tmR py 1 ey [c3],A3] _ _ (Qh.both hop (by omega) vx vy cd2.ok cd3.ok hpx hpy) (Nat.lt_of_le_of_lt (both_len _ _ _) (by omega))) Tryz.func11 rfl rfl rfl ?_)
       rintro _ _ ⟨Q6,B6,q6,d6,rfl,hq6,hB6,hn6,hl6,rfl⟩
       try simp only [cA,nA]
       rw [both_fz,hQ5] at hn6
       have hl6:Q6.length<=m:=Nat.le_trans hl6 (Nat.le_trans (both_len _ _ _) (by omega))
       refine Rd0 (by rfl) ?_
       simp only [dS,dZ,dN]
       refine La rfl ?_
       refine Ld ?_
       refine Ts ?_
       refine TR ?_
       refine Lm rfl ?_
       refine Lq (QL [_,_,_,_,_,_,_] rfl ⟨rfl,rfl,rfl,rfl,rfl,rfl,rfl,trivial⟩) ?_
       refine Le (Ec (Qf.kept B [A4] a m c Q (h.mono λ w ho=>ho.tl) hm (by omega) t4 c4 v4 cd4.ok) Tryz.func8 rfl rfl rfl ?_)
       rintro _ _ ⟨Q7,B7,q7,d7,rfl,hq7,hB7,hn7,hl7,rfl⟩
       try simp only [cA,nA]
       refine Lm rfl ?_
       refine Le (Ec (Qf.same B [fqR q7 Q7.length d7 Q7,B7,fqR q6 Q6.length d6 Q6,B6] q7 Q7.length d7 Q7 ((NormPost.fct hB7 hq7).mono λ w ho=>ho.map Sa) rfl q6 Q6.length d6 Q6 ((NormPost.fct hB6 hq6).mono λ w ho=>ho.tl.tl) rfl (keep_and hand hn7 hn6)) Tryz.func14 rfl rfl rfl ?_)
       rintro _ _ ⟨rfl,rfl⟩
       try simp only [cA,nA]
       refine Lm rfl ?_
       refine zQ (t:=156) rfl rfl ?_
       refine Lm rfl ?_
       refine Lq (QL [_,_,_,_,_,_,_] rfl ⟨rfl,rfl,rfl,rfl,rfl,rfl,rfl,trivial⟩) ?_
       refine Le (Ec (Qf.kept B [fqR p n0 c0 W,A5] p n0 c0 W (hW.mono λ w ho=>ho.map Sa) hn0 (by omega) t5 c5 (v5.mono λ w ho=>ho.tl) cd5.ok) Tryz.func8 rfl rfl rfl ?_)
       rintro _ _ ⟨Q8,B8,q8,d8,rfl,hq8,hB8,hn8,hl8,rfl⟩
       try simp only [cA,nA]
       rw [hWf] at hn8
       refine Lm rfl ?_
       refine Le (Ec (Qf.same B [fqR q8 Q8.length d8 Q8,B8,fqR q4 Q4.length d4 Q4,B4] q8 Q8.length d8 Q8 ((NormPost.fct hB8 hq8).mono λ w ho=>ho.map Sa) rfl q4 Q4.length d4 Q4 ((NormPost.fct hB4 hq4).mono λ w ho=>ho.tl.tl) rfl (keep_or (ok:=okE tx ty) (λ r q=>hor r (of_decide_eq_true q).1 (of_decide_eq_true q).2) hn1 hn2 hn3 hn8 hn4)) Tryz.func14 rfl rfl rfl ?_)
       rintro _ _ ⟨rfl,rfl⟩
       try simp only [cA,nA]
       refine Lq (Qp rfl rfl) ?_
       refine Lm rfl ?_
       refine zQ (t:=163) rfl rfl ?_
       refine Lm rfl ?_
       refine Lq (QL [_,_,_,_,_,_,_] rfl ⟨rfl,rfl,rfl,rfl,rfl,rfl,rfl,trivial⟩) ?_
       refine Le (Ec (Qf.kept B [fqR p n0 c0 W,A6] p n0 c0 W (hW.mono λ w ho=>ho.map Sa) hn0 (by omega) t6 c6 (v6.mono λ w ho=>ho.tl) cd6.ok) Tryz.func8 rfl rfl rfl ?_)
       rintro _ _ ⟨Q9,B9,q9,d9,rfl,hq9,hB9,hn9,hl9,rfl⟩
       try simp only [cA,nA]
       rw [hWf] at hn9
       refine Lm rfl ?_
       refine Le (Ec (Qf.same B [fqR q9 Q9.length d9 Q9,B9,fqR q2 Q2.length d2 Q2,B2] q9 Q9.length d9 Q9 ((NormPost.fct hB9 hq9).mono λ w ho=>ho.map Sa) rfl q2 Q2.length d2 Q2 ((NormPost.fct hB2 hq2).mono λ w ho=>ho.tl.tl) rfl (keep_not (ok:=okE tx ty) (λ r q=>hnot r (of_decide_eq_true q).1) hn1 hn2 hn9)) Tryz.func14 rfl rfl rfl ?_)
       rintro _ _ ⟨rfl,rfl⟩
       try simp only [cA,nA]
       refine Lq (Qp rfl rfl) ?_
       refine La rfl ?_
       refine Ld ?_
       refine T.ret ?_
       exact ⟨.inl rfl,_,_,res [_] rfl ⟨rvT rfl,trivial⟩,⟨rfl,rfl⟩,Sa⟩
      refine z6 rfl (zK (c7 c3) (e:=27) (sz:=7) ⟨.agg #[.string .empty,.int .i64 0,.int .i64 0,.int .i64 0,.string .empty,.int .i64 0,.slice none 0 0],by kernel_rfl,rfl⟩ rfl rfl rfl ?_)
      intro g148
      refine ⟨Sa,?_⟩
      refine YC [1,3] (List.forall_mem_cons.2 ⟨?_,List.forall_mem_cons.2 ⟨?_,List.forall_mem_nil _⟩⟩)
      .
       refine z6 rfl (Ec (Qf.scan B [] a m c Q h hm) Tryz.func13 rfl rfl rfl ?_)
       rintro _ _ ⟨Q5,B5,hop,hQ5,rfl⟩
       try simp only [cA,nA]
       have hl5:Q5.length=m:=by have:=congrArg List.length hQ5;simp only [List.length_map] at this;omega
       obtain ⟨ot,ou,rfl⟩:=hop.form
       refine ⟨Sa,?_⟩
       refine yK 3 ?_
       refine z6 rfl (zK (c7 c2) (e:=27) (sz:=7) ⟨.agg #[.string .empty,.int .i64 0,.int .i64 0,.int .i64 0,.string .empty,.int .i64 0,.slice none 0 0],by kernel_rfl,rfl⟩ rfl rfl rfl ?_)
       intro g145
       refine ⟨Sa,?_⟩
       refine yK 4 ?_
       refine z6 rfl (Ec (Qh.filter B A2 g145 c2 tx vx ot ou) Tryz.func12 rfl rfl rfl ?_)
       rintro _ _ ⟨px,ex,rfl,hpx,rfl⟩
       try simp only [cA,nA]
       refine ⟨Sa,?_⟩
       refine yK 7 ?_
       refine zY rfl (Ec (Qh.filter B A3 g148 c3 ty vy _ _) Tryz.func12 rfl rfl rfl ?_)
       rintro _ _ ⟨py,ey,rfl,hpy,rfl⟩
       try simp only [cA,nA]
       refine yK 8 ?_
       refine zY rfl (Ec (Qf.result B [B5,tmR px 1 ex [c2],A2,tmR py 1 ey [c3],A3] _ _ (Qh.both hop (by omega) vx vy cd2.ok cd3.ok hpx hpy) (Nat.lt_of_le_of_lt (both_len _ _ _) (by omega))) Tryz.func11 rfl rfl rfl ?_)
       rintro _ _ ⟨Q6,B6,q6,d6,rfl,hq6,hB6,hn6,hl6,rfl⟩
       try simp only [cA,nA]
       rw [both_fz,hQ5] at hn6
       have hl6:Q6.length<=m:=Nat.le_trans hl6 (Nat.le_trans (both_len _ _ _) (by omega))
       refine Rd0 (by rfl) ?_
       simp only [dS,dZ,dN]
       refine La rfl ?_
       refine Ld ?_
       refine Ts ?_
       refine TR ?_
       refine Lm rfl ?_
       refine Lq (QL [_,_,_,_,_,_,_] rfl ⟨rfl,rfl,rfl,rfl,rfl,rfl,rfl,trivial⟩) ?_
       refine Le (Ec (Qf.kept B [A4] a m c Q (h.mono λ w ho=>ho.tl) hm (by omega) t4 c4 v4 cd4.ok) Tryz.func8 rfl rfl rfl ?_)
       rintro _ _ ⟨Q7,B7,q7,d7,rfl,hq7,hB7,hn7,hl7,rfl⟩
       try simp only [cA,nA]
       refine Lm rfl ?_
       refine Le (Ec (Qf.same B [fqR q7 Q7.length d7 Q7,B7,fqR q6 Q6.length d6 Q6,B6] q7 Q7.length d7 Q7 ((NormPost.fct hB7 hq7).mono λ w ho=>ho.map Sa) rfl q6 Q6.length d6 Q6 ((NormPost.fct hB6 hq6).mono λ w ho=>ho.tl.tl) rfl (keep_and hand hn7 hn6)) Tryz.func14 rfl rfl rfl ?_)
       rintro _ _ ⟨rfl,rfl⟩
       try simp only [cA,nA]
       refine Lm rfl ?_
       refine zQ (t:=156) rfl rfl ?_
       refine Lm rfl ?_
       refine Lq (QL [_,_,_,_,_,_,_] rfl ⟨rfl,rfl,rfl,rfl,rfl,rfl,rfl,trivial⟩) ?_
       refine Le (Ec (Qf.kept B [fqR p n0 c0 W,A5] p n0 c0 W (hW.mono λ w ho=>ho.map Sa) hn0 (by omega) t5 c5 (v5.mono λ w ho=>ho.tl) cd5.ok) Tryz.func8 rfl rfl rfl ?_)
       rintro _ _ ⟨Q8,B8,q8,d8,rfl,hq8,hB8,hn8,hl8,rfl⟩
       try simp only [cA,nA]
       rw [hWf] at hn8
       refine Lm rfl ?_
       refine Le (Ec (Qf.same B [fqR q8 Q8.length d8 Q8,B8,fqR q4 Q4.length d4 Q4,B4] q8 Q8.length d8 Q8 ((NormPost.fct hB8 hq8).mono λ w ho=>ho.map Sa) rfl q4 Q4.length d4 Q4 ((NormPost.fct hB4 hq4).mono λ w ho=>ho.tl.tl) rfl (keep_or (ok:=okE tx ty) (λ r q=>hor r (of_decide_eq_true q).1 (of_decide_eq_true q).2) hn1 hn2 hn3 hn8 hn4)) Tryz.func14 rfl rfl rfl ?_)
       rintro _ _ ⟨rfl,rfl⟩
       try simp only [cA,nA]
       refine Lq (Qp rfl rfl) ?_
       refine Lm rfl ?_
       refine zQ (t:=163) rfl rfl ?_
       refine Lm rfl ?_
       refine Lq (QL [_,_,_,_,_,_,_] rfl ⟨rfl,rfl,rfl,rfl,rfl,rfl,rfl,trivial⟩) ?_
       refine Le (Ec (Qf.kept B [fqR p n0 c0 W,A6] p n0 c0 W (hW.mono λ w ho=>ho.map Sa) hn0 (by omega) t6 c6 (v6.mono λ w ho=>ho.tl) cd6.ok) Tryz.func8 rfl rfl rfl ?_)
       rintro _ _ ⟨Q9,B9,q9,d9,rfl,hq9,hB9,hn9,hl9,rfl⟩
       try simp only [cA,nA]
       rw [hWf] at hn9
       refine Lm rfl ?_
       refine Le (Ec (Qf.same B [fqR q9 Q9.length d9 Q9,B9,fqR q2 Q2.length d2 Q2,B2] q9 Q9.length d9 Q9 ((NormPost.fct hB9 hq9).mono λ w ho=>ho.map Sa) rfl q2 Q2.length d2 Q2 ((NormPost.fct hB2 hq2).mono λ w ho=>ho.tl.tl) rfl (keep_not (ok:=okE tx ty) (λ r q=>hnot r (of_decide_eq_true q).1) hn1 hn2 hn9)) Tryz.func14 rfl rfl rfl ?_)
       rintro _ _ ⟨rfl,rfl⟩
       try simp only [cA,nA]
       refine Lq (Qp rfl rfl) ?_
       refine La rfl ?_
       refine Ld ?_
       refine T.ret ?_
       exact ⟨.inl rfl,_,_,res [_] rfl ⟨rvT rfl,trivial⟩,⟨rfl,rfl⟩,Sa⟩
      refine z6 rfl (zK (c7 c2) (e:=27) (sz:=7) ⟨.agg #[.string .empty,.int .i64 0,.int .i64 0,.int .i64 0,.string .empty,.int .i64 0,.slice none 0 0],by kernel_rfl,rfl⟩ rfl rfl rfl ?_)
      intro g145
      refine ⟨Sa,?_⟩
      refine yK 1 ?_
      refine z6 rfl (Ec (Qf.scan B [] a m c Q h hm) Tryz.func13 rfl rfl rfl ?_)
      rintro _ _ ⟨Q5,B5,hop,hQ5,rfl⟩
      try simp only [cA,nA]
      have hl5:Q5.length=m:=by have:=congrArg List.length hQ5;simp only [List.length_map] at this;omega
      obtain ⟨ot,ou,rfl⟩:=hop.form
      refine ⟨Sa,?_⟩
      refine yK 4 ?_
      refine z6 rfl (Ec (Qh.filter B A2 g145 c2 tx vx ot ou) Tryz.func12 rfl rfl rfl ?_)
      rintro _ _ ⟨px,ex,rfl,hpx,rfl⟩
      try simp only [cA,nA]
      refine ⟨Sa,?_⟩
      refine yK 7 ?_
      refine zY rfl (Ec (Qh.filter B A3 g148 c3 ty vy _ _) Tryz.func12 rfl rfl rfl ?_)
      rintro _ _ ⟨py,ey,rfl,hpy,rfl⟩
      try simp only [cA,nA]
      refine yK 8 ?_
      refine zY rfl (Ec (Qf.result B [B5,tmR px 1 ex [c2],A2,tmR py 1 ey [c3],A3] _ _ (Qh.both hop (by omega) vx vy cd2.ok cd3.ok hpx hpy) (Nat.lt_of_le_of_lt (both_len _ _ _) (by omega))) Tryz.func11 rfl rfl rfl ?_)
      rintro _ _ ⟨Q6,B6,q6,d6,rfl,hq6,hB6,hn6,hl6,rfl⟩
      try simp only [cA,nA]
      rw [both_fz,hQ5] at hn6
      have hl6:Q6.length<=m:=Nat.le_trans hl6 (Nat.le_trans (both_len _ _ _) (by omega))
      refine Rd0 (by rfl) ?_
      simp only [dS,dZ,dN]
      refine La rfl ?_
      refine Ld ?_
      refine Ts ?_
      refine TR ?_
      refine Lm rfl ?_
      refine Lq (QL [_,_,_,_,_,_,_] rfl ⟨rfl,rfl,rfl,rfl,rfl,rfl,rfl,trivial⟩) ?_
      refine Le (Ec (Qf.kept B [A4] a m c Q (h.mono λ w ho=>ho.tl) hm (by omega) t4 c4 v4 cd4.ok) Tryz.func8 rfl rfl rfl ?_)
      rintro _ _ ⟨Q7,B7,q7,d7,rfl,hq7,hB7,hn7,hl7,rfl⟩
      try simp only [cA,nA]
      refine Lm rfl ?_
      refine Le (Ec (Qf.same B [fqR q7 Q7.length d7 Q7,B7,fqR q6 Q6.length d6 Q6,B6] q7 Q7.length d7 Q7 ((NormPost.fct hB7 hq7).mono λ w ho=>ho.map Sa) rfl q6 Q6.length d6 Q6 ((NormPost.fct hB6 hq6).mono λ w ho=>ho.tl.tl) rfl (keep_and hand hn7 hn6)) Tryz.func14 rfl rfl rfl ?_)
      rintro _ _ ⟨rfl,rfl⟩
      try simp only [cA,nA]
      refine Lm rfl ?_
      refine zQ (t:=156) rfl rfl ?_
      refine Lm rfl ?_
      refine Lq (QL [_,_,_,_,_,_,_] rfl ⟨rfl,rfl,rfl,rfl,rfl,rfl,rfl,trivial⟩) ?_
      refine Le (Ec (Qf.kept B [fqR p n0 c0 W,A5] p n0 c0 W (hW.mono λ w ho=>ho.map Sa) hn0 (by omega) t5 c5 (v5.mono λ w ho=>ho.tl) cd5.ok) Tryz.func8 rfl rfl rfl ?_)
      rintro _ _ ⟨Q8,B8,q8,d8,rfl,hq8,hB8,hn8,hl8,rfl⟩
      try simp only [cA,nA]
      rw [hWf] at hn8
      refine Lm rfl ?_
      refine Le (Ec (Qf.same B [fqR q8 Q8.length d8 Q8,B8,fqR q4 Q4.length d4 Q4,B4] q8 Q8.length d8 Q8 ((NormPost.fct hB8 hq8).mono λ w ho=>ho.map Sa) rfl q4 Q4.length d4 Q4 ((NormPost.fct hB4 hq4).mono λ w ho=>ho.tl.tl) rfl (keep_or (ok:=okE tx ty) (λ r q=>hor r (of_decide_eq_true q).1 (of_decide_eq_true q).2) hn1 hn2 hn3 hn8 hn4)) Tryz.func14 rfl rfl rfl ?_)
      rintro _ _ ⟨rfl,rfl⟩
      try simp only [cA,nA]
      refine Lq (Qp rfl rfl) ?_
      refine Lm rfl ?_
      refine zQ (t:=163) rfl rfl ?_
      refine Lm rfl ?_
      refine Lq (QL [_,_,_,_,_,_,_] rfl ⟨rfl,rfl,rfl,rfl,rfl,rfl,rfl,trivial⟩) ?_
      refine Le (Ec (Qf.kept B [fqR p n0 c0 W,A6] p n0 c0 W (hW.mono λ w ho=>ho.map Sa) hn0 (by omega) t6 c6 (v6.mono λ w ho=>ho.tl) cd6.ok) Tryz.func8 rfl rfl rfl ?_)
      rintro _ _ ⟨Q9,B9,q9,d9,rfl,hq9,hB9,hn9,hl9,rfl⟩
      try simp only [cA,nA]
      rw [hWf] at hn9
      refine Lm rfl ?_
      refine Le (Ec (Qf.same B [fqR q9 Q9.length d9 Q9,B9,fqR q2 Q2.length d2 Q2,B2] q9 Q9.length d9 Q9 ((NormPost.fct hB9 hq9).mono λ w ho=>ho.map Sa) rfl q2 Q2.length d2 Q2 ((NormPost.fct hB2 hq2).mono λ w ho=>ho.tl.tl) rfl (keep_not (ok:=okE tx ty) (λ r q=>hnot r (of_decide_eq_true q).1) hn1 hn2 hn9)) Tryz.func14 rfl rfl rfl ?_)
      rintro _ _ ⟨rfl,rfl⟩
      try simp only [cA,nA]
      refine Lq (Qp rfl rfl) ?_
      refine La rfl ?_
      refine Ld ?_
      refine T.ret ?_
      exact ⟨.inl rfl,_,_,res [_] rfl ⟨rvT rfl,trivial⟩,⟨rfl,rfl⟩,Sa⟩
     have hp6:p6=false:=by simpa using hp6
     subst hp6
     refine yT (t:=83) rfl rfl ?_
     refine Lm rfl ?_
     refine Lq (Y2 rfl) ?_
     refine Lq (Qp rfl rfl) ?_
     refine Lm rfl ?_
     refine yT (t:=87) rfl rfl ?_
     refine Lm rfl ?_
     refine Lq (Y2 rfl) ?_
     refine Lq (Qp rfl rfl) ?_
     refine Lm rfl ?_
     refine yT (t:=91) rfl rfl ?_
     refine Lm rfl ?_
     refine Lq (Y2 rfl) ?_
     refine Lq (Qp rfl rfl) ?_
     refine Lm rfl ?_
     refine yT (t:=95) rfl rfl ?_
     refine Lm rfl ?_
     refine Lq (Y2 rfl) ?_
     refine Lq (Qp rfl rfl) ?_
     refine Ld ?_
     refine zF rfl ?_
     refine Ts ?_
     refine TR ?_
     refine La rfl ?_
     refine Ld ?_
     refine T.ret ?_
     exact ⟨.inl rfl,_,_,res [_] rfl ⟨rvT rfl,trivial⟩,⟨rfl,rfl⟩,Sa⟩
    have hp5:p5=false:=by simpa using hp5
    subst hp5
    refine yT (t:=83) rfl rfl ?_
    refine Lm rfl ?_
    refine Lq (Y2 rfl) ?_
    refine Lq (Qp rfl rfl) ?_
    refine Lm rfl ?_
    refine yT (t:=87) rfl rfl ?_
    refine Lm rfl ?_
    refine Lq (Y2 rfl) ?_
    refine Lq (Qp rfl rfl) ?_
    refine Lm rfl ?_
    refine yT (t:=91) rfl rfl ?_
    refine Lm rfl ?_
    refine Lq (Y2 rfl) ?_
    refine Lq (Qp rfl rfl) ?_
    refine Lm rfl ?_
    refine zQ (t:=95) rfl rfl ?_
    refine Ls rfl ?_
    refine Ls rfl ?_
    refine Lq (Qp rfl rfl) ?_
    refine Ld ?_
    refine zF rfl ?_
    refine Ts ?_
    refine TR ?_
    refine La rfl ?_
    refine Ld ?_
    refine T.ret ?_
    exact ⟨.inl rfl,_,_,res [_] rfl ⟨rvT rfl,trivial⟩,⟨rfl,rfl⟩,Sa⟩
   have hp4:p4=false:=by simpa using hp4
   subst hp4
   refine yT (t:=83) rfl rfl ?_
   refine Lm rfl ?_
   refine Lq (Y2 rfl) ?_
   refine Lq (Qp rfl rfl) ?_
   refine Lm rfl ?_
   refine yT (t:=87) rfl rfl ?_
   refine Lm rfl ?_
   refine Lq (Y2 rfl) ?_
   refine Lq (Qp rfl rfl) ?_
   refine Lm rfl ?_
   refine zQ (t:=91) rfl rfl ?_
   refine Ls rfl ?_
   refine Ls rfl ?_
   refine Lq (Qp rfl rfl) ?_
   refine Lm rfl ?_
   refine zQ (t:=95) rfl rfl ?_
   refine Ls rfl ?_
   refine Ls rfl ?_
   refine Lq (Qp rfl rfl) ?_
   refine Ld ?_
   refine zF rfl ?_
   refine Ts ?_
   refine TR ?_
   refine La rfl ?_
   refine Ld ?_
   refine T.ret ?_
   exact ⟨.inl rfl,_,_,res [_] rfl ⟨rvT rfl,trivial⟩,⟨rfl,rfl⟩,Sa⟩
  have hp3:p3=false:=by simpa using hp3
  subst hp3
  refine yT (t:=83) rfl rfl ?_
  refine Lm rfl ?_
  refine Lq (Y2 rfl) ?_
  refine Lq (Qp rfl rfl) ?_
  refine Lm rfl ?_
  refine zQ (t:=87) rfl rfl ?_
  refine Ls rfl ?_
  refine Ls rfl ?_
  refine Lq (Qp rfl rfl) ?_
  refine Lm rfl ?_
  refine zQ (t:=91) rfl rfl ?_
  refine Ls rfl ?_
  refine Ls rfl ?_
  refine Lq (Qp rfl rfl) ?_
  refine Lm rfl ?_
  refine zQ (t:=95) rfl rfl ?_
  refine Ls rfl ?_
  refine Ls rfl ?_
  refine Lq (Qp rfl rfl) ?_
  refine Ld ?_
  refine zF rfl ?_
  refine Ts ?_
  refine TR ?_
  refine La rfl ?_
  refine Ld ?_
  refine T.ret ?_
  exact ⟨.inl rfl,_,_,res [_] rfl ⟨rvT rfl,trivial⟩,⟨rfl,rfl⟩,Sa⟩
 have hp2:p2=false:=by simpa using hp2
 subst hp2
 refine zQ (t:=83) rfl rfl ?_
 refine Ls rfl ?_
 refine Ls rfl ?_
 refine Lq (Qp rfl rfl) ?_
 refine Lm rfl ?_
 refine zQ (t:=87) rfl rfl ?_
 refine Ls rfl ?_
 refine Ls rfl ?_
 refine Lq (Qp rfl rfl) ?_
 refine Lm rfl ?_
 refine zQ (t:=91) rfl rfl ?_
 refine Ls rfl ?_
 refine Ls rfl ?_
 refine Lq (Qp rfl rfl) ?_
 refine Lm rfl ?_
 refine zQ (t:=95) rfl rfl ?_
 refine Ls rfl ?_
 refine Ls rfl ?_
 refine Lq (Qp rfl rfl) ?_
 refine Ld ?_
 refine zF rfl ?_
 refine Ts ?_
 refine TR ?_
 refine La rfl ?_
 refine Ld ?_
 refine T.ret ?_
 exact ⟨.inl rfl,_,_,res [_] rfl ⟨rvT rfl,trivial⟩,⟨rfl,rfl⟩,Sa⟩
end Go.Proofs.YtnnfjemaeefbiaaGreatDoor
