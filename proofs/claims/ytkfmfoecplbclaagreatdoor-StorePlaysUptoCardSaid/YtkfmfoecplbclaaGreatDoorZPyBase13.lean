/- The texts HeP HeQ HpE HeR HeS SkA, one behind the other: what the law leans on. Conditions: as each theorem says. -/
import Derived.Test.YtkfmfoecplbclaaGreatDoorZPyBase12
import Derived.Shelf.SlSortCmp.NoneTotal
set_option linter.unusedSimpArgs false
set_option linter.unusedVariables false
set_option maxRecDepth 100000
set_option maxHeartbeats 16000000
namespace Go.Proofs.YtkfmfoecplbclaaGreatDoor
open Go.RowKit
structure VerM where
 v:Ver
 p:Option Addr
 c:Nat
 raw:List UInt8
def VerM.Ok (x:VerM):Prop:=x.raw.length=16+x.v.data.length/\x.raw.drop 16=x.v.data
abbrev vmC (x:VerM):List Value:=[.int .i64 x.v.page,.int .i64 x.v.slot,.int .i64 x.v.beg,.int .i64 x.v.fin,.slice (offA x.p x.c 16 1) x.v.data.length (x.c-16)]
abbrev vmA (x:VerM):Wp:=rB (.slice x.p (16+x.v.data.length) x.c) (16+x.v.data.length) x.raw
def vmsA (L:List VerM):Wp:=sepL (L.map vmA)
abbrev vmR (p:Option Addr) (n c:Nat) (L:List VerM):Wp:=row (.slice p n c) 99 5 n (L.flatMap vmC)
def outM (g:Nat) (L:List VerM):Wp:=exA λ pc:Option Addr×Nat=>sepL [blk g [.slice pc.1 L.length pc.2] 95,vmR pc.1 L.length pc.2 L,vmsA L]
theorem outM_ex {B:Wn} {g:Nat} {L:List VerM} {l:List Wp} (w:World) (ho:Own B w (outM g L::l)) : ∃ pc:Option Addr×Nat,Own B w (blk g [.slice pc.1 L.length pc.2] 95::vmR pc.1 L.length pc.2 L::vmsA L::l):=by
 obtain ⟨h,a,b,H⟩:=ho.has
 obtain ⟨pc,H1⟩:=Has.open_ex H
 exact ⟨pc,ho.os,ho.tape,ho.output,ho.ro,h,a,b,Has.open_sepL H1⟩
theorem outM_in {g n:Nat} {L:List VerM} {p:Option Addr} {c:Nat} (hn:n=L.length) {l:List Wp} {k:Piece} (H:Has (blk g [.slice p n c] 95::vmR p n c L::vmsA L::l) k):Has (outM g L::l) k:=by
 subst hn
 exact Has.close_ex (p,c) (Has.close_sepL (l:=[blk g [.slice p L.length c] 95,vmR p L.length c L,vmsA L]) H)
theorem vms_snoc {L:List VerM} {x:VerM} {l:List Wp} {k:Piece} (H:Has (vmA x::vmsA L::l) k):Has (vmsA (L++[x])::l) k:=by
 unfold vmsA
 rw [List.map_append]
 exact sep_pushS H
theorem vm_step {L:List VerM} {x:VerM} {p:Option Addr} {n c:Nat} {cs:List Value} (hx:cs=vmC x) {l:List Wp} {k:Piece} (H:Has (vmA x::vmsA L::row (.slice p n c) 99 5 n (L.flatMap vmC++cs)::l) k):Has (vmR p n c (L++[x])::vmsA (L++[x])::l) k:=by
 have H1:=vms_snoc H
 subst hx
 unfold vmR
 rw [List.flatMap_append,show [x].flatMap vmC=vmC x by simp]
 exact Has.swap H1
theorem Hp.elemV : ElemOk Tryz.prog 95 99 5 56 := .mk' (.agg #[.int .i64 0,.int .i64 0,.int .i64 0,.int .i64 0,.slice none 0 0]) Tryz.underlying95 (by kernel_rfl) rfl (by omega)
theorem vis_none {h:HR} {v:Ver} (hb:stN h v.beg=0):visV h v=none:=by unfold visV;rw [if_pos (stN_lost.1 hb)]
theorem vis_zero {h:HR} {v:Ver} (hb : ¬ stN h v.beg=0) (hf:stN h v.fin=0):visV h v=some {v with fin:=0}:=by
 unfold visV;rw [if_neg (λ q=>hb (stN_lost.2 q)),if_pos (stN_lost.1 hf)]
theorem vis_full {h:HR} {v:Ver} (hb : ¬ stN h v.beg=0) (hf : ¬ stN h v.fin=0):visV h v=some v:=by
 unfold visV;rw [if_neg (λ q=>hb (stN_lost.2 q)),if_neg (λ q=>hf (stN_lost.2 q))]
theorem fm_take {α β:Type} {f:α->Option β} {l:List α} {j:Nat} {a:α} (h:l[j]? = some a):(l.take (j+1)).filterMap f=(l.take j).filterMap f++(f a).toList:=by
 obtain ⟨hj,rfl⟩:=List.getElem?_eq_some_iff.1 h
 rw [List.take_succ_eq_append_getElem hj,List.filterMap_append]
 cases hf:f l[j] <;> simp [hf]
theorem Hp.all1 (B:Wn) (g gpg g4 g1 g3:Nat) (x:HpQ) (pc:Option Addr) (cc:Nat) (st:List (Int×Int)) (h:HR) (q:Nat) (m:Int) (r:RInv h) (hst:StI st h) (hlk:h.last<2^62) (L:List VerM) (hL : ∀ x∈L,x.Ok) (hLn:L.length<2^20) (hq:q<4096) :
  Fn Tryz.prog B 53 #[pV gpg,pV g4,pV g1,pV g3] (pgA gpg (Zi h.vs q) m::hpB g x pc h.cm.length cc h.last::[blk g4 [.int .i64 q] 3,blk g1 [pV g] 83,stA x st,outM g3 L])
   (λ u l=>u = .bool false /\ ∃ L',(∀ x∈L',x.Ok)/\L'.map (·.v)=L.map (·.v)++(Zh h.vs q).filterMap (visV h)/\l=pgA gpg (Zi h.vs q) m::hpB g x pc h.cm.length cc h.last::[blk g4 [.int .i64 q] 3,blk g1 [pV g] 83,stA x st,outM g3 L']):=by
 have hpl:=pages_len r.ok q
 have hrl:(Zi h.vs q).length=(Zh h.vs q).length:=by simp [Zi]
 refine Fn.enter4 52 Tryz.func53 rfl rfl (nB rfl) (λ F=>?_)
 try simp only [cA,nA]
 refine TS (La rfl (Ld (Ts (TS (Lm rfl ?_)))))
 refine Le (Ec (Pg.count B gpg (Zi h.vs q) m) Tryz.func54 rfl rfl rfl ?_)
 rintro _ _ ⟨rfl,rfl⟩
 try simp only [cA,nA]
 rw [hrl]
 refine Lm rfl (Ld (yH ?_))
 refine T.ex (l':=λ pc2:Option Addr×Nat=>blk g3 [.slice pc2.1 L.length pc2.2] 95::vmR pc2.1 L.length pc2.2 L::vmsA L::pgA gpg (Zi h.vs q) m::hpB g x pc h.cm.length cc h.last::blk g4 [.int .i64 q] 3::blk g1 [pV g] 83::stA x st::F) (λ w ho=>outM_ex w (ho.map Sa)) (λ pc2=>?_)
 obtain ⟨p0,c0⟩:=pc2
 refine zG (λ mz fz lz => ∃ (f0:Fr) (j n2:Nat) (L2:List VerM) (p2:Option Addr) (c2:Nat),(j<=(Zh h.vs q).length/\n2=L2.length/\n2<=L.length+j/\(∀ x∈L2,x.Ok)/\L2.map (·.v)=L.map (·.v)++((Zh h.vs q).take j).filterMap (visV h))/\mz=(Zh h.vs q).length-j/\fz=(upd (upd (upd (upd (upd (upd f0 0 (pV gpg)) 1 (pV g4)) 2 (pV g1)) 3 (pV g3)) 11 (.int .i64 (Zh h.vs q).length)) 12 (.int .i64 j))/\lz=blk g3 [.slice p2 n2 c2] 95::vmR p2 n2 c2 L2::vmsA L2::pgA gpg (Zi h.vs q) m::hpB g x pc h.cm.length cc h.last::blk g4 [.int .i64 q] 3::blk g1 [pV g] 83::stA x st::F) ?_ ?_
 . refine ⟨_,_,⟨_,0,L.length,L,p0,c0,⟨Nat.zero_le _,rfl,by omega,hL,by simp⟩,rfl,U6,rfl⟩,Sa⟩
 rintro mz fz lz ⟨f0,j,n2,L2,p2,c2,⟨hj,hn2,hnb,hok2,hmap⟩,hmz,rfl,rfl⟩
 subst mz
 refine TS (Lq (yM rfl rfl) (Ld (Ts ?_)))
 refine yN rfl (λ hlt=>?_) (λ hlt=>?_)
 .
  have hjl:j<(Zh h.vs q).length:=by omega
  obtain ⟨v,hv⟩ : ∃ v,(Zh h.vs q)[j]? = some v:=⟨_,List.getElem?_eq_getElem hjl⟩
  obtain ⟨hvp,hvs⟩:=slots_page r.ok.slots q j v hv
  have hvo:=ver_ok r (mem_of_filt (List.mem_of_getElem? hv))
  have hft:=fm_take (f:=visV h) hv
  refine Tk (Ts (yH (TS (Lm rfl (La rfl (Ld (TS (Lm rfl (Lm rfl ?_)))))))))
  refine Le (Ec (Fn.own (Pg.getE B gpg (Zi h.vs q) m j j (16+v.data.length) (verB v) rfl (by unfold Zi;rw [List.getElem?_map,hv];rfl) (length_verB v))) Tryz.func55 rfl rfl rfl ?_)
  rintro _ _ ⟨⟨p1,c1,rfl,rfl⟩,w1,F1,ho1⟩
  try simp only [cA,nA]
  simp only [List.cons_append,List.nil_append] at ho1
  have hp1:=(ho1.slice_at (p:=p1) (m:=16+v.data.length) (c:=c1)).2.1
  have hc1:=ho1.cap_at (p:=p1) (m:=16+v.data.length) (c:=c1)
  clear ho1
  iterate 5 refine Lz ?_
  refine Ld (Ts (TS ?_))
  iterate 3 refine Lz ?_
  refine Ld (yL rfl (Tk (TS ?_)))
  iterate 3 refine Lz ?_
  refine Le (Ec (Hp.version B [rB (.slice p1 (16+v.data.length) c1) (16+v.data.length) (verB v)] q j p1 (16+v.data.length) c1 v (RdV.rB (length_verB v) hp1) (length_verB v) hc1 ⟨by omega,by omega⟩ ⟨by omega,by omega⟩) Tryz.func56 rfl rfl rfl ?_)
  rintro _ _ ⟨rfl,rfl⟩
  try simp only [cA,nA]
  refine Le (El [.int .i64 0,.int .i64 0,.int .i64 0,.int .i64 0,.slice none 0 0] (by unfold Zf;kernel_rfl) ?_)
  intro g9
  refine L0 (Es [_,_,_,_,_] rfl rfl rfl rfl (by simp) ?_)
  try simp only [splice,lC,lN,dS,cA,tS,tZ,dZ,nA,aN]
  refine Ld (Ts (Ts ?_))
  have hbeg:(Zy st v.beg).getD 0=stN h v.beg:=hst v.beg
  have hfin:(Zy st v.fin).getD 0=stN h v.fin:=hst v.fin
  refine T.draw 9 ([hpB g x pc h.cm.length cc h.last,stA x st,blk g1 [pV g] 83,verB5 g9 q j v.beg v.fin (.slice (offA p1 c1 16 1) v.data.length (c1-16))]) (nB rfl) ?_
  refine Rz 0 ?_;refine Rz 1 ?_;refine Rz 2 ?_;refine Rz 3 ?_;refine Rz 4 ?_;refine Rz 5 ?_;refine Rz 6 ?_
  refine Rq 7 rfl Sa (zT Hp.okS rfl v.beg rfl 0 rfl) ?_
  refine Rz 8 ?_
  refine Rd0 (by rfl) ?_
  simp only [dS,dZ,dN]
  refine Ld ?_
  by_cases hb0:stN h v.beg=0
  .
   refine zM rfl (hp:=((by rw [hbeg];exact hb0))) (zB (TR ?_))
   iterate 2 refine Lz ?_
   refine Ld ?_
   refine ⟨_,?_,_,⟨_,j+1,n2,L2,p2,c2,⟨by omega,hn2,by omega,hok2,by rw [hft,vis_none hb0,hmap];simp⟩,rfl,U6,rfl⟩,Sa⟩
   omega
  refine yL rfl (hp:=((by rw [hbeg];exact hb0))) (Tk (Ts (Ts (T.draw 9 ([hpB g x pc h.cm.length cc h.last,stA x st,blk g1 [pV g] 83,verB5 g9 q j v.beg v.fin (.slice (offA p1 c1 16 1) v.data.length (c1-16))]) (nB rfl) ?_))))
  refine Rz 0 ?_;refine Rz 1 ?_;refine Rz 2 ?_;refine Rz 3 ?_;refine Rz 4 ?_;refine Rz 5 ?_;refine Rz 6 ?_
  refine Rq 7 rfl Sa (zT Hp.okS rfl v.fin rfl 0 rfl) ?_
  refine Rz 8 ?_
  refine Rd0 (by rfl) ?_
  simp only [dS,dZ,dN]
  refine Ld ?_
  by_cases hf0:stN h v.fin=0
  .
   refine zM rfl (hp:=((by rw [hfin];exact hf0))) (TR (Lq (Qf (off:=3) rfl) ?_))
   refine L0 (E1 (by kernel_rfl) rfl rfl rfl (by first | (simp;done) | (simp;omega)) ?_)
   try simp only [List.set_cons_zero,List.set_cons_succ]
   refine Ld (TR ?_)
   iterate 2 refine Lz ?_
   refine Le (zK [_,_,_,_,_] (e:=99) (sz:=5) ⟨.agg #[.int .i64 0,.int .i64 0,.int .i64 0,.int .i64 0,.slice none 0 0],by kernel_rfl,rfl⟩ rfl rfl rfl ?_)
   intro g49
   refine Le (Ea Hp.elemV rfl rfl (SrcOf.blk (by kernel_rfl) rfl (by simp [Value.oneCell'])) (by unfold maxLen;omega) ?_)
   rintro p3 c3 hp3
   refine L0 (E1 (by kernel_rfl) rfl rfl rfl (by first | (simp;done) | (simp;omega)) ?_)
   try simp only [List.set_cons_zero,List.set_cons_succ]
   refine Ld (TR ?_)
   iterate 2 refine Lz ?_
   refine Ld ?_
   have hstep:=λ k=>vm_step (L:=L2) (x:=⟨{v with fin:=0},p1,c1,verB v⟩) (p:=p3) (n:=n2+1) (c:=c3) (cs:=[.int .i64 q,.int .i64 j,.int .i64 v.beg,.int .i64 0,.slice (offA p1 c1 16 1) v.data.length (c1-16)]) (by rw [<-hvp,<-hvs]) (l:=blk g3 [.slice p3 (n2+1) c3] 95::pgA gpg (Zi h.vs q) m::hpB g x pc h.cm.length cc h.last::blk g4 [.int .i64 q] 3::blk g1 [pV g] 83::stA x st::F) (k:=k)
   refine ⟨_,?_,_,⟨_,j+1,n2+1,L2++[⟨{v with fin:=0},p1,c1,verB v⟩],p3,c3,⟨by omega,by simp [hn2],by omega,λ y hy=>by rcases List.mem_append.1 hy with hy | hy;exact hok2 y hy;simp at hy;subst hy;exact ⟨length_verB v,ver_data v⟩,by rw [hft,vis_zero hb0 hf0,List.map_append,hmap];simp⟩,rfl,U6,rfl⟩,(λ k K=>Sa k (hstep k (Sa k K)))⟩
   omega
  refine yL rfl (hp:=((by rw [hfin];exact hf0))) (Tk (TR ?_))
  iterate 2 refine Lz ?_
  refine Le (zK [_,_,_,_,_] (e:=99) (sz:=5) ⟨.agg #[.int .i64 0,.int .i64 0,.int .i64 0,.int .i64 0,.slice none 0 0],by kernel_rfl,rfl⟩ rfl rfl rfl ?_)
  intro g49
  refine Le (Ea Hp.elemV rfl rfl (SrcOf.blk (by kernel_rfl) rfl (by simp [Value.oneCell'])) (by unfold maxLen;omega) ?_)
  rintro p3 c3 hp3
  refine L0 (E1 (by kernel_rfl) rfl rfl rfl (by first | (simp;done) | (simp;omega)) ?_)
  try simp only [List.set_cons_zero,List.set_cons_succ]
  refine Ld (TR ?_)
  iterate 2 refine Lz ?_
  refine Ld ?_
  have hstep:=λ k=>vm_step (L:=L2) (x:=⟨v,p1,c1,verB v⟩) (p:=p3) (n:=n2+1) (c:=c3) (cs:=[.int .i64 q,.int .i64 j,.int .i64 v.beg,.int .i64 v.fin,.slice (offA p1 c1 16 1) v.data.length (c1-16)]) (by rw [<-hvp,<-hvs]) (l:=blk g3 [.slice p3 (n2+1) c3] 95::pgA gpg (Zi h.vs q) m::hpB g x pc h.cm.length cc h.last::blk g4 [.int .i64 q] 3::blk g1 [pV g] 83::stA x st::F) (k:=k)
  refine ⟨_,?_,_,⟨_,j+1,n2+1,L2++[⟨v,p1,c1,verB v⟩],p3,c3,⟨by omega,by simp [hn2],by omega,λ y hy=>by rcases List.mem_append.1 hy with hy | hy;exact hok2 y hy;simp at hy;subst hy;exact ⟨length_verB v,ver_data v⟩,by rw [hft,vis_full hb0 hf0,List.map_append,hmap];simp⟩,rfl,U6,rfl⟩,(λ k K=>Sa k (hstep k (Sa k K)))⟩
  omega
 obtain rfl:j=(Zh h.vs q).length:=by omega
 rw [List.take_length] at hmap
 refine zB (TS (La rfl (Ld (T.ret ?_))))
 exact ⟨.inl rfl,_,_,res [_] rfl ⟨rvT rfl,trivial⟩,⟨rfl,L2,hok2,hmap,rfl⟩,(λ k K=>Sa k (outM_in hn2 (Sa (m:=blk g3 [.slice p2 n2 c2] 95::vmR p2 n2 c2 L2::vmsA L2::pgA gpg (Zi h.vs q) m::hpB g x pc h.cm.length cc h.last::blk g4 [.int .i64 q] 3::blk g1 [pV g] 83::stA x st::F) k K)))⟩
open Go.RowKit
theorem outM_start {g:Nat} {l:List Wp} {k:Piece} (K:Has (blk g [.slice none 0 0] 95::l) k):Has (outM g []::l) k:=outM_in (p:=none) (c:=0) (n:=0) rfl (Wt (λ _ K=>rowNilP (sep_nilS K)) K)
theorem vis_len {h:HR} (r:RInv h) (q:Nat):((Zh h.vs q).filterMap (visV h)).length<=15:=by
 have h1:=pages_len r.ok q
 have h2:((Zh h.vs q).filterMap (visV h)).length<=(Zh h.vs q).length:=List.length_filterMap_le _ _
 omega
theorem Hp.all (B:Wn) (g b logs count n K:Nat) (h:HR) (hK:K+count<2^29) :
  Fn Tryz.prog B 22 #[pV g] [hpA g b logs count n K h] (λ u l => ∃ L p c,(∀ x∈L,VerM.Ok x)/\L.map (·.v)=allR h/\u = .slice p L.length c/\l=[vmR p L.length c L,vmsA L,hpA g b logs count n (K+count) h]):=by
 refine Fn.openHp λ x hi hp=>?_
 simp only [hpC,List.cons_append,List.nil_append]
 have hct:=hi.cnt
 have hpg:=hi.pages
 have hlk:h.last<2^62:=by have:=hi.lastK;omega
 refine Wq 21 Tryz.func22 rfl rfl (nB rfl) (λ F=>?_)
 try simp only [cA,nA]
 refine TS ?_
 refine Le (zL [_] rfl rfl ?_)
 intro g1
 refine La rfl (Ld (TS ?_))
 refine Le (El [.slice none 0 0] (by unfold Zf;kernel_rfl) ?_)
 intro g3
 refine Ld (Ts (TS ?_))
 iterate 6 refine Lz ?_
 refine Le (Ec (Bp.pages B x.q.gp b n logs count x.s.hand x.q.gl x.s.A) Tryz.func43 rfl rfl rfl ?_)
 rintro _ _ ⟨rfl,rfl⟩
 try simp only [cA,nA]
 refine Lm rfl (Ld (yH (T.conv (l':=outM g3 []::blk g1 [pV g] 83::hpB g x.q x.pc h.cm.length x.cc h.last::stA x.q x.st::cmR x.pc h.cm.length x.cc h.cm::wlS b x.q x.s::plS b n logs count x.q x.s::Zn b x.s.D::F) (λ w ho=>ho.map λ k K=>outM_start (Sa k K)) ?_)))
 refine zG (λ mz fz lz => ∃ (f0:Fr) (k:Nat) (s2:Pl) (L:List VerM),(k<=count/\SInv logs count n (K+k) s2 h.es (Zi h.vs)/\(∀ x∈L,VerM.Ok x)/\L.map (·.v)=(List.range k).flatMap (λ q=>(Zh h.vs q).filterMap (visV h))/\L.length<=15*k)/\mz=count-k/\fz=(upd (upd (upd (upd f0 1 (pV g1)) 3 (pV g3)) 11 (.int .i64 count)) 12 (.int .i64 k))/\lz=outM g3 L::blk g1 [pV g] 83::hpB g x.q x.pc h.cm.length x.cc h.last::stA x.q x.st::cmR x.pc h.cm.length x.cc h.cm::wlS b x.q s2::plS b n logs count x.q s2::Zn b s2.D::F) ?_ ?_
 . refine ⟨_,_,⟨_,0,x.s,[],⟨Nat.zero_le _,hi.s,by simp,rfl,by simp⟩,rfl,U4,rfl⟩,Sa⟩
 rintro mz fz lz ⟨f0,k,s2,L,⟨hk,hs2,hok,hmap,hll⟩,hmz,rfl,rfl⟩
 subst mz
 refine TS (Lq (yM rfl rfl) (Ld (Ts ?_)))
 refine yN rfl (λ hlt=>?_) (λ hlt=>?_)
 .
  refine Tk (Ts (yH (TS (Lm rfl ?_))))
  refine Le (El [.int .i64 0] (by unfold Zf;kernel_rfl) ?_)
  intro g4
  refine L0 (E1 (by kernel_rfl) rfl rfl rfl (by first | (simp;done) | (simp;omega)) ?_)
  try simp only [List.set_cons_zero,List.set_cons_succ]
  refine Ld (TR ?_)
  iterate 2 refine Lz ?_
  refine Lq (Y4 [_,_,_] rfl) ?_
  refine Le (Ec (Hp.with B g b n logs count (K+k) x.q x.pc h.cm.length x.cc h.last s2 h.es (Zi h.vs) hs2 (by omega) k (by omega) k rfl 0 0 rfl (by omega) 53 Tryz.f53 [pV g4,pV g1,pV g3] [blk g4 [.int .i64 k] 3,blk g1 [pV g] 83,stA x.q x.st,outM g3 L] (λ bb r' X'=>bb=false /\ ∃ L',(∀ x∈L',VerM.Ok x)/\L'.map (·.v)=L.map (·.v)++(Zh h.vs k).filterMap (visV h)/\X'=[blk g4 [.int .i64 k] 3,blk g1 [pV g] 83,stA x.q x.st,outM g3 L']) Tryz.func53 rfl rfl (λ gpg m=>(Hp.all1 B g gpg g4 g1 g3 x.q x.pc x.cc x.st h k m hi.r hi.st hlk L hok (by omega) (by omega)).mono (λ v l ⟨h1,L',h2,h3,h4⟩=>⟨false,_,_,⟨rfl,L',h2,h3,rfl⟩,h1,h4⟩)) (λ r' X' hh=>by obtain ⟨h1,_⟩:=hh;cases h1)) Tryz.func52 rfl rfl rfl ?_)
  rintro _ _ ⟨bb,r',X',s',⟨rfl,L',hok',hmap',rfl⟩,hS,rfl,rfl⟩
  try simp only [cA,nA]
  have hS2:SInv logs count n (K+k+1) s' h.es (Zi h.vs):=by simpa [rcSet] using hS
  have hvl:=vis_len hi.r k
  have hl':=congrArg List.length hmap'
  simp only [List.length_map,List.length_append] at hl'
  refine Ld (TR ?_)
  iterate 2 refine Lz ?_
  refine Ld ?_
  refine ⟨_,?_,_,⟨_,k+1,s',L',⟨by omega,hS2,hok',by rw [hmap',hmap,List.range_succ,List.flatMap_append];simp,by omega⟩,rfl,U4,rfl⟩,Sa⟩
  omega
 obtain rfl:k=count:=by omega
 refine T.ex (l':=λ pc2:Option Addr×Nat=>blk g3 [.slice pc2.1 L.length pc2.2] 95::vmR pc2.1 L.length pc2.2 L::vmsA L::blk g1 [pV g] 83::hpB g x.q x.pc h.cm.length x.cc h.last::stA x.q x.st::cmR x.pc h.cm.length x.cc h.cm::wlS b x.q s2::plS b n logs k x.q s2::Zn b s2.D::F) (λ w ho=>outM_ex w (ho.map Sa)) (λ pc2=>?_)
 obtain ⟨p0,c0⟩:=pc2
 have hi2:HInv logs k n (K+k) s2 x.st h:=⟨hs2,hi.r,hi.st,hi.pages,hi.room,by have:=hi.lastK;omega⟩
 refine zB (TS ?_)
 iterate 2 refine Lz ?_
 refine Ld (T.ret ?_)
 exact ⟨.inl rfl,_,_,res [_] rfl ⟨rvT rfl,trivial⟩,⟨L,p0,c0,hok,by rw [hmap];unfold allR;rw [hpg],rfl,rfl⟩,(λ p K1=>Sa p (Wb (m:=hpA g b logs k n (K+k) h::vmR p0 L.length c0 L::vmsA L::F) [hpB g x.q x.pc h.cm.length x.cc h.last,stA x.q x.st,cmR x.pc h.cm.length x.cc h.cm,wlS b x.q s2,plS b n logs k x.q s2,Zn b s2.D] {x with s:=s2} h hi2 rfl p K1))⟩
open Go.RowKit
def fitsP : List Int->Int->List Int->Bool
 | _,left,[]=>decide (0<=left)
 | rooms,left,s::l=>if s<0\/184<s then false else match rooms.findIdx? (λ r=>decide (s+17<=r)) with
  | none=>false
  | some i=>fitsP (rooms.modify i (· - (s+17))) (left-(20+s)) l
theorem fitsP_neg : ∀ (l:List Int) (rooms:List Int) (left:Int),left<0->fitsP rooms left l=false
  | [],_,left,h=>by simp [fitsP];omega
  | s::l,rooms,left,h=>by
    unfold fitsP
    split
    . rfl
    . split
      . rfl
      . exact fitsP_neg l _ _ (by omega)
def roomsL (h:HR):List Int:=(List.range h.pages).map λ q=>256-(Wi h.vs q:Int)
theorem rooms_find (h:HR) (s:Int) (h0:0<=s):(roomsL h).findIdx? (λ r=>decide (s+17<=r))=roomyP h s.toNat:=by
  cases hr:roomyP h s.toNat with
  | none =>
    rw [List.findIdx?_eq_none_iff]
    intro x hx
    obtain ⟨q,hq,rfl⟩:=List.mem_map.1 hx
    have:=roomy_none hr q (by simpa using hq)
    simp;omega
  | some q =>
    obtain ⟨a,b,c⟩:=roomy_some hr
    rw [List.findIdx?_eq_some_iff_getElem]
    refine ⟨by simp [roomsL,a],?_,λ j hj=>?_⟩
    . simp [roomsL];omega
    . have:=c j hj
      simp [roomsL];omega
theorem rooms_add {h:HR} {e:En} {q:Nat} {n:Nat} (hk:e.kind=1) (hp:e.page=q) (hd:e.data.length=n):roomsL (Zg h e)=(roomsL h).modify q (· - ((n:Int)+17)):=by
  have hv:(Zg h e).vs=h.vs++[⟨e.page.toNat,e.slot.toNat,e.txn,0,e.data⟩]:=by simp [Zg,hk]
  apply List.ext_getElem?
  intro j
  rw [List.getElem?_modify]
  unfold roomsL
  show (List.map _ (List.range h.pages))[j]? = _
  simp only [List.getElem?_map,hv]
  by_cases hj:j<h.pages
  . rw [List.getElem?_range hj]
    simp only [Option.map_some]
    unfold Wi
    rw [Wc,usedV_append]
    by_cases e1:q=j
    . subst e1
      have:Zh [(⟨e.page.toNat,e.slot.toNat,e.txn,0,e.data⟩:Ver)] q=[⟨e.page.toNat,e.slot.toNat,e.txn,0,e.data⟩]:=by simp [Zh,hp]
      rw [this]
      simp [usedV,hd];omega
    . have:Zh [(⟨e.page.toNat,e.slot.toNat,e.txn,0,e.data⟩:Ver)] j=[]:=by simp [Zh,hp,e1]
      rw [this]
      simp [usedV,e1]
  . rw [List.getElem?_eq_none (by simpa using hj)]
    simp
theorem fitsA_eq : ∀ (l:List Int) (h:HR) (t:Int),Zp h t=true->((fitsA h t l).2 && decide ((fitsA h t l).1.used<=((fitsA h t l).1.room:Int)))=fitsP (roomsL h) (h.room-h.used) l
  | [],h,t,ht=>by
    simp only [fitsA,fitsP,Bool.true_and]
    exact decide_eq_decide.2 (by omega)
  | s::l,h,t,ht=>by
    unfold fitsA fitsP
    by_cases hs:s<0\/184<s
    . rw [if_pos hs,if_pos hs];rfl
    . rw [if_neg hs,if_neg hs,rooms_find h s (by omega)]
      have hl:(List.replicate s.toNat (0:UInt8)).length=s.toNat:=List.length_replicate
      have h184 : ¬ 184<s.toNat:=by omega
      cases hr:roomyP h s.toNat with
      | none =>
        have e:Wm h t (List.replicate s.toNat 0)=(h,0,0,3):=by unfold Wm;rw [if_pos ht,hl,if_neg h184,hr]
        dsimp only
        rw [e]
        simp
      | some q =>
        dsimp only
        by_cases hf:(h.room:Int)<h.used+20+(s.toNat:Int)
        . have e:Wm h t (List.replicate s.toNat 0)=(h,0,0,3):=by unfold Wm;rw [if_pos ht,hl,if_neg h184,hr];dsimp only;rw [if_pos hf]
          rw [e]
          have hneg:(h.room:Int)-h.used-(20+s)<0:=by omega
          rw [fitsP_neg _ _ _ hneg]
          simp
        . have e:Wm h t (List.replicate s.toNat 0)=(Zg h (addE h t (List.replicate s.toNat 0) q),(q:Int),((Zh h.vs q).length:Int),0):=by unfold Wm;rw [if_pos ht,hl,if_neg h184,hr];dsimp only;rw [if_neg hf]
          rw [e]
          simp only [ne_eq,not_true_eq_false,if_false]
          have hw:Zp (Zg h (addE h t (List.replicate s.toNat 0) q)) t=true:=ht
          rw [fitsA_eq l _ t hw,rooms_add (h:=h) (e:=addE h t (List.replicate s.toNat 0) q) (q:=q) (n:=s.toNat) rfl rfl hl]
          have hsz:(enSz (addE h t (List.replicate s.toNat 0) q):Int)=20+s:=by rw [enSz_eq];simp;omega
          have hu:(Zg h (addE h t (List.replicate s.toNat 0) q)).used=h.used+(20+s):=by show h.used+_=_;rw [hsz]
          rw [hu]
          show fitsP _ ((h.room:Int)-_) l=_
          congr 1
          . congr 1;funext x;omega
          . omega
theorem fits_eq {h:HR} (ends:Int) (sizes:List Int) (hu:0<=h.used):fitsR h ends sizes=(!(decide (ends<0) || decide ((h.room:Int)-h.used-25<ends)) && fitsP (roomsL h) ((h.room:Int)-h.used-25-20*ends) sizes):=by
  unfold fitsR
  by_cases h1:ends<0\/(h.room:Int)<ends
  . rw [if_pos h1]
    rcases h1 with h1 | h1
    . simp [h1]
    . have:((h.room:Int)-h.used-25<ends):=by omega
      simp [this]
  . rw [if_neg h1]
    dsimp only
    rw [fitsA_eq]
    . show fitsP (roomsL h) ((h.room:Int)-(h.used+(20*ends+25))) sizes=_
      by_cases h2:(h.room:Int)-h.used-25<ends
      . rw [fitsP_neg _ _ _ (by omega)]
        simp [h2]
      . have h3 : ¬ ends<0:=by omega
        simp only [h2,h3,decide_false,Bool.or_self,Bool.not_false,Bool.true_and]
        congr 1;omega
    . show Zp _ _=true
      unfold Zp beginR
      simp [List.contains_iff_mem]
open Go.RowKit
abbrev zR (p:Option Addr) (n c:Nat) (l:List Int):Wp:=row (.slice p n c) 3 1 n (l.map zV)
theorem Hp.elemI : ElemOk Tryz.prog 128 3 1 8 := .mk' (.int .i64 0) Tryz.underlying128 (by kernel_rfl) rfl (by omega)
theorem made_iz (n:Nat):(madeCells (Value.int .i64 0).cells (n*1)).toList=(List.replicate n (0:Int)).map zV:=by
 rw [List.map_replicate,show (Value.int .i64 0).cells=(List.replicate 1 (Value.int .i64 0)).toArray from rfl,made_replicate _ 1 _,Nat.mul_one]
theorem Hp.fits2 (B:Wn) (g11:Nat) (s room:Int) (hs:0<=s/\s<=184):Fn Tryz.prog B 80 #[.int .i64 room,pV g11] [blk g11 [.int .i64 s] 3] (λ u l=>u = .bool (decide (s+17<=room))/\l=[blk g11 [.int .i64 s] 3]):=by
 refine Wr 8 Tryz.func80 rfl rfl (nB rfl) (λ F=>?_)
 try simp only [cA,nA]
 refine TS (La rfl (Ld (TS ?_)))
 iterate 5 refine Lz ?_
 refine Ld (T.ret ?_)
 exact ⟨.inl rfl,_,_,res [_] rfl ⟨rvT rfl,trivial⟩,⟨rfl,rfl⟩,Sa⟩
def idxI (o:Option Nat):Int:=match o with
 | none => -1
 | some i=>i
theorem Hp.index (B:Wn) (gr nR c:Nat) (R:List Int) (hR:R.length=nR) (hn:nR<2^40) (g11:Nat) (s:Int) (hs:0<=s/\s<=184) :
  Fn Tryz.prog B 79 #[.slice (some ⟨gr,0,none⟩) nR c,.func (.func 80) #[] #[pV g11]] [zR (some ⟨gr,0,none⟩) nR c R,blk g11 [.int .i64 s] 3]
   (λ u l=>u = .int .i64 (idxI (R.findIdx? λ r=>decide (s+17<=r)))/\l=[zR (some ⟨gr,0,none⟩) nR c R,blk g11 [.int .i64 s] 3]):=by
 refine Wr 19 Tryz.func79 rfl rfl (nB rfl) (λ F=>?_)
 try simp only [cA,nA]
 refine TS (La rfl (Ld (Ts (TS ?_))))
 iterate 3 refine Lz ?_
 refine Ld (yH ?_)
 refine zG (λ mz fz lz => ∃ (f0:Fr) (k:Nat),(k<=nR /\ ∀ (j:Nat) (hj:j<R.length),j<k -> ¬ s+17<=R[j])/\mz=nR-k/\fz=(upd (upd (upd (upd f0 0 (.slice (some ⟨gr,0,none⟩) nR c)) 1 (.func (.func 80) #[] #[pV g11])) 7 (.int .i64 nR)) 8 (.int .i64 k))/\lz=zR (some ⟨gr,0,none⟩) nR c R::blk g11 [.int .i64 s] 3::F) ?_ ?_
 . refine ⟨_,_,⟨_,0,⟨Nat.zero_le _,λ j hj h=>by omega⟩,rfl,U4,rfl⟩,Sa⟩
 rintro mz fz lz ⟨f0,k,⟨hk,hno⟩,hmz,rfl,rfl⟩
 subst mz
 refine TS (Lq (yM rfl rfl) (Ld (Ts ?_)))
 refine yN rfl (λ hlt=>?_) (λ hlt=>?_)
 .
  refine Tk (Ts (yH (TS (Lm rfl (La rfl (Ld (TS ?_)))))))
  iterate 4 refine Lz ?_
  refine Lq (Ql rfl (map_at _ _ _ (by omega))) ?_
  refine Le (ZE [zV (R[k]'(by omega))] [pV g11] (Hp.fits2 B g11 s (R[k]'(by omega)) hs) Tryz.func80 rfl rfl rfl rfl rfl ?_)
  rintro _ _ ⟨rfl,rfl⟩
  try simp only [cA,nA]
  refine Ld ?_
  refine yN rfl (λ hf=>?_) (λ hf=>?_)
  .
   have e:(R.findIdx? λ r=>decide (s+17<=r))=some k:=by
    rw [List.findIdx?_eq_some_iff_getElem]
    exact ⟨by omega,by simpa using hf,λ j hj=>by simpa using hno j (by omega) hj⟩
   rw [e]
   refine TS (Lm rfl (La rfl (Ld (T.ret ?_))))
   exact ⟨.inl rfl,_,_,res [_] rfl ⟨rvT rfl,trivial⟩,⟨rfl,rfl⟩,Sa⟩
  refine Tk (TR ?_)
  iterate 2 refine Lz ?_
  refine Ld ?_
  refine ⟨_,?_,_,⟨_,k+1,⟨by omega,λ j hj h=>by rcases Nat.lt_or_eq_of_le (Nat.lt_succ_iff.1 h) with h1 | h1;exact hno j hj h1;subst h1;exact hf⟩,rfl,U4,rfl⟩,Sa⟩
  omega
 have e:(R.findIdx? λ r=>decide (s+17<=r))=none:=by
  rw [List.findIdx?_eq_none_iff]
  intro x hx
  obtain ⟨j,hj,rfl⟩:=List.getElem_of_mem hx
  simpa using hno j hj (by omega)
 rw [e]
 refine zB (TS (La rfl (Ld (T.ret ?_))))
 exact ⟨.inl rfl,_,_,res [_] rfl ⟨rvT rfl,trivial⟩,⟨rfl,rfl⟩,Sa⟩
theorem Hp.fits1 (B:Wn) (A:Wp) (gpg g8 gr nR c g9:Nat) (recs:List (List UInt8)) (m:Int) (R:List Int) (hR:R.length=nR) (hn:nR<2^40) (k:Nat) (hk:k<nR) :
  Fn Tryz.prog B 77 #[pV gpg,pV g8,pV g9] (pgA gpg recs m::A::[blk g8 [.slice (some ⟨gr,0,none⟩) nR c] 128,blk g9 [.int .i64 k] 3,zR (some ⟨gr,0,none⟩) nR c R])
   (λ u l=>u = .bool false/\l=pgA gpg recs m::A::[blk g8 [.slice (some ⟨gr,0,none⟩) nR c] 128,blk g9 [.int .i64 k] 3,zR (some ⟨gr,0,none⟩) nR c (R.set k (243-(ZO recs:Int)))]):=by
 refine Ws 10 Tryz.func77 rfl rfl (nB rfl) (λ F=>?_)
 try simp only [cA,nA]
 refine TS (La rfl (Ld (Ts (T.draw 4 ([blk g8 [.slice (some ⟨gr,0,none⟩) nR c] 128,blk g9 [.int .i64 k] 3]) (nB rfl) ?_))))
 refine Rz 0 ?_;refine Rz 1 ?_;refine Rz 2 ?_
 refine yK 3 ?_
 refine z6 rfl (Ec (Pg.left B gpg recs m) Tryz.func78 rfl rfl rfl ?_)
 rintro _ _ ⟨rfl,rfl⟩
 try simp only [cA,nA]
 refine ⟨Sa,?_⟩
 refine Rd0 (by rfl) ?_
 simp only [dS,dZ,dN]
 refine Lz ?_
 refine L0 (E1 (by kernel_rfl) rfl rfl rfl (by first | (simp;done) | (simp;omega)) ?_)
 refine Ld (TS (La rfl (Ld ?_)))
 rw [set_map zV]
 refine T.ret ?_
 exact ⟨.inl rfl,_,_,res [_] rfl ⟨rvT rfl,trivial⟩,⟨rfl,rfl⟩,Sa⟩
open Go.RowKit
theorem mod_set {R:List Int} {i:Nat} {d x:Int} (h:R[i]? = some x):R.modify i (· - d)=R.set i (x-d):=modify_set h _
theorem room_at (h:HR) (q:Nat):243-(ZO (Zi h.vs q):Int)=256-(Wi h.vs q:Int):=by rw [used_recs];unfold Wi;omega
theorem range_zero {f:Nat->Int} {k n:Nat} (hk:k<n):(((List.range k).map f)++List.replicate (n-k) 0).set k (f k)=((List.range (k+1)).map f)++List.replicate (n-(k+1)) 0:=by
 rw [List.set_append_right _ _ (by simp)]
 simp only [List.length_map,List.length_range,Nat.sub_self]
 rw [show n-k=(n-(k+1))+1 by omega,List.replicate_succ,List.set_cons_zero,List.range_succ,List.map_append]
 simp
theorem Hp.fits (B:Wn) (S:List Wp) (g b logs count n K:Nat) (h:HR) (hK:K+count<2^29) (h1c:1<=count) (ends:Int) (he : -(2^63)<=ends/\ends<2^63) (a:Option Addr) (ns c:Nat) (sizes:List Int) (hv:RdV B S (.slice a ns c) (sizes.map zV)) (hns:sizes.length=ns) (hns2:ns<2^40) :
  Fn Tryz.prog B 35 #[pV g,.int .i64 ends,.slice a ns c] (hpA g b logs count n K h::S) (λ u l=>u = .bool (fitsR h ends sizes)/\l=hpA g b logs count n (K+count) h::S):=by
 refine Fn.openHp λ x hi hp=>?_
 simp only [hpC,List.cons_append,List.nil_append]
 have hct:=hi.cnt
 have hpg:=hi.pages
 have hu:=hi.used
 have hr:=hi.room
 have hwst:=hi.s.inv.wst
 obtain ⟨l1,l2,l3⟩:=hi.s.log.first
 have hfe:=fits_eq (h:=h) ends sizes (by omega)
 have hlf:(h.room:Int)-h.used-25=((x.s.W.count:Int)*256-x.s.W.st.length)-25:=by rw [l2];omega
 rw [hlf] at hfe
 have hi2:HInv logs count n (K+count) x.s x.st h:=hi.mono (by omega)
 obtain ⟨lf,hlfx⟩ : ∃ lf,((x.s.W.count:Int)*256-x.s.W.st.length)-25=lf:=⟨_,rfl⟩
 rw [hlfx] at hfe
 have hlfb : -2000000<lf/\lf<2000000:=by rw [l2] at hlfx;omega
 rw [hfe]
 refine Ws 80 Tryz.func35 rfl rfl (nB rfl) (λ F=>?_)
 try simp only [cA,nA]
 refine TS (La rfl (Ld (TS ?_)))
 iterate 4 refine Lz ?_
 refine Le (Ec (Wl.left B x.q.gl b x.s.W (by omega) (by omega)) Tryz.func76 rfl rfl rfl ?_)
 rintro _ _ ⟨rfl,rfl⟩
 try simp only [cA,nA]
 refine Lq (Qt.sub (r:=lf) rfl rfl (by rw [Ze];exact hlfx)) (La rfl (Ld (Ts (TS ?_))))
 iterate 3 refine Lz ?_
 by_cases hb:ends<0\/lf<ends
 .
  rw [show (decide (ends<0) || decide (lf<ends))=true by simpa using hb]
  by_cases h0:ends<0
  .
   refine zQ (t:=21) rfl (decide_eq_true (by omega)) ?_
   iterate 4 refine Lz ?_
   refine Ld (zF rfl (TS (La rfl (Ld (T.ret ?_)))))
   exact ⟨.inl rfl,_,_,res [_] rfl ⟨rvT rfl,trivial⟩,⟨rfl,rfl⟩,Wb [hpB g x.q x.pc h.cm.length x.cc h.last,stA x.q x.st,cmR x.pc h.cm.length x.cc h.cm,wlS b x.q x.s,plS b n logs count x.q x.s,Zn b x.s.D] x h hi2 rfl⟩
  refine yT (t:=21) rfl (decide_eq_false (by omega)) ?_
  iterate 4 refine Lz ?_
  refine Ld (zM rfl (TS (La rfl (Ld (T.ret ?_)))))
  exact ⟨.inl rfl,_,_,res [_] rfl ⟨rvT rfl,trivial⟩,⟨rfl,rfl⟩,Wb [hpB g x.q x.pc h.cm.length x.cc h.last,stA x.q x.st,cmR x.pc h.cm.length x.cc h.cm,wlS b x.q x.s,plS b n logs count x.q x.s,Zn b x.s.D] x h hi2 rfl⟩
 rw [show (decide (ends<0) || decide (lf<ends))=false by simp;omega]
 simp only [Bool.not_false,Bool.true_and]
 refine yT (t:=21) rfl (decide_eq_false (by omega)) ?_
 iterate 4 refine Lz ?_
 refine Ld (yL rfl (Tk (TS ?_)))
 iterate 5 refine Lz ?_
 refine Ld (TS ?_)
 iterate 6 refine Lz ?_
 refine Le (Ec (Bp.pages B x.q.gp b n logs count x.s.hand x.q.gl x.s.A) Tryz.func43 rfl rfl rfl ?_)
 rintro _ _ ⟨rfl,rfl⟩
 try simp only [cA,nA]
 refine Le (YK count (.int .i64 0) 8 Hp.elemI rfl rfl rfl rfl (by unfold maxLen;omega) ?_)
 rintro gr
 rw [made_iz]
 refine Le (El [.slice none 0 0] (by unfold Zf;kernel_rfl) ?_)
 intro g8
 refine L0 (E1 (by kernel_rfl) rfl rfl rfl (by first | (simp;done) | (simp;omega)) ?_)
 try simp only [List.set_cons_zero,List.set_cons_succ]
 refine Ld (Ts (TS ?_))
 iterate 3 refine Lz ?_
 refine Ld (yH ?_)
 refine zG (λ mz fz lz => ∃ (f0:Fr) (k:Nat) (s2:Pl) (R:List Int),(k<=count/\SInv logs count n (K+k) s2 h.es (Zi h.vs)/\R=((List.range k).map λ q=>256-(Wi h.vs q:Int))++List.replicate (count-k) 0)/\mz=count-k/\fz=(upd (upd (upd (upd (upd (upd f0 0 (pV g)) 2 (.slice a ns c)) 7 (.int .i64 (lf-20*ends))) 8 (pV g8)) 39 (.int .i64 count)) 40 (.int .i64 k))/\lz=zR (some ⟨gr,0,none⟩) count count R::blk g8 [.slice (some ⟨gr,0,none⟩) count count] 128::hpB g x.q x.pc h.cm.length x.cc h.last::stA x.q x.st::cmR x.pc h.cm.length x.cc h.cm::wlS b x.q s2::plS b n logs count x.q s2::Zn b s2.D::(S++F)) ?_ ?_
 . refine ⟨_,_,⟨_,0,x.s,List.replicate count 0,⟨Nat.zero_le _,hi.s,by simp⟩,rfl,U6,rfl⟩,Sa⟩
 rintro mz fz lz ⟨f0,k,s2,R,⟨hk,hs2,hR⟩,hmz,rfl,rfl⟩
 subst mz
 have hRl:R.length=count:=by rw [hR];simp;omega
 refine TS (Lq (yM rfl rfl) (Ld (Ts ?_)))
 refine yN rfl (λ hlt=>?_) (λ hlt=>?_)
 .
  refine Tk (Ts (yH (TS (Lm rfl ?_))))
  refine Le (El [.int .i64 0] (by unfold Zf;kernel_rfl) ?_)
  intro g9
  refine L0 (E1 (by kernel_rfl) rfl rfl rfl (by first | (simp;done) | (simp;omega)) ?_)
  try simp only [List.set_cons_zero,List.set_cons_succ]
  refine Ld (TR ?_)
  iterate 2 refine Lz ?_
  refine Lq (Y4 [_,_] rfl) ?_
  refine Le (Ec (Hp.with B g b n logs count (K+k) x.q x.pc h.cm.length x.cc h.last s2 h.es (Zi h.vs) hs2 (by omega) k (by omega) k rfl 0 0 rfl (by omega) 77 Tryz.f77 [pV g8,pV g9] [blk g8 [.slice (some ⟨gr,0,none⟩) count count] 128,blk g9 [.int .i64 k] 3,zR (some ⟨gr,0,none⟩) count count R] (λ bb r' X'=>bb=false/\X'=[blk g8 [.slice (some ⟨gr,0,none⟩) count count] 128,blk g9 [.int .i64 k] 3,zR (some ⟨gr,0,none⟩) count count (R.set k (243-(ZO (Zi h.vs k):Int)))]) Tryz.func77 rfl rfl (λ gpg m=>(Hp.fits1 B (hpB g x.q x.pc h.cm.length x.cc h.last) gpg g8 gr count count g9 (Zi h.vs k) m R hRl (by omega) k (by omega)).mono (λ v l ⟨h1,h2⟩=>⟨false,_,_,⟨rfl,rfl⟩,h1,h2⟩)) (λ r' X' hh=>by obtain ⟨h1,_⟩:=hh;cases h1)) Tryz.func52 rfl rfl rfl ?_)
  rintro _ _ ⟨bb,r',X',s',⟨rfl,rfl⟩,hS,rfl,rfl⟩
  try simp only [cA,nA]
  have hS2:SInv logs count n (K+k+1) s' h.es (Zi h.vs):=by simpa [rcSet] using hS
  refine Ld (TR ?_)
  iterate 2 refine Lz ?_
  refine Ld ?_
  refine ⟨_,?_,_,⟨_,k+1,s',R.set k (243-(ZO (Zi h.vs k):Int)),⟨by omega,hS2,by rw [hR,room_at];exact range_zero (by omega)⟩,rfl,U6,rfl⟩,Sa⟩
  omega
 obtain rfl:k=count:=by omega
 have hi3:HInv logs k n (K+k) s2 x.st h:=⟨hs2,hi.r,hi.st,hi.pages,hi.room,by have:=hi.lastK;omega⟩
 have hRR:R=roomsL h:=by rw [hR,Nat.sub_self];unfold roomsL;rw [hpg];simp
 have hRb : ∀ r∈R,0<=r/\r<=256:=λ r hr=>by
  rw [hRR] at hr
  obtain ⟨q,hq,rfl⟩:=List.mem_map.1 hr
  have:=hi.r.ok.room q
  omega
 clear hR hlt hk
 refine zB (Ts (TS ?_))
 iterate 3 refine Lz ?_
 refine Ld (yH ?_)
 refine zG (λ mz fz lz => ∃ (f0:Fr) (j:Nat) (left:Int) (R2:List Int),(j<=ns/\R2.length=k/\(∀ r∈R2,0<=r/\r<=256) /\ -(50000000+300*(j:Int))<left/\left<2000000/\fitsP (roomsL h) (lf-20*ends) sizes=fitsP R2 left (sizes.drop j))/\mz=ns-j/\fz=(upd (upd (upd (upd (upd (upd (upd f0 0 (pV g)) 2 (.slice a ns c)) 7 (.int .i64 left)) 8 (pV g8)) 48 (.slice a ns c)) 49 (.int .i64 ns)) 50 (.int .i64 j))/\lz=zR (some ⟨gr,0,none⟩) k k R2::blk g8 [.slice (some ⟨gr,0,none⟩) k k] 128::hpB g x.q x.pc h.cm.length x.cc h.last::stA x.q x.st::cmR x.pc h.cm.length x.cc h.cm::wlS b x.q s2::plS b n logs k x.q s2::Zn b s2.D::(S++F)) ?_ ?_
 . refine ⟨_,_,⟨_,0,lf-20*ends,R,⟨Nat.zero_le _,hRl,hRb,by omega,by omega,by rw [hRR];rfl⟩,rfl,U7,rfl⟩,Sa⟩
 rintro mz fz lz ⟨f0,j,left,R2,⟨hj,hR2l,hR2b,hlb1,hlb2,hff⟩,hmz,rfl,rfl⟩
 subst mz
 refine TS (Lq (yM rfl rfl) (Ld (Ts ?_)))
 refine yN rfl (λ hlt=>?_) (λ hlt=>?_)
 .
  obtain ⟨b0,o0,rfl,hcell⟩:=hv.at (by omega)
  have hjs:j<sizes.length:=by omega
  have hc1:=λ w ho=>hcell j (by simp;omega) w ho
  simp only [List.getElem_map] at hc1
  obtain ⟨sz,hsz⟩ : ∃ sz,sz=sizes[j]:=⟨_,rfl⟩
  rw [<-hsz] at hc1
  rw [List.drop_eq_getElem_cons hjs,<-hsz] at hff
  by_cases hs:sz<0\/184<sz
  .
   rw [hff,show fitsP R2 left (sz::sizes.drop (j+1))=false by unfold fitsP;rw [if_pos hs]]
   by_cases hs0:sz<0
   .
    refine Tk (Ts (yH (TS ?_)))
    refine Lz ?_
    refine Lq (zN (v:=zV sz) rfl (λ w ho=>hc1 w (ho.map Sa))) ?_
    refine Le (El [.int .i64 0] (by unfold Zf;kernel_rfl) ?_)
    intro g11
    refine L0 (E1 (by kernel_rfl) rfl rfl rfl (by first | (simp;done) | (simp;omega)) ?_)
    try simp only [List.set_cons_zero,List.set_cons_succ]
    refine Ld (Ts (TS ?_))
    iterate 3 refine Lz ?_
    refine zQ (t:=56) rfl (decide_eq_true (by omega)) ?_
    iterate 3 refine Lz ?_
    refine Ld (zF rfl (TS (La rfl (Ld (T.ret ?_)))))
    exact ⟨.inl rfl,_,_,res [_] rfl ⟨rvT rfl,trivial⟩,⟨rfl,rfl⟩,Wb [hpB g x.q x.pc h.cm.length x.cc h.last,stA x.q x.st,cmR x.pc h.cm.length x.cc h.cm,wlS b x.q s2,plS b n logs k x.q s2,Zn b s2.D] {x with s:=s2} h hi3 rfl⟩
   refine Tk (Ts (yH (TS ?_)))
   refine Lz ?_
   refine Lq (zN (v:=zV sz) rfl (λ w ho=>hc1 w (ho.map Sa))) ?_
   refine Le (El [.int .i64 0] (by unfold Zf;kernel_rfl) ?_)
   intro g11
   refine L0 (E1 (by kernel_rfl) rfl rfl rfl (by first | (simp;done) | (simp;omega)) ?_)
   try simp only [List.set_cons_zero,List.set_cons_succ]
   refine Ld (Ts (TS ?_))
   iterate 3 refine Lz ?_
   refine yT (t:=56) rfl (decide_eq_false (by omega)) ?_
   iterate 3 refine Lz ?_
   refine Ld (zM rfl (TS (La rfl (Ld (T.ret ?_)))))
   exact ⟨.inl rfl,_,_,res [_] rfl ⟨rvT rfl,trivial⟩,⟨rfl,rfl⟩,Wb [hpB g x.q x.pc h.cm.length x.cc h.last,stA x.q x.st,cmR x.pc h.cm.length x.cc h.cm,wlS b x.q s2,plS b n logs k x.q s2,Zn b s2.D] {x with s:=s2} h hi3 rfl⟩
  refine Tk (Ts (yH (TS ?_)))
  refine Lz ?_
  refine Lq (zN (v:=zV sz) rfl (λ w ho=>hc1 w (ho.map Sa))) ?_
  refine Le (El [.int .i64 0] (by unfold Zf;kernel_rfl) ?_)
  intro g11
  refine L0 (E1 (by kernel_rfl) rfl rfl rfl (by first | (simp;done) | (simp;omega)) ?_)
  try simp only [List.set_cons_zero,List.set_cons_succ]
  refine Ld (Ts (TS ?_))
  iterate 3 refine Lz ?_
  refine yT (t:=56) rfl (decide_eq_false (by omega)) ?_
  iterate 3 refine Lz ?_
  refine Ld (yL rfl (Tk (TS ?_)))
  iterate 5 refine Lz ?_
  refine Ld (TS (Lq (Ql rfl rfl) (Lq (Y4 [_] rfl) ?_)))
  refine Le (Ec (Hp.index B gr k k R2 hR2l (by omega) g11 sz (by omega)) Tryz.func79 rfl rfl rfl ?_)
  rintro _ _ ⟨rfl,rfl⟩
  try simp only [cA,nA]
  by_cases hno:(R2.findIdx? λ r=>decide (sz+17<=r))=none
  .
   have hfalse:fitsP R2 left (sz::sizes.drop (j+1))=false:=by unfold fitsP;rw [if_neg hs,hno]
   rw [hff,hfalse]
   rw [hno]
   refine La rfl (Ld (Ts (TS (Lm rfl (Lq (yM rfl rfl) (Ld (zF rfl (TS (La rfl (Ld (T.ret ?_)))))))))))
   exact ⟨.inl rfl,_,_,res [_] rfl ⟨rvT rfl,trivial⟩,⟨rfl,rfl⟩,Wb [hpB g x.q x.pc h.cm.length x.cc h.last,stA x.q x.st,cmR x.pc h.cm.length x.cc h.cm,wlS b x.q s2,plS b n logs k x.q s2,Zn b s2.D] {x with s:=s2} h hi3 rfl⟩
  obtain ⟨i,hi⟩:=Option.ne_none_iff_exists'.1 hno
  obtain ⟨hil,hi1,_⟩:=List.findIdx?_eq_some_iff_getElem.1 hi
  have hi1:sz+17<=R2[i]:=by simpa using hi1
  have hrb:=hR2b R2[i] (List.getElem_mem _)
  have hstep:fitsP R2 left (sz::sizes.drop (j+1))=fitsP (R2.set i (R2[i]-(sz+17))) (left-(20+sz)) (sizes.drop (j+1)):=by
   conv=>lhs;unfold fitsP
   rw [if_neg hs,hi]
   dsimp only
   rw [mod_set (List.getElem?_eq_getElem hil)]
  rw [hi,show idxI (some i)=(i:Int) from rfl]
  refine La rfl (Ld (Ts (TS (Lm rfl (Lq (yM rfl rfl) (Ld (yQ rfl (Tk (zU 7 (nB rfl) ?_)))))))))
  refine Rz 0 ?_;refine Rz 1 ?_;refine Rz 2 ?_
  refine Rq 3 rfl (Sr _) (Ql (v:=zV R2[i]) rfl (map_at _ _ _ (by omega))) ?_
  refine Rz 4 ?_;refine Rz 5 ?_;refine Rz 6 ?_
  refine Rd0 (by rfl) ?_
  simp only [dS,dZ,dN]
  refine Lz ?_
  refine L0 (E1 (by kernel_rfl) rfl rfl rfl (by first | (simp;done) | (simp;omega)) ?_)
  refine Ld (TR ?_)
  iterate 2 refine Lz ?_
  refine Ld ?_
  rw [set_map zV R2 i (R2[i]-(sz+17))]
  refine ⟨_,?_,_,⟨_,j+1,left-(20+sz),R2.set i (R2[i]-(sz+17)),⟨by omega,by rw [List.length_set];exact hR2l,λ r hr=>by rcases List.mem_or_eq_of_mem_set hr with hr | rfl;exact hR2b r hr;omega,by omega,by omega,by rw [hff,hstep]⟩,rfl,U7,rfl⟩,Sa⟩
  omega
 obtain rfl:j=ns:=by omega
 rw [List.drop_of_length_le (by omega)] at hff
 rw [hff]
 refine zB (TS ?_)
 iterate 3 refine Lz ?_
 refine Ld (T.ret ?_)
 exact ⟨.inl rfl,_,_,res [_] rfl ⟨rvT rfl,trivial⟩,⟨rfl,rfl⟩,Wb [hpB g x.q x.pc h.cm.length x.cc h.last,stA x.q x.st,cmR x.pc h.cm.length x.cc h.cm,wlS b x.q s2,plS b n logs k x.q s2,Zn b s2.D] {x with s:=s2} h hi3 rfl⟩
end Go.Proofs.YtkfmfoecplbclaaGreatDoor
namespace Go.Proofs.YtkfmfoecplbclaaGreatDoor
open Go.RowKit Go.Shelf Go.Lib Go.Sort
section
variable {P : Program} {B:Wn} {α:Type} [Inhabited α]
theorem put_takeK (d:Array Value) (cur:Array Value) (h:d.size<=cur.size):(putCells id 0 d cur).toList.take d.size=d.toList:=by
  apply List.ext_getElem
  . simp [putCells];omega
  . intro i h1 h2
    have hi:i<d.size:=by simpa using h2
    simp [putCells,hi,getElem!_pos]
theorem Own.sortedK {w:World} {g m cap k sz:Nat} {e:TypeId} {cs:List Value} {l:List Wp} (H:Own B w (row (.slice (some ⟨g,0,none⟩) m cap) e sz m cs::l)) (d':Array Value) (hd:d'.size=m*sz) (os:Array Obj):Own B (sortWorld id w g 0 k d' os) (row (.slice (some ⟨g,0,none⟩) m cap) e sz m d'.toList::l):=by
  obtain ⟨e1,e2⟩:=H.row_owns
  rcases e2 with ⟨e2,_⟩ | ⟨g',cap',cur,e2,_,e3,e4,e5,e6,e7⟩
  . cases e2
  . injection e2 with e2 _ e8
    injection e2 with e2
    injection e2 with e2
    subst e2;subst e8
    have hle:m*sz<=cap*sz:=Nat.mul_le_mul_right _ e4
    refine H.row_kept (by simpa [Value.ownBlock] using sort_kept id w g k d' os) ⟨by simp [hd],.inr ⟨g,cap,_,rfl,Nat.zero_le _,sort_block id w g k d' os e3,e4,e5,by simp [putCells,e6],?_⟩⟩ (λ g2 hg => .inl hg)
    rw [<-hd]
    exact put_takeK d' cur (by omega)
theorem flatK_list (enc:α->List Value) (k:Nat) (hk : ∀ x,(enc x).length=k) (ds:List α):(flatK enc k ds.toArray).toList=ds.flatMap enc:=by
  apply List.ext_getElem?
  intro i
  have hl:(ds.flatMap enc).length=ds.length*k:=by
    induction ds with
    | nil=>simp
    | cons a l ih=>simp [hk] at ih ⊢;rw [ih,Nat.add_mul,Nat.one_mul,Nat.add_comm]
  by_cases hi:i<ds.length*k
  . have h1:=get_flatK enc k ds.toArray i (by simpa using hi)
    have hk0:0<k:=by rcases Nat.eq_zero_or_pos k with e | e;(subst e;simp at hi);exact e
    have hq:i/k<ds.length:=Nat.div_lt_of_lt_mul (by rw [Nat.mul_comm];exact hi)
    have hr:i%k<k:=Nat.mod_lt _ hk0
    have hv:(enc ds[i/k])[i%k]? = some ((enc ds[i/k])[i%k]'(by rw [hk];exact hr)):=List.getElem?_eq_getElem _
    have h2:=flat_cell enc k ds (λ x _=>hk x) (i/k) (i%k) hq hv
    rw [Nat.zero_add,show i/k*k+i%k=i by rw [Nat.mul_comm];exact Nat.div_add_mod i k] at h2
    rw [h2]
    have hs:i<(flatK enc k ds.toArray).size:=by simpa using hi
    rw [Array.getElem?_toList,Array.getElem?_eq_getElem hs]
    rw [getElem!_pos (flatK enc k ds.toArray) i hs] at h1
    rw [h1]
    simp [hq,getElem!_pos,hk,hr]
  . have hs2:(flatK enc k ds.toArray).toList.length=ds.length*k:=by simp
    rw [List.getElem?_eq_none (by omega),List.getElem?_eq_none (by rw [hl];omega)]
theorem Fn.sortK {ρ:Ren} (L:SlLaysF0.n6 P ρ) (k:Nat) (aE : ∀ w,(isAgg (ρ.t 24)).run P w = .ok true w) (zE : ∀ w,(Go.sizeOf (ρ.t 24)).run P w = .ok k w) (enc:α->List Value) (hk : ∀ x,(enc x).length=k) (h1 : ∀ x,∀ v∈enc x,v.oneCell'=true) (cf:α->α->Int) (hO:SWO (ltOf cf)) (gc:Nat) (e:TypeId) (eg : ∀ args w,(callFunc gc args).run P w = .ok (.enter gc args) w) (v:Value) (m:Nat) (ds:List α) (hm:ds.length=m) (hb:m<2^61) (S:List Wp)
    (hcmp : ∀ x y W,Own B W S->Calls P gc #[.agg (enc x).toArray,.agg (enc y).toArray] W λ e w'=>e = .returned (.int .i64 (cf x y)) /\ ∃ q os',w'=grow (W.drewN q) os') (f:Nat) (hf:ρ.f 6=f) :
    Fn P B f #[v,.func (.func gc) #[] #[]] (row v e k m (ds.flatMap enc)::S) (λ u l=>u = .tuple #[] /\ ∃ ds':List α,ds'.Perm ds/\SortedIn (ltOf cf) 0 m ds'.toArray/\l=row v e k m (ds'.flatMap enc)::S):=⟨λ w F ho=>by
  subst hf
  obtain ⟨p,cap,rfl,hp,hl⟩:=Own.row_slice ho
  have hfl:(ds.flatMap enc).length=m*k:=hl
  rcases Nat.eq_zero_or_pos m with h0 | h0
  . subst h0
    obtain rfl:ds=[]:=List.eq_nil_of_length_eq_zero hm
    refine (AnyF.slices_SortFunc_none {L with} p cap (.func (.func gc) #[] #[]) w).mono ?_
    rintro _ w' ⟨rfl,rfl⟩
    exact ⟨_,_,rfl,⟨rfl,[],List.Perm.refl _,λ i h=>by omega,rfl⟩,ho⟩
  . obtain ⟨g,rfl⟩:=hp h0
    have hsz:ds.toArray.size=m:=by simpa using hm
    have hfk:=flatK_list enc k hk ds
    obtain ⟨e1,e2⟩:=ho.row_owns
    rcases e2 with ⟨e2,_⟩ | ⟨g',cap',cur,e2,_,e3,e4,e5,e6,e7⟩
    . cases e2
    . injection e2 with e2 _ e8
      injection e2 with e2
      injection e2 with e2
      subst e2;subst e8
      have hle:m*k<=cap*k:=Nat.mul_le_mul_right _ e4
      have hH:HoldsK enc k w g 0 ds.toArray:=λ j hj=>by
        have hj':j<m*k:=by simpa [hsz] using hj
        have hc:cur[j]? = some (flatK enc k ds.toArray)[j]:=by
          rw [<-Array.getElem?_toList]
          have:(cur.toList.take (m*k))[j]? = (ds.flatMap enc)[j]? := by rw [e7]
          rw [List.getElem?_take,if_pos (by omega)] at this
          rw [this,<-hfk,Array.getElem?_toList,Array.getElem?_eq_getElem hj]
        constructor
        . unfold World.cell?
          rw [e3]
          simp [hc]
          exact (getElem!_pos (flatK enc k ds.toArray) j hj).symm
        . unfold World.frozen?
          rw [e3]
          simp
      have hblk:g<w.heap.size:=Zk e3
      have hlays:CmpLays P gc #[] enc k cf g 0 ds.toArray.size w:=λ q os dk hdk x y=>by
        have h2:=ho.sortedK (k:=q) (flatK enc k dk) (by simp [hdk,hsz]) os
        refine (hcmp x y _ ((h2.map λ _ k=>k.tail).drop)).mono ?_
        rintro _ w' ⟨rfl,q,os',rfl⟩
        exact ⟨rfl,q,os',rfl⟩
      have h:=AnyQ.slices_SortFunc L k aE zE enc hk h1 cf hO gc #[] g 0 cap ds.toArray w eg hlays hH hblk (by omega)
      rw [hsz] at h
      refine h.mono ?_
      rintro _ w' ⟨rfl,d',q,os,hp1,hp2,rfl⟩
      obtain ⟨q1,q2,q3⟩:=hp1
      have hd':d'.size=m:=by omega
      have hso:=ho.sortedK (k:=q) (flatK enc k d') (by simp [hd']) os
      refine ⟨_,_,rfl,⟨rfl,d'.toList,?_,by simpa using hp2,rfl⟩,?_⟩
      . have e1:d'.extract 0 m=d':=by rw [<-hd'];simp
        have e2:ds.toArray.extract 0 m=ds.toArray:=by rw [<-hsz];simp
        rw [e1,e2] at q3
        simpa using q3
      . have:=flatK_list enc k hk d'.toList
        rw [Array.toArray_toList] at this
        rw [<-this]
        exact hso⟩
end
end Go.Proofs.YtkfmfoecplbclaaGreatDoor
