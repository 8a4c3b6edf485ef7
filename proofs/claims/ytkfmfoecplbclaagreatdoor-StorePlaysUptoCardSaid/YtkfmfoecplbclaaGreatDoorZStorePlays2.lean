/- The law StorePlays of annalslaw21 holds (its card): for all arguments of bulk at most 1048576 the call returns true and the arguments read as before. Condition: the bound of the second form. -/
import Derived.Test.YtkfmfoecplbclaaGreatDoorZStorePlays1
set_option linter.unusedSimpArgs false
set_option linter.unusedVariables false
set_option maxRecDepth 100000
set_option maxHeartbeats 16000000
namespace Go.Proofs.YtkfmfoecplbclaaGreatDoor
open Go.RowKit
abbrev jtC (x:ItM):List Value:=[.int .i64 x.it.page,.int .i64 x.it.slot,.int .i64 x.it.t,.slice (offA (some ⟨x.g,0,none⟩) x.c 3 3) x.it.f.row.length (x.c-3),.int .i64 x.it.f.fr,.int .i64 x.it.f.to,.int .i64 x.it.since,.int .i64 x.it.til]
abbrev jtR (p:Option Addr) (n c:Nat) (L:List ItM):Wp:=row (.slice p n c) 117 8 n (L.flatMap jtC)
theorem jt_step {L:List ItM} {x:ItM} {p:Option Addr} {n c:Nat} {cs:List Value} (hx:cs=jtC x) {l:List Wp} {k:Piece} (H:Has (itA x::itsA L::row (.slice p n c) 117 8 n (L.flatMap jtC++cs)::l) k):Has (jtR p n c (L++[x])::itsA (L++[x])::l) k:=by
 have H1:=its_snoc H
 subst hx
 unfold jtR
 rw [List.flatMap_append,show [x].flatMap jtC=jtC x by simp]
 exact Has.swap H1
theorem Own.jtsNil {B:Wn} {w:World} {l:List Wp} (H:Own B w l):Own B w (jtR none 0 0 []::itsA []::l):=H.map λ _ K=>rowNilP (sep_nilS K)
theorem Rx.elemJ : ElemOk Tryz.prog 53 117 8 80 := .mk' (.agg #[.int .i64 0,.int .i64 0,.int .i64 0,.slice none 0 0,.int .i64 0,.int .i64 0,.int .i64 0,.int .i64 0]) Tryz.underlying53 (by kernel_rfl) rfl (by omega)
theorem hist_takeV {h:HR} {l:List Ver} {table:Int} {i:Nat} {y:Ver} (hy:l[i]? = some y):((l.take (i+1)).map (itemR h)).filter (λ i=>decide (i.t=table\/table<0))=((l.take i).map (itemR h)).filter (λ i=>decide (i.t=table\/table<0))++(if (factR y.data).1=table\/table<0 then [itemR h y] else []):=by
 obtain ⟨hi,he⟩:=List.getElem?_eq_some_iff.1 hy
 rw [List.take_succ_eq_append_getElem hi,he,List.map_append,List.filter_append]
 congr 1
 by_cases q:(factR y.data).1=table\/table<0
 . rw [if_pos q,List.map_cons,List.map_nil,List.filter_cons_of_pos (by exact decide_eq_true q)];rfl
 . rw [if_neg q,List.map_cons,List.map_nil,List.filter_cons_of_neg (by rw [decide_eq_true_eq];exact q)];rfl
theorem Hr.history (B:Wn) (q:HrQ) (h:HR) (m cn rm:Nat) (kk:HrK h m) (si:SI h cn rm) (hc:cn<=4096) (hcl:h.cm.length<2^40) (table:Int) :
  Fn Tryz.prog B 15 #[hrV q h,.int .i64 table] (hrL q h) (λ u l => ∃ L p c,L.map (·.it)=histR h table/\u = .slice p L.length c/\l=jtR p L.length c L::itsA L::hrL q h):=by
 have hal:=all_len si.r.ok
 have hpg:=si.pages
 refine Wr 86 Tryz.func15 rfl rfl (nB rfl) (λ F=>?_)
 try simp only [cA,nA]
 refine TS ?_
 refine Le (zL [_,_,_,_,_,_,_,_] rfl rfl ?_)
 intro g2
 refine La rfl (Ld (TS (La rfl (Ld (TS ?_)))))
 refine Lz ?_
 refine Le (Ec (Hr.all B q h m kk) Tryz.func31 rfl rfl rfl ?_)
 rintro _ _ ⟨pv,cv,rfl,rfl⟩
 try simp only [cA,nA]
 refine LW.own λ w ho=>?_
 have hpv:0<(allR h).length -> ∃ g,pv=some ⟨g,0,none⟩:=((ho.map Sa:Own B w [verR pv (allR h).length cv (allR h)]).slice_at (p:=pv) (m:=(allR h).length) (c:=cv)).2.1
 clear ho
 refine La rfl (Ld (Ts (TS (La rfl (Ld (yH (T.conv (λ w ho=>ho.jtsNil) ?_)))))))
 refine zG (λ mz fz lz => ∃ (f0:Fr) (i n2:Nat) (L:List ItM) (po:Option Addr) (co:Nat),(i<=(allR h).length/\n2=L.length/\n2<=i/\L.map (·.it)=(((allR h).take i).map (itemR h)).filter (λ i=>decide (i.t=table\/table<0)))/\mz=(allR h).length-i/\fz=(upd (upd (upd (upd (upd f0 1 (.int .i64 table)) 2 (.pointer (some ⟨g2,0,none⟩))) 5 (.slice po n2 co)) 6 (.slice pv (allR h).length cv)) 7 (.int .i64 i))/\lz=jtR po n2 co L::itsA L::verR pv (allR h).length cv (allR h)::blk g2 (hrC q h) 33::hrL q h++F) ?_ ?_
 . refine ⟨_,_,⟨_,0,0,[],none,0,⟨Nat.zero_le _,rfl,Nat.le_refl _,rfl⟩,rfl,U5,rfl⟩,Sa⟩
 rintro mz fz lz ⟨f0,i,n2,L,po,co,⟨hi,hn2,hni,hmap⟩,hmz,rfl,rfl⟩
 subst mz
 try simp only [cA,nA]
 refine Ts (TS ?_)
 iterate 4 refine Lz ?_
 refine Ld ?_
 refine yN rfl (λ hlt=>?_) (λ hlt=>?_)
 .
  obtain ⟨gv,rfl⟩:=hpv (by omega)
  obtain ⟨y,hy⟩ : ∃ y,(allR h)[i]? = some y:=⟨_,List.getElem?_eq_getElem (by omega)⟩
  obtain ⟨hil,hie⟩:=List.getElem?_eq_some_iff.1 hy
  have hyv:y∈h.vs:=si.mem.1 (List.mem_of_getElem? hy)
  obtain ⟨t,f,hx,hdat⟩:=si.rc y hyv
  have hft:=factR_rec hx
  have hht:=hist_takeV (h:=h) (table:=table) hy
  rw [hdat,hft] at hht
  have hit:itemR h y=⟨y.page,y.slot,t,f,stampR h y.beg,stampR h y.fin⟩:=by unfold itemR;rw [hdat,hft]
  rw [hit] at hht
  have hvl:=vals_len (t:=t) (f:=f)
  have hdl:=hx.len
  refine Tk (Ts (yH (TS ?_)))
  iterate 4 refine Lz ?_
  refine Lq (Ql (v:=strW y.data) rfl (flat_cell vrC 5 (allR h) (λ _ _=>rfl) i 4 hil (by rw [hie];rfl))) ?_
  refine Le (Ec (Rx.decode B (valsF t f) y.data hdat hx.vals (by rw [hdat];omega)) Tryz.func32 rfl rfl rfl ?_)
  rintro _ l2 ⟨p,c,hp,rfl,hl2⟩
  rw [hl2,hvl]
  clear hl2
  simp only [List.cons_append,List.nil_append]
  obtain ⟨g,rfl⟩:=hp (by omega)
  refine LW.own λ w ho=>?_
  have hcap:=(ho.map Sa:Own B w [vxR (some ⟨g,0,none⟩) (3+f.row.length) c (valsF t f)]).cap_at (p:=some ⟨g,0,none⟩) (m:=3+f.row.length) (c:=c)
  clear ho
  iterate 7 refine Lz ?_
  refine Ld (Ts (TS ?_))
  iterate 3 refine Lz ?_
  refine zZ (t:=32) rfl (λ h1=>?_) (λ h1=>?_)
  .
   try replace h1:=of_decide_eq_true h1
   refine Lm rfl (Lq (Qi 0 (e:=125) (sz:=3) rfl rfl rfl) (Lq (Qf (off:=1) rfl) (Lq (Ql (v := .int .i64 t) rfl (flat_cell vxC 3 (valsF t f) (λ _ _=>rfl) 0 1 (by omega) rfl)) ?_)))
   iterate 3 refine Lz ?_
   refine Ld ?_
   refine yN rfl (λ h2=>?_) (λ h2=>?_)
   .
    rw [if_neg (by omega),List.append_nil] at hht
    refine zB (TR ?_)
    iterate 3 refine Lz ?_
    refine Ld ?_
    refine ⟨_,?_,_,⟨_,i+1,n2,L,po,co,⟨by omega,hn2,by omega,by rw [hht];exact hmap⟩,rfl,U5,rfl⟩,Sa⟩
    omega
   rw [if_pos (by omega)] at hht
   refine Tk (Ts (zU 13 (nB rfl) ?_))
   refine Rz 0 ?_
   refine Rq 1 rfl (Sr _) (zP 3 (e:=125) (sz:=3) rfl rfl rfl) ?_
   refine Rz 2 ?_
   refine Rq 3 rfl (Sr _) (Qi 1 (e:=125) (sz:=3) rfl rfl rfl) ?_
   refine Rz 4 ?_
   refine Rq 5 rfl (Sr _) (Ql (v := .int .i64 f.fr) rfl (flat_cell vxC 3 (valsF t f) (λ _ _=>rfl) 1 1 (by omega) rfl)) ?_
   refine Rz 6 ?_
   refine Rq 7 rfl (Sr _) (Qi 2 (e:=125) (sz:=3) rfl rfl rfl) ?_
   refine Rz 8 ?_
   refine Rq 9 rfl (Sr _) (Ql (v := .int .i64 f.to) rfl (flat_cell vxC 3 (valsF t f) (λ _ _=>rfl) 2 1 (by omega) rfl)) (Rq 10 rfl (Sr _) (z8 [(0,1),(1,1)] [.int .i64 0,.int .i64 0] [_,_] [(0,_),(1,_)] (by unfold Zf;kernel_rfl) rfl rfl) (Rq 11 rfl (Sr _) (z8 [(0,1),(1,2)] [.slice none 0 0,.int .i64 0,.int .i64 0] [_,_,_] [(0,_),(1,_)] (by unfold Zf;kernel_rfl) rfl rfl) (yK 12 ?_)))
   refine ZK rfl (El [.slice none 0 0,.int .i64 0,.int .i64 0] (by unfold Zf;kernel_rfl) ?_)
   intro g11
   refine ⟨Sa,?_⟩
   refine Rd0 (by rfl) ?_
   simp only [dS,dZ,dN]
   refine L0 (Es [_,_,_] rfl rfl rfl rfl (by simp) ?_)
   try simp only [splice,lC,lN,dS,cA,tS,tZ,dZ,nA,aN]
   refine Ld ?_
   rw [show 3+f.row.length-3=f.row.length by omega]
   refine zU 33 (nB rfl) ?_
   refine Rz 0 ?_;refine Rz 1 ?_;refine Rz 2 ?_;refine Rz 3 ?_;refine Rz 4 ?_
   refine Rq 5 rfl (Sr _) (Ql (v := .int .i64 y.page) rfl (flat_cell0 vrC 5 (allR h) (λ _ _=>rfl) i hil (by rw [hie];rfl))) ?_
   refine Rz 6 ?_;refine Rz 7 ?_;refine Rz 8 ?_;refine Rz 9 ?_
   refine Rq 10 rfl (Sr _) (Ql (v := .int .i64 y.slot) rfl (flat_cell vrC 5 (allR h) (λ _ _=>rfl) i 1 hil (by rw [hie];rfl))) ?_
   refine Rz 11 ?_
   refine Rq 12 rfl (Sr _) (Qi 0 (e:=125) (sz:=3) rfl rfl rfl) ?_
   refine Rz 13 ?_
   refine Rq 14 rfl (Sr _) (Ql (v := .int .i64 t) rfl (flat_cell vxC 3 (valsF t f) (λ _ _=>rfl) 0 1 (by omega) rfl)) ?_
   refine Rz 15 ?_;refine Rz 16 ?_;refine Rz 17 ?_;refine Rz 18 ?_;refine Rz 19 ?_;refine Rz 20 ?_
   refine Rq 21 rfl (Sr _) (Ql (v := .int .i64 y.beg) rfl (flat_cell vrC 5 (allR h) (λ _ _=>rfl) i 2 hil (by rw [hie];rfl))) ?_
   refine Rz 23 ?_;refine Rz 24 ?_;refine Rz 25 ?_;refine Rz 26 ?_;refine Rz 27 ?_
   refine Rq 28 rfl (Sr _) (Ql (v := .int .i64 y.fin) rfl (flat_cell vrC 5 (allR h) (λ _ _=>rfl) i 3 hil (by rw [hie];rfl))) (yK 22 ?_)
   refine ZK rfl (Ec (Hr.stamp B q h y.beg hcl) Tryz.func33 rfl rfl rfl ?_)
   rintro _ _ ⟨rfl,rfl⟩
   try simp only [cA,nA]
   refine ⟨Sa,?_⟩
   refine yK 29 ?_
   refine ZK rfl (Ec (Hr.stamp B q h y.fin hcl) Tryz.func33 rfl rfl rfl ?_)
   rintro _ _ ⟨rfl,rfl⟩
   try simp only [cA,nA]
   refine ⟨Sa,?_⟩
   refine Rq 30 rfl (Sr _) (z8 [(0,1),(1,1),(2,1),(3,3),(6,1),(7,1)] [.int .i64 0,.int .i64 0,.int .i64 0,.slice none 0 0,.int .i64 0,.int .i64 0,.int .i64 0,.int .i64 0] [_,_,_,_,_,_,_,_] [(0,_),(1,_),(2,_),(3,_),(4,_),(5,_)] (by unfold Zf;kernel_rfl) rfl rfl) (yK 31 ?_)
   refine zY rfl (Ef.lits (e:=117) (sz:=8) [_] (jtC ⟨⟨y.page,y.slot,t,f,stampR h y.beg,stampR h y.fin⟩,g,c⟩) rfl (by simp [Value.cells]) rfl rfl ?_)
   intro gj
   refine yK 32 ?_
   refine zY rfl (Ea Rx.elemJ rfl rfl (SrcOf.blk (by kernel_rfl) rfl (by simp [Value.oneCell'])) (by unfold maxLen;omega) ?_)
   rintro p4 c4 hp4
   try simp only [cA,nA]
   refine Rd0 (by rfl) ?_
   simp only [dS,dZ,dN]
   refine La rfl (Ld (TR ?_))
   iterate 3 refine Lz ?_
   refine Ld ?_
   have hstep:=λ k=>jt_step (L:=L) (x:=⟨⟨y.page,y.slot,t,f,stampR h y.beg,stampR h y.fin⟩,g,c⟩) (p:=p4) (n:=n2+1) (c:=c4) (cs:=jtC ⟨⟨y.page,y.slot,t,f,stampR h y.beg,stampR h y.fin⟩,g,c⟩) rfl (l:=verR (some ⟨gv,0,none⟩) (allR h).length cv (allR h)::blk g2 (hrC q h) 33::verR q.pv h.vs.length q.cv h.vs::acR q.pa h.act.length q.ca h.act::c8R q.pc h.cm.length q.cc h.cm::e8R q.pe h.es.length q.ce h.es::F) (k:=k)
   refine ⟨_,?_,_,⟨_,i+1,n2+1,L++[⟨⟨y.page,y.slot,t,f,stampR h y.beg,stampR h y.fin⟩,g,c⟩],p4,c4,⟨by omega,by simp [hn2],by omega,by rw [hht,List.map_append,hmap];rfl⟩,rfl,U5,rfl⟩,(λ k Q=>Sa k (hstep k (Sa k Q)))⟩
   omega
  try replace h1:=of_decide_eq_false h1
  iterate 7 refine Lz ?_
  refine Ld (yQ rfl ?_)
  rw [if_pos (by omega)] at hht
  refine Tk (Ts (zU 13 (nB rfl) ?_))
  refine Rz 0 ?_
  refine Rq 1 rfl (Sr _) (zP 3 (e:=125) (sz:=3) rfl rfl rfl) ?_
  refine Rz 2 ?_
  refine Rq 3 rfl (Sr _) (Qi 1 (e:=125) (sz:=3) rfl rfl rfl) ?_
  refine Rz 4 ?_
  refine Rq 5 rfl (Sr _) (Ql (v := .int .i64 f.fr) rfl (flat_cell vxC 3 (valsF t f) (λ _ _=>rfl) 1 1 (by omega) rfl)) ?_
  refine Rz 6 ?_
  refine Rq 7 rfl (Sr _) (Qi 2 (e:=125) (sz:=3) rfl rfl rfl) ?_
  refine Rz 8 ?_
  refine Rq 9 rfl (Sr _) (Ql (v := .int .i64 f.to) rfl (flat_cell vxC 3 (valsF t f) (λ _ _=>rfl) 2 1 (by omega) rfl)) (Rq 10 rfl (Sr _) (z8 [(0,1),(1,1)] [.int .i64 0,.int .i64 0] [_,_] [(0,_),(1,_)] (by unfold Zf;kernel_rfl) rfl rfl) (Rq 11 rfl (Sr _) (z8 [(0,1),(1,2)] [.slice none 0 0,.int .i64 0,.int .i64 0] [_,_,_] [(0,_),(1,_)] (by unfold Zf;kernel_rfl) rfl rfl) (yK 12 ?_)))
  refine ZK rfl (El [.slice none 0 0,.int .i64 0,.int .i64 0] (by unfold Zf;kernel_rfl) ?_)
  intro g11
  refine ⟨Sa,?_⟩
  refine Rd0 (by rfl) ?_
  simp only [dS,dZ,dN]
  refine L0 (Es [_,_,_] rfl rfl rfl rfl (by simp) ?_)
  try simp only [splice,lC,lN,dS,cA,tS,tZ,dZ,nA,aN]
  refine Ld ?_
  rw [show 3+f.row.length-3=f.row.length by omega]
  refine zU 33 (nB rfl) ?_
  refine Rz 0 ?_;refine Rz 1 ?_;refine Rz 2 ?_;refine Rz 3 ?_;refine Rz 4 ?_
  refine Rq 5 rfl (Sr _) (Ql (v := .int .i64 y.page) rfl (flat_cell0 vrC 5 (allR h) (λ _ _=>rfl) i hil (by rw [hie];rfl))) ?_
  refine Rz 6 ?_;refine Rz 7 ?_;refine Rz 8 ?_;refine Rz 9 ?_
  refine Rq 10 rfl (Sr _) (Ql (v := .int .i64 y.slot) rfl (flat_cell vrC 5 (allR h) (λ _ _=>rfl) i 1 hil (by rw [hie];rfl))) ?_
  refine Rz 11 ?_
  refine Rq 12 rfl (Sr _) (Qi 0 (e:=125) (sz:=3) rfl rfl rfl) ?_
  refine Rz 13 ?_
  refine Rq 14 rfl (Sr _) (Ql (v := .int .i64 t) rfl (flat_cell vxC 3 (valsF t f) (λ _ _=>rfl) 0 1 (by omega) rfl)) ?_
  refine Rz 15 ?_;refine Rz 16 ?_;refine Rz 17 ?_;refine Rz 18 ?_;refine Rz 19 ?_;refine Rz 20 ?_
  refine Rq 21 rfl (Sr _) (Ql (v := .int .i64 y.beg) rfl (flat_cell vrC 5 (allR h) (λ _ _=>rfl) i 2 hil (by rw [hie];rfl))) ?_
  refine Rz 23 ?_;refine Rz 24 ?_;refine Rz 25 ?_;refine Rz 26 ?_;refine Rz 27 ?_
  refine Rq 28 rfl (Sr _) (Ql (v := .int .i64 y.fin) rfl (flat_cell vrC 5 (allR h) (λ _ _=>rfl) i 3 hil (by rw [hie];rfl))) (yK 22 ?_)
  refine ZK rfl (Ec (Hr.stamp B q h y.beg hcl) Tryz.func33 rfl rfl rfl ?_)
  rintro _ _ ⟨rfl,rfl⟩
  try simp only [cA,nA]
  refine ⟨Sa,?_⟩
  refine yK 29 ?_
  refine ZK rfl (Ec (Hr.stamp B q h y.fin hcl) Tryz.func33 rfl rfl rfl ?_)
  rintro _ _ ⟨rfl,rfl⟩
  try simp only [cA,nA]
  refine ⟨Sa,?_⟩
  refine Rq 30 rfl (Sr _) (z8 [(0,1),(1,1),(2,1),(3,3),(6,1),(7,1)] [.int .i64 0,.int .i64 0,.int .i64 0,.slice none 0 0,.int .i64 0,.int .i64 0,.int .i64 0,.int .i64 0] [_,_,_,_,_,_,_,_] [(0,_),(1,_),(2,_),(3,_),(4,_),(5,_)] (by unfold Zf;kernel_rfl) rfl rfl) (yK 31 ?_)
  refine zY rfl (Ef.lits (e:=117) (sz:=8) [_] (jtC ⟨⟨y.page,y.slot,t,f,stampR h y.beg,stampR h y.fin⟩,g,c⟩) rfl (by simp [Value.cells]) rfl rfl ?_)
  intro gj
  refine yK 32 ?_
  refine zY rfl (Ea Rx.elemJ rfl rfl (SrcOf.blk (by kernel_rfl) rfl (by simp [Value.oneCell'])) (by unfold maxLen;omega) ?_)
  rintro p4 c4 hp4
  try simp only [cA,nA]
  refine Rd0 (by rfl) ?_
  simp only [dS,dZ,dN]
  refine La rfl (Ld (TR ?_))
  iterate 3 refine Lz ?_
  refine Ld ?_
  have hstep:=λ k=>jt_step (L:=L) (x:=⟨⟨y.page,y.slot,t,f,stampR h y.beg,stampR h y.fin⟩,g,c⟩) (p:=p4) (n:=n2+1) (c:=c4) (cs:=jtC ⟨⟨y.page,y.slot,t,f,stampR h y.beg,stampR h y.fin⟩,g,c⟩) rfl (l:=verR (some ⟨gv,0,none⟩) (allR h).length cv (allR h)::blk g2 (hrC q h) 33::verR q.pv h.vs.length q.cv h.vs::acR q.pa h.act.length q.ca h.act::c8R q.pc h.cm.length q.cc h.cm::e8R q.pe h.es.length q.ce h.es::F) (k:=k)
  refine ⟨_,?_,_,⟨_,i+1,n2+1,L++[⟨⟨y.page,y.slot,t,f,stampR h y.beg,stampR h y.fin⟩,g,c⟩],p4,c4,⟨by omega,by simp [hn2],by omega,by rw [hht,List.map_append,hmap];rfl⟩,rfl,U5,rfl⟩,(λ k Q=>Sa k (hstep k (Sa k Q)))⟩
  omega
 obtain rfl:i=(allR h).length:=by omega
 rw [List.take_length] at hmap
 subst hn2
 refine zB (TS (Lm rfl (La rfl (Ld (T.ret ?_)))))
 exact ⟨.inl rfl,_,_,res [_] rfl ⟨rvT rfl,trivial⟩,⟨L,po,co,hmap,rfl,rfl⟩,Sa⟩
open Go.RowKit
theorem jt_cell {L:List ItM} {k:Nat} {y:ItM} (hy:L[k]? = some y) (f:Nat) {v:Value} (hv:(jtC y)[f]? = some v):(L.flatMap jtC)[0+k*8+f]? = some v:=by
 obtain ⟨h1,h2⟩:=List.getElem?_eq_some_iff.1 hy
 exact flat_cell jtC 8 L (λ _ _=>rfl) k f h1 (by rw [h2];exact hv)
theorem Hr.see (B:Wn) (q:HrQ) (h:HR) (m cn rm:Nat) (kk:HrK h m) (si:SI h cn rm) (hc:cn<=4096) (hcl:h.cm.length<2^40) (table at_:Int) :
  Fn Tryz.prog B 26 #[hrV q h,.int .i64 table,.int .i64 at_] (hrL q h) (λ u l => ∃ L p c,L.map (·.it)=seeR h table at_/\u = .slice p L.length c/\l=jtR p L.length c L::itsA L::hrL q h):=by
 refine Ws 51 Tryz.func26 rfl rfl (nB rfl) (λ F=>?_)
 try simp only [cA,nA]
 refine TS ?_
 refine Le (zL [_,_,_,_,_,_,_,_] rfl rfl ?_)
 intro g3
 refine La rfl (Ld (TS (La rfl (Ld (TS ?_)))))
 iterate 2 refine Lz ?_
 refine Le (Ec (Hr.history B q h m cn rm kk si hc hcl table) Tryz.func15 rfl rfl rfl ?_)
 rintro _ _ ⟨L,pv,cv,hL,rfl,rfl⟩
 try simp only [cA,nA]
 have hhl:L.length<2^30:=by have:=congrArg List.length hL;rw [List.length_map] at this;rw [this];exact hist_len si hc table
 refine LW.own λ w ho=>?_
 have hpv:0<L.length -> ∃ g,pv=some ⟨g,0,none⟩:=((ho.map Sa:Own B w [jtR pv L.length cv L]).slice_at (p:=pv) (m:=L.length) (c:=cv)).2.1
 clear ho
 refine La rfl (Ld (Ts (TS (La rfl (Ld (yH (T.conv (λ w ho=>ho.jtsNil) ?_)))))))
 refine zG (λ mz fz lz => ∃ (f0:Fr) (i n2:Nat) (M Z:List ItM) (po:Option Addr) (co:Nat),(i<=L.length/\Z=L.drop i/\n2=M.length/\n2<=i/\M.map (·.it)=((L.take i).map (·.it)).filter (λ i=>decide (i.since<=at_/\(i.til=0\/at_<i.til))))/\mz=L.length-i/\fz=(upd (upd (upd (upd f0 2 (.int .i64 at_)) 7 (.slice po n2 co)) 8 (.slice pv L.length cv)) 9 (.int .i64 i))/\lz=jtR po n2 co M::itsA M::jtR pv L.length cv L::itsA Z::hrL q h++F) ?_ ?_
 . refine ⟨_,_,⟨_,0,0,[],L,none,0,⟨Nat.zero_le _,rfl,rfl,Nat.le_refl _,rfl⟩,rfl,U4,rfl⟩,Sa⟩
 rintro mz fz lz ⟨f0,i,n2,M,Z,po,co,⟨hi,hZ,hn2,hni,hmap⟩,hmz,rfl,rfl⟩
 subst mz
 try simp only [cA,nA]
 refine Ts (TS ?_)
 iterate 4 refine Lz ?_
 refine Ld ?_
 refine yN rfl (λ hlt=>?_) (λ hlt=>?_)
 .
  subst hZ
  obtain ⟨gv,rfl⟩:=hpv (by omega)
  obtain ⟨y,hy⟩ : ∃ y,L[i]? = some y:=⟨_,List.getElem?_eq_getElem (by omega)⟩
  have hil:=(List.getElem?_eq_some_iff.1 hy).1
  have hht:=see_take hy (λ i=>decide (i.since<=at_/\(i.til=0\/at_<i.til)))
  refine T.conv (l':=itA y::itsA (L.drop (i+1))::jtR po n2 co M::itsA M::jtR (some ⟨gv,0,none⟩) L.length cv L::verR q.pv h.vs.length q.cv h.vs::acR q.pa h.act.length q.ca h.act::c8R q.pc h.cm.length q.cc h.cm::e8R q.pe h.es.length q.ce h.es::F) (λ w ho=>(ho.map Sa:Own B w (itsA (L.drop i)::jtR po n2 co M::itsA M::jtR (some ⟨gv,0,none⟩) L.length cv L::verR q.pv h.vs.length q.cv h.vs::acR q.pa h.act.length q.ca h.act::c8R q.pc h.cm.length q.cc h.cm::e8R q.pe h.es.length q.ce h.es::F)).map λ _ q=>q.its_pop hy) (Tk (Ts (yH (TS ?_))))
  iterate 4 refine Lz ?_
  refine Lq (Ql (v := .int .i64 y.it.since) rfl (jt_cell hy 6 rfl)) ?_
  iterate 3 refine Lz ?_
  refine zZ (t:=26) rfl (λ h1=>?_) (λ h1=>?_)
  .
   try replace h1:=of_decide_eq_true h1
   iterate 4 refine Lz ?_
   refine Lq (Ql (v := .int .i64 y.it.til) rfl (jt_cell hy 7 rfl)) (Lq (yU rfl rfl) (Lm rfl ?_))
   refine zZ (t:=33) rfl (λ h2=>?_) (λ h2=>?_)
   .
    try replace h2:=of_decide_eq_true h2
    iterate 9 refine Lz ?_
    refine Ld (zF rfl ?_)
    rw [if_pos (decide_eq_true ⟨h1,.inl h2⟩)] at hht
    refine TR ?_
    iterate 4 refine Lz ?_
    refine Lq (QL (jtC y) rfl (by rw [show jtC y=jtC (L[i]'hil) by rw [(List.getElem?_eq_some_iff.1 hy).2]];exact rdl_flat _ _ _ (by intros;rfl) _ (by omega))) ?_
    refine Le (zK [_,_,_,_,_,_,_,_] (e:=117) (sz:=8) ⟨.agg #[.int .i64 0,.int .i64 0,.int .i64 0,.slice none 0 0,.int .i64 0,.int .i64 0,.int .i64 0,.int .i64 0],by kernel_rfl,rfl⟩ rfl rfl rfl ?_)
    intro g48
    refine Le (Ea Rx.elemJ rfl rfl (SrcOf.blk (by kernel_rfl) rfl (by simp [Value.oneCell'])) (by unfold maxLen;omega) ?_)
    rintro p4 c4 hp4
    refine La rfl (Ld (TR ?_))
    iterate 3 refine Lz ?_
    refine Ld ?_
    have hstep:=λ k=>jt_step (L:=M) (x:=y) (p:=p4) (n:=n2+1) (c:=c4) (cs:=jtC y) rfl (l:=jtR (some ⟨gv,0,none⟩) L.length cv L::itsA (L.drop (i+1))::verR q.pv h.vs.length q.cv h.vs::acR q.pa h.act.length q.ca h.act::c8R q.pc h.cm.length q.cc h.cm::e8R q.pe h.es.length q.ce h.es::F) (k:=k)
    refine ⟨_,?_,_,⟨_,i+1,n2+1,M++[y],L.drop (i+1),p4,c4,⟨by omega,rfl,by simp [hn2],by omega,by rw [hht,List.map_append,hmap];rfl⟩,rfl,U4,rfl⟩,(λ k Q=>Sa k (hstep k (Sa k Q)))⟩
    omega
   try replace h2:=of_decide_eq_false h2
   iterate 4 refine Lz ?_
   refine Lq (Ql (v := .int .i64 y.it.til) rfl (jt_cell hy 7 rfl)) ?_
   iterate 4 refine Lz ?_
   refine Ld ?_
   refine yN rfl (λ h3=>?_) (λ h3=>?_)
   .
    rw [if_pos (decide_eq_true ⟨h1,.inr h3⟩)] at hht
    refine TR ?_
    iterate 4 refine Lz ?_
    refine Lq (QL (jtC y) rfl (by rw [show jtC y=jtC (L[i]'hil) by rw [(List.getElem?_eq_some_iff.1 hy).2]];exact rdl_flat _ _ _ (by intros;rfl) _ (by omega))) ?_
    refine Le (zK [_,_,_,_,_,_,_,_] (e:=117) (sz:=8) ⟨.agg #[.int .i64 0,.int .i64 0,.int .i64 0,.slice none 0 0,.int .i64 0,.int .i64 0,.int .i64 0,.int .i64 0],by kernel_rfl,rfl⟩ rfl rfl rfl ?_)
    intro g48
    refine Le (Ea Rx.elemJ rfl rfl (SrcOf.blk (by kernel_rfl) rfl (by simp [Value.oneCell'])) (by unfold maxLen;omega) ?_)
    rintro p4 c4 hp4
    refine La rfl (Ld (TR ?_))
    iterate 3 refine Lz ?_
    refine Ld ?_
    have hstep:=λ k=>jt_step (L:=M) (x:=y) (p:=p4) (n:=n2+1) (c:=c4) (cs:=jtC y) rfl (l:=jtR (some ⟨gv,0,none⟩) L.length cv L::itsA (L.drop (i+1))::verR q.pv h.vs.length q.cv h.vs::acR q.pa h.act.length q.ca h.act::c8R q.pc h.cm.length q.cc h.cm::e8R q.pe h.es.length q.ce h.es::F) (k:=k)
    refine ⟨_,?_,_,⟨_,i+1,n2+1,M++[y],L.drop (i+1),p4,c4,⟨by omega,rfl,by simp [hn2],by omega,by rw [hht,List.map_append,hmap];rfl⟩,rfl,U4,rfl⟩,(λ k Q=>Sa k (hstep k (Sa k Q)))⟩
    omega
   rw [if_neg (by rw [decide_eq_true_eq];exact λ q=>q.2.elim h2 h3),List.append_nil] at hht
   refine Tk (TR ?_)
   iterate 3 refine Lz ?_
   refine Ld ?_
   refine ⟨_,?_,_,⟨_,i+1,n2,M,L.drop (i+1),po,co,⟨by omega,rfl,hn2,by omega,by rw [hht];exact hmap⟩,rfl,U4,rfl⟩,Sa⟩
   omega
  try replace h1:=of_decide_eq_false h1
  iterate 16 refine Lz ?_
  refine Ld (yQ rfl ?_)
  rw [if_neg (by rw [decide_eq_true_eq];exact λ q=>h1 q.1),List.append_nil] at hht
  refine Tk (TR ?_)
  iterate 3 refine Lz ?_
  refine Ld ?_
  refine ⟨_,?_,_,⟨_,i+1,n2,M,L.drop (i+1),po,co,⟨by omega,rfl,hn2,by omega,by rw [hht];exact hmap⟩,rfl,U4,rfl⟩,Sa⟩
  omega
 obtain rfl:i=L.length:=by omega
 rw [List.take_length,hL] at hmap
 subst hn2
 refine zB (TS (Lm rfl (La rfl (Ld (T.ret ?_)))))
 exact ⟨.inl rfl,_,_,res [_] rfl ⟨rvT rfl,trivial⟩,⟨M,po,co,hmap,rfl,rfl⟩,Sa⟩
open Go.RowKit
abbrev rdR (p:Option Addr) (n c:Nat) (l:List (Int×Int)):Wp:=row (.slice p n c) 106 2 n (l.flatMap ridC)
theorem eqRid21 (a b c d:Int):EqSt Tryz.prog 106 #[.int .i64 a,.int .i64 b] #[.int .i64 c,.int .i64 d] (decide (a=c/\b=d)):=by
  refine EqSt.mk' (by kernel_rfl) Tryz.underlying106 (by kernel_rfl) λ d0 w=>?_
  refine Eq.trans (eqF_int w (a:=a) (b:=c) rfl Tryz.underlying3 rfl rfl) ?_
  by_cases h:a=c
  . rw [if_pos h]
    refine Eq.trans (eqF_int w (a:=b) (b:=d) rfl Tryz.underlying3 rfl rfl) ?_
    by_cases h2:b=d
    . rw [if_pos h2,eqF_nil];simp [h,h2]
    . rw [if_neg h2];simp [h2]
  . rw [if_neg h];simp [h]
theorem rd_cell {L:List (Int×Int)} {k:Nat} {y:Int×Int} (hy:L[k]? = some y) (f:Nat) {v:Value} (hv:(ridC y)[f]? = some v):(L.flatMap ridC)[0+k*2+f]? = some v:=by
 obtain ⟨h1,h2⟩:=List.getElem?_eq_some_iff.1 hy
 exact flat_cell ridC 2 L (λ _ _=>rfl) k f h1 (by rw [h2];exact hv)
theorem any_snoc {α:Type} {l:List α} {k:Nat} {y:α} (hy:l[k]? = some y) (f:α->Bool):(l.take (k+1)).any f=((l.take k).any f || f y):=by
 rw [take_snoc hy,List.any_append,List.any_cons,List.any_nil,Bool.or_false]
theorem Hr.ends (B:Wn) (q:HrQ) (h:HR) (m cn rm:Nat) (kk:HrK h m) (si:SI h cn rm) (hc:cn<=4096) (hcl:h.cm.length<2^40) (pl:Option Addr) (n cl:Nat) (l:List (Int×Int)) (hl:l.length=n) (hn:n<2^40) :
  Fn Tryz.prog B 61 #[hrV q h,.slice pl n cl] (rdR pl n cl l::hrL q h) (λ u r=>u = .bool (endsG h [] l)/\r=rdR pl n cl l::hrL q h):=by
 refine Wr 72 Tryz.func61 rfl rfl (nB rfl) (λ F=>?_)
 try simp only [cA,nA]
 refine TS ?_
 refine Le (zL [_,_,_,_,_,_,_,_] rfl rfl ?_)
 intro g2
 refine La rfl (Ld (TS ?_))
 refine Lz ?_
 refine Le (Ec (Hr.history B q h m cn rm kk si hc hcl (-1)) Tryz.func15 rfl rfl rfl ?_)
 rintro _ _ ⟨L,pv,cv,hL,rfl,rfl⟩
 try simp only [cA,nA]
 have hhl:L.length<2^30:=by have:=congrArg List.length hL;rw [List.length_map] at this;rw [this];exact hist_len si hc (-1)
 refine LW.own λ w ho=>?_
 have hpv:0<L.length -> ∃ g,pv=some ⟨g,0,none⟩:=((ho.map Sa:Own B w [jtR pv L.length cv L]).slice_at (p:=pv) (m:=L.length) (c:=cv)).2.1
 have hpl:0<n -> ∃ g,pl=some ⟨g,0,none⟩:=((ho.map Sa:Own B w [rdR pl n cl l]).slice_at (p:=pl) (m:=n) (c:=cl)).2.1
 clear ho
 refine La rfl (Ld (Ts (TS (La rfl (Ld (yH ?_))))))
 refine zG (λ mz fz lz => ∃ (f0:Fr) (i:Nat),(i<=n/\endsG h (l.take i) (l.drop i)=endsG h [] l)/\mz=n-i/\fz=(upd (upd (upd f0 1 (.slice pl n cl)) 5 (.slice pv L.length cv)) 6 (.int .i64 i))/\lz=rdR pl n cl l::jtR pv L.length cv L::hrL q h++F) ?_ ?_
 . refine ⟨_,_,⟨_,0,⟨Nat.zero_le _,rfl⟩,rfl,U3,rfl⟩,Sa⟩
 rintro mz fz lz ⟨f0,i,⟨hi,hE⟩,hmz,rfl,rfl⟩
 subst mz
 try simp only [cA,nA]
 refine Ts (TS ?_)
 iterate 4 refine Lz ?_
 refine Ld ?_
 refine yN rfl (λ hlt=>?_) (λ hlt=>?_)
 .
  obtain ⟨gl,rfl⟩:=hpl (by omega)
  obtain ⟨p,hp⟩ : ∃ p,l[i]? = some p:=⟨_,List.getElem?_eq_getElem (by omega)⟩
  rw [drop_one hp,endsG_cons,<-take_snoc hp] at hE
  refine Tk (Ts (yH (TS (La rfl (Ld (Ts (TS (La rfl (Ld (yH ?_))))))))))
  refine zG (λ mz fz lz => ∃ (f0:Fr) (k:Nat) (b:Bool),(k<=L.length/\b=((histR h (-1)).take k).any (isOpn p))/\mz=L.length-k/\fz=(upd (upd (upd (upd (upd f0 1 (.slice (some ⟨gl,0,none⟩) n cl)) 5 (.slice pv L.length cv)) 6 (.int .i64 i)) 7 (.bool b)) 8 (.int .i64 k))/\lz=rdR (some ⟨gl,0,none⟩) n cl l::jtR pv L.length cv L::hrL q h++F) ?_ ?_
  . refine ⟨_,_,⟨_,0,false,⟨Nat.zero_le _,rfl⟩,rfl,U5,rfl⟩,Sa⟩
  rintro mz fz lz ⟨f0,k,b,⟨hk,hb⟩,hmz,rfl,rfl⟩
  subst mz
  try simp only [cA,nA]
  refine Ts (TS ?_)
  iterate 4 refine Lz ?_
  refine Ld ?_
  refine yN rfl (λ hlt2=>?_) (λ hlt2=>?_)
  .
   obtain ⟨gv,rfl⟩:=hpv (by omega)
   obtain ⟨y,hy⟩ : ∃ y,L[k]? = some y:=⟨_,List.getElem?_eq_getElem (by omega)⟩
   have hyi:(histR h (-1))[k]? = some y.it:=by rw [<-hL,List.getElem?_map,hy];rfl
   have hany:=any_snoc hyi (isOpn p)
   rw [<-hb] at hany
   refine Tk (Ts (yH (Ts (zU 32 (nB rfl) ?_))))
   refine Rz 0 ?_;refine Rz 1 ?_;refine Rz 2 ?_;refine Rz 3 ?_
   refine Rq 4 rfl (Sr _) (Ql (v := .int .i64 y.it.page) rfl (jt_cell hy 0 rfl)) ?_
   refine Rz 5 ?_;refine Rz 6 ?_;refine Rz 7 ?_;refine Rz 8 ?_
   refine Rq 9 rfl (Sr _) (Ql (v := .int .i64 p.1) rfl (rd_cell hp 0 rfl)) ?_
   refine Rz 10 ?_;refine Rz 11 ?_
   by_cases hop:(y.it.page:Int)=p.1/\(y.it.slot:Int)=p.2/\y.it.til=0
   .
    refine YY (t:=35) rfl (decide_eq_true (by omega)) ?_
    refine Rz 12 ?_;refine Rz 13 ?_;refine Rz 14 ?_;refine Rz 15 ?_
    refine Rq 16 rfl (Sr _) (Ql (v := .int .i64 y.it.slot) rfl (jt_cell hy 1 rfl)) ?_
    refine Rz 17 ?_;refine Rz 18 ?_;refine Rz 19 ?_;refine Rz 20 ?_
    refine Rq 21 rfl (Sr _) (Ql (v := .int .i64 p.2) rfl (rd_cell hp 1 rfl)) ?_
    refine Rz 22 ?_;refine Rz 23 ?_;refine Rz 24 ?_
    refine YY (t:=48) rfl (decide_eq_true (by omega)) ?_
    refine Rz 25 ?_;refine Rz 26 ?_;refine Rz 27 ?_;refine Rz 28 ?_
    refine Rq 29 rfl (Sr _) (Ql (v := .int .i64 y.it.til) rfl (jt_cell hy 7 rfl)) ?_
    refine Rz 30 ?_;refine Rz 31 ?_
    refine Rd0 (by rfl) ?_
    simp only [dS,dZ,dN]
    refine Ld (zM rfl (TR (La rfl (Ld (TR ?_)))))
    iterate 3 refine Lz ?_
    refine Ld ?_
    refine ⟨_,?_,_,⟨_,k+1,true,⟨by omega,by rw [hany,show isOpn p y.it=true from decide_eq_true ⟨Prod.ext hop.1 hop.2.1,hop.2.2⟩,Bool.or_true]⟩,rfl,U5,rfl⟩,Sa⟩
    omega
   rw [show isOpn p y.it=false from decide_eq_false (λ z=>hop ⟨congrArg Prod.fst z.1,congrArg Prod.snd z.1,z.2⟩),Bool.or_false] at hany
   refine YE (t:=35) rfl (λ c1=>?_) (λ c1=>?_)
   .
    try replace c1:=of_decide_eq_true c1
    refine Rz 12 ?_;refine Rz 13 ?_;refine Rz 14 ?_;refine Rz 15 ?_
    refine Rq 16 rfl (Sr _) (Ql (v := .int .i64 y.it.slot) rfl (jt_cell hy 1 rfl)) ?_
    refine Rz 17 ?_;refine Rz 18 ?_;refine Rz 19 ?_;refine Rz 20 ?_
    refine Rq 21 rfl (Sr _) (Ql (v := .int .i64 p.2) rfl (rd_cell hp 1 rfl)) ?_
    refine Rz 22 ?_;refine Rz 23 ?_;refine Rz 24 ?_
    refine YE (t:=48) rfl (λ c2=>?_) (λ c2=>?_)
    .
     try replace c2:=of_decide_eq_true c2
     refine Rz 25 ?_;refine Rz 26 ?_;refine Rz 27 ?_;refine Rz 28 ?_
     refine Rq 29 rfl (Sr _) (Ql (v := .int .i64 y.it.til) rfl (jt_cell hy 7 rfl)) ?_
     refine Rz 30 ?_;refine Rz 31 ?_
     refine Rd0 (by rfl) ?_
     simp only [dS,dZ,dN]
     refine Ld (yL rfl (Tk (TR ?_)))
     iterate 3 refine Lz ?_
     refine Ld ?_
     refine ⟨_,?_,_,⟨_,k+1,b,⟨by omega,hany.symm⟩,rfl,U5,rfl⟩,Sa⟩
     omega
    try replace c2:=of_decide_eq_false c2
    refine Rz 25 ?_;refine Rz 26 ?_;refine Rz 27 ?_;refine Rz 28 ?_;refine Rz 29 ?_;refine Rz 30 ?_;refine Rz 31 ?_
    refine Rd0 (by rfl) ?_
    simp only [dS,dZ,dN]
    refine Ld (yQ rfl (Tk (TR ?_)))
    iterate 3 refine Lz ?_
    refine Ld ?_
    refine ⟨_,?_,_,⟨_,k+1,b,⟨by omega,hany.symm⟩,rfl,U5,rfl⟩,Sa⟩
    omega
   try replace c1:=of_decide_eq_false c1
   refine Rz 12 ?_;refine Rz 13 ?_;refine Rz 14 ?_;refine Rz 15 ?_;refine Rz 16 ?_;refine Rz 17 ?_;refine Rz 18 ?_;refine Rz 19 ?_;refine Rz 20 ?_;refine Rz 21 ?_;refine Rz 22 ?_;refine Rz 23 ?_;refine Rz 24 ?_
   refine ZD (t:=48) rfl rfl ?_
   refine Rz 25 ?_;refine Rz 26 ?_;refine Rz 27 ?_;refine Rz 28 ?_;refine Rz 29 ?_;refine Rz 30 ?_;refine Rz 31 ?_
   refine Rd0 (by rfl) ?_
   simp only [dS,dZ,dN]
   refine Ld (yQ rfl (Tk (TR ?_)))
   iterate 3 refine Lz ?_
   refine Ld ?_
   refine ⟨_,?_,_,⟨_,k+1,b,⟨by omega,hany.symm⟩,rfl,U5,rfl⟩,Sa⟩
   omega
  obtain rfl:k=L.length:=by omega
  rw [List.take_of_length_le (by rw [<-hL,List.length_map];omega),<-opn_any] at hb
  refine zB (Ts (TS (La rfl (Ld (yH ?_)))))
  refine zG (λ mz fz lz => ∃ (f0:Fr) (k:Nat) (b2:Bool),(k<=i/\b2=(b && !((l.take k).contains p)))/\mz=i-k/\fz=(upd (upd (upd (upd (upd f0 1 (.slice (some ⟨gl,0,none⟩) n cl)) 5 (.slice pv L.length cv)) 6 (.int .i64 i)) 7 (.bool b2)) 9 (.int .i64 k))/\lz=rdR (some ⟨gl,0,none⟩) n cl l::jtR pv L.length cv L::hrL q h++F) ?_ ?_
  . refine ⟨_,_,⟨_,0,b,⟨Nat.zero_le _,by simp⟩,rfl,U5,rfl⟩,Sa⟩
  rintro mz fz lz ⟨f0,k,b2,⟨hk2,hb2⟩,hmz,rfl,rfl⟩
  subst mz
  try simp only [cA,nA]
  refine Ts (TS ?_)
  iterate 3 refine Lz ?_
  refine Ld ?_
  refine yN rfl (λ hlt3=>?_) (λ hlt3=>?_)
  .
   obtain ⟨r,hr⟩ : ∃ r,l[k]? = some r:=⟨_,List.getElem?_eq_getElem (by omega)⟩
   refine Tk (Ts (yH (Ts (zU 9 (nB rfl) ?_))))
   refine Rz 0 ?_;refine Rz 1 ?_;refine Rz 2 ?_
   refine Rq 3 rfl (Sr _) (QL (ridC r) rfl ⟨rd_cell hr 0 rfl,rd_cell hr 1 rfl,trivial⟩) ?_
   refine Rz 4 ?_;refine Rz 5 ?_;refine Rz 6 ?_
   refine Rq 7 rfl (Sr _) (QL (ridC p) rfl ⟨rd_cell hp 0 rfl,rd_cell hp 1 rfl,trivial⟩) (Rq 8 rfl (Sr _) (Qt.eqlSt (eqRid21 r.1 r.2 p.1 p.2) rfl rfl) (Rd0 (by rfl) ?_))
   simp only [dS,dZ,dN]
   refine Ld ?_
   by_cases he:r=p
   .
    have hco:(l.take (k+1)).contains p=true:=by rw [take_snoc hr,he];simp [List.contains_iff_mem]
    refine T.condBT rfl ((decide_eq_true ⟨congrArg Prod.fst he,congrArg Prod.snd he⟩)) (TR (La rfl (Ld (TR ?_))))
    iterate 3 refine Lz ?_
    refine Ld ?_
    refine ⟨_,?_,_,⟨_,k+1,false,⟨by omega,by rw [hco];simp⟩,rfl,U5,rfl⟩,Sa⟩
    omega
   have hco:(l.take (k+1)).contains p=(l.take k).contains p:=by rw [take_snoc hr,Bool.eq_iff_iff];simp [List.contains_iff_mem];exact λ z=>absurd z.symm he
   refine YQ rfl ((decide_eq_false (λ z=>he (Prod.ext z.1 z.2)))) (Tk (TR ?_))
   iterate 3 refine Lz ?_
   refine Ld ?_
   refine ⟨_,?_,_,⟨_,k+1,b2,⟨by omega,by rw [hco];exact hb2⟩,rfl,U5,rfl⟩,Sa⟩
   omega
  obtain rfl:k=i:=by omega
  rw [hb] at hb2
  rw [<-hb2] at hE
  by_cases hf:b2=true
  .
   rw [hf,Bool.true_and] at hE
   subst hf
   refine zB (TS (Lm rfl (Lq (Y2 rfl) (Ld (yQ rfl (Tk (TR ?_)))))))
   iterate 3 refine Lz ?_
   refine Ld ?_
   refine ⟨_,?_,_,⟨_,k+1,⟨by omega,hE⟩,rfl,U3,rfl⟩,Sa⟩
   omega
  rw [Bool.not_eq_true] at hf
  rw [hf,Bool.false_and] at hE
  subst hf
  refine zB (TS (Lm rfl (Lq (Y2 rfl) (Ld (zF rfl (TS (La rfl (Ld (T.ret ?_)))))))))
  exact ⟨.inl rfl,_,_,res [_] rfl ⟨rvT rfl,trivial⟩,⟨by rw [<-hE];rfl,rfl⟩,Sa⟩
 rw [List.drop_of_length_le (by omega)] at hE
 refine zB (TS (La rfl (Ld (T.ret ?_))))
 exact ⟨.inl rfl,_,_,res [_] rfl ⟨rvT rfl,trivial⟩,⟨by rw [<-hE];rfl,rfl⟩,Sa⟩
open Go.RowKit
theorem HrW.add {g:HR} {m:Nat} (k:HrW g m) (hm:m+1<2^32) (t:Int) (d:List UInt8):HrW (Wm g t d).1 (m+1):=by
  have s:=k.s
  rcases add_cases g t d with ⟨_,e⟩ | ⟨q,h1,h2,h3,h4,h5⟩
  . rw [e];exact ⟨⟨by have:=s.v;omega,by have:=s.a;omega,by have:=s.c;omega,by have:=s.e;omega⟩,hm,k.pages,k.room,k.u,k.pg⟩
  . rw [h5]
    obtain ⟨a,b,_⟩:=roomy_some h3
    have hv:=write_add_vs (h:=g) (t:=t) (d:=d) (q:=q)
    have hus:=write_add_used (h:=g) (t:=t) (d:=d) (q:=q)
    have hrm:=k.room
    have hu:=k.u
    refine ⟨⟨by rw [hv];have:=s.v;simp;omega,by have:=s.a;show g.act.length<=_;omega,?_,by have:=s.e;show (g.es++[_]).length<=_;simp;omega⟩,hm,k.pages,k.room,by rw [hus];omega,λ p=>?_⟩
    . show (if (1:Int)=3 then g.cm++[(t,(0:Int))] else g.cm).length<=_
      rw [if_neg (by decide)];have:=s.c;omega
    . have hp:=k.pg p
      rw [hv]
      unfold Wi
      rw [Wc,usedV_append]
      by_cases e:q=p
      . subst e
        simp [Zh,usedV]
        unfold Wi usedV Zh at b
        omega
      . simp [Zh,usedV,e]
        unfold Wi usedV Zh at hp
        omega
open Go.RowKit
theorem Hr.fitsG (B:Wn) (q:HrQ) (h:HR) (m:Nat) (k:HrK h m) (ends:Int) (he : -(2^63)<=ends/\ends<2^63) (pz:Option Addr) (ns cz:Nat) (L:List Int) (hns:L.length=ns) (hm:m+ns<2^30):Fn Tryz.prog B 62 #[hrV q h,.int .i64 ends,.slice pz ns cz] (zR pz ns cz L::hrL q h) (λ u l=>u = .bool (fitsR h ends L)/\l=hrL q h):=by
 have hrm:=k.room
 obtain ⟨hu0,hu1⟩:=k.used
 have hl0:=k.r.last0
 have hlk:=k.last
 simp only [hrL,List.cons_append,List.nil_append]
 unfold fitsR
 refine Ws 71 Tryz.func62 rfl rfl (nB rfl) (λ F=>?_)
 try simp only [cA,nA]
 refine T.own λ w ho=>?_
 have hp:0<ns -> ∃ g,pz=some ⟨g,0,none⟩:=((ho.map Sa:Own B w [zR pz ns cz L]).slice_at (p:=pz) (m:=ns) (c:=cz)).2.1
 clear ho
 refine TS ?_
 refine Le (zL [_,_,_,_,_,_,_,_] rfl rfl ?_)
 intro g3
 refine La rfl (Ld (Ts (TS ?_)))
 iterate 3 refine Lz ?_
 refine zZ (t:=12) rfl (λ h1=>?_) (λ h1=>?_)
 .
  try replace h1:=of_decide_eq_true h1
  rw [if_pos (.inl h1)]
  iterate 5 refine Lz ?_
  refine Ld (zF rfl (TS (La rfl (Ld (T.ret ?_)))))
  exact ⟨.inl rfl,_,_,res [_] rfl ⟨rvT rfl,trivial⟩,⟨rfl,rfl⟩,Sa⟩
 try replace h1:=of_decide_eq_false h1
 iterate 5 refine Lz ?_
 refine Ld ?_
 refine yN rfl (λ h2=>?_) (λ h2=>?_)
 .
  rw [if_pos (.inr h2)]
  refine TS (La rfl (Ld (T.ret ?_)))
  exact ⟨.inl rfl,_,_,res [_] rfl ⟨rvT rfl,trivial⟩,⟨rfl,rfl⟩,Sa⟩
 rw [if_neg (by omega)]
 refine Tk (TS ?_)
 refine Lz ?_
 refine Le (Ec (Hr.begin B q h m k.s k.m (by omega)) Tryz.func63 rfl rfl rfl ?_)
 rintro _ _ ⟨q1,rfl,rfl⟩
 try simp only [cA,nA]
 iterate 3 refine Lz ?_
 refine L0 (Es [_,_,_,_,_,_,_,_] rfl rfl rfl rfl (by simp) ?_)
 try simp only [splice,lC,lN,dS,cA,tS,tZ,dZ,nA,aN]
 refine La rfl (Ld (TS ?_))
 refine Lz ?_
 have hs1:HrS (beginR h) (m+1):=⟨by have:=k.s.v;show h.vs.length<=_;omega,by have:=k.s.a;show (h.act++[h.last+1]).length<=_;simp;omega,by have:=k.s.c;show h.cm.length<=_;omega,by have:=k.s.e;show h.es.length<=_;omega⟩
 have hbu:(beginR h).used=h.used:=rfl
 refine Le (Ec (Hr.copied B q1 (beginR h) (m+1) hs1 (by omega)) Tryz.func59 rfl rfl rfl ?_)
 rintro _ _ ⟨q2,rfl,rfl⟩
 try simp only [cA,nA]
 refine L0 (Es [_,_,_,_,_,_,_,_] rfl rfl rfl rfl (by simp) ?_)
 try simp only [splice,lC,lN,dS,cA,tS,tZ,dZ,nA,aN]
 refine Ld (TS ?_)
 iterate 7 refine Lz ?_
 refine L0 (E1 (by kernel_rfl) rfl rfl rfl (by first | (simp;done) | (simp;omega)) ?_)
 try simp only [List.set_cons_zero,List.set_cons_succ]
 refine Ld (Ts (TS (La rfl (Ld (yH ?_)))))
 rw [hbu]
 obtain ⟨g0,hg0⟩ : ∃ g0:HR,({beginR h with used:=h.used+(20*ends+25)}:HR)=g0:=⟨_,rfl⟩
 have hw0:HrW g0 (m+1):=by rw [<-hg0];exact ⟨⟨hs1.v,hs1.a,hs1.c,hs1.e⟩,by omega,k.pages,k.room,by show 0<=h.used+(20*ends+25)/\h.used+(20*ends+25)<_;omega,k.r.ok.room⟩
 refine T.conv (l':=blk g3 (hrC q2 g0) 33::hrL q2 g0++(zR pz ns cz L::hrL q h++F)) (λ w ho=>by subst hg0;exact ho.map Sa) ?_
 rw [hg0]
 refine zG (λ mz fz lz => ∃ (f0:Fr) (i:Nat) (g:HR) (q2:HrQ),(i<=ns/\HrW g (m+1+i)/\fitsA g0 (h.last+1) L=fitsA g (h.last+1) (L.drop i))/\mz=ns-i/\fz=(upd (upd (upd (upd f0 2 (.slice pz ns cz)) 3 (.pointer (some ⟨g3,0,none⟩))) 7 (.int .i64 (h.last+1))) 8 (.int .i64 i))/\lz=blk g3 (hrC q2 g) 33::hrL q2 g++(zR pz ns cz L::hrL q h++F)) ?_ ?_
 . refine ⟨_,_,⟨_,0,g0,q2,⟨Nat.zero_le _,hw0,rfl⟩,rfl,U4,rfl⟩,Sa⟩
 rintro mz fz lz ⟨f0,i,g,q2,⟨hi,hw,hfa⟩,hmz,rfl,rfl⟩
 subst mz
 try simp only [cA,nA]
 refine Ts (TS ?_)
 iterate 4 refine Lz ?_
 refine Ld ?_
 refine yN rfl (λ hlt=>?_) (λ hlt=>?_)
 .
  obtain ⟨ga,rfl⟩:=hp (by omega)
  obtain ⟨z,hz⟩ : ∃ z,L[i]'(by omega)=z:=⟨_,rfl⟩
  have hzc:(L.map zV)[0+i*1]? = some (zV z):=by rw [map_at _ _ _ (by omega),hz]
  have hdr:L.drop i=z::L.drop (i+1):=by rw [List.drop_eq_getElem_cons (by omega),hz]
  rw [hdr] at hfa
  refine Tk (Ts (yH (Ts (TS ?_))))
  iterate 3 refine Lz ?_
  refine Lq (Ql (v:=zV z) rfl hzc) (Lq (yM rfl rfl) (Lm rfl ?_))
  refine zZ (t:=43) rfl (λ z1=>?_) (λ z1=>?_)
  .
   try replace z1:=of_decide_eq_true z1
   rw [hfa,show fitsA g (h.last+1) (z::L.drop (i+1))=(g,false) by unfold fitsA;rw [if_pos (.inl z1)]]
   iterate 6 refine Lz ?_
   refine Ld (zF rfl (TS (La rfl (Ld (T.ret ?_)))))
   exact ⟨.inl rfl,_,_,res [_] rfl ⟨rvT rfl,trivial⟩,⟨rfl,rfl⟩,Sa⟩
  try replace z1:=of_decide_eq_false z1
  iterate 3 refine Lz ?_
  refine Lq (Ql (v:=zV z) rfl hzc) (Lq (yZ rfl rfl) (Lq (Qp rfl rfl) (Ld ?_)))
  refine yN rfl (λ z2=>?_) (λ z2=>?_)
  .
   rw [hfa,show fitsA g (h.last+1) (z::L.drop (i+1))=(g,false) by unfold fitsA;rw [if_pos (.inr z2)]]
   refine TS (La rfl (Ld (T.ret ?_)))
   exact ⟨.inl rfl,_,_,res [_] rfl ⟨rvT rfl,trivial⟩,⟨rfl,rfl⟩,Sa⟩
  obtain ⟨n,rfl⟩ : ∃ n:Nat,z=n:=⟨z.toNat,by omega⟩
  have hfb:fitsA g (h.last+1) ((n:Int)::L.drop (i+1))=if (Wm g (h.last+1) (List.replicate n 0)).2.2.2≠0 then ((Wm g (h.last+1) (List.replicate n 0)).1,false) else fitsA (Wm g (h.last+1) (List.replicate n 0)).1 (h.last+1) (L.drop (i+1)):=by
   conv=>lhs;unfold fitsA
   rw [if_neg (by omega),Int.toNat_natCast]
  refine Tk (TS (La rfl (Ld (Ts (T.draw 15 ([zR (some ⟨ga,0,none⟩) ns cz L]) (nB rfl) ?_)))))
  refine Rz 1 ?_;refine Rz 2 ?_;refine Rz 3 ?_;refine Rz 4 ?_
  refine Rq 5 rfl Sa (Ql (v:=zV n) rfl hzc) ?_
  refine YC [0,6] (List.forall_mem_cons.2 ⟨?_,List.forall_mem_cons.2 ⟨?_,List.forall_mem_nil _⟩⟩)
  .
   refine z6 rfl (YL (QL [_,_,_,_,_,_,_,_] rfl ⟨rfl,rfl,rfl,rfl,rfl,rfl,rfl,rfl,trivial⟩) ?_)
   refine ⟨Sa,?_⟩
   refine yK 6 ?_
   refine z6 rfl (YK n (.int .u8 0) 1 Cd.elemB rfl rfl rfl rfl (by unfold maxLen;omega) ?_)
   intro gz
   rw [made_bytes n]
   refine ⟨Sa,?_⟩
   refine yK 7 ?_
   first | refine z6 rfl (YL (Z2 (List.replicate n 0) rfl (λ _ ho=>ho.reads_row (by simp))) ?_)
   refine ⟨Sa,?_⟩
   refine yK 8 ?_
   refine z6 rfl (Ec (Hr.add B q2 g (m+1+i) hw (h.last+1) (List.replicate n 0) (by simp;omega)) Tryz.func65 rfl rfl rfl ?_)
   rintro _ _ ⟨q3,rfl,rfl⟩
   try simp only [cA,nA]
   refine ⟨Sa,?_⟩
   refine Rz 9 ?_;refine Rz 10 ?_;refine Rz 11 ?_;refine Rz 12 ?_;refine Rz 13 ?_
   refine yK 14 ?_
   refine YH rfl (Es [_,_,_,_,_,_,_,_] rfl rfl rfl rfl (by simp) ?_)
   try simp only [splice,lC,lN,dS,cA,tS,tZ,dZ,nA,aN]
   refine ⟨Sa,?_⟩
   refine Rd0 (by rfl) ?_
   simp only [dS,dZ,dN]
   refine La rfl (Ld (TS (Lm rfl (Lq (yW rfl rfl) (Ld ?_)))))
   refine yN rfl (λ hbad=>?_) (λ hbad=>?_)
   .
    rw [hfa,hfb,if_pos hbad]
    refine TS (La rfl (Ld (T.ret ?_)))
    exact ⟨.inl rfl,_,_,res [_] rfl ⟨rvT rfl,trivial⟩,⟨rfl,rfl⟩,Sa⟩
   rw [if_neg hbad] at hfb
   refine Tk (TR ?_)
   iterate 3 refine Lz ?_
   refine Ld ?_
   refine ⟨_,?_,_,⟨_,i+1,(Wm g (h.last+1) (List.replicate n 0)).1,q3,⟨by omega,hw.add (by omega) _ _,hfa.trans hfb⟩,rfl,U4,rfl⟩,Sa⟩
   omega
  refine z6 rfl (YK n (.int .u8 0) 1 Cd.elemB rfl rfl rfl rfl (by unfold maxLen;omega) ?_)
  intro gz
  rw [made_bytes n]
  refine ⟨Sa,?_⟩
  refine YC [0,7] (List.forall_mem_cons.2 ⟨?_,List.forall_mem_cons.2 ⟨?_,List.forall_mem_nil _⟩⟩)
  .
   refine z6 rfl (YL (QL [_,_,_,_,_,_,_,_] rfl ⟨rfl,rfl,rfl,rfl,rfl,rfl,rfl,rfl,trivial⟩) ?_)
   refine ⟨Sa,?_⟩
   refine yK 7 ?_
   first | refine z6 rfl (YL (Z2 (List.replicate n 0) rfl (λ _ ho=>ho.reads_row (by simp))) ?_)
   refine ⟨Sa,?_⟩
   refine yK 8 ?_
   refine z6 rfl (Ec (Hr.add B q2 g (m+1+i) hw (h.last+1) (List.replicate n 0) (by simp;omega)) Tryz.func65 rfl rfl rfl ?_)
   rintro _ _ ⟨q3,rfl,rfl⟩
   try simp only [cA,nA]
   refine ⟨Sa,?_⟩
   refine Rz 9 ?_;refine Rz 10 ?_;refine Rz 11 ?_;refine Rz 12 ?_;refine Rz 13 ?_
   refine yK 14 ?_
   refine YH rfl (Es [_,_,_,_,_,_,_,_] rfl rfl rfl rfl (by simp) ?_)
   try simp only [splice,lC,lN,dS,cA,tS,tZ,dZ,nA,aN]
   refine ⟨Sa,?_⟩
   refine Rd0 (by rfl) ?_
   simp only [dS,dZ,dN]
   refine La rfl (Ld (TS (Lm rfl (Lq (yW rfl rfl) (Ld ?_)))))
   refine yN rfl (λ hbad=>?_) (λ hbad=>?_)
   .
    rw [hfa,hfb,if_pos hbad]
    refine TS (La rfl (Ld (T.ret ?_)))
    exact ⟨.inl rfl,_,_,res [_] rfl ⟨rvT rfl,trivial⟩,⟨rfl,rfl⟩,Sa⟩
   rw [if_neg hbad] at hfb
   refine Tk (TR ?_)
   iterate 3 refine Lz ?_
   refine Ld ?_
   refine ⟨_,?_,_,⟨_,i+1,(Wm g (h.last+1) (List.replicate n 0)).1,q3,⟨by omega,hw.add (by omega) _ _,hfa.trans hfb⟩,rfl,U4,rfl⟩,Sa⟩
   omega
  first | refine z6 rfl (YL (Z2 (List.replicate n 0) rfl (λ _ ho=>ho.reads_row (by simp))) ?_)
  refine ⟨Sa,?_⟩
  refine yK 0 ?_
  refine z6 rfl (YL (QL [_,_,_,_,_,_,_,_] rfl ⟨rfl,rfl,rfl,rfl,rfl,rfl,rfl,rfl,trivial⟩) ?_)
  refine ⟨Sa,?_⟩
  refine yK 8 ?_
  refine z6 rfl (Ec (Hr.add B q2 g (m+1+i) hw (h.last+1) (List.replicate n 0) (by simp;omega)) Tryz.func65 rfl rfl rfl ?_)
  rintro _ _ ⟨q3,rfl,rfl⟩
  try simp only [cA,nA]
  refine ⟨Sa,?_⟩
  refine Rz 9 ?_;refine Rz 10 ?_;refine Rz 11 ?_;refine Rz 12 ?_;refine Rz 13 ?_
  refine yK 14 ?_
  refine YH rfl (Es [_,_,_,_,_,_,_,_] rfl rfl rfl rfl (by simp) ?_)
  try simp only [splice,lC,lN,dS,cA,tS,tZ,dZ,nA,aN]
  refine ⟨Sa,?_⟩
  refine Rd0 (by rfl) ?_
  simp only [dS,dZ,dN]
  refine La rfl (Ld (TS (Lm rfl (Lq (yW rfl rfl) (Ld ?_)))))
  refine yN rfl (λ hbad=>?_) (λ hbad=>?_)
  .
   rw [hfa,hfb,if_pos hbad]
   refine TS (La rfl (Ld (T.ret ?_)))
   exact ⟨.inl rfl,_,_,res [_] rfl ⟨rvT rfl,trivial⟩,⟨rfl,rfl⟩,Sa⟩
  rw [if_neg hbad] at hfb
  refine Tk (TR ?_)
  iterate 3 refine Lz ?_
  refine Ld ?_
  refine ⟨_,?_,_,⟨_,i+1,(Wm g (h.last+1) (List.replicate n 0)).1,q3,⟨by omega,hw.add (by omega) _ _,hfa.trans hfb⟩,rfl,U4,rfl⟩,Sa⟩
  omega
 obtain rfl:i=ns:=by omega
 rw [List.drop_of_length_le (by omega)] at hfa
 rw [hfa,show fitsA g (h.last+1) []=(g,true) from rfl]
 refine zB (TS ?_)
 iterate 6 refine Lz ?_
 refine Ld (T.ret ?_)
 exact ⟨.inl rfl,_,_,res [_] rfl ⟨rvT rfl,trivial⟩,⟨rfl,rfl⟩,Sa⟩
open Go.RowKit
theorem Mid.k {h g:HR} {D:List (Int×Int)} {N:List Ver} (d:Mid h g D N) {m:Nat} (s:HrS h m) (hp:h.pages<=4096) (hr:h.room<2^30) (hl:h.last<2^60) {x:Nat} (hx:m+D.length+N.length+1<=x) (hx2:x<2^32):HrK g x:=by
 obtain ⟨l,hl1,hl2⟩:=d.es
 refine ⟨⟨?_,?_,?_,?_⟩,hx2,d.r,by rw [d.pages];exact hp,by rw [d.room];exact hr,by rw [d.last];omega⟩
 . rw [d.vs,List.length_append,List.length_map];have:=s.v;omega
 . rw [d.act];show 1<=x;omega
 . rw [d.cm];have:=s.c;omega
 . rw [hl1,List.length_append];have:=s.e;omega
abbrev pt21R (p:Option Addr) (n c:Nat) (l:List PtM):Wp:=row (.slice p n c) 108 4 n (l.flatMap ptC)
abbrev srR (p:Option Addr) (n c:Nat) (l:List (List UInt8)):Wp:=row (.slice p n c) 9 1 n (l.map strW)
theorem Rx.elemS : ElemOk Tryz.prog 182 9 1 16 := .mk' (.string ⟨#[]⟩) Tryz.underlying182 (by kernel_rfl) rfl (by omega)
abbrev szL (R:List (List UInt8)):List Int:=R.map λ d=>(d.length:Int)
theorem Own.srNil {B:Wn} {w:World} {l:List Wp} (H:Own B w l):Own B w (srR none 0 0 []::zR none 0 0 (szL [])::l):=H.map λ _ K=>rowNilP (rowNilP K)
theorem sz_snoc (R:List (List UInt8)) (d:List UInt8):(szL R).map zV++[zV (d.length:Int)]=(szL (R++[d])).map zV:=by simp [szL]
theorem sr_snoc (R:List (List UInt8)) (d:List UInt8):R.map strW++[strW d]=(R++[d]).map strW:=by simp
theorem pt_cell {L:List PtM} {k:Nat} {y:PtM} (hy:L[k]? = some y) (f:Nat) {v:Value} (hv:(ptC y)[f]? = some v):(L.flatMap ptC)[0+k*4+f]? = some v:=by
 obtain ⟨h1,h2⟩:=List.getElem?_eq_some_iff.1 hy
 exact flat_cell ptC 4 L (λ _ _=>rfl) k f h1 (by rw [h2];exact hv)
theorem Hr.writeF (B:Wn) (q:HrQ) (h:HR) (m c rm:Nat) (kk:HrK h m) (si:SI h c rm) (hc:c<=4096) (hcl:h.cm.length<2^40) (hla:h.last<2^60) (stamp:Int)
  (pe:Option Addr) (en ce:Nat) (ended:List (Int×Int)) (hel:ended.length=en) (pa:Option Addr) (n ca:Nat) (PL:List PtM) (hpl:PL.length=n) (hpo : ∀ p∈PL,PtOk B [] p) (hm:m+en+n+2<2^29) (g:HR) (hg:(if codeS h stamp ended (ptsP PL)=0 then (writeS h stamp ended ((ptsP PL).map λ p=>recD p.1 p.2)).1 else h)=g) :
  Fn Tryz.prog B 25 #[hrV q h,.int .i64 stamp,.slice pe en ce,.slice pa n ca] (rdR pe en ce ended::pt21R pa n ca PL::hrL q h) (λ u l => ∃ q',u = .tuple #[hrV q' g,.int .i64 (codeS h stamp ended (ptsP PL))]/\l=hrL q' g):=by
 have hpg:h.pages<=4096:=kk.pages
 have hpsl:(ptsP PL).length=n:=by unfold ptsP;rw [List.length_map,hpl]
 refine Fn.enter4 126 Tryz.func25 rfl rfl (nB rfl) (λ F=>?_)
 try simp only [cA,nA]
 refine T.own λ w ho=>?_
 have hpe:0<en -> ∃ g,pe=some ⟨g,0,none⟩:=((ho.map Sa:Own B w [rdR pe en ce ended]).slice_at (p:=pe) (m:=en) (c:=ce)).2.1
 have hpa:0<n -> ∃ g,pa=some ⟨g,0,none⟩:=((ho.map Sa:Own B w [pt21R pa n ca PL]).slice_at (p:=pa) (m:=n) (c:=ca)).2.1
 clear ho
 refine T.conv (λ w ho=>ho.srNil) (TS ?_)
 refine Le (zL [_,_,_,_,_,_,_,_] rfl rfl ?_)
 intro g4
 refine Le (El [.int .i64 0,.int .i64 0,.int .i64 0,.slice none 0 0,.slice none 0 0,.slice none 0 0,.int .i64 0,.slice none 0 0] (by unfold Zf;kernel_rfl) ?_)
 intro g8
 refine La rfl (Ld (TS (La rfl (Ld (TS (La rfl (Ld (Ts (TS (La rfl (Ld (yH ?_))))))))))))
 refine zG (λ mz fz lz => ∃ (f0:Fr) (i:Nat) (R:List (List UInt8)) (pr:Option Addr) (cr:Nat) (pz:Option Addr) (cz:Nat),(i<=n/\R.length=i/\recsE ((ptsP PL).drop i)=recsE (ptsP PL)/\R=((ptsP PL).take i).map (λ p=>recD p.1 p.2)/\(∀ d∈R,d.length<=184))/\mz=n-i/\fz=(upd (upd (upd (upd (upd (upd (upd (upd f0 1 (.int .i64 stamp)) 2 (.slice pe en ce)) 3 (.slice pa n ca)) 4 (.pointer (some ⟨g4,0,none⟩))) 8 (.pointer (some ⟨g8,0,none⟩))) 10 (.slice pr i cr)) 11 (.slice pz i cz)) 12 (.int .i64 i))/\lz=srR pr i cr R::zR pz i cz (szL R)::blk g8 hr0 33::blk g4 (hrC q h) 33::rdR pe en ce ended::pt21R pa n ca PL::hrL q h++F) ?_ ?_
 . refine ⟨_,_,⟨_,0,[],none,0,none,0,⟨Nat.zero_le _,rfl,rfl,rfl,(λ x hx=>by cases hx)⟩,rfl,U8,rfl⟩,Sa⟩
 rintro mz fz lz ⟨f0,i,R,pr,cr,pz,cz,⟨hi,hRl,hrec,hRd,hRo⟩,hmz,rfl,rfl⟩
 subst mz
 try simp only [cA,nA]
 refine Ts (TS ?_)
 iterate 4 refine Lz ?_
 refine Ld ?_
 refine yN rfl (λ hlt=>?_) (λ hlt=>?_)
 .
  obtain ⟨ga,rfl⟩:=hpa (by omega)
  obtain ⟨y,hy⟩ : ∃ y,PL[i]? = some y:=⟨_,List.getElem?_eq_getElem (by omega)⟩
  have hyo:=hpo y (List.mem_of_getElem? hy)
  have hy2:(ptsP PL)[i]? = some (y.t,y.f):=by unfold ptsP;rw [List.getElem?_map,hy];rfl
  rw [drop_one hy2,recsE_cons] at hrec
  refine Tk (Ts (yH (Ts (T.draw 15 ([pt21R (some ⟨ga,0,none⟩) n ca PL]) (nB rfl) ?_))))
  refine Rz 0 ?_;refine Rz 1 ?_;refine Rz 2 ?_;refine Rz 3 ?_
  refine Rq 4 rfl Sa (Ql (v := .int .i64 y.t) rfl (pt_cell hy 0 rfl)) ?_
  refine Rz 5 ?_;refine Rz 6 ?_;refine Rz 7 ?_;refine Rz 8 ?_
  refine Rq 9 rfl Sa (QL [.slice y.ra y.f.row.length y.rc,.int .i64 y.f.fr,.int .i64 y.f.to] rfl ⟨pt_cell hy 1 rfl,pt_cell hy 2 rfl,pt_cell hy 3 rfl,trivial⟩) (yK 10 ?_)
  refine zY rfl (Ec (Rx.record B [] y.t y.f y.ra y.f.row.length y.rc rfl hyo.v hyo.f hyo.t) Tryz.func27 rfl rfl rfl ?_)
  rintro _ _ ⟨rfl,rfl⟩
  try simp only [cA,nA]
  by_cases hno:recE y.t y.f=0
  .
   have hxo:=recE_ok hyo.t.2 hyo.f.n hno
   have hlen:=hxo.len
   have hrD:recD y.t y.f=encL (valsF y.t y.f):=by unfold recD;rw [if_pos hno]
   rw [if_neg (by simp [hno])] at hrec
   obtain ⟨d,hd⟩ : ∃ d,recD y.t y.f=d:=⟨_,rfl⟩
   rw [hd]
   have hdl:d.length<=184:=by rw [<-hd,hrD];exact hlen
   refine Rz 11 ?_;refine Rz 12 ?_;refine Rz 13 ?_;refine Rz 14 ?_
   refine Rd0 (by rfl) ?_
   simp only [dS,dZ,dN]
   refine La rfl (Ld (Ts (TS (Lm rfl (Lq (yW rfl rfl) (Ld (yL rfl (Tk (TS (Lm rfl (Lm rfl ?_)))))))))))
   refine Le (zK [_] (e:=9) (sz:=1) ⟨.string .empty,by kernel_rfl,rfl⟩ rfl rfl rfl ?_)
   intro g45
   refine Le (Ea Rx.elemS rfl rfl (SrcOf.blk (by kernel_rfl) rfl (by simp [Value.oneCell'])) (by unfold maxLen;omega) ?_)
   rintro p4 c4 hp4
   rw [sr_snoc]
   refine La rfl (Ld (TR ?_))
   iterate 3 refine Lz ?_
   refine Le (zK [_] (e:=3) (sz:=1) ⟨.int .i64 0,by kernel_rfl,rfl⟩ rfl rfl rfl ?_)
   intro g50
   refine Le (Ea Hp.elemI rfl rfl (SrcOf.blk (by kernel_rfl) rfl (by simp [Value.oneCell'])) (by unfold maxLen;omega) ?_)
   rintro p5 c5 hp5
   rw [sz_snoc]
   refine La rfl (Ld (TR ?_))
   iterate 3 refine Lz ?_
   refine Ld ?_
   refine ⟨_,?_,_,⟨_,i+1,R++[d],p4,c4,p5,c5,⟨by omega,by simp [hRl],hrec,by rw [take_snoc hy2,List.map_append,<-hRd,<-hd];rfl,λ x hx=>by rcases List.mem_append.1 hx with z | z;exact hRo x z;rw [List.mem_singleton.1 z];exact hdl⟩,rfl,U8,rfl⟩,Sa⟩
   omega
  rw [if_pos hno] at hrec
  have hcode:=code_rec (h:=h) (stamp:=stamp) (ended:=ended) (ps:=ptsP PL) (by rw [<-hrec];exact hno)
  rw [if_neg (by rw [hcode,<-hrec];exact hno)] at hg
  subst hg
  refine Rz 11 ?_;refine Rz 12 ?_;refine Rz 13 ?_;refine Rz 14 ?_
  refine Rd0 (by rfl) ?_
  simp only [dS,dZ,dN]
  refine La rfl (Ld (Ts (TS (Lm rfl (Lq (yW rfl rfl) (Ld (zM rfl (TS ?_))))))))
  iterate 2 refine Lz ?_
  refine L0 (Es [_,_,_,_,_,_,_,_] rfl rfl rfl rfl (by simp) ?_)
  try simp only [splice,lC,lN,dS,cA,tS,tZ,dZ,nA,aN]
  refine La rfl (Ld (T.ret ?_))
  exact ⟨.inl rfl,_,_,res [_,_] rfl ⟨rvA [_,_,_,_,_,_,_,_] rfl ⟨rfl,rfl,rfl,rfl,rfl,rfl,rfl,rfl,trivial⟩,rvT rfl,trivial⟩,⟨q,by rw [hcode,<-hrec];rfl,rfl⟩,Sa⟩
 obtain rfl:i=n:=by omega
 rw [List.drop_of_length_le (by omega)] at hrec
 rw [List.take_of_length_le (by omega)] at hRd
 have hrec:recsE (ptsP PL)=0:=hrec.symm
 have hDs:=recs_ds hpo hrec
 have hzs:(ptsP PL).map (λ p=>((recD p.1 p.2).length:Int))=szL R:=by rw [hRd];unfold szL;simp only [List.map_map];rfl
 rw [<-hRd] at hDs hg
 refine zB (Ts (TS ?_))
 iterate 2 refine Lz ?_
 refine Le (Ec (Hr.lastF B q h hcl) Tryz.func12 rfl rfl rfl ?_)
 rintro _ _ ⟨rfl,rfl⟩
 try simp only [cA,nA]
 refine Lq (YF rfl rfl) (Lm rfl ?_)
 refine zZ (t:=56) rfl (λ g1=>?_) (λ g1=>?_)
 .
  try replace g1:=of_decide_eq_true g1
  iterate 3 refine Lz ?_
  refine Ld (zF rfl ?_)
  have hcode:=code_range (h:=h) (stamp:=stamp) (ended:=ended) hrec (.inl g1)
  rw [if_neg (by rw [hcode];decide)] at hg
  subst hg
  refine TS ?_
  refine Lz ?_
  refine L0 (Es [_,_,_,_,_,_,_,_] rfl rfl rfl rfl (by simp) ?_)
  try simp only [splice,lC,lN,dS,cA,tS,tZ,dZ,nA,aN]
  refine La rfl (Ld (T.ret ?_))
  exact ⟨.inl rfl,_,_,res [_,_] rfl ⟨rvA [_,_,_,_,_,_,_,_] rfl ⟨rfl,rfl,rfl,rfl,rfl,rfl,rfl,rfl,trivial⟩,rvT rfl,trivial⟩,⟨q,by rw [hcode];rfl,rfl⟩,Sa⟩
 try replace g1:=of_decide_eq_false g1
 iterate 3 refine Lz ?_
 refine Ld ?_
 refine yN rfl (λ g2=>?_) (λ g2=>?_)
 .
  have hcode:=code_range (h:=h) (stamp:=stamp) (ended:=ended) hrec (.inr g2)
  rw [if_neg (by rw [hcode];decide)] at hg
  subst hg
  refine TS ?_
  refine Lz ?_
  refine L0 (Es [_,_,_,_,_,_,_,_] rfl rfl rfl rfl (by simp) ?_)
  try simp only [splice,lC,lN,dS,cA,tS,tZ,dZ,nA,aN]
  refine La rfl (Ld (T.ret ?_))
  exact ⟨.inl rfl,_,_,res [_,_] rfl ⟨rvA [_,_,_,_,_,_,_,_] rfl ⟨rfl,rfl,rfl,rfl,rfl,rfl,rfl,rfl,trivial⟩,rvT rfl,trivial⟩,⟨q,by rw [hcode];rfl,rfl⟩,Sa⟩
 refine Tk (Ts (TS ?_))
 iterate 2 refine Lz ?_
 refine Le (Ec (Hr.ends B q h m c rm kk si hc hcl pe en ce ended hel (by omega)) Tryz.func61 rfl rfl rfl ?_)
 rintro _ _ ⟨rfl,rfl⟩
 try simp only [cA,nA]
 by_cases he:endsG h [] ended=true
 .
  rw [he]
  refine Lq (Y2 rfl) (Ld (yQ rfl (Tk (Ts (TS ?_)))))
  iterate 4 refine Lz ?_
  refine Le (Ec (Hr.fitsG B q h m kk en (by omega) pz i cz (szL R) (by simp [szL,hRl]) (by omega)) Tryz.func62 rfl rfl rfl ?_)
  rintro _ _ ⟨rfl,rfl⟩
  try simp only [cA,nA]
  by_cases hf:fitsR h en (szL R)=true
  .
   rw [hf]
   refine Lq (Y2 rfl) (Ld (yQ rfl ?_))
   have hcode:=code_ok (h:=h) (stamp:=stamp) (ended:=ended) hrec (by omega) he (by rw [hzs,hel];exact hf)
   rw [if_pos hcode] at hg
   obtain ⟨f1,f2,f3⟩:=(fitsR_iff si.r _ _).1 hf
   have f4:=fits_left f3
   refine Tk (TS ?_)
   refine Lz ?_
   refine Le (Ec (Hr.begin B q h m kk.s kk.m (by have:=si.r.last0;omega)) Tryz.func63 rfl rfl rfl ?_)
   rintro _ _ ⟨q1,rfl,rfl⟩
   try simp only [cA,nA]
   iterate 3 refine Lz ?_
   refine Le (El [.int .i64 0,.int .i64 0,.int .i64 0,.slice none 0 0,.slice none 0 0,.slice none 0 0,.int .i64 0,.slice none 0 0] (by unfold Zf;kernel_rfl) ?_)
   intro g15
   refine L0 (Es [_,_,_,_,_,_,_,_] rfl rfl rfl rfl (by simp) ?_)
   try simp only [splice,lC,lN,dS,cA,tS,tZ,dZ,nA,aN]
   refine La rfl (Ld (Ts (TS (La rfl (Ld (yH ?_))))))
   refine zG (λ mz fz lz => ∃ (f0:Fr) (j:Nat) (g2:HR) (q2:HrQ),(j<=en/\Mid h g2 (ended.take j) []/\endsG h (ended.take j) (ended.drop j)=true/\g2.used=h.used+20*j/\roomsL g2=roomsL h/\g2=endAll (h.last+1) (beginR h) (ended.take j))/\mz=en-j/\fz=(upd (upd (upd (upd (upd (upd (upd f0 1 (.int .i64 stamp)) 2 (.slice pe en ce)) 8 (.pointer (some ⟨g8,0,none⟩))) 10 (.slice pr i cr)) 15 (.pointer (some ⟨g15,0,none⟩))) 16 (.int .i64 (h.last+1))) 17 (.int .i64 j))/\lz=blk g15 (hrC q2 g2) 33::hrL q2 g2++(srR pr i cr R::blk g8 hr0 33::rdR pe en ce ended::F)) ?_ ?_
   . refine ⟨_,_,⟨_,0,beginR h,q1,⟨Nat.zero_le _,Mid.begin si.r si.act,he,by show h.used=_;omega,rfl,rfl⟩,rfl,U7,rfl⟩,Sa⟩
   rintro mz fz lz ⟨f0,j,g2,q2,⟨hj,hmid,heG,hus,hro,hge⟩,hmz,rfl,rfl⟩
   subst mz
   try simp only [cA,nA]
   have hkj:=hmid.k kk.s hpg kk.room hla (x:=m+en+i+1) (by simp;omega) (by omega)
   refine Ts (TS ?_)
   iterate 4 refine Lz ?_
   refine Ld ?_
   refine yN rfl (λ hlt2=>?_) (λ hlt2=>?_)
   .
    obtain ⟨ge,rfl⟩:=hpe (by omega)
    obtain ⟨p,hp⟩ : ∃ p,ended[j]? = some p:=⟨_,List.getElem?_eq_getElem (by omega)⟩
    rw [drop_one hp,endsG_cons] at heG
    simp only [Bool.and_eq_true,Bool.not_eq_true'] at heG
    obtain ⟨⟨e1,e2⟩,e3⟩:=heG
    obtain ⟨a1,a2,a3,a4⟩:=hmid.end_ si hpg (by omega) e1 e2 (by rw [hmid.room];omega)
    refine Tk (Ts (yH (T.draw 17 ([rdR (some ⟨ge,0,none⟩) en ce ended]) (nB rfl) ?_)))
    refine Rz 1 ?_;refine Rz 2 ?_;refine Rz 3 ?_;refine Rz 4 ?_;refine Rz 5 ?_
    refine Rq 6 rfl Sa (Ql (v := .int .i64 p.1) rfl (rd_cell hp 0 rfl)) ?_
    refine Rz 7 ?_;refine Rz 8 ?_;refine Rz 9 ?_;refine Rz 10 ?_
    refine Rq 11 rfl Sa (Ql (v := .int .i64 p.2) rfl (rd_cell hp 1 rfl)) (yK 0 ?_)
    refine z6 rfl (YL (QL [_,_,_,_,_,_,_,_] rfl ⟨rfl,rfl,rfl,rfl,rfl,rfl,rfl,rfl,trivial⟩) ?_)
    refine ⟨Sa,?_⟩
    refine yK 12 ?_
    refine z6 rfl (Ec (Hr.end_ B q2 g2 (m+en+i+1) hkj (h.last+1) p.1 p.2) Tryz.func64 rfl rfl rfl ?_)
    rintro _ _ ⟨q3,rfl,rfl⟩
    try simp only [cA,nA]
    refine ⟨Sa,?_⟩
    refine Rz 13 ?_;refine Rz 14 ?_;refine Rz 15 ?_
    refine yK 16 ?_
    refine YH rfl (Es [_,_,_,_,_,_,_,_] rfl rfl rfl rfl (by simp) ?_)
    try simp only [splice,lC,lN,dS,cA,tS,tZ,dZ,nA,aN]
    refine ⟨Sa,?_⟩
    refine Rd0 (by rfl) ?_
    simp only [dS,dZ,dN]
    refine Ld (TR ?_)
    iterate 3 refine Lz ?_
    refine Ld ?_
    refine ⟨_,?_,_,⟨_,j+1,(endR g2 (h.last+1) p.1 p.2).1,q3,⟨by omega,by rw [take_snoc hp];exact a2,by rw [take_snoc hp];exact e3,by rw [a3];omega,by rw [a4,hro],by rw [take_snoc hp,endAll_snoc,<-hge]⟩,rfl,U7,rfl⟩,Sa⟩
    omega
   obtain rfl:j=en:=by omega
   rw [List.take_of_length_le (by omega)] at hmid hge
   have hfp:fitsP (roomsL g2) (g2.room-g2.used-25) (szL R)=true:=by rw [hro,hmid.room,hus,show (h.room:Int)-(h.used+20*(j:Int))-25=h.room-h.used-25-20*(j:Int) by omega];exact f3
   refine T.own λ w ho=>?_
   have hpr:0<i -> ∃ g,pr=some ⟨g,0,none⟩:=((ho.map Sa:Own B w [srR pr i cr R]).slice_at (p:=pr) (m:=i) (c:=cr)).2.1
   clear ho
   refine zB (Ts (TS (La rfl (Ld (yH ?_)))))
   refine zG (λ mz fz lz => ∃ (f0:Fr) (k:Nat) (g3:HR) (q3:HrQ) (N:List Ver),(k<=i/\Mid h g3 ended N/\N.length=k/\fitsP (roomsL g3) (g3.room-g3.used-25) (szL (R.drop k))=true/\g3=addAll (h.last+1) g2 (R.take k))/\mz=i-k/\fz=(upd (upd (upd (upd (upd (upd f0 1 (.int .i64 stamp)) 8 (.pointer (some ⟨g8,0,none⟩))) 10 (.slice pr i cr)) 15 (.pointer (some ⟨g15,0,none⟩))) 16 (.int .i64 (h.last+1))) 18 (.int .i64 k))/\lz=blk g15 (hrC q3 g3) 33::hrL q3 g3++(srR pr i cr R::blk g8 hr0 33::F)) ?_ ?_
   . refine ⟨_,_,⟨_,0,g2,q2,[],⟨Nat.zero_le _,hmid,rfl,hfp,rfl⟩,rfl,U6,rfl⟩,Sa⟩
   rintro mz fz lz ⟨f0,k,g3,q3,N,⟨hk,hmi,hNl,hfk,hga⟩,hmz,rfl,rfl⟩
   subst mz
   try simp only [cA,nA]
   have hkk:=hmi.k kk.s hpg kk.room hla (x:=m+j+i+1) (by omega) (by omega)
   refine Ts (TS ?_)
   iterate 4 refine Lz ?_
   refine Ld ?_
   refine yN rfl (λ hlt3=>?_) (λ hlt3=>?_)
   .
    obtain ⟨gr,rfl⟩:=hpr (by omega)
    obtain ⟨d,hd⟩ : ∃ d,R[k]? = some d:=⟨_,List.getElem?_eq_getElem (by omega)⟩
    have hdl:=hRo d (List.mem_of_getElem? hd)
    obtain ⟨hkl,hke⟩:=List.getElem?_eq_some_iff.1 hd
    have hsd:szL (R.drop k)=(d.length:Int)::szL (R.drop (k+1)):=by rw [drop_one hd];rfl
    rw [hsd] at hfk
    obtain ⟨v,v1,v2,v3,a1,a2,a3⟩:=hmi.add hpg (by omega) hfk
    refine Tk (Ts (yH (T.draw 13 ([srR (some ⟨gr,0,none⟩) i cr R]) (nB rfl) ?_)))
    refine Rz 1 ?_;refine Rz 2 ?_;refine Rz 3 ?_;refine Rz 4 ?_
    refine Rq 5 rfl Sa (Ql (v:=strW d) rfl (by rw [<-hke];exact map_at _ _ _ hkl)) (yK 0 ?_)
    refine z6 rfl (YL (QL [_,_,_,_,_,_,_,_] rfl ⟨rfl,rfl,rfl,rfl,rfl,rfl,rfl,rfl,trivial⟩) ?_)
    refine ⟨Sa,?_⟩
    refine yK 6 ?_
    refine z6 rfl (Ec (Hr.add B q3 g3 (m+j+i+1) hkk.w (h.last+1) d (by omega)) Tryz.func65 rfl rfl rfl ?_)
    rintro _ _ ⟨q4,rfl,rfl⟩
    try simp only [cA,nA]
    refine ⟨Sa,?_⟩
    refine Rz 7 ?_;refine Rz 8 ?_;refine Rz 9 ?_;refine Rz 10 ?_;refine Rz 11 ?_
    refine yK 12 ?_
    refine YH rfl (Es [_,_,_,_,_,_,_,_] rfl rfl rfl rfl (by simp) ?_)
    try simp only [splice,lC,lN,dS,cA,tS,tZ,dZ,nA,aN]
    refine ⟨Sa,?_⟩
    refine Rd0 (by rfl) ?_
    simp only [dS,dZ,dN]
    refine Ld (TR ?_)
    iterate 3 refine Lz ?_
    refine Ld ?_
    refine ⟨_,?_,_,⟨_,k+1,(Wm g3 (h.last+1) d).1,q4,N++[v],⟨by omega,a2,by simp [hNl],a3,by rw [take_snoc hd,addAll_snoc,<-hga]⟩,rfl,U6,rfl⟩,Sa⟩
    omega
   obtain rfl:k=i:=by omega
   rw [List.take_of_length_le (by omega)] at hga
   have hgw:(Zl g3 (h.last+1) stamp).1=g:=by rw [<-hg,hga,hge];rfl
   refine zB (TS ?_)
   iterate 3 refine Lz ?_
   refine Le (Ec (Hr.commit B q3 g3 (m+j+k+1) hkk (h.last+1) stamp) Tryz.func66 rfl rfl rfl ?_)
   rintro _ _ ⟨q4,rfl,rfl⟩
   try simp only [cA,nA]
   rw [hgw]
   iterate 3 refine Lz ?_
   refine L0 (Es [_,_,_,_,_,_,_,_] rfl rfl rfl rfl (by simp) ?_)
   try simp only [splice,lC,lN,dS,cA,tS,tZ,dZ,nA,aN]
   refine Ld (TS ?_)
   refine Lz ?_
   refine L0 (Es [_,_,_,_,_,_,_,_] rfl rfl rfl rfl (by simp) ?_)
   try simp only [splice,lC,lN,dS,cA,tS,tZ,dZ,nA,aN]
   refine La rfl (Ld (T.ret ?_))
   exact ⟨.inl rfl,_,_,res [_,_] rfl ⟨rvA [_,_,_,_,_,_,_,_] rfl ⟨rfl,rfl,rfl,rfl,rfl,rfl,rfl,rfl,trivial⟩,rvT rfl,trivial⟩,⟨q4,by rw [hcode];rfl,rfl⟩,Sa⟩
  rw [Bool.not_eq_true] at hf
  rw [hf]
  refine Lq (Y2 rfl) (Ld (zF rfl ?_))
  have hcode:=code_full (h:=h) (stamp:=stamp) (ended:=ended) hrec (by omega) he (by rw [hzs,hel];exact hf)
  rw [if_neg (by rw [hcode];decide)] at hg
  subst hg
  refine TS ?_
  refine Lz ?_
  refine L0 (Es [_,_,_,_,_,_,_,_] rfl rfl rfl rfl (by simp) ?_)
  try simp only [splice,lC,lN,dS,cA,tS,tZ,dZ,nA,aN]
  refine La rfl (Ld (T.ret ?_))
  exact ⟨.inl rfl,_,_,res [_,_] rfl ⟨rvA [_,_,_,_,_,_,_,_] rfl ⟨rfl,rfl,rfl,rfl,rfl,rfl,rfl,rfl,trivial⟩,rvT rfl,trivial⟩,⟨q,by rw [hcode];rfl,rfl⟩,Sa⟩
 rw [Bool.not_eq_true] at he
 rw [he]
 refine Lq (Y2 rfl) (Ld (zF rfl ?_))
 have hcode:=code_miss (h:=h) (stamp:=stamp) (ended:=ended) hrec (by omega) he
 rw [if_neg (by rw [hcode];decide)] at hg
 subst hg
 refine TS ?_
 refine Lz ?_
 refine L0 (Es [_,_,_,_,_,_,_,_] rfl rfl rfl rfl (by simp) ?_)
 try simp only [splice,lC,lN,dS,cA,tS,tZ,dZ,nA,aN]
 refine La rfl (Ld (T.ret ?_))
 exact ⟨.inl rfl,_,_,res [_,_] rfl ⟨rvA [_,_,_,_,_,_,_,_] rfl ⟨rfl,rfl,rfl,rfl,rfl,rfl,rfl,rfl,trivial⟩,rvT rfl,trivial⟩,⟨q,by rw [hcode];rfl,rfl⟩,Sa⟩
open Go.RowKit
theorem flat_lenX (l:List Vx):(l.flatMap vxC).length=l.length*3:=by
 induction l with
 | nil=>rfl
 | cons a l ih=>rw [List.flatMap_cons,List.length_append,ih,List.length_cons];simp;omega
theorem FlV.itA {B:Wn} {x:ItM} (hc:3+x.it.f.row.length<=x.c):FlV B [itA x] vxC (.slice (offA (some ⟨x.g,0,none⟩) x.c 3 3) x.it.f.row.length (x.c-3)) x.it.f.row:=by
  by_cases n0:x.it.f.row=[]
  . exact ⟨_,_,rfl,.inl n0⟩
  . have hp:=List.length_pos_iff.2 n0
    refine ⟨_,_,rfl,.inr ⟨x.g,0+3*3,offA_some,λ w ho=>?_⟩⟩
    have h0:FlV B [Go.Proofs.YtkfmfoecplbclaaGreatDoor.itA x] vxC (.slice (some ⟨x.g,0,none⟩) (3+x.it.f.row.length) x.c) (valsF x.it.t x.it.f):=FlV.row (l:=[]) (λ _=>rfl) (by omega) vals_len (λ _=>⟨_,rfl⟩)
    obtain ⟨a',k,e,h | ⟨b,o,e1,hr⟩⟩:=h0
    . have:=congrArg List.length h;rw [vals_len] at this;simp at this
    . injection e with e2 _ _
      rw [e1] at e2
      injection e2 with e2
      injection e2 with e3 e4
      subst e3;subst e4
      refine rangeAt_part (3*3) (hr w ho) λ j v hv=>?_
      show ((headX x.it.t x.it.f.fr x.it.f.to++x.it.f.row).flatMap vxC)[3*3+j]? = some v
      rw [List.flatMap_append,List.getElem?_append_right (by rw [flat_lenX];simp [headX]),flat_lenX]
      rw [show 3*3+j-(headX x.it.t x.it.f.fr x.it.f.to).length*3=j by simp [headX]]
      exact hv
open Go.RowKit
theorem SI.es_len {h:HR} {c rm:Nat} (s:SI h c rm):h.es.length<=rm:=by
 have h1:=s.r.ok.used
 have h2:=s.r.ok.le
 rw [s.room] at h2
 have h3 : ∀ l:List En,l.length<=(l.map enSz).sum:=by
  intro l
  induction l with
  | nil=>exact Nat.zero_le _
  | cons a l ih =>
   have:1<=enSz a:=by unfold enSz;omega
   simp only [List.length_cons,List.map_cons,List.sum_cons];omega
 have:=h3 h.es
 omega
structure SeM where
 L:List ItM
 p:Option Addr
 c:Nat
def SeenOk (h:HR) (table:Int) (ST:List Int) (SE:List SeM):Prop:=ST.length=SE.length /\ ∀ (i:Nat) (a:Int) (x:SeM),ST[i]? = some a->SE[i]? = some x->a<=lastS h/\(x.L.map (·.it)).map keyI=(seeR h table a).map keyI /\ ∀ y∈x.L,y.it.til=0
theorem SeenOk.keep {h g:HR} {table:Int} {ST:List Int} {SE:List SeM} (s:SeenOk h table ST SE) (hl:lastS h<=lastS g) (hk : ∀ a,a<=lastS h->(seeR g table a).map keyI=(seeR h table a).map keyI):SeenOk g table ST SE :=
 ⟨s.1,λ i a x h1 h2=>by
  obtain ⟨k1,k2,k3⟩:=s.2 i a x h1 h2
  exact ⟨Int.le_trans k1 hl,by rw [hk a k1];exact k2,k3⟩⟩
open Go.RowKit
theorem row_len {h:HR} {c rm:Nat} (s:SI h c rm) {table:Int} {i:It} (hi:i∈histR h table):i.f.row.length<=184:=by
 obtain ⟨v,hv,rfl⟩:=hist_mem hi
 obtain ⟨t,f,hx,hd⟩:=s.rc v (s.mem.1 hv)
 rw [itemR_rec hx hd]
 have h1:=(encL_len hx.vals).1
 have h2:=hx.len
 have h3:=vals_len (t:=t) (f:=f)
 show f.row.length<=184
 omega
theorem see_hist {h:HR} {table at_:Int} {i:It} (hi:i∈seeR h table at_):i∈histR h table:=(List.mem_filter.1 hi).1
theorem see_len30 {h:HR} {c rm:Nat} (s:SI h c rm) (hc:c<=4096) (table at_:Int):(seeR h table at_).length<2^30:=Nat.lt_of_le_of_lt (List.length_filter_le _ _) (hist_len s hc table)
open Go.RowKit
theorem eqPd (a b c d:Int):EqSt Tryz.prog 59 #[.int .i64 a,.int .i64 b] #[.int .i64 c,.int .i64 d] (decide (a=c/\b=d)):=by
  refine EqSt.mk' (by kernel_rfl) Tryz.underlying59 (by kernel_rfl) λ d0 w=>?_
  refine Eq.trans (eqF_int w (a:=a) (b:=c) rfl Tryz.underlying2 rfl rfl) ?_
  by_cases h:a=c
  . rw [if_pos h]
    refine Eq.trans (eqF_int w (a:=b) (b:=d) rfl Tryz.underlying2 rfl rfl) ?_
    by_cases h2:b=d
    . rw [if_pos h2,eqF_nil];simp [h,h2]
    . rw [if_neg h2];simp [h2]
  . rw [if_neg h];simp [h]
theorem Sx.items (B:Wn) (L M:List ItM) (n:Nat) (pa pb:Option Addr) (ca cb:Nat) (hLM:L.map (·.it)=M.map (·.it)) (hL:L.length=n) (hM:M.length=n) (hr : ∀ x∈L,x.it.f.row.length<=184) (hb:n<2^30) :
  Fn Tryz.prog B 13 #[.slice pa n ca,.slice pb n cb] [itR pa n ca L,itsA L,jtR pb n cb M,itsA M] (λ u l=>u = .bool true/\l=[]):=by
 refine Wr 74 Tryz.func13 rfl rfl (nB rfl) (λ F=>?_)
 try simp only [cA,nA]
 refine T.own λ w ho=>?_
 have hpa:0<n -> ∃ g,pa=some ⟨g,0,none⟩:=((ho.map Sa:Own B w [itR pa n ca L]).slice_at (p:=pa) (m:=n) (c:=ca)).2.1
 have hpb:0<n -> ∃ g,pb=some ⟨g,0,none⟩:=((ho.map Sa:Own B w [jtR pb n cb M]).slice_at (p:=pb) (m:=n) (c:=cb)).2.1
 clear ho
 refine TS (La rfl (Ld (Ts (TS ?_))))
 iterate 5 refine Lz ?_
 refine Ld (yL rfl (Tk (Ts (TS ?_))))
 iterate 3 refine Lz ?_
 refine Ld (yH ?_)
 refine zG (λ mz fz lz => ∃ (f0:Fr) (k:Nat) (Y1 Y2:List ItM),(k<=n/\Y1=L.drop k/\Y2=M.drop k)/\mz=n-k/\fz=(upd (upd (upd (upd f0 0 (.slice pa n ca)) 1 (.slice pb n cb)) 14 (.int .i64 n)) 15 (.int .i64 k))/\lz=itsA Y1::itsA Y2::itR pa n ca L::jtR pb n cb M::F) ?_ ?_
 . refine ⟨_,_,⟨_,0,L,M,⟨Nat.zero_le _,rfl,rfl⟩,rfl,U4,rfl⟩,Sa⟩
 rintro mz fz lz ⟨f0,k,Y1,Y2,⟨hk,hY1,hY2⟩,hmz,rfl,rfl⟩
 subst mz
 refine TS (Lq (yM rfl rfl) (Ld (Ts ?_)))
 refine yN rfl (λ hlt=>?_) (λ hlt=>?_)
 .
  subst hY1
  subst hY2
  obtain ⟨g1,rfl⟩:=hpa (by omega)
  obtain ⟨g2,rfl⟩:=hpb (by omega)
  obtain ⟨y,hy⟩ : ∃ y,L[k]? = some y:=⟨_,List.getElem?_eq_getElem (by omega)⟩
  obtain ⟨⟨zi,gz,cz⟩,hz⟩ : ∃ z,M[k]? = some z:=⟨_,List.getElem?_eq_getElem (by omega)⟩
  have hyz:zi=y.it:=by have:=congrArg (·[k]?) hLM;simp only [List.getElem?_map,hy,hz,Option.map_some] at this;injection this with this;exact this.symm
  subst hyz
  have hyr:=hr y (List.mem_of_getElem? hy)
  have hil:=(List.getElem?_eq_some_iff.1 hy).1
  have hzl:=(List.getElem?_eq_some_iff.1 hz).1
  refine T.conv (l':=itA y::itA ⟨y.it,gz,cz⟩::itsA (L.drop (k+1))::itsA (M.drop (k+1))::itR (some ⟨g1,0,none⟩) n ca L::jtR (some ⟨g2,0,none⟩) n cb M::F) (λ w ho=>((((ho.map λ _ q=>q.its_pop hy).map Sa:Own B w (itsA (M.drop k)::itA y::itsA (L.drop (k+1))::itR (some ⟨g1,0,none⟩) n ca L::jtR (some ⟨g2,0,none⟩) n cb M::F)).map λ _ q=>q.its_pop hz).map Sa)) (T.own λ w ho=>?_)
  have hcy:=(ho.map Sa:Own B w [itA y]).cap_at (p:=some ⟨y.g,0,none⟩) (m:=3+y.it.f.row.length) (c:=y.c)
  have hcz:=(ho.map Sa:Own B w [itA ⟨y.it,gz,cz⟩]).cap_at (p:=some ⟨gz,0,none⟩) (m:=3+y.it.f.row.length) (c:=cz)
  clear ho
  have hfy:=FlV.itA (B:=B) hcy
  have hfz:=FlV.itA (B:=B) (x:=⟨y.it,gz,cz⟩) hcz
  refine Tk (Ts (yH (TS (Lm rfl (La rfl (Ld (Ts (T.draw 11 ([itR (some ⟨g1,0,none⟩) n ca L,jtR (some ⟨g2,0,none⟩) n cb M]) (nB rfl) ?_))))))))
  refine Rz 0 ?_;refine Rz 1 ?_;refine Rz 2 ?_
  refine Rq 3 rfl Sa (QL (itC y) rfl (by rw [show itC y=itC (L[k]'hil) by rw [(List.getElem?_eq_some_iff.1 hy).2]];exact rdl_flat _ _ _ (by intros;rfl) _ (by omega))) ?_
  refine Rz 4 ?_;refine Rz 5 ?_;refine Rz 6 ?_
  refine Rq 7 rfl Sa (QL (jtC ⟨y.it,gz,cz⟩) rfl (by rw [show jtC ⟨y.it,gz,cz⟩=jtC (M[k]'hzl) by rw [(List.getElem?_eq_some_iff.1 hz).2]];exact rdl_flat _ _ _ (by intros;rfl) _ (by omega))) ?_
  refine YC [8,9] (List.forall_mem_cons.2 ⟨?_,List.forall_mem_cons.2 ⟨?_,List.forall_mem_nil _⟩⟩)
  .
   refine z6 rfl (El [.int .i64 0,.int .i64 0,.slice none 0 0,.int .i64 0,.int .i64 0,.int .i64 0,.int .i64 0] (by unfold Zf;kernel_rfl) ?_)
   intro g6
   refine ⟨Sa,?_⟩
   refine yK 9 ?_
   refine z6 rfl (El [.int .i64 0,.int .i64 0,.int .i64 0,.slice none 0 0,.int .i64 0,.int .i64 0,.int .i64 0,.int .i64 0] (by unfold Zf;kernel_rfl) ?_)
   intro g7
   refine ⟨Sa,?_⟩
   refine yK 10 ?_
   refine YH rfl (Es [_,_,_,_,_,_,_] rfl rfl rfl rfl (by simp) ?_)
   try simp only [splice,lC,lN,dS,cA,tS,tZ,dZ,nA,aN]
   refine ⟨Sa,?_⟩
   refine Rd0 (by rfl) ?_
   simp only [dS,dZ,dN]
   refine L0 (Es [_,_,_,_,_,_,_,_] rfl rfl rfl rfl (by simp) ?_)
   try simp only [splice,lC,lN,dS,cA,tS,tZ,dZ,nA,aN]
   refine Ld (TS ?_)
   iterate 7 refine Lz ?_
   refine yT (t:=32) rfl (decide_eq_false (by omega)) ?_
   iterate 8 refine Lz ?_
   refine yT (t:=40) rfl (decide_eq_false (by omega)) ?_
   iterate 7 refine Lz ?_
   refine yT (t:=47) rfl (decide_eq_false (by omega)) ?_
   iterate 7 refine Lz ?_
   refine yT (t:=54) rfl (decide_eq_false ((by simp))) ?_
   iterate 6 refine Lz ?_
   refine Lq (YV (eqPd y.it.f.fr y.it.f.to y.it.f.fr y.it.f.to) rfl rfl) (Lq (Qp rfl rfl) (Lm rfl (yT (t:=63) rfl ((by simp)) ?_)))
   iterate 6 refine Lz ?_
   refine Le (Ec (Rx.same B [itA y,itA ⟨y.it,gz,cz⟩] y.it.f.row (offA (some ⟨y.g,0,none⟩) y.c 3 3) (offA (some ⟨gz,0,none⟩) cz 3 3) y.it.f.row.length (y.c-3) (cz-3) rfl (by omega) (hfy.mono (λ w ho=>ho.map Sa)) (hfz.mono (λ w ho=>ho.map Sa))) Tryz.func30 rfl rfl rfl ?_)
   rintro _ _ ⟨rfl,rfl⟩
   try simp only [cA,nA]
   refine Lq (Y2 rfl) (Lq (Qp rfl rfl) (Ld (yQ rfl (Tk (TR ?_)))))
   iterate 2 refine Lz ?_
   refine Ld ?_
   refine ⟨_,?_,_,⟨_,k+1,L.drop (k+1),M.drop (k+1),⟨by omega,rfl,rfl⟩,rfl,U4,rfl⟩,Sa⟩
   omega
  refine z6 rfl (El [.int .i64 0,.int .i64 0,.int .i64 0,.slice none 0 0,.int .i64 0,.int .i64 0,.int .i64 0,.int .i64 0] (by unfold Zf;kernel_rfl) ?_)
  intro g7
  refine ⟨Sa,?_⟩
  refine yK 8 ?_
  refine z6 rfl (El [.int .i64 0,.int .i64 0,.slice none 0 0,.int .i64 0,.int .i64 0,.int .i64 0,.int .i64 0] (by unfold Zf;kernel_rfl) ?_)
  intro g6
  refine ⟨Sa,?_⟩
  refine yK 10 ?_
  refine YH rfl (Es [_,_,_,_,_,_,_] rfl rfl rfl rfl (by simp) ?_)
  try simp only [splice,lC,lN,dS,cA,tS,tZ,dZ,nA,aN]
  refine ⟨Sa,?_⟩
  refine Rd0 (by rfl) ?_
  simp only [dS,dZ,dN]
  refine L0 (Es [_,_,_,_,_,_,_,_] rfl rfl rfl rfl (by simp) ?_)
  try simp only [splice,lC,lN,dS,cA,tS,tZ,dZ,nA,aN]
  refine Ld (TS ?_)
  iterate 7 refine Lz ?_
  refine yT (t:=32) rfl (decide_eq_false (by omega)) ?_
  iterate 8 refine Lz ?_
  refine yT (t:=40) rfl (decide_eq_false (by omega)) ?_
  iterate 7 refine Lz ?_
  refine yT (t:=47) rfl (decide_eq_false (by omega)) ?_
  iterate 7 refine Lz ?_
  refine yT (t:=54) rfl (decide_eq_false ((by simp))) ?_
  iterate 6 refine Lz ?_
  refine Lq (YV (eqPd y.it.f.fr y.it.f.to y.it.f.fr y.it.f.to) rfl rfl) (Lq (Qp rfl rfl) (Lm rfl (yT (t:=63) rfl ((by simp)) ?_)))
  iterate 6 refine Lz ?_
  refine Le (Ec (Rx.same B [itA y,itA ⟨y.it,gz,cz⟩] y.it.f.row (offA (some ⟨y.g,0,none⟩) y.c 3 3) (offA (some ⟨gz,0,none⟩) cz 3 3) y.it.f.row.length (y.c-3) (cz-3) rfl (by omega) (hfy.mono (λ w ho=>ho.map Sa)) (hfz.mono (λ w ho=>ho.map Sa))) Tryz.func30 rfl rfl rfl ?_)
  rintro _ _ ⟨rfl,rfl⟩
  try simp only [cA,nA]
  refine Lq (Y2 rfl) (Lq (Qp rfl rfl) (Ld (yQ rfl (Tk (TR ?_)))))
  iterate 2 refine Lz ?_
  refine Ld ?_
  refine ⟨_,?_,_,⟨_,k+1,L.drop (k+1),M.drop (k+1),⟨by omega,rfl,rfl⟩,rfl,U4,rfl⟩,Sa⟩
  omega
 refine zB (TS (La rfl (Ld (T.ret ?_))))
 exact ⟨.inl rfl,_,_,res [_] rfl ⟨rvT rfl,trivial⟩,⟨rfl,rfl⟩,Sa⟩
open Go.RowKit
theorem Rx.elemR : ElemOk Tryz.prog 105 106 2 16 := .mk' (.agg #[.int .i64 0,.int .i64 0]) Tryz.underlying105 (by kernel_rfl) rfl (by omega)
theorem Rx.elemP : ElemOk Tryz.prog 107 108 4 48 := .mk' (.agg #[.int .i64 0,.slice none 0 0,.int .i64 0,.int .i64 0]) Tryz.underlying107 (by kernel_rfl) rfl (by omega)
theorem rd_snoc {Q:List (Int×Int)} {x:Int×Int} {cs:List Value} (hx:cs=ridC x):Q.flatMap ridC++cs=(Q++[x]).flatMap ridC:=by subst hx;simp
theorem Own.rdNil {B:Wn} {w:World} {l:List Wp} (H:Own B w l):Own B w (rdR none 0 0 []::l):=H.map λ _ K=>rowNilP K
theorem Own.p21Nil {B:Wn} {w:World} {l:List Wp} (H:Own B w l):Own B w (pt21R none 0 0 []::l):=H.map λ _ K=>rowNilP K
noncomputable def stepG (h:HR) (y:OpM):HR:=if y.kind=0/\codeS h y.stamp y.ended (ptsP y.added)=0 then (writeS h y.stamp y.ended ((ptsP y.added).map λ p=>recD p.1 p.2)).1 else h
theorem Sy.step (B:Wn) (s b nf K K2 m:Nat) (q:HrQ) (h:HR) (y:OpM) (hyo:OpOk B y) (kk:HrK h m) (si:SI h 8 3072) (hm:m<2^28) (hcl:h.cm.length<2^32) (h0:0<=h.last) (hla:h.last<2^59) (hye:y.ended.length+y.added.length<=1048576) (hK2:K+60+9*(y.ended.length+y.added.length)<=K2) (hK:K2<2^28) (g:HR) (hg:stepG h y=g) :
  Fn Tryz.prog B 10 #[pV s,hrV q h,.agg (opSC y).toArray] (stoA s b 12 8 nf K h::hrL q h) (λ u l => ∃ q' K',K'<=K2/\u = .tuple #[hrV q' g,.bool true]/\l=stoA s b 12 8 nf K' g::hrL q' g):=by
 refine Ws 131 Tryz.func10 rfl rfl (nB rfl) (λ F=>?_)
 try simp only [cA,nA]
 refine TS ?_
 refine Le (zL [_,_,_,_,_,_,_,_] rfl rfl ?_)
 intro g4
 refine Le (zL [_,_,_,_,_,_,_,_] rfl rfl ?_)
 intro g5
 refine Le (El [.int .i64 0,.int .i64 0,.int .i64 0,.slice none 0 0,.slice none 0 0,.slice none 0 0,.int .i64 0,.slice none 0 0] (by unfold Zf;kernel_rfl) ?_)
 intro g6
 refine La rfl (Ld (Ts (TS ?_)))
 iterate 2 refine Lz ?_
 refine Ld (yH (TS (Lq (yU rfl rfl) (La rfl (Ld ?_)))))
 refine yN rfl (λ k0=>?_) (λ k0=>?_)
 .
  have hg:(if codeS h y.stamp y.ended (ptsP y.added)=0 then (writeS h y.stamp y.ended ((ptsP y.added).map λ p=>recD p.1 p.2)).1 else h)=g:=by rw [<-hg];unfold stepG;simp [k0]
  refine T.conv (λ w ho=>ho.rdNil) (TS (La rfl (Ld (Ts (TS ?_)))))
  iterate 4 refine Lz ?_
  refine Ld (yH ?_)
  refine zG (λ mz fz lz => ∃ (f0:Fr) (j:Nat) (E:List (Int×Int)) (pe:Option Addr) (ce:Nat),(j<=y.ended.length/\E=y.ended.take j)/\mz=y.ended.length-j/\fz=(upd (upd (upd (upd (upd (upd (upd (upd f0 0 (pV s)) 4 (.pointer (some ⟨g4,0,none⟩))) 5 (.pointer (some ⟨g5,0,none⟩))) 6 (.pointer (some ⟨g6,0,none⟩))) 8 (.slice pe j ce)) 25 (.slice y.ea y.ended.length y.ec)) 26 (.int .i64 y.ended.length)) 27 (.int .i64 j))/\lz=rdR pe j ce E::blk g6 hr0 33::blk g5 (opSC y) 40::blk g4 (hrC q h) 33::stoA s b 12 8 nf K h::hrL q h++F) ?_ ?_
  . refine ⟨_,_,⟨_,0,[],none,0,⟨Nat.zero_le _,rfl⟩,rfl,U8,rfl⟩,Sa⟩
  rintro mz fz lz ⟨f0,j,E,pe,ce,⟨hj,hE⟩,hmz,rfl,rfl⟩
  subst mz
  try simp only [cA,nA]
  refine TS (Lq (yM rfl rfl) (Ld (Ts ?_)))
  refine yN rfl (λ hlt=>?_) (λ hlt=>?_)
  .
   obtain ⟨be,oe,hea,hre⟩:=hyo.e.at (sz:=2) (λ _=>rfl) (by omega)
   rw [hea]
   obtain ⟨p,hp⟩ : ∃ p,y.ended[j]? = some p:=⟨_,List.getElem?_eq_getElem (by omega)⟩
   refine Tk (Ts (yH (TS ?_)))
   refine Lz ?_
   refine Lq (Qt.loadAggW (ridC p) rfl (λ w ho=>hre j p hp w (ho.map Sa))) ?_
   refine Le (El [.int .i64 0,.int .i64 0] (by unfold Zf;kernel_rfl) ?_)
   intro g10
   refine L0 (Es [_,_] rfl rfl rfl rfl (by simp) ?_)
   try simp only [splice,lC,lN,dS,cA,tS,tZ,dZ,nA,aN]
   refine Ld (TR ?_)
   iterate 5 refine Lz ?_
   refine Lq (z8 [(0,1),(1,1)] [.int .i64 0,.int .i64 0] [_,_] [(0,_),(1,_)] (by unfold Zf;kernel_rfl) rfl rfl) ?_
   refine Le (zK [_,_] (e:=106) (sz:=2) ⟨.agg #[.int .i64 0,.int .i64 0],by kernel_rfl,rfl⟩ rfl rfl rfl ?_)
   intro g37
   refine Le (Ea Rx.elemR rfl rfl (SrcOf.blk (by kernel_rfl) rfl (by simp [Value.oneCell'])) (by unfold maxLen;omega) ?_)
   rintro p4 c4 hp4
   try simp only [cA,nA]
   rw [rd_snoc (x:=p) (cs:=[.int .i64 p.1,.int .i64 p.2]) rfl]
   refine La rfl (Ld (TR ?_))
   iterate 2 refine Lz ?_
   refine Ld ?_
   refine ⟨_,?_,_,⟨_,j+1,E++[p],p4,c4,⟨by omega,by rw [hE,take_snoc hp]⟩,rfl,U8,rfl⟩,Sa⟩
   omega
  obtain rfl:j=y.ended.length:=by omega
  rw [List.take_length] at hE
  subst hE
  refine T.conv (λ w ho=>ho.p21Nil) (zB (TS (La rfl (Ld (Ts (TS ?_))))))
  iterate 4 refine Lz ?_
  refine Ld (yH ?_)
  refine zG (λ mz fz lz => ∃ (f0:Fr) (i:Nat) (Q:List PtM) (pa:Option Addr) (ca:Nat),(i<=y.added.length/\Q=y.added.take i)/\mz=y.added.length-i/\fz=(upd (upd (upd (upd (upd (upd (upd (upd (upd f0 0 (pV s)) 4 (.pointer (some ⟨g4,0,none⟩))) 5 (.pointer (some ⟨g5,0,none⟩))) 6 (.pointer (some ⟨g6,0,none⟩))) 8 (.slice pe y.ended.length ce)) 11 (.slice pa i ca)) 41 (.slice y.aa y.added.length y.ac)) 42 (.int .i64 y.added.length)) 43 (.int .i64 i))/\lz=pt21R pa i ca Q::rdR pe y.ended.length ce y.ended::blk g6 hr0 33::blk g5 (opSC y) 40::blk g4 (hrC q h) 33::stoA s b 12 8 nf K h::hrL q h++F) ?_ ?_
  . refine ⟨_,_,⟨_,0,[],none,0,⟨Nat.zero_le _,rfl⟩,rfl,U9,rfl⟩,Sa⟩
  rintro mz fz lz ⟨f0,i,Q,pa,ca,⟨hi,hQ⟩,hmz,rfl,rfl⟩
  subst mz
  try simp only [cA,nA]
  refine TS (Lq (yM rfl rfl) (Ld (Ts ?_)))
  refine yN rfl (λ hlt2=>?_) (λ hlt2=>?_)
  .
   obtain ⟨ba,oa,haa,hra⟩:=hyo.a.at (sz:=4) (λ _=>rfl) (by omega)
   rw [haa]
   obtain ⟨p,hp⟩ : ∃ p,y.added[i]? = some p:=⟨_,List.getElem?_eq_getElem (by omega)⟩
   refine Tk (Ts (yH (TS ?_)))
   refine Lz ?_
   refine Lq (Qt.loadAggW (ptC p) rfl (λ w ho=>hra i p hp w (ho.map Sa))) ?_
   refine Le (El [.int .i64 0,.slice none 0 0,.int .i64 0,.int .i64 0] (by unfold Zf;kernel_rfl) ?_)
   intro g13
   refine L0 (Es [_,_,_,_] rfl rfl rfl rfl (by simp) ?_)
   try simp only [splice,lC,lN,dS,cA,tS,tZ,dZ,nA,aN]
   refine Ld (TR ?_)
   iterate 5 refine Lz ?_
   refine Lq (z8 [(0,1),(1,3)] [.int .i64 0,.slice none 0 0,.int .i64 0,.int .i64 0] [_,_,_,_] [(0,_),(1,_)] (by unfold Zf;kernel_rfl) rfl rfl) ?_
   refine Le (zK [_,_,_,_] (e:=108) (sz:=4) ⟨.agg #[.int .i64 0,.slice none 0 0,.int .i64 0,.int .i64 0],by kernel_rfl,rfl⟩ rfl rfl rfl ?_)
   intro g53
   refine Le (Ea Rx.elemP rfl rfl (SrcOf.blk (by kernel_rfl) rfl (by simp [Value.oneCell'])) (by unfold maxLen;omega) ?_)
   rintro p4 c4 hp4
   try simp only [cA,nA]
   rw [pt_snoc (x:=p) (cs:=[.int .i64 p.t,.slice p.ra p.f.row.length p.rc,.int .i64 p.f.fr,.int .i64 p.f.to]) rfl]
   refine La rfl (Ld (TR ?_))
   iterate 2 refine Lz ?_
   refine Ld ?_
   refine ⟨_,?_,_,⟨_,i+1,Q++[p],p4,c4,⟨by omega,by rw [hQ,take_snoc hp]⟩,rfl,U9,rfl⟩,Sa⟩
   omega
  obtain rfl:i=y.added.length:=by omega
  rw [List.take_length] at hQ
  subst hQ
  refine zB (TS ?_)
  iterate 5 refine Lz ?_
  refine Le (Ec (Hr.writeF B q h m 8 3072 kk si (by omega) (by omega) (by omega) y.stamp pe y.ended.length ce y.ended rfl pa y.added.length ca y.added rfl hyo.p (by omega) g hg) Tryz.func25 rfl rfl rfl ?_)
  rintro _ _ ⟨q2,rfl,rfl⟩
  try simp only [cA,nA]
  iterate 3 refine Lz ?_
  refine Le (El [.int .i64 0,.int .i64 0,.int .i64 0,.slice none 0 0,.slice none 0 0,.slice none 0 0,.int .i64 0,.slice none 0 0] (by unfold Zf;kernel_rfl) ?_)
  intro g14
  refine L0 (Es [_,_,_,_,_,_,_,_] rfl rfl rfl rfl (by simp) ?_)
  try simp only [splice,lC,lN,dS,cA,tS,tZ,dZ,nA,aN]
  refine La rfl (Ld (Ts (T.draw 12 ([blk g14 (hrC q2 g) 33,blk g5 (opSC y) 40]) (nB rfl) ?_)))
  refine Rz 0 ?_;refine Rz 1 ?_;refine Rz 2 ?_;refine Rz 3 ?_;refine Rz 4 ?_;refine Rz 5 ?_;refine Rz 6 ?_;refine Rz 7 ?_;refine Rz 9 ?_
  refine yK 8 ?_
  refine z6 rfl (Ec (Sx.writeG B [] s b 12 8 nf K h si (by omega) (by omega) hcl (by omega) y.stamp y.ea y.ended.length y.ec y.ended rfl (by omega) hyo.e y.aa y.added.length y.ac y.added rfl (by omega) hyo.a hyo.p K2 (by omega) (by omega) g hg) Tryz.func16 rfl rfl rfl ?_)
  rintro _ _ ⟨rfl,rfl⟩
  try simp only [cA,nA]
  refine ⟨Sa,?_⟩
  refine Rz 10 ?_
  refine yK 11 ?_
  refine YH rfl (Es [_,_,_,_,_,_,_,_] rfl rfl rfl rfl (by simp) ?_)
  try simp only [splice,lC,lN,dS,cA,tS,tZ,dZ,nA,aN]
  refine ⟨Sa,?_⟩
  refine Rd0 (by rfl) ?_
  simp only [dS,dZ,dN]
  refine La rfl (Ld (T.ret ?_))
  exact ⟨.inl rfl,_,_,res [_,_] rfl ⟨rvA [_,_,_,_,_,_,_,_] rfl ⟨rfl,rfl,rfl,rfl,rfl,rfl,rfl,rfl,trivial⟩,rvT rfl,trivial⟩,⟨q2,K2,Nat.le_refl _,by simp;rfl,rfl⟩,Sa⟩
 have hg:h=g:=by rw [<-hg];unfold stepG;rw [if_neg (by simp [k0])]
 subst hg
 refine TS (Lq (yU rfl rfl) (La rfl (Ld ?_)))
 refine yN rfl (λ k1=>?_) (λ k1=>?_)
 .
  refine Ts (TS ?_)
  iterate 3 refine Lz ?_
  refine Ld ?_
  refine yN rfl (λ t0=>?_) (λ t0=>?_)
  .
   refine TS ?_
   refine Lz ?_
   refine L0 (Es [_,_,_,_,_,_,_,_] rfl rfl rfl rfl (by simp) ?_)
   try simp only [splice,lC,lN,dS,cA,tS,tZ,dZ,nA,aN]
   refine La rfl (Ld (T.ret ?_))
   exact ⟨.inl rfl,_,_,res [_,_] rfl ⟨rvA [_,_,_,_,_,_,_,_] rfl ⟨rfl,rfl,rfl,rfl,rfl,rfl,rfl,rfl,trivial⟩,rvT rfl,trivial⟩,⟨q,K,by omega,rfl,rfl⟩,Sa⟩
  refine Tk (Ts (T.draw 15 ([blk g4 (hrC q h) 33,blk g5 (opSC y) 40]) (nB rfl) ?_))
  refine Rz 0 ?_;refine Rz 1 ?_;refine Rz 2 ?_;refine Rz 3 ?_;refine Rz 4 ?_;refine Rz 5 ?_;refine Rz 7 ?_;refine Rz 8 ?_;refine Rz 9 ?_;refine Rz 10 ?_;refine Rz 11 ?_
  refine yK 6 ?_
  refine z6 rfl (Ec (Sx.see B s b 12 8 nf K h si y.table y.stamp) Tryz.func18 rfl rfl rfl ?_)
  rintro _ _ ⟨L,p1,c1,hL,rfl,rfl⟩
  try simp only [cA,nA]
  refine ⟨Sa,?_⟩
  refine yK 12 ?_
  refine z6 rfl (Ec (Hr.see B q h m 8 3072 kk si (by omega) (by omega) y.table y.stamp) Tryz.func26 rfl rfl rfl ?_)
  rintro _ _ ⟨M,p2,c2,hM,rfl,rfl⟩
  try simp only [cA,nA]
  have hml:L.length=M.length:=by have:=congrArg List.length (hL.trans hM.symm);simpa using this
  rw [hml]
  refine ⟨Sa,?_⟩
  refine yK 13 ?_
  refine z6 rfl (Ec (Sx.items B L M M.length p1 p2 c1 c2 (hL.trans hM.symm) hml rfl (λ x hx=>row_len si (see_hist (by rw [<-hL];exact List.mem_map_of_mem hx:x.it∈seeR h y.table y.stamp))) (by have:=see_len30 si (by omega) y.table y.stamp;have h2:=congrArg List.length hM;rw [List.length_map] at h2;omega)) Tryz.func13 rfl rfl rfl ?_)
  rintro _ _ ⟨rfl,rfl⟩
  try simp only [cA,nA]
  refine ⟨Sa,?_⟩
  refine yK 14 ?_
  refine X1 rfl rfl (by kernel_rfl) (Es [_,_,_,_,_,_,_,_] rfl rfl rfl rfl (by simp) ?_)
  try simp only [splice,lC,lN,dS,cA,tS,tZ,dZ,nA,aN]
  refine Rd0 (by rfl) ?_
  simp only [dS,dZ,dN]
  refine La rfl (Ld (T.ret ?_))
  exact ⟨.inl rfl,_,_,res [_,_] rfl ⟨rvA [_,_,_,_,_,_,_,_] rfl ⟨rfl,rfl,rfl,rfl,rfl,rfl,rfl,rfl,trivial⟩,rvT rfl,trivial⟩,⟨q,K+8,by omega,rfl,rfl⟩,Sa⟩
 refine TS (Lq (yU rfl rfl) (La rfl (Ld ?_)))
 refine yN rfl (λ k2=>?_) (λ k2=>?_)
 .
  refine TS ?_
  iterate 4 refine Lz ?_
  refine Ld (yH ?_)
  refine zG (λ mz fz lz => ∃ (f0:Fr) (j:Nat),(j<=y.added.length)/\mz=y.added.length-j/\fz=(upd (upd (upd (upd (upd (upd f0 0 (pV s)) 4 (.pointer (some ⟨g4,0,none⟩))) 6 (.pointer (some ⟨g6,0,none⟩))) 99 (.slice y.aa y.added.length y.ac)) 100 (.int .i64 y.added.length)) 101 (.int .i64 j))/\lz=blk g6 hr0 33::blk g4 (hrC q h) 33::stoA s b 12 8 nf K h::hrL q h++F) ?_ ?_
  . refine ⟨_,_,⟨_,0,Nat.zero_le _,rfl,U6,rfl⟩,Sa⟩
  rintro mz fz lz ⟨f0,j,hj,hmz,rfl,rfl⟩
  subst mz
  try simp only [cA,nA]
  refine TS (Lq (yM rfl rfl) (Ld (Ts ?_)))
  refine yN rfl (λ hlt=>?_) (λ hlt=>?_)
  .
   obtain ⟨ba,oa,haa,hra⟩:=hyo.a.at (sz:=4) (λ _=>rfl) (by omega)
   rw [haa]
   obtain ⟨p,hp⟩ : ∃ p,y.added[j]? = some p:=⟨_,List.getElem?_eq_getElem (by omega)⟩
   have hpo:=hyo.p p (List.mem_of_getElem? hp)
   refine Tk (Ts (yH (TS ?_)))
   refine Lz ?_
   refine Lq (Qt.loadAggW (ptC p) rfl (λ w ho=>hra j p hp w (ho.map Sa))) ?_
   refine Le (El [.int .i64 0,.slice none 0 0,.int .i64 0,.int .i64 0] (by unfold Zf;kernel_rfl) ?_)
   intro g17
   refine L0 (Es [_,_,_,_] rfl rfl rfl rfl (by simp) ?_)
   try simp only [splice,lC,lN,dS,cA,tS,tZ,dZ,nA,aN]
   refine Ld (TS ?_)
   iterate 4 refine Lz ?_
   refine Le (Ec (Rx.record B [] p.t p.f p.ra p.f.row.length p.rc rfl hpo.v hpo.f hpo.t) Tryz.func27 rfl rfl rfl ?_)
   rintro _ _ ⟨rfl,rfl⟩
   try simp only [cA,nA]
   iterate 5 refine Lz ?_
   refine Ld (TS ?_)
   iterate 5 refine Lz ?_
   refine Le (Ec (Sx.check B [] (pV s) p.t p.f p.ra p.f.row.length p.rc rfl hpo.v hpo.f hpo.t) Tryz.func28 rfl rfl rfl ?_)
   rintro _ _ ⟨rfl,rfl⟩
   try simp only [cA,nA]
   refine Lm rfl (Lq (yW rfl rfl) (Ld (yL rfl (Tk (TR ?_)))))
   iterate 2 refine Lz ?_
   refine Ld ?_
   refine ⟨_,?_,_,⟨_,j+1,by omega,rfl,U6,rfl⟩,Sa⟩
   omega
  refine zB (TS ?_)
  refine Lz ?_
  refine L0 (Es [_,_,_,_,_,_,_,_] rfl rfl rfl rfl (by simp) ?_)
  try simp only [splice,lC,lN,dS,cA,tS,tZ,dZ,nA,aN]
  refine La rfl (Ld (T.ret ?_))
  exact ⟨.inl rfl,_,_,res [_,_] rfl ⟨rvA [_,_,_,_,_,_,_,_] rfl ⟨rfl,rfl,rfl,rfl,rfl,rfl,rfl,rfl,trivial⟩,rvT rfl,trivial⟩,⟨q,K,by omega,rfl,rfl⟩,Sa⟩
 refine TS (Lq (yU rfl rfl) (La rfl (Ld ?_)))
 refine yN rfl (λ k3=>?_) (λ k3=>?_)
 .
  refine T.openSto (s:=s) (b:=b) (logs:=12) (count:=8) (n':=nf) (K:=K) (h:=h) λ x hst=>?_
  simp only [stoC,List.cons_append,List.nil_append]
  refine TR ?_
  iterate 4 refine Lz ?_
  refine Le (Ec (Hp.flush B x.gh b 12 8 nf K h (by omega)) Tryz.func29 rfl rfl rfl ?_)
  rintro _ _ ⟨rfl,rfl⟩
  try simp only [cA,nA]
  refine Ld (TS ?_)
  refine Lz ?_
  refine L0 (Es [_,_,_,_,_,_,_,_] rfl rfl rfl rfl (by simp) ?_)
  try simp only [splice,lC,lN,dS,cA,tS,tZ,dZ,nA,aN]
  refine La rfl (Ld (T.ret ?_))
  exact ⟨.inl rfl,_,_,res [_,_] rfl ⟨rvA [_,_,_,_,_,_,_,_] rfl ⟨rfl,rfl,rfl,rfl,rfl,rfl,rfl,rfl,trivial⟩,rvT rfl,trivial⟩,⟨q,K,by omega,rfl,rfl⟩,(λ k K3=>Sa k (sto_close (m:=stoA s b 12 8 nf K h::(hrL q h++F)) [stoB s x.gh x.gm (lastS h),stM x x.st,hpA x.gh b 12 8 nf K h] x h hst rfl k K3))⟩
 refine Tk (TS ?_)
 refine Lz ?_
 refine L0 (Es [_,_,_,_,_,_,_,_] rfl rfl rfl rfl (by simp) ?_)
 try simp only [splice,lC,lN,dS,cA,tS,tZ,dZ,nA,aN]
 refine La rfl (Ld (T.ret ?_))
 exact ⟨.inl rfl,_,_,res [_,_] rfl ⟨rvA [_,_,_,_,_,_,_,_] rfl ⟨rfl,rfl,rfl,rfl,rfl,rfl,rfl,rfl,trivial⟩,rvT rfl,trivial⟩,⟨q,K,by omega,rfl,rfl⟩,Sa⟩
open Go.RowKit
open Go.RowKit
def stepR (h:HR) (o:OpH):HR:=if o.kind=0 then beginR h else if o.kind=1 then (Wm h o.txn o.data).1 else if o.kind=2 then (endR h o.txn o.page o.slot).1 else if o.kind=3 then (Zl h o.txn o.stamp).1 else if o.kind=4 then (abortR h o.txn).1 else h
structure PlayI (h:HR) (c rm m:Nat):Prop where
 r:RInv h
 s:HrS h m
 pages:h.pages=c
 room:h.room=rm
 last:h.last<=m
theorem PlayI.k {h:HR} {c rm m:Nat} (p:PlayI h c rm m) (hm:m<2^31) (hc:c<=4096) (hr:rm<2^30):HrK h m:=⟨p.s,by omega,p.r,by rw [p.pages];exact hc,by rw [p.room];exact hr,by have:=p.last;omega⟩
theorem HrS.mono {h:HR} {m m':Nat} (s:HrS h m) (hm:m<=m'):HrS h m':=⟨Nat.le_trans s.v hm,Nat.le_trans s.a hm,Nat.le_trans s.c hm,Nat.le_trans s.e hm⟩
theorem HrS.write {h:HR} {m:Nat} (s:HrS h m) (e:En):HrS (Zg h e) (m+1):=by
  refine ⟨?_,Nat.le_trans s.a (Nat.le_succ _),?_,?_⟩
  . show (if e.kind=1 then _ else if e.kind=2 then _ else _:List Ver).length<=_
    have:=s.v
    split
    . simp;omega
    . split
      . split
        . simp;omega
        . omega
      . omega
  . show (if e.kind=3 then _ else _:List (Int×Int)).length<=_
    have:=s.c
    split
    . simp;omega
    . omega
  . have:=s.e
    show (h.es++[e]).length<=_
    simp;omega
theorem cm_cases (h:HR) (t s:Int):(Zl h t s).1=h\/(Zl h t s).1=Zg (Zo h t) (cmE t s):=by
  unfold Zl
  split
  . split
    . exact .inl rfl
    . split
      . exact .inl rfl
      . exact .inr rfl
  . exact .inl rfl
theorem ab_cases (h:HR) (t:Int):(abortR h t).1=h\/(abortR h t).1=Zo h t:=by
 unfold abortR
 split
 . exact .inr rfl
 . exact .inl rfl
theorem PlayI.step {h:HR} {c rm m:Nat} (p:PlayI h c rm m) (hm:m<2^31) (hc:c<=4096) (o:OpH):PlayI (stepR h o) c rm (m+1):=by
  have hp:h.pages<=4096:=by rw [p.pages];exact hc
  have hl:h.last<2^62:=by have:=p.last;omega
  have hl2:=p.last
  have h0:PlayI h c rm (m+1):=⟨p.r,p.s.mono (Nat.le_succ _),p.pages,p.room,by omega⟩
  unfold stepR
  split
  . exact ⟨p.r.begin,⟨by have:=p.s.v;show h.vs.length<=_;omega,by have:=p.s.a;show (h.act++[h.last+1]).length<=_;simp;omega,by have:=p.s.c;show h.cm.length<=_;omega,by have:=p.s.e;show h.es.length<=_;omega⟩,p.pages,p.room,by show h.last+1<=_;omega⟩
  . split
    . have hr:=p.r.add hp hl o.txn o.data
      rcases add_cases h o.txn o.data with ⟨_,e⟩ | ⟨q,_,_,_,_,e⟩
      . rw [e];exact h0
      . rw [e] at hr ⊢
        exact ⟨hr,p.s.write _,p.pages,p.room,by show h.last<=_;omega⟩
    . split
      . have hr:=p.r.end_ hp hl o.txn o.page o.slot
        rcases end_cases h o.txn o.page o.slot with ⟨_,e⟩ | ⟨i,v,_,_,_,_,_,e⟩
        . rw [e];exact h0
        . rw [e] at hr ⊢
          exact ⟨hr,p.s.write _,p.pages,p.room,by show h.last<=_;omega⟩
      . split
        . have hr:=p.r.commit hl o.txn o.stamp
          rcases cm_cases h o.txn o.stamp with e | e
          . rw [e];exact h0
          . rw [e] at hr ⊢
            exact ⟨hr,(show HrS (Zo h o.txn) m from ⟨p.s.v,Nat.le_trans (List.length_filter_le _ _) p.s.a,p.s.c,p.s.e⟩).write _,p.pages,p.room,by show h.last<=_;omega⟩
        . split
          . have hr:=p.r.abort o.txn
            rcases ab_cases h o.txn with e | e
            . rw [e];exact h0
            . rw [e] at hr ⊢
              exact ⟨hr,⟨by have:=p.s.v;show h.vs.length<=_;omega,Nat.le_trans (List.length_filter_le _ _) (by have:=p.s.a;omega),by have:=p.s.c;show h.cm.length<=_;omega,by have:=p.s.e;show h.es.length<=_;omega⟩,p.pages,p.room,by show h.last<=_;omega⟩
          . exact h0
open Go.RowKit
open Go.RowKit
theorem restart_S (h:HR) : ∀ i,i<=h.es.length->HrS (Zs h i) i
 | 0,_=>⟨Nat.le_refl 0,Nat.le_refl 0,Nat.le_refl 0,Nat.le_refl 0⟩
 | i+1,hi=>by
  have ih:=restart_S h i (by omega)
  have hx:h.es[i]? = some h.es[i]:=List.getElem?_eq_getElem (by omega)
  have e:h.es.take (i+1)=h.es.take i++[h.es[i]]:=by rw [List.take_add_one,hx];rfl
  have w:=HrS.write (h:=Zs h i) (m:=i) ih h.es[i]
  unfold Zs at w ⊢
  rw [e,replay_snoc]
  exact ⟨w.v,w.a,w.c,w.e⟩
theorem restart_next {h:HR} {i:Nat} {e:En} (he:h.es[i]? = some e):Zs h (i+1)={Zg (Zs h i) e with last:=max (Zs h i).last e.txn}:=by
 have e1:h.es.take (i+1)=h.es.take i++[e]:=by rw [List.take_add_one,he];rfl
 unfold Zs
 rw [e1,replay_snoc]
 unfold lastE
 rw [List.foldl_append]
 rfl
theorem restart_used {h:HR} (r:RInv h) (i:Nat):0<=(Zs h i).used/\(Zs h i).used<=h.room:=by
 have k:=(r.restart i).ok
 have h1:=k.used
 have h2:=k.le
 have h3:(Zs h i).room=h.room:=(replay_es _ _ _).2.2.1
 rw [h3] at h2
 refine ⟨?_,h2⟩
 rw [h1]
 exact Int.natCast_nonneg _
theorem restart_ok {h:HR} (r:RInv h) {i:Nat} {e:En} (he:h.es[i]? = some e):EnOk e/\(e.kind=2 -> ∃ j,We (Zs h i).vs e.page e.slot=some j):=by
 have k:=r.hist i e he
 refine ⟨k.ok,λ h2=>?_⟩
 obtain ⟨j,v,a,_⟩:=k.two h2
 exact ⟨j,a⟩
abbrev zeroR (h:HR):HR:=⟨h.pages,h.room,0,[],[],[],0,[]⟩
abbrev q00 : HrQ:=⟨none,0,none,0,none,0,none,0⟩
theorem Hr.restart (B:Wn) (q:HrQ) (h:HR) (n:Nat) (r:RInv h) (hn:n<=h.es.length) (hm:h.es.length<2^30) (hrm:h.room<2^31):Fn Tryz.prog B 9 #[hrV q h,.int .i64 n] (hrL q h) (λ u l => ∃ q',u=hrV q' (Zs h n)/\l=hrL q' (Zs h n)):=by
  obtain ⟨pv,cv,pa,ca,pc,cc,pe,ce⟩:=q
  dsimp only [hrV,hrL]
  refine Wr 48 Tryz.func9 rfl rfl (nB rfl) (λ F=>?_)
  try simp only [cA,nA]
  refine T.own λ w ho=>?_
  have hp:0<h.es.length -> ∃ g,pe=some ⟨g,0,none⟩:=((ho.map Sa:Own B w [e8R pe h.es.length ce h.es]).slice_at (p:=pe) (m:=h.es.length) (c:=ce)).2.1
  clear ho
  refine TS ?_
  refine Le (zL [_,_,_,_,_,_,_,_] rfl rfl ?_)
  intro g2
  refine Le (El [.int .i64 0,.int .i64 0,.int .i64 0,.slice none 0 0,.slice none 0 0,.slice none 0 0,.int .i64 0,.slice none 0 0] (by unfold Zf;kernel_rfl) ?_)
  intro g4
  refine Ld (TS ?_)
  iterate 4 refine Lz ?_
  refine Lq (z8 [(0,1),(1,1),(2,1),(3,1),(4,1),(5,1),(6,1),(7,1)] [.int .i64 0,.int .i64 0,.int .i64 0,.slice none 0 0,.slice none 0 0,.slice none 0 0,.int .i64 0,.slice none 0 0] [_,_,_,_,_,_,_,_] [(0,_),(1,_)] (by unfold Zf;kernel_rfl) rfl rfl) ?_
  refine Le (El [.int .i64 0,.int .i64 0,.int .i64 0,.slice none 0 0,.slice none 0 0,.slice none 0 0,.int .i64 0,.slice none 0 0] (by unfold Zf;kernel_rfl) ?_)
  intro g5
  refine L0 (Es [_,_,_,_,_,_,_,_] rfl rfl rfl rfl (by simp) ?_)
  try simp only [splice,lC,lN,dS,cA,tS,tZ,dZ,nA,aN]
  refine Ld (Ts (TS (La rfl (Ld (yH ?_)))))
  refine T.conv (l':=blk g5 (hrC q00 (zeroR h)) 33::hrL q00 (zeroR h)++(blk g4 [.int .i64 0,.int .i64 0,.int .i64 0,.slice none 0 0,.slice none 0 0,.slice none 0 0,.int .i64 0,.slice none 0 0] 33::blk g2 (hrC ⟨pv,cv,pa,ca,pc,cc,pe,ce⟩ h) 33::hrL ⟨pv,cv,pa,ca,pc,cc,pe,ce⟩ h++F)) (λ w ho=>?_) ?_
  . have h1:Own B w (blk g5 (hrC q00 (zeroR h)) 33::_):=ho
    have h2:Own B w (verR none ([]:List Ver).length 0 []::acR none ([]:List Int).length 0 []::c8R none ([]:List (Int×Int)).length 0 []::e8R none ([]:List En).length 0 []::_):=(((h1.row_nil _ _).row_nil _ _).row_nil _ _).row_nil _ _
    exact h2.map Sa
  refine zG (λ mz fz lz => ∃ (f0:Fr) (i:Nat) (g:HR) (q2:HrQ),(i<=n/\g=Zs h i)/\mz=n-i/\fz=(upd (upd (upd (upd (upd f0 1 (.int .i64 n)) 2 (.pointer (some ⟨g2,0,none⟩))) 4 (.pointer (some ⟨g4,0,none⟩))) 5 (.pointer (some ⟨g5,0,none⟩))) 6 (.int .i64 i))/\lz=blk g5 (hrC q2 g) 33::hrL q2 g++(blk g4 [.int .i64 0,.int .i64 0,.int .i64 0,.slice none 0 0,.slice none 0 0,.slice none 0 0,.int .i64 0,.slice none 0 0] 33::blk g2 (hrC ⟨pv,cv,pa,ca,pc,cc,pe,ce⟩ h) 33::hrL ⟨pv,cv,pa,ca,pc,cc,pe,ce⟩ h++F)) ?_ ?_
  . refine ⟨_,_,⟨_,0,zeroR h,q00,⟨Nat.zero_le _,rfl⟩,rfl,U5,rfl⟩,Sa⟩
  rintro mz fz lz ⟨f0,i,g,q2,⟨hi,hg⟩,hmz,rfl,rfl⟩
  subst mz
  try simp only [cA,nA]
  refine Ts (TS ?_)
  iterate 4 refine Lz ?_
  refine zZ (t:=15) rfl (λ hlt=>?_) (λ hlt=>?_)
  . skip
    try replace hlt:=of_decide_eq_true hlt
    iterate 6 refine Lz ?_
    refine Ld (zM rfl ?_)
    obtain ⟨ge,rfl⟩:=hp (by omega)
    obtain ⟨e,he⟩ : ∃ e,h.es[i]? = some e:=⟨_,List.getElem?_eq_getElem (by omega)⟩
    have hx:h.es[i]'(by omega)=e:=(List.getElem?_eq_some_iff.1 he).2
    obtain ⟨k1,k2⟩:=restart_ok r he
    have hs:=restart_S h i (by omega)
    have hu:=restart_used r i
    have hst:=restart_next he
    rw [<-hg] at k2 hs hu hst
    refine Tk (Ts (yH (Ts (zU 7 (nB rfl) ?_))))
    refine Rz 0 ?_;refine Rz 1 ?_;refine Rz 2 ?_;refine Rz 3 ?_;refine Rz 4 ?_
    refine Rq 5 rfl (Sr _) (QL [.int .i64 e.kind,.int .i64 e.txn,.int .i64 e.page,.int .i64 e.slot,.int .i64 e.stamp,strW e.data] rfl (by rw [show [Value.int .i64 e.kind,.int .i64 e.txn,.int .i64 e.page,.int .i64 e.slot,.int .i64 e.stamp,strW e.data]=e8C (h.es[i]'(by omega)) by rw [hx]];exact rdl_flat _ _ _ (by intros;rfl) _ (by omega))) (yK 6 ?_)
    refine zY rfl (Ec (Hr.write B q2 g e i hs (by omega) (by omega) (kinds k1) ⟨by have:=k1.place;omega,by have:=k1.place;omega⟩ k1.none (by have:=k1.long;omega) k2) Tryz.func24 rfl rfl rfl ?_)
    rintro _ _ ⟨q3,rfl,rfl⟩
    try simp only [cA,nA]
    refine Rd0 (by rfl) ?_
    simp only [dS,dZ,dN]
    refine L0 (Es [_,_,_,_,_,_,_,_] rfl rfl rfl rfl (by simp) ?_)
    try simp only [splice,lC,lN,dS,cA,tS,tZ,dZ,nA,aN]
    refine Ld (Ts (zU 9 (nB rfl) ?_))
    refine Rz 0 ?_;refine Rz 1 ?_;refine Rz 2 ?_;refine Rz 3 ?_;refine Rz 4 ?_
    refine Rq 5 rfl (Sr _) (Ql (v := .int .i64 e.txn) rfl (flat_cell e8C 6 h.es (λ _ _=>rfl) i 1 (by omega) (by rw [hx];rfl))) ?_
    refine Rz 6 ?_;refine Rz 7 ?_;refine Rz 8 ?_
    refine Rd0 (by rfl) ?_
    simp only [dS,dZ,dN]
    refine Ld ?_
    refine yN rfl (λ hgt=>?_) (λ hgt=>?_)
    . skip
      refine TR ?_
      iterate 5 refine Lz ?_
      refine Lq (Ql (v := .int .i64 e.txn) rfl (flat_cell e8C 6 h.es (λ _ _=>rfl) i 1 (by omega) (by rw [hx];rfl))) (Lq (Qf (off:=6) rfl) ?_)
      refine L0 (E1 (by kernel_rfl) rfl rfl rfl (by first | (simp;done) | (simp;omega)) ?_)
      try simp only [List.set_cons_zero,List.set_cons_succ]
      refine Ld (TR ?_)
      iterate 3 refine Lz ?_
      refine Ld ?_
      refine ⟨_,?_,_,⟨_,i+1,{Zg g e with last:=e.txn},q3,⟨by omega,by rw [hst,Int.max_eq_right (by have:(Zg g e).last=g.last:=rfl;omega)]⟩,rfl,U5,rfl⟩,Sa⟩
      omega
    refine Tk (TR ?_)
    iterate 3 refine Lz ?_
    refine Ld ?_
    refine ⟨_,?_,_,⟨_,i+1,Zg g e,q3,⟨by omega,by rw [hst,Int.max_eq_left (by have:(Zg g e).last=g.last:=rfl;omega)];rfl⟩,rfl,U5,rfl⟩,Sa⟩
    omega
  try replace hlt:=of_decide_eq_false hlt
  iterate 6 refine Lz ?_
  refine Ld (yQ rfl ?_)
  obtain rfl:i=n:=by omega
  subst hg
  refine zB (TS ?_)
  refine Lz ?_
  refine L0 (Es [_,_,_,_,_,_,_,_] rfl rfl rfl rfl (by simp) ?_)
  try simp only [splice,lC,lN,dS,cA,tS,tZ,dZ,nA,aN]
  refine Ld (T.ret ?_)
  exact ⟨.inl rfl,_,_,res [_] rfl ⟨rvA [_,_,_,_,_,_,_,_] rfl ⟨rfl,rfl,rfl,rfl,rfl,rfl,rfl,rfl,trivial⟩,trivial⟩,⟨q2,rfl,rfl⟩,Sa⟩
open Go.RowKit
theorem SI.hrK {h:HR} (si:SI h 8 3072) {i:Nat} (hcl:h.cm.length<=i) (hl:h.last<=i) (hi:i<=1048576):HrK h 4194304:=by
 have h1:=all_len si.r.ok
 have h2:=si.perm.length_eq
 have h3:=si.es_len
 have h4:=si.pages
 have h5:=si.room
 refine ⟨⟨?_,?_,?_,?_⟩,by omega,si.r,by omega,by omega,by omega⟩
 . rw [<-h2];rw [h4] at h1;omega
 . rw [si.act];simp
 . omega
 . omega
theorem step_si {h:HR} (si:SI h 8 3072) (hl:h.last+1<2^62) (h0:0<=h.last) {y:OpM} (hf : ∀ p∈ptsP y.added,-(2^63)<=p.1/\p.1<2^63/\FxRd p.2) : ∃ g,stepG h y=g/\SI g 8 3072/\0<=g.last/\g.last<=h.last+1/\g.cm.length<=h.cm.length+1:=by
  unfold stepG
  by_cases hc:y.kind=0/\codeS h y.stamp y.ended (ptsP y.added)=0
  . rw [if_pos hc]
    obtain ⟨_,_,_,h4,s1,w⟩:=code_write si hl hf hc.2
    exact ⟨_,rfl,s1,by rw [w.last];omega,by rw [w.last];omega,by rw [w.cm];simp⟩
  . rw [if_neg hc]
    exact ⟨h,rfl,si,h0,by omega,by omega⟩
theorem Sy.plays (B:Wn) (sa:Option Addr) (n sc:Nat) (L:List OpM) (hn:L.length=n) (hs:sumO L<=1048576) (hv:FlV B [] opSC (.slice sa n sc) L) (ho : ∀ o∈L,OpOk B o) :
  Fn Tryz.prog B 3 #[.slice sa n sc] [] (λ v l=>v = .bool true/\l=[]):=by
 have hnl:=sumO_len L
 refine Wq 72 Tryz.func3 rfl rfl (nB rfl) (λ F=>?_)
 try simp only [cA,nA]
 refine TS (La rfl (Ld (Ts (TS ?_))))
 refine Le (Ec (Sx.awake B) Tryz.func4 rfl rfl rfl ?_)
 rintro _ _ ⟨rfl,rfl⟩
 try simp only [cA,nA]
 refine Lq (Y2 rfl) (Ld (yQ rfl (Tk (TS ?_))))
 refine Le (Ec (Sx.opened B) Tryz.func5 rfl rfl rfl ?_)
 rintro _ _ ⟨b,s0,rfl,rfl⟩
 try simp only [cA,nA]
 iterate 5 refine Lz ?_
 refine Ld (Ts (TS ?_))
 iterate 2 refine Lz ?_
 refine Ld (yQ rfl (Tk (TS ?_)))
 refine Le (Ec (Hr.new B 20 12 20 12 rfl rfl (by omega) (by omega)) Tryz.func6 rfl rfl rfl ?_)
 rintro _ _ ⟨q0,rfl,rfl⟩
 try simp only [cA,nA]
 rw [show newR (20-12) (12*256)=newR 8 3072 from rfl]
 refine Le (El [.int .i64 0,.int .i64 0,.int .i64 0,.slice none 0 0,.slice none 0 0,.slice none 0 0,.int .i64 0,.slice none 0 0] (by unfold Zf;kernel_rfl) ?_)
 intro g5
 refine L0 (Es [_,_,_,_,_,_,_,_] rfl rfl rfl rfl (by simp) ?_)
 try simp only [splice,lC,lN,dS,cA,tS,tZ,dZ,nA,aN]
 refine Ld (TS (La rfl (Ld (Ts (TS ?_)))))
 iterate 3 refine Lz ?_
 refine Ld (yH ?_)
 refine zG (λ mz fz lz => ∃ (f0:Fr) (i K s nf:Nat) (h:HR) (q:HrQ),(i<=n/\K<=4000+100*i+9*sumO (L.take i)/\SI h 8 3072/\0<=h.last/\h.last<=i/\h.cm.length<=i)/\mz=n-i/\fz=(upd (upd (upd (upd (upd (upd f0 3 (pV b)) 4 (pV s)) 5 (.pointer (some ⟨g5,0,none⟩))) 20 (.slice sa n sc)) 21 (.int .i64 n)) 22 (.int .i64 i))/\lz=blk g5 (hrC q h) 33::stoA s b 12 8 nf K h::hrL q h++F) ?_ ?_
 . refine ⟨_,_,⟨_,0,16,s0,3,newR 8 3072,q0,⟨Nat.zero_le _,by omega,SI.new 8 3072,by simp [newR],by simp [newR],by simp [newR]⟩,rfl,U6,rfl⟩,Sa⟩
 rintro mz fz lz ⟨f0,i,K,s,nf,h,q,⟨hi,hK,si,hl0,hli,hcl⟩,hmz,rfl,rfl⟩
 subst mz
 try simp only [cA,nA]
 have hsl:=sumO_le L i
 have hkk:=si.hrK hcl hli (by omega)
 refine TS (Lq (yM rfl rfl) (Ld (Ts ?_)))
 refine yN rfl (λ hlt=>?_) (λ hlt=>?_)
 .
  obtain ⟨bo,oo,rfl,hrd⟩:=hv.at (sz:=8) (λ _=>rfl) (by omega)
  obtain ⟨y,hy⟩ : ∃ y,L[i]? = some y:=⟨_,List.getElem?_eq_getElem (by omega)⟩
  have hyo:=ho y (List.mem_of_getElem? hy)
  have hst:=sumO_take hy
  have hso:szO y=y.ended.length+y.added.length+1:=rfl
  have hsl2:=sumO_le L (i+1)
  refine Tk (Ts (yH (TS ?_)))
  refine Lz ?_
  refine Lq (Qt.loadAggW (opSC y) rfl (λ w ho=>hrd i y hy w (ho.map Sa))) ?_
  refine Le (El [.int .i64 0,.int .i64 0,.slice none 0 0,.slice none 0 0,.int .i64 0,.slice none 0 0,.int .i64 0,.int .i64 0] (by unfold Zf;kernel_rfl) ?_)
  intro g8
  refine L0 (Es [_,_,_,_,_,_,_,_] rfl rfl rfl rfl (by simp) ?_)
  try simp only [splice,lC,lN,dS,cA,tS,tZ,dZ,nA,aN]
  refine Ld (Ts (TS ?_))
  iterate 3 refine Lz ?_
  refine Ld ?_
  refine yN rfl (λ hkc=>?_) (λ hkc=>?_)
  .
   refine TS ?_
   iterate 3 refine Lz ?_
   refine Le (Ec (Sx.crash B s b 12 8 nf K h si (by omega) (.slice y.ka y.keep.length y.kc) y.keep (-1) 0 hyo.k) Tryz.func7 rfl rfl rfl ?_)
   rintro _ _ ⟨D,rd,rfl,rfl⟩
   try simp only [cA,nA]
   refine Ld (TS (Lm rfl ?_))
   have hel:=si.es_len
   refine Le (Ec (Sx.again B b D 12 8 2 i 12 2 rfl rfl h si rd (by omega) (by omega) (by omega) (by omega) (by omega) hli (by omega)) Tryz.func8 rfl rfl rfl ?_)
   rintro _ _ ⟨s2,rfl,rfl⟩
   try simp only [cA,nA]
   iterate 5 refine Lz ?_
   refine Ld (Ts (TS ?_))
   iterate 3 refine Lz ?_
   refine yT (t:=40) rfl rfl ?_
   iterate 3 refine Lz ?_
   refine Ld (yQ rfl ?_)
   obtain ⟨g,hg⟩ : ∃ g,reopen 8 (12*256) h.es=g:=⟨_,rfl⟩
   have hre:Zs h h.es.length=g:=by rw [<-hg];unfold Zs reopen;rw [List.take_length,si.pages,si.room]
   have hsi2:=si.re
   have hg0:=si.re_last
   have hgc:=congrArg List.length si.re_cm
   rw [show reopen 8 3072 h.es=g from hg] at hsi2 hg0 hgc
   rw [hg]
   refine Tk (TS (Lm rfl (La rfl (Ld (TS ?_)))))
   iterate 4 refine Lz ?_
   refine Le (Ec (Hr.restart B q h h.es.length si.r (Nat.le_refl _) (by omega) (by rw [si.room];omega)) Tryz.func9 rfl rfl rfl ?_)
   rintro _ _ ⟨q2,rfl,rfl⟩
   try simp only [cA,nA]
   rw [hre]
   refine L0 (Es [_,_,_,_,_,_,_,_] rfl rfl rfl rfl (by simp) ?_)
   try simp only [splice,lC,lN,dS,cA,tS,tZ,dZ,nA,aN]
   refine Ld (zB (TR ?_))
   iterate 2 refine Lz ?_
   refine Ld ?_
   obtain ⟨hg1,hg0⟩:=hg0
   refine ⟨_,?_,_,⟨_,i+1,i+8+h.es.length+8,s2,2,g,q2,⟨by omega,by omega,hsi2,hg0,by omega,by omega⟩,rfl,U6,rfl⟩,Sa⟩
   omega
  obtain ⟨g,hg,hsi2,hg0,hgl,hgc⟩:=step_si si (by omega) hl0 (y:=y) (ptsP_fx (λ q hq=>hyo.p q hq))
  refine Tk (TS ?_)
  iterate 3 refine Lz ?_
  refine Le (Ec (Sy.step B s b nf K (K+60+9*(y.ended.length+y.added.length)) 4194304 q h y hyo hkk si (by omega) (by omega) hl0 (by omega) (by omega) (Nat.le_refl _) (by omega) g hg) Tryz.func10 rfl rfl rfl ?_)
  rintro _ _ ⟨q2,K2,hK2,rfl,rfl⟩
  try simp only [cA,nA]
  iterate 3 refine Lz ?_
  refine L0 (Es [_,_,_,_,_,_,_,_] rfl rfl rfl rfl (by simp) ?_)
  try simp only [splice,lC,lN,dS,cA,tS,tZ,dZ,nA,aN]
  refine La rfl (Ld (Ts (zW 9 none (nB rfl) ?_)))
  refine Rz 0 ?_;refine Rz 1 ?_;refine Rz 2 ?_
  refine ZD (t:=59) rfl rfl ?_
  refine Rz 3 ?_;refine Rz 5 ?_
  refine yK 4 ?_
  refine z6 rfl (Ec (Sx.last B s b 12 8 nf K2 g) Tryz.func11 rfl rfl rfl ?_)
  rintro _ _ ⟨rfl,rfl⟩
  try simp only [cA,nA]
  refine ⟨Sa,?_⟩
  refine yK 6 ?_
  refine zY rfl (Ec (Hr.lastF B q2 g (by omega)) Tryz.func12 rfl rfl rfl ?_)
  rintro _ _ ⟨rfl,rfl⟩
  try simp only [cA,nA]
  refine Rz 7 ?_;refine Rz 8 ?_
  refine Rd0 (by rfl) ?_
  simp only [dS,dZ,dN]
  refine Ld (yL rfl (Tk (TR ?_)))
  iterate 2 refine Lz ?_
  refine Ld ?_
  refine ⟨_,?_,_,⟨_,i+1,K2,s,nf,g,q2,⟨by omega,by omega,hsi2,hg0,by omega,by omega⟩,rfl,U6,rfl⟩,Sa⟩
  omega
 obtain rfl:i=n:=by omega
 refine zB (Ts (zW 5 none (nB rfl) ?_))
 refine Rz 0 ?_;refine Rz 2 ?_
 refine yK 1 ?_
 refine z6 rfl (Ec (Sx.history B s b 12 8 nf K h si (by omega) (by omega) (-1)) Tryz.func14 rfl rfl rfl ?_)
 rintro _ _ ⟨M,p1,c1,hM,rfl,rfl⟩
 try simp only [cA,nA]
 refine ⟨Sa,?_⟩
 refine yK 3 ?_
 refine zY rfl (Ec (Hr.history B q h 4194304 8 3072 hkk si (by omega) (by omega) (-1)) Tryz.func15 rfl rfl rfl ?_)
 rintro _ _ ⟨Z,p2,c2,hZ,rfl,rfl⟩
 try simp only [cA,nA]
 have hml:M.length=Z.length:=by have:=congrArg List.length (hM.trans hZ.symm);simpa using this
 rw [hml]
 refine yK 4 ?_
 refine zY rfl (Ec (Sx.items B M Z Z.length p1 p2 c1 c2 (hM.trans hZ.symm) hml rfl (λ x hx=>row_len si (by rw [<-hM];exact List.mem_map_of_mem hx:x.it∈histR h (-1))) (by have:=hist_len si (by omega) (-1);have h2:=congrArg List.length hZ;rw [List.length_map] at h2;omega)) Tryz.func13 rfl rfl rfl ?_)
 rintro _ _ ⟨rfl,rfl⟩
 try simp only [cA,nA]
 refine Rd0 (by rfl) ?_
 simp only [dS,dZ,dN]
 refine La rfl (Ld (T.ret ?_))
 exact ⟨.inl rfl,_,_,res [_] rfl ⟨rvT rfl,trivial⟩,⟨rfl,rfl⟩,Sa⟩
end Go.Proofs.YtkfmfoecplbclaaGreatDoor
namespace Go.Proofs.YtkfmfoecplbclaaGreatDoor.storePlays
open Go.ChangeShapes Go.WideShapes Go.ChangeAt Go.RowKit
theorem bulk_one {H:Type} (a:DataW H):Rows.uptoBulkAll [a]=Rows.uptoBulk a:=by simp [Rows.uptoBulkAll]
theorem contract (H:Type) (enc:TypeId×Value->H) (W:World) (base:Nat) (args:Array Value) (ds gs:List (DataW H)) (before:List MemPlace)
  (hval : ∀ (j:Nat) t v,Tryz.f3.params[j]? = some t->args[j]? = some v->Value.okWide Tryz.prog W .any base t v)
  (hW:DataW.Whole enc Tryz.prog Tryz.f3.params.toList Rows.storePlaysSpec.vars false W args.toList ds gs before) (hk:Rows.uptoSmall H (ds++gs)=true) :
  Calls Tryz.prog 3 args W λ e W' => ∃ v,e = .returned v/\Rows.storePlaysSpec.post enc Tryz.prog Tryz.f3 false true false false W args v W':=by
 have hW0:=hW
 obtain ⟨p,q,hA0,hV,rfl,hfz,hnd⟩:=hW
 have hA:DataW.TrodAll enc Tryz.prog W 0 (λ _=>true) true Tryz.f3.params.toList args.toList ds p:=hA0
 rw [Tryz.params3] at hA hval
 obtain ⟨v0,d0,rfl,rfl,h0⟩:=trodAll_one hA
 obtain ⟨rfl,rfl⟩:=trodVars_none hV
 have hbulk:=Tryz.upto_bound hk
 rw [List.append_nil] at hbulk
 clear hA0 hV hk
 obtain ⟨sa0,sl0,sc0,rfl⟩:=okWide_slice Tryz.underlying22 (hval 0 22 v0 rfl rfl)
 obtain ⟨fu0,t0⟩:=h0
 obtain ⟨sv0,l0,hc0,hs0,hB0,hL0⟩:=open_slice_R (enc:=enc) (P:=Tryz.prog) (W:=W) (R:=OpR W) (B:=szT) Tryz.underlying22 (show Tryz.prog.cellsOf 40=8 by kernel_rfl) (λ n cs y=>read_opS n cs y) t0
 simp only [Value.cells,List.cons.injEq,and_true] at hc0
 subst hc0
 dsimp only at hB0 hL0
 have hvl0:=hs0.flV (g:=opSC) (λ cs a h=>h.1) (λ _=>rfl)
 have hok0 : ∀ o∈l0,szT o<=1048576->OpOk (baseOf W) o:=λ o ho=>by
  obtain ⟨_,h⟩:=hs0.all o ho
  exact h.2
 obtain ⟨va0,vc0,hve0⟩:=hvl0.form rfl
 injection hve0 with q10 q20 q30
 subst q10;subst q20;subst q30
 have hsu0:=sumO_le_T l0
 rw [bulk_one] at hbulk
 refine (Fn.law (Sy.plays _ sa0 l0.length sc0 l0 rfl (by omega) hvl0 (λ o ho=>hok0 o ho (by have:=szT_mem ho;omega)))).mono λ e W' ⟨he,hg⟩=>?_
 subst he
 exact ⟨_,rfl,post_law Tryz.laidOut hW0 rfl rfl 4 Tryz.underlying4 (by kernel_rfl) (by rw [Tryz.params3];decide +kernel) hg.toBelow⟩
theorem reads (os:Os) {H:Type} (enc:TypeId×Value->H) : ∃ places,DataW.whole enc Tryz.prog ((laidWorld os).forCall (λ _ _=>0) ⟨#[],#[.slice none 0 0],[]⟩).memory Tryz.f3.params.toList Rows.storePlaysSpec.vars false (#[.slice none 0 0]:Array Value).toList 8=some ([.nil],[],places) :=
 ⟨[],by kernel_rfl⟩
theorem lifted (os:Os) (started:os.Started) (H:Type) (enc:TypeId×Value->H) (F:Stop.Interp) :
  ReturnsInHanded {} Tryz.checked os 3 .any ((Rows.OpenSpec.upto Rows.storePlaysSpec).preRow enc Tryz.prog Tryz.f3 Rows.storePlaysUptoRow.domain false Rows.storePlaysUptoRow.laid) (((Rows.OpenSpec.upto Rows.storePlaysSpec).at F).post enc Tryz.prog Tryz.f3 false true false false):=by
 obtain ⟨places,hx⟩:=reads os enc
 refine returnsInHanded_of_row (C:=Tryz.checked) (s:=Rows.OpenSpec.upto Rows.storePlaysSpec) Tryz.own started (by kernel_rfl) Tryz.func3
  (witness_row_at (enc:=enc) (C:=Tryz.checked) false (laidWorld os) #[.slice none 0 0] rfl (by kernel_rfl) (by kernel_rfl) (by kernel_rfl)
   (OpenSpec.preRow_of_cond 8 hx (by kernel_rfl) (λ k hk=>by cases hk;kernel_rfl) (by kernel_rfl) (laid_met os _))) ?_
 intro W base args ds gs before hval hW _ hcond _ _ _ _
 exact contract H enc W base args ds gs before hval hW (hcond _ rfl)
theorem jA : (Rows.storePlaysUptoRow.inPlace == Tryz.prog.inPlace 3)=true:=by kernel_rfl
theorem jB : (Rows.storePlaysUptoRow.unfollowed == Tryz.prog.unfollowed 3)=true:=by kernel_rfl
theorem jC : (Rows.storePlaysUptoRow.recurses == Tryz.prog.recurses 3)=true:=by kernel_rfl
theorem jD : (Rows.storePlaysUptoRow.named == Tryz.prog.varsNamed 3)=true:=by kernel_rfl
theorem jE : laidOutB Tryz.prog=true:=by kernel_rfl
theorem jF : mapsRowed Tryz.prog=true:=by kernel_rfl
theorem jG : joinedFacts Tryz.prog 3 Tryz.f3 (Rows.OpenSpec.upto Rows.storePlaysSpec).bare Rows.storePlaysUptoRow=true:=by
 unfold joinedFacts
 rw [jA,jB,jC,jD,jE,jF]
 kernel_rfl
theorem over : Rows.storePlaysUptoRow.holds Tryz.pinned (Rows.OpenSpec.upto Rows.storePlaysSpec) :=
 OpenClaim.holds_of_cond 3 Tryz.f3 rfl rfl rfl rfl rfl rfl rfl ⟨rfl,rfl,rfl,rfl,rfl⟩ rfl rfl rfl rfl rfl (by kernel_rfl) Tryz.func3 jG
  (of_decide_eq_true (by kernel_rfl)) (by unfold Func.isWrapper;first | (rw [if_pos (by decide +kernel)];kernel_rfl) | (rw [if_neg (by decide +kernel)];exact ⟨rfl,rfl⟩))
  (λ os started H enc _ F=>by rw [OpenClaim.pre_eq_preRow];exact lifted os started H enc F)
theorem plain (f:FuncId) (fn:Func) (hf:Tryz.pinned.checked.prog.funcNamed "annals/annalslaw21.StorePlays" = some f) (hfn:Tryz.pinned.checked.prog.funcs[f]? = some fn) :
  true=Tryz.pinned.checked.prog.looks [] /\ ∀ (j:Nat) t,fn.params[j]? = some t->Tryz.pinned.checked.prog.wantsStandIn t=false:=by
 obtain rfl:f=3:=Option.some.inj ((show Tryz.prog.funcNamed "annals/annalslaw21.StorePlays" = some 3 by kernel_rfl).symm.trans hf) |>.symm
 obtain rfl:fn=Tryz.f3:=(Option.some.inj (Tryz.func3.symm.trans hfn)).symm
 refine ⟨by kernel_rfl,λ j t ht=>?_⟩
 rw [Tryz.params3] at ht
 have hall:([22]:List TypeId).all (λ t => !Tryz.prog.wantsStandIn t)=true:=by kernel_rfl
 have:=List.all_eq_true.1 hall t (by simpa using Array.mem_of_getElem? ht)
 exact (show Tryz.prog.wantsStandIn t=false by simpa using this)
theorem proved : Rows.StorePlaysUptoCardSaid :=
 Claim7.holds_tied_plain_at .later [] _ _ _ _ over (λ _ h=>by cases h) (by kernel_rfl) (λ _ h=>by cases h) storePlaysUpto_row_tie rfl ⟨rfl,rfl⟩ (by kernel_rfl) rfl plain (by kernel_rfl)
end Go.Proofs.YtkfmfoecplbclaaGreatDoor.storePlays
