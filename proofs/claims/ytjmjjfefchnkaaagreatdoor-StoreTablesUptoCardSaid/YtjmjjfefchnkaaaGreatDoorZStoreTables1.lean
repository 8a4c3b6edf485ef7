/- The law StoreTables of annalslaw21 holds (its card): for all arguments of bulk at most 1048576 the call returns true and the arguments read as before. Condition: the bound of the second form. -/
import Derived.Test.YtjmjjfefchnkaaaGreatDoorZStBase15
set_option linter.unusedSimpArgs false
set_option linter.unusedVariables false
set_option maxRecDepth 100000
set_option maxHeartbeats 16000000
namespace Go.Proofs.YtjmjjfefchnkaaaGreatDoor
open Go.RowKit
structure OpM where
 kind:Int
 stamp:Int
 ended:List (Int×Int)
 added:List PtM
 table:Int
 keep:List Bool
 t0:Int
 t1:Int
 ea:Option Addr
 ec:Nat
 aa:Option Addr
 ac:Nat
 ka:Option Addr
 kc:Nat
abbrev opC (o:OpM):List Value:=[.int .i64 o.kind,.int .i64 o.stamp,.slice o.ea o.ended.length o.ec,.slice o.aa o.added.length o.ac,.int .i64 o.table,.slice o.ka o.keep.length o.kc,.int .i64 o.t0,.int .i64 o.t1]
structure OpOk (B:Wn) (o:OpM):Prop where
 e:FlV B [] ridC (.slice o.ea o.ended.length o.ec) o.ended
 a:FlV B [] ptC (.slice o.aa o.added.length o.ac) o.added
 p : ∀ p∈o.added,PtOk B [] p
 k:RoS B (.slice o.ka o.keep.length o.kc) (boolsV o.keep)
abbrev szO (o:OpM):Nat:=o.ended.length+o.added.length+1
def sumO (l:List OpM):Nat:=(l.map szO).sum
theorem sumO_len : ∀ l:List OpM,l.length≤sumO l
 | []=>Nat.zero_le _
 | a::l=>by have:=sumO_len l;have h1:1≤szO a:=Nat.le_add_left 1 _;unfold sumO at this ⊢;simp only [List.length_cons,List.map_cons,List.sum_cons];omega
theorem sumO_take {l:List OpM} {i:Nat} {x:OpM} (h:l[i]? = some x):sumO (l.take (i+1))=sumO (l.take i)+szO x:=by
 rw [take_snoc h];unfold sumO;simp
theorem sumO_le (l:List OpM) (i:Nat):sumO (l.take i)≤sumO l:=by
 conv=>rhs;rw [←List.take_append_drop i l]
 unfold sumO
 rw [List.map_append,List.sum_append]
 omega
theorem PtOk.mono {B:Wn} {S S':List Wp} {p:PtM} (h:PtOk B S p) (hs : ∀ w,Own B w S'→Own B w S):PtOk B S' p:=⟨h.v.mono hs,h.f,h.t⟩
theorem Sx.elemP : ElemOk Tryz.prog 31 60 4 48 := .mk' (.agg #[.int .i64 0,.slice none 0 0,.int .i64 0,.int .i64 0]) Tryz.underlying31 (by kernel_rfl) rfl (by omega)
abbrev ptR (p:Option Addr) (n c:Nat) (l:List PtM):Wp:=row (.slice p n c) 60 4 n (l.flatMap ptC)
theorem ptsP_fx {B:Wn} {S:List Wp} {l:List PtM} (h : ∀ p∈l,PtOk B S p) : ∀ p∈ptsP l,-(2^63)≤p.1∧p.1<2^63∧FxRd p.2:=by
 intro p hp
 obtain ⟨q,hq,rfl⟩:=List.mem_map.1 hp
 have:=h q hq
 exact ⟨this.t.1,this.t.2,this.f⟩
theorem Own.ptNil {B:Wn} {w:World} {l:List Wp} (H:Own B w l):Own B w (ptR none 0 0 []::l):=H.map fun _ K=>rowNilP K
theorem pt_snoc {Q:List PtM} {x:PtM} {cs:List Value} (hx:cs=ptC x):Q.flatMap ptC++cs=(Q++[x]).flatMap ptC:=by subst hx;simp
theorem Sx.writeG (B:Wn) (S:List Wp) (s b logs count n K:Nat) (h:HR) (si:SI h count (logs*256)) (hc1:1≤count) (hc:count≤4096) (hcl:h.cm.length<2^32) (hla:h.last+1<2^62) (stamp:Int)
  (ea:Option Addr) (en ec:Nat) (ended:List (Int×Int)) (hel:ended.length=en) (hen:en≤2^20) (hev:FlV B S ridC (.slice ea en ec) ended)
  (pa:Option Addr) (m pc:Nat) (PL:List PtM) (hpl:PL.length=m) (hm:m≤2^20) (hpv:FlV B S ptC (.slice pa m pc) PL) (hpo : ∀ p∈PL,PtOk B S p) (K2:Nat) (hK2:K+2*count+2+2*en+(count+1)*m≤K2) (hK:K2<2^28) (g:HR) (hg:(if codeS h stamp ended (ptsP PL)=0 then (writeS h stamp ended ((ptsP PL).map fun p=>recD p.1 p.2)).1 else h)=g) :
  Fn Tryz.prog B 13 #[pV s,.int .i64 stamp,.slice ea en ec,.slice pa m pc] (stoA s b logs count n K h::S) (fun u l=>u = .int .i64 (codeS h stamp ended (ptsP PL))∧l=stoA s b logs count n K2 g::S) :=
 Fn.post (Sx.writeA B S s b logs count n K h si hc1 hc hcl hla stamp ea en ec ended hel hen hev pa m pc PL hpl hm hpv hpo K2 hK2 hK _ rfl) (by rintro u l ⟨rfl,rfl⟩;exact ⟨_,Sr _,rfl,by rw [hg]⟩)
theorem tab_step {h:HR} (si:SI h 8 3072) {a:Int} (ht:TabI h a) (hl:h.last+1<2^62) (h0:0≤h.last) (stamp:Int) {ps:List (Int×Fx1)} (hf : ∀ p∈ps,-(2^63)≤p.1∧p.1<2^63∧FxRd p.2) (ha : ∀ p∈ps,p.1=a) :
    ∃ g,(if codeS h stamp [] ps=0 then (writeS h stamp [] (ps.map fun p=>recD p.1 p.2)).1 else h)=g∧SI g 8 3072∧TabI g a∧0≤g.last∧g.last≤h.last+1∧g.cm.length≤h.cm.length+1:=by
  by_cases hc:codeS h stamp [] ps=0
  · rw [if_pos hc]
    obtain ⟨_,_,_,h4,s1,w⟩:=code_write si (by omega) hl hf hc
    refine ⟨_,rfl,s1,ht.write w (fun d hd=>?_),?_,?_,?_⟩
    · obtain ⟨p,hp,rfl⟩:=List.mem_map.1 hd
      have h5:=h4 p hp
      rw [ha p hp] at h5
      exact ⟨p.2,h5.1,by rw [ha p hp];exact h5.2⟩
    · rw [w.last];omega
    · rw [w.last];omega
    · rw [w.cm];simp
  · rw [if_neg hc]
    exact ⟨h,rfl,si,ht,h0,by omega,by omega⟩
theorem Sx.tables (B:Wn) (sa:Option Addr) (n sc:Nat) (L:List OpM) (hn:L.length=n) (hs:sumO L≤1048576) (hv:FlV B [] opC (.slice sa n sc) L) (ho : ∀ o∈L,OpOk B o) (a b:Int) (ha : -(2^63)≤a∧a<2^63) (hb : -(2^63)≤b∧b<2^63) :
  Fn Tryz.prog B 5 #[.slice sa n sc,.int .i64 a,.int .i64 b] [] (fun v l=>v = .bool true∧l=[]):=by
 have hnl:=sumO_len L
 refine Ws 103 Tryz.func5 rfl rfl (nB rfl) (fun F=>?_)
 try simp only [cA,nA]
 refine TS (La rfl rfl (Ld (Ts (TS ?_))))
 refine Le rfl (Ec (Sx.awake B) Tryz.func8 rfl rfl rfl ?_)
 rintro _ _ ⟨rfl,rfl⟩
 try simp only [cA,nA]
 refine Lq rfl (Y2 rfl) (Ld (yQ rfl (Tk (TS ?_))))
 refine Le rfl (Ec (Sx.opened B) Tryz.func9 rfl rfl rfl ?_)
 rintro _ _ ⟨bd,s,rfl,rfl⟩
 try simp only [cA,nA]
 refine Lm rfl rfl (Lq rfl (Qx rfl rfl) (Lq rfl (Qx rfl rfl) (La rfl rfl (La rfl rfl (Ld (Ts (Ts ?_)))))))
 refine TR (Lm rfl rfl (Lq rfl (Y1 (by kernel_rfl) rfl rfl) (Lm rfl rfl (yT (t:=23) rfl rfl (Lm rfl rfl (Lq rfl (yM rfl rfl) (Lq rfl (Qp rfl rfl) ?_)))))))
 refine Lm rfl rfl ?_
 refine zZ (t:=27) rfl (fun z1=>?_) (fun z1=>?_)
 ·
  try replace z1:=of_decide_eq_true z1
  refine Ls rfl (Ls rfl (Lq rfl (Qp rfl rfl) (Lm rfl rfl (zQ (t:=31) rfl rfl (Ls rfl (Ls rfl (Ls rfl ?_)))))))
  refine Lq rfl (Qp rfl rfl) (Ld (zF rfl (TS (Lm rfl rfl (Lq rfl (YZ (by kernel_rfl) rfl rfl) (La rfl rfl ?_))))))
  refine Ld (T.ret ?_)
  exact ⟨.inl rfl,_,_,res [_] rfl ⟨rvT rfl,trivial⟩,⟨rfl,rfl⟩,Sa⟩
 try replace z1:=of_decide_eq_false z1
 refine Lm rfl rfl (Lq rfl (yM rfl rfl) (Lq rfl (Qp rfl rfl) (Lm rfl rfl ?_)))
 refine zZ (t:=31) rfl (fun z2=>?_) (fun z2=>?_)
 ·
  try replace z2:=of_decide_eq_true z2
  refine Ls rfl (Ls rfl (Ls rfl (Lq rfl (Qp rfl rfl) (Ld (zF rfl (TS ?_))))))
  refine Lm rfl rfl (Lq rfl (YZ (by kernel_rfl) rfl rfl) (La rfl rfl (Ld (T.ret ?_))))
  exact ⟨.inl rfl,_,_,res [_] rfl ⟨rvT rfl,trivial⟩,⟨rfl,rfl⟩,Sa⟩
 try replace z2:=of_decide_eq_false z2
 refine Lm rfl rfl (Lm rfl rfl (Lq rfl (yU rfl rfl) (Lq rfl (Qp rfl rfl) (Ld ?_))))
 refine yN rfl (fun z3=>?_) (fun z3=>?_)
 ·
  refine TS (Lm rfl rfl (Lq rfl (YZ (by kernel_rfl) rfl rfl) (La rfl rfl (Ld (T.ret ?_)))))
  exact ⟨.inl rfl,_,_,res [_] rfl ⟨rvT rfl,trivial⟩,⟨rfl,rfl⟩,Sa⟩
 refine Tk (Ts (TS (Lm rfl rfl (Lq rfl (yI (e:=35) (sz:=8) (by kernel_rfl) rfl) (Lm rfl rfl (Ld ?_))))))
 refine yH ?_
 refine zG (fun mz fz lz => ∃ (f0:Fr) (i K:Nat) (h:HR),(i≤n∧K=16+60*i+9*sumO (L.take i)∧SI h 8 3072∧TabI h a∧0≤h.last∧h.last≤i∧h.cm.length≤i)∧mz=n-i∧fz=(upd (upd (upd (upd (upd (upd f0 1 (.int .i64 a)) 2 (.int .i64 b)) 8 (pV s)) 38 (.slice sa n sc)) 39 (.int .i64 n)) 40 (.int .i64 i))∧lz=stoA s bd 12 8 3 K h::F) ?_ ?_
 · refine ⟨_,_,⟨_,0,16,newR 8 3072,⟨Nat.zero_le _,rfl,SI.new 8 3072,(fun v hv=>by cases hv),by simp [newR],by simp [newR],by simp [newR]⟩,rfl,(Za rfl (Za rfl (Za rfl (Za rfl (Za rfl (Za rfl rfl)))))),rfl⟩,Sa⟩
 rintro mz fz lz ⟨f0,i,K,h,⟨hi,hK,hsi,htab,hl0,hli,hcl⟩,hmz,rfl,rfl⟩
 subst mz
 have hsl:=sumO_le L i
 refine TS (Lq rfl (yM rfl rfl) (Ld (Ts ?_)))
 refine yN rfl (fun hlt=>?_) (fun hlt=>?_)
 ·
  obtain ⟨bo,oo,rfl,hrd⟩:=hv.at (sz:=8) (fun _=>rfl) (by omega)
  obtain ⟨y,hy⟩ : ∃ y,L[i]? = some y:=⟨_,List.getElem?_eq_getElem (by omega)⟩
  have hyo:=ho y (List.mem_of_getElem? hy)
  have hst:=sumO_take hy
  have hso:szO y=y.ended.length+y.added.length+1:=rfl
  have hsl2:=sumO_le L (i+1)
  refine T.conv (fun w ho=>ho.ptNil) (Tk (Ts (yH (TS (Lm rfl rfl (Lq rfl (Qi _ (e:=35) (sz:=8) (by kernel_rfl) rfl rfl rfl (by omega)) ?_))))))
  refine Lq rfl (Qt.loadAggW (opC y) (by kernel_rfl) rfl (fun w ho=>hrd i y hy w (ho.map Sa))) ?_
  refine Le rfl (El [.int .i64 0,.int .i64 0,.slice none 0 0,.slice none 0 0,.int .i64 0,.slice none 0 0,.int .i64 0,.int .i64 0] (by unfold Zf;kernel_rfl) ?_)
  intro g10
  refine La rfl rfl ?_
  refine L0 rfl (Es [_,_,_,_,_,_,_,_] (by kernel_rfl) rfl rfl rfl rfl (by simp) ?_)
  try simp only [splice,lC,lN,dS,cA,tS,tZ,dZ,nA,aN]
  refine Ld (TS (La rfl rfl (Ld (Ts (TS ?_)))))
  refine Lq rfl (Qf (off:=3) (by kernel_rfl) rfl) (Lq rfl (Ql (by kernel_rfl) rfl rfl) (Lq rfl (yI (e:=60) (sz:=4) (by kernel_rfl) rfl) (Lm rfl rfl (Ld (yH ?_)))))
  refine zG (fun mz fz lz => ∃ (f0:Fr) (j:Nat) (Q:List PtM) (pq:Option Addr) (cq:Nat),(j≤y.added.length∧Q=(y.added.take j).map (fun p=>{p with t:=a}))∧mz=y.added.length-j∧fz=(upd (upd (upd (upd (upd (upd (upd (upd (upd (upd (upd (upd f0 1 (.int .i64 a)) 2 (.int .i64 b)) 8 (pV s)) 9 (.int .i64 i)) 10 (.pointer (some ⟨g10,0,none⟩))) 11 (.slice pq j cq)) 38 (.slice (some ⟨bo,oo,none⟩) n sc)) 39 (.int .i64 n)) 40 (.int .i64 i)) 46 (.slice y.aa y.added.length y.ac)) 47 (.int .i64 y.added.length)) 48 (.int .i64 j))∧lz=ptR pq j cq Q::stoA s bd 12 8 3 K h::F) ?_ ?_
  · refine ⟨_,_,⟨_,0,[],none,0,⟨Nat.zero_le _,rfl⟩,rfl,(Za rfl (Za rfl (Za rfl (Za rfl (Za rfl (Za rfl (Za rfl (Za rfl (Za rfl (Za rfl (Za rfl (Za rfl rfl)))))))))))),rfl⟩,Sa⟩
  rintro mz fz lz ⟨f0,j,Q,pq,cq,⟨hj,hQ⟩,hmz,rfl,rfl⟩
  subst mz
  refine TS (Lq rfl (yM rfl rfl) (Ld (Ts ?_)))
  refine yN rfl (fun hlt2=>?_) (fun hlt2=>?_)
  ·
   obtain ⟨bp,op,hap,hrp⟩:=hyo.a.at (sz:=4) (fun _=>rfl) (by omega)
   rw [hap]
   obtain ⟨p,hp⟩ : ∃ p,y.added[j]? = some p:=⟨_,List.getElem?_eq_getElem (by omega)⟩
   refine Tk (Ts (yH (TS (Lq rfl (Qi _ (e:=60) (sz:=4) (by kernel_rfl) rfl rfl rfl (by omega)) (Lq rfl (Qt.loadAggW (ptC p) (by kernel_rfl) rfl (fun w ho=>hrp j p hp w (ho.map Sa))) ?_)))))
   refine Le rfl (El [.int .i64 0,.slice none 0 0,.int .i64 0,.int .i64 0] (by unfold Zf;kernel_rfl) ?_)
   intro g13
   refine L0 rfl (Es [_,_,_,_] (by kernel_rfl) rfl rfl rfl rfl (by simp) ?_)
   try simp only [splice,lC,lN,dS,cA,tS,tZ,dZ,nA,aN]
   refine Ld (TS (Lm rfl rfl (Lq rfl (Q0 (by kernel_rfl) rfl) ?_)))
   refine L0 rfl (E1 (by kernel_rfl) rfl rfl rfl (by first | (simp;done) | (simp;omega)) ?_)
   try simp only [List.set_cons_zero,List.set_cons_succ]
   refine Ld (TR (Lm rfl rfl (Lq rfl (QL [_,_,_,_] (by kernel_rfl) rfl ⟨rfl,rfl,rfl,rfl,trivial⟩) ?_)))
   refine Le rfl (zK [_,_,_,_] (e:=60) (sz:=4) (by kernel_rfl) ⟨.agg #[.int .i64 0,.slice none 0 0,.int .i64 0,.int .i64 0],by kernel_rfl,rfl⟩ rfl rfl rfl (by omega) (by omega) ?_)
   intro g56
   refine Le rfl (Ea Sx.elemP rfl rfl (SrcOf.blk (by kernel_rfl) rfl (by simp [Value.oneCell'])) (by unfold maxLen;omega) (by omega) ?_)
   rintro p4 c4 hp4
   rw [pt_snoc (x:={p with t:=a}) (cs:=[.int .i64 a,.slice p.ra p.f.row.length p.rc,.int .i64 p.f.fr,.int .i64 p.f.to]) rfl]
   refine La rfl rfl (Ld (TR (Lq rfl (Qd rfl rfl (Ze (by omega) (by omega))) (Lm rfl rfl (Ld ?_)))))
   refine ⟨_,?_,_,⟨_,j+1,Q++[{p with t:=a}],p4,c4,⟨by omega,by rw [hQ,take_snoc hp,List.map_append];rfl⟩,rfl,(Za rfl (Za rfl (Za rfl (Za rfl (Za rfl (Za rfl (Za rfl (Za rfl (Za rfl (Za rfl (Za rfl (Za rfl rfl)))))))))))),rfl⟩,Sa⟩
   omega
  obtain rfl:j=y.added.length:=by omega
  rw [List.take_length] at hQ
  have hQl:Q.length=y.added.length:=by rw [hQ,List.length_map]
  have hQo : ∀ q∈Q,PtOk B [] q∧q.t=a:=by
   intro q hq
   rw [hQ] at hq
   obtain ⟨p,hp,rfl⟩:=List.mem_map.1 hq
   have:=hyo.p p hp
   exact ⟨⟨this.v,this.f,ha⟩,rfl⟩
  obtain ⟨g,hg,hsi2,htab2,hg0,hgl,hgc⟩:=tab_step hsi htab (by omega) hl0 ((i:Int)+1) (ps:=ptsP Q) (ptsP_fx (fun q hq=>(hQo q hq).1)) (by intro p hp;obtain ⟨q,hq,rfl⟩:=List.mem_map.1 hp;exact (hQo q hq).2)
  refine zB (TS (Lm rfl rfl (Lm rfl rfl ?_)))
  refine Le rfl (Ec (Sx.history B s bd 12 8 3 K h hsi (by omega) (by omega) b) Tryz.func16 rfl rfl rfl ?_)
  rintro _ _ ⟨L1,pv1,cv1,hL1,rfl,rfl⟩
  try simp only [cA,nA]
  rw [htab.other hsi (by omega) (by omega)] at hL1
  obtain rfl:=List.map_eq_nil_iff.1 hL1
  refine LW.own fun w ho=>?_
  have hpq:=((ho.map Sa:Own B w [ptR pq y.added.length cq Q]).slice_at (p:=pq) (m:=y.added.length) (c:=cq)).2.1
  clear ho
  refine Lq rfl (yI (e:=52) (sz:=7) (by kernel_rfl) rfl) (La rfl rfl (Ld (TS (Lm rfl rfl (Lm rfl rfl (Lq rfl (Qd rfl rfl (Ze (by omega) (by omega))) ?_))))))
  refine Lm rfl rfl ?_
  refine Le rfl (Ec (Sx.writeG B [ptR pq y.added.length cq Q] s bd 12 8 3 (K+8) h hsi (by omega) (by omega) (by omega) (by omega) ((i:Int)+1) none 0 0 [] rfl (by omega) (FlV.empty _ _) pq y.added.length cq Q hQl (by omega) (FlV.row (fun _=>rfl) (by omega) hQl hpq) (fun q hq=>(hQo q hq).1.mono (fun w ho=>ho.map Sa)) (K+61+9*(y.ended.length+y.added.length)) (by omega) (by omega) g hg) Tryz.func13 rfl rfl rfl ?_)
  rintro _ _ ⟨rfl,rfl⟩
  try simp only [cA,nA]
  refine Ld (TS (Lm rfl rfl (Lm rfl rfl ?_)))
  refine Le rfl (Ec (Sx.history B s bd 12 8 3 (K+61+9*(y.ended.length+y.added.length)) g hsi2 (by omega) (by omega) b) Tryz.func16 rfl rfl rfl ?_)
  rintro _ _ ⟨L2,pv2,cv2,hL2,rfl,rfl⟩
  try simp only [cA,nA]
  rw [htab2.other hsi2 (by omega) (by omega)] at hL2
  obtain rfl:=List.map_eq_nil_iff.1 hL2
  refine Lq rfl (yI (e:=52) (sz:=7) (by kernel_rfl) rfl) (Lm rfl rfl (Lq rfl (yW rfl rfl) (Ld (yQ rfl (Tk (TR (Lq rfl (Qd rfl rfl (Ze (by omega) (by omega))) ?_)))))))
  refine Lm rfl rfl (Ld ?_)
  refine ⟨_,?_,_,⟨_,i+1,K+61+9*(y.ended.length+y.added.length)+8,g,⟨by omega,by omega,hsi2,htab2,hg0,by omega,by omega⟩,rfl,(Za rfl (Za rfl (Za rfl (Za rfl (Za rfl (Za rfl rfl)))))),rfl⟩,Sa⟩
  omega
 obtain rfl:i=n:=by omega
 obtain ⟨t1,t2,t3⟩:=htab.all hsi
 refine zB (TS (Lm rfl rfl ?_))
 refine Le rfl (Ec (Sx.history B s bd 12 8 3 K h hsi (by omega) (by omega) (-1)) Tryz.func16 rfl rfl rfl ?_)
 rintro _ _ ⟨L1,pv1,cv1,hL1,rfl,rfl⟩
 try simp only [cA,nA]
 have hl1:=congrArg List.length hL1
 rw [List.length_map,t1] at hl1
 refine Lq rfl (yI (e:=52) (sz:=7) (by kernel_rfl) rfl) (Lm rfl rfl (Lm rfl rfl ?_))
 refine Le rfl (Ec (Sx.history B s bd 12 8 3 (K+8) h hsi (by omega) (by omega) a) Tryz.func16 rfl rfl rfl ?_)
 rintro _ _ ⟨L2,pv2,cv2,hL2,rfl,rfl⟩
 try simp only [cA,nA]
 have hl2:=congrArg List.length hL2
 rw [List.length_map,←hl1] at hl2
 rw [hl2]
 refine Lq rfl (yI (e:=52) (sz:=7) (by kernel_rfl) rfl) (Lq rfl (yU rfl rfl) (Lm rfl rfl (zQ (t:=83) rfl (decide_eq_true (by omega)) (Lm rfl rfl (Lm rfl rfl (Lm rfl rfl ?_))))))
 refine Le rfl (Ec (Sx.last B s bd 12 8 3 (K+8+8) h) Tryz.func12 rfl rfl rfl ?_)
 rintro _ _ ⟨rfl,rfl⟩
 try simp only [cA,nA]
 refine Le rfl (Ec (Sx.see B s bd 12 8 3 (K+8+8) h hsi (by omega) (by omega) a (lastS h)) Tryz.func14 rfl rfl rfl ?_)
 rintro _ _ ⟨L3,pv3,cv3,hL3,rfl,rfl⟩
 try simp only [cA,nA]
 have hl3:=congrArg List.length hL3
 rw [List.length_map,t2,←hl1] at hl3
 refine Lq rfl (yI (e:=52) (sz:=7) (by kernel_rfl) rfl) (Lm rfl rfl (Lm rfl rfl ?_))
 refine Le rfl (Ec (Sx.history B s bd 12 8 3 (K+8+8+8) h hsi (by omega) (by omega) a) Tryz.func16 rfl rfl rfl ?_)
 rintro _ _ ⟨L4,pv4,cv4,hL4,rfl,rfl⟩
 try simp only [cA,nA]
 have hl4:=congrArg List.length hL4
 rw [List.length_map,←hl1,←hl3] at hl4
 rw [hl4]
 refine Lq rfl (yI (e:=52) (sz:=7) (by kernel_rfl) rfl) (Lq rfl (yU rfl rfl) (Lq rfl (Qp rfl rfl) (Lm rfl rfl (zQ (t:=96) rfl (decide_eq_true (by omega)) (Lm rfl rfl (Lm rfl rfl ?_))))))
 refine Le rfl (Ec (Sx.see B s bd 12 8 3 (K+8+8+8+8) h hsi (by omega) (by omega) a 0) Tryz.func14 rfl rfl rfl ?_)
 rintro _ _ ⟨L5,pv5,cv5,hL5,rfl,rfl⟩
 try simp only [cA,nA]
 rw [t3] at hL5
 obtain rfl:=List.map_eq_nil_iff.1 hL5
 refine Lq rfl (yI (e:=52) (sz:=7) (by kernel_rfl) rfl) (Lq rfl (yU rfl rfl) (Lq rfl (Qp rfl rfl) (La rfl rfl (Ld (T.ret ?_)))))
 exact ⟨.inl rfl,_,_,res [_] rfl ⟨rvT rfl,trivial⟩,⟨rfl,rfl⟩,Sa⟩
end Go.Proofs.YtjmjjfefchnkaaaGreatDoor
namespace Go.Proofs.YtjmjjfefchnkaaaGreatDoor
open Go.ChangeShapes Go.WideShapes Go.ChangeAt Go.RowKit
section
variable {H : Type} {enc:TypeId×Value→H} {W:World}
theorem len7 {α:Type} {l:List α} (h:l.length=7) : ∃ a b c d e f g,l=[a,b,c,d,e,f,g]:=by
 match l,h with
 | [a,b,c,d,e,f,g],_=>exact ⟨a,b,c,d,e,f,g,rfl⟩
theorem len8 {α:Type} {l:List α} (h:l.length=8) : ∃ a b c d e f g i,l=[a,b,c,d,e,f,g,i]:=by
 match l,h with
 | [a,b,c,d,e,f,g,i],_=>exact ⟨a,b,c,d,e,f,g,i,rfl⟩
theorem len4 {α:Type} {l:List α} (h:l.length=4) : ∃ a b c d,l=[a,b,c,d]:=by
 match l,h with
 | [a,b,c,d],_=>exact ⟨a,b,c,d,rfl⟩
theorem read_boolsS (n:Nat) (c:Value) (y:DataW H×List MemPlace) (h:Tr enc Tryz.prog W n 32 [c]=some y) : ∃ (l:List Bool) (fp:List Nat),Reads W c (boolsV l) fp∧l.length+1≤Rows.uptoBulk y.1:=by
 obtain ⟨v,l,hc,hs,_,hL⟩:=open_slice_R (R:=fun cs (a:Bool)=>cs=[.bool a]) (B:=fun _=>1) Tryz.underlying32 (show Tryz.prog.cellsOf 4=1 by kernel_rfl) (by omega) (fun n cs y=>read_bool Tryz.underlying4 n cs y) h
 simp only [List.cons.injEq,and_true] at hc
 subst hc
 obtain ⟨fp,hR,hfp⟩:=hs.reads (fun a:Bool=>Value.bool a) (fun cs a h=>h)
 exact ⟨l,fp,hR,hL⟩
theorem read_rid (n:Nat) (cs:List Value) (y:DataW H×List MemPlace) (h:Tr enc Tryz.prog W n 45 cs=some y) : ∃ p:Int×Int,cs=ridC p∧1≤Rows.uptoBulk y.1:=by
 obtain ⟨xs,m,rfl,rfl,hl,hx,hf⟩:=DataW.trod_struct Tryz.underlying45 h
 rw [show Tryz.prog.cellsOf 45=2 by kernel_rfl] at hl
 obtain ⟨c0,c1,rfl⟩:=len2 hl
 obtain ⟨x0,x1,rfl⟩:=len2 hx
 have f0:=field_of hf 0 3 0 1 rfl (by kernel_rfl)
 have f1:=field_of hf 1 3 1 1 rfl (by kernel_rfl)
 simp only [List.drop_zero,List.drop_succ_cons,List.take_succ_cons,List.take_zero,List.getElem?_cons_zero,List.getElem?_cons_succ] at f0 f1
 obtain ⟨i0,e0,_,_⟩:=DataW.trod_int Tryz.underlying3 f0
 obtain ⟨i1,e1,_,_⟩:=DataW.trod_int Tryz.underlying3 f1
 simp only [List.cons.injEq,and_true] at e0 e1
 subst e0;subst e1
 exact ⟨(i0,i1),rfl,by simp [Rows.uptoBulk]⟩
def PtR (W:World) (cs:List Value) (p:PtM):Prop:=cs=ptC p∧(szF p.f≤1048576→PtOk (baseOf W) [] p)
theorem read_part (n:Nat) (cs:List Value) (y:DataW H×List MemPlace) (h:Tr enc Tryz.prog W n 60 cs=some y) : ∃ p:PtM,PtR W cs p∧szF p.f+1≤Rows.uptoBulk y.1:=by
 obtain ⟨xs,m,rfl,rfl,hl,hx,hf⟩:=DataW.trod_struct Tryz.underlying60 h
 rw [show Tryz.prog.cellsOf 60=4 by kernel_rfl] at hl
 obtain ⟨c0,c1,c2,c3,rfl⟩:=len4 hl
 obtain ⟨x0,x1,rfl⟩:=len2 hx
 have f0:=field_of hf 0 3 0 1 rfl (by kernel_rfl)
 have f1:=field_of hf 1 50 1 3 rfl (by kernel_rfl)
 simp only [List.drop_zero,List.drop_succ_cons,List.take_succ_cons,List.take_zero,List.getElem?_cons_zero,List.getElem?_cons_succ] at f0 f1
 obtain ⟨i0,⟨e0,b1,b2⟩,_⟩:=read_i64 Tryz.underlying3 _ _ _ f0
 obtain ⟨f,hR,hB⟩:=read_fact _ _ _ f1
 have hrd:=hR.rd
 obtain ⟨a,c,e1,hfl,_⟩:=hR
 simp only [List.cons.injEq,and_true] at e0 e1
 obtain ⟨rfl,rfl,rfl⟩:=e1
 subst e0
 refine ⟨⟨i0,f,a,c⟩,⟨rfl,fun hs=>⟨hfl,hrd hs,by dsimp only;omega⟩⟩,?_⟩
 simp only [List.map_cons,List.map_nil,Rows.uptoBulk,Rows.uptoBulkAll]
 omega
def szT (o:OpM):Nat:=o.ended.length+(o.added.map fun p=>szF p.f+1).sum+1
theorem sumP_len : ∀ l:List PtM,l.length≤(l.map fun p=>szF p.f+1).sum
 | []=>Nat.zero_le _
 | a::l=>by have:=sumP_len l;simp only [List.length_cons,List.map_cons,List.sum_cons];omega
theorem sumP_mem : ∀ {l:List PtM} {p:PtM},p∈l→szF p.f≤(l.map fun p=>szF p.f+1).sum
 | a::l,p,h=>by
  simp only [List.map_cons,List.sum_cons]
  rcases List.mem_cons.1 h with rfl | h
  · omega
  · have:=sumP_mem h;omega
theorem szO_le (o:OpM):szO o≤szT o:=by have:=sumP_len o.added;unfold szO szT;omega
theorem sumO_le_T : ∀ l:List OpM,sumO l≤(l.map szT).sum
 | []=>Nat.le_refl _
 | a::l=>by have:=sumO_le_T l;have:=szO_le a;unfold sumO at *;simp only [List.map_cons,List.sum_cons];omega
theorem szT_mem : ∀ {l:List OpM} {o:OpM},o∈l→szT o≤(l.map szT).sum
 | a::l,o,h=>by
  simp only [List.map_cons,List.sum_cons]
  rcases List.mem_cons.1 h with rfl | h
  · omega
  · have:=szT_mem h;omega
def OpR (W:World) (cs:List Value) (o:OpM):Prop:=cs=opC o∧(szT o≤1048576→OpOk (baseOf W) o)
theorem read_opS (n:Nat) (cs:List Value) (y:DataW H×List MemPlace) (h:Tr enc Tryz.prog W n 35 cs=some y) : ∃ o:OpM,OpR W cs o∧szT o≤Rows.uptoBulk y.1:=by
  obtain ⟨xs,m,rfl,rfl,hl,hx,hf⟩:=DataW.trod_struct Tryz.underlying35 h
  rw [show Tryz.prog.cellsOf 35=8 by kernel_rfl] at hl
  obtain ⟨c0,c1,c2,c3,c4,c5,c6,c7,rfl⟩:=len8 hl
  obtain ⟨x0,x1,x2,x3,x4,x5,x6,rfl⟩:=len7 hx
  have k0:Tryz.prog.cellsOf 3=1:=by kernel_rfl
  have f0:=field_of hf 0 3 0 1 rfl k0
  have f1:=field_of hf 1 2 1 1 rfl (by kernel_rfl)
  have f2:=field_of hf 2 30 2 1 rfl (by kernel_rfl)
  have f3:=field_of hf 3 31 3 1 rfl (by kernel_rfl)
  have f4:=field_of hf 4 3 4 1 rfl k0
  have f5:=field_of hf 5 32 5 1 rfl (by kernel_rfl)
  have f6:=field_of hf 6 33 6 2 rfl (by kernel_rfl)
  simp only [List.drop_zero,List.drop_succ_cons,List.take_succ_cons,List.take_zero,List.getElem?_cons_zero,List.getElem?_cons_succ] at f0 f1 f2 f3 f4 f5 f6
  obtain ⟨i0,e0,_,_⟩:=DataW.trod_int Tryz.underlying3 f0
  obtain ⟨i1,e1,_,_⟩:=DataW.trod_int Tryz.underlying2 f1
  obtain ⟨v2,l2,e2,hs2,_,hL2⟩:=open_slice_R (R:=fun cs p=>cs=ridC p) (B:=fun _=>1) Tryz.underlying30 (show Tryz.prog.cellsOf 45=2 by kernel_rfl) (by omega) (fun n cs y=>read_rid n cs y) f2
  obtain ⟨v3,l3,e3,hs3,hB3,_⟩:=open_slice_R (R:=PtR W) (B:=fun p=>szF p.f+1) Tryz.underlying31 (show Tryz.prog.cellsOf 60=4 by kernel_rfl) (by omega) (fun n cs y=>read_part n cs y) f3
  obtain ⟨i4,e4,_,_⟩:=DataW.trod_int Tryz.underlying3 f4
  obtain ⟨lk,fk,hk,hkl⟩:=read_boolsS _ _ _ f5
  obtain ⟨ys,m',e',e6,hl4,hy,hg⟩:=DataW.trod_array Tryz.underlying33 f6
  obtain ⟨y0,y1,rfl⟩:=len2 hy
  have g0:=hg 0 (by omega)
  have g1:=hg 1 (by omega)
  simp only [k0,Nat.zero_mul,Nat.one_mul,Nat.mul_one,List.drop_zero,List.drop_succ_cons,List.take_succ_cons,List.take_zero,List.getElem?_cons_zero,List.getElem?_cons_succ] at g0 g1
  obtain ⟨j0,q0,_,_⟩:=DataW.trod_int Tryz.underlying3 g0
  obtain ⟨j1,q1,_,_⟩:=DataW.trod_int Tryz.underlying3 g1
  simp only [List.cons.injEq,and_true] at e0 e1 e2 e3 e4 q0 q1
  subst e0;subst e1;subst e2;subst e3;subst e4;subst q0;subst q1
  have hf2:=hs2.flV (g:=ridC) (fun cs a h=>h) (fun _=>rfl)
  have hf3:=hs3.flV (g:=ptC) (fun cs a h=>h.1) (fun _=>rfl)
  obtain ⟨ea,ec,rfl⟩:=hf2.form rfl
  obtain ⟨aa,ac,rfl⟩:=hf3.form rfl
  have hkr:=RoS.ofReads hk
  obtain ⟨ka,kc,e,hk5⟩:=hkr
  rw [show (boolsV lk).length=lk.length by simp [boolsV]] at e
  subst e
  refine ⟨⟨i0,i1,l2,l3,i4,lk,j0,j1,ea,ec,aa,ac,ka,kc⟩,⟨rfl,fun hs=>⟨hf2,hf3,fun p hp=>?_,⟨ka,kc,by simp [boolsV],hk5⟩⟩⟩,?_⟩
  · obtain ⟨_,hR⟩:=hs3.all p hp
    have hq:szF p.f≤(l3.map fun p=>szF p.f+1).sum:=sumP_mem hp
    unfold szT at hs
    dsimp only at hs
    exact hR.2 (by omega)
  · unfold szT
    simp only [List.map_cons,List.map_nil,Rows.uptoBulk,Rows.uptoBulkAll]
    omega
end
end Go.Proofs.YtjmjjfefchnkaaaGreatDoor
namespace Go.Proofs.YtjmjjfefchnkaaaGreatDoor.storeTables
open Go.ChangeShapes Go.WideShapes Go.ChangeAt Go.RowKit
theorem bulk_three {H:Type} (a b c:DataW H):Rows.uptoBulkAll [a,b,c]=Rows.uptoBulk a+Rows.uptoBulk b+Rows.uptoBulk c:=by simp [Rows.uptoBulkAll];omega
theorem contract (H:Type) (enc:TypeId×Value→H) (W:World) (base:Nat) (args:Array Value) (ds gs:List (DataW H)) (before:List MemPlace)
  (hval : ∀ (j:Nat) t v,Tryz.f5.params[j]? = some t→args[j]? = some v→Value.okWide Tryz.prog W .any base t v)
  (hW:DataW.Whole enc Tryz.prog Tryz.f5.params.toList Rows.storeTablesSpec.vars false W args.toList ds gs before) (hk:Rows.uptoSmall H (ds++gs)=true) :
  Calls Tryz.prog 5 args W fun e W' => ∃ v,e = .returned v∧Rows.storeTablesSpec.post enc Tryz.prog Tryz.f5 false true false false W args v W':=by
 have hW0:=hW
 obtain ⟨p,q,hA0,hV,rfl,hfz,hnd⟩:=hW
 have hA:DataW.TrodAll enc Tryz.prog W 0 (fun _=>true) true Tryz.f5.params.toList args.toList ds p:=hA0
 rw [Tryz.params5] at hA hval
 obtain ⟨v0,v1,v2,d0,d1,d2,p0,p1,p2,rfl,rfl,rfl,h0,h1,h2⟩:=trodAll_three hA
 obtain ⟨rfl,rfl⟩:=trodVars_none hV
 have hbulk:=Tryz.upto_bound hk
 rw [List.append_nil] at hbulk
 clear hA0 hV hk
 obtain ⟨sa0,sl0,sc0,rfl⟩:=okWide_slice Tryz.underlying22 (hval 0 22 v0 rfl rfl)
 obtain ⟨fu0,t0⟩:=h0
 obtain ⟨sv0,l0,hc0,hs0,hB0,hL0⟩:=open_slice_R (enc:=enc) (P:=Tryz.prog) (W:=W) (R:=OpR W) (B:=szT) Tryz.underlying22 (show Tryz.prog.cellsOf 35=8 by kernel_rfl) (by omega) (fun n cs y=>read_opS n cs y) t0
 simp only [Value.cells,List.cons.injEq,and_true] at hc0
 subst hc0
 dsimp only at hB0 hL0
 have hvl0:=hs0.flV (g:=opC) (fun cs a h=>h.1) (fun _=>rfl)
 have hok0 : ∀ o∈l0,szT o≤1048576→OpOk (baseOf W) o:=fun o ho=>by
  obtain ⟨_,h⟩:=hs0.all o ho
  exact h.2
 obtain ⟨va0,vc0,hve0⟩:=hvl0.form rfl
 injection hve0 with q10 q20 q30
 subst q10;subst q20;subst q30
 have hsu0:=sumO_le_T l0
 obtain ⟨n1,rfl⟩:=okWide_int Tryz.underlying3 (hval 1 3 v1 rfl rfl)
 obtain ⟨fu1,t1⟩:=h1
 obtain ⟨a1,⟨ha1,hb1,hc1⟩,_⟩:=read_i64 Tryz.underlying3 _ _ _ t1
 simp only [Value.cells,List.cons.injEq,and_true,Value.int.injEq,true_and] at ha1
 subst ha1
 obtain ⟨n2,rfl⟩:=okWide_int Tryz.underlying3 (hval 2 3 v2 rfl rfl)
 obtain ⟨fu2,t2⟩:=h2
 obtain ⟨a2,⟨ha2,hb2,hc2⟩,_⟩:=read_i64 Tryz.underlying3 _ _ _ t2
 simp only [Value.cells,List.cons.injEq,and_true,Value.int.injEq,true_and] at ha2
 subst ha2
 rw [bulk_three] at hbulk
 refine (Fn.law (Sx.tables _ sa0 l0.length sc0 l0 rfl (by omega) hvl0 (fun o ho=>hok0 o ho (by have:=szT_mem ho;omega)) n1 n2 (by omega) (by omega))).mono fun e W' ⟨he,hg⟩=>?_
 subst he
 exact ⟨_,rfl,post_law Tryz.laidOut hW0 rfl rfl 4 Tryz.underlying4 (by kernel_rfl) (by rw [Tryz.params5];decide +kernel) hg.toBelow⟩
theorem reads (os:Os) {H:Type} (enc:TypeId×Value→H) : ∃ places,DataW.whole enc Tryz.prog ((laidWorld os).forCall (fun _ _=>0) ⟨#[],#[.slice none 0 0,.int .i64 0,.int .i64 0],[]⟩).memory Tryz.f5.params.toList Rows.storeTablesSpec.vars false (#[.slice none 0 0,.int .i64 0,.int .i64 0]:Array Value).toList 8=some ([.nil,.lit (.int .i64 0),.lit (.int .i64 0)],[],places) :=
 ⟨[],by kernel_rfl⟩
theorem lifted (os:Os) (started:os.Started) (H:Type) (enc:TypeId×Value→H) (F:Stop.Interp) :
  ReturnsInHanded {} Tryz.checked os 5 .any ((Rows.OpenSpec.upto Rows.storeTablesSpec).preRow enc Tryz.prog Tryz.f5 Rows.storeTablesUptoRow.domain false Rows.storeTablesUptoRow.laid) (((Rows.OpenSpec.upto Rows.storeTablesSpec).at F).post enc Tryz.prog Tryz.f5 false true false false):=by
 obtain ⟨places,hx⟩:=reads os enc
 refine returnsInHanded_of_row (C:=Tryz.checked) (s:=Rows.OpenSpec.upto Rows.storeTablesSpec) Tryz.own started (by kernel_rfl) Tryz.func5
  (witness_row_at (enc:=enc) (C:=Tryz.checked) false (laidWorld os) #[.slice none 0 0,.int .i64 0,.int .i64 0] rfl (by kernel_rfl) (by kernel_rfl) (by kernel_rfl)
   (OpenSpec.preRow_of_cond 8 hx (by kernel_rfl) (fun k hk=>by cases hk;kernel_rfl) (by kernel_rfl) (laid_met os _))) ?_
 intro W base args ds gs before hval hW _ hcond _ _ _ _
 exact contract H enc W base args ds gs before hval hW (hcond _ rfl)
theorem jA : (Rows.storeTablesUptoRow.inPlace == Tryz.prog.inPlace 5)=true:=by kernel_rfl
theorem jB : (Rows.storeTablesUptoRow.unfollowed == Tryz.prog.unfollowed 5)=true:=by kernel_rfl
theorem jC : (Rows.storeTablesUptoRow.recurses == Tryz.prog.recurses 5)=true:=by kernel_rfl
theorem jD : (Rows.storeTablesUptoRow.named == Tryz.prog.varsNamed 5)=true:=by kernel_rfl
theorem jE : laidOutB Tryz.prog=true:=by kernel_rfl
theorem jF : mapsRowed Tryz.prog=true:=by kernel_rfl
theorem jG : joinedFacts Tryz.prog 5 Tryz.f5 (Rows.OpenSpec.upto Rows.storeTablesSpec).bare Rows.storeTablesUptoRow=true:=by
 unfold joinedFacts
 rw [jA,jB,jC,jD,jE,jF]
 kernel_rfl
theorem over : Rows.storeTablesUptoRow.holds Tryz.pinned (Rows.OpenSpec.upto Rows.storeTablesSpec) :=
 OpenClaim.holds_of_cond 5 Tryz.f5 rfl rfl rfl rfl rfl rfl rfl ⟨rfl,rfl,rfl,rfl,rfl⟩ rfl rfl rfl rfl rfl (by kernel_rfl) Tryz.func5 jG
  (of_decide_eq_true (by kernel_rfl)) (by unfold Func.isWrapper;first | (rw [if_pos (by decide +kernel)];kernel_rfl) | (rw [if_neg (by decide +kernel)];exact ⟨rfl,rfl⟩))
  (fun os started H enc _ F=>by rw [OpenClaim.pre_eq_preRow];exact lifted os started H enc F)
theorem plain (f:FuncId) (fn:Func) (hf:Tryz.pinned.checked.prog.funcNamed "annals/annalslaw21.StoreTables" = some f) (hfn:Tryz.pinned.checked.prog.funcs[f]? = some fn) :
  true=Tryz.pinned.checked.prog.looks [] ∧ ∀ (j:Nat) t,fn.params[j]? = some t→Tryz.pinned.checked.prog.wantsStandIn t=false:=by
 obtain rfl:f=5:=Option.some.inj ((show Tryz.prog.funcNamed "annals/annalslaw21.StoreTables" = some 5 by kernel_rfl).symm.trans hf) |>.symm
 obtain rfl:fn=Tryz.f5:=(Option.some.inj (Tryz.func5.symm.trans hfn)).symm
 refine ⟨by kernel_rfl,fun j t ht=>?_⟩
 rw [Tryz.params5] at ht
 have hall:([22,3,3]:List TypeId).all (fun t => !Tryz.prog.wantsStandIn t)=true:=by kernel_rfl
 have:=List.all_eq_true.1 hall t (by simpa using Array.mem_of_getElem? ht)
 exact (show Tryz.prog.wantsStandIn t=false by simpa using this)
theorem proved : Rows.StoreTablesUptoCardSaid :=
 Claim7.holds_tied_plain_at .later [] _ _ _ _ over (fun _ h=>by cases h) (by kernel_rfl) (fun _ h=>by cases h) storeTablesUpto_row_tie rfl ⟨rfl,rfl⟩ (by kernel_rfl) rfl plain (by kernel_rfl)
end Go.Proofs.YtjmjjfefchnkaaaGreatDoor.storeTables
