/- The texts HeU HeV HpG, one behind the other: what the law leans on. Conditions: as each theorem says. -/
import Derived.Test.YtfjjgdnepfgnhaaGreatDoorZHfBase14
set_option linter.unusedSimpArgs false
set_option linter.unusedVariables false
set_option maxRecDepth 100000
set_option maxHeartbeats 16000000
namespace Go.Proofs.YtfjjgdnepfgnhaaGreatDoor
open Go.RowKit
def mksOf (es:List En):List Int:=(logR 0 (es.map Zj)).map fun x=>(x.1:Int)
theorem mks_len (es:List En):(mksOf es).length=es.length:=by simp [mksOf,length_logR]
theorem rec_of {R:List WRec} {es:List En} (h:R.map (fun x:WRec=>(x.mark,x.r.b))=logR 0 (es.map Zj)) {i:Nat} {x:WRec} (hx:R[i]? = some x) : ∃ e,es[i]? = some e∧x.r.b=Zj e∧(mksOf es)[i]? = some (x.mark:Int):=by
 have h1:=congrArg (·[i]?) h
 simp only [List.getElem?_map,hx,Option.map_some] at h1
 have h2:=congrArg (·[i]?) (logR_snd 0 (es.map Zj))
 simp only [List.getElem?_map,←h1,Option.map_some] at h2
 cases he:es[i]? with
 | none=>rw [he] at h2;cases h2
 | some e =>
  rw [he] at h2
  refine ⟨e,rfl,by simpa using h2,?_⟩
  unfold mksOf
  rw [List.getElem?_map,←h1];rfl
theorem mark_le {es:List En} {i:Nat} {m:Int} (h:(mksOf es)[i]? = some m):0≤m∧m≤(Zr 0 0 (es.map Zj)).length:=by
 have key : ∀ (ds:List (List UInt8)) (s:UInt32) (k i:Nat) (x:Nat×List UInt8),(logR k ds)[i]? = some x→x.1≤k+(Zr s k ds).length:=by
  intro ds
  induction ds with
  | nil=>intro s k i x h;simp [logR] at h
  | cons d ds ih =>
   intro s k i x h
   simp only [Zr,List.length_append,Wf]
   cases i with
   | zero=>simp [logR] at h;rw [←h];dsimp only;omega
   | succ i =>
    have:=ih (sealW s k d) (k+(8+d.length)) i x (by simpa [logR] using h)
    omega
 unfold mksOf at h
 rw [List.getElem?_map] at h
 cases hx:(logR 0 (es.map Zj))[i]? with
 | none=>rw [hx] at h;cases h
 | some x =>
  rw [hx] at h
  simp only [Option.map_some,Option.some.injEq] at h
  have:=key _ 0 0 i x hx
  omega
theorem Own.recCap {B:Wn} {w:World} {l:List Wp} {R:List Rec} (ho:Own B w (recsA R::l)) (j:Nat) (hj:j<R.length):R[j].b.length≤R[j].c:=owns_cap (ho.rec_owns j hj)
def cmSt (l:List (Int×Int)):List (Int×Int):=l.foldl (fun st c=>putL st c.1 2) []
theorem cmSt_snoc {l:List (Int×Int)} {j:Nat} {c:Int×Int} (h:l[j]? = some c):cmSt (l.take (j+1))=putL (cmSt (l.take j)) c.1 2:=by
 obtain ⟨hj,rfl⟩:=List.getElem?_eq_some_iff.1 h
 unfold cmSt
 rw [List.take_succ_eq_append_getElem hj,List.foldl_append]
 rfl
theorem cmSt_look (l:List (Int×Int)) (t:Int):lookS (cmSt l) t=if t∈l.map (·.1) then 2 else 0:=by
  induction l using snocI with
  | nil=>simp [cmSt,lookS,Zy]
  | snoc l c ih =>
    have e:cmSt (l++[c])=putL (cmSt l) c.1 2:=by unfold cmSt;rw [List.foldl_append];rfl
    rw [e]
    unfold lookS at ih ⊢
    by_cases h:c.1=t
    · subst h
      rw [look_put_same,if_pos (by simp)];rfl
    · rw [look_put_ne _ h,ih]
      by_cases ht:t∈l.map (·.1)
      · rw [if_pos ht,if_pos (by rw [List.map_append];exact List.mem_append_left _ ht)]
      · rw [if_neg ht,if_neg]
        rw [List.map_append,List.mem_append]
        rintro (q | q)
        · exact ht q
        · simp at q;exact h q.symm
abbrev reopen (pages room:Nat) (es:List En):HR:={replay pages room es with last:=lastE es}
theorem reopen_inv {pages room:Nat} {es:List En} (h:HistOk pages room es):RInv (reopen pages room es):=by
  obtain ⟨a,b,c,d,e⟩:=replay_es pages room es
  refine ⟨?_,?_,?_,?_,?_,?_,?_,?_⟩
  · show HistOk (replay pages room es).pages (replay pages room es).room (replay pages room es).es
    rw [a,b,c];exact h
  · show (replay (replay pages room es).pages (replay pages room es).room (replay pages room es).es).vs=_
    rw [a,b,c]
  · show (replay (replay pages room es).pages (replay pages room es).room (replay pages room es).es).cm=_
    rw [a,b,c]
  · show (replay (replay pages room es).pages (replay pages room es).room (replay pages room es).es).used=_
    rw [a,b,c]
  · show ∀ t∈(replay pages room es).act,_
    rw [d];simp
  · show ∀ x∈(replay pages room es).es,x.txn≤lastE es
    rw [a];exact (lastE_le _ _).2
  · show ∀ t∈(replay pages room es).act,_
    rw [d];simp
  · exact (lastE_le _ _).1
theorem reopen_st {pages room:Nat} {es:List En}:StI (cmSt (replay pages room es).cm) (reopen pages room es):=fun t=>by
 rw [cmSt_look]
 have ha:Zp (reopen pages room es) t=false:=by unfold Zp;rw [show (reopen pages room es).act=[] from (replay_es pages room es).2.2.2.1];rfl
 unfold stN
 rw [ha]
 have hc:Wa (reopen pages room es) t=true↔t∈(replay pages room es).cm.map (·.1):=by unfold Wa;rw [List.contains_iff_mem]
 simp only [hc]
 simp
theorem zip_map_fst {α β:Type} : ∀ {l:List α} {m:List β},l.length=m.length→(l.zip m).map (·.1)=l
 | [],_,_=>by simp
 | a::l,[],h=>by simp at h
 | a::l,b::m,h=>by simp [zip_map_fst (l:=l) (m:=m) (by simpa using h)]
open Go.RowKit
theorem Bp.new (B:Wn) (b gl gs first count n:Nat) (D:DD) (i j k:Int) (hi:i=first) (hj:j=count) (hk:k=n) (hs:D.secs.length≤4096) (h1:1≤count) (hD:first+count≤D.secs.length) (hn1:1≤n) (hn2:n≤4096) :
  Fn Tryz.prog B 35 #[.pointer (some ⟨b,0,none⟩),.int .i64 i,.int .i64 j,.int .i64 k,.slice (some ⟨gs,0,none⟩) 1 1] [Zn b D,blk gs [ifW gl] 202] (fun u l => ∃ g,u = .tuple #[.pointer (some ⟨g,0,none⟩),.int .i64 0]∧l=[plA g b n first count 0 gl (List.replicate n fa1),Zn b D]):=by
 refine (Bf.new B [blk gs [ifW gl] 202] b D first count n i j k hi hj hk (.slice (some ⟨gs,0,none⟩) 1 1) [ifW gl] hs h1 hD hn1 hn2 ⟨_,1,rfl,.inr ⟨gs,0,rfl,fun w ho=>ho.range (g:=gs) (C:=[ifW gl]) (fun j u hj=>by rw [Nat.zero_add];exact hj)⟩⟩ (by simp [Value.oneCell']) (by simp)).sub ?_
 rintro v l ⟨g,gf,pl,cl,rfl,rfl⟩
 refine ⟨_,fun k2 K=>?_,g,rfl,rfl⟩
 refine sub_pl ⟨List.replicate n fm1,gf,pl,cl⟩ (map_fm1 n) k2 ?_
 simp only [plC,List.cons_append,List.nil_append]
 have K3:=da_none n _ k2 K
 rw [show [ifW gl].length=1 from rfl] at K3
 exact Sa k2 K3
theorem Hp.elemEn : ElemOk Tryz.prog 59 64 6 64 := .mk' (.agg #[.int .i64 0,.int .i64 0,.int .i64 0,.int .i64 0,.int .i64 0,.slice none 0 0]) Tryz.underlying59 (by kernel_rfl) rfl (by omega)
def OpenH (b logs count n K:Nat) (es:List En) (u:Value) (l:List Wp):Prop := ∃ (g:Nat) (p1 p2 p3:Option Addr) (c1 c2 c3:Nat),u = .tuple #[pV g,.agg #[.slice p1 (anRun (es.zip (mksOf es))).cm.length c1,.slice p2 (losersA (anRun (es.zip (mksOf es)))).length c2,.slice p3 (pagesT (anRun (es.zip (mksOf es)))).length c3,.int .i64 (lastE es)],.int .i64 0] ∧
 l=[hpA g b logs count n K (reopen count (logs*256) es),cmR p1 (anRun (es.zip (mksOf es))).cm.length c1 (anRun (es.zip (mksOf es))).cm,mkR p2 (losersA (anRun (es.zip (mksOf es)))).length c2 (losersA (anRun (es.zip (mksOf es)))),toR p3 (pagesT (anRun (es.zip (mksOf es)))).length c3 (pagesT (anRun (es.zip (mksOf es))))]
theorem Hp.open (B:Wn) (b:Nat) (D:DD) (logs count n K0:Nat) (i j:Int) (hi:i=logs) (hj:j=n) (es:List En) (h1:1≤logs) (hc:1≤count) (hl:D.secs.length=logs+count) (hn1:1≤n) (hn2:n≤4096) (hroom:D.pend.length+4096<2^32) (hh:HistOk count (logs*256) es)
  (hscan : ∃ x y,Wj (allD D 0 logs) (logs*256+1) 0 0=(x,y,logR 0 (es.map Zj))) (hK0:lastE es≤K0) (hK:K0+count+es.length<2^30) :
  Fn Tryz.prog B 7 #[pV b,.int .i64 i,.int .i64 j] [Zn b D] (OpenH b logs count n (K0+count+es.length) es):=by
 subst hi;subst hj
 refine Fn.diskOk fun hok=>?_
 have hmax:=hok.max
 have hrep:=RepOk.replay hh
 obtain ⟨hre,hrp,hrr,hra,hrl⟩:=replay_es count (logs*256) es
 have hml:=mks_len es
 obtain ⟨N,hN⟩ : ∃ N,es.length=N:=⟨_,rfl⟩
 have hz:(es.zip (mksOf es)).map (·.1)=es:=zip_map_fst hml.symm
 obtain ⟨a,ha⟩ : ∃ a,anRun (es.zip (mksOf es))=a:=⟨_,rfl⟩
 have hal:a.last=lastE es:=by rw [←ha,an_last,hz]
 have hac:a.cm=(replay count (logs*256) es).cm:=by
  have h3:=hrep.cm
  rw [hre] at h3
  have h4:=hrep.nd
  rw [h3] at h4
  rw [←ha,(an_ok (es.zip (mksOf es)) (by rw [hz];exact h4)).cm,hz,h3]
 have hacl:a.cm.length≤es.length:=by rw [hac,hrep.cm,hre];exact List.length_filterMap_le ..
 have hus:=hrep.used
 have hle:=hrep.le
 rw [hrr] at hle
 rw [hre] at hus
 unfold OpenH
 rw [ha,hN]
 rw [hN] at hK
 refine Ws 163 Tryz.func7 rfl rfl (nB rfl) (fun F=>?_)
 try simp only [cA,nA]
 refine TS (La rfl rfl ?_)
 refine Le rfl (El [.slice none 0 0,.slice none 0 0,.slice none 0 0,.int .i64 0] (by unfold Zf;kernel_rfl) ?_)
 intro g7
 refine La rfl rfl (Ld (Ts (TS (Lm rfl rfl (Lq rfl (yM rfl rfl) (Lm rfl rfl ?_))))))
 refine yT (t:=27) rfl (decide_eq_false (by omega)) (Lm rfl rfl (Lm rfl rfl (Lq rfl (Qn rfl) (Lq rfl (Q0 (by kernel_rfl) rfl) ?_))))
 refine Le rfl (Ec (Dk.sectorsF B b D) Tryz.func34 rfl rfl rfl ?_)
 rintro _ _ ⟨rfl,rfl⟩
 try simp only [cA,nA]
 refine Lq rfl (zX rfl rfl) (Lq rfl (Qp rfl rfl) (Lm rfl rfl (yT (t:=35) rfl (decide_eq_false (by omega)) (Lm rfl rfl (Lq rfl (yM rfl rfl) (Lq rfl (Qp rfl rfl) (Lm rfl rfl ?_)))))))
 refine yT (t:=39) rfl (decide_eq_false (by omega)) (Lm rfl rfl (Lq rfl (yZ rfl rfl) (Lq rfl (Qp rfl rfl) (Ld (yL rfl (by omega) (Tk (Ts ?_)))))))
 refine TR (Lm rfl rfl (Lm rfl rfl ?_))
 refine Le rfl (Ec (Wl.openAny B b D 0 logs 0 logs rfl rfl h1 (by omega) hroom) Tryz.func15 rfl rfl rfl ?_)
 rintro _ _ ⟨gl,q,cq,R,ds,D1,e1,e2,e3,e4,e5,e6,e7,e8,e9,rfl,rfl⟩
 try simp only [cA,nA]
 obtain ⟨x0,y0,hsc⟩:=hscan
 rw [hsc] at e9
 injection e9 with f1 f2
 injection f2 with f2 f3
 obtain rfl:ds=es.map Zj:=by have:=congrArg (List.map (·.2)) f3;rwa [logR_snd,logR_snd] at this
 clear f1 f2 f3 hsc x0 y0
 rw [List.length_map,hN]
 refine Lm rfl rfl (Lq rfl (Qx rfl rfl) (Lq rfl (Qx rfl rfl) (Lq rfl (Qx rfl rfl) (La rfl rfl (La rfl rfl (La rfl rfl (Ld ?_)))))))
 refine TS (Lm rfl rfl (Lm rfl rfl (Lm rfl rfl (Lq rfl (Qn rfl) (Lq rfl (Q0 (by kernel_rfl) rfl) ?_)))))
 refine Le rfl (Ec (Dk.sectorsF B b D1) Tryz.func34 rfl rfl rfl ?_)
 rintro _ _ ⟨rfl,rfl⟩
 try simp only [cA,nA]
 refine Lm rfl rfl (Lq rfl (Qt.sub rfl rfl (Ze (by omega) (by omega))) (Lm rfl rfl (Lm rfl rfl (Lq rfl (ZF (v := .pointer (some ⟨gl,0,none⟩)) (by kernel_rfl) rfl) ?_))))
 refine Le rfl (zK [_] (e:=202) (sz:=1) (by kernel_rfl) ⟨.nilIface,by kernel_rfl,rfl⟩ rfl rfl rfl (by omega) (by omega) ?_)
 intro g63
 refine Le rfl (Ec (Bp.new B b gl g63 logs count n D1 logs _ n rfl (by omega) rfl (by omega) hc (by omega) hn1 hn2) Tryz.func35 rfl rfl rfl ?_)
 rintro _ _ ⟨gp,rfl,rfl⟩
 try simp only [cA,nA]
 refine Lm rfl rfl (Lq rfl (Qx rfl rfl) (Lq rfl (Qx rfl rfl) (La rfl rfl (La rfl rfl (Ld (TS ?_))))))
 refine Le rfl (YD Int Int zV zV ?_)
 rintro gm
 refine Lq rfl (z8 [(0,1),(1,1),(2,1)] [.map none,.slice none 0 0,.int .i64 0] [_,_,_] [(0,_)] (by kernel_rfl) (by unfold Zf;kernel_rfl) rfl rfl) (Lm rfl rfl (Lm rfl rfl (Lq rfl (z8 [(0,3),(3,1),(4,1)] [.map none,.slice none 0 0,.int .i64 0,.pointer none,.pointer none] [_,_,_,_,_] [(0,_),(1,_),(2,_)] (by kernel_rfl) (by unfold Zf;kernel_rfl) rfl rfl) ?_)))
 refine Le rfl (zL [.map (some gm),.slice none 0 0,.int .i64 0,pV gl,pV gp] rfl rfl ?_)
 intro g72
 refine La rfl rfl (Ld (Ts (TS (Lm rfl rfl (Lq rfl (Qn rfl) (Lq rfl (Q0 (by kernel_rfl) rfl) ?_))))))
 refine Le rfl (Ec (Bp.pages B gp b n logs count 0 gl (List.replicate n fa1)) Tryz.func36 rfl rfl rfl ?_)
 rintro _ _ ⟨rfl,rfl⟩
 try simp only [cA,nA]
 refine Lm rfl rfl (Ld (yH ?_))
 refine zG (fun mz fz lz => ∃ (f0:Fr) (k:Nat) (s:Pl),(k≤count∧PreI logs count n k k s es)∧mz=count-k∧fz=(upd (upd (upd (upd (upd (upd f0 7 (.pointer (some ⟨g7,0,none⟩))) 10 (.slice q N cq)) 12 (pV gp)) 14 (pV g72)) 76 (.int .i64 count)) 77 (.int .i64 k))∧lz=blk g7 [.slice none 0 0,.slice none 0 0,.slice none 0 0,.int .i64 0] 32::hpB g72 ⟨gm,gl,gp⟩ none 0 0 0::stA ⟨gm,gl,gp⟩ []::wrecR q N cq R::recsA (R.map WRec.r)::wlS b ⟨gm,gl,gp⟩ s::plS b n logs count ⟨gm,gl,gp⟩ s::Zn b s.D::F) ?_ ?_
 · refine ⟨_,_,⟨_,0,⟨List.replicate n fa1,0,mkW 0 logs (es.map Zj) (Zr 0 0 (es.map Zj)).length,D1⟩,⟨Nat.zero_le _,PreI.new h1 hc hn1 hn2 e3 (by omega) e5 e6 e7⟩,rfl,(Za rfl (Za rfl (Za rfl (Za rfl (Za rfl (Za rfl rfl)))))),rfl⟩,Sa⟩
 rintro mz fz lz ⟨f0,k,s,⟨hk,hP⟩,hmz,rfl,rfl⟩
 subst mz
 refine TS (Lq rfl (yM rfl rfl) (Ld (Ts ?_)))
 refine yN rfl (fun hlt=>?_) (fun hlt=>?_)
 ·
  have hk2:k<count:=by omega
  obtain ⟨s1,i1,x1,A2,A3,r1,r2,r3,r4,r5,r6,r7⟩:=hP.round (by omega) hk2
  have hF:=hP.inv.F
  have hpins : ∀ x∈s.A,x.pins<2^62:=fun x hx=>by have:=hP.inv.pins x hx;omega
  have hF1:=r2.F
  have hF2:=r5.F
  have hpins2 : ∀ x∈A2,x.pins<2^62:=fun x hx=>by have:=r5.pins x hx;omega
  have hpe:=hP.inv.pend
  have hhd:=hP.inv.hand
  have hw1:=hP.inv.w (by omega)
  have hok1:=hP.inv.ok
  have hsc1:=hP.inv.sec
  clear hP
  obtain ⟨A,hand,W,D2⟩:=s
  dsimp only [wlS,plS] at hF hpins hpe hhd hw1 hok1 hsc1 ⊢
  refine Tk (Ts (yH (TS (Lm rfl rfl (La rfl rfl (Ld ?_))))))
  refine TS (Lm rfl rfl (Lm rfl rfl ?_))
  refine Le rfl (Ec (Bp.pin B gp b n logs count hand gl A W D2 k hF hpins hhd hw1 hok1 (by omega) hsc1) Tryz.func37 rfl rfl rfl ?_)
  rintro _ _ ⟨rfl,rfl⟩
  try simp only [cA,nA]
  rw [r1]
  refine Ld (TS (Lm rfl rfl (Lm rfl rfl ?_)))
  refine Le rfl (Ec (Pg.new B) Tryz.func39 rfl rfl rfl ?_)
  rintro _ _ ⟨gpg,rfl,rfl⟩
  try simp only [cA,nA]
  refine Le rfl (Ec (Fn.own (Pg.bytes B gpg [] 0)) Tryz.func40 rfl rfl rfl ?_)
  rintro _ _ ⟨⟨p6,c6,rfl,rfl⟩,w6,F6,ho6⟩
  try simp only [cA,nA]
  simp only [List.cons_append,List.nil_append] at ho6
  have hp6:0<256 → ∃ g,p6=some ⟨g,0,none⟩:=(ho6.slice_at (p:=p6) (m:=256) (c:=c6)).2.1
  clear ho6
  refine Le rfl (Ec (Bp.put B [rB (.slice p6 256 c6) 256 (Zx [] 0)] gp b n logs count s1.hand gl s1.A k hF1.len hn2 i1 x1 r3 p6 c6 (Zx [] 0) 0 pg0_len (RdV.rB pg0_len hp6)) Tryz.func38 rfl rfl rfl ?_)
  rintro _ _ ⟨rfl,rfl⟩
  try simp only [cA,nA]
  rw [r4]
  refine Ld (TR (Lm rfl rfl (Lm rfl rfl ?_)))
  refine Le rfl (Ec (Bp.unpin B gp b n logs count s1.hand gl A2 k hF2.len hn2 hpins2) Tryz.func41 rfl rfl rfl ?_)
  rintro _ _ ⟨rfl,rfl⟩
  try simp only [cA,nA]
  rw [r6]
  refine Ld (TR (Lq rfl (Qd rfl rfl (Ze (by omega) (by omega))) (Lm rfl rfl (Ld ?_))))
  refine ⟨_,?_,_,⟨_,k+1,{s1 with A:=A3},⟨by omega,r7⟩,rfl,(Za rfl (Za rfl (Za rfl (Za rfl (Za rfl (Za rfl rfl)))))),rfl⟩,Sa⟩
  omega
 obtain rfl:k=count:=by omega
 have hS:=hP.done
 clear hP
 refine T.conv (l':=emR none 0 0 []::mkR none 0 0 []::_) (fun w ho=>(ho.row_nil _ _).row_nil _ _) (zB (TS (La rfl rfl (Ld (TS ?_)))))
 refine La rfl rfl (Ld (Ts (TS (Lm rfl rfl (Lq rfl (yI (e:=62) (sz:=2) (by kernel_rfl) rfl) (Lm rfl rfl ?_))))))
 refine Ld (yH ?_)
 refine zG (fun mz fz lz => ∃ (f0:Fr) (i:Nat) (s:Pl) (pe pm:Option Addr) (ce cm:Nat) (ems:List EnM) (mss:List Int),(i≤N∧SInv logs k n (k+i) s es (Zi (replay k (logs*256) (es.take i)).vs)∧ems.map (·.e)=es.take i∧mss=(mksOf es).take i)∧mz=N-i∧fz=(upd (upd (upd (upd (upd (upd (upd f0 7 (.pointer (some ⟨g7,0,none⟩))) 14 (pV g72)) 16 (.slice pe i ce)) 17 (.slice pm i cm)) 92 (.slice q N cq)) 93 (.int .i64 N)) 94 (.int .i64 i))∧lz=emR pe i ce ems::mkR pm i cm mss::blk g7 [.slice none 0 0,.slice none 0 0,.slice none 0 0,.int .i64 0] 32::hpB g72 ⟨gm,gl,gp⟩ none 0 0 0::stA ⟨gm,gl,gp⟩ []::wrecR q N cq R::recsA (R.map WRec.r)::wlS b ⟨gm,gl,gp⟩ s::plS b n logs k ⟨gm,gl,gp⟩ s::Zn b s.D::F) ?_ ?_
 · refine ⟨_,_,⟨_,0,s,none,none,0,0,[],[],⟨Nat.zero_le _,hS,rfl,rfl⟩,rfl,(Za rfl (Za rfl (Za rfl (Za rfl (Za rfl (Za rfl (Za rfl rfl))))))),rfl⟩,Sa⟩
 rintro mz fz lz ⟨f0,i,s,pe,pm,ce,cm,ems,mss,⟨hi,hS2,hem,hms⟩,hmz,rfl,rfl⟩
 subst mz
 have heml:ems.length=i:=by have:=congrArg List.length hem;simpa [hN,Nat.min_eq_left hi] using this
 have hmsl:mss.length=i:=by rw [hms,List.length_take,hml];omega
 refine TS (Lq rfl (yM rfl rfl) (Ld (Ts ?_)))
 refine yN rfl (fun hlt2=>?_) (fun hlt2=>?_)
 ·
  have hi2:i<N:=by omega
  have hRl:R.length=N:=by have:=congrArg List.length e2;rw [List.length_map,length_logR,List.length_map] at this;omega
  obtain ⟨x,hx⟩ : ∃ x,R[i]? = some x:=⟨_,List.getElem?_eq_getElem (by omega)⟩
  obtain ⟨e,he,hxe,hmk⟩:=rec_of e2 hx
  have hmle:=mark_le hmk
  have hok2:=hh i e he
  have hri:=RepOk.replay (hh.take i)
  have hpi:=(replay_es k (logs*256) (es.take i)).2.1
  refine T.own fun w ho=>?_
  have hRok:RecOk (R.map WRec.r):=(ho.map Sa:Own B w [recsA (R.map WRec.r)]).recOk
  have hxc:x.r.b.length≤x.r.c:=by have:=(ho.map Sa:Own B w [recsA (R.map WRec.r)]).recCap i (by simp;omega);simpa [(List.getElem?_eq_some_iff.1 hx).2] using this
  have hqp : ∃ g,q=some ⟨g,0,none⟩:=(ho.slice_at (p:=q) (m:=N) (c:=cq)).2.1 (by omega)
  clear ho
  obtain ⟨gq,rfl⟩:=hqp
  have rx:RdV B [recsA (R.map WRec.r)] (recV x.r) (Zb x.r.b):=by have:=RdV.rec (B:=B) hRok (j:=i) (by simp;omega);simpa [(List.getElem?_eq_some_iff.1 hx).2] using this
  rw [hxe] at rx hxc
  have hxl:(Zj e).length=x.r.b.length:=by rw [hxe]
  refine Tk (Ts (yH (TS (Lq rfl (Qi _ (e:=62) (sz:=2) (by kernel_rfl) rfl rfl rfl (by omega)) ?_))))
  refine Lq rfl (QL [.int .i64 x.mark,recV x.r] (by kernel_rfl) rfl (by rw [show [Value.int .i64 x.mark,recV x.r]=wrecC (R[i]'(by omega)) by rw [(List.getElem?_eq_some_iff.1 hx).2]];exact rdl_flat _ _ _ (by intros;rfl) _ (by omega))) ?_
  refine Le rfl (El [.int .i64 0,.slice none 0 0] (by unfold Zf;kernel_rfl) ?_)
  intro g19
  refine L0 rfl (Es [_,_] (by kernel_rfl) rfl rfl rfl rfl (by simp) ?_)
  try simp only [splice,lC,lN,dS,cA,tS,tZ,dZ,nA,aN]
  refine Ld (TS (Lq rfl (Qf (off:=1) (by kernel_rfl) rfl) (Lq rfl (Ql (by kernel_rfl) rfl rfl) ?_)))
  refine Le rfl (Ec (Tl.decode B [recsA (R.map WRec.r)] e x.r.p x.r.b.length x.r.c hok2.ok hxl (by rw [←hxl];exact hxc) (by simpa [recV,hxl] using rx)) Tryz.func16 rfl rfl rfl ?_)
  rintro _ _ ⟨p5,c5,rfl,rfl⟩
  try simp only [cA,nA]
  refine Lm rfl rfl (Lq rfl (Qx rfl rfl) (Lq rfl (Qx rfl rfl) ?_))
  refine Le rfl (El [.int .i64 0,.int .i64 0,.int .i64 0,.int .i64 0,.int .i64 0,.slice none 0 0] (by unfold Zf;kernel_rfl) ?_)
  intro g20
  refine L0 rfl (Es [_,_,_,_,_,_] (by kernel_rfl) rfl rfl rfl rfl (by simp) ?_)
  try simp only [splice,lC,lN,dS,cA,tS,tZ,dZ,nA,aN]
  refine La rfl rfl (Ld (Ts (TS (Lm rfl rfl (Lq rfl (yW rfl rfl) (Lm rfl rfl ?_))))))
  refine LW.own fun w ho=>?_
  have hp5:0<e.data.length → ∃ g,p5=some ⟨g,0,none⟩:=((ho.map Sa:Own B w [rB (.slice p5 e.data.length c5) e.data.length e.data]).slice_at (p:=p5) (m:=e.data.length) (c:=c5)).2.1
  clear ho
  refine yT (t:=106) rfl rfl (Lm rfl rfl (Lq rfl (QL [_,_,_,_,_,_] (by kernel_rfl) rfl ⟨rfl,rfl,rfl,rfl,rfl,rfl,trivial⟩) (Lq rfl (Q0 (by kernel_rfl) rfl) (Lq rfl (Ql (by kernel_rfl) rfl rfl) ?_))))
  refine Le rfl (Ec (Hp.redoStep B g72 b n logs k (k+i) ⟨gm,gl,gp⟩ none 0 0 0 s es (replay k (logs*256) (es.take i)) hri hpi hS2 (by omega) x.mark x.mark rfl (by omega) e p5 c5 hok2 [rB (.slice p5 e.data.length c5) e.data.length e.data] (RdV.rB rfl hp5)) Tryz.func42 rfl rfl rfl ?_)
  rintro _ _ ⟨s',hs',rfl,rfl⟩
  try simp only [cA,nA]
  refine Lq rfl (yW rfl rfl) (Lq rfl (Qp rfl rfl) (Ld (yQ rfl (Tk (zW 10 none (by kernel_rfl) (nB rfl) (by kernel_rfl) (Rq 0 rfl rfl (by kernel_rfl) Sa (Qm rfl) (Rq 1 rfl rfl (by kernel_rfl) Sa (QL [_,_,_,_,_,_] (by kernel_rfl) rfl ⟨rfl,rfl,rfl,rfl,rfl,rfl,trivial⟩) ?_)))))))
  refine Rq 4 rfl rfl (by kernel_rfl) Sa (Qm rfl) (Rq 5 rfl rfl (by kernel_rfl) Sa (Q0 (by kernel_rfl) rfl) (Rq 6 rfl rfl (by kernel_rfl) Sa (Ql (by kernel_rfl) rfl rfl) ?_))
  refine YC [2,7] (by kernel_rfl) (List.forall_mem_cons.2 ⟨?_,List.forall_mem_cons.2 ⟨?_,List.forall_mem_nil _⟩⟩)
  ·
   refine z6 rfl rfl (zK [_,_,_,_,_,_] (e:=64) (sz:=6) (by kernel_rfl) ⟨.agg #[.int .i64 0,.int .i64 0,.int .i64 0,.int .i64 0,.int .i64 0,.slice none 0 0],by kernel_rfl,rfl⟩ rfl rfl rfl (by omega) (by omega) ?_)
   intro g117
   refine ⟨Sa,?_⟩
   refine YC [3,7] (by kernel_rfl) (List.forall_mem_cons.2 ⟨?_,List.forall_mem_cons.2 ⟨?_,List.forall_mem_nil _⟩⟩)
   ·
    refine z6 rfl rfl (Ea Hp.elemEn rfl rfl (SrcOf.blk (by kernel_rfl) rfl (by simp [Value.oneCell'])) (by unfold maxLen;omega) (by omega) ?_)
    intro p6 c6 hp6
    rw [flat_snoc emC ems ⟨e,p5,c5⟩]
    refine ⟨Sa,?_⟩
    refine yK 7 (by kernel_rfl) ?_
    refine z6 rfl rfl (zK [_] (e:=2) (sz:=1) (by kernel_rfl) ⟨.int .i64 0,by kernel_rfl,rfl⟩ rfl rfl rfl (by omega) (by omega) ?_)
    intro g122
    refine ⟨Sa,?_⟩
    refine yK 8 (by kernel_rfl) ?_
    refine zY rfl rfl (by kernel_rfl) (Ea Ta.elemL rfl rfl (SrcOf.blk (by kernel_rfl) rfl (by simp [Value.oneCell'])) (by unfold maxLen;omega) (by omega) ?_)
    intro p7 c7 hp7
    rw [map_snoc kI mss (x.mark:Int)]
    refine Rq 9 rfl rfl (by kernel_rfl) (Sr _) (Qa rfl) (Rd0 (by rfl) ?_)
    simp only [dS,dZ,dN]
    refine La rfl rfl (Ld (TR (Lq rfl (Qd rfl rfl (Ze (by omega) (by omega))) (Lm rfl rfl (Ld ?_)))))
    refine ⟨_,?_,_,⟨_,i+1,s',p6,p7,c6,c7,ems++[⟨e,p5,c5⟩],mss++[(x.mark:Int)],⟨by omega,by rw [List.take_succ_eq_append_getElem (by omega),replay_snoc,show es[i]'(by omega)=e from (List.getElem?_eq_some_iff.1 he).2];exact hs',by rw [List.map_append,hem,List.take_succ_eq_append_getElem (by omega),show es[i]'(by omega)=e from (List.getElem?_eq_some_iff.1 he).2];rfl,by rw [hms,List.take_succ_eq_append_getElem (by omega),show (mksOf es)[i]'(by omega)=(x.mark:Int) from (List.getElem?_eq_some_iff.1 hmk).2]⟩,rfl,(Za rfl (Za rfl (Za rfl (Za rfl (Za rfl (Za rfl (Za rfl rfl))))))),rfl⟩,Sa⟩
    omega
   refine z6 rfl rfl (zK [_] (e:=2) (sz:=1) (by kernel_rfl) ⟨.int .i64 0,by kernel_rfl,rfl⟩ rfl rfl rfl (by omega) (by omega) ?_)
   intro g122
   refine ⟨Sa,?_⟩
   refine yK 3 (by kernel_rfl) ?_
   refine z6 rfl rfl (Ea Hp.elemEn rfl rfl (SrcOf.blk (by kernel_rfl) rfl (by simp [Value.oneCell'])) (by unfold maxLen;omega) (by omega) ?_)
   intro p6 c6 hp6
   rw [flat_snoc emC ems ⟨e,p5,c5⟩]
   refine ⟨Sa,?_⟩
   refine yK 8 (by kernel_rfl) ?_
   refine zY rfl rfl (by kernel_rfl) (Ea Ta.elemL rfl rfl (SrcOf.blk (by kernel_rfl) rfl (by simp [Value.oneCell'])) (by unfold maxLen;omega) (by omega) ?_)
   intro p7 c7 hp7
   rw [map_snoc kI mss (x.mark:Int)]
   refine Rq 9 rfl rfl (by kernel_rfl) (Sr _) (Qa rfl) (Rd0 (by rfl) ?_)
   simp only [dS,dZ,dN]
   refine La rfl rfl (Ld (TR (Lq rfl (Qd rfl rfl (Ze (by omega) (by omega))) (Lm rfl rfl (Ld ?_)))))
   refine ⟨_,?_,_,⟨_,i+1,s',p6,p7,c6,c7,ems++[⟨e,p5,c5⟩],mss++[(x.mark:Int)],⟨by omega,by rw [List.take_succ_eq_append_getElem (by omega),replay_snoc,show es[i]'(by omega)=e from (List.getElem?_eq_some_iff.1 he).2];exact hs',by rw [List.map_append,hem,List.take_succ_eq_append_getElem (by omega),show es[i]'(by omega)=e from (List.getElem?_eq_some_iff.1 he).2];rfl,by rw [hms,List.take_succ_eq_append_getElem (by omega),show (mksOf es)[i]'(by omega)=(x.mark:Int) from (List.getElem?_eq_some_iff.1 hmk).2]⟩,rfl,(Za rfl (Za rfl (Za rfl (Za rfl (Za rfl (Za rfl (Za rfl rfl))))))),rfl⟩,Sa⟩
   omega
  refine z6 rfl rfl (zK [_] (e:=2) (sz:=1) (by kernel_rfl) ⟨.int .i64 0,by kernel_rfl,rfl⟩ rfl rfl rfl (by omega) (by omega) ?_)
  intro g122
  refine ⟨Sa,?_⟩
  refine yK 2 (by kernel_rfl) ?_
  refine z6 rfl rfl (zK [_,_,_,_,_,_] (e:=64) (sz:=6) (by kernel_rfl) ⟨.agg #[.int .i64 0,.int .i64 0,.int .i64 0,.int .i64 0,.int .i64 0,.slice none 0 0],by kernel_rfl,rfl⟩ rfl rfl rfl (by omega) (by omega) ?_)
  intro g117
  refine ⟨Sa,?_⟩
  refine yK 3 (by kernel_rfl) ?_
  refine z6 rfl rfl (Ea Hp.elemEn rfl rfl (SrcOf.blk (by kernel_rfl) rfl (by simp [Value.oneCell'])) (by unfold maxLen;omega) (by omega) ?_)
  intro p6 c6 hp6
  rw [flat_snoc emC ems ⟨e,p5,c5⟩]
  refine ⟨Sa,?_⟩
  refine yK 8 (by kernel_rfl) ?_
  refine zY rfl rfl (by kernel_rfl) (Ea Ta.elemL rfl rfl (SrcOf.blk (by kernel_rfl) rfl (by simp [Value.oneCell'])) (by unfold maxLen;omega) (by omega) ?_)
  intro p7 c7 hp7
  rw [map_snoc kI mss (x.mark:Int)]
  refine Rq 9 rfl rfl (by kernel_rfl) (Sr _) (Qa rfl) (Rd0 (by rfl) ?_)
  simp only [dS,dZ,dN]
  refine La rfl rfl (Ld (TR (Lq rfl (Qd rfl rfl (Ze (by omega) (by omega))) (Lm rfl rfl (Ld ?_)))))
  refine ⟨_,?_,_,⟨_,i+1,s',p6,p7,c6,c7,ems++[⟨e,p5,c5⟩],mss++[(x.mark:Int)],⟨by omega,by rw [List.take_succ_eq_append_getElem (by omega),replay_snoc,show es[i]'(by omega)=e from (List.getElem?_eq_some_iff.1 he).2];exact hs',by rw [List.map_append,hem,List.take_succ_eq_append_getElem (by omega),show es[i]'(by omega)=e from (List.getElem?_eq_some_iff.1 he).2];rfl,by rw [hms,List.take_succ_eq_append_getElem (by omega),show (mksOf es)[i]'(by omega)=(x.mark:Int) from (List.getElem?_eq_some_iff.1 hmk).2]⟩,rfl,(Za rfl (Za rfl (Za rfl (Za rfl (Za rfl (Za rfl (Za rfl rfl))))))),rfl⟩,Sa⟩
  omega
 obtain rfl:i=N:=by omega
 rw [List.take_of_length_le (by omega)] at hS2 hem hms
 subst hms
 refine zB (TS (Lm rfl rfl (Lm rfl rfl ?_)))
 refine Le rfl (Ec (Ta.analyse B ems (mksOf es) pe pm i ce cm heml hmsl (by omega)) Tryz.func17 rfl rfl rfl ?_)
 rintro _ _ ⟨p1,p2,p3,c1,c2,c3,rfl,rfl⟩
 try simp only [cA,nA]
 rw [hem,ha,hal]
 refine Le rfl (El [.slice none 0 0,.slice none 0 0,.slice none 0 0,.int .i64 0] (by unfold Zf;kernel_rfl) ?_)
 intro g22
 refine L0 rfl (Es [_,_,_,_] (by kernel_rfl) rfl rfl rfl rfl (by simp) ?_)
 try simp only [splice,lC,lN,dS,cA,tS,tZ,dZ,nA,aN]
 refine Ld (Ts (T.own fun w ho=>?_))
 have hp1:0<a.cm.length → ∃ g,p1=some ⟨g,0,none⟩:=((ho.map Sa:Own B w [cmR p1 a.cm.length c1 a.cm]).slice_at (p:=p1) (m:=a.cm.length) (c:=c1)).2.1
 clear ho
 refine T.conv (l':=cmR none 0 0 []::_) (fun w ho=>ho.row_nil _ _) (T.draw 16 ([blk g22 [.slice p1 a.cm.length c1,.slice p2 (losersA a).length c2,.slice p3 (pagesT a).length c3,.int .i64 (lastE es)] 32]) (by kernel_rfl) (nB rfl) (by kernel_rfl) (Rq 0 rfl rfl (by kernel_rfl) Sa (Qm rfl) (Rq 1 rfl rfl (by kernel_rfl) Sa (Qm rfl) (Rq 2 rfl rfl (by kernel_rfl) Sa (Qm rfl) (Rq 3 rfl rfl (by kernel_rfl) Sa (Qn rfl) (Rq 4 rfl rfl (by kernel_rfl) Sa (Q0 (by kernel_rfl) rfl) (Rq 5 rfl rfl (by kernel_rfl) Sa (Qf (off:=1) (by kernel_rfl) rfl) ?_)))))))
 refine Rq 7 rfl rfl (by kernel_rfl) Sa (Q0 (by kernel_rfl) rfl) (Rq 8 rfl rfl (by kernel_rfl) Sa (Ql (by kernel_rfl) rfl rfl) (Rq 10 rfl rfl (by kernel_rfl) Sa (Qf (off:=3) (by kernel_rfl) rfl) (Rq 11 rfl rfl (by kernel_rfl) Sa (Ql (by kernel_rfl) rfl rfl) (yK 6 (by kernel_rfl) ?_))))
 refine z6 rfl rfl (YL (Ql (by kernel_rfl) rfl rfl) ?_)
 refine ⟨Sa,?_⟩
 refine yK 9 (by kernel_rfl) ?_
 refine z6 rfl rfl (Ea Hp.elemC rfl rfl (SrcOf.row (by kernel_rfl) one_stC) (by unfold maxLen;omega) (by omega) ?_)
 intro p8 c8 hp8
 simp only [Nat.zero_add,List.flatMap_nil,List.nil_append]
 refine ⟨Sa,?_⟩
 refine Rq 12 rfl rfl (by kernel_rfl) Sa (Qn rfl) (Rq 13 rfl rfl (by kernel_rfl) Sa (Q0 (by kernel_rfl) rfl) (Rq 14 rfl rfl (by kernel_rfl) Sa (Qf (off:=1) (by kernel_rfl) rfl) (yK 15 (by kernel_rfl) ?_)))
 refine YH rfl rfl (E1 (by kernel_rfl) rfl rfl rfl (by first | (simp;done) | (simp;omega)) ?_)
 try simp only [List.set_cons_zero,List.set_cons_succ]
 refine ⟨Sa,?_⟩
 refine Rd0 (by rfl) ?_
 simp only [dS,dZ,dN]
 refine Lq rfl (Qn rfl) (Lq rfl (Q0 (by kernel_rfl) rfl) (Lq rfl (Qf (off:=2) (by kernel_rfl) rfl) ?_))
 refine L0 rfl (E1 (by kernel_rfl) rfl rfl rfl (by first | (simp;done) | (simp;omega)) ?_)
 try simp only [List.set_cons_zero,List.set_cons_succ]
 refine Ld (Ts (TS (Lq rfl (Q0 (by kernel_rfl) rfl) (Lq rfl (Ql (by kernel_rfl) rfl rfl) (Lq rfl (yI (e:=133) (sz:=2) (by kernel_rfl) rfl) (Lm rfl rfl ?_))))))
 refine Ld (yH ?_)
 obtain ⟨m,hm⟩ : ∃ m,a.cm.length=m:=⟨_,rfl⟩
 rw [hm] at hp1 ⊢
 refine zG (fun mz fz lz => ∃ (f0:Fr) (j:Nat) (st:List (Int×Int)),(j≤m∧st=cmSt (a.cm.take j))∧mz=m-j∧fz=(upd (upd (upd (upd (upd (upd f0 7 (.pointer (some ⟨g7,0,none⟩))) 14 (pV g72)) 22 (.pointer (some ⟨g22,0,none⟩))) 147 (.slice p1 m c1)) 148 (.int .i64 m)) 149 (.int .i64 j))∧lz=hpB g72 ⟨gm,gl,gp⟩ p8 m c8 (lastE es)::stA ⟨gm,gl,gp⟩ st::cmR p8 m c8 a.cm::wlS b ⟨gm,gl,gp⟩ s::plS b n logs k ⟨gm,gl,gp⟩ s::Zn b s.D::blk g22 [.slice p1 m c1,.slice p2 (losersA a).length c2,.slice p3 (pagesT a).length c3,.int .i64 (lastE es)] 32::blk g7 [.slice none 0 0,.slice none 0 0,.slice none 0 0,.int .i64 0] 32::cmR p1 m c1 a.cm::mkR p2 (losersA a).length c2 (losersA a)::toR p3 (pagesT a).length c3 (pagesT a)::F) ?_ ?_
 · refine ⟨_,_,⟨_,0,[],⟨Nat.zero_le _,rfl⟩,rfl,(Za rfl (Za rfl (Za rfl (Za rfl (Za rfl (Za rfl rfl)))))),rfl⟩,Sa⟩
 rintro mz fz lz ⟨f0,j,st,⟨hj,hst⟩,hmz,rfl,rfl⟩
 subst mz
 refine TS (Lq rfl (yM rfl rfl) (Ld (Ts ?_)))
 refine yN rfl (fun hlt3=>?_) (fun hlt3=>?_)
 ·
  obtain ⟨g1,rfl⟩:=hp1 (by omega)
  obtain ⟨c,hc3⟩ : ∃ c,a.cm[j]? = some c:=⟨_,List.getElem?_eq_getElem (by omega)⟩
  refine Tk (Ts (yH (TS (Lq rfl (Qi _ (e:=133) (sz:=2) (by kernel_rfl) rfl rfl rfl (by omega)) ?_))))
  refine Lq rfl (QL [.int .i64 c.1,.int .i64 c.2] (by kernel_rfl) rfl (by rw [show [Value.int .i64 c.1,.int .i64 c.2]=stC (a.cm[j]'(by omega)) by rw [(List.getElem?_eq_some_iff.1 hc3).2]];exact rdl_flat _ _ _ (by intros;rfl) _ (by omega))) ?_
  refine Le rfl (El [.int .i64 0,.int .i64 0] (by unfold Zf;kernel_rfl) ?_)
  intro g24
  refine L0 rfl (Es [_,_] (by kernel_rfl) rfl rfl rfl rfl (by simp) ?_)
  try simp only [splice,lC,lN,dS,cA,tS,tZ,dZ,nA,aN]
  refine Ld (zU 7 (by kernel_rfl) (nB rfl) (by kernel_rfl) (Rq 0 rfl rfl (by kernel_rfl) (Sr _) (Qm rfl) (Rq 1 rfl rfl (by kernel_rfl) (Sr _) (Qn rfl) (Rq 2 rfl rfl (by kernel_rfl) (Sr _) (Q0 (by kernel_rfl) rfl) (Rq 3 rfl rfl (by kernel_rfl) (Sr _) (Q0 (by kernel_rfl) rfl) (Rq 4 rfl rfl (by kernel_rfl) (Sr _) (Ql (by kernel_rfl) rfl rfl) (Rq 5 rfl rfl (by kernel_rfl) (Sr _) (Q0 (by kernel_rfl) rfl) ?_)))))))
  refine Rq 6 rfl rfl (by kernel_rfl) (Sr _) (Ql (by kernel_rfl) rfl rfl) (Rd0 (by rfl) ?_)
  simp only [dS,dZ,dN]
  refine L0 rfl (Y0 Hp.okS rfl c.1 rfl 2 rfl ?_)
  refine Ld (TR (Lq rfl (Qd rfl rfl (Ze (by omega) (by omega))) (Lm rfl rfl (Ld ?_))))
  refine ⟨_,?_,_,⟨_,j+1,putL st c.1 2,⟨by omega,by rw [cmSt_snoc hc3,hst]⟩,rfl,(Za rfl (Za rfl (Za rfl (Za rfl (Za rfl (Za rfl rfl)))))),rfl⟩,Sa⟩
  omega
 obtain rfl:j=m:=by omega
 rw [List.take_of_length_le (by omega)] at hst
 subst hst
 subst hm
 have hI:HInv logs k n (K0+k+i) s (cmSt a.cm) (reopen k (logs*256) es):=⟨by show SInv logs k n _ s (replay k (logs*256) es).es (Zi (replay k (logs*256) es).vs);rw [hre];exact hS2.mono (by omega),reopen_inv hh,by rw [hac];exact reopen_st,hrp,hrr,by show lastE es≤_;omega⟩
 refine zB (Ts (zU 3 (by kernel_rfl) (nB rfl) (by kernel_rfl) (Rq 0 rfl rfl (by kernel_rfl) (Sr _) (Qm rfl) (Rq 1 rfl rfl (by kernel_rfl) (Sr _) (QL [_,_,_,_] (by kernel_rfl) rfl ⟨rfl,rfl,rfl,rfl,trivial⟩) (Rq 2 rfl rfl (by kernel_rfl) (Sr _) (Qa rfl) (Rd0 (by rfl) ?_))))))
 simp only [dS,dZ,dN]
 refine L0 rfl (Es [_,_,_,_] (by kernel_rfl) rfl rfl rfl rfl (by simp) ?_)
 try simp only [splice,lC,lN,dS,cA,tS,tZ,dZ,nA,aN]
 refine La rfl rfl (Ld (T.ret ?_))
 exact ⟨.inl rfl,_,_,res [_,_,_] rfl ⟨rvT rfl,rvA [_,_,_,_] (by kernel_rfl) rfl ⟨rfl,rfl,rfl,rfl,trivial⟩,rvT rfl,trivial⟩,⟨g72,p1,p2,p3,c1,c2,c3,rfl,rfl⟩,Wb [hpB g72 ⟨gm,gl,gp⟩ p8 a.cm.length c8 (lastE es),stA ⟨gm,gl,gp⟩ (cmSt a.cm),cmR p8 a.cm.length c8 a.cm,wlS b ⟨gm,gl,gp⟩ s,plS b n logs k ⟨gm,gl,gp⟩ s,Zn b s.D] ⟨⟨gm,gl,gp⟩,p8,c8,s,cmSt a.cm⟩ (reopen k (logs*256) es) hI (by dsimp only [hpC];rw [show (reopen k (logs*256) es).cm=a.cm from hac.symm])⟩
open Go.RowKit
theorem lays_not {D:DD} {f:Nat→Option Nat} {j:Nat} (h : ∀ p∈D.pend,p.1≠j) : ∀ i,(D.lays f i).getD j []=D.secs.getD j []
  | 0=>rfl
  | i+1=>by
    have ih:=lays_not (f:=f) h i
    by_cases hi:i<D.pend.length
    · cases hk:f i with
      | none=>rw [DD.lays_none D f i hi hk];exact ih
      | some k =>
        rw [DD.lays_some D f i k hi hk]
        have hp:=h _ (List.getElem_mem hi)
        unfold layW
        rw [List.getD_eq_getElem?_getD,List.getElem?_set_ne hp,←List.getD_eq_getElem?_getD]
        exact ih
    · have:D.lays f (i+1)=D.lays f i:=by
        simp [DD.lays,List.getElem?_eq_none (show D.pend.length≤i by omega)]
      rw [this];exact ih
theorem read_at {D:DD} {j:Nat} (h : ∀ p∈D.pend,p.1≠j):D.read j=D.secs.getD j []:=by
 unfold DD.read
 have key : ∀ i,i≤D.pend.length→D.readK j i=D.secs.getD j []:=by
  intro i
  induction i with
  | zero=>intro _;exact DD.readK_zero D j
  | succ i ih=>intro hi;rw [DD.readK_succ D j i (by omega),if_neg (h _ (List.getElem_mem (by omega)))];exact ih (by omega)
 exact key _ (Nat.le_refl _)
theorem crash_at {D:DD} {j:Nat} (h : ∀ p∈D.pend,p.1≠j) (keep:List Bool) (t a:Int):(D.crash keep t a).read j=D.read j:=by
 rw [DD.rdN _ rfl,read_at h]
 exact lays_not h _
theorem scan_secs {D:DD} {logs:Nat} {ds:List (List UInt8)} (hs:Secs D 0 logs (Zr 0 0 ds)) (hok : ∀ d∈ds,OkD d) (hl:(Zr 0 0 ds).length≤logs*256) : ∃ x y,Wj (allD D 0 logs) (logs*256+1) 0 0=(x,y,logR 0 ds):=by
 rw [all_text hs hl,scan_text ds _ _ (by have:=length_logB_le 0 0 ds;omega) hok]
 exact ⟨_,_,rfl⟩
theorem logB_le_take {es:List En} (k:Nat):(Zr 0 0 ((es.take k).map Zj)).length≤(Zr 0 0 (es.map Zj)).length:=by
 have:Zr 0 0 (es.map Zj)=Zr 0 0 ((es.take k).map Zj)++Zr (logS 0 0 ((es.take k).map Zj)) (0+(Zr 0 0 ((es.take k).map Zj)).length) ((es.drop k).map Zj):=by
  rw [←logB_app,←List.map_append,List.take_append_drop]
 rw [this,List.length_append];omega
theorem LogI.durB {logs:Nat} {W:Wl} {D:DD} {es:List En} (h:LogI logs W D es) : ∃ k,k≤es.length∧W.st.take W.dur=Zr 0 0 ((es.take k).map Zj) ∧ ∀ (i:Nat) (e:En),k≤i→es[i]? = some e→e.kind≠3:=by
 obtain ⟨k,k1,k2,k3⟩:=h.dur
 refine ⟨k,k1,?_,k3⟩
 have:Zr 0 0 (es.map Zj)=Zr 0 0 ((es.take k).map Zj)++Zr (logS 0 0 ((es.take k).map Zj)) (0+(Zr 0 0 ((es.take k).map Zj)).length) ((es.drop k).map Zj):=by
  rw [←logB_app,←List.map_append,List.take_append_drop]
 rw [h.first.2.2,this,k2,List.take_left' rfl]
theorem HInv.crash {logs count n K:Nat} {s:Pl} {st:List (Int×Int)} {h:HR} (i:HInv logs count n K s st h) (keep:List Bool) (t a:Int) : ∃ k,k≤h.es.length∧(∀ (j:Nat) (e:En),k≤j→h.es[j]? = some e→e.kind≠3)∧(∃ x y,Wj (allD (s.D.crash keep t a) 0 logs) (logs*256+1) 0 0=(x,y,logR 0 ((h.es.take k).map Zj)))∧(s.D.crash keep t a).secs.length=logs+count∧(s.D.crash keep t a).Ok:=by
  obtain ⟨k,k1,k2,k3⟩:=i.s.log.durB
  have ho:=i.s.inv.ok
  have hlen:=i.s.len
  refine ⟨k,k1,k3,scan_secs (fun j hj=>?_) (fun d hd=>?_) ?_,(DD.crash_len ho keep t a).trans hlen,ho.cr keep t a⟩
  · rw [crash_at (fun p hp=>by have:=i.s.log.pend p hp;omega) keep t a,←k2]
    exact i.s.log.secs j hj
  · obtain ⟨e,he,rfl⟩:=List.mem_map.1 hd
    exact encE_ok (i.r.ok.eok e (List.mem_of_mem_take he))
  · have h1:=logB_le_take (es:=h.es) k
    have h2:=i.s.inv.wst
    rw [i.s.log.first.2.1,i.s.log.first.2.2] at h2
    omega
theorem an_cm {pages room:Nat} {es:List En} (h:HistOk pages room es):(anRun (es.zip (mksOf es))).cm=(replay pages room es).cm:=by
 have hz:(es.zip (mksOf es)).map (·.1)=es:=zip_map_fst (mks_len es).symm
 have hrep:=RepOk.replay h
 have h3:=hrep.cm
 rw [(replay_es _ _ _).1] at h3
 have h4:=hrep.nd
 rw [h3] at h4
 rw [(an_ok (es.zip (mksOf es)) (by rw [hz];exact h4)).cm,hz,h3]
def CrashH (b logs count:Nat) (h:HR) (u:Value) (l:List Wp):Prop := ∃ (D:DD) (k:Nat),(HistOk count (logs*256) (h.es.take k)∧k≤h.es.length∧(∀ (j:Nat) (e:En),k≤j→h.es[j]? = some e→e.kind≠3)∧(∃ x y,Wj (allD D 0 logs) (logs*256+1) 0 0=(x,y,logR 0 ((h.es.take k).map Zj)))∧D.secs.length=logs+count∧D.Ok∧D.pend=[])∧u = .tuple #[]∧l=[Zn b D]
theorem Hp.crash (B:Wn) (g b logs count n K:Nat) (h:HR) (hK:K<2^30) (vk:Value) (keep:List Bool) (tear at_:Int) (hk:RoS B vk (boolsV keep)) :
  Fn Tryz.prog B 13 #[pV b,vk,.int .i64 tear,.int .i64 at_] [hpA g b logs count n K h] (CrashH b logs count h):=by
 refine Fn.openHp fun x hi hp=>?_
 have hpe:=hi.s.inv.pend
 have hr:=hi.r.hist
 rw [hi.pages,hi.room] at hr
 obtain ⟨k,k1,k2,k3,k4,k5⟩:=hi.crash keep tear at_
 simp only [hpC,List.append_nil]
 refine Fn.wide (Dk.crashF B b x.s.D vk keep tear at_ hk (by omega)) ?_
 rintro u l ⟨rfl,rfl⟩
 exact ⟨_,Sa,_,k,⟨hr.take k,k1,k2,k3,k4,k5,rfl⟩,rfl,rfl⟩
end Go.Proofs.YtfjjgdnepfgnhaaGreatDoor
