/- The texts SxL SxM SxN HpH SxO SxP SxQ SxS SxTa SxRo, one behind the other: what the law leans on. Conditions: as each theorem says. -/
import Derived.Test.YtkfmfoecplbclaaGreatDoorZPyBase15
set_option linter.unusedSimpArgs false
set_option linter.unusedVariables false
set_option maxRecDepth 100000
set_option maxHeartbeats 16000000
namespace Go.Proofs.YtkfmfoecplbclaaGreatDoor
open Go.RowKit
abbrev tfV (b:Bool):Value := .bool b
abbrev keyOf (x:It):Int×Int:=((x.page:Int),(x.slot:Int))
theorem hist_all (h:HR):histR h (-1)=(allR h).map (itemR h):=by
 unfold histR
 rw [List.filter_eq_self]
 intro x _
 rw [decide_eq_true_eq]
 exact .inr (by decide)
theorem same_item {h:HR} {c rm:Nat} (s:SI h c rm) {x y:It} (hx:x∈histR h (-1)) (hy:y∈histR h (-1)) (e:keyOf x=keyOf y):x=y:=by
 obtain ⟨v,hv,rfl⟩:=hist_mem hx
 obtain ⟨u,hu,rfl⟩:=hist_mem hy
 obtain ⟨i,hi⟩:=List.getElem?_of_mem (s.mem.1 hv)
 obtain ⟨j,hj⟩:=List.getElem?_of_mem (s.mem.1 hu)
 have e1:(v.page:Int)=u.page:=congrArg Prod.fst e
 have e2:(v.slot:Int)=u.slot:=congrArg Prod.snd e
 have:=slots_inj s.r.ok.slots hi hj
 subst this
 rw [hi] at hj;cases hj;rfl
abbrev isOpn (r:Int×Int) (x:It):Bool:=decide (keyOf x=r/\x.til=0)
theorem opn_any (h:HR) (r:Int×Int):opnR h r=(histR h (-1)).any (isOpn r):=by
 rw [hist_all,List.any_map]
 unfold opnR
 congr 1
 funext v
 show _=decide (keyOf (itemR h v)=r/\stampR h v.fin=0)
 rw [decide_eq_decide]
 constructor
 . rintro ⟨a,b,c⟩;exact ⟨Prod.ext a b,c⟩
 . rintro ⟨a,c⟩;exact ⟨congrArg Prod.fst a,congrArg Prod.snd a,c⟩
def TheI (l:List It) (M:List ((Int×Int)×Bool)):Prop := ∀ r,(Zy M r).getD false=l.any (isOpn r)
theorem TheI.step {h:HR} {c rm:Nat} (s:SI h c rm) {i:Nat} {x:It} {M:List ((Int×Int)×Bool)} (hM:TheI ((histR h (-1)).take i) M) (hx:(histR h (-1))[i]? = some x):TheI ((histR h (-1)).take (i+1)) (putL M (keyOf x) (decide (x.til=0))):=λ r=>by
  obtain ⟨hi,he⟩:=List.getElem?_eq_some_iff.1 hx
  rw [List.take_succ_eq_append_getElem hi,he,List.any_append,List.any_cons,List.any_nil,Bool.or_false]
  by_cases q:keyOf x=r
  . subst q
    rw [look_put_same,Option.getD_some]
    by_cases z:x.til=0
    . rw [decide_eq_true z,show isOpn (keyOf x) x=true from decide_eq_true ⟨rfl,z⟩,Bool.or_true]
    . rw [decide_eq_false z,show isOpn (keyOf x) x=false from decide_eq_false (λ q=>z q.2),Bool.or_false]
      symm
      rw [List.any_eq_false]
      intro y hy
      rw [decide_eq_true_eq]
      rintro ⟨e1,e2⟩
      have:=same_item s (List.mem_of_mem_take hy) (List.mem_of_getElem? hx) e1
      subst this;exact z e2
  . rw [look_put_ne _ q,hM r,show isOpn r x=false from decide_eq_false (λ z=>q z.1),Bool.or_false]
def TheE (h:HR) (D:List (Int×Int)) (M:List ((Int×Int)×Bool)):Prop := ∀ r,(Zy M r).getD false=(opnR h r && !(D.contains r))
theorem TheI.ends {h:HR} {M:List ((Int×Int)×Bool)} (hM:TheI (histR h (-1)) M):TheE h [] M:=λ r=>by
 rw [hM r,opn_any];simp
theorem TheE.step {h:HR} {D:List (Int×Int)} {M:List ((Int×Int)×Bool)} (hM:TheE h D M) (p:Int×Int):TheE h (D++[p]) (putL M p false):=λ r=>by
  by_cases q:p=r
  . subst q
    rw [look_put_same]
    simp
  . rw [look_put_ne _ q,hM r]
    have:(D++[p]).contains r=D.contains r:=by
      rw [Bool.eq_iff_iff]
      simp [List.contains_iff_mem]
      intro z;exact absurd z.symm q
    rw [this]
theorem endsG_cons (h:HR) (D:List (Int×Int)) (p:Int×Int) (l:List (Int×Int)):endsG h D (p::l)=(opnR h p && !(D.contains p) && endsG h (D++[p]) l):=rfl
theorem take_snoc {α:Type} {l:List α} {i:Nat} {x:α} (h:l[i]? = some x):l.take (i+1)=l.take i++[x]:=by
 obtain ⟨hi,he⟩:=List.getElem?_eq_some_iff.1 h
 rw [List.take_succ_eq_append_getElem hi,he]
theorem drop_one {α:Type} {l:List α} {i:Nat} {x:α} (h:l[i]? = some x):l.drop i=x::l.drop (i+1):=by
 obtain ⟨hi,he⟩:=List.getElem?_eq_some_iff.1 h
 rw [List.drop_eq_getElem_cons hi,he]
theorem endAll_snoc (t:Int) (g:HR) (l:List (Int×Int)) (p:Int×Int):endAll t g (l++[p])=(endR (endAll t g l) t p.1 p.2).1:=by unfold endAll;rw [List.foldl_append];rfl
theorem addAll_snoc (t:Int) (g:HR) (l:List (List UInt8)) (d:List UInt8):addAll t g (l++[d])=(Wm (addAll t g l) t d).1:=by unfold addAll;rw [List.foldl_append];rfl
theorem recsE_cons (p:Int×Fx1) (l:List (Int×Fx1)):recsE (p::l)=if recE p.1 p.2≠0 then recE p.1 p.2 else recsE l:=rfl
theorem recsE_ok : ∀ {l:List (Int×Fx1)},recsE l=0 -> ∀ p∈l,recE p.1 p.2=0
  | [],_,p,hp=>by cases hp
  | q::l,h,p,hp=>by
    rw [recsE_cons] at h
    by_cases z:recE q.1 q.2=0
    . rw [if_neg (by simp [z])] at h
      rcases List.mem_cons.1 hp with rfl | hp
      . exact z
      . exact recsE_ok h p hp
    . rw [if_pos z] at h;exact absurd h z
structure PtM where
 t:Int
 f:Fx1
 ra:Option Addr
 rc:Nat
abbrev ptC (p:PtM):List Value:=[.int .i64 p.t,.slice p.ra p.f.row.length p.rc,.int .i64 p.f.fr,.int .i64 p.f.to]
structure PtOk (B:Wn) (S:List Wp) (p:PtM):Prop where
 v:FlV B S vxC (.slice p.ra p.f.row.length p.rc) p.f.row
 f:FxRd p.f
 t : -(2^63)<=p.t/\p.t<2^63
abbrev ptsP (L:List PtM):List (Int×Fx1):=L.map λ p=>(p.t,p.f)
theorem recs_ds {B:Wn} {S:List Wp} {PL:List PtM} (hp : ∀ p∈PL,PtOk B S p) (h:recsE (ptsP PL)=0) : ∀ d∈(ptsP PL).map (λ p=>recD p.1 p.2),∃ t f,FxOk t f/\d=encL (valsF t f):=by
 intro d hd
 obtain ⟨p,hpm,rfl⟩:=List.mem_map.1 hd
 have h0:=recsE_ok h p hpm
 obtain ⟨x,hx,rfl⟩:=List.mem_map.1 hpm
 have ho:=hp x hx
 exact ⟨x.t,x.f,recE_ok ho.t.2 ho.f.n h0,by unfold recD;rw [if_pos h0]⟩
structure ReM where
 p:Option Addr
 c:Nat
 d:List UInt8
structure ReM.Ok (x:ReM):Prop where
 p:0<x.d.length -> ∃ g,x.p=some ⟨g,0,none⟩
 len:x.d.length<=184
abbrev rxV (x:ReM):Value := .slice x.p x.d.length x.c
abbrev rxA (x:ReM):Wp:=rB (.slice x.p x.d.length x.c) x.d.length x.d
def rxsA (L:List ReM):Wp:=sepL (L.map rxA)
abbrev rxR (p:Option Addr) (n c:Nat) (L:List ReM):Wp:=row (.slice p n c) 97 1 n (L.map rxV)
abbrev szR (p:Option Addr) (n c:Nat) (L:List ReM):Wp:=row (.slice p n c) 3 1 n ((L.map λ x=>(x.d.length:Int)).map zV)
theorem rxs_snoc {L:List ReM} {x:ReM} {l:List Wp} {k:Piece} (H:Has (rxA x::rxsA L::l) k):Has (rxsA (L++[x])::l) k:=by
 unfold rxsA
 rw [List.map_append]
 exact sep_pushS H
theorem rx_step {L:List ReM} {x:ReM} {p q:Option Addr} {n c m d:Nat} {vs zs:List Value} (hv:vs=[rxV x]) (hz:zs=[zV (x.d.length:Int)]) {l:List Wp} {k:Piece} (H:Has (rxA x::rxsA L::row (.slice p n c) 97 1 n (L.map rxV++vs)::row (.slice q m d) 3 1 m ((L.map λ x=>(x.d.length:Int)).map zV++zs)::l) k):Has (rxsA (L++[x])::rxR p n c (L++[x])::szR q m d (L++[x])::l) k:=by
 have H1:=rxs_snoc H
 subst hv;subst hz
 unfold rxR szR
 rw [List.map_append,List.map_append,List.map_append]
 exact H1
theorem Has.rx_pop {L:List ReM} {i:Nat} {x:ReM} (hx:L[i]? = some x) {l:List Wp} {k:Piece} (H:Has (rxsA (L.drop i)::l) k):Has (rxA x::rxsA (L.drop (i+1))::l) k:=by
 unfold rxsA at H
 rw [drop_one hx,List.map_cons] at H
 exact Wt (λ _ q=>Has.close_sepL q) (Has.open_sepL H:Has (rxA x::((L.drop (i+1)).map rxA++l)) k)
theorem Own.rxNil {B:Wn} {w:World} {l:List Wp} (H:Own B w l):Own B w (rxR none 0 0 []::szR none 0 0 []::rxsA []::l):=H.map λ _ K=>rowNilP (rowNilP (sep_nilS K))
theorem Sx.elemB : ElemOk Tryz.prog 127 97 1 24 := .mk' (.slice none 0 0) Tryz.underlying127 (by kernel_rfl) rfl (by omega)
section
variable {P : Program} {B:Wn} {n:Nat} {l r:List Wp} {f:Fr} {c:Code} {Φ:Post}
theorem T.openSto {s b logs count n' K:Nat} {h:HR} [k:TakeA (stoA s b logs count n' K h) l r] (hh : ∀ x:StX,StamI x.st h->T P B n c Φ f (stoC s b logs count n' K x h++r)):T P B n c Φ f l:=⟨λ Q w hf ho=>by
 obtain ⟨x,hi,ho'⟩:=Own.openSto (ho.take (k:=k))
 exact (hh x hi).run Q w hf ho'⟩
theorem Own.closeSto {w:World} {s b logs count n' K:Nat} {h:HR} (x:StX) (hi:StamI x.st h) (H:Own B w l) [k:TakeL [stoB s x.gh x.gm (lastS h),stM x x.st,hpA x.gh b logs count n' K h] l r]:Own B w (stoA s b logs count n' K h::r):=H.map λ p H=>Has.close_ex x (Has.close_sepL (l:=pu _::stoC s b logs count n' K x h) (Has.close_pu hi (k.take p H)))
end
theorem Qt.look1V {P:Program} {B:Wn} {n:Nat} {S:List Wp} {f:Fr} {d:Option Tmp} {ty:TypeId} {pos:String} {af:Array Edge} {gd:Option (Nat×Bool)} {α β:Type} [DecidableEq α] {ke:α->Value} {ve:β->Value} {L:List (α×β)} {g:Nat} {t:TypeId} {x y:Operand} {z:Value} (M:MapOk P t ke z) (hx:ev n f x=some (.map (some g))) (k:α) (hy:ev n f y=some (ke k)) [kk:MapAt g S ke ve L] (v0:β) (hz:z=ve v0) {v:β} (hv:(Zy L k).getD v0=v):Qt P B n S ⟨d,.lookup t x y false,ty,pos,af,gd⟩ f (ve v):=by
 subst hv;exact zT M hx k hy v0 hz
theorem code_rec {h:HR} {stamp:Int} {ended:List (Int×Int)} {ps:List (Int×Fx1)} (e:recsE ps≠0):codeS h stamp ended ps=recsE ps:=by unfold codeS;rw [if_pos e]
theorem code_range {h:HR} {stamp:Int} {ended:List (Int×Int)} {ps:List (Int×Fx1)} (e:recsE ps=0) (e2:stamp<=lastS h\/1099511627776<stamp):codeS h stamp ended ps=1:=by unfold codeS;rw [if_neg (by simp [e]),if_pos e2]
theorem code_miss {h:HR} {stamp:Int} {ended:List (Int×Int)} {ps:List (Int×Fx1)} (e:recsE ps=0) (e2 : ¬ (stamp<=lastS h\/1099511627776<stamp)) (e3:endsG h [] ended=false):codeS h stamp ended ps=4:=by unfold codeS;rw [if_neg (by simp [e]),if_neg e2,if_pos e3]
theorem code_full {h:HR} {stamp:Int} {ended:List (Int×Int)} {ps:List (Int×Fx1)} (e:recsE ps=0) (e2 : ¬ (stamp<=lastS h\/1099511627776<stamp)) (e3:endsG h [] ended=true) (e4:fitsR h ended.length (ps.map λ p=>((recD p.1 p.2).length:Int))=false):codeS h stamp ended ps=3:=by unfold codeS;rw [if_neg (by simp [e]),if_neg e2,if_neg (by simp [e3]),if_pos e4]
theorem code_ok {h:HR} {stamp:Int} {ended:List (Int×Int)} {ps:List (Int×Fx1)} (e:recsE ps=0) (e2 : ¬ (stamp<=lastS h\/1099511627776<stamp)) (e3:endsG h [] ended=true) (e4:fitsR h ended.length (ps.map λ p=>((recD p.1 p.2).length:Int))=true):codeS h stamp ended ps=0:=by unfold codeS;rw [if_neg (by simp [e]),if_neg e2,if_neg (by simp [e3]),if_neg (by simp [e4])]
theorem code_inv {h:HR} {stamp:Int} {ended:List (Int×Int)} {ps:List (Int×Fx1)} (e:codeS h stamp ended ps=0):recsE ps=0/\lastS h<stamp/\stamp<=1099511627776/\endsG h [] ended=true/\fitsR h ended.length (ps.map λ p=>((recD p.1 p.2).length:Int))=true:=by
  by_cases e1:recsE ps=0
  . by_cases e2:stamp<=lastS h\/1099511627776<stamp
    . rw [code_range e1 e2] at e;omega
    . by_cases e3:endsG h [] ended=true
      . by_cases e4:fitsR h ended.length (ps.map λ p=>((recD p.1 p.2).length:Int))=true
        . exact ⟨e1,by omega,by omega,e3,e4⟩
        . rw [code_full e1 e2 e3 (by simpa using e4)] at e;omega
      . rw [code_miss e1 e2 (by simpa using e3)] at e;omega
  . rw [code_rec e1] at e;exact absurd e e1
theorem StamI.write {st:List (Int×Int)} {h g:HR} (i:StamI st h) (r:RInv h) {stamp v0:Int} (e:g.cm=h.cm++[(h.last+1,stamp)]):StamI (putL (putL st (h.last+1) v0) (h.last+1) stamp) g:=λ t=>by
 show _=stampL g.cm t
 rw [e,stampL_snoc (no_cm r)]
 by_cases q:t=h.last+1
 . rw [if_pos q,q,look_put_same];rfl
 . rw [if_neg q,look_put_ne _ (λ e=>q e.symm),look_put_ne _ (λ e=>q e.symm)];exact i t
theorem SI.mid {h:HR} {c rm:Nat} (s:SI h c rm) (hp:c<=4096) (hl:h.last+1<2^62) {ended:List (Int×Int)} {ds:List (List UInt8)} (h3:endsG h [] ended=true) (h4:fitsR h ended.length (ds.map λ d=>(d.length:Int))=true):(addAll (h.last+1) (endAll (h.last+1) (beginR h) ended) ds).cm=h.cm:=by
 obtain ⟨f1,f2,f3⟩:=(fitsR_iff s.r _ _).1 h4
 have f4:=fits_left f3
 have hp':h.pages<=4096:=by rw [s.pages];exact hp
 have hbu:(beginR h).used=h.used:=rfl
 have hbr:(beginR h).room=h.room:=rfl
 obtain ⟨a1,a2,a3⟩:=Mid.ends s hp' hl ended [] (beginR h) (Mid.begin s.r s.act) h3 (by rw [hbu,hbr];omega)
 rw [List.nil_append] at a1
 have hrl:roomsL (beginR h)=roomsL h:=rfl
 obtain ⟨N,b1,b2,b3⟩:=Mid.adds hp' hl ds _ [] a1 (by
  rw [a3,hrl,a2,a1.room,hbu]
  rw [show (h.room:Int)-(h.used+20*(ended.length:Int))-25=h.room-h.used-25-20*(ended.length:Int) by omega]
  exact f3)
 exact b2.cm
open Go.RowKit
theorem Sx.write (B:Wn) (S:List Wp) (s b logs count n K:Nat) (h:HR) (si:SI h count (logs*256)) (hc1:1<=count) (hc:count<=4096) (hcl:h.cm.length<2^32) (hla:h.last+1<2^62) (stamp:Int)
  (ea:Option Addr) (en ec:Nat) (ended:List (Int×Int)) (hel:ended.length=en) (hen:en<=2^20) (hev:FlV B S ridC (.slice ea en ec) ended)
  (pa:Option Addr) (m pc:Nat) (PL:List PtM) (hpl:PL.length=m) (hm:m<=2^20) (hpv:FlV B S ptC (.slice pa m pc) PL) (hpo : ∀ p∈PL,PtOk B S p)
  (hK:K+2*count+2+2*en+(count+1)*m<2^28) :
  Fn Tryz.prog B 16 #[pV s,.int .i64 stamp,.slice ea en ec,.slice pa m pc] (stoA s b logs count n K h::S) (λ u l=>u = .int .i64 (codeS h stamp ended (ptsP PL)) /\ ∃ K',K'<=K+2*count+(if codeS h stamp ended (ptsP PL)=0 then 2+2*en+(count+1)*m else 0)/\l=stoA s b logs count n K' (if codeS h stamp ended (ptsP PL)=0 then (writeS h stamp ended ((ptsP PL).map λ p=>recD p.1 p.2)).1 else h)::S):=by
 refine Fn.enter4 157 Tryz.func16 rfl rfl (nB rfl) (λ F=>?_)
 try simp only [cA,nA]
 refine TS (La rfl (Ld (TS (La rfl (Ld (TS (La rfl (Ld (Ts (TS ?_))))))))))
 iterate 3 refine Lz ?_
 refine Ld (yH (T.conv (λ w ho=>ho.rxNil) ?_))
 refine zG (λ mz fz lz => ∃ (f0:Fr) (i:Nat) (R:List ReM) (pr:Option Addr) (cr:Nat) (pz:Option Addr) (cz:Nat),(i<=m/\R.length=i/\recsE ((ptsP PL).drop i)=recsE (ptsP PL)/\R.map (·.d)=((ptsP PL).take i).map (λ p=>recD p.1 p.2)/\(∀ x∈R,x.Ok))/\mz=m-i/\fz=(upd (upd (upd (upd (upd (upd (upd (upd f0 0 (pV s)) 1 (.int .i64 stamp)) 2 (.slice ea en ec)) 9 (.slice pr i cr)) 10 (.slice pz i cz)) 26 (.slice pa m pc)) 27 (.int .i64 m)) 28 (.int .i64 i))/\lz=rxR pr i cr R::szR pz i cz R::rxsA R::stoA s b logs count n K h::(S++F)) ?_ ?_
 . refine ⟨_,_,⟨_,0,[],none,0,none,0,⟨Nat.zero_le _,rfl,rfl,rfl,(λ x hx=>by cases hx)⟩,rfl,U8,rfl⟩,Sa⟩
 rintro mz fz lz ⟨f0,i,R,pr,cr,pz,cz,⟨hi,hRl,hrec,hRd,hRo⟩,hmz,rfl,rfl⟩
 subst mz
 refine TS (Lq (yM rfl rfl) (Ld (Ts ?_)))
 refine yN rfl (λ hlt=>?_) (λ hlt=>?_)
 .
  obtain ⟨bp,op,rfl,hrd⟩:=hpv.at (sz:=4) (λ _=>rfl) (by omega)
  obtain ⟨y,hy⟩ : ∃ y,PL[i]? = some y:=⟨_,List.getElem?_eq_getElem (by omega)⟩
  have hyo:=hpo y (List.mem_of_getElem? hy)
  have hy2:(ptsP PL)[i]? = some (y.t,y.f):=by unfold ptsP;rw [List.getElem?_map,hy];rfl
  rw [drop_one hy2,recsE_cons] at hrec
  by_cases hno:recE y.t y.f=0
  .
   refine Tk (Ts (yH (TS ?_)))
   refine Lz ?_
   refine Lq (Qt.loadAggW (ptC y) rfl (λ w ho=>hrd i y hy w (ho.map Sa))) ?_
   refine Le (El [.int .i64 0,.slice none 0 0,.int .i64 0,.int .i64 0] (by unfold Zf;kernel_rfl) ?_)
   intro g12
   refine L0 (Es [_,_,_,_] rfl rfl rfl rfl (by simp) ?_)
   try simp only [splice,lC,lN,dS,cA,tS,tZ,dZ,nA,aN]
   refine Ld (TS ?_)
   iterate 4 refine Lz ?_
   refine Le (Ec (Sx.record B S y.t y.f y.ra y.f.row.length y.rc rfl hyo.v hyo.f hyo.t hno) Tryz.func34 rfl rfl rfl ?_)
   rintro _ l2 ⟨p,c,hp,rfl,hl2⟩
   rw [hl2]
   simp only [List.cons_append]
   iterate 5 refine Lz ?_
   refine Ld (Ts (TS (Lm rfl (Lq (yW rfl rfl) (Ld ?_)))))
   have hdl:=hyo.t
   have hrD:recD y.t y.f=encL (valsF y.t y.f):=by unfold recD;rw [if_pos hno]
   have hxo:=recE_ok hyo.t.2 hyo.f.n hno
   have hlen:=hxo.len
   refine yQ rfl (Tk (TR (Lm rfl (Lm rfl ?_))))
   refine Le (zK [_] (e:=97) (sz:=1) ⟨.slice none 0 0,by kernel_rfl,rfl⟩ rfl rfl rfl ?_)
   intro g45
   refine Le (Ea Sx.elemB rfl rfl (SrcOf.blk (by kernel_rfl) rfl (by simp [Value.oneCell'])) (by unfold maxLen;omega) ?_)
   rintro p4 c4 hp4
   iterate 3 refine Lz ?_
   refine Le (zK [_] (e:=3) (sz:=1) ⟨.int .i64 0,by kernel_rfl,rfl⟩ rfl rfl rfl ?_)
   intro g50
   refine Le (Ea Hp.elemI rfl rfl (SrcOf.blk (by kernel_rfl) rfl (by simp [Value.oneCell'])) (by unfold maxLen;omega) ?_)
   rintro p5 c5 hp5
   refine La rfl (La rfl (Ld (TR ?_)))
   iterate 2 refine Lz ?_
   refine Ld ?_
   have hstep:=λ k=>rx_step (L:=R) (x:=⟨p,c,encL (valsF y.t y.f)⟩) (p:=p4) (q:=p5) (n:=i+1) (c:=c4) (m:=i+1) (d:=c5) rfl rfl (l:=stoA s b logs count n K h::(S++F)) (k:=k)
   have hRo2 : ∀ x∈R++[(⟨p,c,encL (valsF y.t y.f)⟩:ReM)],x.Ok:=by
    intro x hx
    rcases List.mem_append.1 hx with q | q
    . exact hRo x q
    . rw [List.mem_singleton.1 q];exact ⟨hp,hlen⟩
   refine ⟨_,?_,_,⟨_,i+1,R++[⟨p,c,encL (valsF y.t y.f)⟩],p4,c4,p5,c5,⟨by omega,by simp [hRl],by rw [if_neg (by simp [hno])] at hrec;exact hrec,by rw [List.map_append,hRd,take_snoc hy2,List.map_append,List.map_cons,List.map_cons,hrD];rfl,hRo2⟩,rfl,U8,rfl⟩,(λ k Q=>Sa k (hstep k (Sa k Q)))⟩
   omega
  refine Tk (Ts (yH (TS ?_)))
  refine Lz ?_
  refine Lq (Qt.loadAggW (ptC y) rfl (λ w ho=>hrd i y hy w (ho.map Sa))) ?_
  refine Le (El [.int .i64 0,.slice none 0 0,.int .i64 0,.int .i64 0] (by unfold Zf;kernel_rfl) ?_)
  intro g12
  refine L0 (Es [_,_,_,_] rfl rfl rfl rfl (by simp) ?_)
  try simp only [splice,lC,lN,dS,cA,tS,tZ,dZ,nA,aN]
  refine Ld (TS ?_)
  iterate 4 refine Lz ?_
  refine Le (Ec (Sx.recordNo B S y.t y.f y.ra y.f.row.length y.rc rfl hyo.v hyo.f hyo.t hno) Tryz.func34 rfl rfl rfl ?_)
  rintro _ _ ⟨rfl,rfl⟩
  iterate 5 refine Lz ?_
  refine Ld (Ts (TS (Lm rfl (Lq (yW rfl rfl) (Ld ?_)))))
  rw [if_pos hno] at hrec
  refine zM rfl ?_
  have hcode:=code_rec (h:=h) (stamp:=stamp) (ended:=ended) (ps:=ptsP PL) (by rw [<-hrec];exact hno)
  refine TS (Lm rfl (La rfl (Ld (T.ret ?_))))
  exact ⟨.inl rfl,_,_,res [_] rfl ⟨rvT rfl,trivial⟩,⟨by rw [hcode,<-hrec];rfl,K,by omega,by rw [hcode,if_neg (by rw [<-hrec];exact hno)]⟩,Sa⟩
 obtain rfl:i=m:=by omega
 have hpsl:(ptsP PL).length=i:=by unfold ptsP;rw [List.length_map,hpl]
 rw [List.drop_of_length_le (by omega)] at hrec
 rw [List.take_of_length_le (by omega)] at hRd
 have hrec:recsE (ptsP PL)=0:=hrec.symm
 have hDs:=recs_ds hpo hrec
 have hzs:(ptsP PL).map (λ p=>((recD p.1 p.2).length:Int))=R.map (λ x=>(x.d.length:Int)):=by
  rw [show (R.map λ x=>(x.d.length:Int))=(R.map (·.d)).map (λ d=>(d.length:Int)) by rw [List.map_map];rfl,hRd]
  generalize ptsP PL=z
  rw [List.map_map];rfl
 refine T.openSto (s:=s) (b:=b) (logs:=logs) (count:=count) (n':=n) (K:=K) (h:=h) λ x hst=>?_
 simp only [stoC,List.cons_append,List.nil_append]
 refine zB (Ts (TS ?_))
 iterate 7 refine Lz ?_
 refine zZ (t:=59) rfl (λ g1=>?_) (λ g1=>?_)
 .
  try replace g1:=of_decide_eq_true g1
  iterate 3 refine Lz ?_
  refine Ld (zF rfl ?_)
  have hcode:=code_range (h:=h) (stamp:=stamp) (ended:=ended) hrec (.inl g1)
  refine TS (La rfl (Ld (T.ret ?_)))
  exact ⟨.inl rfl,_,_,res [_] rfl ⟨rvT rfl,trivial⟩,⟨by rw [hcode];rfl,K,by omega,by rw [hcode,if_neg (by decide)]⟩,(λ k K2=>Sa k (sto_close (m:=stoA s b logs count n K h::(S++F)) [stoB s x.gh x.gm (lastS h),stM x x.st,hpA x.gh b logs count n K h] x h hst rfl k K2))⟩
 try replace g1:=of_decide_eq_false g1
 iterate 3 refine Lz ?_
 refine Ld ?_
 refine yN rfl (λ g2=>?_) (λ g2=>?_)
 .
  have hcode:=code_range (h:=h) (stamp:=stamp) (ended:=ended) hrec (.inr g2)
  refine TS (La rfl (Ld (T.ret ?_)))
  exact ⟨.inl rfl,_,_,res [_] rfl ⟨rvT rfl,trivial⟩,⟨by rw [hcode];rfl,K,by omega,by rw [hcode,if_neg (by decide)]⟩,(λ k K2=>Sa k (sto_close (m:=stoA s b logs count n K h::(S++F)) [stoB s x.gh x.gm (lastS h),stM x x.st,hpA x.gh b logs count n K h] x h hst rfl k K2))⟩
 refine Tk (TS ?_)
 refine Le (YD (Int×Int) Bool ridV tfV ?_)
 rintro gm
 refine La rfl (Ld (Ts (TS (Lm rfl (LW.conv (λ w ho=>ho.closeSto (s:=s) (b:=b) (logs:=logs) (count:=count) (n':=n) (K:=K) (h:=h) x hst) ?_)))))
 refine Le (Ec (Sx.history B s b logs count n K h si (by omega) hc (-1)) Tryz.func14 rfl rfl rfl ?_)
 rintro _ _ ⟨L,pv,cv,hL,rfl,rfl⟩
 try simp only [cA,nA]
 have hhl:L.length<2^30:=by have:=congrArg List.length hL;rw [List.length_map] at this;rw [this];exact hist_len si hc (-1)
 refine LW.own λ w ho=>?_
 have hpv2:0<L.length -> ∃ g,pv=some ⟨g,0,none⟩:=((ho.map Sa:Own B w [itR pv L.length cv L]).slice_at (p:=pv) (m:=L.length) (c:=cv)).2.1
 clear ho
 iterate 2 refine Lz ?_
 refine Ld (yH ?_)
 refine zG (λ mz fz lz => ∃ (f0:Fr) (j:Nat) (M:List ((Int×Int)×Bool)),(j<=L.length/\TheI ((histR h (-1)).take j) M)/\mz=L.length-j/\fz=(upd (upd (upd (upd (upd (upd (upd (upd (upd f0 0 (pV s)) 1 (.int .i64 stamp)) 2 (.slice ea en ec)) 9 (.slice pr i cr)) 10 (.slice pz i cz)) 15 (.map (some gm))) 65 (.slice pv L.length cv)) 66 (.int .i64 L.length)) 67 (.int .i64 j))/\lz=itR pv L.length cv L::mpA ridV tfV gm M::stoA s b logs count n (K+count) h::rxR pr i cr R::szR pz i cz R::rxsA R::(S++F)) ?_ ?_
 . refine ⟨_,_,⟨_,0,[],⟨Nat.zero_le _,λ r=>rfl⟩,rfl,U9,rfl⟩,Sa⟩
 rintro mz fz lz ⟨f0,j,M,⟨hj,hTM⟩,hmz,rfl,rfl⟩
 subst mz
 refine TS (Lq (yM rfl rfl) (Ld (Ts ?_)))
 refine yN rfl (λ hlt2=>?_) (λ hlt2=>?_)
 .
  obtain ⟨gv,rfl⟩:=hpv2 (by omega)
  obtain ⟨y,hy⟩ : ∃ y,L[j]? = some y:=⟨_,List.getElem?_eq_getElem (by omega)⟩
  have hil:=(List.getElem?_eq_some_iff.1 hy).1
  have hyi:(histR h (-1))[j]? = some y.it:=by rw [<-hL,List.getElem?_map,hy];rfl
  refine Tk (Ts (yH (TS ?_)))
  refine Lz ?_
  refine Lq (QL (itC y) rfl (by rw [show itC y=itC (L[j]'hil) by rw [(List.getElem?_eq_some_iff.1 hy).2]];exact rdl_flat _ _ _ (by intros;rfl) _ (by omega))) ?_
  refine Le (El [.int .i64 0,.int .i64 0,.slice none 0 0,.int .i64 0,.int .i64 0,.int .i64 0,.int .i64 0] (by unfold Zf;kernel_rfl) ?_)
  intro g17
  refine L0 (Es [_,_,_,_,_,_,_] rfl rfl rfl rfl (by simp) ?_)
  try simp only [splice,lC,lN,dS,cA,tS,tZ,dZ,nA,aN]
  refine Ld (TR ?_)
  iterate 6 refine Lz ?_
  refine L0 (Y0 Sx.okR rfl (keyOf y.it) rfl (decide (y.it.til=0)) rfl ?_)
  refine Ld (TR ?_)
  iterate 2 refine Lz ?_
  refine Ld ?_
  refine ⟨_,?_,_,⟨_,j+1,putL M (keyOf y.it) (decide (y.it.til=0)),⟨by omega,hTM.step si hyi⟩,rfl,U9,rfl⟩,Sa⟩
  omega
 obtain rfl:j=L.length:=by omega
 rw [List.take_of_length_le (by rw [<-hL,List.length_map];omega)] at hTM
 refine zB (Ts (TS ?_))
 iterate 3 refine Lz ?_
 refine Ld (yH ?_)
 refine zG (λ mz fz lz => ∃ (f0:Fr) (j:Nat) (M:List ((Int×Int)×Bool)),(j<=en/\TheE h (ended.take j) M/\endsG h (ended.take j) (ended.drop j)=endsG h [] ended)/\mz=en-j/\fz=(upd (upd (upd (upd (upd (upd (upd (upd (upd f0 0 (pV s)) 1 (.int .i64 stamp)) 2 (.slice ea en ec)) 9 (.slice pr i cr)) 10 (.slice pz i cz)) 15 (.map (some gm))) 78 (.slice ea en ec)) 79 (.int .i64 en)) 80 (.int .i64 j))/\lz=mpA ridV tfV gm M::stoA s b logs count n (K+count) h::rxR pr i cr R::szR pz i cz R::rxsA R::(S++F)) ?_ ?_
 . refine ⟨_,_,⟨_,0,M,⟨Nat.zero_le _,hTM.ends,rfl⟩,rfl,U9,rfl⟩,Sa⟩
 rintro mz fz lz ⟨f0,j,M,⟨hj,hTE,hEG⟩,hmz,rfl,rfl⟩
 subst mz
 refine TS (Lq (yM rfl rfl) (Ld (Ts ?_)))
 refine yN rfl (λ hlt3=>?_) (λ hlt3=>?_)
 .
  obtain ⟨be,oe,rfl,hrd⟩:=hev.at (sz:=2) (λ _=>rfl) (by omega)
  obtain ⟨y,hy⟩ : ∃ y,ended[j]? = some y:=⟨_,List.getElem?_eq_getElem (by omega)⟩
  rw [drop_one hy,endsG_cons] at hEG
  by_cases hop:(opnR h y && !((ended.take j).contains y))=true
  .
   have hlk:=(hTE y).trans hop
   rw [hop,Bool.true_and] at hEG
   refine Tk (Ts (yH (TS ?_)))
   refine Lz ?_
   refine Lq (Qt.loadAggW (ridC y) rfl (λ w ho=>hrd j y hy w (ho.map Sa))) ?_
   refine Le (El [.int .i64 0,.int .i64 0] (by unfold Zf;kernel_rfl) ?_)
   intro g19
   refine L0 (Es [_,_] rfl rfl rfl rfl (by simp) ?_)
   try simp only [splice,lC,lN,dS,cA,tS,tZ,dZ,nA,aN]
   refine Ld (Ts (TS ?_))
   iterate 2 refine Lz ?_
   refine Lq (Qt.look1V Sx.okR rfl y rfl false rfl hlk) (Lq (Y2 rfl) (Ld (yQ rfl (Tk (TR ?_)))))
   iterate 2 refine Lz ?_
   refine L0 (Y0 Sx.okR rfl y rfl false rfl ?_)
   refine Ld (TR ?_)
   iterate 2 refine Lz ?_
   refine Ld ?_
   refine ⟨_,?_,_,⟨_,j+1,putL M y false,⟨by omega,by rw [take_snoc hy];exact hTE.step y,by rw [take_snoc hy];exact hEG⟩,rfl,U9,rfl⟩,Sa⟩
   omega
  rw [Bool.not_eq_true] at hop
  have hlk:=(hTE y).trans hop
  rw [hop,Bool.false_and] at hEG
  refine Tk (Ts (yH (TS ?_)))
  refine Lz ?_
  refine Lq (Qt.loadAggW (ridC y) rfl (λ w ho=>hrd j y hy w (ho.map Sa))) ?_
  refine Le (El [.int .i64 0,.int .i64 0] (by unfold Zf;kernel_rfl) ?_)
  intro g19
  refine L0 (Es [_,_] rfl rfl rfl rfl (by simp) ?_)
  try simp only [splice,lC,lN,dS,cA,tS,tZ,dZ,nA,aN]
  refine Ld (Ts (TS ?_))
  iterate 2 refine Lz ?_
  refine Lq (Qt.look1V Sx.okR rfl y rfl false rfl hlk) (Lq (Y2 rfl) (Ld (zF rfl ?_)))
  have hcode:=code_miss (h:=h) (stamp:=stamp) (ended:=ended) hrec (by omega) hEG.symm
  refine TS (La rfl (Ld (T.ret ?_)))
  exact ⟨.inl rfl,_,_,res [_] rfl ⟨rvT rfl,trivial⟩,⟨by rw [hcode];rfl,K+count,by omega,by rw [hcode,if_neg (by decide)]⟩,Sa⟩
 obtain rfl:j=en:=by omega
 rw [List.drop_of_length_le (by omega)] at hEG
 have hEG:endsG h [] ended=true:=hEG.symm
 refine T.openSto (s:=s) (b:=b) (logs:=logs) (count:=count) (n':=n) (K:=K+count) (h:=h) λ x hst=>?_
 simp only [stoC,List.cons_append,List.nil_append]
 refine T.own λ w ho=>?_
 have hpr:=((ho.map Sa:Own B w [rxR pr i cr R]).slice_at (p:=pr) (m:=i) (c:=cr)).2.1
 have hpz:=((ho.map Sa:Own B w [szR pz i cz R]).slice_at (p:=pz) (m:=i) (c:=cz)).2.1
 clear ho
 refine zB (Ts (TS ?_))
 iterate 7 refine Lz ?_
 refine Le (Ec (Hp.fits B [szR pz i cz R] x.gh b logs count n (K+count) h (by omega) hc1 j (by omega) pz i cz (R.map λ x=>(x.d.length:Int)) (RdV.ofRow (e:=3) (λ _ ho=>ho.row_owns) (by simp [hRl]) hpz) (by simp [hRl]) (by omega)) Tryz.func35 rfl rfl rfl ?_)
 rintro _ _ ⟨rfl,rfl⟩
 try simp only [cA,nA]
 by_cases hfit:fitsR h j (R.map λ x=>(x.d.length:Int))=true
 .
  rw [hfit]
  refine Lq (Y2 rfl) (Ld (yQ rfl ?_))
  obtain ⟨ds,hds⟩ : ∃ ds,R.map (·.d)=ds:=⟨_,rfl⟩
  have hdsp:(ptsP PL).map (λ p=>recD p.1 p.2)=ds:=by rw [<-hRd];exact hds
  rw [hdsp] at hDs
  have hdsz:ds.map (λ d=>(d.length:Int))=R.map (λ x=>(x.d.length:Int)):=by rw [<-hds,List.map_map];rfl
  have hdsl:ds.length=i:=by rw [<-hds,List.length_map,hRl]
  have hcode:=code_ok (h:=h) (stamp:=stamp) (ended:=ended) hrec (by omega) hEG (by rw [hzs,hel];exact hfit)
  obtain ⟨w0,hw1,hw2⟩:=si.write hc hla (stamp:=stamp) (ended:=ended) (ds:=ds) (by omega) (by omega) hEG (by rw [hdsz,hel];exact hfit) hDs
  have hmid:=si.mid hc hla (ended:=ended) (ds:=ds) hEG (by rw [hdsz,hel];exact hfit)
  refine Tk (TS ?_)
  iterate 6 refine Lz ?_
  refine Le (Ec (Hp.begin B x.gh b logs count n (K+count+count) h (by omega)) Tryz.func36 rfl rfl rfl ?_)
  rintro _ _ ⟨rfl,rfl⟩
  try simp only [cA,nA]
  refine La rfl (Ld (Ts (TS ?_)))
  iterate 3 refine Lz ?_
  refine Ld (yH ?_)
  refine zG (λ mz fz lz => ∃ (f0:Fr) (k K6:Nat) (g:HR),(k<=j/\K6=K+count+count+1+2*k/\g=endAll (h.last+1) (beginR h) (ended.take k))/\mz=j-k/\fz=(upd (upd (upd (upd (upd (upd (upd f0 0 (pV s)) 1 (.int .i64 stamp)) 9 (.slice pr i cr)) 20 (.int .i64 (h.last+1))) 107 (.slice ea j ec)) 108 (.int .i64 j)) 109 (.int .i64 k))/\lz=hpA x.gh b logs count n K6 g::stoB s x.gh x.gm (lastS h)::stM x x.st::rxR pr i cr R::rxsA R::(S++F)) ?_ ?_
  . refine ⟨_,_,⟨_,0,K+count+count+1,beginR h,⟨Nat.zero_le _,rfl,rfl⟩,rfl,U7,rfl⟩,Sa⟩
  rintro mz fz lz ⟨f0,k,K6,g,⟨hk,hK6,hgk⟩,hmz,rfl,rfl⟩
  subst mz
  refine TS (Lq (yM rfl rfl) (Ld (Ts ?_)))
  refine yN rfl (λ hlt4=>?_) (λ hlt4=>?_)
  .
   obtain ⟨be,oe,rfl,hrd⟩:=hev.at (sz:=2) (λ _=>rfl) (by omega)
   obtain ⟨y,hy⟩ : ∃ y,ended[k]? = some y:=⟨_,List.getElem?_eq_getElem (by omega)⟩
   refine Tk (Ts (yH (TS ?_)))
   refine Lz ?_
   refine Lq (Qt.loadAggW (ridC y) rfl (λ w ho=>hrd k y hy w (ho.map Sa))) ?_
   refine Le (El [.int .i64 0,.int .i64 0] (by unfold Zf;kernel_rfl) ?_)
   intro g22
   refine L0 (Es [_,_] rfl rfl rfl rfl (by simp) ?_)
   try simp only [splice,lC,lN,dS,cA,tS,tZ,dZ,nA,aN]
   refine Ld (T.draw 7 ([blk g22 (ridC y) 67,stoB s x.gh x.gm (lastS h)]) (nB rfl) ?_)
   refine Rz 0 ?_;refine Rz 1 ?_;refine Rz 2 ?_;refine Rz 3 ?_;refine Rz 4 ?_;refine Rz 5 ?_
   refine yK 6 ?_
   refine zY rfl (Ec (Hp.end_ B x.gh b logs count n K6 g (by omega) (h.last+1) y.1 y.2) Tryz.func37 rfl rfl rfl ?_)
   rintro _ _ ⟨rfl,rfl⟩
   try simp only [cA,nA]
   refine Rd0 (by rfl) ?_
   simp only [dS,dZ,dN]
   refine Ld (TR ?_)
   iterate 2 refine Lz ?_
   refine Ld ?_
   refine ⟨_,?_,_,⟨_,k+1,K6+2,(endR g (h.last+1) y.1 y.2).1,⟨by omega,by omega,by rw [take_snoc hy,endAll_snoc,<-hgk]⟩,rfl,U7,rfl⟩,Sa⟩
   omega
  obtain rfl:k=j:=by omega
  rw [List.take_of_length_le (by omega)] at hgk
  have hgk:=hgk.symm
  refine zB (Ts (TS ?_))
  iterate 3 refine Lz ?_
  refine Ld (yH ?_)
  refine zG (λ mz fz lz => ∃ (f0:Fr) (q K4:Nat) (e:HR) (Q:List ReM),(q<=i/\e=addAll (h.last+1) g (ds.take q)/\Q=R.drop q/\K4+(count+1)*(i-q)=K6+(count+1)*i)/\mz=i-q/\fz=(upd (upd (upd (upd (upd (upd f0 0 (pV s)) 1 (.int .i64 stamp)) 20 (.int .i64 (h.last+1))) 121 (.slice pr i cr)) 122 (.int .i64 i)) 123 (.int .i64 q))/\lz=hpA x.gh b logs count n K4 e::rxsA Q::rxR pr i cr R::stoB s x.gh x.gm (lastS h)::stM x x.st::(S++F)) ?_ ?_
  . refine ⟨_,_,⟨_,0,K6,g,R,⟨Nat.zero_le _,rfl,rfl,rfl⟩,rfl,U6,rfl⟩,Sa⟩
  rintro mz fz lz ⟨f0,q,K4,e,Q,⟨hq,heq,hQ,hKq⟩,hmz,rfl,rfl⟩
  subst mz
  refine TS (Lq (yM rfl rfl) (Ld (Ts ?_)))
  refine yN rfl (λ hlt5=>?_) (λ hlt5=>?_)
  .
   subst hQ
   obtain ⟨gr,rfl⟩:=hpr (by omega)
   obtain ⟨y,hy⟩ : ∃ y,R[q]? = some y:=⟨_,List.getElem?_eq_getElem (by omega)⟩
   have hil:=(List.getElem?_eq_some_iff.1 hy).1
   have hyo:=hRo y (List.mem_of_getElem? hy)
   have hyd:ds[q]? = some y.d:=by rw [<-hds,List.getElem?_map,hy];rfl
   have hyl:=hyo.len
   have hmul:(count+1)*(i-q)=(count+1)*(i-(q+1))+(count+1):=by rw [<-Nat.mul_succ];congr 1;omega
   refine T.conv (l':=rxA y::hpA x.gh b logs count n K4 e::rxsA (R.drop (q+1))::rxR (some ⟨gr,0,none⟩) i cr R::stoB s x.gh x.gm (lastS h)::stM x x.st::(S++F)) (λ w ho=>(ho.map λ k K2=>Has.rx_pop hy (Sa (m:=rxsA (R.drop q)::hpA x.gh b logs count n K4 e::rxR (some ⟨gr,0,none⟩) i cr R::stoB s x.gh x.gm (lastS h)::stM x x.st::(S++F)) k K2)).map Sa) (Tk (Ts (yH (TS ?_))))
   refine Lz ?_
   refine Lq (Ql (v:=rxV y) rfl (by rw [<- (List.getElem?_eq_some_iff.1 hy).2];exact map_at _ _ _ hil)) ?_
   refine La rfl (Ld (TR ?_))
   iterate 6 refine Lz ?_
   refine Le (Ec (Hp.add B [rxA y] x.gh b logs count n K4 e (by omega) (h.last+1) y.p y.c y.d (RdV.rB rfl hyo.p) (by omega)) Tryz.func38 rfl rfl rfl ?_)
   rintro _ _ ⟨rfl,rfl⟩
   try simp only [cA,nA]
   refine Ld (TR ?_)
   iterate 2 refine Lz ?_
   refine Ld ?_
   refine ⟨_,?_,_,⟨_,q+1,K4+count+1,(Wm e (h.last+1) y.d).1,R.drop (q+1),⟨by omega,by rw [take_snoc hyd,addAll_snoc,<-heq],rfl,by omega⟩,rfl,U6,rfl⟩,Sa⟩
   omega
  obtain rfl:q=i:=by omega
  rw [List.take_of_length_le (by omega)] at heq
  rw [hgk] at hmid
  have hws:writeS h stamp ended ds=Zl e (h.last+1) stamp:=by unfold writeS;rw [hgk,<-heq]
  rw [<-heq] at hmid
  rw [hws] at w0 hw1 hw2
  have hK5:K4=K6+(count+1)*q:=by rw [Nat.sub_self,Nat.mul_zero] at hKq;omega
  refine zB (TS ?_)
  iterate 6 refine Lz ?_
  refine Le (Ec (Hp.commit B x.gh b logs count n K4 e (by omega) (h.last+1) stamp (by rw [hmid];exact hcl)) Tryz.func39 rfl rfl rfl ?_)
  rintro _ _ ⟨rfl,rfl⟩
  try simp only [cA,nA]
  rw [w0]
  refine La rfl (Ld (Ts (TS (Lm rfl (Lq (yU rfl rfl) (Ld (zF rfl (TR ?_))))))))
  iterate 8 refine Lz ?_
  refine Le (Ef.mapEntry Sx.okM rfl (h.last+1) rfl 0 rfl ?_)
  rintro b1
  try simp only [cA,nA]
  refine Lq (Qx rfl rfl) ?_
  refine L0 (Ef.entryStore (ke:=zV) (ve:=zV) (L:=putL x.st (h.last+1) ((Zy x.st (h.last+1)).getD 0)) Sx.okM rfl (h.last+1) b1 rfl stamp rfl ?_)
  iterate 2 refine Lz ?_
  refine L0 (E1 (by kernel_rfl) rfl rfl rfl (by first | (simp;done) | (simp;omega)) ?_)
  try simp only [List.set_cons_zero,List.set_cons_succ]
  refine Ld (TS (Lm rfl (La rfl (Ld ?_))))
  have hst2:=hst.write si.r (stamp:=stamp) (v0:=(Zy x.st (h.last+1)).getD 0) hw2.cm
  refine T.ret ?_
  exact ⟨.inl rfl,_,_,res [_] rfl ⟨rvT rfl,trivial⟩,⟨by rw [hcode];rfl,K4,by rw [if_pos hcode];omega,by rw [if_pos hcode,hdsp,hws]⟩,(λ k K2=>Sa k (sto_close (m:=stoA s b logs count n K4 (Zl e (h.last+1) stamp).1::(S++F)) [stoB s x.gh x.gm stamp,stM x (putL (putL x.st (h.last+1) ((Zy x.st (h.last+1)).getD 0)) (h.last+1) stamp),hpA x.gh b logs count n K4 (Zl e (h.last+1) stamp).1] ⟨x.gh,x.gm,putL (putL x.st (h.last+1) ((Zy x.st (h.last+1)).getD 0)) (h.last+1) stamp⟩ (Zl e (h.last+1) stamp).1 hst2 (by show _=[stoB s x.gh x.gm (lastS (Zl e (h.last+1) stamp).1),_,_];rw [hw2.lastS]) k K2))⟩
 rw [Bool.not_eq_true] at hfit
 rw [hfit]
 refine Lq (Y2 rfl) (Ld (zF rfl ?_))
 have hcode:=code_full (h:=h) (stamp:=stamp) (ended:=ended) hrec (by omega) hEG (by rw [hzs,hel];exact hfit)
 refine TS (La rfl (Ld (T.ret ?_)))
 exact ⟨.inl rfl,_,_,res [_] rfl ⟨rvT rfl,trivial⟩,⟨by rw [hcode];rfl,K+count+count,by omega,by rw [hcode,if_neg (by decide)]⟩,(λ k K2=>Sa k (sto_close (m:=stoA s b logs count n (K+count+count) h::(S++F)) [stoB s x.gh x.gm (lastS h),stM x x.st,hpA x.gh b logs count n (K+count+count) h] x h hst rfl k K2))⟩
open Go.RowKit
section
variable {P : Program} {B:Wn} {n:Nat} {S l:List Wp} {f:Fr} {K:Value->List Wp->Prop}
variable {d : Option Tmp} {ty:TypeId} {pos:String} {af:Array Edge} {gd:Option (Nat×Bool)}
theorem bless_irrefl : ∀ a:List UInt8,Op.bytesLess a a=false
 | []=>rfl
 | a::l=>by simp [Op.bytesLess,bless_irrefl l]
theorem Qt.lssW {t t2:TypeId} {x y:Operand} {a:List UInt8} (hx:ev n f x=some (.string (Zq a))) (hy:ev n f y=some (.string (Zq a))):Qt P B n S ⟨d,.binOp .lss t x y t2,ty,pos,af,gd⟩ f (.bool false):=⟨λ w _=>by
 simp [execOp,Zc hx,Zc hy,eqGuard,Go.binOp,Op.stringOp,strOf_toList,bless_irrefl]⟩
end
theorem eqVx (v:Vx):EqSt Tryz.prog 125 #[.int .i64 v.k,.int .i64 v.n,strW v.s] #[.int .i64 v.k,.int .i64 v.n,strW v.s] true:=by
 refine EqSt.mk' (by kernel_rfl) Tryz.underlying125 (by kernel_rfl) λ d0 w=>?_
 refine Eq.trans (eqF_int w (a:=v.k) (b:=v.k) rfl Tryz.underlying3 rfl rfl) ?_
 rw [if_pos rfl]
 refine Eq.trans (eqF_int w (a:=v.n) (b:=v.n) rfl Tryz.underlying2 rfl rfl) ?_
 rw [if_pos rfl]
 refine Eq.trans (eqF_str w (a:=v.s) (b:=v.s) rfl Tryz.underlying9 rfl rfl) ?_
 rw [if_pos rfl,eqF_nil]
abbrev vxV (v:Vx):Value := .agg #[.int .i64 v.k,.int .i64 v.n,strW v.s]
theorem Rx.one (B:Wn) (v:Vx):Fn Tryz.prog B 122 #[vxV v,vxV v] [] (λ u l=>u = .int .i64 0/\l=[]):=by
 refine Wr 41 Tryz.func122 rfl rfl (nB rfl) (λ F=>?_)
 try simp only [cA,nA]
 refine TS ?_
 refine Le (zL [_,_,_] rfl rfl ?_)
 intro g2
 refine Le (zL [_,_,_] rfl rfl ?_)
 intro g3
 refine La rfl (Ld (Ts (TS ?_)))
 iterate 6 refine Lz ?_
 refine yT (t:=10) rfl (decide_eq_false (by omega)) ?_
 iterate 6 refine Lz ?_
 refine zQ (t:=16) rfl (decide_eq_true (by omega)) ?_
 iterate 6 refine Lz ?_
 refine yT (t:=22) rfl (decide_eq_false (by omega)) ?_
 iterate 6 refine Lz ?_
 refine zQ (t:=28) rfl (decide_eq_true (by omega)) ?_
 iterate 4 refine Lz ?_
 refine Lq (Qt.lssW (a:=v.s) rfl rfl) ?_
 iterate 4 refine Lz ?_
 refine Ld (yQ rfl (Tk (Ts (TS ?_))))
 iterate 2 refine Lz ?_
 refine Lq (Qt.eqlSt (eqVx v) rfl rfl) (Ld (zF rfl (TS (La rfl (Ld (T.ret ?_))))))
 exact ⟨.inl rfl,_,_,res [_] rfl ⟨rvT rfl,trivial⟩,⟨rfl,rfl⟩,Sa⟩
theorem Rx.compare (B:Wn) (S:List Wp) (l:List Vx) (pa pb:Option Addr) (m ca cb:Nat) (hl:l.length=m) (hm:m<2^40) (hv:FlV B S vxC (.slice pa m ca) l) (hu:FlV B S vxC (.slice pb m cb) l):Fn Tryz.prog B 70 #[.slice pa m ca,.slice pb m cb] S (λ u r=>u = .int .i64 0/\r=S):=by
 refine Wr 41 Tryz.func70 rfl rfl (nB rfl) (λ F=>?_)
 refine TS (La rfl (Ld (Ts (TS (La rfl (Ld (yH ?_)))))))
 refine zG (λ mz fz lz => ∃ (f0:Fr) (k:Nat),(k<=m)/\mz=m-k/\fz=(upd (upd (upd f0 0 (.slice pa m ca)) 1 (.slice pb m cb)) 5 (.int .i64 k))/\lz=S++F) ?_ ?_
 . refine ⟨_,_,⟨_,0,Nat.zero_le _,rfl,U3,rfl⟩,Sa⟩
 rintro mz fz lz ⟨f0,k,hk,hmz,rfl,rfl⟩
 subst mz
 refine Ts (TS ?_)
 iterate 5 refine Lz ?_
 refine zZ (t:=11) rfl (λ hlt=>?_) (λ hlt=>?_)
 .
  try replace hlt:=of_decide_eq_true hlt
  iterate 5 refine Lz ?_
  refine Ld (zM rfl ?_)
  obtain ⟨b,o,rfl,hr⟩:=hv.at (sz:=3) (λ _=>rfl) (by omega)
  obtain ⟨b2,o2,rfl,hr2⟩:=hu.at (sz:=3) (λ _=>rfl) (by omega)
  obtain ⟨v,hx⟩ : ∃ v,l[k]? = some v:=⟨_,List.getElem?_eq_getElem (by omega)⟩
  refine Tk (Ts (yH (Ts (zU 9 (nB rfl) ?_))))
  refine Rz 0 ?_;refine Rz 1 ?_;refine Rz 2 ?_
  refine Rq 3 rfl (Sr _) (Qt.loadAggW [.int .i64 v.k,.int .i64 v.n,strW v.s] rfl (λ w ho=>hr k v hx w ho.drop)) ?_
  refine Rz 4 ?_;refine Rz 5 ?_;refine Rz 6 ?_
  refine Rq 7 rfl (Sr _) (Qt.loadAggW [.int .i64 v.k,.int .i64 v.n,strW v.s] rfl (λ w ho=>hr2 k v hx w ho.drop)) (yK 8 ?_)
  refine zY rfl (Ec (Rx.one B v) Tryz.func122 rfl rfl rfl ?_)
  rintro _ _ ⟨rfl,rfl⟩
  try simp only [cA,nA]
  refine Rd0 (by rfl) ?_
  simp only [dS,dZ,dN]
  refine La rfl (Ld (TS (Lm rfl (Lq (yW rfl rfl) (Ld (yQ rfl (Tk (TR ?_))))))))
  iterate 3 refine Lz ?_
  refine Ld ?_
  refine ⟨_,?_,_,⟨_,k+1,by omega,rfl,U3,rfl⟩,Sa⟩
  omega
 try replace hlt:=of_decide_eq_false hlt
 iterate 5 refine Lz ?_
 refine Ld (yQ rfl (zB (Ts (TS ?_))))
 iterate 5 refine Lz ?_
 refine Ld (yL rfl (Tk (Ts (TS ?_))))
 iterate 5 refine Lz ?_
 refine Ld (yL rfl (Tk (TS (La rfl (Ld (T.ret ?_))))))
 exact ⟨.inl rfl,_,_,res [_] rfl ⟨rvT rfl,trivial⟩,⟨rfl,rfl⟩,Sa⟩
theorem Rx.same (B:Wn) (S:List Wp) (l:List Vx) (pa pb:Option Addr) (m ca cb:Nat) (hl:l.length=m) (hm:m<2^40) (hv:FlV B S vxC (.slice pa m ca) l) (hu:FlV B S vxC (.slice pb m cb) l):Fn Tryz.prog B 30 #[.slice pa m ca,.slice pb m cb] S (λ u r=>u = .bool true/\r=S):=by
 refine Wr 16 Tryz.func30 rfl rfl (nB rfl) (λ F=>?_)
 refine TS (La rfl (Ld (TS ?_)))
 iterate 6 refine Lz ?_
 refine zQ (t:=10) rfl (decide_eq_true (by omega)) (Lm rfl (Lm rfl ?_))
 refine Le (Ec (Rx.compare B S l pa pb m ca cb hl hm hv hu) Tryz.func70 rfl rfl rfl ?_)
 rintro _ _ ⟨rfl,rfl⟩
 try simp only [cA,nA]
 iterate 3 refine Lz ?_
 refine Ld (T.ret ?_)
 exact ⟨.inl rfl,_,_,res [_] rfl ⟨rvT rfl,trivial⟩,⟨rfl,rfl⟩,Sa⟩
open Go.RowKit
theorem lastE_mono {h:HR} (r:RInv h) (n:Nat):0<=lastE (h.es.take n)/\lastE (h.es.take n)<=h.last:=by
 refine ⟨(lastE_le _ _).1,?_⟩
 have key : ∀ (es:List En) (m x:Int),m<=x->(∀ e∈es,e.txn<=x)->es.foldl (λ m e=>max m e.txn) m<=x:=by
  intro es
  induction es with
  | nil=>intro m x h _;exact h
  | cons e es ih=>intro m x h1 h2;exact ih _ _ (by have:=h2 e (by simp);dsimp only;omega) (λ e he=>h2 e (by simp [he]))
 exact key _ _ _ r.last0 (λ e he=>r.lst e (List.mem_of_mem_take he))
open Go.RowKit
theorem HR.same : ∀ {a b:HR},a.pages=b.pages->a.room=b.room->a.used=b.used->a.vs=b.vs->a.act=b.act->a.cm=b.cm->a.last=b.last->a.es=b.es->a=b
 | ⟨_,_,_,_,_,_,_,_⟩,⟨_,_,_,_,_,_,_,_⟩,rfl,rfl,rfl,rfl,rfl,rfl,rfl,rfl=>rfl
theorem SI.hist_ok {h:HR} {c rm:Nat} (s:SI h c rm):HistOk c rm h.es:=by
 have:=s.r.hist
 rwa [s.pages,s.room] at this
theorem SI.reopen {h:HR} {c rm:Nat} (s:SI h c rm):Go.Proofs.YtkfmfoecplbclaaGreatDoor.reopen c rm h.es={h with last:=lastE h.es}:=by
 obtain ⟨a,b,c',d,e⟩:=replay_es c rm h.es
 have h1:=s.r.rvs
 have h2:=s.r.rcm
 have h3:=s.r.rus
 rw [s.pages,s.room] at h1 h2 h3
 refine HR.same ?_ ?_ h3 h1 ?_ h2 rfl a
 . show (replay c rm h.es).pages=h.pages;rw [b,s.pages]
 . show (replay c rm h.es).room=h.room;rw [c',s.room]
 . show (replay c rm h.es).act=h.act;rw [d,s.act]
theorem SI.re {h:HR} {c rm:Nat} (s:SI h c rm):SI (Go.Proofs.YtkfmfoecplbclaaGreatDoor.reopen c rm h.es) c rm:=by
 have hr:=reopen_inv s.hist_ok
 rw [s.reopen] at hr ⊢
 exact ⟨hr,s.pages,s.room,s.act,s.vis,s.rc,s.dur,s.st⟩
theorem SI.re_see {h:HR} {c rm:Nat} (s:SI h c rm) (t a:Int):seeR (Go.Proofs.YtkfmfoecplbclaaGreatDoor.reopen c rm h.es) t a=seeR h t a:=by rw [s.reopen];rfl
theorem SI.re_lastS {h:HR} {c rm:Nat} (s:SI h c rm):lastS (Go.Proofs.YtkfmfoecplbclaaGreatDoor.reopen c rm h.es)=lastS h:=by rw [s.reopen];rfl
theorem SI.re_last {h:HR} {c rm:Nat} (s:SI h c rm):(Go.Proofs.YtkfmfoecplbclaaGreatDoor.reopen c rm h.es).last<=h.last/\0<=(Go.Proofs.YtkfmfoecplbclaaGreatDoor.reopen c rm h.es).last:=by
 have:=lastE_mono s.r h.es.length
 rw [List.take_length] at this
 exact ⟨this.2,this.1⟩
theorem SI.re_cm {h:HR} {c rm:Nat} (s:SI h c rm):(Go.Proofs.YtkfmfoecplbclaaGreatDoor.reopen c rm h.es).cm=h.cm:=by rw [s.reopen]
theorem page_perm (vs:List Ver) : ∀ n:Nat,((List.range n).flatMap λ q=>Zh vs q).Perm (vs.filter λ v=>decide (v.page<n))
  | 0=>by simp
  | n+1=>by
    rw [List.range_succ,List.flatMap_append]
    have ih:=page_perm vs n
    have e:(List.flatMap (λ q=>Zh vs q) [n])=Zh vs n:=by simp
    rw [e]
    refine (List.Perm.append_right _ ih).trans ?_
    clear ih e
    unfold Zh
    induction vs with
    | nil=>exact List.Perm.refl _
    | cons v vs ihv =>
      by_cases h1:v.page<n
      . rw [List.filter_cons_of_pos (by simpa using h1),List.filter_cons_of_neg (by simp;omega),List.filter_cons_of_pos (by simp;omega)]
        exact List.Perm.cons v ihv
      . by_cases h2:v.page=n
        . rw [List.filter_cons_of_neg (by simpa using h1),List.filter_cons_of_pos (by simp [h2]),List.filter_cons_of_pos (by simp;omega)]
          exact List.perm_middle.trans (List.Perm.cons v ihv)
        . rw [List.filter_cons_of_neg (by simpa using h1),List.filter_cons_of_neg (by simp [h2]),List.filter_cons_of_neg (by simp;omega)]
          exact ihv
theorem SI.perm {h:HR} {c rm:Nat} (s:SI h c rm):(allR h).Perm h.vs:=by
 rw [s.all]
 refine (page_perm h.vs h.pages).trans ?_
 rw [List.filter_eq_self.2]
 intro v hv
 simpa using (s.r.ok.vok v hv).1
noncomputable def inT (t:Int) (v:Ver):Bool:=decide ((factR v.data).1=t\/t<0)
theorem hist_map (h:HR) (t:Int):histR h t=((allR h).filter (inT t)).map (itemR h):=by
 unfold histR
 rw [List.filter_map];rfl
theorem SI.hist_len {h:HR} {c rm:Nat} (s:SI h c rm) (t:Int):(histR h t).length=(h.vs.filter (inT t)).length:=by
 rw [hist_map,List.length_map]
 exact (s.perm.filter _).length_eq
theorem SI.one {h:HR} {c rm:Nat} (s:SI h c rm) {v:Ver} (e:h.vs=[v]):allR h=[v]:=by
 have:=s.perm
 rw [e] at this
 exact List.perm_singleton.1 this
theorem inT_rec {t t':Int} {f:Fx1} {v:Ver} (hx:FxOk t f) (hd:v.data=encL (valsF t f)):inT t' v=decide (t=t'\/t'<0):=by unfold inT;rw [hd,factR_rec hx]
theorem itemR_rec {h:HR} {t:Int} {f:Fx1} {v:Ver} (hx:FxOk t f) (hd:v.data=encL (valsF t f)):itemR h v=⟨v.page,v.slot,t,f,stampR h v.beg,stampR h v.fin⟩:=by unfold itemR;rw [hd,factR_rec hx]
structure ReadyD (logs count:Nat) (h:HR) (D:DD):Prop where
 scan : ∃ x y,Wj (allD D 0 logs) (logs*256+1) 0 0=(x,y,logR 0 (h.es.map Zj))
 len:D.secs.length=logs+count
 pend:D.pend=[]
theorem Sx.crash (B:Wn) (s b logs count n K:Nat) (h:HR) (si:SI h count (logs*256)) (hK:K<2^30) (vk:Value) (keep:List Bool) (tear at_:Int) (hk:RoS B vk (boolsV keep)) :
  Fn Tryz.prog B 7 #[pV b,vk,.int .i64 tear,.int .i64 at_] [stoA s b logs count n K h] (λ u l => ∃ D,ReadyD logs count h D/\u = .tuple #[]/\l=[Zn b D]):=by
 refine Fn.openSto λ x hst=>?_
 simp only [stoC,List.cons_append,List.nil_append]
 refine Fn.wide (Hp.crash B x.gh b logs count n K h hK vk keep tear at_ hk) ?_
 rintro u l ⟨D,k,⟨hh,hk,hc,hs,hd,ho,hp⟩,rfl,rfl⟩
 have hkl:=si.dur k hk hc
 subst hkl
 rw [List.take_length] at hs
 exact ⟨_,Sa,D,⟨hs,hd,hp⟩,rfl,rfl⟩
theorem Sx.again (B:Wn) (b:Nat) (D:DD) (logs count n m:Nat) (i j:Int) (hi:i=logs) (hj:j=n) (h:HR) (si:SI h count (logs*256)) (rd:ReadyD logs count h D) (h1:1<=logs) (hc:1<=count) (hc2:count<=4096) (hn1:1<=n) (hn2:n<=4096) (hm:h.last<=m) (hK:m+count+h.es.length+count<2^29) :
  Fn Tryz.prog B 8 #[pV b,.int .i64 i,.int .i64 j] [Zn b D] (λ u l => ∃ s,u = .tuple #[pV s,.int .i64 0]/\l=[stoA s b logs count n (m+count+h.es.length+count) (reopen count (logs*256) h.es)]) :=
 Sx.open B b D logs count n m i j hi hj h.es h1 hc hc2 rd.len hn1 hn2 (by rw [rd.pend];simp) si.hist_ok rd.scan (Int.le_trans si.re_last.1 hm) hK si.re
open Go.RowKit
theorem hpA_mono {g b logs count n K K':Nat} {h:HR} (hk:K<=K') : ∀ p,hpA g b logs count n K h p->hpA g b logs count n K' h p:=λ p ⟨x,hx⟩=>by
 obtain ⟨hi,h2⟩:=Has.open_pu (hx:Has (pu (HInv logs count n K x.s x.st h)::hpC g b logs count n x h) p)
 exact ⟨x,Has.close_pu (hi.mono hk) h2⟩
theorem stoA_mono {s b logs count n K K':Nat} {h:HR} (hk:K<=K') : ∀ p,stoA s b logs count n K h p->stoA s b logs count n K' h p:=λ p ⟨x,hx⟩=>by
 obtain ⟨hi,h2⟩:=Has.open_pu (hx:Has (pu (StamI x.st h)::stoC s b logs count n K x h) p)
 refine ⟨x,Has.close_pu hi ?_⟩
 exact Wt (λ _=>Wt (λ _=>Has.weaken (hpA_mono hk))) h2
theorem Fn.post {P:Program} {B:Wn} {g:FuncId} {args:Array Value} {pre:List Wp} {R R':Value->List Wp->Prop} (h:Fn P B g args pre R) (hr : ∀ v l',R v l' -> ∃ l2,Sub l' l2/\R' v l2):Fn P B g args pre R':=⟨λ w F ho=>by
 refine (h.run w F ho).mono ?_
 rintro _ w' ⟨v,l',rfl,hR,ho2⟩
 obtain ⟨l2,hs,hR'⟩:=hr v l' hR
 refine ⟨v,l2,rfl,hR',ho2.map λ hh H=>?_⟩
 obtain ⟨h1,h2,d,a,b,e1,e2⟩:=Has.split H
 exact Has.join d a b (hs _ e1) e2⟩
theorem Sx.writeA (B:Wn) (S:List Wp) (s b logs count n K:Nat) (h:HR) (si:SI h count (logs*256)) (hc1:1<=count) (hc:count<=4096) (hcl:h.cm.length<2^32) (hla:h.last+1<2^62) (stamp:Int)
  (ea:Option Addr) (en ec:Nat) (ended:List (Int×Int)) (hel:ended.length=en) (hen:en<=2^20) (hev:FlV B S ridC (.slice ea en ec) ended)
  (pa:Option Addr) (m pc:Nat) (PL:List PtM) (hpl:PL.length=m) (hm:m<=2^20) (hpv:FlV B S ptC (.slice pa m pc) PL) (hpo : ∀ p∈PL,PtOk B S p) (K2:Nat) (hK2:K+2*count+2+2*en+(count+1)*m<=K2) (hK:K2<2^28) (code:Int) (hcode:codeS h stamp ended (ptsP PL)=code) :
  Fn Tryz.prog B 16 #[pV s,.int .i64 stamp,.slice ea en ec,.slice pa m pc] (stoA s b logs count n K h::S) (λ u l=>u = .int .i64 code/\l=stoA s b logs count n K2 (if code=0 then (writeS h stamp ended ((ptsP PL).map λ p=>recD p.1 p.2)).1 else h)::S):=by
 refine Fn.post (Sx.write B S s b logs count n K h si hc1 hc hcl hla stamp ea en ec ended hel hen hev pa m pc PL hpl hm hpv hpo (by omega)) ?_
 rintro u l ⟨rfl,K',hK',rfl⟩
 rw [hcode] at hK' ⊢
 exact ⟨_,λ k H=>Has.weaken (stoA_mono (by split at hK' <;> omega)) H,rfl,rfl⟩
theorem Sx.writeOk (B:Wn) (S:List Wp) (s b logs count n K:Nat) (h:HR) (si:SI h count (logs*256)) (hc1:1<=count) (hc:count<=4096) (hcl:h.cm.length<2^32) (hla:h.last+1<2^62) (stamp:Int)
  (ea:Option Addr) (en ec:Nat) (ended:List (Int×Int)) (hel:ended.length=en) (hen:en<=2^20) (hev:FlV B S ridC (.slice ea en ec) ended)
  (pa:Option Addr) (m pc:Nat) (PL:List PtM) (hpl:PL.length=m) (hm:m<=2^20) (hpv:FlV B S ptC (.slice pa m pc) PL) (hpo : ∀ p∈PL,PtOk B S p) (K2:Nat) (hK2:K+2*count+2+2*en+(count+1)*m<=K2) (hK:K2<2^28) (ds:List (List UInt8)) (hds:(ptsP PL).map (λ p=>recD p.1 p.2)=ds) (hcode:codeS h stamp ended (ptsP PL)=0) :
  Fn Tryz.prog B 16 #[pV s,.int .i64 stamp,.slice ea en ec,.slice pa m pc] (stoA s b logs count n K h::S) (λ u l=>u = .int .i64 0/\l=stoA s b logs count n K2 (writeS h stamp ended ds).1::S) :=
 Fn.post (Sx.writeA B S s b logs count n K h si hc1 hc hcl hla stamp ea en ec ended hel hen hev pa m pc PL hpl hm hpv hpo K2 hK2 hK 0 hcode) (by rintro u l ⟨rfl,rfl⟩;exact ⟨_,Sr _,rfl,by rw [if_pos rfl,hds]⟩)
theorem Sx.fact (B:Wn) (n f t:Int):Fn Tryz.prog B 17 #[.int .i64 n,.int .i64 f,.int .i64 t] [] (λ u l => ∃ g,u=factV (some ⟨g,0,none⟩) 1 1 ⟨[⟨1,n,[]⟩],f,t⟩/\l=[blk g (vxC ⟨1,n,[]⟩) 125]):=by
 refine Ws 14 Tryz.func17 rfl rfl (nB rfl) (λ F=>?_)
 try simp only [cA,nA]
 refine TS ?_
 refine Le (El [.slice none 0 0,.int .i64 0,.int .i64 0] (by unfold Zf;kernel_rfl) ?_)
 intro g6
 refine Ld (TS (Lm rfl (Lq (z8 [(0,1),(1,1),(2,1)] [.int .i64 0,.int .i64 0,.string .empty] [_,_,_] [(0,_),(1,_)] (by unfold Zf;kernel_rfl) rfl rfl) ?_)))
 refine Le (Ef.lits (e:=125) (sz:=3) [_] (vxC ⟨1,n,[]⟩) rfl (by simp [Value.cells]) rfl rfl ?_)
 intro gh
 refine Lm rfl (Lm rfl (Lq (z8 [(0,1),(1,1)] [.int .i64 0,.int .i64 0] [_,_] [(0,_),(1,_)] (by unfold Zf;kernel_rfl) rfl rfl) (Lq (z8 [(0,1),(1,2)] [.slice none 0 0,.int .i64 0,.int .i64 0] [_,_,_] [(0,_),(1,_)] (by unfold Zf;kernel_rfl) rfl rfl) ?_)))
 refine L0 (Es [_,_,_] rfl rfl rfl rfl (by simp) ?_)
 try simp only [splice,lC,lN,dS,cA,tS,tZ,dZ,nA,aN]
 refine Ld (T.ret ?_)
 exact ⟨.inl rfl,_,_,res [_] rfl ⟨rvA [_,_,_] rfl ⟨rfl,rfl,rfl,trivial⟩,trivial⟩,⟨gh,rfl,rfl⟩,Sa⟩
theorem Sx.opened (B:Wn):Fn Tryz.prog B 5 #[] [] (λ u l => ∃ b s,u = .tuple #[pV b,pV s]/\l=[stoA s b 12 8 3 16 (newR 8 3072)]):=by
 refine Fn.enter0 22 Tryz.func5 rfl rfl (nB rfl) (λ F=>?_)
 try simp only [cA,nA]
 refine TS (La rfl (La rfl (Ld (TS ?_))))
 refine Le (Ec (Dk.newF B 20 20 rfl (by omega) (by omega)) Tryz.func19 rfl rfl rfl ?_)
 rintro _ _ ⟨b,rfl,rfl⟩
 try simp only [cA,nA]
 iterate 5 refine Lz ?_
 refine Ld (Ts (TS ?_))
 iterate 2 refine Lz ?_
 refine Ld (yQ rfl (Tk (TS (Lm rfl ?_))))
 refine Le (Ec (Sx.open B b ⟨List.replicate 20 zs,[]⟩ 12 8 3 0 12 3 rfl rfl [] (by omega) (by omega) (by omega) (by simp) (by omega) (by omega) (by simp) (histNil _ _) (scan_secs (ds:=[]) (Secs.new (by omega)) (by simp) (by simp [Zr])) (by simp [lastE]) (by simp) (SI.new 8 3072)) Tryz.func8 rfl rfl rfl ?_)
 rintro _ _ ⟨s,rfl,rfl⟩
 try simp only [cA,nA]
 rw [show (0:Nat)+8+([]:List En).length+8=16 by simp,show reopen 8 (12*256) []=newR 8 3072 from rfl]
 iterate 5 refine Lz ?_
 refine Ld (Ts (TS (Lm rfl (Lq (yW rfl rfl) (Ld (yQ rfl (Tk (TS ?_))))))))
 iterate 4 refine Lz ?_
 refine Ld (T.ret ?_)
 exact ⟨.inl rfl,_,_,res [_,_] rfl ⟨rvT rfl,rvT rfl,trivial⟩,⟨b,s,rfl,rfl⟩,Sa⟩
open Go.RowKit
theorem hist_one {h:HR} {c rm:Nat} (s:SI h c rm) {v:Ver} (e:h.vs=[v]) {t:Int} {f:Fx1} (hx:FxOk t f) (hd:v.data=encL (valsF t f)) (tb:Int):histR h tb=if t=tb\/tb<0 then [⟨v.page,v.slot,t,f,stampR h v.beg,stampR h v.fin⟩] else []:=by
  rw [hist_map,s.one e,List.filter_cons,inT_rec hx hd]
  by_cases q:t=tb\/tb<0
  . rw [if_pos (decide_eq_true q),if_pos q]
    rw [List.filter_nil,List.map_cons,List.map_nil,itemR_rec hx hd]
  . rw [if_neg (by rw [decide_eq_true_eq];exact q),if_neg q];rfl
theorem see_one {h:HR} {c rm:Nat} (s:SI h c rm) {v:Ver} (e:h.vs=[v]) {t:Int} {f:Fx1} (hx:FxOk t f) (hd:v.data=encL (valsF t f)) (tb a:Int):seeR h tb a=if (t=tb\/tb<0)/\stampR h v.beg<=a/\(stampR h v.fin=0\/a<stampR h v.fin) then [⟨v.page,v.slot,t,f,stampR h v.beg,stampR h v.fin⟩] else []:=by
  unfold seeR
  rw [hist_one s e hx hd]
  by_cases q:t=tb\/tb<0
  . rw [if_pos q,List.filter_cons]
    by_cases q2:stampR h v.beg<=a/\(stampR h v.fin=0\/a<stampR h v.fin)
    . rw [if_pos (decide_eq_true q2),if_pos ⟨q,q2⟩];rfl
    . rw [if_neg (by rw [decide_eq_true_eq];exact q2),if_neg (λ z=>q2 z.2)];rfl
  . rw [if_neg q,if_neg (λ z=>q z.1)];rfl
abbrev awF : Fx1:=⟨[⟨1,7,[]⟩],0,9⟩
abbrev awD : List UInt8:=encL (valsF 1 awF)
abbrev sw1 : HR:=(writeS (newR 8 3072) 3 [] [awD]).1
abbrev sw2 : HR:=(writeS sw1 5 [(0,0)] []).1
theorem awOk : FxOk 1 awF:=recE_ok (by decide) (by simp) (by kernel_rfl)
theorem aw_c1 : codeS (newR 8 3072) 3 [] [(1,awF)]=0:=by kernel_rfl
theorem aw_c2 : codeS sw1 5 [(0,0)] []=0:=by kernel_rfl
theorem aw_v1 : sw1.vs=[⟨0,0,1,0,awD⟩]:=by kernel_rfl
theorem aw_m1 : sw1.cm=[(1,3)]:=by kernel_rfl
theorem aw_l1 : sw1.last=1:=by kernel_rfl
theorem aw_v2 : sw2.vs=[⟨0,0,1,2,awD⟩]:=by kernel_rfl
theorem aw_m2 : sw2.cm=[(1,3),(2,5)]:=by kernel_rfl
theorem aw_l2 : sw2.last=2:=by kernel_rfl
theorem aw_e2 : sw2.es.length=4:=by kernel_rfl
theorem aw_d1 : recD 1 awF=awD:=by kernel_rfl
theorem code_write {h:HR} {c rm:Nat} (s:SI h c rm) (hl:h.last+1<2^62) {stamp:Int} {ended:List (Int×Int)} {ps:List (Int×Fx1)} (hf : ∀ p∈ps,-(2^63)<=p.1/\p.1<2^63/\FxRd p.2) (hc:codeS h stamp ended ps=0) (hp:c<=4096:=by omega) :
  lastS h<stamp/\stamp<=1099511627776/\endsG h [] ended=true/\(∀ p∈ps,FxOk p.1 p.2/\recD p.1 p.2=encL (valsF p.1 p.2))/\SI (writeS h stamp ended (ps.map λ p=>recD p.1 p.2)).1 c rm/\Wrote h (writeS h stamp ended (ps.map λ p=>recD p.1 p.2)).1 stamp ended (ps.map λ p=>recD p.1 p.2):=by
 obtain ⟨h1,h2,h3,h4,h5⟩:=code_inv hc
 have hok : ∀ p∈ps,FxOk p.1 p.2/\recD p.1 p.2=encL (valsF p.1 p.2):=λ p hp=>by
  have h0:=recsE_ok h1 p hp
  obtain ⟨a,b,c⟩:=hf p hp
  exact ⟨recE_ok b c.n h0,by unfold recD;rw [if_pos h0]⟩
 obtain ⟨_,a,b⟩:=s.write hp hl h2 h3 h4 (ds:=ps.map λ p=>recD p.1 p.2) (by rw [List.map_map];exact h5) (λ d hd=>by
  obtain ⟨p,hp,rfl⟩:=List.mem_map.1 hd
  exact ⟨p.1,p.2,(hok p hp).1,(hok p hp).2⟩)
 exact ⟨h2,h3,h4,hok,a,b⟩
theorem aw_rd : FxRd awF:=⟨by simp,by simp,by simp,by simp⟩
theorem aw_s1 : SI sw1 8 3072:=by
 have:=code_write (SI.new 8 3072) (by decide) (ps:=[(1,awF)]) (by simp [aw_rd]) aw_c1
 exact this.2.2.2.2.1
theorem aw_s2 : SI sw2 8 3072:=by
 have:=code_write aw_s1 (by rw [aw_l1];decide) (ps:=[]) (by simp) aw_c2
 exact this.2.2.2.2.1
theorem aw_t1 (t:Int):stampR sw1 t=if t=1 then 3 else 0:=by
 show stampL _ t=_
 rw [aw_m1]
 unfold stampL
 by_cases q:t=1
 . subst q;rfl
 . rw [if_neg q,List.find?_cons_of_neg (by simp;omega)];rfl
theorem aw_t2 (t:Int):stampR sw2 t=if t=1 then 3 else if t=2 then 5 else 0:=by
  show stampL _ t=_
  rw [aw_m2]
  unfold stampL
  by_cases q:t=1
  . subst q;rfl
  . by_cases q2:t=2
    . subst q2;rfl
    . rw [if_neg q,if_neg q2,List.find?_cons_of_neg (by simp;omega),List.find?_cons_of_neg (by simp;omega)];rfl
theorem aw_see1 (a:Int):seeR sw1 1 a=if 3<=a then [⟨0,0,1,awF,3,0⟩] else []:=by
 rw [see_one aw_s1 aw_v1 awOk rfl,aw_t1,aw_t1]
 simp
theorem aw_see2 (a:Int):(seeR sw2 1 a).length=if 3<=a/\a<5 then 1 else 0:=by
  rw [see_one aw_s2 aw_v2 awOk rfl,aw_t2,aw_t2]
  by_cases q:3<=a/\a<5
  . rw [if_pos q];simp [q]
  . rw [if_neg q,if_neg];rfl
    simp;omega
open Go.RowKit
theorem PtOk.blk {B:Wn} {S:List Wp} {t n fr to:Int} {gf:Nat} (hs : ∀ w,Own B w S->Own B w [blk gf (vxC ⟨1,n,[]⟩) 125]) (h:FxRd ⟨[⟨1,n,[]⟩],fr,to⟩) (ht : -(2^63)<=t/\t<2^63):PtOk B S ⟨t,⟨[⟨1,n,[]⟩],fr,to⟩,some ⟨gf,0,none⟩,1⟩ :=
 ⟨((FlV.blk (b:=gf) (m:=1) (c:=1) (t:=125) (x:=[(⟨1,n,[]⟩:Vx)]) (g:=vxC) (l:=[]) rfl).mono hs),h,ht⟩
theorem it_one {L:List ItM} {x:It} (h:L.map (·.it)=[x]) : ∃ g c,L=[⟨x,g,c⟩]:=by
 obtain ⟨⟨y,g,c⟩,rfl⟩ : ∃ y,L=[y]:=List.length_eq_one_iff.1 (by have:=congrArg List.length h;simpa using this)
 have:y=x:=by simpa using h
 subst this
 exact ⟨g,c,rfl⟩
theorem Sx.awake (B:Wn):Fn Tryz.prog B 4 #[] [] (λ v l=>v = .bool true/\l=[]):=by
 refine Fn.enter0 88 Tryz.func4 rfl rfl (nB rfl) (λ F=>?_)
 try simp only [cA,nA]
 refine TS (La rfl (Ld (TS ?_)))
 refine Le (Ec (Sx.opened B) Tryz.func5 rfl rfl rfl ?_)
 rintro _ _ ⟨b,s,rfl,rfl⟩
 try simp only [cA,nA]
 iterate 5 refine Lz ?_
 refine Ld (Ts (TS ?_))
 iterate 3 refine Lz ?_
 refine yT (t:=11) rfl rfl ?_
 iterate 4 refine Lz ?_
 refine yT (t:=15) rfl rfl (Lm rfl ?_)
 refine Le (Ec (Sx.fact B 7 0 9) Tryz.func17 rfl rfl rfl ?_)
 rintro _ _ ⟨gf,rfl,rfl⟩
 try simp only [cA,nA]
 refine Lq (z8 [(0,1),(1,3)] [.int .i64 0,.slice none 0 0,.int .i64 0,.int .i64 0] [_,_,_,_] [(0,_),(1,_)] (by unfold Zf;kernel_rfl) rfl rfl) ?_
 refine Le (Ef.lits (e:=64) (sz:=4) [_] (ptC ⟨1,awF,some ⟨gf,0,none⟩,1⟩) rfl (by simp [Value.cells]) rfl rfl ?_)
 intro gp
 refine Le (Ec (Sx.writeOk B [blk gp (ptC ⟨1,awF,some ⟨gf,0,none⟩,1⟩) 64,blk gf (vxC ⟨1,7,[]⟩) 125] s b 12 8 3 16 (newR 8 3072) (SI.new 8 3072) (by omega) (by omega) (by simp [newR]) (by simp [newR]) 3 none 0 0 [] rfl (by omega) (FlV.empty _ _) (some ⟨gp,0,none⟩) 1 1 [⟨1,awF,some ⟨gf,0,none⟩,1⟩] rfl (by omega) (FlV.blk (x:=[(⟨1,awF,some ⟨gf,0,none⟩,1⟩:PtM)]) (g:=ptC) rfl) (by intro p hp;rw [List.mem_singleton.1 hp];exact PtOk.blk (λ w ho=>ho.map Sa) aw_rd (by omega)) 60 (by omega) (by omega) [awD] (congrArg (λ d=>[d]) aw_d1) aw_c1) Tryz.func16 rfl rfl rfl ?_)
 rintro _ _ ⟨rfl,rfl⟩
 try simp only [cA,nA]
 refine Lq (yW rfl rfl) (Lq (Qp rfl rfl) (Ld (yQ rfl (Tk (TS (Lm rfl ?_))))))
 refine Le (Ec (Sx.see B s b 12 8 3 60 sw1 aw_s1 1 3) Tryz.func18 rfl rfl rfl ?_)
 rintro _ _ ⟨L,pv,cv,hL,rfl,rfl⟩
 try simp only [cA,nA]
 rw [aw_see1,if_pos (by omega)] at hL
 obtain ⟨gi,ci,rfl⟩:=it_one hL
 refine LW.own λ w ho=>?_
 obtain ⟨gv,rfl⟩ : ∃ g,pv=some ⟨g,0,none⟩:=((ho.map Sa:Own B w [itR pv 1 cv [⟨⟨0,0,1,awF,3,0⟩,gi,ci⟩]]).slice_at (p:=pv) (m:=1) (c:=cv)).2.1 (by omega)
 clear ho
 rw [show ([⟨⟨0,0,1,awF,3,0⟩,gi,ci⟩]:List ItM).length=1 from rfl]
 refine La rfl (Ld (Ts (TS ?_)))
 iterate 4 refine Lz ?_
 refine yT (t:=28) rfl rfl (Lm rfl (Lq (Qi 0 (e:=69) (sz:=7) rfl rfl rfl) ?_))
 iterate 5 refine Lz ?_
 refine yT (t:=35) rfl rfl (Lm rfl (Lq (Qi 0 (e:=69) (sz:=7) rfl rfl rfl) ?_))
 iterate 5 refine Lz ?_
 refine yT (t:=42) rfl rfl (Lm rfl ?_)
 refine Le (Ec (Sx.see B s b 12 8 3 68 sw1 aw_s1 1 2) Tryz.func18 rfl rfl rfl ?_)
 rintro _ _ ⟨L2,pv2,cv2,hL2,rfl,rfl⟩
 try simp only [cA,nA]
 rw [aw_see1,if_neg (by omega)] at hL2
 obtain rfl:=List.map_eq_nil_iff.1 hL2
 iterate 4 refine Lz ?_
 refine yT (t:=48) rfl rfl (Lm rfl (Lm rfl (Lq (Qi 0 (e:=69) (sz:=7) rfl rfl rfl) ?_)))
 iterate 2 refine Lz ?_
 refine Le (Ef.lits (e:=67) (sz:=2) [_] (ridC (0,0)) rfl (by simp [Value.cells]) rfl rfl ?_)
 intro gr
 refine Le (Ec (Sx.writeOk B [blk gr (ridC (0,0)) 67] s b 12 8 3 76 sw1 aw_s1 (by omega) (by omega) (by rw [aw_m1];decide) (by rw [aw_l1];decide) 5 (some ⟨gr,0,none⟩) 1 1 [(0,0)] rfl (by omega) (FlV.blk (x:=[((0,0):Int×Int)]) (g:=ridC) rfl) none 0 0 [] rfl (by omega) (FlV.empty _ _) (by simp) 100 (by omega) (by omega) [] rfl aw_c2) Tryz.func16 rfl rfl rfl ?_)
 rintro _ _ ⟨rfl,rfl⟩
 try simp only [cA,nA]
 refine Lq (yW rfl rfl) (Lq (Qp rfl rfl) (Ld (yQ rfl (Tk (TS (Lm rfl ?_))))))
 refine Le (Ec (Sx.crash B s b 12 8 3 100 sw2 aw_s2 (by omega) (.slice none 0 0) [] (-1) 0 (RoS.nil B)) Tryz.func7 rfl rfl rfl ?_)
 rintro _ _ ⟨D,rd,rfl,rfl⟩
 try simp only [cA,nA]
 refine Ld (TS (Lm rfl ?_))
 refine Le (Ec (Sx.again B b D 12 8 1 2 12 1 rfl rfl sw2 aw_s2 rd (by omega) (by omega) (by omega) (by omega) (by omega) (by rw [aw_l2];decide) (by rw [aw_e2];decide)) Tryz.func8 rfl rfl rfl ?_)
 rintro _ _ ⟨s2,rfl,rfl⟩
 try simp only [cA,nA]
 rw [aw_e2]
 iterate 5 refine Lz ?_
 refine Ld (TS ?_)
 iterate 3 refine Lz ?_
 refine zQ (t:=67) rfl rfl (Lm rfl (Lq (YZ rfl rfl) (Lq (Qp rfl rfl) (Lm rfl (zQ (t:=71) rfl rfl (Lm rfl ?_))))))
 refine Le (Ec (Sx.see B s2 b 12 8 1 22 (reopen 8 (12*256) sw2.es) aw_s2.re 1 4) Tryz.func18 rfl rfl rfl ?_)
 rintro _ _ ⟨L3,pv3,cv3,hL3,rfl,rfl⟩
 try simp only [cA,nA]
 have hl3:L3.length=1:=by have:=congrArg List.length hL3;rw [List.length_map,aw_s2.re_see,aw_see2,if_pos (by omega)] at this;exact this
 rw [hl3]
 iterate 4 refine Lz ?_
 refine zQ (t:=77) rfl rfl (Lm rfl ?_)
 refine Le (Ec (Sx.see B s2 b 12 8 1 30 (reopen 8 (12*256) sw2.es) aw_s2.re 1 5) Tryz.func18 rfl rfl rfl ?_)
 rintro _ _ ⟨L4,pv4,cv4,hL4,rfl,rfl⟩
 try simp only [cA,nA]
 have hl4:L4.length=0:=by have:=congrArg List.length hL4;rw [List.length_map,aw_s2.re_see,aw_see2,if_neg (by omega)] at this;exact this
 rw [hl4]
 iterate 4 refine Lz ?_
 refine zQ (t:=83) rfl rfl (Lm rfl ?_)
 refine Le (Ec (Sx.last B s2 b 12 8 1 38 (reopen 8 (12*256) sw2.es)) Tryz.func11 rfl rfl rfl ?_)
 rintro _ _ ⟨rfl,rfl⟩
 try simp only [cA,nA]
 rw [aw_s2.re_lastS,show lastS sw2=5 by unfold lastS;rw [aw_m2];rfl]
 iterate 3 refine Lz ?_
 refine Ld (T.ret ?_)
 exact ⟨.inl rfl,_,_,res [_] rfl ⟨rvT rfl,trivial⟩,⟨rfl,rfl⟩,Sa⟩
open Go.RowKit
structure OpM where
 kind:Int
 stamp:Int
 ended:List (Int×Int)
 added:List PtM
 table:Int
 keep:List Bool
 t0:Int
 t1:Int
 ea:Option Addr
 ec:Nat
 aa:Option Addr
 ac:Nat
 ka:Option Addr
 kc:Nat
abbrev opSC (o:OpM):List Value:=[.int .i64 o.kind,.int .i64 o.stamp,.slice o.ea o.ended.length o.ec,.slice o.aa o.added.length o.ac,.int .i64 o.table,.slice o.ka o.keep.length o.kc,.int .i64 o.t0,.int .i64 o.t1]
structure OpOk (B:Wn) (o:OpM):Prop where
 e:FlV B [] ridC (.slice o.ea o.ended.length o.ec) o.ended
 a:FlV B [] ptC (.slice o.aa o.added.length o.ac) o.added
 p : ∀ p∈o.added,PtOk B [] p
 k:RoS B (.slice o.ka o.keep.length o.kc) (boolsV o.keep)
abbrev szO (o:OpM):Nat:=o.ended.length+o.added.length+1
def sumO (l:List OpM):Nat:=(l.map szO).sum
theorem sumO_len : ∀ l:List OpM,l.length<=sumO l
 | []=>Nat.zero_le _
 | a::l=>by have:=sumO_len l;have h1:1<=szO a:=Nat.le_add_left 1 _;unfold sumO at this ⊢;simp only [List.length_cons,List.map_cons,List.sum_cons];omega
theorem sumO_take {l:List OpM} {i:Nat} {x:OpM} (h:l[i]? = some x):sumO (l.take (i+1))=sumO (l.take i)+szO x:=by
 rw [take_snoc h];unfold sumO;simp
theorem sumO_le (l:List OpM) (i:Nat):sumO (l.take i)<=sumO l:=by
 conv=>rhs;rw [<-List.take_append_drop i l]
 unfold sumO
 rw [List.map_append,List.sum_append]
 omega
theorem PtOk.mono {B:Wn} {S S':List Wp} {p:PtM} (h:PtOk B S p) (hs : ∀ w,Own B w S'->Own B w S):PtOk B S' p:=⟨h.v.mono hs,h.f,h.t⟩
theorem Sx.elemP : ElemOk Tryz.prog 36 64 4 48 := .mk' (.agg #[.int .i64 0,.slice none 0 0,.int .i64 0,.int .i64 0]) Tryz.underlying36 (by kernel_rfl) rfl (by omega)
theorem ptsP_fx {B:Wn} {S:List Wp} {l:List PtM} (h : ∀ p∈l,PtOk B S p) : ∀ p∈ptsP l,-(2^63)<=p.1/\p.1<2^63/\FxRd p.2:=by
 intro p hp
 obtain ⟨q,hq,rfl⟩:=List.mem_map.1 hp
 have:=h q hq
 exact ⟨this.t.1,this.t.2,this.f⟩
theorem pt_snoc {Q:List PtM} {x:PtM} {cs:List Value} (hx:cs=ptC x):Q.flatMap ptC++cs=(Q++[x]).flatMap ptC:=by subst hx;simp
theorem Sx.writeG (B:Wn) (S:List Wp) (s b logs count n K:Nat) (h:HR) (si:SI h count (logs*256)) (hc1:1<=count) (hc:count<=4096) (hcl:h.cm.length<2^32) (hla:h.last+1<2^62) (stamp:Int)
  (ea:Option Addr) (en ec:Nat) (ended:List (Int×Int)) (hel:ended.length=en) (hen:en<=2^20) (hev:FlV B S ridC (.slice ea en ec) ended)
  (pa:Option Addr) (m pc:Nat) (PL:List PtM) (hpl:PL.length=m) (hm:m<=2^20) (hpv:FlV B S ptC (.slice pa m pc) PL) (hpo : ∀ p∈PL,PtOk B S p) (K2:Nat) (hK2:K+2*count+2+2*en+(count+1)*m<=K2) (hK:K2<2^28) (g:HR) (hg:(if codeS h stamp ended (ptsP PL)=0 then (writeS h stamp ended ((ptsP PL).map λ p=>recD p.1 p.2)).1 else h)=g) :
  Fn Tryz.prog B 16 #[pV s,.int .i64 stamp,.slice ea en ec,.slice pa m pc] (stoA s b logs count n K h::S) (λ u l=>u = .int .i64 (codeS h stamp ended (ptsP PL))/\l=stoA s b logs count n K2 g::S) :=
 Fn.post (Sx.writeA B S s b logs count n K h si hc1 hc hcl hla stamp ea en ec ended hel hen hev pa m pc PL hpl hm hpv hpo K2 hK2 hK _ rfl) (by rintro u l ⟨rfl,rfl⟩;exact ⟨_,Sr _,rfl,by rw [hg]⟩)
end Go.Proofs.YtkfmfoecplbclaaGreatDoor
namespace Go.Proofs.YtkfmfoecplbclaaGreatDoor
open Go.ChangeShapes Go.WideShapes Go.ChangeAt Go.RowKit
section
variable {H : Type} {enc:TypeId×Value->H} {W:World}
theorem len7 {α:Type} {l:List α} (h:l.length=7) : ∃ a b c d e f g,l=[a,b,c,d,e,f,g]:=by
 match l,h with
 | [a,b,c,d,e,f,g],_=>exact ⟨a,b,c,d,e,f,g,rfl⟩
theorem len8 {α:Type} {l:List α} (h:l.length=8) : ∃ a b c d e f g i,l=[a,b,c,d,e,f,g,i]:=by
 match l,h with
 | [a,b,c,d,e,f,g,i],_=>exact ⟨a,b,c,d,e,f,g,i,rfl⟩
theorem len4 {α:Type} {l:List α} (h:l.length=4) : ∃ a b c d,l=[a,b,c,d]:=by
 match l,h with
 | [a,b,c,d],_=>exact ⟨a,b,c,d,rfl⟩
theorem read_boolsS (n:Nat) (c:Value) (y:DataW H×List MemPlace) (h:Tr enc Tryz.prog W n 37 [c]=some y) : ∃ (l:List Bool) (fp:List Nat),Reads W c (boolsV l) fp/\l.length+1<=Rows.uptoBulk y.1:=by
 obtain ⟨v,l,hc,hs,_,hL⟩:=open_slice_R (R:=λ cs (a:Bool)=>cs=[.bool a]) (B:=λ _=>1) Tryz.underlying37 (show Tryz.prog.cellsOf 4=1 by kernel_rfl) (λ n cs y=>read_bool Tryz.underlying4 n cs y) h
 simp only [List.cons.injEq,and_true] at hc
 subst hc
 obtain ⟨fp,hR,hfp⟩:=hs.reads (λ a:Bool=>Value.bool a) (λ cs a h=>h)
 exact ⟨l,fp,hR,hL⟩
theorem read_rid (n:Nat) (cs:List Value) (y:DataW H×List MemPlace) (h:Tr enc Tryz.prog W n 67 cs=some y) : ∃ p:Int×Int,cs=ridC p/\1<=Rows.uptoBulk y.1:=by
 obtain ⟨xs,m,rfl,rfl,hl,hx,hf⟩:=DataW.trod_struct Tryz.underlying67 h
 rw [show Tryz.prog.cellsOf 67=2 by kernel_rfl] at hl
 obtain ⟨c0,c1,rfl⟩:=len2 hl
 obtain ⟨x0,x1,rfl⟩:=len2 hx
 have f0:=field_of hf 0 3 0 1 rfl
 have f1:=field_of hf 1 3 1 1 rfl
 simp only [List.drop_zero,List.drop_succ_cons,List.take_succ_cons,List.take_zero,List.getElem?_cons_zero,List.getElem?_cons_succ] at f0 f1
 obtain ⟨i0,e0,_,_⟩:=DataW.trod_int Tryz.underlying3 f0
 obtain ⟨i1,e1,_,_⟩:=DataW.trod_int Tryz.underlying3 f1
 simp only [List.cons.injEq,and_true] at e0 e1
 subst e0;subst e1
 exact ⟨(i0,i1),rfl,by simp [Rows.uptoBulk]⟩
def PtR (W:World) (cs:List Value) (p:PtM):Prop:=cs=ptC p/\(szF p.f<=1048576->PtOk (baseOf W) [] p)
theorem read_part (n:Nat) (cs:List Value) (y:DataW H×List MemPlace) (h:Tr enc Tryz.prog W n 64 cs=some y) : ∃ p:PtM,PtR W cs p/\szF p.f+1<=Rows.uptoBulk y.1:=by
 obtain ⟨xs,m,rfl,rfl,hl,hx,hf⟩:=DataW.trod_struct Tryz.underlying64 h
 rw [show Tryz.prog.cellsOf 64=4 by kernel_rfl] at hl
 obtain ⟨c0,c1,c2,c3,rfl⟩:=len4 hl
 obtain ⟨x0,x1,rfl⟩:=len2 hx
 have f0:=field_of hf 0 3 0 1 rfl
 have f1:=field_of hf 1 61 1 3 rfl
 simp only [List.drop_zero,List.drop_succ_cons,List.take_succ_cons,List.take_zero,List.getElem?_cons_zero,List.getElem?_cons_succ] at f0 f1
 obtain ⟨i0,⟨e0,b1,b2⟩,_⟩:=read_i64 Tryz.underlying3 _ _ _ f0
 obtain ⟨f,hR,hB⟩:=read_fact _ _ _ f1
 have hrd:=hR.rd
 obtain ⟨a,c,e1,hfl,_⟩:=hR
 simp only [List.cons.injEq,and_true] at e0 e1
 obtain ⟨rfl,rfl,rfl⟩:=e1
 subst e0
 refine ⟨⟨i0,f,a,c⟩,⟨rfl,λ hs=>⟨hfl,hrd hs,by dsimp only;omega⟩⟩,?_⟩
 simp only [List.map_cons,List.map_nil,Rows.uptoBulk,Rows.uptoBulkAll]
 omega
def szT (o:OpM):Nat:=o.ended.length+(o.added.map λ p=>szF p.f+1).sum+1
theorem sumP_len : ∀ l:List PtM,l.length<=(l.map λ p=>szF p.f+1).sum
 | []=>Nat.zero_le _
 | a::l=>by have:=sumP_len l;simp only [List.length_cons,List.map_cons,List.sum_cons];omega
theorem sumP_mem : ∀ {l:List PtM} {p:PtM},p∈l->szF p.f<=(l.map λ p=>szF p.f+1).sum
 | a::l,p,h=>by
  simp only [List.map_cons,List.sum_cons]
  rcases List.mem_cons.1 h with rfl | h
  . omega
  . have:=sumP_mem h;omega
theorem szO_le (o:OpM):szO o<=szT o:=by have:=sumP_len o.added;unfold szO szT;omega
theorem sumO_le_T : ∀ l:List OpM,sumO l<=(l.map szT).sum
 | []=>Nat.le_refl _
 | a::l=>by have:=sumO_le_T l;have:=szO_le a;unfold sumO at *;simp only [List.map_cons,List.sum_cons];omega
theorem szT_mem : ∀ {l:List OpM} {o:OpM},o∈l->szT o<=(l.map szT).sum
 | a::l,o,h=>by
  simp only [List.map_cons,List.sum_cons]
  rcases List.mem_cons.1 h with rfl | h
  . omega
  . have:=szT_mem h;omega
def OpR (W:World) (cs:List Value) (o:OpM):Prop:=cs=opSC o/\(szT o<=1048576->OpOk (baseOf W) o)
theorem read_opS (n:Nat) (cs:List Value) (y:DataW H×List MemPlace) (h:Tr enc Tryz.prog W n 40 cs=some y) : ∃ o:OpM,OpR W cs o/\szT o<=Rows.uptoBulk y.1:=by
  obtain ⟨xs,m,rfl,rfl,hl,hx,hf⟩:=DataW.trod_struct Tryz.underlying40 h
  rw [show Tryz.prog.cellsOf 40=8 by kernel_rfl] at hl
  obtain ⟨c0,c1,c2,c3,c4,c5,c6,c7,rfl⟩:=len8 hl
  obtain ⟨x0,x1,x2,x3,x4,x5,x6,rfl⟩:=len7 hx
  have k0:Tryz.prog.cellsOf 3=1:=by kernel_rfl
  have f0:=field_of hf 0 3 0 1 rfl (hc:=k0)
  have f1:=field_of hf 1 2 1 1 rfl
  have f2:=field_of hf 2 35 2 1 rfl
  have f3:=field_of hf 3 36 3 1 rfl
  have f4:=field_of hf 4 3 4 1 rfl (hc:=k0)
  have f5:=field_of hf 5 37 5 1 rfl
  have f6:=field_of hf 6 38 6 2 rfl
  simp only [List.drop_zero,List.drop_succ_cons,List.take_succ_cons,List.take_zero,List.getElem?_cons_zero,List.getElem?_cons_succ] at f0 f1 f2 f3 f4 f5 f6
  obtain ⟨i0,e0,_,_⟩:=DataW.trod_int Tryz.underlying3 f0
  obtain ⟨i1,e1,_,_⟩:=DataW.trod_int Tryz.underlying2 f1
  obtain ⟨v2,l2,e2,hs2,_,hL2⟩:=open_slice_R (R:=λ cs p=>cs=ridC p) (B:=λ _=>1) Tryz.underlying35 (show Tryz.prog.cellsOf 67=2 by kernel_rfl) (λ n cs y=>read_rid n cs y) f2
  obtain ⟨v3,l3,e3,hs3,hB3,_⟩:=open_slice_R (R:=PtR W) (B:=λ p=>szF p.f+1) Tryz.underlying36 (show Tryz.prog.cellsOf 64=4 by kernel_rfl) (λ n cs y=>read_part n cs y) f3
  obtain ⟨i4,e4,_,_⟩:=DataW.trod_int Tryz.underlying3 f4
  obtain ⟨lk,fk,hk,hkl⟩:=read_boolsS _ _ _ f5
  obtain ⟨ys,m',e',e6,hl4,hy,hg⟩:=DataW.trod_array Tryz.underlying38 f6
  obtain ⟨y0,y1,rfl⟩:=len2 hy
  have g0:=hg 0 (by omega)
  have g1:=hg 1 (by omega)
  simp only [k0,Nat.zero_mul,Nat.one_mul,Nat.mul_one,List.drop_zero,List.drop_succ_cons,List.take_succ_cons,List.take_zero,List.getElem?_cons_zero,List.getElem?_cons_succ] at g0 g1
  obtain ⟨j0,q0,_,_⟩:=DataW.trod_int Tryz.underlying3 g0
  obtain ⟨j1,q1,_,_⟩:=DataW.trod_int Tryz.underlying3 g1
  simp only [List.cons.injEq,and_true] at e0 e1 e2 e3 e4 q0 q1
  subst e0;subst e1;subst e2;subst e3;subst e4;subst q0;subst q1
  have hf2:=hs2.flV (g:=ridC) (λ cs a h=>h) (λ _=>rfl)
  have hf3:=hs3.flV (g:=ptC) (λ cs a h=>h.1) (λ _=>rfl)
  obtain ⟨ea,ec,rfl⟩:=hf2.form rfl
  obtain ⟨aa,ac,rfl⟩:=hf3.form rfl
  have hkr:=RoS.ofReads hk
  obtain ⟨ka,kc,e,hk5⟩:=hkr
  rw [show (boolsV lk).length=lk.length by simp [boolsV]] at e
  subst e
  refine ⟨⟨i0,i1,l2,l3,i4,lk,j0,j1,ea,ec,aa,ac,ka,kc⟩,⟨rfl,λ hs=>⟨hf2,hf3,λ p hp=>?_,⟨ka,kc,by simp [boolsV],hk5⟩⟩⟩,?_⟩
  . obtain ⟨_,hR⟩:=hs3.all p hp
    have hq:szF p.f<=(l3.map λ p=>szF p.f+1).sum:=sumP_mem hp
    unfold szT at hs
    dsimp only at hs
    exact hR.2 (by omega)
  . unfold szT
    simp only [List.map_cons,List.map_nil,Rows.uptoBulk,Rows.uptoBulkAll]
    omega
end
end Go.Proofs.YtkfmfoecplbclaaGreatDoor
