/- The texts SxL SxM SxN HpH SxO SxP SxQ SxS StRd SxRd, one behind the other: what the law leans on. Conditions: as each theorem says. -/
import Derived.Test.YtjmjjfefchnkaaaGreatDoorZHyBase14
set_option linter.unusedSimpArgs false
set_option linter.unusedVariables false
set_option maxRecDepth 100000
set_option maxHeartbeats 16000000
namespace Go.Proofs.YtjmjjfefchnkaaaGreatDoor
open Go.RowKit
abbrev tfV (b:Bool):Value := .bool b
abbrev keyOf (x:It):Int×Int:=((x.page:Int),(x.slot:Int))
theorem hist_all (h:HR):histR h (-1)=(allR h).map (itemR h):=by
 unfold histR
 rw [List.filter_eq_self]
 intro x _
 rw [decide_eq_true_eq]
 exact .inr (by decide)
theorem same_item {h:HR} {c rm:Nat} (s:SI h c rm) {x y:It} (hx:x∈histR h (-1)) (hy:y∈histR h (-1)) (e:keyOf x=keyOf y):x=y:=by
 obtain ⟨v,hv,rfl⟩:=hist_mem hx
 obtain ⟨u,hu,rfl⟩:=hist_mem hy
 obtain ⟨i,hi⟩:=List.getElem?_of_mem (s.mem.1 hv)
 obtain ⟨j,hj⟩:=List.getElem?_of_mem (s.mem.1 hu)
 have e1:(v.page:Int)=u.page:=congrArg Prod.fst e
 have e2:(v.slot:Int)=u.slot:=congrArg Prod.snd e
 have:=slots_inj s.r.ok.slots hi hj (by omega) (by omega)
 subst this
 rw [hi] at hj;cases hj;rfl
abbrev isOpn (r:Int×Int) (x:It):Bool:=decide (keyOf x=r∧x.til=0)
theorem opn_any (h:HR) (r:Int×Int):opnR h r=(histR h (-1)).any (isOpn r):=by
 rw [hist_all,List.any_map]
 unfold opnR
 congr 1
 funext v
 show _=decide (keyOf (itemR h v)=r∧stampR h v.fin=0)
 rw [decide_eq_decide]
 constructor
 · rintro ⟨a,b,c⟩;exact ⟨Prod.ext a b,c⟩
 · rintro ⟨a,c⟩;exact ⟨congrArg Prod.fst a,congrArg Prod.snd a,c⟩
def TheI (l:List It) (M:List ((Int×Int)×Bool)):Prop := ∀ r,(Zy M r).getD false=l.any (isOpn r)
theorem TheI.step {h:HR} {c rm:Nat} (s:SI h c rm) {i:Nat} {x:It} {M:List ((Int×Int)×Bool)} (hM:TheI ((histR h (-1)).take i) M) (hx:(histR h (-1))[i]? = some x):TheI ((histR h (-1)).take (i+1)) (putL M (keyOf x) (decide (x.til=0))):=fun r=>by
  obtain ⟨hi,he⟩:=List.getElem?_eq_some_iff.1 hx
  rw [List.take_succ_eq_append_getElem hi,he,List.any_append,List.any_cons,List.any_nil,Bool.or_false]
  by_cases q:keyOf x=r
  · subst q
    rw [look_put_same,Option.getD_some]
    by_cases z:x.til=0
    · rw [decide_eq_true z,show isOpn (keyOf x) x=true from decide_eq_true ⟨rfl,z⟩,Bool.or_true]
    · rw [decide_eq_false z,show isOpn (keyOf x) x=false from decide_eq_false (fun q=>z q.2),Bool.or_false]
      symm
      rw [List.any_eq_false]
      intro y hy
      rw [decide_eq_true_eq]
      rintro ⟨e1,e2⟩
      have:=same_item s (List.mem_of_mem_take hy) (List.mem_of_getElem? hx) e1
      subst this;exact z e2
  · rw [look_put_ne _ q,hM r,show isOpn r x=false from decide_eq_false (fun z=>q z.1),Bool.or_false]
def TheE (h:HR) (D:List (Int×Int)) (M:List ((Int×Int)×Bool)):Prop := ∀ r,(Zy M r).getD false=(opnR h r && !(D.contains r))
theorem TheI.ends {h:HR} {M:List ((Int×Int)×Bool)} (hM:TheI (histR h (-1)) M):TheE h [] M:=fun r=>by
 rw [hM r,opn_any];simp
theorem TheE.step {h:HR} {D:List (Int×Int)} {M:List ((Int×Int)×Bool)} (hM:TheE h D M) (p:Int×Int):TheE h (D++[p]) (putL M p false):=fun r=>by
  by_cases q:p=r
  · subst q
    rw [look_put_same]
    simp
  · rw [look_put_ne _ q,hM r]
    have:(D++[p]).contains r=D.contains r:=by
      rw [Bool.eq_iff_iff]
      simp [List.contains_iff_mem]
      intro z;exact absurd z.symm q
    rw [this]
theorem endsG_cons (h:HR) (D:List (Int×Int)) (p:Int×Int) (l:List (Int×Int)):endsG h D (p::l)=(opnR h p && !(D.contains p) && endsG h (D++[p]) l):=rfl
theorem take_snoc {α:Type} {l:List α} {i:Nat} {x:α} (h:l[i]? = some x):l.take (i+1)=l.take i++[x]:=by
 obtain ⟨hi,he⟩:=List.getElem?_eq_some_iff.1 h
 rw [List.take_succ_eq_append_getElem hi,he]
theorem drop_one {α:Type} {l:List α} {i:Nat} {x:α} (h:l[i]? = some x):l.drop i=x::l.drop (i+1):=by
 obtain ⟨hi,he⟩:=List.getElem?_eq_some_iff.1 h
 rw [List.drop_eq_getElem_cons hi,he]
theorem endAll_snoc (t:Int) (g:HR) (l:List (Int×Int)) (p:Int×Int):endAll t g (l++[p])=(endR (endAll t g l) t p.1 p.2).1:=by unfold endAll;rw [List.foldl_append];rfl
theorem addAll_snoc (t:Int) (g:HR) (l:List (List UInt8)) (d:List UInt8):addAll t g (l++[d])=(Wm (addAll t g l) t d).1:=by unfold addAll;rw [List.foldl_append];rfl
theorem recsE_cons (p:Int×Fx1) (l:List (Int×Fx1)):recsE (p::l)=if recE p.1 p.2≠0 then recE p.1 p.2 else recsE l:=rfl
theorem recsE_ok : ∀ {l:List (Int×Fx1)},recsE l=0 → ∀ p∈l,recE p.1 p.2=0
  | [],_,p,hp=>by cases hp
  | q::l,h,p,hp=>by
    rw [recsE_cons] at h
    by_cases z:recE q.1 q.2=0
    · rw [if_neg (by simp [z])] at h
      rcases List.mem_cons.1 hp with rfl | hp
      · exact z
      · exact recsE_ok h p hp
    · rw [if_pos z] at h;exact absurd h z
structure PtM where
 t:Int
 f:Fx1
 ra:Option Addr
 rc:Nat
abbrev ptC (p:PtM):List Value:=[.int .i64 p.t,.slice p.ra p.f.row.length p.rc,.int .i64 p.f.fr,.int .i64 p.f.to]
structure PtOk (B:Wn) (S:List Wp) (p:PtM):Prop where
 v:FlV B S vxC (.slice p.ra p.f.row.length p.rc) p.f.row
 f:FxRd p.f
 t : -(2^63)≤p.t∧p.t<2^63
abbrev ptsP (L:List PtM):List (Int×Fx1):=L.map fun p=>(p.t,p.f)
theorem recs_ds {B:Wn} {S:List Wp} {PL:List PtM} (hp : ∀ p∈PL,PtOk B S p) (h:recsE (ptsP PL)=0) : ∀ d∈(ptsP PL).map (fun p=>recD p.1 p.2),∃ t f,FxOk t f∧d=encL (valsF t f):=by
 intro d hd
 obtain ⟨p,hpm,rfl⟩:=List.mem_map.1 hd
 have h0:=recsE_ok h p hpm
 obtain ⟨x,hx,rfl⟩:=List.mem_map.1 hpm
 have ho:=hp x hx
 exact ⟨x.t,x.f,recE_ok ho.t.2 ho.f.n h0,by unfold recD;rw [if_pos h0]⟩
structure ReM where
 p:Option Addr
 c:Nat
 d:List UInt8
structure ReM.Ok (x:ReM):Prop where
 p:0<x.d.length → ∃ g,x.p=some ⟨g,0,none⟩
 len:x.d.length≤184
abbrev rxV (x:ReM):Value := .slice x.p x.d.length x.c
abbrev rxA (x:ReM):Wp:=rB (.slice x.p x.d.length x.c) x.d.length x.d
def rxsA (L:List ReM):Wp:=sepL (L.map rxA)
abbrev rxR (p:Option Addr) (n c:Nat) (L:List ReM):Wp:=row (.slice p n c) 108 1 n (L.map rxV)
abbrev szR (p:Option Addr) (n c:Nat) (L:List ReM):Wp:=row (.slice p n c) 3 1 n ((L.map fun x=>(x.d.length:Int)).map zV)
theorem rxs_snoc {L:List ReM} {x:ReM} {l:List Wp} {k:Piece} (H:Has (rxA x::rxsA L::l) k):Has (rxsA (L++[x])::l) k:=by
 unfold rxsA
 rw [List.map_append]
 exact sep_pushS H
theorem rx_step {L:List ReM} {x:ReM} {p q:Option Addr} {n c m d:Nat} {vs zs:List Value} (hv:vs=[rxV x]) (hz:zs=[zV (x.d.length:Int)]) {l:List Wp} {k:Piece} (H:Has (rxA x::rxsA L::row (.slice p n c) 108 1 n (L.map rxV++vs)::row (.slice q m d) 3 1 m ((L.map fun x=>(x.d.length:Int)).map zV++zs)::l) k):Has (rxsA (L++[x])::rxR p n c (L++[x])::szR q m d (L++[x])::l) k:=by
 have H1:=rxs_snoc H
 subst hv;subst hz
 unfold rxR szR
 rw [List.map_append,List.map_append,List.map_append]
 exact H1
theorem Has.rx_pop {L:List ReM} {i:Nat} {x:ReM} (hx:L[i]? = some x) {l:List Wp} {k:Piece} (H:Has (rxsA (L.drop i)::l) k):Has (rxA x::rxsA (L.drop (i+1))::l) k:=by
 unfold rxsA at H
 rw [drop_one hx,List.map_cons] at H
 exact Wt (fun _ q=>Has.close_sepL q) (Has.open_sepL H:Has (rxA x::((L.drop (i+1)).map rxA++l)) k)
theorem Own.rxNil {B:Wn} {w:World} {l:List Wp} (H:Own B w l):Own B w (rxR none 0 0 []::szR none 0 0 []::rxsA []::l):=H.map fun _ K=>rowNilP (rowNilP (sep_nilS K))
theorem Sx.elemB : ElemOk Tryz.prog 113 108 1 24 := .mk' (.slice none 0 0) Tryz.underlying113 (by kernel_rfl) rfl (by omega)
section
variable {P : Program} {B:Wn} {n:Nat} {l r:List Wp} {f:Fr} {c:Code} {Φ:Post}
theorem T.openSto {s b logs count n' K:Nat} {h:HR} [k:TakeA (stoA s b logs count n' K h) l r] (hh : ∀ x:StX,StamI x.st h→T P B n c Φ f (stoC s b logs count n' K x h++r)):T P B n c Φ f l:=⟨fun Q w hf ho=>by
 obtain ⟨x,hi,ho'⟩:=Own.openSto (ho.take (k:=k))
 exact (hh x hi).run Q w hf ho'⟩
theorem Own.closeSto {w:World} {s b logs count n' K:Nat} {h:HR} (x:StX) (hi:StamI x.st h) (H:Own B w l) [k:TakeL [stoB s x.gh x.gm (lastS h),stM x x.st,hpA x.gh b logs count n' K h] l r]:Own B w (stoA s b logs count n' K h::r):=H.map fun p H=>Has.close_ex x (Has.close_sepL (l:=pu _::stoC s b logs count n' K x h) (Has.close_pu hi (k.take p H)))
end
theorem Qt.look1V {P:Program} {B:Wn} {n:Nat} {S:List Wp} {f:Fr} {d:Option Tmp} {ty:TypeId} {pos:String} {af:Array Edge} {gd:Option (Nat×Bool)} {α β:Type} [DecidableEq α] {ke:α→Value} {ve:β→Value} {L:List (α×β)} {g:Nat} {t:TypeId} {x y:Operand} {z:Value} (M:MapOk P t ke z) (hx:ev n f x=some (.map (some g))) (k:α) (hy:ev n f y=some (ke k)) [kk:MapAt g S ke ve L] (v0:β) (hz:z=ve v0) {v:β} (hv:(Zy L k).getD v0=v):Qt P B n S ⟨d,.lookup t x y false,ty,pos,af,gd⟩ f (ve v):=by
 subst hv;exact zT M hx k hy v0 hz
theorem code_rec {h:HR} {stamp:Int} {ended:List (Int×Int)} {ps:List (Int×Fx1)} (e:recsE ps≠0):codeS h stamp ended ps=recsE ps:=by unfold codeS;rw [if_pos e]
theorem code_range {h:HR} {stamp:Int} {ended:List (Int×Int)} {ps:List (Int×Fx1)} (e:recsE ps=0) (e2:stamp≤lastS h∨1099511627776<stamp):codeS h stamp ended ps=1:=by unfold codeS;rw [if_neg (by simp [e]),if_pos e2]
theorem code_miss {h:HR} {stamp:Int} {ended:List (Int×Int)} {ps:List (Int×Fx1)} (e:recsE ps=0) (e2 : ¬ (stamp≤lastS h∨1099511627776<stamp)) (e3:endsG h [] ended=false):codeS h stamp ended ps=4:=by unfold codeS;rw [if_neg (by simp [e]),if_neg e2,if_pos e3]
theorem code_full {h:HR} {stamp:Int} {ended:List (Int×Int)} {ps:List (Int×Fx1)} (e:recsE ps=0) (e2 : ¬ (stamp≤lastS h∨1099511627776<stamp)) (e3:endsG h [] ended=true) (e4:fitsR h ended.length (ps.map fun p=>((recD p.1 p.2).length:Int))=false):codeS h stamp ended ps=3:=by unfold codeS;rw [if_neg (by simp [e]),if_neg e2,if_neg (by simp [e3]),if_pos e4]
theorem code_ok {h:HR} {stamp:Int} {ended:List (Int×Int)} {ps:List (Int×Fx1)} (e:recsE ps=0) (e2 : ¬ (stamp≤lastS h∨1099511627776<stamp)) (e3:endsG h [] ended=true) (e4:fitsR h ended.length (ps.map fun p=>((recD p.1 p.2).length:Int))=true):codeS h stamp ended ps=0:=by unfold codeS;rw [if_neg (by simp [e]),if_neg e2,if_neg (by simp [e3]),if_neg (by simp [e4])]
theorem code_inv {h:HR} {stamp:Int} {ended:List (Int×Int)} {ps:List (Int×Fx1)} (e:codeS h stamp ended ps=0):recsE ps=0∧lastS h<stamp∧stamp≤1099511627776∧endsG h [] ended=true∧fitsR h ended.length (ps.map fun p=>((recD p.1 p.2).length:Int))=true:=by
  by_cases e1:recsE ps=0
  · by_cases e2:stamp≤lastS h∨1099511627776<stamp
    · rw [code_range e1 e2] at e;omega
    · by_cases e3:endsG h [] ended=true
      · by_cases e4:fitsR h ended.length (ps.map fun p=>((recD p.1 p.2).length:Int))=true
        · exact ⟨e1,by omega,by omega,e3,e4⟩
        · rw [code_full e1 e2 e3 (by simpa using e4)] at e;omega
      · rw [code_miss e1 e2 (by simpa using e3)] at e;omega
  · rw [code_rec e1] at e;exact absurd e e1
theorem StamI.write {st:List (Int×Int)} {h g:HR} (i:StamI st h) (r:RInv h) {stamp v0:Int} (e:g.cm=h.cm++[(h.last+1,stamp)]):StamI (putL (putL st (h.last+1) v0) (h.last+1) stamp) g:=fun t=>by
 show _=stampL g.cm t
 rw [e,stampL_snoc (no_cm r)]
 by_cases q:t=h.last+1
 · rw [if_pos q,q,look_put_same];rfl
 · rw [if_neg q,look_put_ne _ (fun e=>q e.symm),look_put_ne _ (fun e=>q e.symm)];exact i t
theorem SI.mid {h:HR} {c rm:Nat} (s:SI h c rm) (hp:c≤4096) (hl:h.last+1<2^62) {ended:List (Int×Int)} {ds:List (List UInt8)} (h3:endsG h [] ended=true) (h4:fitsR h ended.length (ds.map fun d=>(d.length:Int))=true):(addAll (h.last+1) (endAll (h.last+1) (beginR h) ended) ds).cm=h.cm:=by
 obtain ⟨f1,f2,f3⟩:=(fitsR_iff s.r _ _).1 h4
 have f4:=fits_left f3
 have hp':h.pages≤4096:=by rw [s.pages];exact hp
 have hbu:(beginR h).used=h.used:=rfl
 have hbr:(beginR h).room=h.room:=rfl
 obtain ⟨a1,a2,a3⟩:=Mid.ends s hp' hl ended [] (beginR h) (Mid.begin s.r s.act) h3 (by rw [hbu,hbr];omega)
 rw [List.nil_append] at a1
 have hrl:roomsL (beginR h)=roomsL h:=rfl
 obtain ⟨N,b1,b2,b3⟩:=Mid.adds hp' hl ds _ [] a1 (by
  rw [a3,hrl,a2,a1.room,hbu]
  rw [show (h.room:Int)-(h.used+20*(ended.length:Int))-25=h.room-h.used-25-20*(ended.length:Int) by omega]
  exact f3)
 exact b2.cm
open Go.RowKit
theorem Sx.write (B:Wn) (S:List Wp) (s b logs count n K:Nat) (h:HR) (si:SI h count (logs*256)) (hc1:1≤count) (hc:count≤4096) (hcl:h.cm.length<2^32) (hla:h.last+1<2^62) (stamp:Int)
  (ea:Option Addr) (en ec:Nat) (ended:List (Int×Int)) (hel:ended.length=en) (hen:en≤2^20) (hev:FlV B S ridC (.slice ea en ec) ended)
  (pa:Option Addr) (m pc:Nat) (PL:List PtM) (hpl:PL.length=m) (hm:m≤2^20) (hpv:FlV B S ptC (.slice pa m pc) PL) (hpo : ∀ p∈PL,PtOk B S p)
  (hK:K+2*count+2+2*en+(count+1)*m<2^28) :
  Fn Tryz.prog B 13 #[pV s,.int .i64 stamp,.slice ea en ec,.slice pa m pc] (stoA s b logs count n K h::S) (fun u l=>u = .int .i64 (codeS h stamp ended (ptsP PL)) ∧ ∃ K',K'≤K+2*count+(if codeS h stamp ended (ptsP PL)=0 then 2+2*en+(count+1)*m else 0)∧l=stoA s b logs count n K' (if codeS h stamp ended (ptsP PL)=0 then (writeS h stamp ended ((ptsP PL).map fun p=>recD p.1 p.2)).1 else h)::S):=by
 refine Fn.enter4 157 Tryz.func13 rfl rfl (nB rfl) (fun F=>?_)
 try simp only [cA,nA]
 refine TS (La rfl rfl (Ld (TS (La rfl rfl (Ld ?_)))))
 refine TS (La rfl rfl (Ld (Ts (TS (Lm rfl rfl ?_)))))
 refine Lq rfl (yI (e:=60) (sz:=4) (by kernel_rfl) rfl) (Lm rfl rfl (Ld (yH (T.conv (fun w ho=>ho.rxNil) ?_))))
 refine zG (fun mz fz lz => ∃ (f0:Fr) (i:Nat) (R:List ReM) (pr:Option Addr) (cr:Nat) (pz:Option Addr) (cz:Nat),(i≤m∧R.length=i∧recsE ((ptsP PL).drop i)=recsE (ptsP PL)∧R.map (·.d)=((ptsP PL).take i).map (fun p=>recD p.1 p.2)∧(∀ x∈R,x.Ok))∧mz=m-i∧fz=(upd (upd (upd (upd (upd (upd (upd (upd f0 0 (pV s)) 1 (.int .i64 stamp)) 2 (.slice ea en ec)) 9 (.slice pr i cr)) 10 (.slice pz i cz)) 26 (.slice pa m pc)) 27 (.int .i64 m)) 28 (.int .i64 i))∧lz=rxR pr i cr R::szR pz i cz R::rxsA R::stoA s b logs count n K h::(S++F)) ?_ ?_
 · refine ⟨_,_,⟨_,0,[],none,0,none,0,⟨Nat.zero_le _,rfl,rfl,rfl,(fun x hx=>by cases hx)⟩,rfl,(Za rfl (Za rfl (Za rfl (Za rfl (Za rfl (Za rfl (Za rfl (Za rfl rfl)))))))),rfl⟩,Sa⟩
 rintro mz fz lz ⟨f0,i,R,pr,cr,pz,cz,⟨hi,hRl,hrec,hRd,hRo⟩,hmz,rfl,rfl⟩
 subst mz
 refine TS (Lq rfl (yM rfl rfl) (Ld (Ts ?_)))
 refine yN rfl (fun hlt=>?_) (fun hlt=>?_)
 ·
  obtain ⟨bp,op,rfl,hrd⟩:=hpv.at (sz:=4) (fun _=>rfl) (by omega)
  obtain ⟨y,hy⟩ : ∃ y,PL[i]? = some y:=⟨_,List.getElem?_eq_getElem (by omega)⟩
  have hyo:=hpo y (List.mem_of_getElem? hy)
  have hy2:(ptsP PL)[i]? = some (y.t,y.f):=by unfold ptsP;rw [List.getElem?_map,hy];rfl
  rw [drop_one hy2,recsE_cons] at hrec
  by_cases hno:recE y.t y.f=0
  ·
   refine Tk (Ts (yH (TS (Lq rfl (Qi _ (e:=60) (sz:=4) (by kernel_rfl) rfl rfl rfl (by omega)) (Lq rfl (Qt.loadAggW (ptC y) (by kernel_rfl) rfl (fun w ho=>hrd i y hy w (ho.map Sa))) ?_)))))
   refine Le rfl (El [.int .i64 0,.slice none 0 0,.int .i64 0,.int .i64 0] (by unfold Zf;kernel_rfl) ?_)
   intro g12
   refine L0 rfl (Es [_,_,_,_] (by kernel_rfl) rfl rfl rfl rfl (by simp) ?_)
   try simp only [splice,lC,lN,dS,cA,tS,tZ,dZ,nA,aN]
   refine Ld (TS (Lq rfl (Q0 (by kernel_rfl) rfl) (Lq rfl (Ql (by kernel_rfl) rfl rfl) (Lq rfl (Qf (off:=1) (by kernel_rfl) rfl) (Lq rfl (QL [_,_,_] (by kernel_rfl) rfl ⟨rfl,rfl,rfl,trivial⟩) ?_)))))
   refine Le rfl (Ec (Sx.record B S y.t y.f y.ra y.f.row.length y.rc rfl hyo.v hyo.f hyo.t hno) Tryz.func31 rfl rfl rfl ?_)
   rintro _ l2 ⟨p,c,hp,rfl,hl2⟩
   rw [hl2]
   simp only [List.cons_append]
   refine Lm rfl rfl (Lq rfl (Qx rfl rfl) (Lq rfl (Qx rfl rfl) (La rfl rfl (La rfl rfl (Ld (Ts (Ts ?_)))))))
   refine TR (Lm rfl rfl (Lq rfl (yW rfl rfl) (Ld ?_)))
   have hdl:=hyo.t
   have hrD:recD y.t y.f=encL (valsF y.t y.f):=by unfold recD;rw [if_pos hno]
   have hxo:=recE_ok hyo.t.2 hyo.f.n hno
   have hlen:=hxo.len
   refine yQ rfl (Tk (TR (Lm rfl rfl (Lm rfl rfl ?_))))
   refine Le rfl (zK [_] (e:=108) (sz:=1) (by kernel_rfl) ⟨.slice none 0 0,by kernel_rfl,rfl⟩ rfl rfl rfl (by omega) (by omega) ?_)
   intro g45
   refine Le rfl (Ea Sx.elemB rfl rfl (SrcOf.blk (by kernel_rfl) rfl (by simp [Value.oneCell'])) (by unfold maxLen;omega) (by omega) ?_)
   rintro p4 c4 hp4
   refine Lm rfl rfl (Lm rfl rfl (Lq rfl (yI (e:=5) (sz:=1) (by kernel_rfl) rfl) ?_))
   refine Le rfl (zK [_] (e:=3) (sz:=1) (by kernel_rfl) ⟨.int .i64 0,by kernel_rfl,rfl⟩ rfl rfl rfl (by omega) (by omega) ?_)
   intro g50
   refine Le rfl (Ea Hp.elemI rfl rfl (SrcOf.blk (by kernel_rfl) rfl (by simp [Value.oneCell'])) (by unfold maxLen;omega) (by omega) ?_)
   rintro p5 c5 hp5
   refine La rfl rfl (La rfl rfl (Ld (TR (Lq rfl (Qd rfl rfl (Ze (by omega) (by omega))) (Lm rfl rfl (Ld ?_))))))
   have hstep:=fun k=>rx_step (L:=R) (x:=⟨p,c,encL (valsF y.t y.f)⟩) (p:=p4) (q:=p5) (n:=i+1) (c:=c4) (m:=i+1) (d:=c5) rfl rfl (l:=stoA s b logs count n K h::(S++F)) (k:=k)
   have hRo2 : ∀ x∈R++[(⟨p,c,encL (valsF y.t y.f)⟩:ReM)],x.Ok:=by
    intro x hx
    rcases List.mem_append.1 hx with q | q
    · exact hRo x q
    · rw [List.mem_singleton.1 q];exact ⟨hp,hlen⟩
   refine ⟨_,?_,_,⟨_,i+1,R++[⟨p,c,encL (valsF y.t y.f)⟩],p4,c4,p5,c5,⟨by omega,by simp [hRl],by rw [if_neg (by simp [hno])] at hrec;exact hrec,by rw [List.map_append,hRd,take_snoc hy2,List.map_append,List.map_cons,List.map_cons,hrD];rfl,hRo2⟩,rfl,(Za rfl (Za rfl (Za rfl (Za rfl (Za rfl (Za rfl (Za rfl (Za rfl rfl)))))))),rfl⟩,(fun k Q=>Sa k (hstep k (Sa k Q)))⟩
   omega
  refine Tk (Ts (yH (TS (Lq rfl (Qi _ (e:=60) (sz:=4) (by kernel_rfl) rfl rfl rfl (by omega)) (Lq rfl (Qt.loadAggW (ptC y) (by kernel_rfl) rfl (fun w ho=>hrd i y hy w (ho.map Sa))) ?_)))))
  refine Le rfl (El [.int .i64 0,.slice none 0 0,.int .i64 0,.int .i64 0] (by unfold Zf;kernel_rfl) ?_)
  intro g12
  refine L0 rfl (Es [_,_,_,_] (by kernel_rfl) rfl rfl rfl rfl (by simp) ?_)
  try simp only [splice,lC,lN,dS,cA,tS,tZ,dZ,nA,aN]
  refine Ld (TS (Lq rfl (Q0 (by kernel_rfl) rfl) (Lq rfl (Ql (by kernel_rfl) rfl rfl) (Lq rfl (Qf (off:=1) (by kernel_rfl) rfl) (Lq rfl (QL [_,_,_] (by kernel_rfl) rfl ⟨rfl,rfl,rfl,trivial⟩) ?_)))))
  refine Le rfl (Ec (Sx.recordNo B S y.t y.f y.ra y.f.row.length y.rc rfl hyo.v hyo.f hyo.t hno) Tryz.func31 rfl rfl rfl ?_)
  rintro _ _ ⟨rfl,rfl⟩
  refine Lm rfl rfl (Lq rfl (Qx rfl rfl) (Lq rfl (Qx rfl rfl) (La rfl rfl (La rfl rfl (Ld (Ts (Ts ?_)))))))
  refine TR (Lm rfl rfl (Lq rfl (yW rfl rfl) (Ld ?_)))
  rw [if_pos hno] at hrec
  refine zM rfl (by omega) ?_
  have hcode:=code_rec (h:=h) (stamp:=stamp) (ended:=ended) (ps:=ptsP PL) (by rw [←hrec];exact hno)
  refine TS (Lm rfl rfl (La rfl rfl (Ld (T.ret ?_))))
  exact ⟨.inl rfl,_,_,res [_] rfl ⟨rvT rfl,trivial⟩,⟨by rw [hcode,←hrec];rfl,K,by omega,by rw [hcode,if_neg (by rw [←hrec];exact hno)]⟩,Sa⟩
 obtain rfl:i=m:=by omega
 have hpsl:(ptsP PL).length=i:=by unfold ptsP;rw [List.length_map,hpl]
 rw [List.drop_of_length_le (by omega)] at hrec
 rw [List.take_of_length_le (by omega)] at hRd
 have hrec:recsE (ptsP PL)=0:=hrec.symm
 have hDs:=recs_ds hpo hrec
 have hzs:(ptsP PL).map (fun p=>((recD p.1 p.2).length:Int))=R.map (fun x=>(x.d.length:Int)):=by
  rw [show (R.map fun x=>(x.d.length:Int))=(R.map (·.d)).map (fun d=>(d.length:Int)) by rw [List.map_map];rfl,hRd]
  generalize ptsP PL=z
  rw [List.map_map];rfl
 refine T.openSto (s:=s) (b:=b) (logs:=logs) (count:=count) (n':=n) (K:=K) (h:=h) fun x hst=>?_
 simp only [stoC,List.cons_append,List.nil_append]
 refine zB (Ts (TS (Lm rfl rfl (Lm rfl rfl (Lq rfl (Qn rfl) (Lq rfl (Qf (off:=2) (by kernel_rfl) rfl) ?_))))))
 refine Lq rfl (Ql (by kernel_rfl) rfl rfl) (Lq rfl (YF rfl rfl) (Lm rfl rfl ?_))
 refine zZ (t:=59) rfl (fun g1=>?_) (fun g1=>?_)
 ·
  try replace g1:=of_decide_eq_true g1
  refine Ls rfl (Ls rfl (Lq rfl (Qp rfl rfl) (Ld (zF rfl ?_))))
  have hcode:=code_range (h:=h) (stamp:=stamp) (ended:=ended) hrec (.inl g1)
  refine TS (La rfl rfl (Ld (T.ret ?_)))
  exact ⟨.inl rfl,_,_,res [_] rfl ⟨rvT rfl,trivial⟩,⟨by rw [hcode];rfl,K,by omega,by rw [hcode,if_neg (by decide)]⟩,(fun k K2=>Sa k (sto_close (m:=stoA s b logs count n K h::(S++F)) [stoB s x.gh x.gm (lastS h),stM x x.st,hpA x.gh b logs count n K h] x h hst rfl k K2))⟩
 try replace g1:=of_decide_eq_false g1
 refine Lm rfl rfl (Lq rfl (yZ rfl rfl) (Lq rfl (Qp rfl rfl) (Ld ?_)))
 refine yN rfl (fun g2=>?_) (fun g2=>?_)
 ·
  have hcode:=code_range (h:=h) (stamp:=stamp) (ended:=ended) hrec (.inr g2)
  refine TS (La rfl rfl (Ld (T.ret ?_)))
  exact ⟨.inl rfl,_,_,res [_] rfl ⟨rvT rfl,trivial⟩,⟨by rw [hcode];rfl,K,by omega,by rw [hcode,if_neg (by decide)]⟩,(fun k K2=>Sa k (sto_close (m:=stoA s b logs count n K h::(S++F)) [stoB s x.gh x.gm (lastS h),stM x x.st,hpA x.gh b logs count n K h] x h hst rfl k K2))⟩
 refine Tk (TS ?_)
 refine Le rfl (YD (Int×Int) Bool ridV tfV ?_)
 rintro gm
 refine La rfl rfl (Ld (Ts (TS (Lm rfl rfl (LW.conv (fun w ho=>ho.closeSto (s:=s) (b:=b) (logs:=logs) (count:=count) (n':=n) (K:=K) (h:=h) x hst) ?_)))))
 refine Le rfl (Ec (Sx.history B s b logs count n K h si (by omega) hc (-1)) Tryz.func16 rfl rfl rfl ?_)
 rintro _ _ ⟨L,pv,cv,hL,rfl,rfl⟩
 try simp only [cA,nA]
 have hhl:L.length<2^30:=by have:=congrArg List.length hL;rw [List.length_map] at this;rw [this];exact hist_len si hc (-1)
 refine LW.own fun w ho=>?_
 have hpv2:0<L.length → ∃ g,pv=some ⟨g,0,none⟩:=((ho.map Sa:Own B w [itR pv L.length cv L]).slice_at (p:=pv) (m:=L.length) (c:=cv)).2.1
 clear ho
 refine Lq rfl (yI (e:=52) (sz:=7) (by kernel_rfl) rfl) (Lm rfl rfl (Ld (yH ?_)))
 refine zG (fun mz fz lz => ∃ (f0:Fr) (j:Nat) (M:List ((Int×Int)×Bool)),(j≤L.length∧TheI ((histR h (-1)).take j) M)∧mz=L.length-j∧fz=(upd (upd (upd (upd (upd (upd (upd (upd (upd f0 0 (pV s)) 1 (.int .i64 stamp)) 2 (.slice ea en ec)) 9 (.slice pr i cr)) 10 (.slice pz i cz)) 15 (.map (some gm))) 65 (.slice pv L.length cv)) 66 (.int .i64 L.length)) 67 (.int .i64 j))∧lz=itR pv L.length cv L::mpA ridV tfV gm M::stoA s b logs count n (K+count) h::rxR pr i cr R::szR pz i cz R::rxsA R::(S++F)) ?_ ?_
 · refine ⟨_,_,⟨_,0,[],⟨Nat.zero_le _,fun r=>rfl⟩,rfl,(Za rfl (Za rfl (Za rfl (Za rfl (Za rfl (Za rfl (Za rfl (Za rfl (Za rfl rfl))))))))),rfl⟩,Sa⟩
 rintro mz fz lz ⟨f0,j,M,⟨hj,hTM⟩,hmz,rfl,rfl⟩
 subst mz
 refine TS (Lq rfl (yM rfl rfl) (Ld (Ts ?_)))
 refine yN rfl (fun hlt2=>?_) (fun hlt2=>?_)
 ·
  obtain ⟨gv,rfl⟩:=hpv2 (by omega)
  obtain ⟨y,hy⟩ : ∃ y,L[j]? = some y:=⟨_,List.getElem?_eq_getElem (by omega)⟩
  have hil:=(List.getElem?_eq_some_iff.1 hy).1
  have hyi:(histR h (-1))[j]? = some y.it:=by rw [←hL,List.getElem?_map,hy];rfl
  refine Tk (Ts (yH (TS (Lq rfl (Qi _ (e:=52) (sz:=7) (by kernel_rfl) rfl rfl rfl (by omega)) ?_))))
  refine Lq rfl (QL (itC y) (by kernel_rfl) rfl (by rw [show itC y=itC (L[j]'hil) by rw [(List.getElem?_eq_some_iff.1 hy).2]];exact rdl_flat _ _ _ (by intros;rfl) _ (by omega))) ?_
  refine Le rfl (El [.int .i64 0,.int .i64 0,.slice none 0 0,.int .i64 0,.int .i64 0,.int .i64 0,.int .i64 0] (by unfold Zf;kernel_rfl) ?_)
  intro g17
  refine L0 rfl (Es [_,_,_,_,_,_,_] (by kernel_rfl) rfl rfl rfl rfl (by simp) ?_)
  try simp only [splice,lC,lN,dS,cA,tS,tZ,dZ,nA,aN]
  refine Ld (TR (Lm rfl rfl (Lq rfl (Q0 (by kernel_rfl) rfl) (Lq rfl (QL [_,_] (by kernel_rfl) rfl ⟨rfl,rfl,trivial⟩) (Lq rfl (Qf (off:=6) (by kernel_rfl) rfl) (Lq rfl (Ql (by kernel_rfl) rfl rfl) (Lq rfl (yU rfl rfl) ?_)))))))
  refine L0 rfl (Y0 Sx.okR rfl (keyOf y.it) rfl (decide (y.it.til=0)) rfl ?_)
  refine Ld (TR (Lq rfl (Qd rfl rfl (Ze (by omega) (by omega))) (Lm rfl rfl (Ld ?_))))
  refine ⟨_,?_,_,⟨_,j+1,putL M (keyOf y.it) (decide (y.it.til=0)),⟨by omega,hTM.step si hyi⟩,rfl,(Za rfl (Za rfl (Za rfl (Za rfl (Za rfl (Za rfl (Za rfl (Za rfl (Za rfl rfl))))))))),rfl⟩,Sa⟩
  omega
 obtain rfl:j=L.length:=by omega
 rw [List.take_of_length_le (by rw [←hL,List.length_map];omega)] at hTM
 refine zB (Ts (TS (Lm rfl rfl (Lq rfl (yI (e:=45) (sz:=2) (by kernel_rfl) rfl) (Lm rfl rfl (Ld ?_))))))
 refine yH ?_
 refine zG (fun mz fz lz => ∃ (f0:Fr) (j:Nat) (M:List ((Int×Int)×Bool)),(j≤en∧TheE h (ended.take j) M∧endsG h (ended.take j) (ended.drop j)=endsG h [] ended)∧mz=en-j∧fz=(upd (upd (upd (upd (upd (upd (upd (upd (upd f0 0 (pV s)) 1 (.int .i64 stamp)) 2 (.slice ea en ec)) 9 (.slice pr i cr)) 10 (.slice pz i cz)) 15 (.map (some gm))) 78 (.slice ea en ec)) 79 (.int .i64 en)) 80 (.int .i64 j))∧lz=mpA ridV tfV gm M::stoA s b logs count n (K+count) h::rxR pr i cr R::szR pz i cz R::rxsA R::(S++F)) ?_ ?_
 · refine ⟨_,_,⟨_,0,M,⟨Nat.zero_le _,hTM.ends,rfl⟩,rfl,(Za rfl (Za rfl (Za rfl (Za rfl (Za rfl (Za rfl (Za rfl (Za rfl (Za rfl rfl))))))))),rfl⟩,Sa⟩
 rintro mz fz lz ⟨f0,j,M,⟨hj,hTE,hEG⟩,hmz,rfl,rfl⟩
 subst mz
 refine TS (Lq rfl (yM rfl rfl) (Ld (Ts ?_)))
 refine yN rfl (fun hlt3=>?_) (fun hlt3=>?_)
 ·
  obtain ⟨be,oe,rfl,hrd⟩:=hev.at (sz:=2) (fun _=>rfl) (by omega)
  obtain ⟨y,hy⟩ : ∃ y,ended[j]? = some y:=⟨_,List.getElem?_eq_getElem (by omega)⟩
  rw [drop_one hy,endsG_cons] at hEG
  by_cases hop:(opnR h y && !((ended.take j).contains y))=true
  ·
   have hlk:=(hTE y).trans hop
   rw [hop,Bool.true_and] at hEG
   refine Tk (Ts (yH (TS (Lq rfl (Qi _ (e:=45) (sz:=2) (by kernel_rfl) rfl rfl rfl (by omega)) (Lq rfl (Qt.loadAggW (ridC y) (by kernel_rfl) rfl (fun w ho=>hrd j y hy w (ho.map Sa))) ?_)))))
   refine Le rfl (El [.int .i64 0,.int .i64 0] (by unfold Zf;kernel_rfl) ?_)
   intro g19
   refine L0 rfl (Es [_,_] (by kernel_rfl) rfl rfl rfl rfl (by simp) ?_)
   try simp only [splice,lC,lN,dS,cA,tS,tZ,dZ,nA,aN]
   refine Ld (Ts (TS (Lm rfl rfl (Lq rfl (QL [_,_] (by kernel_rfl) rfl ⟨rfl,rfl,trivial⟩) (Lq rfl (Qt.look1V Sx.okR rfl y rfl false rfl hlk) (Lq rfl (Y2 rfl) ?_))))))
   refine Ld (yQ rfl (Tk (TR (Lm rfl rfl (Lq rfl (QL [_,_] (by kernel_rfl) rfl ⟨rfl,rfl,trivial⟩) ?_)))))
   refine L0 rfl (Y0 Sx.okR rfl y rfl false rfl ?_)
   refine Ld (TR (Lq rfl (Qd rfl rfl (Ze (by omega) (by omega))) (Lm rfl rfl (Ld ?_))))
   refine ⟨_,?_,_,⟨_,j+1,putL M y false,⟨by omega,by rw [take_snoc hy];exact hTE.step y,by rw [take_snoc hy];exact hEG⟩,rfl,(Za rfl (Za rfl (Za rfl (Za rfl (Za rfl (Za rfl (Za rfl (Za rfl (Za rfl rfl))))))))),rfl⟩,Sa⟩
   omega
  rw [Bool.not_eq_true] at hop
  have hlk:=(hTE y).trans hop
  rw [hop,Bool.false_and] at hEG
  refine Tk (Ts (yH (TS (Lq rfl (Qi _ (e:=45) (sz:=2) (by kernel_rfl) rfl rfl rfl (by omega)) (Lq rfl (Qt.loadAggW (ridC y) (by kernel_rfl) rfl (fun w ho=>hrd j y hy w (ho.map Sa))) ?_)))))
  refine Le rfl (El [.int .i64 0,.int .i64 0] (by unfold Zf;kernel_rfl) ?_)
  intro g19
  refine L0 rfl (Es [_,_] (by kernel_rfl) rfl rfl rfl rfl (by simp) ?_)
  try simp only [splice,lC,lN,dS,cA,tS,tZ,dZ,nA,aN]
  refine Ld (Ts (TS (Lm rfl rfl (Lq rfl (QL [_,_] (by kernel_rfl) rfl ⟨rfl,rfl,trivial⟩) (Lq rfl (Qt.look1V Sx.okR rfl y rfl false rfl hlk) (Lq rfl (Y2 rfl) ?_))))))
  refine Ld (zF rfl ?_)
  have hcode:=code_miss (h:=h) (stamp:=stamp) (ended:=ended) hrec (by omega) hEG.symm
  refine TS (La rfl rfl (Ld (T.ret ?_)))
  exact ⟨.inl rfl,_,_,res [_] rfl ⟨rvT rfl,trivial⟩,⟨by rw [hcode];rfl,K+count,by omega,by rw [hcode,if_neg (by decide)]⟩,Sa⟩
 obtain rfl:j=en:=by omega
 rw [List.drop_of_length_le (by omega)] at hEG
 have hEG:endsG h [] ended=true:=hEG.symm
 refine T.openSto (s:=s) (b:=b) (logs:=logs) (count:=count) (n':=n) (K:=K+count) (h:=h) fun x hst=>?_
 simp only [stoC,List.cons_append,List.nil_append]
 refine T.own fun w ho=>?_
 have hpr:=((ho.map Sa:Own B w [rxR pr i cr R]).slice_at (p:=pr) (m:=i) (c:=cr)).2.1
 have hpz:=((ho.map Sa:Own B w [szR pz i cz R]).slice_at (p:=pz) (m:=i) (c:=cz)).2.1
 clear ho
 refine zB (Ts (TS (Lm rfl rfl (Lq rfl (Qn rfl) (Lq rfl (Q0 (by kernel_rfl) rfl) (Lq rfl (Ql (by kernel_rfl) rfl rfl) ?_))))))
 refine Lm rfl rfl (Lq rfl (yI (e:=45) (sz:=2) (by kernel_rfl) rfl) (Lm rfl rfl ?_))
 refine Le rfl (Ec (Hp.fits B [szR pz i cz R] x.gh b logs count n (K+count) h (by omega) hc1 j (by omega) pz i cz (R.map fun x=>(x.d.length:Int)) (RdV.ofRow (e:=3) (fun _ ho=>ho.row_owns) (by simp [hRl]) hpz) (by simp [hRl]) (by omega)) Tryz.func32 rfl rfl rfl ?_)
 rintro _ _ ⟨rfl,rfl⟩
 try simp only [cA,nA]
 by_cases hfit:fitsR h j (R.map fun x=>(x.d.length:Int))=true
 ·
  rw [hfit]
  refine Lq rfl (Y2 rfl) (Ld (yQ rfl ?_))
  obtain ⟨ds,hds⟩ : ∃ ds,R.map (·.d)=ds:=⟨_,rfl⟩
  have hdsp:(ptsP PL).map (fun p=>recD p.1 p.2)=ds:=by rw [←hRd];exact hds
  rw [hdsp] at hDs
  have hdsz:ds.map (fun d=>(d.length:Int))=R.map (fun x=>(x.d.length:Int)):=by rw [←hds,List.map_map];rfl
  have hdsl:ds.length=i:=by rw [←hds,List.length_map,hRl]
  have hcode:=code_ok (h:=h) (stamp:=stamp) (ended:=ended) hrec (by omega) hEG (by rw [hzs,hel];exact hfit)
  obtain ⟨w0,hw1,hw2⟩:=si.write hc hla (stamp:=stamp) (ended:=ended) (ds:=ds) (by omega) (by omega) hEG (by rw [hdsz,hel];exact hfit) hDs
  have hmid:=si.mid hc hla (ended:=ended) (ds:=ds) hEG (by rw [hdsz,hel];exact hfit)
  refine Tk (TS (Lm rfl rfl (Lq rfl (Qn rfl) (Lq rfl (Q0 (by kernel_rfl) rfl) (Lq rfl (Ql (by kernel_rfl) rfl rfl) (Lq rfl (Qn rfl) ?_))))))
  refine Lq rfl (Q0 (by kernel_rfl) rfl) ?_
  refine Le rfl (Ec (Hp.begin B x.gh b logs count n (K+count+count) h (by omega)) Tryz.func33 rfl rfl rfl ?_)
  rintro _ _ ⟨rfl,rfl⟩
  try simp only [cA,nA]
  refine La rfl rfl (Ld (Ts (TS (Lm rfl rfl (Lq rfl (yI (e:=45) (sz:=2) (by kernel_rfl) rfl) (Lm rfl rfl ?_))))))
  refine Ld (yH ?_)
  refine zG (fun mz fz lz => ∃ (f0:Fr) (k K6:Nat) (g:HR),(k≤j∧K6=K+count+count+1+2*k∧g=endAll (h.last+1) (beginR h) (ended.take k))∧mz=j-k∧fz=(upd (upd (upd (upd (upd (upd (upd f0 0 (pV s)) 1 (.int .i64 stamp)) 9 (.slice pr i cr)) 20 (.int .i64 (h.last+1))) 107 (.slice ea j ec)) 108 (.int .i64 j)) 109 (.int .i64 k))∧lz=hpA x.gh b logs count n K6 g::stoB s x.gh x.gm (lastS h)::stM x x.st::rxR pr i cr R::rxsA R::(S++F)) ?_ ?_
  · refine ⟨_,_,⟨_,0,K+count+count+1,beginR h,⟨Nat.zero_le _,rfl,rfl⟩,rfl,(Za rfl (Za rfl (Za rfl (Za rfl (Za rfl (Za rfl (Za rfl rfl))))))),rfl⟩,Sa⟩
  rintro mz fz lz ⟨f0,k,K6,g,⟨hk,hK6,hgk⟩,hmz,rfl,rfl⟩
  subst mz
  refine TS (Lq rfl (yM rfl rfl) (Ld (Ts ?_)))
  refine yN rfl (fun hlt4=>?_) (fun hlt4=>?_)
  ·
   obtain ⟨be,oe,rfl,hrd⟩:=hev.at (sz:=2) (fun _=>rfl) (by omega)
   obtain ⟨y,hy⟩ : ∃ y,ended[k]? = some y:=⟨_,List.getElem?_eq_getElem (by omega)⟩
   refine Tk (Ts (yH (TS (Lq rfl (Qi _ (e:=45) (sz:=2) (by kernel_rfl) rfl rfl rfl (by omega)) (Lq rfl (Qt.loadAggW (ridC y) (by kernel_rfl) rfl (fun w ho=>hrd k y hy w (ho.map Sa))) ?_)))))
   refine Le rfl (El [.int .i64 0,.int .i64 0] (by unfold Zf;kernel_rfl) ?_)
   intro g22
   refine L0 rfl (Es [_,_] (by kernel_rfl) rfl rfl rfl rfl (by simp) ?_)
   try simp only [splice,lC,lN,dS,cA,tS,tZ,dZ,nA,aN]
   refine Ld (T.draw 7 ([blk g22 (ridC y) 45,stoB s x.gh x.gm (lastS h)]) (by kernel_rfl) (nB rfl) (by kernel_rfl) (Rq 0 rfl rfl (by kernel_rfl) Sa (Qm rfl) (Rq 1 rfl rfl (by kernel_rfl) Sa (Qn rfl) (Rq 2 rfl rfl (by kernel_rfl) Sa (Q0 (by kernel_rfl) rfl) (Rq 3 rfl rfl (by kernel_rfl) Sa (Ql (by kernel_rfl) rfl rfl) (Rq 4 rfl rfl (by kernel_rfl) Sa (Qm rfl) (Rq 5 rfl rfl (by kernel_rfl) Sa (QL [_,_] (by kernel_rfl) rfl ⟨rfl,rfl,trivial⟩) ?_)))))))
   refine yK 6 (by kernel_rfl) ?_
   refine zY rfl rfl (by kernel_rfl) (Ec (Hp.end_ B x.gh b logs count n K6 g (by omega) (h.last+1) y.1 y.2) Tryz.func34 rfl rfl rfl ?_)
   rintro _ _ ⟨rfl,rfl⟩
   try simp only [cA,nA]
   refine Rd0 (by rfl) ?_
   simp only [dS,dZ,dN]
   refine Ld (TR (Lq rfl (Qd rfl rfl (Ze (by omega) (by omega))) (Lm rfl rfl (Ld ?_))))
   refine ⟨_,?_,_,⟨_,k+1,K6+2,(endR g (h.last+1) y.1 y.2).1,⟨by omega,by omega,by rw [take_snoc hy,endAll_snoc,←hgk]⟩,rfl,(Za rfl (Za rfl (Za rfl (Za rfl (Za rfl (Za rfl (Za rfl rfl))))))),rfl⟩,Sa⟩
   omega
  obtain rfl:k=j:=by omega
  rw [List.take_of_length_le (by omega)] at hgk
  have hgk:=hgk.symm
  refine zB (Ts (TS (Lm rfl rfl (Lq rfl (yI (e:=108) (sz:=1) (by kernel_rfl) rfl) (Lm rfl rfl (Ld ?_))))))
  refine yH ?_
  refine zG (fun mz fz lz => ∃ (f0:Fr) (q K4:Nat) (e:HR) (Q:List ReM),(q≤i∧e=addAll (h.last+1) g (ds.take q)∧Q=R.drop q∧K4+(count+1)*(i-q)=K6+(count+1)*i)∧mz=i-q∧fz=(upd (upd (upd (upd (upd (upd f0 0 (pV s)) 1 (.int .i64 stamp)) 20 (.int .i64 (h.last+1))) 121 (.slice pr i cr)) 122 (.int .i64 i)) 123 (.int .i64 q))∧lz=hpA x.gh b logs count n K4 e::rxsA Q::rxR pr i cr R::stoB s x.gh x.gm (lastS h)::stM x x.st::(S++F)) ?_ ?_
  · refine ⟨_,_,⟨_,0,K6,g,R,⟨Nat.zero_le _,rfl,rfl,rfl⟩,rfl,(Za rfl (Za rfl (Za rfl (Za rfl (Za rfl (Za rfl rfl)))))),rfl⟩,Sa⟩
  rintro mz fz lz ⟨f0,q,K4,e,Q,⟨hq,heq,hQ,hKq⟩,hmz,rfl,rfl⟩
  subst mz
  refine TS (Lq rfl (yM rfl rfl) (Ld (Ts ?_)))
  refine yN rfl (fun hlt5=>?_) (fun hlt5=>?_)
  ·
   subst hQ
   obtain ⟨gr,rfl⟩:=hpr (by omega)
   obtain ⟨y,hy⟩ : ∃ y,R[q]? = some y:=⟨_,List.getElem?_eq_getElem (by omega)⟩
   have hil:=(List.getElem?_eq_some_iff.1 hy).1
   have hyo:=hRo y (List.mem_of_getElem? hy)
   have hyd:ds[q]? = some y.d:=by rw [←hds,List.getElem?_map,hy];rfl
   have hyl:=hyo.len
   have hmul:(count+1)*(i-q)=(count+1)*(i-(q+1))+(count+1):=by rw [←Nat.mul_succ];congr 1;omega
   refine T.conv (l':=rxA y::hpA x.gh b logs count n K4 e::rxsA (R.drop (q+1))::rxR (some ⟨gr,0,none⟩) i cr R::stoB s x.gh x.gm (lastS h)::stM x x.st::(S++F)) (fun w ho=>(ho.map fun k K2=>Has.rx_pop hy (Sa (m:=rxsA (R.drop q)::hpA x.gh b logs count n K4 e::rxR (some ⟨gr,0,none⟩) i cr R::stoB s x.gh x.gm (lastS h)::stM x x.st::(S++F)) k K2)).map Sa) (Tk (Ts (yH (TS (Lq rfl (Qi _ (e:=108) (sz:=1) (by kernel_rfl) rfl rfl rfl (by omega)) ?_)))))
   refine Lq rfl (Ql (v:=rxV y) (by kernel_rfl) rfl (by rw [← (List.getElem?_eq_some_iff.1 hy).2];exact map_at _ _ _ hil)) ?_
   refine La rfl rfl (Ld (TR (Lm rfl rfl (Lq rfl (Qn rfl) (Lq rfl (Q0 (by kernel_rfl) rfl) (Lq rfl (Ql (by kernel_rfl) rfl rfl) (Lm rfl rfl ?_)))))))
   refine Lm rfl rfl ?_
   refine Le rfl (Ec (Hp.add B [rxA y] x.gh b logs count n K4 e (by omega) (h.last+1) y.p y.c y.d (RdV.rB rfl hyo.p) (by omega)) Tryz.func35 rfl rfl rfl ?_)
   rintro _ _ ⟨rfl,rfl⟩
   try simp only [cA,nA]
   refine Ld (TR (Lq rfl (Qd rfl rfl (Ze (by omega) (by omega))) (Lm rfl rfl (Ld ?_))))
   refine ⟨_,?_,_,⟨_,q+1,K4+count+1,(Wm e (h.last+1) y.d).1,R.drop (q+1),⟨by omega,by rw [take_snoc hyd,addAll_snoc,←heq],rfl,by omega⟩,rfl,(Za rfl (Za rfl (Za rfl (Za rfl (Za rfl (Za rfl rfl)))))),rfl⟩,Sa⟩
   omega
  obtain rfl:q=i:=by omega
  rw [List.take_of_length_le (by omega)] at heq
  rw [hgk] at hmid
  have hws:writeS h stamp ended ds=Zl e (h.last+1) stamp:=by unfold writeS;rw [hgk,←heq]
  rw [←heq] at hmid
  rw [hws] at w0 hw1 hw2
  have hK5:K4=K6+(count+1)*q:=by rw [Nat.sub_self,Nat.mul_zero] at hKq;omega
  refine zB (TS (Lm rfl rfl (Lq rfl (Qn rfl) (Lq rfl (Q0 (by kernel_rfl) rfl) (Lq rfl (Ql (by kernel_rfl) rfl rfl) (Lm rfl rfl ?_))))))
  refine Lm rfl rfl ?_
  refine Le rfl (Ec (Hp.commit B x.gh b logs count n K4 e (by omega) (h.last+1) stamp (by rw [hmid];exact hcl)) Tryz.func36 rfl rfl rfl ?_)
  rintro _ _ ⟨rfl,rfl⟩
  try simp only [cA,nA]
  rw [w0]
  refine La rfl rfl (Ld (Ts (TS (Lm rfl rfl (Lq rfl (yU rfl rfl) (Ld ?_))))))
  refine zF rfl (TR (Lm rfl rfl (Lq rfl (Qn rfl) (Lq rfl (Qf (off:=1) (by kernel_rfl) rfl) (Lq rfl (Ql (by kernel_rfl) rfl rfl) (Lm rfl rfl (Lm rfl rfl ?_)))))))
  refine Lm rfl rfl (Lm rfl rfl ?_)
  refine Le rfl (Ef.mapEntry Sx.okM rfl (h.last+1) rfl 0 rfl ?_)
  rintro b1
  try simp only [cA,nA]
  refine Lq rfl (Qx rfl rfl) ?_
  refine L0 rfl (Ef.entryStore (ke:=zV) (ve:=zV) (L:=putL x.st (h.last+1) ((Zy x.st (h.last+1)).getD 0)) Sx.okM rfl (h.last+1) b1 rfl stamp rfl ?_)
  refine Lq rfl (Qn rfl) (Lq rfl (Qf (off:=2) (by kernel_rfl) rfl) ?_)
  refine L0 rfl (E1 (by kernel_rfl) rfl rfl rfl (by first | (simp;done) | (simp;omega)) ?_)
  try simp only [List.set_cons_zero,List.set_cons_succ]
  refine Ld (TS (Lm rfl rfl (La rfl rfl (Ld ?_))))
  have hst2:=hst.write si.r (stamp:=stamp) (v0:=(Zy x.st (h.last+1)).getD 0) hw2.cm
  refine T.ret ?_
  exact ⟨.inl rfl,_,_,res [_] rfl ⟨rvT rfl,trivial⟩,⟨by rw [hcode];rfl,K4,by rw [if_pos hcode];omega,by rw [if_pos hcode,hdsp,hws]⟩,(fun k K2=>Sa k (sto_close (m:=stoA s b logs count n K4 (Zl e (h.last+1) stamp).1::(S++F)) [stoB s x.gh x.gm stamp,stM x (putL (putL x.st (h.last+1) ((Zy x.st (h.last+1)).getD 0)) (h.last+1) stamp),hpA x.gh b logs count n K4 (Zl e (h.last+1) stamp).1] ⟨x.gh,x.gm,putL (putL x.st (h.last+1) ((Zy x.st (h.last+1)).getD 0)) (h.last+1) stamp⟩ (Zl e (h.last+1) stamp).1 hst2 (by show _=[stoB s x.gh x.gm (lastS (Zl e (h.last+1) stamp).1),_,_];rw [hw2.lastS]) k K2))⟩
 rw [Bool.not_eq_true] at hfit
 rw [hfit]
 refine Lq rfl (Y2 rfl) (Ld (zF rfl ?_))
 have hcode:=code_full (h:=h) (stamp:=stamp) (ended:=ended) hrec (by omega) hEG (by rw [hzs,hel];exact hfit)
 refine TS (La rfl rfl (Ld (T.ret ?_)))
 exact ⟨.inl rfl,_,_,res [_] rfl ⟨rvT rfl,trivial⟩,⟨by rw [hcode];rfl,K+count+count,by omega,by rw [hcode,if_neg (by decide)]⟩,(fun k K2=>Sa k (sto_close (m:=stoA s b logs count n (K+count+count) h::(S++F)) [stoB s x.gh x.gm (lastS h),stM x x.st,hpA x.gh b logs count n (K+count+count) h] x h hst rfl k K2))⟩
open Go.RowKit
section
variable {P : Program} {B:Wn} {n:Nat} {S l:List Wp} {f:Fr} {K:Value→List Wp→Prop}
variable {d : Option Tmp} {ty:TypeId} {pos:String} {af:Array Edge} {gd:Option (Nat×Bool)}
theorem bless_irrefl : ∀ a:List UInt8,Op.bytesLess a a=false
 | []=>rfl
 | a::l=>by simp [Op.bytesLess,bless_irrefl l]
theorem Qt.lssW {t t2:TypeId} {x y:Operand} {a:List UInt8} (hx:ev n f x=some (.string (Zq a))) (hy:ev n f y=some (.string (Zq a))):Qt P B n S ⟨d,.binOp .lss t x y t2,ty,pos,af,gd⟩ f (.bool false):=⟨fun w _=>by
 simp [execOp,Zc hx,Zc hy,eqGuard,Go.binOp,Op.stringOp,strOf_toList,bless_irrefl]⟩
end
theorem eqVx (v:Vx):EqSt Tryz.prog 58 #[.int .i64 v.k,.int .i64 v.n,strW v.s] #[.int .i64 v.k,.int .i64 v.n,strW v.s] true:=by
 refine EqSt.mk' (by kernel_rfl) Tryz.underlying58 (by kernel_rfl) fun d0 w=>?_
 refine Eq.trans (eqF_int w (a:=v.k) (b:=v.k) rfl Tryz.underlying3 rfl rfl) ?_
 rw [if_pos rfl]
 refine Eq.trans (eqF_int w (a:=v.n) (b:=v.n) rfl Tryz.underlying2 rfl rfl) ?_
 rw [if_pos rfl]
 refine Eq.trans (eqF_str w (a:=v.s) (b:=v.s) rfl Tryz.underlying9 rfl rfl) ?_
 rw [if_pos rfl,eqF_nil]
abbrev vxV (v:Vx):Value := .agg #[.int .i64 v.k,.int .i64 v.n,strW v.s]
theorem Rx.one (B:Wn) (v:Vx):Fn Tryz.prog B 76 #[vxV v,vxV v] [] (fun u l=>u = .int .i64 0∧l=[]):=by
 refine Wr 41 Tryz.func76 rfl rfl (nB rfl) (fun F=>?_)
 try simp only [cA,nA]
 refine TS ?_
 refine Le rfl (zL [_,_,_] rfl rfl ?_)
 intro g2
 refine Le rfl (zL [_,_,_] rfl rfl ?_)
 intro g3
 refine La rfl rfl (Ld (Ts (TS (Lq rfl (Q0 (by kernel_rfl) rfl) (Lq rfl (Ql (by kernel_rfl) rfl rfl) (Lq rfl (Q0 (by kernel_rfl) rfl) ?_))))))
 refine Lq rfl (Ql (by kernel_rfl) rfl rfl) (Lq rfl (yM rfl rfl) (Lm rfl rfl (yT (t:=10) rfl (decide_eq_false (by omega)) (Lq rfl (Q0 (by kernel_rfl) rfl) (Lq rfl (Ql (by kernel_rfl) rfl rfl) (Lq rfl (Q0 (by kernel_rfl) rfl) (Lq rfl (Ql (by kernel_rfl) rfl rfl) ?_)))))))
 refine Lq rfl (yU rfl rfl) (Lm rfl rfl (zQ (t:=16) rfl (decide_eq_true (by omega)) (Lq rfl (Qf (off:=1) (by kernel_rfl) rfl) (Lq rfl (Ql (by kernel_rfl) rfl rfl) (Lq rfl (Qf (off:=1) (by kernel_rfl) rfl) (Lq rfl (Ql (by kernel_rfl) rfl rfl) (Lq rfl (yM rfl rfl) ?_)))))))
 refine Lm rfl rfl (yT (t:=22) rfl (decide_eq_false (by omega)) (Lq rfl (Qf (off:=1) (by kernel_rfl) rfl) (Lq rfl (Ql (by kernel_rfl) rfl rfl) (Lq rfl (Qf (off:=1) (by kernel_rfl) rfl) (Lq rfl (Ql (by kernel_rfl) rfl rfl) (Lq rfl (yU rfl rfl) (Lm rfl rfl ?_)))))))
 refine zQ (t:=28) rfl (decide_eq_true (by omega)) (Lq rfl (Qf (off:=2) (by kernel_rfl) rfl) (Lq rfl (Ql (by kernel_rfl) rfl rfl) (Lq rfl (Qf (off:=2) (by kernel_rfl) rfl) (Lq rfl (Ql (by kernel_rfl) rfl rfl) (Lq rfl (Qt.lssW (a:=v.s) rfl rfl) (Lq rfl (Qp rfl rfl) (Lq rfl (Qp rfl rfl) ?_)))))))
 refine Lq rfl (Qp rfl rfl) (Lq rfl (Qp rfl rfl) (Ld (yQ rfl (Tk (Ts (TS ?_))))))
 refine Lq rfl (QL [_,_,_] (by kernel_rfl) rfl ⟨rfl,rfl,rfl,trivial⟩) (Lq rfl (QL [_,_,_] (by kernel_rfl) rfl ⟨rfl,rfl,rfl,trivial⟩) (Lq rfl (Qt.eqlSt (eqVx v) rfl rfl) (Ld (zF rfl (TS (La rfl rfl ?_))))))
 refine Ld (T.ret ?_)
 exact ⟨.inl rfl,_,_,res [_] rfl ⟨rvT rfl,trivial⟩,⟨rfl,rfl⟩,Sa⟩
theorem Rx.compare (B:Wn) (S:List Wp) (l:List Vx) (pa pb:Option Addr) (m ca cb:Nat) (hl:l.length=m) (hm:m<2^40) (hv:FlV B S vxC (.slice pa m ca) l) (hu:FlV B S vxC (.slice pb m cb) l):Fn Tryz.prog B 37 #[.slice pa m ca,.slice pb m cb] S (fun u r=>u = .int .i64 0∧r=S):=by
 refine Wr 41 Tryz.func37 rfl rfl (nB rfl) (fun F=>?_)
 refine TS (La rfl rfl (Ld (Ts (TS (La rfl rfl ?_)))))
 refine Ld (yH ?_)
 refine zG (fun mz fz lz => ∃ (f0:Fr) (k:Nat),(k≤m)∧mz=m-k∧fz=(upd (upd (upd f0 0 (.slice pa m ca)) 1 (.slice pb m cb)) 5 (.int .i64 k))∧lz=S++F) ?_ ?_
 · refine ⟨_,_,⟨_,0,Nat.zero_le _,rfl,(Za rfl (Za rfl (Za rfl rfl))),rfl⟩,Sa⟩
 rintro mz fz lz ⟨f0,k,hk,hmz,rfl,rfl⟩
 subst mz
 refine Ts (TS (Lm rfl rfl (Lm rfl rfl (Lq rfl (yI (e:=58) (sz:=3) (by kernel_rfl) rfl) (Lq rfl (yM rfl rfl) (Lm rfl rfl ?_))))))
 refine zZ (t:=11) rfl (fun hlt=>?_) (fun hlt=>?_)
 ·
  try replace hlt:=of_decide_eq_true hlt
  refine Lm rfl rfl (Lm rfl rfl (Lq rfl (yI (e:=58) (sz:=3) (by kernel_rfl) rfl) (Lq rfl (yM rfl rfl) (Lq rfl (Qp rfl rfl) (Ld (zM rfl (by omega) ?_))))))
  obtain ⟨b,o,rfl,hr⟩:=hv.at (sz:=3) (fun _=>rfl) (by omega)
  obtain ⟨b2,o2,rfl,hr2⟩:=hu.at (sz:=3) (fun _=>rfl) (by omega)
  obtain ⟨v,hx⟩ : ∃ v,l[k]? = some v:=⟨_,List.getElem?_eq_getElem (by omega)⟩
  refine Tk (Ts (yH (Ts (zU 9 (by kernel_rfl) (nB rfl) (by kernel_rfl) (Rq 0 rfl rfl (by kernel_rfl) (Sr _) (Qm rfl) (Rq 1 rfl rfl (by kernel_rfl) (Sr _) (Qm rfl) (Rq 2 rfl rfl (by kernel_rfl) (Sr _) (Qi _ (e:=58) (sz:=3) (by kernel_rfl) rfl rfl rfl (by omega)) ?_)))))))
  refine Rq 3 rfl rfl (by kernel_rfl) (Sr _) (Qt.loadAggW [.int .i64 v.k,.int .i64 v.n,strW v.s] (by kernel_rfl) rfl (fun w ho=>hr k v hx w ho.drop)) (Rq 4 rfl rfl (by kernel_rfl) (Sr _) (Qm rfl) (Rq 5 rfl rfl (by kernel_rfl) (Sr _) (Qm rfl) (Rq 6 rfl rfl (by kernel_rfl) (Sr _) (Qi _ (e:=58) (sz:=3) (by kernel_rfl) rfl rfl rfl (by omega)) (Rq 7 rfl rfl (by kernel_rfl) (Sr _) (Qt.loadAggW [.int .i64 v.k,.int .i64 v.n,strW v.s] (by kernel_rfl) rfl (fun w ho=>hr2 k v hx w ho.drop)) (yK 8 (by kernel_rfl) ?_)))))
  refine zY rfl rfl (by kernel_rfl) (Ec (Rx.one B v) Tryz.func76 rfl rfl rfl ?_)
  rintro _ _ ⟨rfl,rfl⟩
  try simp only [cA,nA]
  refine Rd0 (by rfl) ?_
  simp only [dS,dZ,dN]
  refine La rfl rfl (Ld (TS (Lm rfl rfl (Lq rfl (yW rfl rfl) (Ld (yQ rfl ?_))))))
  refine Tk (TR (Lm rfl rfl (Lq rfl (Qd rfl rfl (Ze (by omega) (by omega))) (La rfl rfl (Ld ?_)))))
  refine ⟨_,?_,_,⟨_,k+1,by omega,rfl,(Za rfl (Za rfl (Za rfl rfl))),rfl⟩,Sa⟩
  omega
 try replace hlt:=of_decide_eq_false hlt
 refine Ls rfl (Ls rfl (Ls rfl (Ls rfl (Lq rfl (Qp rfl rfl) (Ld (yQ rfl (zB ?_)))))))
 refine Ts (TS (Lm rfl rfl (Lq rfl (yI (e:=58) (sz:=3) (by kernel_rfl) rfl) (Lm rfl rfl (Lq rfl (yI (e:=58) (sz:=3) (by kernel_rfl) rfl) (Lq rfl (yM rfl rfl) ?_))))))
 refine Ld (yL rfl (by omega) (Tk (Ts (TS (Lm rfl rfl (Lq rfl (yI (e:=58) (sz:=3) (by kernel_rfl) rfl) ?_))))))
 refine Lm rfl rfl (Lq rfl (yI (e:=58) (sz:=3) (by kernel_rfl) rfl) (Lq rfl (yZ rfl rfl) (Ld (yL rfl (by omega) (Tk (TS ?_))))))
 refine La rfl rfl (Ld (T.ret ?_))
 exact ⟨.inl rfl,_,_,res [_] rfl ⟨rvT rfl,trivial⟩,⟨rfl,rfl⟩,Sa⟩
theorem Rx.same (B:Wn) (S:List Wp) (l:List Vx) (pa pb:Option Addr) (m ca cb:Nat) (hl:l.length=m) (hm:m<2^40) (hv:FlV B S vxC (.slice pa m ca) l) (hu:FlV B S vxC (.slice pb m cb) l):Fn Tryz.prog B 15 #[.slice pa m ca,.slice pb m cb] S (fun u r=>u = .bool true∧r=S):=by
 refine Wr 16 Tryz.func15 rfl rfl (nB rfl) (fun F=>?_)
 refine TS (La rfl rfl (Ld (TS (Lm rfl rfl (Lq rfl (yI (e:=58) (sz:=3) (by kernel_rfl) rfl) ?_)))))
 refine Lm rfl rfl (Lq rfl (yI (e:=58) (sz:=3) (by kernel_rfl) rfl) (Lq rfl (yU rfl rfl) (Lm rfl rfl (zQ (t:=10) rfl (decide_eq_true (by omega)) (Lm rfl rfl (Lm rfl rfl ?_))))))
 refine Le rfl (Ec (Rx.compare B S l pa pb m ca cb hl hm hv hu) Tryz.func37 rfl rfl rfl ?_)
 rintro _ _ ⟨rfl,rfl⟩
 try simp only [cA,nA]
 refine Lq rfl (yU rfl rfl) (Lq rfl (Qp rfl rfl) (La rfl rfl (Ld (T.ret ?_))))
 exact ⟨.inl rfl,_,_,res [_] rfl ⟨rvT rfl,trivial⟩,⟨rfl,rfl⟩,Sa⟩
open Go.RowKit
theorem lastE_mono {h:HR} (r:RInv h) (n:Nat):0≤lastE (h.es.take n)∧lastE (h.es.take n)≤h.last:=by
 refine ⟨(lastE_le _ _).1,?_⟩
 have key : ∀ (es:List En) (m x:Int),m≤x→(∀ e∈es,e.txn≤x)→es.foldl (fun m e=>max m e.txn) m≤x:=by
  intro es
  induction es with
  | nil=>intro m x h _;exact h
  | cons e es ih=>intro m x h1 h2;exact ih _ _ (by have:=h2 e (by simp);dsimp only;omega) (fun e he=>h2 e (by simp [he]))
 exact key _ _ _ r.last0 (fun e he=>r.lst e (List.mem_of_mem_take he))
open Go.RowKit
theorem HR.same : ∀ {a b:HR},a.pages=b.pages→a.room=b.room→a.used=b.used→a.vs=b.vs→a.act=b.act→a.cm=b.cm→a.last=b.last→a.es=b.es→a=b
 | ⟨_,_,_,_,_,_,_,_⟩,⟨_,_,_,_,_,_,_,_⟩,rfl,rfl,rfl,rfl,rfl,rfl,rfl,rfl=>rfl
theorem SI.hist_ok {h:HR} {c rm:Nat} (s:SI h c rm):HistOk c rm h.es:=by
 have:=s.r.hist
 rwa [s.pages,s.room] at this
theorem SI.reopen {h:HR} {c rm:Nat} (s:SI h c rm):Go.Proofs.YtjmjjfefchnkaaaGreatDoor.reopen c rm h.es={h with last:=lastE h.es}:=by
 obtain ⟨a,b,c',d,e⟩:=replay_es c rm h.es
 have h1:=s.r.rvs
 have h2:=s.r.rcm
 have h3:=s.r.rus
 rw [s.pages,s.room] at h1 h2 h3
 refine HR.same ?_ ?_ h3 h1 ?_ h2 rfl a
 · show (replay c rm h.es).pages=h.pages;rw [b,s.pages]
 · show (replay c rm h.es).room=h.room;rw [c',s.room]
 · show (replay c rm h.es).act=h.act;rw [d,s.act]
theorem SI.re {h:HR} {c rm:Nat} (s:SI h c rm):SI (Go.Proofs.YtjmjjfefchnkaaaGreatDoor.reopen c rm h.es) c rm:=by
 have hr:=reopen_inv s.hist_ok
 rw [s.reopen] at hr ⊢
 exact ⟨hr,s.pages,s.room,s.act,s.vis,s.rc,s.dur,s.st⟩
theorem SI.re_see {h:HR} {c rm:Nat} (s:SI h c rm) (t a:Int):seeR (Go.Proofs.YtjmjjfefchnkaaaGreatDoor.reopen c rm h.es) t a=seeR h t a:=by rw [s.reopen];rfl
theorem SI.re_lastS {h:HR} {c rm:Nat} (s:SI h c rm):lastS (Go.Proofs.YtjmjjfefchnkaaaGreatDoor.reopen c rm h.es)=lastS h:=by rw [s.reopen];rfl
theorem SI.re_last {h:HR} {c rm:Nat} (s:SI h c rm):(Go.Proofs.YtjmjjfefchnkaaaGreatDoor.reopen c rm h.es).last≤h.last∧0≤(Go.Proofs.YtjmjjfefchnkaaaGreatDoor.reopen c rm h.es).last:=by
 have:=lastE_mono s.r h.es.length
 rw [List.take_length] at this
 exact ⟨this.2,this.1⟩
theorem SI.re_cm {h:HR} {c rm:Nat} (s:SI h c rm):(Go.Proofs.YtjmjjfefchnkaaaGreatDoor.reopen c rm h.es).cm=h.cm:=by rw [s.reopen]
theorem page_perm (vs:List Ver) : ∀ n:Nat,((List.range n).flatMap fun q=>Zh vs q).Perm (vs.filter fun v=>decide (v.page<n))
  | 0=>by simp
  | n+1=>by
    rw [List.range_succ,List.flatMap_append]
    have ih:=page_perm vs n
    have e:(List.flatMap (fun q=>Zh vs q) [n])=Zh vs n:=by simp
    rw [e]
    refine (List.Perm.append_right _ ih).trans ?_
    clear ih e
    unfold Zh
    induction vs with
    | nil=>exact List.Perm.refl _
    | cons v vs ihv =>
      by_cases h1:v.page<n
      · rw [List.filter_cons_of_pos (by simpa using h1),List.filter_cons_of_neg (by simp;omega),List.filter_cons_of_pos (by simp;omega)]
        exact List.Perm.cons v ihv
      · by_cases h2:v.page=n
        · rw [List.filter_cons_of_neg (by simpa using h1),List.filter_cons_of_pos (by simp [h2]),List.filter_cons_of_pos (by simp;omega)]
          exact List.perm_middle.trans (List.Perm.cons v ihv)
        · rw [List.filter_cons_of_neg (by simpa using h1),List.filter_cons_of_neg (by simp [h2]),List.filter_cons_of_neg (by simp;omega)]
          exact ihv
theorem SI.perm {h:HR} {c rm:Nat} (s:SI h c rm):(allR h).Perm h.vs:=by
 rw [s.all]
 refine (page_perm h.vs h.pages).trans ?_
 rw [List.filter_eq_self.2]
 intro v hv
 simpa using (s.r.ok.vok v hv).1
noncomputable def inT (t:Int) (v:Ver):Bool:=decide ((factR v.data).1=t∨t<0)
theorem hist_map (h:HR) (t:Int):histR h t=((allR h).filter (inT t)).map (itemR h):=by
 unfold histR
 rw [List.filter_map];rfl
theorem SI.hist_len {h:HR} {c rm:Nat} (s:SI h c rm) (t:Int):(histR h t).length=(h.vs.filter (inT t)).length:=by
 rw [hist_map,List.length_map]
 exact (s.perm.filter _).length_eq
theorem SI.one {h:HR} {c rm:Nat} (s:SI h c rm) {v:Ver} (e:h.vs=[v]):allR h=[v]:=by
 have:=s.perm
 rw [e] at this
 exact List.perm_singleton.1 this
theorem inT_rec {t t':Int} {f:Fx1} {v:Ver} (hx:FxOk t f) (hd:v.data=encL (valsF t f)):inT t' v=decide (t=t'∨t'<0):=by unfold inT;rw [hd,factR_rec hx]
theorem itemR_rec {h:HR} {t:Int} {f:Fx1} {v:Ver} (hx:FxOk t f) (hd:v.data=encL (valsF t f)):itemR h v=⟨v.page,v.slot,t,f,stampR h v.beg,stampR h v.fin⟩:=by unfold itemR;rw [hd,factR_rec hx]
structure ReadyD (logs count:Nat) (h:HR) (D:DD):Prop where
 scan : ∃ x y,Wj (allD D 0 logs) (logs*256+1) 0 0=(x,y,logR 0 (h.es.map Zj))
 len:D.secs.length=logs+count
 pend:D.pend=[]
theorem Sx.crash (B:Wn) (s b logs count n K:Nat) (h:HR) (si:SI h count (logs*256)) (hK:K<2^30) (vk:Value) (keep:List Bool) (tear at_:Int) (hk:RoS B vk (boolsV keep)) :
  Fn Tryz.prog B 10 #[pV b,vk,.int .i64 tear,.int .i64 at_] [stoA s b logs count n K h] (fun u l => ∃ D,ReadyD logs count h D∧u = .tuple #[]∧l=[Zn b D]):=by
 refine Fn.openSto fun x hst=>?_
 simp only [stoC,List.cons_append,List.nil_append]
 refine Fn.wide (Hp.crash B x.gh b logs count n K h hK vk keep tear at_ hk) ?_
 rintro u l ⟨D,k,⟨hh,hk,hc,hs,hd,ho,hp⟩,rfl,rfl⟩
 have hkl:=si.dur k hk hc
 subst hkl
 rw [List.take_length] at hs
 exact ⟨_,Sa,D,⟨hs,hd,hp⟩,rfl,rfl⟩
theorem Sx.again (B:Wn) (b:Nat) (D:DD) (logs count n m:Nat) (i j:Int) (hi:i=logs) (hj:j=n) (h:HR) (si:SI h count (logs*256)) (rd:ReadyD logs count h D) (h1:1≤logs) (hc:1≤count) (hc2:count≤4096) (hn1:1≤n) (hn2:n≤4096) (hm:h.last≤m) (hK:m+count+h.es.length+count<2^29) :
  Fn Tryz.prog B 11 #[pV b,.int .i64 i,.int .i64 j] [Zn b D] (fun u l => ∃ s,u = .tuple #[pV s,.int .i64 0]∧l=[stoA s b logs count n (m+count+h.es.length+count) (reopen count (logs*256) h.es)]) :=
 Sx.open B b D logs count n m i j hi hj h.es h1 hc hc2 rd.len hn1 hn2 (by rw [rd.pend];simp) si.hist_ok rd.scan (Int.le_trans si.re_last.1 hm) hK si.re
open Go.RowKit
theorem hpA_mono {g b logs count n K K':Nat} {h:HR} (hk:K≤K') : ∀ p,hpA g b logs count n K h p→hpA g b logs count n K' h p:=fun p ⟨x,hx⟩=>by
 obtain ⟨hi,h2⟩:=Has.open_pu (hx:Has (pu (HInv logs count n K x.s x.st h)::hpC g b logs count n x h) p)
 exact ⟨x,Has.close_pu (hi.mono hk) h2⟩
theorem stoA_mono {s b logs count n K K':Nat} {h:HR} (hk:K≤K') : ∀ p,stoA s b logs count n K h p→stoA s b logs count n K' h p:=fun p ⟨x,hx⟩=>by
 obtain ⟨hi,h2⟩:=Has.open_pu (hx:Has (pu (StamI x.st h)::stoC s b logs count n K x h) p)
 refine ⟨x,Has.close_pu hi ?_⟩
 exact Wt (fun _=>Wt (fun _=>Has.weaken (hpA_mono hk))) h2
theorem Fn.post {P:Program} {B:Wn} {g:FuncId} {args:Array Value} {pre:List Wp} {R R':Value→List Wp→Prop} (h:Fn P B g args pre R) (hr : ∀ v l',R v l' → ∃ l2,Sub l' l2∧R' v l2):Fn P B g args pre R':=⟨fun w F ho=>by
 refine (h.run w F ho).mono ?_
 rintro _ w' ⟨v,l',rfl,hR,ho2⟩
 obtain ⟨l2,hs,hR'⟩:=hr v l' hR
 refine ⟨v,l2,rfl,hR',ho2.map fun hh H=>?_⟩
 obtain ⟨h1,h2,d,a,b,e1,e2⟩:=Has.split H
 exact Has.join d a b (hs _ e1) e2⟩
theorem Sx.writeA (B:Wn) (S:List Wp) (s b logs count n K:Nat) (h:HR) (si:SI h count (logs*256)) (hc1:1≤count) (hc:count≤4096) (hcl:h.cm.length<2^32) (hla:h.last+1<2^62) (stamp:Int)
  (ea:Option Addr) (en ec:Nat) (ended:List (Int×Int)) (hel:ended.length=en) (hen:en≤2^20) (hev:FlV B S ridC (.slice ea en ec) ended)
  (pa:Option Addr) (m pc:Nat) (PL:List PtM) (hpl:PL.length=m) (hm:m≤2^20) (hpv:FlV B S ptC (.slice pa m pc) PL) (hpo : ∀ p∈PL,PtOk B S p) (K2:Nat) (hK2:K+2*count+2+2*en+(count+1)*m≤K2) (hK:K2<2^28) (code:Int) (hcode:codeS h stamp ended (ptsP PL)=code) :
  Fn Tryz.prog B 13 #[pV s,.int .i64 stamp,.slice ea en ec,.slice pa m pc] (stoA s b logs count n K h::S) (fun u l=>u = .int .i64 code∧l=stoA s b logs count n K2 (if code=0 then (writeS h stamp ended ((ptsP PL).map fun p=>recD p.1 p.2)).1 else h)::S):=by
 refine Fn.post (Sx.write B S s b logs count n K h si hc1 hc hcl hla stamp ea en ec ended hel hen hev pa m pc PL hpl hm hpv hpo (by omega)) ?_
 rintro u l ⟨rfl,K',hK',rfl⟩
 rw [hcode] at hK' ⊢
 exact ⟨_,fun k H=>Has.weaken (stoA_mono (by split at hK' <;> omega)) H,rfl,rfl⟩
theorem Sx.writeOk (B:Wn) (S:List Wp) (s b logs count n K:Nat) (h:HR) (si:SI h count (logs*256)) (hc1:1≤count) (hc:count≤4096) (hcl:h.cm.length<2^32) (hla:h.last+1<2^62) (stamp:Int)
  (ea:Option Addr) (en ec:Nat) (ended:List (Int×Int)) (hel:ended.length=en) (hen:en≤2^20) (hev:FlV B S ridC (.slice ea en ec) ended)
  (pa:Option Addr) (m pc:Nat) (PL:List PtM) (hpl:PL.length=m) (hm:m≤2^20) (hpv:FlV B S ptC (.slice pa m pc) PL) (hpo : ∀ p∈PL,PtOk B S p) (K2:Nat) (hK2:K+2*count+2+2*en+(count+1)*m≤K2) (hK:K2<2^28) (ds:List (List UInt8)) (hds:(ptsP PL).map (fun p=>recD p.1 p.2)=ds) (hcode:codeS h stamp ended (ptsP PL)=0) :
  Fn Tryz.prog B 13 #[pV s,.int .i64 stamp,.slice ea en ec,.slice pa m pc] (stoA s b logs count n K h::S) (fun u l=>u = .int .i64 0∧l=stoA s b logs count n K2 (writeS h stamp ended ds).1::S) :=
 Fn.post (Sx.writeA B S s b logs count n K h si hc1 hc hcl hla stamp ea en ec ended hel hen hev pa m pc PL hpl hm hpv hpo K2 hK2 hK 0 hcode) (by rintro u l ⟨rfl,rfl⟩;exact ⟨_,Sr _,rfl,by rw [if_pos rfl,hds]⟩)
theorem Sx.fact (B:Wn) (n f t:Int):Fn Tryz.prog B 18 #[.int .i64 n,.int .i64 f,.int .i64 t] [] (fun u l => ∃ g,u=factV (some ⟨g,0,none⟩) 1 1 ⟨[⟨1,n,[]⟩],f,t⟩∧l=[blk g (vxC ⟨1,n,[]⟩) 58]):=by
 refine Ws 14 Tryz.func18 rfl rfl (nB rfl) (fun F=>?_)
 try simp only [cA,nA]
 refine TS ?_
 refine Le rfl (El [.slice none 0 0,.int .i64 0,.int .i64 0] (by unfold Zf;kernel_rfl) ?_)
 intro g6
 refine Ld (TS (Lm rfl rfl (Lq rfl (z8 [(0,1),(1,1),(2,1)] [.int .i64 0,.int .i64 0,.string .empty] [_,_,_] [(0,_),(1,_)] (by kernel_rfl) (by unfold Zf;kernel_rfl) rfl rfl) ?_)))
 refine Le rfl (Ef.lits (e:=58) (sz:=3) [_] (vxC ⟨1,n,[]⟩) (by kernel_rfl) (by kernel_rfl) rfl (by simp [Value.cells]) rfl rfl (by omega) (by omega) (by omega) ?_)
 intro gh
 refine Lm rfl rfl (Lm rfl rfl (Lq rfl (z8 [(0,1),(1,1)] [.int .i64 0,.int .i64 0] [_,_] [(0,_),(1,_)] (by kernel_rfl) (by unfold Zf;kernel_rfl) rfl rfl) (Lq rfl (z8 [(0,1),(1,2)] [.slice none 0 0,.int .i64 0,.int .i64 0] [_,_,_] [(0,_),(1,_)] (by kernel_rfl) (by unfold Zf;kernel_rfl) rfl rfl) ?_)))
 refine L0 rfl (Es [_,_,_] (by kernel_rfl) rfl rfl rfl rfl (by simp) ?_)
 try simp only [splice,lC,lN,dS,cA,tS,tZ,dZ,nA,aN]
 refine Ld (T.ret ?_)
 exact ⟨.inl rfl,_,_,res [_] rfl ⟨rvA [_,_,_] (by kernel_rfl) rfl ⟨rfl,rfl,rfl,trivial⟩,trivial⟩,⟨gh,rfl,rfl⟩,Sa⟩
theorem Sx.opened (B:Wn):Fn Tryz.prog B 9 #[] [] (fun u l => ∃ b s,u = .tuple #[pV b,pV s]∧l=[stoA s b 12 8 3 16 (newR 8 3072)]):=by
 refine Fn.enter0 22 Tryz.func9 rfl rfl (nB rfl) (fun F=>?_)
 try simp only [cA,nA]
 refine TS (La rfl rfl (La rfl rfl (Ld (TS ?_))))
 refine Le rfl (Ec (Dk.newF B 20 20 rfl (by omega) (by omega)) Tryz.func26 rfl rfl rfl ?_)
 rintro _ _ ⟨b,rfl,rfl⟩
 try simp only [cA,nA]
 refine Lm rfl rfl (Lq rfl (Qx rfl rfl) (Lq rfl (Qx rfl rfl) (La rfl rfl (La rfl rfl (Ld (Ts (Ts ?_)))))))
 refine TR (Lm rfl rfl (Lq rfl (Y1 (by kernel_rfl) rfl rfl) (Ld (yQ rfl (Tk (TS ?_))))))
 refine Lm rfl rfl ?_
 refine Le rfl (Ec (Sx.open B b ⟨List.replicate 20 zs,[]⟩ 12 8 3 0 12 3 rfl rfl [] (by omega) (by omega) (by omega) (by simp) (by omega) (by omega) (by simp) (histNil _ _) (scan_secs (ds:=[]) (Secs.new (by omega)) (by simp) (by simp [Zr])) (by simp [lastE]) (by simp) (SI.new 8 3072)) Tryz.func11 rfl rfl rfl ?_)
 rintro _ _ ⟨s,rfl,rfl⟩
 try simp only [cA,nA]
 rw [show (0:Nat)+8+([]:List En).length+8=16 by simp,show reopen 8 (12*256) []=newR 8 3072 from rfl]
 refine Lm rfl rfl (Lq rfl (Qx rfl rfl) (Lq rfl (Qx rfl rfl) (La rfl rfl (La rfl rfl (Ld (Ts (Ts ?_)))))))
 refine TR (Lm rfl rfl (Lq rfl (yW rfl rfl) (Ld (yQ rfl (Tk (TS ?_))))))
 refine Lm rfl rfl (Lm rfl rfl (La rfl rfl (La rfl rfl (Ld (T.ret ?_)))))
 exact ⟨.inl rfl,_,_,res [_,_] rfl ⟨rvT rfl,rvT rfl,trivial⟩,⟨b,s,rfl,rfl⟩,Sa⟩
open Go.RowKit
theorem hist_one {h:HR} {c rm:Nat} (s:SI h c rm) {v:Ver} (e:h.vs=[v]) {t:Int} {f:Fx1} (hx:FxOk t f) (hd:v.data=encL (valsF t f)) (tb:Int):histR h tb=if t=tb∨tb<0 then [⟨v.page,v.slot,t,f,stampR h v.beg,stampR h v.fin⟩] else []:=by
  rw [hist_map,s.one e,List.filter_cons,inT_rec hx hd]
  by_cases q:t=tb∨tb<0
  · rw [if_pos (decide_eq_true q),if_pos q]
    rw [List.filter_nil,List.map_cons,List.map_nil,itemR_rec hx hd]
  · rw [if_neg (by rw [decide_eq_true_eq];exact q),if_neg q];rfl
theorem see_one {h:HR} {c rm:Nat} (s:SI h c rm) {v:Ver} (e:h.vs=[v]) {t:Int} {f:Fx1} (hx:FxOk t f) (hd:v.data=encL (valsF t f)) (tb a:Int):seeR h tb a=if (t=tb∨tb<0)∧stampR h v.beg≤a∧(stampR h v.fin=0∨a<stampR h v.fin) then [⟨v.page,v.slot,t,f,stampR h v.beg,stampR h v.fin⟩] else []:=by
  unfold seeR
  rw [hist_one s e hx hd]
  by_cases q:t=tb∨tb<0
  · rw [if_pos q,List.filter_cons]
    by_cases q2:stampR h v.beg≤a∧(stampR h v.fin=0∨a<stampR h v.fin)
    · rw [if_pos (decide_eq_true q2),if_pos ⟨q,q2⟩];rfl
    · rw [if_neg (by rw [decide_eq_true_eq];exact q2),if_neg (fun z=>q2 z.2)];rfl
  · rw [if_neg q,if_neg (fun z=>q z.1)];rfl
abbrev awF : Fx1:=⟨[⟨1,7,[]⟩],0,9⟩
abbrev awD : List UInt8:=encL (valsF 1 awF)
abbrev sw1 : HR:=(writeS (newR 8 3072) 3 [] [awD]).1
abbrev sw2 : HR:=(writeS sw1 5 [(0,0)] []).1
theorem awOk : FxOk 1 awF:=recE_ok (by decide) (by simp) (by kernel_rfl)
theorem aw_c1 : codeS (newR 8 3072) 3 [] [(1,awF)]=0:=by kernel_rfl
theorem aw_c2 : codeS sw1 5 [(0,0)] []=0:=by kernel_rfl
theorem aw_v1 : sw1.vs=[⟨0,0,1,0,awD⟩]:=by kernel_rfl
theorem aw_m1 : sw1.cm=[(1,3)]:=by kernel_rfl
theorem aw_l1 : sw1.last=1:=by kernel_rfl
theorem aw_v2 : sw2.vs=[⟨0,0,1,2,awD⟩]:=by kernel_rfl
theorem aw_m2 : sw2.cm=[(1,3),(2,5)]:=by kernel_rfl
theorem aw_l2 : sw2.last=2:=by kernel_rfl
theorem aw_e2 : sw2.es.length=4:=by kernel_rfl
theorem aw_d1 : recD 1 awF=awD:=by kernel_rfl
theorem code_write {h:HR} {c rm:Nat} (s:SI h c rm) (hp:c≤4096) (hl:h.last+1<2^62) {stamp:Int} {ended:List (Int×Int)} {ps:List (Int×Fx1)} (hf : ∀ p∈ps,-(2^63)≤p.1∧p.1<2^63∧FxRd p.2) (hc:codeS h stamp ended ps=0) :
  lastS h<stamp∧stamp≤1099511627776∧endsG h [] ended=true∧(∀ p∈ps,FxOk p.1 p.2∧recD p.1 p.2=encL (valsF p.1 p.2))∧SI (writeS h stamp ended (ps.map fun p=>recD p.1 p.2)).1 c rm∧Wrote h (writeS h stamp ended (ps.map fun p=>recD p.1 p.2)).1 stamp ended (ps.map fun p=>recD p.1 p.2):=by
 obtain ⟨h1,h2,h3,h4,h5⟩:=code_inv hc
 have hok : ∀ p∈ps,FxOk p.1 p.2∧recD p.1 p.2=encL (valsF p.1 p.2):=fun p hp=>by
  have h0:=recsE_ok h1 p hp
  obtain ⟨a,b,c⟩:=hf p hp
  exact ⟨recE_ok b c.n h0,by unfold recD;rw [if_pos h0]⟩
 obtain ⟨_,a,b⟩:=s.write hp hl h2 h3 h4 (ds:=ps.map fun p=>recD p.1 p.2) (by rw [List.map_map];exact h5) (fun d hd=>by
  obtain ⟨p,hp,rfl⟩:=List.mem_map.1 hd
  exact ⟨p.1,p.2,(hok p hp).1,(hok p hp).2⟩)
 exact ⟨h2,h3,h4,hok,a,b⟩
theorem aw_rd : FxRd awF:=⟨by simp,by simp,by simp,by simp⟩
theorem aw_s1 : SI sw1 8 3072:=by
 have:=code_write (SI.new 8 3072) (by omega) (by decide) (ps:=[(1,awF)]) (by simp [aw_rd]) aw_c1
 exact this.2.2.2.2.1
theorem aw_s2 : SI sw2 8 3072:=by
 have:=code_write aw_s1 (by omega) (by rw [aw_l1];decide) (ps:=[]) (by simp) aw_c2
 exact this.2.2.2.2.1
theorem aw_t1 (t:Int):stampR sw1 t=if t=1 then 3 else 0:=by
 show stampL _ t=_
 rw [aw_m1]
 unfold stampL
 by_cases q:t=1
 · subst q;rfl
 · rw [if_neg q,List.find?_cons_of_neg (by simp;omega)];rfl
theorem aw_t2 (t:Int):stampR sw2 t=if t=1 then 3 else if t=2 then 5 else 0:=by
  show stampL _ t=_
  rw [aw_m2]
  unfold stampL
  by_cases q:t=1
  · subst q;rfl
  · by_cases q2:t=2
    · subst q2;rfl
    · rw [if_neg q,if_neg q2,List.find?_cons_of_neg (by simp;omega),List.find?_cons_of_neg (by simp;omega)];rfl
theorem aw_see1 (a:Int):seeR sw1 1 a=if 3≤a then [⟨0,0,1,awF,3,0⟩] else []:=by
 rw [see_one aw_s1 aw_v1 awOk rfl,aw_t1,aw_t1]
 simp
theorem aw_see2 (a:Int):(seeR sw2 1 a).length=if 3≤a∧a<5 then 1 else 0:=by
  rw [see_one aw_s2 aw_v2 awOk rfl,aw_t2,aw_t2]
  by_cases q:3≤a∧a<5
  · rw [if_pos q];simp [q]
  · rw [if_neg q,if_neg];rfl
    simp;omega
open Go.RowKit
theorem PtOk.blk {B:Wn} {S:List Wp} {t n fr to:Int} {gf:Nat} (hs : ∀ w,Own B w S→Own B w [blk gf (vxC ⟨1,n,[]⟩) 58]) (h:FxRd ⟨[⟨1,n,[]⟩],fr,to⟩) (ht : -(2^63)≤t∧t<2^63):PtOk B S ⟨t,⟨[⟨1,n,[]⟩],fr,to⟩,some ⟨gf,0,none⟩,1⟩ :=
 ⟨((FlV.blk (b:=gf) (m:=1) (c:=1) (t:=58) (x:=[(⟨1,n,[]⟩:Vx)]) (g:=vxC) (l:=[]) rfl).mono hs),h,ht⟩
theorem it_one {L:List ItM} {x:It} (h:L.map (·.it)=[x]) : ∃ g c,L=[⟨x,g,c⟩]:=by
 obtain ⟨⟨y,g,c⟩,rfl⟩ : ∃ y,L=[y]:=List.length_eq_one_iff.1 (by have:=congrArg List.length h;simpa using this)
 have:y=x:=by simpa using h
 subst this
 exact ⟨g,c,rfl⟩
theorem Sx.awake (B:Wn):Fn Tryz.prog B 8 #[] [] (fun v l=>v = .bool true∧l=[]):=by
 refine Fn.enter0 88 Tryz.func8 rfl rfl (nB rfl) (fun F=>?_)
 try simp only [cA,nA]
 refine TS (La rfl rfl (Ld (TS ?_)))
 refine Le rfl (Ec (Sx.opened B) Tryz.func9 rfl rfl rfl ?_)
 rintro _ _ ⟨b,s,rfl,rfl⟩
 try simp only [cA,nA]
 refine Lm rfl rfl (Lq rfl (Qx rfl rfl) (Lq rfl (Qx rfl rfl) (La rfl rfl (La rfl rfl (Ld (Ts (Ts ?_)))))))
 refine TR (Lm rfl rfl (Lq rfl (Y1 (by kernel_rfl) rfl rfl) (Lm rfl rfl (yT (t:=11) rfl rfl (Lm rfl rfl (Lq rfl (Y1 (by kernel_rfl) rfl rfl) (Lq rfl (Qp rfl rfl) ?_)))))))
 refine Lm rfl rfl (yT (t:=15) rfl rfl (Lm rfl rfl ?_))
 refine Le rfl (Ec (Sx.fact B 7 0 9) Tryz.func18 rfl rfl rfl ?_)
 rintro _ _ ⟨gf,rfl,rfl⟩
 try simp only [cA,nA]
 refine Lq rfl (z8 [(0,1),(1,3)] [.int .i64 0,.slice none 0 0,.int .i64 0,.int .i64 0] [_,_,_,_] [(0,_),(1,_)] (by kernel_rfl) (by unfold Zf;kernel_rfl) rfl rfl) ?_
 refine Le rfl (Ef.lits (e:=60) (sz:=4) [_] (ptC ⟨1,awF,some ⟨gf,0,none⟩,1⟩) (by kernel_rfl) (by kernel_rfl) rfl (by simp [Value.cells]) rfl rfl (by omega) (by omega) (by omega) ?_)
 intro gp
 refine Le rfl (Ec (Sx.writeOk B [blk gp (ptC ⟨1,awF,some ⟨gf,0,none⟩,1⟩) 60,blk gf (vxC ⟨1,7,[]⟩) 58] s b 12 8 3 16 (newR 8 3072) (SI.new 8 3072) (by omega) (by omega) (by simp [newR]) (by simp [newR]) 3 none 0 0 [] rfl (by omega) (FlV.empty _ _) (some ⟨gp,0,none⟩) 1 1 [⟨1,awF,some ⟨gf,0,none⟩,1⟩] rfl (by omega) (FlV.blk (x:=[(⟨1,awF,some ⟨gf,0,none⟩,1⟩:PtM)]) (g:=ptC) rfl) (by intro p hp;rw [List.mem_singleton.1 hp];exact PtOk.blk (fun w ho=>ho.map Sa) aw_rd (by omega)) 60 (by omega) (by omega) [awD] (congrArg (fun d=>[d]) aw_d1) aw_c1) Tryz.func13 rfl rfl rfl ?_)
 rintro _ _ ⟨rfl,rfl⟩
 try simp only [cA,nA]
 refine Lq rfl (yW rfl rfl) (Lq rfl (Qp rfl rfl) (Ld (yQ rfl (Tk (TS (Lm rfl rfl ?_))))))
 refine Le rfl (Ec (Sx.see B s b 12 8 3 60 sw1 aw_s1 (by omega) (by omega) 1 3) Tryz.func14 rfl rfl rfl ?_)
 rintro _ _ ⟨L,pv,cv,hL,rfl,rfl⟩
 try simp only [cA,nA]
 rw [aw_see1,if_pos (by omega)] at hL
 obtain ⟨gi,ci,rfl⟩:=it_one hL
 refine LW.own fun w ho=>?_
 obtain ⟨gv,rfl⟩ : ∃ g,pv=some ⟨g,0,none⟩:=((ho.map Sa:Own B w [itR pv 1 cv [⟨⟨0,0,1,awF,3,0⟩,gi,ci⟩]]).slice_at (p:=pv) (m:=1) (c:=cv)).2.1 (by omega)
 clear ho
 rw [show ([⟨⟨0,0,1,awF,3,0⟩,gi,ci⟩]:List ItM).length=1 from rfl]
 refine La rfl rfl (Ld (Ts (TS (Lm rfl rfl (Lq rfl (yI (e:=52) (sz:=7) (by kernel_rfl) rfl) (Lq rfl (yW rfl rfl) ?_))))))
 refine Lm rfl rfl (yT (t:=28) rfl rfl (Lm rfl rfl (Lq rfl (Qi 0 (e:=52) (sz:=7) (by kernel_rfl) rfl rfl rfl (by omega)) (Lq rfl (Qf (off:=5) (by kernel_rfl) rfl) (Lq rfl (Ql (by kernel_rfl) rfl rfl) (Lq rfl (yW rfl rfl) (Lq rfl (Qp rfl rfl) ?_)))))))
 refine Lm rfl rfl (yT (t:=35) rfl rfl (Lm rfl rfl (Lq rfl (Qi 0 (e:=52) (sz:=7) (by kernel_rfl) rfl rfl rfl (by omega)) (Lq rfl (Qf (off:=6) (by kernel_rfl) rfl) (Lq rfl (Ql (by kernel_rfl) rfl rfl) (Lq rfl (yW rfl rfl) (Lq rfl (Qp rfl rfl) ?_)))))))
 refine Lm rfl rfl (yT (t:=42) rfl rfl (Lm rfl rfl ?_))
 refine Le rfl (Ec (Sx.see B s b 12 8 3 68 sw1 aw_s1 (by omega) (by omega) 1 2) Tryz.func14 rfl rfl rfl ?_)
 rintro _ _ ⟨L2,pv2,cv2,hL2,rfl,rfl⟩
 try simp only [cA,nA]
 rw [aw_see1,if_neg (by omega)] at hL2
 obtain rfl:=List.map_eq_nil_iff.1 hL2
 refine Lq rfl (yI (e:=52) (sz:=7) (by kernel_rfl) rfl) (Lq rfl (yW rfl rfl) (Lq rfl (Qp rfl rfl) (Lm rfl rfl (yT (t:=48) rfl rfl (Lm rfl rfl (Lm rfl rfl (Lq rfl (Qi 0 (e:=52) (sz:=7) (by kernel_rfl) rfl rfl rfl (by omega)) ?_)))))))
 refine Lq rfl (Q0 (by kernel_rfl) rfl) (Lq rfl (QL [_,_] (by kernel_rfl) rfl ⟨rfl,rfl,trivial⟩) ?_)
 refine Le rfl (Ef.lits (e:=45) (sz:=2) [_] (ridC (0,0)) (by kernel_rfl) (by kernel_rfl) rfl (by simp [Value.cells]) rfl rfl (by omega) (by omega) (by omega) ?_)
 intro gr
 refine Le rfl (Ec (Sx.writeOk B [blk gr (ridC (0,0)) 45] s b 12 8 3 76 sw1 aw_s1 (by omega) (by omega) (by rw [aw_m1];decide) (by rw [aw_l1];decide) 5 (some ⟨gr,0,none⟩) 1 1 [(0,0)] rfl (by omega) (FlV.blk (x:=[((0,0):Int×Int)]) (g:=ridC) rfl) none 0 0 [] rfl (by omega) (FlV.empty _ _) (by simp) 100 (by omega) (by omega) [] rfl aw_c2) Tryz.func13 rfl rfl rfl ?_)
 rintro _ _ ⟨rfl,rfl⟩
 try simp only [cA,nA]
 refine Lq rfl (yW rfl rfl) (Lq rfl (Qp rfl rfl) (Ld (yQ rfl (Tk (TS (Lm rfl rfl ?_))))))
 refine Le rfl (Ec (Sx.crash B s b 12 8 3 100 sw2 aw_s2 (by omega) (.slice none 0 0) [] (-1) 0 (RoS.nil B)) Tryz.func10 rfl rfl rfl ?_)
 rintro _ _ ⟨D,rd,rfl,rfl⟩
 try simp only [cA,nA]
 refine Ld (TS (Lm rfl rfl ?_))
 refine Le rfl (Ec (Sx.again B b D 12 8 1 2 12 1 rfl rfl sw2 aw_s2 rd (by omega) (by omega) (by omega) (by omega) (by omega) (by rw [aw_l2];decide) (by rw [aw_e2];decide)) Tryz.func11 rfl rfl rfl ?_)
 rintro _ _ ⟨s2,rfl,rfl⟩
 try simp only [cA,nA]
 rw [aw_e2]
 refine Lm rfl rfl (Lq rfl (Qx rfl rfl) (Lq rfl (Qx rfl rfl) (La rfl rfl (La rfl rfl (Ld (TS ?_))))))
 refine Lm rfl rfl (Lq rfl (yU rfl rfl) (Lm rfl rfl (zQ (t:=67) rfl rfl (Lm rfl rfl (Lq rfl (YZ (by kernel_rfl) rfl rfl) (Lq rfl (Qp rfl rfl) (Lm rfl rfl ?_)))))))
 refine zQ (t:=71) rfl rfl (Lm rfl rfl ?_)
 refine Le rfl (Ec (Sx.see B s2 b 12 8 1 22 (reopen 8 (12*256) sw2.es) aw_s2.re (by omega) (by omega) 1 4) Tryz.func14 rfl rfl rfl ?_)
 rintro _ _ ⟨L3,pv3,cv3,hL3,rfl,rfl⟩
 try simp only [cA,nA]
 have hl3:L3.length=1:=by have:=congrArg List.length hL3;rw [List.length_map,aw_s2.re_see,aw_see2,if_pos (by omega)] at this;exact this
 rw [hl3]
 refine Lq rfl (yI (e:=52) (sz:=7) (by kernel_rfl) rfl) (Lq rfl (yU rfl rfl) (Lq rfl (Qp rfl rfl) (Lm rfl rfl (zQ (t:=77) rfl rfl (Lm rfl rfl ?_)))))
 refine Le rfl (Ec (Sx.see B s2 b 12 8 1 30 (reopen 8 (12*256) sw2.es) aw_s2.re (by omega) (by omega) 1 5) Tryz.func14 rfl rfl rfl ?_)
 rintro _ _ ⟨L4,pv4,cv4,hL4,rfl,rfl⟩
 try simp only [cA,nA]
 have hl4:L4.length=0:=by have:=congrArg List.length hL4;rw [List.length_map,aw_s2.re_see,aw_see2,if_neg (by omega)] at this;exact this
 rw [hl4]
 refine Lq rfl (yI (e:=52) (sz:=7) (by kernel_rfl) rfl) (Lq rfl (yU rfl rfl) (Lq rfl (Qp rfl rfl) (Lm rfl rfl (zQ (t:=83) rfl rfl (Lm rfl rfl ?_)))))
 refine Le rfl (Ec (Sx.last B s2 b 12 8 1 38 (reopen 8 (12*256) sw2.es)) Tryz.func12 rfl rfl rfl ?_)
 rintro _ _ ⟨rfl,rfl⟩
 try simp only [cA,nA]
 rw [aw_s2.re_lastS,show lastS sw2=5 by unfold lastS;rw [aw_m2];rfl]
 refine Lq rfl (yU rfl rfl) (Lq rfl (Qp rfl rfl) (La rfl rfl (Ld (T.ret ?_))))
 exact ⟨.inl rfl,_,_,res [_] rfl ⟨rvT rfl,trivial⟩,⟨rfl,rfl⟩,Sa⟩
end Go.Proofs.YtjmjjfefchnkaaaGreatDoor
namespace Go.Proofs.YtjmjjfefchnkaaaGreatDoor
open Go.ChangeShapes Go.WideShapes Go.ChangeAt Go.RowKit
section
variable {H : Type} {enc:TypeId×Value→H} {P:Program} {W:World}
theorem read_str {e:TypeId} (he:P.underlying e=some .string) (n:Nat) (cs:List Value) (y:DataW H×List MemPlace) (h:Tr enc P W n e cs=some y) : ∃ a:List UInt8,cs=[.string (Zq a)]∧a.length+1≤Rows.uptoBulk y.1:=by
 obtain ⟨s,h1,h2,_⟩:=DataW.trod_string he h
 refine ⟨s.data.toList,?_,?_⟩
 · rw [h1];rfl
 · rw [h2];simp [Rows.uptoBulk]
end
end Go.Proofs.YtjmjjfefchnkaaaGreatDoor
namespace Go.Proofs.YtjmjjfefchnkaaaGreatDoor
open Go.ChangeShapes Go.WideShapes Go.ChangeAt Go.RowKit
theorem Own.base_range {W w:World} {S:List Wp} {b o:Nat} {cs:List Value} (h:W.rangeAt b o cs) (H:Own (baseOf W) w S):w.rangeAt b o cs:=fun j v hv=>by
 obtain ⟨c,t,fr,hb,hc⟩:=range_cell (h j v hv)
 have:=H.ro.p b _ hb
 rw [cell_of_row w b (o+j) c t fr this]
 exact hc
theorem rangeAt_flat {α:Type} {g:α→List Value} {sz:Nat} {w:World} {b:Nat} (hg : ∀ a,(g a).length=sz) : ∀ (l:List α) (o:Nat),(∀ (i:Nat) x,l[i]? = some x→w.rangeAt b (o+i*sz) (g x))→w.rangeAt b o (l.flatMap g)
  | [],_,_,j,v,h=>by simp at h
  | a::l,o,h,j,v,hv=>by
    rw [List.flatMap_cons] at hv
    by_cases hj:j<sz
    · rw [List.getElem?_append_left (by rw [hg];exact hj)] at hv
      have:=h 0 a rfl j v hv
      rwa [Nat.zero_mul,Nat.add_zero] at this
    · rw [List.getElem?_append_right (by rw [hg];omega),hg] at hv
      have:=rangeAt_flat hg l (o+sz) (fun i x hx=>by
        have:=h (i+1) x (by simpa using hx)
        rwa [Nat.add_mul,Nat.one_mul,Nat.add_comm (i*sz) sz,←Nat.add_assoc] at this) (j-sz) v hv
      rwa [Nat.add_assoc,Nat.add_sub_cancel' (by omega)] at this
theorem SliceAt.flV {W:World} {sz:Nat} {α:Type} {R:List Value→α→Prop} {v:Value} {l:List α} {g:α→List Value} (h:SliceAt W sz R v l) (hR : ∀ cs a,R cs a→cs=g a) (hg : ∀ a,(g a).length=sz):FlV (baseOf W) [] g v l:=by
  rcases h with ⟨rfl,rfl⟩ | ⟨a,cap,rfl,hl,hm,hi⟩
  · exact ⟨none,0,rfl,.inl rfl⟩
  · refine ⟨some a,cap,rfl,?_⟩
    by_cases h0:l=[]
    · exact .inl h0
    · obtain ⟨_,b,o,rfl,_,_,_,_⟩:=hi 0 (List.length_pos_iff.2 h0)
      refine .inr ⟨b,o,rfl,fun w ho=>rangeAt_flat hg l o fun i x hx=>?_⟩
      obtain ⟨hil,rfl⟩:=List.getElem?_eq_some_iff.1 hx
      obtain ⟨cells,b',o',e,_,_,hr,hRc⟩:=hi i hil
      injection e with e1 e2
      subst e1;subst e2
      rw [←hR _ _ hRc]
      exact ho.base_range hr
theorem SliceAt.all {W:World} {sz:Nat} {α:Type} {R:List Value→α→Prop} {v:Value} {l:List α} (h:SliceAt W sz R v l) : ∀ x∈l,∃ cs,R cs x:=by
  intro x hx
  obtain ⟨i,hi,rfl⟩:=List.getElem_of_mem hx
  rcases h with ⟨_,h⟩ | ⟨a,cap,_,_,_,h⟩
  · rw [h] at hi;simp at hi
  · obtain ⟨cells,b,o,_,_,_,_,hR⟩:=h i hi
    exact ⟨cells,hR⟩
theorem len2 {α:Type} {l:List α} (h:l.length=2) : ∃ a b,l=[a,b]:=by
 match l,h with
 | [a,b],_=>exact ⟨a,b,rfl⟩
theorem len3 {α:Type} {l:List α} (h:l.length=3) : ∃ a b c,l=[a,b,c]:=by
 match l,h with
 | [a,b,c],_=>exact ⟨a,b,c,rfl⟩
abbrev in64 (n:Int):Prop := -(2^63)≤n∧n<2^63
section
variable {H : Type} {enc:TypeId×Value→H} {W:World}
def VxR (cs:List Value) (v:Vx):Prop:=cs=vxC v∧in64 v.n
theorem read_vx (n:Nat) (cs:List Value) (y:DataW H×List MemPlace) (h:Tr enc Tryz.prog W n 58 cs=some y) : ∃ v:Vx,VxR cs v∧v.s.length+1≤Rows.uptoBulk y.1:=by
 obtain ⟨xs,m,rfl,rfl,hl,hx,hf⟩:=DataW.trod_struct Tryz.underlying58 h
 rw [show Tryz.prog.cellsOf 58=3 by kernel_rfl] at hl
 obtain ⟨c0,c1,c2,rfl⟩:=len3 hl
 obtain ⟨x0,x1,x2,rfl⟩:=len3 hx
 have f0:=field_of hf 0 3 0 1 rfl (by kernel_rfl)
 have f1:=field_of hf 1 2 1 1 rfl (by kernel_rfl)
 have f2:=field_of hf 2 9 2 1 rfl (by kernel_rfl)
 simp only [List.drop_zero,List.drop_succ_cons,List.take_succ_cons,List.take_zero,List.getElem?_cons_zero,List.getElem?_cons_succ] at f0 f1 f2
 obtain ⟨i0,⟨e0,b1,b2⟩,_⟩:=read_i64 Tryz.underlying3 _ _ _ f0
 obtain ⟨i1,⟨e1,b3,b4⟩,_⟩:=read_i64 Tryz.underlying2 _ _ _ f1
 obtain ⟨s2,e2,hb⟩:=read_str Tryz.underlying9 _ _ _ f2
 simp only [List.cons.injEq,and_true] at e0 e1 e2
 subst e0;subst e1;subst e2
 refine ⟨⟨i0,i1,s2⟩,⟨rfl,by dsimp only;omega⟩,?_⟩
 simp only [List.map_cons,List.map_nil,Rows.uptoBulk,Rows.uptoBulkAll]
 omega
def szF (f:Fx1):Nat:=(f.row.map fun v=>v.s.length+1).sum
theorem sum_len1 : ∀ l:List Vx,l.length≤(l.map fun v=>v.s.length+1).sum
 | []=>Nat.zero_le _
 | a::l=>by have:=sum_len1 l;simp only [List.length_cons,List.map_cons,List.sum_cons];omega
theorem sum_mem1 : ∀ {l:List Vx} {v:Vx},v∈l→v.s.length≤(l.map fun v=>v.s.length+1).sum
 | a::l,v,h=>by
  simp only [List.map_cons,List.sum_cons]
  rcases List.mem_cons.1 h with rfl | h
  · omega
  · have:=sum_mem1 h;omega
def FxR (W:World) (cs:List Value) (f:Fx1):Prop := ∃ a c,cs=[.slice a f.row.length c,.int .i64 f.fr,.int .i64 f.to]∧FlV (baseOf W) [] vxC (.slice a f.row.length c) f.row∧(∀ v∈f.row,in64 v.n)∧in64 f.fr∧in64 f.to
theorem FxR.rd {cs:List Value} {f:Fx1} (h:FxR W cs f) (hs:szF f≤1048576):FxRd f:=by
 obtain ⟨_,_,_,_,h1,h2,h3⟩:=h
 exact ⟨fun v hv=>by have:=sum_mem1 hv;unfold szF at hs;omega,h1,⟨h2,h3⟩,by have:=sum_len1 f.row;unfold szF at hs;omega⟩
theorem read_fact (n:Nat) (cs:List Value) (y:DataW H×List MemPlace) (h:Tr enc Tryz.prog W n 50 cs=some y) : ∃ f:Fx1,FxR W cs f∧szF f+1≤Rows.uptoBulk y.1:=by
 obtain ⟨xs,m,rfl,rfl,hl,hx,hf⟩:=DataW.trod_struct Tryz.underlying50 h
 rw [show Tryz.prog.cellsOf 50=3 by kernel_rfl] at hl
 obtain ⟨c0,c1,c2,rfl⟩:=len3 hl
 obtain ⟨x0,x1,rfl⟩:=len2 hx
 have f0:=field_of hf 0 46 0 1 rfl (by kernel_rfl)
 have f1:=field_of hf 1 48 1 2 rfl (by kernel_rfl)
 simp only [List.drop_zero,List.drop_succ_cons,List.take_succ_cons,List.take_zero,List.getElem?_cons_zero,List.getElem?_cons_succ] at f0 f1
 obtain ⟨v0,l0,e0,hs,hB,hL⟩:=open_slice_R (R:=VxR) (B:=fun v=>v.s.length+1) Tryz.underlying46 (show Tryz.prog.cellsOf 58=3 by kernel_rfl) (by omega) (fun n cs y=>read_vx n cs y) f0
 obtain ⟨ys,m',q,rfl,hl2,hy,hg⟩:=DataW.trod_struct Tryz.underlying48 f1
 obtain ⟨y0,y1,rfl⟩:=len2 hy
 have g0:=field_of hg 0 2 0 1 rfl (by kernel_rfl)
 have g1:=field_of hg 1 2 1 1 rfl (by kernel_rfl)
 simp only [List.drop_zero,List.drop_succ_cons,List.take_succ_cons,List.take_zero,List.getElem?_cons_zero,List.getElem?_cons_succ] at g0 g1
 obtain ⟨i1,⟨e1,b1,b2⟩,_⟩:=read_i64 Tryz.underlying2 _ _ _ g0
 obtain ⟨i2,⟨e2,b3,b4⟩,_⟩:=read_i64 Tryz.underlying2 _ _ _ g1
 simp only [List.cons.injEq,and_true] at e0 e1 e2
 subst e0;subst e1;subst e2
 have hfl:=hs.flV (g:=vxC) (fun cs a h=>h.1) (fun _=>rfl)
 obtain ⟨a,c,rfl⟩:=hfl.form rfl
 refine ⟨⟨l0,i1,i2⟩,⟨a,c,rfl,hfl,fun v hv=>by obtain ⟨_,h⟩:=hs.all v hv;exact h.2,by dsimp only;omega,by dsimp only;omega⟩,?_⟩
 unfold szF
 simp only [List.map_cons,List.map_nil,Rows.uptoBulk,Rows.uptoBulkAll]
 omega
end
end Go.Proofs.YtjmjjfefchnkaaaGreatDoor
