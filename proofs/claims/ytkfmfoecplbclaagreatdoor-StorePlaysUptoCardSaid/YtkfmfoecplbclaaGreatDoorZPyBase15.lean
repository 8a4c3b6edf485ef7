/- The texts SpE HgB HgA HgC HgE HgRo HgF HgG HgH SxB SxC SxH SxRd SxD HgI SxI SxJ MpB SxK, one behind the other: what the law leans on. Conditions: as each theorem says. -/
import Derived.Test.YtkfmfoecplbclaaGreatDoorZPyBase14
import Derived.Laws.StructEq
set_option linter.unusedSimpArgs false
set_option linter.unusedVariables false
set_option maxRecDepth 100000
set_option maxHeartbeats 16000000
namespace Go.Proofs.YtkfmfoecplbclaaGreatDoor
open Go.RowKit
section
variable {P : Program} {B:Wn} {n:Nat} {S:List Wp} {f:Fr} {d:Option Tmp} {ty:TypeId} {pos:String} {af:Array Edge} {gd:Option (Nat×Bool)}
def EqSt (P:Program) (t:TypeId) (xs ys:Array Value) (r:Bool):Prop:=(P.eqGuardType P.depth t=false) /\ ∀ w,(Op.equalIn 10000 t (.agg xs) (.agg ys)).run P w = .ok r w
theorem Qt.eqlSt {t t2:TypeId} {x y:Operand} {xs ys:Array Value} {r:Bool} (h:EqSt P t xs ys r) (hx:ev n f x=some (.agg xs)) (hy:ev n f y=some (.agg ys)):Qt P B n S ⟨d,.binOp .eql t x y t2,ty,pos,af,gd⟩ f (.bool r):=⟨λ w _=>by
 simp [execOp,Zc hx,Zc hy,run_eqGuard_agg w _ t x y xs ys h.1,run_eql_struct,h.2 w]⟩
theorem YV {t t2:TypeId} {x y:Operand} {xs ys:Array Value} {r:Bool} (h:EqSt P t xs ys r) (hx:ev n f x=some (.agg xs)) (hy:ev n f y=some (.agg ys)):Qt P B n S ⟨d,.binOp .neq t x y t2,ty,pos,af,gd⟩ f (.bool (!r)):=⟨λ w _=>by
 simp [execOp,Zc hx,Zc hy,run_eqGuard_agg w _ t x y xs ys h.1,run_neq_struct,h.2 w]⟩
theorem part_int {t:TypeId} {k:IntKind} (hu:P.underlying t=some (.int k)) {cs:Array Value} {off:Nat} {v:Value} (h:cs[off]? = some v) (w:World):(part t cs off).run P w = .ok v w:=by
 simp [part,isAgg,run_underlying hu,h]
theorem part_str {t:TypeId} (hu:P.underlying t=some .string) {cs:Array Value} {off:Nat} {v:Value} (h:cs[off]? = some v) (w:World):(part t cs off).run P w = .ok v w:=by
 simp [part,isAgg,run_underlying hu,h]
theorem eqF_int {d:Nat} {g:Field} {fs:List Field} {k:IntKind} {xs ys:Array Value} {a b:Int} (w:World) (hn:(decide (g.name ≠ "_"))=true) (hu:P.underlying g.type=some (.int k)) (hx:xs[g.offset]? = some (.int k a)) (hy:ys[g.offset]? = some (.int k b)) :
  (Op.eqFields (d+1) xs ys (g::fs)).run P w=if a=b then (Op.eqFields (d+1) xs ys fs).run P w else .ok false w:=by
 rw [Op.eqFields,if_pos (of_decide_eq_true hn)]
 simp only [Sem.run_bind,part_int hu hx,part_int hu hy,Result.andThen_ok,run_equalIn_int w d _ k k a b hu,Sem.run_ite]
 by_cases e:a=b
 . subst e;simp
 . simp [e]
theorem eqF_str {d:Nat} {g:Field} {fs:List Field} {xs ys:Array Value} {a b:List UInt8} (w:World) (hn:(decide (g.name ≠ "_"))=true) (hu:P.underlying g.type=some .string) (hx:xs[g.offset]? = some (.string (Zq a))) (hy:ys[g.offset]? = some (.string (Zq b))) :
  (Op.eqFields (d+1) xs ys (g::fs)).run P w=if a=b then (Op.eqFields (d+1) xs ys fs).run P w else .ok false w:=by
 rw [Op.eqFields,if_pos (of_decide_eq_true hn)]
 have e : ∀ l:List UInt8,(Zq l).toList=l:=λ l=>ByteArray.toList_mk l
 simp only [Sem.run_bind,part_str hu hx,part_str hu hy,Result.andThen_ok,run_equalIn_string w d _ _ _ hu,Sem.run_ite,e]
 by_cases e2:a=b
 . subst e2;simp
 . simp [e2]
theorem eqF_nil {d:Nat} {xs ys:Array Value} (w:World):(Op.eqFields d xs ys []).run P w = .ok true w:=by simp [Op.eqFields]
theorem fieldsOf_eq {t:TypeId} {fs:Array Field} (h:P.underlying t=some (.struct fs)):P.fieldsOf t=fs:=by unfold Program.fieldsOf;rw [h]
end
theorem EqSt.mk' {P:Program} {t:TypeId} {fs:List Field} {xs ys:Array Value} {r:Bool} (hg:(P.eqGuardType P.depth t=false)) (hu:P.underlying t=some (.struct fs.toArray)) (hp:P.stoodInHeld t=false) (h : ∀ d w,(Op.eqFields (d+1) xs ys fs).run P w = .ok r w):EqSt P t xs ys r:=by
 refine ⟨hg,λ w=>?_⟩
 have hf:=fieldsOf_eq hu
 obtain ⟨d,hd⟩ : ∃ d:Nat,10000=d+1+1:=⟨9998,rfl⟩
 rw [hd,run_equalIn_struct w (d+1) t xs ys (by rw [hf];exact hu) hp,hf]
 exact h d w
theorem eqRid (a b c d:Int):EqSt Tryz.prog 67 #[.int .i64 a,.int .i64 b] #[.int .i64 c,.int .i64 d] (decide (a=c/\b=d)):=by
  refine EqSt.mk' (by kernel_rfl) Tryz.underlying67 (by kernel_rfl) λ d0 w=>?_
  refine Eq.trans (eqF_int w (a:=a) (b:=c) rfl Tryz.underlying3 rfl rfl) ?_
  by_cases h:a=c
  . rw [if_pos h]
    refine Eq.trans (eqF_int w (a:=b) (b:=d) rfl Tryz.underlying3 rfl rfl) ?_
    by_cases h2:b=d
    . rw [if_pos h2,eqF_nil];simp [h,h2]
    . rw [if_neg h2];simp [h2]
  . rw [if_neg h];simp [h]
open Go.RowKit
theorem Own.vm_owns {B:Wn} {w:World} {l:List Wp} {L:List VerM} (ho:Own B w (vmsA L::l)) {j:Nat} {x:VerM} (hx:L[j]? = some x):w.ownsRow 0 5 1 (.slice x.p (16+x.v.data.length) x.c) (16+x.v.data.length) (Zb x.raw):=by
 obtain ⟨h,_,hl,h1,_,_,a1,_,hA,_⟩:=ho.has
 obtain ⟨k,hk,e⟩:=Has.getL (l:=L.map vmA) (j:=j) (A:=vmA x) (by simp [hx]) hA
 have le : ∀ g o,k g=some o->w.heap[g]? = some o:=λ g o e=>hl.p _ _ (a1.p _ _ (hk.p _ _ e))
 exact ⟨e.1,e.2.imp id λ ⟨g,cap,cur,e1,e2,e3⟩=>⟨g,cap,cur,e1,Nat.zero_le _,le _ _ e2,e3⟩⟩
def VmsOk (L:List VerM):Prop := ∀ (j:Nat) (x:VerM),L[j]? = some x->x.Ok/\(∃ g,x.p=some ⟨g,0,none⟩)/\16+x.v.data.length<=x.c
theorem Own.vmsOk {B:Wn} {w:World} {l:List Wp} {L:List VerM} (ho:Own B w (vmsA L::l)) (hL : ∀ x∈L,x.Ok):VmsOk L:=λ j x hx=>by
 have h:=ho.vm_owns hx
 refine ⟨hL x (List.mem_of_getElem? hx),?_,owns_cap h⟩
 rcases h.2 with ⟨_,h2⟩ | ⟨g,cap,cur,h2,_⟩
 . omega
 . injection h2 with h2;exact ⟨g,h2⟩
theorem RdV.ver {B:Wn} {L:List VerM} (h:VmsOk L) {j:Nat} {x:VerM} (hx:L[j]? = some x):RdV B [vmsA L] (.slice (offA x.p x.c 16 1) x.v.data.length (x.c-16)) (Zb x.v.data):=by
 obtain ⟨h1,h2,h3⟩:=h j x hx
 have h0:RdV B [vmsA L] (.slice x.p (16+x.v.data.length) x.c) (Zb x.raw):=RdV.ofRow (e:=5) (λ w ho=>ho.vm_owns hx) (by simp [h1.1]) (λ _=>h2)
 have:=h0.dropB 16 (by omega) h1.1 h3
 rw [h1.2,show 16+x.v.data.length-16=x.v.data.length by omega] at this
 exact this
open Go.RowKit
theorem histNil (p r:Nat):HistOk p r []:=λ k e h=>by simp at h
theorem RdV.one {B:Wn} {g:Nat} {t:TypeId} {z:Nat×Nat} (x:UInt8):RdV B [fblk g [.int .u8 x.toNat] t z] (.slice (some ⟨g,0,none⟩) 1 1) (Zb [x]) :=
 ⟨_,1,rfl,.inr ⟨g,0,rfl,λ w ho=>ho.range (g:=g) (C:=[.int .u8 x.toNat]) (λ j u hj=>by rw [Nat.zero_add];exact hj)⟩⟩
open Go.RowKit
section
variable (d : List UInt8)
abbrev fE1 : En:=⟨1,1,0,0,0,d⟩
abbrev fE2 : En:=⟨3,1,0,0,1,[]⟩
abbrev fE3 (t:Int):En:=⟨2,t,0,0,0,[]⟩
abbrev fU : Int:=0+((20+d.length:Nat):Int)
abbrev fS1 : HR:=⟨7,2304,0,[],[1],[],1,[]⟩
abbrev fS2 : HR:=⟨7,2304,fU d,[⟨0,0,1,0,d⟩],[1],[],1,[fE1 d]⟩
abbrev fS4 : HR:=⟨7,2304,fU d,[⟨0,0,1,0,d⟩],[1,2,3],[],3,[fE1 d]⟩
abbrev fS5 : HR:=⟨7,2304,fU d+25,[⟨0,0,1,0,d⟩],[2,3],[(1,1)],3,[fE1 d,fE2]⟩
abbrev fS6 : HR:=⟨7,2304,fU d+25+20,[⟨0,0,1,2,d⟩],[2,3],[(1,1)],3,[fE1 d,fE2,fE3 2]⟩
theorem sz3 (t s:Int):enSz ⟨3,t,0,0,s,[]⟩=25:=by rw [enSz_eq];rfl
theorem sz2 (t p s:Int):enSz ⟨2,t,p,s,0,[]⟩=20:=by rw [enSz_eq];rfl
theorem hAdd_ok {h:HR} {t:Int} {q:Nat} (ha:Zp h t=true) (hl:d.length<=184) (hr:roomyP h d.length=some q) (hu:h.used+20+d.length<=h.room):Wm h t d=(Zg h (addE h t d q),(q:Int),((Zh h.vs q).length:Int),0):=by
 unfold Wm
 rw [if_pos ha,if_neg (by omega),hr]
 dsimp only
 rw [if_neg (by omega)]
theorem hAdd_long {h:HR} {t:Int} (ha:Zp h t=true) (hl:184<d.length):Wm h t d=(h,0,0,2):=by
 unfold Wm
 rw [if_pos ha,if_pos hl]
theorem hCm_ok {h:HR} {t s:Int} (ha:Zp h t=true) (hb:badStamp h s=false) (hu:h.used+25<=h.room):Zl h t s=(Zg (Zo h t) (cmE t s),0):=by
 unfold Zl
 rw [if_pos ha,if_neg (by rw [hb];simp),if_neg (by omega)]
theorem hEnd_ok {h:HR} {t p s:Int} {v:Ver} (ha:Zp h t=true) (hv:(We h.vs p s).bind (h.vs[·]?)=some v) (h1 : ¬ ((v.beg≠t/\Wa h v.beg=false)\/v.fin=t\/Wa h v.fin=true)) (h2:Zp h v.fin=false) (hu:h.used+20<=h.room):endR h t p s=(Zg h (endE t p s),0):=by
 unfold endR
 rw [if_pos ha,hv]
 dsimp only
 rw [if_neg h1,if_neg (by rw [h2];simp),if_neg (by omega)]
theorem hEnd_busy {h:HR} {t p s:Int} {v:Ver} (ha:Zp h t=true) (hv:(We h.vs p s).bind (h.vs[·]?)=some v) (h1 : ¬ ((v.beg≠t/\Wa h v.beg=false)\/v.fin=t\/Wa h v.fin=true)) (h2:Zp h v.fin=true):endR h t p s=(h,71):=by
 unfold endR
 rw [if_pos ha,hv]
 dsimp only
 rw [if_neg h1,if_pos h2]
theorem hEnd_no {h:HR} {t p s:Int} {v:Ver} (ha:Zp h t=true) (hv:(We h.vs p s).bind (h.vs[·]?)=some v) (h1:((v.beg≠t/\Wa h v.beg=false)\/v.fin=t\/Wa h v.fin=true)):endR h t p s=(h,4):=by
 unfold endR
 rw [if_pos ha,hv]
 dsimp only
 rw [if_pos h1]
theorem f1 : beginR (newR 7 (9*256))=fS1:=rfl
theorem f2 (h:d.length<=184):Wm fS1 1 d=(fS2 d,0,0,0):=by
 have h1:roomyP fS1 d.length=some 0:=by
  unfold roomyP
  rw [show List.range fS1.pages=[0,1,2,3,4,5,6] from rfl]
  rw [List.find?_cons_of_pos (by have:Wi [] 0=13:=rfl;simp only [decide_eq_true_eq];omega)]
 rw [hAdd_ok d rfl h h1 (by show (0:Int)+20+d.length<=(2304:Nat);omega)]
 simp only [Zg,enSz_eq,addE]
 rfl
theorem f3 : beginR (beginR (fS2 d))=fS4 d:=rfl
theorem f4 : endR (fS4 d) 2 0 0=(fS4 d,4):=hEnd_no rfl (v:=⟨0,0,1,0,d⟩) rfl (.inl ⟨(by show (1:Int)≠2;decide),rfl⟩)
theorem f5 (h:d.length<=184):Zl (fS4 d) 1 1=(fS5 d,0):=by
 rw [hCm_ok rfl rfl (by show fU d+25<=(2304:Nat);unfold fU;omega)]
 simp only [Zg,sz3]
 rfl
theorem f6 (h:d.length<=184):endR (fS5 d) 2 0 0=(fS6 d,0):=by
 rw [hEnd_ok rfl (v:=⟨0,0,1,0,d⟩) rfl (λ h=>by simp [Wa] at h) rfl (by show fU d+25+20<=(2304:Nat);unfold fU;omega)]
 simp only [Zg,sz2]
 rfl
end
open Go.RowKit
theorem add_cases (h:HR) (t:Int) (d:List UInt8):((Wm h t d).2.2.2≠0/\(Wm h t d).1=h) \/ ∃ q,Zp h t=true/\d.length<=184/\roomyP h d.length=some q/\h.used+20+d.length<=h.room/\Wm h t d=(Zg h (addE h t d q),(q:Int),((Zh h.vs q).length:Int),0):=by
  by_cases ha:Zp h t=true
  . by_cases hl:184<d.length
    . exact .inl (by rw [hAdd_long d ha hl];simp)
    . cases hr:roomyP h d.length with
      | none=>exact .inl (by unfold Wm;rw [if_pos ha,if_neg hl,hr];simp)
      | some q =>
        by_cases hu:(h.room:Int)<h.used+20+d.length
        . exact .inl (by unfold Wm;rw [if_pos ha,if_neg hl,hr];dsimp only;rw [if_pos hu];simp)
        . exact .inr ⟨q,ha,by omega,rfl,by omega,hAdd_ok d ha (by omega) hr (by omega)⟩
  . exact .inl (by unfold Wm;rw [if_neg ha];simp)
theorem end_cases (h:HR) (t p s:Int):((endR h t p s).2≠0/\(endR h t p s).1=h) \/ ∃ (i:Nat) (v:Ver),Zp h t=true/\We h.vs p s=some i/\h.vs[i]? = some v/\Wa h v.fin=false/\h.used+20<=h.room/\endR h t p s=(Zg h (endE t p s),0):=by
  by_cases ha:Zp h t=true
  . cases hv:(We h.vs p s).bind (h.vs[·]?) with
    | none=>exact .inl (by unfold endR;rw [if_pos ha,hv];simp)
    | some v =>
      by_cases h1:((v.beg≠t/\Wa h v.beg=false)\/v.fin=t\/Wa h v.fin=true)
      . exact .inl (by rw [hEnd_no ha hv h1];simp)
      . by_cases h2:Zp h v.fin=true
        . exact .inl (by rw [hEnd_busy ha hv h1 h2];simp)
        . by_cases hu:(h.room:Int)<h.used+20
          . exact .inl (by unfold endR;rw [if_pos ha,hv];dsimp only;rw [if_neg h1,if_neg h2,if_pos hu];simp)
          . obtain ⟨i,hi,hiv⟩:=Option.bind_eq_some_iff.1 hv
            refine .inr ⟨i,v,ha,hi,hiv,?_,by omega,hEnd_ok ha hv h1 (by simpa using h2) (by omega)⟩
            have : ¬ Wa h v.fin=true:=λ h=>h1 (.inr (.inr h))
            simpa using this
  . exact .inl (by unfold endR;rw [if_neg ha];simp)
theorem write_add_vs {h:HR} {t:Int} {d:List UInt8} {q:Nat}:(Zg h (addE h t d q)).vs=h.vs++[⟨q,(Zh h.vs q).length,t,0,d⟩]:=by simp [Zg,addE]
theorem write_end_vs {h:HR} {t p s:Int} {i:Nat} (hi:We h.vs p s=some i):(Zg h (endE t p s)).vs=h.vs.modify i (finV t):=by simp [Zg,endE,hi]
theorem write_add_used {h:HR} {t:Int} {d:List UInt8} {q:Nat}:(Zg h (addE h t d q)).used=h.used+(20+d.length):=by simp [Zg,enSz_eq]
theorem write_end_used {h:HR} {t p s:Int}:(Zg h (endE t p s)).used=h.used+20:=by simp [Zg,enSz_eq]
def AtL (h:HR) (ok:Int->Prop) (L:List (Int×Int)):Prop:=L.Nodup /\ ∀ p∈L,∃ (i:Nat) (v:Ver),We h.vs p.1 p.2=some i/\h.vs[i]? = some v/\v.beg=1/\ok v.fin
theorem find_app {vs l:List Ver} {p s:Int} {i:Nat} (h:We vs p s=some i):We (vs++l) p s=some i:=by
 unfold We at h ⊢
 rw [List.findIdx?_append,h];rfl
theorem AtL.app {h g:HR} {ok:Int->Prop} {L:List (Int×Int)} (a:AtL h ok L) {l:List Ver} (e:g.vs=h.vs++l):AtL g ok L:=by
 refine ⟨a.1,λ p hp=>?_⟩
 obtain ⟨i,v,h1,h2,h3⟩:=a.2 p hp
 exact ⟨i,v,by rw [e];exact find_app h1,by rw [e,List.getElem?_append_left (List.getElem?_eq_some_iff.1 h2).1];exact h2,h3⟩
theorem AtL.same {h g:HR} {ok:Int->Prop} {L:List (Int×Int)} (a:AtL h ok L) (e:g.vs=h.vs):AtL g ok L:=a.app (l:=[]) (by rw [e,List.append_nil])
theorem AtL.snoc {h:HR} {ok:Int->Prop} {L:List (Int×Int)} (r:RInv h) (a:AtL h ok L) (h0:ok 0) {t:Int} {d:List UInt8} {q:Nat} (r2:RInv (Zg h (addE h t d q))) (ht:t=1):AtL (Zg h (addE h t d q)) ok (L++[((q:Int),((Zh h.vs q).length:Int))]):=by
  subst ht
  have hvs:=write_add_vs (h:=h) (t:=1) (d:=d) (q:=q)
  have ha:=a.app hvs
  have hat:(Zg h (addE h 1 d q)).vs[h.vs.length]? = some ⟨q,(Zh h.vs q).length,1,0,d⟩:=by rw [hvs];simp
  have hf:=findV_of r2.ok.slots hat
  dsimp only at hf
  refine ⟨?_,λ p hp=>?_⟩
  . rw [List.nodup_append]
    refine ⟨a.1,by simp,λ p hp z hz e=>?_⟩
    simp at hz
    subst hz;subst e
    obtain ⟨i,v,h1,h2,_⟩:=a.2 _ hp
    have:=find_app (l:=[⟨q,(Zh h.vs q).length,1,0,d⟩]) h1
    rw [<-hvs] at this
    dsimp only at this
    rw [this] at hf
    injection hf with hf
    have:=(List.getElem?_eq_some_iff.1 h2).1
    omega
  . rcases List.mem_append.1 hp with hp | hp
    . exact ha.2 p hp
    . simp at hp
      subst hp
      exact ⟨_,_,hf,hat,rfl,h0⟩
theorem find_mod {vs:List Ver} {i:Nat} {t p s:Int}:We (vs.modify i (finV t)) p s=We vs p s:=by
 unfold We
 induction vs generalizing i with
 | nil=>simp
 | cons v vs ih =>
  cases i with
  | zero=>simp only [List.modify_zero_cons,List.findIdx?_cons];rfl
  | succ i=>simp only [List.modify_succ_cons,List.findIdx?_cons,ih]
theorem AtL.ended {h:HR} {ok:Int->Prop} {x:Int×Int} {L:List (Int×Int)} (a:AtL h ok (x::L)) {t:Int}:AtL (Zg h (endE t x.1 x.2)) ok L:=by
 obtain ⟨i,v,h1,h2,h3,h4⟩:=a.2 x (by simp)
 have hvs:=write_end_vs (t:=t) h1
 refine ⟨(List.nodup_cons.1 a.1).2,λ p hp=>?_⟩
 obtain ⟨j,u,k1,k2,k3⟩:=a.2 p (List.mem_cons_of_mem _ hp)
 refine ⟨j,u,by rw [hvs,find_mod];exact k1,?_,k3⟩
 rw [hvs,List.getElem?_modify]
 have hne:i≠j:=λ e=>by
  subst e
  obtain ⟨v1,e1,e2,e3⟩:=findV_some h1
  obtain ⟨v2,f1,f2,f3⟩:=findV_some k1
  rw [e1] at f1;cases f1
  have:p=x:=by obtain ⟨_,_⟩:=p;obtain ⟨_,_⟩:=x;simp_all
  exact (List.nodup_cons.1 a.1).1 (this ▸ hp)
 rw [k2]
 simp [hne]
theorem rooms_end {h:HR} {t p s:Int} {i:Nat} (hi:We h.vs p s=some i):roomsL (Zg h (endE t p s))=roomsL h:=by
 unfold roomsL
 rw [write_end_vs hi]
 apply List.map_congr_left
 intro q _
 show (256:Int)-_=256-_
 unfold Wi
 rw [usedV_modify]
open Go.RowKit
structure OpH where
 kind:Int
 txn:Int
 page:Int
 slot:Int
 data:List UInt8
 stamp:Int
 keep:List Bool
 t0:Int
 t1:Int
def OpH.Ok (o:OpH):Prop:=(-(2^63)<=o.page/\o.page<2^63)/\(-(2^63)<=o.slot/\o.slot<2^63)
open Go.RowKit
abbrev ridC (p:Int×Int):List Value:=[.int .i64 p.1,.int .i64 p.2]
structure Adding (h:HR) (c rm:Nat) (L:List (Int×Int)):Prop where
 r:RInv h
 pages:h.pages=c
 room:h.room=rm
 act:h.act=[1]
 cm:h.cm=[]
 last:h.last=1
 at_:AtL h (λ x=>x=0) L
theorem Adding.add {h:HR} {c rm:Nat} {L:List (Int×Int)} (a:Adding h c rm L) (hc:c<=4096) (d:List UInt8):Adding (Wm h 1 d).1 c rm L/\((Wm h 1 d).2.2.2=0->Adding (Wm h 1 d).1 c rm (L++[((Wm h 1 d).2.1,(Wm h 1 d).2.2.1)])):=by
  have hr:=a.r.add (by rw [a.pages];exact hc) (by rw [a.last];decide) 1 d
  rcases add_cases h 1 d with ⟨h1,h2⟩ | ⟨q,h1,h2,h3,h4,h5⟩
  . exact ⟨by rw [h2];exact a,λ e=>absurd e h1⟩
  . rw [h5] at hr ⊢
    exact ⟨⟨hr,a.pages,a.room,a.act,by show (if (1:Int)=3 then h.cm++[((1:Int),(0:Int))] else h.cm)=[];rw [if_neg (by decide)];exact a.cm,a.last,a.at_.app write_add_vs⟩,λ _=>⟨hr,a.pages,a.room,a.act,by show (if (1:Int)=3 then h.cm++[((1:Int),(0:Int))] else h.cm)=[];rw [if_neg (by decide)];exact a.cm,a.last,a.at_.snoc a.r rfl hr rfl⟩⟩
structure Ending (h:HR) (c rm:Nat) (t:Int) (ok:Int->Prop) (L:List (Int×Int)):Prop where
 r:RInv h
 pages:h.pages=c
 room:h.room=rm
 act:h.act=[t]
 cm:h.cm=[(1,1)]
 last:h.last=t
 at_:AtL h ok L
theorem Ending.end_ {h:HR} {c rm:Nat} {t:Int} {ok:Int->Prop} {x:Int×Int} {L:List (Int×Int)} (a:Ending h c rm t ok (x::L)) (hc:c<=4096) (ht:1<t/\t<2^62) (ho : ∀ z,ok z->z≠t/\z≠1) (hu:h.used+20<=rm) : ∃ i,We h.vs x.1 x.2=some i/\endR h t x.1 x.2=(Zg h (endE t x.1 x.2),0)/\Ending (Zg h (endE t x.1 x.2)) c rm t ok L:=by
 obtain ⟨i,v,h1,h2,h3,h4⟩:=a.at_.2 x (by simp)
 obtain ⟨o1,o2⟩:=ho _ h4
 have hac:Zp h t=true:=by rw [isAct_iff,a.act];simp
 have hcm : ∀ z,Wa h z=true↔z=1:=λ z=>by unfold Wa;rw [a.cm];simp
 have he:=hEnd_ok (h:=h) (t:=t) (p:=x.1) (s:=x.2) hac (v:=v) (by rw [h1];exact h2) (by
   rw [h3]
   rintro (⟨_,e⟩ | e | e)
   . have:=(hcm 1).2 rfl;rw [this] at e;cases e
   . exact o1 e
   . exact o2 ((hcm _).1 e)) (by
   unfold Zp;rw [a.act];simpa using o1) (by rw [a.room];exact hu)
 have hr:=a.r.end_ (by rw [a.pages];exact hc) (by rw [a.last];exact ht.2) t x.1 x.2
 rw [he] at hr
 refine ⟨i,h1,he,hr,a.pages,a.room,a.act,?_,a.last,a.at_.ended⟩
 show (if (2:Int)=3 then h.cm++[(t,(0:Int))] else h.cm)=_
 rw [if_neg (by decide)];exact a.cm
theorem Adding.commit {h:HR} {c rm:Nat} {L:List (Int×Int)} (a:Adding h c rm L) (ok:Int->Prop) (h0:ok 0):(Zl h 1 1=(h,3)/\(rm:Int)<h.used+25)\/((Zl h 1 1).2=0/\h.used+25<=rm/\(Zl h 1 1).1.used=h.used+25/\(Zl h 1 1).1.vs=h.vs/\(Zl h 1 1).1.act=[]/\(Zl h 1 1).1.cm=[(1,1)]/\Ending (beginR (Zl h 1 1).1) c rm 2 ok L):=by
  have hac:Zp h 1=true:=by rw [isAct_iff,a.act];simp
  have hb:badStamp h 1=false:=by unfold badStamp;rw [a.cm];rfl
  by_cases hu:(rm:Int)<h.used+25
  . refine .inl ⟨?_,hu⟩
    unfold Zl
    rw [if_pos hac,if_neg (by rw [hb];simp),if_pos (by rw [a.room];exact hu)]
  . right
    have he:=hCm_ok (h:=h) (t:=1) (s:=1) hac hb (by rw [a.room];omega)
    have hr:=a.r.commit (by rw [a.last];decide) 1 1
    rw [he] at hr ⊢
    have hc:(Zg (Zo h 1) (cmE 1 1)).cm=[(1,1)]:=by show (if (3:Int)=3 then h.cm++[((1:Int),(1:Int))] else h.cm)=_;rw [if_pos rfl,a.cm];rfl
    have hA:(Zg (Zo h 1) (cmE 1 1)).act=[]:=by show h.act.filter _=[];rw [a.act];rfl
    refine ⟨rfl,by omega,?_,rfl,hA,hc,⟨hr.begin,a.pages,a.room,?_,hc,?_,?_⟩⟩
    . show h.used+(enSz (cmE 1 1):Int)=h.used+25
      rw [sz3];rfl
    . show (Zg (Zo h 1) (cmE 1 1)).act++[h.last+1]=[2]
      rw [hA,a.last];rfl
    . show h.last+1=2;rw [a.last];rfl
    . refine ⟨a.at_.1,λ p hp=>?_⟩
      obtain ⟨i,v,h1,h2,h3,h4⟩:=a.at_.2 p hp
      exact ⟨i,v,h1,h2,h3,by rw [h4];exact h0⟩
theorem fitsR_iff {h:HR} (r:RInv h) (ends:Int) (sizes:List Int):fitsR h ends sizes=true↔0<=ends/\ends<=(h.room:Int)-h.used-25/\fitsP (roomsL h) ((h.room:Int)-h.used-25-20*ends) sizes=true:=by
 rw [fits_eq ends sizes (by have:=r.ok.used;omega)]
 simp only [Bool.and_eq_true,Bool.not_eq_true',Bool.or_eq_false_iff,decide_eq_false_iff_not]
 constructor
 . rintro ⟨⟨a,b⟩,c⟩;exact ⟨by omega,by omega,c⟩
 . rintro ⟨a,b,c⟩;exact ⟨⟨by omega,by omega⟩,c⟩
open Go.RowKit
theorem fits_left {rooms l:List Int} {left:Int} (h:fitsP rooms left l=true):0<=left:=by
 by_cases hn:left<0
 . rw [fitsP_neg _ _ _ hn] at h;cases h
 . omega
open Go.RowKit
theorem sure_write {h:HR} {e:En} (s:OkStep h e) (hk:e.kind≠3):sureR (Zg h e)=sureR h:=by
 have s2:OkStep {h with act:=[]} e:=s.congr rfl rfl rfl rfl rfl
 exact all_write s2 rfl hk
theorem sure_add {h:HR} (r:RInv h) (hp:h.pages<=4096) (hl:h.last<2^62) (t:Int) (d:List UInt8):sureR (Wm h t d).1=sureR h:=by
  rcases add_cases h t d with ⟨_,e⟩ | ⟨q,h1,h2,h3,h4,h5⟩
  . rw [e]
  . rw [h5]
    obtain ⟨a,b,_⟩:=roomy_some h3
    exact sure_write (r.addStep hp hl h1 h2 a b h4) (show (1:Int)≠3 by decide)
theorem sure_end {h:HR} (r:RInv h) (hp:h.pages<=4096) (hl:h.last<2^62) (t p s:Int):sureR (endR h t p s).1=sureR h:=by
  rcases end_cases h t p s with ⟨_,e⟩ | ⟨i,v,h1,h2,h3,h4,h5,h6⟩
  . rw [e]
  . rw [h6]
    exact sure_write (r.endStep hp hl h1 h2 h3 h4 h5) (show (2:Int)≠3 by decide)
structure Losing (h:HR) (c rm:Nat) (A:List Ver) (act:List Int):Prop where
 r:RInv h
 pages:h.pages=c
 room:h.room=rm
 act:h.act=act
 cm:h.cm=[(1,1)]
 last:h.last=2
 sure:sureR h=A
 vs : ∀ v∈h.vs,(v.beg=1/\(v.fin=0\/v.fin=2))\/v.beg=2
theorem Losing.add {h:HR} {c rm:Nat} {A:List Ver} (a:Losing h c rm A [2]) (hc:c<=4096) (d:List UInt8):Losing (Wm h 2 d).1 c rm A [2]:=by
  have hp:h.pages<=4096:=by rw [a.pages];exact hc
  have hl:h.last<2^62:=by rw [a.last];decide
  have hr:=a.r.add hp hl 2 d
  have hs:=sure_add a.r hp hl 2 d
  rcases add_cases h 2 d with ⟨_,e⟩ | ⟨q,h1,h2,h3,h4,h5⟩
  . rw [e];exact a
  . rw [h5] at hr hs ⊢
    refine ⟨hr,a.pages,a.room,a.act,?_,a.last,hs.trans a.sure,λ v hv=>?_⟩
    . show (if (1:Int)=3 then h.cm++[((2:Int),(0:Int))] else h.cm)=_;rw [if_neg (by decide)];exact a.cm
    . rw [write_add_vs] at hv
      rcases List.mem_append.1 hv with hv | hv
      . exact a.vs v hv
      . simp at hv;subst hv;exact .inr rfl
theorem Losing.end_ {h:HR} {c rm:Nat} {A:List Ver} (a:Losing h c rm A [2]) (hc:c<=4096) (p s:Int):Losing (endR h 2 p s).1 c rm A [2]:=by
  have hp:h.pages<=4096:=by rw [a.pages];exact hc
  have hl:h.last<2^62:=by rw [a.last];decide
  have hr:=a.r.end_ hp hl 2 p s
  have hs:=sure_end a.r hp hl 2 p s
  rcases end_cases h 2 p s with ⟨_,e⟩ | ⟨i,v,h1,h2,h3,h4,h5,h6⟩
  . rw [e];exact a
  . rw [h6] at hr hs ⊢
    refine ⟨hr,a.pages,a.room,a.act,?_,a.last,hs.trans a.sure,λ u hu=>?_⟩
    . show (if (2:Int)=3 then h.cm++[((2:Int),(0:Int))] else h.cm)=_;rw [if_neg (by decide)];exact a.cm
    . rw [write_end_vs h2] at hu
      rcases mem_modify hu with hu | ⟨w,hw,rfl⟩
      . exact a.vs u hu
      . rcases a.vs w hw with ⟨e,_⟩ | e
        . exact .inl ⟨e,.inr rfl⟩
        . exact .inr e
theorem Losing.all {h:HR} {c rm:Nat} {A:List Ver} {act:List Int} (a:Losing h c rm A act) (ha:act=[]):allR h=A:=by
 rw [<-a.sure]
 unfold sureR
 rw [show ({h with act:=[]}:HR)=h by have:=a.act;rw [ha] at this;cases h;simp_all]
theorem all_mem {h:HR} (r:RInv h) {x:Ver} (hx:x∈allR h) : ∃ (i:Nat) (v:Ver),We h.vs x.page x.slot=some i/\h.vs[i]? = some v/\visV h v=some x/\v.page=x.page/\v.slot=x.slot/\v.beg=x.beg:=by
 unfold allR at hx
 obtain ⟨q,hq,hx⟩:=List.mem_flatMap.1 hx
 obtain ⟨v,hv,hvx⟩:=List.mem_filterMap.1 hx
 have hv1:=mem_of_filt hv
 obtain ⟨i,hi⟩:=List.getElem?_of_mem hv1
 have hxe:v.page=x.page/\v.slot=x.slot/\v.beg=x.beg:=by
  unfold visV at hvx
  split at hvx
  . cases hvx
  . split at hvx <;> (cases hvx;exact ⟨rfl,rfl,rfl⟩)
 obtain ⟨e1,e2,e3⟩:=hxe
 exact ⟨i,v,by rw [<-e1,<-e2];exact findV_of r.ok.slots hi,hi,hvx,e1,e2,e3⟩
theorem all_nodup {h:HR} (r:RInv h):((allR h).map λ x=>((x.page:Int),(x.slot:Int))).Nodup:=by
  have key : ∀ q,List.Sublist (((Zh h.vs q).filterMap (visV h)).map λ x=>((x.page:Int),(x.slot:Int))) ((Zh h.vs q).map λ x=>((x.page:Int),(x.slot:Int))):=by
    intro q
    induction Zh h.vs q with
    | nil=>simp
    | cons v l ih =>
      rw [List.filterMap_cons]
      cases hv:visV h v with
      | none=>exact ih.trans (List.sublist_cons_self _ _)
      | some x =>
        have:x.page=v.page/\x.slot=v.slot:=by
          unfold visV at hv
          split at hv
          . cases hv
          . split at hv <;> (cases hv;exact ⟨rfl,rfl⟩)
        simp only [List.map_cons,this.1,this.2]
        exact ih.cons_cons _
  have hpg : ∀ q,((Zh h.vs q).map λ x=>((x.page:Int),(x.slot:Int)))=(List.range (Zh h.vs q).length).map λ (s:Nat)=>((q:Int),(s:Int)):=by
    intro q
    apply List.ext_getElem?
    intro j
    simp only [List.getElem?_map]
    by_cases hj:j<(Zh h.vs q).length
    . have h1:=slots_page r.ok.slots q j _ (List.getElem?_eq_getElem hj)
      rw [List.getElem?_eq_getElem hj,List.getElem?_range hj]
      simp [h1.1,h1.2]
    . rw [List.getElem?_eq_none (by omega),List.getElem?_eq_none (by simp;omega)]
      rfl
  unfold allR
  rw [List.map_flatMap]
  unfold List.flatMap
  rw [List.Nodup,List.pairwise_flatten]
  refine ⟨λ l hl=>?_,?_⟩
  . obtain ⟨q,_,rfl⟩:=List.mem_map.1 hl
    refine List.Nodup.sublist (key q) ?_
    rw [hpg]
    rw [List.Nodup,List.pairwise_map]
    exact List.Pairwise.imp (λ {a b} hab e=>hab (by injection e with _ e;omega)) List.nodup_range
  . rw [List.pairwise_map]
    refine List.Pairwise.imp ?_ (List.nodup_range (n:=h.pages))
    intro a b hab x hx y hy e
    subst e
    have h1:=(key a).subset hx
    have h2:=(key b).subset hy
    rw [hpg] at h1 h2
    obtain ⟨_,_,e1⟩:=List.mem_map.1 h1
    obtain ⟨_,_,e2⟩:=List.mem_map.1 h2
    rw [<-e1] at e2
    simp at e2
    exact hab (by omega)
open Go.RowKit
def stampL (cm:List (Int×Int)) (t:Int):Int:=match cm.find? (λ c=>decide (c.1=t)) with | some c=>c.2 | none=>0
abbrev stampR (h:HR) (t:Int):Int:=stampL h.cm t
def lastS (h:HR):Int:=match h.cm.getLast? with | none=>0 | some c=>c.2
theorem stampL_snoc {cm:List (Int×Int)} {t s:Int} (h:t∉cm.map (·.1)) (u:Int):stampL (cm++[(t,s)]) u=if u=t then s else stampL cm u:=by
  unfold stampL
  rw [List.find?_append]
  by_cases e:u=t
  . subst e
    have:cm.find? (λ c=>decide (c.1=u))=none:=by
      rw [List.find?_eq_none]
      intro c hc
      simp only [decide_eq_true_eq]
      exact λ q=>h (List.mem_map.2 ⟨c,hc,q⟩)
    rw [this,if_pos rfl];simp
  . rw [if_neg e]
    cases hf:cm.find? (λ c=>decide (c.1=u)) with
    | some c=>rfl
    | none=>simp [Ne.symm e]
theorem stampL_some {cm:List (Int×Int)} {t:Int} (h:t∈cm.map (·.1)) : ∃ c∈cm,c.1=t/\stampL cm t=c.2:=by
 unfold stampL
 cases hf:cm.find? (λ c=>decide (c.1=t)) with
 | some c=>exact ⟨c,List.mem_of_find?_eq_some hf,by simpa using List.find?_some hf,rfl⟩
 | none =>
  rw [List.find?_eq_none] at hf
  obtain ⟨c,hc,e⟩:=List.mem_map.1 h
  exact absurd e (by simpa using hf c hc)
theorem stampL_none {cm:List (Int×Int)} {t:Int} (h:t∉cm.map (·.1)):stampL cm t=0:=by
 unfold stampL
 have:cm.find? (λ c=>decide (c.1=t))=none:=by
  rw [List.find?_eq_none]
  intro c hc
  simp only [decide_eq_true_eq]
  exact λ q=>h (List.mem_map.2 ⟨c,hc,q⟩)
 rw [this]
theorem isCm_mem {h:HR} {t:Int}:Wa h t=true↔t∈h.cm.map (·.1):=by unfold Wa;rw [List.contains_iff_mem]
noncomputable def factR (b:List UInt8):Int×Fx1:=match decL b with
 | x::y::z::r=>(x.n,⟨r,y.n,z.n⟩)
 | _=>(0,⟨[],0,0⟩)
theorem factR_rec {t:Int} {f:Fx1} (h:FxOk t f):factR (encL (valsF t f))=(t,f):=by
 unfold factR
 rw [decL_enc h.vals]
 rfl
structure It where
 page:Nat
 slot:Nat
 t:Int
 f:Fx1
 since:Int
 til:Int
noncomputable def itemR (h:HR) (v:Ver):It:=⟨v.page,v.slot,(factR v.data).1,(factR v.data).2,stampR h v.beg,stampR h v.fin⟩
noncomputable def histR (h:HR) (table:Int):List It:=((allR h).map (itemR h)).filter λ i=>decide (i.t=table\/table<0)
noncomputable def seeR (h:HR) (table at_:Int):List It:=(histR h table).filter λ i=>decide (i.since<=at_/\(i.til=0\/at_<i.til))
def opnR (h:HR) (p:Int×Int):Bool:=(allR h).any λ v=>decide ((v.page:Int)=p.1/\(v.slot:Int)=p.2/\stampR h v.fin=0)
def endsG (h:HR):List (Int×Int)->List (Int×Int)->Bool
 | _,[]=>true
 | seen,p::l=>opnR h p && !(seen.contains p) && endsG h (seen++[p]) l
def endAll (t:Int) (g:HR) (l:List (Int×Int)):HR:=l.foldl (λ g p=>(endR g t p.1 p.2).1) g
def addAll (t:Int) (g:HR) (l:List (List UInt8)):HR:=l.foldl (λ g d=>(Wm g t d).1) g
def writeS (h:HR) (stamp:Int) (ended:List (Int×Int)) (ds:List (List UInt8)):HR×Int:=Zl (addAll (h.last+1) (endAll (h.last+1) (beginR h) ended) ds) (h.last+1) stamp
def recsE : List (Int×Fx1)->Int
 | []=>0
 | p::l=>if recE p.1 p.2≠0 then recE p.1 p.2 else recsE l
def codeS (h:HR) (stamp:Int) (ended:List (Int×Int)) (ps:List (Int×Fx1)):Int :=
 if recsE ps≠0 then recsE ps else if stamp<=lastS h\/1099511627776<stamp then 1 else if endsG h [] ended=false then 4
 else if fitsR h ended.length (ps.map λ p=>((recD p.1 p.2).length:Int))=false then 3 else 0
structure SI (h:HR) (c rm:Nat):Prop where
 r:RInv h
 pages:h.pages=c
 room:h.room=rm
 act:h.act=[]
 vis : ∀ v∈h.vs,Wa h v.beg=true/\(v.fin=0\/(Wa h v.fin=true/\stampR h v.beg<stampR h v.fin))
 rc : ∀ v∈h.vs,∃ t f,FxOk t f/\v.data=encL (valsF t f)
 dur : ∀ (k:Nat),k<=h.es.length->(∀ (j:Nat) (e:En),k<=j->h.es[j]? = some e->e.kind≠3)->k=h.es.length
 st:h.cm.Pairwise (λ a b=>a.2<b.2) /\ ∀ c∈h.cm,1<=c.2/\c.2<=1099511627776
theorem SI.new (c rm:Nat):SI (newR c rm) c rm:=⟨RInv.newR c rm,rfl,rfl,rfl,(λ v hv=>by cases hv),(λ v hv=>by cases hv),(λ k hk _=>by simpa [newR] using hk),List.Pairwise.nil,(λ c hc=>by cases hc)⟩
theorem SI.stamp {h:HR} {c rm:Nat} (s:SI h c rm) {t:Int} (ht:Wa h t=true):1<=stampR h t/\stampR h t<=lastS h:=by
 obtain ⟨x,hx,e1,e2⟩:=stampL_some (isCm_mem.1 ht)
 have h1:=s.st.2 x hx
 show 1<=stampL h.cm t/\stampL h.cm t<=_
 rw [e2]
 refine ⟨h1.1,?_⟩
 unfold lastS
 have hp:=s.st.1
 generalize h.cm=l at hx hp
 induction l using snocI with
 | nil=>cases hx
 | snoc l a _ =>
  rw [List.getLast?_concat]
  rw [List.pairwise_append] at hp
  rcases List.mem_append.1 hx with q | q
  . exact Int.le_of_lt (hp.2.2 x q a (by simp))
  . simp at q;rw [q];exact Int.le_refl _
theorem SI.last0 {h:HR} {c rm:Nat} (s:SI h c rm):0<=lastS h:=by
 unfold lastS
 cases hl:h.cm.getLast? with
 | none=>exact Int.le_refl _
 | some x=>have:=(s.st.2 x (List.mem_of_getLast? hl)).1;dsimp only;omega
theorem SI.stamp0 {h:HR} {c rm:Nat} (s:SI h c rm):stampR h 0=0:=by
 refine stampL_none λ q=>?_
 have:=s.r.cm0 (t:=0) (by omega)
 rw [isCm_mem.2 q] at this
 cases this.1
theorem SI.visv {h:HR} {c rm:Nat} (s:SI h c rm) {v:Ver} (hv:v∈h.vs):visV h v=some v:=by
  obtain ⟨h1,h2⟩:=s.vis v hv
  unfold visV
  rw [if_neg (by simp [h1])]
  split
  . rename_i q
    rcases h2 with e | ⟨e,_⟩
    . obtain ⟨_,_,_,_,_⟩:=v;simp only at e;subst e;rfl
    . rw [e] at q;cases q.2
  . rfl
theorem SI.all {h:HR} {c rm:Nat} (s:SI h c rm):allR h=(List.range h.pages).flatMap λ q=>Zh h.vs q:=by
 unfold allR
 congr 1
 funext q
 have : ∀ l:List Ver,(∀ v∈l,v∈h.vs)->l.filterMap (visV h)=l:=by
  intro l
  induction l with
  | nil=>intro _;rfl
  | cons a l ih =>
   intro hm
   rw [List.filterMap_cons_some (s.visv (hm a (by simp))),ih (λ v hv=>hm v (by simp [hv]))]
 exact this _ λ v hv=>mem_of_filt hv
theorem SI.mem {h:HR} {c rm:Nat} (s:SI h c rm) {v:Ver}:v∈allR h↔v∈h.vs:=by
  rw [s.all]
  constructor
  . intro hv
    obtain ⟨q,_,hq⟩:=List.mem_flatMap.1 hv
    exact mem_of_filt hq
  . intro hv
    exact List.mem_flatMap.2 ⟨v.page,List.mem_range.2 (s.r.ok.vok v hv).1,List.mem_filter.2 ⟨hv,by simp⟩⟩
def markD (t:Int) (D:List (Int×Int)) (v:Ver):Ver:=if D.contains ((v.page:Int),(v.slot:Int)) then finV t v else v
theorem markD_page {t:Int} {D:List (Int×Int)} {v:Ver}:(markD t D v).page=v.page/\(markD t D v).slot=v.slot/\(markD t D v).beg=v.beg/\(markD t D v).data=v.data:=by
 unfold markD
 split <;> exact ⟨rfl,rfl,rfl,rfl⟩
structure Mid (h g:HR) (D:List (Int×Int)) (N:List Ver):Prop where
 r:RInv g
 act:g.act=[h.last+1]
 cm:g.cm=h.cm
 last:g.last=h.last+1
 pages:g.pages=h.pages
 room:g.room=h.room
 vs:g.vs=h.vs.map (markD (h.last+1) D)++N
 new : ∀ v∈N,v.beg=h.last+1/\v.fin=0
 es : ∃ l,g.es=h.es++l/\l.length=D.length+N.length
theorem Mid.begin {h:HR} (r:RInv h) (ha:h.act=[]):Mid h (beginR h) [] []:=by
 refine ⟨r.begin,by show h.act++_=_;rw [ha];rfl,rfl,rfl,rfl,rfl,?_,(λ v hv=>by cases hv),[],by simp [beginR],rfl⟩
 have:h.vs.map (markD (h.last+1) [])=h.vs:=by
  conv=>rhs;rw [<-List.map_id h.vs]
  apply List.map_congr_left
  intro v _
  simp [markD]
 show h.vs=_
 rw [this,List.append_nil]
theorem Mid.actv {h g:HR} {D:List (Int×Int)} {N:List Ver} (m:Mid h g D N):Zp g (h.last+1)=true:=by unfold Zp;rw [m.act];simp
theorem Mid.end_ {h g:HR} {D:List (Int×Int)} {c rm:Nat} (s:SI h c rm) (m:Mid h g D []) (hp:h.pages<=4096) (hl:h.last+1<2^62) {p:Int×Int} (ho:opnR h p=true) (hD:D.contains p=false) (hu:g.used+20<=g.room) :
    (endR g (h.last+1) p.1 p.2).2=0/\Mid h (endR g (h.last+1) p.1 p.2).1 (D++[p]) []/\(endR g (h.last+1) p.1 p.2).1.used=g.used+20/\roomsL (endR g (h.last+1) p.1 p.2).1=roomsL g:=by
  unfold opnR at ho
  obtain ⟨v,hv,hvp⟩:=List.any_eq_true.1 ho
  simp only [decide_eq_true_eq] at hvp
  obtain ⟨e1,e2,e3⟩:=hvp
  have hv:=s.mem.1 hv
  obtain ⟨i,hi⟩:=List.getElem?_of_mem hv
  have hil:=(List.getElem?_eq_some_iff.1 hi).1
  have hfin:v.fin=0:=by
    rcases (s.vis v hv).2 with q | ⟨q,_⟩
    . exact q
    . have:=(s.stamp q).1;omega
  have hmk:markD (h.last+1) D v=v:=by
    unfold markD
    rw [if_neg]
    rw [e1,e2,show (p.1,p.2)=p from rfl,hD];simp
  have hgi:g.vs[i]? = some v:=by
    rw [m.vs,List.append_nil,List.getElem?_map,hi,Option.map_some,hmk]
  have hf:We g.vs p.1 p.2=some i:=by rw [<-e1,<-e2];exact findV_of m.r.ok.slots hgi
  have hc0:=(m.r.cm0 (t:=0) (by omega))
  have hbc:Wa g v.beg=true:=by unfold Wa;rw [m.cm];exact (s.vis v hv).1
  have hend:endR g (h.last+1) p.1 p.2=(Zg g (endE (h.last+1) p.1 p.2),0):=by
    unfold endR
    rw [if_pos m.actv,hf]
    simp only [Option.bind_some,hgi]
    rw [if_neg (by rw [hfin];have:=s.r.last0;simp [hbc,hc0.1];omega),if_neg (by rw [hfin];simp [hc0.2]),if_neg (by omega)]
  rw [hend]
  have hst:=m.r.endStep (by rw [m.pages];exact hp) (by rw [m.last];exact hl) m.actv hf hgi (by rw [hfin];exact hc0.1) (by omega)
  refine ⟨rfl,⟨m.r.write hst (by rw [m.last];exact Int.le_refl _) (by simp),m.act,m.cm,m.last,m.pages,m.room,?_,(λ v hv=>by cases hv),?_⟩,write_end_used,rooms_end hf⟩
  . rw [write_end_vs hf,m.vs,List.append_nil,List.append_nil]
    apply List.ext_getElem?
    intro j
    rw [List.getElem?_modify,List.getElem?_map,List.getElem?_map]
    cases hj:h.vs[j]? with
    | none=>split <;> rfl
    | some u =>
      simp only [Option.map_some]
      by_cases e:i=j
      . subst e
        rw [hi] at hj;cases hj
        show some (if i=i then finV (h.last+1) (markD (h.last+1) D v) else _)=_
        rw [if_pos rfl,hmk]
        congr 1
        unfold markD
        rw [if_pos]
        simp only [List.contains_iff_mem,List.mem_append,List.mem_singleton]
        exact .inr (by rw [e1,e2])
      . show some (if i=j then _ else markD (h.last+1) D u)=_
        rw [if_neg e]
        congr 1
        unfold markD
        have hne : ¬ ((u.page:Int),(u.slot:Int))=p:=by
          intro q
          rw [<-q] at e1 e2
          simp only at e1 e2
          exact e (slots_inj s.r.ok.slots hi hj)
        have:(D++[p]).contains ((u.page:Int),(u.slot:Int))=D.contains ((u.page:Int),(u.slot:Int)):=by
          rw [Bool.eq_iff_iff]
          simp [List.contains_iff_mem,hne]
        rw [this]
  . obtain ⟨l,hl2,hl3⟩:=m.es
    exact ⟨l++[endE (h.last+1) p.1 p.2],by show g.es++[_]=_;rw [hl2,List.append_assoc],by simp [hl3]⟩
theorem Mid.ends {h:HR} {c rm:Nat} (s:SI h c rm) (hp:h.pages<=4096) (hl:h.last+1<2^62) : ∀ (l D:List (Int×Int)) (g:HR),Mid h g D []->endsG h D l=true->g.used+20*l.length<=g.room ->
  Mid h (endAll (h.last+1) g l) (D++l) []/\(endAll (h.last+1) g l).used=g.used+20*l.length/\roomsL (endAll (h.last+1) g l)=roomsL g
 | [],D,g,m,_,_=>by simp [endAll];exact m
 | p::l,D,g,m,he,hu=>by
  unfold endsG at he
  simp only [Bool.and_eq_true,Bool.not_eq_true'] at he
  obtain ⟨⟨h1,h2⟩,h3⟩:=he
  rw [List.length_cons] at hu
  obtain ⟨a1,a2,a3,a4⟩:=m.end_ s hp hl h1 h2 (by omega)
  have hroom:(endR g (h.last+1) p.1 p.2).1.room=g.room:=by rw [a2.room,m.room]
  obtain ⟨b1,b2,b3⟩:=Mid.ends s hp hl l (D++[p]) _ a2 h3 (by rw [a3,hroom];omega)
  rw [show D++p::l=D++[p]++l by simp]
  unfold endAll at b1 b2 b3 ⊢
  rw [List.foldl_cons]
  exact ⟨b1,by rw [b2,a3,List.length_cons];omega,by rw [b3,a4]⟩
theorem Mid.add {h g:HR} {D:List (Int×Int)} {N:List Ver} (m:Mid h g D N) (hp:h.pages<=4096) (hl:h.last+1<2^62) {d:List UInt8} {l:List Int} (hf:fitsP (roomsL g) (g.room-g.used-25) ((d.length:Int)::l)=true) :
    ∃ v,v.beg=h.last+1/\v.fin=0/\v.data=d/\(Wm g (h.last+1) d).2.2.2=0/\Mid h (Wm g (h.last+1) d).1 D (N++[v])/\fitsP (roomsL (Wm g (h.last+1) d).1) ((Wm g (h.last+1) d).1.room-(Wm g (h.last+1) d).1.used-25) l=true:=by
  unfold fitsP at hf
  split at hf
  . cases hf
  . rename_i hs
    rw [rooms_find g d.length (by omega)] at hf
    rw [Int.toNat_natCast] at hf
    cases hr:roomyP g d.length with
    | none=>rw [hr] at hf;cases hf
    | some q =>
      rw [hr] at hf
      dsimp only at hf
      have hleft:0<=(g.room:Int)-g.used-25-(20+d.length):=by
        by_cases hn:(g.room:Int)-g.used-25-(20+d.length)<0
        . rw [fitsP_neg _ _ _ hn] at hf;cases hf
        . omega
      have hadd:=hAdd_ok d m.actv (by omega) hr (by omega)
      obtain ⟨a,b,_⟩:=roomy_some hr
      rw [hadd]
      refine ⟨_,?_,?_,?_,rfl,⟨m.r.write (m.r.addStep (by rw [m.pages];exact hp) (by rw [m.last];exact hl) m.actv (by omega) a b (by omega)) (by rw [m.last];exact Int.le_refl _) (by simp),m.act,m.cm,m.last,m.pages,m.room,by rw [write_add_vs,m.vs,List.append_assoc],λ v hv=>?_,?_⟩,?_⟩
      . rfl
      . rfl
      . rfl
      . rcases List.mem_append.1 hv with hv | hv
        . exact m.new v hv
        . simp at hv;subst hv;exact ⟨rfl,rfl⟩
      . obtain ⟨l,hl2,hl3⟩:=m.es
        exact ⟨l++[addE g (h.last+1) d q],by show g.es++[_]=_;rw [hl2,List.append_assoc],by simp [hl3];omega⟩
      . rw [rooms_add (n:=d.length) rfl rfl rfl,write_add_used]
        show fitsP _ ((g.room:Int)-_-25) l=true
        rw [show (g.room:Int)-(g.used+(20+(d.length:Int)))-25=g.room-g.used-25-(20+d.length) by omega]
        exact hf
theorem Mid.adds {h:HR} {D:List (Int×Int)} (hp:h.pages<=4096) (hl:h.last+1<2^62) : ∀ (ds:List (List UInt8)) (g:HR) (N:List Ver),Mid h g D N->fitsP (roomsL g) (g.room-g.used-25) (ds.map λ d=>(d.length:Int))=true ->
    ∃ M,M.map (·.data)=ds/\Mid h (addAll (h.last+1) g ds) D (N++M)/\0<=(addAll (h.last+1) g ds).room-(addAll (h.last+1) g ds).used-25
  | [],g,N,m,hf=>⟨[],rfl,by rw [List.append_nil];exact m,by simpa [fitsP,addAll] using hf⟩
  | d::ds,g,N,m,hf=>by
    rw [List.map_cons] at hf
    obtain ⟨v,_,_,a2,_,a4,a5⟩:=m.add hp hl hf
    obtain ⟨M,b1,b2,b3⟩:=Mid.adds hp hl ds _ _ a4 a5
    refine ⟨v::M,by rw [List.map_cons,a2,b1],?_,?_⟩
    . rw [List.append_assoc] at b2
      unfold addAll at b2 ⊢
      rw [List.foldl_cons];exact b2
    . unfold addAll at b3 ⊢
      rw [List.foldl_cons];exact b3
structure Wrote (h g:HR) (stamp:Int) (ended:List (Int×Int)) (ds:List (List UInt8)):Prop where
 cm:g.cm=h.cm++[(h.last+1,stamp)]
 last:g.last=h.last+1
 vs : ∃ N:List Ver,g.vs=h.vs.map (markD (h.last+1) ended)++N/\(∀ v∈N,v.beg=h.last+1/\v.fin=0)/\N.map (·.data)=ds
 es : ∃ l,g.es=h.es++l++[cmE (h.last+1) stamp]/\l.length=ended.length+ds.length
theorem no_cm {h:HR} (r:RInv h):h.last+1∉h.cm.map (·.1):=λ q=>by have:=r.cms (isCm_mem.2 q);omega
theorem SI.write {h:HR} {c rm:Nat} (s:SI h c rm) (hp:c<=4096) (hl:h.last+1<2^62) {stamp:Int} {ended:List (Int×Int)} {ds:List (List UInt8)} (h1:lastS h<stamp) (h2:stamp<=1099511627776) (h3:endsG h [] ended=true) (h4:fitsR h ended.length (ds.map λ d=>(d.length:Int))=true) (hd : ∀ d∈ds,∃ t f,FxOk t f/\d=encL (valsF t f)) :
    (writeS h stamp ended ds).2=0/\SI (writeS h stamp ended ds).1 c rm/\Wrote h (writeS h stamp ended ds).1 stamp ended ds:=by
  obtain ⟨f1,f2,f3⟩:=(fitsR_iff s.r _ _).1 h4
  have f4:=fits_left f3
  have hp':h.pages<=4096:=by rw [s.pages];exact hp
  have hbu:(beginR h).used=h.used:=rfl
  have hbr:(beginR h).room=h.room:=rfl
  obtain ⟨a1,a2,a3⟩:=Mid.ends s hp' hl ended [] (beginR h) (Mid.begin s.r s.act) h3 (by rw [hbu,hbr];omega)
  rw [List.nil_append] at a1
  have hrl:roomsL (beginR h)=roomsL h:=rfl
  obtain ⟨N,b1,b2,b3⟩:=Mid.adds hp' hl ds _ [] a1 (by
    rw [a3,hrl,a2,a1.room,hbu]
    rw [show (h.room:Int)-(h.used+20*(ended.length:Int))-25=h.room-h.used-25-20*(ended.length:Int) by omega]
    exact f3)
  rw [List.nil_append] at b2
  unfold writeS
  generalize addAll (h.last+1) (endAll (h.last+1) (beginR h) ended) ds=g at b2 b3
  have hls:lastS h=lastS g:=by unfold lastS;rw [b2.cm]
  have h0:=s.last0
  have hbad:badStamp g stamp=false:=by
    have hs2:lastS g<stamp/\0<stamp:=by rw [<-hls];omega
    unfold badStamp
    cases hg:g.cm.getLast? with
    | none=>simp only [Bool.or_false,Bool.or_eq_false_iff,decide_eq_false_iff_not];omega
    | some x =>
      have hx:lastS g=x.2:=by unfold lastS;rw [hg]
      simp only [Bool.or_eq_false_iff,decide_eq_false_iff_not];omega
  have hcm:Zl g (h.last+1) stamp=(Zg (Zo g (h.last+1)) (cmE (h.last+1) stamp),0):=by
    unfold Zl
    rw [if_pos b2.actv,if_neg (by simp [hbad]),if_neg (by omega)]
  rw [hcm]
  have hr:=(b2.r.without (h.last+1)).write (b2.r.cmStep (by rw [b2.last];exact hl) b2.actv hbad (by omega)) (by show h.last+1<=g.last;rw [b2.last];exact Int.le_refl _) (λ _=>by simp [Zo])
  have hcm2:(Zg (Zo g (h.last+1)) (cmE (h.last+1) stamp)).cm=h.cm++[(h.last+1,stamp)]:=by show g.cm++[_]=_;rw [b2.cm]
  have hvs2:(Zg (Zo g (h.last+1)) (cmE (h.last+1) stamp)).vs=h.vs.map (markD (h.last+1) ended)++N:=b2.vs
  have hno:=no_cm s.r
  have hic : ∀ t,Wa (Zg (Zo g (h.last+1)) (cmE (h.last+1) stamp)) t=(Wa h t || decide (t=h.last+1)):=λ t=>by
    unfold Wa
    rw [hcm2,Bool.eq_iff_iff]
    simp [List.contains_iff_mem]
  have hst : ∀ t,stampR (Zg (Zo g (h.last+1)) (cmE (h.last+1) stamp)) t=if t=h.last+1 then stamp else stampR h t:=λ t=>by
    show stampL _ _=_
    rw [hcm2];exact stampL_snoc hno t
  obtain ⟨le,hle,hlel⟩:=b2.es
  have hes2:(Zg (Zo g (h.last+1)) (cmE (h.last+1) stamp)).es=h.es++le++[cmE (h.last+1) stamp]:=by show g.es++[_]=_;rw [hle]
  refine ⟨rfl,⟨hr,b2.pages.trans s.pages,b2.room.trans s.room,?_,?_,?_,?_,?_⟩,⟨hcm2,b2.last,⟨N,hvs2,b2.new,b1⟩,⟨le,hes2,by rw [hlel,<-b1,List.length_map]⟩⟩⟩
  . show g.act.filter _=[]
    rw [b2.act];simp
  . intro v hv
    rw [hvs2] at hv
    rcases List.mem_append.1 hv with hv | hv
    . obtain ⟨u,hu,rfl⟩:=List.mem_map.1 hv
      obtain ⟨k1,k2⟩:=s.vis u hu
      have hub:u.beg≠h.last+1:=λ q=>hno (by rw [<-q];exact isCm_mem.1 k1)
      have hsb:stampR h u.beg<=lastS h:=(s.stamp k1).2
      rw [markD_page.2.2.1]
      refine ⟨by rw [hic,k1];rfl,?_⟩
      unfold markD
      split
      . right
        show Wa _ (h.last+1)=true/\_<stampR _ (h.last+1)
        rw [hic,hst,hst,if_pos rfl,if_neg hub]
        exact ⟨by simp,by omega⟩
      . rcases k2 with q | ⟨q,q2⟩
        . exact .inl q
        . have huf:u.fin≠h.last+1:=λ z=>hno (by rw [<-z];exact isCm_mem.1 q)
          right
          rw [hic,hst,hst,if_neg hub,if_neg huf,q]
          exact ⟨rfl,q2⟩
    . obtain ⟨k1,k2⟩:=b2.new v hv
      rw [hic,k1]
      exact ⟨by simp,.inl k2⟩
  . intro v hv
    rw [hvs2] at hv
    rcases List.mem_append.1 hv with hv | hv
    . obtain ⟨u,hu,rfl⟩:=List.mem_map.1 hv
      rw [markD_page.2.2.2]
      exact s.rc u hu
    . exact hd v.data (by rw [<-b1];exact List.mem_map_of_mem hv)
  . intro k hk hn
    rw [hes2] at hk hn ⊢
    rcases Nat.lt_or_ge k (h.es++le++[cmE (h.last+1) stamp]).length with q | q
    . exfalso
      refine hn (h.es++le).length (cmE (h.last+1) stamp) ?_ ?_ rfl
      . simp at q ⊢;omega
      . simp
    . omega
  . rw [hcm2]
    refine ⟨?_,λ c hc=>?_⟩
    . rw [List.pairwise_append]
      refine ⟨s.st.1,by simp,λ a ha b hb=>?_⟩
      simp at hb;subst hb
      dsimp only
      have hnd:stampR h a.1<=lastS h:=(s.stamp (isCm_mem.2 (List.mem_map_of_mem ha))).2
      obtain ⟨x,hx,e1,e2⟩:=stampL_some (List.mem_map_of_mem ha:a.1∈h.cm.map (·.1))
      have hxa:x=a:=by
        have:=s.r.ok.nd
        exact nodup_map_inj Prod.fst this hx ha e1
      have:stampR h a.1=x.2:=e2
      rw [hxa] at this
      omega
    . rcases List.mem_append.1 hc with hc | hc
      . exact s.st.2 c hc
      . simp at hc;subst hc;exact ⟨by dsimp only;omega,h2⟩
open Go.RowKit
theorem SI.opened {h:HR} {c rm:Nat} (s:SI h c rm) {v:Ver} (hv:v∈h.vs) (ho:opnR h ((v.page:Int),(v.slot:Int))=true):v.fin=0:=by
 unfold opnR at ho
 obtain ⟨u,hu,hup⟩:=List.any_eq_true.1 ho
 simp only [decide_eq_true_eq] at hup
 obtain ⟨e1,e2,e3⟩:=hup
 obtain ⟨i,hi⟩:=List.getElem?_of_mem hv
 obtain ⟨j,hj⟩:=List.getElem?_of_mem (s.mem.1 hu)
 have:=slots_inj s.r.ok.slots hj hi
 subst this
 rw [hi] at hj;cases hj
 rcases (s.vis v hv).2 with q | ⟨q,_⟩
 . exact q
 . have:=(s.stamp q).1;omega
abbrev KeyI := Nat×Nat×Int×Fx1×Int
def keyI (i:It):KeyI:=(i.page,i.slot,i.t,i.f,i.since)
theorem Wrote.stamps {h g:HR} {stamp:Int} {ended:List (Int×Int)} {ds:List (List UInt8)} (w:Wrote h g stamp ended ds) (r:RInv h) (t:Int):stampR g t=if t=h.last+1 then stamp else stampR h t:=by
 show stampL g.cm t=_
 rw [w.cm];exact stampL_snoc (no_cm r) t
theorem Wrote.lastS {h g:HR} {stamp:Int} {ended:List (Int×Int)} {ds:List (List UInt8)} (w:Wrote h g stamp ended ds):lastS g=stamp:=by
 unfold Go.Proofs.YtkfmfoecplbclaaGreatDoor.lastS
 rw [w.cm,List.getLast?_concat]
theorem hist_mem {h:HR} {table:Int} {i:It} (hi:i∈histR h table) : ∃ v∈allR h,i=itemR h v:=by
 unfold histR at hi
 obtain ⟨v,hv,e⟩:=List.mem_map.1 (List.mem_filter.1 hi).1
 exact ⟨v,hv,e.symm⟩
theorem SI.hist {h:HR} {c rm:Nat} (s:SI h c rm) {table:Int} {i:It} (hi:i∈histR h table):1<=i.since/\i.since<=lastS h/\i.til<=lastS h/\(i.til=0\/i.since<i.til):=by
  obtain ⟨v,hv,rfl⟩:=hist_mem hi
  obtain ⟨k1,k2⟩:=s.vis v (s.mem.1 hv)
  have h1:=s.stamp k1
  show 1<=stampR h v.beg/\stampR h v.beg<=lastS h/\stampR h v.fin<=lastS h/\(stampR h v.fin=0\/stampR h v.beg<stampR h v.fin)
  rcases k2 with q | ⟨q,q2⟩
  . rw [q,s.stamp0]
    exact ⟨h1.1,h1.2,s.last0,.inl rfl⟩
  . exact ⟨h1.1,h1.2,(s.stamp q).2,.inr q2⟩
theorem SI.seen {h:HR} {c rm:Nat} (s:SI h c rm) {table:Int} {i:It} (hi:i∈seeR h table (lastS h)):i.til=0:=by
 unfold seeR at hi
 obtain ⟨h1,h2⟩:=List.mem_filter.1 hi
 have:=s.hist h1
 simp only [decide_eq_true_eq] at h2
 omega
def TabI (h:HR) (a:Int):Prop := ∀ v∈h.vs,(factR v.data).1=a/\v.fin=0
theorem TabI.write {h g:HR} {stamp a:Int} {ds:List (List UInt8)} (i:TabI h a) (w:Wrote h g stamp [] ds) (hd : ∀ d∈ds,∃ f,FxOk a f/\d=encL (valsF a f)):TabI g a:=by
  obtain ⟨N,hvs,hN,hNd⟩:=w.vs
  intro v hv
  rw [hvs] at hv
  rcases List.mem_append.1 hv with hv | hv
  . obtain ⟨u,hu,rfl⟩:=List.mem_map.1 hv
    have:markD (h.last+1) [] u=u:=by simp [markD]
    rw [this];exact i u hu
  . obtain ⟨f,h1,h2⟩:=hd v.data (by rw [<-hNd];exact List.mem_map_of_mem hv)
    rw [h2,factR_rec h1]
    exact ⟨rfl,(hN v hv).2⟩
theorem TabI.all {h:HR} {c rm:Nat} (s:SI h c rm) {a:Int} (i:TabI h a):histR h (-1)=histR h a/\seeR h a (lastS h)=histR h a/\seeR h a 0=[]:=by
  refine ⟨?_,?_,?_⟩
  . unfold histR
    apply List.filter_congr
    intro x hx
    obtain ⟨v,hv,rfl⟩:=List.mem_map.1 hx
    have:=(i v (s.mem.1 hv)).1
    rw [decide_eq_decide]
    show ((factR v.data).1 = -1\/(-1:Int)<0)↔((factR v.data).1=a\/a<0)
    constructor
    . intro _;exact .inl this
    . intro _;exact .inr (by decide)
  . unfold seeR
    rw [List.filter_eq_self]
    intro x hx
    have h1:=s.hist hx
    obtain ⟨v,hv,rfl⟩:=hist_mem hx
    have h2:=(i v (s.mem.1 hv)).2
    simp only [decide_eq_true_eq]
    refine ⟨h1.2.1,.inl ?_⟩
    show stampR h v.fin=0
    rw [h2,s.stamp0]
  . unfold seeR
    rw [List.filter_eq_nil_iff]
    intro x hx
    have h1:=s.hist hx
    simp only [decide_eq_true_eq]
    omega
open Go.RowKit
theorem SrcOf.flV {P:Program} {B:Wn} {l:List Wp} {tx sz:Nat} {α:Type} {g:α->List Value} {a:Option Addr} {m c:Nat} {x:List α} (h:FlV B l g (.slice a m c) x) (hm:x.length=m) (hg : ∀ y,(g y).length=sz) (hk:sliceZ P tx sz=true) (h1 : ∀ v∈x.flatMap g,v.oneCell'=true):SrcOf P B l sz tx (.slice a m c) m (x.flatMap g):=⟨λ w ho=>by
  obtain ⟨e',he⟩:=sliceZ_spec hk
  have hlen:(x.flatMap g).length=m*sz:=by
    rw [<-hm]
    clear h h1 hm ho
    induction x with
    | nil=>simp
    | cons y x ih=>rw [List.flatMap_cons,List.length_append,hg,ih,List.length_cons,Nat.add_mul];omega
  obtain ⟨a2,c2,e,hx | ⟨b,o,e1,hr⟩⟩:=h
  . subst hx
    obtain rfl:m=0:=by simpa using hm.symm
    cases a with
    | none=>exact Src.ofNil w he c
    | some a=>exact Src.ofSlice w he a 0 c [] (by simp) (λ j u hj=>by simp at hj) (by simp)
  . injection e with e2 _ _
    subst e2
    subst e1
    exact Src.ofSlice w he ⟨b,o,none⟩ m c _ hlen (λ j u hj=>by rw [Addr.add_mid];exact hr w ho j u hj) h1⟩
theorem Own.blk_row {B:Wn} {w:World} {g:Nat} {C:List Value} {t sz n:Nat} {l:List Wp} (H:Own B w (blk g C t::l)) (hn:C.length=n*sz) (hm:n<=maxLen):Own B w (row (.slice (some ⟨g,0,none⟩) n n) t sz n C::l) :=
 H.map λ _ k=>Has.weaken (λ _ hb=>⟨hn,.inr ⟨g,n,C.toArray,rfl,hb,Nat.le_refl _,hm,by simp [hn],by simp [<-hn]⟩⟩) k
structure FxRd (f:Fx1):Prop where
 s : ∀ v∈f.row,v.s.length<2^40
 n : ∀ v∈f.row,-(2^63)<=v.n/\v.n<2^63
 p:(-(2^63)<=f.fr/\f.fr<2^63)/\(-(2^63)<=f.to/\f.to<2^63)
 len:f.row.length<2^29
abbrev factV (ra:Option Addr) (m rc:Nat) (f:Fx1):Value := .agg #[.slice ra m rc,.int .i64 f.fr,.int .i64 f.to]
theorem Sx.pcheck (B:Wn) (f t:Int):Fn Tryz.prog B 58 #[.agg #[.int .i64 f,.int .i64 t]] [] (λ v l=>v = .int .i64 (if rightP f t then 0 else 40)/\l=[]):=by
 refine Wq 18 Tryz.func58 rfl rfl (nB rfl) (λ F=>?_)
 try simp only [cA,nA]
 refine TS ?_
 refine Le (zL [_,_] rfl rfl ?_)
 intro g1
 refine La rfl (Ld (Ts (TS ?_)))
 iterate 4 refine Lz ?_
 refine zZ (t:=6) rfl (λ h1=>?_) (λ h1=>?_)
 .
  try replace h1:=of_decide_eq_true h1
  iterate 7 refine Lz ?_
  refine zQ (t:=13) rfl rfl ?_
  iterate 4 refine Lz ?_
  refine Ld (zF rfl (TS (La rfl (Ld (T.ret ?_)))))
  exact ⟨.inl rfl,_,_,res [_] rfl ⟨rvT rfl,trivial⟩,⟨by rw [if_neg (by unfold rightP;omega)];rfl,rfl⟩,Sa⟩
 try replace h1:=of_decide_eq_false h1
 iterate 7 refine Lz ?_
 refine zZ (t:=13) rfl (λ h2=>?_) (λ h2=>?_)
 .
  try replace h2:=of_decide_eq_true h2
  iterate 4 refine Lz ?_
  refine Ld (zF rfl (TS (La rfl (Ld (T.ret ?_)))))
  exact ⟨.inl rfl,_,_,res [_] rfl ⟨rvT rfl,trivial⟩,⟨by rw [if_neg (by unfold rightP;omega)];rfl,rfl⟩,Sa⟩
 try replace h2:=of_decide_eq_false h2
 iterate 4 refine Lz ?_
 refine Ld ?_
 refine yN rfl (λ h3=>?_) (λ h3=>?_)
 .
  refine TS (La rfl (Ld (T.ret ?_)))
  exact ⟨.inl rfl,_,_,res [_] rfl ⟨rvT rfl,trivial⟩,⟨by rw [if_neg (by unfold rightP;omega)];rfl,rfl⟩,Sa⟩
 refine Tk (TS (La rfl (Ld (T.ret ?_))))
 exact ⟨.inl rfl,_,_,res [_] rfl ⟨rvT rfl,trivial⟩,⟨by rw [if_pos (by unfold rightP;omega)];rfl,rfl⟩,Sa⟩
theorem chk_head (t a b:Int) (l:List Vx):chkX (headX t a b++l)=chkX l:=by
 unfold headX
 simp [chkX,chk1]
theorem headX_vals {t:Int} {f:Fx1}:headX t f.fr f.to++f.row=valsF t f:=rfl
theorem vals_len {t:Int} {f:Fx1}:(valsF t f).length=3+f.row.length:=by simp [valsF,headX];omega
theorem FxRd.vals {t:Int} {f:Fx1} (h:FxRd f) (ht : -(2^63)<=t/\t<2^63):(∀ v∈valsF t f,v.s.length<2^40) /\ ∀ v∈valsF t f,-(2^63)<=v.n/\v.n<2^63:=by
  obtain ⟨p1,p2⟩:=h.p
  constructor
  . intro v hv
    rcases List.mem_append.1 (hv:v∈headX t f.fr f.to++f.row) with q | q
    . simp [headX] at q
      rcases q with rfl | rfl | rfl <;> simp
    . exact h.s v q
  . intro v hv
    rcases List.mem_append.1 (hv:v∈headX t f.fr f.to++f.row) with q | q
    . simp [headX] at q
      rcases q with rfl | rfl | rfl
      . exact ht
      . exact p1
      . exact p2
    . exact h.n v q
theorem Sx.record (B:Wn) (S:List Wp) (t:Int) (f:Fx1) (ra:Option Addr) (m rc:Nat) (hl:f.row.length=m) (hv:FlV B S vxC (.slice ra m rc) f.row) (hf:FxRd f) (ht : -(2^63)<=t/\t<2^63) (hok:recE t f=0) :
  Fn Tryz.prog B 34 #[.int .i64 t,factV ra m rc f] S (λ u r => ∃ p c,(0<(encL (valsF t f)).length -> ∃ g,p=some ⟨g,0,none⟩)/\u = .tuple #[.slice p (encL (valsF t f)).length c,.int .i64 0]/\r=rB (.slice p (encL (valsF t f)).length c) (encL (valsF t f)).length (encL (valsF t f))::S):=by
 have hx:=recE_ok ht.2 hf.n hok
 have ht0:=hx.t0
 have hlen:=hx.len
 have hml:=hf.len
 have hvl:=vals_len (t:=t) (f:=f)
 obtain ⟨hs,hn⟩:=hf.vals ht
 have hc:=chkX_ok hx.vals
 refine Wr 46 Tryz.func34 rfl rfl (nB rfl) (λ F=>?_)
 refine TS ?_
 refine Le (zL [_,_,_] rfl rfl ?_)
 intro g3
 refine La rfl (La rfl (Ld (Ts (TS (Lm rfl (Lq (yM rfl rfl) (Ld (yL rfl (Tk (Ts (TS ?_)))))))))))
 iterate 2 refine Lz ?_
 refine Le (Ec (Sx.pcheck B f.fr f.to) Tryz.func58 rfl rfl rfl ?_)
 rintro _ _ ⟨rfl,rfl⟩
 try simp only [cA,nA]
 rw [if_pos hx.p]
 refine La rfl (Ld (TS (Lm rfl (Lq (yW rfl rfl) (Ld (yQ rfl (Tk (TS (Lm rfl (Lq (z8 [(0,1),(1,1),(2,1)] [.int .i64 0,.int .i64 0,.string .empty] [_,_,_] [(0,_),(1,_)] (by unfold Zf;kernel_rfl) rfl rfl) ?_))))))))))
 iterate 3 refine Lz ?_
 refine Lq (z8 [(0,1),(1,1),(2,1)] [.int .i64 0,.int .i64 0,.string .empty] [_,_,_] [(0,_),(1,_)] (by unfold Zf;kernel_rfl) rfl rfl) ?_
 iterate 3 refine Lz ?_
 refine Lq (z8 [(0,1),(1,1),(2,1)] [.int .i64 0,.int .i64 0,.string .empty] [_,_,_] [(0,_),(1,_)] (by unfold Zf;kernel_rfl) rfl rfl) ?_
 refine Le (Ef.lits (e:=125) (sz:=3) [_,_,_] [.int .i64 1,.int .i64 t,strW [],.int .i64 1,.int .i64 f.fr,strW [],.int .i64 1,.int .i64 f.to,strW []] rfl (by simp [Value.cells]) rfl rfl ?_)
 intro gh
 refine LW.conv (l':=vxR (some ⟨gh,0,none⟩) 3 3 (headX t f.fr f.to)::_) (λ w ho=>ho.blk_row (sz:=3) (n:=3) rfl (by unfold maxLen;omega)) (La rfl (Ld (TS ?_)))
 iterate 3 refine Lz ?_
 refine Le (Ea Cx.elemX rfl rfl (SrcOf.flV (hv.mono (λ w ho=>ho.map Sa)) hl (λ _=>rfl) (by kernel_rfl) one_vxC) (by unfold maxLen;omega) ?_)
 rintro p1 c1 hp1
 try simp only [cA,nA]
 rw [<-List.flatMap_append,headX_vals]
 refine Le (Ec (Cx.encode B [vxR p1 (3+m) c1 (valsF t f)] (valsF t f) p1 (3+m) c1 (by omega) (by omega) (FlV.row (λ _=>rfl) (by omega) (by omega) hp1) hs hn hc) Tryz.func75 rfl rfl rfl ?_)
 rintro _ _ ⟨p2,c2,hp2,rfl,rfl⟩
 try simp only [cA,nA]
 iterate 5 refine Lz ?_
 refine Ld (Ts (yH (TS ?_)))
 iterate 3 refine Lz ?_
 refine Ld (yQ rfl (TS ?_))
 iterate 4 refine Lz ?_
 refine Ld (yL rfl (Tk (TS ?_)))
 iterate 3 refine Lz ?_
 refine Ld (T.ret ?_)
 exact ⟨.inl rfl,_,_,res [_,_] rfl ⟨rvT rfl,rvT rfl,trivial⟩,⟨p2,c2,hp2,rfl,rfl⟩,Sa⟩
theorem Sx.recordNo (B:Wn) (S:List Wp) (t:Int) (f:Fx1) (ra:Option Addr) (m rc:Nat) (hl:f.row.length=m) (hv:FlV B S vxC (.slice ra m rc) f.row) (hf:FxRd f) (ht : -(2^63)<=t/\t<2^63) (hno:recE t f≠0) :
  Fn Tryz.prog B 34 #[.int .i64 t,factV ra m rc f] S (λ u r=>u = .tuple #[.slice none 0 0,.int .i64 (recE t f)]/\r=S):=by
 have hml:=hf.len
 have hvl:=vals_len (t:=t) (f:=f)
 obtain ⟨hs,hn⟩:=hf.vals ht
 have hrc:recE t f=if t<0 then 1 else if ¬ rightP f.fr f.to then 40 else if chkX f.row≠0 then chkX f.row else if 184<(encL (valsF t f)).length then 2 else 0:=rfl
 refine Wr 46 Tryz.func34 rfl rfl (nB rfl) (λ F=>?_)
 refine TS ?_
 refine Le (zL [_,_,_] rfl rfl ?_)
 intro g3
 refine La rfl (La rfl (Ld (Ts (TS (Lm rfl (Lq (yM rfl rfl) (Ld ?_)))))))
 refine yN rfl (λ h1=>?_) (λ h1=>?_)
 .
  rw [hrc,if_pos h1]
  refine TS (La rfl (La rfl (Ld (T.ret ?_))))
  exact ⟨.inl rfl,_,_,res [_,_] rfl ⟨rvT rfl,rvT rfl,trivial⟩,⟨rfl,rfl⟩,Sa⟩
 refine Tk (Ts (TS ?_))
 iterate 2 refine Lz ?_
 refine Le (Ec (Sx.pcheck B f.fr f.to) Tryz.func58 rfl rfl rfl ?_)
 rintro _ _ ⟨rfl,rfl⟩
 try simp only [cA,nA]
 by_cases h2:rightP f.fr f.to
 .
  rw [if_pos h2]
  refine La rfl (Ld (TS (Lm rfl (Lq (yW rfl rfl) (Ld (yQ rfl (Tk (TS (Lm rfl (Lq (z8 [(0,1),(1,1),(2,1)] [.int .i64 0,.int .i64 0,.string .empty] [_,_,_] [(0,_),(1,_)] (by unfold Zf;kernel_rfl) rfl rfl) ?_))))))))))
  iterate 3 refine Lz ?_
  refine Lq (z8 [(0,1),(1,1),(2,1)] [.int .i64 0,.int .i64 0,.string .empty] [_,_,_] [(0,_),(1,_)] (by unfold Zf;kernel_rfl) rfl rfl) ?_
  iterate 3 refine Lz ?_
  refine Lq (z8 [(0,1),(1,1),(2,1)] [.int .i64 0,.int .i64 0,.string .empty] [_,_,_] [(0,_),(1,_)] (by unfold Zf;kernel_rfl) rfl rfl) ?_
  refine Le (Ef.lits (e:=125) (sz:=3) [_,_,_] [.int .i64 1,.int .i64 t,strW [],.int .i64 1,.int .i64 f.fr,strW [],.int .i64 1,.int .i64 f.to,strW []] rfl (by simp [Value.cells]) rfl rfl ?_)
  intro gh
  refine LW.conv (l':=vxR (some ⟨gh,0,none⟩) 3 3 (headX t f.fr f.to)::_) (λ w ho=>ho.blk_row (sz:=3) (n:=3) rfl (by unfold maxLen;omega)) (La rfl (Ld (TS ?_)))
  iterate 3 refine Lz ?_
  refine Le (Ea Cx.elemX rfl rfl (SrcOf.flV (hv.mono (λ w ho=>ho.map Sa)) hl (λ _=>rfl) (by kernel_rfl) one_vxC) (by unfold maxLen;omega) ?_)
  rintro p1 c1 hp1
  try simp only [cA,nA]
  rw [<-List.flatMap_append,headX_vals]
  by_cases h3:chkX f.row=0
  .
   have hc:chkX (valsF t f)=0:=(chk_head t f.fr f.to f.row).trans h3
   refine Le (Ec (Cx.encode B [vxR p1 (3+m) c1 (valsF t f)] (valsF t f) p1 (3+m) c1 (by omega) (by omega) (FlV.row (λ _=>rfl) (by omega) (by omega) hp1) hs hn hc) Tryz.func75 rfl rfl rfl ?_)
   rintro _ _ ⟨p2,c2,hp2,rfl,rfl⟩
   try simp only [cA,nA]
   iterate 5 refine Lz ?_
   refine Ld (Ts (yH (TS ?_)))
   iterate 3 refine Lz ?_
   refine Ld ?_
   have h4:184<(encL (valsF t f)).length:=by rw [hrc,if_neg h1,if_neg (by simpa using h2),if_neg (by simpa using h3)] at hno;by_cases q:184<(encL (valsF t f)).length;exact q;rw [if_neg q] at hno;exact absurd rfl hno
   rw [hrc,if_neg h1,if_neg (by simpa using h2),if_neg (by simpa using h3),if_pos h4]
   have hel:=(encL_len (chkX_zero hc hn)).2
   refine yQ rfl (TS ?_)
   iterate 4 refine Lz ?_
   refine Ld (zM rfl (TS (La rfl (La rfl (Ld (T.ret ?_))))))
   exact ⟨.inl rfl,_,_,res [_,_] rfl ⟨rvT rfl,rvT rfl,trivial⟩,⟨rfl,rfl⟩,Sa⟩
  have hc:chkX (valsF t f)≠0:=λ q=>h3 ((chk_head t f.fr f.to f.row).symm.trans q)
  refine Le (Ec (Cx.encodeNo B [vxR p1 (3+m) c1 (valsF t f)] (valsF t f) p1 (3+m) c1 (by omega) (by omega) (FlV.row (λ _=>rfl) (by omega) (by omega) hp1) hs hc) Tryz.func75 rfl rfl rfl ?_)
  rintro _ _ ⟨rfl,rfl⟩
  try simp only [cA,nA]
  iterate 5 refine Lz ?_
  refine Ld (Ts (yH (TS ?_)))
  iterate 3 refine Lz ?_
  refine Ld ?_
  rw [hrc,if_neg h1,if_neg (by simpa using h2),if_pos h3]
  refine zM rfl (TS ?_)
  iterate 3 refine Lz ?_
  refine Ld (T.ret ?_)
  exact ⟨.inl rfl,_,_,res [_,_] rfl ⟨rvT rfl,rvT rfl,trivial⟩,⟨by rw [show chkX (valsF t f)=chkX f.row from chk_head t f.fr f.to f.row];rfl,rfl⟩,Sa⟩
 rw [if_neg h2]
 rw [hrc,if_neg h1,if_pos h2]
 refine La rfl (Ld (TS (Lm rfl (Lq (yW rfl rfl) (Ld (zF rfl (TS ?_)))))))
 iterate 3 refine Lz ?_
 refine Ld (T.ret ?_)
 exact ⟨.inl rfl,_,_,res [_,_] rfl ⟨rvT rfl,rvT rfl,trivial⟩,⟨rfl,rfl⟩,Sa⟩
theorem Sx.read (B:Wn) (S:List Wp) (t:Int) (f:Fx1) (pb:Option Addr) (m cb:Nat) (hx:FxOk t f) (hm:(encL (valsF t f)).length=m) (hv:RdV B S (.slice pb m cb) (Zb (encL (valsF t f)))) :
  Fn Tryz.prog B 23 #[.slice pb m cb] S (λ u r => ∃ g c,u = .tuple #[.int .i64 t,factV (offA (some ⟨g,0,none⟩) c 3 3) f.row.length (c-3) f,.bool true]/\r=vxR (some ⟨g,0,none⟩) (3+f.row.length) c (valsF t f)::S):=by
 have hvl:=vals_len (t:=t) (f:=f)
 have hml:=hx.len
 have h3:=(encL_len hx.vals).1
 have ht0:=hx.t0
 have ht1:=hx.t1
 have h0:(valsF t f)[0]? = some ⟨1,t,[]⟩:=rfl
 have h1:(valsF t f)[1]? = some ⟨1,f.fr,[]⟩:=rfl
 have h2:(valsF t f)[2]? = some ⟨1,f.to,[]⟩:=rfl
 refine Wq 63 Tryz.func23 rfl rfl (nB rfl) (λ F=>?_)
 refine TS (La rfl ?_)
 refine Le (El [.slice none 0 0,.int .i64 0,.int .i64 0] (by unfold Zf;kernel_rfl) ?_)
 intro g3
 refine La rfl (Ld (TS (Lm rfl ?_)))
 refine Le (Ec (Cx.decode B S (valsF t f) pb m cb (encL (valsF t f)) rfl hm hx.vals hv (by omega)) Tryz.func57 rfl rfl rfl ?_)
 rintro _ l2 ⟨p,c,hp,rfl,hl2⟩
 rw [hl2,hvl]
 clear hl2
 simp only [List.cons_append]
 obtain ⟨g,rfl⟩:=hp (by omega)
 refine LW.own λ w ho=>?_
 have hcap:=(ho.map Sa:Own B w [vxR (some ⟨g,0,none⟩) (3+f.row.length) c (valsF t f)]).cap_at (p:=some ⟨g,0,none⟩) (m:=3+f.row.length) (c:=c)
 clear ho
 iterate 3 refine Lz ?_
 refine Le (El [.int .i64 0,.int .i64 0] (by unfold Zf;kernel_rfl) ?_)
 intro g6
 refine La rfl ?_
 refine L0 (Es [_,_] rfl rfl rfl rfl (by simp) ?_)
 try simp only [splice,lC,lN,dS,cA,tS,tZ,dZ,nA,aN]
 refine Ld (Ts (TS ?_))
 iterate 4 refine Lz ?_
 refine yT (t:=18) rfl rfl ?_
 iterate 4 refine Lz ?_
 refine Ld (yL rfl (Tk (Ts (zU 10 (nB rfl) ?_))))
 refine Rz 0 ?_
 refine Rq 1 rfl (Sr _) (Qi 1 (e:=125) (sz:=3) rfl rfl rfl) ?_
 refine Rz 2 ?_
 refine Rq 3 rfl (Sr _) (Ql (v := .int .i64 f.fr) rfl (flat_cell vxC 3 (valsF t f) (λ _ _=>rfl) 1 1 (by omega) rfl)) ?_
 refine Rz 4 ?_
 refine Rq 5 rfl (Sr _) (Qi 2 (e:=125) (sz:=3) rfl rfl rfl) ?_
 refine Rz 6 ?_
 refine Rq 7 rfl (Sr _) (Ql (v := .int .i64 f.to) rfl (flat_cell vxC 3 (valsF t f) (λ _ _=>rfl) 2 1 (by omega) rfl)) (Rq 8 rfl (Sr _) (z8 [(0,1),(1,1)] [.int .i64 0,.int .i64 0] [_,_] [(0,_),(1,_)] (by unfold Zf;kernel_rfl) rfl rfl) (yK 9 ?_))
 refine ZK rfl (El [.int .i64 0,.int .i64 0] (by unfold Zf;kernel_rfl) ?_)
 intro g7
 refine ⟨Sa,?_⟩
 refine Rd0 (by rfl) ?_
 simp only [dS,dZ,dN]
 refine L0 (Es [_,_] rfl rfl rfl rfl (by simp) ?_)
 try simp only [splice,lC,lN,dS,cA,tS,tZ,dZ,nA,aN]
 refine Ld (Ts (TS (Lm rfl (Lq (Y6 3 (e:=125) (sz:=3) rfl rfl rfl) ?_))))
 iterate 2 refine Lz ?_
 refine Ld (yH ?_)
 refine zG (λ mz fz lz => ∃ (f0:Fr) (j:Nat),(j<=3)/\mz=3-j/\fz=(upd (upd (upd (upd (upd (upd f0 3 (.pointer (some ⟨g3,0,none⟩))) 5 (.slice (some ⟨g,0,none⟩) (3+f.row.length) c)) 7 (.pointer (some ⟨g7,0,none⟩))) 34 (.slice (some ⟨g,0,none⟩) 3 c)) 35 (.int .i64 3)) 36 (.int .i64 j))/\lz=vxR (some ⟨g,0,none⟩) (3+f.row.length) c (valsF t f)::blk g3 [.slice none 0 0,.int .i64 0,.int .i64 0] 61::blk g7 [.int .i64 f.fr,.int .i64 f.to] 59::S++F) ?_ ?_
 . refine ⟨_,_,⟨_,0,Nat.zero_le _,rfl,U6,rfl⟩,Sa⟩
 rintro mz fz lz ⟨f0,j,hj,hmz,rfl,rfl⟩
 subst mz
 try simp only [cA,nA]
 refine TS (Lq (yM rfl rfl) (Ld (Ts ?_)))
 refine yN rfl (λ hlt=>?_) (λ hlt=>?_)
 .
  obtain ⟨v,hvj,hk⟩ : ∃ v,(valsF t f)[j]? = some v/\v.k=1:=by
   rcases (by omega:j=0\/j=1\/j=2) with rfl | rfl | rfl
   . exact ⟨_,h0,rfl⟩
   . exact ⟨_,h1,rfl⟩
   . exact ⟨_,h2,rfl⟩
  refine Tk (Ts (yH (TS ?_)))
  refine Lz ?_
  refine Lq (QL [.int .i64 v.k,.int .i64 v.n,strW v.s] rfl (by rw [show [Value.int .i64 v.k,.int .i64 v.n,strW v.s]=vxC ((valsF t f)[j]'(by omega)) by rw [(List.getElem?_eq_some_iff.1 hvj).2]];exact rdl_flat _ _ _ (by intros;rfl) _ (by omega))) ?_
  refine Le (El [.int .i64 0,.int .i64 0,.string .empty] (by unfold Zf;kernel_rfl) ?_)
  intro g9
  refine L0 (Es [_,_,_] rfl rfl rfl rfl (by simp) ?_)
  try simp only [splice,lC,lN,dS,cA,tS,tZ,dZ,nA,aN]
  refine Ld (TS ?_)
  iterate 3 refine Lz ?_
  refine Ld (yL rfl (Tk (TR ?_)))
  iterate 2 refine Lz ?_
  refine Ld ?_
  refine ⟨_,?_,_,⟨_,j+1,by omega,rfl,U6,rfl⟩,Sa⟩
  omega
 refine zB (Ts (T.draw 20 ([vxR (some ⟨g,0,none⟩) (3+f.row.length) c (valsF t f),blk g7 [.int .i64 f.fr,.int .i64 f.to] 59]) (nB rfl) ?_))
 refine Rz 0 ?_
 refine Rq 1 rfl Sa (Qi 0 (e:=125) (sz:=3) rfl rfl rfl) ?_
 refine Rz 2 ?_
 refine Rq 3 rfl Sa (Ql (v := .int .i64 t) rfl (flat_cell vxC 3 (valsF t f) (λ _ _=>rfl) 0 1 (by omega) rfl)) ?_
 refine Rz 4 ?_
 refine Rq 5 rfl Sa (zP 3 (e:=125) (sz:=3) rfl rfl rfl) ?_
 refine Rz 6 ?_
 refine Rq 7 rfl Sa (z8 [(0,1),(1,2)] [.slice none 0 0,.int .i64 0,.int .i64 0] [_,_,_] [(0,_),(1,_)] (by unfold Zf;kernel_rfl) rfl rfl) ?_
 refine Rz 8 ?_
 refine Rq 9 rfl Sa (Qi 0 (e:=125) (sz:=3) rfl rfl rfl) ?_
 refine Rz 10 ?_
 refine Rq 11 rfl Sa (Ql (v := .int .i64 t) rfl (flat_cell vxC 3 (valsF t f) (λ _ _=>rfl) 0 1 (by omega) rfl)) ?_
 refine Rz 12 ?_;refine Rz 13 ?_
 refine YY (t:=58) rfl (decide_eq_true (by omega)) ?_
 refine Rz 14 ?_
 refine yK 15 ?_
 refine z6 rfl (Ec (Sx.pcheck B f.fr f.to) Tryz.func58 rfl rfl rfl ?_)
 rintro _ _ ⟨rfl,rfl⟩
 try simp only [cA,nA]
 rw [if_pos hx.p]
 refine ⟨Sa,?_⟩
 refine Rz 16 ?_;refine Rz 17 ?_;refine Rz 18 ?_
 refine yK 19 ?_
 refine YH rfl (Es [_,_,_] rfl rfl rfl rfl (by simp) ?_)
 try simp only [splice,lC,lN,dS,cA,tS,tZ,dZ,nA,aN]
 refine ⟨Sa,?_⟩
 refine Rd0 (by rfl) ?_
 simp only [dS,dZ,dN]
 refine La rfl (Ld ?_)
 rw [show 3+f.row.length-3=f.row.length by omega]
 refine T.ret ?_
 exact ⟨.inl rfl,_,_,res [_,_,_] rfl ⟨rvT rfl,rvA [_,_,_] rfl ⟨rfl,rfl,rfl,trivial⟩,rvT rfl,trivial⟩,⟨g,c,rfl,rfl⟩,Sa⟩
end Go.Proofs.YtkfmfoecplbclaaGreatDoor
namespace Go.Proofs.YtkfmfoecplbclaaGreatDoor
open Go.ChangeShapes Go.WideShapes Go.ChangeAt Go.RowKit
theorem Own.base_range {W w:World} {S:List Wp} {b o:Nat} {cs:List Value} (h:W.rangeAt b o cs) (H:Own (baseOf W) w S):w.rangeAt b o cs:=λ j v hv=>by
 obtain ⟨c,t,fr,hb,hc⟩:=range_cell (h j v hv)
 have:=H.ro.p b _ hb
 rw [cell_of_row w b (o+j) c t fr this]
 exact hc
theorem rangeAt_flat {α:Type} {g:α->List Value} {sz:Nat} {w:World} {b:Nat} (hg : ∀ a,(g a).length=sz) : ∀ (l:List α) (o:Nat),(∀ (i:Nat) x,l[i]? = some x->w.rangeAt b (o+i*sz) (g x))->w.rangeAt b o (l.flatMap g)
  | [],_,_,j,v,h=>by simp at h
  | a::l,o,h,j,v,hv=>by
    rw [List.flatMap_cons] at hv
    by_cases hj:j<sz
    . rw [List.getElem?_append_left (by rw [hg];exact hj)] at hv
      have:=h 0 a rfl j v hv
      rwa [Nat.zero_mul,Nat.add_zero] at this
    . rw [List.getElem?_append_right (by rw [hg];omega),hg] at hv
      have:=rangeAt_flat hg l (o+sz) (λ i x hx=>by
        have:=h (i+1) x (by simpa using hx)
        rwa [Nat.add_mul,Nat.one_mul,Nat.add_comm (i*sz) sz,<-Nat.add_assoc] at this) (j-sz) v hv
      rwa [Nat.add_assoc,Nat.add_sub_cancel' (by omega)] at this
theorem SliceAt.flV {W:World} {sz:Nat} {α:Type} {R:List Value->α->Prop} {v:Value} {l:List α} {g:α->List Value} (h:SliceAt W sz R v l) (hR : ∀ cs a,R cs a->cs=g a) (hg : ∀ a,(g a).length=sz):FlV (baseOf W) [] g v l:=by
  rcases h with ⟨rfl,rfl⟩ | ⟨a,cap,rfl,hl,hm,hi⟩
  . exact ⟨none,0,rfl,.inl rfl⟩
  . refine ⟨some a,cap,rfl,?_⟩
    by_cases h0:l=[]
    . exact .inl h0
    . obtain ⟨_,b,o,rfl,_,_,_,_⟩:=hi 0 (List.length_pos_iff.2 h0)
      refine .inr ⟨b,o,rfl,λ w ho=>rangeAt_flat hg l o λ i x hx=>?_⟩
      obtain ⟨hil,rfl⟩:=List.getElem?_eq_some_iff.1 hx
      obtain ⟨cells,b',o',e,_,_,hr,hRc⟩:=hi i hil
      injection e with e1 e2
      subst e1;subst e2
      rw [<-hR _ _ hRc]
      exact ho.base_range hr
theorem SliceAt.all {W:World} {sz:Nat} {α:Type} {R:List Value->α->Prop} {v:Value} {l:List α} (h:SliceAt W sz R v l) : ∀ x∈l,∃ cs,R cs x:=by
  intro x hx
  obtain ⟨i,hi,rfl⟩:=List.getElem_of_mem hx
  rcases h with ⟨_,h⟩ | ⟨a,cap,_,_,_,h⟩
  . rw [h] at hi;simp at hi
  . obtain ⟨cells,b,o,_,_,_,_,hR⟩:=h i hi
    exact ⟨cells,hR⟩
theorem len2 {α:Type} {l:List α} (h:l.length=2) : ∃ a b,l=[a,b]:=by
 match l,h with
 | [a,b],_=>exact ⟨a,b,rfl⟩
theorem len3 {α:Type} {l:List α} (h:l.length=3) : ∃ a b c,l=[a,b,c]:=by
 match l,h with
 | [a,b,c],_=>exact ⟨a,b,c,rfl⟩
abbrev in64 (n:Int):Prop := -(2^63)<=n/\n<2^63
section
variable {H : Type} {enc:TypeId×Value->H} {W:World}
def VxR (cs:List Value) (v:Vx):Prop:=cs=vxC v/\in64 v.n
theorem read_vx (n:Nat) (cs:List Value) (y:DataW H×List MemPlace) (h:Tr enc Tryz.prog W n 125 cs=some y) : ∃ v:Vx,VxR cs v/\v.s.length+1<=Rows.uptoBulk y.1:=by
 obtain ⟨xs,m,rfl,rfl,hl,hx,hf⟩:=DataW.trod_struct Tryz.underlying125 h
 rw [show Tryz.prog.cellsOf 125=3 by kernel_rfl] at hl
 obtain ⟨c0,c1,c2,rfl⟩:=len3 hl
 obtain ⟨x0,x1,x2,rfl⟩:=len3 hx
 have f0:=field_of hf 0 3 0 1 rfl
 have f1:=field_of hf 1 2 1 1 rfl
 have f2:=field_of hf 2 9 2 1 rfl
 simp only [List.drop_zero,List.drop_succ_cons,List.take_succ_cons,List.take_zero,List.getElem?_cons_zero,List.getElem?_cons_succ] at f0 f1 f2
 obtain ⟨i0,⟨e0,b1,b2⟩,_⟩:=read_i64 Tryz.underlying3 _ _ _ f0
 obtain ⟨i1,⟨e1,b3,b4⟩,_⟩:=read_i64 Tryz.underlying2 _ _ _ f1
 obtain ⟨s2,e2,hb⟩:=read_str Tryz.underlying9 _ _ _ f2
 simp only [List.cons.injEq,and_true] at e0 e1 e2
 subst e0;subst e1;subst e2
 refine ⟨⟨i0,i1,s2⟩,⟨rfl,by dsimp only;omega⟩,?_⟩
 simp only [List.map_cons,List.map_nil,Rows.uptoBulk,Rows.uptoBulkAll]
 omega
def szF (f:Fx1):Nat:=(f.row.map λ v=>v.s.length+1).sum
theorem sum_len1 : ∀ l:List Vx,l.length<=(l.map λ v=>v.s.length+1).sum
 | []=>Nat.zero_le _
 | a::l=>by have:=sum_len1 l;simp only [List.length_cons,List.map_cons,List.sum_cons];omega
theorem sum_mem1 : ∀ {l:List Vx} {v:Vx},v∈l->v.s.length<=(l.map λ v=>v.s.length+1).sum
 | a::l,v,h=>by
  simp only [List.map_cons,List.sum_cons]
  rcases List.mem_cons.1 h with rfl | h
  . omega
  . have:=sum_mem1 h;omega
def FxR (W:World) (cs:List Value) (f:Fx1):Prop := ∃ a c,cs=[.slice a f.row.length c,.int .i64 f.fr,.int .i64 f.to]/\FlV (baseOf W) [] vxC (.slice a f.row.length c) f.row/\(∀ v∈f.row,in64 v.n)/\in64 f.fr/\in64 f.to
theorem FxR.rd {cs:List Value} {f:Fx1} (h:FxR W cs f) (hs:szF f<=1048576):FxRd f:=by
 obtain ⟨_,_,_,_,h1,h2,h3⟩:=h
 exact ⟨λ v hv=>by have:=sum_mem1 hv;unfold szF at hs;omega,h1,⟨h2,h3⟩,by have:=sum_len1 f.row;unfold szF at hs;omega⟩
theorem read_fact (n:Nat) (cs:List Value) (y:DataW H×List MemPlace) (h:Tr enc Tryz.prog W n 61 cs=some y) : ∃ f:Fx1,FxR W cs f/\szF f+1<=Rows.uptoBulk y.1:=by
 obtain ⟨xs,m,rfl,rfl,hl,hx,hf⟩:=DataW.trod_struct Tryz.underlying61 h
 rw [show Tryz.prog.cellsOf 61=3 by kernel_rfl] at hl
 obtain ⟨c0,c1,c2,rfl⟩:=len3 hl
 obtain ⟨x0,x1,rfl⟩:=len2 hx
 have f0:=field_of hf 0 57 0 1 rfl
 have f1:=field_of hf 1 59 1 2 rfl
 simp only [List.drop_zero,List.drop_succ_cons,List.take_succ_cons,List.take_zero,List.getElem?_cons_zero,List.getElem?_cons_succ] at f0 f1
 obtain ⟨v0,l0,e0,hs,hB,hL⟩:=open_slice_R (R:=VxR) (B:=λ v=>v.s.length+1) Tryz.underlying57 (show Tryz.prog.cellsOf 125=3 by kernel_rfl) (λ n cs y=>read_vx n cs y) f0
 obtain ⟨ys,m',q,rfl,hl2,hy,hg⟩:=DataW.trod_struct Tryz.underlying59 f1
 obtain ⟨y0,y1,rfl⟩:=len2 hy
 have g0:=field_of hg 0 2 0 1 rfl
 have g1:=field_of hg 1 2 1 1 rfl
 simp only [List.drop_zero,List.drop_succ_cons,List.take_succ_cons,List.take_zero,List.getElem?_cons_zero,List.getElem?_cons_succ] at g0 g1
 obtain ⟨i1,⟨e1,b1,b2⟩,_⟩:=read_i64 Tryz.underlying2 _ _ _ g0
 obtain ⟨i2,⟨e2,b3,b4⟩,_⟩:=read_i64 Tryz.underlying2 _ _ _ g1
 simp only [List.cons.injEq,and_true] at e0 e1 e2
 subst e0;subst e1;subst e2
 have hfl:=hs.flV (g:=vxC) (λ cs a h=>h.1) (λ _=>rfl)
 obtain ⟨a,c,rfl⟩:=hfl.form rfl
 refine ⟨⟨l0,i1,i2⟩,⟨a,c,rfl,hfl,λ v hv=>by obtain ⟨_,h⟩:=hs.all v hv;exact h.2,by dsimp only;omega,by dsimp only;omega⟩,?_⟩
 unfold szF
 simp only [List.map_cons,List.map_nil,Rows.uptoBulk,Rows.uptoBulkAll]
 omega
end
open Go.RowKit
abbrev ridV (p:Int×Int):Value := .agg #[.int .i64 p.1,.int .i64 p.2]
theorem ridV_inj : ∀ a b,ridV a=ridV b->a=b:=λ a b h=>by
 obtain ⟨a1,a2⟩:=a
 obtain ⟨b1,b2⟩:=b
 simp at h
 rw [h.1,h.2]
theorem rid_eq (w:World) (a b:Int×Int) : ∃ r:Bool,(Op.equal 67 (ridV a) (ridV b)).run Tryz.prog w = .ok r w/\(r=true↔a=b):=by
 refine ⟨_,(eqRid a.1 a.2 b.1 b.2).2 w,?_⟩
 rw [decide_eq_true_eq]
 exact ⟨λ q=>Prod.ext q.1 q.2,λ q=>by rw [q];exact ⟨rfl,rfl⟩⟩
theorem rid_ask [inst:DecidableEq (Int×Int)] {β:Type} (ve:β->Value) (w:World) (k:Int×Int) : ∀ (es:List MapEntry) (L:List ((Int×Int)×β)) (i:Nat),es.map (λ e=>(e.key,e.val))=L.map (λ p=>(ridV p.1,ve p.2)) ->
    (Zy L k=none/\(Instr.findAsking 67 (ridV k) es i).run Tryz.prog w = .ok none w) \/ ∃ v j,Zy L k=some v/\(Instr.findAsking 67 (ridV k) es i).run Tryz.prog w = .ok (some (i+j,ve v)) w/\L[j]?.map (·.1)=some k /\ ∀ (j':Nat),j'<j->L[j']?.map (·.1)≠some k
  | [],[],i,_ => .inl ⟨rfl,by simp [Instr.findAsking]⟩
  | [],_::_,_,h=>by simp at h
  | _::_,[],_,h=>by simp at h
  | e::es,p::L,i,h=>by
    simp only [List.map_cons,List.cons.injEq,Prod.mk.injEq] at h
    obtain ⟨⟨h1,h2⟩,h3⟩:=h
    obtain ⟨r,hq,hr⟩:=rid_eq w k p.1
    rw [<-h1] at hq
    by_cases e1:p.1=k
    . refine .inr ⟨p.2,0,by simp [Zy,e1],?_,by simp [e1],λ j' h=>by omega⟩
      obtain rfl:r=true:=hr.2 e1.symm
      simp [Instr.findAsking,hq,h2]
    . obtain rfl:r=false:=by cases r with | false=>rfl | true=>exact absurd (hr.1 rfl).symm e1
      have hf:(Instr.findAsking 67 (ridV k) (e::es) i).run Tryz.prog w=(Instr.findAsking 67 (ridV k) es (i+1)).run Tryz.prog w:=by simp [Instr.findAsking,hq]
      rw [hf]
      rcases rid_ask ve w k es L (i+1) h3 with ⟨a1,a2⟩ | ⟨v,j,a1,a2,a3,a4⟩
      . exact .inl ⟨by simp [Zy,e1,a1],a2⟩
      . refine .inr ⟨v,j+1,by simp [Zy,e1,a1],by rw [a2,show i+1+j=i+(j+1) by omega],by simpa using a3,λ j' hj'=>?_⟩
        cases j' with
        | zero=>simpa using e1
        | succ j'=>simpa using a4 j' (by omega)
theorem rid_find {β:Type} (ve:β->Value) (w:World) (k:Int×Int) (es:List MapEntry) (L:List ((Int×Int)×β)) (h:es.map (λ e=>(e.key,e.val))=L.map (λ p=>(ridV p.1,ve p.2))):(Instr.findKey 67 (ridV k) es).run Tryz.prog w=(Instr.findAsking 67 (ridV k) es).run Tryz.prog w:=by
 cases es with
 | nil=>simp [Instr.findKey,run_underlying Tryz.underlying67,Instr.findNow,Instr.findAsking]
 | cons e es=>simp [Instr.findKey,run_underlying Tryz.underlying67,Instr.findNow,Instr.sameNow]
theorem Sx.ridKey : KeyOk Tryz.prog 67 ridV where
  chk w k e:=by
    have h3:=Tryz.underlying67
    have h4:=Tryz.underlying3
    obtain ⟨d,hd⟩ : ∃ d:Nat,10000=d+1+1:=⟨9998,rfl⟩
    rw [hd]
    simp [Instr.checkKey,run_underlying h3,run_underlying h4,part,isAgg]
  stays w k:=by
    obtain ⟨d,hd⟩ : ∃ d:Nat,10000=d+1+1:=⟨9998,rfl⟩
    unfold Instr.keyThatStays
    rw [hd]
    simp [Instr.sameBits]
  find ve w k es L h:=by
    rw [rid_find ve w k es L h]
    rcases rid_ask ve w k es L 0 h with ⟨a1,a2⟩ | ⟨v,j,a1,a2,a3,a4⟩
    . exact .inl ⟨a1,a2⟩
    . rw [Nat.zero_add] at a2
      exact .inr ⟨v,j,a1,a2,a3,a4⟩
theorem Sx.okR : MapOk Tryz.prog 131 ridV (.bool false):=⟨⟨67,4,Tryz.underlying131,by kernel_rfl,Sx.ridKey⟩,ridV_inj⟩
open Go.RowKit
abbrev plc (x:Ver):Int×Int:=((x.page:Int),(x.slot:Int))
def AllOne (h:HR):Prop := ∀ v∈h.vs,v.beg=1/\v.fin=0
theorem AllOne.add {h:HR} (a:AllOne h) (d:List UInt8):AllOne (Wm h 1 d).1:=by
  rcases add_cases h 1 d with ⟨_,e⟩ | ⟨q,_,_,_,_,h5⟩
  . rw [e];exact a
  . rw [h5]
    intro v hv
    rw [write_add_vs] at hv
    rcases List.mem_append.1 hv with hv | hv
    . exact a v hv
    . simp at hv;subst hv;exact ⟨rfl,rfl⟩
theorem all_len {h:HR} (r:RepOk h):(allR h).length<=14*h.pages:=by
 unfold allR
 have key : ∀ l:List Nat,(l.flatMap λ q=>(Zh h.vs q).filterMap (visV h)).length<=14*l.length:=by
  intro l
  induction l with
  | nil=>simp
  | cons q l ih =>
   rw [List.flatMap_cons,List.length_append,List.length_cons]
   have h1:=pages_len r q
   have h2:=List.length_filterMap_le (visV h) (Zh h.vs q)
   omega
 have:=key (List.range h.pages)
 rwa [List.length_range] at this
theorem Losing.told {h:HR} {c rm:Nat} {A:List Ver} (a:Losing h c rm A []):(∀ x∈A,x.fin=0)/\Ending (beginR h) c rm 3 (λ z=>z=0\/z=2) (A.map plc):=by
  have hA:=a.all rfl
  have hac : ∀ z,Zp h z=false:=λ z=>by unfold Zp;rw [a.act];rfl
  have hcm : ∀ z,Wa h z=decide (z=1):=λ z=>by unfold Wa;rw [a.cm];rw [Bool.eq_iff_iff];simp
  have key : ∀ (v x:Ver),v∈h.vs->visV h v=some x->v.beg=1/\(v.fin=0\/v.fin=2)/\x.fin=0:=by
    intro v x hv hx
    unfold visV at hx
    simp only [hac,hcm,true_and] at hx
    rcases a.vs v hv with ⟨e1,e2⟩ | e
    . rw [e1] at hx
      rw [if_neg (by simp)] at hx
      rw [if_pos (by rcases e2 with e | e <;> simp [e])] at hx
      cases hx
      exact ⟨e1,e2,rfl⟩
    . rw [e] at hx
      rw [if_pos (by simp)] at hx
      cases hx
  have hmem : ∀ x∈A,∃ (i:Nat) (v:Ver),We h.vs x.page x.slot=some i/\h.vs[i]? = some v/\v.beg=1/\(v.fin=0\/v.fin=2)/\x.fin=0:=by
    intro x hx
    rw [<-hA] at hx
    obtain ⟨i,v,h1,h2,h3,_⟩:=all_mem a.r hx
    exact ⟨i,v,h1,h2,key v x (List.mem_of_getElem? h2) h3⟩
  refine ⟨λ x hx=>by obtain ⟨_,_,_,_,_,_,e⟩:=hmem x hx;exact e,a.r.begin,a.pages,a.room,?_,a.cm,?_,?_,λ p hp=>?_⟩
  . show h.act++[h.last+1]=[3];rw [a.act,a.last];rfl
  . show h.last+1=3;rw [a.last];rfl
  . rw [<-hA];exact all_nodup a.r
  . obtain ⟨x,hx,rfl⟩:=List.mem_map.1 hp
    obtain ⟨i,v,h1,h2,h3,h4,_⟩:=hmem x hx
    exact ⟨i,v,h1,h2,h3,h4⟩
open Go.RowKit
structure ItM where
 it:It
 g:Nat
 c:Nat
abbrev itC (x:ItM):List Value:=[.int .i64 x.it.page,.int .i64 x.it.slot,.slice (offA (some ⟨x.g,0,none⟩) x.c 3 3) x.it.f.row.length (x.c-3),.int .i64 x.it.f.fr,.int .i64 x.it.f.to,.int .i64 x.it.since,.int .i64 x.it.til]
abbrev itA (x:ItM):Wp:=vxR (some ⟨x.g,0,none⟩) (3+x.it.f.row.length) x.c (valsF x.it.t x.it.f)
def itsA (L:List ItM):Wp:=sepL (L.map itA)
abbrev itR (p:Option Addr) (n c:Nat) (L:List ItM):Wp:=row (.slice p n c) 69 7 n (L.flatMap itC)
theorem its_snoc {L:List ItM} {x:ItM} {l:List Wp} {k:Piece} (H:Has (itA x::itsA L::l) k):Has (itsA (L++[x])::l) k:=by
 unfold itsA
 rw [List.map_append]
 exact sep_pushS H
theorem it_step {L:List ItM} {x:ItM} {p:Option Addr} {n c:Nat} {cs:List Value} (hx:cs=itC x) {l:List Wp} {k:Piece} (H:Has (itA x::itsA L::row (.slice p n c) 69 7 n (L.flatMap itC++cs)::l) k):Has (itR p n c (L++[x])::itsA (L++[x])::l) k:=by
 have H1:=its_snoc H
 subst hx
 unfold itR
 rw [List.flatMap_append,show [x].flatMap itC=itC x by simp]
 exact Has.swap H1
theorem Own.itsNil {B:Wn} {w:World} {l:List Wp} (H:Own B w l):Own B w (itR none 0 0 []::itsA []::l):=H.map λ _ K=>rowNilP (sep_nilS K)
theorem Sx.elemI : ElemOk Tryz.prog 51 69 7 72 := .mk' (.agg #[.int .i64 0,.int .i64 0,.slice none 0 0,.int .i64 0,.int .i64 0,.int .i64 0,.int .i64 0]) Tryz.underlying51 (by kernel_rfl) rfl (by omega)
theorem Sx.okM : MapOk Tryz.prog 90 zV (zV 0):=MapOk.mk3 2 2 (.int .i64) Tryz.underlying90 Tryz.underlying2 (λ _=>rfl) i64_inj
def StamI (st:List (Int×Int)) (h:HR):Prop := ∀ t,(Zy st t).getD 0=stampR h t
structure StX where
 gh:Nat
 gm:Nat
 st:List (Int×Int)
abbrev stoB (s gh gm:Nat) (last:Int):Wp:=blk s [pV gh,.map (some gm),.int .i64 last] 92
abbrev stM (x:StX) (st:List (Int×Int)):Wp:=mpA zV zV x.gm st
abbrev stoC (s b logs count n K:Nat) (x:StX) (h:HR):List Wp:=[stoB s x.gh x.gm (lastS h),stM x x.st,hpA x.gh b logs count n K h]
def stoA (s b logs count n K:Nat) (h:HR):Wp:=exA λ x:StX=>sepL (pu (StamI x.st h)::stoC s b logs count n K x h)
theorem Own.openSto {B:Wn} {w:World} {s b logs count n K:Nat} {h:HR} {l:List Wp} (H:Own B w (stoA s b logs count n K h::l)) : ∃ x,StamI x.st h/\Own B w (stoC s b logs count n K x h++l):=by
 obtain ⟨k,a,c,H0⟩:=H.has
 obtain ⟨x,H1⟩:=Has.open_ex H0
 have H2:=Has.open_sepL H1
 obtain ⟨hA,H3⟩:=Has.open_pu H2
 exact ⟨x,hA,H.os,H.tape,H.output,H.ro,k,a,c,H3⟩
theorem Fn.openSto {P:Program} {B:Wn} {f:FuncId} {args:Array Value} {s b logs count n K:Nat} {h:HR} {S:List Wp} {R:Value->List Wp->Prop}
  (hh : ∀ x:StX,StamI x.st h->Fn P B f args (stoC s b logs count n K x h++S) R):Fn P B f args (stoA s b logs count n K h::S) R:=⟨λ w F ho=>by
 obtain ⟨x,hi,ho'⟩:=Own.openSto (l:=S++F) ho
 rw [<-List.append_assoc] at ho'
 exact (hh x hi).run w F ho'⟩
theorem sto_close {s b logs count n K:Nat} (L:List Wp) (x:StX) (h:HR) (hi:StamI x.st h) (e:L=stoC s b logs count n K x h) {l r m:List Wp} [k:TakeL L l r] [t:SubC (stoA s b logs count n K h::r) m]:Sub l m:=λ p H=>by
 refine t.sub p (Has.close_ex x ?_)
 refine Has.close_sepL (l:=pu _::stoC s b logs count n K x h) (Has.close_pu hi ?_)
 have:=k.take p H
 rw [e] at this
 exact this
theorem hist_take {h:HR} {V:List VerM} {table:Int} {i:Nat} {y:VerM} (hy:V[i]? = some y):(((V.take (i+1)).map (·.v)).map (itemR h)).filter (λ i=>decide (i.t=table\/table<0))=(((V.take i).map (·.v)).map (itemR h)).filter (λ i=>decide (i.t=table\/table<0))++(if (factR y.v.data).1=table\/table<0 then [itemR h y.v] else []):=by
 obtain ⟨hi,he⟩:=List.getElem?_eq_some_iff.1 hy
 rw [List.take_succ_eq_append_getElem hi,he,List.map_append,List.map_append,List.filter_append]
 congr 1
 by_cases q:(factR y.v.data).1=table\/table<0
 . rw [if_pos q,List.map_cons,List.map_nil,List.map_cons,List.map_nil,List.filter_cons_of_pos (by exact decide_eq_true q)];rfl
 . rw [if_neg q,List.map_cons,List.map_nil,List.map_cons,List.map_nil,List.filter_cons_of_neg (by rw [decide_eq_true_eq];exact q)];rfl
theorem Sx.history (B:Wn) (s b logs count n K:Nat) (h:HR) (si:SI h count (logs*256)) (hK:K+count<2^29) (hc:count<=4096) (table:Int) :
  Fn Tryz.prog B 14 #[pV s,.int .i64 table] [stoA s b logs count n K h] (λ u l => ∃ L p c,L.map (·.it)=histR h table/\u = .slice p L.length c/\l=[itR p L.length c L,itsA L,stoA s b logs count n (K+count) h]):=by
 refine Fn.openSto λ x hst=>?_
 simp only [stoC,List.cons_append,List.nil_append]
 have hal:=all_len si.r.ok
 have hpg:=si.pages
 refine Wr 58 Tryz.func14 rfl rfl (nB rfl) (λ F=>?_)
 try simp only [cA,nA]
 refine TS (La rfl (Ld (TS (La rfl (Ld (Ts (TS ?_)))))))
 iterate 4 refine Lz ?_
 refine Le (Ec (Hp.all B x.gh b logs count n K h hK) Tryz.func22 rfl rfl rfl ?_)
 rintro _ _ ⟨V,pv,cv,hV1,hV2,rfl,rfl⟩
 try simp only [cA,nA]
 have hVl:V.length=(allR h).length:=by rw [<-hV2,List.length_map]
 refine LW.own λ w ho=>?_
 have hvo:VmsOk V:=(ho.map Sa:Own B w [vmsA V]).vmsOk hV1
 have hpv:0<V.length -> ∃ g,pv=some ⟨g,0,none⟩:=((ho.map Sa:Own B w [vmR pv V.length cv V]).slice_at (p:=pv) (m:=V.length) (c:=cv)).2.1
 clear ho
 iterate 2 refine Lz ?_
 refine Ld (yH (T.conv (λ w ho=>ho.itsNil) ?_))
 refine zG (λ mz fz lz => ∃ (f0:Fr) (i n2:Nat) (L:List ItM) (po:Option Addr) (co:Nat),(i<=V.length/\n2=L.length/\n2<=i/\L.map (·.it)=(((V.take i).map (·.v)).map (itemR h)).filter (λ i=>decide (i.t=table\/table<0)))/\mz=V.length-i/\fz=(upd (upd (upd (upd (upd (upd f0 0 (pV s)) 1 (.int .i64 table)) 5 (.slice po n2 co)) 15 (.slice pv V.length cv)) 16 (.int .i64 V.length)) 17 (.int .i64 i))/\lz=itR po n2 co L::itsA L::vmR pv V.length cv V::vmsA V::stoB s x.gh x.gm (lastS h)::stM x x.st::hpA x.gh b logs count n (K+count) h::F) ?_ ?_
 . refine ⟨_,_,⟨_,0,0,[],none,0,⟨Nat.zero_le _,rfl,Nat.le_refl _,rfl⟩,rfl,U6,rfl⟩,Sa⟩
 rintro mz fz lz ⟨f0,i,n2,L,po,co,⟨hi,hn2,hni,hmap⟩,hmz,rfl,rfl⟩
 subst mz
 refine TS (Lq (yM rfl rfl) (Ld (Ts ?_)))
 refine yN rfl (λ hlt=>?_) (λ hlt=>?_)
 .
  obtain ⟨gv,rfl⟩:=hpv (by omega)
  obtain ⟨y,hy⟩ : ∃ y,V[i]? = some y:=⟨_,List.getElem?_eq_getElem (by omega)⟩
  have hil:=(List.getElem?_eq_some_iff.1 hy).1
  have hyv:y.v∈h.vs:=si.mem.1 (by rw [<-hV2];exact List.mem_map_of_mem (List.mem_of_getElem? hy))
  obtain ⟨t,f,hx,hdat⟩:=si.rc y.v hyv
  have hft:=factR_rec hx
  have hht:=hist_take (h:=h) (table:=table) hy
  rw [hdat,hft] at hht
  have hrd:=RdV.ver (B:=B) hvo hy
  have hit:itemR h y.v=⟨y.v.page,y.v.slot,t,f,stampR h y.v.beg,stampR h y.v.fin⟩:=by unfold itemR;rw [hdat,hft]
  rw [hit] at hht
  have hdl:(encL (valsF t f)).length=y.v.data.length:=by rw [hdat]
  refine Tk (Ts (yH (TS ?_)))
  refine Lz ?_
  refine Lq (QL [.int .i64 y.v.page,.int .i64 y.v.slot,.int .i64 y.v.beg,.int .i64 y.v.fin,.slice (offA y.p y.c 16 1) y.v.data.length (y.c-16)] rfl (by rw [show [Value.int .i64 y.v.page,.int .i64 y.v.slot,.int .i64 y.v.beg,.int .i64 y.v.fin,.slice (offA y.p y.c 16 1) y.v.data.length (y.c-16)]=vmC (V[i]'hil) by rw [(List.getElem?_eq_some_iff.1 hy).2]];exact rdl_flat _ _ _ (by intros;rfl) _ (by omega))) ?_
  refine Le (El [.int .i64 0,.int .i64 0,.int .i64 0,.int .i64 0,.slice none 0 0] (by unfold Zf;kernel_rfl) ?_)
  intro g7
  refine L0 (Es [_,_,_,_,_] rfl rfl rfl rfl (by simp) ?_)
  try simp only [splice,lC,lN,dS,cA,tS,tZ,dZ,nA,aN]
  refine Ld (TS ?_)
  iterate 2 refine Lz ?_
  refine Le (Ec (Sx.read B [vmsA V] t f (offA y.p y.c 16 1) y.v.data.length (y.c-16) hx hdl (by rw [<-hdat];exact hrd)) Tryz.func23 rfl rfl rfl ?_)
  rintro _ _ ⟨g,c,rfl,rfl⟩
  try simp only [cA,nA]
  iterate 4 refine Lz ?_
  refine Le (El [.slice none 0 0,.int .i64 0,.int .i64 0] (by unfold Zf;kernel_rfl) ?_)
  intro g9
  refine La rfl ?_
  refine L0 (Es [_,_,_] rfl rfl rfl rfl (by simp) ?_)
  try simp only [splice,lC,lN,dS,cA,tS,tZ,dZ,nA,aN]
  refine La rfl (Ld (TS ?_))
  iterate 4 refine Lz ?_
  refine zZ (t:=31) rfl (λ h1=>?_) (λ h1=>?_)
  .
   try replace h1:=of_decide_eq_true h1
   iterate 3 refine Lz ?_
   refine Ld (zF rfl ?_)
   rw [if_pos (Or.inl h1)] at hht
   refine T.draw 21 ([blk g9 [.slice (offA (some ⟨g,0,none⟩) c 3 3) f.row.length (c-3),.int .i64 f.fr,.int .i64 f.to] 61,blk g7 [.int .i64 y.v.page,.int .i64 y.v.slot,.int .i64 y.v.beg,.int .i64 y.v.fin,.slice (offA y.p y.c 16 1) y.v.data.length (y.c-16)] 99,stoB s x.gh x.gm (lastS h),stM x x.st]) (nB rfl) ?_
   refine Rz 0 ?_;refine Rz 1 ?_;refine Rz 2 ?_;refine Rz 3 ?_;refine Rz 4 ?_;refine Rz 5 ?_;refine Rz 6 ?_;refine Rz 7 ?_;refine Rz 8 ?_;refine Rz 9 ?_
   refine Rq 10 rfl Sa (zT Sx.okM rfl y.v.beg rfl 0 rfl) ?_
   refine Rz 11 ?_;refine Rz 12 ?_;refine Rz 13 ?_;refine Rz 14 ?_;refine Rz 15 ?_;refine Rz 16 ?_
   refine Rq 17 rfl Sa (zT Sx.okM rfl y.v.fin rfl 0 rfl) (Rq 18 rfl Sa (z8 [(0,2),(2,3),(5,1),(6,1)] [.int .i64 0,.int .i64 0,.slice none 0 0,.int .i64 0,.int .i64 0,.int .i64 0,.int .i64 0] [_,_,_,_,_,_,_] [(0,_),(1,_),(2,_),(3,_)] (by unfold Zf;kernel_rfl) rfl rfl) (yK 19 ?_))
   refine zY rfl (zK [_,_,_,_,_,_,_] (e:=69) (sz:=7) ⟨.agg #[.int .i64 0,.int .i64 0,.slice none 0 0,.int .i64 0,.int .i64 0,.int .i64 0,.int .i64 0],by kernel_rfl,rfl⟩ rfl rfl rfl ?_)
   intro g54
   refine yK 20 ?_
   refine zY rfl (Ea Sx.elemI rfl rfl (SrcOf.blk (by kernel_rfl) rfl (by simp [Value.oneCell'])) (by unfold maxLen;omega) ?_)
   rintro p4 c4 hp4
   try simp only [cA,nA]
   rw [hst y.v.beg,hst y.v.fin]
   refine Rd0 (by rfl) ?_
   simp only [dS,dZ,dN]
   refine La rfl (Ld (TR ?_))
   iterate 2 refine Lz ?_
   refine Ld ?_
   have hstep:=λ k=>it_step (L:=L) (x:=⟨⟨y.v.page,y.v.slot,t,f,stampR h y.v.beg,stampR h y.v.fin⟩,g,c⟩) (p:=p4) (n:=n2+1) (c:=c4) (cs:=[.int .i64 y.v.page,.int .i64 y.v.slot,.slice (offA (some ⟨g,0,none⟩) c 3 3) f.row.length (c-3),.int .i64 f.fr,.int .i64 f.to,.int .i64 (stampR h y.v.beg),.int .i64 (stampR h y.v.fin)]) rfl (l:=vmR (some ⟨gv,0,none⟩) V.length cv V::vmsA V::stoB s x.gh x.gm (lastS h)::stM x x.st::hpA x.gh b logs count n (K+count) h::F) (k:=k)
   refine ⟨_,?_,_,⟨_,i+1,n2+1,L++[⟨⟨y.v.page,y.v.slot,t,f,stampR h y.v.beg,stampR h y.v.fin⟩,g,c⟩],p4,c4,⟨by omega,by simp [hn2],by omega,by rw [hht,List.map_append,hmap];rfl⟩,rfl,U6,rfl⟩,(λ k K=>Sa k (hstep k (Sa k K)))⟩
   omega
  try replace h1:=of_decide_eq_false h1
  iterate 3 refine Lz ?_
  refine Ld ?_
  refine yN rfl (λ h2=>?_) (λ h2=>?_)
  .
   rw [if_pos (Or.inr h2)] at hht
   refine T.draw 21 ([blk g9 [.slice (offA (some ⟨g,0,none⟩) c 3 3) f.row.length (c-3),.int .i64 f.fr,.int .i64 f.to] 61,blk g7 [.int .i64 y.v.page,.int .i64 y.v.slot,.int .i64 y.v.beg,.int .i64 y.v.fin,.slice (offA y.p y.c 16 1) y.v.data.length (y.c-16)] 99,stoB s x.gh x.gm (lastS h),stM x x.st]) (nB rfl) ?_
   refine Rz 0 ?_;refine Rz 1 ?_;refine Rz 2 ?_;refine Rz 3 ?_;refine Rz 4 ?_;refine Rz 5 ?_;refine Rz 6 ?_;refine Rz 7 ?_;refine Rz 8 ?_;refine Rz 9 ?_
   refine Rq 10 rfl Sa (zT Sx.okM rfl y.v.beg rfl 0 rfl) ?_
   refine Rz 11 ?_;refine Rz 12 ?_;refine Rz 13 ?_;refine Rz 14 ?_;refine Rz 15 ?_;refine Rz 16 ?_
   refine Rq 17 rfl Sa (zT Sx.okM rfl y.v.fin rfl 0 rfl) (Rq 18 rfl Sa (z8 [(0,2),(2,3),(5,1),(6,1)] [.int .i64 0,.int .i64 0,.slice none 0 0,.int .i64 0,.int .i64 0,.int .i64 0,.int .i64 0] [_,_,_,_,_,_,_] [(0,_),(1,_),(2,_),(3,_)] (by unfold Zf;kernel_rfl) rfl rfl) (yK 19 ?_))
   refine zY rfl (zK [_,_,_,_,_,_,_] (e:=69) (sz:=7) ⟨.agg #[.int .i64 0,.int .i64 0,.slice none 0 0,.int .i64 0,.int .i64 0,.int .i64 0,.int .i64 0],by kernel_rfl,rfl⟩ rfl rfl rfl ?_)
   intro g54
   refine yK 20 ?_
   refine zY rfl (Ea Sx.elemI rfl rfl (SrcOf.blk (by kernel_rfl) rfl (by simp [Value.oneCell'])) (by unfold maxLen;omega) ?_)
   rintro p4 c4 hp4
   try simp only [cA,nA]
   rw [hst y.v.beg,hst y.v.fin]
   refine Rd0 (by rfl) ?_
   simp only [dS,dZ,dN]
   refine La rfl (Ld (TR ?_))
   iterate 2 refine Lz ?_
   refine Ld ?_
   have hstep:=λ k=>it_step (L:=L) (x:=⟨⟨y.v.page,y.v.slot,t,f,stampR h y.v.beg,stampR h y.v.fin⟩,g,c⟩) (p:=p4) (n:=n2+1) (c:=c4) (cs:=[.int .i64 y.v.page,.int .i64 y.v.slot,.slice (offA (some ⟨g,0,none⟩) c 3 3) f.row.length (c-3),.int .i64 f.fr,.int .i64 f.to,.int .i64 (stampR h y.v.beg),.int .i64 (stampR h y.v.fin)]) rfl (l:=vmR (some ⟨gv,0,none⟩) V.length cv V::vmsA V::stoB s x.gh x.gm (lastS h)::stM x x.st::hpA x.gh b logs count n (K+count) h::F) (k:=k)
   refine ⟨_,?_,_,⟨_,i+1,n2+1,L++[⟨⟨y.v.page,y.v.slot,t,f,stampR h y.v.beg,stampR h y.v.fin⟩,g,c⟩],p4,c4,⟨by omega,by simp [hn2],by omega,by rw [hht,List.map_append,hmap];rfl⟩,rfl,U6,rfl⟩,(λ k K=>Sa k (hstep k (Sa k K)))⟩
   omega
  rw [if_neg (λ q=>q.elim h1 h2),List.append_nil] at hht
  refine Tk (TR ?_)
  iterate 2 refine Lz ?_
  refine Ld ?_
  refine ⟨_,?_,_,⟨_,i+1,n2,L,po,co,⟨by omega,hn2,by omega,by rw [hht];exact hmap⟩,rfl,U6,rfl⟩,Sa⟩
  omega
 obtain rfl:i=V.length:=by omega
 rw [List.take_length,hV2] at hmap
 subst hn2
 refine zB (TS (Lm rfl (La rfl (Ld (T.ret ?_)))))
 exact ⟨.inl rfl,_,_,res [_] rfl ⟨rvT rfl,trivial⟩,⟨L,po,co,hmap,rfl,rfl⟩,(λ k K2=>Sa k (sto_close (m:=stoA s b logs count n (K+count) h::itR po L.length co L::itsA L::F) [stoB s x.gh x.gm (lastS h),stM x x.st,hpA x.gh b logs count n (K+count) h] x h hst rfl k K2))⟩
open Go.RowKit
theorem its_drop {L:List ItM} {i:Nat} {x:ItM} (hx:L[i]? = some x):itsA (L.drop i)=sepL (itA x::(L.drop (i+1)).map itA):=by
 obtain ⟨hi,he⟩:=List.getElem?_eq_some_iff.1 hx
 unfold itsA
 rw [List.drop_eq_getElem_cons hi,he,List.map_cons]
theorem Has.its_pop {L:List ItM} {i:Nat} {x:ItM} (hx:L[i]? = some x) {l:List Wp} {k:Piece} (H:Has (itsA (L.drop i)::l) k):Has (itA x::itsA (L.drop (i+1))::l) k:=by
 rw [its_drop hx] at H
 exact Wt (λ _ q=>Has.close_sepL q) (Has.open_sepL H:Has (itA x::((L.drop (i+1)).map itA++l)) k)
theorem see_take {L:List ItM} {i:Nat} {y:ItM} (hy:L[i]? = some y) (f:It->Bool):((L.take (i+1)).map (·.it)).filter f=((L.take i).map (·.it)).filter f++(if f y.it=true then [y.it] else []):=by
 obtain ⟨hi,he⟩:=List.getElem?_eq_some_iff.1 hy
 rw [List.take_succ_eq_append_getElem hi,he,List.map_append,List.filter_append]
 congr 1
 by_cases q:f y.it=true
 . rw [if_pos q,List.map_cons,List.map_nil,List.filter_cons_of_pos q];rfl
 . rw [if_neg q,List.map_cons,List.map_nil,List.filter_cons_of_neg q];rfl
theorem hist_len {h:HR} {c rm:Nat} (s:SI h c rm) (hc:c<=4096) (table:Int):(histR h table).length<2^30:=by
 have h1:(histR h table).length<=(allR h).length:=by unfold histR;exact Nat.le_trans (List.length_filter_le _ _) (by rw [List.length_map];exact Nat.le_refl _)
 have h2:=all_len s.r.ok
 have h3:=s.pages
 omega
theorem Sx.last (B:Wn) (s b logs count n K:Nat) (h:HR):Fn Tryz.prog B 11 #[pV s] [stoA s b logs count n K h] (λ u l=>u = .int .i64 (lastS h)/\l=[stoA s b logs count n K h]):=by
 refine Fn.openSto λ x hst=>?_
 simp only [stoC,List.cons_append,List.nil_append]
 refine Wq 7 Tryz.func11 rfl rfl (nB rfl) (λ F=>?_)
 try simp only [cA,nA]
 refine TS (La rfl (Ld (TS ?_)))
 iterate 5 refine Lz ?_
 refine Ld (T.ret ?_)
 exact ⟨.inl rfl,_,_,res [_] rfl ⟨rvT rfl,trivial⟩,⟨rfl,rfl⟩,(λ k K2=>Sa k (sto_close (m:=stoA s b logs count n K h::F) [stoB s x.gh x.gm (lastS h),stM x x.st,hpA x.gh b logs count n K h] x h hst rfl k K2))⟩
theorem Sx.see (B:Wn) (s b logs count n K:Nat) (h:HR) (si:SI h count (logs*256)) (table at_:Int) (hK:K+count<2^29:=by omega) (hc:count<=4096:=by omega) :
  Fn Tryz.prog B 18 #[pV s,.int .i64 table,.int .i64 at_] [stoA s b logs count n K h] (λ u l => ∃ L p c,L.map (·.it)=seeR h table at_/\u = .slice p L.length c/\l=[itR p L.length c L,itsA L,stoA s b logs count n (K+count) h]):=by
 refine Ws 39 Tryz.func18 rfl rfl (nB rfl) (λ F=>?_)
 try simp only [cA,nA]
 refine TS (La rfl (Ld (TS (La rfl (Ld (Ts (TS (Lm rfl (Lm rfl ?_)))))))))
 refine Le (Ec (Sx.history B s b logs count n K h si hK hc table) Tryz.func14 rfl rfl rfl ?_)
 rintro _ _ ⟨L,pv,cv,hL,rfl,rfl⟩
 try simp only [cA,nA]
 have hhl:L.length<2^30:=by have:=congrArg List.length hL;rw [List.length_map] at this;rw [this];exact hist_len si hc table
 refine LW.own λ w ho=>?_
 have hpv:0<L.length -> ∃ g,pv=some ⟨g,0,none⟩:=((ho.map Sa:Own B w [itR pv L.length cv L]).slice_at (p:=pv) (m:=L.length) (c:=cv)).2.1
 clear ho
 iterate 2 refine Lz ?_
 refine Ld (yH (T.conv (l':=itR none 0 0 []::itsA []::itR pv L.length cv L::itsA (L.drop 0)::stoA s b logs count n (K+count) h::F) (λ w ho=>by rw [List.drop_zero];exact ho.itsNil) ?_))
 refine zG (λ mz fz lz => ∃ (f0:Fr) (i n2:Nat) (M:List ItM) (po:Option Addr) (co:Nat),(i<=L.length/\n2=M.length/\n2<=i/\M.map (·.it)=((L.take i).map (·.it)).filter (λ i=>decide (i.since<=at_/\(i.til=0\/at_<i.til))))/\mz=L.length-i/\fz=(upd (upd (upd (upd (upd (upd (upd f0 0 (pV s)) 1 (.int .i64 table)) 2 (.int .i64 at_)) 7 (.slice po n2 co)) 12 (.slice pv L.length cv)) 13 (.int .i64 L.length)) 14 (.int .i64 i))/\lz=itR po n2 co M::itsA M::itR pv L.length cv L::itsA (L.drop i)::stoA s b logs count n (K+count) h::F) ?_ ?_
 . refine ⟨_,_,⟨_,0,0,[],none,0,⟨Nat.zero_le _,rfl,Nat.le_refl _,rfl⟩,rfl,U7,rfl⟩,Sa⟩
 rintro mz fz lz ⟨f0,i,n2,M,po,co,⟨hi,hn2,hni,hmap⟩,hmz,rfl,rfl⟩
 subst mz
 refine TS (Lq (yM rfl rfl) (Ld (Ts ?_)))
 refine yN rfl (λ hlt=>?_) (λ hlt=>?_)
 .
  obtain ⟨gv,rfl⟩:=hpv (by omega)
  obtain ⟨y,hy⟩ : ∃ y,L[i]? = some y:=⟨_,List.getElem?_eq_getElem (by omega)⟩
  have hil:=(List.getElem?_eq_some_iff.1 hy).1
  have hht:=see_take hy (λ i=>decide (i.since<=at_/\(i.til=0\/at_<i.til)))
  refine T.conv (l':=itA y::itsA (L.drop (i+1))::itR po n2 co M::itsA M::itR (some ⟨gv,0,none⟩) L.length cv L::stoA s b logs count n (K+count) h::F) (λ w ho=>(ho.map Sa:Own B w (itsA (L.drop i)::itR po n2 co M::itsA M::itR (some ⟨gv,0,none⟩) L.length cv L::stoA s b logs count n (K+count) h::F)).map λ _ q=>q.its_pop hy) (Tk (Ts (yH (TS ?_))))
  refine Lz ?_
  refine Lq (QL (itC y) rfl (by rw [show itC y=itC (L[i]'hil) by rw [(List.getElem?_eq_some_iff.1 hy).2]];exact rdl_flat _ _ _ (by intros;rfl) _ (by omega))) ?_
  refine Le (El [.int .i64 0,.int .i64 0,.slice none 0 0,.int .i64 0,.int .i64 0,.int .i64 0,.int .i64 0] (by unfold Zf;kernel_rfl) ?_)
  intro g9
  refine L0 (Es [_,_,_,_,_,_,_] rfl rfl rfl rfl (by simp) ?_)
  try simp only [splice,lC,lN,dS,cA,tS,tZ,dZ,nA,aN]
  refine Ld (TS ?_)
  iterate 5 refine Lz ?_
  refine zZ (t:=22) rfl (λ h1=>?_) (λ h1=>?_)
  .
   try replace h1:=of_decide_eq_true h1
   iterate 4 refine Lz ?_
   refine zZ (t:=26) rfl (λ h2=>?_) (λ h2=>?_)
   .
    try replace h2:=of_decide_eq_true h2
    iterate 6 refine Lz ?_
    refine Ld (zF rfl ?_)
    rw [if_pos (decide_eq_true ⟨h1,.inl h2⟩)] at hht
    refine TR ?_
    iterate 2 refine Lz ?_
    refine Le (zK [_,_,_,_,_,_,_] (e:=69) (sz:=7) ⟨.agg #[.int .i64 0,.int .i64 0,.slice none 0 0,.int .i64 0,.int .i64 0,.int .i64 0,.int .i64 0],by kernel_rfl,rfl⟩ rfl rfl rfl ?_)
    intro g35
    refine Le (Ea Sx.elemI rfl rfl (SrcOf.blk (by kernel_rfl) rfl (by simp [Value.oneCell'])) (by unfold maxLen;omega) ?_)
    rintro p4 c4 hp4
    refine La rfl (Ld (TR ?_))
    iterate 2 refine Lz ?_
    refine Ld ?_
    have hstep:=λ k=>it_step (L:=M) (x:=y) (p:=p4) (n:=n2+1) (c:=c4) (cs:=itC y) rfl (l:=itR (some ⟨gv,0,none⟩) L.length cv L::itsA (L.drop (i+1))::stoA s b logs count n (K+count) h::F) (k:=k)
    refine ⟨_,?_,_,⟨_,i+1,n2+1,M++[y],p4,c4,⟨by omega,by simp [hn2],by omega,by rw [hht,List.map_append,hmap];rfl⟩,rfl,U7,rfl⟩,(λ k Q=>Sa k (hstep k (Sa k Q)))⟩
    omega
   try replace h2:=of_decide_eq_false h2
   iterate 6 refine Lz ?_
   refine Ld ?_
   refine yN rfl (λ h3=>?_) (λ h3=>?_)
   .
    rw [if_pos (decide_eq_true ⟨h1,.inr h3⟩)] at hht
    refine TR ?_
    iterate 2 refine Lz ?_
    refine Le (zK [_,_,_,_,_,_,_] (e:=69) (sz:=7) ⟨.agg #[.int .i64 0,.int .i64 0,.slice none 0 0,.int .i64 0,.int .i64 0,.int .i64 0,.int .i64 0],by kernel_rfl,rfl⟩ rfl rfl rfl ?_)
    intro g35
    refine Le (Ea Sx.elemI rfl rfl (SrcOf.blk (by kernel_rfl) rfl (by simp [Value.oneCell'])) (by unfold maxLen;omega) ?_)
    rintro p4 c4 hp4
    refine La rfl (Ld (TR ?_))
    iterate 2 refine Lz ?_
    refine Ld ?_
    have hstep:=λ k=>it_step (L:=M) (x:=y) (p:=p4) (n:=n2+1) (c:=c4) (cs:=itC y) rfl (l:=itR (some ⟨gv,0,none⟩) L.length cv L::itsA (L.drop (i+1))::stoA s b logs count n (K+count) h::F) (k:=k)
    refine ⟨_,?_,_,⟨_,i+1,n2+1,M++[y],p4,c4,⟨by omega,by simp [hn2],by omega,by rw [hht,List.map_append,hmap];rfl⟩,rfl,U7,rfl⟩,(λ k Q=>Sa k (hstep k (Sa k Q)))⟩
    omega
   rw [if_neg (by rw [decide_eq_true_eq];exact λ q=>q.2.elim h2 h3),List.append_nil] at hht
   refine Tk (TR ?_)
   iterate 2 refine Lz ?_
   refine Ld ?_
   refine ⟨_,?_,_,⟨_,i+1,n2,M,po,co,⟨by omega,hn2,by omega,by rw [hht];exact hmap⟩,rfl,U7,rfl⟩,Sa⟩
   omega
  try replace h1:=of_decide_eq_false h1
  iterate 10 refine Lz ?_
  refine Ld (yQ rfl ?_)
  rw [if_neg (by rw [decide_eq_true_eq];exact λ q=>h1 q.1),List.append_nil] at hht
  refine Tk (TR ?_)
  iterate 2 refine Lz ?_
  refine Ld ?_
  refine ⟨_,?_,_,⟨_,i+1,n2,M,po,co,⟨by omega,hn2,by omega,by rw [hht];exact hmap⟩,rfl,U7,rfl⟩,Sa⟩
  omega
 obtain rfl:i=L.length:=by omega
 rw [List.take_length,hL] at hmap
 subst hn2
 refine zB (TS (Lm rfl (La rfl (Ld (T.ret ?_)))))
 exact ⟨.inl rfl,_,_,res [_] rfl ⟨rvT rfl,trivial⟩,⟨M,po,co,hmap,rfl,rfl⟩,Sa⟩
open Go.RowKit
section
variable {P : Program} {B:Wn} {n:Nat} {l r:List Wp} {f:Fr} {K:Value->List Wp->Prop}
variable {d : Option Tmp} {ty:TypeId} {pos:String} {af:Array Edge} {gd:Option (Nat×Bool)}
variable {α β:Type} [DecidableEq α] {ke:α->Value} {ve:β->Value} {L:List (α×β)} {g:Nat}
theorem look_get {k:α} {v:β} {j:Nat} (h:Zy L k=some v) (h1:L[j]?.map (·.1)=some k) (h2 : ∀ (j':Nat),j'<j->L[j']?.map (·.1)≠some k):L[j]? = some (k,v):=by
 have h3:=putL_old (v:=v) h1 h2
 have h4:Zy L k=some v->putL L k v=L:=by
  clear h h1 h2 h3
  induction L with
  | nil=>intro h;cases h
  | cons p L ih =>
   intro h
   unfold Zy at h
   unfold putL
   split at h
   . rename_i e;injection h with h;subst e;subst h;rw [if_pos rfl]
   . rename_i e;rw [if_neg e,ih h]
 rw [h4 h] at h3
 have h5:j<L.length:=by
  cases hq:L[j]? with
  | none=>rw [hq] at h1;cases h1
  | some q=>exact (List.getElem?_eq_some_iff.1 hq).1
 rw [h3,List.getElem?_set_self h5]
theorem run_mapEntry {t:TypeId} {z:Value} (M:MapOk P t ke z) (w:World) (k:α) (v0:β) (hz:z=ve v0) {es:Array MapEntry} {clock:Nat} (hb:w.heap[g]? = some (.map es clock)) (hm:MapIs ke ve L es clock) :
    ∃ (b:Nat) (es':Array MapEntry) (c':Nat),(Instr.mapEntry t (.map (some g)) (ke k)).run P w = .ok (.tuple #[ve ((Zy L k).getD v0),.int .i64 b]) {w with heap:=w.heap.setIfInBounds g (.map es' c')}/\MapIs ke ve (putL L k ((Zy L k).getD v0)) es' c' /\ ∃ e∈es'.toList,e.key=ke k/\e.born=b:=by
  obtain ⟨kt,et,h1,h2,h3,h4⟩:=mapOk_sub (ve:=ve) M w k false
  obtain ⟨kt',et',u1,u2,U⟩:=M.ex
  rcases h4 es.toList L hm.eq with ⟨a1,a2⟩ | ⟨v,j,a1,a2,a3,a4⟩
  . refine ⟨clock,es.push ⟨ke k,ve v0,clock⟩,clock+1,?_,by rw [a1];exact hm.push M.inj a1,⟨ke k,ve v0,clock⟩,by simp,rfl,rfl⟩
    rw [a1]
    simp [Instr.mapEntry,run_underlying h1,MapKept.run_getObj_map hb,h2,a2,h3,hz,MapKept.run_setObj_map _ hb,goInt]
  . have hj : ∃ e,es[j]? = some e/\e.key=ke k/\e.val=ve v:=by
      have hg:=look_get a1 a3 a4
      have hlt:j<es.size:=by rw [hm.len];exact (List.getElem?_eq_some_iff.1 hg).1
      obtain ⟨p,hp,e1,e2⟩:=hm.at_ (Array.getElem?_eq_getElem hlt)
      rw [hg] at hp
      injection hp with hp
      subst hp
      exact ⟨_,Array.getElem?_eq_getElem hlt,e1,e2⟩
    obtain ⟨e,hq,hek,hev⟩:=hj
    have hmod:es.modify j (λ e=>{e with key:=ke k})=es.modify j λ e=>{e with key:=ke k,val:=ve v}:=by
      apply Array.ext_getElem?
      intro i
      rw [Array.getElem?_modify,Array.getElem?_modify]
      split
      . rename_i q;subst q;rw [hq];simp [hev]
      . rfl
    refine ⟨e.born,es.modify j (λ e=>{e with key:=ke k}),clock,?_,by rw [a1,hmod];exact hm.modify a3 a4,{e with key:=ke k},?_,rfl,rfl⟩
    . rw [a1]
      simp [Instr.mapEntry,run_underlying h1,MapKept.run_getObj_map hb,h2,a2,hq,hek,U.stays _ k,MapKept.run_setObj_map _ hb,goInt]
    . apply List.mem_of_getElem? (i:=j)
      rw [Array.getElem?_toList,Array.getElem?_modify,if_pos rfl,hq];rfl
theorem run_entryStore {t:TypeId} (hi : ∀ a b,ke a=ke b->a=b) (w:World) (k:α) (v:β) (b:Nat) {es:Array MapEntry} {clock:Nat} (hb:w.heap[g]? = some (.map es clock)) (hm:MapIs ke ve L es clock) (he : ∃ e∈es.toList,e.key=ke k/\e.born=b) :
  ∃ (es':Array MapEntry) (c':Nat),(Instr.entryStore t (.map (some g)) (.int .i64 b) (ve v)).run P w = .ok () {w with heap:=w.heap.setIfInBounds g (.map es' c')}/\MapIs ke ve (putL L k v) es' c':=by
 obtain ⟨e,hem,hek,heb⟩:=he
 have hex : ∃ i,es.findIdx? (λ e=>(e.born:Int) == (b:Int))=some i:=by
  cases hq:es.findIdx? (λ e=>(e.born:Int) == (b:Int)) with
  | some i=>exact ⟨i,rfl⟩
  | none =>
   have:=Array.findIdx?_eq_none_iff.1 hq e (by simpa using hem)
   simp [heb] at this
 obtain ⟨i,hidx⟩:=hex
 obtain ⟨hlt,hbi,hfirst⟩:=Array.findIdx?_eq_some_iff_getElem.1 hidx
 have hbi':es[i].born=b:=by have:=beq_iff_eq.1 hbi;exact Int.ofNat.inj this
 obtain ⟨j,hj,hje⟩:=List.getElem_of_mem hem
 have hij:i=j:=by
  have hn:=hm.st.2.1
  have h1:(es.toList.map (·.born))[i]? = some b:=by simp [hlt,hbi']
  have h2:(es.toList.map (·.born))[j]? = some b:=by simp [List.getElem?_eq_getElem hj,hje,heb]
  exact (List.getElem?_inj (by simpa using hlt) hn).1 (h1.trans h2.symm)
 subst hij
 have hei:es[i]=e:=by rw [<-hje];simp
 obtain ⟨p,hp,e1,e2⟩:=hm.at_ (Array.getElem?_eq_getElem hlt)
 have hpk:p.1=k:=by
  rw [hei,hek] at e1
  exact (hi _ _ e1).symm
 have hnd:=hm.nodup
 have a3:L[i]?.map (·.1)=some k:=by rw [hp];simp [hpk]
 have a4 : ∀ (j':Nat),j'<i->L[j']?.map (·.1)≠some k:=λ j' hj' q=>by
  have h1:(L.map (·.1))[i]? = some k:=by simpa using a3
  have h2:(L.map (·.1))[j']? = some k:=by simpa using q
  have:=(List.getElem?_inj (List.getElem?_eq_some_iff.1 h1).1 hnd).1 (h1.trans h2.symm)
  omega
 have hmod:es.modify i (λ e=>{e with val:=ve v})=es.modify i λ e=>{e with key:=ke k,val:=ve v}:=by
  apply Array.ext_getElem?
  intro i2
  rw [Array.getElem?_modify,Array.getElem?_modify]
  split
  . rename_i q;subst q;rw [Array.getElem?_eq_getElem hlt,hei];simp [hek]
  . rfl
 refine ⟨es.modify i (λ e=>{e with val:=ve v}),clock,?_,by rw [hmod];exact hm.modify a3 a4⟩
 simp [Instr.entryStore,MapKept.run_getObj_map hb,asInt,asIntOf,hidx,MapKept.run_setObj_map _ hb]
theorem Ef.mapEntry {t:TypeId} {x y:Operand} {z:Value} (M:MapOk P t ke z) (hx:ev n f x=some (.map (some g))) (k:α) (hy:ev n f y=some (ke k)) [kk:TakeM g l ke ve L r] (v0:β) (hz:z=ve v0) (h : ∀ b:Nat,K (.tuple #[ve ((Zy L k).getD v0),.int .i64 b]) (msA ke ve g (putL L k ((Zy L k).getD v0)) k b::r)):Ef P B n ⟨d,.mapEntry t x y,ty,pos,af,gd⟩ f l K:=⟨λ w next Q ho hk=>by
 have ho2:=ho.takeM (k:=kk)
 obtain ⟨es,c,hb,hm⟩:=ho2.mapHead
 obtain ⟨b,es',c',hr,hm',he'⟩:=run_mapEntry M w k v0 hz hb hm
 unfold Oper.wp execOp
 simp only [Wk,Zc hx,Zc hy,Sem.run_bind,hr,Sem.run_pure,Result.andThen_ok]
 exact hk _ _ _ (h b) (ho2.setMap (λ h ⟨es,c,e,_⟩=>⟨_,e⟩) λ h h1 _ e _=>⟨es',c',e,hm',he'⟩)⟩
theorem Ef.entryStore {t t2:TypeId} {x y v:Operand} {z:Value} (M:MapOk P t ke z) (hx:ev n f x=some (.map (some g))) (k:α) (b:Nat) (hy:ev n f y=some (.int .i64 b)) (bv:β) (hv:ev n f v=some (ve bv)) [kk:TakeA (msA ke ve g L k b) l r] (h:K (.tuple #[]) (mpA ke ve g (putL L k bv)::r)):Ef P B n ⟨d,.entryStore t2 x y v,ty,pos,af,gd⟩ f l K:=⟨λ w next Q ho hk=>by
 have ho2:=ho.take (k:=kk)
 obtain ⟨p,q0,hl,h1,_,_,a1,_,⟨es,c,e1,hm,he⟩,_⟩:=ho2.has
 have hb:=hl.p _ _ (a1.p _ _ e1)
 obtain ⟨es',c',hr,hm'⟩:=run_entryStore (P:=P) (t:=t2) M.inj w k bv b hb hm he
 unfold Oper.wp execOp
 simp only [Wk,Zc hx,Zc hy,Zc hv,Sem.run_bind,hr,Sem.run_pure,Result.andThen_ok]
 exact hk _ _ _ h (ho2.setMap (λ h ⟨es,c,e,_⟩=>⟨_,e⟩) λ h h1 _ e _=>⟨es',c',e,hm'⟩)⟩
end
open Go.RowKit
theorem Sx.check (B:Wn) (S:List Wp) (s:Value) (t:Int) (f:Fx1) (ra:Option Addr) (m rc:Nat) (hl:f.row.length=m) (hv:FlV B S vxC (.slice ra m rc) f.row) (hf:FxRd f) (ht : -(2^63)<=t/\t<2^63) :
  Fn Tryz.prog B 28 #[s,.int .i64 t,factV ra m rc f] S (λ u r=>u = .int .i64 (recE t f)/\r=S):=by
 refine Ws 16 Tryz.func28 rfl rfl (nB rfl) (λ F=>?_)
 refine TS ?_
 refine Le (zL [_,_,_] rfl rfl ?_)
 intro g5
 refine La rfl (Ld (TS ?_))
 iterate 2 refine Lz ?_
 by_cases hno:recE t f=0
 .
  refine Le (Ec (Sx.record B S t f ra m rc hl hv hf ht hno) Tryz.func34 rfl rfl rfl ?_)
  rintro _ l2 ⟨p,c,_,rfl,hl2⟩
  rw [hl2]
  simp only [List.cons_append]
  iterate 5 refine Lz ?_
  refine Ld (TS (Lm rfl (La rfl (Ld (T.ret ?_)))))
  exact ⟨.inl rfl,_,_,res [_] rfl ⟨rvT rfl,trivial⟩,⟨by rw [hno];rfl,rfl⟩,Sa⟩
 refine Le (Ec (Sx.recordNo B S t f ra m rc hl hv hf ht hno) Tryz.func34 rfl rfl rfl ?_)
 rintro _ _ ⟨rfl,rfl⟩
 iterate 5 refine Lz ?_
 refine Ld (TS (Lm rfl (La rfl (Ld (T.ret ?_)))))
 exact ⟨.inl rfl,_,_,res [_] rfl ⟨rvT rfl,trivial⟩,⟨rfl,rfl⟩,Sa⟩
def lastC (cm:List (Int×Int)):Int:=match cm.getLast? with | none=>0 | some c=>c.2
theorem lastC_snoc {cm:List (Int×Int)} {c:Int×Int}:lastC (cm++[c])=c.2:=by unfold lastC;rw [List.getLast?_concat]
theorem an_cmR {count rm:Nat} {es:List En} (hh:HistOk count rm es):(anRun (es.zip (mksOf es))).cm=(reopen count rm es).cm:=by
 have hrep:=RepOk.replay hh
 obtain ⟨hre,hrp,hrr,hra,hrl⟩:=replay_es count rm es
 have hz:(es.zip (mksOf es)).map (·.1)=es:=zip_map_fst (mks_len es).symm
 have h3:=hrep.cm
 rw [hre] at h3
 have h4:=hrep.nd
 rw [h3] at h4
 show _=(replay count rm es).cm
 rw [(an_ok (es.zip (mksOf es)) (by rw [hz];exact h4)).cm,hz,h3]
theorem cm_step {cm:List (Int×Int)} (hn:(cm.map (·.1)).Nodup) {i:Nat} {c:Int×Int} (hc:cm[i]? = some c) (u:Int):stampL (cm.take (i+1)) u=if u=c.1 then c.2 else stampL (cm.take i) u:=by
 obtain ⟨hi,he⟩:=List.getElem?_eq_some_iff.1 hc
 rw [List.take_succ_eq_append_getElem hi,he]
 refine stampL_snoc (λ q=>?_) u
 obtain ⟨x,hx,e⟩:=List.mem_map.1 q
 obtain ⟨j,hj,e2⟩:=List.getElem_of_mem hx
 have hj':j<i:=by simp at hj;omega
 rw [List.getElem_take] at e2
 have h1:(cm.map (·.1))[j]? = some c.1:=by rw [List.getElem?_map,List.getElem?_eq_getElem (by omega),e2];simp [e]
 have h2:(cm.map (·.1))[i]? = some c.1:=by rw [List.getElem?_map,hc];rfl
 have:=(List.getElem?_inj (List.getElem?_eq_some_iff.1 h1).1 hn).1 (h1.trans h2.symm)
 omega
theorem stam_step {cm st:List (Int×Int)} (hn:(cm.map (·.1)).Nodup) {i:Nat} {c:Int×Int} (hc:cm[i]? = some c) (hst : ∀ t,(Zy st t).getD 0=stampL (cm.take i) t) (v0:Int) : ∀ t,(Zy (putL (putL st c.1 v0) c.1 c.2) t).getD 0=stampL (cm.take (i+1)) t:=λ t=>by
 rw [cm_step hn hc t]
 by_cases q:t=c.1
 . rw [if_pos q,q,look_put_same];rfl
 . rw [if_neg q,look_put_ne _ (λ e=>q e.symm),look_put_ne _ (λ e=>q e.symm)];exact hst t
theorem Sx.open (B:Wn) (b:Nat) (D:DD) (logs count n K0:Nat) (i j:Int) (hi:i=logs) (hj:j=n) (es:List En) (h1:1<=logs) (hc:1<=count) (hc2:count<=4096) (hl:D.secs.length=logs+count) (hn1:1<=n) (hn2:n<=4096) (hroom:D.pend.length+4096<2^32) (hh:HistOk count (logs*256) es)
  (hscan : ∃ x y,Wj (allD D 0 logs) (logs*256+1) 0 0=(x,y,logR 0 (es.map Zj))) (hK0:lastE es<=K0) (hK:K0+count+es.length+count<2^29) (si:SI (reopen count (logs*256) es) count (logs*256)) :
  Fn Tryz.prog B 8 #[pV b,.int .i64 i,.int .i64 j] [Zn b D] (λ u l => ∃ s,u = .tuple #[pV s,.int .i64 0]/\l=[stoA s b logs count n (K0+count+es.length+count) (reopen count (logs*256) es)]):=by
 have hcm0:=an_cmR hh
 obtain ⟨h,hh0⟩ : ∃ h,reopen count (logs*256) es=h:=⟨_,rfl⟩
 have hcm:(anRun (es.zip (mksOf es))).cm=h.cm:=by rw [hcm0,hh0]
 have hal:=all_len si.r.ok
 have hpg:=si.pages
 have hnd:=si.r.ok.nd
 have hcl:h.cm.length<=es.length:=by
  have hrep:=RepOk.replay hh
  have h3:=hrep.cm
  rw [(replay_es count (logs*256) es).1] at h3
  rw [<-hh0]
  show (replay count (logs*256) es).cm.length<=_
  rw [h3];exact List.length_filterMap_le ..
 refine Ws 75 Tryz.func8 rfl rfl (nB rfl) (λ F=>?_)
 try simp only [cA,nA]
 refine TS (La rfl (La rfl (Ld (TS ?_))))
 iterate 3 refine Lz ?_
 refine Le (Ec (Hp.open B b D logs count n K0 i j hi hj es h1 hc hl hn1 hn2 hroom hh hscan hK0 (by omega)) Tryz.func21 rfl rfl rfl ?_)
 rintro _ _ ⟨g,p1,p2,p3,c1,c2,c3,rfl,rfl⟩
 try simp only [cA,nA]
 rw [hcm,hh0]
 rw [hh0] at hnd hal hpg si
 refine LW.own λ w ho=>?_
 have hp1:0<h.cm.length -> ∃ g,p1=some ⟨g,0,none⟩:=((ho.map Sa:Own B w [cmR p1 h.cm.length c1 h.cm]).slice_at (p:=p1) (m:=h.cm.length) (c:=c1)).2.1
 clear ho
 iterate 4 refine Lz ?_
 refine Le (El [.slice none 0 0,.slice none 0 0,.slice none 0 0,.int .i64 0] (by unfold Zf;kernel_rfl) ?_)
 intro g9
 refine La rfl ?_
 refine L0 (Es [_,_,_,_] rfl rfl rfl rfl (by simp) ?_)
 try simp only [splice,lC,lN,dS,cA,tS,tZ,dZ,nA,aN]
 refine La rfl (Ld (Ts (TS (Lm rfl (Lq (yW rfl rfl) (Ld (yQ rfl (Tk (TS (Lm rfl ?_))))))))))
 refine Le (YD Int Int zV zV ?_)
 rintro gm
 refine Lq (z8 [(0,1),(1,1),(2,1)] [.pointer none,.map none,.int .i64 0] [_,_,_] [(0,_),(1,_)] (by unfold Zf;kernel_rfl) rfl rfl) ?_
 refine Le (zL [_,_,_] rfl rfl ?_)
 intro g33
 refine La rfl (Ld (Ts (TS ?_)))
 iterate 4 refine Lz ?_
 refine Ld (yH ?_)
 refine zG (λ mz fz lz => ∃ (f0:Fr) (i:Nat) (st:List (Int×Int)) (la:Int),(i<=h.cm.length/\la=lastC (h.cm.take i) /\ ∀ t,(Zy st t).getD 0=stampL (h.cm.take i) t)/\mz=h.cm.length-i/\fz=(upd (upd (upd (upd (upd f0 8 (pV g)) 11 (.pointer (some ⟨g33,0,none⟩))) 35 (.slice p1 h.cm.length c1)) 36 (.int .i64 h.cm.length)) 37 (.int .i64 i))/\lz=blk g33 [pV g,.map (some gm),.int .i64 la] 92::mpA zV zV gm st::cmR p1 h.cm.length c1 h.cm::hpA g b logs count n (K0+count+es.length) h::F) ?_ ?_
 . refine ⟨_,_,⟨_,0,[],0,⟨Nat.zero_le _,rfl,λ t=>rfl⟩,rfl,U5,rfl⟩,Sa⟩
 rintro mz fz lz ⟨f0,i,st,la,⟨hi,hla,hst⟩,hmz,rfl,rfl⟩
 subst mz
 refine TS (Lq (yM rfl rfl) (Ld (Ts ?_)))
 refine yN rfl (λ hlt=>?_) (λ hlt=>?_)
 .
  obtain ⟨gp,rfl⟩:=hp1 (by omega)
  obtain ⟨y,hy⟩ : ∃ y,h.cm[i]? = some y:=⟨_,List.getElem?_eq_getElem (by omega)⟩
  have hil:=(List.getElem?_eq_some_iff.1 hy).1
  have htk:h.cm.take (i+1)=h.cm.take i++[y]:=by obtain ⟨q1,q2⟩:=List.getElem?_eq_some_iff.1 hy;rw [List.take_succ_eq_append_getElem q1,q2]
  refine Tk (Ts (yH (TS ?_)))
  refine Lz ?_
  refine Lq (QL [.int .i64 y.1,.int .i64 y.2] rfl (by rw [show [Value.int .i64 y.1,.int .i64 y.2]=stC (h.cm[i]'hil) by rw [(List.getElem?_eq_some_iff.1 hy).2]];exact rdl_flat _ _ _ (by intros;rfl) _ (by omega))) ?_
  refine Le (El [.int .i64 0,.int .i64 0] (by unfold Zf;kernel_rfl) ?_)
  intro g13
  refine L0 (Es [_,_] rfl rfl rfl rfl (by simp) ?_)
  try simp only [splice,lC,lN,dS,cA,tS,tZ,dZ,nA,aN]
  refine Ld (T.draw 14 ([blk g13 [.int .i64 y.1,.int .i64 y.2] 94,blk g33 [pV g,.map (some gm),.int .i64 la] 92]) (nB rfl) ?_)
  refine Rz 0 ?_;refine Rz 1 ?_;refine Rz 2 ?_;refine Rz 3 ?_;refine Rz 4 ?_;refine Rz 5 ?_;refine Rz 6 ?_;refine Rz 7 ?_;refine Rz 8 ?_;refine Rz 9 ?_;refine Rz 10 ?_
  refine yK 11 ?_
  refine z6 rfl (Ef.mapEntry Sx.okM rfl y.1 rfl 0 rfl ?_)
  rintro b1
  refine ⟨Sa,?_⟩
  refine Rz 12 ?_
  refine yK 13 ?_
  refine YH rfl (Ef.entryStore (ke:=zV) (ve:=zV) (L:=putL st y.1 ((Zy st y.1).getD 0)) Sx.okM rfl y.1 b1 rfl y.2 rfl ?_)
  refine ⟨Sa,?_⟩
  refine Rd0 (by rfl) ?_
  simp only [dS,dZ,dN]
  iterate 2 refine Lz ?_
  refine L0 (E1 (by kernel_rfl) rfl rfl rfl (by first | (simp;done) | (simp;omega)) ?_)
  try simp only [List.set_cons_zero,List.set_cons_succ]
  refine Ld (TR ?_)
  iterate 2 refine Lz ?_
  refine Ld ?_
  refine ⟨_,?_,_,⟨_,i+1,putL (putL st y.1 ((Zy st y.1).getD 0)) y.1 y.2,y.2,⟨by omega,by rw [htk,lastC_snoc],stam_step hnd hy hst _⟩,rfl,U5,rfl⟩,Sa⟩
  omega
 obtain rfl:i=h.cm.length:=by omega
 rw [List.take_length] at hst hla
 obtain rfl:la=lastS h:=hla
 refine zB (Ts (TS (Lm rfl ?_)))
 refine Le (Ec (Hp.all B g b logs count n (K0+count+es.length) h (by omega)) Tryz.func22 rfl rfl rfl ?_)
 rintro _ _ ⟨V,pv,cv,hV1,hV2,rfl,rfl⟩
 try simp only [cA,nA]
 have hVl:V.length=(allR h).length:=by rw [<-hV2,List.length_map]
 refine LW.own λ w ho=>?_
 have hvo:VmsOk V:=(ho.map Sa:Own B w [vmsA V]).vmsOk hV1
 have hpv:0<V.length -> ∃ g,pv=some ⟨g,0,none⟩:=((ho.map Sa:Own B w [vmR pv V.length cv V]).slice_at (p:=pv) (m:=V.length) (c:=cv)).2.1
 clear ho
 iterate 2 refine Lz ?_
 refine Ld (yH ?_)
 refine zG (λ mz fz lz => ∃ (f0:Fr) (i:Nat),(i<=V.length)/\mz=V.length-i/\fz=(upd (upd (upd (upd f0 11 (.pointer (some ⟨g33,0,none⟩))) 58 (.slice pv V.length cv)) 59 (.int .i64 V.length)) 60 (.int .i64 i))/\lz=vmR pv V.length cv V::vmsA V::hpA g b logs count n (K0+count+es.length+count) h::blk g33 [pV g,.map (some gm),.int .i64 (lastS h)] 92::mpA zV zV gm st::F) ?_ ?_
 . refine ⟨_,_,⟨_,0,Nat.zero_le _,rfl,U4,rfl⟩,Sa⟩
 rintro mz fz lz ⟨f0,i,hi,hmz,rfl,rfl⟩
 subst mz
 refine TS (Lq (yM rfl rfl) (Ld (Ts ?_)))
 refine yN rfl (λ hlt2=>?_) (λ hlt2=>?_)
 .
  obtain ⟨gv,rfl⟩:=hpv (by omega)
  obtain ⟨y,hy⟩ : ∃ y,V[i]? = some y:=⟨_,List.getElem?_eq_getElem (by omega)⟩
  have hil:=(List.getElem?_eq_some_iff.1 hy).1
  have hyv:y.v∈h.vs:=si.mem.1 (by rw [<-hV2];exact List.mem_map_of_mem (List.mem_of_getElem? hy))
  obtain ⟨t,f,hx,hdat⟩:=si.rc y.v hyv
  have hrd:=RdV.ver (B:=B) hvo hy
  have hdl:(encL (valsF t f)).length=y.v.data.length:=by rw [hdat]
  refine Tk (Ts (yH (TS ?_)))
  refine Lz ?_
  refine Lq (QL [.int .i64 y.v.page,.int .i64 y.v.slot,.int .i64 y.v.beg,.int .i64 y.v.fin,.slice (offA y.p y.c 16 1) y.v.data.length (y.c-16)] rfl (by rw [show [Value.int .i64 y.v.page,.int .i64 y.v.slot,.int .i64 y.v.beg,.int .i64 y.v.fin,.slice (offA y.p y.c 16 1) y.v.data.length (y.c-16)]=vmC (V[i]'hil) by rw [(List.getElem?_eq_some_iff.1 hy).2]];exact rdl_flat _ _ _ (by intros;rfl) _ (by omega))) ?_
  refine Le (El [.int .i64 0,.int .i64 0,.int .i64 0,.int .i64 0,.slice none 0 0] (by unfold Zf;kernel_rfl) ?_)
  intro g15
  refine L0 (Es [_,_,_,_,_] rfl rfl rfl rfl (by simp) ?_)
  try simp only [splice,lC,lN,dS,cA,tS,tZ,dZ,nA,aN]
  refine Ld (TS ?_)
  iterate 2 refine Lz ?_
  refine Le (Ec (Sx.read B [vmsA V] t f (offA y.p y.c 16 1) y.v.data.length (y.c-16) hx hdl (by rw [<-hdat];exact hrd)) Tryz.func23 rfl rfl rfl ?_)
  rintro _ _ ⟨g,c,rfl,rfl⟩
  try simp only [cA,nA]
  iterate 4 refine Lz ?_
  refine Le (El [.slice none 0 0,.int .i64 0,.int .i64 0] (by unfold Zf;kernel_rfl) ?_)
  intro g17
  refine La rfl ?_
  refine L0 (Es [_,_,_] rfl rfl rfl rfl (by simp) ?_)
  try simp only [splice,lC,lN,dS,cA,tS,tZ,dZ,nA,aN]
  refine La rfl (Ld (TS (Lm rfl (Lq (Y2 rfl) (Ld (yQ rfl (Tk (TR ?_))))))))
  iterate 2 refine Lz ?_
  refine Ld ?_
  refine ⟨_,?_,_,⟨_,i+1,by omega,rfl,U4,rfl⟩,Sa⟩
  omega
 refine zB (TS ?_)
 iterate 3 refine Lz ?_
 refine Ld (T.ret ?_)
 exact ⟨.inl rfl,_,_,res [_,_] rfl ⟨rvT rfl,rvT rfl,trivial⟩,⟨g33,rfl,rfl⟩,(λ k K2=>Sa k (sto_close (m:=stoA g33 b logs count n (K0+count+es.length+count) h::F) [stoB g33 g gm (lastS h),stM ⟨g,gm,st⟩ st,hpA g b logs count n (K0+count+es.length+count) h] ⟨g,gm,st⟩ h hst rfl k K2))⟩
end Go.Proofs.YtkfmfoecplbclaaGreatDoor
