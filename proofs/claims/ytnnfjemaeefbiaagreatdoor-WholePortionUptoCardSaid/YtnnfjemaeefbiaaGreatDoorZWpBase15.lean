/- The texts QfA QfB QfC QfD QgC QhA QhB QhC RaA RaB RaC, one behind the other: what the law leans on. Conditions: as each theorem says. -/
import Derived.Test.YtnnfjemaeefbiaaGreatDoorZWpBase14
import Derived.Laws.StructEq
set_option linter.unusedSimpArgs false
set_option linter.unusedVariables false
set_option maxRecDepth 100000
set_option maxHeartbeats 16000000
namespace Go.Proofs.YtnnfjemaeefbiaaGreatDoor
open Go.RowKit
section
variable {P : Program} {B:Wn} {n:Nat} {S:List Wp} {f:Fr} {d:Option Tmp} {ty:TypeId} {pos:String} {af:Array Edge} {gd:Option (Nat×Bool)}
def EqSt (P:Program) (t:TypeId) (xs ys:Array Value) (r:Bool):Prop:=(P.eqGuardType P.depth t=false) /\ ∀ w,(Op.equalIn 10000 t (.agg xs) (.agg ys)).run P w = .ok r w
theorem Qt.eqlSt {t t2:TypeId} {x y:Operand} {xs ys:Array Value} {r:Bool} (h:EqSt P t xs ys r) (hx:ev n f x=some (.agg xs)) (hy:ev n f y=some (.agg ys)):Qt P B n S ⟨d,.binOp .eql t x y t2,ty,pos,af,gd⟩ f (.bool r):=⟨λ w _=>by
  simp [execOp,Zc hx,Zc hy,run_eqGuard_agg w _ t x y xs ys h.1,run_eql_struct,h.2 w]⟩
theorem YV {t t2:TypeId} {x y:Operand} {xs ys:Array Value} {r:Bool} (h:EqSt P t xs ys r) (hx:ev n f x=some (.agg xs)) (hy:ev n f y=some (.agg ys)):Qt P B n S ⟨d,.binOp .neq t x y t2,ty,pos,af,gd⟩ f (.bool (!r)):=⟨λ w _=>by
  simp [execOp,Zc hx,Zc hy,run_eqGuard_agg w _ t x y xs ys h.1,run_neq_struct,h.2 w]⟩
theorem part_int {t:TypeId} {k:IntKind} (hu:P.underlying t=some (.int k)) {cs:Array Value} {off:Nat} {v:Value} (h:cs[off]? = some v) (w:World):(part t cs off).run P w = .ok v w:=by
  simp [part,isAgg,run_underlying hu,h]
theorem part_str {t:TypeId} (hu:P.underlying t=some .string) {cs:Array Value} {off:Nat} {v:Value} (h:cs[off]? = some v) (w:World):(part t cs off).run P w = .ok v w:=by
  simp [part,isAgg,run_underlying hu,h]
theorem eqF_int {d:Nat} {g:Field} {fs:List Field} {k:IntKind} {xs ys:Array Value} {a b:Int} (w:World) (hn:(decide (g.name ≠ "_"))=true) (hu:P.underlying g.type=some (.int k)) (hx:xs[g.offset]? = some (.int k a)) (hy:ys[g.offset]? = some (.int k b)) :
    (Op.eqFields (d+1) xs ys (g::fs)).run P w=if a=b then (Op.eqFields (d+1) xs ys fs).run P w else .ok false w:=by
  rw [Op.eqFields,if_pos (of_decide_eq_true hn)]
  simp only [Sem.run_bind,part_int hu hx,part_int hu hy,Result.andThen_ok,run_equalIn_int w d _ k k a b hu,Sem.run_ite]
  by_cases e:a=b
  . subst e;simp
  . simp [e]
theorem eqF_str {d:Nat} {g:Field} {fs:List Field} {xs ys:Array Value} {a b:List UInt8} (w:World) (hn:(decide (g.name ≠ "_"))=true) (hu:P.underlying g.type=some .string) (hx:xs[g.offset]? = some (.string (Zq a))) (hy:ys[g.offset]? = some (.string (Zq b))) :
    (Op.eqFields (d+1) xs ys (g::fs)).run P w=if a=b then (Op.eqFields (d+1) xs ys fs).run P w else .ok false w:=by
  rw [Op.eqFields,if_pos (of_decide_eq_true hn)]
  have e : ∀ l:List UInt8,(Zq l).toList=l:=λ l=>ByteArray.toList_mk l
  simp only [Sem.run_bind,part_str hu hx,part_str hu hy,Result.andThen_ok,run_equalIn_string w d _ _ _ hu,Sem.run_ite,e]
  by_cases e2:a=b
  . subst e2;simp
  . simp [e2]
theorem eqF_nil {d:Nat} {xs ys:Array Value} (w:World):(Op.eqFields d xs ys []).run P w = .ok true w:=by simp [Op.eqFields]
theorem fieldsOf_eq {t:TypeId} {fs:Array Field} (h:P.underlying t=some (.struct fs)):P.fieldsOf t=fs:=by unfold Program.fieldsOf;rw [h]
end
theorem EqSt.mk' {P:Program} {t:TypeId} {fs:List Field} {xs ys:Array Value} {r:Bool} (hg:(P.eqGuardType P.depth t=false)) (hu:P.underlying t=some (.struct fs.toArray)) (hp:P.stoodInHeld t=false) (h : ∀ d w,(Op.eqFields (d+1) xs ys fs).run P w = .ok r w):EqSt P t xs ys r:=by
  refine ⟨hg,λ w=>?_⟩
  have hf:=fieldsOf_eq hu
  obtain ⟨d,hd⟩ : ∃ d:Nat,10000=d+1+1:=⟨9998,rfl⟩
  rw [hd,run_equalIn_struct w (d+1) t xs ys (by rw [hf];exact hu) hp,hf]
  exact h d w
theorem eqPd (a b c d:Int):EqSt Tryz.prog 33 #[iV a,iV b] #[iV c,iV d] (decide (a=c/\b=d)):=by
  refine EqSt.mk' (by kernel_rfl) Tryz.underlying33 (by kernel_rfl) λ d0 w=>?_
  refine Eq.trans (eqF_int w (a:=a) (b:=c) rfl Tryz.underlying2 rfl rfl) ?_
  by_cases h:a=c
  . rw [if_pos h]
    refine Eq.trans (eqF_int w (a:=b) (b:=d) rfl Tryz.underlying2 rfl rfl) ?_
    by_cases h2:b=d
    . rw [if_pos h2,eqF_nil];simp [h,h2]
    . rw [if_neg h2];simp [h2]
  . rw [if_neg h];simp [h]
theorem eqVs (v:Va):EqSt Tryz.prog 24 (vaC v).toArray (vaC v).toArray true:=by
  refine EqSt.mk' (by kernel_rfl) Tryz.underlying24 (by kernel_rfl) λ d0 w=>?_
  refine Eq.trans (eqF_int w (a:=v.kind) (b:=v.kind) rfl Tryz.underlying3 rfl rfl) ?_
  rw [if_pos rfl]
  refine Eq.trans (eqF_int w (a:=v.int) (b:=v.int) rfl Tryz.underlying2 rfl rfl) ?_
  rw [if_pos rfl]
  refine Eq.trans (eqF_str w (a:=v.text) (b:=v.text) rfl Tryz.underlying9 rfl rfl) ?_
  rw [if_pos rfl,eqF_nil]
theorem bl_irrefl : ∀ s:Str,Op.bytesLess s s=false
  | []=>rfl
  | a::x=>by simp [Op.bytesLess,bl_irrefl x]
theorem Qf.one (B:Wn) (v:Va):Fn Tryz.prog B 119 #[vA v,vA v] [] (λ u l=>u=iV 0/\l=[]):=by
  refine Wr 41 Tryz.func119 rfl rfl (nB rfl) (λ F=>?_)
  try simp only [cA,nA]
  refine Ts ?_
  refine TR ?_
  refine Le (zL [_,_,_] rfl rfl ?_)
  intro g2
  refine Le (zL [_,_,_] rfl rfl ?_)
  intro g3
  refine La rfl ?_
  refine Ld ?_
  refine Ts ?_
  refine Ts ?_
  refine TR ?_
  refine Lq (Q0 rfl) ?_
  refine Lq (Ql rfl rfl) ?_
  refine Lq (Q0 rfl) ?_
  refine Lq (Ql rfl rfl) ?_
  refine Lq (yM rfl rfl) ?_
  refine Lm rfl ?_
  refine yT (t:=10) rfl (decide_eq_false (by omega)) ?_
  refine Lq (Q0 rfl) ?_
  refine Lq (Ql rfl rfl) ?_
  refine Lq (Q0 rfl) ?_
  refine Lq (Ql rfl rfl) ?_
  refine Lq (yU rfl rfl) ?_
  refine Lm rfl ?_
  refine zQ (t:=16) rfl (decide_eq_true (by omega)) ?_
  refine Lq (Qf (off:=1) rfl) ?_
  refine Lq (Ql rfl rfl) ?_
  refine Lq (Qf (off:=1) rfl) ?_
  refine Lq (Ql rfl rfl) ?_
  refine Lq (yM rfl rfl) ?_
  refine Lm rfl ?_
  refine yT (t:=22) rfl (decide_eq_false (by omega)) ?_
  refine Lq (Qf (off:=1) rfl) ?_
  refine Lq (Ql rfl rfl) ?_
  refine Lq (Qf (off:=1) rfl) ?_
  refine Lq (Ql rfl rfl) ?_
  refine Lq (yU rfl rfl) ?_
  refine Lm rfl ?_
  refine zQ (t:=28) rfl (decide_eq_true (by omega)) ?_
  refine Lq (Qf (off:=2) rfl) ?_
  refine Lq (Ql rfl rfl) ?_
  refine Lq (Qf (off:=2) rfl) ?_
  refine Lq (Ql rfl rfl) ?_
  refine Lq (Qt.lssS (a:=v.text) (b:=v.text) rfl rfl) ?_
  refine Lq (Qp rfl rfl) ?_
  refine Lq (Qp rfl rfl) ?_
  refine Lq (Qp rfl rfl) ?_
  refine Lq (Qp rfl rfl) ?_
  refine Ld ?_
  refine YQ rfl ((bl_irrefl _)) ?_
  refine Tk ?_
  refine Ts ?_
  refine Ts ?_
  refine TR ?_
  refine Lq (QL [_,_,_] rfl ⟨rfl,rfl,rfl,trivial⟩) ?_
  refine Lq (QL [_,_,_] rfl ⟨rfl,rfl,rfl,trivial⟩) ?_
  refine Lq (Qt.eqlSt (eqVs v) rfl rfl) ?_
  refine Ld ?_
  refine zF rfl ?_
  refine Ts ?_
  refine TR ?_
  refine La rfl ?_
  refine Ld ?_
  refine T.ret ?_
  exact ⟨.inl rfl,_,_,res [_] rfl ⟨rvT rfl,trivial⟩,⟨rfl,rfl⟩,Sa⟩
theorem Qf.cmp02 (B:Wn) (S:List Wp) (l:List Va) (pa pb:Option Addr) (m ca cb:Nat) (hl:l.length=m) (hm:m<2^32) (hv:FlV B S vaC (.slice pa m ca) l) (hu:FlV B S vaC (.slice pb m cb) l):Fn Tryz.prog B 67 #[.slice pa m ca,.slice pb m cb] S (λ u r=>u=iV 0/\r=S):=by
 refine Wr 41 Tryz.func67 rfl rfl (nB rfl) (λ F=>?_)
 refine Ts ?_
 refine TR ?_
 refine La rfl ?_
 refine Ld ?_
 refine Ts ?_
 refine Ts ?_
 refine TR ?_
 refine La rfl ?_
 refine Ld ?_
 refine yH ?_
 refine zG (λ mz fz lz => ∃ (f0:Fr) (k:Nat),(k<=m)/\mz=m-k/\fz=(upd (upd (upd f0 0 (.slice pa m ca)) 1 (.slice pb m cb)) 5 (.int .i64 k))/\lz=S++F) ?_ ?_
 . refine ⟨_,_,⟨_,0,Nat.zero_le _,rfl,(Za rfl (Za rfl (Za rfl rfl))),rfl⟩,Sa⟩
 rintro mz fz lz ⟨f0,k,hk,hmz,rfl,rfl⟩
 subst mz
 refine Ts ?_
 refine Ts ?_
 refine TR ?_
 refine Lm rfl ?_
 refine Lm rfl ?_
 refine Lq (yI (e:=24) (sz:=3) rfl) ?_
 refine Lq (yM rfl rfl) ?_
 refine Lm rfl ?_
 refine zZ (t:=11) rfl (λ hlt=>?_) (λ hlt=>?_)
 .
  try replace hlt:=of_decide_eq_true hlt
  refine Lm rfl ?_
  refine Lm rfl ?_
  refine Lq (yI (e:=24) (sz:=3) rfl) ?_
  refine Lq (yM rfl rfl) ?_
  refine Lq (Qp rfl rfl) ?_
  refine Ld ?_
  refine zM rfl (by omega) ?_
  obtain ⟨b,o,rfl,hr⟩:=hv.at (sz:=3) (λ _=>rfl) (by omega)
  obtain ⟨b2,o2,rfl,hr2⟩:=hu.at (sz:=3) (λ _=>rfl) (by omega)
  obtain ⟨v,hx⟩ : ∃ v,l[k]? = some v:=⟨_,List.getElem?_eq_getElem (by omega)⟩
  refine Tk ?_
  refine Ts ?_
  refine yH ?_
  refine Ts ?_
  refine zU 9 (nB rfl) ?_
  refine Rq 0 rfl (Sr _) (Qm rfl) ?_
  refine Rq 1 rfl (Sr _) (Qm rfl) ?_
  refine Rq 2 rfl (Sr _) (Qi _ (e:=24) (sz:=3) rfl rfl rfl) ?_
  refine Rq 3 rfl (Sr _) (Qt.loadAggW (vaC v) rfl (λ w ho=>hr k v hx w ho.drop)) ?_
  refine Rq 4 rfl (Sr _) (Qm rfl) ?_
  refine Rq 5 rfl (Sr _) (Qm rfl) ?_
  refine Rq 6 rfl (Sr _) (Qi _ (e:=24) (sz:=3) rfl rfl rfl) ?_
  refine Rq 7 rfl (Sr _) (Qt.loadAggW (vaC v) rfl (λ w ho=>hr2 k v hx w ho.drop)) ?_
  refine yK 8 ?_
  refine zY rfl (Ec (Qf.one B v) Tryz.func119 rfl rfl rfl ?_)
  rintro _ _ ⟨rfl,rfl⟩
  try simp only [cA,nA]
  refine Rd0 (by rfl) ?_
  simp only [dS,dZ,dN]
  refine La rfl ?_
  refine Ld ?_
  refine Ts ?_
  refine TR ?_
  refine Lm rfl ?_
  refine Lq (yW rfl rfl) ?_
  refine Ld ?_
  refine yQ rfl ?_
  refine Tk ?_
  refine TR ?_
  refine Lm rfl ?_
  refine Lq (Qd rfl rfl (Ze)) ?_
  refine La rfl ?_
  refine Ld ?_
  refine ⟨_,?_,_,⟨_,k+1,by omega,rfl,(Za rfl (Za rfl (Za rfl rfl))),rfl⟩,Sa⟩
  omega
 try replace hlt:=of_decide_eq_false hlt
 refine Ls rfl ?_
 refine Ls rfl ?_
 refine Ls rfl ?_
 refine Ls rfl ?_
 refine Lq (Qp rfl rfl) ?_
 refine Ld ?_
 refine yQ rfl ?_
 refine zB ?_
 refine Ts ?_
 refine Ts ?_
 refine TR ?_
 refine Lm rfl ?_
 refine Lq (yI (e:=24) (sz:=3) rfl) ?_
 refine Lm rfl ?_
 refine Lq (yI (e:=24) (sz:=3) rfl) ?_
 refine Lq (yM rfl rfl) ?_
 refine Ld ?_
 refine yL rfl (by omega) ?_
 refine Tk ?_
 refine Ts ?_
 refine Ts ?_
 refine TR ?_
 refine Lm rfl ?_
 refine Lq (yI (e:=24) (sz:=3) rfl) ?_
 refine Lm rfl ?_
 refine Lq (yI (e:=24) (sz:=3) rfl) ?_
 refine Lq (yZ rfl rfl) ?_
 refine Ld ?_
 refine yL rfl (by omega) ?_
 refine Tk ?_
 refine Ts ?_
 refine TR ?_
 refine La rfl ?_
 refine Ld ?_
 refine T.ret ?_
 exact ⟨.inl rfl,_,_,res [_] rfl ⟨rvT rfl,trivial⟩,⟨rfl,rfl⟩,Sa⟩
theorem Qf.same02 (B:Wn) (S:List Wp) (l:List Va) (pa pb:Option Addr) (m ca cb:Nat) (hl:l.length=m) (hm:m<2^32) (hv:FlV B S vaC (.slice pa m ca) l) (hu:FlV B S vaC (.slice pb m cb) l):Fn Tryz.prog B 39 #[.slice pa m ca,.slice pb m cb] S (λ u r=>u = .bool true/\r=S):=by
  refine Wr 16 Tryz.func39 rfl rfl (nB rfl) (λ F=>?_)
  refine Ts ?_
  refine TR ?_
  refine La rfl ?_
  refine Ld ?_
  refine Ts ?_
  refine TR ?_
  refine Lm rfl ?_
  refine Lq (yI (e:=24) (sz:=3) rfl) ?_
  refine Lm rfl ?_
  refine Lq (yI (e:=24) (sz:=3) rfl) ?_
  refine Lq (yU rfl rfl) ?_
  refine Lm rfl ?_
  refine zQ (t:=10) rfl (decide_eq_true (by omega)) ?_
  refine Lm rfl ?_
  refine Lm rfl ?_
  refine Le (Ec (Qf.cmp02 B S l pa pb m ca cb hl hm hv hu) Tryz.func67 rfl rfl rfl ?_)
  rintro _ _ ⟨rfl,rfl⟩
  try simp only [cA,nA]
  refine Lq (yU rfl rfl) ?_
  refine Lq (Qp rfl rfl) ?_
  refine La rfl ?_
  refine Ld ?_
  refine T.ret ?_
  exact ⟨.inl rfl,_,_,res [_] rfl ⟨rvT rfl,trivial⟩,⟨rfl,rfl⟩,Sa⟩
theorem Qf.same (B:Wn) (S:List Wp) (pa:Option Addr) (m ca:Nat) (Qa:List Fq) (ha:FctV B S (.slice pa m ca) Qa) (hm:Qa.length=m) (pb:Option Addr) (k cb:Nat) (Qb:List Fq) (hb:FctV B S (.slice pb k cb) Qb) (hk:Qb.length=k) (he:Qa.map Fq.fz=Qb.map Fq.fz) (hmb:m<2^40:=by omega):Fn Tryz.prog B 14 #[.slice pa m ca,.slice pb k cb] S (λ u r=>u = .bool true/\r=S):=by
 have hkm:k=m:=by
  have:=congrArg List.length he
  rw [List.length_map,List.length_map] at this
  omega
 subst hkm
 refine Wr 42 Tryz.func14 rfl rfl (nB rfl) (λ F=>?_)
 refine Ts ?_
 refine TR ?_
 refine La rfl ?_
 refine Ld ?_
 refine Ts ?_
 refine Ts ?_
 refine TR ?_
 refine Lm rfl ?_
 refine Lq (yI (e:=35) (sz:=3) rfl) ?_
 refine Lm rfl ?_
 refine Lq (yI (e:=35) (sz:=3) rfl) ?_
 refine Lq (yW rfl rfl) ?_
 refine Ld ?_
 refine yL rfl (by omega) ?_
 refine Tk ?_
 refine Ts ?_
 refine Ts ?_
 refine TR ?_
 refine La rfl ?_
 refine Ld ?_
 refine yH ?_
 refine zG (λ mz fz lz => ∃ (f0:Fr) (i:Nat),(i<=k)/\mz=k-i/\fz=(upd (upd (upd f0 0 (.slice pa k ca)) 1 (.slice pb k cb)) 5 (.int .i64 i))/\lz=S++F) ?_ ?_
 . refine ⟨_,_,⟨_,0,Nat.zero_le _,rfl,(Za rfl (Za rfl (Za rfl rfl))),rfl⟩,Sa⟩
 rintro mz fz lz ⟨f0,i,hi,hmz,rfl,rfl⟩
 subst mz
 refine Ts ?_
 refine Ts ?_
 refine TR ?_
 refine Lm rfl ?_
 refine Lm rfl ?_
 refine Lq (yI (e:=35) (sz:=3) rfl) ?_
 refine Lq (yM rfl rfl) ?_
 refine Ld ?_
 refine yN rfl (λ hlt=>?_) (λ hlt=>?_)
 .
  obtain ⟨b,o,rfl,hr⟩:=ha.l.at (sz:=3) (λ _=>rfl) (by omega)
  obtain ⟨b2,o2,rfl,hr2⟩:=hb.l.at (sz:=3) (λ _=>rfl) (by omega)
  obtain ⟨x,hx⟩ : ∃ x,Qa[i]? = some x:=⟨_,List.getElem?_eq_getElem (by omega)⟩
  obtain ⟨y,hy⟩ : ∃ y,Qb[i]? = some y:=⟨_,List.getElem?_eq_getElem (by omega)⟩
  have hxy:x.fz=y.fz:=by
   have h1:(Qa.map Fq.fz)[i]? = some x.fz:=by rw [List.getElem?_map,hx];rfl
   rw [he,List.getElem?_map,hy] at h1
   exact (Option.some.inj h1).symm
  have hx1:=hr i x hx
  have hy1:=hr2 i y hy
  have hxv:=ha.r x (List.mem_of_getElem? hx)
  have hyv:=hb.r y (List.mem_of_getElem? hy)
  obtain ⟨p1,c1,ex⟩:=hxv.form
  obtain ⟨p2,c2,ey⟩:=hyv.form
  obtain ⟨xs,xr,xf,xt⟩:=x
  obtain ⟨ys,yr,yf,yt⟩:=y
  simp only [Fz.mk.injEq] at hxy
  obtain ⟨rfl,rfl,rfl⟩:=hxy
  dsimp only at ex ey
  subst ex
  subst ey
  refine Tk ?_
  refine Ts ?_
  refine yH ?_
  refine Ts ?_
  refine T.draw 25 (S) (nB rfl) ?_
  refine Rq 0 rfl Sa (Qm rfl) ?_
  refine Rq 1 rfl Sa (Qm rfl) ?_
  refine Rq 2 rfl Sa (Qi _ (e:=35) (sz:=3) rfl rfl rfl) ?_
  refine Rq 3 rfl Sa (Qf (off:=1) rfl) ?_
  refine Rq 4 rfl Sa (Qt.loadAggW (pC (xf,xt)) rfl (λ w ho=>λ j v hv=>by have:=hx1 w ho (1+j) v (by match j,hv with | 0,hv=>exact hv | 1,hv=>exact hv);rwa [<-Nat.add_assoc] at this)) ?_
  refine Rq 5 rfl Sa (Qm rfl) ?_
  refine Rq 6 rfl Sa (Qm rfl) ?_
  refine Rq 7 rfl Sa (Qi _ (e:=35) (sz:=3) rfl rfl rfl) ?_
  refine Rq 8 rfl Sa (Qf (off:=1) rfl) ?_
  refine Rq 9 rfl Sa (Qt.loadAggW (pC (xf,xt)) rfl (λ w ho=>λ j v hv=>by have:=hy1 w ho (1+j) v (by match j,hv with | 0,hv=>exact hv | 1,hv=>exact hv);rwa [<-Nat.add_assoc] at this)) ?_
  refine Rq 10 rfl Sa (YV (eqPd xf xt xf xt) rfl rfl) ?_
  refine Rq 11 rfl Sa (Qm rfl) ?_
  refine ZD (t:=28) rfl ((by simp)) ?_
  refine Rq 12 rfl Sa (Qm rfl) ?_
  refine Rq 13 rfl Sa (Qm rfl) ?_
  refine Rq 14 rfl Sa (Qi _ (e:=35) (sz:=3) rfl rfl rfl) ?_
  refine Rq 15 rfl Sa (Q0 rfl) ?_
  refine Rq 16 rfl Sa (zN (v := .slice p1 xr.length c1) rfl (λ w ho=>hx1 w ho 0 _ rfl)) ?_
  refine Rq 17 rfl Sa (Qm rfl) ?_
  refine Rq 18 rfl Sa (Qm rfl) ?_
  refine Rq 19 rfl Sa (Qi _ (e:=35) (sz:=3) rfl rfl rfl) ?_
  refine Rq 20 rfl Sa (Q0 rfl) ?_
  refine Rq 21 rfl Sa (zN (v := .slice p2 xr.length c2) rfl (λ w ho=>hy1 w ho 0 _ rfl)) ?_
  refine yK 22 ?_
  refine zY rfl (Ec (Qf.same02 B S xr p1 p2 xr.length c1 c2 rfl hxv.1 hxv.2 hyv.2) Tryz.func39 rfl rfl rfl ?_)
  rintro _ _ ⟨rfl,rfl⟩
  try simp only [cA,nA]
  refine Rq 23 rfl (Sr _) (Y2 rfl) ?_
  refine Rq 24 rfl (Sr _) (Qp rfl rfl) ?_
  refine Rd0 (by rfl) ?_
  simp only [dS,dZ,dN]
  refine Ld ?_
  refine yQ rfl ?_
  refine Tk ?_
  refine TR ?_
  refine Lm rfl ?_
  refine Lq (Qd rfl rfl (Ze)) ?_
  refine La rfl ?_
  refine Ld ?_
  refine ⟨_,?_,_,⟨_,i+1,by omega,rfl,(Za rfl (Za rfl (Za rfl rfl))),rfl⟩,Sa⟩
  omega
 refine zB ?_
 refine Ts ?_
 refine TR ?_
 refine La rfl ?_
 refine Ld ?_
 refine T.ret ?_
 exact ⟨.inl rfl,_,_,res [_] rfl ⟨rvT rfl,trivial⟩,⟨rfl,rfl⟩,Sa⟩
end Go.Proofs.YtnnfjemaeefbiaaGreatDoor
namespace Go.Proofs.YtnnfjemaeefbiaaGreatDoor
open Go.RowKit Go.Shelf Go.Lib Go.Sort
section
variable {P : Program} {B:Wn} {n:Nat} {S l r:List Wp} {f:Fr} {K:Value->List Wp->Prop} {d:Option Tmp} {ty:TypeId} {pos:String} {af:Array Edge} {gd:Option (Nat×Bool)}
theorem ZB {g:FuncId} {fn:Func} {t:TypeId} {x:Operand} {name:String} {args:Array Operand} {ats:Array TypeId} {v:Value} {vs:List Value} {pre F:List Wp} {R:Value->List Wp->Prop} (hc:Fn P B g (v::vs).toArray pre R) (hf:P.funcs[g]? = some fn) (hn:(fn.name == "runtime.NumGoroutine")=false) (hb:fn.body.isNone=false)
    (hx:ev n f x=some (.iface t v)) (hm : ∀ w,(method (P.types.size+Made.depth) t v name).run P w = .ok (g,v) w) (ha:args.toList.map (ev n f)=vs.map some) [k:TakeL pre l F] (h : ∀ v l',R v l'->K v (l'++F)):Ef P B n ⟨d,.call ⟨.invoke x name,args,ats⟩,ty,pos,af,gd⟩ f l K:=⟨λ w next Q ho hk=>by
  have hav:args.map (evu n f)=vs.toArray:=by
    have:args.toList.map (evu n f)=vs:=by
      have e:=congrArg (List.map (λ o:Option Value=>o.getD undef)) ha
      have e2:(λ x=>evu n f x)=evu n f:=rfl
      simp only [List.map_map,Function.comp_def,Option.getD_some,List.map_id'] at e
      exact e
    rw [<-Array.toList_inj,Array.toList_map]
    simpa using this
  have h0:=hc.run w F ho.takeL
  unfold Oper.wp execOp
  rw [Wk]
  have he:((do let c <-resolve (evu n f) ⟨.invoke x name,args,ats⟩ ty;invoke c.target c.args):Sem Next).run P w = .ok (.enter g (v::vs).toArray) w:=by
    have hn' : ¬ fn.name = "runtime.NumGoroutine" := by simpa using hn
    have hb' : ¬ fn.body=none:=λ e=>by rw [e] at hb;cases hb
    simp [resolve,hav,Zc hx,Go.invoke,callMethod,callFunc,hm,hf,hn',hb']
  rw [he]
  show Calls P g (v::vs).toArray w _
  refine Calls.mono h0 ?_
  rintro e w' ⟨v,l',rfl,hR,ho'⟩
  exact hk v w' _ (h v l' hR) ho'⟩
end
theorem Qf.cloneV (B:Wn) (S:List Wp) (a:Option Addr) (m c:Nat) (L:List Va) (h:FlV B S vaC (.slice a m c) L) (hm:L.length=m) (hb:m<2^32):Fn Tryz.prog B 66 #[.slice a m c] S (λ u l => ∃ p c',u = .slice p m c'/\(0<m -> ∃ g,p=some ⟨g,0,none⟩)/\l=vaR p m c' L::S):=by
  refine Wq 8 Tryz.func66 rfl rfl (nB rfl) (λ F=>?_)
  refine Ts ?_
  refine TR ?_
  refine La rfl ?_
  refine Ld ?_
  refine Ts ?_
  refine Ts ?_
  refine TR ?_
  refine Lm rfl ?_
  refine Lq (YT rfl rfl) ?_
  refine Ld ?_
  refine Y9 rfl (λ h0=>?_) (λ h0=>?_)
  . skip
    have hL:L=[]:=by
      rcases Nat.eq_zero_or_pos m with z | z
      . exact List.eq_nil_of_length_eq_zero (by omega)
      . obtain ⟨b,o,e,_⟩:=h.at (sz:=3) (λ _=>rfl) z
        rw [e] at h0;cases h0
    subst hL
    obtain rfl:m=0:=hm.symm
    refine T.conv (l':=vaR none 0 0 []::(S++F)) (λ w ho=>ho.row_nil _ _) ?_
    refine Ts ?_
    refine TR ?_
    refine La rfl ?_
    refine Ld ?_
    refine T.ret ?_
    exact ⟨.inl rfl,_,_,res [_] rfl ⟨rvT rfl,trivial⟩,⟨none,0,rfl,λ z=>absurd z (by omega),rfl⟩,Sa⟩
  refine Tk ?_
  refine Ts ?_
  refine TR ?_
  refine Le (Y8 Qe.elemV ?_)
  rintro g5
  refine Lm rfl ?_
  refine Le (Ea Qe.elemV rfl rfl (SrcOf.fq (m:=m) (h.mono (λ w ho=>ho.tl.drop)) (λ _=>rfl) hm (vaC_one L)) (by unfold maxLen;omega) ?_)
  rintro p1 c1 hp1
  try simp only [cA,nA]
  simp only [Nat.zero_add,List.nil_append]
  refine La rfl ?_
  refine Ld ?_
  refine T.ret ?_
  exact ⟨.inl rfl,_,_,res [_] rfl ⟨rvT rfl,trivial⟩,⟨p1,c1,rfl,λ z=>hp1 (by omega),rfl⟩,Sa⟩
abbrev tmR (p:Option Addr) (n c:Nat) (css:List C7):Wp:=row (.slice p n c) 27 7 n (css.flatMap c7)
theorem Qf.cloneT (B:Wn) (S:List Wp) (a:Option Addr) (m c:Nat) (css:List C7) (h:FlV B S c7 (.slice a m c) css) (hm:css.length=m) (h1 : ∀ x∈css.flatMap c7,x.oneCell'=true) (hb:m<2^20):Fn Tryz.prog B 37 #[.slice a m c] S (λ u l => ∃ p c',u = .slice p m c'/\(0<m -> ∃ g,p=some ⟨g,0,none⟩)/\l=tmR p m c' css::S):=by
  refine Wq 8 Tryz.func37 rfl rfl (nB rfl) (λ F=>?_)
  refine Ts ?_
  refine TR ?_
  refine La rfl ?_
  refine Ld ?_
  refine Ts ?_
  refine Ts ?_
  refine TR ?_
  refine Lm rfl ?_
  refine Lq (YT rfl rfl) ?_
  refine Ld ?_
  refine Y9 rfl (λ h0=>?_) (λ h0=>?_)
  . skip
    have hL:css=[]:=by
      rcases Nat.eq_zero_or_pos m with z | z
      . exact List.eq_nil_of_length_eq_zero (by omega)
      . obtain ⟨b,o,e,_⟩:=h.at (sz:=7) (λ _=>rfl) z
        rw [e] at h0;cases h0
    subst hL
    obtain rfl:m=0:=hm.symm
    refine T.conv (l':=tmR none 0 0 []::(S++F)) (λ w ho=>ho.row_nil _ _) ?_
    refine Ts ?_
    refine TR ?_
    refine La rfl ?_
    refine Ld ?_
    refine T.ret ?_
    exact ⟨.inl rfl,_,_,res [_] rfl ⟨rvT rfl,trivial⟩,⟨none,0,rfl,λ z=>absurd z (by omega),rfl⟩,Sa⟩
  refine Tk ?_
  refine Ts ?_
  refine TR ?_
  refine Le (Y8 Bd.elemT7 ?_)
  rintro g5
  refine Lm rfl ?_
  refine Le (Ea Bd.elemT7 rfl rfl (SrcOf.fq (m:=m) (h.mono (λ w ho=>ho.tl.drop)) (λ _=>rfl) hm h1) (by unfold maxLen;omega) ?_)
  rintro p1 c1 hp1
  try simp only [cA,nA]
  simp only [Nat.zero_add,List.nil_append]
  refine La rfl ?_
  refine Ld ?_
  refine T.ret ?_
  exact ⟨.inl rfl,_,_,res [_] rfl ⟨rvT rfl,trivial⟩,⟨p1,c1,rfl,λ z=>hp1 (by omega),rfl⟩,Sa⟩
def CopPost (B:Wn) (S:List Wp) (Q:List Fq) (u:Value) (l:List Wp):Prop := ∃ Q2 A p c,u = .slice p Q2.length c/\(0<Q2.length -> ∃ g,p=some ⟨g,0,none⟩)/\FqsA B A Q2/\Q2.map Fq.fz=Q.map Fq.fz/\l=fqR p Q2.length c Q2::A::S
theorem Qf.copied (B:Wn) (S:List Wp) (a:Option Addr) (m c:Nat) (Q:List Fq) (h:FctV B S (.slice a m c) Q) (hm:Q.length=m) (hb:m<2^40):Fn Tryz.prog B 38 #[.slice a m c] S (CopPost B S Q):=by
 refine Wq 23 Tryz.func38 rfl rfl (nB rfl) (λ F=>?_)
 refine Ts ?_
 refine TR ?_
 refine La rfl ?_
 refine Ld ?_
 refine Ts ?_
 refine TR ?_
 refine La rfl ?_
 refine Ld ?_
 refine Ts ?_
 refine Ts ?_
 refine TR ?_
 refine Lm rfl ?_
 refine Lq (yI (e:=35) (sz:=3) rfl) ?_
 refine Lm rfl ?_
 refine Ld ?_
 refine yH ?_
 refine T.conv (l':=fqR none 0 0 []::pu True::_) (λ w ho=>(ho.row_nil 35 3).map λ _ H=>Has.swap (Has.close_pu trivial H)) ?_
 refine zG (λ mz fz lz => ∃ (f0:Fr) (i:Nat) (Q2:List Fq) (A:Wp) (p:Option Addr) (n0 c0:Nat),(i<=m/\Q2.map Fq.fz=(Q.take i).map Fq.fz/\Q2.length=n0/\n0=i/\FqsA B A Q2/\(0<n0 -> ∃ g,p=some ⟨g,0,none⟩))/\mz=m-i/\fz=(upd (upd (upd (upd f0 3 (.slice p n0 c0)) 6 (.slice a m c)) 7 (iV m)) 8 (iV i))/\lz=fqR p n0 c0 Q2::A::(S++F)) ?_ ?_
 . refine ⟨_,_,⟨_,0,[],pu True,none,0,0,⟨Nat.zero_le _,rfl,rfl,rfl,by intro x hx;simp at hx,λ z=>absurd z (by omega)⟩,rfl,(Za rfl (Za rfl (Za rfl (Za rfl rfl)))),rfl⟩,Sa⟩
 rintro mz fz lz ⟨f0,i,Q2,A,p,n0,c0,⟨hi,hQ2,hn,hni,hA,hp⟩,hmz,rfl,rfl⟩
 subst mz
 refine Ts ?_
 refine TR ?_
 refine Lq (yM rfl rfl) ?_
 refine Ld ?_
 refine Ts ?_
 refine yN rfl (λ hlt=>?_) (λ hlt=>?_)
 .
  obtain ⟨b,o,rfl,hr⟩:=h.l.at (sz:=3) (λ _=>rfl) (by omega)
  obtain ⟨x,hx⟩ : ∃ x,Q[i]? = some x:=⟨_,List.getElem?_eq_getElem (by omega)⟩
  have hx1:=hr i x hx
  have hxv:=h.r x (List.mem_of_getElem? hx)
  have hsn:(Q.take (i+1)).map Fq.fz=(Q.take i).map Fq.fz++[x.fz]:=by rw [List.take_add_one,hx,List.map_append];rfl
  obtain ⟨pa,ca,ex⟩:=hxv.form
  obtain ⟨xs,xr,xf,xt⟩:=x
  dsimp only at ex hsn
  subst ex
  refine Tk ?_
  refine Ts ?_
  refine yH ?_
  refine Ts ?_
  refine TR ?_
  refine Lq (Qi _ (e:=35) (sz:=3) rfl rfl rfl) ?_
  refine Lq (Qt.loadAggW (fqC ⟨.slice pa xr.length ca,xr,xf,xt⟩) rfl (λ w ho=>hx1 w (ho.map Sa))) ?_
  refine Le (El [.slice none 0 0,.int .i64 0,.int .i64 0] (by unfold Zf;kernel_rfl) ?_)
  intro g5
  refine L0 (Es [_,_,_] rfl rfl rfl rfl (by simp) ?_)
  try simp only [splice,lC,lN,dS,cA,tS,tZ,dZ,nA,aN]
  refine Ld ?_
  refine zW 9 none (nB rfl) ?_
  refine Rq 0 rfl Sa (Qm rfl) ?_
  refine Rq 1 rfl Sa (Q0 rfl) ?_
  refine Rq 2 rfl Sa (Ql rfl rfl) ?_
  refine Rq 4 rfl Sa (Qf (off:=1) rfl) ?_
  refine Rq 5 rfl Sa (QL [_,_] rfl ⟨rfl,rfl,trivial⟩) ?_
  refine yK 3 ?_
  refine z6 rfl (Ec (Qf.cloneV B S pa xr.length ca xr hxv.2 rfl hxv.1) Tryz.func66 rfl rfl rfl ?_)
  rintro _ _ ⟨pr,cr,rfl,hpr,rfl⟩
  try simp only [cA,nA]
  refine ⟨Sa,?_⟩
  refine Rq 6 rfl Sa (z8 [(0,1),(1,2)] [.slice none 0 0,.int .i64 0,.int .i64 0] [_,_,_] [(0,_),(1,_)] (by unfold Zf;kernel_rfl) rfl rfl) ?_
  refine yK 7 ?_
  refine zY rfl (zK [_,_,_] (e:=35) (sz:=3) ⟨.agg #[.slice none 0 0,.int .i64 0,.int .i64 0],by kernel_rfl,rfl⟩ rfl rfl rfl ?_)
  intro g19
  refine yK 8 ?_
  refine zY rfl (Ea Qe.elemF rfl rfl (SrcOf.blk (by kernel_rfl) rfl (by simp [Value.oneCell'])) (by unfold maxLen;omega) ?_)
  rintro p4 c4 hp4
  try simp only [cA,nA]
  have hfx:FqV B [vaR pr xr.length cr xr] ⟨.slice pr xr.length cr,xr,xf,xt⟩:=⟨hxv.1,FlV.row (l:=[]) (sz:=3) (λ _=>rfl) (by omega) rfl hpr⟩
  have hsn2:=hA.snoc hfx
  rw [show Q2.flatMap fqC++[.slice pr xr.length cr,iV xf,iV xt]=(Q2++[(⟨.slice pr xr.length cr,xr,xf,xt⟩:Fq)]).flatMap fqC by simp]
  refine Rd0 (by rfl) ?_
  simp only [dS,dZ,dN]
  refine La rfl ?_
  refine Ld ?_
  refine TR ?_
  refine Lq (Qd rfl rfl (Ze)) ?_
  refine Lm rfl ?_
  refine Ld ?_
  refine ⟨_,?_,_,⟨_,i+1,Q2++[⟨.slice pr xr.length cr,xr,xf,xt⟩],sepL [A,vaR pr xr.length cr xr],p4,n0+1,c4,⟨by omega,by rw [hsn,List.map_append,hQ2];rfl,by simp [hn],by omega,hsn2,hp4⟩,rfl,(Za rfl (Za rfl (Za rfl (Za rfl rfl)))),rfl⟩,Sa⟩
  omega
 have ez:Q.take i=Q:=List.take_of_length_le (by omega)
 rw [ez] at hQ2
 subst hn
 refine zB ?_
 refine Ts ?_
 refine TR ?_
 refine Lm rfl ?_
 refine La rfl ?_
 refine Ld ?_
 refine T.ret ?_
 exact ⟨.inl rfl,_,_,res [_] rfl ⟨rvT rfl,trivial⟩,⟨Q2,A,p,c0,rfl,hp,hA,hQ2,rfl⟩,Sa⟩
def RunPost (B:Wn) (S:List Wp) (Q:List Fq) (u:Value) (l:List Wp):Prop := ∃ A p c,u = .slice p Q.length c/\FctV B (A::S) u Q/\l=A::S
def OpC (B:Wn) (S:List Wp) (v:Value) (Q:List Fq):Prop := ∃ t u g fn,v = .iface t u/\(∀ w,(method (Tryz.prog.types.size+Made.depth) t u "annals/exec.run").run Tryz.prog w = .ok (g,u) w)/\Tryz.prog.funcs[g]? = some fn/\(fn.name == "runtime.NumGoroutine")=false/\fn.body.isNone=false/\Fn Tryz.prog B g #[u] S (RunPost B S Q)
theorem Qf.scanRun (B:Wn) (S:List Wp) (a:Option Addr) (c:Nat) (Q:List Fq) (h:FctV B S (.slice a Q.length c) Q):Fn Tryz.prog B 209 #[.agg #[.slice a Q.length c]] S (RunPost B S Q):=by
  refine Wq 5 Tryz.func209 rfl rfl (nB rfl) (λ F=>?_)
  refine Ts ?_
  refine TR ?_
  refine Le (zL [_] rfl rfl ?_)
  intro g1
  refine La rfl ?_
  refine Ld ?_
  refine Ts ?_
  refine TR ?_
  refine Lq (Q0 rfl) ?_
  refine Lq (Ql rfl rfl) ?_
  refine La rfl ?_
  refine Ld ?_
  refine T.conv (l':=pu True::_) (λ w ho=>ho.map λ _ H=>Has.close_pu trivial H) ?_
  refine T.ret ?_
  exact ⟨.inl rfl,_,_,res [_] rfl ⟨rvT rfl,trivial⟩,⟨pu True,a,c,rfl,h.mono λ w ho=>ho.tl,rfl⟩,Sa⟩
theorem OpC.scan {B:Wn} {S:List Wp} {a:Option Addr} {c:Nat} {Q:List Fq} (h:FctV B S (.slice a Q.length c) Q):OpC B S (.iface 114 (.agg #[.slice a Q.length c])) Q :=
  ⟨_,_,209,_,rfl,λ w=>by kernel_rfl,Tryz.func209,rfl,rfl,Qf.scanRun B S a c Q h⟩
end Go.Proofs.YtnnfjemaeefbiaaGreatDoor
namespace Go.Proofs.YtnnfjemaeefbiaaGreatDoor
open Go.RowKit Go.Shelf Go.Lib Go.Sort
theorem filter_fz (Q:List Fq) (p:List Va->Bool):(Q.filter λ x=>p x.row).map Fq.fz=(Q.map Fq.fz).filter λ f=>p f.row:=by rw [List.filter_map];rfl
theorem Qf.filterRun (B:Wn) (S:List Wp) (inner:Value) (Q:List Fq) (hin:OpC B S inner Q) (hQb:Q.length<2^38) (pt:Option Addr) (n ct:Nat) (ts:List Tm) (css:List C7) (hf:FlV B S c7 (.slice pt n ct) css) (hts:TmsS B S ts css) (hn:ts.length=n) (hnb:n<2^32) (hok : ∀ t∈ts,TmOk t) :
  Fn Tryz.prog B 208 #[.agg #[inner,.slice pt n ct]] S (RunPost B S (Q.filter λ x=>holdsL x.row ts)):=by
 obtain ⟨t,u,gi,fni,rfl,hm,hfn,hnm,hbd,hrun⟩:=hin
 refine Wq 26 Tryz.func208 rfl rfl (nB rfl) (λ F=>?_)
 refine Ts ?_
 refine TR ?_
 refine Le (zL [_,_] rfl rfl ?_)
 intro g1
 refine La rfl ?_
 refine Ld ?_
 refine Ts ?_
 refine TR ?_
 refine La rfl ?_
 refine Ld ?_
 refine Ts ?_
 refine Ts ?_
 refine TR ?_
 refine Lq (Q0 rfl) ?_
 refine Lq (Q0 rfl) ?_
 refine Lq (Ql rfl rfl) ?_
 refine Le (ZB (vs:=[]) hrun hfn hnm hbd rfl hm rfl ?_)
 rintro _ _ ⟨A1,p1,c1,rfl,hQ,rfl⟩
 try simp only [cA,nA]
 refine Lq (yI (e:=35) (sz:=3) rfl) ?_
 refine Lm rfl ?_
 refine Ld ?_
 refine yH ?_
 refine T.conv (l':=fqR none 0 0 ((Q.take 0).filter λ x=>holdsL x.row ts)::_) (λ w ho=>ho.row_nil 35 3) ?_
 refine zG (λ mz fz lz => ∃ (f0:Fr) (i:Nat) (p:Option Addr) (n0 c0:Nat),(i<=Q.length/\((Q.take i).filter λ x=>holdsL x.row ts).length=n0/\n0<=i/\(0<n0 -> ∃ g,p=some ⟨g,0,none⟩))/\mz=Q.length-i/\fz=(upd (upd (upd (upd (upd f0 1 (.pointer (some ⟨g1,0,none⟩))) 3 (.slice p n0 c0)) 9 (.slice p1 Q.length c1)) 10 (iV Q.length)) 11 (iV i))/\lz=fqR p n0 c0 ((Q.take i).filter λ x=>holdsL x.row ts)::A1::(S++blk g1 [.iface t u,.slice pt n ct] 112::F)) ?_ ?_
 . refine ⟨_,_,⟨_,0,none,0,0,⟨Nat.zero_le _,rfl,Nat.le_refl _,λ z=>absurd z (by omega)⟩,rfl,(Za rfl (Za rfl (Za rfl (Za rfl (Za rfl rfl))))),rfl⟩,Sa⟩
 rintro mz fz lz ⟨f0,i,p,n0,c0,⟨hi,hn0,hni,hp⟩,hmz,rfl,rfl⟩
 subst mz
 refine Ts ?_
 refine TR ?_
 refine Lq (yM rfl rfl) ?_
 refine Ld ?_
 refine Ts ?_
 refine yN rfl (λ hlt=>?_) (λ hlt=>?_)
 .
  obtain ⟨b,o,rfl,hr⟩:=hQ.l.at (sz:=3) (λ _=>rfl) (by omega)
  obtain ⟨x,hx⟩ : ∃ x,Q[i]? = some x:=⟨_,List.getElem?_eq_getElem (by omega)⟩
  have hx1:=hr i x hx
  have hxv:=hQ.r x (List.mem_of_getElem? hx)
  have hsn:=filter_snoc (p:=λ x:Fq=>holdsL x.row ts) hx
  obtain ⟨pa,ca,ex⟩:=hxv.form
  obtain ⟨xs,xr,xf,xt⟩:=x
  dsimp only at ex hsn
  subst ex
  have hh:=Bd.holds B (A1::S) xr pa xr.length ca hxv.2 rfl hxv.1 pt n ct ts css (hf.mono λ w ho=>ho.tl) (hts.mono λ w ho=>ho.tl) hn hnb hok
  refine Tk ?_
  refine Ts ?_
  refine yH ?_
  refine Ts ?_
  refine TR ?_
  refine Lq (Qi _ (e:=35) (sz:=3) rfl rfl rfl) ?_
  refine Lq (Qt.loadAggW (fqC ⟨.slice pa xr.length ca,xr,xf,xt⟩) rfl (λ w ho=>hx1 w (ho.map Sa))) ?_
  refine Le (El [.slice none 0 0,.int .i64 0,.int .i64 0] (by unfold Zf;kernel_rfl) ?_)
  intro g5
  refine L0 (Es [_,_,_] rfl rfl rfl rfl (by simp) ?_)
  try simp only [splice,lC,lN,dS,cA,tS,tZ,dZ,nA,aN]
  refine Ld ?_
  refine Ts ?_
  refine TR ?_
  refine Lq (Q0 rfl) ?_
  refine Lq (Ql rfl rfl) ?_
  refine Lq (Qf (off:=1) rfl) ?_
  refine Lq (Ql rfl rfl) ?_
  refine Le (Ec (hh) Tryz.func6 rfl rfl rfl ?_)
  rintro _ _ ⟨rfl,rfl⟩
  try simp only [cA,nA]
  refine Ld ?_
  refine Y9 rfl (λ hb=>?_) (λ hb=>?_)
  .
   rw [if_pos hb] at hsn
   refine TR ?_
   refine Lm rfl ?_
   refine Lq (QL [_,_,_] rfl ⟨rfl,rfl,rfl,trivial⟩) ?_
   refine Le (zK [_,_,_] (e:=35) (sz:=3) ⟨.agg #[.slice none 0 0,.int .i64 0,.int .i64 0],by kernel_rfl,rfl⟩ rfl rfl rfl ?_)
   intro g22
   refine Le (Ea Qe.elemF rfl rfl (SrcOf.blk (by kernel_rfl) rfl (by simp [Value.oneCell'])) (by unfold maxLen;omega) ?_)
   rintro p4 c4 hp4
   rw [show ((Q.take i).filter λ x=>holdsL x.row ts).flatMap fqC++[.slice pa xr.length ca,iV xf,iV xt]=((Q.take (i+1)).filter λ x=>holdsL x.row ts).flatMap fqC by rw [hsn,List.flatMap_append];simp]
   refine La rfl ?_
   refine Ld ?_
   refine TR ?_
   refine Lq (Qd rfl rfl (Ze)) ?_
   refine Lm rfl ?_
   refine Ld ?_
   refine ⟨_,?_,_,⟨_,i+1,p4,n0+1,c4,⟨by omega,by rw [hsn,List.length_append,hn0];rfl,by omega,hp4⟩,rfl,(Za rfl (Za rfl (Za rfl (Za rfl (Za rfl rfl))))),rfl⟩,Sa⟩
   omega
  rw [if_neg (by rw [hb];decide),List.append_nil] at hsn
  rw [<-hsn] at hn0 ⊢
  refine Tk ?_
  refine TR ?_
  refine Lq (Qd rfl rfl (Ze)) ?_
  refine Lm rfl ?_
  refine Ld ?_
  refine ⟨_,?_,_,⟨_,i+1,p,n0,c0,⟨by omega,hn0,by omega,hp⟩,rfl,(Za rfl (Za rfl (Za rfl (Za rfl (Za rfl rfl))))),rfl⟩,Sa⟩
  omega
 have ez:Q.take i=Q:=List.take_of_length_le (by omega)
 rw [ez] at hn0 ⊢
 subst hn0
 obtain ⟨Z,hZ⟩ : ∃ Z,Z=Q.filter λ x=>holdsL x.row ts:=⟨_,rfl⟩
 have hZr : ∀ x∈Z,FqV B (A1::S) x:=λ x hx=>hQ.r x (List.mem_filter.1 (hZ ▸ hx)).1
 rw [<-hZ] at hp ⊢
 refine zB ?_
 refine Ts ?_
 refine TR ?_
 refine Lm rfl ?_
 refine La rfl ?_
 refine Ld ?_
 refine T.ret ?_
 exact ⟨.inl rfl,_,_,res [_] rfl ⟨rvT rfl,trivial⟩,⟨sepL [fqR p Z.length c0 Z,A1],p,c0,rfl,⟨(FlV.row (p:=p) (c:=c0) (e:=35) (l:=A1::S) (sz:=3) (λ _=>rfl) (by omega) rfl hp).mono λ w ho=>ho.map λ _ H=>Has.open_sepL H,λ x hx=>(hZr x hx).mono λ w ho=>(ho.map λ _ H=>Has.open_sepL H:Own B w (fqR p Z.length c0 Z::A1::S)).tl⟩,rfl⟩,Sa⟩
theorem OpC.filter {B:Wn} {S:List Wp} {inner:Value} {Q:List Fq} (hin:OpC B S inner Q) (hQb:Q.length<2^38) {pt:Option Addr} {n ct:Nat} {ts:List Tm} {css:List C7} (hf:FlV B S c7 (.slice pt n ct) css) (hts:TmsS B S ts css) (hn:ts.length=n) (hnb:n<2^32) (hok : ∀ t∈ts,TmOk t):OpC B S (.iface 112 (.agg #[inner,.slice pt n ct])) (Q.filter λ x=>holdsL x.row ts) :=
  ⟨_,_,208,_,rfl,λ w=>by kernel_rfl,Tryz.func208,rfl,rfl,Qf.filterRun B S inner Q hin hQb pt n ct ts css hf hts hn hnb hok⟩
theorem OpC.form {B:Wn} {S:List Wp} {v:Value} {Q:List Fq} (h:OpC B S v Q) : ∃ t u,v = .iface t u:=by
  obtain ⟨t,u,_,_,e,_⟩:=h
  exact ⟨t,u,e⟩
def ScanPost (B:Wn) (S:List Wp) (Q:List Fq) (u:Value) (l:List Wp):Prop := ∃ Q2 A,OpC B [A] u Q2/\Q2.map Fq.fz=Q.map Fq.fz/\l=A::S
theorem Fn.pre {P:Program} {B:Wn} {g:FuncId} {args:Array Value} {S S2:List Wp} {R:Value->List Wp->Prop} {R2:Value->List Wp->Prop} (h:Fn P B g args S R) (hs : ∀ F w,Own B w (S2++F)->Own B w (S++F)) (hr : ∀ v l,R v l -> ∃ l2,R2 v l2 /\ ∀ F w,Own B w (l++F)->Own B w (l2++F)):Fn P B g args S2 R2:=⟨λ w F ho=>(h.run w F (hs F w ho)).mono λ _ _ ⟨v,l,a,b,c⟩=>by
  obtain ⟨l2,h1,h2⟩:=hr v l b
  exact ⟨v,l2,a,h1,h2 F _ c⟩⟩
theorem Qf.scan (B:Wn) (S:List Wp) (a:Option Addr) (m c:Nat) (Q:List Fq) (h:FctV B S (.slice a m c) Q) (hm:Q.length=m) (hb:m<2^38):Fn Tryz.prog B 13 #[.slice a m c] S (ScanPost B S Q):=by
  refine Wq 7 Tryz.func13 rfl rfl (nB rfl) (λ F=>?_)
  refine Ts ?_
  refine TR ?_
  refine La rfl ?_
  refine Ld ?_
  refine Ts ?_
  refine TR ?_
  refine Lm rfl ?_
  refine Le (Ec (Qf.copied B S a m c Q h hm (by omega)) Tryz.func38 rfl rfl rfl ?_)
  rintro _ _ ⟨Q2,A,p,c2,rfl,hp,hA,hQ2,rfl⟩
  try simp only [cA,nA]
  refine Lq (z8 [(0,1)] [.slice none 0 0] [_] [(0,_)] (by unfold Zf;kernel_rfl) rfl rfl) ?_
  refine Lq (ZF rfl) ?_
  refine La rfl ?_
  refine Ld ?_
  refine T.ret ?_
  exact ⟨.inl rfl,_,_,res [_] rfl ⟨rvT rfl,trivial⟩,⟨Q2,sepL [fqR p Q2.length c2 Q2,A],OpC.scan ((FctV.own hA rfl hp).mono λ w ho=>ho.sepQ),hQ2,rfl⟩,Sa⟩
end Go.Proofs.YtnnfjemaeefbiaaGreatDoor
namespace Go.Proofs.YtnnfjemaeefbiaaGreatDoor
open Go.RowKit Go.Shelf Go.Lib Go.Sort
theorem OpC.grow {B:Wn} {S:List Wp} {v:Value} {Q:List Fq} (h:OpC B S v Q) (R S':List Wp) (h1 : ∀ F,Sub (S'++F) (S++(R++F))) (h2 : ∀ (A:Wp) F,Sub (A::(S++(R++F))) (A::(S'++F))):OpC B S' v Q:=by
  obtain ⟨t,u,g,fn,e,hm,hf,hn,hb,hr⟩:=h
  refine ⟨t,u,g,fn,e,hm,hf,hn,hb,⟨λ w F ho=>(hr.run w (R++F) (ho.map (h1 F))).mono ?_⟩⟩
  rintro _ w' ⟨v,l,rfl,⟨A,p,c,rfl,hQ,rfl⟩,ho'⟩
  refine ⟨_,_,rfl,⟨A,p,c,rfl,hQ.mono λ w hw=>?_,rfl⟩,ho'.map (h2 A F)⟩
  exact hw.map λ _ H=>Wt (λ _ H2=>by
    have:=h1 [] _ (by simpa using H2)
    obtain ⟨_,_,_,a,_,b,_⟩:=Has.split this
    exact b.mono a) H
theorem Qf.result (B:Wn) (S:List Wp) (v:Value) (Q:List Fq) (h:OpC B S v Q) (hb:Q.length<2^36):Fn Tryz.prog B 11 #[v] S (NormPost B S (cnt (Q.map Fq.fz)) Q.length):=by
  obtain ⟨t,u,gi,fni,rfl,hm,hfn,hnm,hbd,hrun⟩:=h
  refine Wq 7 Tryz.func11 rfl rfl (nB rfl) (λ F=>?_)
  refine Ts ?_
  refine TR ?_
  refine La rfl ?_
  refine Ld ?_
  refine Ts ?_
  refine TR ?_
  refine Lm rfl ?_
  refine Le (ZB (vs:=[]) hrun hfn hnm hbd rfl hm rfl ?_)
  rintro _ _ ⟨A1,p1,c1,rfl,hQ,rfl⟩
  try simp only [cA,nA]
  refine Le (zK [_] (e:=22) (sz:=1) ⟨.slice none 0 0,by kernel_rfl,rfl⟩ rfl rfl rfl ?_)
  intro g5
  refine Le (Ec (Qe.normal B (blk g5 [.slice p1 Q.length c1] 22::A1::S) (some ⟨g5,0,none⟩) 1 1 [(.slice p1 Q.length c1,Q)] ⟨FlV.blk (x:=[((.slice p1 Q.length c1:Value),Q)]) (g:=λ x:Value×List Fq=>[x.1]) rfl,λ x hx=>by simp at hx;subst hx;exact hQ.mono λ w ho=>ho.tl⟩ rfl (by omega) (by simpa [allQ] using hb)) Tryz.func10 rfl rfl rfl ?_)
  rintro _ _ ⟨Q2,A2,p2,c2,rfl,hp2,hA2,hnf,hl2,rfl⟩
  try simp only [cA,nA]
  rw [show allQ [((.slice p1 Q.length c1:Value),Q)]=Q by simp [allQ]] at hnf hl2
  refine La rfl ?_
  refine Ld ?_
  refine T.ret ?_
  exact ⟨.inl rfl,_,_,res [_] rfl ⟨rvT rfl,trivial⟩,⟨Q2,A2,p2,c2,rfl,hp2,hA2,hnf,hl2,rfl⟩,Sa⟩
def FilPost (B:Wn) (S:List Wp) (inner:Value) (css:List C7) (n:Nat) (u:Value) (l:List Wp):Prop := ∃ p c,u = .iface 112 (.agg #[inner,.slice p n c])/\(0<n -> ∃ g,p=some ⟨g,0,none⟩)/\l=tmR p n c css::S
theorem Qf.filter (B:Wn) (S:List Wp) (t:TypeId) (u:Value) (pt:Option Addr) (n ct:Nat) (ts:List Tm) (css:List C7) (hf:FlV B S c7 (.slice pt n ct) css) (hts:TmsS B S ts css) (hn:css.length=n) (hnb:n<2^20):Fn Tryz.prog B 12 #[.iface t u,.slice pt n ct] S (FilPost B S (.iface t u) css n):=by
  refine Wr 11 Tryz.func12 rfl rfl (nB rfl) (λ F=>?_)
  refine Ts ?_
  refine TR ?_
  refine La rfl ?_
  refine Ld ?_
  refine Ts ?_
  refine TR ?_
  refine Lm rfl ?_
  refine Lq (z8 [(0,1)] [.nilIface] [_] [(0,_)] (by unfold Zf;kernel_rfl) rfl rfl) ?_
  refine Lm rfl ?_
  refine Le (Ec (Qf.cloneT B S pt n ct css hf hn hts.oneC hnb) Tryz.func37 rfl rfl rfl ?_)
  rintro _ _ ⟨p,c,rfl,hp,rfl⟩
  try simp only [cA,nA]
  refine Lq (z8 [(0,1),(1,1)] [.nilIface,.slice none 0 0] [_,_] [(0,_),(1,_)] (by unfold Zf;kernel_rfl) rfl rfl) ?_
  refine Lq (ZF rfl) ?_
  refine La rfl ?_
  refine Ld ?_
  refine T.ret ?_
  exact ⟨.inl rfl,_,_,res [_] rfl ⟨rvT rfl,trivial⟩,⟨p,c,rfl,hp,rfl⟩,Sa⟩
theorem holdsL_one (row:List Va) (t:Tm):holdsL row [t]=holds1 row t:=by simp [holdsL]
theorem Qf.kept (B:Wn) (S:List Wp) (a:Option Addr) (m c:Nat) (Q:List Fq) (h:FctV B S (.slice a m c) Q) (hm:Q.length=m) (hb:m<2^36) (t:Tm) (c0:C7) (ht:TmV B S t c0) (hok:TmOk t):Fn Tryz.prog B 8 #[.slice a m c,tA c0] S (NormPost B S (cnt ((Q.map Fq.fz).filter λ f=>holds1 f.row t)) m):=by
 obtain ⟨pa,ca,rfl⟩:=ht.form
 refine Wr 11 Tryz.func8 rfl rfl (nB rfl) (λ F=>?_)
 refine Ts ?_
 refine TR ?_
 refine Le (zL [_,_,_,_,_,_,_] rfl rfl ?_)
 intro g3
 refine La rfl ?_
 refine Ld ?_
 refine Ts ?_
 refine zW 6 none (nB rfl) ?_
 refine Rq 0 rfl Sa (Qm rfl) ?_
 refine Rq 2 rfl Sa (QL [_,_,_,_,_,_,_] rfl ⟨rfl,rfl,rfl,rfl,rfl,rfl,rfl,trivial⟩) ?_
 refine YC [1,3] (List.forall_mem_cons.2 ⟨?_,List.forall_mem_cons.2 ⟨?_,List.forall_mem_nil _⟩⟩)
 .
  refine z6 rfl (Ec (Qf.scan B S a m c Q h hm (by omega)) Tryz.func13 rfl rfl rfl ?_)
  rintro _ _ ⟨Q2,A,hop,hQ2,rfl⟩
  try simp only [cA,nA]
  have hQ2l:Q2.length=m:=by have:=congrArg List.length hQ2;simp only [List.length_map] at this;omega
  obtain ⟨ot,ou,rfl⟩:=hop.form
  refine ⟨Sa,?_⟩
  refine yK 3 ?_
  refine z6 rfl (zK [_,_,_,_,_,_,_] (e:=27) (sz:=7) ⟨.agg #[.string .empty,.int .i64 0,.int .i64 0,.int .i64 0,.string .empty,.int .i64 0,.slice none 0 0],by kernel_rfl,rfl⟩ rfl rfl rfl ?_)
  intro g8
  refine ⟨Sa,?_⟩
  refine yK 4 ?_
  refine zY rfl (Ec (Qf.filter B (blk g8 [tV t.op,iV t.kind,iV t.v.kind,iV t.v.int,tV t.v.text,iV t.place,.slice pa t.args.length ca] 27::S) ot ou (some ⟨g8,0,none⟩) 1 1 [t] [⟨tV t.op,iV t.kind,iV t.v.kind,iV t.v.int,tV t.v.text,iV t.place,.slice pa t.args.length ca⟩] (FlV.blk (x:=[(⟨tV t.op,iV t.kind,iV t.v.kind,iV t.v.int,tV t.v.text,iV t.place,.slice pa t.args.length ca⟩:C7)]) (g:=c7) rfl) (TmsS.one (ht.mono λ w ho=>ho.tl)) rfl (by omega)) Tryz.func12 rfl rfl rfl ?_)
  rintro _ _ ⟨pf,cf,rfl,hpf,rfl⟩
  try simp only [cA,nA]
  have hop2:=hop.grow (tmR pf 1 cf [⟨tV t.op,iV t.kind,iV t.v.kind,iV t.v.int,tV t.v.text,iV t.place,.slice pa t.args.length ca⟩]::S) (tmR pf 1 cf [⟨tV t.op,iV t.kind,iV t.v.kind,iV t.v.int,tV t.v.text,iV t.place,.slice pa t.args.length ca⟩]::A::S) (λ F h H=>Has.swap H) (λ A0 F h H=>Wt (λ _ H2=>Has.swap H2) H)
  have hop3:=OpC.filter hop2 (by omega) (FlV.row (l:=A::S) (e:=27) (p:=pf) (c:=cf) (m:=1) (x:=[(⟨tV t.op,iV t.kind,iV t.v.kind,iV t.v.int,tV t.v.text,iV t.place,.slice pa t.args.length ca⟩:C7)]) (g:=c7) (sz:=7) (λ _=>rfl) (by omega) rfl hpf) (TmsS.one (ht.mono λ w ho=>ho.tl.tl)) rfl (by omega) (λ t' h'=>by simp at h';subst h';exact hok)
  have hfl:(Q2.filter λ x=>holdsL x.row [t]).length<=m:=by rw [<-hQ2l];exact List.length_filter_le _ _
  have hfz:(Q2.filter λ x=>holdsL x.row [t]).map Fq.fz=(Q.map Fq.fz).filter λ f=>holds1 f.row t:=by
   rw [filter_fz Q2 (λ r=>holdsL r [t]),hQ2]
   congr 1
   funext f
   exact holdsL_one _ _
  refine yK 5 ?_
  refine zY rfl (Ec (Qf.result B _ _ _ hop3 (by omega)) Tryz.func11 rfl rfl rfl ?_)
  rintro _ _ ⟨Q3,A3,p3,c3,rfl,hp3,hA3,hnf,hl3,rfl⟩
  try simp only [cA,nA]
  rw [hfz] at hnf
  refine Rd0 (by rfl) ?_
  simp only [dS,dZ,dN]
  refine La rfl ?_
  refine Ld ?_
  refine T.ret ?_
  exact ⟨.inl rfl,_,_,res [_] rfl ⟨rvT rfl,trivial⟩,⟨Q3,A3,p3,c3,rfl,hp3,hA3,hnf,by omega,rfl⟩,Sa⟩
 refine z6 rfl (zK [_,_,_,_,_,_,_] (e:=27) (sz:=7) ⟨.agg #[.string .empty,.int .i64 0,.int .i64 0,.int .i64 0,.string .empty,.int .i64 0,.slice none 0 0],by kernel_rfl,rfl⟩ rfl rfl rfl ?_)
 intro g8
 refine ⟨Sa,?_⟩
 refine yK 1 ?_
 refine z6 rfl (Ec (Qf.scan B S a m c Q h hm (by omega)) Tryz.func13 rfl rfl rfl ?_)
 rintro _ _ ⟨Q2,A,hop,hQ2,rfl⟩
 try simp only [cA,nA]
 have hQ2l:Q2.length=m:=by have:=congrArg List.length hQ2;simp only [List.length_map] at this;omega
 obtain ⟨ot,ou,rfl⟩:=hop.form
 refine ⟨Sa,?_⟩
 refine yK 4 ?_
 refine zY rfl (Ec (Qf.filter B (blk g8 [tV t.op,iV t.kind,iV t.v.kind,iV t.v.int,tV t.v.text,iV t.place,.slice pa t.args.length ca] 27::S) ot ou (some ⟨g8,0,none⟩) 1 1 [t] [⟨tV t.op,iV t.kind,iV t.v.kind,iV t.v.int,tV t.v.text,iV t.place,.slice pa t.args.length ca⟩] (FlV.blk (x:=[(⟨tV t.op,iV t.kind,iV t.v.kind,iV t.v.int,tV t.v.text,iV t.place,.slice pa t.args.length ca⟩:C7)]) (g:=c7) rfl) (TmsS.one (ht.mono λ w ho=>ho.tl)) rfl (by omega)) Tryz.func12 rfl rfl rfl ?_)
 rintro _ _ ⟨pf,cf,rfl,hpf,rfl⟩
 try simp only [cA,nA]
 have hop2:=hop.grow (tmR pf 1 cf [⟨tV t.op,iV t.kind,iV t.v.kind,iV t.v.int,tV t.v.text,iV t.place,.slice pa t.args.length ca⟩]::S) (tmR pf 1 cf [⟨tV t.op,iV t.kind,iV t.v.kind,iV t.v.int,tV t.v.text,iV t.place,.slice pa t.args.length ca⟩]::A::S) (λ F h H=>Has.swap H) (λ A0 F h H=>Wt (λ _ H2=>Has.swap H2) H)
 have hop3:=OpC.filter hop2 (by omega) (FlV.row (l:=A::S) (e:=27) (p:=pf) (c:=cf) (m:=1) (x:=[(⟨tV t.op,iV t.kind,iV t.v.kind,iV t.v.int,tV t.v.text,iV t.place,.slice pa t.args.length ca⟩:C7)]) (g:=c7) (sz:=7) (λ _=>rfl) (by omega) rfl hpf) (TmsS.one (ht.mono λ w ho=>ho.tl.tl)) rfl (by omega) (λ t' h'=>by simp at h';subst h';exact hok)
 have hfl:(Q2.filter λ x=>holdsL x.row [t]).length<=m:=by rw [<-hQ2l];exact List.length_filter_le _ _
 have hfz:(Q2.filter λ x=>holdsL x.row [t]).map Fq.fz=(Q.map Fq.fz).filter λ f=>holds1 f.row t:=by
  rw [filter_fz Q2 (λ r=>holdsL r [t]),hQ2]
  congr 1
  funext f
  exact holdsL_one _ _
 refine yK 5 ?_
 refine zY rfl (Ec (Qf.result B _ _ _ hop3 (by omega)) Tryz.func11 rfl rfl rfl ?_)
 rintro _ _ ⟨Q3,A3,p3,c3,rfl,hp3,hA3,hnf,hl3,rfl⟩
 try simp only [cA,nA]
 rw [hfz] at hnf
 refine Rd0 (by rfl) ?_
 simp only [dS,dZ,dN]
 refine La rfl ?_
 refine Ld ?_
 refine T.ret ?_
 exact ⟨.inl rfl,_,_,res [_] rfl ⟨rvT rfl,trivial⟩,⟨Q3,A3,p3,c3,rfl,hp3,hA3,hnf,by omega,rfl⟩,Sa⟩
open Go.RowKit
theorem lstR_most {α:Type} {q:Sq} {R:Nat->PE (α×Nat)} : ∀ (f:Nat) (xs:List α) (a:Nat) (r:List α×Nat),lstR q R f xs a = .ok r->r.1.length<=xs.length+f
  | 0,xs,a,r,h=>by unfold lstR at h;cases h;exact Nat.le_refl _
  | f+1,xs,a,r,h=>by
    rw [lstR_succ] at h
    split at h
    . split at h
      . cases h
      . have:=lstR_most f _ _ _ h;simp at this;omega
    . cases h;dsimp only;omega
theorem par_small {q:Sq} {x:SelM} (h:parR q = .ok x):x.k<=1/\x.m<=1/\x.o<=q.L.length+2:=by
  unfold parR at h
  split at h
  . cases h
  . rename_i y b hs
    replace h:=if_err h
    cases h
    unfold selR at hs
    split at hs
    . cases hs
    . split at hs
      . cases hs
      . split at hs
        . cases hs
        . rename_i k1 c2 ha
          split at hs
          . cases hs
          . rename_i m1 c3 hd
            split at hs
            . cases hs
            . rename_i o1 c4 ho
              cases hs
              dsimp only
              refine ⟨?_,?_,?_⟩
              . unfold asR at ha
                split at ha
                . split at ha
                  . cases ha
                  . split at ha
                    . cases ha
                    . simp only [Except.ok.injEq,Prod.mk.injEq] at ha;omega
                . simp only [Except.ok.injEq,Prod.mk.injEq] at ha;omega
              . unfold durR at hd
                split at hd
                . replace hd:=if_err hd
                  split at hd
                  . cases hd
                  . simp only [Except.ok.injEq,Prod.mk.injEq] at hd;omega
                . split at hd
                  . split at hd
                    . cases hd
                    . simp only [Except.ok.injEq,Prod.mk.injEq] at hd;omega
                  . simp only [Except.ok.injEq,Prod.mk.injEq] at hd;omega
              . unfold ordR at ho
                split at ho
                . split at ho
                  . cases ho
                  . split at ho
                    . cases ho
                    . rename_i r hl
                      simp only [Except.ok.injEq,Prod.mk.injEq] at ho
                      unfold listR at hl
                      split at hl
                      . cases hl
                      . have:=lstR_most _ _ _ _ hl
                        simp at this;omega
                . simp only [Except.ok.injEq,Prod.mk.injEq] at ho;omega
theorem lexR_small {s:Str} {L:List Tok} (h:lexR s = .ok L):L.length<=4097:=by
  obtain ⟨h1,h2⟩:=lexR_ok h
  have h3:=lexT_len _ _ _ h2
  rw [List.length_map] at h3
  omega
abbrev tb0C (g:Nat):List Value:=[iV 0,.string ⟨#[84]⟩,.slice (some ⟨g,0,none⟩) 2 2,.slice none 0 0,.bool false]
theorem Qg.table (B:Wn):Fn Tryz.prog B 22 #[] [] (λ u l => ∃ g,u = .agg (tb0C g).toArray/\l=[blk g colsC 140]):=by
  refine Fn.enter0 5 Tryz.func22 rfl rfl (nB rfl) (λ F=>?_)
  try simp only [cA,nA]
  refine Ts ?_
  refine TR ?_
  refine Le (El [.int .i64 0,.string .empty,.slice none 0 0,.slice none 0 0,.bool false] (by unfold Zf;kernel_rfl) ?_)
  intro g0
  refine Ld ?_
  refine Ts ?_
  refine TR ?_
  refine Lq (z8 [(0,1),(1,1)] [.string .empty,.int .i64 0] [_,_] [(0,_),(1,_)] (by unfold Zf;kernel_rfl) rfl rfl) ?_
  refine Lq (z8 [(0,1),(1,1)] [.string .empty,.int .i64 0] [_,_] [(0,_),(1,_)] (by unfold Zf;kernel_rfl) rfl rfl) ?_
  refine Le (Ef.lits [_,_] [_,_,_,_] (e:=140) (sz:=2) rfl (by simp [Value.cells]) rfl rfl ?_)
  intro g3
  refine Lq (z8 [(0,1),(1,1),(2,1),(3,1),(4,1)] [.int .i64 0,.string .empty,.slice none 0 0,.slice none 0 0,.bool false] [_,_,_,_,_] [(1,_),(2,_)] (by unfold Zf;kernel_rfl) rfl rfl) ?_
  refine L0 (Es [_,_,_,_,_] rfl rfl rfl rfl (by simp) ?_)
  try simp only [splice,lC,lN,dS,cA,tS,tZ,dZ,nA,aN]
  refine Ld ?_
  refine T.ret ?_
  exact ⟨.inl rfl,_,_,res [_] rfl ⟨rvA [_,_,_,_,_] rfl ⟨rfl,rfl,rfl,rfl,rfl,trivial⟩,trivial⟩,⟨g3,rfl,rfl⟩,Sa⟩
def tb0T : Tb:=⟨0,[84],[([65],1),([66],2)]⟩
theorem Qg.tbV (B:Wn) (g1 g2:Nat) (l:List Wp):TbV B (blk g1 (tb0C g2) 82::blk g2 colsC 140::l) (.slice (some ⟨g1,0,none⟩) 1 1) [tb0T] :=
  ⟨_,1,rfl,.inr ⟨g1,0,rfl,λ i t h=>by
    cases i with
    | succ i=>simp at h
    | zero =>
      simp at h;subst h
      exact ⟨_,2,none,0,0,false,λ w ho=>ho.range (g:=g1) (o:=0) (C:=tb0C g2) (λ j v hj=>by rw [Nat.zero_add];exact hj),
        ⟨_,2,rfl,.inr ⟨g2,0,rfl,λ w ho=>ho.range (g:=g2) (o:=0) (C:=colsC) (λ j v hj=>by rw [Nat.zero_add];exact hj)⟩⟩⟩⟩⟩
def TmF (c:C7):Prop := ∃ (a:Str) (b d e:Int) (f:Str) (g:Int) (p:Option Addr) (n k:Nat),c=⟨tV a,iV b,iV d,iV e,tV f,iV g,.slice p n k⟩
theorem TmV.tmF {B:Wn} {S:List Wp} {t:Tm} {c:C7} (h:TmV B S t c):TmF c:=by
  obtain ⟨a,m,rfl⟩:=h.form
  exact ⟨_,_,_,_,_,_,_,_,_,rfl⟩
theorem TmF.zero : TmF zC:=⟨[],0,0,0,[],0,none,0,0,rfl⟩
def TermPost (B:Wn) (s:Str) (u:Value) (l:List Wp):Prop := ∃ c p A,u = .tuple #[tA c,.bool p]/\TmF c/\l=[A]/\(GoodT s->p=true)/\(p=true -> ∃ e t,CondOk s e/\Cond e t/\TmV B [A] t c)
def BndPost (B:Wn) (S:List Wp) (sc:List Co) (e:Ex) (u:Value) (l:List Wp):Prop := ∃ c k A,u = .tuple #[tA c,iV k]/\TmF c/\l=A::S/\(k=0 -> ∃ t,bindE sc e = .ok t/\TmV B [A] t c)/\(k≠0 -> ∃ code,bindE sc e = .error code)
theorem Qg.bind (B:Wn) (S:List Wp) (e:Ex) (ce:C5) (a:Option Addr) (m c:Nat) (sc:List Co) (h:ExV B S e ce) (hs:FlV B S coC (.slice a m c) sc) (hm:sc.length=m) (hmn:m<2^32):Fn Tryz.prog B 20 #[eA ce,.slice a m c] S (BndPost B S sc e):=by
  refine (Bd.bind B S e ce a m c sc h hs hm hmn).pre (λ F w ho=>ho) λ u l h=>?_
  cases hb:bindE sc e with
  | error code =>
    obtain ⟨rfl,h1,rfl⟩:=h.errE hb
    exact ⟨pu True::l,⟨zC,code,pu True,rfl,TmF.zero,rfl,λ h=>absurd h h1,λ _=>⟨code,hb⟩⟩,λ F w ho=>ho.map λ _ H=>Has.close_pu trivial H⟩
  | ok t =>
    obtain ⟨A,c,rfl,ht,rfl⟩:=h.okE hb
    exact ⟨A::S,⟨c,0,A,rfl,ht.tmF,rfl,λ _=>⟨t,hb,ht⟩,λ h=>absurd rfl h⟩,λ F w ho=>ho⟩
theorem Qg.term (B:Wn) (h0:B.low=0) (s:Str) (hs:s.length<2^38):Fn Tryz.prog B 5 #[tV s] [] (TermPost B s):=by
 refine Wq 69 Tryz.func5 rfl rfl (nB rfl) (λ F=>?_)
 try simp only [cA,nA]
 refine Ts ?_
 refine TR ?_
 refine Le (El [.string .empty,.int .i64 0,.int .i64 0,.int .i64 0,.string .empty,.int .i64 0,.slice none 0 0] (by unfold Zf;kernel_rfl) ?_)
 intro g2
 refine La rfl ?_
 refine Ld ?_
 refine Ts ?_
 refine TR ?_
 refine Lm rfl ?_
 refine Lq (Qt.addS (a:=preT) (b:=s) rfl rfl (by simp [preT,preW];omega)) ?_
 refine Le (Ec (Qg.parse B h0 s hs) Tryz.func19 rfl rfl rfl ?_)
 rintro _ lp ⟨s0,k,a,pq,nq,cq,po,no,co,pa,na,ca,pd,nd,cd,pr,nr,cr,rfl,hgd,himp⟩
 by_cases hg:k=0/\nq=1
 .
  obtain ⟨rfl,rfl⟩:=hg
  obtain ⟨q,x,A,C,hl,hen,hp,hn,rfl,rfl,rfl,hqv,⟨gq,rfl⟩,rfl⟩:=himp rfl rfl
  obtain ⟨v0,v1,v2,sq,pi,li,ci,pt,lt,ct,pw,cw,rfl,hxl⟩:=hqv
  try simp only [cA,nA]
  have hgx:GoodT s -> ∃ e t,x=⟨[e],1,0,0,0⟩/\Cond e t:=λ ⟨L2,g1,g2⟩=>by
   obtain ⟨q1,q2,q3,q4⟩:=q
   dsimp only at hl hen
   subst hen
   rw [hl] at g1;cases g1
   obtain ⟨e,t,g3,g4⟩:=g2 q1 q2
   rw [hp] at g3;cases g3
   exact ⟨e,t,rfl,g4⟩
  have hsm:=par_small hp
  have hlm:=lexR_small hl
  refine Lm rfl ?_
  refine Lq (Qx rfl rfl) ?_
  refine Lq (Qx rfl rfl) ?_
  refine Le (El [.string .empty,.string .empty,.slice none 0 0,.slice none 0 0,.slice none 0 0,.slice none 0 0,.int .i64 0,.int .i64 0,.slice none 0 0,.slice none 0 0,.slice none 0 0,.slice none 0 0,.slice none 0 0,.slice none 0 0] (by unfold Zf;kernel_rfl) ?_)
  intro g4
  refine Le (El [.int .i64 0,.int .i64 0] (by unfold Zf;kernel_rfl) ?_)
  intro g5
  refine L0 (Es [_,_,_,_,_,_,_,_,_,_,_,_,_,_] rfl rfl rfl rfl (by simp) ?_)
  try simp only [splice,lC,lN,dS,cA,tS,tZ,dZ,nA,aN]
  refine L0 (Es [_,_] rfl rfl rfl rfl (by simp) ?_)
  try simp only [splice,lC,lN,dS,cA,tS,tZ,dZ,nA,aN]
  refine Ld ?_
  refine Ts ?_
  refine Ts ?_
  refine TR ?_
  refine Lq (Q0 rfl) ?_
  refine Lq (Ql rfl rfl) ?_
  refine Lq (yW rfl rfl) ?_
  refine Lm rfl ?_
  refine yT (t:=17) rfl rfl ?_
  refine Lq (Qf (off:=9) rfl) ?_
  refine Lq (Ql rfl rfl) ?_
  refine Lq (yI (e:=91) (sz:=7) rfl) ?_
  refine Lq (yW rfl rfl) ?_
  refine Lq (Qp rfl rfl) ?_
  refine Lm rfl ?_
  refine yT (t:=23) rfl rfl ?_
  refine Lq (Qf (off:=9) rfl) ?_
  refine Lq (Ql rfl rfl) ?_
  refine Lq (Qi 0 (e:=91) (sz:=7) rfl rfl rfl) ?_
  refine Lq (Qf (off:=6) rfl) ?_
  refine Lq (Ql (v := .slice pw x.wh.length cw) rfl rfl) ?_
  refine Lq (yI (e:=76) (sz:=5) rfl) ?_
  refine Lq (yW rfl rfl) ?_
  refine Lq (Qp rfl rfl) ?_
  refine Lm rfl ?_
  refine zZ (t:=32) rfl (λ hw=>?_) (λ hw=>?_)
  .
   try replace hw:=of_decide_eq_true hw
   refine Ls rfl ?_
   refine Ls rfl ?_
   refine Ls rfl ?_
   refine Ls rfl ?_
   refine Ls rfl ?_
   refine Ls rfl ?_
   refine Ls rfl ?_
   refine Ls rfl ?_
   refine Ls rfl ?_
   refine Ls rfl ?_
   refine Ls rfl ?_
   refine Ls rfl ?_
   refine Lq (Qp rfl rfl) ?_
   refine Ld ?_
   refine zF rfl ?_
   refine T.conv (l':=pu True::_) (λ w ho=>ho.map λ _ H=>Has.close_pu trivial H) ?_
   refine Ts ?_
   refine TR ?_
   refine Lq (z8 [(0,1),(1,1),(2,3),(5,1),(6,1)] [.string .empty,.int .i64 0,.int .i64 0,.int .i64 0,.string .empty,.int .i64 0,.slice none 0 0] [_,_,_,_,_,_,_] [] (by unfold Zf;kernel_rfl) rfl rfl) ?_
   refine L0 (Es [_,_,_,_,_,_,_] rfl rfl rfl rfl (by simp) ?_)
   try simp only [splice,lC,lN,dS,cA,tS,tZ,dZ,nA,aN]
   refine La rfl ?_
   refine Ld ?_
   refine T.ret ?_
   exact ⟨.inl rfl,_,_,res [_,_] rfl ⟨rvA [_,_,_,_,_,_,_] rfl ⟨rfl,rfl,rfl,rfl,rfl,rfl,rfl,trivial⟩,rvT rfl,trivial⟩,⟨zC,false,pu True,rfl,TmF.zero,rfl,(λ hG=>by obtain ⟨e,t,hx,_⟩:=hgx hG;exact absurd (by rw [hx];rfl) hw),λ h=>by cases h⟩,Sa⟩
  try replace hw:=of_decide_eq_false hw
  refine Lq (Qf (off:=11) rfl) ?_
  refine Lq (Ql rfl rfl) ?_
  refine Lq (yI (e:=2) (sz:=1) rfl) ?_
  refine Lq (Qf (off:=12) rfl) ?_
  refine Lq (Ql rfl rfl) ?_
  refine Lq (yI (e:=33) (sz:=2) rfl) ?_
  refine Lq (Qd rfl rfl (Ze)) ?_
  refine Lq (Qf (off:=13) rfl) ?_
  refine Lq (Ql rfl rfl) ?_
  refine Lq (yI (e:=9) (sz:=1) rfl) ?_
  refine Lq (Qd rfl rfl (Ze)) ?_
  refine Lq (yW rfl rfl) ?_
  refine Lq (Qp rfl rfl) ?_
  refine Ld ?_
  refine yN rfl (λ hsum=>?_) (λ hsum=>?_)
  .
   refine T.conv (l':=pu True::_) (λ w ho=>ho.map λ _ H=>Has.close_pu trivial H) ?_
   refine Ts ?_
   refine TR ?_
   refine Lq (z8 [(0,1),(1,1),(2,3),(5,1),(6,1)] [.string .empty,.int .i64 0,.int .i64 0,.int .i64 0,.string .empty,.int .i64 0,.slice none 0 0] [_,_,_,_,_,_,_] [] (by unfold Zf;kernel_rfl) rfl rfl) ?_
   refine L0 (Es [_,_,_,_,_,_,_] rfl rfl rfl rfl (by simp) ?_)
   try simp only [splice,lC,lN,dS,cA,tS,tZ,dZ,nA,aN]
   refine La rfl ?_
   refine Ld ?_
   refine T.ret ?_
   exact ⟨.inl rfl,_,_,res [_,_] rfl ⟨rvA [_,_,_,_,_,_,_] rfl ⟨rfl,rfl,rfl,rfl,rfl,rfl,rfl,trivial⟩,rvT rfl,trivial⟩,⟨zC,false,pu True,rfl,TmF.zero,rfl,(λ hG=>by obtain ⟨e,t,hx,_⟩:=hgx hG;exact absurd (by rw [hx];rfl) hsum),λ h=>by cases h⟩,Sa⟩
  obtain ⟨e,hwe⟩ : ∃ e,x.wh=[e]:=by
   have hw1:x.wh.length=1:=by omega
   match hx:x.wh,hw1 with
   | [e],_=>exact ⟨e,rfl⟩
  have hcond:CondOk s e:=⟨q,x,hl,hp,hn,by omega,hwe⟩
  rw [hwe] at hxl ⊢
  obtain ⟨pw1,cw1,css,ew,hfl,hcl,hel⟩:=hxl
  cases ew
  obtain ⟨b,o,rfl,hr⟩:=hfl.at (sz:=5) (λ _=>rfl) (by simp)
  obtain ⟨c0,hc0⟩ : ∃ c0,css[0]? = some c0:=⟨_,List.getElem?_eq_getElem (by rw [hcl];simp)⟩
  have hev:=hel 0 e c0 rfl hc0
  have hr0:=hr 0 c0 hc0
  obtain ⟨o1,n1,x1,f1,a1,m1,k1,rfl⟩:=hev.form
  refine Tk ?_
  refine Ts ?_
  refine T.draw 16 ([blk g4 (stD s0 (.slice (some ⟨gq,0,none⟩) 1 cq) (.slice po no co) (.slice pa x.k ca) (.slice pd x.m cd) (.slice pr x.o cr)) 68,row (.slice (some ⟨gq,0,none⟩) 1 cq) 91 7 1 [.bool v0,.bool v1,.bool v2,.string sq,.slice pi li ci,.slice pt lt ct,.slice (some ⟨b,o,none⟩) [e].length cw],A]) (nB rfl) ?_
  refine Rq 0 rfl Sa (Qf (off:=9) rfl) ?_
  refine Rq 1 rfl Sa (Ql rfl rfl) ?_
  refine Rq 2 rfl Sa (Qi 0 (e:=91) (sz:=7) rfl rfl rfl) ?_
  refine Rq 3 rfl Sa (Qf (off:=6) rfl) ?_
  refine Rq 4 rfl Sa (Ql (v := .slice (some ⟨b,o,none⟩) 1 cw) rfl rfl) ?_
  refine Rq 5 rfl Sa (Qi 0 (e:=76) (sz:=5) rfl rfl rfl) ?_
  refine Rq 6 rfl Sa (Qt.loadAggW (c5 ⟨tV o1,iV n1,tV x1,tV f1,.slice a1 m1 k1⟩) rfl (λ w ho=>hr0 w (ho.map Sa))) ?_
  refine YC [7,14] (List.forall_mem_cons.2 ⟨?_,List.forall_mem_cons.2 ⟨?_,List.forall_mem_nil _⟩⟩)
  .
   refine z6 rfl (Ec (Qg.table B) Tryz.func22 rfl rfl rfl ?_)
   rintro _ _ ⟨gc,rfl,rfl⟩
   try simp only [cA,nA]
   refine ⟨Sa,?_⟩
   refine YC [8,14] (List.forall_mem_cons.2 ⟨?_,List.forall_mem_cons.2 ⟨?_,List.forall_mem_nil _⟩⟩)
   .
    refine z6 rfl (zK [_,_,_,_,_] (e:=82) (sz:=5) ⟨.agg #[.int .i64 0,.string .empty,.slice none 0 0,.slice none 0 0,.bool false],by kernel_rfl,rfl⟩ rfl rfl rfl ?_)
    intro g56
    refine ⟨Sa,?_⟩
    refine YC [9,14] (List.forall_mem_cons.2 ⟨?_,List.forall_mem_cons.2 ⟨?_,List.forall_mem_nil _⟩⟩)
    .
     refine z6 rfl (Ec (Bd.scope B [blk g56 (tb0C gc) 82,blk gc colsC 140] _ [tb0T] (Qg.tbV B g56 gc []) (by decide) (by decide)) Tryz.func21 rfl rfl rfl ?_)
     rintro _ _ ⟨ps,ks,rfl,hps,rfl⟩
     try simp only [cA,nA]
     obtain ⟨gs,rfl⟩:=hps (by decide)
     rw [show scopeP [tb0T]=tblSc from rfl,show tblSc.length=2 from rfl]
     have hsc:FlV B [row (.slice (some ⟨gs,0,none⟩) 2 ks) 142 3 2 (tblSc.flatMap coC)] coC (.slice (some ⟨gs,0,none⟩) 2 ks) tblSc:=FlV.row (sz:=3) coC_len (by omega) rfl (λ _=>⟨gs,rfl⟩)
     refine ⟨Sa,?_⟩
     refine YC [10,14] (List.forall_mem_cons.2 ⟨?_,List.forall_mem_cons.2 ⟨?_,List.forall_mem_nil _⟩⟩)
     .
      refine z6 rfl (Ec (Qg.bind B [A,row (.slice (some ⟨gs,0,none⟩) 2 ks) 142 3 2 (tblSc.flatMap coC)] e _ _ 2 ks tblSc (hev.mono λ w ho=>ho.map Sa) (hsc.mono λ w ho=>ho.map Sa) rfl (by decide)) Tryz.func20 rfl rfl rfl ?_)
      rintro _ _ ⟨c,kk,AT,rfl,⟨ta,tb,td,te,tf,tg,tp,tn,tk,rfl⟩,rfl,hk0,hk9⟩
      try simp only [cA,nA]
      refine ⟨Sa,?_⟩
      refine Rq 11 rfl Sa (Qm rfl) ?_
      refine Rq 12 rfl Sa (Qx rfl rfl) ?_
      refine Rq 13 rfl Sa (Qx rfl rfl) ?_
      refine yK 14 ?_
      refine z6 rfl (El [.string .empty,.int .i64 0,.int .i64 0,.int .i64 0,.string .empty,.int .i64 0,.slice none 0 0] (by unfold Zf;kernel_rfl) ?_)
      intro g6
      refine ⟨Sa,?_⟩
      refine yK 15 ?_
      refine YH rfl (Es [_,_,_,_,_,_,_] rfl rfl rfl rfl (by simp) ?_)
      try simp only [splice,lC,lN,dS,cA,tS,tZ,dZ,nA,aN]
      refine ⟨Sa,?_⟩
      refine Rd0 (by rfl) ?_
      simp only [dS,dZ,dN]
      refine La rfl ?_
      refine Ld ?_
      refine Ts ?_
      by_cases hkk:kk=0
      .
       obtain ⟨t,hbt,htv⟩:=hk0 hkk
       have hK:=Bd.kindF B t [AT] _ htv
       refine zW 9 (some g2) (nB rfl) ?_
       refine Rq 0 rfl Sa (QL [_,_,_,_,_,_,_] rfl ⟨rfl,rfl,rfl,rfl,rfl,rfl,rfl,trivial⟩) ?_
       refine Rq 1 rfl Sa (Qm rfl) ?_
       refine Rq 2 rfl Sa (yU rfl rfl) ?_
       refine Rq 3 rfl Sa (Qm rfl) ?_
       refine YY (t:=64) rfl (decide_eq_true (hkk)) ?_
       refine Rq 4 rfl Sa (QL [_,_,_,_,_,_,_] rfl ⟨rfl,rfl,rfl,rfl,rfl,rfl,rfl,trivial⟩) ?_
       refine yK 5 ?_
       refine z6 rfl (Ec (hK) Tryz.func24 rfl rfl rfl ?_)
       rintro _ _ ⟨rfl,rfl⟩
       try simp only [cA,nA]
       refine ⟨Sa,?_⟩
       refine Rq 6 rfl Sa (yU rfl rfl) ?_
       refine Rq 7 rfl Sa (Qp rfl rfl) ?_
       refine yK 8 ?_
       refine YH rfl (Es [_,_,_,_,_,_,_] rfl rfl rfl rfl (by simp) ?_)
       try simp only [splice,lC,lN,dS,cA,tS,tZ,dZ,nA,aN]
       refine ⟨Sa,?_⟩
       refine Rd0 (by rfl) ?_
       simp only [dS,dZ,dN]
       refine La rfl ?_
       refine Ld ?_
       have hGt:GoodT s->t.kind=3:=λ hG=>by
        obtain ⟨e2,t2,hx,hc2⟩:=hgx hG
        rw [hx] at hwe
        cases hwe
        have:=hc2.b
        rw [hbt] at this;cases this
        exact hc2.k
       refine T.ret ?_
       exact ⟨.inl rfl,_,_,res [_,_] rfl ⟨rvA [_,_,_,_,_,_,_] rfl ⟨rfl,rfl,rfl,rfl,rfl,rfl,rfl,trivial⟩,rvT rfl,trivial⟩,⟨⟨tV ta,iV tb,iV td,iV te,tV tf,iV tg,.slice tp tn tk⟩,decide (t.kind=3),AT,rfl,⟨_,_,_,_,_,_,_,_,_,rfl⟩,rfl,λ hG=>decide_eq_true (hGt hG),λ h=>⟨e,t,hcond,⟨hbt,of_decide_eq_true h⟩,htv⟩⟩,Sa⟩
      refine zW 9 (some g2) (nB rfl) ?_
      refine Rq 0 rfl Sa (QL [_,_,_,_,_,_,_] rfl ⟨rfl,rfl,rfl,rfl,rfl,rfl,rfl,trivial⟩) ?_
      refine Rq 1 rfl Sa (Qm rfl) ?_
      refine Rq 2 rfl Sa (yU rfl rfl) ?_
      refine Rq 3 rfl Sa (Qm rfl) ?_
      refine ZD (t:=64) rfl (decide_eq_false (hkk)) ?_
      refine yY 4 rfl Sa ?_
      refine yY 5 rfl Sa ?_
      refine yY 6 rfl Sa ?_
      refine Rq 7 rfl Sa (Qp rfl rfl) ?_
      refine yK 8 ?_
      refine YH rfl (Es [_,_,_,_,_,_,_] rfl rfl rfl rfl (by simp) ?_)
      try simp only [splice,lC,lN,dS,cA,tS,tZ,dZ,nA,aN]
      refine ⟨Sa,?_⟩
      refine Rd0 (by rfl) ?_
      simp only [dS,dZ,dN]
      refine La rfl ?_
      refine Ld ?_
      have hGf : ¬ GoodT s:=λ hG=>by
       obtain ⟨e2,t2,hx,hc2⟩:=hgx hG
       rw [hx] at hwe
       cases hwe
       obtain ⟨code,hcd⟩:=hk9 hkk
       have:=hc2.b
       rw [hcd] at this;cases this
      refine T.ret ?_
      exact ⟨.inl rfl,_,_,res [_,_] rfl ⟨rvA [_,_,_,_,_,_,_] rfl ⟨rfl,rfl,rfl,rfl,rfl,rfl,rfl,trivial⟩,rvT rfl,trivial⟩,⟨⟨tV ta,iV tb,iV td,iV te,tV tf,iV tg,.slice tp tn tk⟩,false,AT,rfl,⟨_,_,_,_,_,_,_,_,_,rfl⟩,rfl,λ hG=>absurd hG hGf,λ h=>by cases h⟩,Sa⟩
     refine z6 rfl (El [.string .empty,.int .i64 0,.int .i64 0,.int .i64 0,.string .empty,.int .i64 0,.slice none 0 0] (by unfold Zf;kernel_rfl) ?_)
     intro g6
     refine ⟨Sa,?_⟩
     refine yK 10 ?_
     refine z6 rfl (Ec (Qg.bind B [A,row (.slice (some ⟨gs,0,none⟩) 2 ks) 142 3 2 (tblSc.flatMap coC)] e _ _ 2 ks tblSc (hev.mono λ w ho=>ho.map Sa) (hsc.mono λ w ho=>ho.map Sa) rfl (by decide)) Tryz.func20 rfl rfl rfl ?_)
     rintro _ _ ⟨c,kk,AT,rfl,⟨ta,tb,td,te,tf,tg,tp,tn,tk,rfl⟩,rfl,hk0,hk9⟩
     try simp only [cA,nA]
     refine ⟨Sa,?_⟩
     refine Rq 11 rfl Sa (Qm rfl) ?_
     refine Rq 12 rfl Sa (Qx rfl rfl) ?_
     refine Rq 13 rfl Sa (Qx rfl rfl) ?_
     refine yK 15 ?_
     refine YH rfl (Es [_,_,_,_,_,_,_] rfl rfl rfl rfl (by simp) ?_)
     try simp only [splice,lC,lN,dS,cA,tS,tZ,dZ,nA,aN]
     refine ⟨Sa,?_⟩
     refine Rd0 (by rfl) ?_
     simp only [dS,dZ,dN]
     refine La rfl ?_
     refine Ld ?_
     refine Ts ?_
     by_cases hkk:kk=0
     .
      obtain ⟨t,hbt,htv⟩:=hk0 hkk
      have hK:=Bd.kindF B t [AT] _ htv
      refine zW 9 (some g2) (nB rfl) ?_
      refine Rq 0 rfl Sa (QL [_,_,_,_,_,_,_] rfl ⟨rfl,rfl,rfl,rfl,rfl,rfl,rfl,trivial⟩) ?_
      refine Rq 1 rfl Sa (Qm rfl) ?_
      refine Rq 2 rfl Sa (yU rfl rfl) ?_
      refine Rq 3 rfl Sa (Qm rfl) ?_
      refine YY (t:=64) rfl (decide_eq_true (hkk)) ?_
      refine Rq 4 rfl Sa (QL [_,_,_,_,_,_,_] rfl ⟨rfl,rfl,rfl,rfl,rfl,rfl,rfl,trivial⟩) ?_
      refine yK 5 ?_
      refine z6 rfl (Ec (hK) Tryz.func24 rfl rfl rfl ?_)
      rintro _ _ ⟨rfl,rfl⟩
      try simp only [cA,nA]
      refine ⟨Sa,?_⟩
      refine Rq 6 rfl Sa (yU rfl rfl) ?_
      refine Rq 7 rfl Sa (Qp rfl rfl) ?_
      refine yK 8 ?_
      refine YH rfl (Es [_,_,_,_,_,_,_] rfl rfl rfl rfl (by simp) ?_)
      try simp only [splice,lC,lN,dS,cA,tS,tZ,dZ,nA,aN]
      refine ⟨Sa,?_⟩
      refine Rd0 (by rfl) ?_
      simp only [dS,dZ,dN]
      refine La rfl ?_
      refine Ld ?_
      have hGt:GoodT s->t.kind=3:=λ hG=>by
       obtain ⟨e2,t2,hx,hc2⟩:=hgx hG
       rw [hx] at hwe
       cases hwe
       have:=hc2.b
       rw [hbt] at this;cases this
       exact hc2.k
      refine T.ret ?_
      exact ⟨.inl rfl,_,_,res [_,_] rfl ⟨rvA [_,_,_,_,_,_,_] rfl ⟨rfl,rfl,rfl,rfl,rfl,rfl,rfl,trivial⟩,rvT rfl,trivial⟩,⟨⟨tV ta,iV tb,iV td,iV te,tV tf,iV tg,.slice tp tn tk⟩,decide (t.kind=3),AT,rfl,⟨_,_,_,_,_,_,_,_,_,rfl⟩,rfl,λ hG=>decide_eq_true (hGt hG),λ h=>⟨e,t,hcond,⟨hbt,of_decide_eq_true h⟩,htv⟩⟩,Sa⟩
     refine zW 9 (some g2) (nB rfl) ?_
     refine Rq 0 rfl Sa (QL [_,_,_,_,_,_,_] rfl ⟨rfl,rfl,rfl,rfl,rfl,rfl,rfl,trivial⟩) ?_
     refine Rq 1 rfl Sa (Qm rfl) ?_
     refine Rq 2 rfl Sa (yU rfl rfl) ?_
     refine Rq 3 rfl Sa (Qm rfl) ?_
     refine ZD (t:=64) rfl (decide_eq_false (hkk)) ?_
     refine yY 4 rfl Sa ?_
     refine yY 5 rfl Sa ?_
     refine yY 6 rfl Sa ?_
     refine Rq 7 rfl Sa (Qp rfl rfl) ?_
     refine yK 8 ?_
     refine YH rfl (Es [_,_,_,_,_,_,_] rfl rfl rfl rfl (by simp) ?_)
     try simp only [splice,lC,lN,dS,cA,tS,tZ,dZ,nA,aN]
     refine ⟨Sa,?_⟩
     refine Rd0 (by rfl) ?_
     simp only [dS,dZ,dN]
     refine La rfl ?_
     refine Ld ?_
     have hGf : ¬ GoodT s:=λ hG=>by
      obtain ⟨e2,t2,hx,hc2⟩:=hgx hG
      rw [hx] at hwe
      cases hwe
      obtain ⟨code,hcd⟩:=hk9 hkk
      have:=hc2.b
      rw [hcd] at this;cases this
     refine T.ret ?_
     exact ⟨.inl rfl,_,_,res [_,_] rfl ⟨rvA [_,_,_,_,_,_,_] rfl ⟨rfl,rfl,rfl,rfl,rfl,rfl,rfl,trivial⟩,rvT rfl,trivial⟩,⟨⟨tV ta,iV tb,iV td,iV te,tV tf,iV tg,.slice tp tn tk⟩,false,AT,rfl,⟨_,_,_,_,_,_,_,_,_,rfl⟩,rfl,λ hG=>absurd hG hGf,λ h=>by cases h⟩,Sa⟩
    refine z6 rfl (El [.string .empty,.int .i64 0,.int .i64 0,.int .i64 0,.string .empty,.int .i64 0,.slice none 0 0] (by unfold Zf;kernel_rfl) ?_)
    intro g6
    refine ⟨Sa,?_⟩
    refine yK 9 ?_
    refine z6 rfl (Ec (Bd.scope B [blk g56 (tb0C gc) 82,blk gc colsC 140] _ [tb0T] (Qg.tbV B g56 gc []) (by decide) (by decide)) Tryz.func21 rfl rfl rfl ?_)
    rintro _ _ ⟨ps,ks,rfl,hps,rfl⟩
    try simp only [cA,nA]
    obtain ⟨gs,rfl⟩:=hps (by decide)
    rw [show scopeP [tb0T]=tblSc from rfl,show tblSc.length=2 from rfl]
    have hsc:FlV B [row (.slice (some ⟨gs,0,none⟩) 2 ks) 142 3 2 (tblSc.flatMap coC)] coC (.slice (some ⟨gs,0,none⟩) 2 ks) tblSc:=FlV.row (sz:=3) coC_len (by omega) rfl (λ _=>⟨gs,rfl⟩)
    refine ⟨Sa,?_⟩
    refine yK 10 ?_
    refine z6 rfl (Ec (Qg.bind B [A,row (.slice (some ⟨gs,0,none⟩) 2 ks) 142 3 2 (tblSc.flatMap coC)] e _ _ 2 ks tblSc (hev.mono λ w ho=>ho.map Sa) (hsc.mono λ w ho=>ho.map Sa) rfl (by decide)) Tryz.func20 rfl rfl rfl ?_)
    rintro _ _ ⟨c,kk,AT,rfl,⟨ta,tb,td,te,tf,tg,tp,tn,tk,rfl⟩,rfl,hk0,hk9⟩
    try simp only [cA,nA]
    refine ⟨Sa,?_⟩
    refine Rq 11 rfl Sa (Qm rfl) ?_
    refine Rq 12 rfl Sa (Qx rfl rfl) ?_
    refine Rq 13 rfl Sa (Qx rfl rfl) ?_
    refine yK 15 ?_
    refine YH rfl (Es [_,_,_,_,_,_,_] rfl rfl rfl rfl (by simp) ?_)
    try simp only [splice,lC,lN,dS,cA,tS,tZ,dZ,nA,aN]
    refine ⟨Sa,?_⟩
    refine Rd0 (by rfl) ?_
    simp only [dS,dZ,dN]
    refine La rfl ?_
    refine Ld ?_
    refine Ts ?_
    by_cases hkk:kk=0
    .
     obtain ⟨t,hbt,htv⟩:=hk0 hkk
     have hK:=Bd.kindF B t [AT] _ htv
     refine zW 9 (some g2) (nB rfl) ?_
     refine Rq 0 rfl Sa (QL [_,_,_,_,_,_,_] rfl ⟨rfl,rfl,rfl,rfl,rfl,rfl,rfl,trivial⟩) ?_
     refine Rq 1 rfl Sa (Qm rfl) ?_
     refine Rq 2 rfl Sa (yU rfl rfl) ?_
     refine Rq 3 rfl Sa (Qm rfl) ?_
     refine YY (t:=64) rfl (decide_eq_true (hkk)) ?_
     refine Rq 4 rfl Sa (QL [_,_,_,_,_,_,_] rfl ⟨rfl,rfl,rfl,rfl,rfl,rfl,rfl,trivial⟩) ?_
     refine yK 5 ?_
     refine z6 rfl (Ec (hK) Tryz.func24 rfl rfl rfl ?_)
     rintro _ _ ⟨rfl,rfl⟩
     try simp only [cA,nA]
     refine ⟨Sa,?_⟩
     refine Rq 6 rfl Sa (yU rfl rfl) ?_
     refine Rq 7 rfl Sa (Qp rfl rfl) ?_
     refine yK 8 ?_
     refine YH rfl (Es [_,_,_,_,_,_,_] rfl rfl rfl rfl (by simp) ?_)
     try simp only [splice,lC,lN,dS,cA,tS,tZ,dZ,nA,aN]
     refine ⟨Sa,?_⟩
     refine Rd0 (by rfl) ?_
     simp only [dS,dZ,dN]
     refine La rfl ?_
     refine Ld ?_
     have hGt:GoodT s->t.kind=3:=λ hG=>by
      obtain ⟨e2,t2,hx,hc2⟩:=hgx hG
      rw [hx] at hwe
      cases hwe
      have:=hc2.b
      rw [hbt] at this;cases this
      exact hc2.k
     refine T.ret ?_
     exact ⟨.inl rfl,_,_,res [_,_] rfl ⟨rvA [_,_,_,_,_,_,_] rfl ⟨rfl,rfl,rfl,rfl,rfl,rfl,rfl,trivial⟩,rvT rfl,trivial⟩,⟨⟨tV ta,iV tb,iV td,iV te,tV tf,iV tg,.slice tp tn tk⟩,decide (t.kind=3),AT,rfl,⟨_,_,_,_,_,_,_,_,_,rfl⟩,rfl,λ hG=>decide_eq_true (hGt hG),λ h=>⟨e,t,hcond,⟨hbt,of_decide_eq_true h⟩,htv⟩⟩,Sa⟩
    refine zW 9 (some g2) (nB rfl) ?_
    refine Rq 0 rfl Sa (QL [_,_,_,_,_,_,_] rfl ⟨rfl,rfl,rfl,rfl,rfl,rfl,rfl,trivial⟩) ?_
    refine Rq 1 rfl Sa (Qm rfl) ?_
    refine Rq 2 rfl Sa (yU rfl rfl) ?_
    refine Rq 3 rfl Sa (Qm rfl) ?_
    refine ZD (t:=64) rfl (decide_eq_false (hkk)) ?_
    refine yY 4 rfl Sa ?_
    refine yY 5 rfl Sa ?_
    refine yY 6 rfl Sa ?_
    refine Rq 7 rfl Sa (Qp rfl rfl) ?_
    refine yK 8 ?_
    refine YH rfl (Es [_,_,_,_,_,_,_] rfl rfl rfl rfl (by simp) ?_)
    try simp only [splice,lC,lN,dS,cA,tS,tZ,dZ,nA,aN]
    refine ⟨Sa,?_⟩
    refine Rd0 (by rfl) ?_
    simp only [dS,dZ,dN]
    refine La rfl ?_
    refine Ld ?_
    have hGf : ¬ GoodT s:=λ hG=>by
     obtain ⟨e2,t2,hx,hc2⟩:=hgx hG
     rw [hx] at hwe
     cases hwe
     obtain ⟨code,hcd⟩:=hk9 hkk
     have:=hc2.b
     rw [hcd] at this;cases this
    refine T.ret ?_
    exact ⟨.inl rfl,_,_,res [_,_] rfl ⟨rvA [_,_,_,_,_,_,_] rfl ⟨rfl,rfl,rfl,rfl,rfl,rfl,rfl,trivial⟩,rvT rfl,trivial⟩,⟨⟨tV ta,iV tb,iV td,iV te,tV tf,iV tg,.slice tp tn tk⟩,false,AT,rfl,⟨_,_,_,_,_,_,_,_,_,rfl⟩,rfl,λ hG=>absurd hG hGf,λ h=>by cases h⟩,Sa⟩
   refine z6 rfl (El [.string .empty,.int .i64 0,.int .i64 0,.int .i64 0,.string .empty,.int .i64 0,.slice none 0 0] (by unfold Zf;kernel_rfl) ?_)
   intro g6
   refine ⟨Sa,?_⟩
   refine yK 8 ?_
   refine z6 rfl (zK [_,_,_,_,_] (e:=82) (sz:=5) ⟨.agg #[.int .i64 0,.string .empty,.slice none 0 0,.slice none 0 0,.bool false],by kernel_rfl,rfl⟩ rfl rfl rfl ?_)
   intro g56
   refine ⟨Sa,?_⟩
   refine yK 9 ?_
   refine z6 rfl (Ec (Bd.scope B [blk g56 (tb0C gc) 82,blk gc colsC 140] _ [tb0T] (Qg.tbV B g56 gc []) (by decide) (by decide)) Tryz.func21 rfl rfl rfl ?_)
   rintro _ _ ⟨ps,ks,rfl,hps,rfl⟩
   try simp only [cA,nA]
   obtain ⟨gs,rfl⟩:=hps (by decide)
   rw [show scopeP [tb0T]=tblSc from rfl,show tblSc.length=2 from rfl]
   have hsc:FlV B [row (.slice (some ⟨gs,0,none⟩) 2 ks) 142 3 2 (tblSc.flatMap coC)] coC (.slice (some ⟨gs,0,none⟩) 2 ks) tblSc:=FlV.row (sz:=3) coC_len (by omega) rfl (λ _=>⟨gs,rfl⟩)
   refine ⟨Sa,?_⟩
   refine yK 10 ?_
   refine z6 rfl (Ec (Qg.bind B [A,row (.slice (some ⟨gs,0,none⟩) 2 ks) 142 3 2 (tblSc.flatMap coC)] e _ _ 2 ks tblSc (hev.mono λ w ho=>ho.map Sa) (hsc.mono λ w ho=>ho.map Sa) rfl (by decide)) Tryz.func20 rfl rfl rfl ?_)
   rintro _ _ ⟨c,kk,AT,rfl,⟨ta,tb,td,te,tf,tg,tp,tn,tk,rfl⟩,rfl,hk0,hk9⟩
   try simp only [cA,nA]
   refine ⟨Sa,?_⟩
   refine Rq 11 rfl Sa (Qm rfl) ?_
   refine Rq 12 rfl Sa (Qx rfl rfl) ?_
   refine Rq 13 rfl Sa (Qx rfl rfl) ?_
   refine yK 15 ?_
   refine YH rfl (Es [_,_,_,_,_,_,_] rfl rfl rfl rfl (by simp) ?_)
   try simp only [splice,lC,lN,dS,cA,tS,tZ,dZ,nA,aN]
   refine ⟨Sa,?_⟩
   refine Rd0 (by rfl) ?_
   simp only [dS,dZ,dN]
   refine La rfl ?_
   refine Ld ?_
   refine Ts ?_
   by_cases hkk:kk=0
   .
    obtain ⟨t,hbt,htv⟩:=hk0 hkk
    have hK:=Bd.kindF B t [AT] _ htv
    refine zW 9 (some g2) (nB rfl) ?_
    refine Rq 0 rfl Sa (QL [_,_,_,_,_,_,_] rfl ⟨rfl,rfl,rfl,rfl,rfl,rfl,rfl,trivial⟩) ?_
    refine Rq 1 rfl Sa (Qm rfl) ?_
    refine Rq 2 rfl Sa (yU rfl rfl) ?_
    refine Rq 3 rfl Sa (Qm rfl) ?_
    refine YY (t:=64) rfl (decide_eq_true (hkk)) ?_
    refine Rq 4 rfl Sa (QL [_,_,_,_,_,_,_] rfl ⟨rfl,rfl,rfl,rfl,rfl,rfl,rfl,trivial⟩) ?_
    refine yK 5 ?_
    refine z6 rfl (Ec (hK) Tryz.func24 rfl rfl rfl ?_)
    rintro _ _ ⟨rfl,rfl⟩
    try simp only [cA,nA]
    refine ⟨Sa,?_⟩
    refine Rq 6 rfl Sa (yU rfl rfl) ?_
    refine Rq 7 rfl Sa (Qp rfl rfl) ?_
    refine yK 8 ?_
    refine YH rfl (Es [_,_,_,_,_,_,_] rfl rfl rfl rfl (by simp) ?_)
    try simp only [splice,lC,lN,dS,cA,tS,tZ,dZ,nA,aN]
    refine ⟨Sa,?_⟩
    refine Rd0 (by rfl) ?_
    simp only [dS,dZ,dN]
    refine La rfl ?_
    refine Ld ?_
    have hGt:GoodT s->t.kind=3:=λ hG=>by
     obtain ⟨e2,t2,hx,hc2⟩:=hgx hG
     rw [hx] at hwe
     cases hwe
     have:=hc2.b
     rw [hbt] at this;cases this
     exact hc2.k
    refine T.ret ?_
    exact ⟨.inl rfl,_,_,res [_,_] rfl ⟨rvA [_,_,_,_,_,_,_] rfl ⟨rfl,rfl,rfl,rfl,rfl,rfl,rfl,trivial⟩,rvT rfl,trivial⟩,⟨⟨tV ta,iV tb,iV td,iV te,tV tf,iV tg,.slice tp tn tk⟩,decide (t.kind=3),AT,rfl,⟨_,_,_,_,_,_,_,_,_,rfl⟩,rfl,λ hG=>decide_eq_true (hGt hG),λ h=>⟨e,t,hcond,⟨hbt,of_decide_eq_true h⟩,htv⟩⟩,Sa⟩
   refine zW 9 (some g2) (nB rfl) ?_
   refine Rq 0 rfl Sa (QL [_,_,_,_,_,_,_] rfl ⟨rfl,rfl,rfl,rfl,rfl,rfl,rfl,trivial⟩) ?_
   refine Rq 1 rfl Sa (Qm rfl) ?_
   refine Rq 2 rfl Sa (yU rfl rfl) ?_
   refine Rq 3 rfl Sa (Qm rfl) ?_
   refine ZD (t:=64) rfl (decide_eq_false (hkk)) ?_
   refine yY 4 rfl Sa ?_
   refine yY 5 rfl Sa ?_
   refine yY 6 rfl Sa ?_
   refine Rq 7 rfl Sa (Qp rfl rfl) ?_
   refine yK 8 ?_
   refine YH rfl (Es [_,_,_,_,_,_,_] rfl rfl rfl rfl (by simp) ?_)
   try simp only [splice,lC,lN,dS,cA,tS,tZ,dZ,nA,aN]
   refine ⟨Sa,?_⟩
   refine Rd0 (by rfl) ?_
   simp only [dS,dZ,dN]
   refine La rfl ?_
   refine Ld ?_
   have hGf : ¬ GoodT s:=λ hG=>by
    obtain ⟨e2,t2,hx,hc2⟩:=hgx hG
    rw [hx] at hwe
    cases hwe
    obtain ⟨code,hcd⟩:=hk9 hkk
    have:=hc2.b
    rw [hcd] at this;cases this
   refine T.ret ?_
   exact ⟨.inl rfl,_,_,res [_,_] rfl ⟨rvA [_,_,_,_,_,_,_] rfl ⟨rfl,rfl,rfl,rfl,rfl,rfl,rfl,trivial⟩,rvT rfl,trivial⟩,⟨⟨tV ta,iV tb,iV td,iV te,tV tf,iV tg,.slice tp tn tk⟩,false,AT,rfl,⟨_,_,_,_,_,_,_,_,_,rfl⟩,rfl,λ hG=>absurd hG hGf,λ h=>by cases h⟩,Sa⟩
  refine z6 rfl (El [.string .empty,.int .i64 0,.int .i64 0,.int .i64 0,.string .empty,.int .i64 0,.slice none 0 0] (by unfold Zf;kernel_rfl) ?_)
  intro g6
  refine ⟨Sa,?_⟩
  refine yK 7 ?_
  refine z6 rfl (Ec (Qg.table B) Tryz.func22 rfl rfl rfl ?_)
  rintro _ _ ⟨gc,rfl,rfl⟩
  try simp only [cA,nA]
  refine ⟨Sa,?_⟩
  refine yK 8 ?_
  refine z6 rfl (zK [_,_,_,_,_] (e:=82) (sz:=5) ⟨.agg #[.int .i64 0,.string .empty,.slice none 0 0,.slice none 0 0,.bool false],by kernel_rfl,rfl⟩ rfl rfl rfl ?_)
  intro g56
  refine ⟨Sa,?_⟩
  refine yK 9 ?_
  refine z6 rfl (Ec (Bd.scope B [blk g56 (tb0C gc) 82,blk gc colsC 140] _ [tb0T] (Qg.tbV B g56 gc []) (by decide) (by decide)) Tryz.func21 rfl rfl rfl ?_)
  rintro _ _ ⟨ps,ks,rfl,hps,rfl⟩
  try simp only [cA,nA]
  obtain ⟨gs,rfl⟩:=hps (by decide)
  rw [show scopeP [tb0T]=tblSc from rfl,show tblSc.length=2 from rfl]
  have hsc:FlV B [row (.slice (some ⟨gs,0,none⟩) 2 ks) 142 3 2 (tblSc.flatMap coC)] coC (.slice (some ⟨gs,0,none⟩) 2 ks) tblSc:=FlV.row (sz:=3) coC_len (by omega) rfl (λ _=>⟨gs,rfl⟩)
  refine ⟨Sa,?_⟩
  refine yK 10 ?_
  refine z6 rfl (Ec (Qg.bind B [A,row (.slice (some ⟨gs,0,none⟩) 2 ks) 142 3 2 (tblSc.flatMap coC)] e _ _ 2 ks tblSc (hev.mono λ w ho=>ho.map Sa) (hsc.mono λ w ho=>ho.map Sa) rfl (by decide)) Tryz.func20 rfl rfl rfl ?_)
  rintro _ _ ⟨c,kk,AT,rfl,⟨ta,tb,td,te,tf,tg,tp,tn,tk,rfl⟩,rfl,hk0,hk9⟩
  try simp only [cA,nA]
  refine ⟨Sa,?_⟩
  refine Rq 11 rfl Sa (Qm rfl) ?_
  refine Rq 12 rfl Sa (Qx rfl rfl) ?_
  refine Rq 13 rfl Sa (Qx rfl rfl) ?_
  refine yK 15 ?_
  refine YH rfl (Es [_,_,_,_,_,_,_] rfl rfl rfl rfl (by simp) ?_)
  try simp only [splice,lC,lN,dS,cA,tS,tZ,dZ,nA,aN]
  refine ⟨Sa,?_⟩
  refine Rd0 (by rfl) ?_
  simp only [dS,dZ,dN]
  refine La rfl ?_
  refine Ld ?_
  refine Ts ?_
  by_cases hkk:kk=0
  .
   obtain ⟨t,hbt,htv⟩:=hk0 hkk
   have hK:=Bd.kindF B t [AT] _ htv
   refine zW 9 (some g2) (nB rfl) ?_
   refine Rq 0 rfl Sa (QL [_,_,_,_,_,_,_] rfl ⟨rfl,rfl,rfl,rfl,rfl,rfl,rfl,trivial⟩) ?_
   refine Rq 1 rfl Sa (Qm rfl) ?_
   refine Rq 2 rfl Sa (yU rfl rfl) ?_
   refine Rq 3 rfl Sa (Qm rfl) ?_
   refine YY (t:=64) rfl (decide_eq_true (hkk)) ?_
   refine Rq 4 rfl Sa (QL [_,_,_,_,_,_,_] rfl ⟨rfl,rfl,rfl,rfl,rfl,rfl,rfl,trivial⟩) ?_
   refine yK 5 ?_
   refine z6 rfl (Ec (hK) Tryz.func24 rfl rfl rfl ?_)
   rintro _ _ ⟨rfl,rfl⟩
   try simp only [cA,nA]
   refine ⟨Sa,?_⟩
   refine Rq 6 rfl Sa (yU rfl rfl) ?_
   refine Rq 7 rfl Sa (Qp rfl rfl) ?_
   refine yK 8 ?_
   refine YH rfl (Es [_,_,_,_,_,_,_] rfl rfl rfl rfl (by simp) ?_)
   try simp only [splice,lC,lN,dS,cA,tS,tZ,dZ,nA,aN]
   refine ⟨Sa,?_⟩
   refine Rd0 (by rfl) ?_
   simp only [dS,dZ,dN]
   refine La rfl ?_
   refine Ld ?_
   have hGt:GoodT s->t.kind=3:=λ hG=>by
    obtain ⟨e2,t2,hx,hc2⟩:=hgx hG
    rw [hx] at hwe
    cases hwe
    have:=hc2.b
    rw [hbt] at this;cases this
    exact hc2.k
   refine T.ret ?_
   exact ⟨.inl rfl,_,_,res [_,_] rfl ⟨rvA [_,_,_,_,_,_,_] rfl ⟨rfl,rfl,rfl,rfl,rfl,rfl,rfl,trivial⟩,rvT rfl,trivial⟩,⟨⟨tV ta,iV tb,iV td,iV te,tV tf,iV tg,.slice tp tn tk⟩,decide (t.kind=3),AT,rfl,⟨_,_,_,_,_,_,_,_,_,rfl⟩,rfl,λ hG=>decide_eq_true (hGt hG),λ h=>⟨e,t,hcond,⟨hbt,of_decide_eq_true h⟩,htv⟩⟩,Sa⟩
  refine zW 9 (some g2) (nB rfl) ?_
  refine Rq 0 rfl Sa (QL [_,_,_,_,_,_,_] rfl ⟨rfl,rfl,rfl,rfl,rfl,rfl,rfl,trivial⟩) ?_
  refine Rq 1 rfl Sa (Qm rfl) ?_
  refine Rq 2 rfl Sa (yU rfl rfl) ?_
  refine Rq 3 rfl Sa (Qm rfl) ?_
  refine ZD (t:=64) rfl (decide_eq_false (hkk)) ?_
  refine yY 4 rfl Sa ?_
  refine yY 5 rfl Sa ?_
  refine yY 6 rfl Sa ?_
  refine Rq 7 rfl Sa (Qp rfl rfl) ?_
  refine yK 8 ?_
  refine YH rfl (Es [_,_,_,_,_,_,_] rfl rfl rfl rfl (by simp) ?_)
  try simp only [splice,lC,lN,dS,cA,tS,tZ,dZ,nA,aN]
  refine ⟨Sa,?_⟩
  refine Rd0 (by rfl) ?_
  simp only [dS,dZ,dN]
  refine La rfl ?_
  refine Ld ?_
  have hGf : ¬ GoodT s:=λ hG=>by
   obtain ⟨e2,t2,hx,hc2⟩:=hgx hG
   rw [hx] at hwe
   cases hwe
   obtain ⟨code,hcd⟩:=hk9 hkk
   have:=hc2.b
   rw [hcd] at this;cases this
  refine T.ret ?_
  exact ⟨.inl rfl,_,_,res [_,_] rfl ⟨rvA [_,_,_,_,_,_,_] rfl ⟨rfl,rfl,rfl,rfl,rfl,rfl,rfl,trivial⟩,rvT rfl,trivial⟩,⟨⟨tV ta,iV tb,iV td,iV te,tV tf,iV tg,.slice tp tn tk⟩,false,AT,rfl,⟨_,_,_,_,_,_,_,_,_,rfl⟩,rfl,λ hG=>absurd hG hGf,λ h=>by cases h⟩,Sa⟩
 refine LW.conv (l':=blk g2 [.string .empty,iV 0,iV 0,iV 0,.string .empty,iV 0,.slice none 0 0] 27::F) (λ w ho=>ho.map λ h H=>(Has.split H).elim λ _ z=>z.elim λ _ z=>z.2.2.2.2.mono z.2.2.1) ?_
 by_cases hk:k=0
 .
  have hq:nq≠1:=λ e=>hg ⟨hk,e⟩
  refine Lm rfl ?_
  refine Lq (Qx rfl rfl) ?_
  refine Lq (Qx rfl rfl) ?_
  refine Le (El [.string .empty,.string .empty,.slice none 0 0,.slice none 0 0,.slice none 0 0,.slice none 0 0,.int .i64 0,.int .i64 0,.slice none 0 0,.slice none 0 0,.slice none 0 0,.slice none 0 0,.slice none 0 0,.slice none 0 0] (by unfold Zf;kernel_rfl) ?_)
  intro g4
  refine Le (El [.int .i64 0,.int .i64 0] (by unfold Zf;kernel_rfl) ?_)
  intro g5
  refine L0 (Es [_,_,_,_,_,_,_,_,_,_,_,_,_,_] rfl rfl rfl rfl (by simp) ?_)
  try simp only [splice,lC,lN,dS,cA,tS,tZ,dZ,nA,aN]
  refine L0 (Es [_,_] rfl rfl rfl rfl (by simp) ?_)
  try simp only [splice,lC,lN,dS,cA,tS,tZ,dZ,nA,aN]
  refine Ld ?_
  refine Ts ?_
  refine Ts ?_
  refine TR ?_
  refine Lq (Q0 rfl) ?_
  refine Lq (Ql rfl rfl) ?_
  refine Lq (yW rfl rfl) ?_
  refine Lm rfl ?_
  refine yT (t:=17) rfl (decide_eq_false ((by omega))) ?_
  refine Lq (Qf (off:=9) rfl) ?_
  refine Lq (Ql rfl rfl) ?_
  refine Lq (yI (e:=91) (sz:=7) rfl) ?_
  refine Lq (yW rfl rfl) ?_
  refine Lq (Qp rfl rfl) ?_
  refine Lm rfl ?_
  refine zQ (t:=23) rfl (decide_eq_true ((by omega))) ?_
  refine Ls rfl ?_
  refine Ls rfl ?_
  refine Ls rfl ?_
  refine Ls rfl ?_
  refine Ls rfl ?_
  refine Ls rfl ?_
  refine Ls rfl ?_
  refine Lq (Qp rfl rfl) ?_
  refine Lm rfl ?_
  refine zQ (t:=32) rfl rfl ?_
  refine Ls rfl ?_
  refine Ls rfl ?_
  refine Ls rfl ?_
  refine Ls rfl ?_
  refine Ls rfl ?_
  refine Ls rfl ?_
  refine Ls rfl ?_
  refine Ls rfl ?_
  refine Ls rfl ?_
  refine Ls rfl ?_
  refine Ls rfl ?_
  refine Ls rfl ?_
  refine Lq (Qp rfl rfl) ?_
  refine Ld ?_
  refine zF rfl ?_
  refine T.conv (l':=pu True::_) (λ w ho=>ho.map λ _ H=>Has.close_pu trivial H) ?_
  refine Ts ?_
  refine TR ?_
  refine Lq (z8 [(0,1),(1,1),(2,3),(5,1),(6,1)] [.string .empty,.int .i64 0,.int .i64 0,.int .i64 0,.string .empty,.int .i64 0,.slice none 0 0] [_,_,_,_,_,_,_] [] (by unfold Zf;kernel_rfl) rfl rfl) ?_
  refine L0 (Es [_,_,_,_,_,_,_] rfl rfl rfl rfl (by simp) ?_)
  try simp only [splice,lC,lN,dS,cA,tS,tZ,dZ,nA,aN]
  refine La rfl ?_
  refine Ld ?_
  refine T.ret ?_
  exact ⟨.inl rfl,_,_,res [_,_] rfl ⟨rvA [_,_,_,_,_,_,_] rfl ⟨rfl,rfl,rfl,rfl,rfl,rfl,rfl,trivial⟩,rvT rfl,trivial⟩,⟨zC,false,pu True,rfl,TmF.zero,rfl,(λ hG=>absurd (hgd hG) hg),λ h=>by cases h⟩,Sa⟩
 refine Lm rfl ?_
 refine Lq (Qx rfl rfl) ?_
 refine Lq (Qx rfl rfl) ?_
 refine Le (El [.string .empty,.string .empty,.slice none 0 0,.slice none 0 0,.slice none 0 0,.slice none 0 0,.int .i64 0,.int .i64 0,.slice none 0 0,.slice none 0 0,.slice none 0 0,.slice none 0 0,.slice none 0 0,.slice none 0 0] (by unfold Zf;kernel_rfl) ?_)
 intro g4
 refine Le (El [.int .i64 0,.int .i64 0] (by unfold Zf;kernel_rfl) ?_)
 intro g5
 refine L0 (Es [_,_,_,_,_,_,_,_,_,_,_,_,_,_] rfl rfl rfl rfl (by simp) ?_)
 try simp only [splice,lC,lN,dS,cA,tS,tZ,dZ,nA,aN]
 refine L0 (Es [_,_] rfl rfl rfl rfl (by simp) ?_)
 try simp only [splice,lC,lN,dS,cA,tS,tZ,dZ,nA,aN]
 refine Ld ?_
 refine Ts ?_
 refine Ts ?_
 refine TR ?_
 refine Lq (Q0 rfl) ?_
 refine Lq (Ql rfl rfl) ?_
 refine Lq (yW rfl rfl) ?_
 refine Lm rfl ?_
 refine zQ (t:=17) rfl (decide_eq_true (hk)) ?_
 refine Ls rfl ?_
 refine Ls rfl ?_
 refine Ls rfl ?_
 refine Ls rfl ?_
 refine Lq (Qp rfl rfl) ?_
 refine Lm rfl ?_
 refine zQ (t:=23) rfl rfl ?_
 refine Ls rfl ?_
 refine Ls rfl ?_
 refine Ls rfl ?_
 refine Ls rfl ?_
 refine Ls rfl ?_
 refine Ls rfl ?_
 refine Ls rfl ?_
 refine Lq (Qp rfl rfl) ?_
 refine Lm rfl ?_
 refine zQ (t:=32) rfl rfl ?_
 refine Ls rfl ?_
 refine Ls rfl ?_
 refine Ls rfl ?_
 refine Ls rfl ?_
 refine Ls rfl ?_
 refine Ls rfl ?_
 refine Ls rfl ?_
 refine Ls rfl ?_
 refine Ls rfl ?_
 refine Ls rfl ?_
 refine Ls rfl ?_
 refine Ls rfl ?_
 refine Lq (Qp rfl rfl) ?_
 refine Ld ?_
 refine zF rfl ?_
 refine T.conv (l':=pu True::_) (λ w ho=>ho.map λ _ H=>Has.close_pu trivial H) ?_
 refine Ts ?_
 refine TR ?_
 refine Lq (z8 [(0,1),(1,1),(2,3),(5,1),(6,1)] [.string .empty,.int .i64 0,.int .i64 0,.int .i64 0,.string .empty,.int .i64 0,.slice none 0 0] [_,_,_,_,_,_,_] [] (by unfold Zf;kernel_rfl) rfl rfl) ?_
 refine L0 (Es [_,_,_,_,_,_,_] rfl rfl rfl rfl (by simp) ?_)
 try simp only [splice,lC,lN,dS,cA,tS,tZ,dZ,nA,aN]
 refine La rfl ?_
 refine Ld ?_
 refine T.ret ?_
 exact ⟨.inl rfl,_,_,res [_,_] rfl ⟨rvA [_,_,_,_,_,_,_] rfl ⟨rfl,rfl,rfl,rfl,rfl,rfl,rfl,trivial⟩,rvT rfl,trivial⟩,⟨zC,false,pu True,rfl,TmF.zero,rfl,(λ hG=>absurd (hgd hG) hg),λ h=>by cases h⟩,Sa⟩
open Go.RowKit
def oneS : Str:=[97,32,61,32,49]
def oneL : List Tok:=[⟨1,[83,69,76,69,67,84],0,0⟩,⟨4,[42],0,7⟩,⟨1,[70,82,79,77],0,9⟩,⟨1,[84],0,14⟩,⟨1,[87,72,69,82,69],0,16⟩,⟨1,[65],0,22⟩,⟨4,[61],0,24⟩,⟨2,[],1,26⟩]
def oneE : Ex:=opEx [61] [.mk [110,97,109,101] 0 [65] [] [],.mk [110,117,109,98,101,114] 1 [] [] []]
def oneT1 : Tm := .mk [61] 3 vZ 0 [.mk sCol 1 vZ 0 [],.mk sVal 1 ⟨1,1,[]⟩ 0 []]
theorem one_lex : lexR (preT++oneS) = .ok oneL:=by kernel_rfl
theorem one_par (p:Option Addr) (c:Nat) (en:Int):parR ⟨p,c,en,oneL⟩ = .ok ⟨[oneE],1,0,0,0⟩:=by
  rfl
theorem one_bind : bindE tblSc oneE = .ok oneT1:=by
  simp [oneE,opEx,bindE,bindL,oneT1,findC,hits,tabs,tblSc,hitB,tabB,okT,kindP,Tm.kind,alls,kindAt,cmpOp,List.range,List.range.loop]
theorem one_cond : Cond oneE oneT1:=⟨one_bind,rfl⟩
theorem one_good : GoodT oneS:=⟨oneL,one_lex,λ p c=>⟨oneE,oneT1,one_par p c _,one_cond⟩⟩
open Go.RowKit
theorem nf_self {a:List Fz} {M:List Fz} (h:NF a (cnt M)) (r:List Va) (t:Int):cnt a r t=cnt M r t:=by
  rw [h.cnt (λ r t q=>cnt_pos q) r t]
  have:=cnt_nonneg M r t
  omega
theorem nf_less {a:List Fz} {M N:List Fz} (h:NF a (λ r t=>cnt M r t-cnt N r t)) (r:List Va) (t:Int):cnt a r t=max (cnt M r t-cnt N r t) 0:=h.cnt (λ r t q=>cnt_pos (L:=M) (r:=r) (by have:=cnt_nonneg N r t;omega)) r t
theorem nf_eq {a b:List Fz} {c d:List Va->Int->Int} (h:NF a c) (k:NF b d) (e : ∀ r t,c r t=d r t):a=b:=h.uniq k λ r t=>by rw [e]
section
variable {L : List Fz} {ok hx hy ho hn:List Va->Bool}
end
theorem splT (c:C7) {z:List Value} (hz:z.length=7):splice z 0 (c7 c)=c7 c:=by
  unfold splice
  rw [List.take_zero,List.nil_append,List.drop_of_length_le (by simp [hz]),List.append_nil]
theorem TmF.one {c:C7} (h:TmF c):(c7 c).all (·.oneCell')=true:=by
  obtain ⟨a,b,d,e,f,g,p,n,k,rfl⟩:=h
  rfl
end Go.Proofs.YtnnfjemaeefbiaaGreatDoor
namespace Go.Proofs.YtnnfjemaeefbiaaGreatDoor
open Go.RowKit Go.Shelf Go.Lib Go.Sort
theorem FctV.filter {B:Wn} {S:List Wp} {v:Value} {Q:List Fq} (h:FctV B S v Q) (p:Fq->Bool) (q:Option Addr) (n c:Nat) (hn:(Q.filter p).length=n) (hq:0<n -> ∃ g,q=some ⟨g,0,none⟩):FctV B (fqR q n c (Q.filter p)::S) (.slice q n c) (Q.filter p) :=
  ⟨FlV.row (sz:=3) (λ _=>rfl) (by omega) hn hq,λ x hx=>(h.r x (List.mem_filter.1 hx).1).mono λ w ho=>ho.tl⟩
theorem LsV.two {B:Wn} {A1 A2:Wp} {Q1 Q2:List Fq} {p1 p2:Option Addr} {d1 d2 g:Nat} (h1:FctV B [fqR p1 Q1.length d1 Q1,A1] (.slice p1 Q1.length d1) Q1) (h2:FctV B [fqR p2 Q2.length d2 Q2,A2] (.slice p2 Q2.length d2) Q2):LsV B [blk g [.slice p1 Q1.length d1,.slice p2 Q2.length d2] 22,fqR p1 Q1.length d1 Q1,A1,fqR p2 Q2.length d2 Q2,A2] (.slice (some ⟨g,0,none⟩) 2 2) [(.slice p1 Q1.length d1,Q1),(.slice p2 Q2.length d2,Q2)] :=
  ⟨FlV.blk (x:=[((.slice p1 Q1.length d1:Value),Q1),(.slice p2 Q2.length d2,Q2)]) (g:=λ x:Value×List Fq=>[x.1]) rfl,λ x hx=>by
    simp at hx
    rcases hx with rfl | rfl
    . exact h1.mono λ w ho=>ho.map Sa
    . exact h2.mono λ w ho=>ho.map Sa⟩
open Go.RowKit
def ovX (x y:Int×Int):Int×Int:=(max x.1 y.1,min x.2 y.2)
def ovB (x y:Int×Int):Bool:=okX x && okX y && okX (ovX x y)
def ovR (x y:Int×Int):Int×Int:=if ovB x y=true then ovX x y else (0,0)
theorem code_no {x:Int×Int} (h:okX x=false):codeX x≠0:=λ e=>by rw [(codeX_ok x).1 e] at h;cases h
theorem Ra.overlap (B:Wn) (x y:Int×Int):Fn Tryz.prog B 40 #[pdV x.1 x.2,pdV y.1 y.2] [] (λ u l=>u = .tuple #[pdV (ovR x y).1 (ovR x y).2,.bool (ovB x y)]/\l=[]):=by
 refine Wr 33 Tryz.func40 rfl rfl (nB rfl) (λ F=>?_)
 try simp only [cA,nA]
 refine Ts ?_
 refine TR ?_
 refine Le (zL [_,_] rfl rfl ?_)
 intro g2
 refine Le (zL [_,_] rfl rfl ?_)
 intro g3
 refine Le (El [.int .i64 0,.int .i64 0] (by unfold Zf;kernel_rfl) ?_)
 intro g4
 refine La rfl ?_
 refine Ld ?_
 refine Ts ?_
 refine TR ?_
 refine Lq (Q0 rfl) ?_
 refine Lq (Ql rfl rfl) ?_
 refine Lq (Q0 rfl) ?_
 refine Lq (Ql rfl rfl) ?_
 refine Lq (YP rfl rfl) ?_
 refine Lq (Qf (off:=1) rfl) ?_
 refine Lq (Ql rfl rfl) ?_
 refine Lq (Qf (off:=1) rfl) ?_
 refine Lq (Ql rfl rfl) ?_
 refine Lq (ZQ rfl rfl) ?_
 refine Lq (z8 [(0,1),(1,1)] [.int .i64 0,.int .i64 0] [_,_] [(0,_),(1,_)] (by unfold Zf;kernel_rfl) rfl rfl) ?_
 refine Le (El [.int .i64 0,.int .i64 0] (by unfold Zf;kernel_rfl) ?_)
 intro g6
 refine L0 (Es [_,_] rfl rfl rfl rfl (by simp) ?_)
 try simp only [splice,lC,lN,dS,cA,tS,tZ,dZ,nA,aN]
 refine Ld ?_
 refine Ts ?_
 refine Ts ?_
 refine TR ?_
 refine Lq (QL [_,_] rfl ⟨rfl,rfl,trivial⟩) ?_
 refine Le (Ec (Qd.check B x) Tryz.func55 rfl rfl rfl ?_)
 rintro _ _ ⟨rfl,rfl⟩
 try simp only [cA,nA]
 by_cases h1:okX x=true
 .
  have c1:=(codeX_ok x).2 h1
  refine Lq (yW rfl rfl) ?_
  refine Lm rfl ?_
  refine yT (t:=21) rfl (decide_eq_false ((λ h=>h c1))) ?_
  refine Lq (QL [_,_] rfl ⟨rfl,rfl,trivial⟩) ?_
  refine Le (Ec (Qd.check B y) Tryz.func55 rfl rfl rfl ?_)
  rintro _ _ ⟨rfl,rfl⟩
  try simp only [cA,nA]
  by_cases h2:okX y=true
  .
   have c2:=(codeX_ok y).2 h2
   refine Lq (yW rfl rfl) ?_
   refine Lq (Qp rfl rfl) ?_
   refine Lm rfl ?_
   refine yT (t:=26) rfl (decide_eq_false ((λ h=>h c2))) ?_
   refine Lq (QL [_,_] rfl ⟨rfl,rfl,trivial⟩) ?_
   refine Le (Ec (Qd.check B (ovX x y)) Tryz.func55 rfl rfl rfl ?_)
   rintro _ _ ⟨rfl,rfl⟩
   try simp only [cA,nA]
   by_cases h3:okX (ovX x y)=true
   .
    have c3:=(codeX_ok _).2 h3
    have e:ovB x y=true:=by unfold ovB;rw [h1,h2,h3];rfl
    have e2:ovR x y=ovX x y:=if_pos e
    refine Lq (yW rfl rfl) ?_
    refine Lq (Qp rfl rfl) ?_
    refine Ld ?_
    refine yL rfl ((λ h=>h c3)) ?_
    refine Tk ?_
    refine Ts ?_
    refine TR ?_
    refine Lq (QL [_,_] rfl ⟨rfl,rfl,trivial⟩) ?_
    refine L0 (Es [_,_] rfl rfl rfl rfl (by simp) ?_)
    try simp only [splice,lC,lN,dS,cA,tS,tZ,dZ,nA,aN]
    refine La rfl ?_
    refine Ld ?_
    refine T.ret ?_
    exact ⟨.inl rfl,_,_,res [_,_] rfl ⟨rvA [_,_] rfl ⟨rfl,rfl,trivial⟩,rvT rfl,trivial⟩,⟨by rw [e,e2];rfl,rfl⟩,Sa⟩
   have h3:okX (ovX x y)=false:=by simpa using h3
   have e:ovB x y=false:=by unfold ovB;rw [h1,h2,h3];rfl
   have e2:ovR x y=(0,0):=by unfold ovR;rw [e];rfl
   refine Lq (yW rfl rfl) ?_
   refine Lq (Qp rfl rfl) ?_
   refine Ld ?_
   refine zM rfl ((code_no h3)) ?_
   refine Ts ?_
   refine TR ?_
   refine Lq (z8 [(0,1),(1,1)] [.int .i64 0,.int .i64 0] [_,_] [] (by unfold Zf;kernel_rfl) rfl rfl) ?_
   refine L0 (Es [_,_] rfl rfl rfl rfl (by simp) ?_)
   try simp only [splice,lC,lN,dS,cA,tS,tZ,dZ,nA,aN]
   refine La rfl ?_
   refine Ld ?_
   refine T.ret ?_
   exact ⟨.inl rfl,_,_,res [_,_] rfl ⟨rvA [_,_] rfl ⟨rfl,rfl,trivial⟩,rvT rfl,trivial⟩,⟨by rw [e,e2];rfl,rfl⟩,Sa⟩
  have h2:okX y=false:=by simpa using h2
  have e:ovB x y=false:=by unfold ovB;rw [h1,h2];rfl
  have e2:ovR x y=(0,0):=by unfold ovR;rw [e];rfl
  refine Lq (yW rfl rfl) ?_
  refine Lq (Qp rfl rfl) ?_
  refine Lm rfl ?_
  refine zQ (t:=26) rfl (decide_eq_true ((code_no h2))) ?_
  refine Ls rfl ?_
  refine Ls rfl ?_
  refine Ls rfl ?_
  refine Lq (Qp rfl rfl) ?_
  refine Ld ?_
  refine zF rfl ?_
  refine Ts ?_
  refine TR ?_
  refine Lq (z8 [(0,1),(1,1)] [.int .i64 0,.int .i64 0] [_,_] [] (by unfold Zf;kernel_rfl) rfl rfl) ?_
  refine L0 (Es [_,_] rfl rfl rfl rfl (by simp) ?_)
  try simp only [splice,lC,lN,dS,cA,tS,tZ,dZ,nA,aN]
  refine La rfl ?_
  refine Ld ?_
  refine T.ret ?_
  exact ⟨.inl rfl,_,_,res [_,_] rfl ⟨rvA [_,_] rfl ⟨rfl,rfl,trivial⟩,rvT rfl,trivial⟩,⟨by rw [e,e2];rfl,rfl⟩,Sa⟩
 have h1:okX x=false:=by simpa using h1
 have e:ovB x y=false:=by unfold ovB;rw [h1];rfl
 have e2:ovR x y=(0,0):=by unfold ovR;rw [e];rfl
 refine Lq (yW rfl rfl) ?_
 refine Lm rfl ?_
 refine zQ (t:=21) rfl (decide_eq_true ((code_no h1))) ?_
 refine Ls rfl ?_
 refine Ls rfl ?_
 refine Ls rfl ?_
 refine Lq (Qp rfl rfl) ?_
 refine Lm rfl ?_
 refine zQ (t:=26) rfl rfl ?_
 refine Ls rfl ?_
 refine Ls rfl ?_
 refine Ls rfl ?_
 refine Lq (Qp rfl rfl) ?_
 refine Ld ?_
 refine zF rfl ?_
 refine Ts ?_
 refine TR ?_
 refine Lq (z8 [(0,1),(1,1)] [.int .i64 0,.int .i64 0] [_,_] [] (by unfold Zf;kernel_rfl) rfl rfl) ?_
 refine L0 (Es [_,_] rfl rfl rfl rfl (by simp) ?_)
 try simp only [splice,lC,lN,dS,cA,tS,tZ,dZ,nA,aN]
 refine La rfl ?_
 refine Ld ?_
 refine T.ret ?_
 exact ⟨.inl rfl,_,_,res [_,_] rfl ⟨rvA [_,_] rfl ⟨rfl,rfl,trivial⟩,rvT rfl,trivial⟩,⟨by rw [e,e2];rfl,rfl⟩,Sa⟩
open Go.RowKit
theorem canon_one {y:Int×Int} (h:okX y=true) {O:List (Int×Int)} (hO:Canon O (covP ([y].filter okX))):O=[y]:=by
  have h2:=h
  simp only [okX,okP,decide_eq_true_eq] at h2
  refine hO.uniq ⟨by intro x hx;simp at hx;subst hx;exact h2.2.1,by simp,λ t=>?_⟩
  simp [covP,h]
def lefZ (x y:Int×Int):List (Int×Int):=if y.1>x.1 then [(x.1,y.1)] else []
def rigZ (x y:Int×Int):List (Int×Int):=if y.2<x.2 then [(y.2,x.2)] else []
abbrev rstZ (x y:Int×Int):List (Int×Int):=lefZ x y++rigZ x y
theorem ov_in {x y:Int×Int} (h:ovB x y=true):okX x=true/\okX y=true/\y.1<x.2/\x.1<y.2/\x.1<x.2/\y.1<y.2:=by
  unfold ovB at h
  rw [Bool.and_eq_true,Bool.and_eq_true] at h
  obtain ⟨⟨hx,hy⟩,hz⟩:=h
  have hx2:=of_decide_eq_true hx
  have hy2:=of_decide_eq_true hy
  have hz2:okP (max x.1 y.1) (min x.2 y.2):=of_decide_eq_true hz
  obtain ⟨_,q,_⟩:=hz2
  have a1:=Int.le_max_left x.1 y.1
  have a2:=Int.le_max_right x.1 y.1
  have a3:=Int.min_le_left x.2 y.2
  have a4:=Int.min_le_right x.2 y.2
  exact ⟨hx,hy,by omega,by omega,hx2.2.1,hy2.2.1⟩
theorem rst_len (x y:Int×Int):(rstZ x y).length<=2:=by
  simp only [rstZ,lefZ,rigZ]
  split <;> split <;> simp
def MinPost (x y:Int×Int) (g:Nat) (u:Value) (l:List Wp):Prop := ∃ p c,u = .slice p (rstZ x y).length c/\(0<(rstZ x y).length -> ∃ g,p=some ⟨g,0,none⟩)/\l=[pdR p (rstZ x y).length c (rstZ x y),blk g (pC y) 33]
theorem Ra.minus (B:Wn) (x y:Int×Int) (g:Nat) (h:ovB x y=true):Fn Tryz.prog B 68 #[pdV x.1 x.2,.slice (some ⟨g,0,none⟩) 1 1] [blk g (pC y) 33] (MinPost x y g):=by
 obtain ⟨hx,hy,h12,h21,hxx,hyy⟩:=ov_in h
 have c1:=(codeX_ok x).2 hx
 refine Wr 54 Tryz.func68 rfl rfl (nB rfl) (λ F=>?_)
 try simp only [cA,nA]
 refine Ts ?_
 refine TR ?_
 refine Le (zL [_,_] rfl rfl ?_)
 intro g2
 refine La rfl ?_
 refine Ld ?_
 refine Ts ?_
 refine Ts ?_
 refine TR ?_
 refine Lq (QL [_,_] rfl ⟨rfl,rfl,trivial⟩) ?_
 refine Le (Ec (Qd.check B x) Tryz.func55 rfl rfl rfl ?_)
 rintro _ _ ⟨rfl,rfl⟩
 try simp only [cA,nA]
 refine Lq (yW rfl rfl) ?_
 refine Ld ?_
 refine yL rfl ((λ h=>h c1)) ?_
 refine Tk ?_
 refine Ts ?_
 refine TR ?_
 refine La rfl ?_
 refine Ld ?_
 refine Ts ?_
 refine TR ?_
 refine Lq (Q0 rfl) ?_
 refine Lq (Ql rfl rfl) ?_
 refine La rfl ?_
 refine Ld ?_
 refine Ts ?_
 refine Ts ?_
 refine TR ?_
 refine Lm rfl ?_
 refine Le (Ec (Qd.union B [blk g (pC y) 33] (some ⟨g,0,none⟩) 1 1 [y] (FlV.blk (x:=[y]) (g:=pC) rfl) rfl (by omega)) Tryz.func60 rfl rfl rfl ?_)
 rintro _ _ ⟨O,p1,c2,hO,hOl,hp1,rfl,rfl⟩
 try simp only [cA,nA]
 cases canon_one hy hO
 obtain ⟨g1,rfl⟩:=hp1 (by simp)
 refine Lq (yI (e:=33) (sz:=2) rfl) ?_
 refine Lm rfl ?_
 refine Ld ?_
 refine yH ?_
 refine T.conv (l':=pdR none 0 0 (([]:List (Int×Int)))::_) (λ w ho=>ho.row_nil 33 2) ?_
 refine zG (λ mz fz lz => ∃ (f0:Fr) (i:Nat) (O:List (Int×Int)) (fr:Int) (p:Option Addr) (n0 c0:Nat),(O.length=n0/\(0<n0 -> ∃ g,p=some ⟨g,0,none⟩)/\(i=0/\O=[]/\fr=x.1\/i=1/\O=lefZ x y/\fr=y.2))/\mz=1-i/\fz=(upd (upd (upd (upd (upd (upd f0 2 (.pointer (some ⟨g2,0,none⟩))) 5 (.slice p n0 c0)) 6 (iV fr)) 15 (.slice (some ⟨g1,0,none⟩) 1 c2)) 16 (iV 1)) 17 (iV i))/\lz=pdR p n0 c0 O::pdR (some ⟨g1,0,none⟩) 1 c2 [y]::blk g2 (pC x) 33::blk g (pC y) 33::F) ?_ ?_
 . refine ⟨_,_,⟨_,0,[],x.1,none,0,0,⟨rfl,λ z=>absurd z (by omega),.inl ⟨rfl,rfl,rfl⟩⟩,rfl,(Za rfl (Za rfl (Za rfl (Za rfl (Za rfl (Za rfl rfl)))))),rfl⟩,Sa⟩
 rintro mz fz lz ⟨f0,i,O,fr,p,n0,c0,⟨hn,hp,hc⟩,hmz,rfl,rfl⟩
 subst mz
 refine Ts ?_
 refine TR ?_
 refine Lq (yM rfl rfl) ?_
 refine Ld ?_
 refine Ts ?_
 refine yN rfl (λ hlt=>?_) (λ hlt=>?_)
 .
  obtain ⟨hi,rfl,rfl⟩:i=0/\O=[]/\fr=x.1:=by
   rcases hc with h | h
   . exact h
   . omega
  subst hi
  subst hn
  refine Tk ?_
  refine Ts ?_
  refine yH ?_
  refine Ts ?_
  refine TR ?_
  refine Lq (Qi _ (e:=33) (sz:=2) rfl rfl rfl) ?_
  refine Lq (QL [_,_] rfl ⟨rfl,rfl,trivial⟩) ?_
  refine Le (El [.int .i64 0,.int .i64 0] (by unfold Zf;kernel_rfl) ?_)
  intro g8
  refine L0 (Es [_,_] rfl rfl rfl rfl (by simp) ?_)
  try simp only [splice,lC,lN,dS,cA,tS,tZ,dZ,nA,aN]
  refine Ld ?_
  refine Ts ?_
  refine Ts ?_
  refine TR ?_
  refine Lq (Q0 rfl) ?_
  refine Lq (Ql rfl rfl) ?_
  refine Lq (Qf (off:=1) rfl) ?_
  refine Lq (Ql rfl rfl) ?_
  refine Lq (zX rfl rfl) ?_
  refine Ld ?_
  refine yL rfl ((by omega)) ?_
  refine Tk ?_
  refine Ts ?_
  refine Ts ?_
  refine TR ?_
  refine Lq (Q0 rfl) ?_
  refine Lq (Ql rfl rfl) ?_
  refine Lm rfl ?_
  refine Lq (yZ rfl rfl) ?_
  refine Ld ?_
  refine yN rfl (λ hgt=>?_) (λ hgt=>?_)
  .
   have e:lefZ x y=[(x.1,y.1)]:=if_pos hgt
   refine TR ?_
   refine Lm rfl ?_
   refine Lm rfl ?_
   refine Lq (Q0 rfl) ?_
   refine Lq (Ql rfl rfl) ?_
   refine Lq (z8 [(0,1),(1,1)] [.int .i64 0,.int .i64 0] [_,_] [(0,_),(1,_)] (by unfold Zf;kernel_rfl) rfl rfl) ?_
   refine Le (zK [_,_] (e:=33) (sz:=2) ⟨.agg #[.int .i64 0,.int .i64 0],by kernel_rfl,rfl⟩ rfl rfl rfl ?_)
   intro g35
   refine Le (Ea Qd.elem rfl rfl (SrcOf.blk (by kernel_rfl) rfl (by simp [Value.oneCell'])) (by unfold maxLen;omega) ?_)
   rintro p4 c4 hp4
   try simp only [cA,nA]
   rw [show ((([]:List (Int×Int)).flatMap pC)++[iV x.1,iV y.1])=[(x.1,y.1)].flatMap pC from rfl]
   refine La rfl ?_
   refine Ld ?_
   refine TR ?_
   refine Lm rfl ?_
   refine Lq (Qf (off:=1) rfl) ?_
   refine Lq (Ql rfl rfl) ?_
   refine Lq (YP rfl rfl) ?_
   refine La rfl ?_
   refine Ld ?_
   refine TR ?_
   refine Lq (Qd rfl rfl (Ze)) ?_
   refine Lm rfl ?_
   refine Ld ?_
   refine ⟨_,?_,_,⟨_,1,[(x.1,y.1)],max x.1 y.2,p4,0+1,c4,⟨rfl,hp4,.inr ⟨rfl,e.symm,Int.max_eq_right (by omega)⟩⟩,rfl,(Za rfl (Za rfl (Za rfl (Za rfl (Za rfl (Za rfl rfl)))))),rfl⟩,Sa⟩
   omega
  have e:lefZ x y=[]:=if_neg hgt
  refine Tk ?_
  refine TR ?_
  refine Lm rfl ?_
  refine Lq (Qf (off:=1) rfl) ?_
  refine Lq (Ql rfl rfl) ?_
  refine Lq (YP rfl rfl) ?_
  refine La rfl ?_
  refine Ld ?_
  refine TR ?_
  refine Lq (Qd rfl rfl (Ze)) ?_
  refine Lm rfl ?_
  refine Ld ?_
  refine ⟨_,?_,_,⟨_,1,[],max x.1 y.2,p,0,c0,⟨rfl,hp,.inr ⟨rfl,e.symm,Int.max_eq_right (by omega)⟩⟩,rfl,(Za rfl (Za rfl (Za rfl (Za rfl (Za rfl (Za rfl rfl)))))),rfl⟩,Sa⟩
  omega
 obtain ⟨hi,rfl,rfl⟩:i=1/\O=lefZ x y/\fr=y.2:=by
  rcases hc with h | h
  . omega
  . exact h
 subst hi
 subst hn
 refine zB ?_
 refine Ts ?_
 refine Ts ?_
 refine TR ?_
 refine Lm rfl ?_
 refine Lq (Qf (off:=1) rfl) ?_
 refine Lq (Ql rfl rfl) ?_
 refine Lq (yM rfl rfl) ?_
 refine Ld ?_
 refine yN rfl (λ hgt=>?_) (λ hgt=>?_)
 .
  have e:rstZ x y=lefZ x y++[(y.2,x.2)]:=by unfold rstZ rigZ;rw [if_pos hgt]
  have hll:(lefZ x y).length<=1:=by unfold lefZ;split <;> simp
  refine TR ?_
  refine Lm rfl ?_
  refine Lm rfl ?_
  refine Lq (Qf (off:=1) rfl) ?_
  refine Lq (Ql rfl rfl) ?_
  refine Lq (z8 [(0,1),(1,1)] [.int .i64 0,.int .i64 0] [_,_] [(0,_),(1,_)] (by unfold Zf;kernel_rfl) rfl rfl) ?_
  refine Le (zK [_,_] (e:=33) (sz:=2) ⟨.agg #[.int .i64 0,.int .i64 0],by kernel_rfl,rfl⟩ rfl rfl rfl ?_)
  intro g51
  refine Le (Ea Qd.elem rfl rfl (SrcOf.blk (by kernel_rfl) rfl (by simp [Value.oneCell'])) (by unfold maxLen;omega) ?_)
  rintro p4 c4 hp4
  try simp only [cA,nA]
  rw [show (lefZ x y).flatMap pC++[iV y.2,iV x.2]=(rstZ x y).flatMap pC by rw [e,List.flatMap_append];simp]
  have el:(rstZ x y).length=(lefZ x y).length+1:=by rw [e,List.length_append];rfl
  rw [<-el] at hp4 ⊢
  refine La rfl ?_
  refine Ld ?_
  refine Ts ?_
  refine TR ?_
  refine Lm rfl ?_
  refine La rfl ?_
  refine Ld ?_
  refine T.ret ?_
  exact ⟨.inl rfl,_,_,res [_] rfl ⟨rvT rfl,trivial⟩,⟨p4,c4,rfl,hp4,rfl⟩,Sa⟩
 have e:rstZ x y=lefZ x y:=by unfold rstZ rigZ;rw [if_neg hgt,List.append_nil]
 rw [<-e] at hp ⊢
 refine Tk ?_
 refine Ts ?_
 refine TR ?_
 refine Lm rfl ?_
 refine La rfl ?_
 refine Ld ?_
 refine T.ret ?_
 exact ⟨.inl rfl,_,_,res [_] rfl ⟨rvT rfl,trivial⟩,⟨p,c0,rfl,hp,rfl⟩,Sa⟩
open Go.RowKit
theorem Ra.copied (B:Wn) (S:List Wp) (pa:Option Addr) (m ca:Nat) (x:List Va) (h:FlV B S vaC (.slice pa m ca) x) (hm:x.length=m) (hb:m<2^32):Fn Tryz.prog B 42 #[.slice pa m ca] S (λ u l => ∃ p c',u = .slice p m c'/\(0<m -> ∃ g,p=some ⟨g,0,none⟩)/\l=vaR p m c' x::S):=by
  refine Wq 6 Tryz.func42 rfl rfl (nB rfl) (λ F=>?_)
  refine Ts ?_
  refine TR ?_
  refine La rfl ?_
  refine Ld ?_
  refine Ts ?_
  refine TR ?_
  refine Le (Y8 Qe.elemV ?_)
  rintro g3
  refine Lm rfl ?_
  refine Le (Ea Qe.elemV rfl rfl (SrcOf.fq (m:=m) (h.mono (λ w ho=>ho.tl.drop)) (λ _=>rfl) hm (vaC_one x)) (by unfold maxLen;omega) ?_)
  rintro p4 c4 hp4
  try simp only [cA,nA]
  simp only [Nat.zero_add,List.nil_append,List.flatMap_nil]
  refine La rfl ?_
  refine Ld ?_
  refine T.ret ?_
  exact ⟨.inl rfl,_,_,res [_] rfl ⟨rvT rfl,trivial⟩,⟨p4,c4,rfl,λ z=>hp4 (by omega),rfl⟩,Sa⟩
end Go.Proofs.YtnnfjemaeefbiaaGreatDoor
