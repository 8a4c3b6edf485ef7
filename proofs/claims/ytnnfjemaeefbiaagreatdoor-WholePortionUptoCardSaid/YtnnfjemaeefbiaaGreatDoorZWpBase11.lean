/- The texts QcA, one behind the other: what the law leans on. Conditions: as each theorem says. -/
import Derived.Test.YtnnfjemaeefbiaaGreatDoorZWpBase10
import Derived.Lib.Bytealg
import Derived.Laws.Externs
set_option linter.unusedSimpArgs false
set_option linter.unusedVariables false
set_option maxRecDepth 100000
set_option maxHeartbeats 16000000
namespace Go.Proofs.YtnnfjemaeefbiaaGreatDoor
open Go.RowKit
section
variable {P : Program} {B:Wn} {n:Nat} {l:List Wp} {f:Fr} {K:Value->List Wp->Prop}
variable {d : Option Tmp} {ty:TypeId} {pos:String} {af:Array Edge} {gd:Option (Nat×Bool)}
theorem Ef.cmpT {g:FuncId} {fn:Func} {x y:Operand} {ats:Array TypeId} {a b:List UInt8} (hf:P.funcs[g]? = some fn) (hname:(fn.name == "runtime.NumGoroutine")=false) (hb:fn.body.isNone=true) (hn:Extern.findNext fn=none)
    (he:Extern.find fn=some Extern.BytealgCompare.compare) (hx:ev n f x=some (.string (Zq a))) (hy:ev n f y=some (.string (Zq b)))
    (h:K (.int .i64 (Lib.compareBytes a b)) l):Ef P B n ⟨d,.call ⟨.value (.func g),#[x,y],ats⟩,ty,pos,af,gd⟩ f l K:=⟨λ w next Q ho hk=>by
  have hav:(#[x,y]:Array Operand).map (evu n f) = #[.string (Zq a),.string (Zq b)]:=by simp [Zc hx,Zc hy]
  have hrun:=Lib.run_compareString (P:=P) (Zq a) (Zq b) w
  have hcf:=run_callFunc_extern (P:=P) hf hname hb hn he #[.string (Zq a),.string (Zq b)] w
  rw [hrun] at hcf
  unfold Oper.wp execOp
  rw [Wk]
  have he2:((do let c <-resolve (evu n f) ⟨.value (.func g),#[x,y],ats⟩ ty;invoke c.target c.args):Sem Next).run P w = .ok (.value (.int .i64 (Lib.compareBytes a b))) w:=by
    have hg:evu n f (.func g) = .func (.func g) #[] #[]:=rfl
    simp only [resolve,hav,hg]
    simp [Deferred.ofValue,invoke,hcf]
    rfl
  rw [he2]
  exact hk _ w _ h ho⟩
end
theorem cmpBytes_eq : ∀ a b:Str,Lib.compareBytes a b=cmpS a b
  | [],[]=>by simp [Lib.compareBytes,cmpS,Op.bytesLess]
  | [],_::_=>by simp [Lib.compareBytes,cmpS,Op.bytesLess]
  | _::_,[]=>by simp [Lib.compareBytes,cmpS,Op.bytesLess]
  | a::x,b::y=>by
    rw [Lib.compareBytes,cmpBytes_eq x y]
    unfold cmpS
    simp only [Op.bytesLess]
    by_cases h1:a<b
    . simp [h1]
    . by_cases h2:b<a
      . have:a≠b:=λ e=>by subst e;exact h1 h2
        simp [h1,h2,this]
      . have e:a=b:=UInt8.le_antisymm (UInt8.not_lt.1 h2) (UInt8.not_lt.1 h1)
        subst e
        simp [h1]
theorem Qc.cmp1 (B:Wn) (a b:Str):Fn Tryz.prog B 102 #[tV a,tV b] [] (λ v l=>v=iV (cmpS a b)/\l=[]):=by
  refine Wr 8 Tryz.func102 rfl rfl (nB rfl) (λ F=>?_)
  try simp only [cA,nA]
  refine Ts ?_
  refine TR ?_
  refine La rfl ?_
  refine Ld ?_
  refine Ts ?_
  refine TR ?_
  refine Lm rfl ?_
  refine Lm rfl ?_
  refine Le (Ef.cmpT Tryz.func135 (by kernel_rfl) (by kernel_rfl) (by kernel_rfl) (by kernel_rfl) rfl rfl ?_)
  refine La rfl ?_
  refine Ld ?_
  refine T.ret ?_
  exact ⟨.inl rfl,_,_,res [_] rfl ⟨rvT rfl,trivial⟩,⟨by rw [cmpBytes_eq];rfl,rfl⟩,Sa⟩
theorem Qc.cStr (B:Wn) (a b:Str):Fn Tryz.prog B 59 #[tV a,tV b] [] (λ v l=>v=iV (cmpS a b)/\l=[]):=by
  refine Wr 8 Tryz.func59 rfl rfl (nB rfl) (λ F=>?_)
  try simp only [cA,nA]
  refine Ts ?_
  refine TR ?_
  refine La rfl ?_
  refine Ld ?_
  refine Ts ?_
  refine TR ?_
  refine Lm rfl ?_
  refine Lm rfl ?_
  refine Le (Ec (Qc.cmp1 B a b) Tryz.func102 rfl rfl rfl ?_)
  rintro _ _ ⟨rfl,rfl⟩
  try simp only [cA,nA]
  refine La rfl ?_
  refine Ld ?_
  refine T.ret ?_
  exact ⟨.inl rfl,_,_,res [_] rfl ⟨rvT rfl,trivial⟩,⟨rfl,rfl⟩,Sa⟩
theorem Qc.nan (B:Wn) (a:Int):Fn Tryz.prog B 100 #[iV a] [] (λ u l=>u = .bool false/\l=[]):=by
  refine Wq 6 Tryz.func100 rfl rfl (nB rfl) (λ F=>?_)
  try simp only [cA,nA]
  refine Ts ?_
  refine TR ?_
  refine La rfl ?_
  refine Ld ?_
  refine Ts ?_
  refine TR ?_
  refine Lm rfl ?_
  refine Lm rfl ?_
  refine Lq (yW rfl rfl) ?_
  refine La rfl ?_
  refine Ld ?_
  refine T.ret ?_
  exact ⟨.inl rfl,_,_,res [_] rfl ⟨rvT rfl,trivial⟩,⟨by simp [outV],rfl⟩,Sa⟩
theorem Qc.cInt (B:Wn) (a b:Int):Fn Tryz.prog B 57 #[iV a,iV b] [] (λ u l=>u=iV (cmpI a b)/\l=[]):=by
 refine Wr 20 Tryz.func57 rfl rfl (nB rfl) (λ F=>?_)
 try simp only [cA,nA]
 refine Ts ?_
 refine TR ?_
 refine La rfl ?_
 refine Ld ?_
 refine Ts ?_
 refine TR ?_
 refine Lm rfl ?_
 refine Le (Ec (Qc.nan B a) Tryz.func100 rfl rfl rfl ?_)
 rintro _ _ ⟨rfl,rfl⟩
 try simp only [cA,nA]
 refine La rfl ?_
 refine Ld ?_
 refine Ts ?_
 refine TR ?_
 refine Lm rfl ?_
 refine Le (Ec (Qc.nan B b) Tryz.func100 rfl rfl rfl ?_)
 rintro _ _ ⟨rfl,rfl⟩
 try simp only [cA,nA]
 refine La rfl ?_
 refine Ld ?_
 refine Ts ?_
 refine Ts ?_
 refine TR ?_
 refine Lm rfl ?_
 refine Ld ?_
 refine yQ rfl ?_
 refine Tk ?_
 refine Ts ?_
 refine Ts ?_
 refine TR ?_
 refine Lm rfl ?_
 refine Ld ?_
 refine yQ rfl ?_
 refine Tk ?_
 refine Ts ?_
 refine Ts ?_
 refine TR ?_
 refine Lm rfl ?_
 refine Lm rfl ?_
 refine Lq (yM rfl rfl) ?_
 refine Ld ?_
 refine yN rfl (λ h1=>?_) (λ h1=>?_)
 .
  refine Ts ?_
  refine TR ?_
  refine La rfl ?_
  refine Ld ?_
  refine T.ret ?_
  exact ⟨.inl rfl,_,_,res [_] rfl ⟨rvT rfl,trivial⟩,⟨by unfold cmpI;rw [if_pos h1];rfl,rfl⟩,Sa⟩
 refine Tk ?_
 refine Ts ?_
 refine Ts ?_
 refine TR ?_
 refine Lm rfl ?_
 refine Lm rfl ?_
 refine Lq (yZ rfl rfl) ?_
 refine Ld ?_
 refine yN rfl (λ h2=>?_) (λ h2=>?_)
 .
  refine Ts ?_
  refine TR ?_
  refine La rfl ?_
  refine Ld ?_
  refine T.ret ?_
  exact ⟨.inl rfl,_,_,res [_] rfl ⟨rvT rfl,trivial⟩,⟨by unfold cmpI;rw [if_neg h1,if_pos h2];rfl,rfl⟩,Sa⟩
 refine Tk ?_
 refine Ts ?_
 refine TR ?_
 refine La rfl ?_
 refine Ld ?_
 refine T.ret ?_
 exact ⟨.inl rfl,_,_,res [_] rfl ⟨rvT rfl,trivial⟩,⟨by unfold cmpI;rw [if_neg h1,if_neg h2];rfl,rfl⟩,Sa⟩
theorem or3_none {a b c:Int} (ha:a=0) (hb:b=0):orI a (orI b c)=c:=by unfold orI;rw [if_neg (by omega),if_neg (by omega)]
theorem or3_one {a x:Int} (ha:a≠0):orI a x=a:=by unfold orI;rw [if_pos ha]
theorem or3_two {a x:Int} (ha:a=0):orI a x=x:=by unfold orI;rw [if_neg (by omega)]
theorem Qc.or3 (B:Wn) (g:Nat) (a b c:Int) (t:TypeId):Fn Tryz.prog B 56 #[.slice (some ⟨g,0,none⟩) 3 3] [blk g [iV a,iV b,iV c] t] (λ u l=>u=iV (orI a (orI b c))/\l=[blk g [iV a,iV b,iV c] t]):=by
 refine Wq 18 Tryz.func56 rfl rfl (nB rfl) (λ F=>?_)
 try simp only [cA,nA]
 refine Ts ?_
 refine TR ?_
 refine La rfl ?_
 refine Ld ?_
 refine Ts ?_
 refine TR ?_
 refine La rfl ?_
 refine Ld ?_
 refine Ts ?_
 refine Ts ?_
 refine TR ?_
 refine Lm rfl ?_
 refine Lq (yI (e:=3) (sz:=1) rfl) ?_
 refine Lm rfl ?_
 refine Ld ?_
 refine yH ?_
 refine zG (λ mz fz lz => ∃ (f0:Fr) (i:Nat),(i<=3/\(1<=i->a=0)/\(2<=i->b=0)/\(3<=i->c=0))/\mz=3-i/\fz=(upd (upd (upd (upd (upd f0 2 (iV 0)) 3 (iV 0)) 6 (.slice (some ⟨g,0,none⟩) 3 3)) 7 (iV 3)) 8 (iV i))/\lz=blk g [iV a,iV b,iV c] t::F) ?_ ?_
 . refine ⟨_,_,⟨_,0,⟨by omega,by omega,by omega,by omega⟩,rfl,(Za rfl (Za rfl (Za rfl (Za rfl (Za rfl rfl))))),rfl⟩,Sa⟩
 rintro mz fz lz ⟨f0,i,⟨hi,h1,h2,h3⟩,hmz,rfl,rfl⟩
 subst mz
 refine Ts ?_
 refine TR ?_
 refine Lq (yM rfl rfl) ?_
 refine Ld ?_
 refine Ts ?_
 refine yN rfl (λ hlt=>?_) (λ hlt=>?_)
 .
  by_cases hi0:i=0
  .
   subst hi0
   refine Tk ?_
   refine Ts ?_
   refine yH ?_
   refine Ts ?_
   refine TR ?_
   refine Lq (Qi _ (e:=3) (sz:=1) rfl rfl rfl) ?_
   refine Lq (Ql rfl rfl) ?_
   refine La rfl ?_
   refine Ld ?_
   refine Ts ?_
   refine TR ?_
   refine Lm rfl ?_
   refine Lm rfl ?_
   refine Lq (yW rfl rfl) ?_
   refine Ld ?_
   refine yN rfl (λ hz=>?_) (λ hz=>?_)
   .
    refine Ts ?_
    refine TR ?_
    refine Lm rfl ?_
    refine La rfl ?_
    refine Ld ?_
    refine T.ret ?_
    exact ⟨.inl rfl,_,_,res [_] rfl ⟨rvT rfl,trivial⟩,⟨by rw [or3_one hz];rfl,rfl⟩,Sa⟩
   refine Tk ?_
   refine TR ?_
   refine Lq (Qd rfl rfl (Ze)) ?_
   refine Lm rfl ?_
   refine Ld ?_
   refine ⟨_,?_,_,⟨_,1,⟨by omega,λ _=>Classical.not_not.1 hz,by omega,by omega⟩,rfl,(Za rfl (Za rfl (Za rfl (Za rfl (Za rfl rfl))))),rfl⟩,Sa⟩
   omega
  have ha:=h1 (by omega)
  by_cases hi1:i=1
  .
   subst hi1
   refine Tk ?_
   refine Ts ?_
   refine yH ?_
   refine Ts ?_
   refine TR ?_
   refine Lq (Qi _ (e:=3) (sz:=1) rfl rfl rfl) ?_
   refine Lq (Ql rfl rfl) ?_
   refine La rfl ?_
   refine Ld ?_
   refine Ts ?_
   refine TR ?_
   refine Lm rfl ?_
   refine Lm rfl ?_
   refine Lq (yW rfl rfl) ?_
   refine Ld ?_
   refine yN rfl (λ hz=>?_) (λ hz=>?_)
   .
    refine Ts ?_
    refine TR ?_
    refine Lm rfl ?_
    refine La rfl ?_
    refine Ld ?_
    refine T.ret ?_
    exact ⟨.inl rfl,_,_,res [_] rfl ⟨rvT rfl,trivial⟩,⟨by rw [or3_two ha,or3_one hz];rfl,rfl⟩,Sa⟩
   refine Tk ?_
   refine TR ?_
   refine Lq (Qd rfl rfl (Ze)) ?_
   refine Lm rfl ?_
   refine Ld ?_
   refine ⟨_,?_,_,⟨_,2,⟨by omega,λ _=>ha,λ _=>Classical.not_not.1 hz,by omega⟩,rfl,(Za rfl (Za rfl (Za rfl (Za rfl (Za rfl rfl))))),rfl⟩,Sa⟩
   omega
  obtain rfl:i=2:=by omega
  have hb:=h2 (by omega)
  refine Tk ?_
  refine Ts ?_
  refine yH ?_
  refine Ts ?_
  refine TR ?_
  refine Lq (Qi _ (e:=3) (sz:=1) rfl rfl rfl) ?_
  refine Lq (Ql rfl rfl) ?_
  refine La rfl ?_
  refine Ld ?_
  refine Ts ?_
  refine TR ?_
  refine Lm rfl ?_
  refine Lm rfl ?_
  refine Lq (yW rfl rfl) ?_
  refine Ld ?_
  refine yN rfl (λ hz=>?_) (λ hz=>?_)
  .
   refine Ts ?_
   refine TR ?_
   refine Lm rfl ?_
   refine La rfl ?_
   refine Ld ?_
   refine T.ret ?_
   exact ⟨.inl rfl,_,_,res [_] rfl ⟨rvT rfl,trivial⟩,⟨by rw [or3_none ha hb];rfl,rfl⟩,Sa⟩
  refine Tk ?_
  refine TR ?_
  refine Lq (Qd rfl rfl (Ze)) ?_
  refine Lm rfl ?_
  refine Ld ?_
  refine ⟨_,?_,_,⟨_,3,⟨by omega,λ _=>ha,λ _=>hb,λ _=>Classical.not_not.1 hz⟩,rfl,(Za rfl (Za rfl (Za rfl (Za rfl (Za rfl rfl))))),rfl⟩,Sa⟩
  omega
 have ha:=h1 (by omega)
 have hb:=h2 (by omega)
 have hc:=h3 (by omega)
 refine zB ?_
 refine Ts ?_
 refine TR ?_
 refine Lm rfl ?_
 refine La rfl ?_
 refine Ld ?_
 refine T.ret ?_
 exact ⟨.inl rfl,_,_,res [_] rfl ⟨rvT rfl,trivial⟩,⟨by rw [or3_none ha hb,hc];rfl,rfl⟩,Sa⟩
theorem cmpR_step {x y:List Va} {i:Nat} {a b:Va} (hx:x[i]? = some a) (hy:y[i]? = some b):cmpRw (x.drop i) (y.drop i)=orI (cmpV a b) (cmpRw (x.drop (i+1)) (y.drop (i+1))):=by
  obtain ⟨h1,rfl⟩:=List.getElem?_eq_some_iff.1 hx
  obtain ⟨h2,rfl⟩:=List.getElem?_eq_some_iff.1 hy
  rw [List.drop_eq_getElem_cons h1,List.drop_eq_getElem_cons h2]
  rfl
theorem cmpR_end {x y:List Va} {i:Nat} (h:i=min x.length y.length):cmpRw (x.drop i) (y.drop i)=cmpI x.length y.length:=by
  subst h
  rcases Nat.lt_trichotomy x.length y.length with z | z | z
  . rw [Nat.min_eq_left (by omega),List.drop_length,List.drop_eq_getElem_cons z]
    show (-1:Int)=_
    unfold cmpI;rw [if_pos (by omega)]
  . rw [z,Nat.min_self,List.drop_length,<-z,List.drop_length]
    show (0:Int)=_
    unfold cmpI;rw [if_neg (by omega),if_neg (by omega)]
  . rw [Nat.min_eq_right (by omega),List.drop_length,List.drop_eq_getElem_cons z]
    show (1:Int)=_
    unfold cmpI;rw [if_neg (by omega),if_pos (by omega)]
theorem Qc.compare (B:Wn) (S:List Wp) (x y:List Va) (pa:Option Addr) (m ca:Nat) (pb:Option Addr) (k cb:Nat) (hx:FlV B S vaC (.slice pa m ca) x) (hxm:x.length=m) (hy:FlV B S vaC (.slice pb k cb) y) (hyk:y.length=k) (hm:m<2^32) (hk:k<2^32):Fn Tryz.prog B 30 #[.slice pa m ca,.slice pb k cb] S (λ u l=>u=iV (cmpRw x y)/\l=S):=by
 refine Wr 59 Tryz.func30 rfl rfl (nB rfl) (λ F=>?_)
 refine Ts ?_
 refine TR ?_
 refine La rfl ?_
 refine Ld ?_
 refine Ts ?_
 refine Ts ?_
 refine TR ?_
 refine Lm rfl ?_
 refine Lq (yI (e:=24) (sz:=3) rfl) ?_
 refine Lm rfl ?_
 refine Lq (yI (e:=24) (sz:=3) rfl) ?_
 refine Lq (ZQ rfl rfl) ?_
 refine Lm rfl ?_
 refine Ld ?_
 refine yH ?_
 refine zG (λ mz fz lz => ∃ (f0:Fr) (i:Nat),(i<=min m k/\cmpRw x y=cmpRw (x.drop i) (y.drop i))/\mz=min m k-i/\fz=(upd (upd (upd (upd f0 0 (.slice pa m ca)) 1 (.slice pb k cb)) 11 (iV (min (m:Int) (k:Int)))) 12 (iV i))/\lz=S++F) ?_ ?_
 . refine ⟨_,_,⟨_,0,⟨Nat.zero_le _,rfl⟩,rfl,(Za rfl (Za rfl (Za rfl (Za rfl rfl)))),rfl⟩,Sa⟩
 rintro mz fz lz ⟨f0,i,⟨hi,hcx⟩,hmz,rfl,rfl⟩
 subst mz
 refine Ts ?_
 refine TR ?_
 refine Lq (yM rfl rfl) ?_
 refine Ld ?_
 refine Ts ?_
 refine yN rfl (λ hlt=>?_) (λ hlt=>?_)
 .
  obtain ⟨b1,o1,rfl,hr1⟩:=hx.at (sz:=3) (λ _=>rfl) (by omega)
  obtain ⟨b2,o2,rfl,hr2⟩:=hy.at (sz:=3) (λ _=>rfl) (by omega)
  obtain ⟨a,ha⟩ : ∃ a,x[i]? = some a:=⟨_,List.getElem?_eq_getElem (by omega)⟩
  obtain ⟨b,hb⟩ : ∃ b,y[i]? = some b:=⟨_,List.getElem?_eq_getElem (by omega)⟩
  have q1:=hr1 i a ha
  have q2:=hr2 i b hb
  refine Tk ?_
  refine Ts ?_
  refine yH ?_
  refine Ts ?_
  refine TR ?_
  refine Lm rfl ?_
  refine La rfl ?_
  refine Ld ?_
  refine Ts ?_
  refine T.draw 35 (S) (nB rfl) ?_
  refine Rq 0 rfl Sa (Qm rfl) ?_
  refine Rq 1 rfl Sa (Qm rfl) ?_
  refine Rq 2 rfl Sa (Qi _ (e:=24) (sz:=3) rfl rfl rfl) ?_
  refine Rq 3 rfl Sa (Q0 rfl) ?_
  refine Rq 4 rfl Sa (zN (v:=iV a.kind) rfl (λ w ho=>q1 w ho 0 _ rfl)) ?_
  refine Rq 5 rfl Sa (Qm rfl) ?_
  refine Rq 6 rfl Sa (Qm rfl) ?_
  refine Rq 7 rfl Sa (Qi _ (e:=24) (sz:=3) rfl rfl rfl) ?_
  refine Rq 8 rfl Sa (Q0 rfl) ?_
  refine Rq 9 rfl Sa (zN (v:=iV b.kind) rfl (λ w ho=>q2 w ho 0 _ rfl)) ?_
  refine Rq 11 rfl Sa (Qm rfl) ?_
  refine Rq 12 rfl Sa (Qm rfl) ?_
  refine Rq 13 rfl Sa (Qi _ (e:=24) (sz:=3) rfl rfl rfl) ?_
  refine Rq 14 rfl Sa (Qf (off:=1) rfl) ?_
  refine Rq 15 rfl Sa (zN (v:=iV a.int) rfl (λ w ho=>q1 w ho 1 _ rfl)) ?_
  refine Rq 16 rfl Sa (Qm rfl) ?_
  refine Rq 17 rfl Sa (Qm rfl) ?_
  refine Rq 18 rfl Sa (Qi _ (e:=24) (sz:=3) rfl rfl rfl) ?_
  refine Rq 19 rfl Sa (Qf (off:=1) rfl) ?_
  refine Rq 20 rfl Sa (zN (v:=iV b.int) rfl (λ w ho=>q2 w ho 1 _ rfl)) ?_
  refine Rq 22 rfl Sa (Qm rfl) ?_
  refine Rq 23 rfl Sa (Qm rfl) ?_
  refine Rq 24 rfl Sa (Qi _ (e:=24) (sz:=3) rfl rfl rfl) ?_
  refine Rq 25 rfl Sa (Qf (off:=2) rfl) ?_
  refine Rq 26 rfl Sa (zN (v:=tV a.text) rfl (λ w ho=>q1 w ho 2 _ rfl)) ?_
  refine Rq 27 rfl Sa (Qm rfl) ?_
  refine Rq 28 rfl Sa (Qm rfl) ?_
  refine Rq 29 rfl Sa (Qi _ (e:=24) (sz:=3) rfl rfl rfl) ?_
  refine Rq 30 rfl Sa (Qf (off:=2) rfl) ?_
  refine Rq 31 rfl Sa (zN (v:=tV b.text) rfl (λ w ho=>q2 w ho 2 _ rfl)) ?_
  refine yK 10 ?_
  refine z6 rfl (Ec (Qc.cInt B a.kind b.kind) Tryz.func57 rfl rfl rfl ?_)
  rintro _ _ ⟨rfl,rfl⟩
  try simp only [cA,nA]
  refine ⟨Sa,?_⟩
  refine yK 21 ?_
  refine z6 rfl (Ec (Bd.compareI B a.int b.int) Tryz.func58 rfl rfl rfl ?_)
  rintro _ _ ⟨rfl,rfl⟩
  try simp only [cA,nA]
  refine ⟨Sa,?_⟩
  refine yK 32 ?_
  refine zY rfl (Ec (Qc.cStr B a.text b.text) Tryz.func59 rfl rfl rfl ?_)
  rintro _ _ ⟨rfl,rfl⟩
  try simp only [cA,nA]
  refine yK 33 ?_
  refine zY rfl (ZC [_,_,_] (e:=3) rfl (by simp [Value.cells]) rfl ?_)
  intro g48
  refine yK 34 ?_
  refine zY rfl (Ec (Qc.or3 B g48 (cmpI a.kind b.kind) (cmpI a.int b.int) (cmpS a.text b.text) 3) Tryz.func56 rfl rfl rfl ?_)
  rintro _ _ ⟨rfl,rfl⟩
  try simp only [cA,nA]
  refine Rd0 (by rfl) ?_
  simp only [dS,dZ,dN]
  refine La rfl ?_
  refine Ld ?_
  refine Ts ?_
  refine TR ?_
  refine Lm rfl ?_
  refine Lq (yW rfl rfl) ?_
  refine Ld ?_
  refine yN rfl (λ hz=>?_) (λ hz=>?_)
  .
   refine Ts ?_
   refine TR ?_
   refine Lm rfl ?_
   refine La rfl ?_
   refine Ld ?_
   refine T.ret ?_
   exact ⟨.inl rfl,_,_,res [_] rfl ⟨rvT rfl,trivial⟩,⟨by rw [hcx,cmpR_step ha hb];unfold cmpV;rw [or3_one hz];rfl,rfl⟩,Sa⟩
  refine Tk ?_
  refine TR ?_
  refine Lq (Qd rfl rfl (Ze)) ?_
  refine Lm rfl ?_
  refine Ld ?_
  refine ⟨_,?_,_,⟨_,i+1,⟨by omega,by rw [hcx,cmpR_step ha hb];unfold cmpV;rw [or3_two (Classical.not_not.1 hz)]⟩,rfl,(Za rfl (Za rfl (Za rfl (Za rfl rfl)))),rfl⟩,Sa⟩
  omega
 refine zB ?_
 refine Ts ?_
 refine TR ?_
 refine Lm rfl ?_
 refine Lq (yI (e:=24) (sz:=3) rfl) ?_
 refine Lm rfl ?_
 refine Lq (yI (e:=24) (sz:=3) rfl) ?_
 refine Le (Ec (Qc.cInt B m k) Tryz.func57 rfl rfl rfl ?_)
 rintro _ _ ⟨rfl,rfl⟩
 try simp only [cA,nA]
 refine La rfl ?_
 refine Ld ?_
 refine T.ret ?_
 exact ⟨.inl rfl,_,_,res [_] rfl ⟨rvT rfl,trivial⟩,⟨by rw [hcx,cmpR_end (by omega),hxm,hyk];rfl,rfl⟩,Sa⟩
structure Fq where
  s:Value
  row:List Va
  fr:Int
  to:Int
abbrev fqC (x:Fq):List Value:=[x.s,iV x.fr,iV x.to]
abbrev Fq.fz (x:Fq):Fz:=⟨x.row,x.fr,x.to⟩
def FqV (B:Wn) (S:List Wp) (x:Fq):Prop:=x.row.length<2^32/\FlV B S vaC x.s x.row
theorem FqV.mono {B:Wn} {S S':List Wp} {x:Fq} (h:FqV B S x) (hs : ∀ w,Own B w S'->Own B w S):FqV B S' x:=⟨h.1,h.2.mono hs⟩
theorem FqV.form {B:Wn} {S:List Wp} {x:Fq} (h:FqV B S x) : ∃ a c,x.s = .slice a x.row.length c:=by obtain ⟨a,c,e,_⟩:=h.2;exact ⟨a,c,e⟩
theorem Qc.order (B:Wn) (S:List Wp) (x y:Fq) (hx:FqV B S x) (hy:FqV B S y):Fn Tryz.prog B 34 #[.agg (fqC x).toArray,.agg (fqC y).toArray] S (λ u l=>u=iV (cmpF x.fz y.fz)/\l=S):=by
  obtain ⟨pa,ca,ex⟩:=hx.form
  obtain ⟨pb,cb,ey⟩:=hy.form
  obtain ⟨xs,xr,xf,xt⟩:=x
  obtain ⟨ys,yr,yf,yt⟩:=y
  dsimp only at ex ey
  subst ex;subst ey
  have hc:=Qc.compare B S xr yr pa xr.length ca pb yr.length cb hx.2 rfl hy.2 rfl hx.1 hy.1
  refine Wr 26 Tryz.func34 rfl rfl (nB rfl) (λ F=>?_)
  refine Ts ?_
  refine TR ?_
  refine Le (zL [_,_,_] rfl rfl ?_)
  intro g2
  refine Le (zL [_,_,_] rfl rfl ?_)
  intro g3
  refine La rfl ?_
  refine Ld ?_
  refine Ts ?_
  refine zW 21 none (nB rfl) ?_
  refine Rq 0 rfl Sa (Q0 rfl) ?_
  refine Rq 1 rfl Sa (Ql rfl rfl) ?_
  refine Rq 2 rfl Sa (Q0 rfl) ?_
  refine Rq 3 rfl Sa (Ql rfl rfl) ?_
  refine Rq 5 rfl Sa (Qf (off:=1) rfl) ?_
  refine Rq 6 rfl Sa (Q0 rfl) ?_
  refine Rq 7 rfl Sa (Ql rfl rfl) ?_
  refine Rq 8 rfl Sa (Qf (off:=1) rfl) ?_
  refine Rq 9 rfl Sa (Q0 rfl) ?_
  refine Rq 10 rfl Sa (Ql rfl rfl) ?_
  refine Rq 12 rfl Sa (Qf (off:=1) rfl) ?_
  refine Rq 13 rfl Sa (Qf (off:=1) rfl) ?_
  refine Rq 14 rfl Sa (Ql rfl rfl) ?_
  refine Rq 15 rfl Sa (Qf (off:=1) rfl) ?_
  refine Rq 16 rfl Sa (Qf (off:=1) rfl) ?_
  refine Rq 17 rfl Sa (Ql rfl rfl) ?_
  refine yK 4 ?_
  refine z6 rfl (Ec (hc) Tryz.func30 rfl rfl rfl ?_)
  rintro _ _ ⟨rfl,rfl⟩
  try simp only [cA,nA]
  refine ⟨Sa,?_⟩
  refine yK 11 ?_
  refine z6 rfl (Ec (Bd.compareI B xf yf) Tryz.func58 rfl rfl rfl ?_)
  rintro _ _ ⟨rfl,rfl⟩
  try simp only [cA,nA]
  refine ⟨Sa,?_⟩
  refine yK 18 ?_
  refine zY rfl (Ec (Bd.compareI B xt yt) Tryz.func58 rfl rfl rfl ?_)
  rintro _ _ ⟨rfl,rfl⟩
  try simp only [cA,nA]
  refine yK 19 ?_
  refine zY rfl (ZC [_,_,_] (e:=3) rfl (by simp [Value.cells]) rfl ?_)
  intro g24
  refine yK 20 ?_
  refine zY rfl (Ec (Qc.or3 B g24 (cmpRw xr yr) (cmpI xf yf) (cmpI xt yt) 3) Tryz.func56 rfl rfl rfl ?_)
  rintro _ _ ⟨rfl,rfl⟩
  try simp only [cA,nA]
  refine Rd0 (by rfl) ?_
  simp only [dS,dZ,dN]
  refine La rfl ?_
  refine Ld ?_
  refine T.ret ?_
  exact ⟨.inl rfl,_,_,res [_] rfl ⟨rvT rfl,trivial⟩,⟨rfl,rfl⟩,Sa⟩
end Go.Proofs.YtnnfjemaeefbiaaGreatDoor
