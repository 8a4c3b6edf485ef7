/- The texts BdA BdB BdC, one behind the other: what the law leans on. Conditions: as each theorem says. -/
import Derived.Test.YtnnfjemaeefbiaaGreatDoorZWpBase2
set_option linter.unusedSimpArgs false
set_option linter.unusedVariables false
set_option maxRecDepth 100000
set_option maxHeartbeats 16000000
namespace Go.Proofs.YtnnfjemaeefbiaaGreatDoor
open Go.RowKit
section
variable {P : Program} {B:Wn} {n:Nat} {S l:List Wp} {f:Fr}
variable {d : Option Tmp} {ty:TypeId} {pos:String} {af:Array Edge} {gd:Option (Nat×Bool)}
theorem Qt.lssS {t t2:TypeId} {x y:Operand} {a b:List UInt8} (hx:ev n f x=some (.string (Zq a))) (hy:ev n f y=some (.string (Zq b))):Qt P B n S ⟨d,.binOp .lss t x y t2,ty,pos,af,gd⟩ f (.bool (Op.bytesLess a b)):=⟨λ w _=>by
  simp [execOp,Zc hx,Zc hy,eqGuard,Go.binOp,Op.stringOp,strOf_toList]⟩
theorem Qt.gtrS {t t2:TypeId} {x y:Operand} {a b:List UInt8} (hx:ev n f x=some (.string (Zq a))) (hy:ev n f y=some (.string (Zq b))):Qt P B n S ⟨d,.binOp .gtr t x y t2,ty,pos,af,gd⟩ f (.bool (!(Op.bytesLess a b || (a == b)))):=⟨λ w _=>by
  simp [execOp,Zc hx,Zc hy,eqGuard,Go.binOp,Op.stringOp,strOf_toList]⟩
theorem Qt.low32 {t t2:TypeId} {x y:Operand} (a:Nat) {a' b':Int} (ha:a<18446744073709551616) (hx:ev n f x=some (.int .u64 a')) (ha':a'=(a:Int)) (hy:ev n f y=some (.int .u64 b')) (hb:b'=4294967295):Qt P B n S ⟨d,.binOp .and t x y t2,ty,pos,af,gd⟩ f (.int .u64 (a%4294967296:Nat)):=⟨λ w _=>by
  subst hb;subst ha'
  have h:(Op.intBits .and .u64 (a:Int) 4294967295).run P w = .ok (.int .u64 (a%4294967296:Nat)) w:=by
    show Sem.run P (pure (Value.int .u64 (IntKind.u64.wrap ((BitVec.ofInt 64 (a:Int) &&& BitVec.ofInt 64 ((4294967295:Nat):Int)).toNat:Int)))) w=_
    rw [ofInt_nat,ofInt_nat,BitVec.toNat_and,BitVec.toNat_ofNat,BitVec.toNat_ofNat]
    have e1:a%2^64=a:=Nat.mod_eq_of_lt ha
    have e2:4294967295%2^64=2^32-1:=by decide
    rw [e1,e2,Nat.and_two_pow_sub_one_eq_mod,wru64]
    rfl
  generalize (a%4294967296:Nat)=r at h ⊢
  simp only [execOp,Zc hx,Zc hy,eqGuard,Go.binOp]
  have h2:Sem.run P (Op.intBits .and .u64 (a:Int) 4294967295) w=Result.ok (Value.int .u64 (r:Int)) w:=h
  generalize (4294967295:Int)=q at h2 ⊢
  simp [h2]⟩
theorem Qt.high32 {t t2:TypeId} {x y:Operand} (a:Nat) {k:IntKind} {a':Int} (ha:a<18446744073709551616) (hx:ev n f x=some (.int .u64 a')) (ha':a'=(a:Int)) (hy:ev n f y=some (.int k 32)):Qt P B n S ⟨d,.binOp .shr t x y t2,ty,pos,af,gd⟩ f (.int .u64 (a/4294967296:Nat)):=by
  subst ha'
  have e:(UInt64.ofNat a).toNat=a:=by rw [UInt64.toNat_ofNat'];exact Nat.mod_eq_of_lt ha
  have h:=ZV (P:=P) (B:=B) (S:=S) (d:=d) (t:=t) (t2:=t2) (ty:=ty) (pos:=pos) (af:=af) (gd:=gd) (a:=UInt64.ofNat a) 32 (by rw [e];exact hx) hy rfl (by omega)
  rw [e] at h
  exact h
theorem Qt.sign64 {t t2:TypeId} {x y:Operand} {a:Int} {k:IntKind} (hx:ev n f x=some (.int .i64 a)) (hy:ev n f y=some (.int k 63)):Qt P B n S ⟨d,.binOp .shr t x y t2,ty,pos,af,gd⟩ f (.int .i64 (a/9223372036854775808)):=⟨λ w _=>by
  have e:a.fdiv 9223372036854775808=a/9223372036854775808:=Int.fdiv_eq_ediv_of_nonneg _ (by decide)
  have h:(Op.shift .shr .i64 a k 63).run P w = .ok (.int .i64 (a/9223372036854775808)) w:=by
    simp only [Op.shift]
    simp [IntKind.bits,e]
  simp [execOp,Zc hx,Zc hy,eqGuard,Go.binOp,h]⟩
end
section
variable {P : Program} {B:Wn} {n:Nat} {S l:List Wp} {f:Fr}
variable {d : Option Tmp} {ty:TypeId} {pos:String} {af:Array Edge} {gd:Option (Nat×Bool)}
def fieldOne (P:Program) (s i off:Nat):Bool:=match P.underlying s with
  | some (.struct fs)=>match fs[i]? with
    | some f=>f.offset == off && oneB P f.type
    | none=>false
  | _=>false
theorem Qt.field {s i:Nat} (off:Nat) {x:Operand} {vs:List Value} {v:Value} (hf:fieldOne P s i off=true) (hx:ev n f x=some (.agg vs.toArray)) (hv:vs[off]? = some v):Qt P B n S ⟨d,.field s x i,ty,pos,af,gd⟩ f v:=⟨λ w _=>by
  unfold fieldOne at hf
  split at hf
  . rename_i fs hu
    split at hf
    . rename_i fl hfl
      simp only [Bool.and_eq_true,beq_iff_eq] at hf
      obtain ⟨h1,h2⟩:=hf
      subst h1
      unfold oneB at h2
      split at h2
      . cases h2
      . cases h2
      . rename_i dd n1 n2 hut
        have hagg:(isAgg fl.type).run P w = .ok false w:=by
          unfold isAgg
          simp only [Sem.run_bind,run_underlying hut,Result.andThen_ok]
          cases dd <;> first | exact (n1 _ rfl).elim | exact (n2 _ _ rfl).elim | rfl
        have hv':vs.toArray[fl.offset]? = some v:=by simpa using hv
        simp [execOp,Instr.field,Zc hx,run_underlying hu,hfl,asAgg,part,hagg,hv']
        try simp [hv]
      . cases h2
    . cases hf
  . cases hf⟩
end
abbrev w64 (x:Int):Int:=IntKind.i64.wrap x
abbrev wu (x:Int):Int:=IntKind.u64.wrap x
def truthV (p:Bool):Va:=⟨3,if p then 1 else 0,[]⟩
def cmpI (a b:Int):Int:=if a<b then -1 else if b<a then 1 else 0
def cmpS (a b:Str):Int:=if Op.bytesLess a b=true then -1 else if a=b then 0 else 1
def orI (a b:Int):Int:=if a≠0 then a else b
def mulHi (a b:Int):Int :=
  let hi:=wu a*wu b/18446744073709551616
  let hi1:=if a<0 then wu (hi-wu b) else hi
  if b<0 then wu (hi1-wu a) else hi1
def arithP (op:Str) (a b:Int):Int×Bool :=
  if op=[43] then (w64 (a+b),(decide (a<w64 (a+b)) == decide (0<b)) || decide (b=0))
  else if op=[45] then (w64 (a-b),(decide (w64 (a-b)<a) == decide (0<b)) || decide (b=0))
  else
    let n:=w64 (wu a*wu b%18446744073709551616)
    (n,decide (mulHi a b=wu (n/9223372036854775808)))
theorem Bd.truth (B:Wn) (p:Bool):Fn Tryz.prog B 52 #[.bool p] [] (λ u l=>u=vA (truthV p)/\l=[]):=by
 refine Wq 6 Tryz.func52 rfl rfl (nB rfl) (λ F=>?_)
 try simp only [cA,nA]
 refine Ts ?_
 refine TR ?_
 refine Le (El [.int .i64 0,.int .i64 0,.string .empty] (by unfold Zf;kernel_rfl) ?_)
 intro g2
 refine Ld ?_
 refine Ts ?_
 refine Ts ?_
 refine TR ?_
 refine Lm rfl ?_
 refine Ld ?_
 refine Y9 rfl (λ h=>?_) (λ h=>?_)
 .
  refine Ts ?_
  refine TR ?_
  refine Lq (z8 [(0,1),(1,1),(2,1)] [.int .i64 0,.int .i64 0,.string .empty] [_,_,_] [(0,_),(1,_)] (by unfold Zf;kernel_rfl) rfl rfl) ?_
  refine L0 (Es [_,_,_] rfl rfl rfl rfl (by simp) ?_)
  try simp only [splice,lC,lN,dS,cA,tS,tZ,dZ,nA,aN]
  refine Ld ?_
  refine T.ret ?_
  exact ⟨.inl rfl,_,_,res [_] rfl ⟨rvA [_,_,_] rfl ⟨rfl,rfl,rfl,trivial⟩,trivial⟩,⟨by rw [h];rfl,rfl⟩,Sa⟩
 refine Tk ?_
 refine Ts ?_
 refine TR ?_
 refine Lq (z8 [(0,1),(1,1),(2,1)] [.int .i64 0,.int .i64 0,.string .empty] [_,_,_] [(0,_)] (by unfold Zf;kernel_rfl) rfl rfl) ?_
 refine L0 (Es [_,_,_] rfl rfl rfl rfl (by simp) ?_)
 try simp only [splice,lC,lN,dS,cA,tS,tZ,dZ,nA,aN]
 refine Ld ?_
 refine T.ret ?_
 exact ⟨.inl rfl,_,_,res [_] rfl ⟨rvA [_,_,_] rfl ⟨rfl,rfl,rfl,trivial⟩,trivial⟩,⟨by rw [h];rfl,rfl⟩,Sa⟩
theorem Bd.number (B:Wn) (a:Int):Fn Tryz.prog B 98 #[iV a] [] (λ u l=>u=vA ⟨1,a,[]⟩/\l=[]):=by
  refine Wq 5 Tryz.func98 rfl rfl (nB rfl) (λ F=>?_)
  try simp only [cA,nA]
  refine Ts ?_
  refine TR ?_
  refine Le (El [.int .i64 0,.int .i64 0,.string .empty] (by unfold Zf;kernel_rfl) ?_)
  intro g2
  refine Ld ?_
  refine Ts ?_
  refine TR ?_
  refine Lm rfl ?_
  refine Lq (z8 [(0,1),(1,1),(2,1)] [.int .i64 0,.int .i64 0,.string .empty] [_,_,_] [(0,_),(1,_)] (by unfold Zf;kernel_rfl) rfl rfl) ?_
  refine L0 (Es [_,_,_] rfl rfl rfl rfl (by simp) ?_)
  try simp only [splice,lC,lN,dS,cA,tS,tZ,dZ,nA,aN]
  refine Ld ?_
  refine T.ret ?_
  exact ⟨.inl rfl,_,_,res [_] rfl ⟨rvA [_,_,_] rfl ⟨rfl,rfl,rfl,trivial⟩,trivial⟩,⟨rfl,rfl⟩,Sa⟩
theorem Bd.nanI (B:Wn) (a:Int):Fn Tryz.prog B 101 #[iV a] [] (λ u l=>u = .bool false/\l=[]):=by
  refine Wq 6 Tryz.func101 rfl rfl (nB rfl) (λ F=>?_)
  try simp only [cA,nA]
  refine Ts ?_
  refine TR ?_
  refine La rfl ?_
  refine Ld ?_
  refine Ts ?_
  refine TR ?_
  refine Lm rfl ?_
  refine Lm rfl ?_
  refine Lq (yW rfl rfl) ?_
  refine La rfl ?_
  refine Ld ?_
  refine T.ret ?_
  exact ⟨.inl rfl,_,_,res [_] rfl ⟨rvT rfl,trivial⟩,⟨by simp [outV],rfl⟩,Sa⟩
theorem Bd.nanS (B:Wn) (a:Str):Fn Tryz.prog B 134 #[tV a] [] (λ u l=>u = .bool false/\l=[]):=by
  refine Wq 6 Tryz.func134 rfl rfl (nB rfl) (λ F=>?_)
  try simp only [cA,nA]
  refine Ts ?_
  refine TR ?_
  refine La rfl ?_
  refine Ld ?_
  refine Ts ?_
  refine TR ?_
  refine Lm rfl ?_
  refine Lm rfl ?_
  refine Lq (Qt.neqS rfl rfl) ?_
  refine La rfl ?_
  refine Ld ?_
  refine T.ret ?_
  exact ⟨.inl rfl,_,_,res [_] rfl ⟨rvT rfl,trivial⟩,⟨by simp [outV],rfl⟩,Sa⟩
theorem Bd.compareI (B:Wn) (a b:Int):Fn Tryz.prog B 58 #[iV a,iV b] [] (λ u l=>u=iV (cmpI a b)/\l=[]):=by
 refine Wr 20 Tryz.func58 rfl rfl (nB rfl) (λ F=>?_)
 try simp only [cA,nA]
 refine Ts ?_
 refine TR ?_
 refine La rfl ?_
 refine Ld ?_
 refine Ts ?_
 refine TR ?_
 refine Lm rfl ?_
 refine Le (Ec (Bd.nanI B a) Tryz.func101 rfl rfl rfl ?_)
 rintro _ _ ⟨rfl,rfl⟩
 try simp only [cA,nA]
 refine La rfl ?_
 refine Ld ?_
 refine Ts ?_
 refine TR ?_
 refine Lm rfl ?_
 refine Le (Ec (Bd.nanI B b) Tryz.func101 rfl rfl rfl ?_)
 rintro _ _ ⟨rfl,rfl⟩
 try simp only [cA,nA]
 refine La rfl ?_
 refine Ld ?_
 refine Ts ?_
 refine Ts ?_
 refine TR ?_
 refine Lm rfl ?_
 refine Ld ?_
 refine yQ rfl ?_
 refine Tk ?_
 refine Ts ?_
 refine Ts ?_
 refine TR ?_
 refine Lm rfl ?_
 refine Ld ?_
 refine yQ rfl ?_
 refine Tk ?_
 refine Ts ?_
 refine Ts ?_
 refine TR ?_
 refine Lm rfl ?_
 refine Lm rfl ?_
 refine Lq (yM rfl rfl) ?_
 refine Ld ?_
 refine yN rfl (λ h1=>?_) (λ h1=>?_)
 .
  refine Ts ?_
  refine TR ?_
  refine La rfl ?_
  refine Ld ?_
  refine T.ret ?_
  exact ⟨.inl rfl,_,_,res [_] rfl ⟨rvT rfl,trivial⟩,⟨by unfold cmpI;rw [if_pos h1];rfl,rfl⟩,Sa⟩
 refine Tk ?_
 refine Ts ?_
 refine Ts ?_
 refine TR ?_
 refine Lm rfl ?_
 refine Lm rfl ?_
 refine Lq (yZ rfl rfl) ?_
 refine Ld ?_
 refine yN rfl (λ h2=>?_) (λ h2=>?_)
 .
  refine Ts ?_
  refine TR ?_
  refine La rfl ?_
  refine Ld ?_
  refine T.ret ?_
  exact ⟨.inl rfl,_,_,res [_] rfl ⟨rvT rfl,trivial⟩,⟨by unfold cmpI;rw [if_neg h1,if_pos h2];rfl,rfl⟩,Sa⟩
 refine Tk ?_
 refine Ts ?_
 refine TR ?_
 refine La rfl ?_
 refine Ld ?_
 refine T.ret ?_
 exact ⟨.inl rfl,_,_,res [_] rfl ⟨rvT rfl,trivial⟩,⟨by unfold cmpI;rw [if_neg h1,if_neg h2];rfl,rfl⟩,Sa⟩
theorem Bd.compareS (B:Wn) (a b:Str):Fn Tryz.prog B 99 #[tV a,tV b] [] (λ u l=>u=iV (cmpS a b)/\l=[]):=by
 refine Wr 20 Tryz.func99 rfl rfl (nB rfl) (λ F=>?_)
 try simp only [cA,nA]
 refine Ts ?_
 refine TR ?_
 refine La rfl ?_
 refine Ld ?_
 refine Ts ?_
 refine TR ?_
 refine Lm rfl ?_
 refine Le (Ec (Bd.nanS B a) Tryz.func134 rfl rfl rfl ?_)
 rintro _ _ ⟨rfl,rfl⟩
 try simp only [cA,nA]
 refine La rfl ?_
 refine Ld ?_
 refine Ts ?_
 refine TR ?_
 refine Lm rfl ?_
 refine Le (Ec (Bd.nanS B b) Tryz.func134 rfl rfl rfl ?_)
 rintro _ _ ⟨rfl,rfl⟩
 try simp only [cA,nA]
 refine La rfl ?_
 refine Ld ?_
 refine Ts ?_
 refine Ts ?_
 refine TR ?_
 refine Lm rfl ?_
 refine Ld ?_
 refine yQ rfl ?_
 refine Tk ?_
 refine Ts ?_
 refine Ts ?_
 refine TR ?_
 refine Lm rfl ?_
 refine Ld ?_
 refine yQ rfl ?_
 refine Tk ?_
 refine Ts ?_
 refine Ts ?_
 refine TR ?_
 refine Lm rfl ?_
 refine Lm rfl ?_
 refine Lq (Qt.lssS rfl rfl) ?_
 refine Ld ?_
 refine Y9 rfl (λ h1=>?_) (λ h1=>?_)
 .
  refine Ts ?_
  refine TR ?_
  refine La rfl ?_
  refine Ld ?_
  refine T.ret ?_
  exact ⟨.inl rfl,_,_,res [_] rfl ⟨rvT rfl,trivial⟩,⟨by unfold cmpS;rw [if_pos h1];rfl,rfl⟩,Sa⟩
 refine Tk ?_
 refine Ts ?_
 refine Ts ?_
 refine TR ?_
 refine Lm rfl ?_
 refine Lm rfl ?_
 refine Lq (Qt.gtrS rfl rfl) ?_
 refine Ld ?_
 refine Y9 rfl (λ h2=>?_) (λ h2=>?_)
 .
  refine Ts ?_
  refine TR ?_
  refine La rfl ?_
  refine Ld ?_
  refine T.ret ?_
  exact ⟨.inl rfl,_,_,res [_] rfl ⟨rvT rfl,trivial⟩,⟨by unfold cmpS;rw [if_neg (by rw [h1];decide),if_neg (by rintro rfl;simp at h2)];rfl,rfl⟩,Sa⟩
 refine Tk ?_
 refine Ts ?_
 refine TR ?_
 refine La rfl ?_
 refine Ld ?_
 refine T.ret ?_
 exact ⟨.inl rfl,_,_,res [_] rfl ⟨rvT rfl,trivial⟩,⟨by unfold cmpS;rw [if_neg (by rw [h1];decide),if_pos (by simpa [h1] using h2)];rfl,rfl⟩,Sa⟩
theorem Bd.or (B:Wn) (g:Nat) (a b:Int) (t:TypeId):Fn Tryz.prog B 56 #[.slice (some ⟨g,0,none⟩) 2 2] [blk g [iV a,iV b] t] (λ u l=>u=iV (orI a b)/\l=[blk g [iV a,iV b] t]):=by
 refine Wq 18 Tryz.func56 rfl rfl (nB rfl) (λ F=>?_)
 try simp only [cA,nA]
 refine Ts ?_
 refine TR ?_
 refine La rfl ?_
 refine Ld ?_
 refine Ts ?_
 refine TR ?_
 refine La rfl ?_
 refine Ld ?_
 refine Ts ?_
 refine Ts ?_
 refine TR ?_
 refine Lm rfl ?_
 refine Lq (yI (e:=3) (sz:=1) rfl) ?_
 refine Lm rfl ?_
 refine Ld ?_
 refine yH ?_
 refine zG (λ mz fz lz => ∃ (f0:Fr) (i:Nat),(i<=2/\(1<=i->a=0)/\(2<=i->b=0))/\mz=2-i/\fz=(upd (upd (upd (upd (upd f0 2 (iV 0)) 3 (iV 0)) 6 (.slice (some ⟨g,0,none⟩) 2 2)) 7 (iV 2)) 8 (iV i))/\lz=blk g [iV a,iV b] t::F) ?_ ?_
 . refine ⟨_,_,⟨_,0,⟨by omega,by omega,by omega⟩,rfl,(Za rfl (Za rfl (Za rfl (Za rfl (Za rfl rfl))))),rfl⟩,Sa⟩
 rintro mz fz lz ⟨f0,i,⟨hi,h1,h2⟩,hmz,rfl,rfl⟩
 subst mz
 refine Ts ?_
 refine TR ?_
 refine Lq (yM rfl rfl) ?_
 refine Ld ?_
 refine Ts ?_
 refine yN rfl (λ hlt=>?_) (λ hlt=>?_)
 .
  by_cases hi0:i=0
  .
   subst hi0
   refine Tk ?_
   refine Ts ?_
   refine yH ?_
   refine Ts ?_
   refine TR ?_
   refine Lq (Qi _ (e:=3) (sz:=1) rfl rfl rfl) ?_
   refine Lq (Ql rfl rfl) ?_
   refine La rfl ?_
   refine Ld ?_
   refine Ts ?_
   refine TR ?_
   refine Lm rfl ?_
   refine Lm rfl ?_
   refine Lq (yW rfl rfl) ?_
   refine Ld ?_
   refine yN rfl (λ hz=>?_) (λ hz=>?_)
   .
    refine Ts ?_
    refine TR ?_
    refine Lm rfl ?_
    refine La rfl ?_
    refine Ld ?_
    refine T.ret ?_
    exact ⟨.inl rfl,_,_,res [_] rfl ⟨rvT rfl,trivial⟩,⟨by unfold orI;rw [if_pos hz];rfl,rfl⟩,Sa⟩
   refine Tk ?_
   refine TR ?_
   refine Lq (Qd rfl rfl (Ze)) ?_
   refine Lm rfl ?_
   refine Ld ?_
   refine ⟨_,?_,_,⟨_,1,⟨by omega,λ _=>Classical.not_not.1 hz,by omega⟩,rfl,(Za rfl (Za rfl (Za rfl (Za rfl (Za rfl rfl))))),rfl⟩,Sa⟩
   omega
  obtain rfl:i=1:=by omega
  have ha:=h1 (by omega)
  refine Tk ?_
  refine Ts ?_
  refine yH ?_
  refine Ts ?_
  refine TR ?_
  refine Lq (Qi _ (e:=3) (sz:=1) rfl rfl rfl) ?_
  refine Lq (Ql rfl rfl) ?_
  refine La rfl ?_
  refine Ld ?_
  refine Ts ?_
  refine TR ?_
  refine Lm rfl ?_
  refine Lm rfl ?_
  refine Lq (yW rfl rfl) ?_
  refine Ld ?_
  refine yN rfl (λ hz=>?_) (λ hz=>?_)
  .
   refine Ts ?_
   refine TR ?_
   refine Lm rfl ?_
   refine La rfl ?_
   refine Ld ?_
   refine T.ret ?_
   exact ⟨.inl rfl,_,_,res [_] rfl ⟨rvT rfl,trivial⟩,⟨by unfold orI;rw [if_neg (by omega)];rfl,rfl⟩,Sa⟩
  refine Tk ?_
  refine TR ?_
  refine Lq (Qd rfl rfl (Ze)) ?_
  refine Lm rfl ?_
  refine Ld ?_
  refine ⟨_,?_,_,⟨_,2,⟨by omega,λ _=>ha,λ _=>Classical.not_not.1 hz⟩,rfl,(Za rfl (Za rfl (Za rfl (Za rfl (Za rfl rfl))))),rfl⟩,Sa⟩
  omega
 have ha:=h1 (by omega)
 have hb:=h2 (by omega)
 refine zB ?_
 refine Ts ?_
 refine TR ?_
 refine Lm rfl ?_
 refine La rfl ?_
 refine Ld ?_
 refine T.ret ?_
 exact ⟨.inl rfl,_,_,res [_] rfl ⟨rvT rfl,trivial⟩,⟨by unfold orI;rw [if_neg (by omega),hb];rfl,rfl⟩,Sa⟩
theorem mul64_parts (x y:Nat) (hx:x<18446744073709551616) (hy:y<18446744073709551616) :
    ∀ x0 x1 y0 y1:Nat,x0=x%4294967296->x1=x/4294967296->y0=y%4294967296->y1=y/4294967296 ->
    x0*y0<18446744073709551616/\x1*y0+x0*y0/4294967296<18446744073709551616 /\
    (x1*y0+x0*y0/4294967296)%4294967296+x0*y1<18446744073709551616 /\
    x1*y1+(x1*y0+x0*y0/4294967296)/4294967296+((x1*y0+x0*y0/4294967296)%4294967296+x0*y1)/4294967296=x*y/18446744073709551616/\x*y/18446744073709551616<18446744073709551616:=by
  intro x0 x1 y0 y1 e1 e2 e3 e4
  have b0:x0<=4294967295:=by omega
  have b1:x1<=4294967295:=by omega
  have b2:y0<=4294967295:=by omega
  have b3:y1<=4294967295:=by omega
  have p00:x0*y0<=4294967295*4294967295:=Nat.mul_le_mul b0 b2
  have p10:x1*y0<=4294967295*4294967295:=Nat.mul_le_mul b1 b2
  have p01:x0*y1<=4294967295*4294967295:=Nat.mul_le_mul b0 b3
  have p11:x1*y1<=4294967295*4294967295:=Nat.mul_le_mul b1 b3
  have ex:x=4294967296*x1+x0:=by omega
  have ey:y=4294967296*y1+y0:=by omega
  have e:x*y=18446744073709551616*(x1*y1)+4294967296*(x1*y0)+4294967296*(x0*y1)+x0*y0:=by
    rw [ex,ey,Nat.add_mul,Nat.mul_add,Nat.mul_add]
    rw [show 4294967296*x1*(4294967296*y1)=18446744073709551616*(x1*y1) by rw [Nat.mul_mul_mul_comm],show 4294967296*x1*y0=4294967296*(x1*y0) by rw [Nat.mul_assoc],show x0*(4294967296*y1)=4294967296*(x0*y1) by rw [Nat.mul_left_comm]]
    omega
  rw [e]
  generalize x0*y0=p at *
  generalize x1*y0=q at *
  generalize x0*y1=r at *
  generalize x1*y1=s at *
  refine ⟨by omega,by omega,by omega,by omega,by omega⟩
theorem Bd.mul64 (B:Wn) (x y:Nat) (hx:x<18446744073709551616) (hy:y<18446744073709551616):Fn Tryz.prog B 97 #[.int .u64 x,.int .u64 y] [] (λ u l=>u = .tuple #[.int .u64 (x*y/18446744073709551616:Nat),.int .u64 (x*y%18446744073709551616:Nat)]/\l=[]):=by
  obtain ⟨q1,q2,q3,q4,q5⟩:=mul64_parts x y hx hy _ _ _ _ rfl rfl rfl rfl
  refine Wr 51 Tryz.func97 rfl rfl (nB rfl) (λ F=>?_)
  try simp only [cA,nA]
  refine Ts ?_
  refine TR ?_
  refine La rfl ?_
  refine La rfl ?_
  refine Ld ?_
  refine Ts ?_
  refine TR ?_
  refine Lm rfl ?_
  refine Lq (Qt.low32 x hx rfl rfl rfl rfl) ?_
  refine La rfl ?_
  refine Ld ?_
  refine Ts ?_
  refine TR ?_
  refine Lm rfl ?_
  refine Lq (Qt.high32 x hx rfl rfl rfl) ?_
  refine La rfl ?_
  refine Ld ?_
  refine Ts ?_
  refine TR ?_
  refine Lm rfl ?_
  refine Lq (Qt.low32 y hy rfl rfl rfl rfl) ?_
  refine La rfl ?_
  refine Ld ?_
  refine Ts ?_
  refine TR ?_
  refine Lm rfl ?_
  refine Lq (Qt.high32 y hy rfl rfl rfl) ?_
  refine La rfl ?_
  refine Ld ?_
  refine Ts ?_
  refine TR ?_
  refine Lm rfl ?_
  refine Lm rfl ?_
  refine Lq (YG (r:=((x%4294967296*(y%4294967296):Nat):Int)) rfl rfl (by rw [<-Int.natCast_mul];exact wru64)) ?_
  refine La rfl ?_
  refine Ld ?_
  refine Ts ?_
  refine TR ?_
  refine Lm rfl ?_
  refine Lm rfl ?_
  refine Lq (YG (r:=((x/4294967296*(y%4294967296):Nat):Int)) rfl rfl (by rw [<-Int.natCast_mul];exact wru64)) ?_
  refine Lm rfl ?_
  refine Lq (Qt.high32 (x%4294967296*(y%4294967296)) (by omega) rfl rfl rfl) ?_
  refine Lq (Qd (r:=((x/4294967296*(y%4294967296)+x%4294967296*(y%4294967296)/4294967296:Nat):Int)) rfl rfl (by rw [<-Int.natCast_add];exact wru64)) ?_
  refine La rfl ?_
  refine Ld ?_
  refine Ts ?_
  refine TR ?_
  refine Lm rfl ?_
  refine Lq (Qt.low32 (x/4294967296*(y%4294967296)+x%4294967296*(y%4294967296)/4294967296) q2 rfl rfl rfl rfl) ?_
  refine La rfl ?_
  refine Ld ?_
  refine Ts ?_
  refine TR ?_
  refine Lm rfl ?_
  refine Lq (Qt.high32 (x/4294967296*(y%4294967296)+x%4294967296*(y%4294967296)/4294967296) (by omega) rfl rfl rfl) ?_
  refine La rfl ?_
  refine Ld ?_
  refine Ts ?_
  refine TR ?_
  refine Lm rfl ?_
  refine Lm rfl ?_
  refine Lm rfl ?_
  refine Lq (YG (r:=((x%4294967296*(y/4294967296):Nat):Int)) rfl rfl (by rw [<-Int.natCast_mul];exact wru64)) ?_
  refine Lq (Qd (r:=(((x/4294967296*(y%4294967296)+x%4294967296*(y%4294967296)/4294967296)%4294967296+x%4294967296*(y/4294967296):Nat):Int)) rfl rfl (by rw [<-Int.natCast_add];exact wru64)) ?_
  refine La rfl ?_
  refine Ld ?_
  refine Ts ?_
  refine TR ?_
  refine Lm rfl ?_
  refine Lm rfl ?_
  refine Lq (YG (r:=((x/4294967296*(y/4294967296):Nat):Int)) rfl rfl (by rw [<-Int.natCast_mul];exact wru64)) ?_
  refine Lm rfl ?_
  refine Lq (Qd (r:=((x/4294967296*(y/4294967296)+(x/4294967296*(y%4294967296)+x%4294967296*(y%4294967296)/4294967296)/4294967296:Nat):Int)) rfl rfl (by rw [<-Int.natCast_add];exact wru64)) ?_
  refine Lm rfl ?_
  refine Lq (Qt.high32 ((x/4294967296*(y%4294967296)+x%4294967296*(y%4294967296)/4294967296)%4294967296+x%4294967296*(y/4294967296)) (by omega) rfl rfl rfl) ?_
  refine Lq (Qd (r:=((x*y/18446744073709551616:Nat):Int)) rfl rfl (by rw [<-Int.natCast_add,q4];exact wru64)) ?_
  refine La rfl ?_
  refine Ld ?_
  refine Ts ?_
  refine TR ?_
  refine Lm rfl ?_
  refine Lm rfl ?_
  refine Lq (YG (r:=((x*y%18446744073709551616:Nat):Int)) rfl rfl (by rw [<-Int.natCast_mul];simp only [IntKind.wrap,IntKind.bits,IntKind.signed];simp)) ?_
  refine La rfl ?_
  refine Ld ?_
  refine T.ret ?_
  exact ⟨.inl rfl,_,_,res [_,_] rfl ⟨rvT rfl,rvT rfl,trivial⟩,⟨rfl,rfl⟩,Sa⟩
open Go.RowKit
abbrev pvC (code:Int):Value := .iface 94 (.agg #[iV code])
def arithE (op:Str) (a b:Int):Except Int Va:=if (arithP op a b).2=true then .ok ⟨1,(arithP op a b).1,[]⟩ else .error 171
def ordV (a b:Va):Int:=orI (cmpI a.int b.int) (cmpS a.text b.text)
def reckonT (op:Str) (a b:Va):Except Int Va :=
  if op=[79,82] then .ok (truthV (decide (a.int=1) || decide (b.int=1)))
  else if op=[65,78,68] then .ok (truthV (decide (a.int=1) && decide (b.int=1)))
  else if op=[61] then .ok (truthV (decide (ordV a b=0)))
  else if op=[60,62] then .ok (truthV (decide (ordV a b≠0)))
  else if op=[60,61] then .ok (truthV (decide (ordV a b<=0)))
  else if op=[62,61] then .ok (truthV (decide (0<=ordV a b)))
  else if op=[60] then .ok (truthV (decide (ordV a b<0)))
  else if op=[62] then .ok (truthV (decide (0<ordV a b)))
  else arithE op a.int b.int
theorem wu_nat (a:Int) : ∃ x:Nat,wu a=(x:Int)/\x<18446744073709551616:=by
  have h:0<=wu a/\wu a<18446744073709551616:=by
    simp only [wu,IntKind.wrap,IntKind.bits,IntKind.signed];simp;omega
  exact ⟨(wu a).toNat,by omega,by omega⟩
theorem Bd.arithOk (B:Wn) (op:Str) (a b:Int) (v:Va) (h:arithE op a b = .ok v):Fn Tryz.prog B 53 #[tV op,iV a,iV b] [] (λ u l=>u=vA v/\l=[]):=by
 have hv:(arithP op a b).2=true/\v=⟨1,(arithP op a b).1,[]⟩:=by
  unfold arithE at h
  split at h
  . rename_i e;injection h with h;exact ⟨e,h.symm⟩
  . cases h
 obtain ⟨hok,rfl⟩:=hv
 obtain ⟨x,hx,hx2⟩:=wu_nat a
 obtain ⟨y,hy,hy2⟩:=wu_nat b
 have hhi:wu a*wu b/18446744073709551616=((x*y/18446744073709551616:Nat):Int):=by rw [hx,hy,<-Int.natCast_mul];exact (Int.natCast_ediv _ _).symm
 have hlo:wu a*wu b%18446744073709551616=((x*y%18446744073709551616:Nat):Int):=by rw [hx,hy,<-Int.natCast_mul];exact (Int.natCast_emod _ _).symm
 refine Ws 75 Tryz.func53 rfl rfl (nB rfl) (λ F=>?_)
 try simp only [cA,nA]
 refine Ts ?_
 refine TR ?_
 refine Le (El [.int .i64 0,.int .i64 0,.string .empty] (by unfold Zf;kernel_rfl) ?_)
 intro g6
 refine Ld ?_
 refine Ts ?_
 refine TR ?_
 refine La rfl ?_
 refine La rfl ?_
 refine Ld ?_
 refine T.cut (λ fz lz => ∃ (f0:Fr) (r:Int) (ok:Bool),((r,ok)=arithP op a b)/\fz=(upd (upd (upd f0 6 (.pointer (some ⟨g6,0,none⟩))) 7 (iV r)) 8 (.bool ok))/\lz=blk g6 [iV 0,iV 0,.string .empty] 24::F) ?_ ?_
 .
  refine Ts ?_
  refine TR ?_
  refine Lm rfl ?_
  refine Ld ?_
  refine yH ?_
  refine Ts ?_
  refine TR ?_
  refine Lq (Z3 rfl rfl) ?_
  refine La rfl ?_
  refine Ld ?_
  refine yN rfl (λ h1=>?_) (λ h1=>?_)
  .
   refine Ts ?_
   refine TR ?_
   refine Lm rfl ?_
   refine Lm rfl ?_
   refine Lq (Qd rfl rfl rfl) ?_
   refine La rfl ?_
   refine Ld ?_
   refine TR ?_
   refine Lm rfl ?_
   refine Lm rfl ?_
   refine Lq (yZ rfl rfl) ?_
   refine Lm rfl ?_
   refine Lq (yZ rfl rfl) ?_
   refine Lq (X2 rfl rfl) ?_
   refine Lm rfl ?_
   refine zZ (t:=50) rfl (λ h2=>?_) (λ h2=>?_)
   .
    try replace h2:=of_decide_eq_true h2
    refine Ls rfl ?_
    refine Ls rfl ?_
    refine Lq (Qp rfl rfl) ?_
    refine La rfl ?_
    refine Ld ?_
    exact ⟨_,⟨_,w64 (a+b),true,by unfold arithP;rw [if_pos h1];simp only [w64] at h2 ⊢;rw [h2,beq_self_eq_true];rfl,(Za rfl (Za rfl (Za rfl rfl))),rfl⟩,Sa⟩
   try replace h2:=of_decide_eq_false h2
   refine Lm rfl ?_
   refine Lq (yU rfl rfl) ?_
   refine Lq (Qp rfl rfl) ?_
   refine La rfl ?_
   refine Ld ?_
   exact ⟨_,⟨_,w64 (a+b),decide (b=0),by unfold arithP;rw [if_pos h1];simp only [w64] at h2 ⊢;rw [beq_false_of_ne h2];rfl,(Za rfl (Za rfl (Za rfl rfl))),rfl⟩,Sa⟩
  refine Ts ?_
  refine TR ?_
  refine Lq (Z3 rfl rfl) ?_
  refine La rfl ?_
  refine Ld ?_
  refine yN rfl (λ h2=>?_) (λ h2=>?_)
  .
   refine Ts ?_
   refine TR ?_
   refine Lm rfl ?_
   refine Lm rfl ?_
   refine Lq (Qt.sub rfl rfl rfl) ?_
   refine La rfl ?_
   refine Ld ?_
   refine TR ?_
   refine Lm rfl ?_
   refine Lm rfl ?_
   refine Lq (yM rfl rfl) ?_
   refine Lm rfl ?_
   refine Lq (yZ rfl rfl) ?_
   refine Lq (X2 rfl rfl) ?_
   refine Lm rfl ?_
   refine zZ (t:=65) rfl (λ h3=>?_) (λ h3=>?_)
   .
    try replace h3:=of_decide_eq_true h3
    refine Ls rfl ?_
    refine Ls rfl ?_
    refine Lq (Qp rfl rfl) ?_
    refine La rfl ?_
    refine Ld ?_
    exact ⟨_,⟨_,w64 (a-b),true,by unfold arithP;rw [if_neg h1,if_pos h2];simp only [w64] at h3 ⊢;rw [h3,beq_self_eq_true];rfl,(Za rfl (Za rfl (Za rfl rfl))),rfl⟩,Sa⟩
   try replace h3:=of_decide_eq_false h3
   refine Lm rfl ?_
   refine Lq (yU rfl rfl) ?_
   refine Lq (Qp rfl rfl) ?_
   refine La rfl ?_
   refine Ld ?_
   exact ⟨_,⟨_,w64 (a-b),decide (b=0),by unfold arithP;rw [if_neg h1,if_pos h2];simp only [w64] at h3 ⊢;rw [beq_false_of_ne h3];rfl,(Za rfl (Za rfl (Za rfl rfl))),rfl⟩,Sa⟩
  refine Ts ?_
  refine TR ?_
  refine Lm rfl ?_
  refine Lq (yX rfl hx) ?_
  refine Lm rfl ?_
  refine Lq (yX rfl hy) ?_
  refine Le (Ec (Bd.mul64 B x y hx2 hy2) Tryz.func97 rfl rfl rfl ?_)
  rintro _ _ ⟨rfl,rfl⟩
  try simp only [cA,nA]
  refine Lm rfl ?_
  refine Lq (Qx rfl rfl) ?_
  refine Lq (Qx rfl rfl) ?_
  refine La rfl ?_
  refine La rfl ?_
  refine Ld ?_
  refine T.cut (λ fz lz => ∃ (f0:Fr) (i1:Int),(i1=if a<0 then wu (((x*y/18446744073709551616:Nat):Int)-wu b) else ((x*y/18446744073709551616:Nat):Int))/\fz=(upd (upd (upd (upd (upd (upd f0 1 (iV a)) 2 (iV b)) 6 (.pointer (some ⟨g6,0,none⟩))) 8 (.bool true)) 9 (.int .u64 i1)) 10 (.int .u64 (x*y%18446744073709551616:Nat)))/\lz=blk g6 [iV 0,iV 0,.string .empty] 24::F) ?_ ?_
  .
   refine Ts ?_
   refine TR ?_
   refine Lm rfl ?_
   refine Lq (yM rfl rfl) ?_
   refine Ld ?_
   refine yN rfl (λ h3=>?_) (λ h3=>?_)
   .
    refine TR ?_
    refine Lm rfl ?_
    refine Lm rfl ?_
    refine Lq (yX rfl hy) ?_
    refine Lq (Qt.sub rfl rfl rfl) ?_
    refine La rfl ?_
    refine Ld ?_
    exact ⟨_,⟨_,wu (((x*y/18446744073709551616:Nat):Int)-(y:Int)),by rw [if_pos h3,hy],(Za rfl (Za rfl (Za rfl (Za rfl (Za rfl (Za rfl rfl)))))),rfl⟩,Sa⟩
   refine Tk ?_
   exact ⟨_,⟨_,((x*y/18446744073709551616:Nat):Int),by rw [if_neg h3],(Za rfl (Za rfl (Za rfl (Za rfl (Za rfl (Za rfl rfl)))))),rfl⟩,Sa⟩
  rintro fz lz ⟨f0,i1,hi1,rfl,rfl⟩
  refine T.cut (λ fz lz => ∃ (f0:Fr) (i2:Int),(i2=mulHi a b)/\fz=(upd (upd (upd (upd (upd (upd f0 1 (iV a)) 2 (iV b)) 6 (.pointer (some ⟨g6,0,none⟩))) 8 (.bool true)) 9 (.int .u64 i2)) 10 (.int .u64 (x*y%18446744073709551616:Nat)))/\lz=blk g6 [iV 0,iV 0,.string .empty] 24::F) ?_ ?_
  .
   refine Ts ?_
   refine TR ?_
   refine Lm rfl ?_
   refine Lq (yM rfl rfl) ?_
   refine Ld ?_
   refine yN rfl (λ h3=>?_) (λ h3=>?_)
   .
    refine TR ?_
    refine Lm rfl ?_
    refine Lm rfl ?_
    refine Lq (yX rfl hx) ?_
    refine Lq (Qt.sub rfl rfl rfl) ?_
    refine La rfl ?_
    refine Ld ?_
    exact ⟨_,⟨_,wu (i1-(x:Int)),by unfold mulHi;simp only;rw [hhi,if_pos h3,<-hi1,hx],(Za rfl (Za rfl (Za rfl (Za rfl (Za rfl (Za rfl rfl)))))),rfl⟩,Sa⟩
   refine Tk ?_
   exact ⟨_,⟨_,i1,by unfold mulHi;simp only;rw [hhi,if_neg h3,<-hi1],(Za rfl (Za rfl (Za rfl (Za rfl (Za rfl (Za rfl rfl)))))),rfl⟩,Sa⟩
  rintro fz lz ⟨f0,i2,hi2,rfl,rfl⟩
  refine Ts ?_
  refine TR ?_
  refine Lm rfl ?_
  refine Lq (yX (k' := .i64) rfl rfl) ?_
  refine La rfl ?_
  refine Ld ?_
  refine TR ?_
  refine Lm rfl ?_
  refine Lm rfl ?_
  refine Lq (Qt.sign64 rfl rfl) ?_
  refine Lq (yX (k' := .u64) rfl rfl) ?_
  refine Lq (yU rfl rfl) ?_
  refine La rfl ?_
  refine Ld ?_
  exact ⟨_,⟨_,w64 ((x*y%18446744073709551616:Nat):Int),decide (i2=wu (w64 ((x*y%18446744073709551616:Nat):Int)/9223372036854775808)),by unfold arithP;rw [if_neg h1,if_neg h2,hi2];simp only;rw [hlo],(Za rfl (Za rfl (Za rfl rfl))),rfl⟩,Sa⟩
 rintro fz lz ⟨f0,r,ok,hr,rfl,rfl⟩
 rw [<-hr] at hok ⊢
 refine Ts ?_
 refine Ts ?_
 refine TR ?_
 refine Lm rfl ?_
 refine Lq (Y2 rfl) ?_
 refine Ld ?_
 refine YQ rfl ((by dsimp only at hok;rw [hok];rfl)) ?_
 refine Tk ?_
 refine Ts ?_
 refine TR ?_
 refine Lm rfl ?_
 refine Le (Ec (Bd.number B r) Tryz.func98 rfl rfl rfl ?_)
 rintro _ _ ⟨rfl,rfl⟩
 try simp only [cA,nA]
 refine L0 (Es [_,_,_] rfl rfl rfl rfl (by simp) ?_)
 try simp only [splice,lC,lN,dS,cA,tS,tZ,dZ,nA,aN]
 refine Ld ?_
 refine T.ret ?_
 exact ⟨.inl rfl,_,_,res [_] rfl ⟨rvA [_,_,_] rfl ⟨rfl,rfl,rfl,trivial⟩,trivial⟩,⟨rfl,rfl⟩,Sa⟩
theorem Bd.arithBad (B:Wn) (op:Str) (a b code:Int) (h:arithE op a b = .error code):Fx Tryz.prog B 53 #[tV op,iV a,iV b] [] (pvC code):=by
 have hv:(arithP op a b).2=false/\code=171:=by
  unfold arithE at h
  split at h
  . cases h
  . rename_i e;injection h with h;exact ⟨by simpa using e,h.symm⟩
 obtain ⟨hok,rfl⟩:=hv
 obtain ⟨x,hx,hx2⟩:=wu_nat a
 obtain ⟨y,hy,hy2⟩:=wu_nat b
 have hhi:wu a*wu b/18446744073709551616=((x*y/18446744073709551616:Nat):Int):=by rw [hx,hy,<-Int.natCast_mul];exact (Int.natCast_ediv _ _).symm
 have hlo:wu a*wu b%18446744073709551616=((x*y%18446744073709551616:Nat):Int):=by rw [hx,hy,<-Int.natCast_mul];exact (Int.natCast_emod _ _).symm
 refine Fx.enter3 75 Tryz.func53 rfl rfl (nB rfl) (λ F=>?_)
 try simp only [cA,nA]
 refine Ts ?_
 refine TR ?_
 refine Le (El [.int .i64 0,.int .i64 0,.string .empty] (by unfold Zf;kernel_rfl) ?_)
 intro g6
 refine Ld ?_
 refine Ts ?_
 refine TR ?_
 refine La rfl ?_
 refine La rfl ?_
 refine Ld ?_
 refine T.cut (λ fz lz => ∃ (f0:Fr) (r:Int) (ok:Bool),((r,ok)=arithP op a b)/\fz=(upd (upd (upd f0 6 (.pointer (some ⟨g6,0,none⟩))) 7 (iV r)) 8 (.bool ok))/\lz=blk g6 [iV 0,iV 0,.string .empty] 24::F) ?_ ?_
 .
  refine Ts ?_
  refine TR ?_
  refine Lm rfl ?_
  refine Ld ?_
  refine yH ?_
  refine Ts ?_
  refine TR ?_
  refine Lq (Z3 rfl rfl) ?_
  refine La rfl ?_
  refine Ld ?_
  refine yN rfl (λ h1=>?_) (λ h1=>?_)
  .
   refine Ts ?_
   refine TR ?_
   refine Lm rfl ?_
   refine Lm rfl ?_
   refine Lq (Qd rfl rfl rfl) ?_
   refine La rfl ?_
   refine Ld ?_
   refine TR ?_
   refine Lm rfl ?_
   refine Lm rfl ?_
   refine Lq (yZ rfl rfl) ?_
   refine Lm rfl ?_
   refine Lq (yZ rfl rfl) ?_
   refine Lq (X2 rfl rfl) ?_
   refine Lm rfl ?_
   refine zZ (t:=50) rfl (λ h2=>?_) (λ h2=>?_)
   .
    try replace h2:=of_decide_eq_true h2
    refine Ls rfl ?_
    refine Ls rfl ?_
    refine Lq (Qp rfl rfl) ?_
    refine La rfl ?_
    refine Ld ?_
    exact ⟨_,⟨_,w64 (a+b),true,by unfold arithP;rw [if_pos h1];simp only [w64] at h2 ⊢;rw [h2,beq_self_eq_true];rfl,(Za rfl (Za rfl (Za rfl rfl))),rfl⟩,Sa⟩
   try replace h2:=of_decide_eq_false h2
   refine Lm rfl ?_
   refine Lq (yU rfl rfl) ?_
   refine Lq (Qp rfl rfl) ?_
   refine La rfl ?_
   refine Ld ?_
   exact ⟨_,⟨_,w64 (a+b),decide (b=0),by unfold arithP;rw [if_pos h1];simp only [w64] at h2 ⊢;rw [beq_false_of_ne h2];rfl,(Za rfl (Za rfl (Za rfl rfl))),rfl⟩,Sa⟩
  refine Ts ?_
  refine TR ?_
  refine Lq (Z3 rfl rfl) ?_
  refine La rfl ?_
  refine Ld ?_
  refine yN rfl (λ h2=>?_) (λ h2=>?_)
  .
   refine Ts ?_
   refine TR ?_
   refine Lm rfl ?_
   refine Lm rfl ?_
   refine Lq (Qt.sub rfl rfl rfl) ?_
   refine La rfl ?_
   refine Ld ?_
   refine TR ?_
   refine Lm rfl ?_
   refine Lm rfl ?_
   refine Lq (yM rfl rfl) ?_
   refine Lm rfl ?_
   refine Lq (yZ rfl rfl) ?_
   refine Lq (X2 rfl rfl) ?_
   refine Lm rfl ?_
   refine zZ (t:=65) rfl (λ h3=>?_) (λ h3=>?_)
   .
    try replace h3:=of_decide_eq_true h3
    refine Ls rfl ?_
    refine Ls rfl ?_
    refine Lq (Qp rfl rfl) ?_
    refine La rfl ?_
    refine Ld ?_
    exact ⟨_,⟨_,w64 (a-b),true,by unfold arithP;rw [if_neg h1,if_pos h2];simp only [w64] at h3 ⊢;rw [h3,beq_self_eq_true];rfl,(Za rfl (Za rfl (Za rfl rfl))),rfl⟩,Sa⟩
   try replace h3:=of_decide_eq_false h3
   refine Lm rfl ?_
   refine Lq (yU rfl rfl) ?_
   refine Lq (Qp rfl rfl) ?_
   refine La rfl ?_
   refine Ld ?_
   exact ⟨_,⟨_,w64 (a-b),decide (b=0),by unfold arithP;rw [if_neg h1,if_pos h2];simp only [w64] at h3 ⊢;rw [beq_false_of_ne h3];rfl,(Za rfl (Za rfl (Za rfl rfl))),rfl⟩,Sa⟩
  refine Ts ?_
  refine TR ?_
  refine Lm rfl ?_
  refine Lq (yX rfl hx) ?_
  refine Lm rfl ?_
  refine Lq (yX rfl hy) ?_
  refine Le (Ec (Bd.mul64 B x y hx2 hy2) Tryz.func97 rfl rfl rfl ?_)
  rintro _ _ ⟨rfl,rfl⟩
  try simp only [cA,nA]
  refine Lm rfl ?_
  refine Lq (Qx rfl rfl) ?_
  refine Lq (Qx rfl rfl) ?_
  refine La rfl ?_
  refine La rfl ?_
  refine Ld ?_
  refine T.cut (λ fz lz => ∃ (f0:Fr) (i1:Int),(i1=if a<0 then wu (((x*y/18446744073709551616:Nat):Int)-wu b) else ((x*y/18446744073709551616:Nat):Int))/\fz=(upd (upd (upd (upd (upd (upd f0 1 (iV a)) 2 (iV b)) 6 (.pointer (some ⟨g6,0,none⟩))) 8 (.bool true)) 9 (.int .u64 i1)) 10 (.int .u64 (x*y%18446744073709551616:Nat)))/\lz=blk g6 [iV 0,iV 0,.string .empty] 24::F) ?_ ?_
  .
   refine Ts ?_
   refine TR ?_
   refine Lm rfl ?_
   refine Lq (yM rfl rfl) ?_
   refine Ld ?_
   refine yN rfl (λ h3=>?_) (λ h3=>?_)
   .
    refine TR ?_
    refine Lm rfl ?_
    refine Lm rfl ?_
    refine Lq (yX rfl hy) ?_
    refine Lq (Qt.sub rfl rfl rfl) ?_
    refine La rfl ?_
    refine Ld ?_
    exact ⟨_,⟨_,wu (((x*y/18446744073709551616:Nat):Int)-(y:Int)),by rw [if_pos h3,hy],(Za rfl (Za rfl (Za rfl (Za rfl (Za rfl (Za rfl rfl)))))),rfl⟩,Sa⟩
   refine Tk ?_
   exact ⟨_,⟨_,((x*y/18446744073709551616:Nat):Int),by rw [if_neg h3],(Za rfl (Za rfl (Za rfl (Za rfl (Za rfl (Za rfl rfl)))))),rfl⟩,Sa⟩
  rintro fz lz ⟨f0,i1,hi1,rfl,rfl⟩
  refine T.cut (λ fz lz => ∃ (f0:Fr) (i2:Int),(i2=mulHi a b)/\fz=(upd (upd (upd (upd (upd (upd f0 1 (iV a)) 2 (iV b)) 6 (.pointer (some ⟨g6,0,none⟩))) 8 (.bool true)) 9 (.int .u64 i2)) 10 (.int .u64 (x*y%18446744073709551616:Nat)))/\lz=blk g6 [iV 0,iV 0,.string .empty] 24::F) ?_ ?_
  .
   refine Ts ?_
   refine TR ?_
   refine Lm rfl ?_
   refine Lq (yM rfl rfl) ?_
   refine Ld ?_
   refine yN rfl (λ h3=>?_) (λ h3=>?_)
   .
    refine TR ?_
    refine Lm rfl ?_
    refine Lm rfl ?_
    refine Lq (yX rfl hx) ?_
    refine Lq (Qt.sub rfl rfl rfl) ?_
    refine La rfl ?_
    refine Ld ?_
    exact ⟨_,⟨_,wu (i1-(x:Int)),by unfold mulHi;simp only;rw [hhi,if_pos h3,<-hi1,hx],(Za rfl (Za rfl (Za rfl (Za rfl (Za rfl (Za rfl rfl)))))),rfl⟩,Sa⟩
   refine Tk ?_
   exact ⟨_,⟨_,i1,by unfold mulHi;simp only;rw [hhi,if_neg h3,<-hi1],(Za rfl (Za rfl (Za rfl (Za rfl (Za rfl (Za rfl rfl)))))),rfl⟩,Sa⟩
  rintro fz lz ⟨f0,i2,hi2,rfl,rfl⟩
  refine Ts ?_
  refine TR ?_
  refine Lm rfl ?_
  refine Lq (yX (k' := .i64) rfl rfl) ?_
  refine La rfl ?_
  refine Ld ?_
  refine TR ?_
  refine Lm rfl ?_
  refine Lm rfl ?_
  refine Lq (Qt.sign64 rfl rfl) ?_
  refine Lq (yX (k' := .u64) rfl rfl) ?_
  refine Lq (yU rfl rfl) ?_
  refine La rfl ?_
  refine Ld ?_
  exact ⟨_,⟨_,w64 ((x*y%18446744073709551616:Nat):Int),decide (i2=wu (w64 ((x*y%18446744073709551616:Nat):Int)/9223372036854775808)),by unfold arithP;rw [if_neg h1,if_neg h2,hi2];simp only;rw [hlo],(Za rfl (Za rfl (Za rfl rfl))),rfl⟩,Sa⟩
 rintro fz lz ⟨f0,r,ok,hr,rfl,rfl⟩
 rw [<-hr] at hok
 refine Ts ?_
 refine Ts ?_
 refine TR ?_
 refine Lm rfl ?_
 refine Lq (Y2 rfl) ?_
 refine Ld ?_
 refine T.condBT rfl ((by dsimp only at hok;rw [hok];rfl)) ?_
 refine TR ?_
 refine Lq (z8 [(0,1)] [.int .i64 0] [_] [(0,_)] (by unfold Zf;kernel_rfl) rfl rfl) ?_
 refine Lq (ZF rfl) ?_
 refine LW.dies (Dx.pan rfl) ?_
 exact ⟨rfl,Sa⟩
theorem Bd.reckonOk (B:Wn) (op:Str) (a b v:Va) (h:reckonT op a b = .ok v):Fn Tryz.prog B 54 #[tV op,vA a,vA b] [] (λ u l=>u=vA v/\l=[]):=by
 obtain ⟨ak,ai,at0⟩:=a
 obtain ⟨bk,bi,bt⟩:=b
 refine Ws 79 Tryz.func54 rfl rfl (nB rfl) (λ F=>?_)
 try simp only [cA,nA]
 refine Ts ?_
 refine TR ?_
 refine Le (zL [_,_,_] rfl rfl ?_)
 intro g4
 refine Le (zL [_,_,_] rfl rfl ?_)
 intro g5
 refine Le (El [.int .i64 0,.int .i64 0,.string .empty] (by unfold Zf;kernel_rfl) ?_)
 intro g6
 refine Ld ?_
 refine Ts ?_
 refine zW 12 none (nB rfl) ?_
 refine Rq 0 rfl Sa (Qf (off:=1) rfl) ?_
 refine Rq 1 rfl Sa (Ql rfl rfl) ?_
 refine Rq 2 rfl Sa (Qf (off:=1) rfl) ?_
 refine Rq 3 rfl Sa (Ql rfl rfl) ?_
 refine Rq 5 rfl Sa (Qf (off:=2) rfl) ?_
 refine Rq 6 rfl Sa (Ql rfl rfl) ?_
 refine Rq 7 rfl Sa (Qf (off:=2) rfl) ?_
 refine Rq 8 rfl Sa (Ql rfl rfl) ?_
 refine yK 4 ?_
 refine z6 rfl (Ec (Bd.compareI B ai bi) Tryz.func58 rfl rfl rfl ?_)
 rintro _ _ ⟨rfl,rfl⟩
 try simp only [cA,nA]
 refine ⟨Sa,?_⟩
 refine yK 9 ?_
 refine zY rfl (Ec (Bd.compareS B at0 bt) Tryz.func99 rfl rfl rfl ?_)
 rintro _ _ ⟨rfl,rfl⟩
 try simp only [cA,nA]
 refine yK 10 ?_
 refine zY rfl (ZC [_,_] (e:=3) rfl (by simp [Value.cells]) rfl ?_)
 intro g18
 refine yK 11 ?_
 refine zY rfl (Ec (Bd.or B g18 (cmpI ai bi) (cmpS at0 bt) 3) Tryz.func56 rfl rfl rfl ?_)
 rintro _ _ ⟨rfl,rfl⟩
 try simp only [cA,nA]
 refine Rd0 (by rfl) ?_
 simp only [dS,dZ,dN]
 refine La rfl ?_
 refine Ld ?_
 refine Ts ?_
 refine Ts ?_
 refine TR ?_
 refine Lm rfl ?_
 refine Ld ?_
 refine yH ?_
 refine Ts ?_
 refine TR ?_
 refine Lq (Z3 rfl rfl) ?_
 refine La rfl ?_
 refine Ld ?_
 refine yN rfl (λ h0=>?_) (λ h0=>?_)
 .
  refine Ts ?_
  refine TR ?_
  refine Lq (Qf (off:=1) rfl) ?_
  refine Lq (Ql rfl rfl) ?_
  refine Lq (yU rfl rfl) ?_
  refine Lm rfl ?_
  refine zZ (t:=26) rfl (λ g1=>?_) (λ g1=>?_)
  .
   try replace g1:=of_decide_eq_true g1
   refine Ls rfl ?_
   refine Ls rfl ?_
   refine Ls rfl ?_
   refine Lq (Qp rfl rfl) ?_
   refine Le (Ec (Bd.truth B true) Tryz.func52 rfl rfl rfl ?_)
   rintro _ _ ⟨rfl,rfl⟩
   try simp only [cA,nA]
   refine L0 (Es [_,_,_] rfl rfl rfl rfl (by simp) ?_)
   try simp only [splice,lC,lN,dS,cA,tS,tZ,dZ,nA,aN]
   refine Ld ?_
   refine T.ret ?_
   exact ⟨.inl rfl,_,_,res [_] rfl ⟨rvA [_,_,_] rfl ⟨rfl,rfl,rfl,trivial⟩,trivial⟩,⟨by unfold reckonT at h;rw [if_pos h0] at h;injection h with h;subst h;rw [show decide (ai=1)=true from decide_eq_true g1];rfl,rfl⟩,Sa⟩
  try replace g1:=of_decide_eq_false g1
  refine Lq (Qf (off:=1) rfl) ?_
  refine Lq (Ql rfl rfl) ?_
  refine Lq (yU rfl rfl) ?_
  refine Lq (Qp rfl rfl) ?_
  refine Le (Ec (Bd.truth B (decide (bi=1))) Tryz.func52 rfl rfl rfl ?_)
  rintro _ _ ⟨rfl,rfl⟩
  try simp only [cA,nA]
  refine L0 (Es [_,_,_] rfl rfl rfl rfl (by simp) ?_)
  try simp only [splice,lC,lN,dS,cA,tS,tZ,dZ,nA,aN]
  refine Ld ?_
  refine T.ret ?_
  exact ⟨.inl rfl,_,_,res [_] rfl ⟨rvA [_,_,_] rfl ⟨rfl,rfl,rfl,trivial⟩,trivial⟩,⟨by unfold reckonT at h;rw [if_pos h0] at h;injection h with h;subst h;rw [show decide (ai=1)=false from decide_eq_false g1];rfl,rfl⟩,Sa⟩
 refine Ts ?_
 refine TR ?_
 refine Lq (Z3 rfl rfl) ?_
 refine La rfl ?_
 refine Ld ?_
 refine yN rfl (λ h1=>?_) (λ h1=>?_)
 .
  refine Ts ?_
  refine TR ?_
  refine Lq (Qf (off:=1) rfl) ?_
  refine Lq (Ql rfl rfl) ?_
  refine Lq (yU rfl rfl) ?_
  refine Lm rfl ?_
  refine zZ (t:=37) rfl (λ g1=>?_) (λ g1=>?_)
  .
   try replace g1:=of_decide_eq_true g1
   refine Lq (Qf (off:=1) rfl) ?_
   refine Lq (Ql rfl rfl) ?_
   refine Lq (yU rfl rfl) ?_
   refine Lq (Qp rfl rfl) ?_
   refine Le (Ec (Bd.truth B (decide (bi=1))) Tryz.func52 rfl rfl rfl ?_)
   rintro _ _ ⟨rfl,rfl⟩
   try simp only [cA,nA]
   refine L0 (Es [_,_,_] rfl rfl rfl rfl (by simp) ?_)
   try simp only [splice,lC,lN,dS,cA,tS,tZ,dZ,nA,aN]
   refine Ld ?_
   refine T.ret ?_
   exact ⟨.inl rfl,_,_,res [_] rfl ⟨rvA [_,_,_] rfl ⟨rfl,rfl,rfl,trivial⟩,trivial⟩,⟨by unfold reckonT at h;rw [if_neg h0,if_pos h1] at h;injection h with h;subst h;rw [show decide (ai=1)=true from decide_eq_true g1];rfl,rfl⟩,Sa⟩
  try replace g1:=of_decide_eq_false g1
  refine Ls rfl ?_
  refine Ls rfl ?_
  refine Ls rfl ?_
  refine Lq (Qp rfl rfl) ?_
  refine Le (Ec (Bd.truth B false) Tryz.func52 rfl rfl rfl ?_)
  rintro _ _ ⟨rfl,rfl⟩
  try simp only [cA,nA]
  refine L0 (Es [_,_,_] rfl rfl rfl rfl (by simp) ?_)
  try simp only [splice,lC,lN,dS,cA,tS,tZ,dZ,nA,aN]
  refine Ld ?_
  refine T.ret ?_
  exact ⟨.inl rfl,_,_,res [_] rfl ⟨rvA [_,_,_] rfl ⟨rfl,rfl,rfl,trivial⟩,trivial⟩,⟨by unfold reckonT at h;rw [if_neg h0,if_pos h1] at h;injection h with h;subst h;rw [show decide (ai=1)=false from decide_eq_false g1];rfl,rfl⟩,Sa⟩
 refine Ts ?_
 refine TR ?_
 refine Lq (Z3 rfl rfl) ?_
 refine La rfl ?_
 refine Ld ?_
 refine yN rfl (λ h2=>?_) (λ h2=>?_)
 .
  refine Ts ?_
  refine TR ?_
  refine Lm rfl ?_
  refine Lq (yU rfl rfl) ?_
  refine Le (Ec (Bd.truth B (decide (ordV ⟨ak,ai,at0⟩ ⟨bk,bi,bt⟩=0))) Tryz.func52 rfl rfl rfl ?_)
  rintro _ _ ⟨rfl,rfl⟩
  try simp only [cA,nA]
  refine L0 (Es [_,_,_] rfl rfl rfl rfl (by simp) ?_)
  try simp only [splice,lC,lN,dS,cA,tS,tZ,dZ,nA,aN]
  refine Ld ?_
  refine T.ret ?_
  exact ⟨.inl rfl,_,_,res [_] rfl ⟨rvA [_,_,_] rfl ⟨rfl,rfl,rfl,trivial⟩,trivial⟩,⟨by unfold reckonT at h;rw [if_neg h0,if_neg h1,if_pos h2] at h;injection h with h;subst h;rfl,rfl⟩,Sa⟩
 refine Ts ?_
 refine TR ?_
 refine Lq (Z3 rfl rfl) ?_
 refine La rfl ?_
 refine Ld ?_
 refine yN rfl (λ h3=>?_) (λ h3=>?_)
 .
  refine Ts ?_
  refine TR ?_
  refine Lm rfl ?_
  refine Lq (yW rfl rfl) ?_
  refine Le (Ec (Bd.truth B (decide (ordV ⟨ak,ai,at0⟩ ⟨bk,bi,bt⟩≠0))) Tryz.func52 rfl rfl rfl ?_)
  rintro _ _ ⟨rfl,rfl⟩
  try simp only [cA,nA]
  refine L0 (Es [_,_,_] rfl rfl rfl rfl (by simp) ?_)
  try simp only [splice,lC,lN,dS,cA,tS,tZ,dZ,nA,aN]
  refine Ld ?_
  refine T.ret ?_
  exact ⟨.inl rfl,_,_,res [_] rfl ⟨rvA [_,_,_] rfl ⟨rfl,rfl,rfl,trivial⟩,trivial⟩,⟨by unfold reckonT at h;rw [if_neg h0,if_neg h1,if_neg h2,if_pos h3] at h;injection h with h;subst h;rfl,rfl⟩,Sa⟩
 refine Ts ?_
 refine TR ?_
 refine Lq (Z3 rfl rfl) ?_
 refine La rfl ?_
 refine Ld ?_
 refine yN rfl (λ h4=>?_) (λ h4=>?_)
 .
  refine Ts ?_
  refine TR ?_
  refine Lm rfl ?_
  refine Lq (YF rfl rfl) ?_
  refine Le (Ec (Bd.truth B (decide (ordV ⟨ak,ai,at0⟩ ⟨bk,bi,bt⟩<=0))) Tryz.func52 rfl rfl rfl ?_)
  rintro _ _ ⟨rfl,rfl⟩
  try simp only [cA,nA]
  refine L0 (Es [_,_,_] rfl rfl rfl rfl (by simp) ?_)
  try simp only [splice,lC,lN,dS,cA,tS,tZ,dZ,nA,aN]
  refine Ld ?_
  refine T.ret ?_
  exact ⟨.inl rfl,_,_,res [_] rfl ⟨rvA [_,_,_] rfl ⟨rfl,rfl,rfl,trivial⟩,trivial⟩,⟨by unfold reckonT at h;rw [if_neg h0,if_neg h1,if_neg h2,if_neg h3,if_pos h4] at h;injection h with h;subst h;rfl,rfl⟩,Sa⟩
 refine Ts ?_
 refine TR ?_
 refine Lq (Z3 rfl rfl) ?_
 refine La rfl ?_
 refine Ld ?_
 refine yN rfl (λ h5=>?_) (λ h5=>?_)
 .
  refine Ts ?_
  refine TR ?_
  refine Lm rfl ?_
  refine Lq (zX rfl rfl) ?_
  refine Le (Ec (Bd.truth B (decide (0<=ordV ⟨ak,ai,at0⟩ ⟨bk,bi,bt⟩))) Tryz.func52 rfl rfl rfl ?_)
  rintro _ _ ⟨rfl,rfl⟩
  try simp only [cA,nA]
  refine L0 (Es [_,_,_] rfl rfl rfl rfl (by simp) ?_)
  try simp only [splice,lC,lN,dS,cA,tS,tZ,dZ,nA,aN]
  refine Ld ?_
  refine T.ret ?_
  exact ⟨.inl rfl,_,_,res [_] rfl ⟨rvA [_,_,_] rfl ⟨rfl,rfl,rfl,trivial⟩,trivial⟩,⟨by unfold reckonT at h;rw [if_neg h0,if_neg h1,if_neg h2,if_neg h3,if_neg h4,if_pos h5] at h;injection h with h;subst h;rfl,rfl⟩,Sa⟩
 refine Ts ?_
 refine TR ?_
 refine Lq (Z3 rfl rfl) ?_
 refine La rfl ?_
 refine Ld ?_
 refine yN rfl (λ h6=>?_) (λ h6=>?_)
 .
  refine Ts ?_
  refine TR ?_
  refine Lm rfl ?_
  refine Lq (yM rfl rfl) ?_
  refine Le (Ec (Bd.truth B (decide (ordV ⟨ak,ai,at0⟩ ⟨bk,bi,bt⟩<0))) Tryz.func52 rfl rfl rfl ?_)
  rintro _ _ ⟨rfl,rfl⟩
  try simp only [cA,nA]
  refine L0 (Es [_,_,_] rfl rfl rfl rfl (by simp) ?_)
  try simp only [splice,lC,lN,dS,cA,tS,tZ,dZ,nA,aN]
  refine Ld ?_
  refine T.ret ?_
  exact ⟨.inl rfl,_,_,res [_] rfl ⟨rvA [_,_,_] rfl ⟨rfl,rfl,rfl,trivial⟩,trivial⟩,⟨by unfold reckonT at h;rw [if_neg h0,if_neg h1,if_neg h2,if_neg h3,if_neg h4,if_neg h5,if_pos h6] at h;injection h with h;subst h;rfl,rfl⟩,Sa⟩
 refine Ts ?_
 refine TR ?_
 refine Lq (Z3 rfl rfl) ?_
 refine La rfl ?_
 refine Ld ?_
 refine yN rfl (λ h7=>?_) (λ h7=>?_)
 .
  refine Ts ?_
  refine TR ?_
  refine Lm rfl ?_
  refine Lq (yZ rfl rfl) ?_
  refine Le (Ec (Bd.truth B (decide (0<ordV ⟨ak,ai,at0⟩ ⟨bk,bi,bt⟩))) Tryz.func52 rfl rfl rfl ?_)
  rintro _ _ ⟨rfl,rfl⟩
  try simp only [cA,nA]
  refine L0 (Es [_,_,_] rfl rfl rfl rfl (by simp) ?_)
  try simp only [splice,lC,lN,dS,cA,tS,tZ,dZ,nA,aN]
  refine Ld ?_
  refine T.ret ?_
  exact ⟨.inl rfl,_,_,res [_] rfl ⟨rvA [_,_,_] rfl ⟨rfl,rfl,rfl,trivial⟩,trivial⟩,⟨by unfold reckonT at h;rw [if_neg h0,if_neg h1,if_neg h2,if_neg h3,if_neg h4,if_neg h5,if_neg h6,if_pos h7] at h;injection h with h;subst h;rfl,rfl⟩,Sa⟩
 have h9:arithE op ai bi = .ok v:=by unfold reckonT at h;rw [if_neg h0,if_neg h1,if_neg h2,if_neg h3,if_neg h4,if_neg h5,if_neg h6,if_neg h7] at h;exact h
 refine Tk ?_
 refine Ts ?_
 refine TR ?_
 refine Lm rfl ?_
 refine Lq (Qf (off:=1) rfl) ?_
 refine Lq (Ql rfl rfl) ?_
 refine Lq (Qf (off:=1) rfl) ?_
 refine Lq (Ql rfl rfl) ?_
 refine Le (Ec (Bd.arithOk B op ai bi v h9) Tryz.func53 rfl rfl rfl ?_)
 rintro _ _ ⟨rfl,rfl⟩
 try simp only [cA,nA]
 refine L0 (Es [_,_,_] rfl rfl rfl rfl (by simp) ?_)
 try simp only [splice,lC,lN,dS,cA,tS,tZ,dZ,nA,aN]
 refine Ld ?_
 refine T.ret ?_
 exact ⟨.inl rfl,_,_,res [_] rfl ⟨rvA [_,_,_] rfl ⟨rfl,rfl,rfl,trivial⟩,trivial⟩,⟨rfl,rfl⟩,Sa⟩
theorem Bd.reckonBad (B:Wn) (op:Str) (a b:Va) (code:Int) (h:reckonT op a b = .error code):Fx Tryz.prog B 54 #[tV op,vA a,vA b] [] (pvC code):=by
  have hn : ¬ op=[79,82] /\ ¬ op=[65,78,68] /\ ¬ op=[61] /\ ¬ op=[60,62] /\ ¬ op=[60,61] /\ ¬ op=[62,61] /\ ¬ op=[60] /\ ¬ op=[62]/\arithE op a.int b.int = .error code:=by
    unfold reckonT at h
    split at h
    . cases h
    split at h
    . cases h
    split at h
    . cases h
    split at h
    . cases h
    split at h
    . cases h
    split at h
    . cases h
    split at h
    . cases h
    split at h
    . cases h
    rename_i h0 h1 h2 h3 h4 h5 h6 h7
    exact ⟨h0,h1,h2,h3,h4,h5,h6,h7,h⟩
  obtain ⟨h0,h1,h2,h3,h4,h5,h6,h7,h9⟩:=hn
  obtain ⟨ak,ai,at0⟩:=a
  obtain ⟨bk,bi,bt⟩:=b
  refine Fx.enter3 79 Tryz.func54 rfl rfl (nB rfl) (λ F=>?_)
  try simp only [cA,nA]
  refine Ts ?_
  refine TR ?_
  refine Le (zL [_,_,_] rfl rfl ?_)
  intro g4
  refine Le (zL [_,_,_] rfl rfl ?_)
  intro g5
  refine Le (El [.int .i64 0,.int .i64 0,.string .empty] (by unfold Zf;kernel_rfl) ?_)
  intro g6
  refine Ld ?_
  refine Ts ?_
  refine zW 12 none (nB rfl) ?_
  refine Rq 0 rfl Sa (Qf (off:=1) rfl) ?_
  refine Rq 1 rfl Sa (Ql rfl rfl) ?_
  refine Rq 2 rfl Sa (Qf (off:=1) rfl) ?_
  refine Rq 3 rfl Sa (Ql rfl rfl) ?_
  refine Rq 5 rfl Sa (Qf (off:=2) rfl) ?_
  refine Rq 6 rfl Sa (Ql rfl rfl) ?_
  refine Rq 7 rfl Sa (Qf (off:=2) rfl) ?_
  refine Rq 8 rfl Sa (Ql rfl rfl) ?_
  refine yK 4 ?_
  refine z6 rfl (Ec (Bd.compareI B ai bi) Tryz.func58 rfl rfl rfl ?_)
  rintro _ _ ⟨rfl,rfl⟩
  try simp only [cA,nA]
  refine ⟨Sa,?_⟩
  refine yK 9 ?_
  refine zY rfl (Ec (Bd.compareS B at0 bt) Tryz.func99 rfl rfl rfl ?_)
  rintro _ _ ⟨rfl,rfl⟩
  try simp only [cA,nA]
  refine yK 10 ?_
  refine zY rfl (ZC [_,_] (e:=3) rfl (by simp [Value.cells]) rfl ?_)
  intro g18
  refine yK 11 ?_
  refine zY rfl (Ec (Bd.or B g18 (cmpI ai bi) (cmpS at0 bt) 3) Tryz.func56 rfl rfl rfl ?_)
  rintro _ _ ⟨rfl,rfl⟩
  try simp only [cA,nA]
  refine Rd0 (by rfl) ?_
  simp only [dS,dZ,dN]
  refine La rfl ?_
  refine Ld ?_
  refine Ts ?_
  refine Ts ?_
  refine TR ?_
  refine Lm rfl ?_
  refine Ld ?_
  refine yH ?_
  refine Ts ?_
  refine TR ?_
  refine Lq (Z3 rfl rfl) ?_
  refine La rfl ?_
  refine Ld ?_
  refine yL rfl ((h0)) ?_
  refine Ts ?_
  refine TR ?_
  refine Lq (Z3 rfl rfl) ?_
  refine La rfl ?_
  refine Ld ?_
  refine yL rfl ((h1)) ?_
  refine Ts ?_
  refine TR ?_
  refine Lq (Z3 rfl rfl) ?_
  refine La rfl ?_
  refine Ld ?_
  refine yL rfl ((h2)) ?_
  refine Ts ?_
  refine TR ?_
  refine Lq (Z3 rfl rfl) ?_
  refine La rfl ?_
  refine Ld ?_
  refine yL rfl ((h3)) ?_
  refine Ts ?_
  refine TR ?_
  refine Lq (Z3 rfl rfl) ?_
  refine La rfl ?_
  refine Ld ?_
  refine yL rfl ((h4)) ?_
  refine Ts ?_
  refine TR ?_
  refine Lq (Z3 rfl rfl) ?_
  refine La rfl ?_
  refine Ld ?_
  refine yL rfl ((h5)) ?_
  refine Ts ?_
  refine TR ?_
  refine Lq (Z3 rfl rfl) ?_
  refine La rfl ?_
  refine Ld ?_
  refine yL rfl ((h6)) ?_
  refine Ts ?_
  refine TR ?_
  refine Lq (Z3 rfl rfl) ?_
  refine La rfl ?_
  refine Ld ?_
  refine yL rfl ((h7)) ?_
  refine Tk ?_
  refine Ts ?_
  refine TR ?_
  refine Lm rfl ?_
  refine Lq (Qf (off:=1) rfl) ?_
  refine Lq (Ql rfl rfl) ?_
  refine Lq (Qf (off:=1) rfl) ?_
  refine Lq (Ql rfl rfl) ?_
  refine LW.dies (Dx.call (Bd.arithBad B op ai bi code h9) Tryz.func53 rfl rfl rfl) ?_
  refine ⟨rfl,?_⟩
  try simp only [cA,nA]
  exact Sa
open Go.RowKit
abbrev sVal : Str:=[118,97,108,117,101]
abbrev sCol : Str:=[99,111,108,117,109,110]
abbrev sNot : Str:=[78,79,84]
abbrev sAnd : Str:=[65,78,68]
def colT (row:List Va) (k p:Int):Except Int Va :=
  if p<0 then .error 161
  else if (row.length:Int)<=p then .error 161
  else match row[p.toNat]? with
    | none => .error 161
    | some v=>if v.kind≠k then .error 161 else .ok v
def evalT (row:List Va):Tm->Except Int Va
  | .mk op k v p args =>
    if op=sVal then .ok v
    else if op=sCol then colT row k p
    else match args with
      | [] => .error 0
      | [t]=>match evalT row t with
        | .error c => .error c
        | .ok a=>if op=sNot then .ok (truthV (decide (a.int=0))) else arithE [45] 0 a.int
      | t::u::_=>match evalT row t with
        | .error c => .error c
        | .ok a=>match evalT row u with
          | .error c => .error c
          | .ok b=>reckonT op a b
inductive TmOk : Tm->Prop
  | val (k:Int) (v:Va) (p:Int):TmOk (.mk sVal k v p [])
  | col (k:Int) (v:Va) (p:Int):TmOk (.mk sCol k v p [])
  | one (op:Str) (k:Int) (v:Va) (p:Int) (t:Tm) (h1:op≠sVal) (h2:op≠sCol) (h3:op≠sAnd) (ht:TmOk t):TmOk (.mk op k v p [t])
  | two (op:Str) (k:Int) (v:Va) (p:Int) (t u:Tm) (h1:op≠sVal) (h2:op≠sCol) (h3:op≠sNot) (ht:TmOk t) (hu:TmOk u):TmOk (.mk op k v p [t,u])
theorem TmV.inv {B:Wn} {S:List Wp} {op:Str} {k:Int} {v:Va} {p:Int} {args:List Tm} {c:C7} (h:TmV B S (.mk op k v p args) c) : ∃ pa ca css,c=⟨tV op,iV k,iV v.kind,iV v.int,tV v.text,iV p,.slice pa args.length ca⟩/\FlV B S c7 (.slice pa args.length ca) css/\css.length=args.length /\ ∀ (i:Nat) (t:Tm) (c:C7),args[i]? = some t->css[i]? = some c->TmV B S t c:=by
  cases h with
  | mk op k v p args av css hf hl hb hc =>
    obtain ⟨a,cap,rfl⟩:=hf.form hl
    exact ⟨a,cap,css,rfl,hf,hl,hc⟩
section
variable {B : Wn} {S:List Wp} {op vt:Str} {k vk vi p:Int} {pa ra:Option Addr} {na ca m rc:Nat} {row:List Va}
abbrev tmA (op:Str) (k vk vi:Int) (vt:Str) (p:Int) (pa:Option Addr) (na ca:Nat):Value := .agg #[tV op,iV k,iV vk,iV vi,tV vt,iV p,.slice pa na ca]
theorem Bd.evVal (h:op=sVal):Fn Tryz.prog B 26 #[tmA op k vk vi vt p pa na ca,.slice ra m rc] S (λ u l=>u=vA ⟨vk,vi,vt⟩/\l=S):=by
  refine Wr 86 Tryz.func26 rfl rfl (nB rfl) (λ F=>?_)
  refine Ts ?_
  refine TR ?_
  refine Le (zL [_,_,_,_,_,_,_] rfl rfl ?_)
  intro g2
  refine Le (El [.int .i64 0,.int .i64 0,.string .empty] (by unfold Zf;kernel_rfl) ?_)
  intro g4
  refine Ld ?_
  refine Ts ?_
  refine yH ?_
  refine Ts ?_
  refine TR ?_
  refine Lq (Q0 rfl) ?_
  refine Lq (Ql rfl rfl) ?_
  refine Lq (Z3 rfl rfl) ?_
  refine La rfl ?_
  refine Ld ?_
  refine zM rfl (h) ?_
  refine Ts ?_
  refine TR ?_
  refine Lq (Qf (off:=2) rfl) ?_
  refine Lq (QL [_,_,_] rfl ⟨rfl,rfl,rfl,trivial⟩) ?_
  refine L0 (Es [_,_,_] rfl rfl rfl rfl (by simp) ?_)
  try simp only [splice,lC,lN,dS,cA,tS,tZ,dZ,nA,aN]
  refine Ld ?_
  refine T.ret ?_
  exact ⟨.inl rfl,_,_,res [_] rfl ⟨rvA [_,_,_] rfl ⟨rfl,rfl,rfl,trivial⟩,trivial⟩,⟨rfl,rfl⟩,Sa⟩
theorem Bd.evCol (h0:op≠sVal) (h:op=sCol) (hrow:FlV B S vaC (.slice ra m rc) row) (hm:row.length=m) (hmn:m<2^32) {v:Va} (he:colT row k p = .ok v):Fn Tryz.prog B 26 #[tmA op k vk vi vt p pa na ca,.slice ra m rc] S (λ u l=>u=vA v/\l=S):=by
  refine Wr 86 Tryz.func26 rfl rfl (nB rfl) (λ F=>?_)
  refine Ts ?_
  refine TR ?_
  refine Le (zL [_,_,_,_,_,_,_] rfl rfl ?_)
  intro g2
  refine Le (El [.int .i64 0,.int .i64 0,.string .empty] (by unfold Zf;kernel_rfl) ?_)
  intro g4
  refine Ld ?_
  refine Ts ?_
  refine yH ?_
  refine Ts ?_
  refine TR ?_
  refine Lq (Q0 rfl) ?_
  refine Lq (Ql rfl rfl) ?_
  refine Lq (Z3 rfl rfl) ?_
  refine La rfl ?_
  refine Ld ?_
  have hv1:0<=p/\p<(m:Int) /\ ∃ v0,row[p.toNat]? = some v0/\v0.kind=k/\v0=v:=by
    unfold colT at he
    rw [hm] at he
    split at he
    . cases he
    . split at he
      . cases he
      . split at he
        . cases he
        . rename_i v0 hv0
          split at he
          . cases he
          . rename_i hk
            injection he with he
            exact ⟨by omega,by omega,v0,hv0,Classical.not_not.1 hk,he⟩
  obtain ⟨p0,p1,v0,hv0,hvk,rfl⟩:=hv1
  obtain ⟨j,hj⟩ : ∃ j:Nat,p=(j:Int):=⟨p.toNat,by omega⟩
  subst hj
  obtain ⟨b,o,rfl,hr⟩:=hrow.at (sz:=3) (λ _=>rfl) (by omega)
  have hr0:=hr j v0 (by simpa using hv0)
  refine yL rfl (h0) ?_
  refine Ts ?_
  refine TR ?_
  refine Lq (Q0 rfl) ?_
  refine Lq (Ql rfl rfl) ?_
  refine Lq (Z3 rfl rfl) ?_
  refine La rfl ?_
  refine Ld ?_
  refine zM rfl (h) ?_
  refine Ts ?_
  refine Ts ?_
  refine zU 21 (nB rfl) ?_
  refine Rq 0 rfl (Sr _) (Qf (off:=5) rfl) ?_
  refine Rq 1 rfl (Sr _) (Ql rfl rfl) ?_
  refine Rq 2 rfl (Sr _) (yM rfl rfl) ?_
  refine Rq 3 rfl (Sr _) (Qm rfl) ?_
  refine ZD (t:=19) rfl rfl ?_
  refine Rq 4 rfl (Sr _) (Qf (off:=5) rfl) ?_
  refine Rq 5 rfl (Sr _) (Ql rfl rfl) ?_
  refine Rq 6 rfl (Sr _) (Qm rfl) ?_
  refine Rq 7 rfl (Sr _) (yI (e:=24) (sz:=3) rfl) ?_
  refine Rq 8 rfl (Sr _) (zX rfl rfl) ?_
  refine Rq 9 rfl (Sr _) (Qp rfl rfl) ?_
  refine Rq 10 rfl (Sr _) (Qm rfl) ?_
  refine ZD (t:=26) rfl (decide_eq_false ((by omega))) ?_
  refine Rq 11 rfl (Sr _) (Qm rfl) ?_
  refine Rq 12 rfl (Sr _) (Qf (off:=5) rfl) ?_
  refine Rq 13 rfl (Sr _) (Ql rfl rfl) ?_
  refine Rq 14 rfl (Sr _) (Qi _ (e:=24) (sz:=3) rfl rfl rfl) ?_
  refine Rq 15 rfl (Sr _) (Q0 rfl) ?_
  refine Rq 16 rfl (Sr _) (zN rfl (λ w ho=>rangeAt_one (j:=0) (hr0 w (ho.map Sa)) rfl)) ?_
  refine Rq 17 rfl (Sr _) (Qf (off:=1) rfl) ?_
  refine Rq 18 rfl (Sr _) (Ql rfl rfl) ?_
  refine Rq 19 rfl (Sr _) (yW rfl rfl) ?_
  refine Rq 20 rfl (Sr _) (Qp rfl rfl) ?_
  refine Rd0 (by rfl) ?_
  simp only [dS,dZ,dN]
  refine Ld ?_
  refine yL rfl ((by rw [hvk];simp)) ?_
  refine Tk ?_
  refine Ts ?_
  refine TR ?_
  refine Lm rfl ?_
  refine Lq (Qf (off:=5) rfl) ?_
  refine Lq (Ql rfl rfl) ?_
  refine Lq (Qi _ (e:=24) (sz:=3) rfl rfl rfl) ?_
  refine Lq (Qt.loadAggW (vaC v0) rfl (λ w ho=>hr0 w (ho.map Sa))) ?_
  refine L0 (Es [_,_,_] rfl rfl rfl rfl (by simp) ?_)
  try simp only [splice,lC,lN,dS,cA,tS,tZ,dZ,nA,aN]
  refine Ld ?_
  refine T.ret ?_
  exact ⟨.inl rfl,_,_,res [_] rfl ⟨rvA [_,_,_] rfl ⟨rfl,rfl,rfl,trivial⟩,trivial⟩,⟨rfl,rfl⟩,Sa⟩
theorem Bd.evColX (h0:op≠sVal) (h:op=sCol) (hrow:FlV B S vaC (.slice ra m rc) row) (hm:row.length=m) (hmn:m<2^32) {code:Int} (he:colT row k p = .error code):Fx Tryz.prog B 26 #[tmA op k vk vi vt p pa na ca,.slice ra m rc] S (pvC code):=by
  have hcd:code=161:=by
    unfold colT at he
    split at he
    . injection he with he;exact he.symm
    . split at he
      . injection he with he;exact he.symm
      . split at he
        . injection he with he;exact he.symm
        . split at he
          . injection he with he;exact he.symm
          . cases he
  subst hcd
  refine Fx.enter2 86 Tryz.func26 rfl rfl (nB rfl) (λ F=>?_)
  refine Ts ?_
  refine TR ?_
  refine Le (zL [_,_,_,_,_,_,_] rfl rfl ?_)
  intro g2
  refine Le (El [.int .i64 0,.int .i64 0,.string .empty] (by unfold Zf;kernel_rfl) ?_)
  intro g4
  refine Ld ?_
  refine Ts ?_
  refine yH ?_
  refine Ts ?_
  refine TR ?_
  refine Lq (Q0 rfl) ?_
  refine Lq (Ql rfl rfl) ?_
  refine Lq (Z3 rfl rfl) ?_
  refine La rfl ?_
  refine Ld ?_
  refine yL rfl (h0) ?_
  refine Ts ?_
  refine TR ?_
  refine Lq (Q0 rfl) ?_
  refine Lq (Ql rfl rfl) ?_
  refine Lq (Z3 rfl rfl) ?_
  refine La rfl ?_
  refine Ld ?_
  refine zM rfl (h) ?_
  refine Ts ?_
  refine Ts ?_
  refine zU 21 (nB rfl) ?_
  refine Rq 0 rfl (Sr _) (Qf (off:=5) rfl) ?_
  refine Rq 1 rfl (Sr _) (Ql rfl rfl) ?_
  refine Rq 2 rfl (Sr _) (yM rfl rfl) ?_
  refine Rq 3 rfl (Sr _) (Qm rfl) ?_
  refine YE (t:=19) rfl (λ g1=>?_) (λ g1=>?_)
  . skip
    try replace g1:=of_decide_eq_true g1
    refine yY 4 rfl (Sr _) ?_
    refine yY 5 rfl (Sr _) ?_
    refine yY 6 rfl (Sr _) ?_
    refine yY 7 rfl (Sr _) ?_
    refine yY 8 rfl (Sr _) ?_
    refine Rq 9 rfl (Sr _) (Qp rfl rfl) ?_
    refine Rq 10 rfl (Sr _) (Qm rfl) ?_
    refine YY (t:=26) rfl rfl ?_
    refine yY 11 rfl (Sr _) ?_
    refine yY 12 rfl (Sr _) ?_
    refine yY 13 rfl (Sr _) ?_
    refine yY 14 rfl (Sr _) ?_
    refine yY 15 rfl (Sr _) ?_
    refine yY 16 rfl (Sr _) ?_
    refine yY 17 rfl (Sr _) ?_
    refine yY 18 rfl (Sr _) ?_
    refine yY 19 rfl (Sr _) ?_
    refine Rq 20 rfl (Sr _) (Qp rfl rfl) ?_
    refine Rd0 (by rfl) ?_
    simp only [dS,dZ,dN]
    refine Ld ?_
    refine zF rfl ?_
    refine TR ?_
    refine Lq (z8 [(0,1)] [.int .i64 0] [_] [(0,_)] (by unfold Zf;kernel_rfl) rfl rfl) ?_
    refine Lq (ZF rfl) ?_
    refine LW.dies (Dx.pan rfl) ?_
    exact ⟨rfl,Sa⟩
  try replace g1:=of_decide_eq_false g1
  refine Rq 4 rfl (Sr _) (Qf (off:=5) rfl) ?_
  refine Rq 5 rfl (Sr _) (Ql rfl rfl) ?_
  refine Rq 6 rfl (Sr _) (Qm rfl) ?_
  refine Rq 7 rfl (Sr _) (yI (e:=24) (sz:=3) rfl) ?_
  refine Rq 8 rfl (Sr _) (zX rfl rfl) ?_
  refine Rq 9 rfl (Sr _) (Qp rfl rfl) ?_
  refine Rq 10 rfl (Sr _) (Qm rfl) ?_
  refine YE (t:=26) rfl (λ g2=>?_) (λ g2=>?_)
  . skip
    try replace g2:=of_decide_eq_true g2
    refine yY 11 rfl (Sr _) ?_
    refine yY 12 rfl (Sr _) ?_
    refine yY 13 rfl (Sr _) ?_
    refine yY 14 rfl (Sr _) ?_
    refine yY 15 rfl (Sr _) ?_
    refine yY 16 rfl (Sr _) ?_
    refine yY 17 rfl (Sr _) ?_
    refine yY 18 rfl (Sr _) ?_
    refine yY 19 rfl (Sr _) ?_
    refine Rq 20 rfl (Sr _) (Qp rfl rfl) ?_
    refine Rd0 (by rfl) ?_
    simp only [dS,dZ,dN]
    refine Ld ?_
    refine zF rfl ?_
    refine TR ?_
    refine Lq (z8 [(0,1)] [.int .i64 0] [_] [(0,_)] (by unfold Zf;kernel_rfl) rfl rfl) ?_
    refine Lq (ZF rfl) ?_
    refine LW.dies (Dx.pan rfl) ?_
    exact ⟨rfl,Sa⟩
  try replace g2:=of_decide_eq_false g2
  obtain ⟨j,hj⟩ : ∃ j:Nat,p=(j:Int):=⟨p.toNat,by omega⟩
  subst hj
  obtain ⟨b,o,rfl,hr⟩:=hrow.at (sz:=3) (λ _=>rfl) (by omega)
  obtain ⟨v0,hv0⟩ : ∃ v0,row[j]? = some v0:=⟨_,List.getElem?_eq_getElem (by omega)⟩
  have hr0:=hr j v0 hv0
  have hk:v0.kind≠k:=by
    unfold colT at he
    rw [hm,if_neg g1,if_neg (by omega),Int.toNat_natCast,hv0] at he
    simp only at he
    split at he
    . assumption
    . cases he
  refine Rq 11 rfl (Sr _) (Qm rfl) ?_
  refine Rq 12 rfl (Sr _) (Qf (off:=5) rfl) ?_
  refine Rq 13 rfl (Sr _) (Ql rfl rfl) ?_
  refine Rq 14 rfl (Sr _) (Qi _ (e:=24) (sz:=3) rfl rfl rfl) ?_
  refine Rq 15 rfl (Sr _) (Q0 rfl) ?_
  refine Rq 16 rfl (Sr _) (zN rfl (λ w ho=>rangeAt_one (j:=0) (hr0 w (ho.map Sa)) rfl)) ?_
  refine Rq 17 rfl (Sr _) (Qf (off:=1) rfl) ?_
  refine Rq 18 rfl (Sr _) (Ql rfl rfl) ?_
  refine Rq 19 rfl (Sr _) (yW rfl rfl) ?_
  refine Rq 20 rfl (Sr _) (Qp rfl rfl) ?_
  refine Rd0 (by rfl) ?_
  simp only [dS,dZ,dN]
  refine Ld ?_
  refine zM rfl (hk) ?_
  refine TR ?_
  refine Lq (z8 [(0,1)] [.int .i64 0] [_] [(0,_)] (by unfold Zf;kernel_rfl) rfl rfl) ?_
  refine Lq (ZF rfl) ?_
  refine LW.dies (Dx.pan rfl) ?_
  exact ⟨rfl,Sa⟩
theorem Bd.evNot (h1:op≠sVal) (h2:op≠sCol) {b o:Nat} {c0:C7} (hpa:pa=some ⟨b,o,none⟩) (hr0 : ∀ w,Own B w S->w.rangeAt b (o+0*7) (c7 c0)) (hn:0<na) (h3:op=sNot) {v0:Va} (hc0:Fn Tryz.prog B 26 #[tA c0,.slice ra m rc] S (λ u l=>u=vA v0/\l=S)):Fn Tryz.prog B 26 #[tmA op k vk vi vt p pa na ca,.slice ra m rc] S (λ u l=>u=vA (truthV (decide (v0.int=0)))/\l=S):=by
  subst hpa
  refine Wr 86 Tryz.func26 rfl rfl (nB rfl) (λ F=>?_)
  refine Ts ?_
  refine TR ?_
  refine Le (zL [_,_,_,_,_,_,_] rfl rfl ?_)
  intro g2
  refine Le (El [.int .i64 0,.int .i64 0,.string .empty] (by unfold Zf;kernel_rfl) ?_)
  intro g4
  refine Ld ?_
  refine Ts ?_
  refine yH ?_
  refine Ts ?_
  refine TR ?_
  refine Lq (Q0 rfl) ?_
  refine Lq (Ql rfl rfl) ?_
  refine Lq (Z3 rfl rfl) ?_
  refine La rfl ?_
  refine Ld ?_
  refine yL rfl (h1) ?_
  refine Ts ?_
  refine TR ?_
  refine Lq (Q0 rfl) ?_
  refine Lq (Ql rfl rfl) ?_
  refine Lq (Z3 rfl rfl) ?_
  refine La rfl ?_
  refine Ld ?_
  refine yL rfl (h2) ?_
  refine Ts ?_
  refine TR ?_
  refine Lq (Q0 rfl) ?_
  refine Lq (Ql rfl rfl) ?_
  refine Lq (Z3 rfl rfl) ?_
  refine La rfl ?_
  refine Ld ?_
  refine zM rfl (h3) ?_
  refine Ts ?_
  refine TR ?_
  refine Lq (Qf (off:=6) rfl) ?_
  refine Lq (Ql rfl rfl) ?_
  refine Lq (Qi 0 (e:=27) (sz:=7) rfl rfl rfl) ?_
  refine Lq (Qt.loadAggW (c7 c0) rfl (λ w ho=>hr0 w (ho.map Sa))) ?_
  refine Lm rfl ?_
  refine Le (Ec (hc0) Tryz.func26 rfl rfl rfl ?_)
  rintro _ _ ⟨rfl,rfl⟩
  refine Lq (Qt.field 1 (by kernel_rfl) rfl rfl) ?_
  refine Lq (yU rfl rfl) ?_
  refine Le (Ec (Bd.truth B (decide (v0.int=0))) Tryz.func52 rfl rfl rfl ?_)
  rintro _ _ ⟨rfl,rfl⟩
  try simp only [cA,nA]
  refine L0 (Es [_,_,_] rfl rfl rfl rfl (by simp) ?_)
  try simp only [splice,lC,lN,dS,cA,tS,tZ,dZ,nA,aN]
  refine Ld ?_
  refine T.ret ?_
  exact ⟨.inl rfl,_,_,res [_] rfl ⟨rvA [_,_,_] rfl ⟨rfl,rfl,rfl,trivial⟩,trivial⟩,⟨rfl,rfl⟩,Sa⟩
theorem Bd.evNotX (h1:op≠sVal) (h2:op≠sCol) {b o:Nat} {c0:C7} (hpa:pa=some ⟨b,o,none⟩) (hr0 : ∀ w,Own B w S->w.rangeAt b (o+0*7) (c7 c0)) (hn:0<na) (h3:op=sNot) {code:Int} (hc0:Fx Tryz.prog B 26 #[tA c0,.slice ra m rc] S (pvC code)):Fx Tryz.prog B 26 #[tmA op k vk vi vt p pa na ca,.slice ra m rc] S (pvC code):=by
  subst hpa
  refine Fx.enter2 86 Tryz.func26 rfl rfl (nB rfl) (λ F=>?_)
  refine Ts ?_
  refine TR ?_
  refine Le (zL [_,_,_,_,_,_,_] rfl rfl ?_)
  intro g2
  refine Le (El [.int .i64 0,.int .i64 0,.string .empty] (by unfold Zf;kernel_rfl) ?_)
  intro g4
  refine Ld ?_
  refine Ts ?_
  refine yH ?_
  refine Ts ?_
  refine TR ?_
  refine Lq (Q0 rfl) ?_
  refine Lq (Ql rfl rfl) ?_
  refine Lq (Z3 rfl rfl) ?_
  refine La rfl ?_
  refine Ld ?_
  refine yL rfl (h1) ?_
  refine Ts ?_
  refine TR ?_
  refine Lq (Q0 rfl) ?_
  refine Lq (Ql rfl rfl) ?_
  refine Lq (Z3 rfl rfl) ?_
  refine La rfl ?_
  refine Ld ?_
  refine yL rfl (h2) ?_
  refine Ts ?_
  refine TR ?_
  refine Lq (Q0 rfl) ?_
  refine Lq (Ql rfl rfl) ?_
  refine Lq (Z3 rfl rfl) ?_
  refine La rfl ?_
  refine Ld ?_
  refine zM rfl (h3) ?_
  refine Ts ?_
  refine TR ?_
  refine Lq (Qf (off:=6) rfl) ?_
  refine Lq (Ql rfl rfl) ?_
  refine Lq (Qi 0 (e:=27) (sz:=7) rfl rfl rfl) ?_
  refine Lq (Qt.loadAggW (c7 c0) rfl (λ w ho=>hr0 w (ho.map Sa))) ?_
  refine Lm rfl ?_
  refine LW.dies (Dx.call (hc0) Tryz.func26 rfl rfl rfl) ?_
  refine ⟨rfl,?_⟩
  exact Sa
theorem Bd.evNeg (h1:op≠sVal) (h2:op≠sCol) {b o:Nat} {c0:C7} (hpa:pa=some ⟨b,o,none⟩) (hr0 : ∀ w,Own B w S->w.rangeAt b (o+0*7) (c7 c0)) (hn:na=1) (h3:op≠sNot) {v0:Va} (hc0:Fn Tryz.prog B 26 #[tA c0,.slice ra m rc] S (λ u l=>u=vA v0/\l=S)) {v:Va} (he:arithE [45] 0 v0.int = .ok v):Fn Tryz.prog B 26 #[tmA op k vk vi vt p pa na ca,.slice ra m rc] S (λ u l=>u=vA v/\l=S):=by
  subst hpa
  subst hn
  refine Wr 86 Tryz.func26 rfl rfl (nB rfl) (λ F=>?_)
  refine Ts ?_
  refine TR ?_
  refine Le (zL [_,_,_,_,_,_,_] rfl rfl ?_)
  intro g2
  refine Le (El [.int .i64 0,.int .i64 0,.string .empty] (by unfold Zf;kernel_rfl) ?_)
  intro g4
  refine Ld ?_
  refine Ts ?_
  refine yH ?_
  refine Ts ?_
  refine TR ?_
  refine Lq (Q0 rfl) ?_
  refine Lq (Ql rfl rfl) ?_
  refine Lq (Z3 rfl rfl) ?_
  refine La rfl ?_
  refine Ld ?_
  refine yL rfl (h1) ?_
  refine Ts ?_
  refine TR ?_
  refine Lq (Q0 rfl) ?_
  refine Lq (Ql rfl rfl) ?_
  refine Lq (Z3 rfl rfl) ?_
  refine La rfl ?_
  refine Ld ?_
  refine yL rfl (h2) ?_
  refine Ts ?_
  refine TR ?_
  refine Lq (Q0 rfl) ?_
  refine Lq (Ql rfl rfl) ?_
  refine Lq (Z3 rfl rfl) ?_
  refine La rfl ?_
  refine Ld ?_
  refine yL rfl (h3) ?_
  refine Ts ?_
  refine TR ?_
  refine Lq (Qf (off:=6) rfl) ?_
  refine Lq (Ql rfl rfl) ?_
  refine Lq (yI (e:=27) (sz:=7) rfl) ?_
  refine Lq (yU rfl rfl) ?_
  refine La rfl ?_
  refine Ld ?_
  refine zF rfl ?_
  refine Ts ?_
  refine TR ?_
  refine Lq (Qf (off:=6) rfl) ?_
  refine Lq (Ql rfl rfl) ?_
  refine Lq (Qi 0 (e:=27) (sz:=7) rfl rfl rfl) ?_
  refine Lq (Qt.loadAggW (c7 c0) rfl (λ w ho=>hr0 w (ho.map Sa))) ?_
  refine Lm rfl ?_
  refine Le (Ec (hc0) Tryz.func26 rfl rfl rfl ?_)
  rintro _ _ ⟨rfl,rfl⟩
  refine Lq (Qt.field 1 (by kernel_rfl) rfl rfl) ?_
  refine Le (Ec (Bd.arithOk B [45] 0 v0.int v he) Tryz.func53 rfl rfl rfl ?_)
  rintro _ _ ⟨rfl,rfl⟩
  try simp only [cA,nA]
  refine L0 (Es [_,_,_] rfl rfl rfl rfl (by simp) ?_)
  try simp only [splice,lC,lN,dS,cA,tS,tZ,dZ,nA,aN]
  refine Ld ?_
  refine T.ret ?_
  exact ⟨.inl rfl,_,_,res [_] rfl ⟨rvA [_,_,_] rfl ⟨rfl,rfl,rfl,trivial⟩,trivial⟩,⟨rfl,rfl⟩,Sa⟩
theorem Bd.evNegX (h1:op≠sVal) (h2:op≠sCol) {b o:Nat} {c0:C7} (hpa:pa=some ⟨b,o,none⟩) (hr0 : ∀ w,Own B w S->w.rangeAt b (o+0*7) (c7 c0)) (hn:na=1) (h3:op≠sNot) {code:Int} (hc0:Fx Tryz.prog B 26 #[tA c0,.slice ra m rc] S (pvC code)):Fx Tryz.prog B 26 #[tmA op k vk vi vt p pa na ca,.slice ra m rc] S (pvC code):=by
  subst hpa
  subst hn
  refine Fx.enter2 86 Tryz.func26 rfl rfl (nB rfl) (λ F=>?_)
  refine Ts ?_
  refine TR ?_
  refine Le (zL [_,_,_,_,_,_,_] rfl rfl ?_)
  intro g2
  refine Le (El [.int .i64 0,.int .i64 0,.string .empty] (by unfold Zf;kernel_rfl) ?_)
  intro g4
  refine Ld ?_
  refine Ts ?_
  refine yH ?_
  refine Ts ?_
  refine TR ?_
  refine Lq (Q0 rfl) ?_
  refine Lq (Ql rfl rfl) ?_
  refine Lq (Z3 rfl rfl) ?_
  refine La rfl ?_
  refine Ld ?_
  refine yL rfl (h1) ?_
  refine Ts ?_
  refine TR ?_
  refine Lq (Q0 rfl) ?_
  refine Lq (Ql rfl rfl) ?_
  refine Lq (Z3 rfl rfl) ?_
  refine La rfl ?_
  refine Ld ?_
  refine yL rfl (h2) ?_
  refine Ts ?_
  refine TR ?_
  refine Lq (Q0 rfl) ?_
  refine Lq (Ql rfl rfl) ?_
  refine Lq (Z3 rfl rfl) ?_
  refine La rfl ?_
  refine Ld ?_
  refine yL rfl (h3) ?_
  refine Ts ?_
  refine TR ?_
  refine Lq (Qf (off:=6) rfl) ?_
  refine Lq (Ql rfl rfl) ?_
  refine Lq (yI (e:=27) (sz:=7) rfl) ?_
  refine Lq (yU rfl rfl) ?_
  refine La rfl ?_
  refine Ld ?_
  refine zF rfl ?_
  refine Ts ?_
  refine TR ?_
  refine Lq (Qf (off:=6) rfl) ?_
  refine Lq (Ql rfl rfl) ?_
  refine Lq (Qi 0 (e:=27) (sz:=7) rfl rfl rfl) ?_
  refine Lq (Qt.loadAggW (c7 c0) rfl (λ w ho=>hr0 w (ho.map Sa))) ?_
  refine Lm rfl ?_
  refine LW.dies (Dx.call (hc0) Tryz.func26 rfl rfl rfl) ?_
  refine ⟨rfl,?_⟩
  exact Sa
theorem Bd.evNegY (h1:op≠sVal) (h2:op≠sCol) {b o:Nat} {c0:C7} (hpa:pa=some ⟨b,o,none⟩) (hr0 : ∀ w,Own B w S->w.rangeAt b (o+0*7) (c7 c0)) (hn:na=1) (h3:op≠sNot) {v0:Va} (hc0:Fn Tryz.prog B 26 #[tA c0,.slice ra m rc] S (λ u l=>u=vA v0/\l=S)) {code:Int} (he:arithE [45] 0 v0.int = .error code):Fx Tryz.prog B 26 #[tmA op k vk vi vt p pa na ca,.slice ra m rc] S (pvC code):=by
  subst hpa
  subst hn
  refine Fx.enter2 86 Tryz.func26 rfl rfl (nB rfl) (λ F=>?_)
  refine Ts ?_
  refine TR ?_
  refine Le (zL [_,_,_,_,_,_,_] rfl rfl ?_)
  intro g2
  refine Le (El [.int .i64 0,.int .i64 0,.string .empty] (by unfold Zf;kernel_rfl) ?_)
  intro g4
  refine Ld ?_
  refine Ts ?_
  refine yH ?_
  refine Ts ?_
  refine TR ?_
  refine Lq (Q0 rfl) ?_
  refine Lq (Ql rfl rfl) ?_
  refine Lq (Z3 rfl rfl) ?_
  refine La rfl ?_
  refine Ld ?_
  refine yL rfl (h1) ?_
  refine Ts ?_
  refine TR ?_
  refine Lq (Q0 rfl) ?_
  refine Lq (Ql rfl rfl) ?_
  refine Lq (Z3 rfl rfl) ?_
  refine La rfl ?_
  refine Ld ?_
  refine yL rfl (h2) ?_
  refine Ts ?_
  refine TR ?_
  refine Lq (Q0 rfl) ?_
  refine Lq (Ql rfl rfl) ?_
  refine Lq (Z3 rfl rfl) ?_
  refine La rfl ?_
  refine Ld ?_
  refine yL rfl (h3) ?_
  refine Ts ?_
  refine TR ?_
  refine Lq (Qf (off:=6) rfl) ?_
  refine Lq (Ql rfl rfl) ?_
  refine Lq (yI (e:=27) (sz:=7) rfl) ?_
  refine Lq (yU rfl rfl) ?_
  refine La rfl ?_
  refine Ld ?_
  refine zF rfl ?_
  refine Ts ?_
  refine TR ?_
  refine Lq (Qf (off:=6) rfl) ?_
  refine Lq (Ql rfl rfl) ?_
  refine Lq (Qi 0 (e:=27) (sz:=7) rfl rfl rfl) ?_
  refine Lq (Qt.loadAggW (c7 c0) rfl (λ w ho=>hr0 w (ho.map Sa))) ?_
  refine Lm rfl ?_
  refine Le (Ec (hc0) Tryz.func26 rfl rfl rfl ?_)
  rintro _ _ ⟨rfl,rfl⟩
  refine Lq (Qt.field 1 (by kernel_rfl) rfl rfl) ?_
  refine LW.dies (Dx.call (Bd.arithBad B [45] 0 v0.int code he) Tryz.func53 rfl rfl rfl) ?_
  refine ⟨rfl,?_⟩
  try simp only [cA,nA]
  exact Sa
theorem Bd.evTwoX (h1:op≠sVal) (h2:op≠sCol) {b o:Nat} {c0:C7} (hpa:pa=some ⟨b,o,none⟩) (hr0 : ∀ w,Own B w S->w.rangeAt b (o+0*7) (c7 c0)) (hn:na=2) (h3:op≠sNot) {code:Int} (hc0:Fx Tryz.prog B 26 #[tA c0,.slice ra m rc] S (pvC code)):Fx Tryz.prog B 26 #[tmA op k vk vi vt p pa na ca,.slice ra m rc] S (pvC code):=by
  subst hpa
  subst hn
  refine Fx.enter2 86 Tryz.func26 rfl rfl (nB rfl) (λ F=>?_)
  refine Ts ?_
  refine TR ?_
  refine Le (zL [_,_,_,_,_,_,_] rfl rfl ?_)
  intro g2
  refine Le (El [.int .i64 0,.int .i64 0,.string .empty] (by unfold Zf;kernel_rfl) ?_)
  intro g4
  refine Ld ?_
  refine Ts ?_
  refine yH ?_
  refine Ts ?_
  refine TR ?_
  refine Lq (Q0 rfl) ?_
  refine Lq (Ql rfl rfl) ?_
  refine Lq (Z3 rfl rfl) ?_
  refine La rfl ?_
  refine Ld ?_
  refine yL rfl (h1) ?_
  refine Ts ?_
  refine TR ?_
  refine Lq (Q0 rfl) ?_
  refine Lq (Ql rfl rfl) ?_
  refine Lq (Z3 rfl rfl) ?_
  refine La rfl ?_
  refine Ld ?_
  refine yL rfl (h2) ?_
  refine Ts ?_
  refine TR ?_
  refine Lq (Q0 rfl) ?_
  refine Lq (Ql rfl rfl) ?_
  refine Lq (Z3 rfl rfl) ?_
  refine La rfl ?_
  refine Ld ?_
  refine yL rfl (h3) ?_
  refine Ts ?_
  refine TR ?_
  refine Lq (Qf (off:=6) rfl) ?_
  refine Lq (Ql rfl rfl) ?_
  refine Lq (yI (e:=27) (sz:=7) rfl) ?_
  refine Lq (yU rfl rfl) ?_
  refine La rfl ?_
  refine Ld ?_
  refine yQ rfl ?_
  refine Tk ?_
  refine Ts ?_
  refine TR ?_
  refine Lq (Qf (off:=6) rfl) ?_
  refine Lq (Ql rfl rfl) ?_
  refine Lq (Qi 0 (e:=27) (sz:=7) rfl rfl rfl) ?_
  refine Lq (Qt.loadAggW (c7 c0) rfl (λ w ho=>hr0 w (ho.map Sa))) ?_
  refine Lm rfl ?_
  refine LW.dies (Dx.call (hc0) Tryz.func26 rfl rfl rfl) ?_
  refine ⟨rfl,?_⟩
  exact Sa
theorem Bd.evTwo (h1:op≠sVal) (h2:op≠sCol) {b o:Nat} {c0:C7} (hpa:pa=some ⟨b,o,none⟩) (hr0 : ∀ w,Own B w S->w.rangeAt b (o+0*7) (c7 c0)) {c1:C7} (hr1 : ∀ w,Own B w S->w.rangeAt b (o+1*7) (c7 c1)) (hn:na=2) (h3:op≠sNot) {v0:Va} (hc0:Fn Tryz.prog B 26 #[tA c0,.slice ra m rc] S (λ u l=>u=vA v0/\l=S)) {v1:Va} (hc1:Fn Tryz.prog B 26 #[tA c1,.slice ra m rc] S (λ u l=>u=vA v1/\l=S)) {v:Va} (he:reckonT op v0 v1 = .ok v):Fn Tryz.prog B 26 #[tmA op k vk vi vt p pa na ca,.slice ra m rc] S (λ u l=>u=vA v/\l=S):=by
  subst hpa
  subst hn
  refine Wr 86 Tryz.func26 rfl rfl (nB rfl) (λ F=>?_)
  refine Ts ?_
  refine TR ?_
  refine Le (zL [_,_,_,_,_,_,_] rfl rfl ?_)
  intro g2
  refine Le (El [.int .i64 0,.int .i64 0,.string .empty] (by unfold Zf;kernel_rfl) ?_)
  intro g4
  refine Ld ?_
  refine Ts ?_
  refine yH ?_
  refine Ts ?_
  refine TR ?_
  refine Lq (Q0 rfl) ?_
  refine Lq (Ql rfl rfl) ?_
  refine Lq (Z3 rfl rfl) ?_
  refine La rfl ?_
  refine Ld ?_
  refine yL rfl (h1) ?_
  refine Ts ?_
  refine TR ?_
  refine Lq (Q0 rfl) ?_
  refine Lq (Ql rfl rfl) ?_
  refine Lq (Z3 rfl rfl) ?_
  refine La rfl ?_
  refine Ld ?_
  refine yL rfl (h2) ?_
  refine Ts ?_
  refine TR ?_
  refine Lq (Q0 rfl) ?_
  refine Lq (Ql rfl rfl) ?_
  refine Lq (Z3 rfl rfl) ?_
  refine La rfl ?_
  refine Ld ?_
  refine yL rfl (h3) ?_
  refine Ts ?_
  refine TR ?_
  refine Lq (Qf (off:=6) rfl) ?_
  refine Lq (Ql rfl rfl) ?_
  refine Lq (yI (e:=27) (sz:=7) rfl) ?_
  refine Lq (yU rfl rfl) ?_
  refine La rfl ?_
  refine Ld ?_
  refine yQ rfl ?_
  refine Tk ?_
  refine Ts ?_
  refine TR ?_
  refine Lq (Qf (off:=6) rfl) ?_
  refine Lq (Ql rfl rfl) ?_
  refine Lq (Qi 0 (e:=27) (sz:=7) rfl rfl rfl) ?_
  refine Lq (Qt.loadAggW (c7 c0) rfl (λ w ho=>hr0 w (ho.map Sa))) ?_
  refine Lm rfl ?_
  refine Le (Ec (hc0) Tryz.func26 rfl rfl rfl ?_)
  rintro _ _ ⟨rfl,rfl⟩
  refine Le (El [.int .i64 0,.int .i64 0,.string .empty] (by unfold Zf;kernel_rfl) ?_)
  intro g5
  refine L0 (Es [_,_,_] rfl rfl rfl rfl (by simp) ?_)
  try simp only [splice,lC,lN,dS,cA,tS,tZ,dZ,nA,aN]
  refine Ld ?_
  refine Ts ?_
  refine zU 10 (nB rfl) ?_
  refine Rq 0 rfl (Sr _) (Q0 rfl) ?_
  refine Rq 1 rfl (Sr _) (Ql rfl rfl) ?_
  refine Rq 2 rfl (Sr _) (QL [_,_,_] rfl ⟨rfl,rfl,rfl,trivial⟩) ?_
  refine Rq 3 rfl (Sr _) (Qf (off:=6) rfl) ?_
  refine Rq 4 rfl (Sr _) (Ql rfl rfl) ?_
  refine Rq 5 rfl (Sr _) (Qi 1 (e:=27) (sz:=7) rfl rfl rfl) ?_
  refine Rq 6 rfl (Sr _) (Qt.loadAggW (c7 c1) rfl (λ w ho=>hr1 w (ho.map Sa))) ?_
  refine Rq 7 rfl (Sr _) (Qm rfl) ?_
  refine yK 8 ?_
  refine ZK rfl rfl (Ec (hc1) Tryz.func26 rfl rfl rfl ?_)
  rintro _ _ ⟨rfl,rfl⟩
  refine ⟨Sa,?_⟩
  refine yK 9 ?_
  refine zY rfl (Ec (Bd.reckonOk B op v0 v1 v he) Tryz.func54 rfl rfl rfl ?_)
  rintro _ _ ⟨rfl,rfl⟩
  try simp only [cA,nA]
  refine Rd0 (by rfl) ?_
  simp only [dS,dZ,dN]
  refine L0 (Es [_,_,_] rfl rfl rfl rfl (by simp) ?_)
  try simp only [splice,lC,lN,dS,cA,tS,tZ,dZ,nA,aN]
  refine Ld ?_
  refine T.ret ?_
  exact ⟨.inl rfl,_,_,res [_] rfl ⟨rvA [_,_,_] rfl ⟨rfl,rfl,rfl,trivial⟩,trivial⟩,⟨rfl,rfl⟩,Sa⟩
theorem Bd.evTwoY (h1:op≠sVal) (h2:op≠sCol) {b o:Nat} {c0:C7} (hpa:pa=some ⟨b,o,none⟩) (hr0 : ∀ w,Own B w S->w.rangeAt b (o+0*7) (c7 c0)) {c1:C7} (hr1 : ∀ w,Own B w S->w.rangeAt b (o+1*7) (c7 c1)) (hn:na=2) (h3:op≠sNot) {v0:Va} (hc0:Fn Tryz.prog B 26 #[tA c0,.slice ra m rc] S (λ u l=>u=vA v0/\l=S)) {code:Int} (hc1:Fx Tryz.prog B 26 #[tA c1,.slice ra m rc] S (pvC code)):Fx Tryz.prog B 26 #[tmA op k vk vi vt p pa na ca,.slice ra m rc] S (pvC code):=by
  subst hpa
  subst hn
  refine Fx.enter2 86 Tryz.func26 rfl rfl (nB rfl) (λ F=>?_)
  refine Ts ?_
  refine TR ?_
  refine Le (zL [_,_,_,_,_,_,_] rfl rfl ?_)
  intro g2
  refine Le (El [.int .i64 0,.int .i64 0,.string .empty] (by unfold Zf;kernel_rfl) ?_)
  intro g4
  refine Ld ?_
  refine Ts ?_
  refine yH ?_
  refine Ts ?_
  refine TR ?_
  refine Lq (Q0 rfl) ?_
  refine Lq (Ql rfl rfl) ?_
  refine Lq (Z3 rfl rfl) ?_
  refine La rfl ?_
  refine Ld ?_
  refine yL rfl (h1) ?_
  refine Ts ?_
  refine TR ?_
  refine Lq (Q0 rfl) ?_
  refine Lq (Ql rfl rfl) ?_
  refine Lq (Z3 rfl rfl) ?_
  refine La rfl ?_
  refine Ld ?_
  refine yL rfl (h2) ?_
  refine Ts ?_
  refine TR ?_
  refine Lq (Q0 rfl) ?_
  refine Lq (Ql rfl rfl) ?_
  refine Lq (Z3 rfl rfl) ?_
  refine La rfl ?_
  refine Ld ?_
  refine yL rfl (h3) ?_
  refine Ts ?_
  refine TR ?_
  refine Lq (Qf (off:=6) rfl) ?_
  refine Lq (Ql rfl rfl) ?_
  refine Lq (yI (e:=27) (sz:=7) rfl) ?_
  refine Lq (yU rfl rfl) ?_
  refine La rfl ?_
  refine Ld ?_
  refine yQ rfl ?_
  refine Tk ?_
  refine Ts ?_
  refine TR ?_
  refine Lq (Qf (off:=6) rfl) ?_
  refine Lq (Ql rfl rfl) ?_
  refine Lq (Qi 0 (e:=27) (sz:=7) rfl rfl rfl) ?_
  refine Lq (Qt.loadAggW (c7 c0) rfl (λ w ho=>hr0 w (ho.map Sa))) ?_
  refine Lm rfl ?_
  refine Le (Ec (hc0) Tryz.func26 rfl rfl rfl ?_)
  rintro _ _ ⟨rfl,rfl⟩
  refine Le (El [.int .i64 0,.int .i64 0,.string .empty] (by unfold Zf;kernel_rfl) ?_)
  intro g5
  refine L0 (Es [_,_,_] rfl rfl rfl rfl (by simp) ?_)
  try simp only [splice,lC,lN,dS,cA,tS,tZ,dZ,nA,aN]
  refine Ld ?_
  refine Ts ?_
  refine zU 10 (nB rfl) ?_
  refine Rq 0 rfl (Sr _) (Q0 rfl) ?_
  refine Rq 1 rfl (Sr _) (Ql rfl rfl) ?_
  refine Rq 2 rfl (Sr _) (QL [_,_,_] rfl ⟨rfl,rfl,rfl,trivial⟩) ?_
  refine Rq 3 rfl (Sr _) (Qf (off:=6) rfl) ?_
  refine Rq 4 rfl (Sr _) (Ql rfl rfl) ?_
  refine Rq 5 rfl (Sr _) (Qi 1 (e:=27) (sz:=7) rfl rfl rfl) ?_
  refine Rq 6 rfl (Sr _) (Qt.loadAggW (c7 c1) rfl (λ w ho=>hr1 w (ho.map Sa))) ?_
  refine Rq 7 rfl (Sr _) (Qm rfl) ?_
  refine yK 8 ?_
  refine RO.dies rfl rfl (Dx.call (hc1) Tryz.func26 rfl rfl rfl) ?_
  refine ⟨rfl,?_⟩
  exact Sa
theorem Bd.evTwoZ (h1:op≠sVal) (h2:op≠sCol) {b o:Nat} {c0:C7} (hpa:pa=some ⟨b,o,none⟩) (hr0 : ∀ w,Own B w S->w.rangeAt b (o+0*7) (c7 c0)) {c1:C7} (hr1 : ∀ w,Own B w S->w.rangeAt b (o+1*7) (c7 c1)) (hn:na=2) (h3:op≠sNot) {v0:Va} (hc0:Fn Tryz.prog B 26 #[tA c0,.slice ra m rc] S (λ u l=>u=vA v0/\l=S)) {v1:Va} (hc1:Fn Tryz.prog B 26 #[tA c1,.slice ra m rc] S (λ u l=>u=vA v1/\l=S)) {code:Int} (he:reckonT op v0 v1 = .error code):Fx Tryz.prog B 26 #[tmA op k vk vi vt p pa na ca,.slice ra m rc] S (pvC code):=by
  subst hpa
  subst hn
  refine Fx.enter2 86 Tryz.func26 rfl rfl (nB rfl) (λ F=>?_)
  refine Ts ?_
  refine TR ?_
  refine Le (zL [_,_,_,_,_,_,_] rfl rfl ?_)
  intro g2
  refine Le (El [.int .i64 0,.int .i64 0,.string .empty] (by unfold Zf;kernel_rfl) ?_)
  intro g4
  refine Ld ?_
  refine Ts ?_
  refine yH ?_
  refine Ts ?_
  refine TR ?_
  refine Lq (Q0 rfl) ?_
  refine Lq (Ql rfl rfl) ?_
  refine Lq (Z3 rfl rfl) ?_
  refine La rfl ?_
  refine Ld ?_
  refine yL rfl (h1) ?_
  refine Ts ?_
  refine TR ?_
  refine Lq (Q0 rfl) ?_
  refine Lq (Ql rfl rfl) ?_
  refine Lq (Z3 rfl rfl) ?_
  refine La rfl ?_
  refine Ld ?_
  refine yL rfl (h2) ?_
  refine Ts ?_
  refine TR ?_
  refine Lq (Q0 rfl) ?_
  refine Lq (Ql rfl rfl) ?_
  refine Lq (Z3 rfl rfl) ?_
  refine La rfl ?_
  refine Ld ?_
  refine yL rfl (h3) ?_
  refine Ts ?_
  refine TR ?_
  refine Lq (Qf (off:=6) rfl) ?_
  refine Lq (Ql rfl rfl) ?_
  refine Lq (yI (e:=27) (sz:=7) rfl) ?_
  refine Lq (yU rfl rfl) ?_
  refine La rfl ?_
  refine Ld ?_
  refine yQ rfl ?_
  refine Tk ?_
  refine Ts ?_
  refine TR ?_
  refine Lq (Qf (off:=6) rfl) ?_
  refine Lq (Ql rfl rfl) ?_
  refine Lq (Qi 0 (e:=27) (sz:=7) rfl rfl rfl) ?_
  refine Lq (Qt.loadAggW (c7 c0) rfl (λ w ho=>hr0 w (ho.map Sa))) ?_
  refine Lm rfl ?_
  refine Le (Ec (hc0) Tryz.func26 rfl rfl rfl ?_)
  rintro _ _ ⟨rfl,rfl⟩
  refine Le (El [.int .i64 0,.int .i64 0,.string .empty] (by unfold Zf;kernel_rfl) ?_)
  intro g5
  refine L0 (Es [_,_,_] rfl rfl rfl rfl (by simp) ?_)
  try simp only [splice,lC,lN,dS,cA,tS,tZ,dZ,nA,aN]
  refine Ld ?_
  refine Ts ?_
  refine zU 10 (nB rfl) ?_
  refine Rq 0 rfl (Sr _) (Q0 rfl) ?_
  refine Rq 1 rfl (Sr _) (Ql rfl rfl) ?_
  refine Rq 2 rfl (Sr _) (QL [_,_,_] rfl ⟨rfl,rfl,rfl,trivial⟩) ?_
  refine Rq 3 rfl (Sr _) (Qf (off:=6) rfl) ?_
  refine Rq 4 rfl (Sr _) (Ql rfl rfl) ?_
  refine Rq 5 rfl (Sr _) (Qi 1 (e:=27) (sz:=7) rfl rfl rfl) ?_
  refine Rq 6 rfl (Sr _) (Qt.loadAggW (c7 c1) rfl (λ w ho=>hr1 w (ho.map Sa))) ?_
  refine Rq 7 rfl (Sr _) (Qm rfl) ?_
  refine yK 8 ?_
  refine ZK rfl rfl (Ec (hc1) Tryz.func26 rfl rfl rfl ?_)
  rintro _ _ ⟨rfl,rfl⟩
  refine ⟨Sa,?_⟩
  refine yK 9 ?_
  refine RO.dies rfl rfl (Dx.call (Bd.reckonBad B op v0 v1 code he) Tryz.func54 rfl rfl rfl) ?_
  refine ⟨rfl,?_⟩
  try simp only [cA,nA]
  exact Sa
end
theorem Bd.eval (B:Wn) (S:List Wp) (row:List Va) (ra:Option Addr) (m rc:Nat) (hrow:FlV B S vaC (.slice ra m rc) row) (hm:row.length=m) (hmn:m<2^32) (t:Tm) (ho:TmOk t) : ∀ c,TmV B S t c ->
    (∀ v,evalT row t = .ok v->Fn Tryz.prog B 26 #[tA c,.slice ra m rc] S (λ u l=>u=vA v/\l=S))/\(∀ code,evalT row t = .error code->Fx Tryz.prog B 26 #[tA c,.slice ra m rc] S (pvC code)):=by
  induction ho with
  | val k v p =>
    intro c hv
    obtain ⟨pa,ca,css,rfl,-,-,-⟩:=hv.inv
    refine ⟨λ v' h=>?_,λ code h=>?_⟩
    . unfold evalT at h;rw [if_pos rfl] at h;injection h with h;subst h
      exact Bd.evVal rfl
    . unfold evalT at h;rw [if_pos rfl] at h;cases h
  | col k v p =>
    intro c hv
    obtain ⟨pa,ca,css,rfl,-,-,-⟩:=hv.inv
    refine ⟨λ v' h=>?_,λ code h=>?_⟩
    . unfold evalT at h;rw [if_neg (by decide),if_pos rfl] at h
      exact Bd.evCol (by decide) rfl hrow hm hmn h
    . unfold evalT at h;rw [if_neg (by decide),if_pos rfl] at h
      exact Bd.evColX (by decide) rfl hrow hm hmn h
  | one op k v p t h1 h2 _ ht ih =>
    intro c hv
    obtain ⟨pa,ca,css,rfl,hf,hl,hc⟩:=hv.inv
    obtain ⟨b,o,rfl,hr⟩:=hf.at (sz:=7) (λ _=>rfl) (by simp)
    obtain ⟨c0,hc0⟩ : ∃ c,css[0]? = some c:=⟨_,List.getElem?_eq_getElem (by rw [hl];simp)⟩
    obtain ⟨i1,i2⟩:=ih c0 (hc 0 t c0 rfl hc0)
    have hr0:=hr 0 c0 hc0
    have ev:evalT row (.mk op k v p [t])=match evalT row t with
        | .error c => .error c
        | .ok a=>if op=sNot then .ok (truthV (decide (a.int=0))) else arithE [45] 0 a.int:=by rw [evalT,if_neg h1,if_neg h2]
    rw [ev]
    cases e:evalT row t with
    | error c0 =>
      refine ⟨λ v' h=>(by cases h),λ code h=>?_⟩
      injection h with h;subst h
      by_cases h3:op=sNot
      . exact Bd.evNotX h1 h2 rfl hr0 (by simp) h3 (i2 _ e)
      . exact Bd.evNegX h1 h2 rfl hr0 rfl h3 (i2 _ e)
    | ok a =>
      dsimp only
      by_cases h3:op=sNot
      . rw [if_pos h3]
        refine ⟨λ v' h=>?_,λ code h=>(by cases h)⟩
        injection h with h;subst h
        exact Bd.evNot h1 h2 rfl hr0 (by simp) h3 (i1 _ e)
      . rw [if_neg h3]
        exact ⟨λ v' h=>Bd.evNeg h1 h2 rfl hr0 rfl h3 (i1 _ e) h,λ code h=>Bd.evNegY h1 h2 rfl hr0 rfl h3 (i1 _ e) h⟩
  | two op k v p t u h1 h2 h3 ht hu ih1 ih2 =>
    intro c hv
    obtain ⟨pa,ca,css,rfl,hf,hl,hc⟩:=hv.inv
    obtain ⟨b,o,rfl,hr⟩:=hf.at (sz:=7) (λ _=>rfl) (by simp)
    obtain ⟨c0,hc0⟩ : ∃ c,css[0]? = some c:=⟨_,List.getElem?_eq_getElem (by rw [hl];simp)⟩
    obtain ⟨c1,hc1⟩ : ∃ c,css[1]? = some c:=⟨_,List.getElem?_eq_getElem (by rw [hl];simp)⟩
    obtain ⟨i1,i2⟩:=ih1 c0 (hc 0 t c0 rfl hc0)
    obtain ⟨j1,j2⟩:=ih2 c1 (hc 1 u c1 rfl hc1)
    have hr0:=hr 0 c0 hc0
    have hr1:=hr 1 c1 hc1
    have ev:evalT row (.mk op k v p [t,u])=match evalT row t with
        | .error c => .error c
        | .ok a=>match evalT row u with
          | .error c => .error c
          | .ok b=>reckonT op a b:=by rw [evalT,if_neg h1,if_neg h2]
    rw [ev]
    cases e:evalT row t with
    | error c0 =>
      refine ⟨λ v' h=>(by cases h),λ code h=>?_⟩
      injection h with h;subst h
      exact Bd.evTwoX h1 h2 rfl hr0 rfl h3 (i2 _ e)
    | ok a =>
      dsimp only
      cases e2:evalT row u with
      | error c0 =>
        refine ⟨λ v' h=>(by cases h),λ code h=>?_⟩
        injection h with h;subst h
        exact Bd.evTwoY h1 h2 rfl hr0 hr1 rfl h3 (i1 _ e) (j2 _ e2)
      | ok b =>
        exact ⟨λ v' h=>Bd.evTwo h1 h2 rfl hr0 hr1 rfl h3 (i1 _ e) (j1 _ e2) h,λ code h=>Bd.evTwoZ h1 h2 rfl hr0 hr1 rfl h3 (i1 _ e) (j1 _ e2) h⟩
end Go.Proofs.YtnnfjemaeefbiaaGreatDoor
