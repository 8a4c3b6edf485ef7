/- The texts SlV LxA, one behind the other: what the law leans on. Conditions: as each theorem says. -/
import Derived.Test.YtnnfjemaeefbiaaGreatDoorZWpBase5
import Derived.Lib.SliceRun
import Derived.Lib.Overlaps
set_option linter.unusedSimpArgs false
set_option linter.unusedVariables false
set_option maxRecDepth 100000
set_option maxHeartbeats 16000000
namespace Go.Proofs.YtnnfjemaeefbiaaGreatDoor
open Go.RowKit
section
variable {P : Program} {B:Wn} {n:Nat} {S l r:List Wp} {f:Fr} {K:Value->List Wp->Prop}
variable {d : Option Tmp} {ty:TypeId} {pos:String} {af:Array Edge} {gd:Option (Nat×Bool)}
theorem Ef.clear {t e g o m c:Nat} {x:Operand} {C:List Value} {ty2:TypeId} (z:Value) (hk:sliceB P t e 1=true) (hz:(P.info? e).bind (·.zero)=some z) (hzc:z.cells = #[z]) (h1:z.oneCell'=true) (hx:ev n f x=some (.slice (some ⟨g,o,none⟩) m c)) (hm:0<m) (hfit:o+m<=C.length)
    [kk:StoreAt g l C (splice C o (List.replicate m z)) r] (h:K (.tuple #[]) r):Ef P B n ⟨d,.call ⟨.builtin .clear,#[x],#[t]⟩,ty2,pos,af,gd⟩ f l K:=⟨λ w next Q ho hk2=>by
  obtain ⟨hu,_⟩:=sliceB_spec hk
  obtain ⟨X,t',hg,ho'⟩:=ho.store (g:=g) (C:=C) (D:=splice C o (List.replicate m z)) (length_splice _ _ _ (by simpa using hfit))
  have hv : ∀ w,(zeroValue e).run P w = .ok z w:=λ w=>by
    cases hi:P.info? e with
    | none=>rw [hi] at hz;cases hz
    | some i =>
      rw [hi] at hz
      simp only [Option.bind_some] at hz
      simp [zeroValue,typeInfo,hi,hz]
  have hr:=Lib.run_clear_slice (P:=P) w t e ty2 z hu hv hzc h1 g o m c hm (λ j hj=>by rw [cell_of_row w g _ _ t' (0,0) hg];simp;omega) (λ j hj=>frozen_of_row w g _ _ t' hg)
  rw [setCells_row P w g t' _ o _ hg (by simp;omega) (by intro u hu;rw [List.eq_of_mem_replicate hu];exact h1)] at hr
  have hsp:=splice_append C X o (List.replicate m z) (by simpa using hfit)
  simp only [] at hr
  rw [hsp] at hr
  unfold Oper.wp execOp
  simp only [Wk,resolve,invoke,builtin,Sem.run_bind,Sem.run_pure,Result.andThen_ok,List.map_toArray,List.map_cons,List.map_nil,Zc hx,hr]
  exact hk2 _ _ _ h ho'⟩
theorem Qt.cap {t:TypeId} {e sz:Nat} {x:Operand} {p:Option Addr} {len cap:Nat} {ty2:TypeId} (ht:sliceB P t e sz=true) (hx:ev n f x=some (.slice p len cap)):Qt P B n S ⟨d,.call ⟨.builtin .cap,#[x],#[t]⟩,ty2,pos,af,gd⟩ f (.int .i64 cap):=⟨λ w _=>by
  obtain ⟨hu,_⟩:=sliceB_spec ht
  simp [execOp,resolve,invoke,builtin,Builtin.cap_,run_underlying hu,Zc hx,goInt]⟩
theorem YL {o:Oper} {v:Value} (hq:Qt P B n l o f v) (h:K v l):Ef P B n o f l K:=⟨λ w next Q ho hk=>by
  unfold Oper.wp
  rw [Wk,hq.run w ho]
  exact hk _ _ _ h ho⟩
theorem Qt.sliceE_snn {t e sz:Nat} {x y:Operand} {p:Option Addr} {m c:Nat} {k:IntKind} {i:Int} (lo:Nat) (p':Option Addr) (m' c':Nat) (hx:ev n f x=some (.slice p m c)) (hy:ev n f y=some (.int k i)) (hi1:i=(lo:Int)) (hp:offA p c lo sz=p') (hm:m-lo=m') (hc:c-lo=c') (ht:sliceB P t e sz=true:=by kernel_rfl) (h1:lo<=m:=by omega) :
    Qt P B n S ⟨d,.slice t x (some y) none none,ty,pos,af,gd⟩ f (.slice p' m' c'):=by
  subst hp;subst hm;subst hc
  exact zP lo ht hx hy hi1 h1
theorem offA_one {b c lo:Nat} (h:lo<c):offA (some ⟨b,0,none⟩) c lo 1=some ⟨b,lo,none⟩:=by rw [offA_some (by omega)];simp
end
open Go.RowKit
section
variable {P : Program} {B:Wn} {n:Nat} {S:List Wp} {f:Fr} {d:Option Tmp} {ty:TypeId} {pos:String} {af:Array Edge} {gd:Option (Nat×Bool)}
theorem Qt.sliceS_ss {t:TypeId} {x y z:Operand} {a:List UInt8} {k k2:IntKind} {i i2:Int} (j m:Nat) (ht:isStr P t=true) (hx:ev n f x=some (.string (Zq a))) (hy:ev n f y=some (.int k i)) (hz:ev n f z=some (.int k2 i2)) (hj:i=(j:Int)) (hm:i2=(m:Int)) (hl:j<=m) (hl2:m<=a.length) :
    Qt P B n S ⟨d,.slice t x (some y) (some z) none,ty,pos,af,gd⟩ f (.string (Zq ((a.take m).drop j))):=⟨λ w _=>by
  unfold isStr at ht
  split at ht
  . rename_i hu
    subst hj;subst hm
    have e:=strOf_extract a j m
    simp [execOp,Instr.sliceAt,run_underlying hu,Zc hx,Zc hy,Zc hz,Instr.slice,Instr.sliceBounds,Instr.sliceBound,asIntOf,size_strOf,hl,hl2,e]
  . cases ht⟩
end
abbrev letB (x:UInt8):Bool:=decide ((97<=(x.toNat:Int)/\(x.toNat:Int)<=122)\/(65<=(x.toNat:Int)/\(x.toNat:Int)<=90)\/(x.toNat:Int)=95)
abbrev digB (x:UInt8):Bool:=decide (48<=(x.toNat:Int)/\(x.toNat:Int)<=57)
abbrev spaB (x:UInt8):Bool:=decide ((x.toNat:Int)=32\/(x.toNat:Int)=9\/(x.toNat:Int)=10)
abbrev worB (x:UInt8):Bool:=letB x || digB x
theorem Lx.letter (B:Wn) (x:UInt8):Fn Tryz.prog B 71 #[.int .u8 x.toNat] [] (λ u l=>u = .bool (letB x)/\l=[]):=by
 refine Wq 21 Tryz.func71 rfl rfl (nB rfl) (λ F=>?_)
 try simp only [cA,nA]
 refine Ts ?_
 refine TR ?_
 refine La rfl ?_
 refine Ld ?_
 refine Ts ?_
 refine TR ?_
 refine Lm rfl ?_
 refine Lq (zX rfl rfl) ?_
 refine Lm rfl ?_
 refine zZ (t:=5) rfl (λ h1=>?_) (λ h1=>?_)
 .
  try replace h1:=of_decide_eq_true h1
  refine Lm rfl ?_
  refine Lq (YF rfl rfl) ?_
  refine Lq (Qp rfl rfl) ?_
  refine Lm rfl ?_
  refine zZ (t:=9) rfl (λ h2=>?_) (λ h2=>?_)
  .
   try replace h2:=of_decide_eq_true h2
   refine Ls rfl ?_
   refine Ls rfl ?_
   refine Ls rfl ?_
   refine Ls rfl ?_
   refine Ls rfl ?_
   refine Ls rfl ?_
   refine Lq (Qp rfl rfl) ?_
   refine Lm rfl ?_
   refine zQ (t:=17) rfl rfl ?_
   refine Ls rfl ?_
   refine Ls rfl ?_
   refine Lq (Qp rfl rfl) ?_
   refine La rfl ?_
   refine Ld ?_
   refine T.ret ?_
   exact ⟨.inl rfl,_,_,res [_] rfl ⟨rvT rfl,trivial⟩,⟨(by first | exact congrArg Value.bool (decide_eq_decide.2 (by omega)) | exact congrArg Value.bool (decide_eq_true (by omega)).symm | exact congrArg Value.bool (decide_eq_false (by omega)).symm),rfl⟩,Sa⟩
  try replace h2:=of_decide_eq_false h2
  refine Lm rfl ?_
  refine Lq (zX rfl rfl) ?_
  refine Lm rfl ?_
  refine zZ (t:=12) rfl (λ h3=>?_) (λ h3=>?_)
  .
   try replace h3:=of_decide_eq_true h3
   refine Lm rfl ?_
   refine Lq (YF rfl rfl) ?_
   refine Lq (Qp rfl rfl) ?_
   refine Lq (Qp rfl rfl) ?_
   refine Lm rfl ?_
   refine zZ (t:=17) rfl (λ h4=>?_) (λ h4=>?_)
   .
    try replace h4:=of_decide_eq_true h4
    refine Ls rfl ?_
    refine Ls rfl ?_
    refine Lq (Qp rfl rfl) ?_
    refine La rfl ?_
    refine Ld ?_
    refine T.ret ?_
    exact ⟨.inl rfl,_,_,res [_] rfl ⟨rvT rfl,trivial⟩,⟨(by first | exact congrArg Value.bool (decide_eq_decide.2 (by omega)) | exact congrArg Value.bool (decide_eq_true (by omega)).symm | exact congrArg Value.bool (decide_eq_false (by omega)).symm),rfl⟩,Sa⟩
   try replace h4:=of_decide_eq_false h4
   refine Lm rfl ?_
   refine Lq (yU rfl rfl) ?_
   refine Lq (Qp rfl rfl) ?_
   refine La rfl ?_
   refine Ld ?_
   refine T.ret ?_
   exact ⟨.inl rfl,_,_,res [_] rfl ⟨rvT rfl,trivial⟩,⟨(by first | exact congrArg Value.bool (decide_eq_decide.2 (by omega)) | exact congrArg Value.bool (decide_eq_true (by omega)).symm | exact congrArg Value.bool (decide_eq_false (by omega)).symm),rfl⟩,Sa⟩
  try replace h3:=of_decide_eq_false h3
  refine Ls rfl ?_
  refine Ls rfl ?_
  refine Lq (Qp rfl rfl) ?_
  refine Lq (Qp rfl rfl) ?_
  refine Lm rfl ?_
  refine yT (t:=17) rfl rfl ?_
  refine Lm rfl ?_
  refine Lq (yU rfl rfl) ?_
  refine Lq (Qp rfl rfl) ?_
  refine La rfl ?_
  refine Ld ?_
  refine T.ret ?_
  exact ⟨.inl rfl,_,_,res [_] rfl ⟨rvT rfl,trivial⟩,⟨(by first | exact congrArg Value.bool (decide_eq_decide.2 (by omega)) | exact congrArg Value.bool (decide_eq_true (by omega)).symm | exact congrArg Value.bool (decide_eq_false (by omega)).symm),rfl⟩,Sa⟩
 try replace h1:=of_decide_eq_false h1
 refine Ls rfl ?_
 refine Ls rfl ?_
 refine Lq (Qp rfl rfl) ?_
 refine Lm rfl ?_
 refine yT (t:=9) rfl rfl ?_
 refine Lm rfl ?_
 refine Lq (zX rfl rfl) ?_
 refine Lm rfl ?_
 refine zZ (t:=12) rfl (λ h3=>?_) (λ h3=>?_)
 .
  try replace h3:=of_decide_eq_true h3
  refine Lm rfl ?_
  refine Lq (YF rfl rfl) ?_
  refine Lq (Qp rfl rfl) ?_
  refine Lq (Qp rfl rfl) ?_
  refine Lm rfl ?_
  refine zZ (t:=17) rfl (λ h4=>?_) (λ h4=>?_)
  .
   try replace h4:=of_decide_eq_true h4
   refine Ls rfl ?_
   refine Ls rfl ?_
   refine Lq (Qp rfl rfl) ?_
   refine La rfl ?_
   refine Ld ?_
   refine T.ret ?_
   exact ⟨.inl rfl,_,_,res [_] rfl ⟨rvT rfl,trivial⟩,⟨(by first | exact congrArg Value.bool (decide_eq_decide.2 (by omega)) | exact congrArg Value.bool (decide_eq_true (by omega)).symm | exact congrArg Value.bool (decide_eq_false (by omega)).symm),rfl⟩,Sa⟩
  try replace h4:=of_decide_eq_false h4
  refine Lm rfl ?_
  refine Lq (yU rfl rfl) ?_
  refine Lq (Qp rfl rfl) ?_
  refine La rfl ?_
  refine Ld ?_
  refine T.ret ?_
  exact ⟨.inl rfl,_,_,res [_] rfl ⟨rvT rfl,trivial⟩,⟨(by first | exact congrArg Value.bool (decide_eq_decide.2 (by omega)) | exact congrArg Value.bool (decide_eq_true (by omega)).symm | exact congrArg Value.bool (decide_eq_false (by omega)).symm),rfl⟩,Sa⟩
 try replace h3:=of_decide_eq_false h3
 refine Ls rfl ?_
 refine Ls rfl ?_
 refine Lq (Qp rfl rfl) ?_
 refine Lq (Qp rfl rfl) ?_
 refine Lm rfl ?_
 refine yT (t:=17) rfl rfl ?_
 refine Lm rfl ?_
 refine Lq (yU rfl rfl) ?_
 refine Lq (Qp rfl rfl) ?_
 refine La rfl ?_
 refine Ld ?_
 refine T.ret ?_
 exact ⟨.inl rfl,_,_,res [_] rfl ⟨rvT rfl,trivial⟩,⟨(by first | exact congrArg Value.bool (decide_eq_decide.2 (by omega)) | exact congrArg Value.bool (decide_eq_true (by omega)).symm | exact congrArg Value.bool (decide_eq_false (by omega)).symm),rfl⟩,Sa⟩
theorem Lx.digit (B:Wn) (x:UInt8):Fn Tryz.prog B 74 #[.int .u8 x.toNat] [] (λ u l=>u = .bool (digB x)/\l=[]):=by
 refine Wq 9 Tryz.func74 rfl rfl (nB rfl) (λ F=>?_)
 try simp only [cA,nA]
 refine Ts ?_
 refine TR ?_
 refine La rfl ?_
 refine Ld ?_
 refine Ts ?_
 refine TR ?_
 refine Lm rfl ?_
 refine Lq (zX rfl rfl) ?_
 refine Lm rfl ?_
 refine zZ (t:=5) rfl (λ h1=>?_) (λ h1=>?_)
 .
  try replace h1:=of_decide_eq_true h1
  refine Lm rfl ?_
  refine Lq (YF rfl rfl) ?_
  refine Lq (Qp rfl rfl) ?_
  refine La rfl ?_
  refine Ld ?_
  refine T.ret ?_
  exact ⟨.inl rfl,_,_,res [_] rfl ⟨rvT rfl,trivial⟩,⟨(by first | exact congrArg Value.bool (decide_eq_decide.2 (by omega)) | exact congrArg Value.bool (decide_eq_true (by omega)).symm | exact congrArg Value.bool (decide_eq_false (by omega)).symm),rfl⟩,Sa⟩
 try replace h1:=of_decide_eq_false h1
 refine Ls rfl ?_
 refine Ls rfl ?_
 refine Lq (Qp rfl rfl) ?_
 refine La rfl ?_
 refine Ld ?_
 refine T.ret ?_
 exact ⟨.inl rfl,_,_,res [_] rfl ⟨rvT rfl,trivial⟩,⟨(by first | exact congrArg Value.bool (decide_eq_decide.2 (by omega)) | exact congrArg Value.bool (decide_eq_true (by omega)).symm | exact congrArg Value.bool (decide_eq_false (by omega)).symm),rfl⟩,Sa⟩
theorem Lx.space (B:Wn) (x:UInt8):Fn Tryz.prog B 70 #[.int .u8 x.toNat] [] (λ u l=>u = .bool (spaB x)/\l=[]):=by
 refine Wq 13 Tryz.func70 rfl rfl (nB rfl) (λ F=>?_)
 try simp only [cA,nA]
 refine Ts ?_
 refine TR ?_
 refine La rfl ?_
 refine Ld ?_
 refine Ts ?_
 refine TR ?_
 refine Lm rfl ?_
 refine Lq (yU rfl rfl) ?_
 refine Lm rfl ?_
 refine zZ (t:=5) rfl (λ h1=>?_) (λ h1=>?_)
 .
  try replace h1:=of_decide_eq_true h1
  refine Ls rfl ?_
  refine Ls rfl ?_
  refine Lq (Qp rfl rfl) ?_
  refine Lm rfl ?_
  refine zQ (t:=9) rfl rfl ?_
  refine Ls rfl ?_
  refine Ls rfl ?_
  refine Lq (Qp rfl rfl) ?_
  refine La rfl ?_
  refine Ld ?_
  refine T.ret ?_
  exact ⟨.inl rfl,_,_,res [_] rfl ⟨rvT rfl,trivial⟩,⟨(by first | exact congrArg Value.bool (decide_eq_decide.2 (by omega)) | exact congrArg Value.bool (decide_eq_true (by omega)).symm | exact congrArg Value.bool (decide_eq_false (by omega)).symm),rfl⟩,Sa⟩
 try replace h1:=of_decide_eq_false h1
 refine Lm rfl ?_
 refine Lq (yU rfl rfl) ?_
 refine Lq (Qp rfl rfl) ?_
 refine Lm rfl ?_
 refine zZ (t:=9) rfl (λ h2=>?_) (λ h2=>?_)
 .
  try replace h2:=of_decide_eq_true h2
  refine Ls rfl ?_
  refine Ls rfl ?_
  refine Lq (Qp rfl rfl) ?_
  refine La rfl ?_
  refine Ld ?_
  refine T.ret ?_
  exact ⟨.inl rfl,_,_,res [_] rfl ⟨rvT rfl,trivial⟩,⟨(by first | exact congrArg Value.bool (decide_eq_decide.2 (by omega)) | exact congrArg Value.bool (decide_eq_true (by omega)).symm | exact congrArg Value.bool (decide_eq_false (by omega)).symm),rfl⟩,Sa⟩
 try replace h2:=of_decide_eq_false h2
 refine Lm rfl ?_
 refine Lq (yU rfl rfl) ?_
 refine Lq (Qp rfl rfl) ?_
 refine La rfl ?_
 refine Ld ?_
 refine T.ret ?_
 exact ⟨.inl rfl,_,_,res [_] rfl ⟨rvT rfl,trivial⟩,⟨(by first | exact congrArg Value.bool (decide_eq_decide.2 (by omega)) | exact congrArg Value.bool (decide_eq_true (by omega)).symm | exact congrArg Value.bool (decide_eq_false (by omega)).symm),rfl⟩,Sa⟩
theorem Lx.word (B:Wn) (x:UInt8):Fn Tryz.prog B 73 #[.int .u8 x.toNat] [] (λ u l=>u = .bool (worB x)/\l=[]):=by
 refine Wq 9 Tryz.func73 rfl rfl (nB rfl) (λ F=>?_)
 try simp only [cA,nA]
 refine Ts ?_
 refine TR ?_
 refine La rfl ?_
 refine Ld ?_
 refine Ts ?_
 refine TR ?_
 refine Lm rfl ?_
 refine Le (Ec (Lx.letter B x) Tryz.func71 rfl rfl rfl ?_)
 rintro _ _ ⟨rfl,rfl⟩
 try simp only [cA,nA]
 refine Lm rfl ?_
 refine zZ (t:=5) rfl (λ h1=>?_) (λ h1=>?_)
 .
  try replace h1:=of_decide_eq_true h1
  refine Ls rfl ?_
  refine Ls rfl ?_
  refine Lq (Qp rfl rfl) ?_
  refine La rfl ?_
  refine Ld ?_
  refine T.ret ?_
  exact ⟨.inl rfl,_,_,res [_] rfl ⟨rvT rfl,trivial⟩,⟨congrArg Value.bool (by show _=(letB x || digB x);simp [h1]),rfl⟩,Sa⟩
 try replace h1:=of_decide_eq_false h1
 refine Lm rfl ?_
 refine Le (Ec (Lx.digit B x) Tryz.func74 rfl rfl rfl ?_)
 rintro _ _ ⟨rfl,rfl⟩
 try simp only [cA,nA]
 refine Lq (Qp rfl rfl) ?_
 refine La rfl ?_
 refine Ld ?_
 refine T.ret ?_
 exact ⟨.inl rfl,_,_,res [_] rfl ⟨rvT rfl,trivial⟩,⟨congrArg Value.bool (by show _=(letB x || digB x);simp [h1]),rfl⟩,Sa⟩
abbrev pV (g:Nat):Value := .pointer (some ⟨g,0,none⟩)
abbrev scA (gc:Nat) (s:Str) (a:Nat):Wp:=blk gc [tV s,iV a] 167
theorem run_cons {s:Str} {j:Nat} (h:j<s.length) (p:UInt8->Bool):(s.drop j).takeWhile p=if p s[j]=true then s[j]::(s.drop (j+1)).takeWhile p else []:=by
  rw [List.drop_eq_getElem_cons h,List.takeWhile_cons]
theorem Lx.while (B:Wn) (gc:Nat) (s:Str) (a:Nat) (p:UInt8->Bool) (fg:FuncId) (fn:Func) (hf:Tryz.prog.funcs[fg]? = some fn) (hn:(fn.name == "runtime.NumGoroutine")=false) (hb:fn.body.isNone=false) (hp : ∀ x:UInt8,Fn Tryz.prog B fg #[.int .u8 x.toNat] [] (λ u l=>u = .bool (p x)/\l=[])) (ha:a<=s.length) (hs:s.length<2^40:=by omega) :
  Fn Tryz.prog B 69 #[pV gc,.func (.func fg) #[] #[]] [scA gc s a] (λ u l=>u=tV ((s.drop a).takeWhile p)/\l=[scA gc s (a+((s.drop a).takeWhile p).length)]):=by
 refine Wr 50 Tryz.func69 rfl rfl (nB rfl) (λ F=>?_)
 try simp only [cA,nA]
 refine Ts ?_
 refine TR ?_
 refine La rfl ?_
 refine Ld ?_
 refine Ts ?_
 refine TR ?_
 refine Lm rfl ?_
 refine Lq (Qn rfl) ?_
 refine Lq (Qf (off:=1) rfl) ?_
 refine Lq (Ql rfl rfl) ?_
 refine La rfl ?_
 refine Ld ?_
 refine Ts ?_
 refine yH ?_
 refine zG (λ mz fz lz => ∃ (f0:Fr) (j:Nat),(a<=j/\j<=s.length/\(s.drop a).takeWhile p=(s.take j).drop a++(s.drop j).takeWhile p)/\mz=s.length-j/\fz=(upd (upd (upd f0 0 (pV gc)) 1 (.func (.func fg) #[] #[])) 5 (.int .i64 a))/\lz=scA gc s j::F) ?_ ?_
 . refine ⟨_,_,⟨_,a,⟨Nat.le_refl _,ha,by simp⟩,rfl,(Za rfl (Za rfl (Za rfl rfl))),rfl⟩,Sa⟩
 rintro mz fz lz ⟨f0,j,⟨h1,h2,h3⟩,hmz,rfl,rfl⟩
 subst mz
 refine Ts ?_
 refine Ts ?_
 refine zW 23 none (nB rfl) ?_
 refine Rq 0 rfl Sa (Qm rfl) ?_
 refine Rq 1 rfl Sa (Qn rfl) ?_
 refine Rq 2 rfl Sa (Qf (off:=1) rfl) ?_
 refine Rq 3 rfl Sa (Ql rfl rfl) ?_
 refine Rq 4 rfl Sa (Qm rfl) ?_
 refine Rq 5 rfl Sa (Qn rfl) ?_
 refine Rq 6 rfl Sa (Q0 rfl) ?_
 refine Rq 7 rfl Sa (Ql rfl rfl) ?_
 refine Rq 8 rfl Sa (YU rfl) ?_
 refine Rq 9 rfl Sa (yM rfl rfl) ?_
 refine Rq 10 rfl Sa (Qm rfl) ?_
 refine YE (t:=20) rfl (λ hlt=>?_) (λ hlt=>?_)
 .
  try replace hlt:=of_decide_eq_true hlt
  rw [run_cons (s:=s) (j:=j) (by omega) p] at h3
  refine Rq 11 rfl Sa (Qm rfl) ?_
  refine Rq 12 rfl Sa (Qm rfl) ?_
  refine Rq 13 rfl Sa (Qn rfl) ?_
  refine Rq 14 rfl Sa (Q0 rfl) ?_
  refine Rq 15 rfl Sa (Ql rfl rfl) ?_
  refine Rq 16 rfl Sa (Qm rfl) ?_
  refine Rq 17 rfl Sa (Qn rfl) ?_
  refine Rq 18 rfl Sa (Qf (off:=1) rfl) ?_
  refine Rq 19 rfl Sa (Ql rfl rfl) ?_
  refine Rq 20 rfl Sa (YR j rfl rfl rfl (by omega)) ?_
  refine yK 21 ?_
  refine zY rfl (ZE [.int .u8 (s[j]'(by omega)).toNat] [] (hp _) hf hn hb rfl rfl rfl ?_)
  rintro _ _ ⟨rfl,rfl⟩
  try simp only [cA,nA]
  refine Rq 22 rfl (Sr _) (Qp rfl rfl) ?_
  refine Rd0 (by rfl) ?_
  simp only [dS,dZ,dN]
  refine Ld ?_
  refine Y9 rfl (λ hx=>?_) (λ hx=>?_)
  .
   rw [if_pos hx] at h3
   refine Tk ?_
   refine yH ?_
   refine TR ?_
   refine Lm rfl ?_
   refine Lq (Qn rfl) ?_
   refine Lq (Qf (off:=1) rfl) ?_
   refine Lq (Ql rfl rfl) ?_
   refine Lq (Qd (r:=((j+1:Nat):Int)) rfl rfl (by rw [Ze];omega)) ?_
   refine Lq (Qn rfl) ?_
   refine Lq (Qf (off:=1) rfl) ?_
   refine L0 (E1 rfl rfl rfl (by first | (simp;done) | (simp;omega)) ?_)
   try simp only [List.set_cons_zero,List.set_cons_succ]
   refine Ld ?_
   refine ⟨_,?_,_,⟨_,j+1,⟨by omega,by omega,by rw [h3,List.take_succ_eq_append_getElem (by omega),List.drop_append_of_le_length (by simp;omega)];simp⟩,rfl,(Za rfl (Za rfl (Za rfl rfl))),rfl⟩,Sa⟩
   omega
  rw [if_neg (by simpa using hx),List.append_nil] at h3
  refine zB ?_
  refine Ts ?_
  refine zU 10 (nB rfl) ?_
  refine Rq 0 rfl (Sr _) (Qm rfl) ?_
  refine Rq 1 rfl (Sr _) (Qn rfl) ?_
  refine Rq 2 rfl (Sr _) (Q0 rfl) ?_
  refine Rq 3 rfl (Sr _) (Ql rfl rfl) ?_
  refine Rq 4 rfl (Sr _) (Qm rfl) ?_
  refine Rq 5 rfl (Sr _) (Qm rfl) ?_
  refine Rq 6 rfl (Sr _) (Qn rfl) ?_
  refine Rq 7 rfl (Sr _) (Qf (off:=1) rfl) ?_
  refine Rq 8 rfl (Sr _) (Ql rfl rfl) ?_
  refine Rq 9 rfl (Sr _) (Qt.sliceS_ss a j (by kernel_rfl) rfl rfl rfl rfl rfl (by omega) (by omega)) ?_
  refine Rd0 (by rfl) ?_
  simp only [dS,dZ,dN]
  refine La rfl ?_
  refine Ld ?_
  refine T.ret ?_
  exact ⟨.inl rfl,_,_,res [_] rfl ⟨rvT rfl,trivial⟩,⟨by rw [h3];rfl,by rw [h3,show a+((s.take j).drop a).length=j by simp;omega]⟩,Sa⟩
 try replace hlt:=of_decide_eq_false hlt
 rw [show (s.drop j).takeWhile p=[] by rw [List.drop_of_length_le (by omega)];rfl,List.append_nil] at h3
 refine yY 11 rfl Sa ?_
 refine yY 12 rfl Sa ?_
 refine yY 13 rfl Sa ?_
 refine yY 14 rfl Sa ?_
 refine yY 15 rfl Sa ?_
 refine yY 16 rfl Sa ?_
 refine yY 17 rfl Sa ?_
 refine yY 18 rfl Sa ?_
 refine yY 19 rfl Sa ?_
 refine yY 20 rfl Sa ?_
 refine yY 21 rfl Sa ?_
 refine Rq 22 rfl Sa (Qp rfl rfl) ?_
 refine Rd0 (by rfl) ?_
 simp only [dS,dZ,dN]
 refine Ld ?_
 refine yQ rfl ?_
 refine zB ?_
 refine Ts ?_
 refine zU 10 (nB rfl) ?_
 refine Rq 0 rfl (Sr _) (Qm rfl) ?_
 refine Rq 1 rfl (Sr _) (Qn rfl) ?_
 refine Rq 2 rfl (Sr _) (Q0 rfl) ?_
 refine Rq 3 rfl (Sr _) (Ql rfl rfl) ?_
 refine Rq 4 rfl (Sr _) (Qm rfl) ?_
 refine Rq 5 rfl (Sr _) (Qm rfl) ?_
 refine Rq 6 rfl (Sr _) (Qn rfl) ?_
 refine Rq 7 rfl (Sr _) (Qf (off:=1) rfl) ?_
 refine Rq 8 rfl (Sr _) (Ql rfl rfl) ?_
 refine Rq 9 rfl (Sr _) (Qt.sliceS_ss a j (by kernel_rfl) rfl rfl rfl rfl rfl (by omega) (by omega)) ?_
 refine Rd0 (by rfl) ?_
 simp only [dS,dZ,dN]
 refine La rfl ?_
 refine Ld ?_
 refine T.ret ?_
 exact ⟨.inl rfl,_,_,res [_] rfl ⟨rvT rfl,trivial⟩,⟨by rw [h3];rfl,by rw [h3,show a+((s.take j).drop a).length=j by simp;omega]⟩,Sa⟩
end Go.Proofs.YtnnfjemaeefbiaaGreatDoor
