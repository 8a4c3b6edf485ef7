/- The texts PsJ PsK PsL PsM PsN PsO PsP PqA LyA, one behind the other: what the law leans on. Conditions: as each theorem says. -/
import Derived.Test.YtnnfjemaeefbiaaGreatDoorZWpBase8
set_option linter.unusedSimpArgs false
set_option linter.unusedVariables false
set_option maxRecDepth 100000
set_option maxHeartbeats 16000000
namespace Go.Proofs.YtnnfjemaeefbiaaGreatDoor
open Go.RowKit
theorem Ps.elemS : ElemOk Tryz.prog 61 9 1 16 := .mk' (.string ⟨#[]⟩) Tryz.underlying61 (by kernel_rfl) rfl (by omega)
theorem Ps.elemE : ElemOk Tryz.prog 62 76 5 80 := .mk' (.agg #[.string .empty,.int .i64 0,.string .empty,.string .empty,.slice none 0 0]) Tryz.underlying62 (by kernel_rfl) rfl (by omega)
section
variable {α : Type}
def lstR (q:Sq) (R:Nat->PE (α×Nat)):Nat->List α->Nat->PE (List α×Nat)
  | 0,xs,a => .ok (xs,a)
  | f+1,xs,a=>if oneT q.L a [44]=true then match R (a+1) with
      | .error x => .error x
      | .ok (y,b)=>lstR q R f (xs++[y]) b
    else .ok (xs,a)
def listR (q:Sq) (R:Nat->PE (α×Nat)) (a:Nat):PE (List α×Nat):=match R a with
  | .error x => .error x
  | .ok (y,b)=>lstR q R (q.L.length+1) [y] b
theorem lstR_succ {q:Sq} {R:Nat->PE (α×Nat)} {f:Nat} {xs:List α} {a:Nat}:lstR q R (f+1) xs a=if oneT q.L a [44]=true then match R (a+1) with
      | .error x => .error x
      | .ok (y,b)=>lstR q R f (xs++[y]) b
    else .ok (xs,a):=rfl
theorem lstR_end {q:Sq} {R:Nat->PE (α×Nat)} {f:Nat} {xs:List α} {a:Nat} (h : ¬ oneT q.L a [44]=true):lstR q R f xs a = .ok (xs,a):=by
  unfold lstR
  split
  . rfl
  . rw [if_neg h]
end
theorem Ps.listS (B:Wn) (gs:Nat) (q:Sq) (a d:Nat) (hq:q.L.length<2^27) (ha:a<=q.L.length) (hx : ∀ x∈q.L,x.text.length<2^40):FnE Tryz.prog B 128 #[pV gs,.func (.func 79) #[pV gs] #[]] [srB gs q a d,srT q]
  (λ u l => ∃ x b p c,listR q (nameR q) a = .ok (x,b)/\a<b/\b<=q.L.length/\u = .slice p x.length c/\(0<x.length -> ∃ g,p=some ⟨g,0,none⟩)/\l=[row (.slice p x.length c) 9 1 x.length (x.map tV),srB gs q b d,srT q]) (Xm (listR q (nameR q) a)):=by
 refine FnE.enter2 18 Tryz.func128 rfl rfl (nB rfl) (λ F=>?_)
 try simp only [cA,nA]
 refine Ts ?_
 refine TR ?_
 refine La rfl ?_
 refine Ld ?_
 refine Ts ?_
 refine TR ?_
 refine Lm rfl ?_
 refine LW.p rfl (Ee.callF [] [pV gs] (Ps.name B gs q a d (by omega) (by omega) hx) Tryz.func79 rfl rfl rfl rfl rfl (by exact (λ pv ⟨e,he,hp⟩=>FnEPost.dead ⟨e,(by unfold listR;rw [he]),hp⟩ Sa)) ?_)
 rintro _ _ ⟨⟨n,b⟩,hn,rfl,hb,hal,rfl⟩
 try simp only [cA,nA]
 refine Le (zK [_] (e:=9) (sz:=1) ⟨.string .empty,by kernel_rfl,rfl⟩ rfl rfl rfl ?_)
 intro g8
 refine LW.conv (l':=row (.slice (some ⟨g8,0,none⟩) 1 1) 9 1 1 ([n].map tV)::_) (λ w ho=>ho.blk_row (sz:=1) (n:=1) rfl (by unfold maxLen;omega)) ?_
 refine La rfl ?_
 refine Ld ?_
 refine Ts ?_
 refine yH ?_
 dsimp only at hb
 refine zG (λ mz fz lz => ∃ (f0:Fr) (fu b:Nat) (xs:List Str) (p:Option Addr) (l0 c0:Nat),(a<b/\b<=q.L.length/\q.L.length<b+fu/\listR q (nameR q) a=lstR q (nameR q) fu xs b/\xs.length=l0/\0<l0/\l0<=b/\(0<l0 -> ∃ g,p=some ⟨g,0,none⟩))/\mz=q.L.length-b/\fz=(upd (upd (upd f0 0 (pV gs)) 1 (.func (.func 79) #[pV gs] #[])) 5 (.slice p l0 c0))/\lz=row (.slice p l0 c0) 9 1 l0 (xs.map tV)::srB gs q b d::srT q::F) ?_ ?_
 . refine ⟨_,_,⟨_,q.L.length+1,b,[n],some ⟨g8,0,none⟩,1,1,⟨by omega,by omega,by omega,by unfold listR;rw [hn],rfl,by omega,by omega,λ _=>⟨_,rfl⟩⟩,rfl,(Za rfl (Za rfl (Za rfl rfl))),rfl⟩,Sa⟩
 rintro mz fz lz ⟨f0,fu,b,xs,p,l0,c0,⟨hab,hbl,hfu,hli,hxl,hl0,hlb,hp⟩,hmz,rfl,rfl⟩
 subst mz
 refine Ts ?_
 refine Ts ?_
 refine TR ?_
 refine Lm rfl ?_
 refine Le (zK [_] (e:=9) (sz:=1) ⟨.string .empty,by kernel_rfl,rfl⟩ rfl rfl rfl ?_)
 intro g10
 refine Le (Ec (Ps.may B [blk g10 [.string ⟨#[44]⟩] 9] gs q b d (some ⟨g10,0,none⟩) 1 1 [[44]] rfl (FlV.blk (x:=[[44]]) (g:=sC) rfl)) Tryz.func47 rfl rfl rfl ?_)
 rintro _ _ ⟨rfl,rfl⟩
 try simp only [cA,nA]
 by_cases h1:oneT q.L b [44]=true
 .
  have hbl1:=oneT_lt h1
  rw [mayA_one,if_pos h1]
  dsimp only [Option.isSome,Option.getD]
  obtain ⟨fu,rfl⟩ : ∃ z,fu=z+1:=⟨fu-1,by omega⟩
  rw [lstR_succ,if_pos h1] at hli
  refine Ld ?_
  refine zF rfl ?_
  refine Tk ?_
  refine yH ?_
  refine TR ?_
  refine Lm rfl ?_
  refine Lm rfl ?_
  refine LW.p rfl (Ee.callF [] [pV gs] (Ps.name B gs q (b+1) d (by omega) (by omega) hx) Tryz.func79 rfl rfl rfl rfl rfl (by exact (λ pv ⟨e,he,hp⟩=>FnEPost.dead ⟨e,(by rw [hli,he]),hp⟩ Sa)) ?_)
  rintro _ _ ⟨⟨n2,b2⟩,hn2,rfl,hb2,hal2,rfl⟩
  try simp only [cA,nA]
  refine Le (zK [_] (e:=9) (sz:=1) ⟨.string .empty,by kernel_rfl,rfl⟩ rfl rfl rfl ?_)
  intro g15
  rw [hn2] at hli
  dsimp only at hb2 hli
  refine Le (Ea Ps.elemS rfl rfl (SrcOf.blk (by kernel_rfl) rfl (by simp [Value.oneCell'])) (by unfold maxLen;omega) ?_)
  rintro p4 c4 hp4
  rw [show xs.map tV++[tV n2]=(xs++[n2]).map tV by simp]
  refine La rfl ?_
  refine Ld ?_
  refine ⟨_,?_,_,⟨_,fu,b2,xs++[n2],p4,l0+1,c4,⟨by omega,by omega,by omega,hli,by simp [hxl],by omega,by omega,hp4⟩,rfl,(Za rfl (Za rfl (Za rfl rfl))),rfl⟩,Sa⟩
  omega
 rw [lstR_end h1] at hli
 rw [mayA_one,if_neg h1]
 dsimp only [Option.isSome,Option.getD]
 refine Ld ?_
 refine yQ rfl ?_
 subst hxl
 refine zB ?_
 refine Ts ?_
 refine TR ?_
 refine Lm rfl ?_
 refine La rfl ?_
 refine Ld ?_
 refine T.ret ?_
 exact ⟨.inl rfl,_,_,res [_] rfl ⟨rvT rfl,trivial⟩,⟨xs,b,p,c0,hli,hab,hbl,rfl,hp,rfl⟩,Sa⟩
theorem ExVs.one {B:Wn} {A:Wp} {e:Ex} {c1:C5} (h:ExV B [A] e c1) : ∀ (i:Nat) (t:Ex) (c:C5),[e][i]? = some t->[c1][i]? = some c->ExV B [A] t c:=λ i t c ht hc=>by
  match i with
  | 0=>simp at ht hc;subst ht;subst hc;exact h
  | i+1=>simp at ht
theorem ExVs.snoc {B:Wn} {A A2:Wp} {xs:List Ex} {css:List C5} {e:Ex} {c1:C5} (hl:xs.length=css.length) (h : ∀ (i:Nat) (t:Ex) (c:C5),xs[i]? = some t->css[i]? = some c->ExV B [A] t c) (h2:ExV B [A2] e c1) : ∀ (i:Nat) (t:Ex) (c:C5),(xs++[e])[i]? = some t->(css++[c1])[i]? = some c->ExV B [sepL [A,A2]] t c:=λ i t c ht hc=>by
  rcases Nat.lt_or_ge i xs.length with k | k
  . rw [List.getElem?_append_left k] at ht
    rw [List.getElem?_append_left (by omega)] at hc
    exact (h i t c ht hc).mono λ w ho=>ho.sep.map Sa
  . rw [List.getElem?_append_right k] at ht
    rw [List.getElem?_append_right (by omega)] at hc
    obtain ⟨j,hj⟩ : ∃ j,i-xs.length=j:=⟨_,rfl⟩
    rw [hj] at ht
    rw [<-hl,hj] at hc
    match j with
    | 0=>simp at ht hc;subst ht;subst hc;exact h2.mono λ w ho=>ho.sep.map Sa
    | j+1=>simp at ht
theorem Ps.listE (B:Wn) (gs:Nat) (q:Sq) (a d:Nat) (hq:q.L.length<2^27) (ha:a<=q.L.length) (fg:FuncId) (fn:Func) (hf:Tryz.prog.funcs[fg]? = some fn) (hn:(fn.name == "runtime.NumGoroutine")=false) (hb:fn.body.isNone=false) (read:EP) (hr:ExpC B gs q d fg read):FnE Tryz.prog B 84 #[pV gs,.func (.func fg) #[pV gs] #[]] [srB gs q a d,srT q]
  (λ u l => ∃ (x:List Ex) (b:Nat) (p:Option Addr) (c:Nat) (A:Wp) (css:List C5),listR q read a = .ok (x,b)/\a<b/\b<=q.L.length/\u = .slice p x.length c/\(0<x.length -> ∃ g,p=some ⟨g,0,none⟩)/\css.length=x.length/\(∀ (i:Nat) (t:Ex) (c:C5),x[i]? = some t->css[i]? = some c->ExV B [A] t c)/\l=[row (.slice p x.length c) 76 5 x.length (css.flatMap c5),A,srB gs q b d,srT q]) (Xm (listR q read a)):=by
 refine FnE.enter2 18 Tryz.func84 rfl rfl (nB rfl) (λ F=>?_)
 try simp only [cA,nA]
 refine Ts ?_
 refine TR ?_
 refine La rfl ?_
 refine Ld ?_
 refine Ts ?_
 refine TR ?_
 refine Lm rfl ?_
 refine LW.p rfl (Ee.callF [] [pV gs] (hr a ha) hf hn hb rfl rfl rfl (by exact (λ pv ⟨e,he,hp⟩=>FnEPost.dead ⟨e,(by unfold listR;rw [he]),hp⟩ Sa)) ?_)
 rintro _ _ ⟨n,b,A,c,hnn,hab,hbl,rfl,hv,rfl⟩
 try simp only [cA,nA]
 obtain ⟨o1,n1,x1,f1,a1,m1,k1,rfl⟩:=hv.form
 refine Le (zK [_,_,_,_,_] (e:=76) (sz:=5) ⟨.agg #[.string .empty,.int .i64 0,.string .empty,.string .empty,.slice none 0 0],by kernel_rfl,rfl⟩ rfl rfl rfl ?_)
 intro g8
 refine LW.conv (l':=row (.slice (some ⟨g8,0,none⟩) 1 1) 76 5 1 ([(⟨tV o1,iV n1,tV x1,tV f1,.slice a1 m1 k1⟩:C5)].flatMap c5)::_) (λ w ho=>ho.blk_row (sz:=5) (n:=1) rfl (by unfold maxLen;omega)) ?_
 refine La rfl ?_
 refine Ld ?_
 refine Ts ?_
 refine yH ?_
 refine zG (λ mz fz lz => ∃ (f0:Fr) (fu b:Nat) (xs:List Ex) (css:List C5) (A:Wp) (p:Option Addr) (l0 c0:Nat),(a<b/\b<=q.L.length/\q.L.length<b+fu/\listR q read a=lstR q read fu xs b/\xs.length=l0/\0<l0/\l0<=b/\(0<l0 -> ∃ g,p=some ⟨g,0,none⟩)/\css.length=l0/\(∀ (i:Nat) (t:Ex) (c:C5),xs[i]? = some t->css[i]? = some c->ExV B [A] t c))/\mz=q.L.length-b/\fz=(upd (upd (upd f0 0 (pV gs)) 1 (.func (.func fg) #[pV gs] #[])) 5 (.slice p l0 c0))/\lz=row (.slice p l0 c0) 76 5 l0 (css.flatMap c5)::A::srB gs q b d::srT q::F) ?_ ?_
 . refine ⟨_,_,⟨_,q.L.length+1,b,[n],[⟨tV o1,iV n1,tV x1,tV f1,.slice a1 m1 k1⟩],A,some ⟨g8,0,none⟩,1,1,⟨by omega,by omega,by omega,by unfold listR;rw [hnn],rfl,by omega,by omega,λ _=>⟨_,rfl⟩,rfl,ExVs.one hv⟩,rfl,(Za rfl (Za rfl (Za rfl rfl))),rfl⟩,Sa⟩
 rintro mz fz lz ⟨f0,fu,b,xs,css,A,p,l0,c0,⟨hab,hbl,hfu,hli,hxl,hl0,hlb,hp,hcl,hvs⟩,hmz,rfl,rfl⟩
 subst mz
 refine Ts ?_
 refine Ts ?_
 refine TR ?_
 refine Lm rfl ?_
 refine Le (zK [_] (e:=9) (sz:=1) ⟨.string .empty,by kernel_rfl,rfl⟩ rfl rfl rfl ?_)
 intro g10
 refine Le (Ec (Ps.may B [blk g10 [.string ⟨#[44]⟩] 9] gs q b d (some ⟨g10,0,none⟩) 1 1 [[44]] rfl (FlV.blk (x:=[[44]]) (g:=sC) rfl)) Tryz.func47 rfl rfl rfl ?_)
 rintro _ _ ⟨rfl,rfl⟩
 try simp only [cA,nA]
 by_cases h1:oneT q.L b [44]=true
 .
  have hbl1:=oneT_lt h1
  rw [mayA_one,if_pos h1]
  dsimp only [Option.isSome,Option.getD]
  obtain ⟨fu,rfl⟩ : ∃ z,fu=z+1:=⟨fu-1,by omega⟩
  rw [lstR_succ,if_pos h1] at hli
  refine Ld ?_
  refine zF rfl ?_
  refine Tk ?_
  refine yH ?_
  refine TR ?_
  refine Lm rfl ?_
  refine Lm rfl ?_
  refine LW.p rfl (Ee.callF [] [pV gs] (hr (b+1) (by omega)) hf hn hb rfl rfl rfl (by exact (λ pv ⟨e,he,hp⟩=>FnEPost.dead ⟨e,(by rw [hli,he]),hp⟩ Sa)) ?_)
  rintro _ _ ⟨n2,b2,A2,c2,hn2,hab2,hbl2,rfl,hv2,rfl⟩
  try simp only [cA,nA]
  obtain ⟨o3,n3,x3,f3,a3,m3,k3,rfl⟩:=hv2.form
  refine Le (zK [_,_,_,_,_] (e:=76) (sz:=5) ⟨.agg #[.string .empty,.int .i64 0,.string .empty,.string .empty,.slice none 0 0],by kernel_rfl,rfl⟩ rfl rfl rfl ?_)
  intro g15
  rw [hn2] at hli
  dsimp only at hli
  have hvs2:=ExVs.snoc (hxl.trans hcl.symm) hvs hv2
  refine Le (Ea Ps.elemE rfl rfl (SrcOf.blk (by kernel_rfl) rfl (by simp [Value.oneCell'])) (by unfold maxLen;omega) ?_)
  rintro p4 c4 hp4
  try simp only [cA,nA]
  rw [show css.flatMap c5++[tV o3,iV n3,tV x3,tV f3,.slice a3 m3 k3]=(css++[(⟨tV o3,iV n3,tV x3,tV f3,.slice a3 m3 k3⟩:C5)]).flatMap c5 by simp]
  refine La rfl ?_
  refine Ld ?_
  refine ⟨_,?_,_,⟨_,fu,b2,xs++[n2],css++[⟨tV o3,iV n3,tV x3,tV f3,.slice a3 m3 k3⟩],sepL [A,A2],p4,l0+1,c4,⟨by omega,by omega,by omega,hli,by simp [hxl],by omega,by omega,hp4,by simp [hcl],hvs2⟩,rfl,(Za rfl (Za rfl (Za rfl rfl))),rfl⟩,Sa⟩
  omega
 rw [lstR_end h1] at hli
 rw [mayA_one,if_neg h1]
 dsimp only [Option.isSome,Option.getD]
 refine Ld ?_
 refine yQ rfl ?_
 subst hxl
 refine zB ?_
 refine Ts ?_
 refine TR ?_
 refine Lm rfl ?_
 refine La rfl ?_
 refine Ld ?_
 refine T.ret ?_
 exact ⟨.inl rfl,_,_,res [_] rfl ⟨rvT rfl,trivial⟩,⟨xs,b,p,c0,A,css,hli,hab,hbl,rfl,hp,hcl,hvs,rfl⟩,Sa⟩
open Go.RowKit
theorem mayA_le {L:List Tok} {a:Nat} {t:Str} (h:a<=L.length):a<=(mayA L a [t]).getD a/\(mayA L a [t]).getD a<=L.length:=by
  rw [mayA_one]
  split
  . rename_i k;have:=oneT_lt k;exact ⟨by simp,by simp;omega⟩
  . exact ⟨Nat.le_refl _,h⟩
def headQ (q:Sq) (a:Nat):PE Nat:=if oneT q.L a [42]=true then .ok (a+1)
  else if oneT q.L a [67,79,85,78,84]=true then .ok (a+1)
  else if oneT q.L a [83,85,77]=true then (match nameR q (a+1) with
    | .error x => .error x
    | .ok x => .ok x.2)
  else match listR q (itemR q) a with
    | .error x => .error x
    | .ok x => .ok x.2
def tabsQ (q:Sq) (a:Nat):PE Nat:=match mustA q a [[70,82,79,77]] with
  | .error x => .error x
  | .ok b=>match nameR q b with
    | .error x => .error x
    | .ok x=>if oneT q.L x.2 [44]=true then (match nameR q (x.2+1) with
        | .error x => .error x
        | .ok y => .ok y.2)
      else .ok x.2
def queryR (q:Sq) (a:Nat):PE (List Ex×Nat):=match mustA q a [[83,69,76,69,67,84]] with
  | .error x => .error x
  | .ok a1=>match headQ q ((mayA q.L a1 [[67,79,65,76,69,83,67,69]]).getD a1) with
    | .error x => .error x
    | .ok a2=>match tabsQ q a2 with
      | .error x => .error x
      | .ok a3=>whereR q a3
theorem Ps.query (B:Wn) (gs:Nat) (q:Sq) (a:Nat) (hq:q.L.length<2^26) (ha:a<=q.L.length) (hx : ∀ x∈q.L,x.text.length<2^40):FnE Tryz.prog B 132 #[pV gs] [srB gs q a 0,srT q]
  (λ u l => ∃ (x:List Ex) (b:Nat) (A:Wp) (v0 v1 v2:Bool) (s:ByteArray) (pi:Option Addr) (li ci:Nat) (pt:Option Addr) (lt ct:Nat) (pw:Option Addr) (cw:Nat),queryR q a = .ok (x,b)/\a<b/\b<=q.L.length/\u = .agg #[.bool v0,.bool v1,.bool v2,.string s,.slice pi li ci,.slice pt lt ct,.slice pw x.length cw]/\ExL B [A] (.slice pw x.length cw) x/\l=[A,srB gs q b 0,srT q]) (Xm (queryR q a)):=by
 refine FnE.enter1 54 Tryz.func132 rfl rfl (nB rfl) (λ F=>?_)
 try simp only [cA,nA]
 refine Ts ?_
 refine TR ?_
 refine Le (El [.bool false,.bool false,.bool false,.string .empty,.slice none 0 0,.slice none 0 0,.slice none 0 0] (by unfold Zf;kernel_rfl) ?_)
 intro g2
 refine Ld ?_
 refine Ts ?_
 refine TR ?_
 refine Le (El [.bool false,.bool false,.bool false,.string .empty,.slice none 0 0,.slice none 0 0,.slice none 0 0] (by unfold Zf;kernel_rfl) ?_)
 intro g3
 refine Ld ?_
 refine Ts ?_
 refine TR ?_
 refine Lm rfl ?_
 refine Le (zK [_] (e:=9) (sz:=1) ⟨.string .empty,by kernel_rfl,rfl⟩ rfl rfl rfl ?_)
 intro g5
 refine LW.p rfl (Ee.call (Ps.must B [blk g5 [.string ⟨#[83,69,76,69,67,84]⟩] 9] gs q a 0 (by omega) (by omega) (some ⟨g5,0,none⟩) 1 1 [[83,69,76,69,67,84]] rfl (by omega) (FlV.blk (x:=[[83,69,76,69,67,84]]) (g:=sC) rfl)) Tryz.func80 rfl rfl rfl (by exact (λ pv ⟨e,he,hp⟩=>FnEPost.dead ⟨e,(by unfold queryR;rw [he]),hp⟩ Sa)) ?_)
 rintro _ _ ⟨a1,hm,rfl,rfl⟩
 try simp only [cA,nA]
 refine Ld ?_
 refine Ts ?_
 refine TR ?_
 refine Lm rfl ?_
 refine Le (zK [_] (e:=9) (sz:=1) ⟨.string .empty,by kernel_rfl,rfl⟩ rfl rfl rfl ?_)
 intro g8
 obtain ⟨ha1,hal⟩:=mustA_one hm
 refine Le (Ec (Ps.may B [blk g8 [.string ⟨#[67,79,65,76,69,83,67,69]⟩] 9] gs q a1 0 (some ⟨g8,0,none⟩) 1 1 [[67,79,65,76,69,83,67,69]] rfl (FlV.blk (x:=[[67,79,65,76,69,83,67,69]]) (g:=sC) rfl)) Tryz.func47 rfl rfl rfl ?_)
 rintro _ _ ⟨rfl,rfl⟩
 try simp only [cA,nA]
 refine Lq (Q0 rfl) ?_
 refine L0 (E1 rfl rfl rfl (by first | (simp;done) | (simp;omega)) ?_)
 try simp only [List.set_cons_zero,List.set_cons_succ]
 refine Ld ?_
 have hle:=mayA_le (t:=[67,79,65,76,69,83,67,69]) (show a1<=q.L.length by omega)
 have hqr:queryR q a=(match headQ q ((mayA q.L a1 [[67,79,65,76,69,83,67,69]]).getD a1) with
  | .error x => .error x
  | .ok a2=>match tabsQ q a2 with
   | .error x => .error x
   | .ok a3=>whereR q a3):=by unfold queryR;rw [hm]
 generalize (mayA q.L a1 [[67,79,65,76,69,83,67,69]]).getD a1=a2 at hle hqr ⊢
 generalize (mayA q.L a1 [[67,79,65,76,69,83,67,69]]).isSome=v0 at hqr ⊢
 refine T.cut (λ fz lz => ∃ (f0:Fr) (b:Nat) (v1 v2:Bool) (s:ByteArray) (pi:Option Addr) (li ci:Nat),(a<b/\b<=q.L.length/\headQ q a2 = .ok b)/\fz=(upd (upd (upd f0 0 (pV gs)) 2 (pV g2)) 3 (pV g3))/\lz=blk g3 [.bool v0,.bool v1,.bool v2,.string s,.slice pi li ci,.slice none 0 0,.slice none 0 0] 91::srB gs q b 0::srT q::blk g2 [.bool false,.bool false,.bool false,.string .empty,.slice none 0 0,.slice none 0 0,.slice none 0 0] 91::F) ?_ ?_
 .
  refine yH ?_
  refine Ts ?_
  refine TR ?_
  refine Lm rfl ?_
  refine Le (zK [_] (e:=9) (sz:=1) ⟨.string .empty,by kernel_rfl,rfl⟩ rfl rfl rfl ?_)
  intro g18
  refine Le (Ec (Ps.may B [blk g18 [.string ⟨#[42]⟩] 9] gs q a2 0 (some ⟨g18,0,none⟩) 1 1 [[42]] rfl (FlV.blk (x:=[[42]]) (g:=sC) rfl)) Tryz.func47 rfl rfl rfl ?_)
  rintro _ _ ⟨rfl,rfl⟩
  try simp only [cA,nA]
  by_cases h1:oneT q.L a2 [42]=true
  .
   have hbl1:=oneT_lt h1
   rw [mayA_one,if_pos h1]
   dsimp only [Option.isSome,Option.getD]
   refine La rfl ?_
   refine Ld ?_
   refine zF rfl ?_
   refine TR ?_
   refine Lq (Qf (off:=1) rfl) ?_
   refine L0 (E1 rfl rfl rfl (by first | (simp;done) | (simp;omega)) ?_)
   try simp only [List.set_cons_zero,List.set_cons_succ]
   refine Ld ?_
   exact ⟨_,⟨_,a2+1,true,false,.empty,none,0,0,⟨by omega,by omega,by unfold headQ;rw [if_pos h1]⟩,(Za rfl (Za rfl (Za rfl rfl))),rfl⟩,Sa⟩
  rw [mayA_one,if_neg h1]
  dsimp only [Option.isSome,Option.getD]
  refine La rfl ?_
  refine Ld ?_
  refine yQ rfl ?_
  refine Ts ?_
  refine TR ?_
  refine Lm rfl ?_
  refine Le (zK [_] (e:=9) (sz:=1) ⟨.string .empty,by kernel_rfl,rfl⟩ rfl rfl rfl ?_)
  intro g23
  refine Le (Ec (Ps.may B [blk g23 [.string ⟨#[67,79,85,78,84]⟩] 9] gs q a2 0 (some ⟨g23,0,none⟩) 1 1 [[67,79,85,78,84]] rfl (FlV.blk (x:=[[67,79,85,78,84]]) (g:=sC) rfl)) Tryz.func47 rfl rfl rfl ?_)
  rintro _ _ ⟨rfl,rfl⟩
  try simp only [cA,nA]
  by_cases h2:oneT q.L a2 [67,79,85,78,84]=true
  .
   have hbl1:=oneT_lt h2
   rw [mayA_one,if_pos h2]
   dsimp only [Option.isSome,Option.getD]
   refine La rfl ?_
   refine Ld ?_
   refine zF rfl ?_
   refine TR ?_
   refine Lq (Qf (off:=2) rfl) ?_
   refine L0 (E1 rfl rfl rfl (by first | (simp;done) | (simp;omega)) ?_)
   try simp only [List.set_cons_zero,List.set_cons_succ]
   refine Ld ?_
   exact ⟨_,⟨_,a2+1,false,true,.empty,none,0,0,⟨by omega,by omega,by unfold headQ;rw [if_neg h1,if_pos h2]⟩,(Za rfl (Za rfl (Za rfl rfl))),rfl⟩,Sa⟩
  rw [mayA_one,if_neg h2]
  dsimp only [Option.isSome,Option.getD]
  refine La rfl ?_
  refine Ld ?_
  refine yQ rfl ?_
  refine Ts ?_
  refine TR ?_
  refine Lm rfl ?_
  refine Le (zK [_] (e:=9) (sz:=1) ⟨.string .empty,by kernel_rfl,rfl⟩ rfl rfl rfl ?_)
  intro g28
  refine Le (Ec (Ps.may B [blk g28 [.string ⟨#[83,85,77]⟩] 9] gs q a2 0 (some ⟨g28,0,none⟩) 1 1 [[83,85,77]] rfl (FlV.blk (x:=[[83,85,77]]) (g:=sC) rfl)) Tryz.func47 rfl rfl rfl ?_)
  rintro _ _ ⟨rfl,rfl⟩
  try simp only [cA,nA]
  by_cases h3:oneT q.L a2 [83,85,77]=true
  .
   have hbl1:=oneT_lt h3
   rw [mayA_one,if_pos h3]
   dsimp only [Option.isSome,Option.getD]
   refine La rfl ?_
   refine Ld ?_
   refine zF rfl ?_
   refine TR ?_
   refine Lm rfl ?_
   refine LW.p rfl (Ee.call (Ps.name B gs q (a2+1) 0 (by omega) (by omega) hx) Tryz.func79 rfl rfl rfl (by exact (λ pv ⟨e,he,hp⟩=>FnEPost.dead ⟨e,(by rw [hqr];unfold headQ;rw [if_neg h1,if_neg h2,if_pos h3,he]),hp⟩ Sa)) ?_)
   rintro _ _ ⟨⟨n,b⟩,hn,rfl,hb,hal2,rfl⟩
   try simp only [cA,nA]
   refine Lq (Qf (off:=3) rfl) ?_
   refine L0 (E1 rfl rfl rfl (by first | (simp;done) | (simp;omega)) ?_)
   try simp only [List.set_cons_zero,List.set_cons_succ]
   refine Ld ?_
   dsimp only at hb
   exact ⟨_,⟨_,b,false,false,Zq n,none,0,0,⟨by omega,by omega,by unfold headQ;rw [if_neg h1,if_neg h2,if_pos h3,hn]⟩,(Za rfl (Za rfl (Za rfl rfl))),rfl⟩,Sa⟩
  rw [mayA_one,if_neg h3]
  dsimp only [Option.isSome,Option.getD]
  refine La rfl ?_
  refine Ld ?_
  refine yQ rfl ?_
  refine TR ?_
  refine Lm rfl ?_
  refine Lm rfl ?_
  refine Lq (Qt.makeFuncF [_] rfl) ?_
  refine LW.p rfl (Ee.call (Ps.listE B gs q a2 0 (by omega) (by omega) 152 _ Tryz.func152 rfl rfl (itemR q) (Ps.item B gs q 0 (by omega) hx)) Tryz.func84 rfl rfl rfl (by exact (λ pv ⟨e,he,hp⟩=>FnEPost.dead ⟨e,(by rw [hqr];unfold headQ;rw [if_neg h1,if_neg h2,if_neg h3,he]),hp⟩ Sa)) ?_)
  rintro _ _ ⟨xs,b,p,c,A,css,hli,hab,hbl,rfl,hp,hcl,hvs,rfl⟩
  try simp only [cA,nA]
  refine Lq (Qf (off:=4) rfl) ?_
  refine L0 (E1 rfl rfl rfl (by first | (simp;done) | (simp;omega)) ?_)
  try simp only [List.set_cons_zero,List.set_cons_succ]
  refine Ld ?_
  exact ⟨_,⟨_,b,false,false,.empty,p,xs.length,c,⟨by omega,hbl,by unfold headQ;rw [if_neg h1,if_neg h2,if_neg h3,hli]⟩,(Za rfl (Za rfl (Za rfl rfl))),rfl⟩,Sa⟩
 rintro fz lz ⟨f0,b,v1,v2,s,pi,li,ci,⟨hab,hbl,hh⟩,rfl,rfl⟩
 rw [hh] at hqr
 dsimp only at hqr
 refine Ts ?_
 refine TR ?_
 refine Lm rfl ?_
 refine Le (zK [_] (e:=9) (sz:=1) ⟨.string .empty,by kernel_rfl,rfl⟩ rfl rfl rfl ?_)
 intro g34
 refine LW.p rfl (Ee.call (Ps.must B [blk g34 [.string ⟨#[70,82,79,77]⟩] 9] gs q b 0 (by omega) (by omega) (some ⟨g34,0,none⟩) 1 1 [[70,82,79,77]] rfl (by omega) (FlV.blk (x:=[[70,82,79,77]]) (g:=sC) rfl)) Tryz.func80 rfl rfl rfl (by exact (λ pv ⟨e,he,hp⟩=>FnEPost.dead ⟨e,(by rw [hqr];unfold tabsQ;rw [he]),hp⟩ Sa)) ?_)
 rintro _ _ ⟨a3,hm3,rfl,rfl⟩
 try simp only [cA,nA]
 refine Ld ?_
 refine Ts ?_
 refine TR ?_
 refine Lm rfl ?_
 obtain ⟨ha3,hal3⟩:=mustA_one hm3
 refine LW.p rfl (Ee.call (Ps.name B gs q a3 0 (by omega) (by omega) hx) Tryz.func79 rfl rfl rfl (by exact (λ pv ⟨e,he,hp⟩=>FnEPost.dead ⟨e,(by rw [hqr];unfold tabsQ;rw [hm3];dsimp only;rw [he]),hp⟩ Sa)) ?_)
 rintro _ _ ⟨⟨n,a4⟩,hn4,rfl,hb4,hal4,rfl⟩
 try simp only [cA,nA]
 refine Le (zK [_] (e:=9) (sz:=1) ⟨.string .empty,by kernel_rfl,rfl⟩ rfl rfl rfl ?_)
 intro g38
 refine LW.conv (l':=row (.slice (some ⟨g38,0,none⟩) 1 1) 9 1 1 ([n].map tV)::_) (λ w ho=>ho.blk_row (sz:=1) (n:=1) rfl (by unfold maxLen;omega)) ?_
 refine Lq (Qf (off:=5) rfl) ?_
 refine L0 (E1 rfl rfl rfl (by first | (simp;done) | (simp;omega)) ?_)
 try simp only [List.set_cons_zero,List.set_cons_succ]
 refine Ld ?_
 refine Ts ?_
 refine Ts ?_
 refine TR ?_
 refine Lm rfl ?_
 refine Le (zK [_] (e:=9) (sz:=1) ⟨.string .empty,by kernel_rfl,rfl⟩ rfl rfl rfl ?_)
 intro g41
 dsimp only at hb4
 refine Le (Ec (Ps.may B [blk g41 [.string ⟨#[44]⟩] 9] gs q a4 0 (some ⟨g41,0,none⟩) 1 1 [[44]] rfl (FlV.blk (x:=[[44]]) (g:=sC) rfl)) Tryz.func47 rfl rfl rfl ?_)
 rintro _ _ ⟨rfl,rfl⟩
 try simp only [cA,nA]
 by_cases h5:oneT q.L a4 [44]=true
 .
  have hbl5:=oneT_lt h5
  rw [mayA_one,if_pos h5]
  dsimp only [Option.isSome,Option.getD]
  refine Ld ?_
  refine zF rfl ?_
  refine T.draw 6 ([blk g3 [.bool v0,.bool v1,.bool v2,.string s,.slice pi li ci,.slice (some ⟨g38,0,none⟩) 1 1,.slice none 0 0] 91]) (nB rfl) ?_
  refine Rq 0 rfl Sa (Qf (off:=5) rfl) ?_
  refine Rq 1 rfl Sa (Ql rfl rfl) ?_
  refine Rq 2 rfl Sa (Qm rfl) ?_
  refine yK 3 ?_
  refine RO.pS rfl rfl (Ee.call (Ps.name B gs q (a4+1) 0 (by omega) (by omega) hx) Tryz.func79 rfl rfl rfl (by exact (λ pv ⟨e,he,hp⟩=>FnEPost.dead ⟨e,(by rw [hqr];unfold tabsQ;rw [hm3];dsimp only;rw [hn4];dsimp only;rw [if_pos h5,he]),hp⟩ Sa)) ?_)
  rintro _ _ ⟨⟨n6,a6⟩,hn6,rfl,hb6,hal6,rfl⟩
  try simp only [cA,nA]
  refine ⟨Sa,?_⟩
  refine yK 4 ?_
  refine z6 rfl (zK [_] (e:=9) (sz:=1) ⟨.string .empty,by kernel_rfl,rfl⟩ rfl rfl rfl ?_)
  intro g47
  refine ⟨Sa,?_⟩
  refine yK 5 ?_
  dsimp only at hb6
  refine zY rfl (Ea Ps.elemS rfl rfl (SrcOf.blk (by kernel_rfl) rfl (by simp [Value.oneCell'])) (by unfold maxLen;omega) ?_)
  rintro p4 c4 hp4
  refine Rd0 (by rfl) ?_
  simp only [dS,dZ,dN]
  refine Lq (Qf (off:=5) rfl) ?_
  refine L0 (E1 rfl rfl rfl (by first | (simp;done) | (simp;omega)) ?_)
  try simp only [List.set_cons_zero,List.set_cons_succ]
  refine Ld ?_
  refine Ts ?_
  refine TR ?_
  refine Lm rfl ?_
  have htq:tabsQ q b = .ok a6:=by unfold tabsQ;rw [hm3];dsimp only;rw [hn4];dsimp only;rw [if_pos h5,hn6]
  rw [htq] at hqr
  dsimp only at hqr
  refine LW.p rfl (Ee.call (Ps.where B gs q a6 (by omega) hx (by omega)) Tryz.func90 rfl rfl rfl (by exact (λ pv ⟨e,he,hp⟩=>FnEPost.dead ⟨e,(by rw [hqr,he]),hp⟩ Sa)) ?_)
  rintro _ _ ⟨x,b7,A,pw,cw,hw,hab7,hbl7,rfl,hxl,rfl⟩
  try simp only [cA,nA]
  refine Lq (Qf (off:=6) rfl) ?_
  refine L0 (E1 rfl rfl rfl (by first | (simp;done) | (simp;omega)) ?_)
  try simp only [List.set_cons_zero,List.set_cons_succ]
  refine Ld ?_
  refine Ts ?_
  refine TR ?_
  refine Lq (QL [_,_,_,_,_,_,_] rfl ⟨rfl,rfl,rfl,rfl,rfl,rfl,rfl,trivial⟩) ?_
  refine L0 (Es [_,_,_,_,_,_,_] rfl rfl rfl rfl (by simp) ?_)
  try simp only [splice,lC,lN,dS,cA,tS,tZ,dZ,nA,aN]
  refine Ld ?_
  refine T.ret ?_
  exact ⟨.inl rfl,_,_,res [_] rfl ⟨rvA [_,_,_,_,_,_,_] rfl ⟨rfl,rfl,rfl,rfl,rfl,rfl,rfl,trivial⟩,trivial⟩,⟨x,b7,A,v0,v1,v2,s,pi,li,ci,_,_,_,pw,cw,by rw [hqr,hw],by omega,hbl7,rfl,hxl,rfl⟩,Sa⟩
 rw [mayA_one,if_neg h5]
 dsimp only [Option.isSome,Option.getD]
 refine Ld ?_
 refine yQ rfl ?_
 have htq:tabsQ q b = .ok a4:=by unfold tabsQ;rw [hm3];dsimp only;rw [hn4];dsimp only;rw [if_neg h5]
 rw [htq] at hqr
 dsimp only at hqr
 refine Tk ?_
 refine Ts ?_
 refine TR ?_
 refine Lm rfl ?_
 refine LW.p rfl (Ee.call (Ps.where B gs q a4 (by omega) hx (by omega)) Tryz.func90 rfl rfl rfl (by exact (λ pv ⟨e,he,hp⟩=>FnEPost.dead ⟨e,(by rw [hqr,he]),hp⟩ Sa)) ?_)
 rintro _ _ ⟨x,b7,A,pw,cw,hw,hab7,hbl7,rfl,hxl,rfl⟩
 try simp only [cA,nA]
 refine Lq (Qf (off:=6) rfl) ?_
 refine L0 (E1 rfl rfl rfl (by first | (simp;done) | (simp;omega)) ?_)
 try simp only [List.set_cons_zero,List.set_cons_succ]
 refine Ld ?_
 refine Ts ?_
 refine TR ?_
 refine Lq (QL [_,_,_,_,_,_,_] rfl ⟨rfl,rfl,rfl,rfl,rfl,rfl,rfl,trivial⟩) ?_
 refine L0 (Es [_,_,_,_,_,_,_] rfl rfl rfl rfl (by simp) ?_)
 try simp only [splice,lC,lN,dS,cA,tS,tZ,dZ,nA,aN]
 refine Ld ?_
 refine T.ret ?_
 exact ⟨.inl rfl,_,_,res [_] rfl ⟨rvA [_,_,_,_,_,_,_] rfl ⟨rfl,rfl,rfl,rfl,rfl,rfl,rfl,trivial⟩,trivial⟩,⟨x,b7,A,v0,v1,v2,s,pi,li,ci,_,_,_,pw,cw,by rw [hqr,hw],by omega,hbl7,rfl,hxl,rfl⟩,Sa⟩
open Go.RowKit
def endR (q:Sq) (c:Nat):PE (Int×Nat):=if oneT q.L c [70,79,82,69,86,69,82]=true then .ok (1099511627776,c+1) else numR q c
def periodR (q:Sq) (a:Nat):PE ((Int×Int)×Nat):=match numR q a with
  | .error x => .error x
  | .ok (f,b)=>match mustA q b [[84,79]] with
    | .error x => .error x
    | .ok c=>match endR q c with
      | .error x => .error x
      | .ok (t,e)=>if f≥t\/t>1099511627776 then .error (40,placeR q.en q.L a) else .ok ((f,t),e)
theorem Ps.period (B:Wn) (gs:Nat) (q:Sq) (a d:Nat) (hq:q.L.length<2^26) (ha:a<=q.L.length):FnE Tryz.prog B 86 #[pV gs] [srB gs q a d,srT q]
  (λ u l => ∃ (f t:Int) (b:Nat),periodR q a = .ok ((f,t),b)/\a<b/\b<=q.L.length/\u = .agg #[iV f,iV t]/\l=[srB gs q b d,srT q]) (Xm (periodR q a)):=by
 refine FnE.enter1 39 Tryz.func86 rfl rfl (nB rfl) (λ F=>?_)
 try simp only [cA,nA]
 refine Ts ?_
 refine TR ?_
 refine Le (El [.int .i64 0,.int .i64 0] (by unfold Zf;kernel_rfl) ?_)
 intro g2
 refine Ld ?_
 refine Ts ?_
 refine TR ?_
 refine Lm rfl ?_
 refine Lq (Qn rfl) ?_
 refine Lq (Qf (off:=1) rfl) ?_
 refine Lq (Ql rfl rfl) ?_
 refine La rfl ?_
 refine Ld ?_
 refine Ts ?_
 refine TR ?_
 refine Lm rfl ?_
 refine LW.p rfl (Ee.call (Ps.number B gs q a d (by omega)) Tryz.func131 rfl rfl rfl (by exact (λ pv ⟨e,he,hp⟩=>FnEPost.dead ⟨e,(by unfold periodR;rw [he]),hp⟩ Sa)) ?_)
 rintro _ _ ⟨⟨f,b⟩,hn,rfl,hb,hal,rfl⟩
 try simp only [cA,nA]
 refine Lq (z8 [(0,1),(1,1)] [.int .i64 0,.int .i64 0] [_,_] [(0,_)] (by unfold Zf;kernel_rfl) rfl rfl) ?_
 refine Le (El [.int .i64 0,.int .i64 0] (by unfold Zf;kernel_rfl) ?_)
 intro g4
 refine L0 (Es [_,_] rfl rfl rfl rfl (by simp) ?_)
 try simp only [splice,lC,lN,dS,cA,tS,tZ,dZ,nA,aN]
 refine Ld ?_
 refine Ts ?_
 refine TR ?_
 refine Lm rfl ?_
 refine Le (zK [_] (e:=9) (sz:=1) ⟨.string .empty,by kernel_rfl,rfl⟩ rfl rfl rfl ?_)
 intro g13
 dsimp only at hb
 refine LW.p rfl (Ee.call (Ps.must B [blk g13 [.string ⟨#[84,79]⟩] 9] gs q b d (by omega) (by omega) (some ⟨g13,0,none⟩) 1 1 [[84,79]] rfl (by omega) (FlV.blk (x:=[[84,79]]) (g:=sC) rfl)) Tryz.func80 rfl rfl rfl (by exact (λ pv ⟨e,he,hp⟩=>FnEPost.dead ⟨e,(by unfold periodR;rw [hn];dsimp only;rw [he]),hp⟩ Sa)) ?_)
 rintro _ _ ⟨c,hm,rfl,rfl⟩
 try simp only [cA,nA]
 refine Ld ?_
 obtain ⟨hc,hbl⟩:=mustA_one hm
 refine T.cut (λ fz lz => ∃ (f0:Fr) (t:Int) (e:Nat),(a<e/\e<=q.L.length/\endR q c = .ok (t,e))/\fz=(upd (upd (upd (upd f0 0 (pV gs)) 2 (pV g2)) 3 (iV a)) 4 (pV g4))/\lz=blk g4 [iV f,iV t] 33::srB gs q e d::srT q::blk g2 [iV 0,iV 0] 33::F) ?_ ?_
 .
  refine Ts ?_
  refine TR ?_
  refine Lm rfl ?_
  refine Le (zK [_] (e:=9) (sz:=1) ⟨.string .empty,by kernel_rfl,rfl⟩ rfl rfl rfl ?_)
  intro g16
  refine Le (Ec (Ps.may B [blk g16 [.string ⟨#[70,79,82,69,86,69,82]⟩] 9] gs q c d (some ⟨g16,0,none⟩) 1 1 [[70,79,82,69,86,69,82]] rfl (FlV.blk (x:=[[70,79,82,69,86,69,82]]) (g:=sC) rfl)) Tryz.func47 rfl rfl rfl ?_)
  rintro _ _ ⟨rfl,rfl⟩
  try simp only [cA,nA]
  by_cases h1:oneT q.L c [70,79,82,69,86,69,82]=true
  .
   have hcl:=oneT_lt h1
   rw [mayA_one,if_pos h1]
   dsimp only [Option.isSome,Option.getD]
   refine Ld ?_
   refine zF rfl ?_
   refine TR ?_
   refine Lq (Qf (off:=1) rfl) ?_
   refine L0 (E1 rfl rfl rfl (by first | (simp;done) | (simp;omega)) ?_)
   try simp only [List.set_cons_zero,List.set_cons_succ]
   refine Ld ?_
   exact ⟨_,⟨_,1099511627776,c+1,⟨by omega,by omega,by unfold endR;rw [if_pos h1]⟩,(Za rfl (Za rfl (Za rfl (Za rfl rfl)))),rfl⟩,Sa⟩
  rw [mayA_one,if_neg h1]
  dsimp only [Option.isSome,Option.getD]
  refine Ld ?_
  refine yQ rfl ?_
  refine TR ?_
  refine Lm rfl ?_
  refine LW.p rfl (Ee.call (Ps.number B gs q c d (by omega)) Tryz.func131 rfl rfl rfl (by exact (λ pv ⟨e,he,hp⟩=>FnEPost.dead ⟨e,(by unfold periodR;rw [hn];dsimp only;rw [hm];dsimp only;unfold endR;rw [if_neg h1,he]),hp⟩ Sa)) ?_)
  rintro _ _ ⟨⟨t,e⟩,hn2,rfl,hb2,hal2,rfl⟩
  try simp only [cA,nA]
  refine Lq (Qf (off:=1) rfl) ?_
  refine L0 (E1 rfl rfl rfl (by first | (simp;done) | (simp;omega)) ?_)
  try simp only [List.set_cons_zero,List.set_cons_succ]
  refine Ld ?_
  dsimp only at hb2
  exact ⟨_,⟨_,t,e,⟨by omega,by omega,by unfold endR;rw [if_neg h1];exact hn2⟩,(Za rfl (Za rfl (Za rfl (Za rfl rfl)))),rfl⟩,Sa⟩
 rintro fz lz ⟨f0,t,e,⟨hae,hel,hen⟩,rfl,rfl⟩
 have hpr:periodR q a=(if f≥t\/t>1099511627776 then .error (40,placeR q.en q.L a) else .ok ((f,t),e)):=by unfold periodR;rw [hn];dsimp only;rw [hm];dsimp only;rw [hen]
 refine Ts ?_
 refine Ts ?_
 refine TR ?_
 refine Lq (Q0 rfl) ?_
 refine Lq (Ql rfl rfl) ?_
 refine Lq (Qf (off:=1) rfl) ?_
 refine Lq (Ql rfl rfl) ?_
 refine Lq (zX rfl rfl) ?_
 refine Lm rfl ?_
 refine zZ (t:=27) rfl (λ h1=>?_) (λ h1=>?_)
 .
  try replace h1:=of_decide_eq_true h1
  rw [if_pos (.inl (by omega))] at hpr
  refine Ls rfl ?_
  refine Ls rfl ?_
  refine Ls rfl ?_
  refine Lq (Qp rfl rfl) ?_
  refine Ld ?_
  refine zF rfl ?_
  refine Ts ?_
  refine TR ?_
  refine Lm rfl ?_
  refine Lm rfl ?_
  refine Lq (Qn rfl) ?_
  refine Lq (Qf (off:=1) rfl) ?_
  refine L0 (E1 rfl rfl rfl (by first | (simp;done) | (simp;omega)) ?_)
  try simp only [List.set_cons_zero,List.set_cons_succ]
  refine Ld ?_
  refine TR ?_
  refine Lm rfl ?_
  refine LW.p rfl (Ee.call (Ps.fail B gs q a d (by omega) 40) Tryz.func48 rfl rfl rfl (by exact (λ pv ⟨e,he,hp⟩=>FnEPost.dead ⟨e,(by rw [hpr];cases he;rfl),hp⟩ Sa)) ?_)
  rintro _ _ hF
  exact hF.elim
 try replace h1:=of_decide_eq_false h1
 refine Lq (Qf (off:=1) rfl) ?_
 refine Lq (Ql rfl rfl) ?_
 refine Lq (yZ rfl rfl) ?_
 refine Lq (Qp rfl rfl) ?_
 refine Ld ?_
 refine yN rfl (λ h2=>?_) (λ h2=>?_)
 .
  rw [if_pos (.inr (by omega))] at hpr
  refine Ts ?_
  refine TR ?_
  refine Lm rfl ?_
  refine Lm rfl ?_
  refine Lq (Qn rfl) ?_
  refine Lq (Qf (off:=1) rfl) ?_
  refine L0 (E1 rfl rfl rfl (by first | (simp;done) | (simp;omega)) ?_)
  try simp only [List.set_cons_zero,List.set_cons_succ]
  refine Ld ?_
  refine TR ?_
  refine Lm rfl ?_
  refine LW.p rfl (Ee.call (Ps.fail B gs q a d (by omega) 40) Tryz.func48 rfl rfl rfl (by exact (λ pv ⟨e,he,hp⟩=>FnEPost.dead ⟨e,(by rw [hpr];cases he;rfl),hp⟩ Sa)) ?_)
  rintro _ _ hF
  exact hF.elim
 rw [if_neg (by omega)] at hpr
 refine Tk ?_
 refine Ts ?_
 refine TR ?_
 refine Lq (QL [_,_] rfl ⟨rfl,rfl,trivial⟩) ?_
 refine L0 (Es [_,_] rfl rfl rfl rfl (by simp) ?_)
 try simp only [splice,lC,lN,dS,cA,tS,tZ,dZ,nA,aN]
 refine Ld ?_
 refine T.ret ?_
 exact ⟨.inl rfl,_,_,res [_] rfl ⟨rvA [_,_] rfl ⟨rfl,rfl,trivial⟩,trivial⟩,⟨f,t,e,hpr,hae,hel,rfl,rfl⟩,Sa⟩
open Go.RowKit
theorem Ps.elemQ : ElemOk Tryz.prog 64 91 7 96 := .mk' (.agg #[.bool false,.bool false,.bool false,.string .empty,.slice none 0 0,.slice none 0 0,.slice none 0 0]) Tryz.underlying64 (by kernel_rfl) rfl (by omega)
def unsL : List Str:=[[85,78,73,79,78],[69,88,67,69,80,84]]
def unR (q:Sq):Nat->Nat->Nat->PE (Nat×Nat)
  | 0,n,b => .ok (n,b)
  | f+1,n,b=>if isT q.L b 1 unsL=true then match queryR q (b+1) with
      | .error x => .error x
      | .ok x=>unR q f (n+1) x.2
    else .ok (n,b)
theorem unR_succ {q:Sq} {f n b:Nat}:unR q (f+1) n b=if isT q.L b 1 unsL=true then match queryR q (b+1) with
      | .error x => .error x
      | .ok x=>unR q f (n+1) x.2
    else .ok (n,b):=rfl
theorem unR_end {q:Sq} {f n b:Nat} (h : ¬ isT q.L b 1 unsL=true):unR q f n b = .ok (n,b):=by
  unfold unR
  split
  . rfl
  . rw [if_neg h]
def asR (q:Sq) (c:Nat):PE (Nat×Nat):=if oneT q.L c [65,83]=true then match mustA q (c+1) [[79,70]] with
    | .error x => .error x
    | .ok e=>match numR q e with
      | .error x => .error x
      | .ok x => .ok (1,x.2)
  else .ok (0,c)
def durR (q:Sq) (c:Nat):PE (Nat×Nat):=if oneT q.L c [65,84]=true then
    if isT q.L (c+1) 2 []=true/\((match q.L[c+1]? with | some y=>y.int | none=>0):Int)≥1099511627776 then .error (40,placeR q.en q.L (c+1))
    else match numR q (c+1) with
      | .error x => .error x
      | .ok x => .ok (1,x.2)
  else if oneT q.L c [68,85,82,73,78,71]=true then match periodR q (c+1) with
      | .error x => .error x
      | .ok x => .ok (1,x.2)
  else .ok (0,c)
def ordR (q:Sq) (c:Nat):PE (Nat×Nat):=if oneT q.L c [79,82,68,69,82]=true then match mustA q (c+1) [[66,89]] with
    | .error x => .error x
    | .ok e=>match listR q (nameR q) e with
      | .error x => .error x
      | .ok x => .ok (x.1.length,x.2)
  else .ok (0,c)
structure SelM where
  wh:List Ex
  n:Nat
  k:Nat
  m:Nat
  o:Nat
def selR (q:Sq) (a:Nat):PE (SelM×Nat):=match queryR q a with
  | .error x => .error x
  | .ok (wh,b)=>match unR q (q.L.length+1) 1 b with
    | .error x => .error x
    | .ok (n,c)=>match asR q c with
      | .error x => .error x
      | .ok (k,d)=>match durR q d with
        | .error x => .error x
        | .ok (m,e)=>match ordR q e with
          | .error x => .error x
          | .ok (o,g) => .ok (⟨wh,n,k,m,o⟩,g)
def QryV (B:Wn) (A:Wp) (wh:List Ex) (C:List Value):Prop := ∃ (v0 v1 v2:Bool) (s:ByteArray) (pi:Option Addr) (li ci:Nat) (pt:Option Addr) (lt ct:Nat) (pw:Option Addr) (cw:Nat),C=[.bool v0,.bool v1,.bool v2,.string s,.slice pi li ci,.slice pt lt ct,.slice pw wh.length cw]/\ExL B [A] (.slice pw wh.length cw) wh
abbrev stC (vq vo va vd vr:Value):List Value:=[.string ⟨#[83,69,76,69,67,84]⟩,.string .empty,.slice none 0 0,.slice none 0 0,.slice none 0 0,.slice none 0 0,iV 0,iV 0,.slice none 0 0,vq,vo,va,vd,vr]
abbrev zSt : List Value:=[.string .empty,.string .empty,.slice none 0 0,.slice none 0 0,.slice none 0 0,.slice none 0 0,iV 0,iV 0,.slice none 0 0,.slice none 0 0,.slice none 0 0,.slice none 0 0,.slice none 0 0,.slice none 0 0]
theorem Ps.selects (B:Wn) (gs:Nat) (q:Sq) (a:Nat) (hq:q.L.length<2^25) (ha:a<=q.L.length) (hx : ∀ x∈q.L,x.text.length<2^40):FnE Tryz.prog B 92 #[pV gs] [srB gs q a 0,srT q]
  (λ u l => ∃ (x:SelM) (b:Nat) (A:Wp) (C:List Value) (pq:Option Addr) (cq:Nat) (po:Option Addr) (no co:Nat) (pa:Option Addr) (ca:Nat) (pd:Option Addr) (cd:Nat) (pr:Option Addr) (cr:Nat),selR q a = .ok (x,b)/\a<b/\b<=q.L.length/\u = .agg (stC (.slice pq x.n cq) (.slice po no co) (.slice pa x.k ca) (.slice pd x.m cd) (.slice pr x.o cr)).toArray/\(x.n=1->QryV B A x.wh C)/\(0<x.n -> ∃ g,pq=some ⟨g,0,none⟩)/\l=[row (.slice pq x.n cq) 91 7 x.n C,A,srB gs q b 0,srT q]) (Xm (selR q a)):=by
 obtain ⟨p,qc,qe,L⟩:=q
 dsimp only at hq ha hx
 dsimp only [srB,srT]
 have hsl : ∀ w,Own B w [tkR p L.length qc L]->(0<L.length -> ∃ g,p=some ⟨g,0,none⟩):=λ w ho=>(ho.slice_at (p:=p) (m:=L.length) (c:=qc)).2.1
 refine FnE.enter1 102 Tryz.func92 rfl rfl (nB rfl) (λ F=>?_)
 try simp only [cA,nA]
 refine Ts ?_
 refine TR ?_
 refine Le (El [.string .empty,.string .empty,.slice none 0 0,.slice none 0 0,.slice none 0 0,.slice none 0 0,.int .i64 0,.int .i64 0,.slice none 0 0,.slice none 0 0,.slice none 0 0,.slice none 0 0,.slice none 0 0,.slice none 0 0] (by unfold Zf;kernel_rfl) ?_)
 intro g2
 refine Ld ?_
 refine Ts ?_
 refine TR ?_
 refine Lm rfl ?_
 refine LW.p rfl (Ee.call (Ps.query B gs ⟨p,qc,qe,L⟩ a (by dsimp only;omega) ha hx) Tryz.func132 rfl rfl rfl (by exact (λ pv ⟨e,he,hp⟩=>FnEPost.dead ⟨e,(by unfold selR;rw [he]),hp⟩ Sa)) ?_)
 rintro _ _ ⟨wh,b0,A,v0,v1,v2,s,pi,li,ci,pt,lt,ct,pw,cw,hqr,hab,hbl,rfl,hxl,rfl⟩
 try simp only [cA,nA]
 refine Le (zK [_,_,_,_,_,_,_] (e:=91) (sz:=7) ⟨.agg #[.bool false,.bool false,.bool false,.string .empty,.slice none 0 0,.slice none 0 0,.slice none 0 0],by kernel_rfl,rfl⟩ rfl rfl rfl ?_)
 intro g7
 refine LW.conv (l':=row (.slice (some ⟨g7,0,none⟩) 1 1) 91 7 1 [.bool v0,.bool v1,.bool v2,.string s,.slice pi li ci,.slice pt lt ct,.slice pw wh.length cw]::_) (λ w ho=>ho.blk_row (sz:=7) (n:=1) rfl (by unfold maxLen;omega)) ?_
 refine Lq (z8 [(0,1),(1,1),(2,1),(3,1),(4,1),(5,1),(6,2),(8,1),(9,1),(10,1),(11,1),(12,1),(13,1)] [.string .empty,.string .empty,.slice none 0 0,.slice none 0 0,.slice none 0 0,.slice none 0 0,.int .i64 0,.int .i64 0,.slice none 0 0,.slice none 0 0,.slice none 0 0,.slice none 0 0,.slice none 0 0,.slice none 0 0] [_,_,_,_,_,_,_,_,_,_,_,_,_,_] [(0,_),(8,_)] (by unfold Zf;kernel_rfl) rfl rfl) ?_
 refine Le (El [.string .empty,.string .empty,.slice none 0 0,.slice none 0 0,.slice none 0 0,.slice none 0 0,.int .i64 0,.int .i64 0,.slice none 0 0,.slice none 0 0,.slice none 0 0,.slice none 0 0,.slice none 0 0,.slice none 0 0] (by unfold Zf;kernel_rfl) ?_)
 intro g3
 refine L0 (Es [_,_,_,_,_,_,_,_,_,_,_,_,_,_] rfl rfl rfl rfl (by simp) ?_)
 try simp only [splice,lC,lN,dS,cA,tS,tZ,dZ,nA,aN]
 refine Ld ?_
 refine Ts ?_
 refine yH ?_
 dsimp only at hbl
 have hqv:QryV B A wh [.bool v0,.bool v1,.bool v2,.string s,.slice pi li ci,.slice pt lt ct,.slice pw wh.length cw]:=⟨v0,v1,v2,s,pi,li,ci,pt,lt,ct,pw,cw,rfl,hxl⟩
 refine T.own λ w ho=>?_
 have hqp:=hsl w (ho.map Sa)
 clear ho
 obtain ⟨uu,hU⟩ : ∃ uu,unR ⟨p,qc,qe,L⟩ (L.length+1) 1 b0=uu:=⟨_,rfl⟩
 refine T.conv (l':=row (.slice none 0 0) 9 1 0 []::_) (λ w ho=>ho.row_nil 9 1) ?_
 refine zG (λ mz fz lz => ∃ (f0:Fr) (fu n b:Nat) (C:List Value) (pq:Option Addr) (cq:Nat) (D:List Value) (po:Option Addr) (no co:Nat),(a<b/\b<=L.length/\L.length<b+fu/\uu=unR ⟨p,qc,qe,L⟩ fu n b/\0<n/\n<=b/\no<n/\(n=1->QryV B A wh C)/\(0<n -> ∃ g,pq=some ⟨g,0,none⟩))/\mz=L.length-b/\fz=(upd (upd (upd f0 0 (pV gs)) 2 (pV g2)) 3 (pV g3))/\lz=blk g3 (stC (.slice pq n cq) (.slice po no co) (.slice none 0 0) (.slice none 0 0) (.slice none 0 0)) 68::row (.slice pq n cq) 91 7 n C::row (.slice po no co) 9 1 no D::A::srB gs ⟨p,qc,qe,L⟩ b 0::srT ⟨p,qc,qe,L⟩::blk g2 zSt 68::F) ?_ ?_
 . refine ⟨_,_,⟨_,L.length+1,1,b0,_,some ⟨g7,0,none⟩,1,[],none,0,0,⟨hab,hbl,by omega,hU.symm,by omega,by omega,by omega,λ _=>hqv,λ _=>⟨_,rfl⟩⟩,rfl,(Za rfl (Za rfl (Za rfl rfl))),rfl⟩,Sa⟩
 rintro mz fz lz ⟨f0,fu,n,b,C,pq,cq,D,po,no,co,⟨hab2,hbl2,hfu,hun,hn0,hnb,hno,hqv2,hpq⟩,hmz,rfl,rfl⟩
 subst mz
 refine Ts ?_
 refine Ts ?_
 refine TR ?_
 refine Lm rfl ?_
 refine Le (ZC [_,_] (e:=9) rfl (by simp [Value.cells]) rfl ?_)
 intro g10
 refine Le (Ec (Ps.is B [blk g10 [.string ⟨#[85,78,73,79,78]⟩,.string ⟨#[69,88,67,69,80,84]⟩] 9] gs ⟨p,qc,qe,L⟩ b 0 (by dsimp only;omega) 1 (some ⟨g10,0,none⟩) 2 2 unsL rfl (FlV.blk (x:=unsL) (g:=sC) rfl)) Tryz.func91 rfl rfl rfl ?_)
 rintro _ _ ⟨rfl,rfl⟩
 try simp only [cA,nA]
 by_cases h1:isT L b 1 unsL=true
 .
  have hlt:=isT_lt h1
  rw [h1]
  refine Ld ?_
  refine zF rfl ?_
  obtain ⟨y,hy⟩ : ∃ y,L[b]? = some y:=⟨_,List.getElem?_eq_getElem hlt⟩
  obtain ⟨fu,rfl⟩ : ∃ z,fu=z+1:=⟨fu-1,by omega⟩
  obtain ⟨gt,rfl⟩:=hqp (by omega)
  rw [unR_succ,if_pos h1] at hun
  refine Tk ?_
  refine yH ?_
  refine Ts ?_
  refine T.draw 15 ([blk g3 (stC (.slice pq n cq) (.slice po no co) (.slice none 0 0) (.slice none 0 0) (.slice none 0 0)) 68,blk gs [.slice (some ⟨gt,0,none⟩) L.length qc,iV b,iV qe,iV 0] 133,tkR (some ⟨gt,0,none⟩) L.length qc L]) (nB rfl) ?_
  refine Rq 0 rfl Sa (Qf (off:=10) rfl) ?_
  refine Rq 1 rfl Sa (Ql rfl rfl) ?_
  refine Rq 2 rfl Sa (Qm rfl) ?_
  refine Rq 3 rfl Sa (Qn rfl) ?_
  refine Rq 4 rfl Sa (Q0 rfl) ?_
  refine Rq 5 rfl Sa (Ql rfl rfl) ?_
  refine Rq 6 rfl Sa (Qm rfl) ?_
  refine Rq 7 rfl Sa (Qn rfl) ?_
  refine Rq 8 rfl Sa (Qf (off:=1) rfl) ?_
  refine Rq 9 rfl Sa (Ql rfl rfl) ?_
  refine Rq 10 rfl Sa (Qi _ (e:=171) (sz:=4) rfl rfl rfl) ?_
  refine Rq 11 rfl Sa (Qf (off:=1) rfl) ?_
  refine Rq 12 rfl Sa (Ql (v:=tV y.text) rfl (tk_cell hy 1 rfl)) ?_
  refine yK 13 ?_
  refine z6 rfl (zK [_] (e:=9) (sz:=1) ⟨.string .empty,by kernel_rfl,rfl⟩ rfl rfl rfl ?_)
  intro g25
  refine ⟨Sa,?_⟩
  refine yK 14 ?_
  refine zY rfl (Ea Ps.elemS rfl rfl (SrcOf.blk (by kernel_rfl) rfl (by simp [Value.oneCell'])) (by unfold maxLen;omega) ?_)
  rintro p4 c4 hp4
  refine Rd0 (by rfl) ?_
  simp only [dS,dZ,dN]
  refine Lq (Qf (off:=10) rfl) ?_
  refine L0 (E1 rfl rfl rfl (by first | (simp;done) | (simp;omega)) ?_)
  try simp only [List.set_cons_zero,List.set_cons_succ]
  refine Ld ?_
  refine Ts ?_
  refine TR ?_
  refine Lm rfl ?_
  refine Lq (Qn rfl) ?_
  refine Lq (Qf (off:=1) rfl) ?_
  refine Lq (Ql rfl rfl) ?_
  refine Lq (Qd (r:=((b+1:Nat):Int)) rfl rfl (by rw [Ze];omega)) ?_
  refine Lq (Qn rfl) ?_
  refine Lq (Qf (off:=1) rfl) ?_
  refine L0 (E1 rfl rfl rfl (by first | (simp;done) | (simp;omega)) ?_)
  try simp only [List.set_cons_zero,List.set_cons_succ]
  refine Ld ?_
  refine T.draw 6 ([blk g3 (stC (.slice pq n cq) (.slice p4 (no+1) c4) (.slice none 0 0) (.slice none 0 0) (.slice none 0 0)) 68]) (nB rfl) ?_
  refine Rq 0 rfl Sa (Qf (off:=9) rfl) ?_
  refine Rq 1 rfl Sa (Ql rfl rfl) ?_
  refine Rq 2 rfl Sa (Qm rfl) ?_
  refine yK 3 ?_
  refine RO.pS rfl rfl (Ee.call (Ps.query B gs ⟨some ⟨gt,0,none⟩,qc,qe,L⟩ (b+1) (by dsimp only;omega) (by dsimp only;omega) hx) Tryz.func132 rfl rfl rfl (by exact (λ pv ⟨e,he,hp⟩=>FnEPost.dead ⟨e,(by unfold selR;rw [hqr];dsimp only;rw [hU,hun,he]),hp⟩ Sa)) ?_)
  rintro _ _ ⟨wh2,b2,A2,v02,v12,v22,s2,pi2,li2,ci2,pt2,lt2,ct2,pw2,cw2,hqr2,hab3,hbl3,rfl,hxl2,rfl⟩
  try simp only [cA,nA]
  refine ⟨Sa,?_⟩
  refine yK 4 ?_
  refine z6 rfl (zK [_,_,_,_,_,_,_] (e:=91) (sz:=7) ⟨.agg #[.bool false,.bool false,.bool false,.string .empty,.slice none 0 0,.slice none 0 0,.slice none 0 0],by kernel_rfl,rfl⟩ rfl rfl rfl ?_)
  intro g39
  refine ⟨Sa,?_⟩
  refine yK 5 ?_
  dsimp only at hbl3
  rw [hqr2] at hun
  dsimp only at hun
  refine zY rfl (Ea Ps.elemQ rfl rfl (SrcOf.blk (by kernel_rfl) rfl (by simp [Value.oneCell'])) (by unfold maxLen;omega) ?_)
  rintro p5 c5' hp5
  refine Rd0 (by rfl) ?_
  simp only [dS,dZ,dN]
  refine Lq (Qf (off:=9) rfl) ?_
  refine L0 (E1 rfl rfl rfl (by first | (simp;done) | (simp;omega)) ?_)
  try simp only [List.set_cons_zero,List.set_cons_succ]
  refine Ld ?_
  refine ⟨_,?_,_,⟨_,fu,n+1,b2,C++[.bool v02,.bool v12,.bool v22,.string s2,.slice pi2 li2 ci2,.slice pt2 lt2 ct2,.slice pw2 wh2.length cw2],p5,c5',D++[tV y.text],p4,no+1,c4,⟨by omega,by omega,by omega,hun,by omega,by omega,by omega,λ h=>absurd h (by omega),hp5⟩,rfl,(Za rfl (Za rfl (Za rfl rfl))),rfl⟩,Sa⟩
  omega
 rw [unR_end h1] at hun
 rw [Bool.not_eq_true] at h1
 rw [h1]
 refine Ld ?_
 refine yQ rfl ?_
 refine zB ?_
 refine T.cut (λ fz lz => ∃ (f0:Fr) (k e:Nat) (pa:Option Addr) (ca:Nat),(a<e/\e<=L.length/\asR ⟨p,qc,qe,L⟩ b = .ok (k,e))/\fz=(upd (upd (upd f0 0 (pV gs)) 2 (pV g2)) 3 (pV g3))/\lz=blk g3 (stC (.slice pq n cq) (.slice po no co) (.slice pa k ca) (.slice none 0 0) (.slice none 0 0)) 68::row (.slice pq n cq) 91 7 n C::A::srB gs ⟨p,qc,qe,L⟩ e 0::srT ⟨p,qc,qe,L⟩::blk g2 zSt 68::F) ?_ ?_
 .
  refine Ts ?_
  refine TR ?_
  refine Lm rfl ?_
  refine Le (zK [_] (e:=9) (sz:=1) ⟨.string .empty,by kernel_rfl,rfl⟩ rfl rfl rfl ?_)
  intro g43
  refine Le (Ec (Ps.may B [blk g43 [.string ⟨#[65,83]⟩] 9] gs ⟨p,qc,qe,L⟩ b 0 (hq:=(by dsimp only;omega)) (some ⟨g43,0,none⟩) 1 1 [[65,83]] rfl (FlV.blk (x:=[[65,83]]) (g:=sC) rfl)) Tryz.func47 rfl rfl rfl ?_)
  rintro _ _ ⟨rfl,rfl⟩
  try simp only [cA,nA]
  by_cases h2:oneT L b [65,83]=true
  .
   have hl2:=oneT_lt h2
   rw [mayA_one,if_pos h2]
   dsimp only [Option.isSome,Option.getD]
   refine Ld ?_
   refine zF rfl ?_
   refine Ts ?_
   refine TR ?_
   refine Lm rfl ?_
   refine Le (zK [_] (e:=9) (sz:=1) ⟨.string .empty,by kernel_rfl,rfl⟩ rfl rfl rfl ?_)
   intro g46
   refine LW.p rfl (Ee.call (Ps.must B [blk g46 [.string ⟨#[79,70]⟩] 9] gs ⟨p,qc,qe,L⟩ (b+1) 0 (by dsimp only;omega) (by omega) (some ⟨g46,0,none⟩) 1 1 [[79,70]] rfl (by omega) (FlV.blk (x:=[[79,70]]) (g:=sC) rfl)) Tryz.func80 rfl rfl rfl (by exact (λ pv ⟨e,he,hp⟩=>FnEPost.dead ⟨e,(by unfold selR;rw [hqr];dsimp only;rw [hU,hun];dsimp only;unfold asR;rw [if_pos h2,he]),hp⟩ Sa)) ?_)
   rintro _ _ ⟨z,hmz,rfl,rfl⟩
   try simp only [cA,nA]
   refine Ld ?_
   refine TR ?_
   refine Lm rfl ?_
   obtain ⟨hz,hzl⟩:=mustA_one hmz
   dsimp only at hzl
   refine LW.p rfl (Ee.call (Ps.number B gs ⟨p,qc,qe,L⟩ z 0 (by dsimp only;omega)) Tryz.func131 rfl rfl rfl (by exact (λ pv ⟨e,he,hp⟩=>FnEPost.dead ⟨e,(by unfold selR;rw [hqr];dsimp only;rw [hU,hun];dsimp only;unfold asR;rw [if_pos h2,hmz];dsimp only;rw [he]),hp⟩ Sa)) ?_)
   rintro _ _ ⟨⟨nz,e⟩,hnz,rfl,hez,hezl,rfl⟩
   try simp only [cA,nA]
   refine Le (zK [_] (e:=2) (sz:=1) ⟨.int .i64 0,by kernel_rfl,rfl⟩ rfl rfl rfl ?_)
   intro g50
   refine Lq (Qf (off:=11) rfl) ?_
   refine L0 (E1 rfl rfl rfl (by first | (simp;done) | (simp;omega)) ?_)
   try simp only [List.set_cons_zero,List.set_cons_succ]
   refine Ld ?_
   dsimp only at hez hezl
   exact ⟨_,⟨_,1,e,some ⟨g50,0,none⟩,1,⟨by omega,by omega,by unfold asR;rw [if_pos h2,hmz];dsimp only;rw [hnz]⟩,(Za rfl (Za rfl (Za rfl rfl))),rfl⟩,Sa⟩
  rw [mayA_one,if_neg h2]
  dsimp only [Option.isSome,Option.getD]
  refine Ld ?_
  refine yQ rfl ?_
  refine Tk ?_
  exact ⟨_,⟨_,0,b,none,0,⟨by omega,by omega,by unfold asR;rw [if_neg h2]⟩,(Za rfl (Za rfl (Za rfl rfl))),rfl⟩,Sa⟩
 rintro fz lz ⟨f0,k,e,pa,ca,⟨hae,hel,has⟩,rfl,rfl⟩
 refine T.cut (λ fz lz => ∃ (f0:Fr) (m e2:Nat) (pd:Option Addr) (cd:Nat),(a<e2/\e2<=L.length/\durR ⟨p,qc,qe,L⟩ e = .ok (m,e2))/\fz=(upd (upd (upd f0 0 (pV gs)) 2 (pV g2)) 3 (pV g3))/\lz=blk g3 (stC (.slice pq n cq) (.slice po no co) (.slice pa k ca) (.slice pd m cd) (.slice none 0 0)) 68::row (.slice pq n cq) 91 7 n C::A::srB gs ⟨p,qc,qe,L⟩ e2 0::srT ⟨p,qc,qe,L⟩::blk g2 zSt 68::F) ?_ ?_
 .
  refine yH ?_
  refine Ts ?_
  refine TR ?_
  refine Lm rfl ?_
  refine Le (zK [_] (e:=9) (sz:=1) ⟨.string .empty,by kernel_rfl,rfl⟩ rfl rfl rfl ?_)
  intro g54
  refine Le (Ec (Ps.may B [blk g54 [.string ⟨#[65,84]⟩] 9] gs ⟨p,qc,qe,L⟩ e 0 (hq:=(by dsimp only;omega)) (some ⟨g54,0,none⟩) 1 1 [[65,84]] rfl (FlV.blk (x:=[[65,84]]) (g:=sC) rfl)) Tryz.func47 rfl rfl rfl ?_)
  rintro _ _ ⟨rfl,rfl⟩
  try simp only [cA,nA]
  by_cases h2:oneT L e [65,84]=true
  .
   have hl2:=oneT_lt h2
   rw [mayA_one,if_pos h2]
   dsimp only [Option.isSome,Option.getD]
   refine La rfl ?_
   refine Ld ?_
   refine zF rfl ?_
   refine Ts ?_
   refine Ts ?_
   refine zW 16 none (nB rfl) ?_
   refine Rq 0 rfl Sa (Qm rfl) ?_
   refine yK 1 ?_
   refine zY rfl (Ec (Ps.is B [] gs ⟨p,qc,qe,L⟩ (e+1) 0 (by dsimp only;omega) 2 none 0 0 [] rfl (FlV.empty _ _)) Tryz.func91 rfl rfl rfl ?_)
   rintro _ _ ⟨rfl,rfl⟩
   try simp only [cA,nA]
   by_cases h3:isT L (e+1) 2 []=true
   .
    have hl3:=isT_lt h3
    obtain ⟨y,hy⟩ : ∃ y,L[e+1]? = some y:=⟨_,List.getElem?_eq_getElem hl3⟩
    obtain ⟨gt,rfl⟩:=hqp (by omega)
    rw [h3]
    refine Rq 2 rfl (Sr _) (Qm rfl) ?_
    refine YY (t:=58) rfl rfl ?_
    refine Rq 3 rfl (Sr _) (Qm rfl) ?_
    refine Rq 4 rfl (Sr _) (Qn rfl) ?_
    refine Rq 5 rfl (Sr _) (Q0 rfl) ?_
    refine Rq 6 rfl (Sr _) (Ql rfl rfl) ?_
    refine Rq 7 rfl (Sr _) (Qm rfl) ?_
    refine Rq 8 rfl (Sr _) (Qn rfl) ?_
    refine Rq 9 rfl (Sr _) (Qf (off:=1) rfl) ?_
    refine Rq 10 rfl (Sr _) (Ql rfl rfl) ?_
    refine Rq 11 rfl (Sr _) (Qi _ (e:=171) (sz:=4) rfl rfl rfl) ?_
    refine Rq 12 rfl (Sr _) (Qf (off:=2) rfl) ?_
    refine Rq 13 rfl (Sr _) (Ql (v:=iV y.int) rfl (tk_cell hy 2 rfl)) ?_
    refine Rq 14 rfl (Sr _) (zX rfl rfl) ?_
    refine Rq 15 rfl (Sr _) (Qp rfl rfl) ?_
    refine Rd0 (by rfl) ?_
    simp only [dS,dZ,dN]
    refine Ld ?_
    refine yN rfl (λ h4=>?_) (λ h4=>?_)
    .
     have hc4:isT L (e+1) 2 []=true/\((match L[e+1]? with | some y=>y.int | none=>0):Int)≥1099511627776:=⟨h3,by rw [hy];exact h4⟩
     refine TR ?_
     refine Lm rfl ?_
     refine LW.p rfl (Ee.call (Ps.fail B gs ⟨some ⟨gt,0,none⟩,qc,qe,L⟩ (e+1) 0 (by dsimp only;omega) 40) Tryz.func48 rfl rfl rfl (by exact (λ pv ⟨e,he,hp⟩=>FnEPost.dead ⟨e,(by unfold selR;rw [hqr];dsimp only;rw [hU,hun];dsimp only;rw [has];dsimp only;unfold durR;rw [if_pos h2,if_pos hc4];cases he;rfl),hp⟩ Sa)) ?_)
     rintro _ _ hF
     exact hF.elim
    have hc4 : ¬ (isT L (e+1) 2 []=true/\((match L[e+1]? with | some y=>y.int | none=>0):Int)≥1099511627776):=λ hc=>h4 (by have:=hc.2;rw [hy] at this;exact this)
    refine Tk ?_
    refine Ts ?_
    refine TR ?_
    refine Lm rfl ?_
    refine LW.p rfl (Ee.call (Ps.number B gs ⟨some ⟨gt,0,none⟩,qc,qe,L⟩ (e+1) 0 (by dsimp only;omega)) Tryz.func131 rfl rfl rfl (by exact (λ pv ⟨e,he,hp⟩=>FnEPost.dead ⟨e,(by unfold selR;rw [hqr];dsimp only;rw [hU,hun];dsimp only;rw [has];dsimp only;unfold durR;rw [if_pos h2,if_neg hc4,he]),hp⟩ Sa)) ?_)
    rintro _ _ ⟨⟨nz,e3⟩,hnz,rfl,hez,hezl,rfl⟩
    try simp only [cA,nA]
    refine La rfl ?_
    refine Ld ?_
    refine TR ?_
    refine Lm rfl ?_
    refine Lm rfl ?_
    refine Lq (Qd rfl rfl rfl) ?_
    refine Lq (z8 [(0,1),(1,1)] [.int .i64 0,.int .i64 0] [_,_] [(0,_),(1,_)] (by unfold Zf;kernel_rfl) rfl rfl) ?_
    refine Le (zK [_,_] (e:=33) (sz:=2) ⟨.agg #[.int .i64 0,.int .i64 0],by kernel_rfl,rfl⟩ rfl rfl rfl ?_)
    intro g80
    refine Lq (Qf (off:=12) rfl) ?_
    refine L0 (E1 rfl rfl rfl (by first | (simp;done) | (simp;omega)) ?_)
    try simp only [List.set_cons_zero,List.set_cons_succ]
    refine Ld ?_
    dsimp only at hez hezl
    exact ⟨_,⟨_,1,e3,some ⟨g80,0,none⟩,1,⟨by omega,by omega,by unfold durR;rw [if_pos h2,if_neg hc4,hnz]⟩,(Za rfl (Za rfl (Za rfl rfl))),rfl⟩,Sa⟩
   have hc4 : ¬ (isT L (e+1) 2 []=true/\((match L[e+1]? with | some y=>y.int | none=>0):Int)≥1099511627776):=λ hc=>h3 hc.1
   rw [Bool.not_eq_true] at h3
   rw [h3]
   refine Rq 2 rfl (Sr _) (Qm rfl) ?_
   refine ZD (t:=58) rfl rfl ?_
   refine yY 3 rfl (Sr _) ?_
   refine yY 4 rfl (Sr _) ?_
   refine yY 5 rfl (Sr _) ?_
   refine yY 6 rfl (Sr _) ?_
   refine yY 7 rfl (Sr _) ?_
   refine yY 8 rfl (Sr _) ?_
   refine yY 9 rfl (Sr _) ?_
   refine yY 10 rfl (Sr _) ?_
   refine yY 11 rfl (Sr _) ?_
   refine yY 12 rfl (Sr _) ?_
   refine yY 13 rfl (Sr _) ?_
   refine yY 14 rfl (Sr _) ?_
   refine Rq 15 rfl (Sr _) (Qp rfl rfl) ?_
   refine Rd0 (by rfl) ?_
   simp only [dS,dZ,dN]
   refine Ld ?_
   refine yQ rfl ?_
   refine Tk ?_
   refine Ts ?_
   refine TR ?_
   refine Lm rfl ?_
   refine LW.p rfl (Ee.call (Ps.number B gs ⟨p,qc,qe,L⟩ (e+1) 0 (by dsimp only;omega)) Tryz.func131 rfl rfl rfl (by exact (λ pv ⟨e,he,hp⟩=>FnEPost.dead ⟨e,(by unfold selR;rw [hqr];dsimp only;rw [hU,hun];dsimp only;rw [has];dsimp only;unfold durR;rw [if_pos h2,if_neg hc4,he]),hp⟩ Sa)) ?_)
   rintro _ _ ⟨⟨nz,e3⟩,hnz,rfl,hez,hezl,rfl⟩
   try simp only [cA,nA]
   refine La rfl ?_
   refine Ld ?_
   refine TR ?_
   refine Lm rfl ?_
   refine Lm rfl ?_
   refine Lq (Qd rfl rfl rfl) ?_
   refine Lq (z8 [(0,1),(1,1)] [.int .i64 0,.int .i64 0] [_,_] [(0,_),(1,_)] (by unfold Zf;kernel_rfl) rfl rfl) ?_
   refine Le (zK [_,_] (e:=33) (sz:=2) ⟨.agg #[.int .i64 0,.int .i64 0],by kernel_rfl,rfl⟩ rfl rfl rfl ?_)
   intro g80
   refine Lq (Qf (off:=12) rfl) ?_
   refine L0 (E1 rfl rfl rfl (by first | (simp;done) | (simp;omega)) ?_)
   try simp only [List.set_cons_zero,List.set_cons_succ]
   refine Ld ?_
   dsimp only at hez hezl
   exact ⟨_,⟨_,1,e3,some ⟨g80,0,none⟩,1,⟨by omega,by omega,by unfold durR;rw [if_pos h2,if_neg hc4,hnz]⟩,(Za rfl (Za rfl (Za rfl rfl))),rfl⟩,Sa⟩
  rw [mayA_one,if_neg h2]
  dsimp only [Option.isSome,Option.getD]
  refine La rfl ?_
  refine Ld ?_
  refine yQ rfl ?_
  refine Ts ?_
  refine TR ?_
  refine Lm rfl ?_
  refine Le (zK [_] (e:=9) (sz:=1) ⟨.string .empty,by kernel_rfl,rfl⟩ rfl rfl rfl ?_)
  intro g84
  refine Le (Ec (Ps.may B [blk g84 [.string ⟨#[68,85,82,73,78,71]⟩] 9] gs ⟨p,qc,qe,L⟩ e 0 (hq:=(by dsimp only;omega)) (some ⟨g84,0,none⟩) 1 1 [[68,85,82,73,78,71]] rfl (FlV.blk (x:=[[68,85,82,73,78,71]]) (g:=sC) rfl)) Tryz.func47 rfl rfl rfl ?_)
  rintro _ _ ⟨rfl,rfl⟩
  try simp only [cA,nA]
  by_cases h3:oneT L e [68,85,82,73,78,71]=true
  .
   have hl3:=oneT_lt h3
   rw [mayA_one,if_pos h3]
   dsimp only [Option.isSome,Option.getD]
   refine La rfl ?_
   refine Ld ?_
   refine zF rfl ?_
   refine TR ?_
   refine Lm rfl ?_
   refine LW.p rfl (Ee.call (Ps.period B gs ⟨p,qc,qe,L⟩ (e+1) 0 (by dsimp only;omega) (by dsimp only;omega)) Tryz.func86 rfl rfl rfl (by exact (λ pv ⟨e,he,hp⟩=>FnEPost.dead ⟨e,(by unfold selR;rw [hqr];dsimp only;rw [hU,hun];dsimp only;rw [has];dsimp only;unfold durR;rw [if_neg h2,if_pos h3,he]),hp⟩ Sa)) ?_)
   rintro _ _ ⟨pf,pt',e3,hpz,hez,hezl,rfl,rfl⟩
   try simp only [cA,nA]
   refine Le (zK [_,_] (e:=33) (sz:=2) ⟨.agg #[.int .i64 0,.int .i64 0],by kernel_rfl,rfl⟩ rfl rfl rfl ?_)
   intro g88
   refine Lq (Qf (off:=12) rfl) ?_
   refine L0 (E1 rfl rfl rfl (by first | (simp;done) | (simp;omega)) ?_)
   try simp only [List.set_cons_zero,List.set_cons_succ]
   refine Ld ?_
   dsimp only at hezl
   exact ⟨_,⟨_,1,e3,some ⟨g88,0,none⟩,1,⟨by omega,by omega,by unfold durR;rw [if_neg h2,if_pos h3,hpz]⟩,(Za rfl (Za rfl (Za rfl rfl))),rfl⟩,Sa⟩
  rw [mayA_one,if_neg h3]
  dsimp only [Option.isSome,Option.getD]
  refine La rfl ?_
  refine Ld ?_
  refine yQ rfl ?_
  refine Tk ?_
  exact ⟨_,⟨_,0,e,none,0,⟨by omega,by omega,by unfold durR;rw [if_neg h2,if_neg h3]⟩,(Za rfl (Za rfl (Za rfl rfl))),rfl⟩,Sa⟩
 rintro fz lz ⟨f0,m,e2,pd,cd,⟨hae2,hel2,hdu⟩,rfl,rfl⟩
 refine T.cut (λ fz lz => ∃ (f0:Fr) (o e3:Nat) (pr:Option Addr) (cr:Nat),(a<e3/\e3<=L.length/\ordR ⟨p,qc,qe,L⟩ e2 = .ok (o,e3))/\fz=(upd (upd (upd f0 0 (pV gs)) 2 (pV g2)) 3 (pV g3))/\lz=blk g3 (stC (.slice pq n cq) (.slice po no co) (.slice pa k ca) (.slice pd m cd) (.slice pr o cr)) 68::row (.slice pq n cq) 91 7 n C::A::srB gs ⟨p,qc,qe,L⟩ e3 0::srT ⟨p,qc,qe,L⟩::blk g2 zSt 68::F) ?_ ?_
 .
  refine Ts ?_
  refine TR ?_
  refine Lm rfl ?_
  refine Le (zK [_] (e:=9) (sz:=1) ⟨.string .empty,by kernel_rfl,rfl⟩ rfl rfl rfl ?_)
  intro g91
  refine Le (Ec (Ps.may B [blk g91 [.string ⟨#[79,82,68,69,82]⟩] 9] gs ⟨p,qc,qe,L⟩ e2 0 (hq:=(by dsimp only;omega)) (some ⟨g91,0,none⟩) 1 1 [[79,82,68,69,82]] rfl (FlV.blk (x:=[[79,82,68,69,82]]) (g:=sC) rfl)) Tryz.func47 rfl rfl rfl ?_)
  rintro _ _ ⟨rfl,rfl⟩
  try simp only [cA,nA]
  by_cases h2:oneT L e2 [79,82,68,69,82]=true
  .
   have hl2:=oneT_lt h2
   rw [mayA_one,if_pos h2]
   dsimp only [Option.isSome,Option.getD]
   refine Ld ?_
   refine zF rfl ?_
   refine Ts ?_
   refine TR ?_
   refine Lm rfl ?_
   refine Le (zK [_] (e:=9) (sz:=1) ⟨.string .empty,by kernel_rfl,rfl⟩ rfl rfl rfl ?_)
   intro g94
   refine LW.p rfl (Ee.call (Ps.must B [blk g94 [.string ⟨#[66,89]⟩] 9] gs ⟨p,qc,qe,L⟩ (e2+1) 0 (by dsimp only;omega) (by omega) (some ⟨g94,0,none⟩) 1 1 [[66,89]] rfl (by omega) (FlV.blk (x:=[[66,89]]) (g:=sC) rfl)) Tryz.func80 rfl rfl rfl (by exact (λ pv ⟨e,he,hp⟩=>FnEPost.dead ⟨e,(by unfold selR;rw [hqr];dsimp only;rw [hU,hun];dsimp only;rw [has];dsimp only;rw [hdu];dsimp only;unfold ordR;rw [if_pos h2,he]),hp⟩ Sa)) ?_)
   rintro _ _ ⟨z,hmz,rfl,rfl⟩
   try simp only [cA,nA]
   refine Ld ?_
   refine TR ?_
   refine Lm rfl ?_
   refine Lm rfl ?_
   refine Lq (Qt.makeFuncF [_] rfl) ?_
   obtain ⟨hz,hzl⟩:=mustA_one hmz
   dsimp only at hzl
   refine LW.p rfl (Ee.call (Ps.listS B gs ⟨p,qc,qe,L⟩ z 0 (by dsimp only;omega) (by dsimp only;omega) hx) Tryz.func128 rfl rfl rfl (by exact (λ pv ⟨e,he,hp⟩=>FnEPost.dead ⟨e,(by unfold selR;rw [hqr];dsimp only;rw [hU,hun];dsimp only;rw [has];dsimp only;rw [hdu];dsimp only;unfold ordR;rw [if_pos h2,hmz];dsimp only;rw [he]),hp⟩ Sa)) ?_)
   rintro _ _ ⟨xs,e3,pr,cr,hli,hez,hezl,rfl,hpr,rfl⟩
   try simp only [cA,nA]
   refine Lq (Qf (off:=13) rfl) ?_
   refine L0 (E1 rfl rfl rfl (by first | (simp;done) | (simp;omega)) ?_)
   try simp only [List.set_cons_zero,List.set_cons_succ]
   refine Ld ?_
   dsimp only at hezl
   exact ⟨_,⟨_,xs.length,e3,pr,cr,⟨by omega,by omega,by unfold ordR;rw [if_pos h2,hmz];dsimp only;rw [hli]⟩,(Za rfl (Za rfl (Za rfl rfl))),rfl⟩,Sa⟩
  rw [mayA_one,if_neg h2]
  dsimp only [Option.isSome,Option.getD]
  refine Ld ?_
  refine yQ rfl ?_
  refine Tk ?_
  exact ⟨_,⟨_,0,e2,none,0,⟨by omega,by omega,by unfold ordR;rw [if_neg h2]⟩,(Za rfl (Za rfl (Za rfl rfl))),rfl⟩,Sa⟩
 rintro fz lz ⟨f0,o,e3,pr,cr,⟨hae3,hel3,hor⟩,rfl,rfl⟩
 refine Ts ?_
 refine TR ?_
 refine Lq (QL [_,_,_,_,_,_,_,_,_,_,_,_,_,_] rfl ⟨rfl,rfl,rfl,rfl,rfl,rfl,rfl,rfl,rfl,rfl,rfl,rfl,rfl,rfl,trivial⟩) ?_
 refine L0 (Es [_,_,_,_,_,_,_,_,_,_,_,_,_,_] rfl rfl rfl rfl (by simp) ?_)
 try simp only [splice,lC,lN,dS,cA,tS,tZ,dZ,nA,aN]
 refine Ld ?_
 refine T.ret ?_
 exact ⟨.inl rfl,_,_,res [_] rfl ⟨rvA [_,_,_,_,_,_,_,_,_,_,_,_,_,_] rfl ⟨rfl,rfl,rfl,rfl,rfl,rfl,rfl,rfl,rfl,rfl,rfl,rfl,rfl,rfl,trivial⟩,trivial⟩,⟨⟨wh,n,k,m,o⟩,e3,A,C,pq,cq,po,no,co,pa,ca,pd,cd,pr,cr,by unfold selR;rw [hqr];dsimp only;rw [hU,hun];dsimp only;rw [has];dsimp only;rw [hdu];dsimp only;rw [hor],hae3,hel3,rfl,hqv2,hpq,rfl⟩,Sa⟩
open Go.RowKit
theorem isT_ne {L:List Tok} {a:Nat} {k:Int} {ts:List Str} {y:Tok} (hy:L[a]? = some y) (h1:ts.isEmpty=false) (h:ts.contains y.text=false):isT L a k ts=false:=by
  unfold isT;rw [hy];simp only [h,h1,Bool.or_false,Bool.and_false]
theorem oneT_ne {L:List Tok} {a:Nat} {t:Str} {y:Tok} (hy:L[a]? = some y) (h:(t == y.text)=false):oneT L a t=false:=by
  have hc:[t].contains y.text=false:=by
    have h' : ¬ y.text=t:=λ e=>by rw [e] at h;simp at h
    simp [h']
  show (isT L a 1 [t] || isT L a 4 [t])=false
  rw [isT_ne hy rfl hc,isT_ne hy rfl hc];rfl
theorem mayA_ne {L:List Tok} {a:Nat} {t:Str} {ts:List Str} {y:Tok} (hy:L[a]? = some y) (h:(t == y.text)=false):mayA L a (t::ts)=none:=by
  rw [mayA_cons,if_neg (by rw [oneT_ne hy h];decide)]
def selW : Str:=[83,69,76,69,67,84]
theorem Ps.statement (B:Wn) (gs:Nat) (q:Sq) (hq:q.L.length<2^25) (hx : ∀ x∈q.L,x.text.length<2^40) (y:Tok) (hy:q.L[0]? = some y) (hyt:y.text=selW):FnE Tryz.prog B 46 #[pV gs] [srB gs q 0 0,srT q]
    (λ u l => ∃ (x:SelM) (b:Nat) (A:Wp) (C:List Value) (pq:Option Addr) (cq:Nat) (po:Option Addr) (no co:Nat) (pa:Option Addr) (ca:Nat) (pd:Option Addr) (cd:Nat) (pr:Option Addr) (cr:Nat),selR q 0 = .ok (x,b)/\0<b/\b<=q.L.length/\u = .agg (stC (.slice pq x.n cq) (.slice po no co) (.slice pa x.k ca) (.slice pd x.m cd) (.slice pr x.o cr)).toArray/\(x.n=1->QryV B A x.wh C)/\(0<x.n -> ∃ g,pq=some ⟨g,0,none⟩)/\l=[row (.slice pq x.n cq) 91 7 x.n C,A,srB gs q b 0,srT q]) (Xm (selR q 0)):=by
  have hne : ∀ t:Str,(t == selW)=false->(t == y.text)=false:=λ t h=>by rw [hyt];exact h
  refine FnE.enter1 133 Tryz.func46 rfl rfl (nB rfl) (λ F=>?_)
  try simp only [cA,nA]
  refine Ts ?_
  refine TR ?_
  refine Le (El [.string .empty,.string .empty,.slice none 0 0,.slice none 0 0,.slice none 0 0,.slice none 0 0,.int .i64 0,.int .i64 0,.slice none 0 0,.slice none 0 0,.slice none 0 0,.slice none 0 0,.slice none 0 0,.slice none 0 0] (by unfold Zf;kernel_rfl) ?_)
  intro g2
  refine Ld ?_
  refine Ts ?_
  refine TR ?_
  refine Le (El [.string .empty,.string .empty,.slice none 0 0,.slice none 0 0,.slice none 0 0,.slice none 0 0,.int .i64 0,.int .i64 0,.slice none 0 0,.slice none 0 0,.slice none 0 0,.slice none 0 0,.slice none 0 0,.slice none 0 0] (by unfold Zf;kernel_rfl) ?_)
  intro g3
  refine Ld ?_
  refine Ts ?_
  refine yH ?_
  refine Ts ?_
  refine TR ?_
  refine Lm rfl ?_
  refine Le (ZC [_,_] (e:=9) rfl (by simp [Value.cells]) rfl ?_)
  intro g8
  refine Le (Ec (Ps.may B [blk g8 [.string ⟨#[67,82,69,65,84,69]⟩,.string ⟨#[84,65,66,76,69]⟩] 9] gs q 0 0 (some ⟨g8,0,none⟩) 2 2 [[67,82,69,65,84,69],[84,65,66,76,69]] rfl (FlV.blk (x:=[[67,82,69,65,84,69],[84,65,66,76,69]]) (g:=sC) rfl)) Tryz.func47 rfl rfl rfl ?_)
  rintro _ _ ⟨rfl,rfl⟩
  try simp only [cA,nA]
  refine La rfl ?_
  refine Ld ?_
  rw [mayA_ne hy (hne _ (by decide))]
  dsimp only [Option.isSome,Option.getD]
  refine yQ rfl ?_
  refine Ts ?_
  refine TR ?_
  refine Lm rfl ?_
  refine Le (zK [_] (e:=9) (sz:=1) ⟨.string .empty,by kernel_rfl,rfl⟩ rfl rfl rfl ?_)
  intro g36
  refine Le (Ec (Ps.may B [blk g36 [.string ⟨#[67,82,69,65,84,69]⟩] 9] gs q 0 0 (some ⟨g36,0,none⟩) 1 1 [[67,82,69,65,84,69]] rfl (FlV.blk (x:=[[67,82,69,65,84,69]]) (g:=sC) rfl)) Tryz.func47 rfl rfl rfl ?_)
  rintro _ _ ⟨rfl,rfl⟩
  try simp only [cA,nA]
  refine La rfl ?_
  refine Ld ?_
  rw [mayA_ne hy (hne _ (by decide))]
  dsimp only [Option.isSome,Option.getD]
  refine yQ rfl ?_
  refine Ts ?_
  refine TR ?_
  refine Lm rfl ?_
  refine Le (zK [_] (e:=9) (sz:=1) ⟨.string .empty,by kernel_rfl,rfl⟩ rfl rfl rfl ?_)
  intro g47
  refine Le (Ec (Ps.may B [blk g47 [.string ⟨#[73,78,83,69,82,84]⟩] 9] gs q 0 0 (some ⟨g47,0,none⟩) 1 1 [[73,78,83,69,82,84]] rfl (FlV.blk (x:=[[73,78,83,69,82,84]]) (g:=sC) rfl)) Tryz.func47 rfl rfl rfl ?_)
  rintro _ _ ⟨rfl,rfl⟩
  try simp only [cA,nA]
  refine La rfl ?_
  refine Ld ?_
  rw [mayA_ne hy (hne _ (by decide))]
  dsimp only [Option.isSome,Option.getD]
  refine yQ rfl ?_
  refine Ts ?_
  refine TR ?_
  refine Lm rfl ?_
  refine Le (zK [_] (e:=9) (sz:=1) ⟨.string .empty,by kernel_rfl,rfl⟩ rfl rfl rfl ?_)
  intro g72
  refine Le (Ec (Ps.may B [blk g72 [.string ⟨#[85,80,68,65,84,69]⟩] 9] gs q 0 0 (some ⟨g72,0,none⟩) 1 1 [[85,80,68,65,84,69]] rfl (FlV.blk (x:=[[85,80,68,65,84,69]]) (g:=sC) rfl)) Tryz.func47 rfl rfl rfl ?_)
  rintro _ _ ⟨rfl,rfl⟩
  try simp only [cA,nA]
  refine La rfl ?_
  refine Ld ?_
  rw [mayA_ne hy (hne _ (by decide))]
  dsimp only [Option.isSome,Option.getD]
  refine yQ rfl ?_
  refine Ts ?_
  refine TR ?_
  refine Lm rfl ?_
  refine Le (zK [_] (e:=9) (sz:=1) ⟨.string .empty,by kernel_rfl,rfl⟩ rfl rfl rfl ?_)
  intro g94
  refine Le (Ec (Ps.may B [blk g94 [.string ⟨#[68,69,76,69,84,69]⟩] 9] gs q 0 0 (some ⟨g94,0,none⟩) 1 1 [[68,69,76,69,84,69]] rfl (FlV.blk (x:=[[68,69,76,69,84,69]]) (g:=sC) rfl)) Tryz.func47 rfl rfl rfl ?_)
  rintro _ _ ⟨rfl,rfl⟩
  try simp only [cA,nA]
  refine La rfl ?_
  refine Ld ?_
  rw [mayA_ne hy (hne _ (by decide))]
  dsimp only [Option.isSome,Option.getD]
  refine yQ rfl ?_
  refine Ts ?_
  refine TR ?_
  refine Lm rfl ?_
  refine Le (ZC [_,_,_] (e:=9) rfl (by simp [Value.cells]) rfl ?_)
  intro g111
  refine Le (Ec (Ps.is B [blk g111 [.string ⟨#[66,69,71,73,78]⟩,.string ⟨#[67,79,77,77,73,84]⟩,.string ⟨#[82,79,76,76,66,65,67,75]⟩] 9] gs q 0 0 (by omega) 1 (some ⟨g111,0,none⟩) 3 3 [[66,69,71,73,78],[67,79,77,77,73,84],[82,79,76,76,66,65,67,75]] rfl (FlV.blk (x:=[[66,69,71,73,78],[67,79,77,77,73,84],[82,79,76,76,66,65,67,75]]) (g:=sC) rfl)) Tryz.func91 rfl rfl rfl ?_)
  rintro _ _ ⟨rfl,rfl⟩
  try simp only [cA,nA]
  refine La rfl ?_
  refine Ld ?_
  rw [isT_ne hy rfl (by rw [hyt];decide)]
  refine yQ rfl ?_
  refine TR ?_
  refine Lm rfl ?_
  refine LW.p rfl (Ee.call (Ps.selects B gs q 0 hq (Nat.zero_le _) hx) Tryz.func92 rfl rfl rfl (by exact (λ pv ⟨e,he,hp⟩=>FnEPost.dead ⟨e,(by rw [he]),hp⟩ Sa)) ?_)
  rintro _ _ ⟨x,b,A,C,pq,cq,po,no,co,pa,ca,pd,cd,pr,cr,hs,hb,hbl,rfl,hqv,hpq,rfl⟩
  try simp only [cA,nA]
  refine L0 (Es [_,_,_,_,_,_,_,_,_,_,_,_,_,_] rfl rfl rfl rfl (by simp) ?_)
  try simp only [splice,lC,lN,dS,cA,tS,tZ,dZ,nA,aN]
  refine Ld ?_
  refine Ts ?_
  refine TR ?_
  refine Lq (QL [_,_,_,_,_,_,_,_,_,_,_,_,_,_] rfl ⟨rfl,rfl,rfl,rfl,rfl,rfl,rfl,rfl,rfl,rfl,rfl,rfl,rfl,rfl,trivial⟩) ?_
  refine L0 (Es [_,_,_,_,_,_,_,_,_,_,_,_,_,_] rfl rfl rfl rfl (by simp) ?_)
  try simp only [splice,lC,lN,dS,cA,tS,tZ,dZ,nA,aN]
  refine Ld ?_
  refine T.ret ?_
  exact ⟨.inl rfl,_,_,res [_] rfl ⟨rvA [_,_,_,_,_,_,_,_,_,_,_,_,_,_] rfl ⟨rfl,rfl,rfl,rfl,rfl,rfl,rfl,rfl,rfl,rfl,rfl,rfl,rfl,rfl,trivial⟩,trivial⟩,⟨x,b,A,C,pq,cq,po,no,co,pa,ca,pd,cd,pr,cr,hs,hb,hbl,rfl,hqv,hpq,rfl⟩,Sa⟩
open Go.RowKit
theorem FnE.fn {P:Program} {B:Wn} {g:FuncId} {args:Array Value} {pre:List Wp} {R:Value->List Wp->Prop} {X:Value->Prop} (h:FnE P B g args pre R X) (hx : ∀ pv,¬ X pv):Fn P B g args pre R:=⟨λ w F ho=>(h.run w F ho).mono λ _ _ k=>k.elim id (λ ⟨v,_,b,_⟩=>absurd b (hx v))⟩
section
variable {P : Program} {B:Wn} {n:Nat} {f:Fr} {l:List Wp} {pv:Value} {t:Option Tmp} {ty:TypeId} {pos:String} {af:Array Edge} {gd:Option (Nat×Bool)}
theorem Dx.callE {g:FuncId} {fn:Func} {args:Array Operand} {ats:Array TypeId} {vs:List Value} {pre F:List Wp} {X:Value->Prop} (hc:FnE P B g vs.toArray pre (λ _ _=>False) X) (hxp : ∀ v,X v->v=pv) (hf:P.funcs[g]? = some fn) (hn:(fn.name == "runtime.NumGoroutine")=false) (hb:fn.body.isNone=false)
    (ha:args.toList.map (ev n f)=vs.map some) [k:TakeL pre l F]:Dx P B n ⟨t,.call ⟨.value (.func g),args,ats⟩,ty,pos,af,gd⟩ f l pv F:=⟨λ w next Q ho hk=>by
  have hav:args.map (evu n f)=vs.toArray:=by
    have:args.toList.map (evu n f)=vs:=by
      have e:=congrArg (List.map (λ o:Option Value=>o.getD undef)) ha
      have e2:(λ x=>evu n f x)=evu n f:=rfl
      simp only [List.map_map,Function.comp_def,Option.getD_some,List.map_id'] at e
      exact e
    rw [<-Array.toList_inj,Array.toList_map]
    simpa using this
  have h0:=hc.run w F ho.takeL
  unfold Oper.wp execOp
  rw [Wk]
  have he:((do let c <-resolve (evu n f) ⟨.value (.func g),args,ats⟩ ty;invoke c.target c.args):Sem Next).run P w = .ok (.enter g vs.toArray) w:=by
    simp only [resolve,hav]
    have hg:evu n f (.func g) = .func (.func g) #[] #[]:=rfl
    have hn' : ¬ fn.name = "runtime.NumGoroutine" := by simpa using hn
    have hb' : ¬ fn.body=none:=λ e=>by rw [e] at hb;cases hb
    simp [hg,Deferred.ofValue,invoke,callFunc,hf,hn',hb']
  rw [he]
  show Calls P g vs.toArray w _
  refine Calls.mono h0 ?_
  rintro e w' (⟨v,l',rfl,hR,ho'⟩ | ⟨pv',rfl,hX,ho'⟩)
  . exact hR.elim
  . obtain rfl:=hxp _ hX
    exact hk w' ho'⟩
end
theorem Ps.calm (B:Wn) (l:List Wp) (g4 g5:Nat) (w:World) (ho:Own B w l):CallsD Tryz.prog 45 (a25 g4 g5) .returning w λ e u' w'=>e = .returned (.tuple #[])/\u' = .returning/\Own B w' l:=by
  refine callsD_of_wpS Tryz.func45 rfl λ c₀ cs hu=>?_
  have he:({tmps:=a25 g4 g5++Array.replicate (13-(a25 g4 g5).size) undef,defers:=[]}:Act)=act 13 _:=enter_eq [_,_] 13 (nB rfl)
  rw [show (Func.ntmps _)=13 from rfl,he]
  apply wpS_seq
  apply wpS_lit
  refine wosn rfl (run_recover w) (by simp [recoverD,hu]) ?_
  refine wosq ho (Qt.assertN (i:=default) (z := .agg [iV 0,iV 0].toArray) (by kernel_rfl) (by kernel_rfl) rfl) ?_
  refine wosq ho (Qm rfl) ?_
  refine wosq ho (Qx rfl rfl) ?_
  refine wosq ho (Qx rfl rfl) ?_
  refine wose ho (El [iV 0,iV 0] (by unfold Zf;kernel_rfl) ?_)
  intro g w1 ho1
  refine wose ho1 (Es [_,_] rfl rfl rfl rfl (by simp) ?_)
  intro w2 ho2
  refine wosq ho2 (Qa rfl) ?_
  refine LS.done ?_
  show (Code.seq _ _).wpS _ _ _ _ _
  apply wpS_seq
  apply wpS_lit
  refine wosq ho2 (Qm rfl) ?_
  refine LS.done ?_
  refine wpS_cond (t:=false) rfl ?_
  simp only [Bool.false_eq_true,if_false]
  refine wpS_of_wp (wp_skip ?_)
  exact ⟨rfl,.returning,by cases c₀;simp only at hu;subst hu;rfl,_,results_none rfl _ _,rfl,rfl,ho2.tl⟩
theorem Ps.catch (B:Wn) (l:List Wp) (g4 g5:Nat) (C4 C5:List Value) (h4:C4.length=14) (h5:C5.length=2) (k a:Int) (w:World) (ho:Own B w (blk g5 C5 70::blk g4 C4 68::l)):CallsD Tryz.prog 45 (a25 g4 g5) (.panicking (chainOf (brk k a))) w λ e u' w'=>e = .returned (.tuple #[])/\u' = .panicking [{v:=brk k a,recovered:=true}]/\Own B w' (blk g5 [iV k,iV a] 70::blk g4 zSt 68::l):=by
 obtain ⟨x0,x1,rfl⟩ : ∃ x0 x1,C5=[x0,x1]:=by
  match C5,h5 with
  | [x,y],_=>exact ⟨x,y,rfl⟩
 obtain ⟨y0,y1,y2,y3,y4,y5,y6,y7,y8,y9,y10,y11,y12,y13,rfl⟩ : ∃ y0 y1 y2 y3 y4 y5 y6 y7 y8 y9 y10 y11 y12 y13,C4=[y0,y1,y2,y3,y4,y5,y6,y7,y8,y9,y10,y11,y12,y13]:=by
  match C4,h4 with
  | [y0,y1,y2,y3,y4,y5,y6,y7,y8,y9,y10,y11,y12,y13],_=>exact ⟨y0,y1,y2,y3,y4,y5,y6,y7,y8,y9,y10,y11,y12,y13,rfl⟩
 refine callsD_of_wpS Tryz.func45 rfl λ c₀ cs hu=>?_
 have he:({tmps:=a25 g4 g5++Array.replicate (13-(a25 g4 g5).size) undef,defers:=[]}:Act)=act 13 _:=enter_eq [_,_] 13 (nB rfl)
 rw [show (Func.ntmps _)=13 from rfl,he]
 apply wpS_seq
 apply wpS_lit
 refine wosr (v:=brk k a) rfl (run_recover w) (by simp only [recoverD,hu];rfl) ?_
 refine wosq ho (Qt.assertY (by kernel_rfl) rfl) ?_
 refine wosq ho (Qm rfl) ?_
 refine wosq ho (Qx rfl rfl) ?_
 refine wosq ho (Qx rfl rfl) ?_
 refine wose ho (El [iV 0,iV 0] (by unfold Zf;kernel_rfl) ?_)
 intro g w1 ho1
 refine wose ho1 (Es [_,_] rfl rfl rfl rfl (by simp) ?_)
 intro w2 ho2
 refine wosq ho2 (Qa rfl) ?_
 refine LS.done ?_
 show (Code.seq _ _).wpS _ _ _ _ _
 apply wpS_seq
 apply wpS_lit
 refine wosq ho2 (Qm rfl) ?_
 refine LS.done ?_
 refine wpS_cond (t:=true) rfl ?_
 simp only [if_true]
 refine wpS_of_wp (wp_mono ((?_:T Tryz.prog B 13 _ (λ e _ l'=>e = .normal/\Sub l' (blk g [iV k,iV a] 129::blk g5 [iV k,iV a] 70::blk g4 zSt 68::l)) _ (blk g [iV k,iV a] 129::blk g5 [x0,x1] 70::blk g4 [y0,y1,y2,y3,y4,y5,y6,y7,y8,y9,y10,y11,y12,y13] 68::l)).run (λ e a' w=>e = .normal/\a'.defers=[]/\Own B w (blk g5 [iV k,iV a] 70::blk g4 zSt 68::l)) w2 ⟨λ e f w l' h ho=>⟨h.1,rfl,(ho.map h.2).tl⟩,λ c a d v w h=>by cases h.1⟩ ho2) ?_)
 .
  refine T.draw 4 ([blk g [iV k,iV a] 129]) (nB rfl) ?_
  refine Rq 0 rfl Sa (z8 [(0,1),(1,1),(2,1),(3,1),(4,1),(5,1),(6,2),(8,1),(9,1),(10,1),(11,1),(12,1),(13,1)] [.string .empty,.string .empty,.slice none 0 0,.slice none 0 0,.slice none 0 0,.slice none 0 0,.int .i64 0,.int .i64 0,.slice none 0 0,.slice none 0 0,.slice none 0 0,.slice none 0 0,.slice none 0 0,.slice none 0 0] [_,_,_,_,_,_,_,_,_,_,_,_,_,_] [] (by unfold Zf;kernel_rfl) rfl rfl) ?_
  refine Rq 1 rfl Sa (Q0 rfl) ?_
  refine Rq 2 rfl Sa (QL [_,_] rfl ⟨rfl,rfl,trivial⟩) ?_
  refine yK 3 ?_
  refine YH rfl (Es [_,_,_,_,_,_,_,_,_,_,_,_,_,_] rfl rfl rfl rfl (by simp) ?_)
  try simp only [splice,lC,lN,dS,cA,tS,tZ,dZ,nA,aN]
  refine ⟨Sa,?_⟩
  refine Rd0 (by rfl) ?_
  simp only [dS,dZ,dN]
  refine L0 (Es [_,_] rfl rfl rfl rfl (by simp) ?_)
  try simp only [splice,lC,lN,dS,cA,tS,tZ,dZ,nA,aN]
  refine Ld ?_
  exact ⟨rfl,(Sa:Sub _ (blk g [iV k,iV a] 129::blk g5 [iV k,iV a] 70::blk g4 zSt 68::l))⟩
 rintro e a' w' ⟨rfl,h1,h2⟩
 exact ⟨h1,.panicking [{v:=brk k a,recovered:=true}],by cases c₀;simp only at hu;subst hu;rfl,_,results_none rfl _ _,rfl,rfl,h2⟩
open Go.RowKit
def parR (q:Sq):PE SelM:=match selR q 0 with
  | .error x => .error x
  | .ok (x,b)=>if (mayA q.L b [[59]]).getD b<q.L.length then .error (150,placeR q.en q.L ((mayA q.L b [[59]]).getD b)) else .ok x
def parBad (u:Value) (l:List Wp) (x:Int×Int):Prop:=u = .tuple #[.agg zSt.toArray,.agg #[iV x.1,iV x.2]]/\l=[]
def parOk (B:Wn) (u:Value) (l:List Wp) (x:SelM):Prop := ∃ (A:Wp) (C:List Value) (pq:Option Addr) (cq:Nat) (po:Option Addr) (no co:Nat) (pa:Option Addr) (ca:Nat) (pd:Option Addr) (cd:Nat) (pr:Option Addr) (cr:Nat),u = .tuple #[.agg (stC (.slice pq x.n cq) (.slice po no co) (.slice pa x.k ca) (.slice pd x.m cd) (.slice pr x.o cr)).toArray,.agg #[iV 0,iV 0]]/\(x.n=1->QryV B A x.wh C)/\(0<x.n -> ∃ g,pq=some ⟨g,0,none⟩)/\l=[row (.slice pq x.n cq) 91 7 x.n C,A]
def ParPost (B:Wn) (s:Str) (u:Value) (l:List Wp):Prop:=match lexR s with
  | .error x=>parBad u l (x.1,(x.2:Int))
  | .ok L => ∃ p c,match parR ⟨p,c,s.length,L⟩ with
    | .error x=>parBad u l x
    | .ok x=>parOk B u l x
abbrev psD (g2 g3:Nat):Deferred:=⟨.fn (.func 45) (a25 g2 g3),#[]⟩
theorem Ps.inv (g2 g3:Nat) (w:World):(invoke (.fn (.func 45) (a25 g2 g3)) #[]).run Tryz.prog w = .ok (.enter 45 (a25 g2 g3)) w:=by
  have hf:Tryz.prog.funcs[45]? = some Tryz.f45:=Tryz.func45
  have hn : ¬ Tryz.f45.name = "runtime.NumGoroutine" := by
    have:(Tryz.f45.name == "runtime.NumGoroutine")=false:=rfl
    simpa using this
  have hb : ¬ Tryz.f45.body=none:=λ e=>by
    have:Tryz.f45.body.isNone=false:=rfl
    rw [e] at this;cases this
  simp [invoke,callFunc,hf,hn,hb]
def parE (B:Wn) (v:Value) (F:List Wp):Post:=λ e f l'=>e = .ret/\(∀ w,Own B w l'->(results Tryz.f19 (act 38 f).tmps).run Tryz.prog w = .ok v w)/\Sub l' F
theorem lexR_err {s:Str} {k:Int} {a:Nat} (h:lexR s = .error (k,a)):k≠0:=by
  unfold lexR at h
  split at h
  . cases h;decide
  . split at h
    . cases h
    . cases h;decide
theorem Ps.parse (B:Wn) (h0:B.low=0) (s:Str) (hs:s.length<2^39) (hL : ∀ L,lexR s = .ok L->L.length<2^25/\(∀ x∈L,x.text.length<2^40) /\ ∃ y,L[0]? = some y/\y.text=selW):Fn Tryz.prog B 19 #[tV s] [] (ParPost B s):=by
  have htk:=Lx.tokens B h0 s hs
  refine ⟨λ w F ho=>?_⟩
  refine calls_of_wp_defers Tryz.func19 rfl ?_
  rw [show (Func.ntmps _)=38 from rfl,enter_eq [_] 38 (nB rfl)]
  apply wp_seq
  apply wp_region_lit
  refine (?_:LD _ _ _ 38 [] _ _ _).run
  refine wle ho (El zSt (by unfold Zf;kernel_rfl) ?_)
  intro g2 w2 ho2
  refine wle ho2 (El [iV 0,iV 0] (by unfold Zf;kernel_rfl) ?_)
  intro g3 w3 ho3
  refine LD.done ?_
  show (Code.seq _ _).wp _ _ _ _
  apply wp_seq
  apply wp_region_lit
  refine (?_:LD _ _ _ 38 [] _ _ _).run
  refine wlq ho3 (Qm rfl) ?_
  refine wle ho3 (Ec htk Tryz.func44 rfl rfl rfl ?_)
  intro u l hpost w4 ho4
  unfold TokPost at hpost
  cases hlx:lexR s with
  | error x =>
    obtain ⟨k,a⟩:=x
    rw [hlx] at hpost
    obtain ⟨rfl,rfl⟩:=hpost
    have hk:k≠0:=lexR_err hlx
    refine wlq ho4 (Qm rfl) ?_
    refine wlq ho4 (Qx rfl rfl) ?_
    refine wlq ho4 (Qx rfl rfl) ?_
    refine wlq ho4 (Qa rfl) ?_
    refine wle ho4 (Es [_,_] rfl rfl rfl rfl (by simp) ?_)
    intro w5 ho5
    refine LD.done ?_
    show (Code.seq _ _).wp _ _ _ _
    apply wp_seq
    apply wp_seq
    apply wp_region_lit
    refine (?_:LD _ _ _ 38 [] _ _ _).run
    refine wlq ho5 (Qf (off:=0) rfl) ?_
    refine wlq ho5 (Ql (v:=iV k) rfl rfl) ?_
    refine wlq ho5 (yW rfl rfl) ?_
    refine LD.done ?_
    show (Code.cond _ _ _).wp _ _ _ _
    rw [show (decide (k≠0))=true from decide_eq_true hk]
    refine wp_cond (t:=true) rfl ?_
    simp only [if_true]
    refine wp_mono ((?_:T Tryz.prog B 38 _ (parE B (.tuple #[.agg zSt.toArray,.agg #[iV k,iV a]]) F) _ (blk g3 [iV k,iV a] 70::blk g2 zSt 68::F)).run (λ e a' w=>e = .ret/\a'.defers=[]/\(results Tryz.f19 a'.tmps).run Tryz.prog w = .ok (.tuple #[.agg zSt.toArray,.agg #[iV k,iV a]]) w/\Own B w F) w5 ⟨λ e f w l' h ho=>⟨h.1,rfl,h.2.1 w ho,ho.map h.2.2⟩,λ c a d v w h=>by cases h.1⟩ ho5) ?_
    . refine Ts ?_
      refine T.draw 3 ([blk g3 [iV k,iV a] 70]) (nB rfl) ?_
      refine Rq 0 rfl Sa (z8 [(0,1),(1,1),(2,1),(3,1),(4,1),(5,1),(6,2),(8,1),(9,1),(10,1),(11,1),(12,1),(13,1)] [.string .empty,.string .empty,.slice none 0 0,.slice none 0 0,.slice none 0 0,.slice none 0 0,.int .i64 0,.int .i64 0,.slice none 0 0,.slice none 0 0,.slice none 0 0,.slice none 0 0,.slice none 0 0,.slice none 0 0] [_,_,_,_,_,_,_,_,_,_,_,_,_,_] [] (by unfold Zf;kernel_rfl) rfl rfl) ?_
      refine Rq 1 rfl Sa (QL [_,_] rfl ⟨rfl,rfl,trivial⟩) ?_
      refine yK 2 ?_
      refine YH rfl (Es [_,_,_,_,_,_,_,_,_,_,_,_,_,_] rfl rfl rfl rfl (by simp) ?_)
      try simp only [splice,lC,lN,dS,cA,tS,tZ,dZ,nA,aN]
      refine ⟨Sa,?_⟩
      refine Rd0 (by rfl) ?_
      simp only [dS,dZ,dN]
      refine L0 (Es [_,_] rfl rfl rfl rfl (by simp) ?_)
      try simp only [splice,lC,lN,dS,cA,tS,tZ,dZ,nA,aN]
      refine Ld ?_
      skip
      refine T.ret ?_
      exact ⟨rfl,res [_,_] rfl ⟨rvA [_,_,_,_,_,_,_,_,_,_,_,_,_,_] rfl ⟨rfl,rfl,rfl,rfl,rfl,rfl,rfl,rfl,rfl,rfl,rfl,rfl,rfl,rfl,trivial⟩,rvA [_,_] rfl ⟨rfl,rfl,trivial⟩,trivial⟩,Sa⟩
    . rintro e a' w' ⟨rfl,hd,hr,ho'⟩
      show Leaves _ _ _ _ a'.defers _ _
      rw [hd]
      exact ⟨_,hr,_,[],rfl,by unfold ParPost;rw [hlx];exact ⟨rfl,rfl⟩,ho'⟩
  | ok L =>
    rw [hlx] at hpost
    obtain ⟨p,c,rfl,rfl⟩:=hpost
    obtain ⟨hq,hx,y,hy,hyt⟩:=hL L hlx
    refine wlq ho4 (Qm rfl) ?_
    refine wlq ho4 (Qx rfl rfl) ?_
    refine wlq ho4 (Qx rfl rfl) ?_
    refine wlq ho4 (Qa rfl) ?_
    refine wle ho4 (Es [_,_] rfl rfl rfl rfl (by simp) ?_)
    intro w5 ho5'
    have ho5:Own B w5 (tkR p L.length c L::blk g3 [iV 0,iV 0] 70::blk g2 zSt 68::F):=ho5'
    refine LD.done ?_
    show (Code.seq _ _).wp _ _ _ _
    apply wp_seq
    apply wp_seq
    apply wp_region_lit
    refine (?_:LD _ _ _ 38 [] _ _ _).run
    refine wlq ho5 (Qf (off:=0) rfl) ?_
    refine wlq ho5 (Ql (v:=iV 0) rfl rfl) ?_
    refine wlq ho5 (yW rfl rfl) ?_
    refine LD.done ?_
    show (Code.cond _ _ _).wp _ _ _ _
    refine wp_cond (t:=false) rfl ?_
    simp only [Bool.false_eq_true,if_false]
    refine wp_skip ?_
    show (Code.seq _ _).wp _ _ _ _
    apply wp_seq
    apply wp_region_lit
    refine (?_:LD _ _ _ 38 [] _ _ _).run
    refine wlq ho5 (Y4 [.pointer (some ⟨g2,0,none⟩),.pointer (some ⟨g3,0,none⟩)] rfl) ?_
    refine ldDefer rfl (psD g2 g3) (λ w=>?_) ?_
    . simp [execOp,resolve,Deferred.ofValue]
      rfl
    refine LD.done ?_
    show (Code.seq _ _).wp _ _ _ _
    apply wp_seq
    apply wp_region_lit
    refine (?_:LD _ _ _ 38 [psD g2 g3] _ _ _).run
    refine wlq ho5 (Qm rfl) ?_
    refine wlq ho5 (Qm rfl) ?_
    refine wlq ho5 (YU rfl) ?_
    refine wlq ho5 (z8 [(0,1),(1,1),(2,1),(3,1)] [.slice none 0 0,iV 0,iV 0,iV 0] [_,_,_,_] [(0,_),(2,_)] (by unfold Zf;kernel_rfl) rfl rfl) ?_
    refine wle ho5 (zL [_,_,_,_] rfl rfl ?_)
    intro gs w6 ho6
    refine wlq ho6 (Qa rfl) ?_
    refine LD.done ?_
    show (Code.seq _ _).wp _ _ _ _
    apply wp_seq
    apply wp_region_lit
    refine (?_:LD _ _ _ 38 [psD g2 g3] _ _ _).run
    refine wlq ho6 (Qm rfl) ?_
    have hst:=Ps.statement B gs ⟨p,c,s.length,L⟩ hq hx y hy hyt
    cases hsel:selR ⟨p,c,s.length,L⟩ 0 with
    | error e =>
      obtain ⟨k,a⟩:=e
      refine wld rfl ho6 (Dx.callE (pv:=brk k a) (hst.mono (R':=λ _ _=>False) (λ v l h=>by obtain ⟨x,b,A,C,pq,cq,po,no,co,pa,ca,pd,cd,pr,cr,hs,-⟩:=h;rw [hsel] at hs;cases hs) (λ v h=>h)) (by rintro v ⟨e,he,rfl⟩;rw [hsel] at he;cases he;rfl) Tryz.func46 rfl rfl rfl) ?_
      intro w7 ho7
      have ho7':Own B w7 (blk g3 [iV 0,iV 0] 70::blk g2 zSt 68::F):=ho7.map Sa
      refine leaves_cons (by simp) (Ps.inv g2 g3 _) ((Ps.catch B _ g2 g3 _ _ rfl rfl k a w7 ho7').mono ?_)
      rintro _ _ w8 ⟨rfl,rfl,ho8⟩
      simp only [settle,List.dropWhile_nil]
      show ∃ u,(results Tryz.f19 (act 38 _).tmps).run Tryz.prog w8 = .ok u w8/\_
      refine ⟨_,res (rs:=[.cell 2 68,.cell 3 70]) [_,_] rfl ⟨rvA [_,_,_,_,_,_,_,_,_,_,_,_,_,_] rfl ⟨rfl,rfl,rfl,rfl,rfl,rfl,rfl,rfl,rfl,rfl,rfl,rfl,rfl,rfl,trivial⟩,rvA [_,_] rfl ⟨rfl,rfl,trivial⟩,trivial⟩ w8 ho8,_,[],rfl,?_,ho8.map Sa⟩
      unfold ParPost
      rw [hlx]
      refine ⟨p,c,?_⟩
      unfold parR
      rw [hsel]
      exact ⟨rfl,rfl⟩
    | ok xb =>
      obtain ⟨x,b⟩:=xb
      have hfn:=hst.fn (by rintro v ⟨e,he,-⟩;rw [hsel] at he;cases he)
      refine wle ho6 (Ec hfn Tryz.func46 rfl rfl rfl ?_)
      rintro _ _ ⟨x',b',A,C,pq,cq,po,no,co,pa,ca,pd,cd,pr,cr,hs,hb,hbl,rfl,hqv,hpq,rfl⟩ w7 ho7
      rw [hsel] at hs
      cases hs
      refine wle ho7 (Es [_,_,_,_,_,_,_,_,_,_,_,_,_,_] rfl rfl rfl rfl (by simp) ?_)
      intro w8 ho8'
      have ho8:Own B w8 (row (.slice pq x.n cq) 91 7 x.n C::A::srB gs ⟨p,c,s.length,L⟩ b 0::srT ⟨p,c,s.length,L⟩::blk g3 [iV 0,iV 0] 70::blk g2 (stC (.slice pq x.n cq) (.slice po no co) (.slice pa x.k ca) (.slice pd x.m cd) (.slice pr x.o cr)) 68::F):=ho8'
      refine LD.done ?_
      show (Code.seq _ _).wp _ _ _ _
      apply wp_seq
      apply wp_region_lit
      refine (?_:LD _ _ _ 38 [psD g2 g3] _ _ _).run
      refine wlq ho8 (Qm rfl) ?_
      refine wle ho8 (zK [_] (e:=9) (sz:=1) ⟨.string .empty,by kernel_rfl,rfl⟩ rfl rfl rfl ?_)
      intro g25 w9 ho9
      refine wle ho9 (Ec (Ps.may B [blk g25 [.string ⟨#[59]⟩] 9] gs ⟨p,c,s.length,L⟩ b 0 (hq:=(by dsimp only;omega)) (ha:=(by dsimp only at hbl;omega)) (some ⟨g25,0,none⟩) 1 1 [[59]] rfl (FlV.blk (x:=[[59]]) (g:=sC) rfl)) Tryz.func47 rfl rfl rfl ?_)
      rintro _ _ ⟨rfl,rfl⟩ w10 ho10
      simp only [List.cons_append,List.nil_append] at ho10
      generalize hm:(mayA L b [[59]]).getD b=b2 at ho10
      have hb2:b2<=L.length:=hm ▸ (mayA_le hbl).2
      refine LD.done ?_
      show (Code.seq _ _).wp _ _ _ _
      apply wp_seq
      apply wp_seq
      apply wp_region_lit
      refine (?_:LD _ _ _ 38 [psD g2 g3] _ _ _).run
      refine wlq ho10 (Qm rfl) ?_
      refine wlq ho10 (Qn rfl) ?_
      refine wlq ho10 (Qf (off:=1) rfl) ?_
      refine wlq ho10 (Ql (v:=iV b2) rfl rfl) ?_
      refine wlq ho10 (Qm rfl) ?_
      refine wlq ho10 (yI (e:=171) (sz:=4) rfl) ?_
      refine wlq ho10 (yM rfl rfl) ?_
      refine LD.done ?_
      show (Code.cond _ _ _).wp _ _ _ _
      by_cases hlt:b2<L.length
      . have hd:decide ((b2:Int)<(L.length:Int))=true:=decide_eq_true (by omega)
        refine wp_cond (t:=true) (by rw [<-hd];rfl) ?_
        simp only [if_true]
        apply wp_region_lit
        refine (?_:LD _ _ _ 38 [psD g2 g3] _ _ _).run
        refine wlq ho10 (Qm rfl) ?_
        refine wld rfl ho10 (Dx.callE (pv:=brk 150 (placeR s.length L b2)) (Ps.fail B gs ⟨p,c,s.length,L⟩ b2 0 (by dsimp only;omega) 150) (by rintro v ⟨e,he,rfl⟩;cases he;rfl) Tryz.func48 rfl rfl rfl) ?_
        intro w11 ho11
        have ho11':Own B w11 (blk g3 [iV 0,iV 0] 70::blk g2 (stC (.slice pq x.n cq) (.slice po no co) (.slice pa x.k ca) (.slice pd x.m cd) (.slice pr x.o cr)) 68::F):=ho11.map Sa
        refine leaves_cons (by simp) (Ps.inv g2 g3 _) ((Ps.catch B _ g2 g3 _ _ rfl rfl _ _ w11 ho11').mono ?_)
        rintro _ _ w12 ⟨rfl,rfl,ho12⟩
        simp only [settle,List.dropWhile_nil]
        show ∃ u,(results Tryz.f19 (act 38 _).tmps).run Tryz.prog w12 = .ok u w12/\_
        refine ⟨_,res (rs:=[.cell 2 68,.cell 3 70]) [_,_] rfl ⟨rvA [_,_,_,_,_,_,_,_,_,_,_,_,_,_] rfl ⟨rfl,rfl,rfl,rfl,rfl,rfl,rfl,rfl,rfl,rfl,rfl,rfl,rfl,rfl,trivial⟩,rvA [_,_] rfl ⟨rfl,rfl,trivial⟩,trivial⟩ w12 ho12,_,[],rfl,?_,ho12.map Sa⟩
        unfold ParPost
        rw [hlx]
        refine ⟨p,c,?_⟩
        unfold parR
        rw [hsel]
        dsimp only
        rw [hm,if_pos hlt]
        exact ⟨rfl,rfl⟩
      . have hd:decide ((b2:Int)<(L.length:Int))=false:=decide_eq_false (by omega)
        refine wp_cond (t:=false) (by rw [<-hd];rfl) ?_
        simp only [Bool.false_eq_true,if_false]
        refine wp_skip ?_
        show (Code.seq _ _).wp _ _ _ _
        apply wp_seq
        apply wp_region_lit
        refine (?_:LD _ _ _ 38 [psD g2 g3] _ _ _).run
        refine wlq ho10 (QL [_,_,_,_,_,_,_,_,_,_,_,_,_,_] rfl ⟨rfl,rfl,rfl,rfl,rfl,rfl,rfl,rfl,rfl,rfl,rfl,rfl,rfl,rfl,trivial⟩) ?_
        refine wlq ho10 (z8 [(0,1),(1,1)] [.int .i64 0,.int .i64 0] [_,_] [] (by unfold Zf;kernel_rfl) rfl rfl) ?_
        refine wle ho10 (Es [_,_,_,_,_,_,_,_,_,_,_,_,_,_] rfl rfl rfl rfl (by simp) ?_)
        intro w11 ho11
        refine wle ho11 (Es [_,_] rfl rfl rfl rfl (by simp) ?_)
        intro w12 ho12
        refine LD.done ?_
        refine wp_ret ?_
        refine leaves_cons (by simp) (Ps.inv g2 g3 _) ((Ps.calm B _ g2 g3 w12 ho12).mono ?_)
        rintro _ _ w13 ⟨rfl,rfl,ho13⟩
        simp only [settle]
        show ∃ u,(results Tryz.f19 (act 38 _).tmps).run Tryz.prog w13 = .ok u w13/\_
        refine ⟨_,res (rs:=[.cell 2 68,.cell 3 70]) [_,_] rfl ⟨rvA [_,_,_,_,_,_,_,_,_,_,_,_,_,_] rfl ⟨rfl,rfl,rfl,rfl,rfl,rfl,rfl,rfl,rfl,rfl,rfl,rfl,rfl,rfl,trivial⟩,rvA [_,_] rfl ⟨rfl,rfl,trivial⟩,trivial⟩ w13 ho13,_,[row (.slice pq x.n cq) 91 7 x.n C,A],rfl,?_,ho13.map Sa⟩
        unfold ParPost
        rw [hlx]
        refine ⟨p,c,?_⟩
        unfold parR
        rw [hsel]
        dsimp only
        rw [hm,if_neg hlt]
        exact ⟨A,C,pq,cq,po,no,co,pa,ca,pd,cd,pr,cr,rfl,hqv,hpq,rfl⟩
open Go.RowKit
def goL : List Str:=[[42],[43],[45],[46],[65,78,68],[79,82],[61],[60,62],[60,61],[62,61],[60],[62]]
def stopT (L:List Tok) (a:Nat):Prop := ∀ x,L[a]? = some x->x.text∉goL
structure Al (q q':Sq) (o o' n:Nat):Prop where
  al : ∀ p,p<n -> ∃ x x',q.L[o+p]? = some x/\q'.L[o'+p]? = some x'/\x.kind=x'.kind/\x.text=x'.text/\x.int=x'.int
  st:stopT q.L (o+n)
  st':stopT q'.L (o'+n)
theorem stop_isT {L:List Tok} {a:Nat} (h:stopT L a) {ts:List Str} (h0:ts≠[]) (h1 : ∀ t∈ts,t∈goL) (k:Int):isT L a k ts=false:=by
  unfold isT
  cases hx:L[a]? with
  | none=>rfl
  | some x =>
    have:ts.contains x.text=false:=by
      cases hc:ts.contains x.text with
      | false=>rfl
      | true=>exact absurd (h1 _ (List.contains_iff_mem.1 hc)) (h x hx)
    have h2:ts.isEmpty=false:=by cases ts with | nil=>exact absurd rfl h0 | cons a l=>rfl
    simp only [this,h2];simp
section
variable {q q':Sq} {o o' n:Nat}
theorem Al.isT (h:Al q q' o o' n) {p:Nat} (hp:p<n) (k:Int) (ts:List Str):isT q.L (o+p) k ts=isT q'.L (o'+p) k ts:=by
  obtain ⟨x,x',e1,e2,e3,e4,e5⟩:=h.al p hp
  unfold Go.Proofs.YtnnfjemaeefbiaaGreatDoor.isT
  rw [e1,e2]
  dsimp only
  rw [e3,e4]
theorem Al.isG (h:Al q q' o o' n) {p:Nat} (hp:p<=n) (k:Int) {ts:List Str} (h0:ts≠[]) (h1 : ∀ t∈ts,t∈goL):Go.Proofs.YtnnfjemaeefbiaaGreatDoor.isT q.L (o+p) k ts=Go.Proofs.YtnnfjemaeefbiaaGreatDoor.isT q'.L (o'+p) k ts:=by
  rcases Nat.lt_or_ge p n with z | z
  . exact h.isT z k ts
  . obtain rfl:p=n:=by omega
    rw [stop_isT h.st h0 h1,stop_isT h.st' h0 h1]
theorem Al.oneT (h:Al q q' o o' n) {p:Nat} (hp:p<n) (t:Str):oneT q.L (o+p) t=oneT q'.L (o'+p) t:=by
  unfold Go.Proofs.YtnnfjemaeefbiaaGreatDoor.oneT;rw [h.isT hp,h.isT hp]
theorem Al.oneG (h:Al q q' o o' n) {p:Nat} (hp:p<=n) {t:Str} (ht:t∈goL):Go.Proofs.YtnnfjemaeefbiaaGreatDoor.oneT q.L (o+p) t=Go.Proofs.YtnnfjemaeefbiaaGreatDoor.oneT q'.L (o'+p) t:=by
  unfold Go.Proofs.YtnnfjemaeefbiaaGreatDoor.oneT;rw [h.isG hp 1 (by simp) (by simpa using ht),h.isG hp 4 (by simp) (by simpa using ht)]
def Mono (q:Sq) (R:EP):Prop := ∀ a e c,R a = .ok (e,c)->a<c/\c<=q.L.length
def Sim (o o' n:Nat) (R R':EP):Prop := ∀ p e c,R (o+p) = .ok (e,o+c)->c<=n->(∃ x,R' (o'+p) = .error x)\/R' (o'+p) = .ok (e,o'+c)
theorem name_mono {a d:Nat} {s:Str} (h:nameR q a = .ok (s,d)):d=a+1:=by
  unfold nameR at h
  split at h
  . split at h
    . cases h;rfl
    . cases h
  . cases h
theorem name_lt {a d:Nat} {s:Str} (h:nameR q a = .ok (s,d)):a<q.L.length:=by
  unfold nameR at h
  split at h
  . rename_i y hy;exact (List.getElem?_eq_some_iff.1 hy).1
  . cases h
theorem num_lt {a d:Nat} {s:Int} (h:numR q a = .ok (s,d)):a<q.L.length:=by
  unfold numR at h
  split at h
  . rename_i y hy;exact (List.getElem?_eq_some_iff.1 hy).1
  . cases h
theorem Al.name (h:Al q q' o o' n) {p d:Nat} (hp:p<n) {s:Str} (e:nameR q (o+p) = .ok (s,d)):nameR q' (o'+p) = .ok (s,o'+p+1):=by
  obtain ⟨x,x',e1,e2,e3,e4,e5⟩:=h.al p hp
  unfold nameR at e ⊢
  rw [e1] at e
  rw [e2]
  dsimp only at e ⊢
  rw [e3,e4] at e
  split at e
  . rename_i hc;rw [if_pos hc];cases e;rfl
  . cases e
theorem num_mono {a d:Nat} {s:Int} (h:numR q a = .ok (s,d)):d=a+1:=by
  unfold numR at h
  split at h
  . split at h
    . cases h;rfl
    . cases h
  . cases h
theorem Al.num (h:Al q q' o o' n) {p d:Nat} (hp:p<n) {s:Int} (e:numR q (o+p) = .ok (s,d)):numR q' (o'+p) = .ok (s,o'+p+1):=by
  obtain ⟨x,x',e1,e2,e3,e4,e5⟩:=h.al p hp
  unfold numR at e ⊢
  rw [e1] at e
  rw [e2]
  dsimp only at e ⊢
  rw [e3,e5] at e
  split at e
  . rename_i hc;rw [if_pos hc];cases e;rfl
  . cases e
theorem item_mono : Mono q (itemR q):=by
  intro a e c h
  unfold itemR at h
  split at h
  . cases h
  . rename_i s b hb
    have:=name_mono hb
    have hl:=name_lt hb
    split at h
    . split at h
      . cases h
      . rename_i s2 b2 hb2
        have:=name_mono hb2
        have:=name_lt hb2
        cases h;omega
    . cases h;omega
theorem Al.item (h:Al q q' o o' n):Sim o o' n (itemR q) (itemR q'):=by
  intro p e c hr hc
  have hm:=item_mono _ _ _ hr
  refine .inr ?_
  unfold itemR at hr ⊢
  split at hr
  . cases hr
  . rename_i s b hb
    have e1:=name_mono hb
    subst e1
    rw [h.name (by omega) hb]
    dsimp only
    rw [show o'+p+1=o'+(p+1) by omega]
    rw [show o+p+1=o+(p+1) by omega] at hr
    rw [h.oneG (by omega) (by decide)] at hr
    split at hr
    . rename_i h1
      rw [if_pos h1]
      split at hr
      . cases hr
      . rename_i s2 b2 hb2
        have e2:=name_mono hb2
        have e3:b2=o+c:=by cases hr;rfl
        rw [show o+(p+1)+1=o+(p+2) by omega] at hb2
        rw [show o'+(p+1)+1=o'+(p+2) by omega,h.name (by omega) hb2]
        dsimp only
        cases hr
        congr 2;omega
    . rename_i h1
      rw [if_neg h1]
      simp only [Except.ok.injEq,Prod.mk.injEq] at hr ⊢
      exact ⟨hr.1,by omega⟩
theorem factor_mono {F E:EP} (hF:Mono q F) (hE:Mono q E):Mono q (factorR q F E):=by
  intro a e c h
  unfold factorR at h
  split at h
  . split at h
    . cases h
    . rename_i s b hb;have:=num_mono hb;have:=num_lt hb;cases h;omega
  . split at h
    . rename_i h3;have:=isT_lt h3;cases h;omega
    . split at h
      . split at h
        . cases h
        . rename_i e1 b hb;have:=hF _ _ _ hb;cases h;omega
      . split at h
        . split at h
          . cases h
          . rename_i e1 b hb
            have:=hE _ _ _ hb
            split at h
            . cases h
            . rename_i c' hc
              have:=mustA_one hc
              cases h;omega
        . exact item_mono _ _ _ h
theorem Al.must (h:Al q q' o o' n) {p d:Nat} (hp:p<n) {t:Str} (e:mustA q (o+p) [t] = .ok d):mustA q' (o'+p) [t] = .ok (o'+p+1):=by
  rw [mustA_cons] at e ⊢
  rw [h.oneT hp] at e
  split at e
  . rename_i hc;rw [if_pos hc];rfl
  . cases e
theorem Al.factor (h:Al q q' o o' n) {F E F' E':EP} (hF:Mono q F) (hE:Mono q E) (sF:Sim o o' n F F') (sE:Sim o o' n E E'):Sim o o' n (factorR q F E) (factorR q' F' E'):=by
  intro p e c hr hc
  have hm:=factor_mono hF hE _ _ _ hr
  have hp:p<n:=by omega
  unfold factorR at hr ⊢
  rw [h.isT hp,h.isT hp,h.oneT hp,h.oneT hp] at hr
  split at hr
  . rename_i h1
    rw [if_pos h1]
    split at hr
    . cases hr
    . rename_i s b hb
      have:=num_mono hb
      rw [h.num hp hb]
      refine .inr ?_
      dsimp only
      simp only [Except.ok.injEq,Prod.mk.injEq] at hr ⊢
      exact ⟨hr.1,by omega⟩
  . rename_i h1
    rw [if_neg h1]
    split at hr
    . rename_i h2
      rw [if_pos h2]
      obtain ⟨x,x',e1,e2,e3,e4,e5⟩:=h.al p hp
      rw [e1] at hr
      rw [e2]
      refine .inr ?_
      dsimp only at hr ⊢
      simp only [Except.ok.injEq,Prod.mk.injEq] at hr ⊢
      exact ⟨by rw [<-e4];exact hr.1,by omega⟩
    . rename_i h2
      rw [if_neg h2]
      split at hr
      . rename_i h3
        rw [if_pos h3]
        split at hr
        . cases hr
        . rename_i e1 b hb
          have hb1:=hF _ _ _ hb
          simp only [Except.ok.injEq,Prod.mk.injEq] at hr
          rw [show o+p+1=o+(p+1) by omega,hr.2] at hb
          rw [show o'+p+1=o'+(p+1) by omega]
          rcases sF _ _ _ hb hc with ⟨x,hx⟩ | hx
          . exact .inl ⟨x,by rw [hx]⟩
          . exact .inr (by rw [hx];dsimp only;rw [hr.1])
      . rename_i h3
        rw [if_neg h3]
        split at hr
        . rename_i h4
          rw [if_pos h4]
          split at hr
          . cases hr
          . rename_i e1 b hb
            have hb1:=hE _ _ _ hb
            split at hr
            . cases hr
            . rename_i c' hc'
              have h5:=(mustA_one hc').1
              simp only [Except.ok.injEq,Prod.mk.injEq] at hr
              obtain ⟨b0,rfl⟩ : ∃ b0,b=o+b0:=⟨b-o,by omega⟩
              rw [show o+p+1=o+(p+1) by omega] at hb
              rw [show o'+p+1=o'+(p+1) by omega]
              rcases sE _ _ _ hb (by omega) with ⟨x,hx⟩ | hx
              . exact .inl ⟨x,by rw [hx]⟩
              . rw [hx]
                dsimp only
                rw [h.must (by omega) hc']
                refine .inr ?_
                dsimp only
                rw [hr.1]
                congr 2;omega
        . rename_i h4
          rw [if_neg h4]
          exact h.item p e c hr hc
theorem chR_mono {R:EP} (hR:Mono q R) {ops:List Str} : ∀ (f:Nat) (e:Ex) (a:Nat) (r:Ex) (c:Nat),chR q R ops f e a = .ok (r,c)->a<=c/\(a<=q.L.length->c<=q.L.length)
  | 0,e,a,r,c,h=>by unfold chR at h;cases h;exact ⟨Nat.le_refl _,id⟩
  | f+1,e,a,r,c,h=>by
    unfold chR at h
    split at h
    . split at h
      . cases h
      . rename_i e2 b hb
        have h1:=hR _ _ _ hb
        have h2:=chR_mono hR f _ _ _ _ h
        have h3:=h2.2 h1.2
        exact ⟨by omega,λ _=>h3⟩
    . cases h;exact ⟨Nat.le_refl _,id⟩
theorem Al.chR (h:Al q q' o o' n) {R R':EP} (hR:Mono q R) (sR:Sim o o' n R R') {ops:List Str} (h0:ops≠[]) (h1 : ∀ t∈ops,t∈goL) : ∀ (f f':Nat) (e:Ex) (p:Nat) (r:Ex) (c:Nat),q.L.length<o+p+f->q'.L.length<o'+p+f'->p<=n ->
    Go.Proofs.YtnnfjemaeefbiaaGreatDoor.chR q R ops f e (o+p) = .ok (r,o+c)->c<=n->(∃ x,Go.Proofs.YtnnfjemaeefbiaaGreatDoor.chR q' R' ops f' e (o'+p) = .error x)\/Go.Proofs.YtnnfjemaeefbiaaGreatDoor.chR q' R' ops f' e (o'+p) = .ok (r,o'+c):=by
  intro f
  induction f with
  | zero =>
    intro f' e p r c hf hf' hp hr hc
    have hn:(Go.Proofs.YtnnfjemaeefbiaaGreatDoor.isT q.L (o+p) 1 ops || Go.Proofs.YtnnfjemaeefbiaaGreatDoor.isT q.L (o+p) 4 ops)=false:=by
      cases hb:(Go.Proofs.YtnnfjemaeefbiaaGreatDoor.isT q.L (o+p) 1 ops || Go.Proofs.YtnnfjemaeefbiaaGreatDoor.isT q.L (o+p) 4 ops) with
      | false=>rfl
      | true =>
        rcases (Bool.or_eq_true _ _ ▸ hb) with z | z
        . have:=isT_lt z;omega
        . have:=isT_lt z;omega
    rw [chR_end hn] at hr
    rw [h.isG hp 1 h0 h1,h.isG hp 4 h0 h1] at hn
    rw [chR_end hn]
    refine .inr ?_
    simp only [Except.ok.injEq,Prod.mk.injEq] at hr ⊢
    exact ⟨hr.1,by omega⟩
  | succ f ih =>
    intro f' e p r c hf hf' hp hr hc
    cases hb:(Go.Proofs.YtnnfjemaeefbiaaGreatDoor.isT q.L (o+p) 1 ops || Go.Proofs.YtnnfjemaeefbiaaGreatDoor.isT q.L (o+p) 4 ops) with
    | false =>
      rw [chR_end hb] at hr
      rw [h.isG hp 1 h0 h1,h.isG hp 4 h0 h1] at hb
      rw [chR_end hb]
      refine .inr ?_
      simp only [Except.ok.injEq,Prod.mk.injEq] at hr ⊢
      exact ⟨hr.1,by omega⟩
    | true =>
      have hpn:p<n:=by
        rcases Nat.lt_or_ge p n with z | z
        . exact z
        . obtain rfl:p=n:=by omega
          rw [stop_isT h.st h0 h1,stop_isT h.st h0 h1] at hb;cases hb
      have hb':=hb
      rw [h.isT hpn,h.isT hpn] at hb'
      obtain ⟨x,x',e1,e2,e3,e4,e5⟩:=h.al p hpn
      have hl':o'+p<q'.L.length:=(List.getElem?_eq_some_iff.1 e2).1
      obtain ⟨f',rfl⟩ : ∃ g,f'=g+1:=⟨f'-1,by omega⟩
      cases hrd:R (o+p+1) with
      | error y=>rw [chR_bad hb hrd] at hr;cases hr
      | ok y =>
        obtain ⟨y1,b⟩:=y
        have hb1:=hR _ _ _ hrd
        rw [chR_go hb e1 hrd] at hr
        have hb2:=chR_mono hR _ _ _ _ _ hr
        obtain ⟨b0,rfl⟩ : ∃ b0,b=o+b0:=⟨b-o,by omega⟩
        rw [show o+p+1=o+(p+1) by omega] at hrd
        rcases sR _ _ _ hrd (by omega) with ⟨z,hz⟩ | hz
        . rw [show o'+(p+1)=o'+p+1 by omega] at hz
          exact .inl ⟨z,chR_bad hb' hz⟩
        . rw [show o'+(p+1)=o'+p+1 by omega] at hz
          rw [chR_go hb' e2 hz,<-e4]
          exact ih f' _ b0 r c (by omega) (by omega) (by omega) hr hc
theorem chain_mono {R:EP} (hR:Mono q R) {ops:List Str}:Mono q (chainR q R ops):=by
  intro a e c h
  unfold chainR at h
  split at h
  . cases h
  . rename_i e1 b hb
    have h1:=hR _ _ _ hb
    have h2:=chR_mono hR _ _ _ _ _ h
    have h3:=h2.2 h1.2
    omega
theorem Al.chain (h:Al q q' o o' n) {R R':EP} (hR:Mono q R) (sR:Sim o o' n R R') {ops:List Str} (h0:ops≠[]) (h1 : ∀ t∈ops,t∈goL):Sim o o' n (chainR q R ops) (chainR q' R' ops):=by
  intro p e c hr hc
  unfold chainR at hr ⊢
  split at hr
  . cases hr
  . rename_i e1 b hb
    have hb1:=hR _ _ _ hb
    have hb2:=chR_mono hR _ _ _ _ _ hr
    obtain ⟨b0,rfl⟩ : ∃ b0,b=o+b0:=⟨b-o,by omega⟩
    rcases sR _ _ _ hb (by omega) with ⟨z,hz⟩ | hz
    . exact .inl ⟨z,by rw [hz]⟩
    . rw [hz]
      exact h.chR hR sR h0 h1 _ _ _ b0 _ c (by omega) (by omega) (by omega) hr hc
theorem cmp_mono {R:EP} (hR:Mono q R) {e:Ex} {b:Nat} {r:Ex} {c:Nat} : ∀ {os:List Str},cmpR q R e b os = .ok (r,c)->b<=c/\(b<=q.L.length->c<=q.L.length)
  | [],h=>by cases h;exact ⟨Nat.le_refl _,id⟩
  | t::os,h=>by
    rw [cmpR_cons] at h
    split at h
    . split at h
      . cases h
      . rename_i e2 d hd;have:=hR _ _ _ hd;cases h;omega
    . exact cmp_mono hR h
theorem Al.cmp (h:Al q q' o o' n) {R R':EP} (sR:Sim o o' n R R') {e:Ex} {p:Nat} {r:Ex} {c:Nat} (hp:p<=n) (hc:c<=n) : ∀ {os:List Str},(∀ t∈os,t∈goL)->cmpR q R e (o+p) os = .ok (r,o+c)->(∃ x,cmpR q' R' e (o'+p) os = .error x)\/cmpR q' R' e (o'+p) os = .ok (r,o'+c)
  | [],_,hr=>by
    refine .inr ?_
    unfold cmpR at hr ⊢
    simp only [Except.ok.injEq,Prod.mk.injEq] at hr ⊢
    exact ⟨hr.1,by omega⟩
  | t::os,ht,hr=>by
    rw [cmpR_cons] at hr ⊢
    rw [h.oneG hp (ht t (by simp))] at hr
    split at hr
    . rename_i h1
      rw [if_pos h1]
      split at hr
      . cases hr
      . rename_i e2 d hd
        simp only [Except.ok.injEq,Prod.mk.injEq] at hr
        rw [show o+p+1=o+(p+1) by omega,hr.2] at hd
        rw [show o'+p+1=o'+(p+1) by omega]
        rcases sR _ _ _ hd hc with ⟨x,hx⟩ | hx
        . exact .inl ⟨x,by rw [hx]⟩
        . exact .inr (by rw [hx];dsimp only;rw [hr.1])
    . rename_i h1
      rw [if_neg h1]
      exact Al.cmp h sR hp hc (λ t q=>ht t (by simp [q])) hr
theorem not_mono {N R:EP} (hN:Mono q N) (hR:Mono q R):Mono q (notR q N R):=by
  intro a e c h
  unfold notR at h
  split at h
  . split at h
    . cases h
    . rename_i e1 b hb;have:=hN _ _ _ hb;cases h;omega
  . split at h
    . cases h
    . rename_i e1 b hb;have h1:=hR _ _ _ hb;have h2:=cmp_mono hR h;have h3:=h2.2 h1.2;omega
theorem Al.not (h:Al q q' o o' n) {N R N' R':EP} (hN:Mono q N) (hR:Mono q R) (sN:Sim o o' n N N') (sR:Sim o o' n R R'):Sim o o' n (notR q N R) (notR q' N' R'):=by
  intro p e c hr hc
  have hm:=not_mono hN hR _ _ _ hr
  have hp:p<n:=by omega
  unfold notR at hr ⊢
  rw [h.oneT hp] at hr
  split at hr
  . rename_i h1
    rw [if_pos h1]
    split at hr
    . cases hr
    . rename_i e1 b hb
      simp only [Except.ok.injEq,Prod.mk.injEq] at hr
      rw [show o+p+1=o+(p+1) by omega,hr.2] at hb
      rw [show o'+p+1=o'+(p+1) by omega]
      rcases sN _ _ _ hb hc with ⟨x,hx⟩ | hx
      . exact .inl ⟨x,by rw [hx]⟩
      . exact .inr (by rw [hx];dsimp only;rw [hr.1])
  . rename_i h1
    rw [if_neg h1]
    split at hr
    . cases hr
    . rename_i e1 b hb
      have hb1:=hR _ _ _ hb
      have hb2:=cmp_mono hR hr
      obtain ⟨b0,rfl⟩ : ∃ b0,b=o+b0:=⟨b-o,by omega⟩
      rcases sR _ _ _ hb (by omega) with ⟨z,hz⟩ | hz
      . exact .inl ⟨z,by rw [hz]⟩
      . rw [hz]
        exact h.cmp sR (by omega) hc (by decide) hr
structure LevM (q:Sq) (v:Lev):Prop where
  fac:Mono q v.fac
  no:Mono q v.no
  ex:Mono q v.ex
structure LevS (o o' n:Nat) (v v':Lev):Prop where
  fac:Sim o o' n v.fac v'.fac
  no:Sim o o' n v.no v'.no
  ex:Sim o o' n v.ex v'.ex
theorem dead_mono : Mono q (deadR q):=by intro a e c h;cases h
theorem dead_simL (R:EP):Sim o o' n (deadR q) R:=by intro p e c h;cases h
theorem dead_simR (R:EP):Sim o o' n R (deadR q'):=λ _ _ _ _ _ => .inl ⟨_,rfl⟩
theorem levS_mono {v:Lev} (h:LevM q v):LevM q (levS q v):=by
  have h1:Mono q (factorR q v.fac v.ex):=factor_mono h.fac h.ex
  have h2:Mono q (notR q v.no (chainR q (chainR q (factorR q v.fac v.ex) [[42]]) [[43],[45]])):=not_mono h.no (chain_mono (chain_mono h1))
  exact ⟨h1,h2,chain_mono (chain_mono h2)⟩
theorem levR_mono : ∀ r,LevM q (levR q r)
  | 0=>levS_mono ⟨dead_mono,dead_mono,dead_mono⟩
  | r+1=>levS_mono (levR_mono r)
theorem Al.levS (h:Al q q' o o' n) {v v':Lev} (hm:LevM q v) (hs:LevS o o' n v v'):LevS o o' n (Go.Proofs.YtnnfjemaeefbiaaGreatDoor.levS q v) (Go.Proofs.YtnnfjemaeefbiaaGreatDoor.levS q' v'):=by
  have m1:Mono q (factorR q v.fac v.ex):=factor_mono hm.fac hm.ex
  have m2:=chain_mono (q:=q) (ops:=[[42]]) m1
  have m3:=chain_mono (q:=q) (ops:=[[43],[45]]) m2
  have m4:=not_mono (q:=q) hm.no m3
  have m5:=chain_mono (q:=q) (ops:=[[65,78,68]]) m4
  have s1:=h.factor hm.fac hm.ex hs.fac hs.ex
  have s2:=h.chain (ops:=[[42]]) m1 s1 (by simp) (by decide)
  have s3:=h.chain (ops:=[[43],[45]]) m2 s2 (by simp) (by decide)
  have s4:=h.not hm.no m3 hs.no s3
  have s5:=h.chain (ops:=[[65,78,68]]) m4 s4 (by simp) (by decide)
  exact ⟨s1,s4,h.chain m5 s5 (by simp) (by decide)⟩
theorem Al.lev (h:Al q q' o o' n) : ∀ r r',LevS o o' n (levR q r) (levR q' r')
  | 0,0=>h.levS ⟨dead_mono,dead_mono,dead_mono⟩ ⟨dead_simL _,dead_simL _,dead_simL _⟩
  | 0,r'+1=>h.levS ⟨dead_mono,dead_mono,dead_mono⟩ ⟨dead_simL _,dead_simL _,dead_simL _⟩
  | r+1,0=>h.levS (levR_mono r) ⟨dead_simR _,dead_simR _,dead_simR _⟩
  | r+1,r'+1=>h.levS (levR_mono r) (h.lev r r')
end
open Go.RowKit
abbrev T3 := Int×Str×Int
abbrev tk3 (x:Tok):T3:=(x.kind,x.text,x.int)
def lexT : Nat->Str->Option (List T3)
  | 0,_=>none
  | f+1,s=>if s.dropWhile spaB=[] then some [] else match oneR (s.dropWhile spaB) with
    | none=>none
    | some v=>(lexT f ((s.dropWhile spaB).drop v.2.2.2)).map ((v.1,v.2.1,v.2.2.1) :: ·)
abbrev lexF (s:Str):Option (List T3):=lexT (s.length+1) s
theorem dw_drop {p:UInt8->Bool} : ∀ (l:Str),l.dropWhile p=l.drop (l.takeWhile p).length
  | []=>rfl
  | x::l=>by
    rw [List.dropWhile_cons,List.takeWhile_cons]
    split
    . simpa using dw_drop l
    . rfl
theorem dw_len {p:UInt8->Bool} (l:Str):(l.dropWhile p).length<=l.length:=by rw [dw_drop,List.length_drop];omega
theorem one_w {s:Str} {v:Int×Str×Int×Nat} (h:oneR s=some v):1<=v.2.2.2/\v.2.2.2<=s.length:=by
  obtain ⟨k,t,n,w⟩:=v
  exact one_len h
theorem lexT_fuel : ∀ (f g:Nat) (s:Str),s.length<f->s.length<g->lexT f s=lexT g s
  | 0,_,_,h,_=>absurd h (by omega)
  | _,0,_,_,h=>absurd h (by omega)
  | f+1,g+1,s,hf,hg=>by
    rw [lexT,lexT]
    split
    . rfl
    . rename_i hne
      cases ho:oneR (s.dropWhile spaB) with
      | none=>rfl
      | some v =>
        dsimp only
        have h1:=one_w ho
        have h2:=dw_len (p:=spaB) s
        rw [lexT_fuel f g _ (by rw [List.length_drop];omega) (by rw [List.length_drop];omega)]
theorem toks_lexT : ∀ (f:Nat) (s:Str) (a:Nat),a<=s.length->(match toksR f s a with
    | .ok L=>lexT f (s.drop a)=some (L.map tk3)
    | .error _=>lexT f (s.drop a)=none)
  | 0,_,_,_=>rfl
  | f+1,s,a,ha=>by
    have hle:=run_le ha spaB
    rw [toks_step (b:=a+((s.drop a).takeWhile spaB).length) rfl,lexT]
    have hd:(s.drop a).dropWhile spaB=s.drop (a+((s.drop a).takeWhile spaB).length):=by rw [dw_drop,List.drop_drop]
    rw [hd]
    generalize a+((s.drop a).takeWhile spaB).length=b at hle hd ⊢
    by_cases hb:b=s.length
    . rw [if_pos hb,if_pos (by rw [hb];exact List.drop_length)];rfl
    . rw [if_neg hb,if_neg (λ e=>by rw [List.drop_eq_nil_iff] at e;omega)]
      cases ho:oneR (s.drop b) with
      | none=>rfl
      | some v =>
        obtain ⟨k,t,n,w⟩:=v
        have h1:=one_w ho
        rw [List.length_drop] at h1
        have ih:=toks_lexT f s (b+w) (by dsimp only at h1;omega)
        dsimp only
        rw [List.drop_drop]
        cases ht:toksR f s (b+w) with
        | ok L=>rw [ht] at ih;dsimp only at ih;rw [ih];rfl
        | error e=>rw [ht] at ih;dsimp only at ih;rw [ih];rfl
theorem lexR_ok {s:Str} {L:List Tok} (h:lexR s = .ok L):s.length<=4096/\lexF s=some (L.map tk3):=by
  unfold lexR at h
  split at h
  . cases h
  . have:=toks_lexT (s.length+1) s 0 (Nat.zero_le _)
    split at h
    . rename_i l e
      cases h
      rw [e] at this
      exact ⟨by omega,by simpa using this⟩
    . cases h
def brkY (y:Str):Prop := ∀ c,y.head? = some c->c=41\/c=32
theorem brkY.no {y:Str} (h:brkY y) {p:UInt8->Bool} (h1:p 41=false) (h2:p 32=false) : ∀ c,y.head? = some c->p c=false:=λ c hc=>by
  rcases h c hc with rfl | rfl
  . exact h1
  . exact h2
theorem tw_app {p:UInt8->Bool} {y:Str} (h : ∀ c,y.head? = some c->p c=false) : ∀ s:Str,(s++y).takeWhile p=s.takeWhile p
  | []=>by
    cases y with
    | nil=>rfl
    | cons c y=>simp [h c rfl]
  | x::s=>by
    rw [List.cons_append,List.takeWhile_cons,List.takeWhile_cons,tw_app h s]
theorem tw_le {p:UInt8->Bool} : ∀ s:Str,(s.takeWhile p).length<=s.length
  | []=>Nat.le_refl _
  | x::s=>by
    rw [List.takeWhile_cons]
    split
    . simpa using tw_le s
    . exact Nat.zero_le _
theorem quo_app {y:Str} (h : ∀ c,y.head? = some c->c≠39) : ∀ {r:Str} {v:Str×Nat},quoR r=some v->quoR (r++y)=some v:=by
  intro r
  induction hl:r.length using Nat.strongRecOn generalizing r with
  | ind n ih =>
    intro v hv
    match r,hl with
    | [],_=>cases hv
    | x::r,hl =>
      by_cases hx:x=39
      . subst hx
        cases r with
        | nil =>
          rw [show quoR [39]=some ([],1) from rfl] at hv
          cases hv
          cases y with
          | nil=>rfl
          | cons c y =>
            have hc:=h c rfl
            show quoR (39::c::y)=_
            unfold quoR
            split
            . rename_i e;cases e
            . rename_i e;injection e with _ e;injection e with e _;exact absurd e hc
            . rfl
            . rename_i _ hn e;injection e with e _;exact absurd e.symm hn
        | cons c r =>
          by_cases hc:c=39
          . subst hc
            have e1 : ∀ z:Str,quoR (39::39::z)=(quoR z).map λ x=>(39::x.1,x.2+2):=λ _=>by
              conv=>lhs;unfold quoR
              rfl
            rw [e1] at hv
            show quoR (39::39::(r++y))=_
            rw [e1]
            cases hq:quoR r with
            | none=>rw [hq] at hv;cases hv
            | some u=>rw [hq] at hv;rw [ih r.length (by rw [<-hl];simp;omega) rfl hq];exact hv
          . have e1 : ∀ z:Str,quoR (39::c::z)=some ([],1):=λ z=>by
              unfold quoR
              split
              . rename_i e;cases e
              . rename_i e;injection e with _ e;injection e with e _;exact absurd e hc
              . rfl
              . rename_i _ hn e;injection e with e _;exact absurd e.symm hn
            rw [e1] at hv
            show quoR (39::c::(r++y))=_
            rw [e1];exact hv
      . have e1 : ∀ z:Str,quoR (x::z)=(quoR z).map λ y=>(x::y.1,y.2+1):=λ z=>by
          conv=>lhs;unfold quoR
          split
          . rename_i e;cases e
          . rename_i e;injection e with e _;exact absurd e hx
          . rename_i e;injection e with e _;exact absurd e hx
          . rename_i e;injection e with e1 e2;subst e1;subst e2;rfl
        rw [e1] at hv
        show quoR (x::(r++y))=_
        rw [e1]
        cases hq:quoR r with
        | none=>rw [hq] at hv;cases hv
        | some u=>rw [hq] at hv;rw [ih r.length (by rw [<-hl];simp) rfl hq];exact hv
theorem has_app {y:Str} (h:brkY y) {x:UInt8} {r:Str} {g:Str} (hg:g∈sgnL):hasP (x::r++y) g=hasP (x::r) g:=by
  have sh : ∀ g∈sgnL,(g.length=1\/(g.length=2/\g.getLast? ≠ some 41/\g.getLast? ≠ some 32)):=by decide
  unfold hasP
  rcases sh g hg with h1 | ⟨h1,h2,h3⟩
  . simp [h1]
  . cases r with
    | cons z r=>simp [h1]
    | nil =>
      rw [h1]
      obtain ⟨a,b,rfl⟩ : ∃ a b,g=[a,b]:=by
        match g,h1 with
        | [a,b],_=>exact ⟨a,b,rfl⟩
      simp at h2 h3
      cases y with
      | nil=>rfl
      | cons c y =>
        have hc:=h c rfl
        have : ¬ (c=b):=by
          rintro rfl
          rcases hc with rfl | rfl
          . exact h2 rfl
          . exact h3 rfl
        simp [this]
theorem find_congr {p q:Str->Bool} : ∀ {l:List Str},(∀ g∈l,p g=q g)->l.find? p=l.find? q
  | [],_=>rfl
  | a::l,h=>by rw [List.find?_cons,List.find?_cons,h a (by simp),find_congr λ g hg=>h g (by simp [hg])]
theorem one_app {y:Str} (h:brkY y) {s:Str} {v:Int×Str×Int×Nat} (hv:oneR s=some v):oneR (s++y)=some v:=by
  cases s with
  | nil=>cases hv
  | cons x r =>
    show oneC (x::r++y) x (r++y)=some v
    change oneC (x::r) x r=some v at hv
    unfold oneC at hv ⊢
    rw [tw_app (h.no (p:=worB) (by decide) (by decide)),tw_app (h.no (p:=digB) (by decide) (by decide))]
    split at hv
    . rename_i h1;rw [if_pos h1];exact hv
    . rename_i h1
      rw [if_neg h1]
      split at hv
      . rename_i h2
        rw [if_pos h2]
        split at hv
        . rename_i h3
          rw [if_pos]
          . exact hv
          . refine ⟨h3.1,?_⟩
            rw [List.drop_append_of_le_length (tw_le _)]
            have h4:=h3.2
            cases hd:(x::r).drop ((x::r).takeWhile digB).length with
            | cons z t=>rw [hd] at h4;exact h4
            | nil =>
              cases y with
              | nil=>rfl
              | cons c y =>
                rcases h c rfl with rfl | rfl
                . rfl
                . rfl
        . cases hv
      . rename_i h2
        rw [if_neg h2]
        split at hv
        . rename_i h3
          rw [if_pos h3]
          cases hq:quoR r with
          | none=>rw [hq] at hv;cases hv
          | some u=>rw [hq] at hv;rw [quo_app (λ c hc=>by rcases h c hc with rfl | rfl <;> decide) hq];exact hv
        . rename_i h3
          rw [if_neg h3,find_congr (q:=hasP (x::r)) (λ g hg=>has_app h hg)]
          exact hv
theorem lexT_app {y:Str} (h:brkY y) : ∀ (f:Nat) (x:Str) (l:List T3),x.length<f->lexT f x=some l -> ∀ g,(x++y).length<g->lexT g (x++y)=(lexF y).map (l ++ ·)
  | 0,_,_,hf,_=>absurd hf (by omega)
  | f+1,x,l,hf,hx=>λ g hg=>by
    obtain ⟨g,rfl⟩ : ∃ k,g=k+1:=⟨g-1,by omega⟩
    rw [List.length_append] at hg
    rw [lexT] at hx
    have hda:=List.dropWhile_append (p:=spaB) (xs:=x) (ys:=y)
    split at hx
    . rename_i h0
      cases hx
      have e:lexT (g+1) (x++y)=lexT (g+1) y:=by
        rw [lexT,lexT,hda,h0];rfl
      rw [e,lexT_fuel (g+1) (y.length+1) y (by omega) (by omega)]
      simp
    . rename_i h0
      cases ho:oneR (x.dropWhile spaB) with
      | none=>rw [ho] at hx;cases hx
      | some v =>
        rw [ho] at hx
        dsimp only at hx
        have h1:=one_w ho
        have h2:=dw_len (p:=spaB) x
        cases hr:lexT f ((x.dropWhile spaB).drop v.2.2.2) with
        | none=>rw [hr] at hx;cases hx
        | some m =>
          rw [hr] at hx
          cases hx
          have he:(x.dropWhile spaB).isEmpty=false:=by cases hz:x.dropWhile spaB with | nil=>exact absurd hz h0 | cons a b=>rfl
          rw [he] at hda
          rw [lexT,hda]
          simp only [Bool.false_eq_true,if_false]
          rw [if_neg (λ e=>h0 (List.append_eq_nil_iff.1 e).1),one_app h ho]
          dsimp only
          rw [List.drop_append_of_le_length h1.2,lexT_app h f _ m (by rw [List.length_drop];omega) hr g (by rw [List.length_append,List.length_drop];omega)]
          cases lexF y with
          | none=>rfl
          | some z=>rfl
theorem lexF_app {x y:Str} (h:brkY y) {l:List T3} (hx:lexF x=some l):lexF (x++y)=(lexF y).map (l ++ ·):=lexT_app h _ x l (by omega) hx _ (by omega)
theorem lexF_space (y:Str):lexF (32::y)=lexF y:=by
  have e:lexT (y.length+2) (32::y)=lexT (y.length+2) y:=by
    rw [lexT,lexT]
    have:(32::y:Str).dropWhile spaB=y.dropWhile spaB:=by rw [List.dropWhile_cons,if_pos (by decide)]
    rw [this]
  exact e.trans (lexT_fuel _ _ _ (by omega) (by omega))
end Go.Proofs.YtnnfjemaeefbiaaGreatDoor
