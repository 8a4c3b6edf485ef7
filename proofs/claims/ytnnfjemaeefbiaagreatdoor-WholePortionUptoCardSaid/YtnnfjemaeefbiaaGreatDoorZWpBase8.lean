/- The texts PsC PsD PsE PsF PsG PsH PsI, one behind the other: what the law leans on. Conditions: as each theorem says. -/
import Derived.Test.YtnnfjemaeefbiaaGreatDoorZWpBase7
set_option linter.unusedSimpArgs false
set_option linter.unusedVariables false
set_option maxRecDepth 100000
set_option maxHeartbeats 16000000
namespace Go.Proofs.YtnnfjemaeefbiaaGreatDoor
open Go.RowKit
abbrev PE := Except (Int×Int)
def mustA (q:Sq):Nat->List Str->PE Nat
  | a,[] => .ok a
  | a,t::ts=>if oneT q.L a t=true then mustA q (a+1) ts else .error (150,placeR q.en q.L a)
theorem mustA_cons {q:Sq} {a:Nat} {t:Str} {ts:List Str}:mustA q a (t::ts)=if oneT q.L a t=true then mustA q (a+1) ts else .error (150,placeR q.en q.L a):=rfl
theorem mayA_one {L:List Tok} {a:Nat} {t:Str}:mayA L a [t]=if oneT L a t=true then some (a+1) else none:=rfl
theorem Ps.must (B:Wn) (S:List Wp) (gs:Nat) (q:Sq) (a d:Nat) (hq:q.L.length<2^29) (ha:a<2^28) (tp:Option Addr) (m tc:Nat) (ts:List Str) (hm:ts.length=m) (hmb:m<2^20) (ht:FlV B S sC (.slice tp m tc) ts) :
  FnE Tryz.prog B 80 #[pV gs,.slice tp m tc] (srB gs q a d::srT q::S) (λ u l => ∃ b,mustA q a ts = .ok b/\u = .tuple #[]/\l=srB gs q b d::srT q::S) (Xm (mustA q a ts)):=by
 refine FnE.enter2 20 Tryz.func80 rfl rfl (nB rfl) (λ F=>?_)
 try simp only [cA,nA]
 refine Ts ?_
 refine TR ?_
 refine Lm rfl ?_
 refine Lq (yI (e:=9) (sz:=1) rfl) ?_
 refine Lm rfl ?_
 refine Ld ?_
 refine yH ?_
 refine zG (λ mz fz lz => ∃ (f0:Fr) (j b:Nat),(j<=m/\b=a+j/\mustA q a ts=mustA q b (ts.drop j))/\mz=m-j/\fz=(upd (upd (upd (upd f0 0 (pV gs)) 6 (.slice tp m tc)) 7 (iV m)) 8 (iV j))/\lz=srB gs q b d::srT q::(S++F)) ?_ ?_
 . refine ⟨_,_,⟨_,0,a,⟨Nat.zero_le _,rfl,rfl⟩,rfl,(Za rfl (Za rfl (Za rfl (Za rfl rfl)))),rfl⟩,Sa⟩
 rintro mz fz lz ⟨f0,j,b,⟨hj,hb,hmy⟩,hmz,rfl,rfl⟩
 subst mz
 refine Ts ?_
 refine TR ?_
 refine Lq (yM rfl rfl) ?_
 refine Ld ?_
 refine Ts ?_
 refine yN rfl (λ hlt=>?_) (λ hlt=>?_)
 .
  obtain ⟨bt,ot,rfl,hrd⟩:=ht.at (sz:=1) (λ _=>rfl) (by omega)
  obtain ⟨t,hT⟩ : ∃ t,ts[j]? = some t:=⟨_,List.getElem?_eq_getElem (by omega)⟩
  obtain ⟨hTl,hTe⟩:=List.getElem?_eq_some_iff.1 hT
  rw [List.drop_eq_getElem_cons hTl,hTe,mustA_cons] at hmy
  refine Tk ?_
  refine Ts ?_
  refine yH ?_
  refine Ts ?_
  refine TR ?_
  refine Lq (Qi _ (e:=9) (sz:=1) rfl rfl rfl) ?_
  refine Lq (zN (v:=tV t) rfl (λ w ho=>hrd j t hT w (ho.map Sa) 0 (tV t) rfl)) ?_
  refine La rfl ?_
  refine Ld ?_
  refine Ts ?_
  refine TR ?_
  refine Lm rfl ?_
  refine Lm rfl ?_
  refine Le (zK [_] (e:=9) (sz:=1) ⟨.string .empty,by kernel_rfl,rfl⟩ rfl rfl rfl ?_)
  intro g14
  refine Le (Ec (Ps.may B [blk g14 [tV t] 9] gs q b d (some ⟨g14,0,none⟩) 1 1 [t] rfl (FlV.blk (x:=[t]) (g:=sC) rfl)) Tryz.func47 rfl rfl rfl ?_)
  rintro _ _ ⟨rfl,rfl⟩
  try simp only [cA,nA]
  by_cases h1:oneT q.L b t=true
  .
   rw [if_pos h1] at hmy
   rw [mayA_one,if_pos h1]
   dsimp only [Option.isSome,Option.getD]
   refine Lq (Y2 rfl) ?_
   refine Ld ?_
   refine yQ rfl ?_
   refine Tk ?_
   refine TR ?_
   refine Lq (Qd rfl rfl (Ze)) ?_
   refine Lm rfl ?_
   refine Ld ?_
   refine ⟨_,?_,_,⟨_,j+1,b+1,⟨by omega,by omega,hmy⟩,rfl,(Za rfl (Za rfl (Za rfl (Za rfl rfl)))),rfl⟩,Sa⟩
   omega
  rw [if_neg h1] at hmy
  rw [mayA_one,if_neg h1]
  dsimp only [Option.isSome,Option.getD]
  refine Lq (Y2 rfl) ?_
  refine Ld ?_
  refine zF rfl ?_
  refine TR ?_
  refine Lm rfl ?_
  refine LW.p rfl (Ee.call (Ps.fail B gs q b d (by omega) 150) Tryz.func48 rfl rfl rfl (by exact (λ pv ⟨e,he,hp⟩=>FnEPost.dead ⟨e,(by rw [hmy];cases he;rfl),hp⟩ Sa)) ?_)
  rintro _ _ hF
  exact hF.elim
 rw [List.drop_of_length_le (by omega)] at hmy
 refine zB ?_
 exact ⟨.inr rfl,_,_,res [] rfl trivial,⟨b,hmy,rfl,rfl⟩,Sa⟩
def rsvL : List Str:=[[67,82,69,65,84,69],[84,65,66,76,69],[73,78,68,69,88],[79,78],[78,79],[79,86,69,82,76,65,80],[73,78,84],[84,69,88,84],[73,78,83,69,82,84],[73,78,84,79],[86,65,76,85,69,83],[70,82,79,77],[84,79],[70,79,82,69,86,69,82],[85,80,68,65,84,69],[83,69,84],[70,79,82],[87,72,69,82,69],[68,69,76,69,84,69],[66,69,71,73,78],[67,79,77,77,73,84],[82,79,76,76,66,65,67,75],[83,69,76,69,67,84],[67,79,65,76,69,83,67,69],[67,79,85,78,84],[83,85,77],[85,78,73,79,78],[69,88,67,69,80,84],[65,83],[79,70],[65,84],[68,85,82,73,78,71],[79,82,68,69,82],[66,89],[65,78,68],[79,82],[78,79,84]]
def resB (s:Str):Bool:=rsvL.contains s
def nameR (q:Sq) (a:Nat):PE (Str×Nat):=match q.L[a]? with
  | some x=>if x.kind=1/\resB x.text=false/\x.text.length<=24 then .ok (x.text,a+1) else .error (150,placeR q.en q.L a)
  | none => .error (150,placeR q.en q.L a)
def numR (q:Sq) (a:Nat):PE (Int×Nat):=match q.L[a]? with
  | some x=>if x.kind=2 then .ok (x.int,a+1) else .error (150,placeR q.en q.L a)
  | none => .error (150,placeR q.en q.L a)
theorem Ps.reserved (B:Wn) (s:Str):Fn Tryz.prog B 127 #[tV s] [] (λ u l=>u = .bool (resB s)/\l=[]):=by
 refine Wq 42 Tryz.func127 rfl rfl (nB rfl) (λ F=>?_)
 try simp only [cA,nA]
 refine Ts ?_
 refine TR ?_
 refine La rfl ?_
 refine Ld ?_
 refine Ts ?_
 refine Ts ?_
 refine TR ?_
 refine Lm rfl ?_
 refine Ld ?_
 refine yH ?_
 refine Ts ?_
 refine Ts ?_
 refine TR ?_
 refine Lq (Z3 rfl rfl) ?_
 refine La rfl ?_
 refine Ld ?_
 refine yN rfl (λ h0=>?_) (λ h0=>?_)
 .
  subst h0
  refine Tk ?_
  refine zF rfl ?_
  refine Ts ?_
  refine TR ?_
  refine La rfl ?_
  refine Ld ?_
  refine T.ret ?_
  exact ⟨.inl rfl,_,_,res [_] rfl ⟨rvT rfl,trivial⟩,⟨congrArg Value.bool (by decide),rfl⟩,Sa⟩
 refine Ts ?_
 refine TR ?_
 refine Lq (Z3 rfl rfl) ?_
 refine La rfl ?_
 refine Ld ?_
 refine yN rfl (λ h1=>?_) (λ h1=>?_)
 .
  subst h1
  refine Tk ?_
  refine zF rfl ?_
  refine Ts ?_
  refine TR ?_
  refine La rfl ?_
  refine Ld ?_
  refine T.ret ?_
  exact ⟨.inl rfl,_,_,res [_] rfl ⟨rvT rfl,trivial⟩,⟨congrArg Value.bool (by decide),rfl⟩,Sa⟩
 refine Ts ?_
 refine TR ?_
 refine Lq (Z3 rfl rfl) ?_
 refine La rfl ?_
 refine Ld ?_
 refine yN rfl (λ h2=>?_) (λ h2=>?_)
 .
  subst h2
  refine Tk ?_
  refine zF rfl ?_
  refine Ts ?_
  refine TR ?_
  refine La rfl ?_
  refine Ld ?_
  refine T.ret ?_
  exact ⟨.inl rfl,_,_,res [_] rfl ⟨rvT rfl,trivial⟩,⟨congrArg Value.bool (by decide),rfl⟩,Sa⟩
 refine Ts ?_
 refine TR ?_
 refine Lq (Z3 rfl rfl) ?_
 refine La rfl ?_
 refine Ld ?_
 refine yN rfl (λ h3=>?_) (λ h3=>?_)
 .
  subst h3
  refine Tk ?_
  refine zF rfl ?_
  refine Ts ?_
  refine TR ?_
  refine La rfl ?_
  refine Ld ?_
  refine T.ret ?_
  exact ⟨.inl rfl,_,_,res [_] rfl ⟨rvT rfl,trivial⟩,⟨congrArg Value.bool (by decide),rfl⟩,Sa⟩
 refine Ts ?_
 refine TR ?_
 refine Lq (Z3 rfl rfl) ?_
 refine La rfl ?_
 refine Ld ?_
 refine yN rfl (λ h4=>?_) (λ h4=>?_)
 .
  subst h4
  refine Tk ?_
  refine zF rfl ?_
  refine Ts ?_
  refine TR ?_
  refine La rfl ?_
  refine Ld ?_
  refine T.ret ?_
  exact ⟨.inl rfl,_,_,res [_] rfl ⟨rvT rfl,trivial⟩,⟨congrArg Value.bool (by decide),rfl⟩,Sa⟩
 refine Ts ?_
 refine TR ?_
 refine Lq (Z3 rfl rfl) ?_
 refine La rfl ?_
 refine Ld ?_
 refine yN rfl (λ h5=>?_) (λ h5=>?_)
 .
  subst h5
  refine Tk ?_
  refine zF rfl ?_
  refine Ts ?_
  refine TR ?_
  refine La rfl ?_
  refine Ld ?_
  refine T.ret ?_
  exact ⟨.inl rfl,_,_,res [_] rfl ⟨rvT rfl,trivial⟩,⟨congrArg Value.bool (by decide),rfl⟩,Sa⟩
 refine Ts ?_
 refine TR ?_
 refine Lq (Z3 rfl rfl) ?_
 refine La rfl ?_
 refine Ld ?_
 refine yN rfl (λ h6=>?_) (λ h6=>?_)
 .
  subst h6
  refine Tk ?_
  refine zF rfl ?_
  refine Ts ?_
  refine TR ?_
  refine La rfl ?_
  refine Ld ?_
  refine T.ret ?_
  exact ⟨.inl rfl,_,_,res [_] rfl ⟨rvT rfl,trivial⟩,⟨congrArg Value.bool (by decide),rfl⟩,Sa⟩
 refine Ts ?_
 refine TR ?_
 refine Lq (Z3 rfl rfl) ?_
 refine La rfl ?_
 refine Ld ?_
 refine yN rfl (λ h7=>?_) (λ h7=>?_)
 .
  subst h7
  refine Tk ?_
  refine zF rfl ?_
  refine Ts ?_
  refine TR ?_
  refine La rfl ?_
  refine Ld ?_
  refine T.ret ?_
  exact ⟨.inl rfl,_,_,res [_] rfl ⟨rvT rfl,trivial⟩,⟨congrArg Value.bool (by decide),rfl⟩,Sa⟩
 refine Ts ?_
 refine TR ?_
 refine Lq (Z3 rfl rfl) ?_
 refine La rfl ?_
 refine Ld ?_
 refine yN rfl (λ h8=>?_) (λ h8=>?_)
 .
  subst h8
  refine Tk ?_
  refine zF rfl ?_
  refine Ts ?_
  refine TR ?_
  refine La rfl ?_
  refine Ld ?_
  refine T.ret ?_
  exact ⟨.inl rfl,_,_,res [_] rfl ⟨rvT rfl,trivial⟩,⟨congrArg Value.bool (by decide),rfl⟩,Sa⟩
 refine Ts ?_
 refine TR ?_
 refine Lq (Z3 rfl rfl) ?_
 refine La rfl ?_
 refine Ld ?_
 refine yN rfl (λ h9=>?_) (λ h9=>?_)
 .
  subst h9
  refine Tk ?_
  refine zF rfl ?_
  refine Ts ?_
  refine TR ?_
  refine La rfl ?_
  refine Ld ?_
  refine T.ret ?_
  exact ⟨.inl rfl,_,_,res [_] rfl ⟨rvT rfl,trivial⟩,⟨congrArg Value.bool (by decide),rfl⟩,Sa⟩
 refine Ts ?_
 refine TR ?_
 refine Lq (Z3 rfl rfl) ?_
 refine La rfl ?_
 refine Ld ?_
 refine yN rfl (λ h10=>?_) (λ h10=>?_)
 .
  subst h10
  refine Tk ?_
  refine zF rfl ?_
  refine Ts ?_
  refine TR ?_
  refine La rfl ?_
  refine Ld ?_
  refine T.ret ?_
  exact ⟨.inl rfl,_,_,res [_] rfl ⟨rvT rfl,trivial⟩,⟨congrArg Value.bool (by decide),rfl⟩,Sa⟩
 refine Ts ?_
 refine TR ?_
 refine Lq (Z3 rfl rfl) ?_
 refine La rfl ?_
 refine Ld ?_
 refine yN rfl (λ h11=>?_) (λ h11=>?_)
 .
  subst h11
  refine Tk ?_
  refine zF rfl ?_
  refine Ts ?_
  refine TR ?_
  refine La rfl ?_
  refine Ld ?_
  refine T.ret ?_
  exact ⟨.inl rfl,_,_,res [_] rfl ⟨rvT rfl,trivial⟩,⟨congrArg Value.bool (by decide),rfl⟩,Sa⟩
 refine Ts ?_
 refine TR ?_
 refine Lq (Z3 rfl rfl) ?_
 refine La rfl ?_
 refine Ld ?_
 refine yN rfl (λ h12=>?_) (λ h12=>?_)
 .
  subst h12
  refine Tk ?_
  refine zF rfl ?_
  refine Ts ?_
  refine TR ?_
  refine La rfl ?_
  refine Ld ?_
  refine T.ret ?_
  exact ⟨.inl rfl,_,_,res [_] rfl ⟨rvT rfl,trivial⟩,⟨congrArg Value.bool (by decide),rfl⟩,Sa⟩
 refine Ts ?_
 refine TR ?_
 refine Lq (Z3 rfl rfl) ?_
 refine La rfl ?_
 refine Ld ?_
 refine yN rfl (λ h13=>?_) (λ h13=>?_)
 .
  subst h13
  refine Tk ?_
  refine zF rfl ?_
  refine Ts ?_
  refine TR ?_
  refine La rfl ?_
  refine Ld ?_
  refine T.ret ?_
  exact ⟨.inl rfl,_,_,res [_] rfl ⟨rvT rfl,trivial⟩,⟨congrArg Value.bool (by decide),rfl⟩,Sa⟩
 refine Ts ?_
 refine TR ?_
 refine Lq (Z3 rfl rfl) ?_
 refine La rfl ?_
 refine Ld ?_
 refine yN rfl (λ h14=>?_) (λ h14=>?_)
 .
  subst h14
  refine Tk ?_
  refine zF rfl ?_
  refine Ts ?_
  refine TR ?_
  refine La rfl ?_
  refine Ld ?_
  refine T.ret ?_
  exact ⟨.inl rfl,_,_,res [_] rfl ⟨rvT rfl,trivial⟩,⟨congrArg Value.bool (by decide),rfl⟩,Sa⟩
 refine Ts ?_
 refine TR ?_
 refine Lq (Z3 rfl rfl) ?_
 refine La rfl ?_
 refine Ld ?_
 refine yN rfl (λ h15=>?_) (λ h15=>?_)
 .
  subst h15
  refine Tk ?_
  refine zF rfl ?_
  refine Ts ?_
  refine TR ?_
  refine La rfl ?_
  refine Ld ?_
  refine T.ret ?_
  exact ⟨.inl rfl,_,_,res [_] rfl ⟨rvT rfl,trivial⟩,⟨congrArg Value.bool (by decide),rfl⟩,Sa⟩
 refine Ts ?_
 refine TR ?_
 refine Lq (Z3 rfl rfl) ?_
 refine La rfl ?_
 refine Ld ?_
 refine yN rfl (λ h16=>?_) (λ h16=>?_)
 .
  subst h16
  refine Tk ?_
  refine zF rfl ?_
  refine Ts ?_
  refine TR ?_
  refine La rfl ?_
  refine Ld ?_
  refine T.ret ?_
  exact ⟨.inl rfl,_,_,res [_] rfl ⟨rvT rfl,trivial⟩,⟨congrArg Value.bool (by decide),rfl⟩,Sa⟩
 refine Ts ?_
 refine TR ?_
 refine Lq (Z3 rfl rfl) ?_
 refine La rfl ?_
 refine Ld ?_
 refine yN rfl (λ h17=>?_) (λ h17=>?_)
 .
  subst h17
  refine Tk ?_
  refine zF rfl ?_
  refine Ts ?_
  refine TR ?_
  refine La rfl ?_
  refine Ld ?_
  refine T.ret ?_
  exact ⟨.inl rfl,_,_,res [_] rfl ⟨rvT rfl,trivial⟩,⟨congrArg Value.bool (by decide),rfl⟩,Sa⟩
 refine Ts ?_
 refine TR ?_
 refine Lq (Z3 rfl rfl) ?_
 refine La rfl ?_
 refine Ld ?_
 refine yN rfl (λ h18=>?_) (λ h18=>?_)
 .
  subst h18
  refine Tk ?_
  refine zF rfl ?_
  refine Ts ?_
  refine TR ?_
  refine La rfl ?_
  refine Ld ?_
  refine T.ret ?_
  exact ⟨.inl rfl,_,_,res [_] rfl ⟨rvT rfl,trivial⟩,⟨congrArg Value.bool (by decide),rfl⟩,Sa⟩
 refine Ts ?_
 refine TR ?_
 refine Lq (Z3 rfl rfl) ?_
 refine La rfl ?_
 refine Ld ?_
 refine yN rfl (λ h19=>?_) (λ h19=>?_)
 .
  subst h19
  refine Tk ?_
  refine zF rfl ?_
  refine Ts ?_
  refine TR ?_
  refine La rfl ?_
  refine Ld ?_
  refine T.ret ?_
  exact ⟨.inl rfl,_,_,res [_] rfl ⟨rvT rfl,trivial⟩,⟨congrArg Value.bool (by decide),rfl⟩,Sa⟩
 refine Ts ?_
 refine TR ?_
 refine Lq (Z3 rfl rfl) ?_
 refine La rfl ?_
 refine Ld ?_
 refine yN rfl (λ h20=>?_) (λ h20=>?_)
 .
  subst h20
  refine Tk ?_
  refine zF rfl ?_
  refine Ts ?_
  refine TR ?_
  refine La rfl ?_
  refine Ld ?_
  refine T.ret ?_
  exact ⟨.inl rfl,_,_,res [_] rfl ⟨rvT rfl,trivial⟩,⟨congrArg Value.bool (by decide),rfl⟩,Sa⟩
 refine Ts ?_
 refine TR ?_
 refine Lq (Z3 rfl rfl) ?_
 refine La rfl ?_
 refine Ld ?_
 refine yN rfl (λ h21=>?_) (λ h21=>?_)
 .
  subst h21
  refine Tk ?_
  refine zF rfl ?_
  refine Ts ?_
  refine TR ?_
  refine La rfl ?_
  refine Ld ?_
  refine T.ret ?_
  exact ⟨.inl rfl,_,_,res [_] rfl ⟨rvT rfl,trivial⟩,⟨congrArg Value.bool (by decide),rfl⟩,Sa⟩
 refine Ts ?_
 refine TR ?_
 refine Lq (Z3 rfl rfl) ?_
 refine La rfl ?_
 refine Ld ?_
 refine yN rfl (λ h22=>?_) (λ h22=>?_)
 .
  subst h22
  refine Tk ?_
  refine zF rfl ?_
  refine Ts ?_
  refine TR ?_
  refine La rfl ?_
  refine Ld ?_
  refine T.ret ?_
  exact ⟨.inl rfl,_,_,res [_] rfl ⟨rvT rfl,trivial⟩,⟨congrArg Value.bool (by decide),rfl⟩,Sa⟩
 refine Ts ?_
 refine TR ?_
 refine Lq (Z3 rfl rfl) ?_
 refine La rfl ?_
 refine Ld ?_
 refine yN rfl (λ h23=>?_) (λ h23=>?_)
 .
  subst h23
  refine Tk ?_
  refine zF rfl ?_
  refine Ts ?_
  refine TR ?_
  refine La rfl ?_
  refine Ld ?_
  refine T.ret ?_
  exact ⟨.inl rfl,_,_,res [_] rfl ⟨rvT rfl,trivial⟩,⟨congrArg Value.bool (by decide),rfl⟩,Sa⟩
 refine Ts ?_
 refine TR ?_
 refine Lq (Z3 rfl rfl) ?_
 refine La rfl ?_
 refine Ld ?_
 refine yN rfl (λ h24=>?_) (λ h24=>?_)
 .
  subst h24
  refine Tk ?_
  refine zF rfl ?_
  refine Ts ?_
  refine TR ?_
  refine La rfl ?_
  refine Ld ?_
  refine T.ret ?_
  exact ⟨.inl rfl,_,_,res [_] rfl ⟨rvT rfl,trivial⟩,⟨congrArg Value.bool (by decide),rfl⟩,Sa⟩
 refine Ts ?_
 refine TR ?_
 refine Lq (Z3 rfl rfl) ?_
 refine La rfl ?_
 refine Ld ?_
 refine yN rfl (λ h25=>?_) (λ h25=>?_)
 .
  subst h25
  refine Tk ?_
  refine zF rfl ?_
  refine Ts ?_
  refine TR ?_
  refine La rfl ?_
  refine Ld ?_
  refine T.ret ?_
  exact ⟨.inl rfl,_,_,res [_] rfl ⟨rvT rfl,trivial⟩,⟨congrArg Value.bool (by decide),rfl⟩,Sa⟩
 refine Ts ?_
 refine TR ?_
 refine Lq (Z3 rfl rfl) ?_
 refine La rfl ?_
 refine Ld ?_
 refine yN rfl (λ h26=>?_) (λ h26=>?_)
 .
  subst h26
  refine Tk ?_
  refine zF rfl ?_
  refine Ts ?_
  refine TR ?_
  refine La rfl ?_
  refine Ld ?_
  refine T.ret ?_
  exact ⟨.inl rfl,_,_,res [_] rfl ⟨rvT rfl,trivial⟩,⟨congrArg Value.bool (by decide),rfl⟩,Sa⟩
 refine Ts ?_
 refine TR ?_
 refine Lq (Z3 rfl rfl) ?_
 refine La rfl ?_
 refine Ld ?_
 refine yN rfl (λ h27=>?_) (λ h27=>?_)
 .
  subst h27
  refine Tk ?_
  refine zF rfl ?_
  refine Ts ?_
  refine TR ?_
  refine La rfl ?_
  refine Ld ?_
  refine T.ret ?_
  exact ⟨.inl rfl,_,_,res [_] rfl ⟨rvT rfl,trivial⟩,⟨congrArg Value.bool (by decide),rfl⟩,Sa⟩
 refine Ts ?_
 refine TR ?_
 refine Lq (Z3 rfl rfl) ?_
 refine La rfl ?_
 refine Ld ?_
 refine yN rfl (λ h28=>?_) (λ h28=>?_)
 .
  subst h28
  refine Tk ?_
  refine zF rfl ?_
  refine Ts ?_
  refine TR ?_
  refine La rfl ?_
  refine Ld ?_
  refine T.ret ?_
  exact ⟨.inl rfl,_,_,res [_] rfl ⟨rvT rfl,trivial⟩,⟨congrArg Value.bool (by decide),rfl⟩,Sa⟩
 refine Ts ?_
 refine TR ?_
 refine Lq (Z3 rfl rfl) ?_
 refine La rfl ?_
 refine Ld ?_
 refine yN rfl (λ h29=>?_) (λ h29=>?_)
 .
  subst h29
  refine Tk ?_
  refine zF rfl ?_
  refine Ts ?_
  refine TR ?_
  refine La rfl ?_
  refine Ld ?_
  refine T.ret ?_
  exact ⟨.inl rfl,_,_,res [_] rfl ⟨rvT rfl,trivial⟩,⟨congrArg Value.bool (by decide),rfl⟩,Sa⟩
 refine Ts ?_
 refine TR ?_
 refine Lq (Z3 rfl rfl) ?_
 refine La rfl ?_
 refine Ld ?_
 refine yN rfl (λ h30=>?_) (λ h30=>?_)
 .
  subst h30
  refine Tk ?_
  refine zF rfl ?_
  refine Ts ?_
  refine TR ?_
  refine La rfl ?_
  refine Ld ?_
  refine T.ret ?_
  exact ⟨.inl rfl,_,_,res [_] rfl ⟨rvT rfl,trivial⟩,⟨congrArg Value.bool (by decide),rfl⟩,Sa⟩
 refine Ts ?_
 refine TR ?_
 refine Lq (Z3 rfl rfl) ?_
 refine La rfl ?_
 refine Ld ?_
 refine yN rfl (λ h31=>?_) (λ h31=>?_)
 .
  subst h31
  refine Tk ?_
  refine zF rfl ?_
  refine Ts ?_
  refine TR ?_
  refine La rfl ?_
  refine Ld ?_
  refine T.ret ?_
  exact ⟨.inl rfl,_,_,res [_] rfl ⟨rvT rfl,trivial⟩,⟨congrArg Value.bool (by decide),rfl⟩,Sa⟩
 refine Ts ?_
 refine TR ?_
 refine Lq (Z3 rfl rfl) ?_
 refine La rfl ?_
 refine Ld ?_
 refine yN rfl (λ h32=>?_) (λ h32=>?_)
 .
  subst h32
  refine Tk ?_
  refine zF rfl ?_
  refine Ts ?_
  refine TR ?_
  refine La rfl ?_
  refine Ld ?_
  refine T.ret ?_
  exact ⟨.inl rfl,_,_,res [_] rfl ⟨rvT rfl,trivial⟩,⟨congrArg Value.bool (by decide),rfl⟩,Sa⟩
 refine Ts ?_
 refine TR ?_
 refine Lq (Z3 rfl rfl) ?_
 refine La rfl ?_
 refine Ld ?_
 refine yN rfl (λ h33=>?_) (λ h33=>?_)
 .
  subst h33
  refine Tk ?_
  refine zF rfl ?_
  refine Ts ?_
  refine TR ?_
  refine La rfl ?_
  refine Ld ?_
  refine T.ret ?_
  exact ⟨.inl rfl,_,_,res [_] rfl ⟨rvT rfl,trivial⟩,⟨congrArg Value.bool (by decide),rfl⟩,Sa⟩
 refine Ts ?_
 refine TR ?_
 refine Lq (Z3 rfl rfl) ?_
 refine La rfl ?_
 refine Ld ?_
 refine yN rfl (λ h34=>?_) (λ h34=>?_)
 .
  subst h34
  refine Tk ?_
  refine zF rfl ?_
  refine Ts ?_
  refine TR ?_
  refine La rfl ?_
  refine Ld ?_
  refine T.ret ?_
  exact ⟨.inl rfl,_,_,res [_] rfl ⟨rvT rfl,trivial⟩,⟨congrArg Value.bool (by decide),rfl⟩,Sa⟩
 refine Ts ?_
 refine TR ?_
 refine Lq (Z3 rfl rfl) ?_
 refine La rfl ?_
 refine Ld ?_
 refine yN rfl (λ h35=>?_) (λ h35=>?_)
 .
  subst h35
  refine Tk ?_
  refine zF rfl ?_
  refine Ts ?_
  refine TR ?_
  refine La rfl ?_
  refine Ld ?_
  refine T.ret ?_
  exact ⟨.inl rfl,_,_,res [_] rfl ⟨rvT rfl,trivial⟩,⟨congrArg Value.bool (by decide),rfl⟩,Sa⟩
 refine TR ?_
 refine Lq (Z3 rfl rfl) ?_
 refine La rfl ?_
 refine Ld ?_
 refine yN rfl (λ h36=>?_) (λ h36=>?_)
 .
  subst h36
  refine Ts ?_
  refine TR ?_
  refine La rfl ?_
  refine Ld ?_
  refine T.ret ?_
  exact ⟨.inl rfl,_,_,res [_] rfl ⟨rvT rfl,trivial⟩,⟨congrArg Value.bool (by decide),rfl⟩,Sa⟩
 refine Tk ?_
 refine Ts ?_
 refine TR ?_
 refine La rfl ?_
 refine Ld ?_
 refine T.ret ?_
 exact ⟨.inl rfl,_,_,res [_] rfl ⟨rvT rfl,trivial⟩,⟨congrArg Value.bool (by simp [resB,rsvL,h0,h1,h2,h3,h4,h5,h6,h7,h8,h9,h10,h11,h12,h13,h14,h15,h16,h17,h18,h19,h20,h21,h22,h23,h24,h25,h26,h27,h28,h29,h30,h31,h32,h33,h34,h35,h36]),rfl⟩,Sa⟩
theorem Ps.name (B:Wn) (gs:Nat) (q:Sq) (a d:Nat) (hq:q.L.length<2^29) (ha:a<2^28) (ht : ∀ x∈q.L,x.text.length<2^40) :
  FnE Tryz.prog B 79 #[pV gs] [srB gs q a d,srT q] (λ u l => ∃ x,nameR q a = .ok x/\u=tV x.1/\x.2=a+1/\a<q.L.length/\l=[srB gs q x.2 d,srT q]) (Xm (nameR q a)):=by
 obtain ⟨p,c,en,L⟩:=q
 dsimp only at hq ht
 dsimp only [srB,srT]
 refine FnE.enter1 56 Tryz.func79 rfl rfl (nB rfl) (λ F=>?_)
 try simp only [cA,nA]
 refine Ts ?_
 refine TR ?_
 refine La rfl ?_
 refine Ld ?_
 refine Ts ?_
 refine Ts ?_
 refine zW 32 none (nB rfl) ?_
 refine Rq 0 rfl Sa (Qm rfl) ?_
 refine yK 1 ?_
 refine zY rfl (Ec (Ps.is B [] gs ⟨p,c,en,L⟩ a d (by dsimp only;omega) 1 none 0 0 [] rfl (FlV.empty _ _)) Tryz.func91 rfl rfl rfl ?_)
 rintro _ _ ⟨rfl,rfl⟩
 try simp only [cA,nA]
 by_cases hk:isT L a 1 []=true
 .
  have hal:=isT_lt hk
  obtain ⟨y,hy⟩ : ∃ y,L[a]? = some y:=⟨_,List.getElem?_eq_getElem hal⟩
  have hyk:y.kind=1:=by unfold isT at hk;rw [hy] at hk;simpa using hk
  have hyl:=ht y (List.mem_of_getElem? hy)
  refine RW.own λ w ho=>?_
  obtain ⟨g,rfl⟩:=((ho.map Sa:Own B w [tkR p L.length c L]).slice_at (p:=p) (m:=L.length) (c:=c)).2.1 (by omega)
  clear ho
  rw [hk]
  refine Rq 2 rfl (Sr _) (Y2 rfl) ?_
  refine Rq 3 rfl (Sr _) (Qm rfl) ?_
  refine ZD (t:=6) rfl rfl ?_
  refine Rq 4 rfl (Sr _) (Qm rfl) ?_
  refine Rq 5 rfl (Sr _) (Qn rfl) ?_
  refine Rq 6 rfl (Sr _) (Q0 rfl) ?_
  refine Rq 7 rfl (Sr _) (Ql rfl rfl) ?_
  refine Rq 8 rfl (Sr _) (Qm rfl) ?_
  refine Rq 9 rfl (Sr _) (Qn rfl) ?_
  refine Rq 10 rfl (Sr _) (Qf (off:=1) rfl) ?_
  refine Rq 11 rfl (Sr _) (Ql rfl rfl) ?_
  refine Rq 12 rfl (Sr _) (Qi _ (e:=171) (sz:=4) rfl rfl rfl) ?_
  refine Rq 13 rfl (Sr _) (Qf (off:=1) rfl) ?_
  refine Rq 14 rfl (Sr _) (Ql (v:=tV y.text) rfl (tk_cell hy 1 rfl)) ?_
  refine yK 15 ?_
  refine zY rfl (Ec (Ps.reserved B y.text) Tryz.func127 rfl rfl rfl ?_)
  rintro _ _ ⟨rfl,rfl⟩
  try simp only [cA,nA]
  refine Rq 16 rfl (Sr _) (Qp rfl rfl) ?_
  refine Rq 17 rfl (Sr _) (Qm rfl) ?_
  by_cases hr:resB y.text=true
  .
   have hn:nameR ⟨some ⟨g,0,none⟩,c,en,L⟩ a = .error (150,placeR en L a):=by unfold nameR;rw [hy];simp [hr]
   rw [hr]
   refine YY (t:=20) rfl rfl ?_
   refine yY 18 rfl (Sr _) ?_
   refine yY 19 rfl (Sr _) ?_
   refine yY 20 rfl (Sr _) ?_
   refine yY 21 rfl (Sr _) ?_
   refine yY 22 rfl (Sr _) ?_
   refine yY 23 rfl (Sr _) ?_
   refine yY 24 rfl (Sr _) ?_
   refine yY 25 rfl (Sr _) ?_
   refine yY 26 rfl (Sr _) ?_
   refine yY 27 rfl (Sr _) ?_
   refine yY 28 rfl (Sr _) ?_
   refine yY 29 rfl (Sr _) ?_
   refine yY 30 rfl (Sr _) ?_
   refine Rq 31 rfl (Sr _) (Qp rfl rfl) ?_
   refine Rd0 (by rfl) ?_
   simp only [dS,dZ,dN]
   refine Ld ?_
   refine zF rfl ?_
   refine TR ?_
   refine Lm rfl ?_
   refine LW.p rfl (Ee.call (Ps.fail B gs ⟨some ⟨g,0,none⟩,c,en,L⟩ a d (by dsimp only;omega) 150) Tryz.func48 rfl rfl rfl (by exact (λ pv ⟨e,he,hp⟩=>FnEPost.dead ⟨e,(by rw [hn];cases he;rfl),hp⟩ Sa)) ?_)
   rintro _ _ hF
   exact hF.elim
  rw [Bool.not_eq_true] at hr
  rw [hr]
  refine ZD (t:=20) rfl rfl ?_
  refine Rq 18 rfl (Sr _) (Qm rfl) ?_
  refine Rq 19 rfl (Sr _) (Qn rfl) ?_
  refine Rq 20 rfl (Sr _) (Q0 rfl) ?_
  refine Rq 21 rfl (Sr _) (Ql rfl rfl) ?_
  refine Rq 22 rfl (Sr _) (Qm rfl) ?_
  refine Rq 23 rfl (Sr _) (Qn rfl) ?_
  refine Rq 24 rfl (Sr _) (Qf (off:=1) rfl) ?_
  refine Rq 25 rfl (Sr _) (Ql rfl rfl) ?_
  refine Rq 26 rfl (Sr _) (Qi _ (e:=171) (sz:=4) rfl rfl rfl) ?_
  refine Rq 27 rfl (Sr _) (Qf (off:=1) rfl) ?_
  refine Rq 28 rfl (Sr _) (Ql (v:=tV y.text) rfl (tk_cell hy 1 rfl)) ?_
  refine Rq 29 rfl (Sr _) (YU rfl) ?_
  refine Rq 30 rfl (Sr _) (yZ rfl rfl) ?_
  refine Rq 31 rfl (Sr _) (Qp rfl rfl) ?_
  refine Rd0 (by rfl) ?_
  simp only [dS,dZ,dN]
  refine Ld ?_
  refine yN rfl (λ hl=>?_) (λ hl=>?_)
  .
   have hn:nameR ⟨some ⟨g,0,none⟩,c,en,L⟩ a = .error (150,placeR en L a):=by unfold nameR;rw [hy];dsimp only;rw [if_neg (by omega)]
   refine TR ?_
   refine Lm rfl ?_
   refine LW.p rfl (Ee.call (Ps.fail B gs ⟨some ⟨g,0,none⟩,c,en,L⟩ a d (by dsimp only;omega) 150) Tryz.func48 rfl rfl rfl (by exact (λ pv ⟨e,he,hp⟩=>FnEPost.dead ⟨e,(by rw [hn];cases he;rfl),hp⟩ Sa)) ?_)
   rintro _ _ hF
   exact hF.elim
  have hn:nameR ⟨some ⟨g,0,none⟩,c,en,L⟩ a = .ok (y.text,a+1):=by unfold nameR;rw [hy];dsimp only;rw [if_pos ⟨hyk,hr,by omega⟩]
  refine Tk ?_
  refine Ts ?_
  refine TR ?_
  refine Lm rfl ?_
  refine Lq (Qn rfl) ?_
  refine Lq (Qf (off:=1) rfl) ?_
  refine Lq (Ql rfl rfl) ?_
  refine Lq (Qd (r:=((a+1:Nat):Int)) rfl rfl (by rw [Ze];omega)) ?_
  refine Lq (Qn rfl) ?_
  refine Lq (Qf (off:=1) rfl) ?_
  refine L0 (E1 rfl rfl rfl (by first | (simp;done) | (simp;omega)) ?_)
  try simp only [List.set_cons_zero,List.set_cons_succ]
  refine Ld ?_
  refine Ts ?_
  refine zU 12 (nB rfl) ?_
  refine Rq 0 rfl (Sr _) (Qm rfl) ?_
  refine Rq 1 rfl (Sr _) (Qn rfl) ?_
  refine Rq 2 rfl (Sr _) (Q0 rfl) ?_
  refine Rq 3 rfl (Sr _) (Ql rfl rfl) ?_
  refine Rq 4 rfl (Sr _) (Qm rfl) ?_
  refine Rq 5 rfl (Sr _) (Qn rfl) ?_
  refine Rq 6 rfl (Sr _) (Qf (off:=1) rfl) ?_
  refine Rq 7 rfl (Sr _) (Ql rfl rfl) ?_
  refine Rq 8 rfl (Sr _) (Qt.sub (r:=(a:Int)) rfl rfl (by rw [Ze];omega)) ?_
  refine Rq 9 rfl (Sr _) (Qi _ (e:=171) (sz:=4) rfl rfl rfl) ?_
  refine Rq 10 rfl (Sr _) (Qf (off:=1) rfl) ?_
  refine Rq 11 rfl (Sr _) (Ql (v:=tV y.text) rfl (tk_cell hy 1 rfl)) ?_
  refine Rd0 (by rfl) ?_
  simp only [dS,dZ,dN]
  refine La rfl ?_
  refine Ld ?_
  refine T.ret ?_
  exact ⟨.inl rfl,_,_,res [_] rfl ⟨rvT rfl,trivial⟩,⟨_,hn,rfl,rfl,hal,rfl⟩,Sa⟩
 have hn:nameR ⟨p,c,en,L⟩ a = .error (150,placeR en L a):=by
  unfold nameR
  cases hy:L[a]? with
  | none=>rfl
  | some y=>dsimp only;rw [if_neg (λ q=>hk (by unfold isT;rw [hy];simp [q.1]))]
 rw [Bool.not_eq_true] at hk
 rw [hk]
 refine Rq 2 rfl (Sr _) (Y2 rfl) ?_
 refine Rq 3 rfl (Sr _) (Qm rfl) ?_
 refine YY (t:=6) rfl rfl ?_
 refine yY 4 rfl (Sr _) ?_
 refine yY 5 rfl (Sr _) ?_
 refine yY 6 rfl (Sr _) ?_
 refine yY 7 rfl (Sr _) ?_
 refine yY 8 rfl (Sr _) ?_
 refine yY 9 rfl (Sr _) ?_
 refine yY 10 rfl (Sr _) ?_
 refine yY 11 rfl (Sr _) ?_
 refine yY 12 rfl (Sr _) ?_
 refine yY 13 rfl (Sr _) ?_
 refine yY 14 rfl (Sr _) ?_
 refine yY 15 rfl (Sr _) ?_
 refine Rq 16 rfl (Sr _) (Qp rfl rfl) ?_
 refine Rq 17 rfl (Sr _) (Qm rfl) ?_
 refine YY (t:=20) rfl rfl ?_
 refine yY 18 rfl (Sr _) ?_
 refine yY 19 rfl (Sr _) ?_
 refine yY 20 rfl (Sr _) ?_
 refine yY 21 rfl (Sr _) ?_
 refine yY 22 rfl (Sr _) ?_
 refine yY 23 rfl (Sr _) ?_
 refine yY 24 rfl (Sr _) ?_
 refine yY 25 rfl (Sr _) ?_
 refine yY 26 rfl (Sr _) ?_
 refine yY 27 rfl (Sr _) ?_
 refine yY 28 rfl (Sr _) ?_
 refine yY 29 rfl (Sr _) ?_
 refine yY 30 rfl (Sr _) ?_
 refine Rq 31 rfl (Sr _) (Qp rfl rfl) ?_
 refine Rd0 (by rfl) ?_
 simp only [dS,dZ,dN]
 refine Ld ?_
 refine zF rfl ?_
 refine TR ?_
 refine Lm rfl ?_
 refine LW.p rfl (Ee.call (Ps.fail B gs ⟨p,c,en,L⟩ a d (by dsimp only;omega) 150) Tryz.func48 rfl rfl rfl (by exact (λ pv ⟨e,he,hp⟩=>FnEPost.dead ⟨e,(by rw [hn];cases he;rfl),hp⟩ Sa)) ?_)
 rintro _ _ hF
 exact hF.elim
open Go.RowKit
theorem Ps.number (B:Wn) (gs:Nat) (q:Sq) (a d:Nat) (hq:q.L.length<2^29) (ha:a<2^28:=by omega) :
  FnE Tryz.prog B 131 #[pV gs] [srB gs q a d,srT q] (λ u l => ∃ x,numR q a = .ok x/\u=iV x.1/\x.2=a+1/\a<q.L.length/\l=[srB gs q x.2 d,srT q]) (Xm (numR q a)):=by
 obtain ⟨p,c,en,L⟩:=q
 dsimp only at hq
 dsimp only [srB,srT]
 refine FnE.enter1 27 Tryz.func131 rfl rfl (nB rfl) (λ F=>?_)
 try simp only [cA,nA]
 refine Ts ?_
 refine TR ?_
 refine La rfl ?_
 refine Ld ?_
 refine Ts ?_
 refine Ts ?_
 refine TR ?_
 refine Lm rfl ?_
 refine Le (Ec (Ps.is B [] gs ⟨p,c,en,L⟩ a d (by dsimp only;omega) 2 none 0 0 [] rfl (FlV.empty _ _)) Tryz.func91 rfl rfl rfl ?_)
 rintro _ _ ⟨rfl,rfl⟩
 try simp only [cA,nA]
 by_cases hk:isT L a 2 []=true
 .
  have hal:=isT_lt hk
  obtain ⟨y,hy⟩ : ∃ y,L[a]? = some y:=⟨_,List.getElem?_eq_getElem hal⟩
  have hyk:y.kind=2:=by unfold isT at hk;rw [hy] at hk;simpa using hk
  have hn:numR ⟨p,c,en,L⟩ a = .ok (y.int,a+1):=by unfold numR;rw [hy];dsimp only;rw [if_pos hyk]
  rw [hk]
  refine Lq (Y2 rfl) ?_
  refine Ld ?_
  refine yQ rfl ?_
  refine T.own λ w ho=>?_
  obtain ⟨g,rfl⟩:=((ho.map Sa:Own B w [tkR p L.length c L]).slice_at (p:=p) (m:=L.length) (c:=c)).2.1 (by omega)
  clear ho
  refine Tk ?_
  refine Ts ?_
  refine TR ?_
  refine Lm rfl ?_
  refine Lq (Qn rfl) ?_
  refine Lq (Qf (off:=1) rfl) ?_
  refine Lq (Ql rfl rfl) ?_
  refine Lq (Qd (r:=((a+1:Nat):Int)) rfl rfl (by rw [Ze];omega)) ?_
  refine Lq (Qn rfl) ?_
  refine Lq (Qf (off:=1) rfl) ?_
  refine L0 (E1 rfl rfl rfl (by first | (simp;done) | (simp;omega)) ?_)
  try simp only [List.set_cons_zero,List.set_cons_succ]
  refine Ld ?_
  refine Ts ?_
  refine zU 12 (nB rfl) ?_
  refine Rq 0 rfl (Sr _) (Qm rfl) ?_
  refine Rq 1 rfl (Sr _) (Qn rfl) ?_
  refine Rq 2 rfl (Sr _) (Q0 rfl) ?_
  refine Rq 3 rfl (Sr _) (Ql rfl rfl) ?_
  refine Rq 4 rfl (Sr _) (Qm rfl) ?_
  refine Rq 5 rfl (Sr _) (Qn rfl) ?_
  refine Rq 6 rfl (Sr _) (Qf (off:=1) rfl) ?_
  refine Rq 7 rfl (Sr _) (Ql rfl rfl) ?_
  refine Rq 8 rfl (Sr _) (Qt.sub (r:=(a:Int)) rfl rfl (by rw [Ze];omega)) ?_
  refine Rq 9 rfl (Sr _) (Qi _ (e:=171) (sz:=4) rfl rfl rfl) ?_
  refine Rq 10 rfl (Sr _) (Qf (off:=2) rfl) ?_
  refine Rq 11 rfl (Sr _) (Ql (v:=iV y.int) rfl (tk_cell hy 2 rfl)) ?_
  refine Rd0 (by rfl) ?_
  simp only [dS,dZ,dN]
  refine La rfl ?_
  refine Ld ?_
  refine T.ret ?_
  exact ⟨.inl rfl,_,_,res [_] rfl ⟨rvT rfl,trivial⟩,⟨_,hn,rfl,rfl,hal,rfl⟩,Sa⟩
 have hn:numR ⟨p,c,en,L⟩ a = .error (150,placeR en L a):=by
  unfold numR
  cases hy:L[a]? with
  | none=>rfl
  | some y=>dsimp only;rw [if_neg (λ q=>hk (by unfold isT;rw [hy];simp [q]))]
 rw [Bool.not_eq_true] at hk
 rw [hk]
 refine Lq (Y2 rfl) ?_
 refine Ld ?_
 refine zF rfl ?_
 refine TR ?_
 refine Lm rfl ?_
 refine LW.p rfl (Ee.call (Ps.fail B gs ⟨p,c,en,L⟩ a d (by dsimp only;omega) 150) Tryz.func48 rfl rfl rfl (by exact (λ pv ⟨e,he,hp⟩=>FnEPost.dead ⟨e,(by rw [hn];cases he;rfl),hp⟩ Sa)) ?_)
 rintro _ _ hF
 exact hF.elim
abbrev EP := Nat->PE (Ex×Nat)
def opEx (op:Str) (l:List Ex):Ex := .mk op 0 [] [] l
def chR (q:Sq) (read:EP) (ops:List Str):Nat->Ex->Nat->PE (Ex×Nat)
  | 0,e,a => .ok (e,a)
  | f+1,e,a=>if (isT q.L a 1 ops || isT q.L a 4 ops)=true then
      match read (a+1) with
      | .error x => .error x
      | .ok (e2,b)=>chR q read ops f (opEx (match q.L[a]? with | some x=>x.text | none=>[]) [e,e2]) b
    else .ok (e,a)
def chainR (q:Sq) (read:EP) (ops:List Str):EP:=λ a=>match read a with
  | .error x => .error x
  | .ok (e,b)=>chR q read ops (q.L.length+1) e b
abbrev exB (g:Nat) (c:C5):Wp:=blk g (c5 c) 76
abbrev zE : C5:=⟨.string .empty,iV 0,.string .empty,.string .empty,.slice none 0 0⟩
theorem Own.sep {B:Wn} {w:World} {l:List Wp} (ho:Own B w [sepL l]):Own B w l:=ho.map λ _ H=>by simpa using Has.open_sepL H
theorem ExV.two {B:Wn} {A1 A2:Wp} {e1 e2:Ex} {c1 c2:C5} (h1:ExV B [A1] e1 c1) (h2:ExV B [A2] e2 c2) (g:Nat) (op:Str):ExV B [sepL [blk g (c5 c1++c5 c2) 76,A1,A2]] (opEx op [e1,e2]) ⟨tV op,iV 0,.string .empty,.string .empty,.slice (some ⟨g,0,none⟩) 2 2⟩ :=
  .mk op 0 [] [] [e1,e2] _ [c1,c2] ((FlV.blk (x:=[c1,c2]) (g:=c5) (m:=2) (c:=2) (t:=76) (l:=[A1,A2]) rfl).mono λ w ho=>ho.sep) rfl (by simp) (by simp) (λ i t c ht hc=>by
    match i with
    | 0 =>
      simp at ht hc;subst ht;subst hc
      exact h1.mono λ w ho=>(ho.sep).map Sa
    | 1 =>
      simp at ht hc;subst ht;subst hc
      exact h2.mono λ w ho=>(ho.sep).map Sa
    | i+2=>simp at ht)
theorem ExV.one {B:Wn} {A1:Wp} {e1:Ex} {c1:C5} (h1:ExV B [A1] e1 c1) (g:Nat) (op:Str):ExV B [sepL [blk g (c5 c1) 76,A1]] (opEx op [e1]) ⟨tV op,iV 0,.string .empty,.string .empty,.slice (some ⟨g,0,none⟩) 1 1⟩ :=
  .mk op 0 [] [] [e1] _ [c1] ((FlV.blk (x:=[c1]) (g:=c5) (m:=1) (c:=1) (t:=76) (l:=[A1]) rfl).mono λ w ho=>ho.sep) rfl (by simp) (by simp) (λ i t c ht hc=>by
    match i with
    | 0 =>
      simp at ht hc;subst ht;subst hc
      exact h1.mono λ w ho=>(ho.sep).map Sa
    | i+1=>simp at ht)
def ExpC (B:Wn) (gs:Nat) (q:Sq) (d:Nat) (g:FuncId) (R:EP):Prop := ∀ a,a<=q.L.length->FnE Tryz.prog B g #[pV gs] [srB gs q a d,srT q] (λ u l => ∃ x b A c,R a = .ok (x,b)/\a<b/\b<=q.L.length/\u=eA c/\ExV B [A] x c/\l=[A,srB gs q b d,srT q]) (Xm (R a))
open Go.RowKit
section
variable {P : Program} {B:Wn} {n:Nat} {f:Fr} {l:List Wp} {t:Option Tmp} {ty:TypeId} {pos:String} {af:Array Edge} {gd:Option (Nat×Bool)} {K Y:Value->List Wp->Prop}
theorem Qt.makeFuncF {S:List Wp} {fv:FuncId} {cs:Array Operand} (vs:List Value) (hc:cs.toList.map (ev n f)=vs.map some):Qt P B n S ⟨t,.makeFunc (.func fv) cs #[],ty,pos,af,gd⟩ f (.func (.func fv) vs.toArray #[]):=⟨λ w _=>by
  have hav:cs.map (evu n f)=vs.toArray:=by
    have:cs.toList.map (evu n f)=vs:=by
      have e:=congrArg (List.map (λ o:Option Value=>o.getD undef)) hc
      have e2:(λ x=>evu n f x)=evu n f:=rfl
      simp only [List.map_map,Function.comp_def,Option.getD_some,List.map_id'] at e
      exact e
    rw [<-Array.toList_inj,Array.toList_map]
    simpa using this
  simp [execOp,Instr.makeFunc,hav]⟩
theorem Ee.callF {x:Operand} {g:FuncId} {fn:Func} {args:Array Operand} {ats:Array TypeId} {pre F:List Wp} {R:Value->List Wp->Prop} {X:Value->Prop} (vs fst:List Value) (hc:FnE P B g (fst++vs).toArray pre R X) (hf:P.funcs[g]? = some fn) (hn:(fn.name == "runtime.NumGoroutine")=false) (hb:fn.body.isNone=false)
    (hx0:ev n f x=some (.func (.func g) fst.toArray #[])) (ha:args.toList.map (ev n f)=vs.map some) (hne:(match x with | .func _=>false | _=>true)=true) [k:TakeL pre l F] (hx : ∀ pv,X pv->Y pv F) (h : ∀ v l',R v l'->K v (l'++F)):Ee P B n ⟨t,.call ⟨.value x,args,ats⟩,ty,pos,af,gd⟩ f l K Y:=⟨λ w next Q ho hk hp=>by
  have hav:args.map (evu n f)=vs.toArray:=by
    have:args.toList.map (evu n f)=vs:=by
      have e:=congrArg (List.map (λ o:Option Value=>o.getD undef)) ha
      have e2:(λ x=>evu n f x)=evu n f:=rfl
      simp only [List.map_map,Function.comp_def,Option.getD_some,List.map_id'] at e
      exact e
    rw [<-Array.toList_inj,Array.toList_map]
    simpa using this
  have h0:=hc.run w F ho.takeL
  unfold Oper.wp execOp
  rw [Wk]
  have he:((do let c <-resolve (evu n f) ⟨.value x,args,ats⟩ ty;invoke c.target c.args):Sem Next).run P w = .ok (.enter g (fst++vs).toArray) w:=by
    simp only [resolve,hav]
    have hn' : ¬ fn.name = "runtime.NumGoroutine" := by simpa using hn
    have hb' : ¬ fn.body=none:=λ e=>by rw [e] at hb;cases hb
    simp [Zc hx0,Deferred.ofValue,invoke,callFunc,hf,hn',hb']
  rw [he]
  show Calls P g (fst++vs).toArray w _
  refine Calls.mono h0 ?_
  rintro e w' (⟨v,l',rfl,hR,ho'⟩ | ⟨pv,rfl,hX,ho'⟩)
  . exact hk v w' _ (h v l' hR) ho'
  . exact hp pv w' _ (hx pv hX) ho'⟩
end
theorem chR_succ {q:Sq} {read:EP} {ops:List Str} {f:Nat} {e:Ex} {a:Nat}:chR q read ops (f+1) e a=if (isT q.L a 1 ops || isT q.L a 4 ops)=true then match read (a+1) with
      | .error x => .error x
      | .ok (e2,b)=>chR q read ops f (opEx (match q.L[a]? with | some x=>x.text | none=>[]) [e,e2]) b
    else .ok (e,a):=rfl
theorem chR_go {q:Sq} {read:EP} {ops:List Str} {f:Nat} {e:Ex} {a:Nat} (h:(isT q.L a 1 ops || isT q.L a 4 ops)=true) {y:Tok} (hy:q.L[a]? = some y) {e2:Ex} {b:Nat} (hr:read (a+1) = .ok (e2,b)):chR q read ops (f+1) e a=chR q read ops f (opEx y.text [e,e2]) b:=by
  rw [chR_succ,if_pos h,hr,hy]
theorem chR_bad {q:Sq} {read:EP} {ops:List Str} {f:Nat} {e:Ex} {a:Nat} (h:(isT q.L a 1 ops || isT q.L a 4 ops)=true) {x:Int×Int} (hr:read (a+1) = .error x):chR q read ops (f+1) e a = .error x:=by
  rw [chR_succ,if_pos h,hr]
theorem chR_end {q:Sq} {read:EP} {ops:List Str} {f:Nat} {e:Ex} {a:Nat} (h:(isT q.L a 1 ops || isT q.L a 4 ops)=false):chR q read ops f e a = .ok (e,a):=by
  unfold chR
  split
  . rfl
  . rw [if_neg (by simp [h])]
theorem Ps.chain (B:Wn) (gs:Nat) (q:Sq) (a d:Nat) (hq:q.L.length<2^28) (ha:a<=q.L.length) (fg:FuncId) (fn:Func) (hf:Tryz.prog.funcs[fg]? = some fn) (hn:(fn.name == "runtime.NumGoroutine")=false) (hb:fn.body.isNone=false) (read:EP) (hr:ExpC B gs q d fg read) (go m:Nat) (ops:List Str) (hm:ops.length=m) (hmb:m<2^20) (hx : ∀ x∈q.L,x.text.length<2^40) :
  FnE Tryz.prog B 129 #[pV gs,.func (.func fg) #[pV gs] #[],.slice (some ⟨go,0,none⟩) m m] [srB gs q a d,srT q,blk go (ops.flatMap sC) 9] (λ u l => ∃ x b A c,chainR q read ops a = .ok (x,b)/\a<b/\b<=q.L.length/\u=eA c/\ExV B [A] x c/\l=[A,srB gs q b d,srT q]) (Xm (chainR q read ops a)):=by
 have hops:FlV B [blk go (ops.flatMap sC) 9] sC (.slice (some ⟨go,0,none⟩) m m) ops:=FlV.blk hm
 obtain ⟨p,qc,qe,L⟩:=q
 dsimp only at hq ha hx
 dsimp only [srB,srT]
 refine FnE.enter3 44 Tryz.func129 rfl rfl (nB rfl) (λ F=>?_)
 try simp only [cA,nA]
 refine Ts ?_
 refine TR ?_
 refine Le (El [.string .empty,.int .i64 0,.string .empty,.string .empty,.slice none 0 0] (by unfold Zf;kernel_rfl) ?_)
 intro g6
 refine Ld ?_
 refine Ts ?_
 refine TR ?_
 refine Lm rfl ?_
 refine LW.p rfl (Ee.callF [] [pV gs] (hr a ha) hf hn hb rfl rfl rfl (by exact (λ pv ⟨e,he,hp⟩=>FnEPost.dead ⟨e,(by unfold chainR;rw [he]),hp⟩ Sa)) ?_)
 rintro _ _ ⟨e,b,A,c,he,hab,hbl,rfl,hv,rfl⟩
 try simp only [cA,nA]
 obtain ⟨o1,n1,x1,f1,a1,m1,k1,rfl⟩:=hv.form
 refine Le (El [.string .empty,.int .i64 0,.string .empty,.string .empty,.slice none 0 0] (by unfold Zf;kernel_rfl) ?_)
 intro g7
 refine L0 (Es [_,_,_,_,_] rfl rfl rfl rfl (by simp) ?_)
 try simp only [splice,lC,lN,dS,cA,tS,tZ,dZ,nA,aN]
 refine Ld ?_
 refine Ts ?_
 refine yH ?_
 refine T.own λ w ho=>?_
 have hqp:0<L.length -> ∃ g,p=some ⟨g,0,none⟩:=((ho.map Sa:Own B w [srT ⟨p,qc,qe,L⟩]).slice_at (p:=p) (m:=L.length) (c:=qc)).2.1
 clear ho
 refine zG (λ mz fz lz => ∃ (f0:Fr) (fu b:Nat) (e:Ex) (A:Wp) (c:C5),(a<b/\b<=L.length/\L.length<b+fu/\chainR ⟨p,qc,qe,L⟩ read ops a=chR ⟨p,qc,qe,L⟩ read ops fu e b/\ExV B [A] e c)/\mz=L.length-b/\fz=(upd (upd (upd (upd (upd f0 0 (pV gs)) 1 (.func (.func fg) #[pV gs] #[])) 2 (.slice (some ⟨go,0,none⟩) m m)) 6 (pV g6)) 7 (pV g7))/\lz=exB g7 c::A::srB gs ⟨p,qc,qe,L⟩ b d::srT ⟨p,qc,qe,L⟩::blk go (ops.flatMap sC) 9::exB g6 zE::F) ?_ ?_
 . refine ⟨_,_,⟨_,L.length+1,b,e,A,⟨tV o1,iV n1,tV x1,tV f1,.slice a1 m1 k1⟩,⟨hab,hbl,by omega,by unfold chainR;rw [he],hv⟩,rfl,(Za rfl (Za rfl (Za rfl (Za rfl (Za rfl rfl))))),rfl⟩,Sa⟩
 rintro mz fz lz ⟨f0,fu,b,e,A,c,⟨hab,hbl,hfu,hch,hv⟩,hmz,rfl,rfl⟩
 subst mz
 obtain ⟨o2,n2,x2,f2,a2,m2,k2,rfl⟩:=hv.form
 refine Ts ?_
 refine Ts ?_
 refine TR ?_
 refine Lm rfl ?_
 refine Lm rfl ?_
 refine Le (Ec (Ps.is B [blk go (ops.flatMap sC) 9] gs ⟨p,qc,qe,L⟩ b d (by dsimp only;omega) 1 (some ⟨go,0,none⟩) m m ops hm hops) Tryz.func91 rfl rfl rfl ?_)
 rintro _ _ ⟨rfl,rfl⟩
 try simp only [cA,nA]
 by_cases h1:isT L b 1 ops=true
 .
  have ht:(isT L b 1 ops || isT L b 4 ops)=true:=by rw [h1];rfl
  have hlt:=isT_lt h1
  rw [h1]
  refine Lm rfl ?_
  refine zQ (t:=14) rfl rfl ?_
  refine Ls rfl ?_
  refine Ls rfl ?_
  refine Ls rfl ?_
  refine Lq (Qp rfl rfl) ?_
  refine Ld ?_
  refine zF rfl ?_
  obtain ⟨y,hy⟩ : ∃ y,L[b]? = some y:=⟨_,List.getElem?_eq_getElem hlt⟩
  obtain ⟨fu,rfl⟩ : ∃ z,fu=z+1:=⟨fu-1,by omega⟩
  obtain ⟨gt,rfl⟩:=hqp (by omega)
  refine Tk ?_
  refine yH ?_
  refine Ts ?_
  refine T.draw 11 ([blk gs [.slice (some ⟨gt,0,none⟩) L.length qc,iV b,iV qe,iV d] 133,tkR (some ⟨gt,0,none⟩) L.length qc L]) (nB rfl) ?_
  refine Rq 0 rfl Sa (Qm rfl) ?_
  refine Rq 1 rfl Sa (Qn rfl) ?_
  refine Rq 2 rfl Sa (Q0 rfl) ?_
  refine Rq 3 rfl Sa (Ql rfl rfl) ?_
  refine Rq 4 rfl Sa (Qm rfl) ?_
  refine Rq 5 rfl Sa (Qn rfl) ?_
  refine Rq 6 rfl Sa (Qf (off:=1) rfl) ?_
  refine Rq 7 rfl Sa (Ql rfl rfl) ?_
  refine Rq 8 rfl Sa (Qi _ (e:=171) (sz:=4) rfl rfl rfl) ?_
  refine Rq 9 rfl Sa (Qf (off:=1) rfl) ?_
  refine Rq 10 rfl Sa (Ql (v:=tV y.text) rfl (tk_cell hy 1 rfl)) ?_
  refine Rd0 (by rfl) ?_
  simp only [dS,dZ,dN]
  refine La rfl ?_
  refine Ld ?_
  refine Ts ?_
  refine TR ?_
  refine Lm rfl ?_
  refine Lq (Qn rfl) ?_
  refine Lq (Qf (off:=1) rfl) ?_
  refine Lq (Ql rfl rfl) ?_
  refine Lq (Qd (r:=((b+1:Nat):Int)) rfl rfl (by rw [Ze];omega)) ?_
  refine Lq (Qn rfl) ?_
  refine Lq (Qf (off:=1) rfl) ?_
  refine L0 (E1 rfl rfl rfl (by first | (simp;done) | (simp;omega)) ?_)
  try simp only [List.set_cons_zero,List.set_cons_succ]
  refine Ld ?_
  dsimp only at hbl hfu hlt
  refine T.draw 6 ([blk g7 [tV o2,iV n2,tV x2,tV f2,.slice a2 m2 k2] 76]) (nB rfl) ?_
  refine Rq 0 rfl Sa (Qm rfl) ?_
  refine Rq 1 rfl Sa (QL [_,_,_,_,_] rfl ⟨rfl,rfl,rfl,rfl,rfl,trivial⟩) ?_
  refine Rq 2 rfl Sa (Qm rfl) ?_
  refine yK 3 ?_
  refine RO.pS rfl rfl (Ee.callF [] [pV gs] (hr (b+1) (by dsimp only;omega)) hf hn hb rfl rfl rfl (by exact (λ pv ⟨e,he,hp⟩=>FnEPost.dead ⟨e,(by rw [hch,chR_bad ht he]),hp⟩ Sa)) ?_)
  rintro _ _ ⟨e2,b2,A2,c2,he2,hab2,hbl2,rfl,hv2,rfl⟩
  try simp only [cA,nA]
  obtain ⟨o3,n3,x3,f3,a3,m3,k3,rfl⟩:=hv2.form
  refine ⟨Sa,?_⟩
  refine yK 4 ?_
  refine zY rfl (Ef.lits [_,_] [_,_,_,_,_,_,_,_,_,_] (e:=76) (sz:=5) rfl (by simp [Value.cells]) rfl rfl ?_)
  intro g41
  refine Rq 5 rfl (Sr _) (z8 [(0,1),(1,1),(2,1),(3,1),(4,1)] [.string .empty,.int .i64 0,.string .empty,.string .empty,.slice none 0 0] [_,_,_,_,_] [(0,_),(4,_)] (by unfold Zf;kernel_rfl) rfl rfl) ?_
  refine Rd0 (by rfl) ?_
  simp only [dS,dZ,dN]
  refine L0 (Es [_,_,_,_,_] rfl rfl rfl rfl (by simp) ?_)
  try simp only [splice,lC,lN,dS,cA,tS,tZ,dZ,nA,aN]
  refine Ld ?_
  dsimp only at hbl2
  rw [chR_go ht hy he2] at hch
  have hv3:ExV B [sepL [blk g41 [tV o2,iV n2,tV x2,tV f2,.slice a2 m2 k2,tV o3,iV n3,tV x3,tV f3,.slice a3 m3 k3] 76,A,A2]] (opEx y.text [e,e2]) ⟨tV y.text,iV 0,.string .empty,.string .empty,.slice (some ⟨g41,0,none⟩) 2 2⟩:=ExV.two hv hv2 g41 y.text
  refine ⟨_,?_,_,⟨_,fu,b2,opEx y.text [e,e2],sepL [blk g41 [tV o2,iV n2,tV x2,tV f2,.slice a2 m2 k2,tV o3,iV n3,tV x3,tV f3,.slice a3 m3 k3] 76,A,A2],⟨tV y.text,iV 0,.string .empty,.string .empty,.slice (some ⟨g41,0,none⟩) 2 2⟩,⟨by omega,by omega,by omega,hch,hv3⟩,rfl,(Za rfl (Za rfl (Za rfl (Za rfl (Za rfl rfl))))),rfl⟩,Sa⟩
  omega
 rw [Bool.not_eq_true] at h1
 rw [h1]
 refine Lm rfl ?_
 refine yT (t:=14) rfl rfl ?_
 refine Lm rfl ?_
 refine Lm rfl ?_
 refine Le (Ec (Ps.is B [blk go (ops.flatMap sC) 9] gs ⟨p,qc,qe,L⟩ b d (by dsimp only;omega) 4 (some ⟨go,0,none⟩) m m ops hm hops) Tryz.func91 rfl rfl rfl ?_)
 rintro _ _ ⟨rfl,rfl⟩
 try simp only [cA,nA]
 by_cases h2:isT L b 4 ops=true
 .
  have ht:(isT L b 1 ops || isT L b 4 ops)=true:=by rw [h2,Bool.or_true]
  have hlt:=isT_lt h2
  rw [h2]
  refine Lq (Qp rfl rfl) ?_
  refine Ld ?_
  refine zF rfl ?_
  obtain ⟨y,hy⟩ : ∃ y,L[b]? = some y:=⟨_,List.getElem?_eq_getElem hlt⟩
  obtain ⟨fu,rfl⟩ : ∃ z,fu=z+1:=⟨fu-1,by omega⟩
  obtain ⟨gt,rfl⟩:=hqp (by omega)
  refine Tk ?_
  refine yH ?_
  refine Ts ?_
  refine T.draw 11 ([blk gs [.slice (some ⟨gt,0,none⟩) L.length qc,iV b,iV qe,iV d] 133,tkR (some ⟨gt,0,none⟩) L.length qc L]) (nB rfl) ?_
  refine Rq 0 rfl Sa (Qm rfl) ?_
  refine Rq 1 rfl Sa (Qn rfl) ?_
  refine Rq 2 rfl Sa (Q0 rfl) ?_
  refine Rq 3 rfl Sa (Ql rfl rfl) ?_
  refine Rq 4 rfl Sa (Qm rfl) ?_
  refine Rq 5 rfl Sa (Qn rfl) ?_
  refine Rq 6 rfl Sa (Qf (off:=1) rfl) ?_
  refine Rq 7 rfl Sa (Ql rfl rfl) ?_
  refine Rq 8 rfl Sa (Qi _ (e:=171) (sz:=4) rfl rfl rfl) ?_
  refine Rq 9 rfl Sa (Qf (off:=1) rfl) ?_
  refine Rq 10 rfl Sa (Ql (v:=tV y.text) rfl (tk_cell hy 1 rfl)) ?_
  refine Rd0 (by rfl) ?_
  simp only [dS,dZ,dN]
  refine La rfl ?_
  refine Ld ?_
  refine Ts ?_
  refine TR ?_
  refine Lm rfl ?_
  refine Lq (Qn rfl) ?_
  refine Lq (Qf (off:=1) rfl) ?_
  refine Lq (Ql rfl rfl) ?_
  refine Lq (Qd (r:=((b+1:Nat):Int)) rfl rfl (by rw [Ze];omega)) ?_
  refine Lq (Qn rfl) ?_
  refine Lq (Qf (off:=1) rfl) ?_
  refine L0 (E1 rfl rfl rfl (by first | (simp;done) | (simp;omega)) ?_)
  try simp only [List.set_cons_zero,List.set_cons_succ]
  refine Ld ?_
  dsimp only at hbl hfu hlt
  refine T.draw 6 ([blk g7 [tV o2,iV n2,tV x2,tV f2,.slice a2 m2 k2] 76]) (nB rfl) ?_
  refine Rq 0 rfl Sa (Qm rfl) ?_
  refine Rq 1 rfl Sa (QL [_,_,_,_,_] rfl ⟨rfl,rfl,rfl,rfl,rfl,trivial⟩) ?_
  refine Rq 2 rfl Sa (Qm rfl) ?_
  refine yK 3 ?_
  refine RO.pS rfl rfl (Ee.callF [] [pV gs] (hr (b+1) (by dsimp only;omega)) hf hn hb rfl rfl rfl (by exact (λ pv ⟨e,he,hp⟩=>FnEPost.dead ⟨e,(by rw [hch,chR_bad ht he]),hp⟩ Sa)) ?_)
  rintro _ _ ⟨e2,b2,A2,c2,he2,hab2,hbl2,rfl,hv2,rfl⟩
  try simp only [cA,nA]
  obtain ⟨o3,n3,x3,f3,a3,m3,k3,rfl⟩:=hv2.form
  refine ⟨Sa,?_⟩
  refine yK 4 ?_
  refine zY rfl (Ef.lits [_,_] [_,_,_,_,_,_,_,_,_,_] (e:=76) (sz:=5) rfl (by simp [Value.cells]) rfl rfl ?_)
  intro g41
  refine Rq 5 rfl (Sr _) (z8 [(0,1),(1,1),(2,1),(3,1),(4,1)] [.string .empty,.int .i64 0,.string .empty,.string .empty,.slice none 0 0] [_,_,_,_,_] [(0,_),(4,_)] (by unfold Zf;kernel_rfl) rfl rfl) ?_
  refine Rd0 (by rfl) ?_
  simp only [dS,dZ,dN]
  refine L0 (Es [_,_,_,_,_] rfl rfl rfl rfl (by simp) ?_)
  try simp only [splice,lC,lN,dS,cA,tS,tZ,dZ,nA,aN]
  refine Ld ?_
  dsimp only at hbl2
  rw [chR_go ht hy he2] at hch
  have hv3:ExV B [sepL [blk g41 [tV o2,iV n2,tV x2,tV f2,.slice a2 m2 k2,tV o3,iV n3,tV x3,tV f3,.slice a3 m3 k3] 76,A,A2]] (opEx y.text [e,e2]) ⟨tV y.text,iV 0,.string .empty,.string .empty,.slice (some ⟨g41,0,none⟩) 2 2⟩:=ExV.two hv hv2 g41 y.text
  refine ⟨_,?_,_,⟨_,fu,b2,opEx y.text [e,e2],sepL [blk g41 [tV o2,iV n2,tV x2,tV f2,.slice a2 m2 k2,tV o3,iV n3,tV x3,tV f3,.slice a3 m3 k3] 76,A,A2],⟨tV y.text,iV 0,.string .empty,.string .empty,.slice (some ⟨g41,0,none⟩) 2 2⟩,⟨by omega,by omega,by omega,hch,hv3⟩,rfl,(Za rfl (Za rfl (Za rfl (Za rfl (Za rfl rfl))))),rfl⟩,Sa⟩
  omega
 rw [Bool.not_eq_true] at h2
 have ht:(isT L b 1 ops || isT L b 4 ops)=false:=by rw [h1,h2];rfl
 rw [chR_end ht] at hch
 rw [h2]
 refine Lq (Qp rfl rfl) ?_
 refine Ld ?_
 refine yQ rfl ?_
 refine zB ?_
 refine Ts ?_
 refine TR ?_
 refine Lq (QL [_,_,_,_,_] rfl ⟨rfl,rfl,rfl,rfl,rfl,trivial⟩) ?_
 refine L0 (Es [_,_,_,_,_] rfl rfl rfl rfl (by simp) ?_)
 try simp only [splice,lC,lN,dS,cA,tS,tZ,dZ,nA,aN]
 refine Ld ?_
 refine T.ret ?_
 exact ⟨.inl rfl,_,_,res [_] rfl ⟨rvA [_,_,_,_,_] rfl ⟨rfl,rfl,rfl,rfl,rfl,trivial⟩,trivial⟩,⟨e,b,A,_,hch,hab,hbl,rfl,hv,rfl⟩,Sa⟩
open Go.RowKit
theorem ExV.leaf5 (B:Wn) (S:List Wp) (op:Str) (n:Int) (text of:Str) (ht:text.length<2^40):ExV B S (.mk op n text of []) ⟨tV op,iV n,tV text,tV of,.slice none 0 0⟩ :=
  .mk op n text of [] _ [] (.empty _ _) rfl (by simp) ht (by intro i t c h;simp at h)
def deepR (q:Sq) (d:Nat) (read:EP):EP:=λ a=>if d<32 then read a else .error (151,placeR q.en q.L a)
def DeepC (B:Wn) (gs:Nat) (q:Sq) (d:Nat) (g:FuncId) (R:EP):Prop := ∀ a,a<=q.L.length->FnE Tryz.prog B 176 #[pV gs,.func (.func g) #[pV gs] #[]] [srB gs q a d,srT q] (λ u l => ∃ x b A c,R a = .ok (x,b)/\a<b/\b<=q.L.length/\u=eA c/\ExV B [A] x c/\l=[A,srB gs q b d,srT q]) (Xm (R a))
theorem Ps.deeper (B:Wn) (gs:Nat) (q:Sq) (d:Nat) (hq:q.L.length<2^28) (fg:FuncId) (fn:Func) (hf:Tryz.prog.funcs[fg]? = some fn) (hn:(fn.name == "runtime.NumGoroutine")=false) (hb:fn.body.isNone=false) (read:EP) (hr:d<32->ExpC B gs q (d+1) fg read) (hd:d<=32:=by omega):DeepC B gs q d fg (deepR q d read):=by
 intro a ha
 unfold deepR
 obtain ⟨p,qc,qe,L⟩:=q
 dsimp only at hq ha
 dsimp only [srB,srT]
 refine FnE.enter2 30 Tryz.func176 rfl rfl (nB rfl) (λ F=>?_)
 try simp only [cA,nA]
 refine Ts ?_
 refine TR ?_
 refine Le (El [.string .empty,.int .i64 0,.string .empty,.string .empty,.slice none 0 0] (by unfold Zf;kernel_rfl) ?_)
 intro g4
 refine Ld ?_
 refine Ts ?_
 refine TR ?_
 refine Lm rfl ?_
 refine Lq (Qn rfl) ?_
 refine Lq (Qf (off:=3) rfl) ?_
 refine Lq (Ql rfl rfl) ?_
 refine Lq (Qd (r:=((d+1:Nat):Int)) rfl rfl (by rw [Ze];omega)) ?_
 refine Lq (Qn rfl) ?_
 refine Lq (Qf (off:=3) rfl) ?_
 refine L0 (E1 rfl rfl rfl (by first | (simp;done) | (simp;omega)) ?_)
 try simp only [List.set_cons_zero,List.set_cons_succ]
 refine Ld ?_
 refine Ts ?_
 refine Ts ?_
 refine TR ?_
 refine Lm rfl ?_
 refine Lq (Qn rfl) ?_
 refine Lq (Qf (off:=3) rfl) ?_
 refine Lq (Ql rfl rfl) ?_
 refine Lq (yZ rfl rfl) ?_
 refine Ld ?_
 refine yN rfl (λ h=>?_) (λ h=>?_)
 .
  refine TR ?_
  refine Lm rfl ?_
  refine LW.p rfl (Ee.call (Ps.fail B gs ⟨p,qc,qe,L⟩ a (d+1) (by dsimp only;omega) 151) Tryz.func48 rfl rfl rfl (by exact (λ pv ⟨e,he,hp⟩=>FnEPost.dead ⟨e,(by rw [if_neg (by omega)];cases he;rfl),hp⟩ Sa)) ?_)
  rintro _ _ hF
  exact hF.elim
 refine Tk ?_
 refine Ts ?_
 refine TR ?_
 refine Lm rfl ?_
 refine LW.p rfl (Ee.callF [] [pV gs] (hr (by omega) a ha) hf hn hb rfl rfl rfl (by exact (λ pv ⟨e,he,hp⟩=>FnEPost.dead ⟨e,(by rw [if_pos (by omega),he]),hp⟩ Sa)) ?_)
 rintro _ _ ⟨e,b,A,c,he,hab,hbl,rfl,hv,rfl⟩
 try simp only [cA,nA]
 obtain ⟨o1,n1,x1,f1,a1,m1,k1,rfl⟩:=hv.form
 refine Le (El [.string .empty,.int .i64 0,.string .empty,.string .empty,.slice none 0 0] (by unfold Zf;kernel_rfl) ?_)
 intro g5
 refine L0 (Es [_,_,_,_,_] rfl rfl rfl rfl (by simp) ?_)
 try simp only [splice,lC,lN,dS,cA,tS,tZ,dZ,nA,aN]
 refine Ld ?_
 refine Ts ?_
 refine TR ?_
 refine Lm rfl ?_
 refine Lq (Qn rfl) ?_
 refine Lq (Qf (off:=3) rfl) ?_
 refine Lq (Ql rfl rfl) ?_
 refine Lq (Qt.sub (r:=(d:Int)) rfl rfl (by rw [Ze];omega)) ?_
 refine Lq (Qn rfl) ?_
 refine Lq (Qf (off:=3) rfl) ?_
 refine L0 (E1 rfl rfl rfl (by first | (simp;done) | (simp;omega)) ?_)
 try simp only [List.set_cons_zero,List.set_cons_succ]
 refine Ld ?_
 refine Ts ?_
 refine TR ?_
 refine Lq (QL [_,_,_,_,_] rfl ⟨rfl,rfl,rfl,rfl,rfl,trivial⟩) ?_
 refine L0 (Es [_,_,_,_,_] rfl rfl rfl rfl (by simp) ?_)
 try simp only [splice,lC,lN,dS,cA,tS,tZ,dZ,nA,aN]
 refine Ld ?_
 refine T.ret ?_
 exact ⟨.inl rfl,_,_,res [_] rfl ⟨rvA [_,_,_,_,_] rfl ⟨rfl,rfl,rfl,rfl,rfl,trivial⟩,trivial⟩,⟨e,b,A,_,by rw [if_pos (by omega),he],hab,hbl,rfl,hv,rfl⟩,Sa⟩
def itemR (q:Sq):EP:=λ a=>match nameR q a with
  | .error x => .error x
  | .ok (n,b)=>if oneT q.L b [46]=true then
      match nameR q (b+1) with
      | .error x => .error x
      | .ok (m,c) => .ok (.mk [110,97,109,101] 0 m n [],c)
    else .ok (.mk [110,97,109,101] 0 n [] [],b)
theorem nameR_len {q:Sq} {a:Nat} {x:Str×Nat} (h:nameR q a = .ok x):x.1.length<=24:=by
  unfold nameR at h
  split at h
  . split at h
    . rename_i y _ hc;cases h;exact hc.2.2
    . cases h
  . cases h
theorem Ps.item (B:Wn) (gs:Nat) (q:Sq) (d:Nat) (hq:q.L.length<2^27) (hx : ∀ x∈q.L,x.text.length<2^40):ExpC B gs q d 152 (itemR q):=by
 intro a ha
 unfold itemR
 refine FnE.enter1 15 Tryz.func152 rfl rfl (nB rfl) (λ F=>?_)
 try simp only [cA,nA]
 refine Ts ?_
 refine TR ?_
 refine Le (El [.string .empty,.int .i64 0,.string .empty,.string .empty,.slice none 0 0] (by unfold Zf;kernel_rfl) ?_)
 intro g2
 refine Ld ?_
 refine Ts ?_
 refine TR ?_
 refine Lm rfl ?_
 refine LW.p rfl (Ee.call (Ps.name B gs q a d (by omega) (by omega) hx) Tryz.func79 rfl rfl rfl (by exact (λ pv ⟨e,he,hp⟩=>FnEPost.dead ⟨e,(by rw [he]),hp⟩ Sa)) ?_)
 rintro _ _ ⟨⟨n,b⟩,hn,rfl,hb,hal,rfl⟩
 try simp only [cA,nA]
 refine La rfl ?_
 refine Ld ?_
 refine Ts ?_
 refine Ts ?_
 refine TR ?_
 refine Lm rfl ?_
 refine Le (zK [_] (e:=9) (sz:=1) ⟨.string .empty,by kernel_rfl,rfl⟩ rfl rfl rfl ?_)
 intro g7
 dsimp only at hb
 have hnl:=nameR_len hn
 dsimp only at hnl
 refine Le (Ec (Ps.may B [blk g7 [.string ⟨#[46]⟩] 9] gs q b d (some ⟨g7,0,none⟩) 1 1 [[46]] rfl (FlV.blk (x:=[[46]]) (g:=sC) rfl)) Tryz.func47 rfl rfl rfl ?_)
 rintro _ _ ⟨rfl,rfl⟩
 try simp only [cA,nA]
 by_cases h1:oneT q.L b [46]=true
 .
  rw [mayA_one,if_pos h1]
  dsimp only [Option.isSome,Option.getD]
  refine Ld ?_
  refine zF rfl ?_
  refine Ts ?_
  refine TR ?_
  refine Lm rfl ?_
  refine Lm rfl ?_
  refine LW.p rfl (Ee.call (Ps.name B gs q (b+1) d (by omega) (by omega) hx) Tryz.func79 rfl rfl rfl (by exact (λ pv ⟨e,he,hp⟩=>FnEPost.dead ⟨e,(by rw [hn];dsimp only;rw [if_pos h1,he]),hp⟩ Sa)) ?_)
  rintro _ _ ⟨⟨m,c⟩,hm,rfl,hc,hbl,rfl⟩
  try simp only [cA,nA]
  refine Lq (z8 [(0,1),(1,1),(2,1),(3,1),(4,1)] [.string .empty,.int .i64 0,.string .empty,.string .empty,.slice none 0 0] [_,_,_,_,_] [(0,_),(3,_),(2,_)] (by unfold Zf;kernel_rfl) rfl rfl) ?_
  refine L0 (Es [_,_,_,_,_] rfl rfl rfl rfl (by simp) ?_)
  try simp only [splice,lC,lN,dS,cA,tS,tZ,dZ,nA,aN]
  refine Ld ?_
  dsimp only at hc
  have hml:=nameR_len hm
  dsimp only at hml
  refine T.ret ?_
  exact ⟨.inl rfl,_,_,res [_] rfl ⟨rvA [_,_,_,_,_] rfl ⟨rfl,rfl,rfl,rfl,rfl,trivial⟩,trivial⟩,⟨.mk [110,97,109,101] 0 m n [],c,exB g2 ⟨.string ⟨#[110,97,109,101]⟩,iV 0,tV m,tV n,.slice none 0 0⟩,⟨.string ⟨#[110,97,109,101]⟩,iV 0,tV m,tV n,.slice none 0 0⟩,by rw [hn];dsimp only;rw [if_pos h1,hm],by omega,by omega,rfl,ExV.leaf5 _ _ _ _ _ _ (by omega),rfl⟩,Sa⟩
 rw [mayA_one,if_neg h1]
 dsimp only [Option.isSome,Option.getD]
 refine Ld ?_
 refine yQ rfl ?_
 refine Tk ?_
 refine Ts ?_
 refine TR ?_
 refine Lm rfl ?_
 refine Lq (z8 [(0,1),(1,1),(2,1),(3,1),(4,1)] [.string .empty,.int .i64 0,.string .empty,.string .empty,.slice none 0 0] [_,_,_,_,_] [(0,_),(2,_)] (by unfold Zf;kernel_rfl) rfl rfl) ?_
 refine L0 (Es [_,_,_,_,_] rfl rfl rfl rfl (by simp) ?_)
 try simp only [splice,lC,lN,dS,cA,tS,tZ,dZ,nA,aN]
 refine Ld ?_
 refine T.ret ?_
 exact ⟨.inl rfl,_,_,res [_] rfl ⟨rvA [_,_,_,_,_] rfl ⟨rfl,rfl,rfl,rfl,rfl,trivial⟩,trivial⟩,⟨.mk [110,97,109,101] 0 n [] [],b,exB g2 ⟨.string ⟨#[110,97,109,101]⟩,iV 0,tV n,.string .empty,.slice none 0 0⟩,⟨.string ⟨#[110,97,109,101]⟩,iV 0,tV n,.string .empty,.slice none 0 0⟩,by rw [hn];dsimp only;rw [if_neg h1],by omega,by omega,rfl,ExV.leaf5 _ _ _ _ _ _ (by omega),rfl⟩,Sa⟩
open Go.RowKit
def factorR (q:Sq) (F E:EP):EP:=λ a =>
  if isT q.L a 2 []=true then match numR q a with
    | .error x => .error x
    | .ok (n,b) => .ok (.mk [110,117,109,98,101,114] n [] [] [],b)
  else if isT q.L a 3 []=true then .ok (.mk [116,101,120,116] 0 (match q.L[a]? with | some x=>x.text | none=>[]) [] [],a+1)
  else if oneT q.L a [45]=true then match F (a+1) with
    | .error x => .error x
    | .ok (e,b) => .ok (opEx [45] [e],b)
  else if oneT q.L a [40]=true then match E (a+1) with
    | .error x => .error x
    | .ok (e,b)=>match mustA q b [[41]] with
      | .error x => .error x
      | .ok c => .ok (e,c)
  else itemR q a
theorem mustA_one {q:Sq} {a c:Nat} {t:Str} (h:mustA q a [t] = .ok c):c=a+1/\a<q.L.length:=by
  rw [mustA_cons] at h
  split at h
  . rename_i k;cases h;exact ⟨rfl,oneT_lt k⟩
  . cases h
theorem Ps.factor (B:Wn) (gs:Nat) (q:Sq) (d:Nat) (hq:q.L.length<2^27) (hx : ∀ x∈q.L,x.text.length<2^40) (F0 E0:EP) (hF:DeepC B gs q d 190 F0) (hE:DeepC B gs q d 85 E0):ExpC B gs q d 190 (factorR q F0 E0):=by
 intro a ha
 obtain ⟨p,qc,qe,L⟩:=q
 dsimp only at hq ha hx
 dsimp only [srB,srT]
 have hit:=Ps.item B gs ⟨p,qc,qe,L⟩ d (by dsimp only;omega) hx
 have hsl : ∀ w,Own B w [tkR p L.length qc L]->(0<L.length -> ∃ g,p=some ⟨g,0,none⟩):=λ w ho=>(ho.slice_at (p:=p) (m:=L.length) (c:=qc)).2.1
 refine FnE.enter1 57 Tryz.func190 rfl rfl (nB rfl) (λ F=>?_)
 try simp only [cA,nA]
 refine Ts ?_
 refine TR ?_
 refine Le (El [.string .empty,.int .i64 0,.string .empty,.string .empty,.slice none 0 0] (by unfold Zf;kernel_rfl) ?_)
 intro g2
 refine Ld ?_
 refine Ts ?_
 refine yH ?_
 refine Ts ?_
 refine TR ?_
 refine Lm rfl ?_
 refine Le (Ec (Ps.is B [] gs ⟨p,qc,qe,L⟩ a d (by dsimp only;omega) 2 none 0 0 [] rfl (FlV.empty _ _)) Tryz.func91 rfl rfl rfl ?_)
 rintro _ _ ⟨rfl,rfl⟩
 try simp only [cA,nA]
 by_cases h1:isT L a 2 []=true
 .
  rw [h1]
  refine La rfl ?_
  refine Ld ?_
  refine zF rfl ?_
  refine Ts ?_
  refine TR ?_
  refine Lm rfl ?_
  refine LW.p rfl (Ee.call (Ps.number B gs ⟨p,qc,qe,L⟩ a d (by dsimp only;omega)) Tryz.func131 rfl rfl rfl (by exact (λ pv ⟨e,he,hp⟩=>FnEPost.dead ⟨e,(by unfold factorR;dsimp only;rw [if_pos h1,he]),hp⟩ Sa)) ?_)
  rintro _ _ ⟨⟨n,b⟩,hn,rfl,hb,hal,rfl⟩
  try simp only [cA,nA]
  refine Lq (z8 [(0,1),(1,1),(2,1),(3,1),(4,1)] [.string .empty,.int .i64 0,.string .empty,.string .empty,.slice none 0 0] [_,_,_,_,_] [(0,_),(1,_)] (by unfold Zf;kernel_rfl) rfl rfl) ?_
  refine L0 (Es [_,_,_,_,_] rfl rfl rfl rfl (by simp) ?_)
  try simp only [splice,lC,lN,dS,cA,tS,tZ,dZ,nA,aN]
  refine Ld ?_
  dsimp only at hb hal
  refine T.ret ?_
  exact ⟨.inl rfl,_,_,res [_] rfl ⟨rvA [_,_,_,_,_] rfl ⟨rfl,rfl,rfl,rfl,rfl,trivial⟩,trivial⟩,⟨.mk [110,117,109,98,101,114] n [] [] [],b,exB g2 ⟨.string ⟨#[110,117,109,98,101,114]⟩,iV n,.string .empty,.string .empty,.slice none 0 0⟩,⟨.string ⟨#[110,117,109,98,101,114]⟩,iV n,.string .empty,.string .empty,.slice none 0 0⟩,by unfold factorR;dsimp only;rw [if_pos h1,hn],by omega,by omega,rfl,ExV.leaf5 _ _ _ _ _ _ (by simp),rfl⟩,Sa⟩
 have h1':=h1
 rw [Bool.not_eq_true] at h1'
 rw [h1']
 refine La rfl ?_
 refine Ld ?_
 refine yQ rfl ?_
 refine Ts ?_
 refine TR ?_
 refine Lm rfl ?_
 refine Le (Ec (Ps.is B [] gs ⟨p,qc,qe,L⟩ a d (by dsimp only;omega) 3 none 0 0 [] rfl (FlV.empty _ _)) Tryz.func91 rfl rfl rfl ?_)
 rintro _ _ ⟨rfl,rfl⟩
 try simp only [cA,nA]
 by_cases h2:isT L a 3 []=true
 .
  have hal:=isT_lt h2
  obtain ⟨y,hy⟩ : ∃ y,L[a]? = some y:=⟨_,List.getElem?_eq_getElem hal⟩
  have hyl:=hx y (List.mem_of_getElem? hy)
  rw [h2]
  refine La rfl ?_
  refine Ld ?_
  refine zF rfl ?_
  refine T.own λ w ho=>?_
  obtain ⟨g,rfl⟩:=hsl w (ho.map Sa) (by omega)
  clear ho
  refine Ts ?_
  refine TR ?_
  refine Lm rfl ?_
  refine Lq (Qn rfl) ?_
  refine Lq (Qf (off:=1) rfl) ?_
  refine Lq (Ql rfl rfl) ?_
  refine Lq (Qd (r:=((a+1:Nat):Int)) rfl rfl (by rw [Ze];omega)) ?_
  refine Lq (Qn rfl) ?_
  refine Lq (Qf (off:=1) rfl) ?_
  refine L0 (E1 rfl rfl rfl (by first | (simp;done) | (simp;omega)) ?_)
  try simp only [List.set_cons_zero,List.set_cons_succ]
  refine Ld ?_
  refine Ts ?_
  refine T.draw 13 ([blk gs [.slice (some ⟨g,0,none⟩) L.length qc,iV ((a+1:Nat):Int),iV qe,iV d] 133,tkR (some ⟨g,0,none⟩) L.length qc L]) (nB rfl) ?_
  refine Rq 0 rfl Sa (Qm rfl) ?_
  refine Rq 1 rfl Sa (Qn rfl) ?_
  refine Rq 2 rfl Sa (Q0 rfl) ?_
  refine Rq 3 rfl Sa (Ql rfl rfl) ?_
  refine Rq 4 rfl Sa (Qm rfl) ?_
  refine Rq 5 rfl Sa (Qn rfl) ?_
  refine Rq 6 rfl Sa (Qf (off:=1) rfl) ?_
  refine Rq 7 rfl Sa (Ql rfl rfl) ?_
  refine Rq 8 rfl Sa (Qt.sub (r:=(a:Int)) rfl rfl (by rw [Ze];omega)) ?_
  refine Rq 9 rfl Sa (Qi _ (e:=171) (sz:=4) rfl rfl rfl) ?_
  refine Rq 10 rfl Sa (Qf (off:=1) rfl) ?_
  refine Rq 11 rfl Sa (Ql (v:=tV y.text) rfl (tk_cell hy 1 rfl)) ?_
  refine Rq 12 rfl Sa (z8 [(0,1),(1,1),(2,1),(3,1),(4,1)] [.string .empty,.int .i64 0,.string .empty,.string .empty,.slice none 0 0] [_,_,_,_,_] [(0,_),(2,_)] (by unfold Zf;kernel_rfl) rfl rfl) ?_
  refine Rd0 (by rfl) ?_
  simp only [dS,dZ,dN]
  refine L0 (Es [_,_,_,_,_] rfl rfl rfl rfl (by simp) ?_)
  try simp only [splice,lC,lN,dS,cA,tS,tZ,dZ,nA,aN]
  refine Ld ?_
  refine T.ret ?_
  exact ⟨.inl rfl,_,_,res [_] rfl ⟨rvA [_,_,_,_,_] rfl ⟨rfl,rfl,rfl,rfl,rfl,trivial⟩,trivial⟩,⟨.mk [116,101,120,116] 0 y.text [] [],a+1,exB g2 ⟨.string ⟨#[116,101,120,116]⟩,iV 0,tV y.text,.string .empty,.slice none 0 0⟩,⟨.string ⟨#[116,101,120,116]⟩,iV 0,tV y.text,.string .empty,.slice none 0 0⟩,by unfold factorR;dsimp only;rw [if_neg h1,if_pos h2,hy],by omega,by omega,rfl,ExV.leaf5 _ _ _ _ _ _ hyl,rfl⟩,Sa⟩
 have h2':=h2
 rw [Bool.not_eq_true] at h2'
 rw [h2']
 refine La rfl ?_
 refine Ld ?_
 refine yQ rfl ?_
 refine Ts ?_
 refine TR ?_
 refine Lm rfl ?_
 refine Le (zK [_] (e:=9) (sz:=1) ⟨.string .empty,by kernel_rfl,rfl⟩ rfl rfl rfl ?_)
 intro g35
 refine Le (Ec (Ps.may B [blk g35 [.string ⟨#[45]⟩] 9] gs ⟨p,qc,qe,L⟩ a d (hq:=(by dsimp only;omega)) (some ⟨g35,0,none⟩) 1 1 [[45]] rfl (FlV.blk (x:=[[45]]) (g:=sC) rfl)) Tryz.func47 rfl rfl rfl ?_)
 rintro _ _ ⟨rfl,rfl⟩
 try simp only [cA,nA]
 by_cases h3:oneT L a [45]=true
 .
  have hal:=oneT_lt h3
  rw [mayA_one,if_pos h3]
  dsimp only [Option.isSome,Option.getD]
  refine La rfl ?_
  refine Ld ?_
  refine zF rfl ?_
  refine Ts ?_
  refine TR ?_
  refine Lm rfl ?_
  refine Lm rfl ?_
  refine Lq (Qt.makeFuncF [_] rfl) ?_
  refine LW.p rfl (Ee.call (hF (a+1) (by dsimp only;omega)) Tryz.func176 rfl rfl rfl (by exact (λ pv ⟨e,he,hp⟩=>FnEPost.dead ⟨e,(by unfold factorR;dsimp only;rw [if_neg h1,if_neg h2,if_pos h3,he]),hp⟩ Sa)) ?_)
  rintro _ _ ⟨e,b,A,c,he,hab,hbl,rfl,hv,rfl⟩
  try simp only [cA,nA]
  obtain ⟨o1,n1,x1,f1,a1,m1,k1,rfl⟩:=hv.form
  refine Le (zK [_,_,_,_,_] (e:=76) (sz:=5) ⟨.agg #[.string .empty,.int .i64 0,.string .empty,.string .empty,.slice none 0 0],by kernel_rfl,rfl⟩ rfl rfl rfl ?_)
  intro g41
  refine Lq (z8 [(0,1),(1,1),(2,1),(3,1),(4,1)] [.string .empty,.int .i64 0,.string .empty,.string .empty,.slice none 0 0] [_,_,_,_,_] [(0,_),(4,_)] (by unfold Zf;kernel_rfl) rfl rfl) ?_
  refine L0 (Es [_,_,_,_,_] rfl rfl rfl rfl (by simp) ?_)
  try simp only [splice,lC,lN,dS,cA,tS,tZ,dZ,nA,aN]
  refine Ld ?_
  refine T.ret ?_
  exact ⟨.inl rfl,_,_,res [_] rfl ⟨rvA [_,_,_,_,_] rfl ⟨rfl,rfl,rfl,rfl,rfl,trivial⟩,trivial⟩,⟨opEx [45] [e],b,sepL [blk g41 [tV o1,iV n1,tV x1,tV f1,.slice a1 m1 k1] 76,A],⟨.string ⟨#[45]⟩,iV 0,.string .empty,.string .empty,.slice (some ⟨g41,0,none⟩) 1 1⟩,by unfold factorR;dsimp only;rw [if_neg h1,if_neg h2,if_pos h3,he],by omega,hbl,rfl,ExV.one hv g41 [45],rfl⟩,Sa⟩
 rw [mayA_one,if_neg h3]
 dsimp only [Option.isSome,Option.getD]
 refine La rfl ?_
 refine Ld ?_
 refine yQ rfl ?_
 refine Ts ?_
 refine TR ?_
 refine Lm rfl ?_
 refine Le (zK [_] (e:=9) (sz:=1) ⟨.string .empty,by kernel_rfl,rfl⟩ rfl rfl rfl ?_)
 intro g45
 refine Le (Ec (Ps.may B [blk g45 [.string ⟨#[40]⟩] 9] gs ⟨p,qc,qe,L⟩ a d (hq:=(by dsimp only;omega)) (some ⟨g45,0,none⟩) 1 1 [[40]] rfl (FlV.blk (x:=[[40]]) (g:=sC) rfl)) Tryz.func47 rfl rfl rfl ?_)
 rintro _ _ ⟨rfl,rfl⟩
 try simp only [cA,nA]
 by_cases h4:oneT L a [40]=true
 .
  have hal:=oneT_lt h4
  rw [mayA_one,if_pos h4]
  dsimp only [Option.isSome,Option.getD]
  refine La rfl ?_
  refine Ld ?_
  refine zF rfl ?_
  refine Ts ?_
  refine TR ?_
  refine Lm rfl ?_
  refine Lm rfl ?_
  refine Lq (Qt.makeFuncF [_] rfl) ?_
  refine LW.p rfl (Ee.call (hE (a+1) (by dsimp only;omega)) Tryz.func176 rfl rfl rfl (by exact (λ pv ⟨e,he,hp⟩=>FnEPost.dead ⟨e,(by unfold factorR;dsimp only;rw [if_neg h1,if_neg h2,if_neg h3,if_pos h4,he]),hp⟩ Sa)) ?_)
  rintro _ _ ⟨e,b,A,c,he,hab,hbl,rfl,hv,rfl⟩
  try simp only [cA,nA]
  obtain ⟨o1,n1,x1,f1,a1,m1,k1,rfl⟩:=hv.form
  refine Le (El [.string .empty,.int .i64 0,.string .empty,.string .empty,.slice none 0 0] (by unfold Zf;kernel_rfl) ?_)
  intro g3
  refine L0 (Es [_,_,_,_,_] rfl rfl rfl rfl (by simp) ?_)
  try simp only [splice,lC,lN,dS,cA,tS,tZ,dZ,nA,aN]
  refine Ld ?_
  refine Ts ?_
  refine TR ?_
  refine Lm rfl ?_
  refine Le (zK [_] (e:=9) (sz:=1) ⟨.string .empty,by kernel_rfl,rfl⟩ rfl rfl rfl ?_)
  intro g52
  dsimp only at hbl
  refine LW.p rfl (Ee.call (Ps.must B [blk g52 [.string ⟨#[41]⟩] 9] gs ⟨p,qc,qe,L⟩ b d (by dsimp only;omega) (by omega) (some ⟨g52,0,none⟩) 1 1 [[41]] rfl (by omega) (FlV.blk (x:=[[41]]) (g:=sC) rfl)) Tryz.func80 rfl rfl rfl (by exact (λ pv ⟨e,he,hp⟩=>FnEPost.dead ⟨e,(by unfold factorR;dsimp only;rw [if_neg h1,if_neg h2,if_neg h3,if_pos h4];simp only [‹E0 (a+1)=_›];rw [he]),hp⟩ Sa)) ?_)
  rintro _ _ ⟨b2,hm,rfl,rfl⟩
  try simp only [cA,nA]
  refine Ld ?_
  refine Ts ?_
  refine TR ?_
  refine Lq (QL [_,_,_,_,_] rfl ⟨rfl,rfl,rfl,rfl,rfl,trivial⟩) ?_
  refine L0 (Es [_,_,_,_,_] rfl rfl rfl rfl (by simp) ?_)
  try simp only [splice,lC,lN,dS,cA,tS,tZ,dZ,nA,aN]
  refine Ld ?_
  obtain ⟨rfl,hbl2⟩:=mustA_one hm
  dsimp only at hbl2
  refine T.ret ?_
  exact ⟨.inl rfl,_,_,res [_] rfl ⟨rvA [_,_,_,_,_] rfl ⟨rfl,rfl,rfl,rfl,rfl,trivial⟩,trivial⟩,⟨e,b+1,A,_,by unfold factorR;dsimp only;rw [if_neg h1,if_neg h2,if_neg h3,if_pos h4,he];dsimp only;rw [hm],by omega,by omega,rfl,hv,rfl⟩,Sa⟩
 rw [mayA_one,if_neg h4]
 dsimp only [Option.isSome,Option.getD]
 refine La rfl ?_
 refine Ld ?_
 refine yQ rfl ?_
 refine Tk ?_
 refine Ts ?_
 refine TR ?_
 refine Lm rfl ?_
 refine LW.p rfl (Ee.call (hit a ha) Tryz.func152 rfl rfl rfl (by exact (λ pv ⟨e,he,hp⟩=>FnEPost.dead ⟨e,(by unfold factorR;dsimp only;rw [if_neg h1,if_neg h2,if_neg h3,if_neg h4,he]),hp⟩ Sa)) ?_)
 rintro _ _ ⟨e,b,A,c,he,hab,hbl,rfl,hv,rfl⟩
 try simp only [cA,nA]
 obtain ⟨o1,n1,x1,f1,a1,m1,k1,rfl⟩:=hv.form
 refine L0 (Es [_,_,_,_,_] rfl rfl rfl rfl (by simp) ?_)
 try simp only [splice,lC,lN,dS,cA,tS,tZ,dZ,nA,aN]
 refine Ld ?_
 refine T.ret ?_
 exact ⟨.inl rfl,_,_,res [_] rfl ⟨rvA [_,_,_,_,_] rfl ⟨rfl,rfl,rfl,rfl,rfl,trivial⟩,trivial⟩,⟨e,b,A,_,by unfold factorR;dsimp only;rw [if_neg h1,if_neg h2,if_neg h3,if_neg h4,he],hab,hbl,rfl,hv,rfl⟩,Sa⟩
open Go.RowKit
theorem Ps.chainL (B:Wn) (gs:Nat) (q:Sq) (a d:Nat) (hq:q.L.length<2^28) (ha:a<=q.L.length) (fg:FuncId) (fn:Func) (hf:Tryz.prog.funcs[fg]? = some fn) (hn:(fn.name == "runtime.NumGoroutine")=false) (hb:fn.body.isNone=false) (read:EP) (hr:ExpC B gs q d fg read) (go m:Nat) (ops:List Str) (hm:ops.length=m) (hmb:m<2^20) (hx : ∀ x∈q.L,x.text.length<2^40) (vs:List Value) (hl:ops.flatMap sC=vs) :
    FnE Tryz.prog B 129 #[pV gs,.func (.func fg) #[pV gs] #[],.slice (some ⟨go,0,none⟩) m m] [srB gs q a d,srT q,blk go vs 9] (λ u l => ∃ x b A c,chainR q read ops a = .ok (x,b)/\a<b/\b<=q.L.length/\u=eA c/\ExV B [A] x c/\l=[A,srB gs q b d,srT q]) (Xm (chainR q read ops a)):=by
  subst hl
  exact Ps.chain B gs q a d hq ha fg fn hf hn hb read hr go m ops hm hmb hx
theorem Ps.product (B:Wn) (gs:Nat) (q:Sq) (d:Nat) (hq:q.L.length<2^27) (hx : ∀ x∈q.L,x.text.length<2^40) (R0:EP) (hR:ExpC B gs q d 190 R0):ExpC B gs q d 187 (chainR q R0 [[42]]):=by
  intro a ha
  refine FnE.enter1 8 Tryz.func187 rfl rfl (nB rfl) (λ F=>?_)
  try simp only [cA,nA]
  refine Ts ?_
  refine TR ?_
  refine Le (El [.string .empty,.int .i64 0,.string .empty,.string .empty,.slice none 0 0] (by unfold Zf;kernel_rfl) ?_)
  intro g2
  refine Ld ?_
  refine Ts ?_
  refine TR ?_
  refine Lm rfl ?_
  refine Lm rfl ?_
  refine Lq (Qt.makeFuncF [_] rfl) ?_
  refine Le (zK [_] (e:=9) (sz:=1) ⟨.string .empty,by kernel_rfl,rfl⟩ rfl rfl rfl ?_)
  intro g6
  refine LW.p rfl (Ee.call (Ps.chainL B gs q a d (by omega) ha 190 _ Tryz.func190 rfl rfl R0 hR g6 1 [[42]] rfl (by omega) hx [.string ⟨#[42]⟩] rfl) Tryz.func129 rfl rfl rfl (by exact (λ pv ⟨e,he,hp⟩=>FnEPost.dead ⟨e,(by rw [he]),hp⟩ Sa)) ?_)
  rintro _ _ ⟨e,b,A,c,he,hab,hbl,rfl,hv,rfl⟩
  try simp only [cA,nA]
  obtain ⟨o1,n1,x1,f1,a1,m1,k1,rfl⟩:=hv.form
  refine L0 (Es [_,_,_,_,_] rfl rfl rfl rfl (by simp) ?_)
  try simp only [splice,lC,lN,dS,cA,tS,tZ,dZ,nA,aN]
  refine Ld ?_
  refine T.ret ?_
  exact ⟨.inl rfl,_,_,res [_] rfl ⟨rvA [_,_,_,_,_] rfl ⟨rfl,rfl,rfl,rfl,rfl,trivial⟩,trivial⟩,⟨e,b,A,_,he,hab,hbl,rfl,hv,rfl⟩,Sa⟩
theorem Ps.sum (B:Wn) (gs:Nat) (q:Sq) (d:Nat) (hq:q.L.length<2^27) (hx : ∀ x∈q.L,x.text.length<2^40) (R0:EP) (hR:ExpC B gs q d 187 R0):ExpC B gs q d 177 (chainR q R0 [[43],[45]]):=by
  intro a ha
  refine FnE.enter1 8 Tryz.func177 rfl rfl (nB rfl) (λ F=>?_)
  try simp only [cA,nA]
  refine Ts ?_
  refine TR ?_
  refine Le (El [.string .empty,.int .i64 0,.string .empty,.string .empty,.slice none 0 0] (by unfold Zf;kernel_rfl) ?_)
  intro g2
  refine Ld ?_
  refine Ts ?_
  refine TR ?_
  refine Lm rfl ?_
  refine Lm rfl ?_
  refine Lq (Qt.makeFuncF [_] rfl) ?_
  refine Le (ZC [_,_] (e:=9) rfl (by simp [Value.cells]) rfl ?_)
  intro g6
  refine LW.p rfl (Ee.call (Ps.chainL B gs q a d (by omega) ha 187 _ Tryz.func187 rfl rfl R0 hR g6 2 [[43],[45]] rfl (by omega) hx [.string ⟨#[43]⟩,.string ⟨#[45]⟩] rfl) Tryz.func129 rfl rfl rfl (by exact (λ pv ⟨e,he,hp⟩=>FnEPost.dead ⟨e,(by rw [he]),hp⟩ Sa)) ?_)
  rintro _ _ ⟨e,b,A,c,he,hab,hbl,rfl,hv,rfl⟩
  try simp only [cA,nA]
  obtain ⟨o1,n1,x1,f1,a1,m1,k1,rfl⟩:=hv.form
  refine L0 (Es [_,_,_,_,_] rfl rfl rfl rfl (by simp) ?_)
  try simp only [splice,lC,lN,dS,cA,tS,tZ,dZ,nA,aN]
  refine Ld ?_
  refine T.ret ?_
  exact ⟨.inl rfl,_,_,res [_] rfl ⟨rvA [_,_,_,_,_] rfl ⟨rfl,rfl,rfl,rfl,rfl,trivial⟩,trivial⟩,⟨e,b,A,_,he,hab,hbl,rfl,hv,rfl⟩,Sa⟩
theorem Ps.both (B:Wn) (gs:Nat) (q:Sq) (d:Nat) (hq:q.L.length<2^27) (hx : ∀ x∈q.L,x.text.length<2^40) (R0:EP) (hR:ExpC B gs q d 151 R0):ExpC B gs q d 130 (chainR q R0 [[65,78,68]]):=by
  intro a ha
  refine FnE.enter1 8 Tryz.func130 rfl rfl (nB rfl) (λ F=>?_)
  try simp only [cA,nA]
  refine Ts ?_
  refine TR ?_
  refine Le (El [.string .empty,.int .i64 0,.string .empty,.string .empty,.slice none 0 0] (by unfold Zf;kernel_rfl) ?_)
  intro g2
  refine Ld ?_
  refine Ts ?_
  refine TR ?_
  refine Lm rfl ?_
  refine Lm rfl ?_
  refine Lq (Qt.makeFuncF [_] rfl) ?_
  refine Le (zK [_] (e:=9) (sz:=1) ⟨.string .empty,by kernel_rfl,rfl⟩ rfl rfl rfl ?_)
  intro g6
  refine LW.p rfl (Ee.call (Ps.chainL B gs q a d (by omega) ha 151 _ Tryz.func151 rfl rfl R0 hR g6 1 [[65,78,68]] rfl (by omega) hx [.string ⟨#[65,78,68]⟩] rfl) Tryz.func129 rfl rfl rfl (by exact (λ pv ⟨e,he,hp⟩=>FnEPost.dead ⟨e,(by rw [he]),hp⟩ Sa)) ?_)
  rintro _ _ ⟨e,b,A,c,he,hab,hbl,rfl,hv,rfl⟩
  try simp only [cA,nA]
  obtain ⟨o1,n1,x1,f1,a1,m1,k1,rfl⟩:=hv.form
  refine L0 (Es [_,_,_,_,_] rfl rfl rfl rfl (by simp) ?_)
  try simp only [splice,lC,lN,dS,cA,tS,tZ,dZ,nA,aN]
  refine Ld ?_
  refine T.ret ?_
  exact ⟨.inl rfl,_,_,res [_] rfl ⟨rvA [_,_,_,_,_] rfl ⟨rfl,rfl,rfl,rfl,rfl,trivial⟩,trivial⟩,⟨e,b,A,_,he,hab,hbl,rfl,hv,rfl⟩,Sa⟩
theorem Ps.expr (B:Wn) (gs:Nat) (q:Sq) (d:Nat) (hq:q.L.length<2^27) (hx : ∀ x∈q.L,x.text.length<2^40) (R0:EP) (hR:ExpC B gs q d 130 R0):ExpC B gs q d 85 (chainR q R0 [[79,82]]):=by
  intro a ha
  refine FnE.enter1 8 Tryz.func85 rfl rfl (nB rfl) (λ F=>?_)
  try simp only [cA,nA]
  refine Ts ?_
  refine TR ?_
  refine Le (El [.string .empty,.int .i64 0,.string .empty,.string .empty,.slice none 0 0] (by unfold Zf;kernel_rfl) ?_)
  intro g2
  refine Ld ?_
  refine Ts ?_
  refine TR ?_
  refine Lm rfl ?_
  refine Lm rfl ?_
  refine Lq (Qt.makeFuncF [_] rfl) ?_
  refine Le (zK [_] (e:=9) (sz:=1) ⟨.string .empty,by kernel_rfl,rfl⟩ rfl rfl rfl ?_)
  intro g6
  refine LW.p rfl (Ee.call (Ps.chainL B gs q a d (by omega) ha 130 _ Tryz.func130 rfl rfl R0 hR g6 1 [[79,82]] rfl (by omega) hx [.string ⟨#[79,82]⟩] rfl) Tryz.func129 rfl rfl rfl (by exact (λ pv ⟨e,he,hp⟩=>FnEPost.dead ⟨e,(by rw [he]),hp⟩ Sa)) ?_)
  rintro _ _ ⟨e,b,A,c,he,hab,hbl,rfl,hv,rfl⟩
  try simp only [cA,nA]
  obtain ⟨o1,n1,x1,f1,a1,m1,k1,rfl⟩:=hv.form
  refine L0 (Es [_,_,_,_,_] rfl rfl rfl rfl (by simp) ?_)
  try simp only [splice,lC,lN,dS,cA,tS,tZ,dZ,nA,aN]
  refine Ld ?_
  refine T.ret ?_
  exact ⟨.inl rfl,_,_,res [_] rfl ⟨rvA [_,_,_,_,_] rfl ⟨rfl,rfl,rfl,rfl,rfl,trivial⟩,trivial⟩,⟨e,b,A,_,he,hab,hbl,rfl,hv,rfl⟩,Sa⟩
def cmpR (q:Sq) (S:EP) (e:Ex) (b:Nat):List Str->PE (Ex×Nat)
  | [] => .ok (e,b)
  | o::os=>if oneT q.L b o=true then match S (b+1) with
      | .error x => .error x
      | .ok (e2,c) => .ok (opEx o [e,e2],c)
    else cmpR q S e b os
def cmpOps : List Str:=[[61],[60,62],[60,61],[62,61],[60],[62]]
def notR (q:Sq) (N S:EP):EP:=λ a=>if oneT q.L a [78,79,84]=true then match N (a+1) with
    | .error x => .error x
    | .ok (e,b) => .ok (opEx [78,79,84] [e],b)
  else match S a with
    | .error x => .error x
    | .ok (e,b)=>cmpR q S e b cmpOps
theorem cmpR_cons {q:Sq} {S:EP} {e:Ex} {b:Nat} {o:Str} {os:List Str}:cmpR q S e b (o::os)=if oneT q.L b o=true then match S (b+1) with
      | .error x => .error x
      | .ok (e2,c) => .ok (opEx o [e,e2],c)
    else cmpR q S e b os:=rfl
theorem Ps.not (B:Wn) (gs:Nat) (q:Sq) (d:Nat) (hq:q.L.length<2^27) (N0 S0:EP) (hN:DeepC B gs q d 151 N0) (hS:ExpC B gs q d 177 S0):ExpC B gs q d 151 (notR q N0 S0):=by
 intro a ha
 refine FnE.enter1 35 Tryz.func151 rfl rfl (nB rfl) (λ F=>?_)
 try simp only [cA,nA]
 refine Ts ?_
 refine TR ?_
 refine Le (El [.string .empty,.int .i64 0,.string .empty,.string .empty,.slice none 0 0] (by unfold Zf;kernel_rfl) ?_)
 intro g2
 refine Ld ?_
 refine Ts ?_
 refine Ts ?_
 refine TR ?_
 refine Lm rfl ?_
 refine Le (zK [_] (e:=9) (sz:=1) ⟨.string .empty,by kernel_rfl,rfl⟩ rfl rfl rfl ?_)
 intro g7
 refine Le (Ec (Ps.may B [blk g7 [.string ⟨#[78,79,84]⟩] 9] gs q a d (some ⟨g7,0,none⟩) 1 1 [[78,79,84]] rfl (FlV.blk (x:=[[78,79,84]]) (g:=sC) rfl)) Tryz.func47 rfl rfl rfl ?_)
 rintro _ _ ⟨rfl,rfl⟩
 try simp only [cA,nA]
 by_cases h1:oneT q.L a [78,79,84]=true
 .
  have hal:=oneT_lt h1
  rw [mayA_one,if_pos h1]
  dsimp only [Option.isSome,Option.getD]
  refine Ld ?_
  refine zF rfl ?_
  refine Ts ?_
  refine TR ?_
  refine Lm rfl ?_
  refine Lm rfl ?_
  refine Lq (Qt.makeFuncF [_] rfl) ?_
  refine LW.p rfl (Ee.call (hN (a+1) (by omega)) Tryz.func176 rfl rfl rfl (by exact (λ pv ⟨e,he,hp⟩=>FnEPost.dead ⟨e,(by unfold notR;rw [if_pos h1,he]),hp⟩ Sa)) ?_)
  rintro _ _ ⟨e,b,A,c,he,hab,hbl,rfl,hv,rfl⟩
  try simp only [cA,nA]
  obtain ⟨o1,n1,x1,f1,a1,m1,k1,rfl⟩:=hv.form
  refine Le (zK [_,_,_,_,_] (e:=76) (sz:=5) ⟨.agg #[.string .empty,.int .i64 0,.string .empty,.string .empty,.slice none 0 0],by kernel_rfl,rfl⟩ rfl rfl rfl ?_)
  intro g13
  refine Lq (z8 [(0,1),(1,1),(2,1),(3,1),(4,1)] [.string .empty,.int .i64 0,.string .empty,.string .empty,.slice none 0 0] [_,_,_,_,_] [(0,_),(4,_)] (by unfold Zf;kernel_rfl) rfl rfl) ?_
  refine L0 (Es [_,_,_,_,_] rfl rfl rfl rfl (by simp) ?_)
  try simp only [splice,lC,lN,dS,cA,tS,tZ,dZ,nA,aN]
  refine Ld ?_
  refine T.ret ?_
  exact ⟨.inl rfl,_,_,res [_] rfl ⟨rvA [_,_,_,_,_] rfl ⟨rfl,rfl,rfl,rfl,rfl,trivial⟩,trivial⟩,⟨opEx [78,79,84] [e],b,sepL [blk g13 [tV o1,iV n1,tV x1,tV f1,.slice a1 m1 k1] 76,A],⟨.string ⟨#[78,79,84]⟩,iV 0,.string .empty,.string .empty,.slice (some ⟨g13,0,none⟩) 1 1⟩,by unfold notR;rw [if_pos h1,he],by omega,hbl,rfl,ExV.one hv g13 [78,79,84],rfl⟩,Sa⟩
 rw [mayA_one,if_neg h1]
 dsimp only [Option.isSome,Option.getD]
 refine Ld ?_
 refine yQ rfl ?_
 refine Tk ?_
 refine Ts ?_
 refine TR ?_
 refine Lm rfl ?_
 refine LW.p rfl (Ee.call (hS a ha) Tryz.func177 rfl rfl rfl (by exact (λ pv ⟨e,he,hp⟩=>FnEPost.dead ⟨e,(by unfold notR;rw [if_neg h1,he]),hp⟩ Sa)) ?_)
 rintro _ _ ⟨e,b,A,c,he,hab,hbl,rfl,hv,rfl⟩
 try simp only [cA,nA]
 obtain ⟨o2,n2,x2,f2,a2,m2,k2,rfl⟩:=hv.form
 refine Le (El [.string .empty,.int .i64 0,.string .empty,.string .empty,.slice none 0 0] (by unfold Zf;kernel_rfl) ?_)
 intro g3
 refine L0 (Es [_,_,_,_,_] rfl rfl rfl rfl (by simp) ?_)
 try simp only [splice,lC,lN,dS,cA,tS,tZ,dZ,nA,aN]
 refine Ld ?_
 refine Ts ?_
 refine Ts ?_
 refine TR ?_
 refine Le (ZC [_,_,_,_,_,_] (e:=9) rfl (by simp [Value.cells]) rfl ?_)
 intro g17
 refine Lq (yI (e:=9) (sz:=1) rfl) ?_
 refine Lm rfl ?_
 refine Ld ?_
 refine yH ?_
 have hnr:notR q N0 S0 a=cmpR q S0 e b cmpOps:=by unfold notR;rw [if_neg h1,he]
 refine zG (λ mz fz lz => ∃ (f0:Fr) (j:Nat),(j<=6/\notR q N0 S0 a=cmpR q S0 e b (cmpOps.drop j))/\mz=6-j/\fz=(upd (upd (upd (upd (upd (upd f0 0 (pV gs)) 2 (pV g2)) 3 (pV g3)) 17 (.slice (some ⟨g17,0,none⟩) 6 6)) 18 (iV 6)) 19 (iV j))/\lz=exB g3 ⟨tV o2,iV n2,tV x2,tV f2,.slice a2 m2 k2⟩::A::srB gs q b d::srT q::blk g17 [.string ⟨#[61]⟩,.string ⟨#[60,62]⟩,.string ⟨#[60,61]⟩,.string ⟨#[62,61]⟩,.string ⟨#[60]⟩,.string ⟨#[62]⟩] 9::exB g2 zE::F) ?_ ?_
 . refine ⟨_,_,⟨_,0,⟨Nat.zero_le _,hnr⟩,rfl,(Za rfl (Za rfl (Za rfl (Za rfl (Za rfl (Za rfl rfl)))))),rfl⟩,Sa⟩
 rintro mz fz lz ⟨f0,j,⟨hj,hmy⟩,hmz,rfl,rfl⟩
 subst mz
 refine Ts ?_
 refine TR ?_
 refine Lq (yM rfl rfl) ?_
 refine Ld ?_
 refine Ts ?_
 refine yN rfl (λ hlt=>?_) (λ hlt=>?_)
 .
  have hops:FlV B [blk g17 [.string ⟨#[61]⟩,.string ⟨#[60,62]⟩,.string ⟨#[60,61]⟩,.string ⟨#[62,61]⟩,.string ⟨#[60]⟩,.string ⟨#[62]⟩] 9] sC (.slice (some ⟨g17,0,none⟩) 6 6) cmpOps:=FlV.blk (x:=cmpOps) (g:=sC) rfl
  obtain ⟨bt,ot,hbo,hrd⟩:=hops.at (sz:=1) (λ _=>rfl) (by omega)
  cases hbo
  obtain ⟨t,hT⟩ : ∃ t,cmpOps[j]? = some t:=⟨_,List.getElem?_eq_getElem (by show j<6;omega)⟩
  obtain ⟨hTl,hTe⟩:=List.getElem?_eq_some_iff.1 hT
  rw [List.drop_eq_getElem_cons hTl,hTe,cmpR_cons] at hmy
  refine Tk ?_
  refine Ts ?_
  refine yH ?_
  refine Ts ?_
  refine TR ?_
  refine Lq (Qi _ (e:=9) (sz:=1) rfl rfl rfl) ?_
  refine Lq (zN (v:=tV t) rfl (λ w ho=>hrd j t hT w (ho.map Sa) 0 (tV t) rfl)) ?_
  refine La rfl ?_
  refine Ld ?_
  refine Ts ?_
  refine TR ?_
  refine Lm rfl ?_
  refine Lm rfl ?_
  refine Le (zK [_] (e:=9) (sz:=1) ⟨.string .empty,by kernel_rfl,rfl⟩ rfl rfl rfl ?_)
  intro g25
  refine Le (Ec (Ps.may B [blk g25 [tV t] 9] gs q b d (some ⟨g25,0,none⟩) 1 1 [t] rfl (FlV.blk (x:=[t]) (g:=sC) rfl)) Tryz.func47 rfl rfl rfl ?_)
  rintro _ _ ⟨rfl,rfl⟩
  try simp only [cA,nA]
  by_cases h2:oneT q.L b t=true
  .
   have hbl1:=oneT_lt h2
   rw [if_pos h2] at hmy
   rw [mayA_one,if_pos h2]
   dsimp only [Option.isSome,Option.getD]
   refine Ld ?_
   refine zF rfl ?_
   refine Ts ?_
   refine T.draw 6 ([blk g3 [tV o2,iV n2,tV x2,tV f2,.slice a2 m2 k2] 76]) (nB rfl) ?_
   refine Rq 0 rfl Sa (Qm rfl) ?_
   refine Rq 1 rfl Sa (QL [_,_,_,_,_] rfl ⟨rfl,rfl,rfl,rfl,rfl,trivial⟩) ?_
   refine Rq 2 rfl Sa (Qm rfl) ?_
   refine yK 3 ?_
   refine RO.pS rfl rfl (Ee.call (hS (b+1) (by omega)) Tryz.func177 rfl rfl rfl (by exact (λ pv ⟨e,he,hp⟩=>FnEPost.dead ⟨e,(by rw [hmy,he]),hp⟩ Sa)) ?_)
   rintro _ _ ⟨e2,b2,A2,c2,he2,hab2,hbl2,rfl,hv2,rfl⟩
   try simp only [cA,nA]
   obtain ⟨o3,n3,x3,f3,a3,m3,k3,rfl⟩:=hv2.form
   refine ⟨Sa,?_⟩
   refine yK 4 ?_
   refine zY rfl (Ef.lits [_,_] [_,_,_,_,_,_,_,_,_,_] (e:=76) (sz:=5) rfl (by simp [Value.cells]) rfl rfl ?_)
   intro g31
   refine Rq 5 rfl (Sr _) (z8 [(0,1),(1,1),(2,1),(3,1),(4,1)] [.string .empty,.int .i64 0,.string .empty,.string .empty,.slice none 0 0] [_,_,_,_,_] [(0,_),(4,_)] (by unfold Zf;kernel_rfl) rfl rfl) ?_
   refine Rd0 (by rfl) ?_
   simp only [dS,dZ,dN]
   refine L0 (Es [_,_,_,_,_] rfl rfl rfl rfl (by simp) ?_)
   try simp only [splice,lC,lN,dS,cA,tS,tZ,dZ,nA,aN]
   refine Ld ?_
   refine T.ret ?_
   exact ⟨.inl rfl,_,_,res [_] rfl ⟨rvA [_,_,_,_,_] rfl ⟨rfl,rfl,rfl,rfl,rfl,trivial⟩,trivial⟩,⟨opEx t [e,e2],b2,sepL [blk g31 [tV o2,iV n2,tV x2,tV f2,.slice a2 m2 k2,tV o3,iV n3,tV x3,tV f3,.slice a3 m3 k3] 76,A,A2],⟨tV t,iV 0,.string .empty,.string .empty,.slice (some ⟨g31,0,none⟩) 2 2⟩,by rw [hmy,he2],by omega,hbl2,rfl,ExV.two hv hv2 g31 t,rfl⟩,Sa⟩
  rw [if_neg h2] at hmy
  rw [mayA_one,if_neg h2]
  dsimp only [Option.isSome,Option.getD]
  refine Ld ?_
  refine yQ rfl ?_
  refine Tk ?_
  refine TR ?_
  refine Lq (Qd rfl rfl (Ze)) ?_
  refine Lm rfl ?_
  refine Ld ?_
  refine ⟨_,?_,_,⟨_,j+1,⟨by omega,hmy⟩,rfl,(Za rfl (Za rfl (Za rfl (Za rfl (Za rfl (Za rfl rfl)))))),rfl⟩,Sa⟩
  omega
 rw [List.drop_of_length_le (by show 6<=j;omega)] at hmy
 refine zB ?_
 refine Ts ?_
 refine TR ?_
 refine Lq (QL [_,_,_,_,_] rfl ⟨rfl,rfl,rfl,rfl,rfl,trivial⟩) ?_
 refine L0 (Es [_,_,_,_,_] rfl rfl rfl rfl (by simp) ?_)
 try simp only [splice,lC,lN,dS,cA,tS,tZ,dZ,nA,aN]
 refine Ld ?_
 refine T.ret ?_
 exact ⟨.inl rfl,_,_,res [_] rfl ⟨rvA [_,_,_,_,_] rfl ⟨rfl,rfl,rfl,rfl,rfl,trivial⟩,trivial⟩,⟨e,b,A,_,hmy,hab,hbl,rfl,hv,rfl⟩,Sa⟩
open Go.RowKit
def deadR (q:Sq):EP:=λ a => .error (151,placeR q.en q.L a)
structure Lev where
  fac:EP
  no:EP
  ex:EP
def levS (q:Sq) (v:Lev):Lev :=
  let fa:=factorR q v.fac v.ex
  let no:=notR q v.no (chainR q (chainR q fa [[42]]) [[43],[45]])
  ⟨fa,no,chainR q (chainR q no [[65,78,68]]) [[79,82]]⟩
def levR (q:Sq):Nat->Lev
  | 0=>levS q ⟨deadR q,deadR q,deadR q⟩
  | r+1=>levS q (levR q r)
abbrev exprR (q:Sq):EP:=(levR q 32).ex
theorem deepR_dead (q:Sq) (read:EP):deepR q 32 read=deadR q:=by
  funext a;unfold deepR;rw [if_neg (by omega)];rfl
theorem deepR_live (q:Sq) (read:EP) {d:Nat} (h:d<32):deepR q d read=read:=by
  funext a;unfold deepR;rw [if_pos h]
theorem Ps.levS (B:Wn) (gs:Nat) (q:Sq) (d:Nat) (hq:q.L.length<2^27) (hx : ∀ x∈q.L,x.text.length<2^40) (v:Lev) (h1:DeepC B gs q d 190 v.fac) (h2:DeepC B gs q d 151 v.no) (h3:DeepC B gs q d 85 v.ex) :
    ExpC B gs q d 190 (levS q v).fac/\ExpC B gs q d 151 (levS q v).no/\ExpC B gs q d 85 (levS q v).ex:=by
  have k1:=Ps.factor B gs q d hq hx _ _ h1 h3
  have k2:=Ps.not B gs q d hq _ _ h2 (Ps.sum B gs q d hq hx _ (Ps.product B gs q d hq hx _ k1))
  exact ⟨k1,k2,Ps.expr B gs q d hq hx _ (Ps.both B gs q d hq hx _ k2)⟩
theorem Ps.lev (B:Wn) (gs:Nat) (q:Sq) (hq:q.L.length<2^27) (hx : ∀ x∈q.L,x.text.length<2^40) : ∀ (r d:Nat),d+r=32 ->
    ExpC B gs q d 190 (levR q r).fac/\ExpC B gs q d 151 (levR q r).no/\ExpC B gs q d 85 (levR q r).ex:=by
  intro r
  induction r with
  | zero =>
    intro d hd
    have hd:d=32:=by omega
    subst hd
    refine Ps.levS B gs q 32 hq hx ⟨deadR q,deadR q,deadR q⟩ ?_ ?_ ?_
    . exact deepR_dead q (deadR q) ▸ Ps.deeper B gs q 32 (by omega) _ _ Tryz.func190 rfl rfl (deadR q) (λ h=>absurd h (by omega))
    . exact deepR_dead q (deadR q) ▸ Ps.deeper B gs q 32 (by omega) _ _ Tryz.func151 rfl rfl (deadR q) (λ h=>absurd h (by omega))
    . exact deepR_dead q (deadR q) ▸ Ps.deeper B gs q 32 (by omega) _ _ Tryz.func85 rfl rfl (deadR q) (λ h=>absurd h (by omega))
  | succ r ih =>
    intro d hd
    obtain ⟨i1,i2,i3⟩:=ih (d+1) (by omega)
    have hd':d<32:=by omega
    refine Ps.levS B gs q d hq hx (levR q r) ?_ ?_ ?_
    . exact deepR_live q (levR q r).fac hd' ▸ Ps.deeper B gs q d (by omega) _ _ Tryz.func190 rfl rfl (levR q r).fac (λ _=>i1)
    . exact deepR_live q (levR q r).no hd' ▸ Ps.deeper B gs q d (by omega) _ _ Tryz.func151 rfl rfl (levR q r).no (λ _=>i2)
    . exact deepR_live q (levR q r).ex hd' ▸ Ps.deeper B gs q d (by omega) _ _ Tryz.func85 rfl rfl (levR q r).ex (λ _=>i3)
theorem Ps.exprC (B:Wn) (gs:Nat) (q:Sq) (hq:q.L.length<2^27) (hx : ∀ x∈q.L,x.text.length<2^40):ExpC B gs q 0 85 (exprR q):=(Ps.lev B gs q hq hx 32 0 rfl).2.2
def whereR (q:Sq) (a:Nat):PE (List Ex×Nat):=if oneT q.L a [87,72,69,82,69]=true then match exprR q (a+1) with
    | .error x => .error x
    | .ok (e,b) => .ok ([e],b)
  else .ok ([],a)
def ExL (B:Wn) (S:List Wp) (v:Value) (x:List Ex):Prop := ∃ pa ca css,v = .slice pa x.length ca/\FlV B S c5 v css/\css.length=x.length /\ ∀ (i:Nat) (t:Ex) (c:C5),x[i]? = some t->css[i]? = some c->ExV B S t c
theorem ExL.nil (B:Wn) (S:List Wp):ExL B S (.slice none 0 0) []:=⟨none,0,[],rfl,.empty _ _,rfl,by intro i t c h;simp at h⟩
theorem ExL.one {B:Wn} {A:Wp} {e:Ex} {c1:C5} (h1:ExV B [A] e c1) (g:Nat):ExL B [sepL [blk g (c5 c1) 76,A]] (.slice (some ⟨g,0,none⟩) 1 1) [e] :=
  ⟨_,_,[c1],rfl,(FlV.blk (x:=[c1]) (g:=c5) (m:=1) (c:=1) (t:=76) (l:=[A]) rfl).mono λ w ho=>ho.sep,rfl,λ i t c ht hc=>by
    match i with
    | 0 =>
      simp at ht hc;subst ht;subst hc
      exact h1.mono λ w ho=>(ho.sep).map Sa
    | i+1=>simp at ht⟩
theorem Ps.where (B:Wn) (gs:Nat) (q:Sq) (a:Nat) (hq:q.L.length<2^27) (hx : ∀ x∈q.L,x.text.length<2^40) (ha:a<=q.L.length):FnE Tryz.prog B 90 #[pV gs] [srB gs q a 0,srT q] (λ u l => ∃ x b A pa ca,whereR q a = .ok (x,b)/\a<=b/\b<=q.L.length/\u = .slice pa x.length ca/\ExL B [A] u x/\l=[A,srB gs q b 0,srT q]) (Xm (whereR q a)):=by
 have hE:=Ps.exprC B gs q hq hx
 refine FnE.enter1 9 Tryz.func90 rfl rfl (nB rfl) (λ F=>?_)
 try simp only [cA,nA]
 refine Ts ?_
 refine TR ?_
 refine La rfl ?_
 refine Ld ?_
 refine Ts ?_
 refine Ts ?_
 refine TR ?_
 refine Lm rfl ?_
 refine Le (zK [_] (e:=9) (sz:=1) ⟨.string .empty,by kernel_rfl,rfl⟩ rfl rfl rfl ?_)
 intro g4
 refine Le (Ec (Ps.may B [blk g4 [.string ⟨#[87,72,69,82,69]⟩] 9] gs q a 0 (some ⟨g4,0,none⟩) 1 1 [[87,72,69,82,69]] rfl (FlV.blk (x:=[[87,72,69,82,69]]) (g:=sC) rfl)) Tryz.func47 rfl rfl rfl ?_)
 rintro _ _ ⟨rfl,rfl⟩
 try simp only [cA,nA]
 by_cases h1:oneT q.L a [87,72,69,82,69]=true
 .
  have hal:=oneT_lt h1
  rw [mayA_one,if_pos h1]
  dsimp only [Option.isSome,Option.getD]
  refine Ld ?_
  refine zF rfl ?_
  refine Ts ?_
  refine TR ?_
  refine Lm rfl ?_
  refine LW.p rfl (Ee.call (hE (a+1) (by omega)) Tryz.func85 rfl rfl rfl (by exact (λ pv ⟨e,he,hp⟩=>FnEPost.dead ⟨e,(by unfold whereR;rw [if_pos h1,he]),hp⟩ Sa)) ?_)
  rintro _ _ ⟨e,b,A,c,he,hab,hbl,rfl,hv,rfl⟩
  try simp only [cA,nA]
  obtain ⟨o1,n1,x1,f1,a1,m1,k1,rfl⟩:=hv.form
  refine Le (zK [_,_,_,_,_] (e:=76) (sz:=5) ⟨.agg #[.string .empty,.int .i64 0,.string .empty,.string .empty,.slice none 0 0],by kernel_rfl,rfl⟩ rfl rfl rfl ?_)
  intro g8
  refine La rfl ?_
  refine Ld ?_
  refine T.ret ?_
  exact ⟨.inl rfl,_,_,res [_] rfl ⟨rvT rfl,trivial⟩,⟨[e],b,sepL [blk g8 [tV o1,iV n1,tV x1,tV f1,.slice a1 m1 k1] 76,A],_,_,by unfold whereR;rw [if_pos h1,he],by omega,hbl,rfl,ExL.one hv g8,rfl⟩,Sa⟩
 rw [mayA_one,if_neg h1]
 dsimp only [Option.isSome,Option.getD]
 refine Ld ?_
 refine yQ rfl ?_
 refine Tk ?_
 refine Ts ?_
 refine TR ?_
 refine La rfl ?_
 refine Ld ?_
 refine T.ret ?_
 exact ⟨.inl rfl,_,_,res [_] rfl ⟨rvT rfl,trivial⟩,⟨[],a,blk g4 [.string ⟨#[87,72,69,82,69]⟩] 9,none,0,by unfold whereR;rw [if_neg h1],Nat.le_refl _,ha,rfl,ExL.nil _ _,rfl⟩,Sa⟩
end Go.Proofs.YtnnfjemaeefbiaaGreatDoor
