/- The texts SyA SyB SyC HdA SyD SyE SyF HdB HdC HdD HdE HdF HdG, one behind the other: what the law leans on. Conditions: as each theorem says. -/
import Derived.Test.YtkfmfoecplbclaaGreatDoorZPyBase16
set_option linter.unusedSimpArgs false
set_option linter.unusedVariables false
set_option maxRecDepth 100000
set_option maxHeartbeats 16000000
namespace Go.Proofs.YtkfmfoecplbclaaGreatDoor
open Go.RowKit
theorem Rx.check (B:Wn) (S:List Wp) (l:List Vx) (pa:Option Addr) (m ca:Nat) (hl:l.length=m) (hm:m<2^40) (hv:FlV B S vxC (.slice pa m ca) l) (hs : ∀ v∈l,v.s.length<2^40):Fn Tryz.prog B 115 #[.slice pa m ca] S (λ u r=>u = .int .i64 (chkX l)/\r=S):=by
 refine Wq 52 Tryz.func115 rfl rfl (nB rfl) (λ F=>?_)
 refine TS (La rfl (Ld (Ts (TS (La rfl (Ld (yH ?_)))))))
 refine zG (λ mz fz lz => ∃ (f0:Fr) (k:Nat),(k<=m/\chkX (l.drop k)=chkX l)/\mz=m-k/\fz=(upd (upd f0 0 (.slice pa m ca)) 3 (.int .i64 k))/\lz=S++F) ?_ ?_
 . refine ⟨_,_,⟨_,0,⟨Nat.zero_le _,rfl⟩,rfl,U2,rfl⟩,Sa⟩
 rintro mz fz lz ⟨f0,k,⟨hk,hc⟩,hmz,rfl,rfl⟩
 subst mz
 refine Ts (TS ?_)
 iterate 4 refine Lz ?_
 refine Ld ?_
 refine yN rfl (λ hlt=>?_) (λ hlt=>?_)
 .
  obtain ⟨b,o,rfl,hr⟩:=hv.at (sz:=3) (λ _=>rfl) (by omega)
  obtain ⟨v,hx⟩ : ∃ v,l[k]? = some v:=⟨_,List.getElem?_eq_getElem (by omega)⟩
  have hd:l.drop k=v::l.drop (k+1):=by rw [List.drop_eq_getElem_cons (by omega),(List.getElem?_eq_some_iff.1 hx).2]
  rw [hd,chkX_cons] at hc
  have hsl:=hs v (List.mem_of_getElem? hx)
  by_cases k1:v.k=1
  .
   refine Tk (Ts (yH (TS ?_)))
   iterate 3 refine Lz ?_
   refine Lq (Qt.loadAggW [.int .i64 v.k,.int .i64 v.n,strW v.s] rfl (λ w ho=>hr k v hx w ho.drop)) ?_
   refine Le (El [.int .i64 0,.int .i64 0,.string .empty] (by unfold Zf;kernel_rfl) ?_)
   intro g4
   refine L0 (Es [_,_,_] rfl rfl rfl rfl (by simp) ?_)
   try simp only [splice,lC,lN,dS,cA,tS,tZ,dZ,nA,aN]
   refine Ld (Ts (TS ?_))
   iterate 4 refine Lz ?_
   refine yT (t:=18) rfl (decide_eq_false (by omega)) ?_
   iterate 5 refine Lz ?_
   refine yT (t:=23) rfl rfl ?_
   iterate 4 refine Lz ?_
   refine zQ (t:=27) rfl (decide_eq_true (by omega)) ?_
   iterate 2 refine Lz ?_
   refine Lq (Qt.neqS rfl rfl) ?_
   iterate 3 refine Lz ?_
   by_cases s1:v.s=[]
   .
    rw [chk1_ok (.inl ⟨k1,s1⟩),if_neg (by simp)] at hc
    refine yT (t:=33) rfl (decide_eq_false ((by simp [s1]))) ?_
    iterate 4 refine Lz ?_
    refine yT (t:=37) rfl (decide_eq_false (by omega)) ?_
    iterate 5 refine Lz ?_
    refine Ld (yQ rfl (Tk (TS ?_)))
    iterate 4 refine Lz ?_
    refine yT (t:=46) rfl (decide_eq_false (by omega)) ?_
    iterate 5 refine Lz ?_
    refine Ld (yQ rfl (Tk (TR ?_)))
    iterate 3 refine Lz ?_
    refine Ld ?_
    refine ⟨_,?_,_,⟨_,k+1,⟨by omega,hc⟩,rfl,U2,rfl⟩,Sa⟩
    omega
   rw [chk1_kind (v:=v) (λ q=>s1 q.2) (by omega),if_pos (by simp)] at hc
   refine zQ (t:=33) rfl (decide_eq_true ((by simp [s1]))) ?_
   iterate 9 refine Lz ?_
   refine Ld (zF rfl (TS (La rfl (Ld (T.ret ?_)))))
   exact ⟨.inl rfl,_,_,res [_] rfl ⟨rvT rfl,trivial⟩,⟨by rw [<-hc];rfl,rfl⟩,Sa⟩
  refine Tk (Ts (yH (TS ?_)))
  iterate 3 refine Lz ?_
  refine Lq (Qt.loadAggW [.int .i64 v.k,.int .i64 v.n,strW v.s] rfl (λ w ho=>hr k v hx w ho.drop)) ?_
  refine Le (El [.int .i64 0,.int .i64 0,.string .empty] (by unfold Zf;kernel_rfl) ?_)
  intro g4
  refine L0 (Es [_,_,_] rfl rfl rfl rfl (by simp) ?_)
  try simp only [splice,lC,lN,dS,cA,tS,tZ,dZ,nA,aN]
  refine Ld (Ts (TS ?_))
  iterate 4 refine Lz ?_
  refine zQ (t:=18) rfl (decide_eq_true (by omega)) ?_
  iterate 5 refine Lz ?_
  by_cases k2:v.k=2
  .
   refine yT (t:=23) rfl (decide_eq_false (by omega)) ?_
   iterate 4 refine Lz ?_
   refine yT (t:=27) rfl (decide_eq_false (by omega)) ?_
   iterate 6 refine Lz ?_
   refine yT (t:=33) rfl rfl ?_
   iterate 4 refine Lz ?_
   refine zQ (t:=37) rfl (decide_eq_true (by omega)) ?_
   iterate 5 refine Lz ?_
   refine Ld ?_
   by_cases n0:v.n=0
   .
    refine yL rfl (Tk (TS ?_))
    iterate 4 refine Lz ?_
    refine zQ (t:=46) rfl (decide_eq_true (by omega)) ?_
    iterate 5 refine Lz ?_
    refine Ld ?_
    refine yN rfl (λ s2=>?_) (λ s2=>?_)
    .
     rw [chk1_long k2 n0 (by omega),if_pos (by simp)] at hc
     refine TS (La rfl (Ld (T.ret ?_)))
     exact ⟨.inl rfl,_,_,res [_] rfl ⟨rvT rfl,trivial⟩,⟨by rw [<-hc];rfl,rfl⟩,Sa⟩
    rw [chk1_ok (.inr ⟨k2,n0,by omega⟩),if_neg (by simp)] at hc
    refine Tk (TR ?_)
    iterate 3 refine Lz ?_
    refine Ld ?_
    refine ⟨_,?_,_,⟨_,k+1,⟨by omega,hc⟩,rfl,U2,rfl⟩,Sa⟩
    omega
   rw [chk1_kind (v:=v) (λ q=>k1 q.1) (λ q=>n0 q.2),if_pos (by simp)] at hc
   refine zM rfl (TS (La rfl (Ld (T.ret ?_))))
   exact ⟨.inl rfl,_,_,res [_] rfl ⟨rvT rfl,trivial⟩,⟨by rw [<-hc];rfl,rfl⟩,Sa⟩
  rw [chk1_kind (v:=v) (λ q=>k1 q.1) (λ q=>k2 q.1),if_pos (by simp)] at hc
  refine zQ (t:=23) rfl (decide_eq_true (by omega)) ?_
  iterate 10 refine Lz ?_
  refine zQ (t:=33) rfl rfl ?_
  iterate 9 refine Lz ?_
  refine Ld (zF rfl (TS (La rfl (Ld (T.ret ?_)))))
  exact ⟨.inl rfl,_,_,res [_] rfl ⟨rvT rfl,trivial⟩,⟨by rw [<-hc];rfl,rfl⟩,Sa⟩
 obtain rfl:k=m:=by omega
 rw [List.drop_of_length_le (by omega)] at hc
 refine zB (TS (La rfl (Ld (T.ret ?_))))
 exact ⟨.inl rfl,_,_,res [_] rfl ⟨rvT rfl,trivial⟩,⟨by rw [<-hc];rfl,rfl⟩,Sa⟩
open Go.RowKit
theorem Rx.encode (B:Wn) (S:List Wp) (l:List Vx) (pa:Option Addr) (m ca:Nat) (hl:l.length=m) (hm:m<2^30) (hv:FlV B S vxC (.slice pa m ca) l) (hs : ∀ v∈l,v.s.length<2^40) (hrg : ∀ v∈l,-(2^63)<=v.n/\v.n<2^63) (hc:chkX l=0) :
  Fn Tryz.prog B 68 #[.slice pa m ca] S (λ u r=>u = .tuple #[strW (encL l),.int .i64 0]/\r=S):=by
 have hok:=chkX_zero hc hrg
 refine Wq 70 Tryz.func68 rfl rfl (nB rfl) (λ F=>?_)
 refine TS (La rfl (La rfl (Ld (TS (Lm rfl ?_)))))
 refine Le (Ec (Rx.check B S l pa m ca hl (by omega) hv hs) Tryz.func115 rfl rfl rfl ?_)
 rintro _ l2 ⟨rfl,hl2⟩
 rw [hl2,hc]
 clear hl2
 refine La rfl (Ld (Ts (TS (Lm rfl (Lq (yW rfl rfl) (Ld (yQ rfl (Tk (TS (La rfl (Ld (Ts (Ts ?_)))))))))))))
 refine TR (La rfl (Ld (yH ?_)))
 refine zG (λ mz fz lz => ∃ (f0:Fr) (k:Nat) (bs:List UInt8),(k<=m/\bs=encL (l.take k)/\bs.length<=131*k)/\mz=m-k/\fz=(upd (upd (upd f0 0 (.slice pa m ca)) 5 (strW bs)) 6 (.int .i64 k))/\lz=S++F) ?_ ?_
 . refine ⟨_,_,⟨_,0,[],⟨Nat.zero_le _,rfl,Nat.le_refl _⟩,rfl,U3,rfl⟩,Sa⟩
 rintro mz fz lz ⟨f0,k,bs,⟨hk,hbs,hbl⟩,hmz,rfl,rfl⟩
 subst mz
 refine Ts (TS ?_)
 iterate 4 refine Lz ?_
 refine Ld ?_
 refine yN rfl (λ hlt=>?_) (λ hlt=>?_)
 .
  obtain ⟨b,o,rfl,hr⟩:=hv.at (sz:=3) (λ _=>rfl) (by omega)
  obtain ⟨v,hx⟩ : ∃ v,l[k]? = some v:=⟨_,List.getElem?_eq_getElem (by omega)⟩
  have hvo:=hok v (List.mem_of_getElem? hx)
  have hvr:=hrg v (List.mem_of_getElem? hx)
  have hnx:=encL_next hx
  rw [<-hbs] at hnx
  by_cases k1:v.k=1
  .
   have hes:encX v=1::be (numX v.n) 8:=by unfold encX;rw [if_pos k1]
   have hnn:=numX_nat hvr.1 hvr.2
   refine Tk (Ts (yH (TS ?_)))
   iterate 3 refine Lz ?_
   refine Lq (Qt.loadAggW [.int .i64 v.k,.int .i64 v.n,strW v.s] rfl (λ w ho=>hr k v hx w ho.drop)) ?_
   refine Le (El [.int .i64 0,.int .i64 0,.string .empty] (by unfold Zf;kernel_rfl) ?_)
   intro g7
   refine L0 (Es [_,_,_] rfl rfl rfl rfl (by simp) ?_)
   try simp only [splice,lC,lN,dS,cA,tS,tZ,dZ,nA,aN]
   refine Ld (Ts (TS ?_))
   iterate 3 refine Lz ?_
   refine Ld (zM rfl (TS ?_))
   iterate 2 refine Lz ?_
   refine Lq (yX (k' := .u64) (r:=if v.n<0 then v.n+2^64 else v.n) rfl (by simp [IntKind.wrap,IntKind.bits,IntKind.signed];split <;> omega)) (La rfl (Ld (Ts (TS ?_))))
   iterate 3 refine Lz ?_
   refine Ld ?_
   refine yN rfl (λ neg=>?_) (λ neg=>?_)
   .
    rw [if_pos neg]
    refine TR (Lm rfl (Lq (Qt.sub (r:=((numX v.n).toNat:Int)) rfl rfl (by rw [hnn];simp [IntKind.wrap,IntKind.bits,IntKind.signed];omega)) (La rfl (Ld (TS (Lm rfl (Lm rfl ?_)))))))
    refine Le (Ec (Rc.number B (numX v.n) 8 8 rfl (by omega)) Tryz.func116 rfl rfl rfl ?_)
    rintro _ _ ⟨rfl,rfl⟩
    try simp only [cA,nA]
    refine Lq (Qt.addS (a:=[1]) (b:=be (numX v.n) 8) rfl rfl (by simp [Zd])) (Lq (Qt.addS (a:=bs) (b:=[1]++be (numX v.n) 8) rfl rfl (by simp [Zd];omega)) (La rfl (Ld (zB (TR ?_)))))
    iterate 3 refine Lz ?_
    refine Ld ?_
    refine ⟨_,?_,_,⟨_,k+1,bs++([1]++be (numX v.n) 8),⟨by omega,by rw [hnx,hes];rfl,by simp [Zd];omega⟩,rfl,U3,rfl⟩,Sa⟩
    omega
   rw [if_neg neg]
   refine TR (Lm rfl (Lq (Qd (r:=((numX v.n).toNat:Int)) rfl rfl (by rw [hnn];simp [IntKind.wrap,IntKind.bits,IntKind.signed];omega)) (La rfl (Ld (TS (Lm rfl (Lm rfl ?_)))))))
   refine Le (Ec (Rc.number B (numX v.n) 8 8 rfl (by omega)) Tryz.func116 rfl rfl rfl ?_)
   rintro _ _ ⟨rfl,rfl⟩
   try simp only [cA,nA]
   refine Lq (Qt.addS (a:=[1]) (b:=be (numX v.n) 8) rfl rfl (by simp [Zd])) (Lq (Qt.addS (a:=bs) (b:=[1]++be (numX v.n) 8) rfl rfl (by simp [Zd];omega)) (La rfl (Ld (zB (TR ?_)))))
   iterate 3 refine Lz ?_
   refine Ld ?_
   refine ⟨_,?_,_,⟨_,k+1,bs++([1]++be (numX v.n) 8),⟨by omega,by rw [hnx,hes];rfl,by simp [Zd];omega⟩,rfl,U3,rfl⟩,Sa⟩
   omega
  have hk2:v.k=2/\v.s.length<=64:=by rcases hvo with ⟨q,_⟩ | ⟨q,_,q2⟩;exact absurd q k1;exact ⟨q,q2⟩
  have hes:encX v=2::(escB v.s++[0,0]):=by unfold encX;rw [if_neg k1]
  refine Tk (Ts (yH (TS ?_)))
  iterate 3 refine Lz ?_
  refine Lq (Qt.loadAggW [.int .i64 v.k,.int .i64 v.n,strW v.s] rfl (λ w ho=>hr k v hx w ho.drop)) ?_
  refine Le (El [.int .i64 0,.int .i64 0,.string .empty] (by unfold Zf;kernel_rfl) ?_)
  intro g7
  refine L0 (Es [_,_,_] rfl rfl rfl rfl (by simp) ?_)
  try simp only [splice,lC,lN,dS,cA,tS,tZ,dZ,nA,aN]
  refine Ld (Ts (TS ?_))
  iterate 3 refine Lz ?_
  refine Ld (yL rfl (Tk (TS (Lm rfl (Lq (Qt.addS (a:=bs) (b:=[2]) rfl rfl (by simp;omega)) (La rfl (Ld (Ts (TS (La rfl (Ld (yH ?_))))))))))))
  refine zG (λ mz fz lz => ∃ (f0:Fr) (j:Nat) (bs2:List UInt8),(j<=v.s.length/\bs2=bs++[2]++escB (v.s.take j)/\bs2.length<=bs.length+1+2*j)/\mz=v.s.length-j/\fz=(upd (upd (upd (upd (upd f0 0 (.slice (some ⟨b,o,none⟩) m ca)) 5 (strW bs2)) 6 (.int .i64 k)) 7 (.pointer (some ⟨g7,0,none⟩))) 9 (.int .i64 j))/\lz=blk g7 [.int .i64 v.k,.int .i64 v.n,strW v.s] 125::S++F) ?_ ?_
  . refine ⟨_,_,⟨_,0,bs++[2],⟨Nat.zero_le _,by simp [escB],by simp⟩,rfl,U5,rfl⟩,Sa⟩
  rintro mz fz lz ⟨f0,j,bs2,⟨hj,hb2,hb2l⟩,hmz,rfl,rfl⟩
  subst mz
  try simp only [cA,nA]
  refine Ts (TS ?_)
  iterate 5 refine Lz ?_
  refine Ld ?_
  refine yN rfl (λ hlt2=>?_) (λ hlt2=>?_)
  .
   have hjs:j<v.s.length:=by omega
   have hen:=esc_next (s:=v.s) (j:=j) hjs
   refine Tk (Ts (yH (TS ?_)))
   iterate 6 refine Lz ?_
   refine Lq (Qt.sliceS j (j+1) [v.s[j]'hjs] rfl rfl rfl rfl (by rw [List.take_succ_eq_append_getElem hjs,List.drop_append_of_le_length (by simp;omega)];simp)) (Lq (Qt.addS (a:=bs2) (b:=[v.s[j]'hjs]) rfl rfl (by simp;omega)) (La rfl (Ld (TS ?_))))
   iterate 3 refine Lz ?_
   refine Lq (YR (a:=v.s) j rfl rfl rfl (by omega)) (Lq (yU rfl rfl) (Ld ?_))
   refine yN rfl (λ h0=>?_) (λ h0=>?_)
   .
    have hx0:v.s[j]'hjs=0:=by apply UInt8.toNat_inj.1;show (v.s[j]'hjs).toNat=0;omega
    rw [if_pos hx0] at hen
    refine TR (Lm rfl (Lq (Qt.addS (a:=bs2++[v.s[j]'hjs]) (b:=[255]) rfl rfl (by simp;omega)) (La rfl (Ld (TR ?_)))))
    iterate 3 refine Lz ?_
    refine Ld ?_
    refine ⟨_,?_,_,⟨_,j+1,bs2++[v.s[j]'hjs]++[255],⟨by omega,by rw [hen,hb2,hx0];simp,by simp;omega⟩,rfl,U5,rfl⟩,Sa⟩
    omega
   have hx0:v.s[j]'hjs≠0:=λ q=>h0 (by rw [q];rfl)
   rw [if_neg hx0] at hen
   refine Tk (TR ?_)
   iterate 3 refine Lz ?_
   refine Ld ?_
   refine ⟨_,?_,_,⟨_,j+1,bs2++[v.s[j]'hjs],⟨by omega,by rw [hen,hb2];simp,by simp;omega⟩,rfl,U5,rfl⟩,Sa⟩
   omega
  obtain rfl:j=v.s.length:=by omega
  rw [List.take_length] at hb2
  refine zB (TR (Lm rfl (Lq (Qt.addS (a:=bs2) (b:=[0,0]) rfl rfl (by simp;omega)) (La rfl (Ld (TR ?_))))))
  iterate 3 refine Lz ?_
  refine Ld ?_
  refine ⟨_,?_,_,⟨_,k+1,bs2++[0,0],⟨by omega,by rw [hnx,hes,hb2];simp,by simp;omega⟩,rfl,U3,rfl⟩,Sa⟩
  omega
 obtain rfl:k=m:=by omega
 rw [List.take_of_length_le (by omega)] at hbs
 refine zB (TS ?_)
 iterate 3 refine Lz ?_
 refine Ld (T.ret ?_)
 exact ⟨.inl rfl,_,_,res [_,_] rfl ⟨rvT rfl,rvT rfl,trivial⟩,⟨by rw [<-hbs];rfl,rfl⟩,Sa⟩
open Go.RowKit
theorem Rx.encodeNo (B:Wn) (S:List Wp) (l:List Vx) (pa:Option Addr) (m ca:Nat) (hl:l.length=m) (hm:m<2^30) (hv:FlV B S vxC (.slice pa m ca) l) (hs : ∀ v∈l,v.s.length<2^40) (hc:chkX l≠0) :
  Fn Tryz.prog B 68 #[.slice pa m ca] S (λ u r=>u = .tuple #[strW [],.int .i64 (chkX l)]/\r=S):=by
 refine Wq 70 Tryz.func68 rfl rfl (nB rfl) (λ F=>?_)
 refine TS (La rfl (La rfl (Ld (TS (Lm rfl ?_)))))
 refine Le (Ec (Rx.check B S l pa m ca hl (by omega) hv hs) Tryz.func115 rfl rfl rfl ?_)
 rintro _ _ ⟨rfl,rfl⟩
 refine La rfl (Ld (Ts (TS (Lm rfl (Lq (yW rfl rfl) (Ld (zM rfl (TS ?_))))))))
 iterate 3 refine Lz ?_
 refine Ld (T.ret ?_)
 exact ⟨.inl rfl,_,_,res [_,_] rfl ⟨rvT rfl,rvT rfl,trivial⟩,⟨rfl,rfl⟩,Sa⟩
theorem Rx.right (B:Wn) (f t:Int):Fn Tryz.prog B 67 #[.agg #[.int .i64 f,.int .i64 t]] [] (λ v l=>v = .bool (decide (rightP f t))/\l=[]):=by
 refine Wq 18 Tryz.func67 rfl rfl (nB rfl) (λ F=>?_)
 try simp only [cA,nA]
 refine TS ?_
 refine Le (zL [_,_] rfl rfl ?_)
 intro g1
 refine La rfl (Ld (TS ?_))
 iterate 4 refine Lz ?_
 refine zZ (t:=6) rfl (λ h1=>?_) (λ h1=>?_)
 .
  try replace h1:=of_decide_eq_true h1
  iterate 7 refine Lz ?_
  refine zZ (t:=13) rfl (λ h2=>?_) (λ h2=>?_)
  .
   try replace h2:=of_decide_eq_true h2
   iterate 5 refine Lz ?_
   refine Ld (T.ret ?_)
   exact ⟨.inl rfl,_,_,res [_] rfl ⟨rvT rfl,trivial⟩,⟨(by first | exact congrArg Value.bool (decide_eq_decide.2 (by unfold rightP;omega)) | exact congrArg Value.bool (decide_eq_false (by unfold rightP;omega)).symm),rfl⟩,Sa⟩
  try replace h2:=of_decide_eq_false h2
  iterate 5 refine Lz ?_
  refine Ld (T.ret ?_)
  exact ⟨.inl rfl,_,_,res [_] rfl ⟨rvT rfl,trivial⟩,⟨(by first | exact congrArg Value.bool (decide_eq_decide.2 (by unfold rightP;omega)) | exact congrArg Value.bool (decide_eq_false (by unfold rightP;omega)).symm),rfl⟩,Sa⟩
 try replace h1:=of_decide_eq_false h1
 iterate 7 refine Lz ?_
 refine yT (t:=13) rfl rfl ?_
 iterate 5 refine Lz ?_
 refine Ld (T.ret ?_)
 exact ⟨.inl rfl,_,_,res [_] rfl ⟨rvT rfl,trivial⟩,⟨(by first | exact congrArg Value.bool (decide_eq_decide.2 (by unfold rightP;omega)) | exact congrArg Value.bool (decide_eq_false (by unfold rightP;omega)).symm),rfl⟩,Sa⟩
theorem Rx.record (B:Wn) (S:List Wp) (t:Int) (f:Fx1) (ra:Option Addr) (m rc:Nat) (hl:f.row.length=m) (hv:FlV B S vxC (.slice ra m rc) f.row) (hf:FxRd f) (ht : -(2^63)<=t/\t<2^63) :
  Fn Tryz.prog B 27 #[.int .i64 t,factV ra m rc f] S (λ u r=>u = .tuple #[strW (recD t f),.int .i64 (recE t f)]/\r=S):=by
 have hml:=hf.len
 have hvl:=vals_len (t:=t) (f:=f)
 obtain ⟨hs,hn⟩:=hf.vals ht
 have hrc:recE t f=if t<0 then 1 else if ¬ rightP f.fr f.to then 40 else if chkX f.row≠0 then chkX f.row else if 184<(encL (valsF t f)).length then 2 else 0:=rfl
 have hrD:recE t f≠0->recD t f=[]:=λ q=>by unfold recD;rw [if_neg q]
 refine Wr 41 Tryz.func27 rfl rfl (nB rfl) (λ F=>?_)
 refine TS ?_
 refine Le (zL [_,_,_] rfl rfl ?_)
 intro g3
 refine La rfl (La rfl (Ld (Ts (TS (Lm rfl (Lq (yM rfl rfl) (Ld ?_)))))))
 refine yN rfl (λ h1=>?_) (λ h1=>?_)
 .
  rw [if_pos h1] at hrc
  refine TS (La rfl (La rfl (Ld (T.ret ?_))))
  exact ⟨.inl rfl,_,_,res [_,_] rfl ⟨rvT rfl,rvT rfl,trivial⟩,⟨by rw [hrD (by omega),hrc];rfl,rfl⟩,Sa⟩
 refine Tk (Ts (TS ?_))
 iterate 2 refine Lz ?_
 refine Le (Ec (Rx.right B f.fr f.to) Tryz.func67 rfl rfl rfl ?_)
 rintro _ _ ⟨rfl,rfl⟩
 try simp only [cA,nA]
 by_cases h2:rightP f.fr f.to
 .
  rw [decide_eq_true h2]
  refine Lq (Y2 rfl) (Ld (yQ rfl (Tk (TS (Lm rfl (Lq (z8 [(0,1),(1,1),(2,1)] [.int .i64 0,.int .i64 0,.string .empty] [_,_,_] [(0,_),(1,_)] (by unfold Zf;kernel_rfl) rfl rfl) ?_))))))
  iterate 3 refine Lz ?_
  refine Lq (z8 [(0,1),(1,1),(2,1)] [.int .i64 0,.int .i64 0,.string .empty] [_,_,_] [(0,_),(1,_)] (by unfold Zf;kernel_rfl) rfl rfl) ?_
  iterate 3 refine Lz ?_
  refine Lq (z8 [(0,1),(1,1),(2,1)] [.int .i64 0,.int .i64 0,.string .empty] [_,_,_] [(0,_),(1,_)] (by unfold Zf;kernel_rfl) rfl rfl) ?_
  refine Le (Ef.lits (e:=125) (sz:=3) [_,_,_] [.int .i64 1,.int .i64 t,strW [],.int .i64 1,.int .i64 f.fr,strW [],.int .i64 1,.int .i64 f.to,strW []] rfl (by simp [Value.cells]) rfl rfl ?_)
  intro gh
  refine LW.conv (l':=vxR (some ⟨gh,0,none⟩) 3 3 (headX t f.fr f.to)::_) (λ w ho=>ho.blk_row (sz:=3) (n:=3) rfl (by unfold maxLen;omega)) (La rfl (Ld (TS ?_)))
  iterate 3 refine Lz ?_
  refine Le (Ea Cx.elemX rfl rfl (SrcOf.flV (hv.mono (λ w ho=>ho.map Sa)) hl (λ _=>rfl) (by kernel_rfl) one_vxC) (by unfold maxLen;omega) ?_)
  rintro p1 c1 hp1
  try simp only [cA,nA]
  rw [<-List.flatMap_append,headX_vals]
  by_cases h3:chkX f.row=0
  .
   have hc:chkX (valsF t f)=0:=(chk_head t f.fr f.to f.row).trans h3
   have hel:=(encL_len (chkX_zero hc hn)).2
   refine Le (Ec (Rx.encode B [vxR p1 (3+m) c1 (valsF t f)] (valsF t f) p1 (3+m) c1 (by omega) (by omega) (FlV.row (λ _=>rfl) (by omega) (by omega) hp1) hs hn hc) Tryz.func68 rfl rfl rfl ?_)
   rintro _ _ ⟨rfl,rfl⟩
   try simp only [cA,nA]
   iterate 5 refine Lz ?_
   refine Ld (Ts (TS (Lm rfl (Lq (yW rfl rfl) (Ld (yQ rfl ?_))))))
   rw [if_neg h1,if_neg (by simpa using h2),if_neg (by simpa using h3)] at hrc
   refine Tk (Ts (TS ?_))
   iterate 3 refine Lz ?_
   refine Ld ?_
   refine yN rfl (λ h4=>?_) (λ h4=>?_)
   .
    rw [if_pos (by omega)] at hrc
    refine TS (La rfl (La rfl (Ld (T.ret ?_))))
    exact ⟨.inl rfl,_,_,res [_,_] rfl ⟨rvT rfl,rvT rfl,trivial⟩,⟨by rw [hrD (by omega),hrc];rfl,rfl⟩,Sa⟩
   rw [if_neg (by omega)] at hrc
   refine Tk (TS ?_)
   iterate 3 refine Lz ?_
   refine Ld (T.ret ?_)
   exact ⟨.inl rfl,_,_,res [_,_] rfl ⟨rvT rfl,rvT rfl,trivial⟩,⟨by rw [hrc,show recD t f=encL (valsF t f) by unfold recD;rw [if_pos hrc]];rfl,rfl⟩,Sa⟩
  have hc:chkX (valsF t f)≠0:=λ q=>h3 ((chk_head t f.fr f.to f.row).symm.trans q)
  refine Le (Ec (Rx.encodeNo B [vxR p1 (3+m) c1 (valsF t f)] (valsF t f) p1 (3+m) c1 (by omega) (by omega) (FlV.row (λ _=>rfl) (by omega) (by omega) hp1) hs hc) Tryz.func68 rfl rfl rfl ?_)
  rintro _ _ ⟨rfl,rfl⟩
  try simp only [cA,nA]
  iterate 5 refine Lz ?_
  refine Ld (Ts (TS (Lm rfl (Lq (yW rfl rfl) (Ld ?_)))))
  rw [if_neg h1,if_neg (by simpa using h2),if_pos h3] at hrc
  refine zM rfl (TS ?_)
  iterate 3 refine Lz ?_
  refine Ld (T.ret ?_)
  exact ⟨.inl rfl,_,_,res [_,_] rfl ⟨rvT rfl,rvT rfl,trivial⟩,⟨by rw [hrD (by rw [hrc];exact h3),hrc,show chkX (valsF t f)=chkX f.row from chk_head t f.fr f.to f.row];rfl,rfl⟩,Sa⟩
 rw [decide_eq_false h2]
 rw [if_neg h1,if_pos h2] at hrc
 refine Lq (Y2 rfl) (Ld (zF rfl (TS (La rfl (La rfl (Ld (T.ret ?_)))))))
 exact ⟨.inl rfl,_,_,res [_,_] rfl ⟨rvT rfl,rvT rfl,trivial⟩,⟨by rw [hrD (by omega),hrc];rfl,rfl⟩,Sa⟩
open Go.RowKit
structure HrQ where
 pv:Option Addr
 cv:Nat
 pa:Option Addr
 ca:Nat
 pc:Option Addr
 cc:Nat
 pe:Option Addr
 ce:Nat
abbrev vrC (v:Ver):List Value:=[.int .i64 v.page,.int .i64 v.slot,.int .i64 v.beg,.int .i64 v.fin,strW v.data]
abbrev verR (p:Option Addr) (n c:Nat) (l:List Ver):Wp:=row (.slice p n c) 123 5 n (l.flatMap vrC)
abbrev acR (p:Option Addr) (n c:Nat) (l:List Int):Wp:=row (.slice p n c) 2 1 n (l.map zV)
abbrev c8R (p:Option Addr) (n c:Nat) (l:List (Int×Int)):Wp:=row (.slice p n c) 115 2 n (l.flatMap stC)
abbrev e8C (e:En):List Value:=[.int .i64 e.kind,.int .i64 e.txn,.int .i64 e.page,.int .i64 e.slot,.int .i64 e.stamp,strW e.data]
abbrev e8R (p:Option Addr) (n c:Nat) (l:List En):Wp:=row (.slice p n c) 104 6 n (l.flatMap e8C)
abbrev hrC (q:HrQ) (h:HR):List Value:=[.int .i64 h.pages,.int .i64 h.room,.int .i64 h.used,.slice q.pv h.vs.length q.cv,.slice q.pa h.act.length q.ca,.slice q.pc h.cm.length q.cc,.int .i64 h.last,.slice q.pe h.es.length q.ce]
abbrev hrV (q:HrQ) (h:HR):Value := .agg #[.int .i64 h.pages,.int .i64 h.room,.int .i64 h.used,.slice q.pv h.vs.length q.cv,.slice q.pa h.act.length q.ca,.slice q.pc h.cm.length q.cc,.int .i64 h.last,.slice q.pe h.es.length q.ce]
abbrev hrL (q:HrQ) (h:HR):List Wp:=[verR q.pv h.vs.length q.cv h.vs,acR q.pa h.act.length q.ca h.act,c8R q.pc h.cm.length q.cc h.cm,e8R q.pe h.es.length q.ce h.es]
theorem Hr.elemV : ElemOk Tryz.prog 28 123 5 48 := .mk' (.agg #[.int .i64 0,.int .i64 0,.int .i64 0,.int .i64 0,.string ⟨#[]⟩]) Tryz.underlying28 (by kernel_rfl) rfl (by omega)
theorem Hr.elemA : ElemOk Tryz.prog 29 2 1 8 := .mk' (.int .i64 0) Tryz.underlying29 (by kernel_rfl) rfl (by omega)
theorem Hr.elemC : ElemOk Tryz.prog 30 115 2 16 := .mk' (.agg #[.int .i64 0,.int .i64 0]) Tryz.underlying30 (by kernel_rfl) rfl (by omega)
theorem Hr.elemE : ElemOk Tryz.prog 31 104 6 56 := .mk' (.agg #[.int .i64 0,.int .i64 0,.int .i64 0,.int .i64 0,.int .i64 0,.string ⟨#[]⟩]) Tryz.underlying31 (by kernel_rfl) rfl (by omega)
theorem one_vrC {l:List Ver} : ∀ v∈l.flatMap vrC,v.oneCell'=true:=by
 intro v hv
 obtain ⟨x,_,h⟩:=List.mem_flatMap.1 hv
 simp at h
 rcases h with rfl | rfl | rfl | rfl | rfl <;> rfl
theorem one_e8C {l:List En} : ∀ v∈l.flatMap e8C,v.oneCell'=true:=by
 intro v hv
 obtain ⟨x,_,h⟩:=List.mem_flatMap.1 hv
 simp at h
 rcases h with rfl | rfl | rfl | rfl | rfl | rfl <;> rfl
theorem one_zV {l:List Int} : ∀ v∈l.map zV,v.oneCell'=true:=by
 intro v hv
 obtain ⟨x,_,rfl⟩:=List.mem_map.1 hv
 rfl
structure HrS (h:HR) (m:Nat):Prop where
 v:h.vs.length<=m
 a:h.act.length<=m
 c:h.cm.length<=m
 e:h.es.length<=m
theorem Hr.copied (B:Wn) (q:HrQ) (h:HR) (m:Nat) (hs:HrS h m) (hm:m<2^32):Fn Tryz.prog B 59 #[hrV q h] (hrL q h) (λ u l => ∃ q',u=hrV q' h/\l=hrL q' h++hrL q h):=by
 obtain ⟨s1,s2,s3,s4⟩:=hs
 refine Wq 24 Tryz.func59 rfl rfl (nB rfl) (λ F=>?_)
 try simp only [cA,nA]
 refine TS ?_
 refine Le (zL [_,_,_,_,_,_,_,_] rfl rfl ?_)
 intro g1
 refine Le (El [.int .i64 0,.int .i64 0,.int .i64 0,.slice none 0 0,.slice none 0 0,.slice none 0 0,.int .i64 0,.slice none 0 0] (by unfold Zf;kernel_rfl) ?_)
 intro g2
 refine Ld (TS ?_)
 refine Le (Y8 Hr.elemV ?_)
 rintro g3
 iterate 2 refine Lz ?_
 refine Le (Ea Hr.elemV rfl rfl (SrcOf.row (by kernel_rfl) one_vrC) (by unfold maxLen;omega) ?_)
 rintro p1 c1 hp1
 try simp only [cA,nA]
 simp only [Nat.zero_add,List.nil_append]
 refine Lq (Qf (off:=3) rfl) ?_
 refine L0 (E1 (by kernel_rfl) rfl rfl rfl (by first | (simp;done) | (simp;omega)) ?_)
 try simp only [List.set_cons_zero,List.set_cons_succ]
 refine Ld (TS ?_)
 refine Le (Y8 Hr.elemA ?_)
 rintro g8
 iterate 2 refine Lz ?_
 refine Le (Ea Hr.elemA rfl rfl (SrcOf.row (by kernel_rfl) one_zV) (by unfold maxLen;omega) ?_)
 rintro p2 c2 hp2
 try simp only [cA,nA]
 simp only [Nat.zero_add,List.nil_append]
 refine Lq (Qf (off:=4) rfl) ?_
 refine L0 (E1 (by kernel_rfl) rfl rfl rfl (by first | (simp;done) | (simp;omega)) ?_)
 try simp only [List.set_cons_zero,List.set_cons_succ]
 refine Ld (TS ?_)
 refine Le (Y8 Hr.elemC ?_)
 rintro g13
 iterate 2 refine Lz ?_
 refine Le (Ea Hr.elemC rfl rfl (SrcOf.row (by kernel_rfl) one_stC) (by unfold maxLen;omega) ?_)
 rintro p3 c3 hp3
 try simp only [cA,nA]
 simp only [Nat.zero_add,List.nil_append]
 refine Lq (Qf (off:=5) rfl) ?_
 refine L0 (E1 (by kernel_rfl) rfl rfl rfl (by first | (simp;done) | (simp;omega)) ?_)
 try simp only [List.set_cons_zero,List.set_cons_succ]
 refine Ld (TS ?_)
 refine Le (Y8 Hr.elemE ?_)
 rintro g18
 iterate 2 refine Lz ?_
 refine Le (Ea Hr.elemE rfl rfl (SrcOf.row (by kernel_rfl) one_e8C) (by unfold maxLen;omega) ?_)
 rintro p4 c4 hp4
 try simp only [cA,nA]
 simp only [Nat.zero_add,List.nil_append]
 refine Lq (Qf (off:=7) rfl) ?_
 refine L0 (E1 (by kernel_rfl) rfl rfl rfl (by first | (simp;done) | (simp;omega)) ?_)
 try simp only [List.set_cons_zero,List.set_cons_succ]
 refine Ld (TS ?_)
 refine Lz ?_
 refine L0 (Es [_,_,_,_,_,_,_,_] rfl rfl rfl rfl (by simp) ?_)
 try simp only [splice,lC,lN,dS,cA,tS,tZ,dZ,nA,aN]
 refine Ld (T.ret ?_)
 exact ⟨.inl rfl,_,_,res [_] rfl ⟨rvA [_,_,_,_,_,_,_,_] rfl ⟨rfl,rfl,rfl,rfl,rfl,rfl,rfl,rfl,trivial⟩,trivial⟩,⟨⟨p1,c1,p2,c2,p3,c3,p4,c4⟩,rfl,rfl⟩,Sa⟩
theorem act_no {h:HR} {t:Int} (hno : ∀ x∈h.act,x≠t):Zp h t=false:=by
 rw [Bool.eq_false_iff]
 intro e
 exact hno t (isAct_iff.1 e) rfl
theorem take_step {α:Type} {l:List α} {i:Nat} {x:α} (hi:i<l.length) (hx:l[i]=x) {p:α->Prop} (h : ∀ y∈l.take i,p y) (hp:p x) : ∀ y∈l.take (i+1),p y:=by
 rw [List.take_succ_eq_append_getElem hi,hx]
 intro y hy
 rcases List.mem_append.1 hy with hy | hy
 . exact h y hy
 . simp at hy;rw [hy];exact hp
theorem Hr.isActive (B:Wn) (q:HrQ) (h:HR) (t:Int) (hb:h.act.length<2^40:=by omega):Fn Tryz.prog B 71 #[hrV q h,.int .i64 t] (hrL q h) (λ u l=>u = .bool (Zp h t)/\l=hrL q h):=by
 obtain ⟨pv,cv,pa,ca,pc,cc,pe,ce⟩:=q
 dsimp only [hrV,hrL]
 refine Wr 20 Tryz.func71 rfl rfl (nB rfl) (λ F=>?_)
 try simp only [cA,nA]
 refine T.own λ w ho=>?_
 have hp:0<h.act.length -> ∃ g,pa=some ⟨g,0,none⟩:=((ho.map Sa:Own B w [acR pa h.act.length ca h.act]).slice_at (p:=pa) (m:=h.act.length) (c:=ca)).2.1
 clear ho
 refine TS ?_
 refine Le (zL [_,_,_,_,_,_,_,_] rfl rfl ?_)
 intro g2
 refine La rfl (Ld (Ts (TS (La rfl (Ld (yH ?_))))))
 refine zG (λ mz fz lz => ∃ (f0:Fr) (i:Nat),(i<=h.act.length /\ ∀ x∈h.act.take i,x≠t)/\mz=h.act.length-i/\fz=(upd (upd (upd f0 1 (.int .i64 t)) 2 (.pointer (some ⟨g2,0,none⟩))) 5 (.int .i64 i))/\lz=blk g2 (hrC ⟨pv,cv,pa,ca,pc,cc,pe,ce⟩ h) 33::hrL ⟨pv,cv,pa,ca,pc,cc,pe,ce⟩ h++F) ?_ ?_
 . refine ⟨_,_,⟨_,0,⟨Nat.zero_le _,by simp⟩,rfl,U3,rfl⟩,Sa⟩
 rintro mz fz lz ⟨f0,i,⟨hi,hno⟩,hmz,rfl,rfl⟩
 subst mz
 try simp only [cA,nA]
 refine Ts (TS ?_)
 iterate 5 refine Lz ?_
 refine Ld ?_
 refine yN rfl (λ hlt=>?_) (λ hlt=>?_)
 .
  obtain ⟨g,rfl⟩:=hp (by omega)
  obtain ⟨x,hx⟩ : ∃ x,h.act[i]'(by omega)=x:=⟨_,rfl⟩
  refine Tk (Ts (yH (TS ?_)))
  iterate 4 refine Lz ?_
  refine Lq (Ql (v:=zV x) rfl (by rw [map_at _ _ _ (by omega),hx])) (Lm rfl (Lq (yU rfl rfl) (Ld ?_)))
  refine yN rfl (λ he=>?_) (λ he=>?_)
  .
   refine TS (La rfl (Ld (T.ret ?_)))
   exact ⟨.inl rfl,_,_,res [_] rfl ⟨rvT rfl,trivial⟩,⟨by rw [isAct_iff.2 (by rw [<-he,<-hx];exact List.getElem_mem _)];rfl,rfl⟩,Sa⟩
  refine Tk (TR ?_)
  iterate 3 refine Lz ?_
  refine Ld ?_
  refine ⟨_,?_,_,⟨_,i+1,⟨by omega,take_step (by omega) hx hno he⟩,rfl,U3,rfl⟩,Sa⟩
  omega
 rw [List.take_of_length_le (by omega)] at hno
 refine zB (TS (La rfl (Ld (T.ret ?_))))
 exact ⟨.inl rfl,_,_,res [_] rfl ⟨rvT rfl,trivial⟩,⟨by rw [act_no hno];rfl,rfl⟩,Sa⟩
theorem Hr.isCommitted (B:Wn) (q:HrQ) (h:HR) (t:Int) (hb:h.cm.length<2^40:=by omega):Fn Tryz.prog B 72 #[hrV q h,.int .i64 t] (hrL q h) (λ u l=>u = .bool (Wa h t)/\l=hrL q h):=by
 obtain ⟨pv,cv,pa,ca,pc,cc,pe,ce⟩:=q
 dsimp only [hrV,hrL]
 refine Wr 21 Tryz.func72 rfl rfl (nB rfl) (λ F=>?_)
 try simp only [cA,nA]
 refine T.own λ w ho=>?_
 have hp:0<h.cm.length -> ∃ g,pc=some ⟨g,0,none⟩:=((ho.map Sa:Own B w [c8R pc h.cm.length cc h.cm]).slice_at (p:=pc) (m:=h.cm.length) (c:=cc)).2.1
 clear ho
 refine TS ?_
 refine Le (zL [_,_,_,_,_,_,_,_] rfl rfl ?_)
 intro g2
 refine La rfl (Ld (Ts (TS (La rfl (Ld (yH ?_))))))
 refine zG (λ mz fz lz => ∃ (f0:Fr) (i:Nat),(i<=h.cm.length /\ ∀ x∈h.cm.take i,x.1≠t)/\mz=h.cm.length-i/\fz=(upd (upd (upd f0 1 (.int .i64 t)) 2 (.pointer (some ⟨g2,0,none⟩))) 5 (.int .i64 i))/\lz=blk g2 (hrC ⟨pv,cv,pa,ca,pc,cc,pe,ce⟩ h) 33::hrL ⟨pv,cv,pa,ca,pc,cc,pe,ce⟩ h++F) ?_ ?_
 . refine ⟨_,_,⟨_,0,⟨Nat.zero_le _,by simp⟩,rfl,U3,rfl⟩,Sa⟩
 rintro mz fz lz ⟨f0,i,⟨hi,hno⟩,hmz,rfl,rfl⟩
 subst mz
 try simp only [cA,nA]
 refine Ts (TS ?_)
 iterate 5 refine Lz ?_
 refine Ld ?_
 refine yN rfl (λ hlt=>?_) (λ hlt=>?_)
 .
  obtain ⟨g,rfl⟩:=hp (by omega)
  obtain ⟨x,hx⟩ : ∃ x,h.cm[i]'(by omega)=x:=⟨_,rfl⟩
  refine Tk (Ts (yH (TS ?_)))
  iterate 5 refine Lz ?_
  refine Lq (Ql (v:=zV x.1) rfl (flat_cell0 stC 2 h.cm (λ _ _=>rfl) i (by omega) (by rw [hx];rfl))) (Lm rfl (Lq (yU rfl rfl) (Ld ?_)))
  refine yN rfl (λ he=>?_) (λ he=>?_)
  .
   refine TS (La rfl (Ld (T.ret ?_)))
   exact ⟨.inl rfl,_,_,res [_] rfl ⟨rvT rfl,trivial⟩,⟨by rw [isCm_iff.2 ⟨x.2,by rw [<-he,<-hx];exact List.getElem_mem _⟩];rfl,rfl⟩,Sa⟩
  refine Tk (TR ?_)
  iterate 3 refine Lz ?_
  refine Ld ?_
  refine ⟨_,?_,_,⟨_,i+1,⟨by omega,take_step (by omega) hx hno he⟩,rfl,U3,rfl⟩,Sa⟩
  omega
 rw [List.take_of_length_le (by omega)] at hno
 refine zB (TS (La rfl (Ld (T.ret ?_))))
 exact ⟨.inl rfl,_,_,res [_] rfl ⟨rvT rfl,trivial⟩,⟨by rw [isCm_no.2 (λ s hs=>hno _ hs rfl)];rfl,rfl⟩,Sa⟩
theorem find_at {vs:List Ver} {i:Nat} {p s:Int} (hi:i<vs.length) (h : ∀ y∈vs.take i,atP p s y=false) (hx:atP p s vs[i]=true):We vs p s=some i:=by
 unfold We
 rw [List.findIdx?_eq_some_iff_getElem]
 refine ⟨hi,hx,λ j hj=>?_⟩
 have:=h vs[j] (by rw [List.mem_take_iff_getElem];exact ⟨j,by omega,rfl⟩)
 simpa using this
theorem find_no {vs:List Ver} {p s:Int} (h : ∀ y∈vs,atP p s y=false):We vs p s=none:=by
 unfold We
 rw [List.findIdx?_eq_none_iff]
 exact h
abbrev idxN (o:Option Nat):Int:=match o with | some i=>i | none => -1
theorem Hr.find (B:Wn) (q:HrQ) (h:HR) (p s:Int) (hb:h.vs.length<2^40):Fn Tryz.prog B 60 #[hrV q h,.int .i64 p,.int .i64 s] (hrL q h) (λ u l=>u = .int .i64 (idxN (We h.vs p s))/\l=hrL q h):=by
 obtain ⟨pv,cv,pa,ca,pc,cc,pe,ce⟩:=q
 dsimp only [hrV,hrL]
 refine Ws 34 Tryz.func60 rfl rfl (nB rfl) (λ F=>?_)
 try simp only [cA,nA]
 refine T.own λ w ho=>?_
 have hp:0<h.vs.length -> ∃ g,pv=some ⟨g,0,none⟩:=((ho.map Sa:Own B w [verR pv h.vs.length cv h.vs]).slice_at (p:=pv) (m:=h.vs.length) (c:=cv)).2.1
 clear ho
 refine TS ?_
 refine Le (zL [_,_,_,_,_,_,_,_] rfl rfl ?_)
 intro g3
 refine La rfl (Ld (Ts (TS (La rfl (Ld (yH ?_))))))
 refine zG (λ mz fz lz => ∃ (f0:Fr) (i:Nat),(i<=h.vs.length /\ ∀ x∈h.vs.take i,atP p s x=false)/\mz=h.vs.length-i/\fz=(upd (upd (upd (upd f0 1 (.int .i64 p)) 2 (.int .i64 s)) 3 (.pointer (some ⟨g3,0,none⟩))) 7 (.int .i64 i))/\lz=blk g3 (hrC ⟨pv,cv,pa,ca,pc,cc,pe,ce⟩ h) 33::hrL ⟨pv,cv,pa,ca,pc,cc,pe,ce⟩ h++F) ?_ ?_
 . refine ⟨_,_,⟨_,0,⟨Nat.zero_le _,by simp⟩,rfl,U4,rfl⟩,Sa⟩
 rintro mz fz lz ⟨f0,i,⟨hi,hno⟩,hmz,rfl,rfl⟩
 subst mz
 try simp only [cA,nA]
 refine Ts (TS ?_)
 iterate 5 refine Lz ?_
 refine Ld ?_
 refine yN rfl (λ hlt=>?_) (λ hlt=>?_)
 .
  obtain ⟨g,rfl⟩:=hp (by omega)
  obtain ⟨x,hx⟩ : ∃ x,h.vs[i]'(by omega)=x:=⟨_,rfl⟩
  refine Tk (Ts (yH (TS ?_)))
  iterate 5 refine Lz ?_
  refine Lq (Ql (v := .int .i64 x.page) rfl (flat_cell0 vrC 5 h.vs (λ _ _=>rfl) i (by omega) (by rw [hx];rfl))) ?_
  iterate 3 refine Lz ?_
  refine zZ (t:=23) rfl (λ h1=>?_) (λ h1=>?_)
  .
   try replace h1:=of_decide_eq_true h1
   iterate 5 refine Lz ?_
   refine Lq (Ql (v := .int .i64 x.slot) rfl (flat_cell vrC 5 h.vs (λ _ _=>rfl) i 1 (by omega) (by rw [hx];rfl))) ?_
   iterate 3 refine Lz ?_
   refine Ld ?_
   refine yN rfl (λ h2=>?_) (λ h2=>?_)
   .
    refine TS (Lm rfl (La rfl (Ld (T.ret ?_))))
    exact ⟨.inl rfl,_,_,res [_] rfl ⟨rvT rfl,trivial⟩,⟨by rw [find_at (by omega) hno (by rw [hx];simp [atP,h1,h2])];rfl,rfl⟩,Sa⟩
   refine Tk (TR ?_)
   iterate 3 refine Lz ?_
   refine Ld ?_
   refine ⟨_,?_,_,⟨_,i+1,⟨by omega,take_step (by omega) hx hno (by simp [atP,h1,h2])⟩,rfl,U4,rfl⟩,Sa⟩
   omega
  try replace h1:=of_decide_eq_false h1
  iterate 9 refine Lz ?_
  refine Ld (yQ rfl (Tk (TR ?_)))
  iterate 3 refine Lz ?_
  refine Ld ?_
  refine ⟨_,?_,_,⟨_,i+1,⟨by omega,take_step (by omega) hx hno (by simp [atP,h1])⟩,rfl,U4,rfl⟩,Sa⟩
  omega
 rw [List.take_of_length_le (by omega)] at hno
 refine zB (TS (La rfl (Ld (T.ret ?_))))
 exact ⟨.inl rfl,_,_,res [_] rfl ⟨rvT rfl,trivial⟩,⟨by rw [find_no hno];rfl,rfl⟩,Sa⟩
open Go.RowKit
theorem stampL_at {cm:List (Int×Int)} {i:Nat} {x:Int×Int} (hx:cm[i]? = some x) {t:Int} (ht:x.1=t) (hno : ∀ y∈cm.take i,y.1≠t):stampL cm t=x.2:=by
 obtain ⟨hi,he⟩:=List.getElem?_eq_some_iff.1 hx
 have h1:cm=cm.take i++x::cm.drop (i+1):=by
  conv=>lhs;rw [<-List.take_append_drop i cm,drop_one hx]
 unfold stampL
 rw [h1,List.find?_append]
 have:(cm.take i).find? (λ c=>decide (c.1=t))=none:=by
  rw [List.find?_eq_none]
  intro y hy
  simpa using hno y hy
 rw [this,List.find?_cons_of_pos (by simpa using ht)]
 rfl
theorem Hr.stamp (B:Wn) (q:HrQ) (h:HR) (t:Int) (hb:h.cm.length<2^40):Fn Tryz.prog B 33 #[hrV q h,.int .i64 t] (hrL q h) (λ u l=>u = .int .i64 (stampR h t)/\l=hrL q h):=by
 obtain ⟨pv,cv,pa,ca,pc,cc,pe,ce⟩:=q
 dsimp only [hrV,hrL]
 refine Wr 27 Tryz.func33 rfl rfl (nB rfl) (λ F=>?_)
 try simp only [cA,nA]
 refine T.own λ w ho=>?_
 have hp:0<h.cm.length -> ∃ g,pc=some ⟨g,0,none⟩:=((ho.map Sa:Own B w [c8R pc h.cm.length cc h.cm]).slice_at (p:=pc) (m:=h.cm.length) (c:=cc)).2.1
 clear ho
 refine TS ?_
 refine Le (zL [_,_,_,_,_,_,_,_] rfl rfl ?_)
 intro g2
 refine La rfl (Ld (Ts (TS (La rfl (Ld (yH ?_))))))
 refine zG (λ mz fz lz => ∃ (f0:Fr) (i:Nat),(i<=h.cm.length /\ ∀ x∈h.cm.take i,x.1≠t)/\mz=h.cm.length-i/\fz=(upd (upd (upd f0 1 (.int .i64 t)) 2 (.pointer (some ⟨g2,0,none⟩))) 5 (.int .i64 i))/\lz=blk g2 (hrC ⟨pv,cv,pa,ca,pc,cc,pe,ce⟩ h) 33::hrL ⟨pv,cv,pa,ca,pc,cc,pe,ce⟩ h++F) ?_ ?_
 . refine ⟨_,_,⟨_,0,⟨Nat.zero_le _,by simp⟩,rfl,U3,rfl⟩,Sa⟩
 rintro mz fz lz ⟨f0,i,⟨hi,hno⟩,hmz,rfl,rfl⟩
 subst mz
 try simp only [cA,nA]
 refine Ts (TS ?_)
 iterate 5 refine Lz ?_
 refine Ld ?_
 refine yN rfl (λ hlt=>?_) (λ hlt=>?_)
 .
  obtain ⟨g,rfl⟩:=hp (by omega)
  obtain ⟨x,hx⟩ : ∃ x,h.cm[i]? = some x:=⟨_,List.getElem?_eq_getElem (by omega)⟩
  obtain ⟨hil,hie⟩:=List.getElem?_eq_some_iff.1 hx
  refine Tk (Ts (yH (TS ?_)))
  iterate 5 refine Lz ?_
  refine Lq (Ql (v := .int .i64 x.1) rfl (flat_cell0 stC 2 h.cm (λ _ _=>rfl) i hil (by rw [hie];rfl))) (Lm rfl (Lq (yU rfl rfl) (Ld ?_)))
  refine yN rfl (λ he=>?_) (λ he=>?_)
  .
   refine TS ?_
   iterate 5 refine Lz ?_
   refine Lq (Ql (v := .int .i64 x.2) rfl (flat_cell stC 2 h.cm (λ _ _=>rfl) i 1 hil (by rw [hie];rfl))) (La rfl (Ld (T.ret ?_)))
   exact ⟨.inl rfl,_,_,res [_] rfl ⟨rvT rfl,trivial⟩,⟨by rw [show stampR h t=x.2 from stampL_at hx he hno];rfl,rfl⟩,Sa⟩
  refine Tk (TR ?_)
  iterate 3 refine Lz ?_
  refine Ld ?_
  refine ⟨_,?_,_,⟨_,i+1,⟨by omega,take_step hil hie hno he⟩,rfl,U3,rfl⟩,Sa⟩
  omega
 rw [List.take_of_length_le (by omega)] at hno
 refine zB (TS (La rfl (Ld (T.ret ?_))))
 exact ⟨.inl rfl,_,_,res [_] rfl ⟨rvT rfl,trivial⟩,⟨by rw [show stampR h t=0 from stampL_none (λ q=>by obtain ⟨y,hy,e⟩:=List.mem_map.1 q;exact hno y hy e)];rfl,rfl⟩,Sa⟩
theorem Hr.lastF (B:Wn) (q:HrQ) (h:HR) (hb:h.cm.length<2^40):Fn Tryz.prog B 12 #[hrV q h] (hrL q h) (λ u l=>u = .int .i64 (lastS h)/\l=hrL q h):=by
 obtain ⟨pv,cv,pa,ca,pc,cc,pe,ce⟩:=q
 dsimp only [hrV,hrL]
 refine Wq 16 Tryz.func12 rfl rfl (nB rfl) (λ F=>?_)
 try simp only [cA,nA]
 refine T.own λ w ho=>?_
 have hp:0<h.cm.length -> ∃ g,pc=some ⟨g,0,none⟩:=((ho.map Sa:Own B w [c8R pc h.cm.length cc h.cm]).slice_at (p:=pc) (m:=h.cm.length) (c:=cc)).2.1
 clear ho
 refine TS ?_
 refine Le (zL [_,_,_,_,_,_,_,_] rfl rfl ?_)
 intro g1
 refine La rfl (Ld (TS ?_))
 iterate 4 refine Lz ?_
 refine Ld (Ts (TS (Lm rfl (Lq (yU rfl rfl) (Ld ?_)))))
 refine yN rfl (λ h0=>?_) (λ h0=>?_)
 .
  have hn:h.cm=[]:=List.eq_nil_of_length_eq_zero (by omega)
  refine TS (La rfl (Ld (T.ret ?_)))
  exact ⟨.inl rfl,_,_,res [_] rfl ⟨rvT rfl,trivial⟩,⟨by rw [show lastS h=0 by unfold lastS;rw [hn];rfl];rfl,rfl⟩,Sa⟩
 obtain ⟨g,rfl⟩:=hp (by omega)
 obtain ⟨x,hx⟩ : ∃ x,h.cm[h.cm.length-1]? = some x:=⟨_,List.getElem?_eq_getElem (by omega)⟩
 obtain ⟨hil,hie⟩:=List.getElem?_eq_some_iff.1 hx
 refine Tk (TS ?_)
 iterate 4 refine Lz ?_
 refine Lq (Qi (h.cm.length-1) (e:=115) (sz:=2) rfl rfl (by omega)) (Lq (Qf (off:=1) rfl) (Lq (Ql (v := .int .i64 x.2) rfl (flat_cell stC 2 h.cm (λ _ _=>rfl) (h.cm.length-1) 1 hil (by rw [hie];rfl))) (La rfl (Ld (T.ret ?_)))))
 exact ⟨.inl rfl,_,_,res [_] rfl ⟨rvT rfl,trivial⟩,⟨by rw [show lastS h=x.2 by unfold lastS;rw [List.getLast?_eq_getElem?,hx]];rfl,rfl⟩,Sa⟩
open Go.RowKit
theorem get_u8 {bs:List UInt8} {p:Nat} {x:UInt8} (h:bs[p]? = some x) : ∃ hp:p<bs.length,bs[p]'hp=x:=List.getElem?_eq_some_iff.1 h
theorem Rx.text (B:Wn) (bs s rest:List UInt8) (at_:Nat) (hd:bs.drop (at_+1)=escB s++0::0::rest) (hs:s.length<=64) (hmx:bs.length<2^40) :
  Fn Tryz.prog B 74 #[strW bs,.int .i64 at_] [] (λ u l=>u = .tuple #[strW s,.int .i64 ((at_+1+(escB s).length+2:Nat):Int),.int .i64 0,.int .i64 0]/\l=[]):=by
 have hlen:=congrArg List.length hd
 simp only [List.length_drop,List.length_append,List.length_cons] at hlen
 refine Wr 59 Tryz.func74 rfl rfl (nB rfl) (λ F=>?_)
 try simp only [cA,nA]
 refine TS ?_
 iterate 4 refine Lz ?_
 refine Ld (TS (La rfl (Ld (Ts (TS ?_)))))
 iterate 3 refine Lz ?_
 refine Ld (yH ?_)
 refine zG (λ mz fz lz => ∃ (f0:Fr) (j q:Nat) (o:List UInt8),(j<=s.length/\q=at_+1+(escB (s.take j)).length/\o=s.take j)/\mz=s.length+1-j/\fz=(upd (upd (upd f0 0 (strW bs)) 8 (strW o)) 9 (.int .i64 q))/\lz=F) ?_ ?_
 . refine ⟨_,_,⟨_,0,at_+1,[],⟨Nat.zero_le _,rfl,rfl⟩,rfl,U3,rfl⟩,Sa⟩
 rintro mz fz lz ⟨f0,j,q,o,⟨hj,hq,ho⟩,hmz,rfl,rfl⟩
 subst mz
 have hsplit:escB s=escB (s.take j)++escB (s.drop j):=by rw [<-escB_app,List.take_append_drop]
 have hdq:bs.drop q=escB (s.drop j)++0::0::rest:=by rw [hq];exact drop_more (a:=escB (s.take j)) (by rw [hd,hsplit,List.append_assoc])
 have hol:o.length=j:=by rw [ho,List.length_take];omega
 by_cases hlt:j<s.length
 .
  have hdj:s.drop j=s[j]::s.drop (j+1):=List.drop_eq_getElem_cons hlt
  obtain ⟨x,hx⟩ : ∃ x,s[j]=x:=⟨_,rfl⟩
  have hen:=esc_next hlt
  have htk:s.take (j+1)=s.take j++[x]:=by rw [List.take_succ_eq_append_getElem hlt,hx]
  rw [hx] at hdj hen
  rw [hdj,escB_cons] at hdq
  by_cases hx0:x=0
  .
   subst hx0
   rw [if_pos rfl] at hdq hen
   obtain ⟨b1,b2⟩:=get_u8 (drop_get hdq)
   obtain ⟨b3,b4⟩:=get_u8 (drop_get (drop_more (a:=[0]) hdq))
   have b5:(bs[q]'b1).toNat=0:=by rw [b2];rfl
   have b6:(bs[q+1]'b3).toNat=255:=by rw [show bs[q+1]'b3=255 from b4];rfl
   refine Ts (TS ?_)
   iterate 4 refine Lz ?_
   refine Ld (zM rfl (Tk (Ts (yH (Ts (TS (Lm rfl (Lm rfl (Lq (YR (a:=bs) q rfl rfl rfl b1) (Lq (yW rfl rfl) (Ld (yL rfl ?_))))))))))))
   have b7:q+1<bs.length:=b3
   refine Tk (Ts (TS ?_))
   iterate 5 refine Lz ?_
   refine Ld (yL rfl (Tk (Ts (TS ?_))))
   iterate 3 refine Lz ?_
   refine Lq (YR (a:=bs) (q+1) rfl rfl (by omega) b3) (Lq (yU rfl rfl) (Ld (yL rfl (Tk (Ts (TS ?_))))))
   iterate 3 refine Lz ?_
   refine Lq (YR (a:=bs) (q+1) rfl rfl (by omega) b3) (Lq (yW rfl rfl) (Ld (yL rfl (Tk (TS (Lm rfl (Lq (Qt.addS (a:=o) (b:=[0]) rfl rfl (by simp;omega)) (La rfl (Ld (TR ?_))))))))))
   iterate 3 refine Lz ?_
   refine Ld (TR ?_)
   iterate 3 refine Lz ?_
   refine Ld ?_
   refine ⟨_,?_,_,⟨_,j+1,q+1+1,o++[0],⟨by omega,by rw [hen,hq,List.length_append];simp;omega,by rw [htk,ho]⟩,rfl,U3,rfl⟩,Sa⟩
   omega
  rw [if_neg hx0] at hdq hen
  obtain ⟨b1,b2⟩:=get_u8 (drop_get hdq)
  have b5:(bs[q]'b1).toNat≠0:=by rw [b2];exact λ e=>hx0 (UInt8.toNat_inj.1 e)
  refine Ts (TS ?_)
  iterate 4 refine Lz ?_
  refine Ld (zM rfl (Tk (Ts (yH (Ts (TS (Lm rfl (Lm rfl (Lq (YR (a:=bs) q rfl rfl rfl b1) (Lq (yW rfl rfl) (Ld (zM rfl (TS ?_)))))))))))))
  iterate 5 refine Lz ?_
  refine Lq (Qt.sliceS q (q+1) [x] rfl rfl rfl rfl (by rw [List.take_succ_eq_append_getElem b1,List.drop_append_of_le_length (by simp;omega),b2];simp)) (Lq (Qt.addS (a:=o) (b:=[x]) rfl rfl (by simp;omega)) (La rfl (Ld (zB (TR ?_)))))
  iterate 3 refine Lz ?_
  refine Ld ?_
  refine ⟨_,?_,_,⟨_,j+1,q+1,o++[x],⟨by omega,by rw [hen,hq,List.length_append];simp;omega,by rw [htk,ho]⟩,rfl,U3,rfl⟩,Sa⟩
  omega
 obtain rfl:j=s.length:=by omega
 rw [List.drop_length] at hdq
 rw [List.take_length] at hq ho
 subst ho
 obtain ⟨b1,b2⟩:=get_u8 (drop_get (y:=0) hdq)
 obtain ⟨b3,b4⟩:=get_u8 (drop_get (drop_more (a:=[0]) hdq))
 have b5:(bs[q]'b1).toNat=0:=by rw [b2];rfl
 have b6:(bs[q+1]'b3).toNat=0:=by rw [show bs[q+1]'b3=0 from b4];rfl
 refine Ts (TS ?_)
 iterate 4 refine Lz ?_
 refine Ld (zM rfl (Tk (Ts (yH (Ts (TS (Lm rfl (Lm rfl (Lq (YR (a:=bs) q rfl rfl rfl b1) (Lq (yW rfl rfl) (Ld (yL rfl ?_))))))))))))
 have b7:q+1<bs.length:=b3
 refine Tk (Ts (TS ?_))
 iterate 5 refine Lz ?_
 refine Ld (yL rfl (Tk (Ts (TS ?_))))
 iterate 3 refine Lz ?_
 refine Lq (YR (a:=bs) (q+1) rfl rfl (by omega) b3) (Lq (yU rfl rfl) (Ld (zM rfl (Ts (TS ?_)))))
 iterate 3 refine Lz ?_
 refine Ld (yL rfl ?_)
 subst hq
 refine Tk (TS ?_)
 iterate 7 refine Lz ?_
 refine Ld (T.ret ?_)
 exact ⟨.inl rfl,_,_,res [_,_,_,_] rfl ⟨rvT rfl,rvT rfl,rvT rfl,rvT rfl,trivial⟩,⟨rfl,rfl⟩,Sa⟩
open Go.RowKit
theorem Rx.decode (B:Wn) (l:List Vx) (bs:List UInt8) (hbs:bs=encL l) (hok : ∀ v∈l,v.Ok) (hmx:bs.length<2^30) :
  Fn Tryz.prog B 32 #[strW bs] [] (λ u r => ∃ p c,(0<l.length -> ∃ g,p=some ⟨g,0,none⟩)/\u = .tuple #[.slice p l.length c,.int .i64 0,.int .i64 0]/\r=[vxR p l.length c l]):=by
 have hll:=(encL_len hok).1
 rw [<-hbs] at hll
 refine Wq 69 Tryz.func32 rfl rfl (nB rfl) (λ F=>?_)
 try simp only [cA,nA]
 refine TS ?_
 iterate 3 refine Lz ?_
 refine Ld (TS (La rfl (Ld (TS (La rfl (Ld (Ts (yH (T.conv (l':=vxR none 0 0 (l.take 0)::_) (λ w ho=>ho.row_nil _ _) ?_)))))))))
 refine zG (λ mz fz lz => ∃ (f0:Fr) (k q:Nat) (p:Option Addr) (c:Nat),(k<=l.length/\q=(encL (l.take k)).length/\(0<k -> ∃ g,p=some ⟨g,0,none⟩))/\mz=l.length-k/\fz=(upd (upd (upd f0 0 (strW bs)) 5 (.slice p k c)) 6 (.int .i64 q))/\lz=vxR p k c (l.take k)::F) ?_ ?_
 . refine ⟨_,_,⟨_,0,0,none,0,⟨Nat.zero_le _,rfl,λ h=>by omega⟩,rfl,U3,rfl⟩,Sa⟩
 rintro mz fz lz ⟨f0,k,q,p,c,⟨hk,hq,hp⟩,hmz,rfl,rfl⟩
 subst mz
 have hiff:=encL_at hbs hok hk
 rw [<-hq] at hiff
 refine Ts (TS ?_)
 iterate 4 refine Lz ?_
 refine Ld ?_
 refine yN rfl (λ hlt=>?_) (λ hlt=>?_)
 .
  have hkl:k<l.length:=hiff.1 (by omega)
  obtain ⟨v,hx⟩ : ∃ v,l[k]? = some v:=⟨_,List.getElem?_eq_getElem hkl⟩
  have hvo:=hok v (List.mem_of_getElem? hx)
  have hdq:=encL_drop hbs hx
  rw [<-hq] at hdq
  have hnx:=encL_next hx
  have htk:l.take (k+1)=l.take k++[v]:=by rw [List.take_succ_eq_append_getElem hkl,(List.getElem?_eq_some_iff.1 hx).2]
  by_cases k1:v.k=1
  .
   have hes:encX v=1::be (numX v.n) 8:=by unfold encX;rw [if_pos k1]
   have hvs:v.s=[] /\ -(2^63)<=v.n/\v.n<2^63:=by rcases hvo with ⟨_,q1,q2,q3⟩ | ⟨q,_⟩;exact ⟨q1,q2,q3⟩;omega
   have hnn:=numX_nat hvs.2.1 hvs.2.2
   rw [hes,List.cons_append] at hdq
   obtain ⟨b1,b2⟩:=get_u8 (drop_get hdq)
   have b5:(bs[q]'b1).toNat=1:=by rw [b2];rfl
   have hdq2:bs.drop (q+1)=be (numX v.n) 8++encL (l.drop (k+1)):=drop_more (a:=[1]) hdq
   have hl9:=congrArg List.length hdq2
   rw [List.length_drop,List.length_append,Zd] at hl9
   have hcut:(bs.take (q+9)).drop (q+1)=be (numX v.n) 8:=by rw [List.drop_take,hdq2,show q+9-(q+1)=8 by omega,List.take_left' (Zd _ _)]
   refine Tk (yH (Ts (TS (Lm rfl (Lm rfl (Lq (YR (a:=bs) q rfl rfl rfl b1) (Lq (yU rfl rfl) (Ld (zM rfl (Ts (TS ?_)))))))))))
   iterate 5 refine Lz ?_
   refine Ld (yL rfl (Tk (TS ?_)))
   iterate 5 refine Lz ?_
   refine Lq (Qt.sliceS (q+1) (q+9) (be (numX v.n) 8) rfl rfl rfl (by omega) hcut) ?_
   refine Le (Ec (Rc.get B (be (numX v.n) 8) (by rw [Zd];omega)) Tryz.func73 rfl rfl rfl ?_)
   rintro _ _ ⟨rfl,rfl⟩
   try simp only [cA,nA]
   rw [get64_be _ (by have:=(numX v.n).toNat_lt;omega)]
   refine La rfl (Ld (TS (Lm rfl (Lq (Qt.sub (r:=if v.n<0 then v.n+2^64 else v.n) rfl rfl (by rw [hnn];simp [IntKind.wrap,IntKind.bits,IntKind.signed];split <;> omega)) (Lq (yX (k' := .i64) (r:=v.n) rfl (by simp [IntKind.wrap,IntKind.bits,IntKind.signed];split <;> omega)) (La rfl (Ld (TS (Lm rfl (Lm rfl (Lq (z8 [(0,1),(1,1),(2,1)] [.int .i64 0,.int .i64 0,.string .empty] [_,_,_] [(0,_),(1,_)] (by unfold Zf;kernel_rfl) rfl rfl) ?_)))))))))))
   refine Le (zK [_,_,_] (e:=125) (sz:=3) ⟨.agg #[.int .i64 0,.int .i64 0,.string .empty],by kernel_rfl,rfl⟩ rfl rfl rfl ?_)
   intro g41
   refine Le (Ea Cx.elemX rfl rfl (SrcOf.blk (by kernel_rfl) rfl (by simp [Value.oneCell'])) (by unfold maxLen;omega) ?_)
   rintro p1 c1 hp1
   try simp only [cA,nA]
   rw [show List.flatMap vxC (List.take k l)++[Value.int .i64 1,Value.int .i64 v.n,Value.string ByteArray.empty]=List.flatMap vxC (List.take (k+1) l) by rw [htk,List.flatMap_append];congr 1;simp [k1,hvs.1];rfl]
   refine La rfl (Ld (TS ?_))
   iterate 3 refine Lz ?_
   refine Ld (zB ?_)
   refine ⟨_,?_,_,⟨_,k+1,q+9,p1,c1,⟨by omega,by rw [hnx,hes,List.length_append,<-hq];simp [Zd],hp1⟩,rfl,U3,rfl⟩,Sa⟩
   omega
  have hk2:v.k=2/\v.n=0/\v.s.length<=64:=by rcases hvo with ⟨q,_⟩ | q;exact absurd q k1;exact q
  have hes:encX v=2::(escB v.s++[0,0]):=by unfold encX;rw [if_neg k1]
  rw [hes,List.cons_append] at hdq
  obtain ⟨b1,b2⟩:=get_u8 (drop_get hdq)
  have b5:(bs[q]'b1).toNat=2:=by rw [b2];rfl
  have hdq2:bs.drop (q+1)=escB v.s++0::0::encL (l.drop (k+1)):=(drop_more (a:=[2]) hdq).trans (by simp)
  refine Tk (yH (Ts (TS (Lm rfl (Lm rfl (Lq (YR (a:=bs) q rfl rfl rfl b1) (Lq (yU rfl rfl) (Ld (yL rfl (Tk (Ts (TS (Lm rfl ?_)))))))))))))
  refine Lm rfl (Lq (YR (a:=bs) q rfl rfl rfl b1) (Lq (yW rfl rfl) (Ld (yL rfl (Tk (TS (Lm rfl (Lm rfl ?_))))))))
  refine Le (Ec (Rx.text B bs v.s (encL (l.drop (k+1))) q hdq2 hk2.2.2 (by omega)) Tryz.func74 rfl rfl rfl ?_)
  rintro _ _ ⟨rfl,rfl⟩
  try simp only [cA,nA]
  iterate 9 refine Lz ?_
  refine Ld (Ts (TS (Lm rfl (Lq (yW rfl rfl) (Ld (yQ rfl (Tk (TS (Lm rfl (Lm rfl (Lq (z8 [(0,1),(1,1),(2,1)] [.int .i64 0,.int .i64 0,.string .empty] [_,_,_] [(0,_),(2,_)] (by unfold Zf;kernel_rfl) rfl rfl) ?_)))))))))))
  refine Le (zK [_,_,_] (e:=125) (sz:=3) ⟨.agg #[.int .i64 0,.int .i64 0,.string .empty],by kernel_rfl,rfl⟩ rfl rfl rfl ?_)
  intro g65
  refine Le (Ea Cx.elemX rfl rfl (SrcOf.blk (by kernel_rfl) rfl (by simp [Value.oneCell'])) (by unfold maxLen;omega) ?_)
  rintro p1 c1 hp1
  try simp only [cA,nA]
  rw [show List.flatMap vxC (List.take k l)++[Value.int .i64 2,Value.int .i64 0,strW v.s]=List.flatMap vxC (List.take (k+1) l) by rw [htk,List.flatMap_append];congr 1;simp [hk2.1,hk2.2.1]]
  refine La rfl (Ld (TR (Lm rfl (La rfl (Ld ?_)))))
  refine ⟨_,?_,_,⟨_,k+1,q+1+(escB v.s).length+2,p1,c1,⟨by omega,by rw [hnx,hes,List.length_append,<-hq];simp;omega,hp1⟩,rfl,U3,rfl⟩,Sa⟩
  omega
 obtain rfl:k=l.length:=by have:=mt hiff.2;omega
 rw [List.take_length]
 refine zB (TS ?_)
 iterate 4 refine Lz ?_
 refine Ld (T.ret ?_)
 exact ⟨.inl rfl,_,_,res [_,_,_] rfl ⟨rvT rfl,rvT rfl,rvT rfl,trivial⟩,⟨p,c,hp,rfl,rfl⟩,Sa⟩
open Go.RowKit
theorem vr_set (t:Int) : ∀ (vs:List Ver) (i:Nat),(vs.flatMap vrC).set (0+i*5+3) (.int .i64 t)=(vs.modify i (finV t)).flatMap vrC
 | [],i=>by simp
 | v::vs,0=>by
  simp only [List.flatMap_cons,List.modify_zero_cons]
  rw [List.set_append_left _ _ (by simp)]
  rfl
 | v::vs,i+1=>by
  simp only [List.flatMap_cons,List.modify_succ_cons]
  rw [List.set_append_right _ _ (by simp;omega),<-vr_set t vs i]
  congr 2
  simp;omega
theorem Hr.write (B:Wn) (q:HrQ) (h:HR) (e:En) (m:Nat) (hs:HrS h m) (hm:m<2^32) (hu:0<=h.used/\h.used<2^40) (hk:e.kind=1\/e.kind=2\/e.kind=3) (h0:0<=e.page/\0<=e.slot) (hd:e.kind≠1->e.data=[]) (hdl:e.data.length<2^30) (hf:e.kind=2 -> ∃ i,We h.vs e.page e.slot=some i) :
    Fn Tryz.prog B 24 #[hrV q h,.agg #[.int .i64 e.kind,.int .i64 e.txn,.int .i64 e.page,.int .i64 e.slot,.int .i64 e.stamp,strW e.data]] (hrL q h) (λ u l => ∃ q',u=hrV q' (Zg h e)/\l=hrL q' (Zg h e)):=by
  obtain ⟨s1,s2,s3,s4⟩:=id hs
  obtain ⟨kind,txn,page,slot,stamp,data⟩:=e
  dsimp only at hk h0 hd hdl hf ⊢
  obtain ⟨P,rfl⟩ : ∃ P:Nat,page=P:=⟨page.toNat,by omega⟩
  obtain ⟨Z,rfl⟩ : ∃ Z:Nat,slot=Z:=⟨slot.toNat,by omega⟩
  rcases hk with rfl | rfl | rfl
  . rw [show Zg h ⟨1,txn,P,Z,stamp,data⟩={h with es:=h.es++[⟨1,txn,P,Z,stamp,data⟩],used:=h.used+(20+data.length),vs:=h.vs++[⟨P,Z,txn,0,data⟩]} by simp [Zg,enSz_eq]]
    refine Wr 75 Tryz.func24 rfl rfl (nB rfl) (λ F=>?_)
    try simp only [cA,nA]
    refine TS ?_
    refine Le (zL [_,_,_,_,_,_,_,_] rfl rfl ?_)
    intro g2
    refine Le (zL [_,_,_,_,_,_] rfl rfl ?_)
    intro g3
    refine Le (El [.int .i64 0,.int .i64 0,.int .i64 0,.slice none 0 0,.slice none 0 0,.slice none 0 0,.int .i64 0,.slice none 0 0] (by unfold Zf;kernel_rfl) ?_)
    intro g4
    refine Ld (TS ?_)
    refine Lz ?_
    refine Le (Ec (Hr.copied B q h m hs hm) Tryz.func59 rfl rfl rfl ?_)
    rintro _ _ ⟨q1,rfl,rfl⟩
    try simp only [cA,nA]
    refine L0 (Es [_,_,_,_,_,_,_,_] rfl rfl rfl rfl (by simp) ?_)
    try simp only [splice,lC,lN,dS,cA,tS,tZ,dZ,nA,aN]
    refine Ld (TS ?_)
    iterate 3 refine Lz ?_
    refine Le (zK [_,_,_,_,_,_] (e:=104) (sz:=6) ⟨.agg #[.int .i64 0,.int .i64 0,.int .i64 0,.int .i64 0,.int .i64 0,.string .empty],by kernel_rfl,rfl⟩ rfl rfl rfl ?_)
    intro g10
    refine Le (Ea Hr.elemE rfl rfl (SrcOf.blk (by kernel_rfl) rfl (by simp [Value.oneCell'])) (by unfold maxLen;omega) ?_)
    rintro p2 c2 hp2
    rw [flat_snoc e8C h.es ⟨1,txn,P,Z,stamp,data⟩,show h.es.length+1=(h.es++[(⟨1,txn,P,Z,stamp,data⟩:En)]).length by simp]
    refine Lq (Qf (off:=7) rfl) ?_
    refine L0 (E1 (by kernel_rfl) rfl rfl rfl (by first | (simp;done) | (simp;omega)) ?_)
    try simp only [List.set_cons_zero,List.set_cons_succ]
    refine Ld (Ts (TS ?_))
    iterate 3 refine Lz ?_
    refine Ld (zF rfl (TS ?_))
    iterate 8 refine Lz ?_
    refine L0 (E1 (by kernel_rfl) rfl rfl rfl (by first | (simp;done) | (simp;omega)) ?_)
    try simp only [List.set_cons_zero,List.set_cons_succ]
    refine Ld (TR ?_)
    iterate 10 refine Lz ?_
    refine Lq (z8 [(0,1),(1,1),(2,1),(3,1),(4,1)] [.int .i64 0,.int .i64 0,.int .i64 0,.int .i64 0,.string .empty] [_,_,_,_,_] [(0,_),(1,_),(2,_),(4,_)] (by unfold Zf;kernel_rfl) rfl rfl) ?_
    refine Le (zK [_,_,_,_,_] (e:=123) (sz:=5) ⟨.agg #[.int .i64 0,.int .i64 0,.int .i64 0,.int .i64 0,.string .empty],by kernel_rfl,rfl⟩ rfl rfl rfl ?_)
    intro g35
    refine Le (Ea Hr.elemV rfl rfl (SrcOf.blk (by kernel_rfl) rfl (by simp [Value.oneCell'])) (by unfold maxLen;omega) ?_)
    rintro p3 c3 hp3
    try simp only [cA,nA]
    rw [flat_snoc vrC h.vs ⟨P,Z,txn,0,data⟩,show h.vs.length+1=(h.vs++[(⟨P,Z,txn,0,data⟩:Ver)]).length by simp]
    refine Lq (Qf (off:=3) rfl) ?_
    refine L0 (E1 (by kernel_rfl) rfl rfl rfl (by first | (simp;done) | (simp;omega)) ?_)
    try simp only [List.set_cons_zero,List.set_cons_succ]
    refine Ld (Ts (TS ?_))
    iterate 3 refine Lz ?_
    refine Ld (yQ rfl (Tk (Ts (TS ?_))))
    iterate 3 refine Lz ?_
    refine Ld (yQ rfl (Tk (TS ?_)))
    refine Lz ?_
    refine L0 (Es [_,_,_,_,_,_,_,_] rfl rfl rfl rfl (by simp) ?_)
    try simp only [splice,lC,lN,dS,cA,tS,tZ,dZ,nA,aN]
    refine Ld (T.ret ?_)
    exact ⟨.inl rfl,_,_,res [_] rfl ⟨rvA [_,_,_,_,_,_,_,_] rfl ⟨rfl,rfl,rfl,rfl,rfl,rfl,rfl,rfl,trivial⟩,trivial⟩,⟨⟨p3,c3,q1.pa,q1.ca,q1.pc,q1.cc,p2,c2⟩,rfl,rfl⟩,Sa⟩
  . have hd:=hd (by decide)
    subst hd
    obtain ⟨i0,hi0⟩:=hf rfl
    obtain ⟨v0,hv0,hvp,hvs⟩:=findV_some hi0
    have hi0l:=(List.getElem?_eq_some_iff.1 hv0).1
    rw [show Zg h ⟨2,txn,P,Z,stamp,[]⟩={h with es:=h.es++[⟨2,txn,P,Z,stamp,[]⟩],used:=h.used+20,vs:=h.vs.modify i0 (finV txn)} by simp [Zg,enSz_eq,hi0]]
    have hsum:(List.map (λ _:Ver=>5) h.vs).sum=h.vs.length*5:=by generalize h.vs=l;induction l with | nil=>rfl | cons a l ih=>simp only [List.map_cons,List.sum_cons,List.length_cons,ih];omega
    refine Wr 75 Tryz.func24 rfl rfl (nB rfl) (λ F=>?_)
    try simp only [cA,nA]
    refine TS ?_
    refine Le (zL [_,_,_,_,_,_,_,_] rfl rfl ?_)
    intro g2
    refine Le (zL [_,_,_,_,_,_] rfl rfl ?_)
    intro g3
    refine Le (El [.int .i64 0,.int .i64 0,.int .i64 0,.slice none 0 0,.slice none 0 0,.slice none 0 0,.int .i64 0,.slice none 0 0] (by unfold Zf;kernel_rfl) ?_)
    intro g4
    refine Ld (TS ?_)
    refine Lz ?_
    refine Le (Ec (Hr.copied B q h m hs hm) Tryz.func59 rfl rfl rfl ?_)
    rintro _ _ ⟨q1,rfl,rfl⟩
    try simp only [cA,nA]
    refine L0 (Es [_,_,_,_,_,_,_,_] rfl rfl rfl rfl (by simp) ?_)
    try simp only [splice,lC,lN,dS,cA,tS,tZ,dZ,nA,aN]
    refine Ld (TS ?_)
    iterate 3 refine Lz ?_
    refine Le (zK [_,_,_,_,_,_] (e:=104) (sz:=6) ⟨.agg #[.int .i64 0,.int .i64 0,.int .i64 0,.int .i64 0,.int .i64 0,.string .empty],by kernel_rfl,rfl⟩ rfl rfl rfl ?_)
    intro g10
    obtain ⟨pv,cv,pa,ca,pc,cc,pe,ce⟩:=q1
    refine Le (Ea Hr.elemE rfl rfl (SrcOf.blk (by kernel_rfl) rfl (by simp [Value.oneCell'])) (by unfold maxLen;omega) ?_)
    rintro p2 c2 hp2
    try simp only [cA,nA]
    rw [flat_snoc e8C h.es ⟨2,txn,P,Z,stamp,[]⟩,show h.es.length+1=(h.es++[(⟨2,txn,P,Z,stamp,[]⟩:En)]).length by simp]
    refine LW.own λ w ho=>?_
    obtain ⟨gv,rfl⟩ : ∃ g,pv=some ⟨g,0,none⟩:=((ho.map Sa:Own B w [verR pv h.vs.length cv h.vs]).slice_at (p:=pv) (m:=h.vs.length) (c:=cv)).2.1 (by omega)
    clear ho
    refine Lq (Qf (off:=7) rfl) ?_
    refine L0 (E1 (by kernel_rfl) rfl rfl rfl (by first | (simp;done) | (simp;omega)) ?_)
    try simp only [List.set_cons_zero,List.set_cons_succ]
    refine Ld (Ts (TS ?_))
    iterate 3 refine Lz ?_
    refine Ld (yQ rfl (Tk (Ts (TS ?_))))
    iterate 3 refine Lz ?_
    refine Ld (zF rfl (TS ?_))
    iterate 4 refine Lz ?_
    refine L0 (E1 (by kernel_rfl) rfl rfl rfl (by first | (simp;done) | (simp;omega)) ?_)
    try simp only [List.set_cons_zero,List.set_cons_succ]
    refine Ld (zW 10 none (nB rfl) ?_)
    refine Rz 0 ?_;refine Rz 1 ?_;refine Rz 2 ?_;refine Rz 3 ?_;refine Rz 4 ?_;refine Rz 5 ?_;refine Rz 6 ?_;refine Rz 8 ?_;refine Rz 9 ?_
    refine yK 7 ?_
    refine z6 rfl (Ec (Hr.find B ⟨some ⟨gv,0,none⟩,cv,pa,ca,pc,cc,p2,c2⟩ {h with es:=h.es++[⟨2,txn,P,Z,stamp,[]⟩],used:=h.used+20} P Z (by show h.vs.length<_;omega)) Tryz.func60 rfl rfl rfl ?_)
    rintro _ _ ⟨rfl,rfl⟩
    try simp only [cA,nA]
    rw [hi0]
    refine ⟨Sa,?_⟩
    refine Rd0 (by rfl) ?_
    simp only [dS,dZ,dN]
    iterate 2 refine Lz ?_
    refine L0 (E1 (by kernel_rfl) rfl rfl rfl (by first | (simp;done) | (simp;omega)) ?_)
    rw [vr_set]
    refine Ld (Ts (TS ?_))
    iterate 3 refine Lz ?_
    refine Ld ?_
    rw [show h.vs.length=(h.vs.modify i0 (finV txn)).length by simp]
    refine yQ rfl (Tk (TS ?_))
    refine Lz ?_
    refine L0 (Es [_,_,_,_,_,_,_,_] rfl rfl rfl rfl (by simp) ?_)
    try simp only [splice,lC,lN,dS,cA,tS,tZ,dZ,nA,aN]
    refine Ld (T.ret ?_)
    exact ⟨.inl rfl,_,_,res [_] rfl ⟨rvA [_,_,_,_,_,_,_,_] rfl ⟨rfl,rfl,rfl,rfl,rfl,rfl,rfl,rfl,trivial⟩,trivial⟩,⟨⟨some ⟨gv,0,none⟩,cv,pa,ca,pc,cc,p2,c2⟩,rfl,rfl⟩,Sa⟩
  . have hd:=hd (by decide)
    subst hd
    rw [show Zg h ⟨3,txn,P,Z,stamp,[]⟩={h with es:=h.es++[⟨3,txn,P,Z,stamp,[]⟩],used:=h.used+25,cm:=h.cm++[(txn,stamp)]} by simp [Zg,enSz_eq]]
    refine Wr 75 Tryz.func24 rfl rfl (nB rfl) (λ F=>?_)
    try simp only [cA,nA]
    refine TS ?_
    refine Le (zL [_,_,_,_,_,_,_,_] rfl rfl ?_)
    intro g2
    refine Le (zL [_,_,_,_,_,_] rfl rfl ?_)
    intro g3
    refine Le (El [.int .i64 0,.int .i64 0,.int .i64 0,.slice none 0 0,.slice none 0 0,.slice none 0 0,.int .i64 0,.slice none 0 0] (by unfold Zf;kernel_rfl) ?_)
    intro g4
    refine Ld (TS ?_)
    refine Lz ?_
    refine Le (Ec (Hr.copied B q h m hs hm) Tryz.func59 rfl rfl rfl ?_)
    rintro _ _ ⟨q1,rfl,rfl⟩
    try simp only [cA,nA]
    refine L0 (Es [_,_,_,_,_,_,_,_] rfl rfl rfl rfl (by simp) ?_)
    try simp only [splice,lC,lN,dS,cA,tS,tZ,dZ,nA,aN]
    refine Ld (TS ?_)
    iterate 3 refine Lz ?_
    refine Le (zK [_,_,_,_,_,_] (e:=104) (sz:=6) ⟨.agg #[.int .i64 0,.int .i64 0,.int .i64 0,.int .i64 0,.int .i64 0,.string .empty],by kernel_rfl,rfl⟩ rfl rfl rfl ?_)
    intro g10
    refine Le (Ea Hr.elemE rfl rfl (SrcOf.blk (by kernel_rfl) rfl (by simp [Value.oneCell'])) (by unfold maxLen;omega) ?_)
    rintro p2 c2 hp2
    rw [flat_snoc e8C h.es ⟨3,txn,P,Z,stamp,[]⟩,show h.es.length+1=(h.es++[(⟨3,txn,P,Z,stamp,[]⟩:En)]).length by simp]
    refine Lq (Qf (off:=7) rfl) ?_
    refine L0 (E1 (by kernel_rfl) rfl rfl rfl (by first | (simp;done) | (simp;omega)) ?_)
    try simp only [List.set_cons_zero,List.set_cons_succ]
    refine Ld (Ts (TS ?_))
    iterate 3 refine Lz ?_
    refine Ld (yQ rfl (Tk (Ts (TS ?_))))
    iterate 3 refine Lz ?_
    refine Ld (yQ rfl (Tk (Ts (TS ?_))))
    iterate 3 refine Lz ?_
    refine Ld (zF rfl (TS ?_))
    iterate 4 refine Lz ?_
    refine L0 (E1 (by kernel_rfl) rfl rfl rfl (by first | (simp;done) | (simp;omega)) ?_)
    try simp only [List.set_cons_zero,List.set_cons_succ]
    refine Ld (TR ?_)
    iterate 6 refine Lz ?_
    refine Lq (z8 [(0,1),(1,1)] [.int .i64 0,.int .i64 0] [_,_] [(0,_),(1,_)] (by unfold Zf;kernel_rfl) rfl rfl) ?_
    refine Le (zK [_,_] (e:=115) (sz:=2) ⟨.agg #[.int .i64 0,.int .i64 0],by kernel_rfl,rfl⟩ rfl rfl rfl ?_)
    intro g71
    refine Le (Ea Hr.elemC rfl rfl (SrcOf.blk (by kernel_rfl) rfl (by simp [Value.oneCell'])) (by unfold maxLen;omega) ?_)
    rintro p3 c3 hp3
    try simp only [cA,nA]
    rw [flat_snoc stC h.cm (txn,stamp),show h.cm.length+1=(h.cm++[(txn,stamp)]).length by simp]
    refine Lq (Qf (off:=5) rfl) ?_
    refine L0 (E1 (by kernel_rfl) rfl rfl rfl (by first | (simp;done) | (simp;omega)) ?_)
    try simp only [List.set_cons_zero,List.set_cons_succ]
    refine Ld (TS ?_)
    refine Lz ?_
    refine L0 (Es [_,_,_,_,_,_,_,_] rfl rfl rfl rfl (by simp) ?_)
    try simp only [splice,lC,lN,dS,cA,tS,tZ,dZ,nA,aN]
    refine Ld (T.ret ?_)
    exact ⟨.inl rfl,_,_,res [_] rfl ⟨rvA [_,_,_,_,_,_,_,_] rfl ⟨rfl,rfl,rfl,rfl,rfl,rfl,rfl,rfl,trivial⟩,trivial⟩,⟨⟨q1.pv,q1.cv,q1.pa,q1.ca,p3,c3,p2,c2⟩,rfl,rfl⟩,Sa⟩
open Go.RowKit
abbrev hr0 : List Value:=[.int .i64 0,.int .i64 0,.int .i64 0,.slice none 0 0,.slice none 0 0,.slice none 0 0,.int .i64 0,.slice none 0 0]
theorem Hr.begin (B:Wn) (q:HrQ) (h:HR) (m:Nat) (hs:HrS h m) (hm:m<2^32) (hl:0<=h.last/\h.last<2^62):Fn Tryz.prog B 63 #[hrV q h] (hrL q h) (λ u l => ∃ q',u = .tuple #[hrV q' (beginR h),.int .i64 (h.last+1)]/\l=hrL q' (beginR h)++hrL q h):=by
 obtain ⟨s1,s2,s3,s4⟩:=id hs
 rw [show beginR h={h with last:=h.last+1,act:=h.act++[h.last+1]} from rfl]
 refine Wq 20 Tryz.func63 rfl rfl (nB rfl) (λ F=>?_)
 try simp only [cA,nA]
 refine TS ?_
 refine Le (zL [_,_,_,_,_,_,_,_] rfl rfl ?_)
 intro g1
 refine Le (El [.int .i64 0,.int .i64 0,.int .i64 0,.slice none 0 0,.slice none 0 0,.slice none 0 0,.int .i64 0,.slice none 0 0] (by unfold Zf;kernel_rfl) ?_)
 intro g2
 refine La rfl (Ld (TS ?_))
 refine Lz ?_
 refine Le (Ec (Hr.copied B q h m hs hm) Tryz.func59 rfl rfl rfl ?_)
 rintro _ _ ⟨q1,rfl,rfl⟩
 try simp only [cA,nA]
 refine L0 (Es [_,_,_,_,_,_,_,_] rfl rfl rfl rfl (by simp) ?_)
 try simp only [splice,lC,lN,dS,cA,tS,tZ,dZ,nA,aN]
 refine Ld (TS ?_)
 iterate 4 refine Lz ?_
 refine L0 (E1 (by kernel_rfl) rfl rfl rfl (by first | (simp;done) | (simp;omega)) ?_)
 try simp only [List.set_cons_zero,List.set_cons_succ]
 refine Ld (TS ?_)
 iterate 4 refine Lz ?_
 refine Le (zK [_] (e:=2) (sz:=1) ⟨.int .i64 0,by kernel_rfl,rfl⟩ rfl rfl rfl ?_)
 intro g14
 refine Le (Ea Hr.elemA rfl rfl (SrcOf.blk (by kernel_rfl) rfl (by simp [Value.oneCell'])) (by unfold maxLen;omega) ?_)
 rintro p2 c2 hp2
 rw [map_snoc zV h.act (h.last+1),show h.act.length+1=(h.act++[h.last+1]).length by simp]
 refine Lq (Qf (off:=4) rfl) ?_
 refine L0 (E1 (by kernel_rfl) rfl rfl rfl (by first | (simp;done) | (simp;omega)) ?_)
 try simp only [List.set_cons_zero,List.set_cons_succ]
 refine Ld (Ts (T.drawEx 4 g2 (by kernel_rfl) (nB rfl) (by kernel_rfl) ?_))
 refine Rz 0 ?_;refine Rz 1 ?_;refine Rz 2 ?_
 refine yK 3 ?_
 refine YH rfl (Es [_,_,_,_,_,_,_,_] rfl rfl rfl rfl (by simp) ?_)
 try simp only [splice,lC,lN,dS,cA,tS,tZ,dZ,nA,aN]
 refine ⟨Sa,?_⟩
 refine Rd0 (by rfl) ?_
 simp only [dS,dZ,dN]
 refine La rfl (Ld (T.ret ?_))
 exact ⟨.inl rfl,_,_,res [_,_] rfl ⟨rvA [_,_,_,_,_,_,_,_] rfl ⟨rfl,rfl,rfl,rfl,rfl,rfl,rfl,rfl,trivial⟩,rvT rfl,trivial⟩,⟨⟨q1.pv,q1.cv,p2,c2,q1.pc,q1.cc,q1.pe,q1.ce⟩,rfl,rfl⟩,Sa⟩
theorem Hr.without (B:Wn) (q:HrQ) (h:HR) (t:Int) (m:Nat) (hs:HrS h m) (hm:m<2^32):Fn Tryz.prog B 114 #[hrV q h,.int .i64 t] (hrL q h) (λ u l => ∃ q',u=hrV q' (Zo h t)/\l=hrL q' (Zo h t)):=by
 obtain ⟨s1,s2,s3,s4⟩:=id hs
 rw [show Zo h t={h with act:=h.act.filter λ x=>decide (x≠t)} from rfl]
 refine Wr 34 Tryz.func114 rfl rfl (nB rfl) (λ F=>?_)
 try simp only [cA,nA]
 refine TS ?_
 refine Le (zL [_,_,_,_,_,_,_,_] rfl rfl ?_)
 intro g2
 refine Le (El [.int .i64 0,.int .i64 0,.int .i64 0,.slice none 0 0,.slice none 0 0,.slice none 0 0,.int .i64 0,.slice none 0 0] (by unfold Zf;kernel_rfl) ?_)
 intro g4
 refine Ld (TS ?_)
 refine Lz ?_
 refine Le (Ec (Hr.copied B q h m hs hm) Tryz.func59 rfl rfl rfl ?_)
 rintro _ _ ⟨q1,rfl,rfl⟩
 try simp only [cA,nA]
 refine L0 (Es [_,_,_,_,_,_,_,_] rfl rfl rfl rfl (by simp) ?_)
 try simp only [splice,lC,lN,dS,cA,tS,tZ,dZ,nA,aN]
 refine Ld (TS (La rfl (Ld (Ts (TS (La rfl (Ld (yH ?_))))))))
 obtain ⟨pv,cv,pa,ca,pc,cc,pe,ce⟩:=q1
 refine T.own λ w ho=>?_
 have hp:0<h.act.length -> ∃ g,pa=some ⟨g,0,none⟩:=((ho.map Sa:Own B w [acR pa h.act.length ca h.act]).slice_at (p:=pa) (m:=h.act.length) (c:=ca)).2.1
 clear ho
 refine T.conv (l':=acR none 0 0 []::_) (λ w ho=>ho.row_nil _ _) ?_
 refine zG (λ mz fz lz => ∃ (f0:Fr) (i:Nat) (acc:List Int) (p:Option Addr) (c n:Nat),(i<=h.act.length/\acc=(h.act.take i).filter (λ x=>decide (x≠t))/\acc.length=n/\n<=i)/\mz=h.act.length-i/\fz=(upd (upd (upd (upd (upd f0 1 (.int .i64 t)) 2 (.pointer (some ⟨g2,0,none⟩))) 4 (.pointer (some ⟨g4,0,none⟩))) 5 (.slice p n c)) 6 (.int .i64 i))/\lz=acR p n c acc::blk g4 hr0 33::blk g2 (hrC ⟨pv,cv,pa,ca,pc,cc,pe,ce⟩ h) 33::hrL ⟨pv,cv,pa,ca,pc,cc,pe,ce⟩ h++F) ?_ ?_
 . refine ⟨_,_,⟨_,0,[],none,0,0,⟨Nat.zero_le _,rfl,rfl,Nat.le_refl _⟩,rfl,U5,rfl⟩,Sa⟩
 rintro mz fz lz ⟨f0,i,acc,p,c,n,⟨hi,hacc,hn,hni⟩,hmz,rfl,rfl⟩
 subst mz
 try simp only [cA,nA]
 refine Ts (TS ?_)
 iterate 5 refine Lz ?_
 refine Ld ?_
 refine yN rfl (λ hlt=>?_) (λ hlt=>?_)
 .
  obtain ⟨g,rfl⟩:=hp (by omega)
  obtain ⟨x,hx⟩ : ∃ x,h.act[i]'(by omega)=x:=⟨_,rfl⟩
  have htk:h.act.take (i+1)=h.act.take i++[x]:=by rw [List.take_succ_eq_append_getElem (by omega),hx]
  refine Tk (Ts (yH (TS ?_)))
  iterate 4 refine Lz ?_
  refine Lq (Ql (v:=zV x) rfl (by rw [map_at _ _ _ (by omega),hx])) (Lm rfl (Lq (yW rfl rfl) (Ld ?_)))
  refine yN rfl (λ he=>?_) (λ he=>?_)
  .
   refine TR ?_
   iterate 5 refine Lz ?_
   refine Lq (Ql (v:=zV x) rfl (by rw [map_at _ _ _ (by omega),hx])) ?_
   refine Le (zK [_] (e:=2) (sz:=1) ⟨.int .i64 0,by kernel_rfl,rfl⟩ rfl rfl rfl ?_)
   intro g29
   refine Le (Ea Hr.elemA rfl rfl (SrcOf.blk (by kernel_rfl) rfl (by simp [Value.oneCell'])) (by unfold maxLen;omega) ?_)
   rintro p2 c2 hp2
   try simp only [cA,nA]
   rw [map_snoc zV acc x]
   refine La rfl (Ld (TR ?_))
   iterate 3 refine Lz ?_
   refine Ld ?_
   refine ⟨_,?_,_,⟨_,i+1,acc++[x],p2,c2,n+1,⟨by omega,by rw [htk,List.filter_append,hacc];simp [he],by simp [hn],by omega⟩,rfl,U5,rfl⟩,Sa⟩
   omega
  refine Tk (TR ?_)
  iterate 3 refine Lz ?_
  refine Ld ?_
  refine ⟨_,?_,_,⟨_,i+1,acc,p,c,n,⟨by omega,by rw [htk,List.filter_append,hacc];simp at he;simp [he],hn,by omega⟩,rfl,U5,rfl⟩,Sa⟩
  omega
 rw [List.take_of_length_le (by omega)] at hacc
 rw [<-hacc]
 subst hn
 refine zB (TS ?_)
 iterate 2 refine Lz ?_
 refine L0 (E1 (by kernel_rfl) rfl rfl rfl (by first | (simp;done) | (simp;omega)) ?_)
 try simp only [List.set_cons_zero,List.set_cons_succ]
 refine Ld (TS ?_)
 refine Lz ?_
 refine L0 (Es [_,_,_,_,_,_,_,_] rfl rfl rfl rfl (by simp) ?_)
 try simp only [splice,lC,lN,dS,cA,tS,tZ,dZ,nA,aN]
 refine Ld (T.ret ?_)
 exact ⟨.inl rfl,_,_,res [_] rfl ⟨rvA [_,_,_,_,_,_,_,_] rfl ⟨rfl,rfl,rfl,rfl,rfl,rfl,rfl,rfl,trivial⟩,trivial⟩,⟨⟨pv,cv,p,c,pc,cc,pe,ce⟩,rfl,rfl⟩,Sa⟩
open Go.RowKit
structure HrK (h:HR) (m:Nat):Prop where
 s:HrS h m
 m:m<2^32
 r:RInv h
 pages:h.pages<=4096
 room:h.room<2^30
 last:h.last<2^61
theorem HrK.used {h:HR} {m:Nat} (k:HrK h m):0<=h.used/\h.used<=h.room:=⟨by have:=k.r.ok.used;omega,k.r.ok.le⟩
structure HrW (h:HR) (m:Nat):Prop where
 s:HrS h m
 m:m<2^32
 pages:h.pages<=4096
 room:h.room<2^30
 u:0<=h.used/\h.used<2^40
 pg : ∀ q,Wi h.vs q<=256
theorem HrK.w {h:HR} {m:Nat} (k:HrK h m):HrW h m:=⟨k.s,k.m,k.pages,k.room,by have:=k.used;have:=k.room;omega,k.r.ok.room⟩
theorem usedP_take (vs:List Ver) (q i:Nat):Wi (vs.take i) q<=Wi vs q:=by
 have:vs=vs.take i++vs.drop i:=(List.take_append_drop i vs).symm
 conv=>rhs;rw [this]
 unfold Wi
 rw [Wc,usedV_append]
 omega
theorem pageV_take (vs:List Ver) (q i:Nat):(Zh (vs.take i) q).length<=i:=by
 unfold Zh
 refine Nat.le_trans (List.length_filter_le _ _) ?_
 simp;omega
theorem Hr.used (B:Wn) (q:HrQ) (h:HR) (m:Nat) (k:HrW h m) (p:Nat) (pi:Int) (hpi:pi=p):Fn Tryz.prog B 113 #[hrV q h,.int .i64 pi] (hrL q h) (λ u l=>u = .tuple #[.int .i64 (Wi h.vs p),.int .i64 (Zh h.vs p).length]/\l=hrL q h):=by
 subst hpi
 have hlen:=k.s.v
 have hm:=k.m
 have hrm:=k.pg p
 obtain ⟨pv,cv,pa,ca,pc,cc,pe,ce⟩:=q
 dsimp only [hrV,hrL]
 refine Wr 38 Tryz.func113 rfl rfl (nB rfl) (λ F=>?_)
 try simp only [cA,nA]
 refine T.own λ w ho=>?_
 have hp:0<h.vs.length -> ∃ g,pv=some ⟨g,0,none⟩:=((ho.map Sa:Own B w [verR pv h.vs.length cv h.vs]).slice_at (p:=pv) (m:=h.vs.length) (c:=cv)).2.1
 clear ho
 refine TS ?_
 refine Le (zL [_,_,_,_,_,_,_,_] rfl rfl ?_)
 intro g2
 refine La rfl (La rfl (Ld (TS (La rfl (Ld (TS (La rfl (Ld (Ts (TS (La rfl (Ld ?_))))))))))))
 refine yH ?_
 refine zG (λ mz fz lz => ∃ (f0:Fr) (i n c:Nat),(i<=h.vs.length/\n=Wi (h.vs.take i) p/\c=(Zh (h.vs.take i) p).length)/\mz=h.vs.length-i/\fz=(upd (upd (upd (upd (upd f0 1 (.int .i64 p)) 2 (.pointer (some ⟨g2,0,none⟩))) 6 (.int .i64 n)) 7 (.int .i64 c)) 8 (.int .i64 i))/\lz=blk g2 (hrC ⟨pv,cv,pa,ca,pc,cc,pe,ce⟩ h) 33::hrL ⟨pv,cv,pa,ca,pc,cc,pe,ce⟩ h++F) ?_ ?_
 . refine ⟨_,_,⟨_,0,13,0,⟨Nat.zero_le _,rfl,rfl⟩,rfl,U5,rfl⟩,Sa⟩
 rintro mz fz lz ⟨f0,i,n,c,⟨hi,hn,hc⟩,hmz,rfl,rfl⟩
 subst mz
 try simp only [cA,nA]
 refine Ts (TS ?_)
 iterate 5 refine Lz ?_
 refine Ld ?_
 refine yN rfl (λ hlt=>?_) (λ hlt=>?_)
 .
  obtain ⟨g,rfl⟩:=hp (by omega)
  obtain ⟨x,hx⟩ : ∃ x,h.vs[i]'(by omega)=x:=⟨_,rfl⟩
  have htk:h.vs.take (i+1)=h.vs.take i++[x]:=by rw [List.take_succ_eq_append_getElem (by omega),hx]
  have hu1:=usedP_take h.vs p (i+1)
  have hc1:=pageV_take h.vs p i
  refine Tk (Ts (yH (TS ?_)))
  iterate 5 refine Lz ?_
  refine Lq (Ql (v := .int .i64 x.page) rfl (flat_cell0 vrC 5 h.vs (λ _ _=>rfl) i (by omega) (by rw [hx];rfl))) (Lm rfl (Lq (yU rfl rfl) (Ld ?_)))
  refine yN rfl (λ he=>?_) (λ he=>?_)
  .
   have hxp:x.page=p:=by omega
   have hu2:Wi (h.vs.take (i+1)) p=n+(17+x.data.length):=by rw [htk,hn];unfold Wi;rw [Wc,usedV_append];simp [Zh,usedV,hxp];omega
   have hc2:(Zh (h.vs.take (i+1)) p).length=c+1:=by rw [htk,hc,Wc];simp [Zh,hxp]
   refine TS ?_
   iterate 6 refine Lz ?_
   refine Lq (Ql (v:=strW x.data) rfl (flat_cell vrC 5 h.vs (λ _ _=>rfl) i 4 (by omega) (by rw [hx];rfl))) ?_
   iterate 4 refine Lz ?_
   refine Ld (TR ?_)
   iterate 3 refine Lz ?_
   refine Ld (TR ?_)
   iterate 3 refine Lz ?_
   refine Ld ?_
   refine ⟨_,?_,_,⟨_,i+1,n+(17+x.data.length),c+1,⟨by omega,hu2.symm,hc2.symm⟩,rfl,U5,rfl⟩,Sa⟩
   omega
  have hxp:x.page≠p:=by omega
  refine Tk (TR ?_)
  iterate 3 refine Lz ?_
  refine Ld ?_
  refine ⟨_,?_,_,⟨_,i+1,n,c,⟨by omega,by rw [htk,hn];unfold Wi;rw [Wc,usedV_append];simp [Zh,usedV,hxp],by rw [htk,hc,Wc];simp [Zh,hxp]⟩,rfl,U5,rfl⟩,Sa⟩
  omega
 rw [List.take_of_length_le (by omega)] at hn hc
 subst hn
 subst hc
 refine zB (TS ?_)
 iterate 4 refine Lz ?_
 refine Ld (T.ret ?_)
 exact ⟨.inl rfl,_,_,res [_,_] rfl ⟨rvT rfl,rvT rfl,trivial⟩,⟨rfl,rfl⟩,Sa⟩
theorem roomy_step {h:HR} {n p:Nat} (hno : ∀ j,j<p -> ¬ Wi h.vs j+17+n<=256) (hp : ¬ Wi h.vs p+17+n<=256) : ∀ j,j<p+1 -> ¬ Wi h.vs j+17+n<=256:=by
 intro j hj
 by_cases e:j=p
 . subst e;exact hp
 . exact hno j (by omega)
theorem Hr.add (B:Wn) (q:HrQ) (h:HR) (m:Nat) (k:HrW h m) (t:Int) (d:List UInt8) (hdl:d.length<2^30):Fn Tryz.prog B 65 #[hrV q h,.int .i64 t,strW d] (hrL q h) (λ u l => ∃ q',u = .tuple #[hrV q' (Wm h t d).1,.int .i64 (Wm h t d).2.1,.int .i64 (Wm h t d).2.2.1,.int .i64 (Wm h t d).2.2.2]/\l=hrL q' (Wm h t d).1):=by
  have s2:=k.s.a
  have hm:=k.m
  have hpg:=k.pages
  have hrmb:=k.room
  obtain ⟨hu0,hu1⟩:=k.u
  by_cases ha:Zp h t=true
  . by_cases hl:184<d.length
    . rw [hAdd_long d ha hl]
      refine Ws 61 Tryz.func65 rfl rfl (nB rfl) (λ F=>?_)
      try simp only [cA,nA]
      refine TS ?_
      refine Le (zL [_,_,_,_,_,_,_,_] rfl rfl ?_)
      intro g3
      refine Le (El [.int .i64 0,.int .i64 0,.int .i64 0,.slice none 0 0,.slice none 0 0,.slice none 0 0,.int .i64 0,.slice none 0 0] (by unfold Zf;kernel_rfl) ?_)
      intro g6
      iterate 3 refine Lz ?_
      refine Ld (Ts (TS ?_))
      iterate 2 refine Lz ?_
      refine Le (Ec (Hr.isActive B q h t) Tryz.func71 rfl rfl rfl ?_)
      rintro _ _ ⟨rfl,rfl⟩
      try simp only [cA,nA]
      rw [ha]
      refine Lq (Y2 rfl) (Ld (yQ rfl (Tk (Ts (TS ?_)))))
      iterate 3 refine Lz ?_
      refine Ld (zM rfl (TS ?_))
      refine Lz ?_
      refine L0 (Es [_,_,_,_,_,_,_,_] rfl rfl rfl rfl (by simp) ?_)
      try simp only [splice,lC,lN,dS,cA,tS,tZ,dZ,nA,aN]
      iterate 3 refine Lz ?_
      refine Ld (T.ret ?_)
      exact ⟨.inl rfl,_,_,res [_,_,_,_] rfl ⟨rvA [_,_,_,_,_,_,_,_] rfl ⟨rfl,rfl,rfl,rfl,rfl,rfl,rfl,rfl,trivial⟩,rvT rfl,rvT rfl,rvT rfl,trivial⟩,⟨q,rfl,rfl⟩,Sa⟩
    refine Ws 61 Tryz.func65 rfl rfl (nB rfl) (λ F=>?_)
    try simp only [cA,nA]
    refine TS ?_
    refine Le (zL [_,_,_,_,_,_,_,_] rfl rfl ?_)
    intro g3
    refine Le (El [.int .i64 0,.int .i64 0,.int .i64 0,.slice none 0 0,.slice none 0 0,.slice none 0 0,.int .i64 0,.slice none 0 0] (by unfold Zf;kernel_rfl) ?_)
    intro g6
    iterate 3 refine Lz ?_
    refine Ld (Ts (TS ?_))
    iterate 2 refine Lz ?_
    refine Le (Ec (Hr.isActive B q h t) Tryz.func71 rfl rfl rfl ?_)
    rintro _ _ ⟨rfl,rfl⟩
    try simp only [cA,nA]
    rw [ha]
    refine Lq (Y2 rfl) (Ld (yQ rfl (Tk (Ts (TS ?_)))))
    iterate 3 refine Lz ?_
    refine Ld (yL rfl (Tk (Ts (TS (La rfl (Ld (yH ?_)))))))
    refine zG (λ mz fz lz => ∃ (f0:Fr) (p:Nat),(p<=h.pages /\ ∀ j,j<p -> ¬ Wi h.vs j+17+d.length<=256)/\mz=h.pages-p/\fz=(upd (upd (upd (upd (upd f0 1 (.int .i64 t)) 2 (strW d)) 3 (.pointer (some ⟨g3,0,none⟩))) 6 (.pointer (some ⟨g6,0,none⟩))) 10 (.int .i64 p))/\lz=blk g6 hr0 33::blk g3 (hrC q h) 33::hrL q h++F) ?_ ?_
    . refine ⟨_,_,⟨_,0,⟨Nat.zero_le _,λ j hj=>by omega⟩,rfl,U5,rfl⟩,Sa⟩
    rintro mz fz lz ⟨f0,p,⟨hp,hno⟩,hmz,rfl,rfl⟩
    subst mz
    try simp only [cA,nA]
    refine Ts (TS ?_)
    iterate 4 refine Lz ?_
    refine Ld ?_
    refine yN rfl (λ hlt=>?_) (λ hlt=>?_)
    . skip
      have hup:=k.pg p
      refine Tk (Ts (yH (TS ?_)))
      iterate 2 refine Lz ?_
      refine Le (Ec (Hr.used B q h m k p p rfl) Tryz.func113 rfl rfl rfl ?_)
      rintro _ _ ⟨rfl,rfl⟩
      try simp only [cA,nA]
      iterate 5 refine Lz ?_
      refine Ld (Ts (TS ?_))
      iterate 6 refine Lz ?_
      refine Ld ?_
      refine yN rfl (λ hfit=>?_) (λ hfit=>?_)
      . skip
        refine zB (TR ?_)
        iterate 3 refine Lz ?_
        refine Ld ?_
        refine ⟨_,?_,_,⟨_,p+1,⟨by omega,roomy_step hno (by omega)⟩,rfl,U5,rfl⟩,Sa⟩
        omega
      have hr:roomyP h d.length=some p:=roomy_of (by omega) (by omega) hno
      refine Tk (Ts (TS ?_))
      iterate 10 refine Lz ?_
      refine Ld ?_
      refine yN rfl (λ hfull=>?_) (λ hfull=>?_)
      . skip
        rw [show Wm h t d=(h,0,0,3) by unfold Wm;rw [if_pos ha,if_neg hl,hr];dsimp only;rw [if_pos (by omega)]]
        refine TS ?_
        refine Lz ?_
        refine L0 (Es [_,_,_,_,_,_,_,_] rfl rfl rfl rfl (by simp) ?_)
        try simp only [splice,lC,lN,dS,cA,tS,tZ,dZ,nA,aN]
        iterate 3 refine Lz ?_
        refine Ld (T.ret ?_)
        exact ⟨.inl rfl,_,_,res [_,_,_,_] rfl ⟨rvA [_,_,_,_,_,_,_,_] rfl ⟨rfl,rfl,rfl,rfl,rfl,rfl,rfl,rfl,trivial⟩,rvT rfl,rvT rfl,rvT rfl,trivial⟩,⟨q,rfl,rfl⟩,Sa⟩
      rw [hAdd_ok d ha (by omega) hr (by omega)]
      refine Tk (TS ?_)
      iterate 5 refine Lz ?_
      refine Lq (z8 [(0,1),(1,1),(2,1),(3,1),(4,1),(5,1)] [.int .i64 0,.int .i64 0,.int .i64 0,.int .i64 0,.int .i64 0,.string .empty] [_,_,_,_,_,_] [(0,_),(1,_),(2,_),(3,_),(5,_)] (by unfold Zf;kernel_rfl) rfl rfl) ?_
      refine Le (Ec (Hr.write B q h ⟨1,t,p,(Zh h.vs p).length,0,d⟩ m k.s k.m (by omega) (.inl rfl) (by dsimp only;omega) (λ e=>absurd rfl e) hdl (λ e=>by cases e)) Tryz.func24 rfl rfl rfl ?_)
      rintro _ _ ⟨q1,rfl,rfl⟩
      try simp only [cA,nA]
      refine Lm rfl (Lm rfl ?_)
      refine L0 (Es [_,_,_,_,_,_,_,_] rfl rfl rfl rfl (by simp) ?_)
      try simp only [splice,lC,lN,dS,cA,tS,tZ,dZ,nA,aN]
      iterate 3 refine Lz ?_
      refine Ld (T.ret ?_)
      exact ⟨.inl rfl,_,_,res [_,_,_,_] rfl ⟨rvA [_,_,_,_,_,_,_,_] rfl ⟨rfl,rfl,rfl,rfl,rfl,rfl,rfl,rfl,trivial⟩,rvT rfl,rvT rfl,rvT rfl,trivial⟩,⟨q1,rfl,rfl⟩,Sa⟩
    have hr:roomyP h d.length=none:=roomy_no (λ j hj=>hno j (by omega))
    rw [show Wm h t d=(h,0,0,3) by unfold Wm;rw [if_pos ha,if_neg hl,hr]]
    refine zB (TS ?_)
    refine Lz ?_
    refine L0 (Es [_,_,_,_,_,_,_,_] rfl rfl rfl rfl (by simp) ?_)
    try simp only [splice,lC,lN,dS,cA,tS,tZ,dZ,nA,aN]
    iterate 3 refine Lz ?_
    refine Ld (T.ret ?_)
    exact ⟨.inl rfl,_,_,res [_,_,_,_] rfl ⟨rvA [_,_,_,_,_,_,_,_] rfl ⟨rfl,rfl,rfl,rfl,rfl,rfl,rfl,rfl,trivial⟩,rvT rfl,rvT rfl,rvT rfl,trivial⟩,⟨q,rfl,rfl⟩,Sa⟩
  . rw [show Wm h t d=(h,0,0,70) by unfold Wm;rw [if_neg ha]]
    rw [Bool.not_eq_true] at ha
    refine Ws 61 Tryz.func65 rfl rfl (nB rfl) (λ F=>?_)
    try simp only [cA,nA]
    refine TS ?_
    refine Le (zL [_,_,_,_,_,_,_,_] rfl rfl ?_)
    intro g3
    refine Le (El [.int .i64 0,.int .i64 0,.int .i64 0,.slice none 0 0,.slice none 0 0,.slice none 0 0,.int .i64 0,.slice none 0 0] (by unfold Zf;kernel_rfl) ?_)
    intro g6
    iterate 3 refine Lz ?_
    refine Ld (Ts (TS ?_))
    iterate 2 refine Lz ?_
    refine Le (Ec (Hr.isActive B q h t) Tryz.func71 rfl rfl rfl ?_)
    rintro _ _ ⟨rfl,rfl⟩
    try simp only [cA,nA]
    rw [ha]
    refine Lq (Y2 rfl) (Ld (zF rfl (TS ?_)))
    refine Lz ?_
    refine L0 (Es [_,_,_,_,_,_,_,_] rfl rfl rfl rfl (by simp) ?_)
    try simp only [splice,lC,lN,dS,cA,tS,tZ,dZ,nA,aN]
    iterate 3 refine Lz ?_
    refine Ld (T.ret ?_)
    exact ⟨.inl rfl,_,_,res [_,_,_,_] rfl ⟨rvA [_,_,_,_,_,_,_,_] rfl ⟨rfl,rfl,rfl,rfl,rfl,rfl,rfl,rfl,trivial⟩,rvT rfl,rvT rfl,rvT rfl,trivial⟩,⟨q,rfl,rfl⟩,Sa⟩
open Go.RowKit
theorem Hr.end_ (B:Wn) (q:HrQ) (h:HR) (m:Nat) (k:HrK h m) (t p s:Int):Fn Tryz.prog B 64 #[hrV q h,.int .i64 t,.int .i64 p,.int .i64 s] (hrL q h) (λ u l => ∃ q',u = .tuple #[hrV q' (endR h t p s).1,.int .i64 (endR h t p s).2]/\l=hrL q' (endR h t p s).1):=by
  have s1:=k.s.v
  have s2:=k.s.a
  have s3:=k.s.c
  have hm:=k.m
  have hrmb:=k.room
  obtain ⟨hu0,hu1⟩:=k.used
  by_cases ha:Zp h t=true
  . cases hi:We h.vs p s with
    | none =>
      rw [show endR h t p s=(h,4) by unfold endR;rw [if_pos ha,hi];rfl]
      refine Fn.enter4 71 Tryz.func64 rfl rfl (nB rfl) (λ F=>?_)
      try simp only [cA,nA]
      refine TS ?_
      refine Le (zL [_,_,_,_,_,_,_,_] rfl rfl ?_)
      intro g4
      refine Le (El [.int .i64 0,.int .i64 0,.int .i64 0,.slice none 0 0,.slice none 0 0,.slice none 0 0,.int .i64 0,.slice none 0 0] (by unfold Zf;kernel_rfl) ?_)
      intro g8
      refine La rfl (Ld (Ts (TS ?_)))
      iterate 2 refine Lz ?_
      refine Le (Ec (Hr.isActive B q h t) Tryz.func71 rfl rfl rfl ?_)
      rintro _ _ ⟨rfl,rfl⟩
      try simp only [cA,nA]
      rw [ha]
      refine Lq (Y2 rfl) (Ld (yQ rfl (Tk (TS ?_))))
      iterate 3 refine Lz ?_
      refine Le (Ec (Hr.find B q h p s (by omega)) Tryz.func60 rfl rfl rfl ?_)
      rintro _ _ ⟨rfl,rfl⟩
      try simp only [cA,nA]
      rw [hi]
      refine La rfl (Ld (Ts (TS (Lm rfl (Lq (yM rfl rfl) (Ld (zF rfl (TS ?_))))))))
      refine Lz ?_
      refine L0 (Es [_,_,_,_,_,_,_,_] rfl rfl rfl rfl (by simp) ?_)
      try simp only [splice,lC,lN,dS,cA,tS,tZ,dZ,nA,aN]
      refine La rfl (Ld (T.ret ?_))
      exact ⟨.inl rfl,_,_,res [_,_] rfl ⟨rvA [_,_,_,_,_,_,_,_] rfl ⟨rfl,rfl,rfl,rfl,rfl,rfl,rfl,rfl,trivial⟩,rvT rfl,trivial⟩,⟨q,rfl,rfl⟩,Sa⟩
    | some i =>
      obtain ⟨v,hvi,hvp,hvs⟩:=findV_some hi
      have hil:=(List.getElem?_eq_some_iff.1 hvi).1
      have hv:(We h.vs p s).bind (h.vs[·]?)=some v:=by rw [hi];exact hvi
      refine Fn.enter4 71 Tryz.func64 rfl rfl (nB rfl) (λ F=>?_)
      try simp only [cA,nA]
      refine TS ?_
      refine Le (zL [_,_,_,_,_,_,_,_] rfl rfl ?_)
      intro g4
      refine Le (El [.int .i64 0,.int .i64 0,.int .i64 0,.slice none 0 0,.slice none 0 0,.slice none 0 0,.int .i64 0,.slice none 0 0] (by unfold Zf;kernel_rfl) ?_)
      intro g8
      refine La rfl (Ld (Ts (TS ?_)))
      iterate 2 refine Lz ?_
      refine Le (Ec (Hr.isActive B q h t) Tryz.func71 rfl rfl rfl ?_)
      rintro _ _ ⟨rfl,rfl⟩
      try simp only [cA,nA]
      rw [ha]
      refine Lq (Y2 rfl) (Ld (yQ rfl (Tk (TS ?_))))
      iterate 3 refine Lz ?_
      refine Le (Ec (Hr.find B q h p s (by omega)) Tryz.func60 rfl rfl rfl ?_)
      rintro _ _ ⟨rfl,rfl⟩
      try simp only [cA,nA]
      rw [hi]
      refine La rfl (Ld (Ts (TS (Lm rfl (Lq (yM rfl rfl) (Ld (yQ rfl ?_)))))))
      obtain ⟨pv,cv,pa,ca,pc,cc,pe,ce⟩:=q
      refine T.own λ w ho=>?_
      obtain ⟨gv,rfl⟩ : ∃ g,pv=some ⟨g,0,none⟩:=((ho.map Sa:Own B w [verR pv h.vs.length cv h.vs]).slice_at (p:=pv) (m:=h.vs.length) (c:=cv)).2.1 (by omega)
      clear ho
      refine Tk (TS ?_)
      iterate 4 refine Lz ?_
      refine Lq (QL [.int .i64 v.page,.int .i64 v.slot,.int .i64 v.beg,.int .i64 v.fin,strW v.data] rfl (by rw [show [Value.int .i64 v.page,.int .i64 v.slot,.int .i64 v.beg,.int .i64 v.fin,strW v.data]=vrC (h.vs[i]'hil) by rw [(List.getElem?_eq_some_iff.1 hvi).2]];exact rdl_flat _ _ _ (by intros;rfl) _ (by omega))) ?_
      refine Le (El [.int .i64 0,.int .i64 0,.int .i64 0,.int .i64 0,.string .empty] (by unfold Zf;kernel_rfl) ?_)
      intro g11
      refine L0 (Es [_,_,_,_,_] rfl rfl rfl rfl (by simp) ?_)
      try simp only [splice,lC,lN,dS,cA,tS,tZ,dZ,nA,aN]
      refine Ld ?_
      refine T.cut (λ fz lz => ∃ (f0:Fr) (z:Nat),(¬ ((v.beg≠t/\Wa h v.beg=false)\/v.fin=t\/Wa h v.fin=true))/\fz=(upd (upd (upd (upd (upd (upd f0 1 (.int .i64 t)) 2 (.int .i64 p)) 3 (.int .i64 s)) 4 (.pointer (some ⟨g4,0,none⟩))) 8 (.pointer (some ⟨g8,0,none⟩))) 11 (.pointer (some ⟨g11,0,none⟩)))/\lz=blk g11 (vrC v) 123::blk g8 hr0 33::blk g4 (hrC ⟨some ⟨gv,0,none⟩,cv,pa,ca,pc,cc,pe,ce⟩ h) 33::hrL ⟨some ⟨gv,0,none⟩,cv,pa,ca,pc,cc,pe,ce⟩ h++F) ?_ ?_
      . skip
        refine TS ?_
        iterate 5 refine Lz ?_
        refine zZ (t:=33) rfl (λ h1=>?_) (λ h1=>?_)
        . skip
          try replace h1:=of_decide_eq_true h1
          iterate 3 refine Lz ?_
          refine Le (Ec (Hr.isCommitted B ⟨some ⟨gv,0,none⟩,cv,pa,ca,pc,cc,pe,ce⟩ h v.beg) Tryz.func72 rfl rfl rfl ?_)
          rintro _ _ ⟨rfl,rfl⟩
          try simp only [cA,nA]
          by_cases hc1:Wa h v.beg=true
          . skip
            rw [hc1]
            iterate 3 refine Lz ?_
            refine yT (t:=40) rfl rfl ?_
            iterate 6 refine Lz ?_
            refine zZ (t:=46) rfl (λ h2=>?_) (λ h2=>?_)
            . skip
              try replace h2:=of_decide_eq_true h2
              iterate 5 refine Lz ?_
              refine Ld (zF rfl ?_)
              rw [hEnd_no ha hv (.inr (.inl h2))]
              refine TS ?_
              refine Lz ?_
              refine L0 (Es [_,_,_,_,_,_,_,_] rfl rfl rfl rfl (by simp) ?_)
              try simp only [splice,lC,lN,dS,cA,tS,tZ,dZ,nA,aN]
              refine La rfl (Ld (T.ret ?_))
              exact ⟨.inl rfl,_,_,res [_,_] rfl ⟨rvA [_,_,_,_,_,_,_,_] rfl ⟨rfl,rfl,rfl,rfl,rfl,rfl,rfl,rfl,trivial⟩,rvT rfl,trivial⟩,⟨⟨some ⟨gv,0,none⟩,cv,pa,ca,pc,cc,pe,ce⟩,rfl,rfl⟩,Sa⟩
            try replace h2:=of_decide_eq_false h2
            iterate 3 refine Lz ?_
            refine Le (Ec (Hr.isCommitted B ⟨some ⟨gv,0,none⟩,cv,pa,ca,pc,cc,pe,ce⟩ h v.fin) Tryz.func72 rfl rfl rfl ?_)
            rintro _ _ ⟨rfl,rfl⟩
            try simp only [cA,nA]
            by_cases hc2:Wa h v.fin=true
            . skip
              rw [hc2]
              refine Lq (Qp rfl rfl) (Ld (zF rfl ?_))
              rw [hEnd_no ha hv (.inr (.inr hc2))]
              refine TS ?_
              refine Lz ?_
              refine L0 (Es [_,_,_,_,_,_,_,_] rfl rfl rfl rfl (by simp) ?_)
              try simp only [splice,lC,lN,dS,cA,tS,tZ,dZ,nA,aN]
              refine La rfl (Ld (T.ret ?_))
              exact ⟨.inl rfl,_,_,res [_,_] rfl ⟨rvA [_,_,_,_,_,_,_,_] rfl ⟨rfl,rfl,rfl,rfl,rfl,rfl,rfl,rfl,trivial⟩,rvT rfl,trivial⟩,⟨⟨some ⟨gv,0,none⟩,cv,pa,ca,pc,cc,pe,ce⟩,rfl,rfl⟩,Sa⟩
            rw [Bool.not_eq_true] at hc2
            rw [hc2]
            refine Lq (Qp rfl rfl) (Ld (yQ rfl (Tk ?_)))
            exact ⟨_,⟨_,0,(by rintro (⟨_,e⟩ | e | e);(cases e);(exact h2 e);(cases e)),U6,rfl⟩,Sa⟩
          rw [Bool.not_eq_true] at hc1
          rw [hc1]
          iterate 3 refine Lz ?_
          refine zQ (t:=40) rfl rfl ?_
          iterate 6 refine Lz ?_
          refine zQ (t:=46) rfl rfl ?_
          iterate 5 refine Lz ?_
          refine Ld (zF rfl ?_)
          rw [hEnd_no ha hv (.inl ⟨h1,hc1⟩)]
          refine TS ?_
          refine Lz ?_
          refine L0 (Es [_,_,_,_,_,_,_,_] rfl rfl rfl rfl (by simp) ?_)
          try simp only [splice,lC,lN,dS,cA,tS,tZ,dZ,nA,aN]
          refine La rfl (Ld (T.ret ?_))
          exact ⟨.inl rfl,_,_,res [_,_] rfl ⟨rvA [_,_,_,_,_,_,_,_] rfl ⟨rfl,rfl,rfl,rfl,rfl,rfl,rfl,rfl,trivial⟩,rvT rfl,trivial⟩,⟨⟨some ⟨gv,0,none⟩,cv,pa,ca,pc,cc,pe,ce⟩,rfl,rfl⟩,Sa⟩
        try replace h1:=of_decide_eq_false h1
        have h1:v.beg=t:=by omega
        iterate 7 refine Lz ?_
        refine yT (t:=40) rfl rfl ?_
        iterate 6 refine Lz ?_
        refine zZ (t:=46) rfl (λ h2=>?_) (λ h2=>?_)
        . skip
          try replace h2:=of_decide_eq_true h2
          iterate 5 refine Lz ?_
          refine Ld (zF rfl ?_)
          rw [hEnd_no ha hv (.inr (.inl h2))]
          refine TS ?_
          refine Lz ?_
          refine L0 (Es [_,_,_,_,_,_,_,_] rfl rfl rfl rfl (by simp) ?_)
          try simp only [splice,lC,lN,dS,cA,tS,tZ,dZ,nA,aN]
          refine La rfl (Ld (T.ret ?_))
          exact ⟨.inl rfl,_,_,res [_,_] rfl ⟨rvA [_,_,_,_,_,_,_,_] rfl ⟨rfl,rfl,rfl,rfl,rfl,rfl,rfl,rfl,trivial⟩,rvT rfl,trivial⟩,⟨⟨some ⟨gv,0,none⟩,cv,pa,ca,pc,cc,pe,ce⟩,rfl,rfl⟩,Sa⟩
        try replace h2:=of_decide_eq_false h2
        iterate 3 refine Lz ?_
        refine Le (Ec (Hr.isCommitted B ⟨some ⟨gv,0,none⟩,cv,pa,ca,pc,cc,pe,ce⟩ h v.fin) Tryz.func72 rfl rfl rfl ?_)
        rintro _ _ ⟨rfl,rfl⟩
        try simp only [cA,nA]
        by_cases hc2:Wa h v.fin=true
        . skip
          rw [hc2]
          refine Lq (Qp rfl rfl) (Ld (zF rfl ?_))
          rw [hEnd_no ha hv (.inr (.inr hc2))]
          refine TS ?_
          refine Lz ?_
          refine L0 (Es [_,_,_,_,_,_,_,_] rfl rfl rfl rfl (by simp) ?_)
          try simp only [splice,lC,lN,dS,cA,tS,tZ,dZ,nA,aN]
          refine La rfl (Ld (T.ret ?_))
          exact ⟨.inl rfl,_,_,res [_,_] rfl ⟨rvA [_,_,_,_,_,_,_,_] rfl ⟨rfl,rfl,rfl,rfl,rfl,rfl,rfl,rfl,trivial⟩,rvT rfl,trivial⟩,⟨⟨some ⟨gv,0,none⟩,cv,pa,ca,pc,cc,pe,ce⟩,rfl,rfl⟩,Sa⟩
        rw [Bool.not_eq_true] at hc2
        rw [hc2]
        refine Lq (Qp rfl rfl) (Ld (yQ rfl (Tk ?_)))
        exact ⟨_,⟨_,0,(by rintro (⟨e,_⟩ | e | e);(exact e h1);(exact h2 e);(cases e)),U6,rfl⟩,Sa⟩
      rintro fz lz ⟨f0,z,hNC,rfl,rfl⟩
      try simp only [cA,nA]
      refine Ts (TS ?_)
      iterate 3 refine Lz ?_
      refine Le (Ec (Hr.isActive B ⟨some ⟨gv,0,none⟩,cv,pa,ca,pc,cc,pe,ce⟩ h v.fin) Tryz.func71 rfl rfl rfl ?_)
      rintro _ _ ⟨rfl,rfl⟩
      try simp only [cA,nA]
      by_cases hc3:Zp h v.fin=true
      . skip
        rw [hc3]
        refine Ld (zF rfl ?_)
        rw [hEnd_busy ha hv hNC hc3]
        refine TS ?_
        refine Lz ?_
        refine L0 (Es [_,_,_,_,_,_,_,_] rfl rfl rfl rfl (by simp) ?_)
        try simp only [splice,lC,lN,dS,cA,tS,tZ,dZ,nA,aN]
        refine La rfl (Ld (T.ret ?_))
        exact ⟨.inl rfl,_,_,res [_,_] rfl ⟨rvA [_,_,_,_,_,_,_,_] rfl ⟨rfl,rfl,rfl,rfl,rfl,rfl,rfl,rfl,trivial⟩,rvT rfl,trivial⟩,⟨⟨some ⟨gv,0,none⟩,cv,pa,ca,pc,cc,pe,ce⟩,rfl,rfl⟩,Sa⟩
      rw [Bool.not_eq_true] at hc3
      rw [hc3]
      refine Ld (yQ rfl (Tk (Ts (TS ?_))))
      iterate 6 refine Lz ?_
      refine Ld ?_
      refine yN rfl (λ hfull=>?_) (λ hfull=>?_)
      . skip
        rw [show endR h t p s=(h,3) by unfold endR;rw [if_pos ha,hv];dsimp only;rw [if_neg hNC,if_neg (by rw [hc3];simp),if_pos (by omega)]]
        refine TS ?_
        refine Lz ?_
        refine L0 (Es [_,_,_,_,_,_,_,_] rfl rfl rfl rfl (by simp) ?_)
        try simp only [splice,lC,lN,dS,cA,tS,tZ,dZ,nA,aN]
        refine La rfl (Ld (T.ret ?_))
        exact ⟨.inl rfl,_,_,res [_,_] rfl ⟨rvA [_,_,_,_,_,_,_,_] rfl ⟨rfl,rfl,rfl,rfl,rfl,rfl,rfl,rfl,trivial⟩,rvT rfl,trivial⟩,⟨⟨some ⟨gv,0,none⟩,cv,pa,ca,pc,cc,pe,ce⟩,rfl,rfl⟩,Sa⟩
      rw [hEnd_ok ha hv hNC hc3 (by omega)]
      refine Tk (TS ?_)
      iterate 4 refine Lz ?_
      refine Lq (z8 [(0,1),(1,1),(2,1),(3,1),(4,1),(5,1)] [.int .i64 0,.int .i64 0,.int .i64 0,.int .i64 0,.int .i64 0,.string .empty] [_,_,_,_,_,_] [(0,_),(1,_),(2,_),(3,_)] (by unfold Zf;kernel_rfl) rfl rfl) ?_
      refine Le (Ec (Hr.write B ⟨some ⟨gv,0,none⟩,cv,pa,ca,pc,cc,pe,ce⟩ h ⟨2,t,p,s,0,[]⟩ m k.s k.m (by omega) (.inr (.inl rfl)) (by dsimp only;omega) (λ _=>rfl) (by simp) (λ _=>⟨i,hi⟩)) Tryz.func24 rfl rfl rfl ?_)
      rintro _ _ ⟨q1,rfl,rfl⟩
      try simp only [cA,nA]
      refine L0 (Es [_,_,_,_,_,_,_,_] rfl rfl rfl rfl (by simp) ?_)
      try simp only [splice,lC,lN,dS,cA,tS,tZ,dZ,nA,aN]
      refine La rfl (Ld (T.ret ?_))
      exact ⟨.inl rfl,_,_,res [_,_] rfl ⟨rvA [_,_,_,_,_,_,_,_] rfl ⟨rfl,rfl,rfl,rfl,rfl,rfl,rfl,rfl,trivial⟩,rvT rfl,trivial⟩,⟨q1,rfl,rfl⟩,Sa⟩
  . rw [show endR h t p s=(h,70) by unfold endR;rw [if_neg ha]]
    rw [Bool.not_eq_true] at ha
    refine Fn.enter4 71 Tryz.func64 rfl rfl (nB rfl) (λ F=>?_)
    try simp only [cA,nA]
    refine TS ?_
    refine Le (zL [_,_,_,_,_,_,_,_] rfl rfl ?_)
    intro g4
    refine Le (El [.int .i64 0,.int .i64 0,.int .i64 0,.slice none 0 0,.slice none 0 0,.slice none 0 0,.int .i64 0,.slice none 0 0] (by unfold Zf;kernel_rfl) ?_)
    intro g8
    refine La rfl (Ld (Ts (TS ?_)))
    iterate 2 refine Lz ?_
    refine Le (Ec (Hr.isActive B q h t) Tryz.func71 rfl rfl rfl ?_)
    rintro _ _ ⟨rfl,rfl⟩
    try simp only [cA,nA]
    rw [ha]
    refine Lq (Y2 rfl) (Ld (zF rfl (TS ?_)))
    refine Lz ?_
    refine L0 (Es [_,_,_,_,_,_,_,_] rfl rfl rfl rfl (by simp) ?_)
    try simp only [splice,lC,lN,dS,cA,tS,tZ,dZ,nA,aN]
    refine La rfl (Ld (T.ret ?_))
    exact ⟨.inl rfl,_,_,res [_,_] rfl ⟨rvA [_,_,_,_,_,_,_,_] rfl ⟨rfl,rfl,rfl,rfl,rfl,rfl,rfl,rfl,trivial⟩,rvT rfl,trivial⟩,⟨q,rfl,rfl⟩,Sa⟩
open Go.RowKit
theorem c8_at {l:List (Int×Int)} {j:Nat} {c:Int×Int} (h:l[j]? = some c):(l.flatMap stC)[0+j*2+1]? = some (.int .i64 c.2):=by
 obtain ⟨hj,hc⟩:=List.getElem?_eq_some_iff.1 h
 exact flat_cell stC 2 l (λ _ _=>rfl) j 1 hj (v := .int .i64 c.2) (by rw [hc];rfl)
theorem withoutK {h:HR} {m:Nat} (k:HrK h m) (t:Int):HrK (Zo h t) m:=⟨⟨k.s.v,Nat.le_trans (List.length_filter_le _ _) k.s.a,k.s.c,k.s.e⟩,k.m,k.r.without t,k.pages,k.room,k.last⟩
theorem Hr.commit (B:Wn) (q:HrQ) (h:HR) (m:Nat) (k:HrK h m) (t s:Int):Fn Tryz.prog B 66 #[hrV q h,.int .i64 t,.int .i64 s] (hrL q h) (λ u l => ∃ q',u = .tuple #[hrV q' (Zl h t s).1,.int .i64 (Zl h t s).2]/\l=hrL q' (Zl h t s).1):=by
  have s1:=k.s.v
  have s2:=k.s.a
  have s3:=k.s.c
  have hm:=k.m
  have hrmb:=k.room
  obtain ⟨hu0,hu1⟩:=k.used
  by_cases ha:Zp h t=true
  . by_cases hb:badStamp h s=true
    . rw [show Zl h t s=(h,1) by unfold Zl;rw [if_pos ha,if_pos hb]]
      unfold badStamp at hb
      simp only [Bool.or_eq_true,decide_eq_true_eq] at hb
      refine Ws 53 Tryz.func66 rfl rfl (nB rfl) (λ F=>?_)
      try simp only [cA,nA]
      refine TS ?_
      refine Le (zL [_,_,_,_,_,_,_,_] rfl rfl ?_)
      intro g3
      refine Le (El [.int .i64 0,.int .i64 0,.int .i64 0,.slice none 0 0,.slice none 0 0,.slice none 0 0,.int .i64 0,.slice none 0 0] (by unfold Zf;kernel_rfl) ?_)
      intro g6
      refine La rfl (Ld (Ts (TS ?_)))
      iterate 2 refine Lz ?_
      refine Le (Ec (Hr.isActive B q h t) Tryz.func71 rfl rfl rfl ?_)
      rintro _ _ ⟨rfl,rfl⟩
      try simp only [cA,nA]
      rw [ha]
      refine Lq (Y2 rfl) (Ld (yQ rfl ?_))
      by_cases h1:s<0
      . skip
        refine Tk (TS ?_)
        iterate 4 refine Lz ?_
        refine Ld (Ts (TS ?_))
        iterate 3 refine Lz ?_
        refine zQ (t:=19) rfl (decide_eq_true (by omega)) ?_
        iterate 4 refine Lz ?_
        refine zQ (t:=23) rfl rfl ?_
        iterate 14 refine Lz ?_
        refine Ld (zF rfl (TS ?_))
        refine Lz ?_
        refine L0 (Es [_,_,_,_,_,_,_,_] rfl rfl rfl rfl (by simp) ?_)
        try simp only [splice,lC,lN,dS,cA,tS,tZ,dZ,nA,aN]
        refine La rfl (Ld (T.ret ?_))
        exact ⟨.inl rfl,_,_,res [_,_] rfl ⟨rvA [_,_,_,_,_,_,_,_] rfl ⟨rfl,rfl,rfl,rfl,rfl,rfl,rfl,rfl,trivial⟩,rvT rfl,trivial⟩,⟨q,rfl,rfl⟩,Sa⟩
      refine Tk (TS ?_)
      iterate 4 refine Lz ?_
      refine Ld (Ts (TS ?_))
      iterate 3 refine Lz ?_
      refine yT (t:=19) rfl (decide_eq_false (by omega)) ?_
      iterate 4 refine Lz ?_
      by_cases h2:1099511627776<s
      . skip
        refine zQ (t:=23) rfl (decide_eq_true (by omega)) ?_
        iterate 14 refine Lz ?_
        refine Ld (zF rfl (TS ?_))
        refine Lz ?_
        refine L0 (Es [_,_,_,_,_,_,_,_] rfl rfl rfl rfl (by simp) ?_)
        try simp only [splice,lC,lN,dS,cA,tS,tZ,dZ,nA,aN]
        refine La rfl (Ld (T.ret ?_))
        exact ⟨.inl rfl,_,_,res [_,_] rfl ⟨rvA [_,_,_,_,_,_,_,_] rfl ⟨rfl,rfl,rfl,rfl,rfl,rfl,rfl,rfl,trivial⟩,rvT rfl,trivial⟩,⟨q,rfl,rfl⟩,Sa⟩
      obtain ⟨c,hcl2,hcs⟩ : ∃ c,h.cm.getLast? = some c/\s<=c.2:=by
        cases hg:h.cm.getLast? with
        | none=>rw [hg] at hb;simp at hb;omega
        | some c=>rw [hg] at hb;simp at hb;exact ⟨c,rfl,by omega⟩
      have hne:0<h.cm.length:=by cases hq:h.cm with | nil=>rw [hq] at hcl2;cases hcl2 | cons a l=>simp
      have hlast:h.cm[h.cm.length-1]? = some c:=by rw [<-List.getLast?_eq_getElem?];exact hcl2
      obtain ⟨pv,cv,pa,ca,pc,cc,pe,ce⟩:=q
      refine LW.own λ w ho=>?_
      obtain ⟨gv,rfl⟩ : ∃ g,pc=some ⟨g,0,none⟩:=((ho.map Sa:Own B w [c8R pc h.cm.length cc h.cm]).slice_at (p:=pc) (m:=h.cm.length) (c:=cc)).2.1 hne
      clear ho
      refine yT (t:=23) rfl (decide_eq_false (by omega)) ?_
      iterate 3 refine Lz ?_
      refine zQ (t:=26) rfl (decide_eq_true (by omega)) ?_
      iterate 5 refine Lz ?_
      refine Lq (Qi (h.cm.length-1) (e:=115) (sz:=2) rfl rfl (by omega)) (Lq (Qf (off:=1) rfl) (Lq (Ql (v := .int .i64 c.2) rfl (c8_at hlast)) ?_))
      iterate 3 refine Lz ?_
      refine Ld (zM rfl (TS ?_))
      refine Lz ?_
      refine L0 (Es [_,_,_,_,_,_,_,_] rfl rfl rfl rfl (by simp) ?_)
      try simp only [splice,lC,lN,dS,cA,tS,tZ,dZ,nA,aN]
      refine La rfl (Ld (T.ret ?_))
      exact ⟨.inl rfl,_,_,res [_,_] rfl ⟨rvA [_,_,_,_,_,_,_,_] rfl ⟨rfl,rfl,rfl,rfl,rfl,rfl,rfl,rfl,trivial⟩,rvT rfl,trivial⟩,⟨⟨pv,cv,pa,ca,some ⟨gv,0,none⟩,cc,pe,ce⟩,rfl,rfl⟩,Sa⟩
    . have hb:badStamp h s=false:=by simpa using hb
      have hb2:=hb
      unfold badStamp at hb2
      simp only [Bool.or_eq_false_iff,decide_eq_false_iff_not] at hb2
      obtain ⟨⟨z1,z2⟩,z3⟩:=hb2
      refine Ws 53 Tryz.func66 rfl rfl (nB rfl) (λ F=>?_)
      try simp only [cA,nA]
      refine TS ?_
      refine Le (zL [_,_,_,_,_,_,_,_] rfl rfl ?_)
      intro g3
      refine Le (El [.int .i64 0,.int .i64 0,.int .i64 0,.slice none 0 0,.slice none 0 0,.slice none 0 0,.int .i64 0,.slice none 0 0] (by unfold Zf;kernel_rfl) ?_)
      intro g6
      refine La rfl (Ld (Ts (TS ?_)))
      iterate 2 refine Lz ?_
      refine Le (Ec (Hr.isActive B q h t) Tryz.func71 rfl rfl rfl ?_)
      rintro _ _ ⟨rfl,rfl⟩
      try simp only [cA,nA]
      rw [ha]
      refine Lq (Y2 rfl) (Ld (yQ rfl ?_))
      obtain ⟨pv,cv,pa,ca,pc,cc,pe,ce⟩:=q
      refine Tk (TS ?_)
      iterate 4 refine Lz ?_
      refine Ld ?_
      refine T.cut (λ fz lz => ∃ (f0:Fr) (z:Nat),(True)/\fz=(upd (upd (upd (upd f0 1 (.int .i64 t)) 2 (.int .i64 s)) 3 (.pointer (some ⟨g3,0,none⟩))) 6 (.pointer (some ⟨g6,0,none⟩)))/\lz=blk g6 hr0 33::blk g3 (hrC ⟨pv,cv,pa,ca,pc,cc,pe,ce⟩ h) 33::hrL ⟨pv,cv,pa,ca,pc,cc,pe,ce⟩ h++F) ?_ ?_
      . skip
        refine TS ?_
        iterate 3 refine Lz ?_
        refine yT (t:=19) rfl (decide_eq_false (by omega)) ?_
        iterate 4 refine Lz ?_
        refine yT (t:=23) rfl (decide_eq_false (by omega)) ?_
        iterate 3 refine Lz ?_
        by_cases hne:0<h.cm.length
        . skip
          obtain ⟨c,hcl2⟩ : ∃ c,h.cm.getLast? = some c:=by
            cases hg:h.cm with
            | nil=>rw [hg] at hne;simp at hne
            | cons a l=>exact ⟨_,List.getLast?_eq_some_getLast (by simp)⟩
          have hlast:h.cm[h.cm.length-1]? = some c:=by rw [<-List.getLast?_eq_getElem?];exact hcl2
          have hcs : ¬ s<=c.2:=by rw [hcl2] at z3;simpa using z3
          refine LW.own λ w ho=>?_
          obtain ⟨gv,rfl⟩ : ∃ g,pc=some ⟨g,0,none⟩:=((ho.map Sa:Own B w [c8R pc h.cm.length cc h.cm]).slice_at (p:=pc) (m:=h.cm.length) (c:=cc)).2.1 hne
          clear ho
          refine zQ (t:=26) rfl (decide_eq_true (by omega)) ?_
          iterate 5 refine Lz ?_
          refine Lq (Qi (h.cm.length-1) (e:=115) (sz:=2) rfl rfl (by omega)) (Lq (Qf (off:=1) rfl) (Lq (Ql (v := .int .i64 c.2) rfl (c8_at hlast)) ?_))
          iterate 3 refine Lz ?_
          refine Ld (yL rfl (Tk ?_))
          exact ⟨_,⟨_,0,trivial,U4,rfl⟩,Sa⟩
        refine yT (t:=26) rfl (decide_eq_false (by omega)) ?_
        iterate 11 refine Lz ?_
        refine Ld (yQ rfl (Tk ?_))
        exact ⟨_,⟨_,0,trivial,U4,rfl⟩,Sa⟩
      rintro fz lz ⟨f0,z,_,rfl,rfl⟩
      try simp only [cA,nA]
      by_cases hf:(h.room:Int)<h.used+25
      . skip
        rw [show Zl h t s=(h,3) by unfold Zl;rw [if_pos ha,if_neg (by simp [hb]),if_pos hf]]
        refine Ts (TS ?_)
        iterate 6 refine Lz ?_
        refine Ld (zM rfl (TS ?_))
        refine Lz ?_
        refine L0 (Es [_,_,_,_,_,_,_,_] rfl rfl rfl rfl (by simp) ?_)
        try simp only [splice,lC,lN,dS,cA,tS,tZ,dZ,nA,aN]
        refine La rfl (Ld (T.ret ?_))
        exact ⟨.inl rfl,_,_,res [_,_] rfl ⟨rvA [_,_,_,_,_,_,_,_] rfl ⟨rfl,rfl,rfl,rfl,rfl,rfl,rfl,rfl,trivial⟩,rvT rfl,trivial⟩,⟨⟨pv,cv,pa,ca,pc,cc,pe,ce⟩,rfl,rfl⟩,Sa⟩
      rw [hCm_ok ha hb (by omega)]
      refine Ts (TS ?_)
      iterate 6 refine Lz ?_
      refine Ld (yL rfl (Tk (TS ?_)))
      iterate 2 refine Lz ?_
      refine Le (Ec (Hr.without B ⟨pv,cv,pa,ca,pc,cc,pe,ce⟩ h t m k.s k.m) Tryz.func114 rfl rfl rfl ?_)
      rintro _ _ ⟨q1,rfl,rfl⟩
      try simp only [cA,nA]
      refine Lm rfl (Lm rfl (Lq (z8 [(0,1),(1,1),(2,1),(3,1),(4,1),(5,1)] [.int .i64 0,.int .i64 0,.int .i64 0,.int .i64 0,.int .i64 0,.string .empty] [_,_,_,_,_,_] [(0,_),(1,_),(4,_)] (by unfold Zf;kernel_rfl) rfl rfl) ?_))
      refine Le (Ec (Hr.write B q1 (Zo h t) ⟨3,t,0,0,s,[]⟩ m (withoutK k t).s k.m (by show 0<=h.used/\h.used<_;omega) (.inr (.inr rfl)) ⟨Int.le_refl _,Int.le_refl _⟩ (λ _=>rfl) (by simp) (λ e=>by cases e)) Tryz.func24 rfl rfl rfl ?_)
      rintro _ _ ⟨q2,rfl,rfl⟩
      try simp only [cA,nA]
      refine L0 (Es [_,_,_,_,_,_,_,_] rfl rfl rfl rfl (by simp) ?_)
      try simp only [splice,lC,lN,dS,cA,tS,tZ,dZ,nA,aN]
      refine La rfl (Ld (T.ret ?_))
      exact ⟨.inl rfl,_,_,res [_,_] rfl ⟨rvA [_,_,_,_,_,_,_,_] rfl ⟨rfl,rfl,rfl,rfl,rfl,rfl,rfl,rfl,trivial⟩,rvT rfl,trivial⟩,⟨q2,rfl,rfl⟩,Sa⟩
  . rw [show Zl h t s=(h,70) by unfold Zl;rw [if_neg ha]]
    rw [Bool.not_eq_true] at ha
    refine Ws 53 Tryz.func66 rfl rfl (nB rfl) (λ F=>?_)
    try simp only [cA,nA]
    refine TS ?_
    refine Le (zL [_,_,_,_,_,_,_,_] rfl rfl ?_)
    intro g3
    refine Le (El [.int .i64 0,.int .i64 0,.int .i64 0,.slice none 0 0,.slice none 0 0,.slice none 0 0,.int .i64 0,.slice none 0 0] (by unfold Zf;kernel_rfl) ?_)
    intro g6
    refine La rfl (Ld (Ts (TS ?_)))
    iterate 2 refine Lz ?_
    refine Le (Ec (Hr.isActive B q h t) Tryz.func71 rfl rfl rfl ?_)
    rintro _ _ ⟨rfl,rfl⟩
    try simp only [cA,nA]
    rw [ha]
    refine Lq (Y2 rfl) (Ld (zF rfl (TS ?_)))
    refine Lz ?_
    refine L0 (Es [_,_,_,_,_,_,_,_] rfl rfl rfl rfl (by simp) ?_)
    try simp only [splice,lC,lN,dS,cA,tS,tZ,dZ,nA,aN]
    refine La rfl (Ld (T.ret ?_))
    exact ⟨.inl rfl,_,_,res [_,_] rfl ⟨rvA [_,_,_,_,_,_,_,_] rfl ⟨rfl,rfl,rfl,rfl,rfl,rfl,rfl,rfl,trivial⟩,rvT rfl,trivial⟩,⟨q,rfl,rfl⟩,Sa⟩
theorem Hr.new (B:Wn) (N logs:Nat) (a b:Int) (ha:a=N) (hb:b=logs) (hl:logs<=N) (hN:N<=4096):Fn Tryz.prog B 6 #[.int .i64 a,.int .i64 b] [] (λ u l => ∃ q,u=hrV q (newR (N-logs) (logs*256))/\l=hrL q (newR (N-logs) (logs*256))):=by
 subst ha;subst hb
 refine Wr 11 Tryz.func6 rfl rfl (nB rfl) (λ F=>?_)
 try simp only [cA,nA]
 refine TS ?_
 refine Le (El [.int .i64 0,.int .i64 0,.int .i64 0,.slice none 0 0,.slice none 0 0,.slice none 0 0,.int .i64 0,.slice none 0 0] (by unfold Zf;kernel_rfl) ?_)
 intro g4
 refine Ld (TS ?_)
 iterate 5 refine Lz ?_
 refine Lq (z8 [(0,1),(1,1),(2,1),(3,1),(4,1),(5,1),(6,1),(7,1)] [.int .i64 0,.int .i64 0,.int .i64 0,.slice none 0 0,.slice none 0 0,.slice none 0 0,.int .i64 0,.slice none 0 0] [_,_,_,_,_,_,_,_] [(0,_),(1,_)] (by unfold Zf;kernel_rfl) rfl rfl) ?_
 refine L0 (Es [_,_,_,_,_,_,_,_] rfl rfl rfl rfl (by simp) ?_)
 try simp only [splice,lC,lN,dS,cA,tS,tZ,dZ,nA,aN]
 refine Ld ?_
 rw [show (N:Int)-logs=((N-logs:Nat):Int) by omega,show (logs:Int)*256=((logs*256:Nat):Int) by omega]
 refine T.conv (l':=hrL ⟨none,0,none,0,none,0,none,0⟩ (newR (N-logs) (logs*256))++_) (λ w ho=>(((ho.row_nil _ _).row_nil _ _).row_nil _ _).row_nil _ _) (T.ret ?_)
 exact ⟨.inl rfl,_,_,res [_] rfl ⟨rvA [_,_,_,_,_,_,_,_] rfl ⟨rfl,rfl,rfl,rfl,rfl,rfl,rfl,rfl,trivial⟩,trivial⟩,⟨⟨none,0,none,0,none,0,none,0⟩,rfl,rfl⟩,Sa⟩
open Go.RowKit
theorem all_next (h:HR) (p:Nat):(List.range (p+1)).flatMap (λ q=>(Zh h.vs q).filterMap (visV h))=(List.range p).flatMap (λ q=>(Zh h.vs q).filterMap (visV h))++(Zh h.vs p).filterMap (visV h):=by
 rw [List.range_succ,List.flatMap_append];simp
theorem Hr.all (B:Wn) (q:HrQ) (h:HR) (m:Nat) (k:HrK h m):Fn Tryz.prog B 31 #[hrV q h] (hrL q h) (λ u l => ∃ p c,u = .slice p (allR h).length c/\l=verR p (allR h).length c (allR h)::hrL q h):=by
 have s1:=k.s.v
 have s2:=k.s.a
 have s3:=k.s.c
 have hm:=k.m
 have hpg:=k.pages
 have hlen:=all_len k.r.ok
 obtain ⟨pv,cv,pa,ca,pc,cc,pe,ce⟩:=q
 dsimp only [hrV,hrL]
 refine Wq 59 Tryz.func31 rfl rfl (nB rfl) (λ F=>?_)
 try simp only [cA,nA]
 refine T.own λ w ho=>?_
 have hp:0<h.vs.length -> ∃ g,pv=some ⟨g,0,none⟩:=((ho.map Sa:Own B w [verR pv h.vs.length cv h.vs]).slice_at (p:=pv) (m:=h.vs.length) (c:=cv)).2.1
 clear ho
 refine TS ?_
 refine Le (zL [_,_,_,_,_,_,_,_] rfl rfl ?_)
 intro g1
 refine La rfl (Ld (TS (La rfl (Ld (Ts (TS (La rfl (Ld (yH (T.conv (l':=verR none 0 0 []::_) (λ w ho=>ho.row_nil _ _) ?_))))))))))
 refine zG (λ mz fz lz => ∃ (f0:Fr) (p:Nat) (out:List Ver) (po:Option Addr) (co n:Nat),(p<=h.pages/\out=(List.range p).flatMap (λ q=>(Zh h.vs q).filterMap (visV h))/\out.length=n/\n<=14*p)/\mz=h.pages-p/\fz=(upd (upd (upd f0 1 (.pointer (some ⟨g1,0,none⟩))) 3 (.slice po n co)) 4 (.int .i64 p))/\lz=verR po n co out::blk g1 (hrC ⟨pv,cv,pa,ca,pc,cc,pe,ce⟩ h) 33::hrL ⟨pv,cv,pa,ca,pc,cc,pe,ce⟩ h++F) ?_ ?_
 . refine ⟨_,_,⟨_,0,[],none,0,0,⟨Nat.zero_le _,rfl,rfl,Nat.le_refl _⟩,rfl,U3,rfl⟩,Sa⟩
 rintro mz fz lz ⟨f0,p,out,po,co,n,⟨hpp,ho0,hn,hn14⟩,hmz,rfl,rfl⟩
 subst mz
 try simp only [cA,nA]
 refine Ts (TS ?_)
 iterate 4 refine Lz ?_
 refine Ld ?_
 refine yN rfl (λ hlt=>?_) (λ hlt=>?_)
 .
  have hl14:=pages_len k.r.ok p
  refine Tk (Ts (yH (TS (La rfl (Ld (yH ?_))))))
  refine zG (λ mz fz lz => ∃ (f0:Fr) (s:Nat) (out:List Ver) (po:Option Addr) (co n:Nat),(s<=(Zh h.vs p).length/\out=(List.range p).flatMap (λ q=>(Zh h.vs q).filterMap (visV h))++((Zh h.vs p).take s).filterMap (visV h)/\out.length=n/\n<=14*p+s)/\mz=256-s/\fz=(upd (upd (upd (upd f0 1 (.pointer (some ⟨g1,0,none⟩))) 3 (.slice po n co)) 4 (.int .i64 p)) 5 (.int .i64 s))/\lz=verR po n co out::blk g1 (hrC ⟨pv,cv,pa,ca,pc,cc,pe,ce⟩ h) 33::hrL ⟨pv,cv,pa,ca,pc,cc,pe,ce⟩ h++F) ?_ ?_
  . refine ⟨_,_,⟨_,0,out,po,co,n,⟨Nat.zero_le _,by simp [ho0],hn,by omega⟩,rfl,U4,rfl⟩,Sa⟩
  rintro mz fz lz ⟨f0,s,out,po,co,n,⟨hs,ho,hn,hns⟩,hmz,rfl,rfl⟩
  subst mz
  try simp only [cA,nA]
  refine Ts (TS (Lm rfl (Lq (yM rfl rfl) (Ld (zM rfl (Tk (Ts (yH (TS ?_)))))))))
  iterate 3 refine Lz ?_
  refine Le (Ec (Hr.find B ⟨pv,cv,pa,ca,pc,cc,pe,ce⟩ h p s (by omega)) Tryz.func60 rfl rfl rfl ?_)
  rintro _ _ ⟨rfl,rfl⟩
  try simp only [cA,nA]
  refine La rfl (Ld (Ts (TS (Lm rfl (Lq (yM rfl rfl) (Ld ?_))))))
  have hfp:=findV_page k.r.ok.slots p s
  rw [if_pos ⟨by omega,by omega⟩,Int.toNat_natCast,Int.toNat_natCast] at hfp
  by_cases hi:We h.vs p s=none
  .
   rw [hi]
   rw [hi] at hfp
   have hse:s=(Zh h.vs p).length:=by have:=List.getElem?_eq_none_iff.1 hfp.symm;omega
   rw [hse,List.take_length] at ho
   refine zF rfl (zB (TR ?_))
   iterate 3 refine Lz ?_
   refine Ld ?_
   refine ⟨_,?_,_,⟨_,p+1,out,po,co,n,⟨by omega,by rw [all_next,ho],hn,by omega⟩,rfl,U3,rfl⟩,Sa⟩
   omega
  obtain ⟨i,hi⟩:=Option.ne_none_iff_exists'.1 hi
  obtain ⟨v,hvi,hvp,hvs⟩:=findV_some hi
  rw [hi] at hfp
  have hil:=(List.getElem?_eq_some_iff.1 hvi).1
  have hpv:(Zh h.vs p)[s]? = some v:=by rw [<-hfp];exact hvi
  have hsl:=(List.getElem?_eq_some_iff.1 hpv).1
  have htk:(Zh h.vs p).take (s+1)=(Zh h.vs p).take s++[v]:=by rw [List.take_succ_eq_append_getElem hsl,(List.getElem?_eq_some_iff.1 hpv).2]
  rw [hi]
  obtain ⟨gv,rfl⟩:=hp (by omega)
  refine yQ rfl (Tk (TS ?_))
  iterate 4 refine Lz ?_
  refine Lq (QL [.int .i64 v.page,.int .i64 v.slot,.int .i64 v.beg,.int .i64 v.fin,strW v.data] rfl (by rw [show [Value.int .i64 v.page,.int .i64 v.slot,.int .i64 v.beg,.int .i64 v.fin,strW v.data]=vrC (h.vs[i]'hil) by rw [(List.getElem?_eq_some_iff.1 hvi).2]];exact rdl_flat _ _ _ (by intros;rfl) _ (by omega))) ?_
  refine Le (El [.int .i64 0,.int .i64 0,.int .i64 0,.int .i64 0,.string .empty] (by unfold Zf;kernel_rfl) ?_)
  intro g7
  refine L0 (Es [_,_,_,_,_] rfl rfl rfl rfl (by simp) ?_)
  try simp only [splice,lC,lN,dS,cA,tS,tZ,dZ,nA,aN]
  refine Ld ?_
  refine T.cut (λ fz lz => ∃ (f0:Fr) (z:Nat),(¬ (Zp h v.beg=false/\Wa h v.beg=false))/\fz=(upd (upd (upd (upd (upd f0 1 (.pointer (some ⟨g1,0,none⟩))) 3 (.slice po n co)) 4 (.int .i64 p)) 5 (.int .i64 s)) 7 (.pointer (some ⟨g7,0,none⟩)))/\lz=blk g7 (vrC v) 123::verR po n co out::blk g1 (hrC ⟨some ⟨gv,0,none⟩,cv,pa,ca,pc,cc,pe,ce⟩ h) 33::hrL ⟨some ⟨gv,0,none⟩,cv,pa,ca,pc,cc,pe,ce⟩ h++F) ?_ ?_
  .
   refine TS ?_
   iterate 3 refine Lz ?_
   refine Le (Ec (Hr.isActive B ⟨some ⟨gv,0,none⟩,cv,pa,ca,pc,cc,pe,ce⟩ h v.beg) Tryz.func71 rfl rfl rfl ?_)
   rintro _ _ ⟨rfl,rfl⟩
   try simp only [cA,nA]
   by_cases ha:Zp h v.beg=true
   .
    rw [ha]
    refine Lq (Y2 rfl) (Lm rfl (yT (t:=34) rfl rfl ?_))
    iterate 6 refine Lz ?_
    refine Ld (yQ rfl (Tk ?_))
    exact ⟨_,⟨_,0,(by rintro ⟨e,_⟩;cases e),U5,rfl⟩,Sa⟩
   rw [Bool.not_eq_true] at ha
   rw [ha]
   refine Lq (Y2 rfl) (Lm rfl (zQ (t:=34) rfl rfl ?_))
   iterate 3 refine Lz ?_
   refine Le (Ec (Hr.isCommitted B ⟨some ⟨gv,0,none⟩,cv,pa,ca,pc,cc,pe,ce⟩ h v.beg) Tryz.func72 rfl rfl rfl ?_)
   rintro _ _ ⟨rfl,rfl⟩
   try simp only [cA,nA]
   by_cases hc:Wa h v.beg=true
   .
    rw [hc]
    refine Lq (Y2 rfl) (Lq (Qp rfl rfl) (Ld (yQ rfl (Tk ?_))))
    exact ⟨_,⟨_,0,(by rintro ⟨_,e⟩;cases e),U5,rfl⟩,Sa⟩
   rw [Bool.not_eq_true] at hc
   have hvis:visV h v=none:=by unfold visV;rw [if_pos ⟨ha,hc⟩]
   rw [hc]
   refine Lq (Y2 rfl) (Lq (Qp rfl rfl) (Ld (zF rfl (zB (TR ?_)))))
   iterate 3 refine Lz ?_
   refine Ld ?_
   refine ⟨_,?_,_,⟨_,s+1,out,po,co,n,⟨by omega,by rw [htk,List.filterMap_append,<-List.append_assoc,<-ho];simp [hvis],hn,by omega⟩,rfl,U4,rfl⟩,Sa⟩
   omega
  rintro fz lz ⟨f0,z,hsh,rfl,rfl⟩
  try simp only [cA,nA]
  refine Ts (TS ?_)
  iterate 3 refine Lz ?_
  refine Le (Ec (Hr.isActive B ⟨some ⟨gv,0,none⟩,cv,pa,ca,pc,cc,pe,ce⟩ h v.fin) Tryz.func71 rfl rfl rfl ?_)
  rintro _ _ ⟨rfl,rfl⟩
  try simp only [cA,nA]
  by_cases ha2:Zp h v.fin=true
  .
   rw [ha2]
   have hvis:visV h v=some v:=by unfold visV;rw [if_neg hsh,if_neg (by rw [ha2];simp)]
   refine Lq (Y2 rfl) (Lm rfl (yT (t:=46) rfl rfl ?_))
   iterate 6 refine Lz ?_
   refine Ld (yQ rfl (Tk (TR ?_)))
   iterate 2 refine Lz ?_
   refine Le (zK [_,_,_,_,_] (e:=123) (sz:=5) ⟨.agg #[.int .i64 0,.int .i64 0,.int .i64 0,.int .i64 0,.string .empty],by kernel_rfl,rfl⟩ rfl rfl rfl ?_)
   intro g56
   refine Le (Ea Hr.elemV rfl rfl (SrcOf.blk (by kernel_rfl) rfl (by simp [Value.oneCell'])) (by unfold maxLen;omega) ?_)
   rintro p2 c2 hp2
   rw [flat_snoc vrC out v]
   refine La rfl (Ld (TR ?_))
   iterate 3 refine Lz ?_
   refine Ld ?_
   refine ⟨_,?_,_,⟨_,s+1,out++[v],p2,c2,n+1,⟨by omega,by rw [htk,List.filterMap_append,<-List.append_assoc,<-ho];simp [hvis],by simp [hn],by omega⟩,rfl,U4,rfl⟩,Sa⟩
   omega
  rw [Bool.not_eq_true] at ha2
  rw [ha2]
  refine Lq (Y2 rfl) (Lm rfl (zQ (t:=46) rfl rfl ?_))
  iterate 3 refine Lz ?_
  refine Le (Ec (Hr.isCommitted B ⟨some ⟨gv,0,none⟩,cv,pa,ca,pc,cc,pe,ce⟩ h v.fin) Tryz.func72 rfl rfl rfl ?_)
  rintro _ _ ⟨rfl,rfl⟩
  try simp only [cA,nA]
  by_cases hc2:Wa h v.fin=true
  .
   rw [hc2]
   have hvis:visV h v=some v:=by unfold visV;rw [if_neg hsh,if_neg (by rw [hc2];simp)]
   refine Lq (Y2 rfl) (Lq (Qp rfl rfl) (Ld (yQ rfl (Tk (TR ?_)))))
   iterate 2 refine Lz ?_
   refine Le (zK [_,_,_,_,_] (e:=123) (sz:=5) ⟨.agg #[.int .i64 0,.int .i64 0,.int .i64 0,.int .i64 0,.string .empty],by kernel_rfl,rfl⟩ rfl rfl rfl ?_)
   intro g56
   refine Le (Ea Hr.elemV rfl rfl (SrcOf.blk (by kernel_rfl) rfl (by simp [Value.oneCell'])) (by unfold maxLen;omega) ?_)
   rintro p2 c2 hp2
   rw [flat_snoc vrC out v]
   refine La rfl (Ld (TR ?_))
   iterate 3 refine Lz ?_
   refine Ld ?_
   refine ⟨_,?_,_,⟨_,s+1,out++[v],p2,c2,n+1,⟨by omega,by rw [htk,List.filterMap_append,<-List.append_assoc,<-ho];simp [hvis],by simp [hn],by omega⟩,rfl,U4,rfl⟩,Sa⟩
   omega
  rw [Bool.not_eq_true] at hc2
  rw [hc2]
  have hvis:visV h v=some ⟨v.page,v.slot,v.beg,0,v.data⟩:=by unfold visV;rw [if_neg hsh,if_pos ⟨ha2,hc2⟩]
  refine Lq (Y2 rfl) (Lq (Qp rfl rfl) (Ld (zF rfl (TR (Lq (Qf (off:=3) rfl) ?_)))))
  refine L0 (E1 (by kernel_rfl) rfl rfl rfl (by first | (simp;done) | (simp;omega)) ?_)
  try simp only [List.set_cons_zero,List.set_cons_succ]
  refine Ld (TR ?_)
  iterate 2 refine Lz ?_
  refine Le (zK [_,_,_,_,_] (e:=123) (sz:=5) ⟨.agg #[.int .i64 0,.int .i64 0,.int .i64 0,.int .i64 0,.string .empty],by kernel_rfl,rfl⟩ rfl rfl rfl ?_)
  intro g56
  refine Le (Ea Hr.elemV rfl rfl (SrcOf.blk (by kernel_rfl) rfl (by simp [Value.oneCell'])) (by unfold maxLen;omega) ?_)
  rintro p2 c2 hp2
  rw [flat_snoc vrC out ⟨v.page,v.slot,v.beg,0,v.data⟩]
  refine La rfl (Ld (TR ?_))
  iterate 3 refine Lz ?_
  refine Ld ?_
  refine ⟨_,?_,_,⟨_,s+1,out++[⟨v.page,v.slot,v.beg,0,v.data⟩],p2,c2,n+1,⟨by omega,by rw [htk,List.filterMap_append,<-List.append_assoc,<-ho];simp [hvis],by simp [hn],by omega⟩,rfl,U4,rfl⟩,Sa⟩
  omega
 have hpe:p=h.pages:=by omega
 have hall:out=allR h:=by rw [ho0,hpe];rfl
 subst hn
 subst hall
 refine zB (TS (Lm rfl (La rfl (Ld (T.ret ?_)))))
 exact ⟨.inl rfl,_,_,res [_] rfl ⟨rvT rfl,trivial⟩,⟨po,co,rfl,rfl⟩,Sa⟩
end Go.Proofs.YtkfmfoecplbclaaGreatDoor
