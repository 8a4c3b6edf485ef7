/- The texts HeS SkA, one behind the other: what the law leans on. Conditions: as each theorem says. -/
import Derived.Test.YtfjjgdnepfgnhaaGreatDoorZHfBase12
import Derived.Shelf.SlSortCmp.NoneTotal
set_option linter.unusedSimpArgs false
set_option linter.unusedVariables false
set_option maxRecDepth 100000
set_option maxHeartbeats 16000000
namespace Go.Proofs.YtfjjgdnepfgnhaaGreatDoor
open Go.RowKit
theorem mod_set {R:List Int} {i:Nat} {d x:Int} (h:R[i]? = some x):R.modify i (· - d)=R.set i (x-d):=modify_set h _
theorem room_at (h:HR) (q:Nat):243-(ZO (Zi h.vs q):Int)=256-(Wi h.vs q:Int):=by rw [used_recs];unfold Wi;omega
theorem range_zero {f:Nat→Int} {k n:Nat} (hk:k<n):(((List.range k).map f)++List.replicate (n-k) 0).set k (f k)=((List.range (k+1)).map f)++List.replicate (n-(k+1)) 0:=by
 rw [List.set_append_right _ _ (by simp)]
 simp only [List.length_map,List.length_range,Nat.sub_self]
 rw [show n-k=(n-(k+1))+1 by omega,List.replicate_succ,List.set_cons_zero,List.range_succ,List.map_append]
 simp
theorem Hp.fits (B:Wn) (S:List Wp) (g b logs count n K:Nat) (h:HR) (hK:K+count<2^29) (h1c:1≤count) (ends:Int) (he : -(2^63)≤ends∧ends<2^63) (a:Option Addr) (ns c:Nat) (sizes:List Int) (hv:RdV B S (.slice a ns c) (sizes.map zV)) (hns:sizes.length=ns) (hns2:ns<2^40) :
  Fn Tryz.prog B 70 #[pV g,.int .i64 ends,.slice a ns c] (hpA g b logs count n K h::S) (fun u l=>u = .bool (fitsR h ends sizes)∧l=hpA g b logs count n (K+count) h::S):=by
 refine Fn.openHp fun x hi hp=>?_
 simp only [hpC,List.cons_append,List.nil_append]
 have hct:=hi.cnt
 have hpg:=hi.pages
 have hu:=hi.used
 have hr:=hi.room
 have hwst:=hi.s.inv.wst
 obtain ⟨l1,l2,l3⟩:=hi.s.log.first
 have hfe:=fits_eq (h:=h) ends sizes (by omega)
 have hlf:(h.room:Int)-h.used-25=((x.s.W.count:Int)*256-x.s.W.st.length)-25:=by rw [l2];omega
 rw [hlf] at hfe
 have hi2:HInv logs count n (K+count) x.s x.st h:=hi.mono (by omega)
 obtain ⟨lf,hlfx⟩ : ∃ lf,((x.s.W.count:Int)*256-x.s.W.st.length)-25=lf:=⟨_,rfl⟩
 rw [hlfx] at hfe
 have hlfb : -2000000<lf∧lf<2000000:=by rw [l2] at hlfx;omega
 rw [hfe]
 refine Ws 80 Tryz.func70 rfl rfl (nB rfl) (fun F=>?_)
 try simp only [cA,nA]
 refine TS (La rfl rfl (Ld (TS (Lm rfl rfl (Lq rfl (Qn rfl) ?_)))))
 refine Lq rfl (Qf (off:=3) (by kernel_rfl) rfl) (Lq rfl (Ql (by kernel_rfl) rfl rfl) ?_)
 refine Le rfl (Ec (Wl.left B x.q.gl b x.s.W (by omega) (by omega)) Tryz.func116 rfl rfl rfl ?_)
 rintro _ _ ⟨rfl,rfl⟩
 try simp only [cA,nA]
 refine Lq rfl (Qt.sub (r:=lf) rfl rfl (by rw [Ze (by omega) (by omega)];exact hlfx)) (La rfl rfl (Ld (Ts (TS (Lm rfl rfl (Lq rfl (yM rfl rfl) ?_))))))
 refine Lm rfl rfl ?_
 by_cases hb:ends<0∨lf<ends
 ·
  rw [show (decide (ends<0) || decide (lf<ends))=true by simpa using hb]
  by_cases h0:ends<0
  ·
   refine zQ (t:=21) rfl (decide_eq_true (by omega)) (Ls rfl (Ls rfl (Ls rfl (Lq rfl (Qp rfl rfl) (Ld (zF rfl (Ts ?_)))))))
   refine TR (La rfl rfl (Ld (T.ret ?_)))
   exact ⟨.inl rfl,_,_,res [_] rfl ⟨rvT rfl,trivial⟩,⟨rfl,rfl⟩,Wb [hpB g x.q x.pc h.cm.length x.cc h.last,stA x.q x.st,cmR x.pc h.cm.length x.cc h.cm,wlS b x.q x.s,plS b n logs count x.q x.s,Zn b x.s.D] x h hi2 rfl⟩
  refine yT (t:=21) rfl (decide_eq_false (by omega)) (Lm rfl rfl (Lm rfl rfl (Lq rfl (yZ rfl rfl) (Lq rfl (Qp rfl rfl) (Ld (zM rfl (by omega) (Ts ?_)))))))
  refine TR (La rfl rfl (Ld (T.ret ?_)))
  exact ⟨.inl rfl,_,_,res [_] rfl ⟨rvT rfl,trivial⟩,⟨rfl,rfl⟩,Wb [hpB g x.q x.pc h.cm.length x.cc h.last,stA x.q x.st,cmR x.pc h.cm.length x.cc h.cm,wlS b x.q x.s,plS b n logs count x.q x.s,Zn b x.s.D] x h hi2 rfl⟩
 rw [show (decide (ends<0) || decide (lf<ends))=false by simp;omega]
 simp only [Bool.not_false,Bool.true_and]
 refine yT (t:=21) rfl (decide_eq_false (by omega)) (Lm rfl rfl (Lm rfl rfl (Lq rfl (yZ rfl rfl) (Lq rfl (Qp rfl rfl) (Ld (yL rfl (by omega) (Tk ?_)))))))
 refine TS (Lm rfl rfl (Lm rfl rfl (Lq rfl (YG rfl rfl (Ze (by omega) (by omega))) (Lq rfl (Qt.sub rfl rfl (Ze (by omega) (by omega))) (La rfl rfl (Ld ?_))))))
 refine TS (Lm rfl rfl (Lq rfl (Qn rfl) (Lq rfl (Qf (off:=4) (by kernel_rfl) rfl) (Lq rfl (Ql (by kernel_rfl) rfl rfl) (Lq rfl (Qn rfl) (Lq rfl (Q0 (by kernel_rfl) rfl) ?_))))))
 refine Le rfl (Ec (Bp.pages B x.q.gp b n logs count x.s.hand x.q.gl x.s.A) Tryz.func36 rfl rfl rfl ?_)
 rintro _ _ ⟨rfl,rfl⟩
 try simp only [cA,nA]
 refine Le rfl (YK count (.int .i64 0) 8 Hp.elemI (by kernel_rfl) rfl rfl rfl rfl (by omega) (by unfold maxLen;omega) ?_)
 rintro gr
 rw [made_iz]
 refine Le rfl (El [.slice none 0 0] (by unfold Zf;kernel_rfl) ?_)
 intro g8
 refine L0 rfl (E1 (by kernel_rfl) rfl rfl rfl (by first | (simp;done) | (simp;omega)) ?_)
 try simp only [List.set_cons_zero,List.set_cons_succ]
 refine Ld (Ts (TS (Lq rfl (Ql (by kernel_rfl) rfl rfl) (Lq rfl (yI (e:=3) (sz:=1) (by kernel_rfl) rfl) (Lm rfl rfl (Ld ?_))))))
 refine yH ?_
 refine zG (fun mz fz lz => ∃ (f0:Fr) (k:Nat) (s2:Pl) (R:List Int),(k≤count∧SInv logs count n (K+k) s2 h.es (Zi h.vs)∧R=((List.range k).map fun q=>256-(Wi h.vs q:Int))++List.replicate (count-k) 0)∧mz=count-k∧fz=(upd (upd (upd (upd (upd (upd f0 0 (pV g)) 2 (.slice a ns c)) 7 (.int .i64 (lf-20*ends))) 8 (pV g8)) 39 (.int .i64 count)) 40 (.int .i64 k))∧lz=zR (some ⟨gr,0,none⟩) count count R::blk g8 [.slice (some ⟨gr,0,none⟩) count count] 174::hpB g x.q x.pc h.cm.length x.cc h.last::stA x.q x.st::cmR x.pc h.cm.length x.cc h.cm::wlS b x.q s2::plS b n logs count x.q s2::Zn b s2.D::(S++F)) ?_ ?_
 · refine ⟨_,_,⟨_,0,x.s,List.replicate count 0,⟨Nat.zero_le _,hi.s,by simp⟩,rfl,(Za rfl (Za rfl (Za rfl (Za rfl (Za rfl (Za rfl rfl)))))),rfl⟩,Sa⟩
 rintro mz fz lz ⟨f0,k,s2,R,⟨hk,hs2,hR⟩,hmz,rfl,rfl⟩
 subst mz
 have hRl:R.length=count:=by rw [hR];simp;omega
 refine TS (Lq rfl (yM rfl rfl) (Ld (Ts ?_)))
 refine yN rfl (fun hlt=>?_) (fun hlt=>?_)
 ·
  refine Tk (Ts (yH (TS (Lm rfl rfl ?_))))
  refine Le rfl (El [.int .i64 0] (by unfold Zf;kernel_rfl) ?_)
  intro g9
  refine L0 rfl (E1 (by kernel_rfl) rfl rfl rfl (by first | (simp;done) | (simp;omega)) ?_)
  try simp only [List.set_cons_zero,List.set_cons_succ]
  refine Ld (TR (Lm rfl rfl (Lq rfl (Ql (by kernel_rfl) rfl rfl) (Lq rfl (Y4 [_,_] rfl) ?_))))
  refine Le rfl (Ec (Hp.with B g b n logs count (K+k) x.q x.pc h.cm.length x.cc h.last s2 h.es (Zi h.vs) hs2 (by omega) k (by omega) k rfl 0 0 rfl (by omega) 117 Tryz.f117 [pV g8,pV g9] [blk g8 [.slice (some ⟨gr,0,none⟩) count count] 174,blk g9 [.int .i64 k] 3,zR (some ⟨gr,0,none⟩) count count R] (fun bb r' X'=>bb=false∧X'=[blk g8 [.slice (some ⟨gr,0,none⟩) count count] 174,blk g9 [.int .i64 k] 3,zR (some ⟨gr,0,none⟩) count count (R.set k (243-(ZO (Zi h.vs k):Int)))]) Tryz.func117 rfl rfl (fun gpg m=>(Hp.fits1 B (hpB g x.q x.pc h.cm.length x.cc h.last) gpg g8 gr count count g9 (Zi h.vs k) m R hRl (by omega) k (by omega)).mono (fun v l ⟨h1,h2⟩=>⟨false,_,_,⟨rfl,rfl⟩,h1,h2⟩)) (fun r' X' hh=>by obtain ⟨h1,_⟩:=hh;cases h1)) Tryz.func43 rfl rfl rfl ?_)
  rintro _ _ ⟨bb,r',X',s',⟨rfl,rfl⟩,hS,rfl,rfl⟩
  try simp only [cA,nA]
  have hS2:SInv logs count n (K+k+1) s' h.es (Zi h.vs):=by simpa [rcSet] using hS
  refine Ld (TR (Lq rfl (Qd rfl rfl (Ze (by omega) (by omega))) (Lm rfl rfl (Ld ?_))))
  refine ⟨_,?_,_,⟨_,k+1,s',R.set k (243-(ZO (Zi h.vs k):Int)),⟨by omega,hS2,by rw [hR,room_at];exact range_zero (by omega)⟩,rfl,(Za rfl (Za rfl (Za rfl (Za rfl (Za rfl (Za rfl rfl)))))),rfl⟩,Sa⟩
  omega
 obtain rfl:k=count:=by omega
 have hi3:HInv logs k n (K+k) s2 x.st h:=⟨hs2,hi.r,hi.st,hi.pages,hi.room,by have:=hi.lastK;omega⟩
 have hRR:R=roomsL h:=by rw [hR,Nat.sub_self];unfold roomsL;rw [hpg];simp
 have hRb : ∀ r∈R,0≤r∧r≤256:=fun r hr=>by
  rw [hRR] at hr
  obtain ⟨q,hq,rfl⟩:=List.mem_map.1 hr
  have:=hi.r.ok.room q
  omega
 clear hR hlt hk
 refine zB (Ts (TS (Lm rfl rfl (Lq rfl (yI (e:=3) (sz:=1) (by kernel_rfl) rfl) (Lm rfl rfl (Ld ?_))))))
 refine yH ?_
 refine zG (fun mz fz lz => ∃ (f0:Fr) (j:Nat) (left:Int) (R2:List Int),(j≤ns∧R2.length=k∧(∀ r∈R2,0≤r∧r≤256) ∧ -(50000000+300*(j:Int))<left∧left<2000000∧fitsP (roomsL h) (lf-20*ends) sizes=fitsP R2 left (sizes.drop j))∧mz=ns-j∧fz=(upd (upd (upd (upd (upd (upd (upd f0 0 (pV g)) 2 (.slice a ns c)) 7 (.int .i64 left)) 8 (pV g8)) 48 (.slice a ns c)) 49 (.int .i64 ns)) 50 (.int .i64 j))∧lz=zR (some ⟨gr,0,none⟩) k k R2::blk g8 [.slice (some ⟨gr,0,none⟩) k k] 174::hpB g x.q x.pc h.cm.length x.cc h.last::stA x.q x.st::cmR x.pc h.cm.length x.cc h.cm::wlS b x.q s2::plS b n logs k x.q s2::Zn b s2.D::(S++F)) ?_ ?_
 · refine ⟨_,_,⟨_,0,lf-20*ends,R,⟨Nat.zero_le _,hRl,hRb,by omega,by omega,by rw [hRR];rfl⟩,rfl,(Za rfl (Za rfl (Za rfl (Za rfl (Za rfl (Za rfl (Za rfl rfl))))))),rfl⟩,Sa⟩
 rintro mz fz lz ⟨f0,j,left,R2,⟨hj,hR2l,hR2b,hlb1,hlb2,hff⟩,hmz,rfl,rfl⟩
 subst mz
 refine TS (Lq rfl (yM rfl rfl) (Ld (Ts ?_)))
 refine yN rfl (fun hlt=>?_) (fun hlt=>?_)
 ·
  obtain ⟨b0,o0,rfl,hcell⟩:=hv.at (by omega)
  have hjs:j<sizes.length:=by omega
  have hc1:=fun w ho=>hcell j (by simp;omega) w ho
  simp only [List.getElem_map] at hc1
  obtain ⟨sz,hsz⟩ : ∃ sz,sz=sizes[j]:=⟨_,rfl⟩
  rw [←hsz] at hc1
  rw [List.drop_eq_getElem_cons hjs,←hsz] at hff
  by_cases hs:sz<0∨184<sz
  ·
   rw [hff,show fitsP R2 left (sz::sizes.drop (j+1))=false by unfold fitsP;rw [if_pos hs]]
   by_cases hs0:sz<0
   ·
    refine Tk (Ts (yH (TS (Lq rfl (Qi _ (e:=3) (sz:=1) (by kernel_rfl) rfl rfl rfl (by omega)) (Lq rfl (zN (v:=zV sz) (by kernel_rfl) rfl (fun w ho=>hc1 w (ho.map Sa))) ?_)))))
    refine Le rfl (El [.int .i64 0] (by unfold Zf;kernel_rfl) ?_)
    intro g11
    refine L0 rfl (E1 (by kernel_rfl) rfl rfl rfl (by first | (simp;done) | (simp;omega)) ?_)
    try simp only [List.set_cons_zero,List.set_cons_succ]
    refine Ld (Ts (TS (Lq rfl (Ql (by kernel_rfl) rfl rfl) (Lq rfl (yM rfl rfl) (Lm rfl rfl (zQ (t:=56) rfl (decide_eq_true (by omega)) ?_))))))
    refine Ls rfl (Ls rfl (Lq rfl (Qp rfl rfl) (Ld (zF rfl (TS (La rfl rfl ?_))))))
    refine Ld (T.ret ?_)
    exact ⟨.inl rfl,_,_,res [_] rfl ⟨rvT rfl,trivial⟩,⟨rfl,rfl⟩,Wb [hpB g x.q x.pc h.cm.length x.cc h.last,stA x.q x.st,cmR x.pc h.cm.length x.cc h.cm,wlS b x.q s2,plS b n logs k x.q s2,Zn b s2.D] {x with s:=s2} h hi3 rfl⟩
   refine Tk (Ts (yH (TS (Lq rfl (Qi _ (e:=3) (sz:=1) (by kernel_rfl) rfl rfl rfl (by omega)) (Lq rfl (zN (v:=zV sz) (by kernel_rfl) rfl (fun w ho=>hc1 w (ho.map Sa))) ?_)))))
   refine Le rfl (El [.int .i64 0] (by unfold Zf;kernel_rfl) ?_)
   intro g11
   refine L0 rfl (E1 (by kernel_rfl) rfl rfl rfl (by first | (simp;done) | (simp;omega)) ?_)
   try simp only [List.set_cons_zero,List.set_cons_succ]
   refine Ld (Ts (TS (Lq rfl (Ql (by kernel_rfl) rfl rfl) (Lq rfl (yM rfl rfl) (Lm rfl rfl (yT (t:=56) rfl (decide_eq_false (by omega)) ?_))))))
   refine Lq rfl (Ql (by kernel_rfl) rfl rfl) (Lq rfl (yZ rfl rfl) (Lq rfl (Qp rfl rfl) (Ld (zM rfl (by omega) (TS (La rfl rfl ?_))))))
   refine Ld (T.ret ?_)
   exact ⟨.inl rfl,_,_,res [_] rfl ⟨rvT rfl,trivial⟩,⟨rfl,rfl⟩,Wb [hpB g x.q x.pc h.cm.length x.cc h.last,stA x.q x.st,cmR x.pc h.cm.length x.cc h.cm,wlS b x.q s2,plS b n logs k x.q s2,Zn b s2.D] {x with s:=s2} h hi3 rfl⟩
  refine Tk (Ts (yH (TS (Lq rfl (Qi _ (e:=3) (sz:=1) (by kernel_rfl) rfl rfl rfl (by omega)) (Lq rfl (zN (v:=zV sz) (by kernel_rfl) rfl (fun w ho=>hc1 w (ho.map Sa))) ?_)))))
  refine Le rfl (El [.int .i64 0] (by unfold Zf;kernel_rfl) ?_)
  intro g11
  refine L0 rfl (E1 (by kernel_rfl) rfl rfl rfl (by first | (simp;done) | (simp;omega)) ?_)
  try simp only [List.set_cons_zero,List.set_cons_succ]
  refine Ld (Ts (TS (Lq rfl (Ql (by kernel_rfl) rfl rfl) (Lq rfl (yM rfl rfl) (Lm rfl rfl (yT (t:=56) rfl (decide_eq_false (by omega)) ?_))))))
  refine Lq rfl (Ql (by kernel_rfl) rfl rfl) (Lq rfl (yZ rfl rfl) (Lq rfl (Qp rfl rfl) (Ld (yL rfl (by omega) (Tk (TS ?_))))))
  refine Lm rfl rfl (Lq rfl (Ql (by kernel_rfl) rfl rfl) (Lq rfl (Qd rfl rfl (Ze (by omega) (by omega))) (Lq rfl (Qt.sub rfl rfl (Ze (by omega) (by omega))) (La rfl rfl (Ld (TS ?_))))))
  refine Lq rfl (Ql (by kernel_rfl) rfl rfl) (Lq rfl (Y4 [_] rfl) ?_)
  refine Le rfl (Ec (Hp.index B gr k k R2 hR2l (by omega) g11 sz (by omega)) Tryz.func118 rfl rfl rfl ?_)
  rintro _ _ ⟨rfl,rfl⟩
  try simp only [cA,nA]
  by_cases hno:(R2.findIdx? fun r=>decide (sz+17≤r))=none
  ·
   have hfalse:fitsP R2 left (sz::sizes.drop (j+1))=false:=by unfold fitsP;rw [if_neg hs,hno]
   rw [hff,hfalse]
   rw [hno]
   refine La rfl rfl (Ld (Ts (TS (Lm rfl rfl (Lq rfl (yM rfl rfl) (Ld ?_))))))
   refine zF rfl (TS (La rfl rfl (Ld (T.ret ?_))))
   exact ⟨.inl rfl,_,_,res [_] rfl ⟨rvT rfl,trivial⟩,⟨rfl,rfl⟩,Wb [hpB g x.q x.pc h.cm.length x.cc h.last,stA x.q x.st,cmR x.pc h.cm.length x.cc h.cm,wlS b x.q s2,plS b n logs k x.q s2,Zn b s2.D] {x with s:=s2} h hi3 rfl⟩
  obtain ⟨i,hi⟩:=Option.ne_none_iff_exists'.1 hno
  obtain ⟨hil,hi1,_⟩:=List.findIdx?_eq_some_iff_getElem.1 hi
  have hi1:sz+17≤R2[i]:=by simpa using hi1
  have hrb:=hR2b R2[i] (List.getElem_mem _)
  have hstep:fitsP R2 left (sz::sizes.drop (j+1))=fitsP (R2.set i (R2[i]-(sz+17))) (left-(20+sz)) (sizes.drop (j+1)):=by
   conv=>lhs;unfold fitsP
   rw [if_neg hs,hi]
   dsimp only
   rw [mod_set (List.getElem?_eq_getElem hil)]
  rw [hi,show idxI (some i)=(i:Int) from rfl]
  refine La rfl rfl (Ld (Ts (TS (Lm rfl rfl (Lq rfl (yM rfl rfl) (Ld ?_))))))
  refine yQ rfl (Tk (zU 7 (by kernel_rfl) (nB rfl) (by kernel_rfl) (Rq 0 rfl rfl (by kernel_rfl) (Sr _) (Ql (by kernel_rfl) rfl rfl) (Rq 1 rfl rfl (by kernel_rfl) (Sr _) (Qm rfl) (Rq 2 rfl rfl (by kernel_rfl) (Sr _) (Qi _ (e:=3) (sz:=1) (by kernel_rfl) rfl rfl rfl (by omega)) (Rq 3 rfl rfl (by kernel_rfl) (Sr _) (Ql (v:=zV R2[i]) (by kernel_rfl) rfl (map_at _ _ _ (by omega))) (Rq 4 rfl rfl (by kernel_rfl) (Sr _) (Ql (by kernel_rfl) rfl rfl) ?_)))))))
  refine Rq 5 rfl rfl (by kernel_rfl) (Sr _) (Qd rfl rfl (Ze (by omega) (by omega))) (Rq 6 rfl rfl (by kernel_rfl) (Sr _) (Qt.sub rfl rfl (Ze (by omega) (by omega))) (Rd0 (by rfl) ?_))
  simp only [dS,dZ,dN]
  refine Lq rfl (Qi _ (e:=3) (sz:=1) (by kernel_rfl) rfl rfl rfl (by omega)) ?_
  refine L0 rfl (E1 (by kernel_rfl) rfl rfl rfl (by first | (simp;done) | (simp;omega)) ?_)
  refine Ld (TR (Lq rfl (Qd rfl rfl (Ze (by omega) (by omega))) (Lm rfl rfl (Ld ?_))))
  rw [set_map zV R2 i (R2[i]-(sz+17))]
  refine ⟨_,?_,_,⟨_,j+1,left-(20+sz),R2.set i (R2[i]-(sz+17)),⟨by omega,by rw [List.length_set];exact hR2l,fun r hr=>by rcases List.mem_or_eq_of_mem_set hr with hr | rfl;exact hR2b r hr;omega,by omega,by omega,by rw [hff,hstep]⟩,rfl,(Za rfl (Za rfl (Za rfl (Za rfl (Za rfl (Za rfl (Za rfl rfl))))))),rfl⟩,Sa⟩
  omega
 obtain rfl:j=ns:=by omega
 rw [List.drop_of_length_le (by omega)] at hff
 rw [hff]
 refine zB (TS (Lm rfl rfl (Lq rfl (zX rfl rfl) (La rfl rfl (Ld (T.ret ?_))))))
 exact ⟨.inl rfl,_,_,res [_] rfl ⟨rvT rfl,trivial⟩,⟨rfl,rfl⟩,Wb [hpB g x.q x.pc h.cm.length x.cc h.last,stA x.q x.st,cmR x.pc h.cm.length x.cc h.cm,wlS b x.q s2,plS b n logs k x.q s2,Zn b s2.D] {x with s:=s2} h hi3 rfl⟩
end Go.Proofs.YtfjjgdnepfgnhaaGreatDoor
namespace Go.Proofs.YtfjjgdnepfgnhaaGreatDoor
open Go.RowKit Go.Shelf Go.Lib Go.Sort
section
variable {P : Program} {B:Wn} {α:Type} [Inhabited α]
theorem put_takeK (d:Array Value) (cur:Array Value) (h:d.size≤cur.size):(putCells id 0 d cur).toList.take d.size=d.toList:=by
  apply List.ext_getElem
  · simp [putCells];omega
  · intro i h1 h2
    have hi:i<d.size:=by simpa using h2
    simp [putCells,hi,getElem!_pos]
theorem Own.sortedK {w:World} {g m cap k sz:Nat} {e:TypeId} {cs:List Value} {l:List Wp} (H:Own B w (row (.slice (some ⟨g,0,none⟩) m cap) e sz m cs::l)) (d':Array Value) (hd:d'.size=m*sz) (os:Array Obj):Own B (sortWorld id w g 0 k d' os) (row (.slice (some ⟨g,0,none⟩) m cap) e sz m d'.toList::l):=by
  obtain ⟨e1,e2⟩:=H.row_owns
  rcases e2 with ⟨e2,_⟩ | ⟨g',cap',cur,e2,_,e3,e4,e5,e6,e7⟩
  · cases e2
  · injection e2 with e2 _ e8
    injection e2 with e2
    injection e2 with e2
    subst e2;subst e8
    have hle:m*sz≤cap*sz:=Nat.mul_le_mul_right _ e4
    refine H.row_kept (by simpa [Value.ownBlock] using sort_kept id w g k d' os) ⟨by simp [hd],.inr ⟨g,cap,_,rfl,Nat.zero_le _,sort_block id w g k d' os e3,e4,e5,by simp [putCells,e6],?_⟩⟩ (fun g2 hg => .inl hg)
    rw [←hd]
    exact put_takeK d' cur (by omega)
theorem flatK_list (enc:α→List Value) (k:Nat) (hk : ∀ x,(enc x).length=k) (ds:List α):(flatK enc k ds.toArray).toList=ds.flatMap enc:=by
  apply List.ext_getElem?
  intro i
  have hl:(ds.flatMap enc).length=ds.length*k:=by
    induction ds with
    | nil=>simp
    | cons a l ih=>simp [hk] at ih ⊢;rw [ih,Nat.add_mul,Nat.one_mul,Nat.add_comm]
  by_cases hi:i<ds.length*k
  · have h1:=get_flatK enc k ds.toArray i (by simpa using hi)
    have hk0:0<k:=by rcases Nat.eq_zero_or_pos k with e | e;(subst e;simp at hi);exact e
    have hq:i/k<ds.length:=Nat.div_lt_of_lt_mul (by rw [Nat.mul_comm];exact hi)
    have hr:i%k<k:=Nat.mod_lt _ hk0
    have hv:(enc ds[i/k])[i%k]? = some ((enc ds[i/k])[i%k]'(by rw [hk];exact hr)):=List.getElem?_eq_getElem _
    have h2:=flat_cell enc k ds (fun x _=>hk x) (i/k) (i%k) hq hv
    rw [Nat.zero_add,show i/k*k+i%k=i by rw [Nat.mul_comm];exact Nat.div_add_mod i k] at h2
    rw [h2]
    have hs:i<(flatK enc k ds.toArray).size:=by simpa using hi
    rw [Array.getElem?_toList,Array.getElem?_eq_getElem hs]
    rw [getElem!_pos (flatK enc k ds.toArray) i hs] at h1
    rw [h1]
    simp [hq,getElem!_pos,hk,hr]
  · have hs2:(flatK enc k ds.toArray).toList.length=ds.length*k:=by simp
    rw [List.getElem?_eq_none (by omega),List.getElem?_eq_none (by rw [hl];omega)]
theorem Fn.sortK {ρ:Ren} (L:SlLaysF0.n6 P ρ) (k:Nat) (aE : ∀ w,(isAgg (ρ.t 24)).run P w = .ok true w) (zE : ∀ w,(Go.sizeOf (ρ.t 24)).run P w = .ok k w) (enc:α→List Value) (hk : ∀ x,(enc x).length=k) (h1 : ∀ x,∀ v∈enc x,v.oneCell'=true) (cf:α→α→Int) (hO:SWO (ltOf cf)) (gc:Nat) (e:TypeId) (eg : ∀ args w,(callFunc gc args).run P w = .ok (.enter gc args) w) (v:Value) (m:Nat) (ds:List α) (hm:ds.length=m) (hb:m<2^61) (S:List Wp)
    (hcmp : ∀ x y W,Own B W S→Calls P gc #[.agg (enc x).toArray,.agg (enc y).toArray] W fun e w'=>e = .returned (.int .i64 (cf x y)) ∧ ∃ q os',w'=grow (W.drewN q) os') (f:Nat) (hf:ρ.f 6=f) :
    Fn P B f #[v,.func (.func gc) #[] #[]] (row v e k m (ds.flatMap enc)::S) (fun u l=>u = .tuple #[] ∧ ∃ ds':List α,ds'.Perm ds∧SortedIn (ltOf cf) 0 m ds'.toArray∧l=row v e k m (ds'.flatMap enc)::S):=⟨fun w F ho=>by
  subst hf
  obtain ⟨p,cap,rfl,hp,hl⟩:=Own.row_slice ho
  have hfl:(ds.flatMap enc).length=m*k:=hl
  rcases Nat.eq_zero_or_pos m with h0 | h0
  · subst h0
    obtain rfl:ds=[]:=List.eq_nil_of_length_eq_zero hm
    refine (AnyF.slices_SortFunc_none {L with} p cap (.func (.func gc) #[] #[]) w).mono ?_
    rintro _ w' ⟨rfl,rfl⟩
    exact ⟨_,_,rfl,⟨rfl,[],List.Perm.refl _,fun i h=>by omega,rfl⟩,ho⟩
  · obtain ⟨g,rfl⟩:=hp h0
    have hsz:ds.toArray.size=m:=by simpa using hm
    have hfk:=flatK_list enc k hk ds
    obtain ⟨e1,e2⟩:=ho.row_owns
    rcases e2 with ⟨e2,_⟩ | ⟨g',cap',cur,e2,_,e3,e4,e5,e6,e7⟩
    · cases e2
    · injection e2 with e2 _ e8
      injection e2 with e2
      injection e2 with e2
      subst e2;subst e8
      have hle:m*k≤cap*k:=Nat.mul_le_mul_right _ e4
      have hH:HoldsK enc k w g 0 ds.toArray:=fun j hj=>by
        have hj':j<m*k:=by simpa [hsz] using hj
        have hc:cur[j]? = some (flatK enc k ds.toArray)[j]:=by
          rw [←Array.getElem?_toList]
          have:(cur.toList.take (m*k))[j]? = (ds.flatMap enc)[j]? := by rw [e7]
          rw [List.getElem?_take,if_pos (by omega)] at this
          rw [this,←hfk,Array.getElem?_toList,Array.getElem?_eq_getElem hj]
        constructor
        · unfold World.cell?
          rw [e3]
          simp [hc]
          exact (getElem!_pos (flatK enc k ds.toArray) j hj).symm
        · unfold World.frozen?
          rw [e3]
          simp
      have hblk:g<w.heap.size:=Zk e3
      have hlays:CmpLays P gc #[] enc k cf g 0 ds.toArray.size w:=fun q os dk hdk x y=>by
        have h2:=ho.sortedK (k:=q) (flatK enc k dk) (by simp [hdk,hsz]) os
        refine (hcmp x y _ ((h2.map fun _ k=>k.tail).drop)).mono ?_
        rintro _ w' ⟨rfl,q,os',rfl⟩
        exact ⟨rfl,q,os',rfl⟩
      have h:=AnyQ.slices_SortFunc L k aE zE enc hk h1 cf hO gc #[] g 0 cap ds.toArray w eg hlays hH hblk (by omega)
      rw [hsz] at h
      refine h.mono ?_
      rintro _ w' ⟨rfl,d',q,os,hp1,hp2,rfl⟩
      obtain ⟨q1,q2,q3⟩:=hp1
      have hd':d'.size=m:=by omega
      have hso:=ho.sortedK (k:=q) (flatK enc k d') (by simp [hd']) os
      refine ⟨_,_,rfl,⟨rfl,d'.toList,?_,by simpa using hp2,rfl⟩,?_⟩
      · have e1:d'.extract 0 m=d':=by rw [←hd'];simp
        have e2:ds.toArray.extract 0 m=ds.toArray:=by rw [←hsz];simp
        rw [e1,e2] at q3
        simpa using q3
      · have:=flatK_list enc k hk d'.toList
        rw [Array.toArray_toList] at this
        rw [←this]
        exact hso⟩
end
end Go.Proofs.YtfjjgdnepfgnhaaGreatDoor
