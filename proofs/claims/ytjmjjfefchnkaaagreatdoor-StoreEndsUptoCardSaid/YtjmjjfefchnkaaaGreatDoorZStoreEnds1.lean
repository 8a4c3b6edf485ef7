/- The law StoreEnds of annalslaw21 holds (its card): for all arguments of bulk at most 1048576 the call returns true and the arguments read as before. Condition: the bound of the second form. -/
import Derived.Test.YtjmjjfefchnkaaaGreatDoorZStBase15
set_option linter.unusedSimpArgs false
set_option linter.unusedVariables false
set_option maxRecDepth 100000
set_option maxHeartbeats 16000000
namespace Go.Proofs.YtjmjjfefchnkaaaGreatDoor
open Go.ChangeShapes Go.WideShapes Go.ChangeAt Go.RowKit
section
variable {H : Type} {enc:TypeId×Value→H} {W:World}
theorem read_arr64 (n:Nat) (cs:List Value) (y:DataW H×List MemPlace) (h:Tr enc Tryz.prog W n 63 cs=some y) : ∃ a b c:Int,cs=[.int .i64 a,.int .i64 b,.int .i64 c]:=by
 obtain ⟨ys,m',e',e4,hl4,hy,hg⟩:=DataW.trod_array Tryz.underlying63 h
 have k0:Tryz.prog.cellsOf 2=1:=by kernel_rfl
 rw [show Tryz.prog.cellsOf 63=3 by kernel_rfl] at hl4
 obtain ⟨c0,c1,c2,rfl⟩:=len3 hl4
 obtain ⟨y0,y1,y2,rfl⟩:=len3 hy
 have g0:=hg 0 (by omega)
 have g1:=hg 1 (by omega)
 have g2:=hg 2 (by omega)
 simp only [k0,Nat.zero_mul,Nat.one_mul,Nat.mul_one,List.drop_zero,List.drop_succ_cons,List.take_succ_cons,List.take_zero,List.getElem?_cons_zero,List.getElem?_cons_succ] at g0 g1 g2
 obtain ⟨j0,q0,_,_⟩:=DataW.trod_int Tryz.underlying2 g0
 obtain ⟨j1,q1,_,_⟩:=DataW.trod_int Tryz.underlying2 g1
 obtain ⟨j2,q2,_,_⟩:=DataW.trod_int Tryz.underlying2 g2
 simp only [List.cons.injEq,and_true] at q0 q1 q2
 subst q0;subst q1;subst q2
 exact ⟨_,_,_,rfl⟩
end
open Go.RowKit
open Go.RowKit
abbrev enF : Fx1:=⟨[⟨1,1,[]⟩],0,9⟩
abbrev enD : List UInt8:=encL (valsF 1 enF)
abbrev ew1 : HR:=(writeS (newR 8 3072) 10 [] [enD]).1
theorem enOk : FxOk 1 enF:=recE_ok (by decide) (by simp) (by kernel_rfl)
theorem en_rd : FxRd enF:=⟨by simp,by simp,by simp,by simp⟩
theorem en_c1 : codeS (newR 8 3072) 10 [] [(1,enF)]=0:=by kernel_rfl
theorem en_d1 : recD 1 enF=enD:=by kernel_rfl
theorem en_v1 : ew1.vs=[⟨0,0,1,0,enD⟩]:=by kernel_rfl
theorem en_m1 : ew1.cm=[(1,10)]:=by kernel_rfl
theorem en_l1 : ew1.last=1:=by kernel_rfl
theorem en_e1 : endsG ew1 [] [(0,0)]=true:=by kernel_rfl
theorem en_f1 : ((List.range 185).all fun n=>fitsR ew1 1 [(n:Int)])=true:=by kernel_rfl
theorem en_s1 : SI ew1 8 3072:=by
 have:=code_write (SI.new 8 3072) (by omega) (by decide) (ps:=[(1,enF)]) (by simp [en_rd]) en_c1
 exact this.2.2.2.2.1
theorem en_t1 (t:Int):stampR ew1 t=if t=1 then 10 else 0:=by
 show stampL _ t=_
 rw [en_m1]
 unfold stampL
 by_cases q:t=1
 · subst q;rfl
 · rw [if_neg q,List.find?_cons_of_neg (by simp;omega)];rfl
theorem en_h1 (t:Int):histR ew1 t=if 1=t∨t<0 then [⟨0,0,1,enF,10,0⟩] else []:=by
 rw [hist_one en_s1 en_v1 enOk rfl,en_t1,en_t1];rfl
theorem en_a1 : lastS ew1=10:=by unfold lastS;rw [en_m1];rfl
theorem ends_no {F0:Fx1} {st e:Int} (he:codeS ew1 st [(0,0)] [(1,F0)]=e) (h0:e≠0):recE 1 F0≠0∨st≤10∨1099511627776<st:=by
  by_cases h1:recE 1 F0=0
  · by_cases h2:st≤10∨1099511627776<st
    · exact .inr h2
    · exfalso
      have hr:recsE [(1,F0)]=0:=by rw [recsE_cons,if_neg (by simp [h1])];rfl
      have hl:(recD 1 F0).length≤184:=by
        unfold recD
        rw [if_pos h1]
        unfold recE at h1
        split at h1
        · cases h1
        · split at h1
          · cases h1
          · split at h1
            · rename_i a;exact absurd h1 a
            · split at h1
              · cases h1
              · omega
      have hf:=List.all_eq_true.1 en_f1 (recD 1 F0).length (List.mem_range.2 (by omega))
      refine h0 (he.symm.trans (code_ok hr ?_ en_e1 hf))
      rw [en_a1];exact h2
  · exact .inl h1
theorem ends_ok {F0:Fx1} (hf:FxRd F0) {st:Int} (he:codeS ew1 st [(0,0)] [(1,F0)]=0) : ∃ h2:HR,(writeS ew1 st [(0,0)] ([((1:Int),F0)].map fun p=>recD p.1 p.2)).1=h2∧SI h2 8 3072∧10<st∧lastS h2=st∧h2.last=2∧h2.cm.length=2∧(histR h2 1).length=2∧(seeR h2 1 st).length=1∧(∀ a,(seeR h2 1 a).length≤1)∧opnR h2 (0,0)=false:=by
  obtain ⟨h1,h2,_,h4,s1,w⟩:=code_write en_s1 (by omega) (by rw [en_l1];decide) (ps:=[(1,F0)]) (by simp [hf]) he
  obtain ⟨h5,h6⟩:=h4 (1,F0) (by simp)
  rw [en_a1] at h1
  refine ⟨_,rfl,s1,h1,w.lastS,?_⟩
  rw [show [((1:Int),F0)].map (fun p=>recD p.1 p.2)=[encL (valsF 1 F0)] from congrArg (fun d=>[d]) h6] at s1 w ⊢
  generalize (writeS ew1 st [(0,0)] [encL (valsF 1 F0)]).1=g at s1 w ⊢
  have hl:=w.last
  have hcm:=w.cm
  rw [en_l1] at hl hcm
  rw [en_m1] at hcm
  obtain ⟨N,e1,e2,e3⟩:=w.vs
  obtain ⟨v,rfl⟩ : ∃ v,N=[v]:=List.length_eq_one_iff.1 (by have:=congrArg List.length e3;simpa using this)
  obtain ⟨v1,v2⟩:=e2 v (by simp)
  have v3:v.data=encL (valsF 1 F0):=by simpa using e3
  rw [en_l1] at v1 e1
  have e4:g.vs=[⟨0,0,1,2,enD⟩,v]:=by rw [e1,en_v1];rfl
  have t1:stampR g 1=10:=by show stampL _ _=_;rw [hcm];rfl
  have t2:stampR g 2=st:=by show stampL _ _=_;rw [hcm];rfl
  have t0:=s1.stamp0
  have i1 : ∀ d,inT 1 ⟨0,0,1,2,enD⟩=true∧(d=1→inT d v=true):=fun d=>⟨by rw [inT_rec enOk rfl];rfl,fun q=>by rw [inT_rec h5 v3,q];rfl⟩
  have f1:g.vs.filter (inT 1)=g.vs:=by
    rw [e4,List.filter_cons_of_pos (i1 1).1,List.filter_cons_of_pos ((i1 1).2 rfl)];rfl
  have hsee : ∀ a,(seeR g 1 a).length=(if 10≤a∧a<st then 1 else 0)+(if st≤a then 1 else 0):=fun a=>by
    rw [s1.see_len,f1,e4,List.filter_cons,List.filter_cons,List.filter_nil]
    have a1:atT g a ⟨0,0,1,2,enD⟩=decide (10≤a∧a<st):=by
      unfold atT
      dsimp only
      rw [t1,t2,decide_eq_decide]
      omega
    have a2:atT g a v=decide (st≤a):=by
      unfold atT
      rw [v1,v2,t0,show (1:Int)+1=2 from rfl,t2,decide_eq_decide]
      simp
    rw [a1,a2]
    by_cases q:10≤a∧a<st
    · have q2 : ¬ st≤a:=by omega
      simp [q,q2]
    · by_cases q2:st≤a
      · rw [if_neg (by simpa using q),if_pos (by simpa using q2),if_neg q,if_pos q2];rfl
      · rw [if_neg (by simpa using q),if_neg (by simpa using q2),if_neg q,if_neg q2];rfl
  refine ⟨hl,by rw [hcm];rfl,by rw [s1.hist_len,f1,e4];rfl,?_,fun a=>?_,?_⟩
  · rw [hsee,if_neg (by omega),if_pos (Int.le_refl _)]
  · rw [hsee];split <;> split <;> omega
  · unfold opnR
    rw [List.any_eq_false]
    intro u hu
    have hu:=s1.mem.1 hu
    rw [decide_eq_true_eq]
    rintro ⟨p1,p2,p3⟩
    rw [e4] at hu
    rcases List.mem_cons.1 hu with rfl | hu
    · dsimp only at p3;rw [t2] at p3;omega
    · rw [List.mem_singleton.1 hu] at p1 p2
      have:=slots_inj s1.r.ok.slots (i:=0) (j:=1) (by rw [e4];rfl) (by rw [e4];rfl) (by dsimp only;omega) (by dsimp only;omega)
      omega
open Go.RowKit
theorem flV_onePt {B:Wn} {b c:Nat} {t:TypeId} {p:PtM} {l:List Wp}:FlV B (blk b (ptC p) t::l) ptC (.slice (some ⟨b,0,none⟩) 1 c) [p]:=FlV.blk (x:=[p]) (g:=ptC) rfl
theorem Sx.ends (B:Wn) (F0:Fx1) (ra:Option Addr) (m rc:Nat) (hl:F0.row.length=m) (hv:FlV B [] vxC (.slice ra m rc) F0.row) (hf:FxRd F0) (hm:m≤2^20) (st0 st1 st2:Int) :
  Fn Tryz.prog B 6 #[factV ra m rc F0,.agg #[.int .i64 st0,.int .i64 st1,.int .i64 st2]] [] (fun v l=>v = .bool true∧l=[]):=by
 subst hl
 refine Wr 134 Tryz.func6 rfl rfl (nB rfl) (fun F=>?_)
 try simp only [cA,nA]
 refine TS ?_
 refine Le rfl (zL [_,_,_] rfl rfl ?_)
 intro g2
 refine Le rfl (zL [_,_,_] rfl rfl ?_)
 intro g3
 refine La rfl rfl (Ld (Ts (TS ?_)))
 refine Le rfl (Ec (Sx.awake B) Tryz.func8 rfl rfl rfl ?_)
 rintro _ _ ⟨rfl,rfl⟩
 try simp only [cA,nA]
 refine Lq rfl (Y2 rfl) (Ld (yQ rfl (Tk (TS ?_))))
 refine Le rfl (Ec (Sx.opened B) Tryz.func9 rfl rfl rfl ?_)
 rintro _ _ ⟨b,s,rfl,rfl⟩
 try simp only [cA,nA]
 refine Lm rfl rfl (Lq rfl (Qx rfl rfl) (Lq rfl (Qx rfl rfl) (La rfl rfl (La rfl rfl (Ld (Ts (Ts ?_)))))))
 refine TR (Lm rfl rfl (Lq rfl (Y1 (by kernel_rfl) rfl rfl) (Lm rfl rfl (yT (t:=19) rfl rfl (Lm rfl rfl ?_)))))
 refine Le rfl (Ec (Sx.fact B 1 0 9) Tryz.func18 rfl rfl rfl ?_)
 rintro _ _ ⟨gf,rfl,rfl⟩
 try simp only [cA,nA]
 refine Lq rfl (z8 [(0,1),(1,3)] [.int .i64 0,.slice none 0 0,.int .i64 0,.int .i64 0] [_,_,_,_] [(0,_),(1,_)] (by kernel_rfl) (by unfold Zf;kernel_rfl) rfl rfl) ?_
 refine Le rfl (Ef.lits (e:=60) (sz:=4) [_] (ptC ⟨1,enF,some ⟨gf,0,none⟩,1⟩) (by kernel_rfl) (by kernel_rfl) rfl (by simp [Value.cells]) rfl rfl (by omega) (by omega) (by omega) ?_)
 intro gp
 refine Le rfl (Ec (Sx.writeOk B [blk gp (ptC ⟨1,enF,some ⟨gf,0,none⟩,1⟩) 60,blk gf (vxC ⟨1,1,[]⟩) 58] s b 12 8 3 16 (newR 8 3072) (SI.new 8 3072) (by omega) (by omega) (by simp [newR]) (by simp [newR]) 10 none 0 0 [] rfl (by omega) (FlV.empty _ _) (some ⟨gp,0,none⟩) 1 1 [⟨1,enF,some ⟨gf,0,none⟩,1⟩] rfl (by omega) (FlV.blk (x:=[(⟨1,enF,some ⟨gf,0,none⟩,1⟩:PtM)]) (g:=ptC) rfl) (by intro p hp;rw [List.mem_singleton.1 hp];exact PtOk.blk (fun w ho=>ho.map Sa) en_rd (by omega)) 60 (by omega) (by omega) [enD] (congrArg (fun d=>[d]) en_d1) en_c1) Tryz.func13 rfl rfl rfl ?_)
 rintro _ _ ⟨rfl,rfl⟩
 try simp only [cA,nA]
 refine Lq rfl (yW rfl rfl) (Lq rfl (Qp rfl rfl) (Ld (yQ rfl (Tk (TS (Lm rfl rfl ?_))))))
 refine Le rfl (Ec (Sx.history B s b 12 8 3 60 ew1 en_s1 (by omega) (by omega) 1) Tryz.func16 rfl rfl rfl ?_)
 rintro _ _ ⟨L,pv,cv,hL,rfl,rfl⟩
 try simp only [cA,nA]
 rw [en_h1,if_pos (.inl rfl)] at hL
 obtain ⟨gi,ci,rfl⟩:=it_one hL
 refine LW.own fun w ho=>?_
 obtain ⟨gv,rfl⟩ : ∃ g,pv=some ⟨g,0,none⟩:=((ho.map Sa:Own B w [itR pv 1 cv [⟨⟨0,0,1,enF,10,0⟩,gi,ci⟩]]).slice_at (p:=pv) (m:=1) (c:=cv)).2.1 (by omega)
 clear ho
 rw [show ([⟨⟨0,0,1,enF,10,0⟩,gi,ci⟩]:List ItM).length=1 from rfl]
 refine Lq rfl (Qi 0 (e:=52) (sz:=7) (by kernel_rfl) rfl rfl rfl (by omega)) (Lq rfl (Q0 (by kernel_rfl) rfl) (Lq rfl (QL [_,_] (by kernel_rfl) rfl ⟨rfl,rfl,trivial⟩) ?_))
 refine Le rfl (El [.int .i64 0,.int .i64 0] (by unfold Zf;kernel_rfl) ?_)
 intro g7
 refine L0 rfl (Es [_,_] (by kernel_rfl) rfl rfl rfl rfl (by simp) ?_)
 try simp only [splice,lC,lN,dS,cA,tS,tZ,dZ,nA,aN]
 refine Ld (TS (Lm rfl rfl (Lq rfl (YA 0 (len:=3) (e:=2) (sz:=1) (by kernel_rfl) rfl rfl rfl (by omega)) (Lq rfl (Ql (by kernel_rfl) rfl rfl) (Lq rfl (QL [_,_] (by kernel_rfl) rfl ⟨rfl,rfl,trivial⟩) ?_)))))
 refine Le rfl (Ef.lits (e:=45) (sz:=2) [_] (ridC (0,0)) (by kernel_rfl) (by kernel_rfl) rfl (by simp [Value.cells]) rfl rfl (by omega) (by omega) (by omega) ?_)
 intro gr
 refine Lq rfl (QL [_,_,_] (by kernel_rfl) rfl ⟨rfl,rfl,rfl,trivial⟩) (Lq rfl (z8 [(0,1),(1,3)] [.int .i64 0,.slice none 0 0,.int .i64 0,.int .i64 0] [_,_,_,_] [(0,_),(1,_)] (by kernel_rfl) (by unfold Zf;kernel_rfl) rfl rfl) ?_)
 refine Le rfl (Ef.lits (e:=60) (sz:=4) [_] (ptC ⟨1,F0,ra,rc⟩) (by kernel_rfl) (by kernel_rfl) rfl (by simp [Value.cells]) rfl rfl (by omega) (by omega) (by omega) ?_)
 intro gq
 obtain ⟨e,he⟩ : ∃ e,codeS ew1 st0 [(0,0)] [(1,F0)]=e:=⟨_,rfl⟩
 by_cases he0:e=0
 ·
  subst he0
  obtain ⟨h2,hh2,s2,q1,q2,q3,q4,q5,q6,q7,q8⟩:=ends_ok hf he
  refine Le rfl (Ec (Sx.writeOk B [blk gr (ridC (0,0)) 45,blk gq (ptC ⟨1,F0,ra,rc⟩) 60] s b 12 8 3 68 ew1 en_s1 (by omega) (by omega) (by rw [en_m1];decide) (by rw [en_l1];decide) st0 (some ⟨gr,0,none⟩) 1 1 [(0,0)] rfl (by omega) (FlV.blk (x:=[((0,0):Int×Int)]) (g:=ridC) rfl) (some ⟨gq,0,none⟩) 1 1 [⟨1,F0,ra,rc⟩] rfl (by omega) ((flV_onePt (l:=[]) (t:=60) (p:=⟨1,F0,ra,rc⟩)).mono (fun w ho=>ho.map Sa)) (by intro p hp;rw [List.mem_singleton.1 hp];exact ⟨hv.mono (fun w ho=>ho.map Sa),hf,by dsimp only;omega⟩) 120 (by omega) (by omega) ([((1:Int),F0)].map fun p=>recD p.1 p.2) rfl he) Tryz.func13 rfl rfl rfl ?_)
  rintro _ _ ⟨rfl,rfl⟩
  try simp only [cA,nA]
  rw [hh2]
  refine La rfl rfl (Ld (Ts (TS (Lm rfl rfl (Lq rfl (yW rfl rfl) (Ld ?_))))))
  refine yQ rfl (Tk (Ts (Ts (T.draw 19 ([blk g3 [.int .i64 st0,.int .i64 st1,.int .i64 st2] 63]) (by kernel_rfl) (nB rfl) (by kernel_rfl) (Rq 0 rfl rfl (by kernel_rfl) Sa (Qm rfl) (Rq 2 rfl rfl (by kernel_rfl) Sa (YA 0 (len:=3) (e:=2) (sz:=1) (by kernel_rfl) rfl rfl rfl (by omega)) (Rq 3 rfl rfl (by kernel_rfl) Sa (Ql (by kernel_rfl) rfl rfl) ?_)))))))
  refine yK 1 (by kernel_rfl) ?_
  refine z6 rfl rfl (Ec (Sx.last B s b 12 8 3 120 h2) Tryz.func12 rfl rfl rfl ?_)
  rintro _ _ ⟨rfl,rfl⟩
  try simp only [cA,nA]
  rw [q2]
  refine ⟨Sa,?_⟩
  refine Rq 4 rfl rfl (by kernel_rfl) Sa (yW rfl rfl) (Rq 5 rfl rfl (by kernel_rfl) Sa (Qm rfl) (ZD (t:=81) rfl (decide_eq_false (by omega)) (Rq 6 rfl rfl (by kernel_rfl) Sa (Qm rfl) (yK 7 (by kernel_rfl) ?_))))
  refine zY rfl rfl (by kernel_rfl) (Ec (Sx.history B s b 12 8 3 120 h2 s2 (by omega) (by omega) 1) Tryz.func16 rfl rfl rfl ?_)
  rintro _ _ ⟨L2,pv2,cv2,hL2,rfl,rfl⟩
  try simp only [cA,nA]
  have hl2:L2.length=2:=by have:=congrArg List.length hL2;rw [List.length_map] at this;rw [this,q5]
  rw [hl2]
  refine Rq 8 rfl rfl (by kernel_rfl) (Sr _) (yI (e:=52) (sz:=7) (by kernel_rfl) rfl) (Rq 9 rfl rfl (by kernel_rfl) (Sr _) (yW rfl rfl) (Rq 10 rfl rfl (by kernel_rfl) (Sr _) (Qp rfl rfl) (Rq 11 rfl rfl (by kernel_rfl) (Sr _) (Qm rfl) (ZD (t:=87) rfl rfl (Rq 12 rfl rfl (by kernel_rfl) (Sr _) (Qm rfl) (Rq 13 rfl rfl (by kernel_rfl) (Sr _) (YA 0 (len:=3) (e:=2) (sz:=1) (by kernel_rfl) rfl rfl rfl (by omega)) (Rq 14 rfl rfl (by kernel_rfl) (Sr _) (Ql (by kernel_rfl) rfl rfl) ?_)))))))
  refine yK 15 (by kernel_rfl) ?_
  refine zY rfl rfl (by kernel_rfl) (Ec (Sx.see B s b 12 8 3 128 h2 s2 (by omega) (by omega) 1 st0) Tryz.func14 rfl rfl rfl ?_)
  rintro _ _ ⟨L3,pv3,cv3,hL3,rfl,rfl⟩
  try simp only [cA,nA]
  have hl3:L3.length=1:=by have:=congrArg List.length hL3;rw [List.length_map] at this;rw [this,q6]
  rw [hl3]
  refine Rq 16 rfl rfl (by kernel_rfl) (Sr _) (yI (e:=52) (sz:=7) (by kernel_rfl) rfl) (Rq 17 rfl rfl (by kernel_rfl) (Sr _) (yW rfl rfl) (Rq 18 rfl rfl (by kernel_rfl) (Sr _) (Qp rfl rfl) (Rd0 (by rfl) ?_)))
  simp only [dS,dZ,dN]
  refine Ld (yQ rfl ?_)
  have hG:endsG h2 [] [(0,0)]=false:=by rw [endsG_cons,q8];rfl
  by_cases h11:st1≤st0
  ·
   refine Tk (TS (Lm rfl rfl (Lq rfl (YA 1 (len:=3) (e:=2) (sz:=1) (by kernel_rfl) rfl rfl rfl (by omega)) (Lq rfl (Ql (by kernel_rfl) rfl rfl) (Lq rfl (QL [_,_] (by kernel_rfl) rfl ⟨rfl,rfl,trivial⟩) ?_)))))
   refine Le rfl (Ef.lits (e:=45) (sz:=2) [_] (ridC (0,0)) (by kernel_rfl) (by kernel_rfl) rfl (by simp [Value.cells]) rfl rfl (by omega) (by omega) (by omega) ?_)
   intro gt
   refine Le rfl (Ec (Sx.writeNo B [blk gt (ridC (0,0)) 45] s b 12 8 3 136 h2 s2 (by omega) (by omega) (by rw [q4];omega) (by rw [q3];omega) st1 (some ⟨gt,0,none⟩) 1 1 [(0,0)] rfl (by omega) (FlV.blk (x:=[((0,0):Int×Int)]) (g:=ridC) rfl) none 0 0 [] rfl (by omega) (FlV.empty _ _) (by simp) 200 (by omega) (by omega) 1 (code_range rfl (.inl (by rw [q2];exact h11))) (by decide)) Tryz.func13 rfl rfl rfl ?_)
   rintro _ _ ⟨rfl,rfl⟩
   try simp only [cA,nA]
   refine La rfl rfl (Ld (Ts (T.draw 33 ([blk g3 [.int .i64 st0,.int .i64 st1,.int .i64 st2] 63]) (by kernel_rfl) (nB rfl) (by kernel_rfl) (Rq 0 rfl rfl (by kernel_rfl) Sa (Qm rfl) (Rq 1 rfl rfl (by kernel_rfl) Sa (yU rfl rfl) (Rq 2 rfl rfl (by kernel_rfl) Sa (Qm rfl) (ZD (t:=103) rfl rfl ?_)))))))
   refine Rq 3 rfl rfl (by kernel_rfl) Sa (Qm rfl) (Rq 4 rfl rfl (by kernel_rfl) Sa (yU rfl rfl) (Rq 5 rfl rfl (by kernel_rfl) Sa (Qm rfl) (YY (t:=106) rfl rfl (Rq 6 rfl rfl (by kernel_rfl) Sa (YA 1 (len:=3) (e:=2) (sz:=1) (by kernel_rfl) rfl rfl rfl (by omega)) (Rq 7 rfl rfl (by kernel_rfl) Sa (Ql (by kernel_rfl) rfl rfl) (Rq 8 rfl rfl (by kernel_rfl) Sa (YA 0 (len:=3) (e:=2) (sz:=1) (by kernel_rfl) rfl rfl rfl (by omega)) (Rq 9 rfl rfl (by kernel_rfl) Sa (Ql (by kernel_rfl) rfl rfl) ?_)))))))
   refine Rq 10 rfl rfl (by kernel_rfl) Sa (YF rfl rfl) (Rq 11 rfl rfl (by kernel_rfl) Sa (Qm rfl) (YY (t:=112) rfl (decide_eq_true (by omega)) (yY 12 rfl rfl (by kernel_rfl) Sa (yY 13 rfl rfl (by kernel_rfl) Sa (yY 14 rfl rfl (by kernel_rfl) Sa (Rq 15 rfl rfl (by kernel_rfl) Sa (Qp rfl rfl) (Rq 16 rfl rfl (by kernel_rfl) Sa (Qp rfl rfl) ?_)))))))
   refine Rq 17 rfl rfl (by kernel_rfl) Sa (Qp rfl rfl) (Rq 18 rfl rfl (by kernel_rfl) Sa (Qm rfl) (YY (t:=119) rfl rfl (Rq 19 rfl rfl (by kernel_rfl) Sa (Qm rfl) (Rq 21 rfl rfl (by kernel_rfl) Sa (YA 0 (len:=3) (e:=2) (sz:=1) (by kernel_rfl) rfl rfl rfl (by omega)) (Rq 22 rfl rfl (by kernel_rfl) Sa (Ql (by kernel_rfl) rfl rfl) (yK 20 (by kernel_rfl) ?_))))))
   refine z6 rfl rfl (Ec (Sx.last B s b 12 8 3 200 h2) Tryz.func12 rfl rfl rfl ?_)
   rintro _ _ ⟨rfl,rfl⟩
   try simp only [cA,nA]
   rw [q2]
   refine ⟨Sa,?_⟩
   refine Rq 23 rfl rfl (by kernel_rfl) Sa (yU rfl rfl) (Rq 24 rfl rfl (by kernel_rfl) Sa (Qp rfl rfl) (Rq 25 rfl rfl (by kernel_rfl) Sa (Qm rfl) (YY (t:=126) rfl (decide_eq_true (by omega)) (Rq 26 rfl rfl (by kernel_rfl) Sa (Qm rfl) (Rq 27 rfl rfl (by kernel_rfl) Sa (YA 2 (len:=3) (e:=2) (sz:=1) (by kernel_rfl) rfl rfl rfl (by omega)) (Rq 28 rfl rfl (by kernel_rfl) Sa (Ql (by kernel_rfl) rfl rfl) (yK 29 (by kernel_rfl) ?_)))))))
   refine zY rfl rfl (by kernel_rfl) (Ec (Sx.see B s b 12 8 3 200 h2 s2 (by omega) (by omega) 1 st2) Tryz.func14 rfl rfl rfl ?_)
   rintro _ _ ⟨L5,pv5,cv5,hL5,rfl,rfl⟩
   try simp only [cA,nA]
   have hl5:L5.length≤1:=by have:=congrArg List.length hL5;rw [List.length_map] at this;rw [this];exact q7 st2
   refine Rq 30 rfl rfl (by kernel_rfl) (Sr _) (yI (e:=52) (sz:=7) (by kernel_rfl) rfl) (Rq 31 rfl rfl (by kernel_rfl) (Sr _) (YF rfl rfl) (Rq 32 rfl rfl (by kernel_rfl) (Sr _) (Qp rfl rfl) (Rd0 (by rfl) ?_)))
   simp only [dS,dZ,dN]
   refine La rfl rfl (Ld (T.ret ?_))
   exact ⟨.inl rfl,_,_,res [_] rfl ⟨rvT rfl,trivial⟩,⟨by rw [outV,decide_eq_true (by omega)],rfl⟩,Sa⟩
  by_cases h12:1099511627776<st1
  ·
   refine Tk (TS (Lm rfl rfl (Lq rfl (YA 1 (len:=3) (e:=2) (sz:=1) (by kernel_rfl) rfl rfl rfl (by omega)) (Lq rfl (Ql (by kernel_rfl) rfl rfl) (Lq rfl (QL [_,_] (by kernel_rfl) rfl ⟨rfl,rfl,trivial⟩) ?_)))))
   refine Le rfl (Ef.lits (e:=45) (sz:=2) [_] (ridC (0,0)) (by kernel_rfl) (by kernel_rfl) rfl (by simp [Value.cells]) rfl rfl (by omega) (by omega) (by omega) ?_)
   intro gt
   refine Le rfl (Ec (Sx.writeNo B [blk gt (ridC (0,0)) 45] s b 12 8 3 136 h2 s2 (by omega) (by omega) (by rw [q4];omega) (by rw [q3];omega) st1 (some ⟨gt,0,none⟩) 1 1 [(0,0)] rfl (by omega) (FlV.blk (x:=[((0,0):Int×Int)]) (g:=ridC) rfl) none 0 0 [] rfl (by omega) (FlV.empty _ _) (by simp) 200 (by omega) (by omega) 1 (code_range rfl (.inr h12)) (by decide)) Tryz.func13 rfl rfl rfl ?_)
   rintro _ _ ⟨rfl,rfl⟩
   try simp only [cA,nA]
   refine La rfl rfl (Ld (Ts (T.draw 33 ([blk g3 [.int .i64 st0,.int .i64 st1,.int .i64 st2] 63]) (by kernel_rfl) (nB rfl) (by kernel_rfl) (Rq 0 rfl rfl (by kernel_rfl) Sa (Qm rfl) (Rq 1 rfl rfl (by kernel_rfl) Sa (yU rfl rfl) (Rq 2 rfl rfl (by kernel_rfl) Sa (Qm rfl) (ZD (t:=103) rfl rfl ?_)))))))
   refine Rq 3 rfl rfl (by kernel_rfl) Sa (Qm rfl) (Rq 4 rfl rfl (by kernel_rfl) Sa (yU rfl rfl) (Rq 5 rfl rfl (by kernel_rfl) Sa (Qm rfl) (YY (t:=106) rfl rfl (Rq 6 rfl rfl (by kernel_rfl) Sa (YA 1 (len:=3) (e:=2) (sz:=1) (by kernel_rfl) rfl rfl rfl (by omega)) (Rq 7 rfl rfl (by kernel_rfl) Sa (Ql (by kernel_rfl) rfl rfl) (Rq 8 rfl rfl (by kernel_rfl) Sa (YA 0 (len:=3) (e:=2) (sz:=1) (by kernel_rfl) rfl rfl rfl (by omega)) (Rq 9 rfl rfl (by kernel_rfl) Sa (Ql (by kernel_rfl) rfl rfl) ?_)))))))
   refine Rq 10 rfl rfl (by kernel_rfl) Sa (YF rfl rfl) (Rq 11 rfl rfl (by kernel_rfl) Sa (Qm rfl) (ZD (t:=112) rfl (decide_eq_false (by omega)) (Rq 12 rfl rfl (by kernel_rfl) Sa (YA 1 (len:=3) (e:=2) (sz:=1) (by kernel_rfl) rfl rfl rfl (by omega)) (Rq 13 rfl rfl (by kernel_rfl) Sa (Ql (by kernel_rfl) rfl rfl) (Rq 14 rfl rfl (by kernel_rfl) Sa (yZ rfl rfl) (Rq 15 rfl rfl (by kernel_rfl) Sa (Qp rfl rfl) (Rq 16 rfl rfl (by kernel_rfl) Sa (Qp rfl rfl) ?_)))))))
   refine Rq 17 rfl rfl (by kernel_rfl) Sa (Qp rfl rfl) (Rq 18 rfl rfl (by kernel_rfl) Sa (Qm rfl) (YY (t:=119) rfl (decide_eq_true (by omega)) (Rq 19 rfl rfl (by kernel_rfl) Sa (Qm rfl) (Rq 21 rfl rfl (by kernel_rfl) Sa (YA 0 (len:=3) (e:=2) (sz:=1) (by kernel_rfl) rfl rfl rfl (by omega)) (Rq 22 rfl rfl (by kernel_rfl) Sa (Ql (by kernel_rfl) rfl rfl) (yK 20 (by kernel_rfl) ?_))))))
   refine z6 rfl rfl (Ec (Sx.last B s b 12 8 3 200 h2) Tryz.func12 rfl rfl rfl ?_)
   rintro _ _ ⟨rfl,rfl⟩
   try simp only [cA,nA]
   rw [q2]
   refine ⟨Sa,?_⟩
   refine Rq 23 rfl rfl (by kernel_rfl) Sa (yU rfl rfl) (Rq 24 rfl rfl (by kernel_rfl) Sa (Qp rfl rfl) (Rq 25 rfl rfl (by kernel_rfl) Sa (Qm rfl) (YY (t:=126) rfl (decide_eq_true (by omega)) (Rq 26 rfl rfl (by kernel_rfl) Sa (Qm rfl) (Rq 27 rfl rfl (by kernel_rfl) Sa (YA 2 (len:=3) (e:=2) (sz:=1) (by kernel_rfl) rfl rfl rfl (by omega)) (Rq 28 rfl rfl (by kernel_rfl) Sa (Ql (by kernel_rfl) rfl rfl) (yK 29 (by kernel_rfl) ?_)))))))
   refine zY rfl rfl (by kernel_rfl) (Ec (Sx.see B s b 12 8 3 200 h2 s2 (by omega) (by omega) 1 st2) Tryz.func14 rfl rfl rfl ?_)
   rintro _ _ ⟨L5,pv5,cv5,hL5,rfl,rfl⟩
   try simp only [cA,nA]
   have hl5:L5.length≤1:=by have:=congrArg List.length hL5;rw [List.length_map] at this;rw [this];exact q7 st2
   refine Rq 30 rfl rfl (by kernel_rfl) (Sr _) (yI (e:=52) (sz:=7) (by kernel_rfl) rfl) (Rq 31 rfl rfl (by kernel_rfl) (Sr _) (YF rfl rfl) (Rq 32 rfl rfl (by kernel_rfl) (Sr _) (Qp rfl rfl) (Rd0 (by rfl) ?_)))
   simp only [dS,dZ,dN]
   refine La rfl rfl (Ld (T.ret ?_))
   exact ⟨.inl rfl,_,_,res [_] rfl ⟨rvT rfl,trivial⟩,⟨by rw [outV,decide_eq_true (by omega)],rfl⟩,Sa⟩
  refine Tk (TS (Lm rfl rfl (Lq rfl (YA 1 (len:=3) (e:=2) (sz:=1) (by kernel_rfl) rfl rfl rfl (by omega)) (Lq rfl (Ql (by kernel_rfl) rfl rfl) (Lq rfl (QL [_,_] (by kernel_rfl) rfl ⟨rfl,rfl,trivial⟩) ?_)))))
  refine Le rfl (Ef.lits (e:=45) (sz:=2) [_] (ridC (0,0)) (by kernel_rfl) (by kernel_rfl) rfl (by simp [Value.cells]) rfl rfl (by omega) (by omega) (by omega) ?_)
  intro gt
  refine Le rfl (Ec (Sx.writeNo B [blk gt (ridC (0,0)) 45] s b 12 8 3 136 h2 s2 (by omega) (by omega) (by rw [q4];omega) (by rw [q3];omega) st1 (some ⟨gt,0,none⟩) 1 1 [(0,0)] rfl (by omega) (FlV.blk (x:=[((0,0):Int×Int)]) (g:=ridC) rfl) none 0 0 [] rfl (by omega) (FlV.empty _ _) (by simp) 200 (by omega) (by omega) 4 (code_miss rfl (by rw [q2];omega) hG) (by decide)) Tryz.func13 rfl rfl rfl ?_)
  rintro _ _ ⟨rfl,rfl⟩
  try simp only [cA,nA]
  refine La rfl rfl (Ld (Ts (T.draw 33 ([blk g3 [.int .i64 st0,.int .i64 st1,.int .i64 st2] 63]) (by kernel_rfl) (nB rfl) (by kernel_rfl) (Rq 0 rfl rfl (by kernel_rfl) Sa (Qm rfl) (Rq 1 rfl rfl (by kernel_rfl) Sa (yU rfl rfl) (Rq 2 rfl rfl (by kernel_rfl) Sa (Qm rfl) (YY (t:=103) rfl rfl ?_)))))))
  refine yY 3 rfl rfl (by kernel_rfl) Sa (yY 4 rfl rfl (by kernel_rfl) Sa (yY 5 rfl rfl (by kernel_rfl) Sa (yY 6 rfl rfl (by kernel_rfl) Sa (yY 7 rfl rfl (by kernel_rfl) Sa (yY 8 rfl rfl (by kernel_rfl) Sa (yY 9 rfl rfl (by kernel_rfl) Sa (yY 10 rfl rfl (by kernel_rfl) Sa ?_)))))))
  refine yY 11 rfl rfl (by kernel_rfl) Sa (yY 12 rfl rfl (by kernel_rfl) Sa (yY 13 rfl rfl (by kernel_rfl) Sa (yY 14 rfl rfl (by kernel_rfl) Sa (yY 15 rfl rfl (by kernel_rfl) Sa (yY 16 rfl rfl (by kernel_rfl) Sa (Rq 17 rfl rfl (by kernel_rfl) Sa (Qp rfl rfl) (Rq 18 rfl rfl (by kernel_rfl) Sa (Qm rfl) ?_)))))))
  refine YY (t:=119) rfl rfl (Rq 19 rfl rfl (by kernel_rfl) Sa (Qm rfl) (Rq 21 rfl rfl (by kernel_rfl) Sa (YA 0 (len:=3) (e:=2) (sz:=1) (by kernel_rfl) rfl rfl rfl (by omega)) (Rq 22 rfl rfl (by kernel_rfl) Sa (Ql (by kernel_rfl) rfl rfl) (yK 20 (by kernel_rfl) ?_))))
  refine z6 rfl rfl (Ec (Sx.last B s b 12 8 3 200 h2) Tryz.func12 rfl rfl rfl ?_)
  rintro _ _ ⟨rfl,rfl⟩
  try simp only [cA,nA]
  rw [q2]
  refine ⟨Sa,?_⟩
  refine Rq 23 rfl rfl (by kernel_rfl) Sa (yU rfl rfl) (Rq 24 rfl rfl (by kernel_rfl) Sa (Qp rfl rfl) (Rq 25 rfl rfl (by kernel_rfl) Sa (Qm rfl) (YY (t:=126) rfl (decide_eq_true (by omega)) (Rq 26 rfl rfl (by kernel_rfl) Sa (Qm rfl) (Rq 27 rfl rfl (by kernel_rfl) Sa (YA 2 (len:=3) (e:=2) (sz:=1) (by kernel_rfl) rfl rfl rfl (by omega)) (Rq 28 rfl rfl (by kernel_rfl) Sa (Ql (by kernel_rfl) rfl rfl) (yK 29 (by kernel_rfl) ?_)))))))
  refine zY rfl rfl (by kernel_rfl) (Ec (Sx.see B s b 12 8 3 200 h2 s2 (by omega) (by omega) 1 st2) Tryz.func14 rfl rfl rfl ?_)
  rintro _ _ ⟨L5,pv5,cv5,hL5,rfl,rfl⟩
  try simp only [cA,nA]
  have hl5:L5.length≤1:=by have:=congrArg List.length hL5;rw [List.length_map] at this;rw [this];exact q7 st2
  refine Rq 30 rfl rfl (by kernel_rfl) (Sr _) (yI (e:=52) (sz:=7) (by kernel_rfl) rfl) (Rq 31 rfl rfl (by kernel_rfl) (Sr _) (YF rfl rfl) (Rq 32 rfl rfl (by kernel_rfl) (Sr _) (Qp rfl rfl) (Rd0 (by rfl) ?_)))
  simp only [dS,dZ,dN]
  refine La rfl rfl (Ld (T.ret ?_))
  exact ⟨.inl rfl,_,_,res [_] rfl ⟨rvT rfl,trivial⟩,⟨by rw [outV,decide_eq_true (by omega)],rfl⟩,Sa⟩
 refine Le rfl (Ec (Sx.writeNo B [blk gr (ridC (0,0)) 45,blk gq (ptC ⟨1,F0,ra,rc⟩) 60] s b 12 8 3 68 ew1 en_s1 (by omega) (by omega) (by rw [en_m1];decide) (by rw [en_l1];decide) st0 (some ⟨gr,0,none⟩) 1 1 [(0,0)] rfl (by omega) (FlV.blk (x:=[((0,0):Int×Int)]) (g:=ridC) rfl) (some ⟨gq,0,none⟩) 1 1 [⟨1,F0,ra,rc⟩] rfl (by omega) ((flV_onePt (l:=[]) (t:=60) (p:=⟨1,F0,ra,rc⟩)).mono (fun w ho=>ho.map Sa)) (by intro p hp;rw [List.mem_singleton.1 hp];exact ⟨hv.mono (fun w ho=>ho.map Sa),hf,by dsimp only;omega⟩) 120 (by omega) (by omega) e he he0) Tryz.func13 rfl rfl rfl ?_)
 rintro _ _ ⟨rfl,rfl⟩
 try simp only [cA,nA]
 refine La rfl rfl (Ld (Ts (TS (Lm rfl rfl (Lq rfl (yW rfl rfl) (Ld ?_))))))
 refine zM rfl (by omega) (TS (Lm rfl rfl ?_))
 refine Le rfl (Ec (Sx.history B s b 12 8 3 120 ew1 en_s1 (by omega) (by omega) (-1)) Tryz.func16 rfl rfl rfl ?_)
 rintro _ _ ⟨L2,pv2,cv2,hL2,rfl,rfl⟩
 try simp only [cA,nA]
 rw [en_h1,if_pos (.inr (by decide))] at hL2
 obtain ⟨gj,cj,rfl⟩:=it_one hL2
 refine LW.own fun w ho=>?_
 obtain ⟨gw,rfl⟩ : ∃ g,pv2=some ⟨g,0,none⟩:=((ho.map Sa:Own B w [itR pv2 1 cv2 [⟨⟨0,0,1,enF,10,0⟩,gj,cj⟩]]).slice_at (p:=pv2) (m:=1) (c:=cv2)).2.1 (by omega)
 clear ho
 rw [show ([⟨⟨0,0,1,enF,10,0⟩,gj,cj⟩]:List ItM).length=1 from rfl]
 refine La rfl rfl (Ld (TS (Lm rfl rfl ?_)))
 refine Le rfl (Ec (Sx.last B s b 12 8 3 128 ew1) Tryz.func12 rfl rfl rfl ?_)
 rintro _ _ ⟨rfl,rfl⟩
 try simp only [cA,nA]
 rw [en_a1]
 refine Lq rfl (yU rfl rfl) (Lm rfl rfl (zQ (t:=48) rfl rfl (Lm rfl rfl (Lq rfl (yI (e:=52) (sz:=7) (by kernel_rfl) rfl) (Lq rfl (yU rfl rfl) (Lq rfl (Qp rfl rfl) (Lm rfl rfl ?_)))))))
 refine zQ (t:=53) rfl rfl (Lm rfl rfl (Lq rfl (Qi 0 (e:=52) (sz:=7) (by kernel_rfl) rfl rfl rfl (by omega)) (Lq rfl (Qf (off:=6) (by kernel_rfl) rfl) (Lq rfl (Ql (by kernel_rfl) rfl rfl) (Lq rfl (yU rfl rfl) (Lq rfl (Qp rfl rfl) (Lm rfl rfl ?_)))))))
 refine zQ (t:=60) rfl rfl (Lm rfl rfl (Lq rfl (QL [_,_,_] (by kernel_rfl) rfl ⟨rfl,rfl,rfl,trivial⟩) ?_))
 have hno:=ends_no he he0
 refine Le rfl (Ec (Sx.check B [] (pV s) 1 F0 ra F0.row.length rc rfl hv hf (by omega)) Tryz.func19 rfl rfl rfl ?_)
 rintro _ _ ⟨rfl,rfl⟩
 try simp only [cA,nA]
 refine Lq rfl (yW rfl rfl) (Lm rfl rfl ?_)
 refine zZ (t:=65) rfl (fun z1=>?_) (fun z1=>?_)
 ·
  try replace z1:=of_decide_eq_true z1
  refine Ls rfl (Ls rfl (Ls rfl (Lq rfl (Qp rfl rfl) (Lm rfl rfl (zQ (t:=70) rfl rfl (Ls rfl (Ls rfl ?_)))))))
  refine Ls rfl (Lq rfl (Qp rfl rfl) (Lq rfl (Qp rfl rfl) (La rfl rfl (Ld (T.ret ?_)))))
  exact ⟨.inl rfl,_,_,res [_] rfl ⟨rvT rfl,trivial⟩,⟨rfl,rfl⟩,Sa⟩
 try replace z1:=of_decide_eq_false z1
 refine Lq rfl (YA 0 (len:=3) (e:=2) (sz:=1) (by kernel_rfl) rfl rfl rfl (by omega)) (Lq rfl (Ql (by kernel_rfl) rfl rfl) (Lq rfl (YF rfl rfl) (Lq rfl (Qp rfl rfl) (Lm rfl rfl ?_))))
 refine zZ (t:=70) rfl (fun z2=>?_) (fun z2=>?_)
 ·
  try replace z2:=of_decide_eq_true z2
  refine Ls rfl (Ls rfl (Ls rfl (Lq rfl (Qp rfl rfl) (Lq rfl (Qp rfl rfl) (La rfl rfl (Ld (T.ret ?_)))))))
  exact ⟨.inl rfl,_,_,res [_] rfl ⟨rvT rfl,trivial⟩,⟨rfl,rfl⟩,Sa⟩
 try replace z2:=of_decide_eq_false z2
 refine Lq rfl (YA 0 (len:=3) (e:=2) (sz:=1) (by kernel_rfl) rfl rfl rfl (by omega)) (Lq rfl (Ql (by kernel_rfl) rfl rfl) (Lq rfl (yZ rfl rfl) (Lq rfl (Qp rfl rfl) (Lq rfl (Qp rfl rfl) (La rfl rfl (Ld (T.ret ?_)))))))
 exact ⟨.inl rfl,_,_,res [_] rfl ⟨rvT rfl,trivial⟩,⟨by rw [outV,decide_eq_true (by omega)],rfl⟩,Sa⟩
end Go.Proofs.YtjmjjfefchnkaaaGreatDoor
namespace Go.Proofs.YtjmjjfefchnkaaaGreatDoor.storeEnds
open Go.ChangeShapes Go.WideShapes Go.ChangeAt Go.RowKit
theorem contract (H:Type) (enc:TypeId×Value→H) (W:World) (base:Nat) (args:Array Value) (ds gs:List (DataW H)) (before:List MemPlace)
  (hval : ∀ (j:Nat) t v,Tryz.f6.params[j]? = some t→args[j]? = some v→Value.okWide Tryz.prog W .any base t v)
  (hW:DataW.Whole enc Tryz.prog Tryz.f6.params.toList Rows.storeEndsSpec.vars false W args.toList ds gs before) (hk:Rows.uptoSmall H (ds++gs)=true) :
  Calls Tryz.prog 6 args W fun e W' => ∃ v,e = .returned v∧Rows.storeEndsSpec.post enc Tryz.prog Tryz.f6 false true false false W args v W':=by
 have hW0:=hW
 obtain ⟨p,q,hA0,hV,rfl,hfz,hnd⟩:=hW
 have hA:DataW.TrodAll enc Tryz.prog W 0 (fun _=>true) true Tryz.f6.params.toList args.toList ds p:=hA0
 rw [Tryz.params6] at hA hval
 obtain ⟨v0,v1,d0,d1,p0,p1,rfl,rfl,rfl,h0,h1⟩:=trodAll_two hA
 obtain ⟨rfl,rfl⟩:=trodVars_none hV
 have hbulk:=Tryz.upto_bound hk
 rw [List.append_nil] at hbulk
 clear hA0 hV hk
 obtain ⟨oc0,rfl,_,_⟩:=(show ∃ cs,v0 = .agg cs∧cs.size=Tryz.prog.cellsOf 50∧Row.okWide Tryz.prog W .any base 50 cs by have:=hval 0 50 v0 rfl rfl;simpa only [Value.okWide,Tryz.underlying50] using this)
 obtain ⟨fu0,t0⟩:=h0
 obtain ⟨o0,hR0,hol0⟩:=read_fact _ _ _ t0
 dsimp only at hol0
 have hrd0:=hR0.rd
 obtain ⟨ra0,rc0,ho0,hv0,_⟩:=hR0
 simp only [Value.cells] at ho0
 obtain rfl:oc0 = #[.slice ra0 o0.row.length rc0,.int .i64 o0.fr,.int .i64 o0.to]:=by apply Array.toList_inj.1;rw [ho0]
 obtain ⟨oc1,rfl,_,_⟩:=(show ∃ cs,v1 = .agg cs∧cs.size=Tryz.prog.cellsOf 63∧Row.okWide Tryz.prog W .any base 63 cs by have:=hval 1 63 v1 rfl rfl;simpa only [Value.okWide,Tryz.underlying63] using this)
 obtain ⟨fu1,t1⟩:=h1
 obtain ⟨a1,b1,c1,ho1⟩:=read_arr64 _ _ _ t1
 simp only [Value.cells] at ho1
 obtain rfl:oc1 = #[.int .i64 a1,.int .i64 b1,.int .i64 c1]:=by apply Array.toList_inj.1;rw [ho1]
 rw [bulk_two] at hbulk
 have hf0:=hrd0 (by omega)
 have hl0:=hf0.len
 have hsz:o0.row.length≤szF o0:=sum_len1 o0.row
 refine (Fn.law (Sx.ends _ o0 ra0 o0.row.length rc0 rfl hv0 hf0 (by omega) a1 b1 c1)).mono fun e W' ⟨he,hg⟩=>?_
 subst he
 exact ⟨_,rfl,post_law Tryz.laidOut hW0 rfl rfl 4 Tryz.underlying4 (by kernel_rfl) (by rw [Tryz.params6];decide +kernel) hg.toBelow⟩
theorem reads (os:Os) {H:Type} (enc:TypeId×Value→H) : ∃ places,DataW.whole enc Tryz.prog ((laidWorld os).forCall (fun _ _=>0) ⟨#[],#[.agg #[.slice none 0 0,.int .i64 0,.int .i64 0],.agg #[.int .i64 0,.int .i64 0,.int .i64 0]],[]⟩).memory Tryz.f6.params.toList Rows.storeEndsSpec.vars false (#[.agg #[.slice none 0 0,.int .i64 0,.int .i64 0],.agg #[.int .i64 0,.int .i64 0,.int .i64 0]]:Array Value).toList 8=some ([.agg [.nil,.agg [.lit (.int .i64 0),.lit (.int .i64 0)]],.agg [.lit (.int .i64 0),.lit (.int .i64 0),.lit (.int .i64 0)]],[],places) :=
 ⟨[],by kernel_rfl⟩
theorem lifted (os:Os) (started:os.Started) (H:Type) (enc:TypeId×Value→H) (F:Stop.Interp) :
  ReturnsInHanded {} Tryz.checked os 6 .any ((Rows.OpenSpec.upto Rows.storeEndsSpec).preRow enc Tryz.prog Tryz.f6 Rows.storeEndsUptoRow.domain false Rows.storeEndsUptoRow.laid) (((Rows.OpenSpec.upto Rows.storeEndsSpec).at F).post enc Tryz.prog Tryz.f6 false true false false):=by
 obtain ⟨places,hx⟩:=reads os enc
 refine returnsInHanded_of_row (C:=Tryz.checked) (s:=Rows.OpenSpec.upto Rows.storeEndsSpec) Tryz.own started (by kernel_rfl) Tryz.func6
  (witness_row_at (enc:=enc) (C:=Tryz.checked) false (laidWorld os) #[.agg #[.slice none 0 0,.int .i64 0,.int .i64 0],.agg #[.int .i64 0,.int .i64 0,.int .i64 0]] rfl (by kernel_rfl) (by kernel_rfl) (by kernel_rfl)
   (OpenSpec.preRow_of_cond 8 hx (by kernel_rfl) (fun k hk=>by cases hk;kernel_rfl) (by kernel_rfl) (laid_met os _))) ?_
 intro W base args ds gs before hval hW _ hcond _ _ _ _
 exact contract H enc W base args ds gs before hval hW (hcond _ rfl)
theorem jA : (Rows.storeEndsUptoRow.inPlace == Tryz.prog.inPlace 6)=true:=by kernel_rfl
theorem jB : (Rows.storeEndsUptoRow.unfollowed == Tryz.prog.unfollowed 6)=true:=by kernel_rfl
theorem jC : (Rows.storeEndsUptoRow.recurses == Tryz.prog.recurses 6)=true:=by kernel_rfl
theorem jD : (Rows.storeEndsUptoRow.named == Tryz.prog.varsNamed 6)=true:=by kernel_rfl
theorem jE : laidOutB Tryz.prog=true:=by kernel_rfl
theorem jF : mapsRowed Tryz.prog=true:=by kernel_rfl
theorem jG : joinedFacts Tryz.prog 6 Tryz.f6 (Rows.OpenSpec.upto Rows.storeEndsSpec).bare Rows.storeEndsUptoRow=true:=by
 unfold joinedFacts
 rw [jA,jB,jC,jD,jE,jF]
 kernel_rfl
theorem over : Rows.storeEndsUptoRow.holds Tryz.pinned (Rows.OpenSpec.upto Rows.storeEndsSpec) :=
 OpenClaim.holds_of_cond 6 Tryz.f6 rfl rfl rfl rfl rfl rfl rfl ⟨rfl,rfl,rfl,rfl,rfl⟩ rfl rfl rfl rfl rfl (by kernel_rfl) Tryz.func6 jG
  (of_decide_eq_true (by kernel_rfl)) (by unfold Func.isWrapper;first | (rw [if_pos (by decide +kernel)];kernel_rfl) | (rw [if_neg (by decide +kernel)];exact ⟨rfl,rfl⟩))
  (fun os started H enc _ F=>by rw [OpenClaim.pre_eq_preRow];exact lifted os started H enc F)
theorem plain (f:FuncId) (fn:Func) (hf:Tryz.pinned.checked.prog.funcNamed "annals/annalslaw21.StoreEnds" = some f) (hfn:Tryz.pinned.checked.prog.funcs[f]? = some fn) :
  true=Tryz.pinned.checked.prog.looks [] ∧ ∀ (j:Nat) t,fn.params[j]? = some t→Tryz.pinned.checked.prog.wantsStandIn t=false:=by
 obtain rfl:f=6:=Option.some.inj ((show Tryz.prog.funcNamed "annals/annalslaw21.StoreEnds" = some 6 by kernel_rfl).symm.trans hf) |>.symm
 obtain rfl:fn=Tryz.f6:=(Option.some.inj (Tryz.func6.symm.trans hfn)).symm
 refine ⟨by kernel_rfl,fun j t ht=>?_⟩
 rw [Tryz.params6] at ht
 have hall:([50,63]:List TypeId).all (fun t => !Tryz.prog.wantsStandIn t)=true:=by kernel_rfl
 have:=List.all_eq_true.1 hall t (by simpa using Array.mem_of_getElem? ht)
 exact (show Tryz.prog.wantsStandIn t=false by simpa using this)
theorem proved : Rows.StoreEndsUptoCardSaid :=
 Claim7.holds_tied_plain_at .later [] _ _ _ _ over (fun _ h=>by cases h) (by kernel_rfl) (fun _ h=>by cases h) storeEndsUpto_row_tie rfl ⟨rfl,rfl⟩ (by kernel_rfl) rfl plain (by kernel_rfl)
end Go.Proofs.YtjmjjfefchnkaaaGreatDoor.storeEnds
