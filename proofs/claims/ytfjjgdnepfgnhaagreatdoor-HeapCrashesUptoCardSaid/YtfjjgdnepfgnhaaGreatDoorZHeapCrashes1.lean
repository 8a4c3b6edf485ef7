/- The law HeapCrashes of annalslaw08 holds (its card): for all arguments of bulk at most 1048576 the call returns true and the arguments read as before. Condition: the bound of the second form. -/
import Derived.Test.YtfjjgdnepfgnhaaGreatDoorZHcBase17
set_option linter.unusedSimpArgs false
set_option linter.unusedVariables false
set_option maxRecDepth 100000
set_option maxHeartbeats 16000000
namespace Go.Proofs.YtfjjgdnepfgnhaaGreatDoor
open Go.ChangeShapes Go.WideShapes Go.ChangeAt Go.RowKit
def OpHR (W:World) (cs:List Value) (o:OpH):Prop := ∃ dv kv fd fk,cs=[.int .i64 o.kind,.int .i64 o.txn,.int .i64 o.page,.int .i64 o.slot,dv,.int .i64 o.stamp,kv,.int .i64 o.t0,.int .i64 o.t1]∧Reads W dv (bytesV o.data) fd∧Reads W kv (boolsV o.keep) fk∧o.Ok
section
variable {H : Type} {enc:TypeId×Value→H} {W:World}
theorem read_boolsH (n:Nat) (c:Value) (y:DataW H×List MemPlace) (h:Tr enc Tryz.prog W n 83 [c]=some y) : ∃ (l:List Bool) (fp:List Nat),Reads W c (boolsV l) fp∧l.length+1≤Rows.uptoBulk y.1:=by
 obtain ⟨v,l,hc,hs,_,hL⟩:=open_slice_R (R:=fun cs (a:Bool)=>cs=[.bool a]) (B:=fun _=>1) Tryz.underlying83 (show Tryz.prog.cellsOf 4=1 by kernel_rfl) (by omega) (fun n cs y=>read_bool Tryz.underlying4 n cs y) h
 simp only [List.cons.injEq,and_true] at hc
 subst hc
 obtain ⟨fp,hR,hfp⟩:=hs.reads (fun a:Bool=>Value.bool a) (fun cs a h=>h)
 exact ⟨l,fp,hR,hL⟩
theorem two_of_lenH {α:Type} {l:List α} (h:l.length=2) : ∃ a b,l=[a,b]:=by
 match l,h with
 | [a,b],_=>exact ⟨a,b,rfl⟩
theorem eight_of_lenH {α:Type} {l:List α} (h:l.length=8) : ∃ a b c d e f g i,l=[a,b,c,d,e,f,g,i]:=by
 match l,h with
 | [a,b,c,d,e,f,g,i],_=>exact ⟨a,b,c,d,e,f,g,i,rfl⟩
theorem nine_of_lenH {α:Type} {l:List α} (h:l.length=9) : ∃ a b c d e f g i j,l=[a,b,c,d,e,f,g,i,j]:=by
 match l,h with
 | [a,b,c,d,e,f,g,i,j],_=>exact ⟨a,b,c,d,e,f,g,i,j,rfl⟩
theorem read_opH (n:Nat) (cs:List Value) (y:DataW H×List MemPlace) (h:Tr enc Tryz.prog W n 85 cs=some y) : ∃ o:OpH,OpHR W cs o∧o.data.length+o.keep.length+2≤Rows.uptoBulk y.1:=by
 obtain ⟨xs,m,rfl,rfl,hl,hx,hf⟩:=DataW.trod_struct Tryz.underlying85 h
 rw [show Tryz.prog.cellsOf 85=9 by kernel_rfl] at hl
 obtain ⟨c0,c1,c2,c3,c4,c5,c6,c7,c8,rfl⟩:=nine_of_lenH hl
 obtain ⟨x0,x1,x2,x3,x4,x5,x6,x7,rfl⟩:=eight_of_lenH hx
 have k0:Tryz.prog.cellsOf 3=1:=by kernel_rfl
 have k1:Tryz.prog.cellsOf 35=1:=by kernel_rfl
 have k2:Tryz.prog.cellsOf 2=1:=by kernel_rfl
 have k3:Tryz.prog.cellsOf 83=1:=by kernel_rfl
 have k4:Tryz.prog.cellsOf 36=2:=by kernel_rfl
 have f0:=field_of hf 0 3 0 1 rfl k0
 have f1:=field_of hf 1 2 1 1 rfl k2
 have f2:=field_of hf 2 3 2 1 rfl k0
 have f3:=field_of hf 3 3 3 1 rfl k0
 have f4:=field_of hf 4 35 4 1 rfl k1
 have f5:=field_of hf 5 2 5 1 rfl k2
 have f6:=field_of hf 6 83 6 1 rfl k3
 have f7:=field_of hf 7 36 7 2 rfl k4
 simp only [List.drop_zero,List.drop_succ_cons,List.take_succ_cons,List.take_zero,List.getElem?_cons_zero,List.getElem?_cons_succ] at f0 f1 f2 f3 f4 f5 f6 f7
 obtain ⟨i0,e0,_,_⟩:=DataW.trod_int Tryz.underlying3 f0
 obtain ⟨i1,e1,_,_⟩:=DataW.trod_int Tryz.underlying2 f1
 obtain ⟨i2,⟨e2,b1,b2⟩,_⟩:=read_i64 Tryz.underlying3 _ _ _ f2
 obtain ⟨i3,⟨e3,b3,b4⟩,_⟩:=read_i64 Tryz.underlying3 _ _ _ f3
 obtain ⟨ld,fd,hd,hfd,hdl⟩:=read_bytes _ _ _ f4
 obtain ⟨i5,e5,_,_⟩:=DataW.trod_int Tryz.underlying2 f5
 obtain ⟨lk,fk,hk,hkl⟩:=read_boolsH _ _ _ f6
 obtain ⟨ys,m',e',e4,hl4,hy,hg⟩:=DataW.trod_array Tryz.underlying36 f7
 obtain ⟨y0,y1,rfl⟩:=two_of_lenH hy
 have g0:=hg 0 (by omega)
 have g1:=hg 1 (by omega)
 simp only [k0,Nat.zero_mul,Nat.one_mul,Nat.mul_one,List.drop_zero,List.drop_succ_cons,List.take_succ_cons,List.take_zero,List.getElem?_cons_zero,List.getElem?_cons_succ] at g0 g1
 obtain ⟨j0,q0,_,_⟩:=DataW.trod_int Tryz.underlying3 g0
 obtain ⟨j1,q1,_,_⟩:=DataW.trod_int Tryz.underlying3 g1
 simp only [List.cons.injEq,and_true] at e0 e1 e2 e3 e5 q0 q1
 subst e0;subst e1;subst e2;subst e3;subst e5;subst q0;subst q1
 refine ⟨⟨i0,i1,i2,i3,ld,i5,lk,j0,j1⟩,⟨c4,c6,fd,fk,rfl,hd,hk,⟨by dsimp only;omega,by dsimp only;omega⟩,by dsimp only;omega,by dsimp only;omega⟩,?_⟩
 simp only [List.map_cons,List.map_nil,Rows.uptoBulk,Rows.uptoBulkAll]
 omega
end
theorem SliceAt.roLH {W:World} {v:Value} {l:List OpH} (h:SliceAt W 9 (OpHR W) v l):RoLH (baseOf W) v l:=by
 obtain ⟨sa,sc,e,h⟩:=h.ro (by omega)
 refine ⟨sa,sc,e,h.imp id ?_⟩
 rintro ⟨b,o,C,e1,e2,h⟩
 refine ⟨b,o,C,e1,e2,fun i hi=>?_⟩
 obtain ⟨cells,h1,dv,kv,fd,fk,rfl,hd,hk,_⟩:=h i hi
 obtain ⟨da,dc,e,hx⟩:=RoS.ofReads hd
 obtain ⟨ka,kc,e2,hy⟩:=RoS.ofReads hk
 rw [length_bytesV] at e
 rw [show (boolsV l[i].keep).length=l[i].keep.length by simp [boolsV]] at e2
 subst e
 subst e2
 exact ⟨da,dc,ka,kc,h1,⟨da,dc,by rw [length_bytesV],hx⟩,ka,kc,by simp [boolsV],hy⟩
theorem SliceAt.okH {W:World} {v:Value} {l:List OpH} (h:SliceAt W 9 (OpHR W) v l) : ∀ x∈l,x.Ok:=by
  intro x hx
  obtain ⟨sa,sc,e,h⟩:=h.ro (by omega)
  rcases h with rfl | ⟨b,o,C,e1,e2,h⟩
  · cases hx
  · obtain ⟨i,hi,rfl⟩:=List.getElem_of_mem hx
    obtain ⟨cells,h1,dv,kv,fd,fk,rfl,hd,hk,h2⟩:=h i hi
    exact h2
theorem opH_le : ∀ {l:List OpH} {x:OpH},x∈l→x.data.length+x.keep.length≤(l.map fun o=>o.data.length+o.keep.length+2).sum
 | a::l,x,h=>by
  simp only [List.map_cons,List.sum_cons]
  rcases List.mem_cons.1 h with rfl | h
  · omega
  · have:=opH_le h;omega
open Go.RowKit
theorem Hl.crashes (B:Base) (sv:Value) (sc:List OpH) (hsv:RoLH B sv sc) (hsl:sc.length≤1048576) (hdl : ∀ x∈sc,x.data.length≤1048576) (hok : ∀ x∈sc,x.Ok) :
  Fn Tryz.prog B 4 #[sv] [] (fun v l=>v = .bool true∧l=[]):=by
 obtain ⟨sa,scap,rfl,hsc⟩:=hsv
 refine Fn.enter1 122 Tryz.func4 rfl rfl (nB rfl) (fun F=>?_)
 try simp only [cA,nA]
 refine TS (La rfl rfl (Ld (Ts (TS ?_))))
 refine Le rfl (Ec (Hp.awake B) Tryz.func19 rfl rfl rfl ?_)
 rintro _ _ ⟨rfl,rfl⟩
 try simp only [cA,nA]
 refine Lq rfl (Y2 rfl) (Ld (yQ rfl (Tk (TS ?_))))
 refine Le rfl (Ec (Hp.opened B 16 9 7 2 16 9 2 rfl rfl rfl (by omega) (by omega) rfl (by omega) (by omega) (by omega)) Tryz.func20 rfl rfl rfl ?_)
 rintro _ _ ⟨b,g0,rfl,rfl⟩
 try simp only [cA,nA]
 refine Lm rfl rfl (Lq rfl (Qx rfl rfl) (Lq rfl (Qx rfl rfl) (Lq rfl (Qx rfl rfl) (La rfl rfl (La rfl rfl (La rfl rfl (Ld ?_)))))))
 refine Ts (TS (Lm rfl rfl (Lq rfl (Y1 (by kernel_rfl) rfl rfl) (Lm rfl rfl (yT (t:=25) rfl rfl (Lm rfl rfl ?_))))))
 refine Lq rfl (Y1 (by kernel_rfl) rfl rfl) (Lq rfl (Qp rfl rfl) (Lm rfl rfl (yT (t:=29) rfl rfl (Lm rfl rfl (Lq rfl (yW rfl rfl) (Lq rfl (Qp rfl rfl) (Ld ?_)))))))
 refine yQ rfl (Tk (TS ?_))
 refine Le rfl (Ec (Hr.new B 16 9 16 9 rfl rfl (by omega) (by omega)) Tryz.func21 rfl rfl rfl ?_)
 rintro _ _ ⟨q0,rfl,rfl⟩
 try simp only [cA,nA]
 rw [show 16-9=7 from rfl]
 refine Le rfl (El [.int .i64 0,.int .i64 0,.int .i64 0,.slice none 0 0,.slice none 0 0,.slice none 0 0,.int .i64 0,.slice none 0 0] (by unfold zeroB;kernel_rfl) ?_)
 intro g6
 refine L0 rfl (Es [_,_,_,_,_,_,_,_] (by kernel_rfl) rfl rfl rfl rfl (by simp) ?_)
 try simp only [splice,lC,lN,dS,cA,tS,tZ,dZ,nA,aN]
 refine Ld (TS (La rfl rfl (Ld (Ts (TS ?_)))))
 refine Lm rfl rfl (Lq rfl (yI (e:=85) (sz:=9) (by kernel_rfl) rfl) (Lm rfl rfl (Ld (yH ?_))))
 have hP0:PlayI (newR 7 (9*256)) 7 (9*256) 0:=⟨RInv.newR 7 (9*256),⟨Nat.le_refl _,Nat.le_refl _,Nat.le_refl _,Nat.le_refl _⟩,rfl,rfl,Int.le_refl _⟩
 refine zG (fun mz fz lz => ∃ (f0:Fr) (k K g:Nat) (h:HR) (q:HrQ),(k≤sc.length∧K≤7+30*k∧PlayI h 7 (9*256) k)∧mz=sc.length-k∧fz=(upd (upd (upd (upd (upd (upd (upd (upd f0 3 (pV b)) 4 (pV g)) 5 (.int .i64 0)) 6 (.pointer (some ⟨g6,0,none⟩))) 7 (.bool true)) 34 (.slice sa sc.length scap)) 35 (.int .i64 sc.length)) 36 (.int .i64 k))∧lz=hpA g b 9 7 2 K h::blk g6 (hrC q h) 81::hrL q h++F) ?_ ?_
 · refine ⟨_,_,⟨_,0,7,g0,newR 7 (9*256),q0,⟨Nat.zero_le _,Nat.le_refl _,hP0⟩,rfl,(updS rfl (updS rfl (updS rfl (updS rfl (updS rfl (updS rfl (updS rfl (updS rfl rfl)))))))),rfl⟩,Sa⟩
 rintro mz fz lz ⟨f0,k,K,g,h,q,⟨hk,hK,hP⟩,hmz,rfl,rfl⟩
 subst mz
 try simp only [cA,nA]
 have hHk:=hP.k (by omega) (by omega) (by omega)
 have hlen:=all_len hP.r.ok
 have hpg:=hP.pages
 have hcm:=hP.s.c
 have hel:=hP.s.e
 refine TS (Lq rfl (yM rfl rfl) (Ld (Ts ?_)))
 refine yN rfl (fun hlt=>?_) (fun hlt=>?_)
 ·
  obtain ⟨kb,ko,C,rfl,hro,hC⟩:=hsc.resolve_left (by intro e;rw [e] at hlt;simp at hlt;omega)
  obtain ⟨da,dc,ka,kc,hrd,hdv,hkv⟩:=hC k (by omega)
  have hxl:=hdl sc[k] (List.getElem_mem _)
  have hxo:=hok sc[k] (List.getElem_mem _)
  have hP2:=hP.step (by omega) (by omega) sc[k]
  refine Tk (Ts (yH (TS (Lq rfl (Qi _ (e:=85) (sz:=9) (by kernel_rfl) rfl rfl rfl (by omega)) (Lq rfl (QL [_,_,_,_,_,_,_,_,_] (by kernel_rfl) rfl hrd) ?_)))))
  refine Le rfl (El [.int .i64 0,.int .i64 0,.int .i64 0,.int .i64 0,.slice none 0 0,.int .i64 0,.slice none 0 0,.int .i64 0,.int .i64 0] (by unfold zeroB;kernel_rfl) ?_)
  intro g9
  refine L0 rfl (Es [_,_,_,_,_,_,_,_,_] (by kernel_rfl) rfl rfl rfl rfl (by simp) ?_)
  try simp only [splice,lC,lN,dS,cA,tS,tZ,dZ,nA,aN]
  refine Ld (Ts (TS (Lq rfl (Q0 (by kernel_rfl) rfl) (Lq rfl (Ql (by kernel_rfl) rfl rfl) (Lq rfl (yW rfl rfl) (Ld ?_))))))
  refine yN rfl (fun hne=>?_) (fun hne=>?_)
  ·
   refine TS (Lm rfl rfl (Lq rfl (QL [_,_,_,_,_,_,_,_] (by kernel_rfl) rfl ⟨rfl,rfl,rfl,rfl,rfl,rfl,rfl,rfl,trivial⟩) (Lq rfl (QL [_,_,_,_,_,_,_,_,_] (by kernel_rfl) rfl ⟨rfl,rfl,rfl,rfl,rfl,rfl,rfl,rfl,rfl,trivial⟩) ?_)))
   refine Le rfl (Ec (Hp.step B g b 9 7 2 K q h k (9*256) hP (by omega) (by omega) (by omega) (by omega) sc[k] hxo da dc ka kc hdv hxl) Tryz.func22 rfl rfl rfl ?_)
   rintro _ _ ⟨q1,K1,hK1,rfl,rfl⟩
   try simp only [cA,nA]
   refine Lm rfl rfl (Lq rfl (Qx rfl rfl) (Lq rfl (Qx rfl rfl) ?_))
   refine L0 rfl (Es [_,_,_,_,_,_,_,_] (by kernel_rfl) rfl rfl rfl rfl (by simp) ?_)
   try simp only [splice,lC,lN,dS,cA,tS,tZ,dZ,nA,aN]
   refine La rfl rfl (Ld (Ts (TS (Lm rfl rfl (Lq rfl (Y2 rfl) (Ld ?_))))))
   refine yQ rfl (Tk (zB (TR (Lq rfl (Qd rfl rfl (wr64 (by omega) (by omega))) (Lm rfl rfl (Ld ?_))))))
   refine ⟨_,?_,_,⟨_,k+1,K1,g,stepR h sc[k],q1,⟨by omega,by omega,hP2⟩,rfl,(updS rfl (updS rfl (updS rfl (updS rfl (updS rfl (updS rfl (updS rfl (updS rfl rfl)))))))),rfl⟩,Sa⟩
   omega
  refine Tk (TS (Lm rfl rfl ?_))
  refine Le rfl (Ec (Hl.imageH B g b 9 7 2 K 16 h (by omega) rfl) Tryz.func23 rfl rfl rfl ?_)
  rintro _ _ ⟨pw,aw,X,⟨hXl,hXo⟩,rfl,rfl⟩
  try simp only [cA,nA]
  refine La rfl rfl (Ld (TS (Lm rfl rfl (Lq rfl (Qf (off:=6) (by kernel_rfl) rfl) (Lq rfl (Ql (by kernel_rfl) rfl rfl) (Lq rfl (Qf (off:=7) (by kernel_rfl) rfl) ?_))))))
  refine Lq rfl (YA 0 (len:=2) (e:=3) (sz:=1) (by kernel_rfl) rfl rfl rfl (by omega)) (Lq rfl (Ql (by kernel_rfl) rfl rfl) (Lq rfl (Qf (off:=7) (by kernel_rfl) rfl) (Lq rfl (YA 1 (len:=2) (e:=3) (sz:=1) (by kernel_rfl) rfl rfl rfl (by omega)) (Lq rfl (Ql (by kernel_rfl) rfl rfl) ?_))))
  refine Le rfl (Ec (Hp.crash B g b 9 7 2 K h (by omega) (.slice ka sc[k].keep.length kc) sc[k].keep sc[k].t0 sc[k].t1 hkv) Tryz.func13 rfl rfl rfl ?_)
  rintro _ _ ⟨D,kk,⟨hh,k1,k2,⟨xx,yy,hscan⟩,hd,ho,hp⟩,rfl,rfl⟩
  try simp only [cA,nA]
  refine Ld (Ts (TS (Lm rfl rfl (Lm rfl rfl ?_))))
  refine Le rfl (Ec (Hl.image B b D 16 hd ho (by rw [hp];simp)) Tryz.func23 rfl rfl rfl ?_)
  rintro _ _ ⟨pn,an,rfl,rfl⟩
  try simp only [cA,nA]
  refine Le rfl (Ec (Hl.mixed B D X 16 9 hd hXl ho hXo (by omega) (by omega) 9 rfl pn pw an aw) Tryz.func24 rfl rfl rfl ?_)
  rintro _ _ ⟨⟨bb,_,_,_,_,_,_,rfl,_⟩,rfl⟩
  try simp only [cA,nA]
  by_cases hbb:bb=true
  ·
   subst hbb
   refine Ld (zF rfl (TS (La rfl rfl (Ld (T.ret ?_)))))
   exact ⟨.inl rfl,_,_,res [_] rfl ⟨rvT rfl,trivial⟩,⟨rfl,rfl⟩,Sa⟩
  obtain rfl:bb=false:=by simpa using hbb
  refine Ld (yQ rfl (Tk (TS (Lm rfl rfl ?_))))
  refine Le rfl (Ec (Hl.image B b D 16 hd ho (by rw [hp];simp)) Tryz.func23 rfl rfl rfl ?_)
  rintro _ _ ⟨pm,am,rfl,rfl⟩
  try simp only [cA,nA]
  refine LW.conv (fun w ho=>Rf.nilW ho) (Lq rfl (z8 [(0,1),(1,1)] [.slice none 0 0,.slice none 0 0] [_,_] [(0,_)] (by kernel_rfl) (by unfold zeroB;kernel_rfl) rfl rfl) ?_)
  refine Le rfl (Ec (Rl.open B ⟨secsD D 16,[]⟩ pm none am 0 16 0 (secsD_len _ _) rfl (secsD_Ok ho hd) (by omega) 0 9 0 9 rfl rfl (by omega) (by omega)) Tryz.func25 rfl rfl rfl ?_)
  rintro _ _ ⟨p4,a4,k4,s4,R4,q4,c4,x4,rfl,rfl⟩
  try simp only [cA,nA]
  rw [secsD_allD D 16 9 (by omega)] at x4
  have hRl:=scan_count x4 hscan
  have hkl:(h.es.take kk).length=kk:=by rw [List.length_take];omega
  rw [hkl] at hRl
  refine Lm rfl rfl (Lq rfl (Qx rfl rfl) (Lq rfl (Qx rfl rfl) (Lq rfl (Qx rfl rfl) (Lq rfl (Qx rfl rfl) ?_))))
  refine Le rfl (El [.slice none 0 0,.slice none 0 0] (by unfold zeroB;kernel_rfl) ?_)
  intro g11
  refine Le rfl (El [.string .empty,.int .u32 0,.int .i64 0,.int .i64 0,.int .i64 0] (by unfold zeroB;kernel_rfl) ?_)
  intro g12
  refine L0 rfl (Es [_,_] (by kernel_rfl) rfl rfl rfl rfl (by simp) ?_)
  try simp only [splice,lC,lN,dS,cA,tS,tZ,dZ,nA,aN]
  refine L0 rfl (Es [_,_,_,_,_] (by kernel_rfl) rfl rfl rfl rfl (by simp) ?_)
  try simp only [splice,lC,lN,dS,cA,tS,tZ,dZ,nA,aN]
  refine La rfl rfl (La rfl rfl (Ld (TS (Lq rfl (QL [_,_,_,_,_,_,_,_] (by kernel_rfl) rfl ⟨rfl,rfl,rfl,rfl,rfl,rfl,rfl,rfl,trivial⟩) ?_))))
  refine Le rfl (Ec (Hr.sure B q h k hHk) Tryz.func26 rfl rfl rfl ?_)
  rintro _ _ ⟨ps,cs,rfl,rfl⟩
  try simp only [cA,nA]
  refine La rfl rfl (Ld (TS (Lq rfl (QL [_,_,_,_,_,_,_,_] (by kernel_rfl) rfl ⟨rfl,rfl,rfl,rfl,rfl,rfl,rfl,rfl,trivial⟩) (Lm rfl rfl (Lq rfl (yI (e:=181) (sz:=2) (by kernel_rfl) rfl) ?_)))))
  obtain ⟨nR,hnR⟩ : ∃ nR,R4.length=nR:=⟨_,rfl⟩
  rw [hnR]
  obtain rfl:nR=kk:=by omega
  have hPr:=hP.restart nR
  have hrs:=restart_sure hP.r k1 k2
  have hsl2:(sureR h).length≤14*7:=by rw [←hrs];have:=all_len hPr.r.ok;have:=hPr.pages;omega
  refine Le rfl (Ec (Hr.restart B q h nR hP.r k1 (by omega) (by have:=hP.room;omega)) Tryz.func27 rfl rfl rfl ?_)
  rintro _ _ ⟨q2,rfl,rfl⟩
  try simp only [cA,nA]
  refine L0 rfl (Es [_,_,_,_,_,_,_,_] (by kernel_rfl) rfl rfl rfl rfl (by simp) ?_)
  try simp only [splice,lC,lN,dS,cA,tS,tZ,dZ,nA,aN]
  refine Ld (TS (Lm rfl rfl ?_))
  have hlE:=lastE_mono hP.r nR
  have hla:=hP.last
  refine Le rfl (Ec (Hp.open B b D 9 7 2 k 9 2 rfl rfl (h.es.take nR) (by omega) (by omega) hd (by omega) (by omega) (by rw [hp];simp) hh ⟨xx,yy,hscan⟩ (by omega) (by omega)) Tryz.func7 rfl rfl rfl ?_)
  rintro _ _ ⟨g2,p1,p2,p3,c1,c2,c3,rfl,rfl⟩
  try simp only [cA,nA]
  rw [hkl,reopen_restart hP nR]
  refine Lm rfl rfl (Lq rfl (Qx rfl rfl) (Lq rfl (Qx rfl rfl) (Lq rfl (Qx rfl rfl) (La rfl rfl (La rfl rfl (Ld (Ts ?_)))))))
  have hHr:=hPr.k (by omega) (by omega) (by omega)
  have hlr:=all_len hPr.r.ok
  have hpr:=hPr.pages
  have hcr:=hPr.s.c
  refine zW 27 none (by kernel_rfl) (nB rfl) (by kernel_rfl) (Rq 0 rfl rfl (by kernel_rfl) Sa (Qm rfl) (Rq 1 rfl rfl (by kernel_rfl) Sa (Y1 (by kernel_rfl) rfl rfl) (Rq 2 rfl rfl (by kernel_rfl) Sa (Qm rfl) (ZD (t:=91) rfl rfl (Rq 3 rfl rfl (by kernel_rfl) Sa (Qm rfl) (Rq 4 rfl rfl (by kernel_rfl) Sa (yW rfl rfl) (Rq 5 rfl rfl (by kernel_rfl) Sa (Qp rfl rfl) ?_)))))))
  refine Rq 6 rfl rfl (by kernel_rfl) Sa (Qm rfl) (ZD (t:=95) rfl rfl (Rq 7 rfl rfl (by kernel_rfl) Sa (Qm rfl) (Rq 9 rfl rfl (by kernel_rfl) Sa (Qm rfl) (yK 8 (by kernel_rfl) ?_))))
  refine z6 rfl rfl (Ec (Hp.all B g2 b 9 7 2 (k+7+nR) (restartR h nR) (by omega)) Tryz.func18 rfl rfl rfl ?_)
  rintro _ _ ⟨L,pl,cl,hL1,hL2,rfl,rfl⟩
  try simp only [cA,nA]
  have hLl:L.length=(allR (restartR h nR)).length:=by rw [←hL2,List.length_map]
  have hLd : ∀ x∈L,x.v.data.length<2^32:=fun x hx=>by have:=all_data hPr.r (x:=x.v) (by rw [←hL2];exact List.mem_map_of_mem hx);omega
  refine ⟨Sa,?_⟩
  refine yK 10 (by kernel_rfl) ?_
  refine z6 rfl rfl (Ec (Hp.versions B L (sureR h) pl ps cl cs hL1 (by rw [hLl];omega) hLd) Tryz.func28 rfl rfl rfl ?_)
  rintro _ _ ⟨rfl,rfl⟩
  try simp only [cA,nA]
  rw [hL2,decide_eq_true hrs]
  refine ⟨Sa,?_⟩
  refine Rq 11 rfl rfl (by kernel_rfl) Sa (Y2 rfl) (Rq 12 rfl rfl (by kernel_rfl) Sa (Qp rfl rfl) (Rq 13 rfl rfl (by kernel_rfl) Sa (Qm rfl) (ZD (t:=102) rfl rfl (Rq 14 rfl rfl (by kernel_rfl) Sa (Qm rfl) (Rq 16 rfl rfl (by kernel_rfl) Sa (QL [_,_,_,_,_,_,_,_] (by kernel_rfl) rfl ⟨rfl,rfl,rfl,rfl,rfl,rfl,rfl,rfl,trivial⟩) (yK 15 (by kernel_rfl) ?_))))))
  refine z6 rfl rfl (Ec (Hp.all B g2 b 9 7 2 (k+7+nR+7) (restartR h nR) (by omega)) Tryz.func18 rfl rfl rfl ?_)
  rintro _ _ ⟨M,pm2,cm2,hM1,hM2,rfl,rfl⟩
  try simp only [cA,nA]
  have hMl:M.length=(allR (restartR h nR)).length:=by rw [←hM2,List.length_map]
  have hMd : ∀ x∈M,x.v.data.length<2^32:=fun x hx=>by have:=all_data hPr.r (x:=x.v) (by rw [←hM2];exact List.mem_map_of_mem hx);omega
  refine ⟨Sa,?_⟩
  refine yK 17 (by kernel_rfl) ?_
  refine zY rfl rfl (by kernel_rfl) (Ec (Hr.all B q2 (restartR h nR) k hHr) Tryz.func29 rfl rfl rfl ?_)
  rintro _ _ ⟨pa2,ca2,rfl,rfl⟩
  try simp only [cA,nA]
  refine yK 18 (by kernel_rfl) ?_
  refine zY rfl rfl (by kernel_rfl) (Ec (Hp.versions B M (allR (restartR h nR)) pm2 pa2 cm2 ca2 hM1 (by rw [hMl];omega) hMd) Tryz.func28 rfl rfl rfl ?_)
  rintro _ _ ⟨rfl,rfl⟩
  try simp only [cA,nA]
  rw [hM2,decide_eq_true rfl]
  refine Rq 19 rfl rfl (by kernel_rfl) (Sr _) (Y2 rfl) (Rq 20 rfl rfl (by kernel_rfl) (Sr _) (Qp rfl rfl) (Rq 21 rfl rfl (by kernel_rfl) (Sr _) (Qm rfl) (ZD (t:=110) rfl rfl (Rq 22 rfl rfl (by kernel_rfl) (Sr _) (Qm rfl) (Rq 23 rfl rfl (by kernel_rfl) (Sr _) (QL [_,_,_,_,_,_,_,_] (by kernel_rfl) rfl ⟨rfl,rfl,rfl,rfl,rfl,rfl,rfl,rfl,trivial⟩) (yK 24 (by kernel_rfl) ?_))))))
  refine zY rfl rfl (by kernel_rfl) (Ec (Hp.commitsLaw B g2 b 9 7 2 (k+7+nR+7+7) q2 (restartR h nR) (by omega)) Tryz.func30 rfl rfl rfl ?_)
  rintro _ _ ⟨rfl,rfl⟩
  try simp only [cA,nA]
  refine Rq 25 rfl rfl (by kernel_rfl) (Sr _) (Y2 rfl) (Rq 26 rfl rfl (by kernel_rfl) (Sr _) (Qp rfl rfl) (Rd0 (by rfl) ?_))
  simp only [dS,dZ,dN]
  refine Ld (yQ rfl (Tk (TR (Lq rfl (Qd rfl rfl (wr64 (by omega) (by omega))) (Lm rfl rfl (Ld ?_))))))
  refine ⟨_,?_,_,⟨_,k+1,k+7+nR+7+7,g2,restartR h nR,q2,⟨by omega,by omega,⟨hPr.r,hPr.s.mono (by omega),hPr.pages,hPr.room,by have:=hPr.last;omega⟩⟩,rfl,(updS rfl (updS rfl (updS rfl (updS rfl (updS rfl (updS rfl (updS rfl (updS rfl rfl)))))))),rfl⟩,Sa⟩
  omega
 refine zB (Ts (zW 5 none (by kernel_rfl) (nB rfl) (by kernel_rfl) (Rq 0 rfl rfl (by kernel_rfl) Sa (Qm rfl) (Rq 2 rfl rfl (by kernel_rfl) Sa (QL [_,_,_,_,_,_,_,_] (by kernel_rfl) rfl ⟨rfl,rfl,rfl,rfl,rfl,rfl,rfl,rfl,trivial⟩) (yK 1 (by kernel_rfl) ?_)))))
 refine z6 rfl rfl (Ec (Hp.all B g b 9 7 2 K h (by omega)) Tryz.func18 rfl rfl rfl ?_)
 rintro _ _ ⟨L,p1,c1,hL1,hL2,rfl,rfl⟩
 try simp only [cA,nA]
 have hLl:L.length=(allR h).length:=by rw [←hL2,List.length_map]
 have hLd : ∀ x∈L,x.v.data.length<2^32:=fun x hx=>by have:=all_data hP.r (x:=x.v) (by rw [←hL2];exact List.mem_map_of_mem hx);omega
 refine ⟨Sa,?_⟩
 refine yK 3 (by kernel_rfl) ?_
 refine zY rfl rfl (by kernel_rfl) (Ec (Hr.all B q h k hHk) Tryz.func29 rfl rfl rfl ?_)
 rintro _ _ ⟨p2,c2,rfl,rfl⟩
 try simp only [cA,nA]
 refine yK 4 (by kernel_rfl) ?_
 refine zY rfl rfl (by kernel_rfl) (Ec (Hp.versions B L (allR h) p1 p2 c1 c2 hL1 (by rw [hLl];omega) hLd) Tryz.func28 rfl rfl rfl ?_)
 rintro _ _ ⟨rfl,rfl⟩
 try simp only [cA,nA]
 rw [hL2,decide_eq_true rfl]
 refine Rd0 (by rfl) ?_
 simp only [dS,dZ,dN]
 refine La rfl rfl (Ld (T.ret ?_))
 exact ⟨.inl rfl,_,_,res [_] rfl ⟨rvT rfl,trivial⟩,⟨rfl,rfl⟩,Sa⟩
end Go.Proofs.YtfjjgdnepfgnhaaGreatDoor
namespace Go.Proofs.YtfjjgdnepfgnhaaGreatDoor.heapCrashes
open Go.ChangeShapes Go.WideShapes Go.ChangeAt Go.RowKit
theorem bulk_one {H:Type} (a:DataW H):Rows.uptoBulkAll [a]=Rows.uptoBulk a:=by simp [Rows.uptoBulkAll]
theorem contract (H:Type) (enc:TypeId×Value→H) (W:World) (base:Nat) (args:Array Value) (ds gs:List (DataW H)) (before:List MemPlace)
  (hval : ∀ (j:Nat) t v,Tryz.f4.params[j]? = some t→args[j]? = some v→Value.okWide Tryz.prog W .any base t v)
  (hW:DataW.Whole enc Tryz.prog Tryz.f4.params.toList Rows.heapCrashesSpec.vars false W args.toList ds gs before) (hk:Rows.uptoSmall H (ds++gs)=true) :
  Calls Tryz.prog 4 args W fun e W' => ∃ v,e = .returned v∧Rows.heapCrashesSpec.post enc Tryz.prog Tryz.f4 false true false false W args v W':=by
 have hW0:=hW
 obtain ⟨p,q,hA0,hV,rfl,hfz,hnd⟩:=hW
 have hA:DataW.TrodAll enc Tryz.prog W 0 (fun _=>true) true Tryz.f4.params.toList args.toList ds p:=hA0
 rw [Tryz.params4] at hA hval
 obtain ⟨v0,d0,rfl,rfl,h0⟩:=trodAll_one hA
 obtain ⟨rfl,rfl⟩:=trodVars_none hV
 have hbulk:=Tryz.upto_bound hk
 rw [List.append_nil] at hbulk
 clear hA0 hV hk
 obtain ⟨sa0,sl0,sc0,rfl⟩:=okWide_slice Tryz.underlying73 (hval 0 73 v0 rfl rfl)
 obtain ⟨fu0,t0⟩:=h0
 obtain ⟨sv0,l0,hc0,hs0,hB0,hL0⟩:=open_slice_R (enc:=enc) (P:=Tryz.prog) (W:=W) (R:=OpHR W) (B:=fun o=>o.data.length+o.keep.length+2) Tryz.underlying73 (show Tryz.prog.cellsOf 85=9 by kernel_rfl) (by omega) (fun n cs y=>read_opH n cs y) t0
 simp only [Value.cells,List.cons.injEq,and_true] at hc0
 subst hc0
 dsimp only at hB0 hL0
 rw [bulk_one] at hbulk
 have hok0:=hs0.okH
 refine (Fn.law (Hl.crashes _ _ l0 hs0.roLH (by omega) (fun x hx=>by have:=opH_le hx;omega) hok0)).mono fun e W' ⟨he,hg⟩=>?_
 subst he
 exact ⟨_,rfl,post_law Tryz.laidOut hW0 rfl rfl 4 Tryz.underlying4 (by kernel_rfl) (by rw [Tryz.params4];decide +kernel) hg.toBelow⟩
theorem reads (os:Os) {H:Type} (enc:TypeId×Value→H) : ∃ places,DataW.whole enc Tryz.prog ((laidWorld os).forCall (fun _ _=>0) ⟨#[],#[.slice none 0 0],[]⟩).memory Tryz.f4.params.toList Rows.heapCrashesSpec.vars false (#[.slice none 0 0]:Array Value).toList 8=some ([.nil],[],places) :=
 ⟨[],by kernel_rfl⟩
theorem lifted (os:Os) (started:os.Started) (H:Type) (enc:TypeId×Value→H) (F:Stop.Interp) :
  ReturnsInHanded {} Tryz.checked os 4 .any ((Rows.OpenSpec.upto Rows.heapCrashesSpec).preRow enc Tryz.prog Tryz.f4 Rows.heapCrashesUptoRow.domain false Rows.heapCrashesUptoRow.laid) (((Rows.OpenSpec.upto Rows.heapCrashesSpec).at F).post enc Tryz.prog Tryz.f4 false true false false):=by
 obtain ⟨places,hx⟩:=reads os enc
 refine returnsInHanded_of_row (C:=Tryz.checked) (s:=Rows.OpenSpec.upto Rows.heapCrashesSpec) Tryz.own started (by kernel_rfl) Tryz.func4
  (witness_row_at (enc:=enc) (C:=Tryz.checked) false (laidWorld os) #[.slice none 0 0] rfl (by kernel_rfl) (by kernel_rfl) (by kernel_rfl)
   (OpenSpec.preRow_of_cond 8 hx (by kernel_rfl) (fun k hk=>by cases hk;kernel_rfl) (by kernel_rfl) (laid_met os _))) ?_
 intro W base args ds gs before hval hW _ hcond _ _ _ _
 exact contract H enc W base args ds gs before hval hW (hcond _ rfl)
theorem jA : (Rows.heapCrashesUptoRow.inPlace == Tryz.prog.inPlace 4)=true:=by kernel_rfl
theorem jB : (Rows.heapCrashesUptoRow.unfollowed == Tryz.prog.unfollowed 4)=true:=by kernel_rfl
theorem jC : (Rows.heapCrashesUptoRow.recurses == Tryz.prog.recurses 4)=true:=by kernel_rfl
theorem jD : (Rows.heapCrashesUptoRow.named == Tryz.prog.varsNamed 4)=true:=by kernel_rfl
theorem jE : laidOutB Tryz.prog=true:=by kernel_rfl
theorem jF : mapsRowed Tryz.prog=true:=by kernel_rfl
theorem jG : joinedFacts Tryz.prog 4 Tryz.f4 (Rows.OpenSpec.upto Rows.heapCrashesSpec).bare Rows.heapCrashesUptoRow=true:=by
 unfold joinedFacts
 rw [jA,jB,jC,jD,jE,jF]
 kernel_rfl
theorem over : Rows.heapCrashesUptoRow.holds Tryz.pinned (Rows.OpenSpec.upto Rows.heapCrashesSpec) :=
 OpenClaim.holds_of_cond 4 Tryz.f4 rfl rfl rfl rfl rfl rfl rfl ⟨rfl,rfl,rfl,rfl,rfl⟩ rfl rfl rfl rfl rfl (by kernel_rfl) Tryz.func4 jG
  (of_decide_eq_true (by kernel_rfl)) (by unfold Func.isWrapper;first | (rw [if_pos (by decide +kernel)];kernel_rfl) | (rw [if_neg (by decide +kernel)];exact ⟨rfl,rfl⟩))
  (fun os started H enc _ F=>by rw [OpenClaim.pre_eq_preRow];exact lifted os started H enc F)
theorem plain (f:FuncId) (fn:Func) (hf:Tryz.pinned.checked.prog.funcNamed "annals/annalslaw08.HeapCrashes" = some f) (hfn:Tryz.pinned.checked.prog.funcs[f]? = some fn) :
  false=Tryz.pinned.checked.prog.looks [] ∧ ∀ (j:Nat) t,fn.params[j]? = some t→Tryz.pinned.checked.prog.wantsStandIn t=false:=by
 obtain rfl:f=4:=Option.some.inj ((show Tryz.prog.funcNamed "annals/annalslaw08.HeapCrashes" = some 4 by kernel_rfl).symm.trans hf) |>.symm
 obtain rfl:fn=Tryz.f4:=(Option.some.inj (Tryz.func4.symm.trans hfn)).symm
 refine ⟨by kernel_rfl,fun j t ht=>?_⟩
 rw [Tryz.params4] at ht
 have hall:([73]:List TypeId).all (fun t => !Tryz.prog.wantsStandIn t)=true:=by kernel_rfl
 have:=List.all_eq_true.1 hall t (by simpa using Array.mem_of_getElem? ht)
 exact (show Tryz.prog.wantsStandIn t=false by simpa using this)
theorem proved : Rows.HeapCrashesUptoCardSaid :=
 Claim7.holds_tied_plain_at .later [] _ _ _ _ over (fun _ h=>by cases h) (by kernel_rfl) (fun _ h=>by cases h) heapCrashesUpto_row_tie rfl ⟨rfl,rfl⟩ (by kernel_rfl) rfl plain (by kernel_rfl)
end Go.Proofs.YtfjjgdnepfgnhaaGreatDoor.heapCrashes
