/- The law StoreKeeps of annalslaw21 holds (its card): for all arguments of bulk at most 1048576 the call returns true and the arguments read as before. Condition: the bound of the second form. -/
import Derived.Test.YtjmjjfefchnkaaaGreatDoorZKeBase15
set_option linter.unusedSimpArgs false
set_option linter.unusedVariables false
set_option maxRecDepth 100000
set_option maxHeartbeats 16000000
namespace Go.Proofs.YtjmjjfefchnkaaaGreatDoor
open Go.RowKit
theorem FlV.pre {B:Wn} {S:List Wp} {α:Type} {g:α→List Value} {a:Option Addr} {m c:Nat} {x y:List α} (c':Nat) (h:FlV B S g (.slice a m c) (x++y)):FlV B S g (.slice a x.length c') x:=by
  obtain ⟨a',k,e,h⟩:=h
  injection e with e1 e2 e3
  subst e1
  refine ⟨a,c',rfl,?_⟩
  rcases h with h | ⟨b,o,rfl,h⟩
  · exact .inl (List.append_eq_nil_iff.1 h).1
  · refine .inr ⟨b,o,rfl,fun w ho j v hv=>h w ho j v ?_⟩
    rw [List.flatMap_append,List.getElem?_append_left (List.getElem?_eq_some_iff.1 hv).1]
    exact hv
theorem flat_lenX (l:List Vx):(l.flatMap vxC).length=l.length*3:=by
 induction l with
 | nil=>rfl
 | cons a l ih=>rw [List.flatMap_cons,List.length_append,ih,List.length_cons];simp;omega
theorem FlV.itA {B:Wn} {x:ItM} (hc:3+x.it.f.row.length≤x.c):FlV B [itA x] vxC (.slice (offA (some ⟨x.g,0,none⟩) x.c 3 3) x.it.f.row.length (x.c-3)) x.it.f.row:=by
  by_cases n0:x.it.f.row=[]
  · exact ⟨_,_,rfl,.inl n0⟩
  · have hp:=List.length_pos_iff.2 n0
    refine ⟨_,_,rfl,.inr ⟨x.g,0+3*3,offA_some (by omega),fun w ho=>?_⟩⟩
    have h0:FlV B [Go.Proofs.YtjmjjfefchnkaaaGreatDoor.itA x] vxC (.slice (some ⟨x.g,0,none⟩) (3+x.it.f.row.length) x.c) (valsF x.it.t x.it.f):=FlV.row (l:=[]) (fun _=>rfl) (by omega) vals_len (fun _=>⟨_,rfl⟩)
    obtain ⟨a',k,e,h | ⟨b,o,e1,hr⟩⟩:=h0
    · have:=congrArg List.length h;rw [vals_len] at this;simp at this
    · injection e with e2 _ _
      rw [e1] at e2
      injection e2 with e2
      injection e2 with e3 e4
      subst e3;subst e4
      refine rangeAt_part (3*3) (hr w ho) fun j v hv=>?_
      show ((headX x.it.t x.it.f.fr x.it.f.to++x.it.f.row).flatMap vxC)[3*3+j]? = some v
      rw [List.flatMap_append,List.getElem?_append_right (by rw [flat_lenX];simp [headX]),flat_lenX]
      rw [show 3*3+j-(headX x.it.t x.it.f.fr x.it.f.to).length*3=j by simp [headX]]
      exact hv
theorem Own.its_one {B:Wn} {w:World} {x:ItM} {l r:List Wp} (H:Own B w l) [k:TakeA (itsA [x]) l r]:Own B w (Go.Proofs.YtjmjjfefchnkaaaGreatDoor.itA x::r):=(H.take (k:=k)).map fun _ q=>Wt (fun _ z=>(z:Has r _)) (Has.open_sepL (l:=[Go.Proofs.YtjmjjfefchnkaaaGreatDoor.itA x]) q)
theorem Ef.ownK {P:Program} {B:Wn} {n:Nat} {o:Oper} {f:Fr} {l:List Wp} {K:Value→List Wp→Prop} (h:Ef P B n o f l (fun u r => ∀ w,Own B w r→K u r)):Ef P B n o f l K:=⟨fun w next Q ho hk=>h.run w next Q ho (fun v w' r hK ho'=>hk v w' r (hK w' ho') ho')⟩
theorem one_law {F0:Fx1} (hf:FxRd F0) {t:Int} (ht : -(2^63)≤t∧t<2^63) {stamp e:Int} (he:codeS (newR 8 3072) stamp [] [(t,F0)]=e) : ∃ h1:HR,(if e=0 then (writeS (newR 8 3072) stamp [] ([(t,F0)].map fun p=>recD p.1 p.2)).1 else newR 8 3072)=h1∧SI h1 8 3072 ∧
    (e=0→0<stamp∧lastS h1=stamp∧h1.last=1∧h1.cm=[(1,stamp)]∧FxOk t F0 ∧ ∃ pg sl:Nat,h1.vs=[⟨pg,sl,1,0,encL (valsF t F0)⟩]∧histR h1 t=[⟨pg,sl,t,F0,stamp,0⟩]∧histR h1 (-1)=[⟨pg,sl,t,F0,stamp,0⟩]∧seeR h1 t stamp=[⟨pg,sl,t,F0,stamp,0⟩])∧(e≠0→histR h1 t=[]∧lastS h1=0):=by
  by_cases e0:e=0
  · rw [if_pos e0]
    obtain ⟨h1,h2,_,h4,s1,w⟩:=code_write (SI.new 8 3072) (by omega) (by decide) (ps:=[(t,F0)]) (by simp [hf];omega) (he.trans e0)
    obtain ⟨h5,h6⟩:=h4 (t,F0) (by simp)
    rw [show [(t,F0)].map (fun p=>recD p.1 p.2)=[encL (valsF t F0)] from congrArg (fun d=>[d]) h6] at s1 w ⊢
    obtain ⟨⟨pg,sl,vb,vf,vd⟩,v1,v2,v3,v4,v5,v6⟩:=first_write (by omega) w
    simp only at v2 v3 v4
    subst v2;subst v3;subst v4
    have h0:0<stamp:=h1
    have st1:stampR (writeS (newR 8 3072) stamp [] [encL (valsF t F0)]).1 1=stamp:=by show stampL _ 1=_;rw [v5];rfl
    have st0:=s1.stamp0
    refine ⟨_,rfl,s1,fun _=>⟨h0,w.lastS,v6,v5,h5,pg,sl,v1,?_,?_,?_⟩,fun q=>absurd e0 q⟩
    · rw [hist_one s1 v1 h5 rfl,if_pos (.inl rfl)];dsimp only;rw [st1,st0]
    · rw [hist_one s1 v1 h5 rfl,if_pos (.inr (by decide))];dsimp only;rw [st1,st0]
    · rw [see_one s1 v1 h5 rfl];dsimp only;rw [st1,st0,if_pos ⟨.inl rfl,Int.le_refl _,.inl rfl⟩]
  · rw [if_neg e0]
    exact ⟨_,rfl,SI.new 8 3072,fun q=>absurd q e0,fun _=>⟨by kernel_rfl,rfl⟩⟩
theorem Sx.writeOne (B:Wn) (S:List Wp) (s b:Nat) {F0:Fx1} (hf:FxRd F0) {t:Int} (ht : -(2^63)≤t∧t<2^63) (stamp e:Int) (he:codeS (newR 8 3072) stamp [] [(t,F0)]=e) (h1:HR) (hh1:(if e=0 then (writeS (newR 8 3072) stamp [] ([(t,F0)].map fun p=>recD p.1 p.2)).1 else newR 8 3072)=h1)
  (pa ra:Option Addr) (pc rc:Nat) (hpv:FlV B S ptC (.slice pa 1 pc) [⟨t,F0,ra,rc⟩]) (hv:FlV B S vxC (.slice ra F0.row.length rc) F0.row) :
  Fn Tryz.prog B 13 #[pV s,.int .i64 stamp,.slice none 0 0,.slice pa 1 pc] (stoA s b 12 8 3 16 (newR 8 3072)::S) (fun u l=>u = .int .i64 e∧l=stoA s b 12 8 3 60 h1::S) :=
 Fn.post (Sx.writeA B S s b 12 8 3 16 (newR 8 3072) (SI.new 8 3072) (by omega) (by omega) (by simp [newR]) (by simp [newR]) stamp none 0 0 [] rfl (by omega) (FlV.empty _ _) pa 1 pc [⟨t,F0,ra,rc⟩] rfl (by omega) hpv (by intro q hq;rw [List.mem_singleton.1 hq];exact ⟨hv,hf,ht⟩) 60 (by omega) (by omega) e he) (by rintro u l ⟨rfl,rfl⟩;exact ⟨_,Sr _,rfl,by rw [←hh1];rfl⟩)
theorem Sx.keeps (B:Wn) (F0:Fx1) (ra:Option Addr) (m rc:Nat) (hl:F0.row.length=m) (hv:FlV B [] vxC (.slice ra m rc) F0.row) (hf:FxRd F0) (hm:m≤2^20) (t:Int) (ht : -(2^63)≤t∧t<2^63) :
  Fn Tryz.prog B 4 #[factV ra m rc F0,.int .i64 t] [] (fun v l=>v = .bool true∧l=[]):=by
 subst hl
 refine Wr 136 Tryz.func4 rfl rfl (nB rfl) (fun F=>?_)
 try simp only [cA,nA]
 refine TS ?_
 refine Le rfl (zL [_,_,_] rfl rfl ?_)
 intro g2
 refine La rfl rfl (Ld (Ts (TS ?_)))
 refine Le rfl (Ec (Sx.awake B) Tryz.func8 rfl rfl rfl ?_)
 rintro _ _ ⟨rfl,rfl⟩
 try simp only [cA,nA]
 refine Lq rfl (Y2 rfl) (Ld (yQ rfl (Tk (TS ?_))))
 refine Le rfl (Ec (Sx.opened B) Tryz.func9 rfl rfl rfl ?_)
 rintro _ _ ⟨b,s,rfl,rfl⟩
 try simp only [cA,nA]
 refine Lm rfl rfl (Lq rfl (Qx rfl rfl) (Lq rfl (Qx rfl rfl) (La rfl rfl (La rfl rfl (Ld (Ts (Ts ?_)))))))
 refine TR (Lm rfl rfl (Lq rfl (Y1 (by kernel_rfl) rfl rfl) (Lm rfl rfl (yT (t:=20) rfl rfl (Lm rfl rfl (Lq rfl (yM rfl rfl) (Lq rfl (Qp rfl rfl) ?_)))))))
 refine Ld ?_
 refine yN rfl (fun ht0=>?_) (fun ht0=>?_)
 ·
  refine TS (Lm rfl rfl (Lq rfl (YZ (by kernel_rfl) rfl rfl) (La rfl rfl (Ld (T.ret ?_)))))
  exact ⟨.inl rfl,_,_,res [_] rfl ⟨rvT rfl,trivial⟩,⟨rfl,rfl⟩,Sa⟩
 refine Tk (Ts (T.draw 10 ([blk g2 [.slice ra F0.row.length rc,.int .i64 F0.fr,.int .i64 F0.to] 50]) (by kernel_rfl) (nB rfl) (by kernel_rfl) (Rq 0 rfl rfl (by kernel_rfl) Sa (Q0 (by kernel_rfl) rfl) (Rq 1 rfl rfl (by kernel_rfl) Sa (Ql (by kernel_rfl) rfl rfl) (Rq 3 rfl rfl (by kernel_rfl) Sa (z8 [(0,1),(1,1),(2,1)] [.int .i64 0,.int .i64 0,.string .empty] [_,_,_] [(0,_)] (by kernel_rfl) (by unfold Zf;kernel_rfl) rfl rfl) (Rq 6 rfl rfl (by kernel_rfl) Sa (Q0 (by kernel_rfl) rfl) (Rq 7 rfl rfl (by kernel_rfl) Sa (Ql (by kernel_rfl) rfl rfl) ?_)))))))
 refine Rq 8 rfl rfl (by kernel_rfl) Sa (yI (e:=58) (sz:=3) (by kernel_rfl) rfl) ?_
 refine YC [2,4] (by kernel_rfl) (List.forall_mem_cons.2 ⟨?_,List.forall_mem_cons.2 ⟨?_,List.forall_mem_nil _⟩⟩)
 ·
  refine z6 rfl rfl (Ec (Rx.copy B [] F0.row ra F0.row.length rc rfl (by omega) hv) Tryz.func17 rfl rfl rfl ?_)
  rintro _ _ ⟨p,c,hp,rfl,rfl⟩
  try simp only [cA,nA]
  refine ⟨Sa,?_⟩
  refine yK 4 (by kernel_rfl) ?_
  refine z6 rfl rfl (Ef.lits (e:=58) (sz:=3) [_] (vxC ⟨77,0,[]⟩) (by kernel_rfl) (by kernel_rfl) rfl (by simp [Value.cells]) rfl rfl (by omega) (by omega) (by omega) ?_)
  intro gk
  refine ⟨Sa,?_⟩
  refine yK 5 (by kernel_rfl) ?_
  refine z6 rfl rfl (Ef.ownK (Ea Cx.elemX rfl rfl (SrcOf.blk (by kernel_rfl) rfl (by simp [Value.oneCell'])) (by unfold maxLen;omega) (by omega) ?_))
  intro p2 c2 hp2 w ho
  have hcap:F0.row.length+1≤c2:=ho.cap_at (p:=p2) (m:=F0.row.length+1) (c:=c2)
  clear ho w
  obtain ⟨gm,rfl⟩:=hp2 (by omega)
  refine ⟨Sa,?_⟩
  refine Rq 9 rfl rfl (by kernel_rfl) Sa (Y6 F0.row.length (e:=58) (sz:=3) (by kernel_rfl) rfl rfl rfl (by omega)) (Rd0 (by rfl) ?_)
  simp only [dS,dZ,dN]
  refine La rfl rfl (Ld (TS (Lm rfl rfl (Lm rfl rfl (Lm rfl rfl (Lq rfl (Qf (off:=1) (by kernel_rfl) rfl) ?_))))))
  refine Lq rfl (QL [_,_] (by kernel_rfl) rfl ⟨rfl,rfl,trivial⟩) (Lq rfl (z8 [(0,1),(1,2)] [.slice none 0 0,.int .i64 0,.int .i64 0] [_,_,_] [(0,_),(1,_)] (by kernel_rfl) (by unfold Zf;kernel_rfl) rfl rfl) (Lq rfl (z8 [(0,1),(1,3)] [.int .i64 0,.slice none 0 0,.int .i64 0,.int .i64 0] [_,_,_,_] [(0,_),(1,_)] (by kernel_rfl) (by unfold Zf;kernel_rfl) rfl rfl) ?_))
  refine Le rfl (Ef.lits (e:=60) (sz:=4) [_] (ptC ⟨t,F0,(some ⟨gm,0,none⟩),c2⟩) (by kernel_rfl) (by kernel_rfl) rfl (by simp [Value.cells]) rfl rfl (by omega) (by omega) (by omega) ?_)
  intro gp
  rw [show List.flatMap vxC F0.row++vxC ⟨77,0,[]⟩=(F0.row++[(⟨77,0,[]⟩:Vx)]).flatMap vxC by rw [List.flatMap_append];rfl]
  obtain ⟨e,he⟩ : ∃ e,codeS (newR 8 3072) 3 [] [(t,F0)]=e:=⟨_,rfl⟩
  obtain ⟨h1,hh1,s1,hpos,hneg⟩:=one_law hf ht he
  have hro:FlV B [row (.slice (some ⟨gm,0,none⟩) (F0.row.length+1) c2) 58 3 (F0.row.length+1) ((F0.row++[(⟨77,0,[]⟩:Vx)]).flatMap vxC)] vxC (.slice (some ⟨gm,0,none⟩) F0.row.length c2) F0.row:=FlV.pre c2 (FlV.row (l:=[]) (fun _=>rfl) (by omega) (by simp) (fun _=>⟨gm,rfl⟩))
  refine Le rfl (Ec (Sx.writeOne B [blk gp (ptC ⟨t,F0,(some ⟨gm,0,none⟩),c2⟩) 60,row (.slice (some ⟨gm,0,none⟩) (F0.row.length+1) c2) 58 3 (F0.row.length+1) ((F0.row++[(⟨77,0,[]⟩:Vx)]).flatMap vxC)] s b hf ht 3 e he h1 hh1 (some ⟨gp,0,none⟩) (some ⟨gm,0,none⟩) 1 c2 (FlV.blk (x:=[(⟨t,F0,(some ⟨gm,0,none⟩),c2⟩:PtM)]) (g:=ptC) rfl) (hro.mono (fun w ho=>ho.map Sa))) Tryz.func13 rfl rfl rfl ?_)
  rintro _ _ ⟨rfl,rfl⟩
  try simp only [cA,nA]
  refine La rfl rfl (Ld (Ts (Ts (T.draw 20 ([blk g2 [.slice ra F0.row.length rc,.int .i64 F0.fr,.int .i64 F0.to] 50,row (.slice (some ⟨gm,0,none⟩) (F0.row.length+1) c2) 58 3 (F0.row.length+1) ((F0.row++[(⟨77,0,[]⟩:Vx)]).flatMap vxC)]) (by kernel_rfl) (nB rfl) (by kernel_rfl) (Rq 0 rfl rfl (by kernel_rfl) Sa (Qm rfl) (Rq 1 rfl rfl (by kernel_rfl) Sa (Q0 (by kernel_rfl) rfl) (Rq 2 rfl rfl (by kernel_rfl) Sa (Ql (by kernel_rfl) rfl rfl) ?_)))))))
  refine yK 3 (by kernel_rfl) ?_
  refine zY rfl rfl (by kernel_rfl) (Ec (Rx.same B [row (.slice (some ⟨gm,0,none⟩) (F0.row.length+1) c2) 58 3 (F0.row.length+1) ((F0.row++[(⟨77,0,[]⟩:Vx)]).flatMap vxC)] F0.row (some ⟨gm,0,none⟩) ra F0.row.length c2 rc rfl (by omega) hro (hv.mono (fun w ho=>ho.map Sa))) Tryz.func15 rfl rfl rfl ?_)
  rintro _ _ ⟨rfl,rfl⟩
  try simp only [cA,nA]
  refine Rq 4 rfl rfl (by kernel_rfl) (Sr _) (Y2 rfl) (Rq 5 rfl rfl (by kernel_rfl) (Sr _) (Qm rfl) (ZD (t:=50) rfl rfl (Rq 6 rfl rfl (by kernel_rfl) (Sr _) (Qm rfl) (Rq 7 rfl rfl (by kernel_rfl) (Sr _) (Q0 (by kernel_rfl) rfl) (Rq 8 rfl rfl (by kernel_rfl) (Sr _) (Ql (by kernel_rfl) rfl rfl) (Rq 9 rfl rfl (by kernel_rfl) (Sr _) (yI (e:=58) (sz:=3) (by kernel_rfl) rfl) (Rq 10 rfl rfl (by kernel_rfl) (Sr _) (Qd rfl rfl (Ze (by omega) (by omega))) ?_)))))))
  refine Rq 11 rfl rfl (by kernel_rfl) (Sr _) (Y6 (F0.row.length+1) (e:=58) (sz:=3) (by kernel_rfl) rfl rfl (by omega) hcap) (Rq 12 rfl rfl (by kernel_rfl) (Sr _) (Q0 (by kernel_rfl) rfl) (Rq 13 rfl rfl (by kernel_rfl) (Sr _) (Ql (by kernel_rfl) rfl rfl) (Rq 14 rfl rfl (by kernel_rfl) (Sr _) (yI (e:=58) (sz:=3) (by kernel_rfl) rfl) (Rq 15 rfl rfl (by kernel_rfl) (Sr _) (Qi _ (e:=58) (sz:=3) (by kernel_rfl) rfl rfl rfl (by omega)) (Rq 16 rfl rfl (by kernel_rfl) (Sr _) (Q0 (by kernel_rfl) rfl) (Rq 17 rfl rfl (by kernel_rfl) (Sr _) (Ql (v := .int .i64 77) (by kernel_rfl) rfl (flat_cell0 vxC 3 (F0.row++[(⟨77,0,[]⟩:Vx)]) (fun _ _=>rfl) F0.row.length (by simp) (by simp))) (Rq 18 rfl rfl (by kernel_rfl) (Sr _) (yW rfl rfl) ?_)))))))
  refine Rq 19 rfl rfl (by kernel_rfl) (Sr _) (Qp rfl rfl) (Rd0 (by rfl) ?_)
  simp only [dS,dZ,dN]
  refine Ld (yQ rfl (Tk (Ts (TS (Lm rfl rfl (Lq rfl (yI (e:=58) (sz:=3) (by kernel_rfl) rfl) ?_))))))
  refine Lm rfl rfl (Ld (yH ?_))
  refine zG (fun mz fz lz => ∃ (f0:Fr) (i:Nat) (X:List Value),(i≤F0.row.length∧X.length=(F0.row.length+1)*3)∧mz=F0.row.length-i∧fz=(upd (upd (upd (upd (upd (upd (upd f0 1 (.int .i64 t)) 2 (.pointer (some ⟨g2,0,none⟩))) 6 (pV s)) 7 (.slice (some ⟨gm,0,none⟩) F0.row.length c2)) 8 (.int .i64 e)) 66 (.int .i64 F0.row.length)) 67 (.int .i64 i))∧lz=row (.slice (some ⟨gm,0,none⟩) (F0.row.length+1) c2) 58 3 (F0.row.length+1) X::blk g2 [.slice ra F0.row.length rc,.int .i64 F0.fr,.int .i64 F0.to] 50::stoA s b 12 8 3 60 h1::F) ?_ ?_
  · refine ⟨_,_,⟨_,0,(F0.row++[(⟨77,0,[]⟩:Vx)]).flatMap vxC,⟨Nat.zero_le _,by rw [flat_lenX];simp⟩,rfl,(Za rfl (Za rfl (Za rfl (Za rfl (Za rfl (Za rfl (Za rfl rfl))))))),rfl⟩,Sa⟩
  rintro mz fz lz ⟨f0,i,X,⟨hi,hX⟩,hmz,rfl,rfl⟩
  subst mz
  refine TS (Lq rfl (yM rfl rfl) (Ld (Ts ?_)))
  refine yN rfl (fun hlt=>?_) (fun hlt=>?_)
  ·
   refine Tk (Ts (yH (TS (Lm rfl rfl (La rfl rfl (Ld ?_))))))
   refine TR (Lm rfl rfl (Lm rfl rfl (Lq rfl (z8 [(0,1),(1,1),(2,1)] [.int .i64 0,.int .i64 0,.string .empty] [_,_,_] [(0,_)] (by kernel_rfl) (by unfold Zf;kernel_rfl) rfl rfl) (Lq rfl (Qi _ (e:=58) (sz:=3) (by kernel_rfl) rfl rfl rfl (by omega)) ?_))))
   refine L0 rfl (Es (vxC ⟨9,0,[]⟩) (by kernel_rfl) rfl rfl rfl rfl (by simp;omega) ?_)
   refine Ld (TR (Lq rfl (Qd rfl rfl (Ze (by omega) (by omega))) (Lm rfl rfl (Ld ?_))))
   refine ⟨_,?_,_,⟨_,i+1,splice X (0+i*3) (vxC ⟨9,0,[]⟩),⟨by omega,by rw [length_splice _ _ _ (by simp;omega)];exact hX⟩,rfl,(Za rfl (Za rfl (Za rfl (Za rfl (Za rfl (Za rfl (Za rfl rfl))))))),rfl⟩,Sa⟩
   omega
  refine zB (TS (Lm rfl rfl (Lm rfl rfl ?_)))
  refine Le rfl (Ec (Sx.history B s b 12 8 3 60 h1 s1 (by omega) (by omega) t) Tryz.func16 rfl rfl rfl ?_)
  rintro _ _ ⟨L,pv,cv,hL,rfl,rfl⟩
  try simp only [cA,nA]
  by_cases he0:e=0
  ·
   obtain ⟨q1,q2,q3,q4,hxo,pg,sl,q5,q6,q7,q8⟩:=hpos he0
   rw [q6] at hL
   obtain ⟨gi,ci,rfl⟩:=it_one hL
   refine LW.own fun w ho=>?_
   obtain ⟨gv,rfl⟩ : ∃ g,pv=some ⟨g,0,none⟩:=((ho.map Sa:Own B w [itR pv 1 cv [⟨⟨pg,sl,t,F0,3,0⟩,gi,ci⟩]]).slice_at (p:=pv) (m:=1) (c:=cv)).2.1 (by omega)
   clear ho
   rw [show ([⟨⟨pg,sl,t,F0,3,0⟩,gi,ci⟩]:List ItM).length=1 from rfl]
   refine LW.conv (fun w ho=>ho.its_one (x:=⟨⟨pg,sl,t,F0,3,0⟩,gi,ci⟩)) (LW.own fun w ho=>?_)
   have hcap:=(ho.map Sa:Own B w [itA ⟨⟨pg,sl,t,F0,3,0⟩,gi,ci⟩]).cap_at (p:=some ⟨gi,0,none⟩) (m:=3+F0.row.length) (c:=ci)
   clear ho
   have hfi:=FlV.itA (B:=B) (x:=⟨⟨pg,sl,t,F0,3,0⟩,gi,ci⟩) hcap
   refine La rfl rfl (Ld (Ts (TS (Lm rfl rfl (Lq rfl (yW rfl rfl) (Ld ?_))))))
   refine yL rfl (by omega) (Tk (Ts (Ts (T.draw 14 ([itR (some ⟨gv,0,none⟩) 1 cv [⟨⟨pg,sl,t,F0,3,0⟩,gi,ci⟩],itA ⟨⟨pg,sl,t,F0,3,0⟩,gi,ci⟩,blk g2 [.slice ra F0.row.length rc,.int .i64 F0.fr,.int .i64 F0.to] 50]) (by kernel_rfl) (nB rfl) (by kernel_rfl) (Rq 0 rfl rfl (by kernel_rfl) Sa (Qm rfl) (Rq 1 rfl rfl (by kernel_rfl) Sa (yI (e:=52) (sz:=7) (by kernel_rfl) rfl) (Rq 2 rfl rfl (by kernel_rfl) Sa (yW rfl rfl) ?_)))))))
   refine Rq 3 rfl rfl (by kernel_rfl) Sa (Qm rfl) (ZD (t:=91) rfl rfl (Rq 4 rfl rfl (by kernel_rfl) Sa (Qm rfl) (Rq 5 rfl rfl (by kernel_rfl) Sa (Qi 0 (e:=52) (sz:=7) (by kernel_rfl) rfl rfl rfl (by omega)) (Rq 6 rfl rfl (by kernel_rfl) Sa (Qf (off:=2) (by kernel_rfl) rfl) (Rq 7 rfl rfl (by kernel_rfl) Sa (Q0 (by kernel_rfl) rfl) (Rq 8 rfl rfl (by kernel_rfl) Sa (Ql (by kernel_rfl) rfl rfl) (Rq 9 rfl rfl (by kernel_rfl) Sa (Q0 (by kernel_rfl) rfl) ?_)))))))
   refine Rq 10 rfl rfl (by kernel_rfl) Sa (Ql (by kernel_rfl) rfl rfl) (yK 11 (by kernel_rfl) ?_)
   refine zY rfl rfl (by kernel_rfl) (Ec (Rx.same B [itA ⟨⟨pg,sl,t,F0,3,0⟩,gi,ci⟩] F0.row (offA (some ⟨gi,0,none⟩) ci 3 3) ra F0.row.length (ci-3) rc rfl (by omega) hfi (hv.mono (fun w ho=>ho.map Sa))) Tryz.func15 rfl rfl rfl ?_)
   rintro _ _ ⟨rfl,rfl⟩
   try simp only [cA,nA]
   refine Rq 12 rfl rfl (by kernel_rfl) (Sr _) (Y2 rfl) (Rq 13 rfl rfl (by kernel_rfl) (Sr _) (Qp rfl rfl) (Rd0 (by rfl) ?_))
   simp only [dS,dZ,dN]
   refine Ld (yQ rfl (Tk (Ts (TS (Lm rfl rfl (Lq rfl (Qi 0 (e:=52) (sz:=7) (by kernel_rfl) rfl rfl rfl (by omega)) ?_))))))
   refine Lq rfl (Qf (off:=2) (by kernel_rfl) rfl) (Lq rfl (Q0 (by kernel_rfl) rfl) (Lq rfl (Ql (by kernel_rfl) rfl rfl) (Lq rfl (yI (e:=58) (sz:=3) (by kernel_rfl) rfl) (Lm rfl rfl (Ld (yH ?_))))))
   refine zG (fun mz fz lz => ∃ (f0:Fr) (i:Nat) (X:List Value),(i≤F0.row.length∧X.length=(3+F0.row.length)*3)∧mz=F0.row.length-i∧fz=(upd (upd (upd (upd (upd (upd f0 1 (.int .i64 t)) 2 (.pointer (some ⟨g2,0,none⟩))) 6 (pV s)) 10 (.slice (some ⟨gv,0,none⟩) 1 cv)) 107 (.int .i64 F0.row.length)) 108 (.int .i64 i))∧lz=itR (some ⟨gv,0,none⟩) 1 cv [⟨⟨pg,sl,t,F0,3,0⟩,gi,ci⟩]::row (.slice (some ⟨gi,0,none⟩) (3+F0.row.length) ci) 58 3 (3+F0.row.length) X::blk g2 [.slice ra F0.row.length rc,.int .i64 F0.fr,.int .i64 F0.to] 50::stoA s b 12 8 3 68 h1::F) ?_ ?_
   · refine ⟨_,_,⟨_,0,(valsF t F0).flatMap vxC,⟨Nat.zero_le _,by rw [flat_lenX,vals_len]⟩,rfl,(Za rfl (Za rfl (Za rfl (Za rfl (Za rfl (Za rfl rfl)))))),rfl⟩,Sa⟩
   rintro mz fz lz ⟨f0,i,X,⟨hi,hX⟩,hmz,rfl,rfl⟩
   subst mz
   refine TS (Lq rfl (yM rfl rfl) (Ld (Ts ?_)))
   refine yN rfl (fun hlt=>?_) (fun hlt=>?_)
   ·
    refine Tk (Ts (yH (TS (Lm rfl rfl (La rfl rfl (Ld ?_))))))
    refine TR (Lm rfl rfl (Lq rfl (Qi 0 (e:=52) (sz:=7) (by kernel_rfl) rfl rfl rfl (by omega)) (Lq rfl (Qf (off:=2) (by kernel_rfl) rfl) (Lq rfl (Q0 (by kernel_rfl) rfl) (Lq rfl (Ql (v := .slice (some ⟨gi,0+3*3,none⟩) F0.row.length (ci-3)) (by kernel_rfl) rfl (by rw [←offA_some (b:=gi) (o:=0) (c:=ci) (lo:=3) (sz:=3) (by omega)];rfl)) (Lm rfl rfl (Lq rfl (z8 [(0,1),(1,1),(2,1)] [.int .i64 0,.int .i64 0,.string .empty] [_,_,_] [(0,_)] (by kernel_rfl) (by unfold Zf;kernel_rfl) rfl rfl) ?_)))))))
    refine Lq rfl (Qi _ (e:=58) (sz:=3) (by kernel_rfl) rfl rfl rfl (by omega)) ?_
    refine L0 rfl (Es (vxC ⟨9,0,[]⟩) (by kernel_rfl) rfl rfl rfl rfl (by simp;omega) ?_)
    refine Ld (TR (Lq rfl (Qd rfl rfl (Ze (by omega) (by omega))) (Lm rfl rfl (Ld ?_))))
    refine ⟨_,?_,_,⟨_,i+1,splice X (0+3*3+i*3) (vxC ⟨9,0,[]⟩),⟨by omega,by rw [length_splice _ _ _ (by simp;omega)];exact hX⟩,rfl,(Za rfl (Za rfl (Za rfl (Za rfl (Za rfl (Za rfl rfl)))))),rfl⟩,Sa⟩
    omega
   refine zB (TS (Lm rfl rfl (Lm rfl rfl ?_)))
   refine Le rfl (Ec (Sx.see B s b 12 8 3 68 h1 s1 (by omega) (by omega) t 3) Tryz.func14 rfl rfl rfl ?_)
   rintro _ _ ⟨L2,pv2,cv2,hL2,rfl,rfl⟩
   try simp only [cA,nA]
   rw [q8] at hL2
   obtain ⟨gj,cj,rfl⟩:=it_one hL2
   refine LW.own fun w ho=>?_
   obtain ⟨gw,rfl⟩ : ∃ g,pv2=some ⟨g,0,none⟩:=((ho.map Sa:Own B w [itR pv2 1 cv2 [⟨⟨pg,sl,t,F0,3,0⟩,gj,cj⟩]]).slice_at (p:=pv2) (m:=1) (c:=cv2)).2.1 (by omega)
   clear ho
   rw [show ([⟨⟨pg,sl,t,F0,3,0⟩,gj,cj⟩]:List ItM).length=1 from rfl]
   refine LW.conv (fun w ho=>ho.its_one (x:=⟨⟨pg,sl,t,F0,3,0⟩,gj,cj⟩)) (LW.own fun w ho=>?_)
   have hcap2:=(ho.map Sa:Own B w [itA ⟨⟨pg,sl,t,F0,3,0⟩,gj,cj⟩]).cap_at (p:=some ⟨gj,0,none⟩) (m:=3+F0.row.length) (c:=cj)
   clear ho
   have hfj:=FlV.itA (B:=B) (x:=⟨⟨pg,sl,t,F0,3,0⟩,gj,cj⟩) hcap2
   refine La rfl rfl (Ld (Ts (T.draw 13 ([itR (some ⟨gw,0,none⟩) 1 cv2 [⟨⟨pg,sl,t,F0,3,0⟩,gj,cj⟩],itA ⟨⟨pg,sl,t,F0,3,0⟩,gj,cj⟩,blk g2 [.slice ra F0.row.length rc,.int .i64 F0.fr,.int .i64 F0.to] 50]) (by kernel_rfl) (nB rfl) (by kernel_rfl) (Rq 0 rfl rfl (by kernel_rfl) Sa (Qm rfl) (Rq 1 rfl rfl (by kernel_rfl) Sa (yI (e:=52) (sz:=7) (by kernel_rfl) rfl) (Rq 2 rfl rfl (by kernel_rfl) Sa (yU rfl rfl) (Rq 3 rfl rfl (by kernel_rfl) Sa (Qm rfl) ?_)))))))
   refine YY (t:=126) rfl rfl (Rq 4 rfl rfl (by kernel_rfl) Sa (Qm rfl) (Rq 5 rfl rfl (by kernel_rfl) Sa (Qi 0 (e:=52) (sz:=7) (by kernel_rfl) rfl rfl rfl (by omega)) (Rq 6 rfl rfl (by kernel_rfl) Sa (Qf (off:=2) (by kernel_rfl) rfl) (Rq 7 rfl rfl (by kernel_rfl) Sa (Q0 (by kernel_rfl) rfl) (Rq 8 rfl rfl (by kernel_rfl) Sa (Ql (by kernel_rfl) rfl rfl) (Rq 9 rfl rfl (by kernel_rfl) Sa (Q0 (by kernel_rfl) rfl) (Rq 10 rfl rfl (by kernel_rfl) Sa (Ql (by kernel_rfl) rfl rfl) ?_)))))))
   refine yK 11 (by kernel_rfl) ?_
   refine zY rfl rfl (by kernel_rfl) (Ec (Rx.same B [itA ⟨⟨pg,sl,t,F0,3,0⟩,gj,cj⟩] F0.row (offA (some ⟨gj,0,none⟩) cj 3 3) ra F0.row.length (cj-3) rc rfl (by omega) hfj (hv.mono (fun w ho=>ho.map Sa))) Tryz.func15 rfl rfl rfl ?_)
   rintro _ _ ⟨rfl,rfl⟩
   try simp only [cA,nA]
   refine Rq 12 rfl rfl (by kernel_rfl) (Sr _) (Qp rfl rfl) (Rd0 (by rfl) ?_)
   simp only [dS,dZ,dN]
   refine La rfl rfl (Ld (T.ret ?_))
   exact ⟨.inl rfl,_,_,res [_] rfl ⟨rvT rfl,trivial⟩,⟨rfl,rfl⟩,Sa⟩
  obtain ⟨q1,q2⟩:=hneg he0
  rw [q1] at hL
  obtain rfl:=List.map_eq_nil_iff.1 hL
  refine La rfl rfl (Ld (Ts (TS (Lm rfl rfl (Lq rfl (yW rfl rfl) (Ld ?_))))))
  refine zM rfl (by omega) (TS (Lm rfl rfl (Lq rfl (yI (e:=52) (sz:=7) (by kernel_rfl) rfl) (Lq rfl (yU rfl rfl) (Lm rfl rfl (zQ (t:=83) rfl rfl ?_))))))
  refine Lm rfl rfl ?_
  refine Le rfl (Ec (Sx.last B s b 12 8 3 68 h1) Tryz.func12 rfl rfl rfl ?_)
  rintro _ _ ⟨rfl,rfl⟩
  try simp only [cA,nA]
  rw [q2]
  refine Lq rfl (yU rfl rfl) (Lq rfl (Qp rfl rfl) (La rfl rfl (Ld (T.ret ?_))))
  exact ⟨.inl rfl,_,_,res [_] rfl ⟨rvT rfl,trivial⟩,⟨rfl,rfl⟩,Sa⟩
 refine z6 rfl rfl (Ef.lits (e:=58) (sz:=3) [_] (vxC ⟨77,0,[]⟩) (by kernel_rfl) (by kernel_rfl) rfl (by simp [Value.cells]) rfl rfl (by omega) (by omega) (by omega) ?_)
 intro gk
 refine ⟨Sa,?_⟩
 refine yK 2 (by kernel_rfl) ?_
 refine z6 rfl rfl (Ec (Rx.copy B [] F0.row ra F0.row.length rc rfl (by omega) hv) Tryz.func17 rfl rfl rfl ?_)
 rintro _ _ ⟨p,c,hp,rfl,rfl⟩
 try simp only [cA,nA]
 refine ⟨Sa,?_⟩
 refine yK 5 (by kernel_rfl) ?_
 refine z6 rfl rfl (Ef.ownK (Ea Cx.elemX rfl rfl (SrcOf.blk (by kernel_rfl) rfl (by simp [Value.oneCell'])) (by unfold maxLen;omega) (by omega) ?_))
 intro p2 c2 hp2 w ho
 have hcap:F0.row.length+1≤c2:=ho.cap_at (p:=p2) (m:=F0.row.length+1) (c:=c2)
 clear ho w
 obtain ⟨gm,rfl⟩:=hp2 (by omega)
 refine ⟨Sa,?_⟩
 refine Rq 9 rfl rfl (by kernel_rfl) Sa (Y6 F0.row.length (e:=58) (sz:=3) (by kernel_rfl) rfl rfl rfl (by omega)) (Rd0 (by rfl) ?_)
 simp only [dS,dZ,dN]
 refine La rfl rfl (Ld (TS (Lm rfl rfl (Lm rfl rfl (Lm rfl rfl (Lq rfl (Qf (off:=1) (by kernel_rfl) rfl) ?_))))))
 refine Lq rfl (QL [_,_] (by kernel_rfl) rfl ⟨rfl,rfl,trivial⟩) (Lq rfl (z8 [(0,1),(1,2)] [.slice none 0 0,.int .i64 0,.int .i64 0] [_,_,_] [(0,_),(1,_)] (by kernel_rfl) (by unfold Zf;kernel_rfl) rfl rfl) (Lq rfl (z8 [(0,1),(1,3)] [.int .i64 0,.slice none 0 0,.int .i64 0,.int .i64 0] [_,_,_,_] [(0,_),(1,_)] (by kernel_rfl) (by unfold Zf;kernel_rfl) rfl rfl) ?_))
 refine Le rfl (Ef.lits (e:=60) (sz:=4) [_] (ptC ⟨t,F0,(some ⟨gm,0,none⟩),c2⟩) (by kernel_rfl) (by kernel_rfl) rfl (by simp [Value.cells]) rfl rfl (by omega) (by omega) (by omega) ?_)
 intro gp
 rw [show List.flatMap vxC F0.row++vxC ⟨77,0,[]⟩=(F0.row++[(⟨77,0,[]⟩:Vx)]).flatMap vxC by rw [List.flatMap_append];rfl]
 obtain ⟨e,he⟩ : ∃ e,codeS (newR 8 3072) 3 [] [(t,F0)]=e:=⟨_,rfl⟩
 obtain ⟨h1,hh1,s1,hpos,hneg⟩:=one_law hf ht he
 have hro:FlV B [row (.slice (some ⟨gm,0,none⟩) (F0.row.length+1) c2) 58 3 (F0.row.length+1) ((F0.row++[(⟨77,0,[]⟩:Vx)]).flatMap vxC)] vxC (.slice (some ⟨gm,0,none⟩) F0.row.length c2) F0.row:=FlV.pre c2 (FlV.row (l:=[]) (fun _=>rfl) (by omega) (by simp) (fun _=>⟨gm,rfl⟩))
 refine Le rfl (Ec (Sx.writeOne B [blk gp (ptC ⟨t,F0,(some ⟨gm,0,none⟩),c2⟩) 60,row (.slice (some ⟨gm,0,none⟩) (F0.row.length+1) c2) 58 3 (F0.row.length+1) ((F0.row++[(⟨77,0,[]⟩:Vx)]).flatMap vxC)] s b hf ht 3 e he h1 hh1 (some ⟨gp,0,none⟩) (some ⟨gm,0,none⟩) 1 c2 (FlV.blk (x:=[(⟨t,F0,(some ⟨gm,0,none⟩),c2⟩:PtM)]) (g:=ptC) rfl) (hro.mono (fun w ho=>ho.map Sa))) Tryz.func13 rfl rfl rfl ?_)
 rintro _ _ ⟨rfl,rfl⟩
 try simp only [cA,nA]
 refine La rfl rfl (Ld (Ts (Ts (T.draw 20 ([blk g2 [.slice ra F0.row.length rc,.int .i64 F0.fr,.int .i64 F0.to] 50,row (.slice (some ⟨gm,0,none⟩) (F0.row.length+1) c2) 58 3 (F0.row.length+1) ((F0.row++[(⟨77,0,[]⟩:Vx)]).flatMap vxC)]) (by kernel_rfl) (nB rfl) (by kernel_rfl) (Rq 0 rfl rfl (by kernel_rfl) Sa (Qm rfl) (Rq 1 rfl rfl (by kernel_rfl) Sa (Q0 (by kernel_rfl) rfl) (Rq 2 rfl rfl (by kernel_rfl) Sa (Ql (by kernel_rfl) rfl rfl) ?_)))))))
 refine yK 3 (by kernel_rfl) ?_
 refine zY rfl rfl (by kernel_rfl) (Ec (Rx.same B [row (.slice (some ⟨gm,0,none⟩) (F0.row.length+1) c2) 58 3 (F0.row.length+1) ((F0.row++[(⟨77,0,[]⟩:Vx)]).flatMap vxC)] F0.row (some ⟨gm,0,none⟩) ra F0.row.length c2 rc rfl (by omega) hro (hv.mono (fun w ho=>ho.map Sa))) Tryz.func15 rfl rfl rfl ?_)
 rintro _ _ ⟨rfl,rfl⟩
 try simp only [cA,nA]
 refine Rq 4 rfl rfl (by kernel_rfl) (Sr _) (Y2 rfl) (Rq 5 rfl rfl (by kernel_rfl) (Sr _) (Qm rfl) (ZD (t:=50) rfl rfl (Rq 6 rfl rfl (by kernel_rfl) (Sr _) (Qm rfl) (Rq 7 rfl rfl (by kernel_rfl) (Sr _) (Q0 (by kernel_rfl) rfl) (Rq 8 rfl rfl (by kernel_rfl) (Sr _) (Ql (by kernel_rfl) rfl rfl) (Rq 9 rfl rfl (by kernel_rfl) (Sr _) (yI (e:=58) (sz:=3) (by kernel_rfl) rfl) (Rq 10 rfl rfl (by kernel_rfl) (Sr _) (Qd rfl rfl (Ze (by omega) (by omega))) ?_)))))))
 refine Rq 11 rfl rfl (by kernel_rfl) (Sr _) (Y6 (F0.row.length+1) (e:=58) (sz:=3) (by kernel_rfl) rfl rfl (by omega) hcap) (Rq 12 rfl rfl (by kernel_rfl) (Sr _) (Q0 (by kernel_rfl) rfl) (Rq 13 rfl rfl (by kernel_rfl) (Sr _) (Ql (by kernel_rfl) rfl rfl) (Rq 14 rfl rfl (by kernel_rfl) (Sr _) (yI (e:=58) (sz:=3) (by kernel_rfl) rfl) (Rq 15 rfl rfl (by kernel_rfl) (Sr _) (Qi _ (e:=58) (sz:=3) (by kernel_rfl) rfl rfl rfl (by omega)) (Rq 16 rfl rfl (by kernel_rfl) (Sr _) (Q0 (by kernel_rfl) rfl) (Rq 17 rfl rfl (by kernel_rfl) (Sr _) (Ql (v := .int .i64 77) (by kernel_rfl) rfl (flat_cell0 vxC 3 (F0.row++[(⟨77,0,[]⟩:Vx)]) (fun _ _=>rfl) F0.row.length (by simp) (by simp))) (Rq 18 rfl rfl (by kernel_rfl) (Sr _) (yW rfl rfl) ?_)))))))
 refine Rq 19 rfl rfl (by kernel_rfl) (Sr _) (Qp rfl rfl) (Rd0 (by rfl) ?_)
 simp only [dS,dZ,dN]
 refine Ld (yQ rfl (Tk (Ts (TS (Lm rfl rfl (Lq rfl (yI (e:=58) (sz:=3) (by kernel_rfl) rfl) ?_))))))
 refine Lm rfl rfl (Ld (yH ?_))
 refine zG (fun mz fz lz => ∃ (f0:Fr) (i:Nat) (X:List Value),(i≤F0.row.length∧X.length=(F0.row.length+1)*3)∧mz=F0.row.length-i∧fz=(upd (upd (upd (upd (upd (upd (upd f0 1 (.int .i64 t)) 2 (.pointer (some ⟨g2,0,none⟩))) 6 (pV s)) 7 (.slice (some ⟨gm,0,none⟩) F0.row.length c2)) 8 (.int .i64 e)) 66 (.int .i64 F0.row.length)) 67 (.int .i64 i))∧lz=row (.slice (some ⟨gm,0,none⟩) (F0.row.length+1) c2) 58 3 (F0.row.length+1) X::blk g2 [.slice ra F0.row.length rc,.int .i64 F0.fr,.int .i64 F0.to] 50::stoA s b 12 8 3 60 h1::F) ?_ ?_
 · refine ⟨_,_,⟨_,0,(F0.row++[(⟨77,0,[]⟩:Vx)]).flatMap vxC,⟨Nat.zero_le _,by rw [flat_lenX];simp⟩,rfl,(Za rfl (Za rfl (Za rfl (Za rfl (Za rfl (Za rfl (Za rfl rfl))))))),rfl⟩,Sa⟩
 rintro mz fz lz ⟨f0,i,X,⟨hi,hX⟩,hmz,rfl,rfl⟩
 subst mz
 refine TS (Lq rfl (yM rfl rfl) (Ld (Ts ?_)))
 refine yN rfl (fun hlt=>?_) (fun hlt=>?_)
 ·
  refine Tk (Ts (yH (TS (Lm rfl rfl (La rfl rfl (Ld ?_))))))
  refine TR (Lm rfl rfl (Lm rfl rfl (Lq rfl (z8 [(0,1),(1,1),(2,1)] [.int .i64 0,.int .i64 0,.string .empty] [_,_,_] [(0,_)] (by kernel_rfl) (by unfold Zf;kernel_rfl) rfl rfl) (Lq rfl (Qi _ (e:=58) (sz:=3) (by kernel_rfl) rfl rfl rfl (by omega)) ?_))))
  refine L0 rfl (Es (vxC ⟨9,0,[]⟩) (by kernel_rfl) rfl rfl rfl rfl (by simp;omega) ?_)
  refine Ld (TR (Lq rfl (Qd rfl rfl (Ze (by omega) (by omega))) (Lm rfl rfl (Ld ?_))))
  refine ⟨_,?_,_,⟨_,i+1,splice X (0+i*3) (vxC ⟨9,0,[]⟩),⟨by omega,by rw [length_splice _ _ _ (by simp;omega)];exact hX⟩,rfl,(Za rfl (Za rfl (Za rfl (Za rfl (Za rfl (Za rfl (Za rfl rfl))))))),rfl⟩,Sa⟩
  omega
 refine zB (TS (Lm rfl rfl (Lm rfl rfl ?_)))
 refine Le rfl (Ec (Sx.history B s b 12 8 3 60 h1 s1 (by omega) (by omega) t) Tryz.func16 rfl rfl rfl ?_)
 rintro _ _ ⟨L,pv,cv,hL,rfl,rfl⟩
 try simp only [cA,nA]
 by_cases he0:e=0
 ·
  obtain ⟨q1,q2,q3,q4,hxo,pg,sl,q5,q6,q7,q8⟩:=hpos he0
  rw [q6] at hL
  obtain ⟨gi,ci,rfl⟩:=it_one hL
  refine LW.own fun w ho=>?_
  obtain ⟨gv,rfl⟩ : ∃ g,pv=some ⟨g,0,none⟩:=((ho.map Sa:Own B w [itR pv 1 cv [⟨⟨pg,sl,t,F0,3,0⟩,gi,ci⟩]]).slice_at (p:=pv) (m:=1) (c:=cv)).2.1 (by omega)
  clear ho
  rw [show ([⟨⟨pg,sl,t,F0,3,0⟩,gi,ci⟩]:List ItM).length=1 from rfl]
  refine LW.conv (fun w ho=>ho.its_one (x:=⟨⟨pg,sl,t,F0,3,0⟩,gi,ci⟩)) (LW.own fun w ho=>?_)
  have hcap:=(ho.map Sa:Own B w [itA ⟨⟨pg,sl,t,F0,3,0⟩,gi,ci⟩]).cap_at (p:=some ⟨gi,0,none⟩) (m:=3+F0.row.length) (c:=ci)
  clear ho
  have hfi:=FlV.itA (B:=B) (x:=⟨⟨pg,sl,t,F0,3,0⟩,gi,ci⟩) hcap
  refine La rfl rfl (Ld (Ts (TS (Lm rfl rfl (Lq rfl (yW rfl rfl) (Ld ?_))))))
  refine yL rfl (by omega) (Tk (Ts (Ts (T.draw 14 ([itR (some ⟨gv,0,none⟩) 1 cv [⟨⟨pg,sl,t,F0,3,0⟩,gi,ci⟩],itA ⟨⟨pg,sl,t,F0,3,0⟩,gi,ci⟩,blk g2 [.slice ra F0.row.length rc,.int .i64 F0.fr,.int .i64 F0.to] 50]) (by kernel_rfl) (nB rfl) (by kernel_rfl) (Rq 0 rfl rfl (by kernel_rfl) Sa (Qm rfl) (Rq 1 rfl rfl (by kernel_rfl) Sa (yI (e:=52) (sz:=7) (by kernel_rfl) rfl) (Rq 2 rfl rfl (by kernel_rfl) Sa (yW rfl rfl) ?_)))))))
  refine Rq 3 rfl rfl (by kernel_rfl) Sa (Qm rfl) (ZD (t:=91) rfl rfl (Rq 4 rfl rfl (by kernel_rfl) Sa (Qm rfl) (Rq 5 rfl rfl (by kernel_rfl) Sa (Qi 0 (e:=52) (sz:=7) (by kernel_rfl) rfl rfl rfl (by omega)) (Rq 6 rfl rfl (by kernel_rfl) Sa (Qf (off:=2) (by kernel_rfl) rfl) (Rq 7 rfl rfl (by kernel_rfl) Sa (Q0 (by kernel_rfl) rfl) (Rq 8 rfl rfl (by kernel_rfl) Sa (Ql (by kernel_rfl) rfl rfl) (Rq 9 rfl rfl (by kernel_rfl) Sa (Q0 (by kernel_rfl) rfl) ?_)))))))
  refine Rq 10 rfl rfl (by kernel_rfl) Sa (Ql (by kernel_rfl) rfl rfl) (yK 11 (by kernel_rfl) ?_)
  refine zY rfl rfl (by kernel_rfl) (Ec (Rx.same B [itA ⟨⟨pg,sl,t,F0,3,0⟩,gi,ci⟩] F0.row (offA (some ⟨gi,0,none⟩) ci 3 3) ra F0.row.length (ci-3) rc rfl (by omega) hfi (hv.mono (fun w ho=>ho.map Sa))) Tryz.func15 rfl rfl rfl ?_)
  rintro _ _ ⟨rfl,rfl⟩
  try simp only [cA,nA]
  refine Rq 12 rfl rfl (by kernel_rfl) (Sr _) (Y2 rfl) (Rq 13 rfl rfl (by kernel_rfl) (Sr _) (Qp rfl rfl) (Rd0 (by rfl) ?_))
  simp only [dS,dZ,dN]
  refine Ld (yQ rfl (Tk (Ts (TS (Lm rfl rfl (Lq rfl (Qi 0 (e:=52) (sz:=7) (by kernel_rfl) rfl rfl rfl (by omega)) ?_))))))
  refine Lq rfl (Qf (off:=2) (by kernel_rfl) rfl) (Lq rfl (Q0 (by kernel_rfl) rfl) (Lq rfl (Ql (by kernel_rfl) rfl rfl) (Lq rfl (yI (e:=58) (sz:=3) (by kernel_rfl) rfl) (Lm rfl rfl (Ld (yH ?_))))))
  refine zG (fun mz fz lz => ∃ (f0:Fr) (i:Nat) (X:List Value),(i≤F0.row.length∧X.length=(3+F0.row.length)*3)∧mz=F0.row.length-i∧fz=(upd (upd (upd (upd (upd (upd f0 1 (.int .i64 t)) 2 (.pointer (some ⟨g2,0,none⟩))) 6 (pV s)) 10 (.slice (some ⟨gv,0,none⟩) 1 cv)) 107 (.int .i64 F0.row.length)) 108 (.int .i64 i))∧lz=itR (some ⟨gv,0,none⟩) 1 cv [⟨⟨pg,sl,t,F0,3,0⟩,gi,ci⟩]::row (.slice (some ⟨gi,0,none⟩) (3+F0.row.length) ci) 58 3 (3+F0.row.length) X::blk g2 [.slice ra F0.row.length rc,.int .i64 F0.fr,.int .i64 F0.to] 50::stoA s b 12 8 3 68 h1::F) ?_ ?_
  · refine ⟨_,_,⟨_,0,(valsF t F0).flatMap vxC,⟨Nat.zero_le _,by rw [flat_lenX,vals_len]⟩,rfl,(Za rfl (Za rfl (Za rfl (Za rfl (Za rfl (Za rfl rfl)))))),rfl⟩,Sa⟩
  rintro mz fz lz ⟨f0,i,X,⟨hi,hX⟩,hmz,rfl,rfl⟩
  subst mz
  refine TS (Lq rfl (yM rfl rfl) (Ld (Ts ?_)))
  refine yN rfl (fun hlt=>?_) (fun hlt=>?_)
  ·
   refine Tk (Ts (yH (TS (Lm rfl rfl (La rfl rfl (Ld ?_))))))
   refine TR (Lm rfl rfl (Lq rfl (Qi 0 (e:=52) (sz:=7) (by kernel_rfl) rfl rfl rfl (by omega)) (Lq rfl (Qf (off:=2) (by kernel_rfl) rfl) (Lq rfl (Q0 (by kernel_rfl) rfl) (Lq rfl (Ql (v := .slice (some ⟨gi,0+3*3,none⟩) F0.row.length (ci-3)) (by kernel_rfl) rfl (by rw [←offA_some (b:=gi) (o:=0) (c:=ci) (lo:=3) (sz:=3) (by omega)];rfl)) (Lm rfl rfl (Lq rfl (z8 [(0,1),(1,1),(2,1)] [.int .i64 0,.int .i64 0,.string .empty] [_,_,_] [(0,_)] (by kernel_rfl) (by unfold Zf;kernel_rfl) rfl rfl) ?_)))))))
   refine Lq rfl (Qi _ (e:=58) (sz:=3) (by kernel_rfl) rfl rfl rfl (by omega)) ?_
   refine L0 rfl (Es (vxC ⟨9,0,[]⟩) (by kernel_rfl) rfl rfl rfl rfl (by simp;omega) ?_)
   refine Ld (TR (Lq rfl (Qd rfl rfl (Ze (by omega) (by omega))) (Lm rfl rfl (Ld ?_))))
   refine ⟨_,?_,_,⟨_,i+1,splice X (0+3*3+i*3) (vxC ⟨9,0,[]⟩),⟨by omega,by rw [length_splice _ _ _ (by simp;omega)];exact hX⟩,rfl,(Za rfl (Za rfl (Za rfl (Za rfl (Za rfl (Za rfl rfl)))))),rfl⟩,Sa⟩
   omega
  refine zB (TS (Lm rfl rfl (Lm rfl rfl ?_)))
  refine Le rfl (Ec (Sx.see B s b 12 8 3 68 h1 s1 (by omega) (by omega) t 3) Tryz.func14 rfl rfl rfl ?_)
  rintro _ _ ⟨L2,pv2,cv2,hL2,rfl,rfl⟩
  try simp only [cA,nA]
  rw [q8] at hL2
  obtain ⟨gj,cj,rfl⟩:=it_one hL2
  refine LW.own fun w ho=>?_
  obtain ⟨gw,rfl⟩ : ∃ g,pv2=some ⟨g,0,none⟩:=((ho.map Sa:Own B w [itR pv2 1 cv2 [⟨⟨pg,sl,t,F0,3,0⟩,gj,cj⟩]]).slice_at (p:=pv2) (m:=1) (c:=cv2)).2.1 (by omega)
  clear ho
  rw [show ([⟨⟨pg,sl,t,F0,3,0⟩,gj,cj⟩]:List ItM).length=1 from rfl]
  refine LW.conv (fun w ho=>ho.its_one (x:=⟨⟨pg,sl,t,F0,3,0⟩,gj,cj⟩)) (LW.own fun w ho=>?_)
  have hcap2:=(ho.map Sa:Own B w [itA ⟨⟨pg,sl,t,F0,3,0⟩,gj,cj⟩]).cap_at (p:=some ⟨gj,0,none⟩) (m:=3+F0.row.length) (c:=cj)
  clear ho
  have hfj:=FlV.itA (B:=B) (x:=⟨⟨pg,sl,t,F0,3,0⟩,gj,cj⟩) hcap2
  refine La rfl rfl (Ld (Ts (T.draw 13 ([itR (some ⟨gw,0,none⟩) 1 cv2 [⟨⟨pg,sl,t,F0,3,0⟩,gj,cj⟩],itA ⟨⟨pg,sl,t,F0,3,0⟩,gj,cj⟩,blk g2 [.slice ra F0.row.length rc,.int .i64 F0.fr,.int .i64 F0.to] 50]) (by kernel_rfl) (nB rfl) (by kernel_rfl) (Rq 0 rfl rfl (by kernel_rfl) Sa (Qm rfl) (Rq 1 rfl rfl (by kernel_rfl) Sa (yI (e:=52) (sz:=7) (by kernel_rfl) rfl) (Rq 2 rfl rfl (by kernel_rfl) Sa (yU rfl rfl) (Rq 3 rfl rfl (by kernel_rfl) Sa (Qm rfl) ?_)))))))
  refine YY (t:=126) rfl rfl (Rq 4 rfl rfl (by kernel_rfl) Sa (Qm rfl) (Rq 5 rfl rfl (by kernel_rfl) Sa (Qi 0 (e:=52) (sz:=7) (by kernel_rfl) rfl rfl rfl (by omega)) (Rq 6 rfl rfl (by kernel_rfl) Sa (Qf (off:=2) (by kernel_rfl) rfl) (Rq 7 rfl rfl (by kernel_rfl) Sa (Q0 (by kernel_rfl) rfl) (Rq 8 rfl rfl (by kernel_rfl) Sa (Ql (by kernel_rfl) rfl rfl) (Rq 9 rfl rfl (by kernel_rfl) Sa (Q0 (by kernel_rfl) rfl) (Rq 10 rfl rfl (by kernel_rfl) Sa (Ql (by kernel_rfl) rfl rfl) ?_)))))))
  refine yK 11 (by kernel_rfl) ?_
  refine zY rfl rfl (by kernel_rfl) (Ec (Rx.same B [itA ⟨⟨pg,sl,t,F0,3,0⟩,gj,cj⟩] F0.row (offA (some ⟨gj,0,none⟩) cj 3 3) ra F0.row.length (cj-3) rc rfl (by omega) hfj (hv.mono (fun w ho=>ho.map Sa))) Tryz.func15 rfl rfl rfl ?_)
  rintro _ _ ⟨rfl,rfl⟩
  try simp only [cA,nA]
  refine Rq 12 rfl rfl (by kernel_rfl) (Sr _) (Qp rfl rfl) (Rd0 (by rfl) ?_)
  simp only [dS,dZ,dN]
  refine La rfl rfl (Ld (T.ret ?_))
  exact ⟨.inl rfl,_,_,res [_] rfl ⟨rvT rfl,trivial⟩,⟨rfl,rfl⟩,Sa⟩
 obtain ⟨q1,q2⟩:=hneg he0
 rw [q1] at hL
 obtain rfl:=List.map_eq_nil_iff.1 hL
 refine La rfl rfl (Ld (Ts (TS (Lm rfl rfl (Lq rfl (yW rfl rfl) (Ld ?_))))))
 refine zM rfl (by omega) (TS (Lm rfl rfl (Lq rfl (yI (e:=52) (sz:=7) (by kernel_rfl) rfl) (Lq rfl (yU rfl rfl) (Lm rfl rfl (zQ (t:=83) rfl rfl ?_))))))
 refine Lm rfl rfl ?_
 refine Le rfl (Ec (Sx.last B s b 12 8 3 68 h1) Tryz.func12 rfl rfl rfl ?_)
 rintro _ _ ⟨rfl,rfl⟩
 try simp only [cA,nA]
 rw [q2]
 refine Lq rfl (yU rfl rfl) (Lq rfl (Qp rfl rfl) (La rfl rfl (Ld (T.ret ?_))))
 exact ⟨.inl rfl,_,_,res [_] rfl ⟨rvT rfl,trivial⟩,⟨rfl,rfl⟩,Sa⟩
end Go.Proofs.YtjmjjfefchnkaaaGreatDoor
namespace Go.Proofs.YtjmjjfefchnkaaaGreatDoor.storeKeeps
open Go.ChangeShapes Go.WideShapes Go.ChangeAt Go.RowKit
theorem contract (H:Type) (enc:TypeId×Value→H) (W:World) (base:Nat) (args:Array Value) (ds gs:List (DataW H)) (before:List MemPlace)
  (hval : ∀ (j:Nat) t v,Tryz.f4.params[j]? = some t→args[j]? = some v→Value.okWide Tryz.prog W .any base t v)
  (hW:DataW.Whole enc Tryz.prog Tryz.f4.params.toList Rows.storeKeepsSpec.vars false W args.toList ds gs before) (hk:Rows.uptoSmall H (ds++gs)=true) :
  Calls Tryz.prog 4 args W fun e W' => ∃ v,e = .returned v∧Rows.storeKeepsSpec.post enc Tryz.prog Tryz.f4 false true false false W args v W':=by
 have hW0:=hW
 obtain ⟨p,q,hA0,hV,rfl,hfz,hnd⟩:=hW
 have hA:DataW.TrodAll enc Tryz.prog W 0 (fun _=>true) true Tryz.f4.params.toList args.toList ds p:=hA0
 rw [Tryz.params4] at hA hval
 obtain ⟨v0,v1,d0,d1,p0,p1,rfl,rfl,rfl,h0,h1⟩:=trodAll_two hA
 obtain ⟨rfl,rfl⟩:=trodVars_none hV
 have hbulk:=Tryz.upto_bound hk
 rw [List.append_nil] at hbulk
 clear hA0 hV hk
 obtain ⟨oc0,rfl,_,_⟩:=(show ∃ cs,v0 = .agg cs∧cs.size=Tryz.prog.cellsOf 50∧Row.okWide Tryz.prog W .any base 50 cs by have:=hval 0 50 v0 rfl rfl;simpa only [Value.okWide,Tryz.underlying50] using this)
 obtain ⟨fu0,t0⟩:=h0
 obtain ⟨o0,hR0,hol0⟩:=read_fact _ _ _ t0
 dsimp only at hol0
 have hrd0:=hR0.rd
 obtain ⟨ra0,rc0,ho0,hv0,_⟩:=hR0
 simp only [Value.cells] at ho0
 obtain rfl:oc0 = #[.slice ra0 o0.row.length rc0,.int .i64 o0.fr,.int .i64 o0.to]:=by apply Array.toList_inj.1;rw [ho0]
 obtain ⟨n1,rfl⟩:=okWide_int Tryz.underlying3 (hval 1 3 v1 rfl rfl)
 obtain ⟨fu1,t1⟩:=h1
 obtain ⟨a1,⟨ha1,hb1,hc1⟩,_⟩:=read_i64 Tryz.underlying3 _ _ _ t1
 simp only [Value.cells,List.cons.injEq,and_true,Value.int.injEq,true_and] at ha1
 subst ha1
 rw [bulk_two] at hbulk
 have hf0:=hrd0 (by omega)
 have hl0:=hf0.len
 have hsz:o0.row.length≤szF o0:=sum_len1 o0.row
 refine (Fn.law (Sx.keeps _ o0 ra0 o0.row.length rc0 rfl hv0 hf0 (by omega) n1 (by omega))).mono fun e W' ⟨he,hg⟩=>?_
 subst he
 exact ⟨_,rfl,post_law Tryz.laidOut hW0 rfl rfl 4 Tryz.underlying4 (by kernel_rfl) (by rw [Tryz.params4];decide +kernel) hg.toBelow⟩
theorem reads (os:Os) {H:Type} (enc:TypeId×Value→H) : ∃ places,DataW.whole enc Tryz.prog ((laidWorld os).forCall (fun _ _=>0) ⟨#[],#[.agg #[.slice none 0 0,.int .i64 0,.int .i64 0],.int .i64 0],[]⟩).memory Tryz.f4.params.toList Rows.storeKeepsSpec.vars false (#[.agg #[.slice none 0 0,.int .i64 0,.int .i64 0],.int .i64 0]:Array Value).toList 8=some ([.agg [.nil,.agg [.lit (.int .i64 0),.lit (.int .i64 0)]],.lit (.int .i64 0)],[],places) :=
 ⟨[],by kernel_rfl⟩
theorem lifted (os:Os) (started:os.Started) (H:Type) (enc:TypeId×Value→H) (F:Stop.Interp) :
  ReturnsInHanded {} Tryz.checked os 4 .any ((Rows.OpenSpec.upto Rows.storeKeepsSpec).preRow enc Tryz.prog Tryz.f4 Rows.storeKeepsUptoRow.domain false Rows.storeKeepsUptoRow.laid) (((Rows.OpenSpec.upto Rows.storeKeepsSpec).at F).post enc Tryz.prog Tryz.f4 false true false false):=by
 obtain ⟨places,hx⟩:=reads os enc
 refine returnsInHanded_of_row (C:=Tryz.checked) (s:=Rows.OpenSpec.upto Rows.storeKeepsSpec) Tryz.own started (by kernel_rfl) Tryz.func4
  (witness_row_at (enc:=enc) (C:=Tryz.checked) false (laidWorld os) #[.agg #[.slice none 0 0,.int .i64 0,.int .i64 0],.int .i64 0] rfl (by kernel_rfl) (by kernel_rfl) (by kernel_rfl)
   (OpenSpec.preRow_of_cond 8 hx (by kernel_rfl) (fun k hk=>by cases hk;kernel_rfl) (by kernel_rfl) (laid_met os _))) ?_
 intro W base args ds gs before hval hW _ hcond _ _ _ _
 exact contract H enc W base args ds gs before hval hW (hcond _ rfl)
theorem jA : (Rows.storeKeepsUptoRow.inPlace == Tryz.prog.inPlace 4)=true:=by kernel_rfl
theorem jB : (Rows.storeKeepsUptoRow.unfollowed == Tryz.prog.unfollowed 4)=true:=by kernel_rfl
theorem jC : (Rows.storeKeepsUptoRow.recurses == Tryz.prog.recurses 4)=true:=by kernel_rfl
theorem jD : (Rows.storeKeepsUptoRow.named == Tryz.prog.varsNamed 4)=true:=by kernel_rfl
theorem jE : laidOutB Tryz.prog=true:=by kernel_rfl
theorem jF : mapsRowed Tryz.prog=true:=by kernel_rfl
theorem jG : joinedFacts Tryz.prog 4 Tryz.f4 (Rows.OpenSpec.upto Rows.storeKeepsSpec).bare Rows.storeKeepsUptoRow=true:=by
 unfold joinedFacts
 rw [jA,jB,jC,jD,jE,jF]
 kernel_rfl
theorem over : Rows.storeKeepsUptoRow.holds Tryz.pinned (Rows.OpenSpec.upto Rows.storeKeepsSpec) :=
 OpenClaim.holds_of_cond 4 Tryz.f4 rfl rfl rfl rfl rfl rfl rfl ⟨rfl,rfl,rfl,rfl,rfl⟩ rfl rfl rfl rfl rfl (by kernel_rfl) Tryz.func4 jG
  (of_decide_eq_true (by kernel_rfl)) (by unfold Func.isWrapper;first | (rw [if_pos (by decide +kernel)];kernel_rfl) | (rw [if_neg (by decide +kernel)];exact ⟨rfl,rfl⟩))
  (fun os started H enc _ F=>by rw [OpenClaim.pre_eq_preRow];exact lifted os started H enc F)
theorem plain (f:FuncId) (fn:Func) (hf:Tryz.pinned.checked.prog.funcNamed "annals/annalslaw21.StoreKeeps" = some f) (hfn:Tryz.pinned.checked.prog.funcs[f]? = some fn) :
  true=Tryz.pinned.checked.prog.looks [] ∧ ∀ (j:Nat) t,fn.params[j]? = some t→Tryz.pinned.checked.prog.wantsStandIn t=false:=by
 obtain rfl:f=4:=Option.some.inj ((show Tryz.prog.funcNamed "annals/annalslaw21.StoreKeeps" = some 4 by kernel_rfl).symm.trans hf) |>.symm
 obtain rfl:fn=Tryz.f4:=(Option.some.inj (Tryz.func4.symm.trans hfn)).symm
 refine ⟨by kernel_rfl,fun j t ht=>?_⟩
 rw [Tryz.params4] at ht
 have hall:([50,3]:List TypeId).all (fun t => !Tryz.prog.wantsStandIn t)=true:=by kernel_rfl
 have:=List.all_eq_true.1 hall t (by simpa using Array.mem_of_getElem? ht)
 exact (show Tryz.prog.wantsStandIn t=false by simpa using this)
theorem proved : Rows.StoreKeepsUptoCardSaid :=
 Claim7.holds_tied_plain_at .later [] _ _ _ _ over (fun _ h=>by cases h) (by kernel_rfl) (fun _ h=>by cases h) storeKeepsUpto_row_tie rfl ⟨rfl,rfl⟩ (by kernel_rfl) rfl plain (by kernel_rfl)
end Go.Proofs.YtjmjjfefchnkaaaGreatDoor.storeKeeps
