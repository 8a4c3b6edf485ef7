/- The texts HeK HeL HeM HeN HeO HeP HeQ HpE HeR, one behind the other: what the law leans on. Conditions: as each theorem says. -/
import Derived.Test.YtfjjgdnepfgnhaaGreatDoorZHfBase11
set_option linter.unusedSimpArgs false
set_option linter.unusedVariables false
set_option maxRecDepth 100000
set_option maxHeartbeats 16000000
namespace Go.Proofs.YtfjjgdnepfgnhaaGreatDoor
open Go.RowKit
theorem Sub.eqL {l L L' r F:List Wp} (e:L=L') [k:TakeL L l r] [t:Tail r F]:Sub l (L'++F):=fun p H=>by
 subst e
 obtain ⟨h1,h2,d,a,b,e1,e2⟩:=Has.split (k.take p H)
 exact Has.join d a b e1 (t.tl _ e2)
theorem cm_at {l:List (Int×Int)} {j:Nat} {c:Int×Int} (h:l[j]? = some c):(l.flatMap stC)[0+j*2+1]? = some (.int .i64 c.2):=by
 obtain ⟨hj,hc⟩:=List.getElem?_eq_some_iff.1 h
 have:=flat_cell stC 2 l (fun _ _=>rfl) j 1 hj (v := .int .i64 c.2) (by rw [hc];rfl)
 exact this
theorem HInv.commit {logs count n K:Nat} {s:Pl} {st:List (Int×Int)} {h:HR} (i:HInv logs count n K s st h) (hK:K<2^31) {t stamp:Int} (ht:Zp h t=true) (hb:badStamp h stamp=false) (hf:h.used+25≤h.room) :
  EnOk (cmE t stamp)∧s.W.st.length+enSz (cmE t stamp)≤logs*256 ∧ ∃ r,addW s.W (Zj (cmE t stamp))=(mkW 0 logs ((h.es++[cmE t stamp]).map Zj) s.W.dur,r,0)∧WOk (mkW 0 logs ((h.es++[cmE t stamp]).map Zj) s.W.dur) s.D ∧
   HInv logs count n K {s with W:=(mkW 0 logs ((h.es++[cmE t stamp]).map Zj) s.W.dur).flushed,D:=Wh (mkW 0 logs ((h.es++[cmE t stamp]).map Zj) s.W.dur) s.D} (putL st t 2) (Zg (Zo h t) (cmE t stamp)):=by
 have hu:=i.used
 have hl:h.last<2^62:=by have:=i.lastK;omega
 have hok:=i.r.cmStep hl ht hb hf
 have hsz:s.W.st.length+enSz (cmE t stamp)≤logs*256:=by
  have hr:=i.room
  rw [enSz_eq];simp only [if_true];omega
 obtain ⟨h1,h2,h3⟩:=i.s.commit hK hok.ok hsz
 have hrc:Zi (Zg (Zo h t) (cmE t stamp)).vs=Zi h.vs:=funext fun q=>recs_commit (h:=Zo h t) rfl q
 refine ⟨hok.ok,hsz,_,h1,h2,?_,(i.r.without t).write hok (i.r.act1 t (isAct_iff.1 ht)).2 (fun _=>by simp [Zo]),i.st.commit i.r ht,i.pages,i.room,i.lastK⟩
 rw [hrc]
 exact h3
def cmDisk (logs:Nat) (h:HR) (s:Pl) (t stamp:Int):DD:=if (Zl h t stamp).2=0 then Wh (mkW 0 logs ((h.es++[cmE t stamp]).map Zj) s.W.dur) s.D else s.D
theorem Hp.commitX (B:Wn) (g b logs count n K:Nat) (h:HR) (hK:K<2^30) (t stamp:Int) (x:HpX) (hi:HInv logs count n K x.s x.st h) (hp:0<h.cm.length → ∃ g,x.pc=some ⟨g,0,none⟩) (hcl:h.cm.length<2^32) :
    Fn Tryz.prog B 11 #[pV g,.int .i64 t,.int .i64 stamp] (hpC g b logs count n x h) (fun u l => ∃ x',HInv logs count n K x'.s x'.st (Zl h t stamp).1∧x'.s.D=cmDisk logs h x.s t stamp∧u = .int .i64 (Zl h t stamp).2∧l=hpC g b logs count n x' (Zl h t stamp).1):=by
  simp only [hpC]
  have ha:=hi.st.act t
  by_cases hc:Zp h t=true
  · by_cases hb:badStamp h stamp=true
    · have he:Zl h t stamp=(h,1):=by unfold Zl;rw [if_pos hc,if_pos hb]
      have hd:cmDisk logs h x.s t stamp=x.s.D:=by unfold cmDisk;rw [he];simp
      rw [he,hd]
      unfold badStamp at hb
      simp only [Bool.or_eq_true,decide_eq_true_eq] at hb
      refine Ws 82 Tryz.func11 rfl rfl (nB rfl) (fun F=>?_)
      try simp only [cA,nA]
      refine TS (La rfl rfl (Ld (TS (Lm rfl rfl (Lq rfl (Qn rfl) ?_)))))
      refine Lq rfl (Q0 (by kernel_rfl) rfl) (Lq rfl (Qf (off:=1) (by kernel_rfl) rfl) (Lq rfl (Ql (by kernel_rfl) rfl rfl) (Lq rfl (yI (e:=133) (sz:=2) (by kernel_rfl) rfl) (La rfl rfl (Ld (Ts (yH ?_)))))))
      refine TS (Lm rfl rfl (Lq rfl (Qn rfl) (Lq rfl (Q0 (by kernel_rfl) rfl) (Lq rfl (Q0 (by kernel_rfl) rfl) (Lq rfl (Ql (by kernel_rfl) rfl rfl) (Lm rfl rfl ?_))))))
      refine Lq rfl (zT Hp.okS rfl t rfl 0 rfl) (Lq rfl (yW rfl rfl) (La rfl rfl (Ld (yL rfl ((fun q=>q (ha.2 hc))) ?_))))
      by_cases h1:stamp<0
      · skip
        refine TS (Lm rfl rfl (Lq rfl (yM rfl rfl) (Lm rfl rfl (zQ (t:=27) rfl (decide_eq_true (by omega)) (Ls rfl (Ls rfl ?_))))))
        refine Lq rfl (Qp rfl rfl) (Lm rfl rfl (zQ (t:=31) rfl rfl (Ls rfl (Ls rfl (Ls rfl (Ls rfl (Ls rfl ?_)))))))
        refine Ls rfl (Ls rfl (Ls rfl (Ls rfl (Ls rfl (Ls rfl (Ls rfl (Ls rfl ?_)))))))
        refine Ls rfl (Ls rfl (Ls rfl (Lq rfl (Qp rfl rfl) (La rfl rfl (Ld (zF rfl (Ts ?_)))))))
        refine TR (La rfl rfl (Ld (T.ret ?_)))
        exact ⟨.inl rfl,_,_,res [_] rfl ⟨rvT rfl,trivial⟩,⟨x,hi,rfl,rfl,rfl⟩,Sa⟩
      refine TS (Lm rfl rfl (Lq rfl (yM rfl rfl) (Lm rfl rfl (yT (t:=27) rfl (decide_eq_false (by omega)) (Lm rfl rfl (Lq rfl (yZ rfl rfl) ?_))))))
      refine Lq rfl (Qp rfl rfl) (Lm rfl rfl ?_)
      by_cases h2:1099511627776<stamp
      · skip
        refine zQ (t:=31) rfl (decide_eq_true (by omega)) (Ls rfl (Ls rfl (Ls rfl (Ls rfl (Ls rfl (Ls rfl (Ls rfl ?_)))))))
        refine Ls rfl (Ls rfl (Ls rfl (Ls rfl (Ls rfl (Ls rfl (Ls rfl (Ls rfl ?_)))))))
        refine Ls rfl (Lq rfl (Qp rfl rfl) (La rfl rfl (Ld (zF rfl (TS (La rfl rfl ?_))))))
        refine Ld (T.ret ?_)
        exact ⟨.inl rfl,_,_,res [_] rfl ⟨rvT rfl,trivial⟩,⟨x,hi,rfl,rfl,rfl⟩,Sa⟩
      obtain ⟨c,hcl2,hcs⟩ : ∃ c,h.cm.getLast? = some c∧stamp≤c.2:=by
        cases hg:h.cm.getLast? with
        | none=>rw [hg] at hb;simp at hb;omega
        | some c=>rw [hg] at hb;simp at hb;exact ⟨c,rfl,by omega⟩
      have hne:0<h.cm.length:=by cases hq:h.cm with | nil=>rw [hq] at hcl2;cases hcl2 | cons a l=>simp
      have hcat:h.cm[h.cm.length-1]? = some c:=by rw [←List.getLast?_eq_getElem?];exact hcl2
      obtain ⟨gc,hgc⟩:=hp hne
      rw [hgc]
      refine yT (t:=31) rfl (decide_eq_false (by omega)) (Lm rfl rfl (Lq rfl (yZ rfl rfl) (Lm rfl rfl (zQ (t:=34) rfl (decide_eq_true (by omega)) (Lm rfl rfl (Lm rfl rfl (Lq rfl (Qn rfl) ?_)))))))
      refine Lq rfl (Q0 (by kernel_rfl) rfl) (Lq rfl (Qf (off:=1) (by kernel_rfl) rfl) (Lq rfl (Ql (by kernel_rfl) rfl rfl) (Lm rfl rfl (Lq rfl (Qt.sub rfl rfl (Ze (by omega) (by omega))) (Lq rfl (Qi (h.cm.length-1) (e:=133) (sz:=2) (by kernel_rfl) rfl rfl (by omega) (by omega)) (Lq rfl (Qf (off:=1) (by kernel_rfl) rfl) (Lq rfl (Ql (v := .int .i64 c.2) (by kernel_rfl) rfl (cm_at hcat)) ?_)))))))
      refine Lq rfl (YF rfl rfl) (Lq rfl (Qp rfl rfl) (Lq rfl (Qp rfl rfl) (La rfl rfl (Ld (zM rfl (by omega) (TS ?_))))))
      refine La rfl rfl (Ld (T.ret ?_))
      exact ⟨.inl rfl,_,_,res [_] rfl ⟨rvT rfl,trivial⟩,⟨x,hi,rfl,rfl,by rw [hgc]⟩,Sa⟩
    · have hb:badStamp h stamp=false:=by simpa using hb
      have hb2:=hb
      unfold badStamp at hb2
      simp only [Bool.or_eq_false_iff,decide_eq_false_iff_not] at hb2
      obtain ⟨⟨s1,s2⟩,s3⟩:=hb2
      have hu:=hi.used
      have hr:=hi.room
      have hlk:h.last<2^62:=by have:=hi.lastK;omega
      have hokE:EnOk (cmE t stamp):=⟨by simp,by have:=hi.r.act1 t (isAct_iff.1 hc);simp;omega,by simp [enPlace],by simp;omega,by simp,by simp,by simp,by simp⟩
      have hsz:enSz (cmE t stamp)=25:=by rw [enSz_eq];simp
      by_cases hf:(h.room:Int)<h.used+25
      · have he:Zl h t stamp=(h,3):=by unfold Zl;rw [if_pos hc,if_neg (by simp [hb]),if_pos hf]
        have hd:cmDisk logs h x.s t stamp=x.s.D:=by unfold cmDisk;rw [he];simp
        rw [he,hd]
        refine Ws 82 Tryz.func11 rfl rfl (nB rfl) (fun F=>?_)
        try simp only [cA,nA]
        refine TS (La rfl rfl (Ld (TS (Lm rfl rfl (Lq rfl (Qn rfl) ?_)))))
        refine Lq rfl (Q0 (by kernel_rfl) rfl) (Lq rfl (Qf (off:=1) (by kernel_rfl) rfl) (Lq rfl (Ql (by kernel_rfl) rfl rfl) (Lq rfl (yI (e:=133) (sz:=2) (by kernel_rfl) rfl) (La rfl rfl (Ld (Ts (yH ?_)))))))
        refine TS (Lm rfl rfl (Lq rfl (Qn rfl) (Lq rfl (Q0 (by kernel_rfl) rfl) (Lq rfl (Q0 (by kernel_rfl) rfl) (Lq rfl (Ql (by kernel_rfl) rfl rfl) (Lm rfl rfl ?_))))))
        refine Lq rfl (zT Hp.okS rfl t rfl 0 rfl) (Lq rfl (yW rfl rfl) (La rfl rfl (Ld (yL rfl ((fun q=>q (ha.2 hc))) (TS (Lm rfl rfl ?_))))))
        refine Lq rfl (yM rfl rfl) (Lm rfl rfl (yT (t:=27) rfl (decide_eq_false (by omega)) (Lm rfl rfl (Lq rfl (yZ rfl rfl) (Lq rfl (Qp rfl rfl) (Lm rfl rfl (yT (t:=31) rfl (decide_eq_false (by omega)) ?_)))))))
        refine Lm rfl rfl (Lq rfl (yZ rfl rfl) (Lm rfl rfl ?_))
        by_cases hne:0<h.cm.length
        · skip
          obtain ⟨c,hcl2⟩ : ∃ c,h.cm.getLast? = some c:=by
            cases hg:h.cm with
            | nil=>rw [hg] at hne;simp at hne
            | cons a l=>exact ⟨_,List.getLast?_eq_some_getLast (by simp)⟩
          have hcat:h.cm[h.cm.length-1]? = some c:=by rw [←List.getLast?_eq_getElem?];exact hcl2
          have hcs : ¬ stamp≤c.2:=by rw [hcl2] at s3;simpa using s3
          obtain ⟨gc,hgc⟩:=hp hne
          rw [hgc]
          refine zQ (t:=34) rfl (decide_eq_true (by omega)) (Lm rfl rfl (Lm rfl rfl (Lq rfl (Qn rfl) (Lq rfl (Q0 (by kernel_rfl) rfl) (Lq rfl (Qf (off:=1) (by kernel_rfl) rfl) (Lq rfl (Ql (by kernel_rfl) rfl rfl) (Lm rfl rfl ?_)))))))
          refine Lq rfl (Qt.sub rfl rfl (Ze (by omega) (by omega))) (Lq rfl (Qi (h.cm.length-1) (e:=133) (sz:=2) (by kernel_rfl) rfl rfl (by omega) (by omega)) (Lq rfl (Qf (off:=1) (by kernel_rfl) rfl) (Lq rfl (Ql (v := .int .i64 c.2) (by kernel_rfl) rfl (cm_at hcat)) (Lq rfl (YF rfl rfl) (Lq rfl (Qp rfl rfl) (Lq rfl (Qp rfl rfl) (La rfl rfl ?_)))))))
          refine Ld (yL rfl (by omega) (Tk (Ts (TS (Lm rfl rfl (Lm rfl rfl ?_))))))
          refine Lm rfl rfl (Lq rfl (z8 [(0,1),(1,1),(2,1),(3,1),(4,1),(5,1)] [.int .i64 0,.int .i64 0,.int .i64 0,.int .i64 0,.int .i64 0,.slice none 0 0] [_,_,_,_,_,_] [(0,_),(1,_),(4,_)] (by kernel_rfl) (by unfold Zf;kernel_rfl) rfl rfl) ?_)
          refine Le rfl (Ec (Hp.writeFull B [] g b logs count n K x.q (some ⟨gc,0,none⟩) h.cm.length x.cc h.last x.s h.es (Zi h.vs) hi.s (cmE t stamp) none 0 hokE (RdV.nil _ 0) (by omega)) Tryz.func47 rfl rfl rfl ?_)
          rintro _ _ ⟨rfl,rfl⟩
          try simp only [cA,nA]
          refine La rfl rfl (Ld (TS (Lm rfl rfl (Lq rfl (yW rfl rfl) (Ld (zF rfl ?_))))))
          refine TS (Lm rfl rfl (La rfl rfl (Ld (T.ret ?_))))
          exact ⟨.inl rfl,_,_,res [_] rfl ⟨rvT rfl,trivial⟩,⟨x,hi,rfl,rfl,by rw [hgc]⟩,Sa⟩
        refine yT (t:=34) rfl (decide_eq_false (by omega)) (Ls rfl (Ls rfl (Ls rfl (Ls rfl (Ls rfl (Ls rfl (Ls rfl ?_)))))))
        refine Ls rfl (Ls rfl (Ls rfl (Ls rfl (Ls rfl (Lq rfl (Qp rfl rfl) (Lq rfl (Qp rfl rfl) (La rfl rfl ?_)))))))
        refine Ld (yQ rfl (Tk (Ts (TS (Lm rfl rfl (Lm rfl rfl ?_))))))
        refine Lm rfl rfl (Lq rfl (z8 [(0,1),(1,1),(2,1),(3,1),(4,1),(5,1)] [.int .i64 0,.int .i64 0,.int .i64 0,.int .i64 0,.int .i64 0,.slice none 0 0] [_,_,_,_,_,_] [(0,_),(1,_),(4,_)] (by kernel_rfl) (by unfold Zf;kernel_rfl) rfl rfl) ?_)
        refine Le rfl (Ec (Hp.writeFull B [] g b logs count n K x.q x.pc h.cm.length x.cc h.last x.s h.es (Zi h.vs) hi.s (cmE t stamp) none 0 hokE (RdV.nil _ 0) (by omega)) Tryz.func47 rfl rfl rfl ?_)
        rintro _ _ ⟨rfl,rfl⟩
        try simp only [cA,nA]
        refine La rfl rfl (Ld (TS (Lm rfl rfl (Lq rfl (yW rfl rfl) (Ld (zF rfl ?_))))))
        refine TS (Lm rfl rfl (La rfl rfl (Ld (T.ret ?_))))
        exact ⟨.inl rfl,_,_,res [_] rfl ⟨rvT rfl,trivial⟩,⟨x,hi,rfl,rfl,rfl⟩,Sa⟩
      · have he:Zl h t stamp=(Zg (Zo h t) (cmE t stamp),0):=by unfold Zl;rw [if_pos hc,if_neg (by simp [hb]),if_neg hf]
        have hd:cmDisk logs h x.s t stamp=Wh (mkW 0 logs ((h.es++[cmE t stamp]).map Zj) x.s.W.dur) x.s.D:=by unfold cmDisk;rw [he];simp
        rw [he,hd]
        obtain ⟨e1,e2,r,hadd,hw2,hi2⟩:=hi.commit (by omega) hc hb (by omega)
        obtain ⟨W2,hW2⟩ : ∃ W2,mkW 0 logs ((h.es++[cmE t stamp]).map Zj) x.s.W.dur=W2:=⟨_,rfl⟩
        rw [hW2] at hadd hw2 hi2
        rw [hW2]
        have hcm:(Zg (Zo h t) (cmE t stamp)).cm=h.cm++[(t,stamp)]:=by simp [Zg,Zo]
        have hcml:(Zg (Zo h t) (cmE t stamp)).cm.length=h.cm.length+1:=by rw [hcm];simp
        have hlst:(Zg (Zo h t) (cmE t stamp)).last=h.last:=rfl
        generalize Zg (Zo h t) (cmE t stamp)=h' at hi2 hcm hcml hlst ⊢
        have hcl3 : ∀ (p:Option Addr) (c:Nat),[hpB g x.q p (h.cm.length+1) c h.last,stA x.q (putL x.st t 2),row (.slice p (h.cm.length+1) c) 133 2 (h.cm.length+1) (h.cm.flatMap stC++[.int .i64 t,.int .i64 stamp]),wlA x.q.gl b W2.flushed,plS b n logs count x.q x.s,Zn b (Wh W2 x.s.D)]=hpC g b logs count n ⟨x.q,p,c,{x.s with W:=W2.flushed,D:=Wh W2 x.s.D},putL x.st t 2⟩ h':=fun p c=>by
          unfold hpC cmR
          dsimp only
          rw [hcml,hlst,hcm,List.flatMap_append]
          rfl
        have hi2x : ∀ (p:Option Addr) (c:Nat),HInv logs count n K (HpX.mk x.q p c {x.s with W:=W2.flushed,D:=Wh W2 x.s.D} (putL x.st t 2)).s (HpX.mk x.q p c {x.s with W:=W2.flushed,D:=Wh W2 x.s.D} (putL x.st t 2)).st h':=fun p c=>hi2
        refine Ws 82 Tryz.func11 rfl rfl (nB rfl) (fun F=>?_)
        try simp only [cA,nA]
        refine TS (La rfl rfl (Ld (TS (Lm rfl rfl (Lq rfl (Qn rfl) ?_)))))
        refine Lq rfl (Q0 (by kernel_rfl) rfl) (Lq rfl (Qf (off:=1) (by kernel_rfl) rfl) (Lq rfl (Ql (by kernel_rfl) rfl rfl) (Lq rfl (yI (e:=133) (sz:=2) (by kernel_rfl) rfl) (La rfl rfl (Ld (Ts (yH ?_)))))))
        refine TS (Lm rfl rfl (Lq rfl (Qn rfl) (Lq rfl (Q0 (by kernel_rfl) rfl) (Lq rfl (Q0 (by kernel_rfl) rfl) (Lq rfl (Ql (by kernel_rfl) rfl rfl) (Lm rfl rfl ?_))))))
        refine Lq rfl (zT Hp.okS rfl t rfl 0 rfl) (Lq rfl (yW rfl rfl) (La rfl rfl (Ld (yL rfl ((fun q=>q (ha.2 hc))) (TS (Lm rfl rfl ?_))))))
        refine Lq rfl (yM rfl rfl) (Lm rfl rfl (yT (t:=27) rfl (decide_eq_false (by omega)) (Lm rfl rfl (Lq rfl (yZ rfl rfl) (Lq rfl (Qp rfl rfl) (Lm rfl rfl (yT (t:=31) rfl (decide_eq_false (by omega)) ?_)))))))
        refine Lm rfl rfl (Lq rfl (yZ rfl rfl) (Lm rfl rfl ?_))
        by_cases hne:0<h.cm.length
        · skip
          obtain ⟨c,hcl2⟩ : ∃ c,h.cm.getLast? = some c:=by
            cases hg:h.cm with
            | nil=>rw [hg] at hne;simp at hne
            | cons a l=>exact ⟨_,List.getLast?_eq_some_getLast (by simp)⟩
          have hcat:h.cm[h.cm.length-1]? = some c:=by rw [←List.getLast?_eq_getElem?];exact hcl2
          have hcs : ¬ stamp≤c.2:=by rw [hcl2] at s3;simpa using s3
          obtain ⟨gc,hgc⟩:=hp hne
          rw [hgc]
          refine zQ (t:=34) rfl (decide_eq_true (by omega)) (Lm rfl rfl (Lm rfl rfl (Lq rfl (Qn rfl) (Lq rfl (Q0 (by kernel_rfl) rfl) (Lq rfl (Qf (off:=1) (by kernel_rfl) rfl) (Lq rfl (Ql (by kernel_rfl) rfl rfl) (Lm rfl rfl ?_)))))))
          refine Lq rfl (Qt.sub rfl rfl (Ze (by omega) (by omega))) (Lq rfl (Qi (h.cm.length-1) (e:=133) (sz:=2) (by kernel_rfl) rfl rfl (by omega) (by omega)) (Lq rfl (Qf (off:=1) (by kernel_rfl) rfl) (Lq rfl (Ql (v := .int .i64 c.2) (by kernel_rfl) rfl (cm_at hcat)) (Lq rfl (YF rfl rfl) (Lq rfl (Qp rfl rfl) (Lq rfl (Qp rfl rfl) (La rfl rfl ?_)))))))
          refine Ld (yL rfl (by omega) ?_)
          rw [←hgc]
          refine Tk (Ts (TS (Lm rfl rfl (Lm rfl rfl (Lm rfl rfl (Lq rfl (z8 [(0,1),(1,1),(2,1),(3,1),(4,1),(5,1)] [.int .i64 0,.int .i64 0,.int .i64 0,.int .i64 0,.int .i64 0,.slice none 0 0] [_,_,_,_,_,_] [(0,_),(1,_),(4,_)] (by kernel_rfl) (by unfold Zf;kernel_rfl) rfl rfl) ?_))))))
          refine Le rfl (Ec (Hp.writeC B g b logs count n K x.q x.pc h.cm.length x.cc h.last x.s h.es (Zi h.vs) hi.s (cmE t stamp) hokE rfl e2 rfl W2 r hadd) Tryz.func47 rfl rfl rfl ?_)
          rintro _ _ ⟨rfl,rfl⟩
          try simp only [cA,nA]
          refine La rfl rfl (Ld (TS (Lm rfl rfl (Lq rfl (yW rfl rfl) (Ld (yQ rfl ?_))))))
          refine Tk (TS (Lm rfl rfl (Lq rfl (Qn rfl) (Lq rfl (Qf (off:=3) (by kernel_rfl) rfl) (Lq rfl (Ql (by kernel_rfl) rfl rfl) ?_)))))
          refine Le rfl (Ec (Wl.flush B x.q.gl b W2 x.s.D hw2.fit hw2.max hw2.st hw2.dur (by have:=hw2.room;omega)) Tryz.func49 rfl rfl rfl ?_)
          rintro _ _ ⟨rfl,rfl⟩
          try simp only [cA,nA]
          refine Ld (TS (Lm rfl rfl (Lq rfl (Qn rfl) (Lq rfl (Q0 (by kernel_rfl) rfl) (Lq rfl (Q0 (by kernel_rfl) rfl) (Lq rfl (Ql (by kernel_rfl) rfl rfl) ?_))))))
          refine Lm rfl rfl ?_
          refine L0 rfl (Y0 Hp.okS rfl t rfl 2 rfl ?_)
          refine Ld (TS (Lm rfl rfl (Lm rfl rfl (Lq rfl (Qn rfl) (Lq rfl (Q0 (by kernel_rfl) rfl) (Lq rfl (Qf (off:=1) (by kernel_rfl) rfl) ?_))))))
          refine Lq rfl (Ql (by kernel_rfl) rfl rfl) (Lm rfl rfl (Lm rfl rfl (Lq rfl (z8 [(0,1),(1,1)] [.int .i64 0,.int .i64 0] [_,_] [(0,_),(1,_)] (by kernel_rfl) (by unfold Zf;kernel_rfl) rfl rfl) ?_)))
          refine Le rfl (zK [_,_] (e:=133) (sz:=2) (by kernel_rfl) ⟨.agg #[.int .i64 0,.int .i64 0],by kernel_rfl,rfl⟩ rfl rfl rfl (by omega) (by omega) ?_)
          intro g77
          refine Le rfl (Ea Hp.elemC rfl rfl (SrcOf.blk (by kernel_rfl) rfl (by simp [Value.oneCell'])) (by unfold maxLen;omega) (by omega) ?_)
          rintro p4 c4 hp4
          try simp only [cA,nA]
          refine Lq rfl (Qn rfl) (Lq rfl (Q0 (by kernel_rfl) rfl) (Lq rfl (Qf (off:=1) (by kernel_rfl) rfl) ?_))
          refine L0 rfl (E1 (by kernel_rfl) rfl rfl rfl (by first | (simp;done) | (simp;omega)) ?_)
          try simp only [List.set_cons_zero,List.set_cons_succ]
          refine Ld (TS (La rfl rfl (Ld (T.ret ?_))))
          exact ⟨.inl rfl,_,_,res [_] rfl ⟨rvT rfl,trivial⟩,⟨_,hi2x p4 c4,rfl,rfl,rfl⟩,(Sub.eqL (hcl3 p4 c4))⟩
        refine yT (t:=34) rfl (decide_eq_false (by omega)) (Ls rfl (Ls rfl (Ls rfl (Ls rfl (Ls rfl (Ls rfl (Ls rfl ?_)))))))
        refine Ls rfl (Ls rfl (Ls rfl (Ls rfl (Ls rfl (Lq rfl (Qp rfl rfl) (Lq rfl (Qp rfl rfl) (La rfl rfl ?_)))))))
        refine Ld (yQ rfl (Tk (Ts (TS (Lm rfl rfl (Lm rfl rfl ?_))))))
        refine Lm rfl rfl (Lq rfl (z8 [(0,1),(1,1),(2,1),(3,1),(4,1),(5,1)] [.int .i64 0,.int .i64 0,.int .i64 0,.int .i64 0,.int .i64 0,.slice none 0 0] [_,_,_,_,_,_] [(0,_),(1,_),(4,_)] (by kernel_rfl) (by unfold Zf;kernel_rfl) rfl rfl) ?_)
        refine Le rfl (Ec (Hp.writeC B g b logs count n K x.q x.pc h.cm.length x.cc h.last x.s h.es (Zi h.vs) hi.s (cmE t stamp) hokE rfl e2 rfl W2 r hadd) Tryz.func47 rfl rfl rfl ?_)
        rintro _ _ ⟨rfl,rfl⟩
        try simp only [cA,nA]
        refine La rfl rfl (Ld (TS (Lm rfl rfl (Lq rfl (yW rfl rfl) (Ld (yQ rfl ?_))))))
        refine Tk (TS (Lm rfl rfl (Lq rfl (Qn rfl) (Lq rfl (Qf (off:=3) (by kernel_rfl) rfl) (Lq rfl (Ql (by kernel_rfl) rfl rfl) ?_)))))
        refine Le rfl (Ec (Wl.flush B x.q.gl b W2 x.s.D hw2.fit hw2.max hw2.st hw2.dur (by have:=hw2.room;omega)) Tryz.func49 rfl rfl rfl ?_)
        rintro _ _ ⟨rfl,rfl⟩
        try simp only [cA,nA]
        refine Ld (TS (Lm rfl rfl (Lq rfl (Qn rfl) (Lq rfl (Q0 (by kernel_rfl) rfl) (Lq rfl (Q0 (by kernel_rfl) rfl) (Lq rfl (Ql (by kernel_rfl) rfl rfl) ?_))))))
        refine Lm rfl rfl ?_
        refine L0 rfl (Y0 Hp.okS rfl t rfl 2 rfl ?_)
        refine Ld (TS (Lm rfl rfl (Lm rfl rfl (Lq rfl (Qn rfl) (Lq rfl (Q0 (by kernel_rfl) rfl) (Lq rfl (Qf (off:=1) (by kernel_rfl) rfl) ?_))))))
        refine Lq rfl (Ql (by kernel_rfl) rfl rfl) (Lm rfl rfl (Lm rfl rfl (Lq rfl (z8 [(0,1),(1,1)] [.int .i64 0,.int .i64 0] [_,_] [(0,_),(1,_)] (by kernel_rfl) (by unfold Zf;kernel_rfl) rfl rfl) ?_)))
        refine Le rfl (zK [_,_] (e:=133) (sz:=2) (by kernel_rfl) ⟨.agg #[.int .i64 0,.int .i64 0],by kernel_rfl,rfl⟩ rfl rfl rfl (by omega) (by omega) ?_)
        intro g77
        refine Le rfl (Ea Hp.elemC rfl rfl (SrcOf.blk (by kernel_rfl) rfl (by simp [Value.oneCell'])) (by unfold maxLen;omega) (by omega) ?_)
        rintro p4 c4 hp4
        try simp only [cA,nA]
        refine Lq rfl (Qn rfl) (Lq rfl (Q0 (by kernel_rfl) rfl) (Lq rfl (Qf (off:=1) (by kernel_rfl) rfl) ?_))
        refine L0 rfl (E1 (by kernel_rfl) rfl rfl rfl (by first | (simp;done) | (simp;omega)) ?_)
        try simp only [List.set_cons_zero,List.set_cons_succ]
        refine Ld (TS (La rfl rfl (Ld (T.ret ?_))))
        exact ⟨.inl rfl,_,_,res [_] rfl ⟨rvT rfl,trivial⟩,⟨_,hi2x p4 c4,rfl,rfl,rfl⟩,(Sub.eqL (hcl3 p4 c4))⟩
  · have he:Zl h t stamp=(h,70):=by unfold Zl;rw [if_neg hc]
    have hd:cmDisk logs h x.s t stamp=x.s.D:=by unfold cmDisk;rw [he];simp
    rw [he,hd]
    refine Ws 82 Tryz.func11 rfl rfl (nB rfl) (fun F=>?_)
    try simp only [cA,nA]
    refine TS (La rfl rfl (Ld (TS (Lm rfl rfl (Lq rfl (Qn rfl) ?_)))))
    refine Lq rfl (Q0 (by kernel_rfl) rfl) (Lq rfl (Qf (off:=1) (by kernel_rfl) rfl) (Lq rfl (Ql (by kernel_rfl) rfl rfl) (Lq rfl (yI (e:=133) (sz:=2) (by kernel_rfl) rfl) (La rfl rfl (Ld (Ts (yH ?_)))))))
    refine TS (Lm rfl rfl (Lq rfl (Qn rfl) (Lq rfl (Q0 (by kernel_rfl) rfl) (Lq rfl (Q0 (by kernel_rfl) rfl) (Lq rfl (Ql (by kernel_rfl) rfl rfl) (Lm rfl rfl ?_))))))
    refine Lq rfl (zT Hp.okS rfl t rfl 0 rfl) (Lq rfl (yW rfl rfl) (La rfl rfl (Ld (zM rfl ((fun q=>hc (ha.1 q))) (TS (La rfl rfl ?_))))))
    refine Ld (T.ret ?_)
    exact ⟨.inl rfl,_,_,res [_] rfl ⟨rvT rfl,trivial⟩,⟨x,hi,rfl,rfl,rfl⟩,Sa⟩
theorem Hp.commit (B:Wn) (g b logs count n K:Nat) (h:HR) (hK:K<2^30) (t stamp:Int) (hcl:h.cm.length<2^32):Fn Tryz.prog B 11 #[pV g,.int .i64 t,.int .i64 stamp] [hpA g b logs count n K h] (fun u l=>u = .int .i64 (Zl h t stamp).2∧l=[hpA g b logs count n K (Zl h t stamp).1]):=by
 refine Fn.openHp fun x hi hp=>?_
 rw [List.append_nil]
 refine (Hp.commitX B g b logs count n K h hK t stamp x hi hp hcl).sub ?_
 rintro u l ⟨x',hi',_,rfl,rfl⟩
 exact ⟨_,Wb (hpC g b logs count n x' (Zl h t stamp).1) x' _ hi' rfl (r:=[]),rfl,rfl⟩
open Go.RowKit
theorem HInv.write {logs count n K K':Nat} {s s':Pl} {st:List (Int×Int)} {h:HR} (i:HInv logs count n K s st h) {e:En} (ok:OkStep h e) (hk:e.kind≠3) (hl:e.txn≤h.last) (hs:SInv logs count n K' s' (h.es++[e]) (Zi (Zg h e).vs)) (hKK:K≤K'):HInv logs count n K' s' st (Zg h e) :=
 ⟨hs,i.r.write ok hl (fun k=>absurd k hk),i.st.write hk,i.pages,i.room,by have:=i.lastK;show h.last≤_;omega⟩
theorem rc_add {h:HR} {t:Int} {d:List UInt8} {q:Nat}:rcSet (Zi h.vs) true q (Zi h.vs q++[newB t d])=Zi (Zg h (addE h t d q)).vs:=by
 funext x
 rw [recs_add (h:=h) (e:=addE h t d q) rfl x]
 unfold rcSet
 simp only [if_true]
 by_cases e:x=q
 · subst e;rw [if_pos rfl,if_pos (by simp)];rfl
 · rw [if_neg e,if_neg (by simpa using e)]
abbrev ridB (g:Nat) (a b:Int):Wp:=blk g [.int .i64 a,.int .i64 b] 48
theorem Hp.add1 (B:Wn) (A:Wp) (gpg g5 g9 g8:Nat) (recs:List (List UInt8)) (m:Int) (a:Option Addr) (mm c:Nat) (k a0 a1:Int) (hu:ZO recs≤243) (hmm:mm<2^62) :
    Fn Tryz.prog B 44 #[pV gpg,pV g5,pV g9,pV g8] (pgA gpg recs m::A::[blk g5 [.slice a mm c] 35,blk g9 [.int .i64 k] 3,ridB g8 a0 a1])
      (fun v l=>v = .bool false∧l=pgA gpg recs m::A::[blk g5 [.slice a mm c] 35,blk g9 [.int .i64 k] 3,if mm+16≤roomR recs then ridB g8 k recs.length else ridB g8 a0 a1]):=by
  by_cases hr:mm+16≤roomR recs
  · rw [if_pos hr]
    refine Fn.enter4 16 Tryz.func44 rfl rfl (nB rfl) (fun F=>?_)
    try simp only [cA,nA]
    refine TS (La rfl rfl (Ld (Ts (Ts (T.draw 6 ([blk g5 [.slice a mm c] 35]) (by kernel_rfl) (nB rfl) (by kernel_rfl) (Rq 0 rfl rfl (by kernel_rfl) Sa (Qm rfl) ?_))))))
    refine Rq 2 rfl rfl (by kernel_rfl) Sa (Ql (by kernel_rfl) rfl rfl) (Rq 3 rfl rfl (by kernel_rfl) Sa (yI (e:=5) (sz:=1) (by kernel_rfl) rfl) (Rq 4 rfl rfl (by kernel_rfl) Sa (Qd rfl rfl (Ze (by omega) (by omega))) (yK 1 (by kernel_rfl) ?_)))
    refine z6 rfl rfl (Ec (Pg.room B gpg recs m hu) Tryz.func45 rfl rfl rfl ?_)
    rintro _ _ ⟨rfl,rfl⟩
    try simp only [cA,nA]
    refine ⟨Sa,?_⟩
    refine Rq 5 rfl rfl (by kernel_rfl) Sa (zX rfl rfl) (Rd0 (by rfl) ?_)
    simp only [dS,dZ,dN]
    refine Ld (zM rfl (by omega) (T.draw 4 ([blk g9 [.int .i64 k] 3]) (by kernel_rfl) (nB rfl) (by kernel_rfl) (Rq 0 rfl rfl (by kernel_rfl) Sa (Ql (by kernel_rfl) rfl rfl) (Rq 1 rfl rfl (by kernel_rfl) Sa (Qm rfl) (yK 2 (by kernel_rfl) ?_)))))
    refine z6 rfl rfl (Ec (Pg.count B gpg recs m) Tryz.func46 rfl rfl rfl ?_)
    rintro _ _ ⟨rfl,rfl⟩
    try simp only [cA,nA]
    refine ⟨Sa,?_⟩
    refine Rq 3 rfl rfl (by kernel_rfl) Sa (z8 [(0,1),(1,1)] [.int .i64 0,.int .i64 0] [_,_] [(0,_),(1,_)] (by kernel_rfl) (by unfold Zf;kernel_rfl) rfl rfl) (Rd0 (by rfl) ?_)
    simp only [dS,dZ,dN]
    refine L0 rfl (Es [_,_] (by kernel_rfl) rfl rfl rfl rfl (by simp) ?_)
    try simp only [splice,lC,lN,dS,cA,tS,tZ,dZ,nA,aN]
    refine Ld (TS (La rfl rfl (Ld (T.ret ?_))))
    exact ⟨.inl rfl,_,_,res [_] rfl ⟨rvT rfl,trivial⟩,⟨rfl,rfl⟩,Sa⟩
  · rw [if_neg hr]
    refine Fn.enter4 16 Tryz.func44 rfl rfl (nB rfl) (fun F=>?_)
    try simp only [cA,nA]
    refine TS (La rfl rfl (Ld (Ts (Ts (T.draw 6 ([blk g5 [.slice a mm c] 35]) (by kernel_rfl) (nB rfl) (by kernel_rfl) (Rq 0 rfl rfl (by kernel_rfl) Sa (Qm rfl) ?_))))))
    refine Rq 2 rfl rfl (by kernel_rfl) Sa (Ql (by kernel_rfl) rfl rfl) (Rq 3 rfl rfl (by kernel_rfl) Sa (yI (e:=5) (sz:=1) (by kernel_rfl) rfl) (Rq 4 rfl rfl (by kernel_rfl) Sa (Qd rfl rfl (Ze (by omega) (by omega))) (yK 1 (by kernel_rfl) ?_)))
    refine z6 rfl rfl (Ec (Pg.room B gpg recs m hu) Tryz.func45 rfl rfl rfl ?_)
    rintro _ _ ⟨rfl,rfl⟩
    try simp only [cA,nA]
    refine ⟨Sa,?_⟩
    refine Rq 5 rfl rfl (by kernel_rfl) Sa (zX rfl rfl) (Rd0 (by rfl) ?_)
    simp only [dS,dZ,dN]
    refine Ld (yL rfl (by omega) (Tk (TS (La rfl rfl (Ld (T.ret ?_))))))
    exact ⟨.inl rfl,_,_,res [_] rfl ⟨rvT rfl,trivial⟩,⟨rfl,rfl⟩,Sa⟩
theorem roomR_iff (h:HR) (q n:Nat) (hn:n≤184):n+16≤roomR (Zi h.vs q)↔Wi h.vs q+17+n≤256:=by
 unfold roomR Wi
 rw [used_recs]
 omega
theorem addE_ok {h:HR} (r:RInv h) (hp:h.pages≤4096) (hl:h.last<2^62) {t:Int} {d:List UInt8} {q:Nat} (ht:Zp h t=true) (hd:d.length≤184) (hq:q<h.pages):EnOk (addE h t d q):=by
 have h1:=r.act1 t (isAct_iff.1 ht)
 have h2:=pages_len r.ok q
 exact ⟨by simp,by simp;omega,by simp only [enPlace];omega,by simp,by simp,by simp,by simp,by simp;omega⟩
def Seek (h:HR) (n k:Nat) (a0 a1:Int):Prop:=(a0 = -1∧a1=0 ∧ ∀ j,j<k → ¬ Wi h.vs j+17+n≤256) ∨ ∃ q:Nat,k=q+1∧a0=q∧a1=((Zh h.vs q).length:Nat)∧roomyP h n=some q
theorem Hp.add (B:Wn) (S:List Wp) (g b logs count n K:Nat) (h:HR) (hK:K+count+1<2^30) (t:Int) (a:Option Addr) (c:Nat) (d:List UInt8) (hv:RdV B S (.slice a d.length c) (Zb d)) (hdl:d.length<2^40) :
    Fn Tryz.prog B 9 #[pV g,.int .i64 t,.slice a d.length c] (hpA g b logs count n K h::S) (fun u l=>u = .tuple #[.agg #[.int .i64 (Wm h t d).2.1,.int .i64 (Wm h t d).2.2.1],.int .i64 (Wm h t d).2.2.2]∧l=hpA g b logs count n (K+count+1) (Wm h t d).1::S):=by
  refine Fn.openHp fun x hi hp=>?_
  simp only [hpC,List.cons_append,List.nil_append]
  have ha:=hi.st.act t
  have hi1:HInv logs count n (K+count+1) x.s x.st h:=hi.mono (by omega)
  by_cases hc:Zp h t=true
  · by_cases hd:184<d.length
    · have he:Wm h t d=(h,0,0,2):=by unfold Wm;rw [if_pos hc,if_pos hd]
      rw [he]
      refine Ws 66 Tryz.func9 rfl rfl (nB rfl) (fun F=>?_)
      try simp only [cA,nA]
      refine TS ?_
      refine Le rfl (zL [_] rfl rfl ?_)
      intro g5
      refine Le rfl (El [.int .i64 0,.int .i64 0] (by unfold Zf;kernel_rfl) ?_)
      intro g6
      refine La rfl rfl (Ld (Ts (yH (TS (Lm rfl rfl (Lq rfl (Qn rfl) ?_))))))
      refine Lq rfl (Q0 (by kernel_rfl) rfl) (Lq rfl (Q0 (by kernel_rfl) rfl) (Lq rfl (Ql (by kernel_rfl) rfl rfl) (Lm rfl rfl (Lq rfl (zT Hp.okS rfl t rfl 0 rfl) (Lq rfl (yW rfl rfl) (La rfl rfl (Ld ?_)))))))
      refine yL rfl ((fun q=>q (ha.2 hc))) (TS (Lq rfl (Ql (by kernel_rfl) rfl rfl) (Lq rfl (yI (e:=5) (sz:=1) (by kernel_rfl) rfl) (Lq rfl (yZ rfl rfl) (La rfl rfl (Ld ?_))))))
      refine zM rfl (by omega) (TS (Lq rfl (z8 [(0,1),(1,1)] [.int .i64 0,.int .i64 0] [_,_] [] (by kernel_rfl) (by unfold Zf;kernel_rfl) rfl rfl) ?_))
      refine L0 rfl (Es [_,_] (by kernel_rfl) rfl rfl rfl rfl (by simp) ?_)
      try simp only [splice,lC,lN,dS,cA,tS,tZ,dZ,nA,aN]
      refine La rfl rfl (Ld (T.ret ?_))
      exact ⟨.inl rfl,_,_,res [_,_] rfl ⟨rvA [_,_] (by kernel_rfl) rfl ⟨rfl,rfl,trivial⟩,rvT rfl,trivial⟩,⟨rfl,rfl⟩,Wb [hpB g x.q x.pc h.cm.length x.cc h.last,stA x.q x.st,cmR x.pc h.cm.length x.cc h.cm,wlS b x.q x.s,plS b n logs count x.q x.s,Zn b x.s.D] x h hi1 rfl⟩
    · have hct:=hi.cnt
      have hpg:=hi.pages
      have hu:=hi.used
      have hr:=hi.room
      have hlk:h.last<2^62:=by have:=hi.lastK;omega
      refine Ws 66 Tryz.func9 rfl rfl (nB rfl) (fun F=>?_)
      try simp only [cA,nA]
      refine TS ?_
      refine Le rfl (zL [_] rfl rfl ?_)
      intro g5
      refine Le rfl (El [.int .i64 0,.int .i64 0] (by unfold Zf;kernel_rfl) ?_)
      intro g6
      refine La rfl rfl (Ld (Ts (yH (TS (Lm rfl rfl (Lq rfl (Qn rfl) ?_))))))
      refine Lq rfl (Q0 (by kernel_rfl) rfl) (Lq rfl (Q0 (by kernel_rfl) rfl) (Lq rfl (Ql (by kernel_rfl) rfl rfl) (Lm rfl rfl (Lq rfl (zT Hp.okS rfl t rfl 0 rfl) (Lq rfl (yW rfl rfl) (La rfl rfl (Ld ?_)))))))
      refine yL rfl ((fun q=>q (ha.2 hc))) (TS (Lq rfl (Ql (by kernel_rfl) rfl rfl) (Lq rfl (yI (e:=5) (sz:=1) (by kernel_rfl) rfl) (Lq rfl (yZ rfl rfl) (La rfl rfl (Ld ?_))))))
      refine yL rfl (by omega) (Tk (TS (Lq rfl (z8 [(0,1),(1,1)] [.int .i64 0,.int .i64 0] [_,_] [(0,_)] (by kernel_rfl) (by unfold Zf;kernel_rfl) rfl rfl) ?_)))
      refine Le rfl (El [.int .i64 0,.int .i64 0] (by unfold Zf;kernel_rfl) ?_)
      intro g8
      refine L0 rfl (Es [_,_] (by kernel_rfl) rfl rfl rfl rfl (by simp) ?_)
      try simp only [splice,lC,lN,dS,cA,tS,tZ,dZ,nA,aN]
      refine Ld ?_
      refine T.cut (fun fz lz => ∃ (f0:Fr) (s2:Pl) (a0 a1:Int),(SInv logs count n (K+count) s2 h.es (Zi h.vs)∧((a0 = -1∧a1=0∧roomyP h d.length=none) ∨ ∃ q:Nat,a0=q∧a1=((Zh h.vs q).length:Nat)∧roomyP h d.length=some q))∧fz=(upd (upd (upd (upd (upd (upd f0 0 (pV g)) 1 (.int .i64 t)) 5 (pV g5)) 6 (pV g6)) 7 (.int .i64 0)) 8 (pV g8))∧lz=ridB g8 a0 a1::blk g5 [.slice a d.length c] 35::ridB g6 0 0::hpB g x.q x.pc h.cm.length x.cc h.last::stA x.q x.st::cmR x.pc h.cm.length x.cc h.cm::wlS b x.q s2::plS b n logs count x.q s2::Zn b s2.D::(S++F)) ?_ ?_
      · skip
        refine TS ?_
        refine Le rfl (El [.int .i64 0] (by unfold Zf;kernel_rfl) ?_)
        intro g9
        refine L0 rfl (E1 (by kernel_rfl) rfl rfl rfl (by first | (simp;done) | (simp;omega)) ?_)
        try simp only [List.set_cons_zero,List.set_cons_succ]
        refine Ld (yH ?_)
        refine zG (fun mz fz lz => ∃ (f0:Fr) (k gk:Nat) (s2:Pl) (a0 a1:Int),(k≤count∧SInv logs count n (K+k) s2 h.es (Zi h.vs)∧Seek h d.length k a0 a1)∧mz=count-k∧fz=(upd (upd (upd (upd (upd (upd (upd f0 0 (pV g)) 1 (.int .i64 t)) 5 (pV g5)) 6 (pV g6)) 7 (.int .i64 0)) 8 (pV g8)) 9 (pV gk))∧lz=blk gk [.int .i64 k] 3::ridB g8 a0 a1::blk g5 [.slice a d.length c] 35::ridB g6 0 0::hpB g x.q x.pc h.cm.length x.cc h.last::stA x.q x.st::cmR x.pc h.cm.length x.cc h.cm::wlS b x.q s2::plS b n logs count x.q s2::Zn b s2.D::(S++F)) ?_ ?_
        · refine ⟨_,_,⟨_,0,_,x.s,-1,0,⟨Nat.zero_le _,hi.s,.inl ⟨rfl,rfl,fun j hj=>by omega⟩⟩,rfl,(Za rfl (Za rfl (Za rfl (Za rfl (Za rfl (Za rfl (Za rfl rfl))))))),rfl⟩,Sa⟩
        rintro mz fz lz ⟨f0,k,gk,s2,a0,a1,⟨hk,hs2,hseek⟩,hmz,rfl,rfl⟩
        subst mz
        refine Ts (Ts (T.draw 14 ([hpB g x.q x.pc h.cm.length x.cc h.last,blk gk [.int .i64 k] 3,ridB g8 a0 a1]) (by kernel_rfl) (nB rfl) (by kernel_rfl) (Rq 0 rfl rfl (by kernel_rfl) Sa (Ql (by kernel_rfl) rfl rfl) (Rq 1 rfl rfl (by kernel_rfl) Sa (Qm rfl) (Rq 2 rfl rfl (by kernel_rfl) Sa (Qn rfl) (Rq 3 rfl rfl (by kernel_rfl) Sa (Qf (off:=4) (by kernel_rfl) rfl) (Rq 4 rfl rfl (by kernel_rfl) Sa (Ql (by kernel_rfl) rfl rfl) ?_)))))))
        refine Rq 5 rfl rfl (by kernel_rfl) Sa (Qn rfl) (Rq 6 rfl rfl (by kernel_rfl) Sa (Q0 (by kernel_rfl) rfl) (yK 7 (by kernel_rfl) ?_))
        refine z6 rfl rfl (Ec (Bp.pages B x.q.gp b n logs count s2.hand x.q.gl s2.A) Tryz.func36 rfl rfl rfl ?_)
        rintro _ _ ⟨rfl,rfl⟩
        try simp only [cA,nA]
        refine ⟨Sa,?_⟩
        refine Rq 8 rfl rfl (by kernel_rfl) Sa (yM rfl rfl) (Rq 9 rfl rfl (by kernel_rfl) Sa (Qm rfl) ?_)
        by_cases ha0:a0 = -1
        · skip
          obtain ⟨ha1,hno⟩:a1=0 ∧ ∀ j,j<k → ¬ Wi h.vs j+17+d.length≤256:=by
            rcases hseek with ⟨_,h1,h2⟩ | ⟨q,_,h1,_⟩
            · exact ⟨h1,h2⟩
            · omega
          subst ha0
          subst ha1
          refine YE (t:=36) rfl (fun hkc=>?_) (fun hkc=>?_)
          · skip
            try replace hkc:=of_decide_eq_true hkc
            refine Rq 10 rfl rfl (by kernel_rfl) Sa (Q0 (by kernel_rfl) rfl) (Rq 11 rfl rfl (by kernel_rfl) Sa (Ql (by kernel_rfl) rfl rfl) (Rq 12 rfl rfl (by kernel_rfl) Sa (yM rfl rfl) (Rq 13 rfl rfl (by kernel_rfl) Sa (Qp rfl rfl) (Rd0 (by rfl) ?_))))
            simp only [dS,dZ,dN]
            refine Ld (zF rfl (Tk (Ts (yH (TR (Lm rfl rfl (Lq rfl (Ql (by kernel_rfl) rfl rfl) ?_)))))))
            refine Lq rfl (Y4 [_,_,_] rfl) ?_
            refine Le rfl (Ec (Hp.with B g b n logs count (K+k) x.q x.pc h.cm.length x.cc h.last s2 h.es (Zi h.vs) hs2 (by omega) k (by omega) k rfl 0 0 rfl (by omega) 44 Tryz.f44 [pV g5,pV gk,pV g8] [blk g5 [.slice a d.length c] 35,blk gk [.int .i64 k] 3,ridB g8 (-1) 0] (fun bb r' X'=>bb=false∧X'=[blk g5 [.slice a d.length c] 35,blk gk [.int .i64 k] 3,if d.length+16≤roomR (Zi h.vs k) then ridB g8 k (Zi h.vs k).length else ridB g8 (-1) 0]) Tryz.func44 rfl rfl (fun gpg m=>(Hp.add1 B (hpB g x.q x.pc h.cm.length x.cc h.last) gpg g5 gk g8 (Zi h.vs k) m a d.length c k (-1) 0 (recs_ok hi.r.ok k).1.used (by omega)).mono (fun v l ⟨h1,h2⟩=>⟨false,_,_,⟨rfl,rfl⟩,h1,h2⟩)) (fun r' X' hh=>by obtain ⟨h1,_⟩:=hh;cases h1)) Tryz.func43 rfl rfl rfl ?_)
            rintro _ _ ⟨bb,r',X',s',⟨rfl,rfl⟩,hS,rfl,rfl⟩
            try simp only [cA,nA]
            have hS2:SInv logs count n (K+k+1) s' h.es (Zi h.vs):=by simpa [rcSet] using hS
            have hroom:=roomR_iff h k d.length (by omega)
            refine Ld (Ts (TS (Lq rfl (Ql (by kernel_rfl) rfl rfl) (Ld (TR ?_)))))
            refine Le rfl (El [.int .i64 0] (by unfold Zf;kernel_rfl) ?_)
            intro g9
            refine L0 rfl (E1 (by kernel_rfl) rfl rfl rfl (by first | (simp;done) | (simp;omega)) ?_)
            try simp only [List.set_cons_zero,List.set_cons_succ]
            refine Ld (TR (Lq rfl (Ql (by kernel_rfl) rfl rfl) (Lq rfl (Qd (r:=((k+1:Nat):Int)) rfl rfl (by rw [Ze (by omega) (by omega)];omega)) ?_)))
            refine L0 rfl (E1 (by kernel_rfl) rfl rfl rfl (by first | (simp;done) | (simp;omega)) ?_)
            try simp only [List.set_cons_zero,List.set_cons_succ]
            refine Ld ?_
            by_cases hfit:Wi h.vs k+17+d.length≤256
            · skip
              rw [if_pos (hroom.2 hfit)]
              refine ⟨_,?_,_,⟨_,k+1,_,s',k,(Zi h.vs k).length,⟨by omega,hS2,.inr ⟨k,rfl,rfl,by simp [Zi],roomy_of (by omega) hfit hno⟩⟩,rfl,(Za rfl (Za rfl (Za rfl (Za rfl (Za rfl (Za rfl (Za rfl rfl))))))),rfl⟩,Sa⟩
              omega
            rw [if_neg (fun q=>hfit (hroom.1 q))]
            refine ⟨_,?_,_,⟨_,k+1,_,s',-1,0,⟨by omega,hS2,.inl ⟨rfl,rfl,fun j hj=>by rcases Nat.lt_or_eq_of_le (Nat.lt_succ_iff.1 hj) with h1 | h1;exact hno j h1;rw [h1];exact hfit⟩⟩,rfl,(Za rfl (Za rfl (Za rfl (Za rfl (Za rfl (Za rfl (Za rfl rfl))))))),rfl⟩,Sa⟩
            omega
          try replace hkc:=of_decide_eq_false hkc
          refine yY 10 rfl rfl (by kernel_rfl) Sa (yY 11 rfl rfl (by kernel_rfl) Sa (yY 12 rfl rfl (by kernel_rfl) Sa (Rq 13 rfl rfl (by kernel_rfl) Sa (Qp rfl rfl) (Rd0 (by rfl) ?_))))
          simp only [dS,dZ,dN]
          refine Ld (yQ rfl (zB ?_))
          exact ⟨_,⟨_,s2,-1,0,⟨hs2.mono (by omega),.inl ⟨rfl,rfl,roomy_no (fun j hj=>hno j (by omega))⟩⟩,(Za rfl (Za rfl (Za rfl (Za rfl (Za rfl (Za rfl rfl)))))),rfl⟩,Sa⟩
        obtain ⟨q,hkq,ha1,ha2,hq⟩:=hseek.resolve_left (fun hh=>ha0 hh.1)
        refine YE (t:=36) rfl (fun hkc=>?_) (fun hkc=>?_)
        · skip
          try replace hkc:=of_decide_eq_true hkc
          refine Rq 10 rfl rfl (by kernel_rfl) Sa (Q0 (by kernel_rfl) rfl) (Rq 11 rfl rfl (by kernel_rfl) Sa (Ql (by kernel_rfl) rfl rfl) (Rq 12 rfl rfl (by kernel_rfl) Sa (yM rfl rfl) (Rq 13 rfl rfl (by kernel_rfl) Sa (Qp rfl rfl) (Rd0 (by rfl) ?_))))
          simp only [dS,dZ,dN]
          refine Ld (yL rfl (by omega) (zB ?_))
          exact ⟨_,⟨_,s2,a0,a1,⟨hs2.mono (by omega),.inr ⟨q,ha1,ha2,hq⟩⟩,(Za rfl (Za rfl (Za rfl (Za rfl (Za rfl (Za rfl rfl)))))),rfl⟩,Sa⟩
        try replace hkc:=of_decide_eq_false hkc
        refine yY 10 rfl rfl (by kernel_rfl) Sa (yY 11 rfl rfl (by kernel_rfl) Sa (yY 12 rfl rfl (by kernel_rfl) Sa (Rq 13 rfl rfl (by kernel_rfl) Sa (Qp rfl rfl) (Rd0 (by rfl) ?_))))
        simp only [dS,dZ,dN]
        refine Ld (yQ rfl (zB ?_))
        exact ⟨_,⟨_,s2,a0,a1,⟨hs2.mono (by omega),.inr ⟨q,ha1,ha2,hq⟩⟩,(Za rfl (Za rfl (Za rfl (Za rfl (Za rfl (Za rfl rfl)))))),rfl⟩,Sa⟩
      rintro fz lz ⟨f0,s2,a0,a1,⟨hs2,hseek⟩,rfl,rfl⟩
      have hi2:HInv logs count n (K+count+1) s2 x.st h:=⟨hs2.mono (by omega),hi.r,hi.st,hi.pages,hi.room,by have:=hi.lastK;omega⟩
      by_cases ha0:a0 = -1
      · skip
        have hnone:roomyP h d.length=none:=by
          rcases hseek with ⟨_,_,h2⟩ | ⟨q,h1,_⟩
          · exact h2
          · omega
        refine Ts (TS (Lq rfl (Q0 (by kernel_rfl) rfl) (Lq rfl (Ql (by kernel_rfl) rfl rfl) (Lq rfl (yM rfl rfl) (Ld (zM rfl (by omega) ?_))))))
        have he:Wm h t d=(h,0,0,3):=by unfold Wm;rw [if_pos hc,if_neg hd,hnone]
        rw [he]
        refine TS (Lq rfl (z8 [(0,1),(1,1)] [.int .i64 0,.int .i64 0] [_,_] [] (by kernel_rfl) (by unfold Zf;kernel_rfl) rfl rfl) ?_)
        refine L0 rfl (Es [_,_] (by kernel_rfl) rfl rfl rfl rfl (by simp) ?_)
        try simp only [splice,lC,lN,dS,cA,tS,tZ,dZ,nA,aN]
        refine La rfl rfl (Ld (T.ret ?_))
        exact ⟨.inl rfl,_,_,res [_,_] rfl ⟨rvA [_,_] (by kernel_rfl) rfl ⟨rfl,rfl,trivial⟩,rvT rfl,trivial⟩,⟨rfl,rfl⟩,Wb [hpB g x.q x.pc h.cm.length x.cc h.last,stA x.q x.st,cmR x.pc h.cm.length x.cc h.cm,wlS b x.q s2,plS b n logs count x.q s2,Zn b s2.D] {x with s:=s2} h hi2 rfl⟩
      obtain ⟨q,ha1,ha2,hq⟩:=hseek.resolve_left (fun hh=>ha0 hh.1)
      subst ha1
      subst ha2
      obtain ⟨hq1,hq2,hq3⟩:=roomy_some hq
      have hokE:=addE_ok hi.r (by omega) hlk hc (d:=d) (q:=q) (by omega) hq1
      have hsz:enSz (addE h t d q)=20+d.length:=by rw [enSz_eq];simp
      have hu2:=hi2.used
      refine Ts (TS (Lq rfl (Q0 (by kernel_rfl) rfl) (Lq rfl (Ql (by kernel_rfl) rfl rfl) (Lq rfl (yM rfl rfl) (Ld (yQ rfl ?_))))))
      by_cases hf:(h.room:Int)<h.used+20+d.length
      · skip
        have he:Wm h t d=(h,0,0,3):=by unfold Wm;rw [if_pos hc,if_neg hd,hq];dsimp only;rw [if_pos hf]
        rw [he]
        refine Tk (Ts (TS (Lm rfl rfl (Lm rfl rfl (Lq rfl (Q0 (by kernel_rfl) rfl) (Lq rfl (Ql (by kernel_rfl) rfl rfl) ?_))))))
        refine Lq rfl (Qf (off:=1) (by kernel_rfl) rfl) (Lq rfl (Ql (by kernel_rfl) rfl rfl) (Lq rfl (Ql (by kernel_rfl) rfl rfl) (Lq rfl (z8 [(0,1),(1,1),(2,1),(3,1),(4,1),(5,1)] [.int .i64 0,.int .i64 0,.int .i64 0,.int .i64 0,.int .i64 0,.slice none 0 0] [_,_,_,_,_,_] [(0,_),(1,_),(2,_),(3,_),(5,_)] (by kernel_rfl) (by unfold Zf;kernel_rfl) rfl rfl) ?_)))
        refine Le rfl (Ec (Hp.writeFull B S g b logs count n (K+count) x.q x.pc h.cm.length x.cc h.last s2 h.es (Zi h.vs) hs2 (addE h t d q) a c hokE hv (by omega)) Tryz.func47 rfl rfl rfl ?_)
        rintro _ _ ⟨rfl,rfl⟩
        try simp only [cA,nA]
        refine La rfl rfl (Ld (TS (Lm rfl rfl (Lq rfl (yW rfl rfl) (Ld (zF rfl ?_))))))
        refine TS (Lq rfl (z8 [(0,1),(1,1)] [.int .i64 0,.int .i64 0] [_,_] [] (by kernel_rfl) (by unfold Zf;kernel_rfl) rfl rfl) (Lm rfl rfl ?_))
        refine L0 rfl (Es [_,_] (by kernel_rfl) rfl rfl rfl rfl (by simp) ?_)
        try simp only [splice,lC,lN,dS,cA,tS,tZ,dZ,nA,aN]
        refine La rfl rfl (Ld (T.ret ?_))
        exact ⟨.inl rfl,_,_,res [_,_] rfl ⟨rvA [_,_] (by kernel_rfl) rfl ⟨rfl,rfl,trivial⟩,rvT rfl,trivial⟩,⟨rfl,rfl⟩,Wb [hpB g x.q x.pc h.cm.length x.cc h.last,stA x.q x.st,cmR x.pc h.cm.length x.cc h.cm,wlS b x.q s2,plS b n logs count x.q s2,Zn b s2.D] {x with s:=s2} h hi2 rfl⟩
      have he:Wm h t d=(Zg h (addE h t d q),(q:Int),((Zh h.vs q).length:Int),0):=by unfold Wm;rw [if_pos hc,if_neg hd,hq];dsimp only;rw [if_neg hf]
      rw [he]
      have hstep:=hi.r.addStep (by omega) hlk hc (d:=d) (q:=q) (by omega) hq1 hq2 (by omega)
      have hrl:(Zi h.vs q).length=(Zh h.vs q).length:=by simp [Zi]
      have hro:=recs_ok hi.r.ok q
      have hus:ZO (Zi h.vs q)+17+d.length≤243:=by rw [used_recs];unfold Wi at hq2;omega
      have hro2:=(recs_ok (hi.r.ok.write hstep) q)
      have hrc:=rc_add (h:=h) (t:=t) (d:=d) (q:=q)
      have hro3:PgOk (Zi h.vs q++[newB t d])∧(Zi h.vs q++[newB t d]).length<256:=by have:=congrFun hrc q;unfold rcSet at this;simp only [if_true] at this;rw [this];exact hro2
      refine Tk (Ts (TS (Lm rfl rfl (Lm rfl rfl (Lq rfl (Q0 (by kernel_rfl) rfl) (Lq rfl (Ql (by kernel_rfl) rfl rfl) ?_))))))
      refine Lq rfl (Qf (off:=1) (by kernel_rfl) rfl) (Lq rfl (Ql (by kernel_rfl) rfl rfl) (Lq rfl (Ql (by kernel_rfl) rfl rfl) (Lq rfl (z8 [(0,1),(1,1),(2,1),(3,1),(4,1),(5,1)] [.int .i64 0,.int .i64 0,.int .i64 0,.int .i64 0,.int .i64 0,.slice none 0 0] [_,_,_,_,_,_] [(0,_),(1,_),(2,_),(3,_),(5,_)] (by kernel_rfl) (by unfold Zf;kernel_rfl) rfl rfl) ?_)))
      refine Le rfl (Ec (Hp.writeP B S g b logs count n (K+count) x.q x.pc h.cm.length x.cc h.last s2 h.es (Zi h.vs) hs2 (by omega) (addE h t d q) a c hokE hv (by omega) (by simp) q rfl (by omega) (Zi h.vs q++[newB t d]) hro3.1 hro3.2 (fun X hX gpg m=>Hp.applyAdd B X (pV g) gpg (Zi h.vs q) m (addE h t d q) a c hokE rfl hX (by rw [hrl]) (by show d.length≤184;omega) hus)) Tryz.func47 rfl rfl rfl ?_)
      rintro _ _ ⟨s',hS,rfl,rfl⟩
      try simp only [cA,nA]
      refine La rfl rfl (Ld (TS (Lm rfl rfl (Lq rfl (yW rfl rfl) (Ld ?_)))))
      rw [hrc] at hS
      have hi3:=hi.write hstep (by simp) (hi.r.act1 t (isAct_iff.1 hc)).2 hS (by omega)
      refine yQ rfl (Tk (TS (Lq rfl (QL [_,_] (by kernel_rfl) rfl ⟨rfl,rfl,trivial⟩) ?_)))
      refine L0 rfl (Es [_,_] (by kernel_rfl) rfl rfl rfl rfl (by simp) ?_)
      try simp only [splice,lC,lN,dS,cA,tS,tZ,dZ,nA,aN]
      refine La rfl rfl (Ld (T.ret ?_))
      exact ⟨.inl rfl,_,_,res [_,_] rfl ⟨rvA [_,_] (by kernel_rfl) rfl ⟨rfl,rfl,trivial⟩,rvT rfl,trivial⟩,⟨rfl,rfl⟩,Wb [hpB g x.q x.pc h.cm.length x.cc h.last,stA x.q x.st,cmR x.pc h.cm.length x.cc h.cm,wlS b x.q s',plS b n logs count x.q s',Zn b s'.D] {x with s:=s'} (Zg h (addE h t d q)) hi3 rfl⟩
  · have he:Wm h t d=(h,0,0,70):=by unfold Wm;rw [if_neg hc]
    rw [he]
    refine Ws 66 Tryz.func9 rfl rfl (nB rfl) (fun F=>?_)
    try simp only [cA,nA]
    refine TS ?_
    refine Le rfl (zL [_] rfl rfl ?_)
    intro g5
    refine Le rfl (El [.int .i64 0,.int .i64 0] (by unfold Zf;kernel_rfl) ?_)
    intro g6
    refine La rfl rfl (Ld (Ts (yH (TS (Lm rfl rfl (Lq rfl (Qn rfl) ?_))))))
    refine Lq rfl (Q0 (by kernel_rfl) rfl) (Lq rfl (Q0 (by kernel_rfl) rfl) (Lq rfl (Ql (by kernel_rfl) rfl rfl) (Lm rfl rfl (Lq rfl (zT Hp.okS rfl t rfl 0 rfl) (Lq rfl (yW rfl rfl) (La rfl rfl (Ld ?_)))))))
    refine zM rfl ((fun q=>hc (ha.1 q))) (TS (Lq rfl (z8 [(0,1),(1,1)] [.int .i64 0,.int .i64 0] [_,_] [] (by kernel_rfl) (by unfold Zf;kernel_rfl) rfl rfl) ?_))
    refine L0 rfl (Es [_,_] (by kernel_rfl) rfl rfl rfl rfl (by simp) ?_)
    try simp only [splice,lC,lN,dS,cA,tS,tZ,dZ,nA,aN]
    refine La rfl rfl (Ld (T.ret ?_))
    exact ⟨.inl rfl,_,_,res [_,_] rfl ⟨rvA [_,_] (by kernel_rfl) rfl ⟨rfl,rfl,trivial⟩,rvT rfl,trivial⟩,⟨rfl,rfl⟩,Wb [hpB g x.q x.pc h.cm.length x.cc h.last,stA x.q x.st,cmR x.pc h.cm.length x.cc h.cm,wlS b x.q x.s,plS b n logs count x.q x.s,Zn b x.s.D] x h hi1 rfl⟩
open Go.RowKit
theorem ver_beg (v:Ver):(verB v).take 8=be (UInt64.ofInt v.beg) 8:=by unfold verB;rw [List.append_assoc,List.take_left' (Zd _ _)]
theorem ver_fin (v:Ver):((verB v).take 16).drop 8=be (UInt64.ofInt v.fin) 8:=by unfold verB;rw [List.take_left' (by simp [Zd]),List.drop_left' (Zd _ _)]
theorem ver_data (v:Ver):(verB v).drop 16=v.data:=by unfold verB;rw [List.drop_left' (by simp [Zd])]
abbrev verV (n slot:Int) (v:Ver) (a:Option Addr) (c:Nat):Value := .agg #[.int .i64 n,.int .i64 slot,.int .i64 v.beg,.int .i64 v.fin,.slice (offA a c 16 1) v.data.length (c-16)]
theorem Hp.version (B:Wn) (S:List Wp) (n slot:Int) (a:Option Addr) (m c:Nat) (v:Ver) (hv:RdV B S (.slice a m c) (Zb (verB v))) (hm:(verB v).length=m) (hmc:m≤c) (hb:0≤v.beg∧v.beg<9223372036854775808) (hf:0≤v.fin∧v.fin<9223372036854775808) :
  Fn Tryz.prog B 64 #[.int .i64 n,.int .i64 slot,.slice a m c] S (fun u l=>u=verV n slot v a c∧l=S):=by
 have hml:m=16+v.data.length:=by rw [←hm,length_verB]
 have h1:=RdV.part hv 0 8 (by omega) hm (by omega) (by omega) (z:=8) rfl
 have h2:=RdV.part hv 8 16 (by omega) hm (by omega) (by omega) (z:=8) rfl
 rw [List.drop_zero,ver_beg,offA_zero] at h1
 rw [ver_fin] at h2
 have g1:=get_at (n:=v.beg) (k:=8) (by omega) (by omega) (by omega) (by omega)
 have g2:=get_at (n:=v.fin) (k:=8) (by omega) (by omega) (by omega) (by omega)
 have hz:m-16=v.data.length:=by omega
 refine Ws 21 Tryz.func64 rfl rfl (nB rfl) (fun F=>?_)
 refine TS ?_
 refine Le rfl (El [.int .i64 0,.int .i64 0,.int .i64 0,.int .i64 0,.slice none 0 0] (by unfold Zf;kernel_rfl) ?_)
 intro g6
 refine Ld (Ts (zW 14 none (by kernel_rfl) (nB rfl) (by kernel_rfl) (Rq 0 rfl rfl (by kernel_rfl) Sa (Qm rfl) (Rq 1 rfl rfl (by kernel_rfl) Sa (Qm rfl) (Rq 2 rfl rfl (by kernel_rfl) Sa (z8 [(0,1),(1,1)] [.int .i64 0,.int .i64 0] [_,_] [(0,_),(1,_)] (by kernel_rfl) (by unfold Zf;kernel_rfl) rfl rfl) (Rq 3 rfl rfl (by kernel_rfl) Sa (Qm rfl) (Rq 4 rfl rfl (by kernel_rfl) Sa (Y6 8 (e:=5) (sz:=1) (by kernel_rfl) rfl rfl rfl (by omega)) ?_)))))))
 refine Rq 7 rfl rfl (by kernel_rfl) Sa (Qm rfl) (Rq 8 rfl rfl (by kernel_rfl) Sa (zS 8 16 (e:=5) (sz:=1) (by kernel_rfl) rfl rfl rfl rfl rfl (by omega) (by omega)) (Rq 11 rfl rfl (by kernel_rfl) Sa (Qm rfl) (Rq 12 rfl rfl (by kernel_rfl) Sa (zP 16 (e:=5) (sz:=1) (by kernel_rfl) rfl rfl rfl (by omega)) (yK 5 (by kernel_rfl) ?_))))
 refine z6 rfl rfl (Ec (Cd.get B _ _ (be (UInt64.ofInt v.beg) 8) (h1.takeAll c) (by simp [Zd])) Tryz.func51 rfl rfl rfl ?_)
 rintro _ l2 ⟨rfl,hl2⟩
 try simp only [cA,nA]
 rw [hl2]
 clear hl2
 refine ⟨Sa,?_⟩
 refine Rq 6 rfl rfl (by kernel_rfl) Sa (yX (by kernel_rfl) (by kernel_rfl) rfl g1) (yK 9 (by kernel_rfl) ?_)
 refine z6 rfl rfl (Ec (Cd.get B _ _ (be (UInt64.ofInt v.fin) 8) h2 (by simp [Zd])) Tryz.func51 rfl rfl rfl ?_)
 rintro _ l2 ⟨rfl,hl2⟩
 rw [hl2]
 clear hl2
 refine ⟨Sa,?_⟩
 refine Rq 10 rfl rfl (by kernel_rfl) Sa (yX (by kernel_rfl) (by kernel_rfl) rfl g2) (Rq 13 rfl rfl (by kernel_rfl) Sa (z8 [(0,2),(2,1),(3,1),(4,1)] [.int .i64 0,.int .i64 0,.int .i64 0,.int .i64 0,.slice none 0 0] [_,_,_,_,_] [(0,_),(1,_),(2,_),(3,_)] (by kernel_rfl) (by unfold Zf;kernel_rfl) rfl rfl) (Rd0 (by rfl) ?_))
 simp only [dS,dZ,dN]
 refine L0 rfl (Es [_,_,_,_,_] (by kernel_rfl) rfl rfl rfl rfl (by simp) ?_)
 try simp only [splice,lC,lN,dS,cA,tS,tZ,dZ,nA,aN]
 refine Ld ?_
 rw [hz]
 refine T.ret ?_
 exact ⟨.inl rfl,_,_,res [_] rfl ⟨rvA [_,_,_,_,_] (by kernel_rfl) rfl ⟨rfl,rfl,rfl,rfl,rfl,trivial⟩,trivial⟩,⟨rfl,rfl⟩,Sa⟩
open Go.RowKit
theorem ver_ok {h:HR} (r:RInv h) {v:Ver} (hv:v∈h.vs):1≤v.beg∧v.beg≤h.last∧0≤v.fin∧v.fin≤h.last:=by
  obtain ⟨_,_,⟨e,he,_,h2⟩,h3⟩:=r.ok.vok v hv
  have h4:=(r.ok.eok e he).txn
  have h5:=r.lst e he
  have h0:=r.last0
  rcases h3 with h3 | ⟨e',he',_,h6⟩
  · omega
  · have h7:=(r.ok.eok e' he').txn
    have h8:=r.lst e' he'
    omega
abbrev verB5 (g:Nat) (a b c d:Int) (sl:Value):Wp:=blk g [.int .i64 a,.int .i64 b,.int .i64 c,.int .i64 d,sl] 139
def Found (l:List Ver) (page slot:Int) (g4 g5:Nat) (X:List Wp):Prop:=(∃ (j:Nat) (v:Ver) (p:Option Addr) (mm c:Nat),slot=j∧l[j]? = some v∧X=[verB5 g4 page slot v.beg v.fin (.slice p mm c),blk g5 [.bool true] 4])∨((∀ j:Nat,slot=j→l[j]? = none)∧X=[verB5 g4 0 0 0 0 (.slice none 0 0),blk g5 [.bool false] 4])
theorem Hp.find1 (B:Wn) (A:Wp) (gpg g3 g4 g5:Nat) (l:List Ver) (m page slot:Int) (hl : ∀ v∈l,0≤v.beg∧v.beg<9223372036854775808∧0≤v.fin∧v.fin<9223372036854775808) :
    Fn Tryz.prog B 101 #[pV gpg,pV g3,pV g4,pV g5] (pgA gpg (l.map verB) m::A::[ridB g3 page slot,verB5 g4 0 0 0 0 (.slice none 0 0),blk g5 [.bool false] 4])
      (fun u L=>u = .bool false ∧ ∃ X,Found l page slot g4 g5 X∧L=pgA gpg (l.map verB) m::A::ridB g3 page slot::X):=by
  by_cases hs:0≤slot∧slot<((l.map verB).length:Int)
  · have hjl:slot.toNat<l.length:=by have:=hs.2;simp at this;omega
    obtain ⟨v,hv⟩ : ∃ v,l[slot.toNat]? = some v:=⟨_,List.getElem?_eq_getElem hjl⟩
    obtain ⟨v1,v2,v3,v4⟩:=hl v (List.mem_of_getElem? hv)
    refine Fn.enter4 28 Tryz.func101 rfl rfl (nB rfl) (fun F=>?_)
    try simp only [cA,nA]
    refine TS (La rfl rfl (Ld (Ts (TS (Lm rfl rfl ?_)))))
    refine Lq rfl (Qf (off:=1) (by kernel_rfl) rfl) (Lq rfl (Ql (by kernel_rfl) rfl rfl) ?_)
    refine Le rfl (Ec (Fn.own (Pg.getE B gpg (l.map verB) m slot slot.toNat (16+v.data.length) (verB v) (by omega) (by rw [List.getElem?_map,hv];rfl) (length_verB v))) Tryz.func63 rfl rfl rfl ?_)
    rintro _ _ ⟨⟨p1,c1,rfl,rfl⟩,w1,F1,ho1⟩
    try simp only [cA,nA]
    simp only [List.cons_append,List.nil_append] at ho1
    have hp1:=(ho1.slice_at (p:=p1) (m:=16+v.data.length) (c:=c1)).2.1
    have hc1:=ho1.cap_at (p:=p1) (m:=16+v.data.length) (c:=c1)
    clear ho1
    refine Lm rfl rfl (Lq rfl (Qx rfl rfl) (Lq rfl (Qx rfl rfl) (La rfl rfl (La rfl rfl (Ld (TS ?_))))))
    refine Lm rfl rfl (Lq rfl (yU rfl rfl) (Lm rfl rfl (zQ (t:=17) rfl rfl (Lm rfl rfl (Lq rfl (yI (e:=5) (sz:=1) (by kernel_rfl) rfl) (Lq rfl (zX rfl rfl) (Lq rfl (Qp rfl rfl) ?_)))))))
    refine Ld (zM rfl (by omega) (TR (Lq rfl (Q0 (by kernel_rfl) rfl) (Lq rfl (Ql (by kernel_rfl) rfl rfl) (Lq rfl (Qf (off:=1) (by kernel_rfl) rfl) (Lq rfl (Ql (by kernel_rfl) rfl rfl) (Lm rfl rfl ?_)))))))
    refine Le rfl (Ec (Hp.version B [rB (.slice p1 (16+v.data.length) c1) (16+v.data.length) (verB v)] page slot p1 (16+v.data.length) c1 v (RdV.rB (length_verB v) hp1) (length_verB v) hc1 ⟨v1,v2⟩ ⟨v3,v4⟩) Tryz.func64 rfl rfl rfl ?_)
    rintro _ _ ⟨rfl,rfl⟩
    try simp only [cA,nA]
    refine L0 rfl (Es [_,_,_,_,_] (by kernel_rfl) rfl rfl rfl rfl (by simp) ?_)
    try simp only [splice,lC,lN,dS,cA,tS,tZ,dZ,nA,aN]
    refine L0 rfl (E1 (by kernel_rfl) rfl rfl rfl (by first | (simp;done) | (simp;omega)) ?_)
    try simp only [List.set_cons_zero,List.set_cons_succ]
    refine Ld (TS (La rfl rfl (Ld (T.ret ?_))))
    exact ⟨.inl rfl,_,_,res [_] rfl ⟨rvT rfl,trivial⟩,⟨rfl,_,.inl ⟨slot.toNat,v,offA p1 c1 16 1,v.data.length,c1-16,by omega,hv,rfl⟩,rfl⟩,Sa⟩
  refine Fn.enter4 28 Tryz.func101 rfl rfl (nB rfl) (fun F=>?_)
  try simp only [cA,nA]
  refine TS (La rfl rfl (Ld (Ts (TS (Lm rfl rfl ?_)))))
  refine Lq rfl (Qf (off:=1) (by kernel_rfl) rfl) (Lq rfl (Ql (by kernel_rfl) rfl rfl) ?_)
  refine Le rfl (Ec (Pg.get_no B gpg (l.map verB) m slot hs) Tryz.func63 rfl rfl rfl ?_)
  rintro _ _ ⟨rfl,rfl⟩
  try simp only [cA,nA]
  refine Lm rfl rfl (Lq rfl (Qx rfl rfl) (Lq rfl (Qx rfl rfl) (La rfl rfl (La rfl rfl (Ld (TS ?_))))))
  refine Lm rfl rfl (Lq rfl (yU rfl rfl) (Lm rfl rfl (yT (t:=17) rfl rfl (Ls rfl (Ls rfl (Ls rfl (Lq rfl (Qp rfl rfl) ?_)))))))
  refine Ld (yQ rfl (Tk (TS (La rfl rfl (Ld (T.ret ?_))))))
  exact ⟨.inl rfl,_,_,res [_] rfl ⟨rvT rfl,trivial⟩,⟨rfl,_,.inr ⟨fun j hj=>List.getElem?_eq_none (by simp at hs;omega),rfl⟩,rfl⟩,Sa⟩
def FindR (h:HR) (page slot:Int) (u:Value):Prop:=(∃ (v:Ver) (p:Option Addr) (mm c:Nat),(We h.vs page slot).bind (h.vs[·]?)=some v∧u = .tuple #[.agg #[.int .i64 page,.int .i64 slot,.int .i64 v.beg,.int .i64 v.fin,.slice p mm c],.bool true])∨((We h.vs page slot).bind (h.vs[·]?)=none∧u = .tuple #[.agg #[.int .i64 0,.int .i64 0,.int .i64 0,.int .i64 0,.slice none 0 0],.bool false])
theorem Hp.find (B:Wn) (g b logs count n K:Nat) (h:HR) (hK:K<2^29) (page slot:Int) (x:HpX) (hi:HInv logs count n K x.s x.st h) (pc:Option Addr) (cc:Nat) :
    Fn Tryz.prog B 48 #[pV g,.agg #[.int .i64 page,.int .i64 slot]] [hpB g x.q pc h.cm.length cc h.last,wlS b x.q x.s,plS b n logs count x.q x.s,Zn b x.s.D]
      (fun u l => ∃ s',SInv logs count n (K+1) s' h.es (Zi h.vs)∧FindR h page slot u∧l=[hpB g x.q pc h.cm.length cc h.last,wlS b x.q s',plS b n logs count x.q s',Zn b s'.D]):=by
  have hpg:=hi.pages
  have hct:=hi.cnt
  have hlk:h.last<2^62:=by have:=hi.lastK;omega
  by_cases hr:0≤page∧page<(count:Int)
  · obtain ⟨q,rfl⟩ : ∃ q:Nat,page=q:=⟨page.toNat,by omega⟩
    have hvl : ∀ v∈Zh h.vs q,0≤v.beg∧v.beg<9223372036854775808∧0≤v.fin∧v.fin<9223372036854775808:=fun v hv=>by
      have:=ver_ok hi.r (mem_of_filt hv)
      omega
    have hfp:=findV_page hi.r.ok.slots q slot
    refine Wr 29 Tryz.func48 rfl rfl (nB rfl) (fun F=>?_)
    try simp only [cA,nA]
    refine TS ?_
    refine Le rfl (zL [_,_] rfl rfl ?_)
    intro g3
    refine Le rfl (El [.int .i64 0,.int .i64 0,.int .i64 0,.int .i64 0,.slice none 0 0] (by unfold Zf;kernel_rfl) ?_)
    intro g4
    refine Le rfl (El [.bool false] (by unfold Zf;kernel_rfl) ?_)
    intro g5
    refine Ld (Ts (Ts (T.draw 15 ([hpB g x.q pc h.cm.length cc h.last,ridB g3 q slot]) (by kernel_rfl) (nB rfl) (by kernel_rfl) (Rq 0 rfl rfl (by kernel_rfl) Sa (Q0 (by kernel_rfl) rfl) (Rq 1 rfl rfl (by kernel_rfl) Sa (Ql (by kernel_rfl) rfl rfl) (Rq 2 rfl rfl (by kernel_rfl) Sa (yM rfl rfl) (Rq 3 rfl rfl (by kernel_rfl) Sa (Qm rfl) ?_)))))))
    refine ZD (t:=9) rfl rfl (Rq 4 rfl rfl (by kernel_rfl) Sa (Q0 (by kernel_rfl) rfl) (Rq 5 rfl rfl (by kernel_rfl) Sa (Ql (by kernel_rfl) rfl rfl) (Rq 6 rfl rfl (by kernel_rfl) Sa (Qm rfl) (Rq 7 rfl rfl (by kernel_rfl) Sa (Qn rfl) (Rq 8 rfl rfl (by kernel_rfl) Sa (Qf (off:=4) (by kernel_rfl) rfl) (Rq 9 rfl rfl (by kernel_rfl) Sa (Ql (by kernel_rfl) rfl rfl) (Rq 10 rfl rfl (by kernel_rfl) Sa (Qn rfl) ?_)))))))
    refine Rq 11 rfl rfl (by kernel_rfl) Sa (Q0 (by kernel_rfl) rfl) (yK 12 (by kernel_rfl) ?_)
    refine z6 rfl rfl (Ec (Bp.pages B x.q.gp b n logs count x.s.hand x.q.gl x.s.A) Tryz.func36 rfl rfl rfl ?_)
    rintro _ _ ⟨rfl,rfl⟩
    try simp only [cA,nA]
    refine ⟨Sa,?_⟩
    refine Rq 13 rfl rfl (by kernel_rfl) Sa (zX rfl rfl) (Rq 14 rfl rfl (by kernel_rfl) Sa (Qp rfl rfl) (Rd0 (by rfl) ?_))
    simp only [dS,dZ,dN]
    refine Ld (yL rfl (by omega) (Tk (TS (Lm rfl rfl (Lq rfl (Q0 (by kernel_rfl) rfl) (Lq rfl (Ql (by kernel_rfl) rfl rfl) ?_))))))
    refine Lq rfl (Y4 [_,_,_] rfl) ?_
    refine Le rfl (Ec (Hp.with B g b n logs count K x.q pc h.cm.length cc h.last x.s h.es (Zi h.vs) hi.s (by omega) q (by omega) q rfl 0 0 rfl (by omega) 101 Tryz.f101 [pV g3,pV g4,pV g5] [ridB g3 q slot,verB5 g4 0 0 0 0 (.slice none 0 0),blk g5 [.bool false] 4] (fun bb r' X'=>bb=false ∧ ∃ X,Found (Zh h.vs q) q slot g4 g5 X∧X'=ridB g3 q slot::X) Tryz.func101 rfl rfl (fun gpg m=>(Hp.find1 B (hpB g x.q pc h.cm.length cc h.last) gpg g3 g4 g5 (Zh h.vs q) m q slot hvl).mono (fun v l ⟨h1,X,h2,h3⟩=>⟨false,_,_,⟨rfl,X,h2,rfl⟩,h1,h3⟩)) (fun r' X' hh=>by obtain ⟨h1,_⟩:=hh;cases h1)) Tryz.func43 rfl rfl rfl ?_)
    rintro _ _ ⟨bb,r',X',s',⟨rfl,X,hX,rfl⟩,hS,rfl,rfl⟩
    try simp only [cA,nA]
    have hS2:SInv logs count n (K+1) s' h.es (Zi h.vs):=by simpa [rcSet] using hS
    refine Ld (Ts ?_)
    by_cases hfo : ∃ (j:Nat) (v:Ver) (p:Option Addr) (mm c:Nat),slot=j∧(Zh h.vs q)[j]? = some v∧X=[verB5 g4 q slot v.beg v.fin (.slice p mm c),blk g5 [.bool true] 4]
    · skip
      obtain ⟨j,v,p,mm,c,rfl,hv,rfl⟩:=hfo
      simp only [List.cons_append,List.nil_append]
      refine zU 3 (by kernel_rfl) (nB rfl) (by kernel_rfl) (Rq 0 rfl rfl (by kernel_rfl) (Sr _) (QL [_,_,_,_,_] (by kernel_rfl) rfl ⟨rfl,rfl,rfl,rfl,rfl,trivial⟩) (Rq 1 rfl rfl (by kernel_rfl) (Sr _) (Ql (by kernel_rfl) rfl rfl) (yK 2 (by kernel_rfl) ?_)))
      refine ZX rfl rfl (Es [_,_,_,_,_] (by kernel_rfl) rfl rfl rfl rfl (by simp) ?_)
      try simp only [splice,lC,lN,dS,cA,tS,tZ,dZ,nA,aN]
      refine ⟨Sa,?_⟩
      refine Rd0 (by rfl) ?_
      simp only [dS,dZ,dN]
      refine L0 rfl (E1 (by kernel_rfl) rfl rfl rfl (by first | (simp;done) | (simp;omega)) ?_)
      try simp only [List.set_cons_zero,List.set_cons_succ]
      refine Ld (T.ret ?_)
      exact ⟨.inl rfl,_,_,res [_,_] rfl ⟨rvA [_,_,_,_,_] (by kernel_rfl) rfl ⟨rfl,rfl,rfl,rfl,rfl,trivial⟩,rvC (by kernel_rfl) rfl rfl,trivial⟩,⟨s',hS2,.inl ⟨v,p,mm,c,by rw [hfp,if_pos (by omega)];simpa using hv,rfl⟩,rfl⟩,Sa⟩
    obtain ⟨hn,rfl⟩:=hX.resolve_left hfo
    simp only [List.cons_append,List.nil_append]
    refine zU 3 (by kernel_rfl) (nB rfl) (by kernel_rfl) (Rq 0 rfl rfl (by kernel_rfl) (Sr _) (QL [_,_,_,_,_] (by kernel_rfl) rfl ⟨rfl,rfl,rfl,rfl,rfl,trivial⟩) (Rq 1 rfl rfl (by kernel_rfl) (Sr _) (Ql (by kernel_rfl) rfl rfl) (yK 2 (by kernel_rfl) ?_)))
    refine ZX rfl rfl (Es [_,_,_,_,_] (by kernel_rfl) rfl rfl rfl rfl (by simp) ?_)
    try simp only [splice,lC,lN,dS,cA,tS,tZ,dZ,nA,aN]
    refine ⟨Sa,?_⟩
    refine Rd0 (by rfl) ?_
    simp only [dS,dZ,dN]
    refine L0 rfl (E1 (by kernel_rfl) rfl rfl rfl (by first | (simp;done) | (simp;omega)) ?_)
    try simp only [List.set_cons_zero,List.set_cons_succ]
    refine Ld (T.ret ?_)
    exact ⟨.inl rfl,_,_,res [_,_] rfl ⟨rvA [_,_,_,_,_] (by kernel_rfl) rfl ⟨rfl,rfl,rfl,rfl,rfl,trivial⟩,rvC (by kernel_rfl) rfl rfl,trivial⟩,⟨s',hS2,.inr ⟨by rw [hfp];split;(next h0=>simpa using hn slot.toNat (by omega));rfl,rfl⟩,rfl⟩,Sa⟩
  · have hnone:(We h.vs page slot).bind (h.vs[·]?)=none:=by
      rw [findV_page hi.r.ok.slots]
      split
      · rename_i h0
        refine List.getElem?_eq_none ?_
        have:Zh h.vs page.toNat=[]:=by
          unfold Zh
          rw [List.filter_eq_nil_iff]
          intro v hv
          have:=(hi.r.ok.vok v hv).1
          simp;omega
        rw [this];simp
      · rfl
    refine Wr 29 Tryz.func48 rfl rfl (nB rfl) (fun F=>?_)
    try simp only [cA,nA]
    refine TS ?_
    refine Le rfl (zL [_,_] rfl rfl ?_)
    intro g3
    refine Le rfl (El [.int .i64 0,.int .i64 0,.int .i64 0,.int .i64 0,.slice none 0 0] (by unfold Zf;kernel_rfl) ?_)
    intro g4
    refine Le rfl (El [.bool false] (by unfold Zf;kernel_rfl) ?_)
    intro g5
    refine Ld (Ts (Ts (T.draw 15 ([hpB g x.q pc h.cm.length cc h.last,ridB g3 page slot]) (by kernel_rfl) (nB rfl) (by kernel_rfl) (Rq 0 rfl rfl (by kernel_rfl) Sa (Q0 (by kernel_rfl) rfl) (Rq 1 rfl rfl (by kernel_rfl) Sa (Ql (by kernel_rfl) rfl rfl) (Rq 2 rfl rfl (by kernel_rfl) Sa (yM rfl rfl) (Rq 3 rfl rfl (by kernel_rfl) Sa (Qm rfl) ?_)))))))
    by_cases h0:page<0
    · skip
      refine YY (t:=9) rfl (decide_eq_true (by omega)) (yY 4 rfl rfl (by kernel_rfl) Sa (yY 5 rfl rfl (by kernel_rfl) Sa (yY 6 rfl rfl (by kernel_rfl) Sa (yY 7 rfl rfl (by kernel_rfl) Sa (yY 8 rfl rfl (by kernel_rfl) Sa (yY 9 rfl rfl (by kernel_rfl) Sa (yY 10 rfl rfl (by kernel_rfl) Sa ?_)))))))
      refine yY 11 rfl rfl (by kernel_rfl) Sa (yY 12 rfl rfl (by kernel_rfl) Sa (yY 13 rfl rfl (by kernel_rfl) Sa (Rq 14 rfl rfl (by kernel_rfl) Sa (Qp rfl rfl) (Rd0 (by rfl) ?_))))
      simp only [dS,dZ,dN]
      refine Ld (zF rfl (TS (Lq rfl (QL [_,_,_,_,_] (by kernel_rfl) rfl ⟨rfl,rfl,rfl,rfl,rfl,trivial⟩) ?_)))
      refine L0 rfl (Es [_,_,_,_,_] (by kernel_rfl) rfl rfl rfl rfl (by simp) ?_)
      try simp only [splice,lC,lN,dS,cA,tS,tZ,dZ,nA,aN]
      refine L0 rfl (E1 (by kernel_rfl) rfl rfl rfl (by first | (simp;done) | (simp;omega)) ?_)
      try simp only [List.set_cons_zero,List.set_cons_succ]
      refine Ld (T.ret ?_)
      exact ⟨.inl rfl,_,_,res [_,_] rfl ⟨rvA [_,_,_,_,_] (by kernel_rfl) rfl ⟨rfl,rfl,rfl,rfl,rfl,trivial⟩,rvC (by kernel_rfl) rfl rfl,trivial⟩,⟨x.s,hi.s.mono (by omega),.inr ⟨hnone,rfl⟩,rfl⟩,Sa⟩
    refine ZD (t:=9) rfl (decide_eq_false (by omega)) (Rq 4 rfl rfl (by kernel_rfl) Sa (Q0 (by kernel_rfl) rfl) (Rq 5 rfl rfl (by kernel_rfl) Sa (Ql (by kernel_rfl) rfl rfl) (Rq 6 rfl rfl (by kernel_rfl) Sa (Qm rfl) (Rq 7 rfl rfl (by kernel_rfl) Sa (Qn rfl) (Rq 8 rfl rfl (by kernel_rfl) Sa (Qf (off:=4) (by kernel_rfl) rfl) (Rq 9 rfl rfl (by kernel_rfl) Sa (Ql (by kernel_rfl) rfl rfl) (Rq 10 rfl rfl (by kernel_rfl) Sa (Qn rfl) ?_)))))))
    refine Rq 11 rfl rfl (by kernel_rfl) Sa (Q0 (by kernel_rfl) rfl) (yK 12 (by kernel_rfl) ?_)
    refine z6 rfl rfl (Ec (Bp.pages B x.q.gp b n logs count x.s.hand x.q.gl x.s.A) Tryz.func36 rfl rfl rfl ?_)
    rintro _ _ ⟨rfl,rfl⟩
    try simp only [cA,nA]
    refine ⟨Sa,?_⟩
    refine Rq 13 rfl rfl (by kernel_rfl) Sa (zX rfl rfl) (Rq 14 rfl rfl (by kernel_rfl) Sa (Qp rfl rfl) (Rd0 (by rfl) ?_))
    simp only [dS,dZ,dN]
    refine Ld (zM rfl (by omega) (TS (Lq rfl (QL [_,_,_,_,_] (by kernel_rfl) rfl ⟨rfl,rfl,rfl,rfl,rfl,trivial⟩) ?_)))
    refine L0 rfl (Es [_,_,_,_,_] (by kernel_rfl) rfl rfl rfl rfl (by simp) ?_)
    try simp only [splice,lC,lN,dS,cA,tS,tZ,dZ,nA,aN]
    refine L0 rfl (E1 (by kernel_rfl) rfl rfl rfl (by first | (simp;done) | (simp;omega)) ?_)
    try simp only [List.set_cons_zero,List.set_cons_succ]
    refine Ld (T.ret ?_)
    exact ⟨.inl rfl,_,_,res [_,_] rfl ⟨rvA [_,_,_,_,_] (by kernel_rfl) rfl ⟨rfl,rfl,rfl,rfl,rfl,trivial⟩,rvC (by kernel_rfl) rfl rfl,trivial⟩,⟨x.s,hi.s.mono (by omega),.inr ⟨hnone,rfl⟩,rfl⟩,Sa⟩
open Go.RowKit
theorem modify_set {α:Type} {a:α} : ∀ {l:List α} {i:Nat},l[i]? = some a → ∀ f:α→α,l.modify i f=l.set i (f a)
 | [],_,h,_=>by simp at h
 | b::l,0,h,f=>by simp at h;simp [h]
 | b::l,i+1,h,f=>by simp [modify_set (l:=l) (i:=i) (by simpa using h) f]
section
variable {h : HR} {t page slot:Int} {v:Ver}
theorem end4 (hc:Zp h t=true) (hv:(We h.vs page slot).bind (h.vs[·]?)=some v) (hb:(v.beg≠t∧Wa h v.beg=false)∨v.fin=t∨Wa h v.fin=true):endR h t page slot=(h,4):=by
 unfold endR;rw [if_pos hc,hv];dsimp only;rw [if_pos hb]
theorem not_bad (hbg:v.beg=t∨Wa h v.beg=true) (h5 : ¬ v.fin=t) (hcf:Wa h v.fin=false) : ¬ ((v.beg≠t∧Wa h v.beg=false)∨v.fin=t∨Wa h v.fin=true):=by
  rintro (⟨q1,q2⟩ | q | q)
  · rcases hbg with k | k
    · exact q1 k
    · rw [k] at q2;cases q2
  · exact h5 q
  · rw [hcf] at q;cases q
theorem end71 (hc:Zp h t=true) (hv:(We h.vs page slot).bind (h.vs[·]?)=some v) (hbg:v.beg=t∨Wa h v.beg=true) (h5 : ¬ v.fin=t) (hcf:Wa h v.fin=false) (haf:Zp h v.fin=true):endR h t page slot=(h,71):=by
 unfold endR;rw [if_pos hc,hv];dsimp only;rw [if_neg (not_bad hbg h5 hcf),if_pos haf]
theorem end3 (hc:Zp h t=true) (hv:(We h.vs page slot).bind (h.vs[·]?)=some v) (hbg:v.beg=t∨Wa h v.beg=true) (h5:v.fin≠t) (hcf:Wa h v.fin=false) (haf:Zp h v.fin=false) (hf:(h.room:Int)<h.used+20):endR h t page slot=(h,3):=by
 unfold endR;rw [if_pos hc,hv];dsimp only;rw [if_neg (not_bad hbg h5 hcf),if_neg (by simp [haf]),if_pos hf]
theorem end0 (hc:Zp h t=true) (hv:(We h.vs page slot).bind (h.vs[·]?)=some v) (hbg:v.beg=t∨Wa h v.beg=true) (h5:v.fin≠t) (hcf:Wa h v.fin=false) (haf:Zp h v.fin=false) (hf : ¬ (h.room:Int)<h.used+20):endR h t page slot=(Zg h (endE t page slot),0):=by
 unfold endR;rw [if_pos hc,hv];dsimp only;rw [if_neg (not_bad hbg h5 hcf),if_neg (by simp [haf]),if_neg hf]
theorem rc_end (r:RepOk h) {i:Nat} (hi:We h.vs page slot=some i) (hv:h.vs[i]? = some v):rcSet (Zi h.vs) true v.page ((Zi h.vs v.page).set v.slot (setB 8 (be (UInt64.ofInt t) 8) (verB v)))=Zi (Zg h (endE t page slot)).vs:=by
  obtain ⟨u,hu,e1,e2⟩:=findV_some hi
  rw [hv] at hu;cases hu
  have hp:=page_at r.slots hv
  funext x
  rw [recs_end (h:=h) (e:=endE t page slot) r rfl hi hv x]
  unfold rcSet
  simp only [if_true]
  have e3:page.toNat=v.page:=by omega
  have e4:slot.toNat=v.slot:=by omega
  by_cases e:x=v.page
  · subst e
    rw [if_pos rfl,if_pos e3.symm,e4]
    have hl:=(List.getElem?_eq_some_iff.1 hp).1
    have hr:(Zi h.vs v.page)[v.slot]? = some (verB v):=by unfold Zi;rw [List.getElem?_map,hp];rfl
    have hl2:=(List.getElem?_eq_some_iff.1 hr)
    obtain ⟨q1,q2⟩:=hl2
    exact (modify_set hr _).symm
  · rw [if_neg e,if_neg (by rw [e3];exact e)]
end
theorem Hp.end_ (B:Wn) (g b logs count n K:Nat) (h:HR) (hK:K<2^28) (t page slot:Int) :
    Fn Tryz.prog B 10 #[pV g,.int .i64 t,.agg #[.int .i64 page,.int .i64 slot]] [hpA g b logs count n K h] (fun u l=>u = .int .i64 (endR h t page slot).2∧l=[hpA g b logs count n (K+2) (endR h t page slot).1]):=by
  refine Fn.openHp fun x hi hp=>?_
  simp only [hpC,List.cons_append,List.nil_append]
  have ha:=hi.st.act t
  have hi1:HInv logs count n (K+2) x.s x.st h:=hi.mono (by omega)
  by_cases hc:Zp h t=true
  · have hct:=hi.cnt
    have hpg:=hi.pages
    have hu:=hi.used
    have hr:=hi.room
    have hlk:h.last<2^62:=by have:=hi.lastK;omega
    refine Ws 75 Tryz.func10 rfl rfl (nB rfl) (fun F=>?_)
    try simp only [cA,nA]
    refine TS ?_
    refine Le rfl (zL [_,_] rfl rfl ?_)
    intro g5
    refine La rfl rfl (Ld (Ts (TS (Lm rfl rfl (Lq rfl (Qn rfl) (Lq rfl (Q0 (by kernel_rfl) rfl) ?_))))))
    refine Lq rfl (Q0 (by kernel_rfl) rfl) (Lq rfl (Ql (by kernel_rfl) rfl rfl) (Lm rfl rfl (Lq rfl (zT Hp.okS rfl t rfl 0 rfl) (Lq rfl (yW rfl rfl) (Ld (yL rfl ((fun q=>q (ha.2 hc))) (Tk ?_)))))))
    refine TS (Lm rfl rfl (Lq rfl (QL [_,_] (by kernel_rfl) rfl ⟨rfl,rfl,trivial⟩) ?_))
    refine Le rfl (Ec (Hp.find B g b logs count n K h (by omega) page slot x hi x.pc x.cc) Tryz.func48 rfl rfl rfl ?_)
    rintro u _ ⟨s',hS,hfd,rfl⟩
    try simp only [cA,nA]
    by_cases hfo : ∃ (v:Ver) (p:Option Addr) (mm c:Nat),(We h.vs page slot).bind (h.vs[·]?)=some v∧u = .tuple #[.agg #[.int .i64 page,.int .i64 slot,.int .i64 v.beg,.int .i64 v.fin,.slice p mm c],.bool true]
    · skip
      have hi2:HInv logs count n (K+2) s' x.st h:=⟨hS.mono (by omega),hi.r,hi.st,hi.pages,hi.room,by have:=hi.lastK;omega⟩
      have hu2:=hi2.used
      obtain ⟨v,p,mm,c,hv,rfl⟩:=hfo
      obtain ⟨i,hfi,hvi⟩ : ∃ i,We h.vs page slot=some i∧h.vs[i]? = some v:=by
        cases hq:We h.vs page slot with
        | none=>rw [hq] at hv;cases hv
        | some i=>rw [hq] at hv;exact ⟨i,rfl,hv⟩
      obtain ⟨v0,hv0,hvp,hvs⟩:=findV_some hfi
      rw [hvi] at hv0
      cases hv0
      have hvo:=ver_ok hi.r (List.mem_of_getElem? hvi)
      have hvk:=hi.r.ok.vok v (List.mem_of_getElem? hvi)
      have hrv:(Zi h.vs v.page)[v.slot]? = some (verB v):=by unfold Zi;rw [List.getElem?_map,page_at hi.r.ok.slots hvi];rfl
      have hokE:EnOk (endE t page slot):=by
        have h1:=hi.r.act1 t (isAct_iff.1 hc)
        have h3:=pages_len hi.r.ok v.page
        have h4:=(List.getElem?_eq_some_iff.1 (page_at hi.r.ok.slots hvi)).1
        exact ⟨by simp,by simp;omega,by simp only [enPlace];omega,by simp,by simp,by simp,by simp,by simp⟩
      have hsz:enSz (endE t page slot)=20:=by rw [enSz_eq];simp
      refine Lm rfl rfl (Lq rfl (Qx rfl rfl) (Lq rfl (Qx rfl rfl) ?_))
      refine Le rfl (El [.int .i64 0,.int .i64 0,.int .i64 0,.int .i64 0,.slice none 0 0] (by unfold Zf;kernel_rfl) ?_)
      intro g7
      refine L0 rfl (Es [_,_,_,_,_] (by kernel_rfl) rfl rfl rfl rfl (by simp) ?_)
      try simp only [splice,lC,lN,dS,cA,tS,tZ,dZ,nA,aN]
      refine La rfl rfl (Ld (Ts (Ts (T.draw 17 ([hpB g x.q x.pc h.cm.length x.cc h.last,stA x.q x.st,verB5 g7 page slot v.beg v.fin (.slice p mm c)]) (by kernel_rfl) (nB rfl) (by kernel_rfl) (Rq 0 rfl rfl (by kernel_rfl) Sa (Qm rfl) (Rq 1 rfl rfl (by kernel_rfl) Sa (Qn rfl) (Rq 2 rfl rfl (by kernel_rfl) Sa (Q0 (by kernel_rfl) rfl) ?_)))))))
      refine Rq 3 rfl rfl (by kernel_rfl) Sa (Q0 (by kernel_rfl) rfl) (Rq 4 rfl rfl (by kernel_rfl) Sa (Ql (by kernel_rfl) rfl rfl) (Rq 5 rfl rfl (by kernel_rfl) Sa (Qf (off:=2) (by kernel_rfl) rfl) (Rq 6 rfl rfl (by kernel_rfl) Sa (Ql (by kernel_rfl) rfl rfl) (Rq 7 rfl rfl (by kernel_rfl) Sa (zT Hp.okS rfl v.beg rfl 0 rfl) (Rq 8 rfl rfl (by kernel_rfl) Sa (Qm rfl) (Rq 9 rfl rfl (by kernel_rfl) Sa (Qn rfl) (Rq 10 rfl rfl (by kernel_rfl) Sa (Q0 (by kernel_rfl) rfl) ?_)))))))
      refine Rq 11 rfl rfl (by kernel_rfl) Sa (Q0 (by kernel_rfl) rfl) (Rq 12 rfl rfl (by kernel_rfl) Sa (Ql (by kernel_rfl) rfl rfl) (Rq 13 rfl rfl (by kernel_rfl) Sa (Qf (off:=3) (by kernel_rfl) rfl) (Rq 14 rfl rfl (by kernel_rfl) Sa (Ql (by kernel_rfl) rfl rfl) (Rq 15 rfl rfl (by kernel_rfl) Sa (zT Hp.okS rfl v.fin rfl 0 rfl) (Rq 16 rfl rfl (by kernel_rfl) Sa (Qa rfl) (Rd0 (by rfl) ?_))))))
      simp only [dS,dZ,dN]
      refine La rfl rfl (Ld (yH ?_))
      refine T.cut (fun fz lz => ∃ (f0:Fr) (bb:Bool),((bb=true→(v.beg≠t∧Wa h v.beg=false)∨v.fin=t∨Wa h v.fin=true)∧(bb=false→(v.beg=t∨Wa h v.beg=true)∧v.fin≠t∧Wa h v.fin=false))∧fz=(upd (upd (upd (upd (upd f0 0 (pV g)) 1 (.int .i64 t)) 5 (pV g5)) 10 (.int .i64 (lookS x.st v.fin))) 41 (.bool bb))∧lz=ridB g5 page slot::hpB g x.q x.pc h.cm.length x.cc h.last::stA x.q x.st::cmR x.pc h.cm.length x.cc h.cm::wlS b x.q s'::plS b n logs count x.q s'::Zn b s'.D::F) ?_ ?_
      · skip
        refine TS (Lm rfl rfl (Lq rfl (Y2 rfl) (La rfl rfl (Ld (yQ rfl (Ts ?_))))))
        refine TR (Lm rfl rfl (Lq rfl (yU rfl rfl) (La rfl rfl (Ld ?_))))
        refine yN rfl (fun h0=>?_) (fun h0=>?_)
        · skip
          have h00:=stN_lost.1 ((hi.st v.beg).symm.trans h0)
          refine Tk ?_
          exact ⟨_,⟨_,decide ((Zy x.st v.beg).getD 0=0),⟨fun _ => .inl ⟨(fun hq=>by rw [hq,hc] at h00;cases h00.1),h00.2⟩,fun hq=>absurd h0 (of_decide_eq_false hq)⟩,(Za rfl (Za rfl (Za rfl (Za rfl (Za rfl rfl))))),rfl⟩,Sa⟩
        refine TS (Lm rfl rfl (Lq rfl (yU rfl rfl) (Lm rfl rfl ?_)))
        refine zZ (t:=48) rfl (fun h1=>?_) (fun h1=>?_)
        · skip
          try replace h1:=of_decide_eq_true h1
          have hab:=(hi.st.act v.beg).1 h1
          have hcb:=hi.r.actcm v.beg (isAct_iff.1 hab)
          refine Lq rfl (Qf (off:=2) (by kernel_rfl) rfl) (Lq rfl (Ql (by kernel_rfl) rfl rfl) (Lm rfl rfl (Lq rfl (yW rfl rfl) (Lq rfl (Qp rfl rfl) (La rfl rfl (Ld ?_))))))
          refine yN rfl (fun h2=>?_) (fun h2=>?_)
          · skip
            refine Tk ?_
            exact ⟨_,⟨_,decide (v.beg≠t),⟨fun _ => .inl ⟨h2,hcb⟩,fun hq=>absurd h2 (of_decide_eq_false hq)⟩,(Za rfl (Za rfl (Za rfl (Za rfl (Za rfl rfl))))),rfl⟩,Sa⟩
          have hbg:v.beg=t∨Wa h v.beg=true := .inl (Decidable.not_not.1 h2)
          refine TS (Lm rfl rfl (Lq rfl (yU rfl rfl) (La rfl rfl (Ld ?_))))
          refine yN rfl (fun h3=>?_) (fun h3=>?_)
          · skip
            refine Tk ?_
            exact ⟨_,⟨_,decide ((Zy x.st v.fin).getD 0=2),⟨fun _ => .inr (.inr ((stN_cm hi.r).1 (by rw [←hi.st v.fin];exact h3))),fun hq=>absurd h3 (of_decide_eq_false hq)⟩,(Za rfl (Za rfl (Za rfl (Za rfl (Za rfl rfl))))),rfl⟩,Sa⟩
          have hcf:Wa h v.fin=false:=by
            cases hq:Wa h v.fin with
            | false=>rfl
            | true=>exact absurd (by rw [show (Zy x.st v.fin).getD 0=stN h v.fin from hi.st v.fin];exact (stN_cm hi.r).2 hq) h3
          refine TR (Lm rfl rfl (Lq rfl (yU rfl rfl) (Lm rfl rfl ?_)))
          refine zZ (t:=58) rfl (fun h4=>?_) (fun h4=>?_)
          · skip
            try replace h4:=of_decide_eq_true h4
            refine Lq rfl (Qf (off:=3) (by kernel_rfl) rfl) (Lq rfl (Ql (by kernel_rfl) rfl rfl) (Lm rfl rfl (Lq rfl (yU rfl rfl) (Lq rfl (Qp rfl rfl) (La rfl rfl (Ld ?_))))))
            exact ⟨_,⟨_,decide (v.fin=t),⟨fun hq => .inr (.inl (of_decide_eq_true hq)),fun hq=>⟨hbg,of_decide_eq_false hq,hcf⟩⟩,(Za rfl (Za rfl (Za rfl (Za rfl (Za rfl rfl))))),rfl⟩,Sa⟩
          try replace h4:=of_decide_eq_false h4
          refine Ls rfl (Ls rfl (Ls rfl (Ls rfl (Lq rfl (Qp rfl rfl) (La rfl rfl (Ld ?_))))))
          exact ⟨_,⟨_,false,⟨(fun hq=>by cases hq),fun _=>⟨hbg,fun hq=>h4 ((hi.st.act v.fin).2 (by rw [hq];exact hc)),hcf⟩⟩,(Za rfl (Za rfl (Za rfl (Za rfl (Za rfl rfl))))),rfl⟩,Sa⟩
        try replace h1:=of_decide_eq_false h1
        have hbg:v.beg=t∨Wa h v.beg=true:=by
          cases hq:Wa h v.beg with
          | true=>exact .inr rfl
          | false =>
            cases hq2:Zp h v.beg with
            | true=>exact absurd ((hi.st.act v.beg).2 hq2) h1
            | false=>exact absurd ((hi.st v.beg).trans (stN_lost.2 ⟨hq2,hq⟩)) h0
        refine Ls rfl (Ls rfl (Ls rfl (Ls rfl (Lq rfl (Qp rfl rfl) (La rfl rfl (Ld (yQ rfl ?_)))))))
        refine TS (Lm rfl rfl (Lq rfl (yU rfl rfl) (La rfl rfl (Ld ?_))))
        refine yN rfl (fun h3=>?_) (fun h3=>?_)
        · skip
          refine Tk ?_
          exact ⟨_,⟨_,decide ((Zy x.st v.fin).getD 0=2),⟨fun _ => .inr (.inr ((stN_cm hi.r).1 (by rw [←hi.st v.fin];exact h3))),fun hq=>absurd h3 (of_decide_eq_false hq)⟩,(Za rfl (Za rfl (Za rfl (Za rfl (Za rfl rfl))))),rfl⟩,Sa⟩
        have hcf:Wa h v.fin=false:=by
          cases hq:Wa h v.fin with
          | false=>rfl
          | true=>exact absurd (by rw [show (Zy x.st v.fin).getD 0=stN h v.fin from hi.st v.fin];exact (stN_cm hi.r).2 hq) h3
        refine TR (Lm rfl rfl (Lq rfl (yU rfl rfl) (Lm rfl rfl ?_)))
        refine zZ (t:=58) rfl (fun h4=>?_) (fun h4=>?_)
        · skip
          try replace h4:=of_decide_eq_true h4
          refine Lq rfl (Qf (off:=3) (by kernel_rfl) rfl) (Lq rfl (Ql (by kernel_rfl) rfl rfl) (Lm rfl rfl (Lq rfl (yU rfl rfl) (Lq rfl (Qp rfl rfl) (La rfl rfl (Ld ?_))))))
          exact ⟨_,⟨_,decide (v.fin=t),⟨fun hq => .inr (.inl (of_decide_eq_true hq)),fun hq=>⟨hbg,of_decide_eq_false hq,hcf⟩⟩,(Za rfl (Za rfl (Za rfl (Za rfl (Za rfl rfl))))),rfl⟩,Sa⟩
        try replace h4:=of_decide_eq_false h4
        refine Ls rfl (Ls rfl (Ls rfl (Ls rfl (Lq rfl (Qp rfl rfl) (La rfl rfl (Ld ?_))))))
        exact ⟨_,⟨_,false,⟨(fun hq=>by cases hq),fun _=>⟨hbg,fun hq=>h4 ((hi.st.act v.fin).2 (by rw [hq];exact hc)),hcf⟩⟩,(Za rfl (Za rfl (Za rfl (Za rfl (Za rfl rfl))))),rfl⟩,Sa⟩
      rintro fz lz ⟨f0,bb,⟨hb1,hb2⟩,rfl,rfl⟩
      by_cases hbb:bb=true
      · skip
        subst hbb
        refine zF rfl ?_
        rw [end4 hc hv (hb1 rfl)]
        refine TS (La rfl rfl (Ld (T.ret ?_)))
        exact ⟨.inl rfl,_,_,res [_] rfl ⟨rvT rfl,trivial⟩,⟨rfl,rfl⟩,Wb [hpB g x.q x.pc h.cm.length x.cc h.last,stA x.q x.st,cmR x.pc h.cm.length x.cc h.cm,wlS b x.q s',plS b n logs count x.q s',Zn b s'.D] {x with s:=s'} h hi2 rfl⟩
      have hbb2:bb=false:=by simpa using hbb
      subst hbb2
      obtain ⟨hbg,h5,hcf⟩:=hb2 rfl
      refine yQ rfl (TS (Lm rfl rfl (Lq rfl (yU rfl rfl) (La rfl rfl (Ld ?_)))))
      refine yN rfl (fun h4=>?_) (fun h4=>?_)
      · skip
        have haf:=(hi.st.act v.fin).1 h4
        rw [end71 hc hv hbg h5 hcf haf]
        refine TS (La rfl rfl (Ld (T.ret ?_)))
        exact ⟨.inl rfl,_,_,res [_] rfl ⟨rvT rfl,trivial⟩,⟨rfl,rfl⟩,Wb [hpB g x.q x.pc h.cm.length x.cc h.last,stA x.q x.st,cmR x.pc h.cm.length x.cc h.cm,wlS b x.q s',plS b n logs count x.q s',Zn b s'.D] {x with s:=s'} h hi2 rfl⟩
      have haf:Zp h v.fin=false:=by
        cases hq:Zp h v.fin with
        | false=>rfl
        | true=>exact absurd ((hi.st.act v.fin).2 hq) h4
      by_cases hf:(h.room:Int)<h.used+20
      · skip
        rw [end3 hc hv hbg h5 hcf haf hf]
        refine Tk (TS (Lm rfl rfl (Lm rfl rfl (Lq rfl (Q0 (by kernel_rfl) rfl) (Lq rfl (Ql (by kernel_rfl) rfl rfl) (Lq rfl (Qf (off:=1) (by kernel_rfl) rfl) ?_))))))
        refine Lq rfl (Ql (by kernel_rfl) rfl rfl) (Lq rfl (z8 [(0,1),(1,1),(2,1),(3,1),(4,1),(5,1)] [.int .i64 0,.int .i64 0,.int .i64 0,.int .i64 0,.int .i64 0,.slice none 0 0] [_,_,_,_,_,_] [(0,_),(1,_),(2,_),(3,_)] (by kernel_rfl) (by unfold Zf;kernel_rfl) rfl rfl) ?_)
        refine Le rfl (Ec (Hp.writeFull B [] g b logs count n (K+1) x.q x.pc h.cm.length x.cc h.last s' h.es (Zi h.vs) hS (endE t page slot) none 0 hokE (RdV.nil _ 0) (by omega)) Tryz.func47 rfl rfl rfl ?_)
        rintro _ _ ⟨rfl,rfl⟩
        try simp only [cA,nA]
        refine La rfl rfl (Ld (T.ret ?_))
        exact ⟨.inl rfl,_,_,res [_] rfl ⟨rvT rfl,trivial⟩,⟨rfl,rfl⟩,Wb [hpB g x.q x.pc h.cm.length x.cc h.last,stA x.q x.st,cmR x.pc h.cm.length x.cc h.cm,wlS b x.q s',plS b n logs count x.q s',Zn b s'.D] {x with s:=s'} h hi2 rfl⟩
      rw [end0 hc hv hbg h5 hcf haf hf]
      have hstep:=hi.r.endStep (by omega) hlk hc hfi hvi hcf (by omega)
      have hrc:=rc_end hi.r.ok hfi hvi (t:=t)
      have hro3:=recs_ok (hi.r.ok.write hstep) v.page
      have hrq:=congrFun hrc v.page
      simp only [rcSet,if_true] at hrq
      rw [←hrq] at hro3
      refine Tk (TS (Lm rfl rfl (Lm rfl rfl (Lq rfl (Q0 (by kernel_rfl) rfl) (Lq rfl (Ql (by kernel_rfl) rfl rfl) (Lq rfl (Qf (off:=1) (by kernel_rfl) rfl) ?_))))))
      refine Lq rfl (Ql (by kernel_rfl) rfl rfl) (Lq rfl (z8 [(0,1),(1,1),(2,1),(3,1),(4,1),(5,1)] [.int .i64 0,.int .i64 0,.int .i64 0,.int .i64 0,.int .i64 0,.slice none 0 0] [_,_,_,_,_,_] [(0,_),(1,_),(2,_),(3,_)] (by kernel_rfl) (by unfold Zf;kernel_rfl) rfl rfl) ?_)
      refine Le rfl (Ec (Hp.writeP B [] g b logs count n (K+1) x.q x.pc h.cm.length x.cc h.last s' h.es (Zi h.vs) hS (by omega) (endE t page slot) none 0 hokE (RdV.nil _ 0) (by omega) (by simp) v.page hvp.symm (by omega) _ hro3.1 hro3.2 (fun X hX gpg m=>Hp.applyEnd B X (pV g) gpg (Zi h.vs v.page) m (endE t page slot) none 0 hokE rfl v.slot hvs.symm (verB v) hrv (by rw [length_verB];omega))) Tryz.func47 rfl rfl rfl ?_)
      rintro _ _ ⟨s3,hS3,rfl,rfl⟩
      try simp only [cA,nA]
      refine La rfl rfl (Ld ?_)
      rw [hrc] at hS3
      have hi3:=hi.write hstep (by simp) (hi.r.act1 t (isAct_iff.1 hc)).2 hS3 (by omega)
      refine T.ret ?_
      exact ⟨.inl rfl,_,_,res [_] rfl ⟨rvT rfl,trivial⟩,⟨rfl,rfl⟩,Wb [hpB g x.q x.pc h.cm.length x.cc h.last,stA x.q x.st,cmR x.pc h.cm.length x.cc h.cm,wlS b x.q s3,plS b n logs count x.q s3,Zn b s3.D] {x with s:=s3} (Zg h (endE t page slot)) hi3 rfl⟩
    have hi2:HInv logs count n (K+2) s' x.st h:=⟨hS.mono (by omega),hi.r,hi.st,hi.pages,hi.room,by have:=hi.lastK;omega⟩
    obtain ⟨hn,rfl⟩:=hfd.resolve_left hfo
    have he:endR h t page slot=(h,4):=by unfold endR;rw [if_pos hc,hn]
    rw [he]
    refine Lm rfl rfl (Lq rfl (Qx rfl rfl) (Lq rfl (Qx rfl rfl) ?_))
    refine Le rfl (El [.int .i64 0,.int .i64 0,.int .i64 0,.int .i64 0,.slice none 0 0] (by unfold Zf;kernel_rfl) ?_)
    intro g7
    refine L0 rfl (Es [_,_,_,_,_] (by kernel_rfl) rfl rfl rfl rfl (by simp) ?_)
    try simp only [splice,lC,lN,dS,cA,tS,tZ,dZ,nA,aN]
    refine La rfl rfl (Ld (Ts (Ts (T.draw 17 ([hpB g x.q x.pc h.cm.length x.cc h.last,stA x.q x.st,verB5 g7 0 0 0 0 (.slice none 0 0)]) (by kernel_rfl) (nB rfl) (by kernel_rfl) (Rq 0 rfl rfl (by kernel_rfl) Sa (Qm rfl) (Rq 1 rfl rfl (by kernel_rfl) Sa (Qn rfl) (Rq 2 rfl rfl (by kernel_rfl) Sa (Q0 (by kernel_rfl) rfl) ?_)))))))
    refine Rq 3 rfl rfl (by kernel_rfl) Sa (Q0 (by kernel_rfl) rfl) (Rq 4 rfl rfl (by kernel_rfl) Sa (Ql (by kernel_rfl) rfl rfl) (Rq 5 rfl rfl (by kernel_rfl) Sa (Qf (off:=2) (by kernel_rfl) rfl) (Rq 6 rfl rfl (by kernel_rfl) Sa (Ql (by kernel_rfl) rfl rfl) (Rq 7 rfl rfl (by kernel_rfl) Sa (zT Hp.okS rfl 0 rfl 0 rfl) (Rq 8 rfl rfl (by kernel_rfl) Sa (Qm rfl) (Rq 9 rfl rfl (by kernel_rfl) Sa (Qn rfl) (Rq 10 rfl rfl (by kernel_rfl) Sa (Q0 (by kernel_rfl) rfl) ?_)))))))
    refine Rq 11 rfl rfl (by kernel_rfl) Sa (Q0 (by kernel_rfl) rfl) (Rq 12 rfl rfl (by kernel_rfl) Sa (Ql (by kernel_rfl) rfl rfl) (Rq 13 rfl rfl (by kernel_rfl) Sa (Qf (off:=3) (by kernel_rfl) rfl) (Rq 14 rfl rfl (by kernel_rfl) Sa (Ql (by kernel_rfl) rfl rfl) (Rq 15 rfl rfl (by kernel_rfl) Sa (zT Hp.okS rfl 0 rfl 0 rfl) (Rq 16 rfl rfl (by kernel_rfl) Sa (Qa rfl) (Rd0 (by rfl) ?_))))))
    simp only [dS,dZ,dN]
    refine La rfl rfl (Ld (yH (Ts (TS (Lm rfl rfl (Lq rfl (Y2 rfl) ?_))))))
    refine La rfl rfl (Ld (zF rfl (Tk (zF rfl (TS (La rfl rfl ?_))))))
    refine Ld (T.ret ?_)
    exact ⟨.inl rfl,_,_,res [_] rfl ⟨rvT rfl,trivial⟩,⟨rfl,rfl⟩,Wb [hpB g x.q x.pc h.cm.length x.cc h.last,stA x.q x.st,cmR x.pc h.cm.length x.cc h.cm,wlS b x.q s',plS b n logs count x.q s',Zn b s'.D] {x with s:=s'} h hi2 rfl⟩
  · have he:endR h t page slot=(h,70):=by unfold endR;rw [if_neg hc]
    rw [he]
    refine Ws 75 Tryz.func10 rfl rfl (nB rfl) (fun F=>?_)
    try simp only [cA,nA]
    refine TS ?_
    refine Le rfl (zL [_,_] rfl rfl ?_)
    intro g5
    refine La rfl rfl (Ld (Ts (TS (Lm rfl rfl (Lq rfl (Qn rfl) (Lq rfl (Q0 (by kernel_rfl) rfl) ?_))))))
    refine Lq rfl (Q0 (by kernel_rfl) rfl) (Lq rfl (Ql (by kernel_rfl) rfl rfl) (Lm rfl rfl (Lq rfl (zT Hp.okS rfl t rfl 0 rfl) (Lq rfl (yW rfl rfl) (Ld (zM rfl ((fun q=>hc (ha.1 q))) (Ts ?_)))))))
    refine TR (La rfl rfl (Ld (T.ret ?_)))
    exact ⟨.inl rfl,_,_,res [_] rfl ⟨rvT rfl,trivial⟩,⟨rfl,rfl⟩,Wb [hpB g x.q x.pc h.cm.length x.cc h.last,stA x.q x.st,cmR x.pc h.cm.length x.cc h.cm,wlS b x.q x.s,plS b n logs count x.q x.s,Zn b x.s.D] {x with s:=x.s} h hi1 rfl⟩
open Go.RowKit
structure VerM where
 v:Ver
 p:Option Addr
 c:Nat
 raw:List UInt8
def VerM.Ok (x:VerM):Prop:=x.raw.length=16+x.v.data.length∧x.raw.drop 16=x.v.data
abbrev vmC (x:VerM):List Value:=[.int .i64 x.v.page,.int .i64 x.v.slot,.int .i64 x.v.beg,.int .i64 x.v.fin,.slice (offA x.p x.c 16 1) x.v.data.length (x.c-16)]
abbrev vmA (x:VerM):Wp:=rB (.slice x.p (16+x.v.data.length) x.c) (16+x.v.data.length) x.raw
def vmsA (L:List VerM):Wp:=sepL (L.map vmA)
abbrev vmR (p:Option Addr) (n c:Nat) (L:List VerM):Wp:=row (.slice p n c) 139 5 n (L.flatMap vmC)
def outM (g:Nat) (L:List VerM):Wp:=exA fun pc:Option Addr×Nat=>sepL [blk g [.slice pc.1 L.length pc.2] 68,vmR pc.1 L.length pc.2 L,vmsA L]
theorem outM_ex {B:Wn} {g:Nat} {L:List VerM} {l:List Wp} (w:World) (ho:Own B w (outM g L::l)) : ∃ pc:Option Addr×Nat,Own B w (blk g [.slice pc.1 L.length pc.2] 68::vmR pc.1 L.length pc.2 L::vmsA L::l):=by
 obtain ⟨h,a,b,H⟩:=ho.has
 obtain ⟨pc,H1⟩:=Has.open_ex H
 exact ⟨pc,ho.os,ho.tape,ho.output,ho.ro,h,a,b,Has.open_sepL H1⟩
theorem outM_in {g n:Nat} {L:List VerM} {p:Option Addr} {c:Nat} (hn:n=L.length) {l:List Wp} {k:Piece} (H:Has (blk g [.slice p n c] 68::vmR p n c L::vmsA L::l) k):Has (outM g L::l) k:=by
 subst hn
 exact Has.close_ex (p,c) (Has.close_sepL (l:=[blk g [.slice p L.length c] 68,vmR p L.length c L,vmsA L]) H)
theorem vms_snoc {L:List VerM} {x:VerM} {l:List Wp} {k:Piece} (H:Has (vmA x::vmsA L::l) k):Has (vmsA (L++[x])::l) k:=by
 unfold vmsA
 rw [List.map_append]
 exact sep_pushS H
theorem vm_step {L:List VerM} {x:VerM} {p:Option Addr} {n c:Nat} {cs:List Value} (hx:cs=vmC x) {l:List Wp} {k:Piece} (H:Has (vmA x::vmsA L::row (.slice p n c) 139 5 n (L.flatMap vmC++cs)::l) k):Has (vmR p n c (L++[x])::vmsA (L++[x])::l) k:=by
 have H1:=vms_snoc H
 subst hx
 unfold vmR
 rw [List.flatMap_append,show [x].flatMap vmC=vmC x by simp]
 exact Has.swap H1
theorem Hp.elemV : ElemOk Tryz.prog 68 139 5 56 := .mk' (.agg #[.int .i64 0,.int .i64 0,.int .i64 0,.int .i64 0,.slice none 0 0]) Tryz.underlying68 (by kernel_rfl) rfl (by omega)
theorem vis_none {h:HR} {v:Ver} (hb:stN h v.beg=0):visV h v=none:=by unfold visV;rw [if_pos (stN_lost.1 hb)]
theorem vis_zero {h:HR} {v:Ver} (hb : ¬ stN h v.beg=0) (hf:stN h v.fin=0):visV h v=some {v with fin:=0}:=by
 unfold visV;rw [if_neg (fun q=>hb (stN_lost.2 q)),if_pos (stN_lost.1 hf)]
theorem vis_full {h:HR} {v:Ver} (hb : ¬ stN h v.beg=0) (hf : ¬ stN h v.fin=0):visV h v=some v:=by
 unfold visV;rw [if_neg (fun q=>hb (stN_lost.2 q)),if_neg (fun q=>hf (stN_lost.2 q))]
theorem fm_take {α β:Type} {f:α→Option β} {l:List α} {j:Nat} {a:α} (h:l[j]? = some a):(l.take (j+1)).filterMap f=(l.take j).filterMap f++(f a).toList:=by
 obtain ⟨hj,rfl⟩:=List.getElem?_eq_some_iff.1 h
 rw [List.take_succ_eq_append_getElem hj,List.filterMap_append]
 cases hf:f l[j] <;> simp [hf]
theorem Hp.all1 (B:Wn) (g gpg g4 g1 g3:Nat) (x:HpQ) (pc:Option Addr) (cc:Nat) (st:List (Int×Int)) (h:HR) (q:Nat) (m:Int) (r:RInv h) (hst:StI st h) (hlk:h.last<2^62) (L:List VerM) (hL : ∀ x∈L,x.Ok) (hLn:L.length<2^20) (hq:q<4096) :
  Fn Tryz.prog B 62 #[pV gpg,pV g4,pV g1,pV g3] (pgA gpg (Zi h.vs q) m::hpB g x pc h.cm.length cc h.last::[blk g4 [.int .i64 q] 3,blk g1 [pV g] 27,stA x st,outM g3 L])
   (fun u l=>u = .bool false ∧ ∃ L',(∀ x∈L',x.Ok)∧L'.map (·.v)=L.map (·.v)++(Zh h.vs q).filterMap (visV h)∧l=pgA gpg (Zi h.vs q) m::hpB g x pc h.cm.length cc h.last::[blk g4 [.int .i64 q] 3,blk g1 [pV g] 27,stA x st,outM g3 L']):=by
 have hpl:=pages_len r.ok q
 have hrl:(Zi h.vs q).length=(Zh h.vs q).length:=by simp [Zi]
 refine Fn.enter4 52 Tryz.func62 rfl rfl (nB rfl) (fun F=>?_)
 try simp only [cA,nA]
 refine TS (La rfl rfl (Ld (Ts (TS (Lm rfl rfl ?_)))))
 refine Le rfl (Ec (Pg.count B gpg (Zi h.vs q) m) Tryz.func46 rfl rfl rfl ?_)
 rintro _ _ ⟨rfl,rfl⟩
 try simp only [cA,nA]
 rw [hrl]
 refine Lm rfl rfl (Ld (yH ?_))
 refine T.ex (l':=fun pc2:Option Addr×Nat=>blk g3 [.slice pc2.1 L.length pc2.2] 68::vmR pc2.1 L.length pc2.2 L::vmsA L::pgA gpg (Zi h.vs q) m::hpB g x pc h.cm.length cc h.last::blk g4 [.int .i64 q] 3::blk g1 [pV g] 27::stA x st::F) (fun w ho=>outM_ex w (ho.map Sa)) (fun pc2=>?_)
 obtain ⟨p0,c0⟩:=pc2
 refine zG (fun mz fz lz => ∃ (f0:Fr) (j n2:Nat) (L2:List VerM) (p2:Option Addr) (c2:Nat),(j≤(Zh h.vs q).length∧n2=L2.length∧n2≤L.length+j∧(∀ x∈L2,x.Ok)∧L2.map (·.v)=L.map (·.v)++((Zh h.vs q).take j).filterMap (visV h))∧mz=(Zh h.vs q).length-j∧fz=(upd (upd (upd (upd (upd (upd f0 0 (pV gpg)) 1 (pV g4)) 2 (pV g1)) 3 (pV g3)) 11 (.int .i64 (Zh h.vs q).length)) 12 (.int .i64 j))∧lz=blk g3 [.slice p2 n2 c2] 68::vmR p2 n2 c2 L2::vmsA L2::pgA gpg (Zi h.vs q) m::hpB g x pc h.cm.length cc h.last::blk g4 [.int .i64 q] 3::blk g1 [pV g] 27::stA x st::F) ?_ ?_
 · refine ⟨_,_,⟨_,0,L.length,L,p0,c0,⟨Nat.zero_le _,rfl,by omega,hL,by simp⟩,rfl,(Za rfl (Za rfl (Za rfl (Za rfl (Za rfl (Za rfl rfl)))))),rfl⟩,Sa⟩
 rintro mz fz lz ⟨f0,j,n2,L2,p2,c2,⟨hj,hn2,hnb,hok2,hmap⟩,hmz,rfl,rfl⟩
 subst mz
 refine TS (Lq rfl (yM rfl rfl) (Ld (Ts ?_)))
 refine yN rfl (fun hlt=>?_) (fun hlt=>?_)
 ·
  have hjl:j<(Zh h.vs q).length:=by omega
  obtain ⟨v,hv⟩ : ∃ v,(Zh h.vs q)[j]? = some v:=⟨_,List.getElem?_eq_getElem hjl⟩
  obtain ⟨hvp,hvs⟩:=slots_page r.ok.slots q j v hv
  have hvo:=ver_ok r (mem_of_filt (List.mem_of_getElem? hv))
  have hft:=fm_take (f:=visV h) hv
  refine Tk (Ts (yH (TS (Lm rfl rfl (La rfl rfl (Ld ?_))))))
  refine TS (Lm rfl rfl (Lm rfl rfl ?_))
  refine Le rfl (Ec (Fn.own (Pg.getE B gpg (Zi h.vs q) m j j (16+v.data.length) (verB v) rfl (by unfold Zi;rw [List.getElem?_map,hv];rfl) (length_verB v))) Tryz.func63 rfl rfl rfl ?_)
  rintro _ _ ⟨⟨p1,c1,rfl,rfl⟩,w1,F1,ho1⟩
  try simp only [cA,nA]
  simp only [List.cons_append,List.nil_append] at ho1
  have hp1:=(ho1.slice_at (p:=p1) (m:=16+v.data.length) (c:=c1)).2.1
  have hc1:=ho1.cap_at (p:=p1) (m:=16+v.data.length) (c:=c1)
  clear ho1
  refine Lm rfl rfl (Lq rfl (Qx rfl rfl) (Lq rfl (Qx rfl rfl) (La rfl rfl (La rfl rfl (Ld (Ts (Ts ?_)))))))
  refine TR (Lm rfl rfl (Lq rfl (yI (e:=5) (sz:=1) (by kernel_rfl) rfl) (Lq rfl (yM rfl rfl) (Ld (yL rfl (by omega) (Tk (Ts ?_)))))))
  refine TR (Lq rfl (Ql (by kernel_rfl) rfl rfl) (Lm rfl rfl (Lm rfl rfl ?_)))
  refine Le rfl (Ec (Hp.version B [rB (.slice p1 (16+v.data.length) c1) (16+v.data.length) (verB v)] q j p1 (16+v.data.length) c1 v (RdV.rB (length_verB v) hp1) (length_verB v) hc1 ⟨by omega,by omega⟩ ⟨by omega,by omega⟩) Tryz.func64 rfl rfl rfl ?_)
  rintro _ _ ⟨rfl,rfl⟩
  try simp only [cA,nA]
  refine Le rfl (El [.int .i64 0,.int .i64 0,.int .i64 0,.int .i64 0,.slice none 0 0] (by unfold Zf;kernel_rfl) ?_)
  intro g9
  refine L0 rfl (Es [_,_,_,_,_] (by kernel_rfl) rfl rfl rfl rfl (by simp) ?_)
  try simp only [splice,lC,lN,dS,cA,tS,tZ,dZ,nA,aN]
  refine Ld (Ts (Ts ?_))
  have hbeg:(Zy st v.beg).getD 0=stN h v.beg:=hst v.beg
  have hfin:(Zy st v.fin).getD 0=stN h v.fin:=hst v.fin
  refine T.draw 9 ([hpB g x pc h.cm.length cc h.last,stA x st,blk g1 [pV g] 27,verB5 g9 q j v.beg v.fin (.slice (offA p1 c1 16 1) v.data.length (c1-16))]) (by kernel_rfl) (nB rfl) (by kernel_rfl) (Rq 0 rfl rfl (by kernel_rfl) Sa (Ql (by kernel_rfl) rfl rfl) (Rq 1 rfl rfl (by kernel_rfl) Sa (Qn rfl) (Rq 2 rfl rfl (by kernel_rfl) Sa (Q0 (by kernel_rfl) rfl) (Rq 3 rfl rfl (by kernel_rfl) Sa (Q0 (by kernel_rfl) rfl) (Rq 4 rfl rfl (by kernel_rfl) Sa (Ql (by kernel_rfl) rfl rfl) (Rq 5 rfl rfl (by kernel_rfl) Sa (Qf (off:=2) (by kernel_rfl) rfl) (Rq 6 rfl rfl (by kernel_rfl) Sa (Ql (by kernel_rfl) rfl rfl) ?_)))))))
  refine Rq 7 rfl rfl (by kernel_rfl) Sa (zT Hp.okS rfl v.beg rfl 0 rfl) (Rq 8 rfl rfl (by kernel_rfl) Sa (yU rfl rfl) (Rd0 (by rfl) ?_))
  simp only [dS,dZ,dN]
  refine Ld ?_
  by_cases hb0:stN h v.beg=0
  ·
   refine zM rfl ((by rw [hbeg];exact hb0)) (zB (TR (Lq rfl (Qd rfl rfl (Ze (by omega) (by omega))) (Lm rfl rfl (Ld ?_)))))
   refine ⟨_,?_,_,⟨_,j+1,n2,L2,p2,c2,⟨by omega,hn2,by omega,hok2,by rw [hft,vis_none hb0,hmap];simp⟩,rfl,(Za rfl (Za rfl (Za rfl (Za rfl (Za rfl (Za rfl rfl)))))),rfl⟩,Sa⟩
   omega
  refine yL rfl ((by rw [hbeg];exact hb0)) (Tk (Ts (Ts (T.draw 9 ([hpB g x pc h.cm.length cc h.last,stA x st,blk g1 [pV g] 27,verB5 g9 q j v.beg v.fin (.slice (offA p1 c1 16 1) v.data.length (c1-16))]) (by kernel_rfl) (nB rfl) (by kernel_rfl) (Rq 0 rfl rfl (by kernel_rfl) Sa (Ql (by kernel_rfl) rfl rfl) (Rq 1 rfl rfl (by kernel_rfl) Sa (Qn rfl) (Rq 2 rfl rfl (by kernel_rfl) Sa (Q0 (by kernel_rfl) rfl) ?_)))))))
  refine Rq 3 rfl rfl (by kernel_rfl) Sa (Q0 (by kernel_rfl) rfl) (Rq 4 rfl rfl (by kernel_rfl) Sa (Ql (by kernel_rfl) rfl rfl) (Rq 5 rfl rfl (by kernel_rfl) Sa (Qf (off:=3) (by kernel_rfl) rfl) (Rq 6 rfl rfl (by kernel_rfl) Sa (Ql (by kernel_rfl) rfl rfl) (Rq 7 rfl rfl (by kernel_rfl) Sa (zT Hp.okS rfl v.fin rfl 0 rfl) (Rq 8 rfl rfl (by kernel_rfl) Sa (yU rfl rfl) (Rd0 (by rfl) ?_))))))
  simp only [dS,dZ,dN]
  refine Ld ?_
  by_cases hf0:stN h v.fin=0
  ·
   refine zM rfl ((by rw [hfin];exact hf0)) (TR (Lq rfl (Qf (off:=3) (by kernel_rfl) rfl) ?_))
   refine L0 rfl (E1 (by kernel_rfl) rfl rfl rfl (by first | (simp;done) | (simp;omega)) ?_)
   try simp only [List.set_cons_zero,List.set_cons_succ]
   refine Ld (TR (Lq rfl (Ql (by kernel_rfl) rfl rfl) (Lq rfl (QL [_,_,_,_,_] (by kernel_rfl) rfl ⟨rfl,rfl,rfl,rfl,rfl,trivial⟩) ?_)))
   refine Le rfl (zK [_,_,_,_,_] (e:=139) (sz:=5) (by kernel_rfl) ⟨.agg #[.int .i64 0,.int .i64 0,.int .i64 0,.int .i64 0,.slice none 0 0],by kernel_rfl,rfl⟩ rfl rfl rfl (by omega) (by omega) ?_)
   intro g49
   refine Le rfl (Ea Hp.elemV rfl rfl (SrcOf.blk (by kernel_rfl) rfl (by simp [Value.oneCell'])) (by unfold maxLen;omega) (by omega) ?_)
   rintro p3 c3 hp3
   refine L0 rfl (E1 (by kernel_rfl) rfl rfl rfl (by first | (simp;done) | (simp;omega)) ?_)
   try simp only [List.set_cons_zero,List.set_cons_succ]
   refine Ld (TR (Lq rfl (Qd rfl rfl (Ze (by omega) (by omega))) (Lm rfl rfl (Ld ?_))))
   have hstep:=fun k=>vm_step (L:=L2) (x:=⟨{v with fin:=0},p1,c1,verB v⟩) (p:=p3) (n:=n2+1) (c:=c3) (cs:=[.int .i64 q,.int .i64 j,.int .i64 v.beg,.int .i64 0,.slice (offA p1 c1 16 1) v.data.length (c1-16)]) (by rw [←hvp,←hvs]) (l:=blk g3 [.slice p3 (n2+1) c3] 68::pgA gpg (Zi h.vs q) m::hpB g x pc h.cm.length cc h.last::blk g4 [.int .i64 q] 3::blk g1 [pV g] 27::stA x st::F) (k:=k)
   refine ⟨_,?_,_,⟨_,j+1,n2+1,L2++[⟨{v with fin:=0},p1,c1,verB v⟩],p3,c3,⟨by omega,by simp [hn2],by omega,fun y hy=>by rcases List.mem_append.1 hy with hy | hy;exact hok2 y hy;simp at hy;subst hy;exact ⟨length_verB v,ver_data v⟩,by rw [hft,vis_zero hb0 hf0,List.map_append,hmap];simp⟩,rfl,(Za rfl (Za rfl (Za rfl (Za rfl (Za rfl (Za rfl rfl)))))),rfl⟩,(fun k K=>Sa k (hstep k (Sa k K)))⟩
   omega
  refine yL rfl ((by rw [hfin];exact hf0)) (Tk (TR (Lq rfl (Ql (by kernel_rfl) rfl rfl) (Lq rfl (QL [_,_,_,_,_] (by kernel_rfl) rfl ⟨rfl,rfl,rfl,rfl,rfl,trivial⟩) ?_))))
  refine Le rfl (zK [_,_,_,_,_] (e:=139) (sz:=5) (by kernel_rfl) ⟨.agg #[.int .i64 0,.int .i64 0,.int .i64 0,.int .i64 0,.slice none 0 0],by kernel_rfl,rfl⟩ rfl rfl rfl (by omega) (by omega) ?_)
  intro g49
  refine Le rfl (Ea Hp.elemV rfl rfl (SrcOf.blk (by kernel_rfl) rfl (by simp [Value.oneCell'])) (by unfold maxLen;omega) (by omega) ?_)
  rintro p3 c3 hp3
  refine L0 rfl (E1 (by kernel_rfl) rfl rfl rfl (by first | (simp;done) | (simp;omega)) ?_)
  try simp only [List.set_cons_zero,List.set_cons_succ]
  refine Ld (TR (Lq rfl (Qd rfl rfl (Ze (by omega) (by omega))) (Lm rfl rfl (Ld ?_))))
  have hstep:=fun k=>vm_step (L:=L2) (x:=⟨v,p1,c1,verB v⟩) (p:=p3) (n:=n2+1) (c:=c3) (cs:=[.int .i64 q,.int .i64 j,.int .i64 v.beg,.int .i64 v.fin,.slice (offA p1 c1 16 1) v.data.length (c1-16)]) (by rw [←hvp,←hvs]) (l:=blk g3 [.slice p3 (n2+1) c3] 68::pgA gpg (Zi h.vs q) m::hpB g x pc h.cm.length cc h.last::blk g4 [.int .i64 q] 3::blk g1 [pV g] 27::stA x st::F) (k:=k)
  refine ⟨_,?_,_,⟨_,j+1,n2+1,L2++[⟨v,p1,c1,verB v⟩],p3,c3,⟨by omega,by simp [hn2],by omega,fun y hy=>by rcases List.mem_append.1 hy with hy | hy;exact hok2 y hy;simp at hy;subst hy;exact ⟨length_verB v,ver_data v⟩,by rw [hft,vis_full hb0 hf0,List.map_append,hmap];simp⟩,rfl,(Za rfl (Za rfl (Za rfl (Za rfl (Za rfl (Za rfl rfl)))))),rfl⟩,(fun k K=>Sa k (hstep k (Sa k K)))⟩
  omega
 obtain rfl:j=(Zh h.vs q).length:=by omega
 rw [List.take_length] at hmap
 refine zB (TS (La rfl rfl (Ld (T.ret ?_))))
 exact ⟨.inl rfl,_,_,res [_] rfl ⟨rvT rfl,trivial⟩,⟨rfl,L2,hok2,hmap,rfl⟩,(fun k K=>Sa k (outM_in hn2 (Sa (m:=blk g3 [.slice p2 n2 c2] 68::vmR p2 n2 c2 L2::vmsA L2::pgA gpg (Zi h.vs q) m::hpB g x pc h.cm.length cc h.last::blk g4 [.int .i64 q] 3::blk g1 [pV g] 27::stA x st::F) k K)))⟩
open Go.RowKit
theorem outM_start {g:Nat} {l:List Wp} {k:Piece} (K:Has (blk g [.slice none 0 0] 68::l) k):Has (outM g []::l) k:=outM_in (p:=none) (c:=0) (n:=0) rfl (Wt (fun _ K=>rowNilP (sep_nilS K)) K)
theorem vis_len {h:HR} (r:RInv h) (q:Nat):((Zh h.vs q).filterMap (visV h)).length≤15:=by
 have h1:=pages_len r.ok q
 have h2:((Zh h.vs q).filterMap (visV h)).length≤(Zh h.vs q).length:=List.length_filterMap_le _ _
 omega
theorem Hp.all (B:Wn) (g b logs count n K:Nat) (h:HR) (hK:K+count<2^29) :
  Fn Tryz.prog B 18 #[pV g] [hpA g b logs count n K h] (fun u l => ∃ L p c,(∀ x∈L,VerM.Ok x)∧L.map (·.v)=allR h∧u = .slice p L.length c∧l=[vmR p L.length c L,vmsA L,hpA g b logs count n (K+count) h]):=by
 refine Fn.openHp fun x hi hp=>?_
 simp only [hpC,List.cons_append,List.nil_append]
 have hct:=hi.cnt
 have hpg:=hi.pages
 have hlk:h.last<2^62:=by have:=hi.lastK;omega
 refine Wq 21 Tryz.func18 rfl rfl (nB rfl) (fun F=>?_)
 try simp only [cA,nA]
 refine TS ?_
 refine Le rfl (zL [_] rfl rfl ?_)
 intro g1
 refine La rfl rfl (Ld (TS ?_))
 refine Le rfl (El [.slice none 0 0] (by unfold Zf;kernel_rfl) ?_)
 intro g3
 refine Ld (Ts (TS (Lq rfl (Ql (by kernel_rfl) rfl rfl) (Lq rfl (Qn rfl) (Lq rfl (Qf (off:=4) (by kernel_rfl) rfl) (Lq rfl (Ql (by kernel_rfl) rfl rfl) ?_))))))
 refine Lq rfl (Qn rfl) (Lq rfl (Q0 (by kernel_rfl) rfl) ?_)
 refine Le rfl (Ec (Bp.pages B x.q.gp b n logs count x.s.hand x.q.gl x.s.A) Tryz.func36 rfl rfl rfl ?_)
 rintro _ _ ⟨rfl,rfl⟩
 try simp only [cA,nA]
 refine Lm rfl rfl (Ld (yH (T.conv (l':=outM g3 []::blk g1 [pV g] 27::hpB g x.q x.pc h.cm.length x.cc h.last::stA x.q x.st::cmR x.pc h.cm.length x.cc h.cm::wlS b x.q x.s::plS b n logs count x.q x.s::Zn b x.s.D::F) (fun w ho=>ho.map fun k K=>outM_start (Sa k K)) ?_)))
 refine zG (fun mz fz lz => ∃ (f0:Fr) (k:Nat) (s2:Pl) (L:List VerM),(k≤count∧SInv logs count n (K+k) s2 h.es (Zi h.vs)∧(∀ x∈L,VerM.Ok x)∧L.map (·.v)=(List.range k).flatMap (fun q=>(Zh h.vs q).filterMap (visV h))∧L.length≤15*k)∧mz=count-k∧fz=(upd (upd (upd (upd f0 1 (pV g1)) 3 (pV g3)) 11 (.int .i64 count)) 12 (.int .i64 k))∧lz=outM g3 L::blk g1 [pV g] 27::hpB g x.q x.pc h.cm.length x.cc h.last::stA x.q x.st::cmR x.pc h.cm.length x.cc h.cm::wlS b x.q s2::plS b n logs count x.q s2::Zn b s2.D::F) ?_ ?_
 · refine ⟨_,_,⟨_,0,x.s,[],⟨Nat.zero_le _,hi.s,by simp,rfl,by simp⟩,rfl,(Za rfl (Za rfl (Za rfl (Za rfl rfl)))),rfl⟩,Sa⟩
 rintro mz fz lz ⟨f0,k,s2,L,⟨hk,hs2,hok,hmap,hll⟩,hmz,rfl,rfl⟩
 subst mz
 refine TS (Lq rfl (yM rfl rfl) (Ld (Ts ?_)))
 refine yN rfl (fun hlt=>?_) (fun hlt=>?_)
 ·
  refine Tk (Ts (yH (TS (Lm rfl rfl ?_))))
  refine Le rfl (El [.int .i64 0] (by unfold Zf;kernel_rfl) ?_)
  intro g4
  refine L0 rfl (E1 (by kernel_rfl) rfl rfl rfl (by first | (simp;done) | (simp;omega)) ?_)
  try simp only [List.set_cons_zero,List.set_cons_succ]
  refine Ld (TR (Lq rfl (Ql (by kernel_rfl) rfl rfl) (Lq rfl (Ql (by kernel_rfl) rfl rfl) (Lq rfl (Y4 [_,_,_] rfl) ?_))))
  refine Le rfl (Ec (Hp.with B g b n logs count (K+k) x.q x.pc h.cm.length x.cc h.last s2 h.es (Zi h.vs) hs2 (by omega) k (by omega) k rfl 0 0 rfl (by omega) 62 Tryz.f62 [pV g4,pV g1,pV g3] [blk g4 [.int .i64 k] 3,blk g1 [pV g] 27,stA x.q x.st,outM g3 L] (fun bb r' X'=>bb=false ∧ ∃ L',(∀ x∈L',VerM.Ok x)∧L'.map (·.v)=L.map (·.v)++(Zh h.vs k).filterMap (visV h)∧X'=[blk g4 [.int .i64 k] 3,blk g1 [pV g] 27,stA x.q x.st,outM g3 L']) Tryz.func62 rfl rfl (fun gpg m=>(Hp.all1 B g gpg g4 g1 g3 x.q x.pc x.cc x.st h k m hi.r hi.st hlk L hok (by omega) (by omega)).mono (fun v l ⟨h1,L',h2,h3,h4⟩=>⟨false,_,_,⟨rfl,L',h2,h3,rfl⟩,h1,h4⟩)) (fun r' X' hh=>by obtain ⟨h1,_⟩:=hh;cases h1)) Tryz.func43 rfl rfl rfl ?_)
  rintro _ _ ⟨bb,r',X',s',⟨rfl,L',hok',hmap',rfl⟩,hS,rfl,rfl⟩
  try simp only [cA,nA]
  have hS2:SInv logs count n (K+k+1) s' h.es (Zi h.vs):=by simpa [rcSet] using hS
  have hvl:=vis_len hi.r k
  have hl':=congrArg List.length hmap'
  simp only [List.length_map,List.length_append] at hl'
  refine Ld (TR (Lq rfl (Qd rfl rfl (Ze (by omega) (by omega))) (Lm rfl rfl (Ld ?_))))
  refine ⟨_,?_,_,⟨_,k+1,s',L',⟨by omega,hS2,hok',by rw [hmap',hmap,List.range_succ,List.flatMap_append];simp,by omega⟩,rfl,(Za rfl (Za rfl (Za rfl (Za rfl rfl)))),rfl⟩,Sa⟩
  omega
 obtain rfl:k=count:=by omega
 refine T.ex (l':=fun pc2:Option Addr×Nat=>blk g3 [.slice pc2.1 L.length pc2.2] 68::vmR pc2.1 L.length pc2.2 L::vmsA L::blk g1 [pV g] 27::hpB g x.q x.pc h.cm.length x.cc h.last::stA x.q x.st::cmR x.pc h.cm.length x.cc h.cm::wlS b x.q s2::plS b n logs k x.q s2::Zn b s2.D::F) (fun w ho=>outM_ex w (ho.map Sa)) (fun pc2=>?_)
 obtain ⟨p0,c0⟩:=pc2
 have hi2:HInv logs k n (K+k) s2 x.st h:=⟨hs2,hi.r,hi.st,hi.pages,hi.room,by have:=hi.lastK;omega⟩
 refine zB (TS (Lq rfl (Ql (by kernel_rfl) rfl rfl) (La rfl rfl (Ld (T.ret ?_)))))
 exact ⟨.inl rfl,_,_,res [_] rfl ⟨rvT rfl,trivial⟩,⟨L,p0,c0,hok,by rw [hmap];unfold allR;rw [hpg],rfl,rfl⟩,(fun p K1=>Sa p (Wb (m:=hpA g b logs k n (K+k) h::vmR p0 L.length c0 L::vmsA L::F) [hpB g x.q x.pc h.cm.length x.cc h.last,stA x.q x.st,cmR x.pc h.cm.length x.cc h.cm,wlS b x.q s2,plS b n logs k x.q s2,Zn b s2.D] {x with s:=s2} h hi2 rfl p K1))⟩
open Go.RowKit
def fitsP : List Int→Int→List Int→Bool
 | _,left,[]=>decide (0≤left)
 | rooms,left,s::l=>if s<0∨184<s then false else match rooms.findIdx? (fun r=>decide (s+17≤r)) with
  | none=>false
  | some i=>fitsP (rooms.modify i (· - (s+17))) (left-(20+s)) l
theorem fitsP_neg : ∀ (l:List Int) (rooms:List Int) (left:Int),left<0→fitsP rooms left l=false
  | [],_,left,h=>by simp [fitsP];omega
  | s::l,rooms,left,h=>by
    unfold fitsP
    split
    · rfl
    · split
      · rfl
      · exact fitsP_neg l _ _ (by omega)
def roomsL (h:HR):List Int:=(List.range h.pages).map fun q=>256-(Wi h.vs q:Int)
theorem rooms_find (h:HR) (s:Int) (h0:0≤s):(roomsL h).findIdx? (fun r=>decide (s+17≤r))=roomyP h s.toNat:=by
  cases hr:roomyP h s.toNat with
  | none =>
    rw [List.findIdx?_eq_none_iff]
    intro x hx
    obtain ⟨q,hq,rfl⟩:=List.mem_map.1 hx
    have:=roomy_none hr q (by simpa using hq)
    simp;omega
  | some q =>
    obtain ⟨a,b,c⟩:=roomy_some hr
    rw [List.findIdx?_eq_some_iff_getElem]
    refine ⟨by simp [roomsL,a],?_,fun j hj=>?_⟩
    · simp [roomsL];omega
    · have:=c j hj
      simp [roomsL];omega
theorem rooms_add {h:HR} {e:En} {q:Nat} {n:Nat} (hk:e.kind=1) (hp:e.page=q) (hd:e.data.length=n):roomsL (Zg h e)=(roomsL h).modify q (· - ((n:Int)+17)):=by
  have hv:(Zg h e).vs=h.vs++[⟨e.page.toNat,e.slot.toNat,e.txn,0,e.data⟩]:=by simp [Zg,hk]
  apply List.ext_getElem?
  intro j
  rw [List.getElem?_modify]
  unfold roomsL
  show (List.map _ (List.range h.pages))[j]? = _
  simp only [List.getElem?_map,hv]
  by_cases hj:j<h.pages
  · rw [List.getElem?_range hj]
    simp only [Option.map_some]
    unfold Wi
    rw [Wc,usedV_append]
    by_cases e1:q=j
    · subst e1
      have:Zh [(⟨e.page.toNat,e.slot.toNat,e.txn,0,e.data⟩:Ver)] q=[⟨e.page.toNat,e.slot.toNat,e.txn,0,e.data⟩]:=by simp [Zh,hp]
      rw [this]
      simp [usedV,hd];omega
    · have:Zh [(⟨e.page.toNat,e.slot.toNat,e.txn,0,e.data⟩:Ver)] j=[]:=by simp [Zh,hp,e1]
      rw [this]
      simp [usedV,e1]
  · rw [List.getElem?_eq_none (by simpa using hj)]
    simp
theorem fitsA_eq : ∀ (l:List Int) (h:HR) (t:Int),Zp h t=true→((fitsA h t l).2 && decide ((fitsA h t l).1.used≤((fitsA h t l).1.room:Int)))=fitsP (roomsL h) (h.room-h.used) l
  | [],h,t,ht=>by
    simp only [fitsA,fitsP,Bool.true_and]
    exact decide_eq_decide.2 (by omega)
  | s::l,h,t,ht=>by
    unfold fitsA fitsP
    by_cases hs:s<0∨184<s
    · rw [if_pos hs,if_pos hs];rfl
    · rw [if_neg hs,if_neg hs,rooms_find h s (by omega)]
      have hl:(List.replicate s.toNat (0:UInt8)).length=s.toNat:=List.length_replicate
      have h184 : ¬ 184<s.toNat:=by omega
      cases hr:roomyP h s.toNat with
      | none =>
        have e:Wm h t (List.replicate s.toNat 0)=(h,0,0,3):=by unfold Wm;rw [if_pos ht,hl,if_neg h184,hr]
        dsimp only
        rw [e]
        simp
      | some q =>
        dsimp only
        by_cases hf:(h.room:Int)<h.used+20+(s.toNat:Int)
        · have e:Wm h t (List.replicate s.toNat 0)=(h,0,0,3):=by unfold Wm;rw [if_pos ht,hl,if_neg h184,hr];dsimp only;rw [if_pos hf]
          rw [e]
          have hneg:(h.room:Int)-h.used-(20+s)<0:=by omega
          rw [fitsP_neg _ _ _ hneg]
          simp
        · have e:Wm h t (List.replicate s.toNat 0)=(Zg h (addE h t (List.replicate s.toNat 0) q),(q:Int),((Zh h.vs q).length:Int),0):=by unfold Wm;rw [if_pos ht,hl,if_neg h184,hr];dsimp only;rw [if_neg hf]
          rw [e]
          simp only [ne_eq,not_true_eq_false,if_false]
          have hw:Zp (Zg h (addE h t (List.replicate s.toNat 0) q)) t=true:=ht
          rw [fitsA_eq l _ t hw,rooms_add (h:=h) (e:=addE h t (List.replicate s.toNat 0) q) (q:=q) (n:=s.toNat) rfl rfl hl]
          have hsz:(enSz (addE h t (List.replicate s.toNat 0) q):Int)=20+s:=by rw [enSz_eq];simp;omega
          have hu:(Zg h (addE h t (List.replicate s.toNat 0) q)).used=h.used+(20+s):=by show h.used+_=_;rw [hsz]
          rw [hu]
          show fitsP _ ((h.room:Int)-_) l=_
          congr 1
          · congr 1;funext x;omega
          · omega
theorem fits_eq {h:HR} (ends:Int) (sizes:List Int) (hu:0≤h.used):fitsR h ends sizes=(!(decide (ends<0) || decide ((h.room:Int)-h.used-25<ends)) && fitsP (roomsL h) ((h.room:Int)-h.used-25-20*ends) sizes):=by
  unfold fitsR
  by_cases h1:ends<0∨(h.room:Int)<ends
  · rw [if_pos h1]
    rcases h1 with h1 | h1
    · simp [h1]
    · have:((h.room:Int)-h.used-25<ends):=by omega
      simp [this]
  · rw [if_neg h1]
    dsimp only
    rw [fitsA_eq]
    · show fitsP (roomsL h) ((h.room:Int)-(h.used+(20*ends+25))) sizes=_
      by_cases h2:(h.room:Int)-h.used-25<ends
      · rw [fitsP_neg _ _ _ (by omega)]
        simp [h2]
      · have h3 : ¬ ends<0:=by omega
        simp only [h2,h3,decide_false,Bool.or_self,Bool.not_false,Bool.true_and]
        congr 1;omega
    · show Zp _ _=true
      unfold Zp beginR
      simp [List.contains_iff_mem]
open Go.RowKit
abbrev zR (p:Option Addr) (n c:Nat) (l:List Int):Wp:=row (.slice p n c) 3 1 n (l.map zV)
theorem Hp.elemI : ElemOk Tryz.prog 174 3 1 8 := .mk' (.int .i64 0) Tryz.underlying174 (by kernel_rfl) rfl (by omega)
theorem made_iz (n:Nat):(madeCells (Value.int .i64 0).cells (n*1)).toList=(List.replicate n (0:Int)).map zV:=by
 rw [List.map_replicate,show (Value.int .i64 0).cells=(List.replicate 1 (Value.int .i64 0)).toArray from rfl,made_replicate _ 1 _ (by omega),Nat.mul_one]
theorem Hp.fits2 (B:Wn) (g11:Nat) (s room:Int) (hs:0≤s∧s≤184):Fn Tryz.prog B 119 #[.int .i64 room,pV g11] [blk g11 [.int .i64 s] 3] (fun u l=>u = .bool (decide (s+17≤room))∧l=[blk g11 [.int .i64 s] 3]):=by
 refine Wr 8 Tryz.func119 rfl rfl (nB rfl) (fun F=>?_)
 try simp only [cA,nA]
 refine TS (La rfl rfl (Ld (TS (Lm rfl rfl (Lq rfl (Ql (by kernel_rfl) rfl rfl) ?_)))))
 refine Lq rfl (Qd rfl rfl (Ze (by omega) (by omega))) (Lq rfl (zX rfl rfl) (La rfl rfl (Ld (T.ret ?_))))
 exact ⟨.inl rfl,_,_,res [_] rfl ⟨rvT rfl,trivial⟩,⟨rfl,rfl⟩,Sa⟩
def idxI (o:Option Nat):Int:=match o with
 | none => -1
 | some i=>i
theorem Hp.index (B:Wn) (gr nR c:Nat) (R:List Int) (hR:R.length=nR) (hn:nR<2^40) (g11:Nat) (s:Int) (hs:0≤s∧s≤184) :
  Fn Tryz.prog B 118 #[.slice (some ⟨gr,0,none⟩) nR c,.func (.func 119) #[] #[pV g11]] [zR (some ⟨gr,0,none⟩) nR c R,blk g11 [.int .i64 s] 3]
   (fun u l=>u = .int .i64 (idxI (R.findIdx? fun r=>decide (s+17≤r)))∧l=[zR (some ⟨gr,0,none⟩) nR c R,blk g11 [.int .i64 s] 3]):=by
 refine Wr 19 Tryz.func118 rfl rfl (nB rfl) (fun F=>?_)
 try simp only [cA,nA]
 refine TS (La rfl rfl (Ld (Ts (TS (Lm rfl rfl ?_)))))
 refine Lq rfl (yI (e:=3) (sz:=1) (by kernel_rfl) rfl) (Lm rfl rfl (Ld (yH ?_)))
 refine zG (fun mz fz lz => ∃ (f0:Fr) (k:Nat),(k≤nR ∧ ∀ (j:Nat) (hj:j<R.length),j<k → ¬ s+17≤R[j])∧mz=nR-k∧fz=(upd (upd (upd (upd f0 0 (.slice (some ⟨gr,0,none⟩) nR c)) 1 (.func (.func 119) #[] #[pV g11])) 7 (.int .i64 nR)) 8 (.int .i64 k))∧lz=zR (some ⟨gr,0,none⟩) nR c R::blk g11 [.int .i64 s] 3::F) ?_ ?_
 · refine ⟨_,_,⟨_,0,⟨Nat.zero_le _,fun j hj h=>by omega⟩,rfl,(Za rfl (Za rfl (Za rfl (Za rfl rfl)))),rfl⟩,Sa⟩
 rintro mz fz lz ⟨f0,k,⟨hk,hno⟩,hmz,rfl,rfl⟩
 subst mz
 refine TS (Lq rfl (yM rfl rfl) (Ld (Ts ?_)))
 refine yN rfl (fun hlt=>?_) (fun hlt=>?_)
 ·
  refine Tk (Ts (yH (TS (Lm rfl rfl (La rfl rfl (Ld ?_))))))
  refine TS (Lm rfl rfl (Lm rfl rfl (Lm rfl rfl (Lq rfl (Qi _ (e:=3) (sz:=1) (by kernel_rfl) rfl rfl rfl (by omega)) (Lq rfl (Ql (by kernel_rfl) rfl (map_at _ _ _ (by omega))) ?_)))))
  refine Le rfl (ZE [zV (R[k]'(by omega))] [pV g11] (Hp.fits2 B g11 s (R[k]'(by omega)) hs) Tryz.func119 rfl rfl rfl rfl rfl ?_)
  rintro _ _ ⟨rfl,rfl⟩
  try simp only [cA,nA]
  refine Ld ?_
  refine yN rfl (fun hf=>?_) (fun hf=>?_)
  ·
   have e:(R.findIdx? fun r=>decide (s+17≤r))=some k:=by
    rw [List.findIdx?_eq_some_iff_getElem]
    exact ⟨by omega,by simpa using hf,fun j hj=>by simpa using hno j (by omega) hj⟩
   rw [e]
   refine TS (Lm rfl rfl (La rfl rfl (Ld (T.ret ?_))))
   exact ⟨.inl rfl,_,_,res [_] rfl ⟨rvT rfl,trivial⟩,⟨rfl,rfl⟩,Sa⟩
  refine Tk (TR (Lq rfl (Qd rfl rfl (Ze (by omega) (by omega))) (Lm rfl rfl (Ld ?_))))
  refine ⟨_,?_,_,⟨_,k+1,⟨by omega,fun j hj h=>by rcases Nat.lt_or_eq_of_le (Nat.lt_succ_iff.1 h) with h1 | h1;exact hno j hj h1;subst h1;exact hf⟩,rfl,(Za rfl (Za rfl (Za rfl (Za rfl rfl)))),rfl⟩,Sa⟩
  omega
 have e:(R.findIdx? fun r=>decide (s+17≤r))=none:=by
  rw [List.findIdx?_eq_none_iff]
  intro x hx
  obtain ⟨j,hj,rfl⟩:=List.getElem_of_mem hx
  simpa using hno j hj (by omega)
 rw [e]
 refine zB (TS (La rfl rfl (Ld (T.ret ?_))))
 exact ⟨.inl rfl,_,_,res [_] rfl ⟨rvT rfl,trivial⟩,⟨rfl,rfl⟩,Sa⟩
theorem Hp.fits1 (B:Wn) (A:Wp) (gpg g8 gr nR c g9:Nat) (recs:List (List UInt8)) (m:Int) (R:List Int) (hR:R.length=nR) (hn:nR<2^40) (k:Nat) (hk:k<nR) :
  Fn Tryz.prog B 117 #[pV gpg,pV g8,pV g9] (pgA gpg recs m::A::[blk g8 [.slice (some ⟨gr,0,none⟩) nR c] 174,blk g9 [.int .i64 k] 3,zR (some ⟨gr,0,none⟩) nR c R])
   (fun u l=>u = .bool false∧l=pgA gpg recs m::A::[blk g8 [.slice (some ⟨gr,0,none⟩) nR c] 174,blk g9 [.int .i64 k] 3,zR (some ⟨gr,0,none⟩) nR c (R.set k (243-(ZO recs:Int)))]):=by
 refine Ws 10 Tryz.func117 rfl rfl (nB rfl) (fun F=>?_)
 try simp only [cA,nA]
 refine TS (La rfl rfl (Ld (Ts (T.draw 4 ([blk g8 [.slice (some ⟨gr,0,none⟩) nR c] 174,blk g9 [.int .i64 k] 3]) (by kernel_rfl) (nB rfl) (by kernel_rfl) (Rq 0 rfl rfl (by kernel_rfl) Sa (Ql (by kernel_rfl) rfl rfl) (Rq 1 rfl rfl (by kernel_rfl) Sa (Ql (by kernel_rfl) rfl rfl) ?_))))))
 refine Rq 2 rfl rfl (by kernel_rfl) Sa (Qm rfl) (yK 3 (by kernel_rfl) ?_)
 refine z6 rfl rfl (Ec (Pg.left B gpg recs m) Tryz.func98 rfl rfl rfl ?_)
 rintro _ _ ⟨rfl,rfl⟩
 try simp only [cA,nA]
 refine ⟨Sa,?_⟩
 refine Rd0 (by rfl) ?_
 simp only [dS,dZ,dN]
 refine Lq rfl (Qi _ (e:=3) (sz:=1) (by kernel_rfl) rfl rfl rfl (by omega)) ?_
 refine L0 rfl (E1 (by kernel_rfl) rfl rfl rfl (by first | (simp;done) | (simp;omega)) ?_)
 refine Ld (TS (La rfl rfl (Ld ?_)))
 rw [set_map zV]
 refine T.ret ?_
 exact ⟨.inl rfl,_,_,res [_] rfl ⟨rvT rfl,trivial⟩,⟨rfl,rfl⟩,Sa⟩
end Go.Proofs.YtfjjgdnepfgnhaaGreatDoor
