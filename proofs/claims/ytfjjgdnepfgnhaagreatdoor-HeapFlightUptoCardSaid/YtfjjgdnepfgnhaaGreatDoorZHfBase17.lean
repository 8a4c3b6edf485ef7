/- The texts HdF HdG HdH HdI HdJ HdK HlA HlB HpH HlF, one behind the other: what the law leans on. Conditions: as each theorem says. -/
import Derived.Test.YtfjjgdnepfgnhaaGreatDoorZHfBase16
set_option linter.unusedSimpArgs false
set_option linter.unusedVariables false
set_option maxRecDepth 100000
set_option maxHeartbeats 16000000
namespace Go.Proofs.YtfjjgdnepfgnhaaGreatDoor
open Go.RowKit
theorem c8_at {l:List (Int×Int)} {j:Nat} {c:Int×Int} (h:l[j]? = some c):(l.flatMap stC)[0+j*2+1]? = some (.int .i64 c.2):=by
 obtain ⟨hj,hc⟩:=List.getElem?_eq_some_iff.1 h
 exact flat_cell stC 2 l (fun _ _=>rfl) j 1 hj (v := .int .i64 c.2) (by rw [hc];rfl)
theorem withoutK {h:HR} {m:Nat} (k:HrK h m) (t:Int):HrK (Zo h t) m:=⟨⟨k.s.v,Nat.le_trans (List.length_filter_le _ _) k.s.a,k.s.c,k.s.e⟩,k.m,k.r.without t,k.pages,k.room,k.last⟩
theorem Hr.commit (B:Wn) (q:HrQ) (h:HR) (m:Nat) (k:HrK h m) (t s:Int):Fn Tryz.prog B 31 #[hrV q h,.int .i64 t,.int .i64 s] (hrL q h) (fun u l => ∃ q',u = .tuple #[hrV q' (Zl h t s).1,.int .i64 (Zl h t s).2]∧l=hrL q' (Zl h t s).1):=by
  have s1:=k.s.v
  have s2:=k.s.a
  have s3:=k.s.c
  have hm:=k.m
  have hrmb:=k.room
  obtain ⟨hu0,hu1⟩:=k.used
  by_cases ha:Zp h t=true
  · by_cases hb:badStamp h s=true
    · rw [show Zl h t s=(h,1) by unfold Zl;rw [if_pos ha,if_pos hb]]
      unfold badStamp at hb
      simp only [Bool.or_eq_true,decide_eq_true_eq] at hb
      refine Ws 53 Tryz.func31 rfl rfl (nB rfl) (fun F=>?_)
      try simp only [cA,nA]
      refine TS ?_
      refine Le rfl (zL [_,_,_,_,_,_,_,_] rfl rfl ?_)
      intro g3
      refine Le rfl (El [.int .i64 0,.int .i64 0,.int .i64 0,.slice none 0 0,.slice none 0 0,.slice none 0 0,.int .i64 0,.slice none 0 0] (by unfold Zf;kernel_rfl) ?_)
      intro g6
      refine La rfl rfl (Ld (Ts (TS (Lq rfl (QL [_,_,_,_,_,_,_,_] (by kernel_rfl) rfl ⟨rfl,rfl,rfl,rfl,rfl,rfl,rfl,rfl,trivial⟩) (Lm rfl rfl ?_)))))
      refine Le rfl (Ec (Hr.isActive B q h t (by omega)) Tryz.func82 rfl rfl rfl ?_)
      rintro _ _ ⟨rfl,rfl⟩
      try simp only [cA,nA]
      rw [ha]
      refine Lq rfl (Y2 rfl) (Ld (yQ rfl ?_))
      by_cases h1:s<0
      · skip
        refine Tk (TS (Lq rfl (Qf (off:=5) (by kernel_rfl) rfl) (Lq rfl (Ql (by kernel_rfl) rfl rfl) (Lq rfl (yI (e:=196) (sz:=2) (by kernel_rfl) rfl) (La rfl rfl (Ld ?_))))))
        refine Ts (TS (Lm rfl rfl (Lq rfl (yM rfl rfl) (Lm rfl rfl (zQ (t:=19) rfl (decide_eq_true (by omega)) (Ls rfl ?_))))))
        refine Ls rfl (Lq rfl (Qp rfl rfl) (Lm rfl rfl (zQ (t:=23) rfl rfl (Ls rfl (Ls rfl (Ls rfl (Ls rfl ?_)))))))
        refine Ls rfl (Ls rfl (Ls rfl (Ls rfl (Ls rfl (Ls rfl (Ls rfl (Ls rfl ?_)))))))
        refine Ls rfl (Lq rfl (Qp rfl rfl) (Ld (zF rfl (TS (Lq rfl (QL [_,_,_,_,_,_,_,_] (by kernel_rfl) rfl ⟨rfl,rfl,rfl,rfl,rfl,rfl,rfl,rfl,trivial⟩) ?_)))))
        refine L0 rfl (Es [_,_,_,_,_,_,_,_] (by kernel_rfl) rfl rfl rfl rfl (by simp) ?_)
        try simp only [splice,lC,lN,dS,cA,tS,tZ,dZ,nA,aN]
        refine La rfl rfl (Ld (T.ret ?_))
        exact ⟨.inl rfl,_,_,res [_,_] rfl ⟨rvA [_,_,_,_,_,_,_,_] (by kernel_rfl) rfl ⟨rfl,rfl,rfl,rfl,rfl,rfl,rfl,rfl,trivial⟩,rvT rfl,trivial⟩,⟨q,rfl,rfl⟩,Sa⟩
      refine Tk (TS (Lq rfl (Qf (off:=5) (by kernel_rfl) rfl) (Lq rfl (Ql (by kernel_rfl) rfl rfl) (Lq rfl (yI (e:=196) (sz:=2) (by kernel_rfl) rfl) (La rfl rfl (Ld ?_))))))
      refine Ts (TS (Lm rfl rfl (Lq rfl (yM rfl rfl) (Lm rfl rfl (yT (t:=19) rfl (decide_eq_false (by omega)) (Lm rfl rfl ?_))))))
      refine Lq rfl (yZ rfl rfl) (Lq rfl (Qp rfl rfl) (Lm rfl rfl ?_))
      by_cases h2:1099511627776<s
      · skip
        refine zQ (t:=23) rfl (decide_eq_true (by omega)) (Ls rfl (Ls rfl (Ls rfl (Ls rfl (Ls rfl (Ls rfl (Ls rfl ?_)))))))
        refine Ls rfl (Ls rfl (Ls rfl (Ls rfl (Ls rfl (Ls rfl (Lq rfl (Qp rfl rfl) (Ld ?_)))))))
        refine zF rfl (TS (Lq rfl (QL [_,_,_,_,_,_,_,_] (by kernel_rfl) rfl ⟨rfl,rfl,rfl,rfl,rfl,rfl,rfl,rfl,trivial⟩) ?_))
        refine L0 rfl (Es [_,_,_,_,_,_,_,_] (by kernel_rfl) rfl rfl rfl rfl (by simp) ?_)
        try simp only [splice,lC,lN,dS,cA,tS,tZ,dZ,nA,aN]
        refine La rfl rfl (Ld (T.ret ?_))
        exact ⟨.inl rfl,_,_,res [_,_] rfl ⟨rvA [_,_,_,_,_,_,_,_] (by kernel_rfl) rfl ⟨rfl,rfl,rfl,rfl,rfl,rfl,rfl,rfl,trivial⟩,rvT rfl,trivial⟩,⟨q,rfl,rfl⟩,Sa⟩
      obtain ⟨c,hcl2,hcs⟩ : ∃ c,h.cm.getLast? = some c∧s≤c.2:=by
        cases hg:h.cm.getLast? with
        | none=>rw [hg] at hb;simp at hb;omega
        | some c=>rw [hg] at hb;simp at hb;exact ⟨c,rfl,by omega⟩
      have hne:0<h.cm.length:=by cases hq:h.cm with | nil=>rw [hq] at hcl2;cases hcl2 | cons a l=>simp
      have hlast:h.cm[h.cm.length-1]? = some c:=by rw [←List.getLast?_eq_getElem?];exact hcl2
      obtain ⟨pv,cv,pa,ca,pc,cc,pe,ce⟩:=q
      refine LW.own fun w ho=>?_
      obtain ⟨gv,rfl⟩ : ∃ g,pc=some ⟨g,0,none⟩:=((ho.map Sa:Own B w [c8R pc h.cm.length cc h.cm]).slice_at (p:=pc) (m:=h.cm.length) (c:=cc)).2.1 hne
      clear ho
      refine yT (t:=23) rfl (decide_eq_false (by omega)) (Lm rfl rfl (Lq rfl (yZ rfl rfl) (Lm rfl rfl (zQ (t:=26) rfl (decide_eq_true (by omega)) (Lm rfl rfl (Lq rfl (Qf (off:=5) (by kernel_rfl) rfl) (Lq rfl (Ql (by kernel_rfl) rfl rfl) ?_)))))))
      refine Lm rfl rfl (Lq rfl (Qt.sub rfl rfl (Ze (by omega) (by omega))) (Lq rfl (Qi (h.cm.length-1) (e:=196) (sz:=2) (by kernel_rfl) rfl rfl (by omega) (by omega)) (Lq rfl (Qf (off:=1) (by kernel_rfl) rfl) (Lq rfl (Ql (v := .int .i64 c.2) (by kernel_rfl) rfl (c8_at hlast)) (Lq rfl (YF rfl rfl) (Lq rfl (Qp rfl rfl) (Lq rfl (Qp rfl rfl) ?_)))))))
      refine Ld (zM rfl (by omega) (TS (Lq rfl (QL [_,_,_,_,_,_,_,_] (by kernel_rfl) rfl ⟨rfl,rfl,rfl,rfl,rfl,rfl,rfl,rfl,trivial⟩) ?_)))
      refine L0 rfl (Es [_,_,_,_,_,_,_,_] (by kernel_rfl) rfl rfl rfl rfl (by simp) ?_)
      try simp only [splice,lC,lN,dS,cA,tS,tZ,dZ,nA,aN]
      refine La rfl rfl (Ld (T.ret ?_))
      exact ⟨.inl rfl,_,_,res [_,_] rfl ⟨rvA [_,_,_,_,_,_,_,_] (by kernel_rfl) rfl ⟨rfl,rfl,rfl,rfl,rfl,rfl,rfl,rfl,trivial⟩,rvT rfl,trivial⟩,⟨⟨pv,cv,pa,ca,some ⟨gv,0,none⟩,cc,pe,ce⟩,rfl,rfl⟩,Sa⟩
    · have hb:badStamp h s=false:=by simpa using hb
      have hb2:=hb
      unfold badStamp at hb2
      simp only [Bool.or_eq_false_iff,decide_eq_false_iff_not] at hb2
      obtain ⟨⟨z1,z2⟩,z3⟩:=hb2
      refine Ws 53 Tryz.func31 rfl rfl (nB rfl) (fun F=>?_)
      try simp only [cA,nA]
      refine TS ?_
      refine Le rfl (zL [_,_,_,_,_,_,_,_] rfl rfl ?_)
      intro g3
      refine Le rfl (El [.int .i64 0,.int .i64 0,.int .i64 0,.slice none 0 0,.slice none 0 0,.slice none 0 0,.int .i64 0,.slice none 0 0] (by unfold Zf;kernel_rfl) ?_)
      intro g6
      refine La rfl rfl (Ld (Ts (TS (Lq rfl (QL [_,_,_,_,_,_,_,_] (by kernel_rfl) rfl ⟨rfl,rfl,rfl,rfl,rfl,rfl,rfl,rfl,trivial⟩) (Lm rfl rfl ?_)))))
      refine Le rfl (Ec (Hr.isActive B q h t (by omega)) Tryz.func82 rfl rfl rfl ?_)
      rintro _ _ ⟨rfl,rfl⟩
      try simp only [cA,nA]
      rw [ha]
      refine Lq rfl (Y2 rfl) (Ld (yQ rfl ?_))
      obtain ⟨pv,cv,pa,ca,pc,cc,pe,ce⟩:=q
      refine Tk (TS (Lq rfl (Qf (off:=5) (by kernel_rfl) rfl) (Lq rfl (Ql (by kernel_rfl) rfl rfl) (Lq rfl (yI (e:=196) (sz:=2) (by kernel_rfl) rfl) (La rfl rfl (Ld ?_))))))
      refine T.cut (fun fz lz => ∃ (f0:Fr) (z:Nat),(True)∧fz=(upd (upd (upd (upd f0 1 (.int .i64 t)) 2 (.int .i64 s)) 3 (.pointer (some ⟨g3,0,none⟩))) 6 (.pointer (some ⟨g6,0,none⟩)))∧lz=blk g6 hr0 81::blk g3 (hrC ⟨pv,cv,pa,ca,pc,cc,pe,ce⟩ h) 81::hrL ⟨pv,cv,pa,ca,pc,cc,pe,ce⟩ h++F) ?_ ?_
      · skip
        refine TS (Lm rfl rfl (Lq rfl (yM rfl rfl) (Lm rfl rfl (yT (t:=19) rfl (decide_eq_false (by omega)) (Lm rfl rfl (Lq rfl (yZ rfl rfl) ?_))))))
        refine Lq rfl (Qp rfl rfl) (Lm rfl rfl (yT (t:=23) rfl (decide_eq_false (by omega)) (Lm rfl rfl (Lq rfl (yZ rfl rfl) (Lm rfl rfl ?_)))))
        by_cases hne:0<h.cm.length
        · skip
          obtain ⟨c,hcl2⟩ : ∃ c,h.cm.getLast? = some c:=by
            cases hg:h.cm with
            | nil=>rw [hg] at hne;simp at hne
            | cons a l=>exact ⟨_,List.getLast?_eq_some_getLast (by simp)⟩
          have hlast:h.cm[h.cm.length-1]? = some c:=by rw [←List.getLast?_eq_getElem?];exact hcl2
          have hcs : ¬ s≤c.2:=by rw [hcl2] at z3;simpa using z3
          refine LW.own fun w ho=>?_
          obtain ⟨gv,rfl⟩ : ∃ g,pc=some ⟨g,0,none⟩:=((ho.map Sa:Own B w [c8R pc h.cm.length cc h.cm]).slice_at (p:=pc) (m:=h.cm.length) (c:=cc)).2.1 hne
          clear ho
          refine zQ (t:=26) rfl (decide_eq_true (by omega)) (Lm rfl rfl (Lq rfl (Qf (off:=5) (by kernel_rfl) rfl) (Lq rfl (Ql (by kernel_rfl) rfl rfl) (Lm rfl rfl (Lq rfl (Qt.sub rfl rfl (Ze (by omega) (by omega))) (Lq rfl (Qi (h.cm.length-1) (e:=196) (sz:=2) (by kernel_rfl) rfl rfl (by omega) (by omega)) (Lq rfl (Qf (off:=1) (by kernel_rfl) rfl) ?_)))))))
          refine Lq rfl (Ql (v := .int .i64 c.2) (by kernel_rfl) rfl (c8_at hlast)) (Lq rfl (YF rfl rfl) (Lq rfl (Qp rfl rfl) (Lq rfl (Qp rfl rfl) (Ld (yL rfl (by omega) (Tk ?_))))))
          exact ⟨_,⟨_,0,trivial,(Za rfl (Za rfl (Za rfl (Za rfl rfl)))),rfl⟩,Sa⟩
        refine yT (t:=26) rfl (decide_eq_false (by omega)) (Ls rfl (Ls rfl (Ls rfl (Ls rfl (Ls rfl (Ls rfl (Ls rfl ?_)))))))
        refine Ls rfl (Ls rfl (Lq rfl (Qp rfl rfl) (Lq rfl (Qp rfl rfl) (Ld (yQ rfl (Tk ?_))))))
        exact ⟨_,⟨_,0,trivial,(Za rfl (Za rfl (Za rfl (Za rfl rfl)))),rfl⟩,Sa⟩
      rintro fz lz ⟨f0,z,_,rfl,rfl⟩
      try simp only [cA,nA]
      by_cases hf:(h.room:Int)<h.used+25
      · skip
        rw [show Zl h t s=(h,3) by unfold Zl;rw [if_pos ha,if_neg (by simp [hb]),if_pos hf]]
        refine Ts (TS (Lq rfl (Qf (off:=2) (by kernel_rfl) rfl) (Lq rfl (Ql (by kernel_rfl) rfl rfl) (Lq rfl (Qd rfl rfl (Ze (by omega) (by omega))) (Lq rfl (Qf (off:=1) (by kernel_rfl) rfl) (Lq rfl (Ql (by kernel_rfl) rfl rfl) ?_))))))
        refine Lq rfl (yZ rfl rfl) (Ld (zM rfl (by omega) (TS (Lq rfl (QL [_,_,_,_,_,_,_,_] (by kernel_rfl) rfl ⟨rfl,rfl,rfl,rfl,rfl,rfl,rfl,rfl,trivial⟩) ?_))))
        refine L0 rfl (Es [_,_,_,_,_,_,_,_] (by kernel_rfl) rfl rfl rfl rfl (by simp) ?_)
        try simp only [splice,lC,lN,dS,cA,tS,tZ,dZ,nA,aN]
        refine La rfl rfl (Ld (T.ret ?_))
        exact ⟨.inl rfl,_,_,res [_,_] rfl ⟨rvA [_,_,_,_,_,_,_,_] (by kernel_rfl) rfl ⟨rfl,rfl,rfl,rfl,rfl,rfl,rfl,rfl,trivial⟩,rvT rfl,trivial⟩,⟨⟨pv,cv,pa,ca,pc,cc,pe,ce⟩,rfl,rfl⟩,Sa⟩
      rw [hCm_ok ha hb (by omega)]
      refine Ts (TS (Lq rfl (Qf (off:=2) (by kernel_rfl) rfl) (Lq rfl (Ql (by kernel_rfl) rfl rfl) (Lq rfl (Qd rfl rfl (Ze (by omega) (by omega))) (Lq rfl (Qf (off:=1) (by kernel_rfl) rfl) (Lq rfl (Ql (by kernel_rfl) rfl rfl) ?_))))))
      refine Lq rfl (yZ rfl rfl) (Ld (yL rfl (by omega) (Tk (TS (Lq rfl (QL [_,_,_,_,_,_,_,_] (by kernel_rfl) rfl ⟨rfl,rfl,rfl,rfl,rfl,rfl,rfl,rfl,trivial⟩) (Lm rfl rfl ?_))))))
      refine Le rfl (Ec (Hr.without B ⟨pv,cv,pa,ca,pc,cc,pe,ce⟩ h t m k.s k.m) Tryz.func85 rfl rfl rfl ?_)
      rintro _ _ ⟨q1,rfl,rfl⟩
      try simp only [cA,nA]
      refine Lm rfl rfl (Lm rfl rfl (Lq rfl (z8 [(0,1),(1,1),(2,1),(3,1),(4,1),(5,1)] [.int .i64 0,.int .i64 0,.int .i64 0,.int .i64 0,.int .i64 0,.string .empty] [_,_,_,_,_,_] [(0,_),(1,_),(4,_)] (by kernel_rfl) (by unfold Zf;kernel_rfl) rfl rfl) ?_))
      refine Le rfl (Ec (Hr.write B q1 (Zo h t) ⟨3,t,0,0,s,[]⟩ m (withoutK k t).s k.m (by show 0≤h.used∧h.used<_;omega) (.inr (.inr rfl)) ⟨Int.le_refl _,Int.le_refl _⟩ (fun _=>rfl) (by simp) (fun e=>by cases e)) Tryz.func79 rfl rfl rfl ?_)
      rintro _ _ ⟨q2,rfl,rfl⟩
      try simp only [cA,nA]
      refine L0 rfl (Es [_,_,_,_,_,_,_,_] (by kernel_rfl) rfl rfl rfl rfl (by simp) ?_)
      try simp only [splice,lC,lN,dS,cA,tS,tZ,dZ,nA,aN]
      refine La rfl rfl (Ld (T.ret ?_))
      exact ⟨.inl rfl,_,_,res [_,_] rfl ⟨rvA [_,_,_,_,_,_,_,_] (by kernel_rfl) rfl ⟨rfl,rfl,rfl,rfl,rfl,rfl,rfl,rfl,trivial⟩,rvT rfl,trivial⟩,⟨q2,rfl,rfl⟩,Sa⟩
  · rw [show Zl h t s=(h,70) by unfold Zl;rw [if_neg ha]]
    rw [Bool.not_eq_true] at ha
    refine Ws 53 Tryz.func31 rfl rfl (nB rfl) (fun F=>?_)
    try simp only [cA,nA]
    refine TS ?_
    refine Le rfl (zL [_,_,_,_,_,_,_,_] rfl rfl ?_)
    intro g3
    refine Le rfl (El [.int .i64 0,.int .i64 0,.int .i64 0,.slice none 0 0,.slice none 0 0,.slice none 0 0,.int .i64 0,.slice none 0 0] (by unfold Zf;kernel_rfl) ?_)
    intro g6
    refine La rfl rfl (Ld (Ts (TS (Lq rfl (QL [_,_,_,_,_,_,_,_] (by kernel_rfl) rfl ⟨rfl,rfl,rfl,rfl,rfl,rfl,rfl,rfl,trivial⟩) (Lm rfl rfl ?_)))))
    refine Le rfl (Ec (Hr.isActive B q h t (by omega)) Tryz.func82 rfl rfl rfl ?_)
    rintro _ _ ⟨rfl,rfl⟩
    try simp only [cA,nA]
    rw [ha]
    refine Lq rfl (Y2 rfl) (Ld (zF rfl (TS (Lq rfl (QL [_,_,_,_,_,_,_,_] (by kernel_rfl) rfl ⟨rfl,rfl,rfl,rfl,rfl,rfl,rfl,rfl,trivial⟩) ?_))))
    refine L0 rfl (Es [_,_,_,_,_,_,_,_] (by kernel_rfl) rfl rfl rfl rfl (by simp) ?_)
    try simp only [splice,lC,lN,dS,cA,tS,tZ,dZ,nA,aN]
    refine La rfl rfl (Ld (T.ret ?_))
    exact ⟨.inl rfl,_,_,res [_,_] rfl ⟨rvA [_,_,_,_,_,_,_,_] (by kernel_rfl) rfl ⟨rfl,rfl,rfl,rfl,rfl,rfl,rfl,rfl,trivial⟩,rvT rfl,trivial⟩,⟨q,rfl,rfl⟩,Sa⟩
theorem Hr.new (B:Wn) (N logs:Nat) (a b:Int) (ha:a=N) (hb:b=logs) (hl:logs≤N) (hN:N≤4096):Fn Tryz.prog B 21 #[.int .i64 a,.int .i64 b] [] (fun u l => ∃ q,u=hrV q (newR (N-logs) (logs*256))∧l=hrL q (newR (N-logs) (logs*256))):=by
 subst ha;subst hb
 refine Wr 11 Tryz.func21 rfl rfl (nB rfl) (fun F=>?_)
 try simp only [cA,nA]
 refine TS ?_
 refine Le rfl (El [.int .i64 0,.int .i64 0,.int .i64 0,.slice none 0 0,.slice none 0 0,.slice none 0 0,.int .i64 0,.slice none 0 0] (by unfold Zf;kernel_rfl) ?_)
 intro g4
 refine Ld (TS (Lm rfl rfl (Lm rfl rfl (Lq rfl (Qt.sub rfl rfl (Ze (by omega) (by omega))) (Lm rfl rfl (Lq rfl (YG rfl rfl (Ze (by omega) (by omega))) ?_))))))
 refine Lq rfl (z8 [(0,1),(1,1),(2,1),(3,1),(4,1),(5,1),(6,1),(7,1)] [.int .i64 0,.int .i64 0,.int .i64 0,.slice none 0 0,.slice none 0 0,.slice none 0 0,.int .i64 0,.slice none 0 0] [_,_,_,_,_,_,_,_] [(0,_),(1,_)] (by kernel_rfl) (by unfold Zf;kernel_rfl) rfl rfl) ?_
 refine L0 rfl (Es [_,_,_,_,_,_,_,_] (by kernel_rfl) rfl rfl rfl rfl (by simp) ?_)
 try simp only [splice,lC,lN,dS,cA,tS,tZ,dZ,nA,aN]
 refine Ld ?_
 rw [show (N:Int)-logs=((N-logs:Nat):Int) by omega,show (logs:Int)*256=((logs*256:Nat):Int) by omega]
 refine T.conv (l':=hrL ⟨none,0,none,0,none,0,none,0⟩ (newR (N-logs) (logs*256))++_) (fun w ho=>(((ho.row_nil _ _).row_nil _ _).row_nil _ _).row_nil _ _) (T.ret ?_)
 exact ⟨.inl rfl,_,_,res [_] rfl ⟨rvA [_,_,_,_,_,_,_,_] (by kernel_rfl) rfl ⟨rfl,rfl,rfl,rfl,rfl,rfl,rfl,rfl,trivial⟩,trivial⟩,⟨⟨none,0,none,0,none,0,none,0⟩,rfl,rfl⟩,Sa⟩
open Go.RowKit
theorem all_next (h:HR) (p:Nat):(List.range (p+1)).flatMap (fun q=>(Zh h.vs q).filterMap (visV h))=(List.range p).flatMap (fun q=>(Zh h.vs q).filterMap (visV h))++(Zh h.vs p).filterMap (visV h):=by
 rw [List.range_succ,List.flatMap_append];simp
theorem Hr.all (B:Wn) (q:HrQ) (h:HR) (m:Nat) (k:HrK h m):Fn Tryz.prog B 29 #[hrV q h] (hrL q h) (fun u l => ∃ p c,u = .slice p (allR h).length c∧l=verR p (allR h).length c (allR h)::hrL q h):=by
 have s1:=k.s.v
 have s2:=k.s.a
 have s3:=k.s.c
 have hm:=k.m
 have hpg:=k.pages
 have hlen:=all_len k.r.ok
 obtain ⟨pv,cv,pa,ca,pc,cc,pe,ce⟩:=q
 dsimp only [hrV,hrL]
 refine Wq 59 Tryz.func29 rfl rfl (nB rfl) (fun F=>?_)
 try simp only [cA,nA]
 refine T.own fun w ho=>?_
 have hp:0<h.vs.length → ∃ g,pv=some ⟨g,0,none⟩:=((ho.map Sa:Own B w [verR pv h.vs.length cv h.vs]).slice_at (p:=pv) (m:=h.vs.length) (c:=cv)).2.1
 clear ho
 refine TS ?_
 refine Le rfl (zL [_,_,_,_,_,_,_,_] rfl rfl ?_)
 intro g1
 refine La rfl rfl (Ld (TS (La rfl rfl (Ld (Ts (Ts ?_))))))
 refine TR (La rfl rfl (Ld (yH (T.conv (l':=verR none 0 0 []::_) (fun w ho=>ho.row_nil _ _) ?_))))
 refine zG (fun mz fz lz => ∃ (f0:Fr) (p:Nat) (out:List Ver) (po:Option Addr) (co n:Nat),(p≤h.pages∧out=(List.range p).flatMap (fun q=>(Zh h.vs q).filterMap (visV h))∧out.length=n∧n≤14*p)∧mz=h.pages-p∧fz=(upd (upd (upd f0 1 (.pointer (some ⟨g1,0,none⟩))) 3 (.slice po n co)) 4 (.int .i64 p))∧lz=verR po n co out::blk g1 (hrC ⟨pv,cv,pa,ca,pc,cc,pe,ce⟩ h) 81::hrL ⟨pv,cv,pa,ca,pc,cc,pe,ce⟩ h++F) ?_ ?_
 · refine ⟨_,_,⟨_,0,[],none,0,0,⟨Nat.zero_le _,rfl,rfl,Nat.le_refl _⟩,rfl,(Za rfl (Za rfl (Za rfl rfl))),rfl⟩,Sa⟩
 rintro mz fz lz ⟨f0,p,out,po,co,n,⟨hpp,ho0,hn,hn14⟩,hmz,rfl,rfl⟩
 subst mz
 try simp only [cA,nA]
 refine Ts (TS (Lm rfl rfl (Lq rfl (Q0 (by kernel_rfl) rfl) (Lq rfl (Ql (by kernel_rfl) rfl rfl) (Lq rfl (yM rfl rfl) (Ld ?_))))))
 refine yN rfl (fun hlt=>?_) (fun hlt=>?_)
 ·
  have hl14:=pages_len k.r.ok p
  refine Tk (Ts (yH (TS (La rfl rfl (Ld (yH ?_))))))
  refine zG (fun mz fz lz => ∃ (f0:Fr) (s:Nat) (out:List Ver) (po:Option Addr) (co n:Nat),(s≤(Zh h.vs p).length∧out=(List.range p).flatMap (fun q=>(Zh h.vs q).filterMap (visV h))++((Zh h.vs p).take s).filterMap (visV h)∧out.length=n∧n≤14*p+s)∧mz=256-s∧fz=(upd (upd (upd (upd f0 1 (.pointer (some ⟨g1,0,none⟩))) 3 (.slice po n co)) 4 (.int .i64 p)) 5 (.int .i64 s))∧lz=verR po n co out::blk g1 (hrC ⟨pv,cv,pa,ca,pc,cc,pe,ce⟩ h) 81::hrL ⟨pv,cv,pa,ca,pc,cc,pe,ce⟩ h++F) ?_ ?_
  · refine ⟨_,_,⟨_,0,out,po,co,n,⟨Nat.zero_le _,by simp [ho0],hn,by omega⟩,rfl,(Za rfl (Za rfl (Za rfl (Za rfl rfl)))),rfl⟩,Sa⟩
  rintro mz fz lz ⟨f0,s,out,po,co,n,⟨hs,ho,hn,hns⟩,hmz,rfl,rfl⟩
  subst mz
  try simp only [cA,nA]
  refine Ts (TS (Lm rfl rfl (Lq rfl (yM rfl rfl) (Ld (zM rfl (by omega) (Tk ?_))))))
  refine Ts (yH (TS (Lq rfl (QL [_,_,_,_,_,_,_,_] (by kernel_rfl) rfl ⟨rfl,rfl,rfl,rfl,rfl,rfl,rfl,rfl,trivial⟩) (Lm rfl rfl (Lm rfl rfl ?_)))))
  refine Le rfl (Ec (Hr.find B ⟨pv,cv,pa,ca,pc,cc,pe,ce⟩ h p s (by omega)) Tryz.func81 rfl rfl rfl ?_)
  rintro _ _ ⟨rfl,rfl⟩
  try simp only [cA,nA]
  refine La rfl rfl (Ld (Ts (TS (Lm rfl rfl (Lq rfl (yM rfl rfl) (Ld ?_))))))
  have hfp:=findV_page k.r.ok.slots p s
  rw [if_pos ⟨by omega,by omega⟩,Int.toNat_natCast,Int.toNat_natCast] at hfp
  by_cases hi:We h.vs p s=none
  ·
   rw [hi]
   rw [hi] at hfp
   have hse:s=(Zh h.vs p).length:=by have:=List.getElem?_eq_none_iff.1 hfp.symm;omega
   rw [hse,List.take_length] at ho
   refine zF rfl (zB (TR (Lm rfl rfl (Lq rfl (Qd rfl rfl (Ze (by omega) (by omega))) (La rfl rfl (Ld ?_))))))
   refine ⟨_,?_,_,⟨_,p+1,out,po,co,n,⟨by omega,by rw [all_next,ho],hn,by omega⟩,rfl,(Za rfl (Za rfl (Za rfl rfl))),rfl⟩,Sa⟩
   omega
  obtain ⟨i,hi⟩:=Option.ne_none_iff_exists'.1 hi
  obtain ⟨v,hvi,hvp,hvs⟩:=findV_some hi
  rw [hi] at hfp
  have hil:=(List.getElem?_eq_some_iff.1 hvi).1
  have hpv:(Zh h.vs p)[s]? = some v:=by rw [←hfp];exact hvi
  have hsl:=(List.getElem?_eq_some_iff.1 hpv).1
  have htk:(Zh h.vs p).take (s+1)=(Zh h.vs p).take s++[v]:=by rw [List.take_succ_eq_append_getElem hsl,(List.getElem?_eq_some_iff.1 hpv).2]
  rw [hi]
  obtain ⟨gv,rfl⟩:=hp (by omega)
  refine yQ rfl (Tk (TS (Lq rfl (Qf (off:=3) (by kernel_rfl) rfl) (Lq rfl (Ql (by kernel_rfl) rfl rfl) (Lm rfl rfl (Lq rfl (Qi _ (e:=191) (sz:=5) (by kernel_rfl) rfl rfl rfl (by omega)) ?_))))))
  refine Lq rfl (QL [.int .i64 v.page,.int .i64 v.slot,.int .i64 v.beg,.int .i64 v.fin,strW v.data] (by kernel_rfl) rfl (by rw [show [Value.int .i64 v.page,.int .i64 v.slot,.int .i64 v.beg,.int .i64 v.fin,strW v.data]=vrC (h.vs[i]'hil) by rw [(List.getElem?_eq_some_iff.1 hvi).2]];exact rdl_flat _ _ _ (by intros;rfl) _ (by omega))) ?_
  refine Le rfl (El [.int .i64 0,.int .i64 0,.int .i64 0,.int .i64 0,.string .empty] (by unfold Zf;kernel_rfl) ?_)
  intro g7
  refine L0 rfl (Es [_,_,_,_,_] (by kernel_rfl) rfl rfl rfl rfl (by simp) ?_)
  try simp only [splice,lC,lN,dS,cA,tS,tZ,dZ,nA,aN]
  refine Ld ?_
  refine T.cut (fun fz lz => ∃ (f0:Fr) (z:Nat),(¬ (Zp h v.beg=false∧Wa h v.beg=false))∧fz=(upd (upd (upd (upd (upd f0 1 (.pointer (some ⟨g1,0,none⟩))) 3 (.slice po n co)) 4 (.int .i64 p)) 5 (.int .i64 s)) 7 (.pointer (some ⟨g7,0,none⟩)))∧lz=blk g7 (vrC v) 191::verR po n co out::blk g1 (hrC ⟨some ⟨gv,0,none⟩,cv,pa,ca,pc,cc,pe,ce⟩ h) 81::hrL ⟨some ⟨gv,0,none⟩,cv,pa,ca,pc,cc,pe,ce⟩ h++F) ?_ ?_
  ·
   refine TS (Lq rfl (QL [_,_,_,_,_,_,_,_] (by kernel_rfl) rfl ⟨rfl,rfl,rfl,rfl,rfl,rfl,rfl,rfl,trivial⟩) (Lq rfl (Qf (off:=2) (by kernel_rfl) rfl) (Lq rfl (Ql (by kernel_rfl) rfl rfl) ?_)))
   refine Le rfl (Ec (Hr.isActive B ⟨some ⟨gv,0,none⟩,cv,pa,ca,pc,cc,pe,ce⟩ h v.beg (by omega)) Tryz.func82 rfl rfl rfl ?_)
   rintro _ _ ⟨rfl,rfl⟩
   try simp only [cA,nA]
   by_cases ha:Zp h v.beg=true
   ·
    rw [ha]
    refine Lq rfl (Y2 rfl) (Lm rfl rfl (yT (t:=34) rfl rfl (Ls rfl (Ls rfl (Ls rfl (Ls rfl (Ls rfl ?_)))))))
    refine Lq rfl (Qp rfl rfl) (Ld (yQ rfl (Tk ?_)))
    exact ⟨_,⟨_,0,(by rintro ⟨e,_⟩;cases e),(Za rfl (Za rfl (Za rfl (Za rfl (Za rfl rfl))))),rfl⟩,Sa⟩
   rw [Bool.not_eq_true] at ha
   rw [ha]
   refine Lq rfl (Y2 rfl) (Lm rfl rfl (zQ (t:=34) rfl rfl (Lq rfl (QL [_,_,_,_,_,_,_,_] (by kernel_rfl) rfl ⟨rfl,rfl,rfl,rfl,rfl,rfl,rfl,rfl,trivial⟩) (Lq rfl (Qf (off:=2) (by kernel_rfl) rfl) (Lq rfl (Ql (by kernel_rfl) rfl rfl) ?_)))))
   refine Le rfl (Ec (Hr.isCommitted B ⟨some ⟨gv,0,none⟩,cv,pa,ca,pc,cc,pe,ce⟩ h v.beg (by omega)) Tryz.func83 rfl rfl rfl ?_)
   rintro _ _ ⟨rfl,rfl⟩
   try simp only [cA,nA]
   by_cases hc:Wa h v.beg=true
   ·
    rw [hc]
    refine Lq rfl (Y2 rfl) (Lq rfl (Qp rfl rfl) (Ld (yQ rfl (Tk ?_))))
    exact ⟨_,⟨_,0,(by rintro ⟨_,e⟩;cases e),(Za rfl (Za rfl (Za rfl (Za rfl (Za rfl rfl))))),rfl⟩,Sa⟩
   rw [Bool.not_eq_true] at hc
   have hvis:visV h v=none:=by unfold visV;rw [if_pos ⟨ha,hc⟩]
   rw [hc]
   refine Lq rfl (Y2 rfl) (Lq rfl (Qp rfl rfl) (Ld (zF rfl (zB (TR (Lm rfl rfl (Lq rfl (Qd rfl rfl (Ze (by omega) (by omega))) ?_)))))))
   refine La rfl rfl (Ld ?_)
   refine ⟨_,?_,_,⟨_,s+1,out,po,co,n,⟨by omega,by rw [htk,List.filterMap_append,←List.append_assoc,←ho];simp [hvis],hn,by omega⟩,rfl,(Za rfl (Za rfl (Za rfl (Za rfl rfl)))),rfl⟩,Sa⟩
   omega
  rintro fz lz ⟨f0,z,hsh,rfl,rfl⟩
  try simp only [cA,nA]
  refine Ts (TS (Lq rfl (QL [_,_,_,_,_,_,_,_] (by kernel_rfl) rfl ⟨rfl,rfl,rfl,rfl,rfl,rfl,rfl,rfl,trivial⟩) (Lq rfl (Qf (off:=3) (by kernel_rfl) rfl) (Lq rfl (Ql (by kernel_rfl) rfl rfl) ?_))))
  refine Le rfl (Ec (Hr.isActive B ⟨some ⟨gv,0,none⟩,cv,pa,ca,pc,cc,pe,ce⟩ h v.fin (by omega)) Tryz.func82 rfl rfl rfl ?_)
  rintro _ _ ⟨rfl,rfl⟩
  try simp only [cA,nA]
  by_cases ha2:Zp h v.fin=true
  ·
   rw [ha2]
   have hvis:visV h v=some v:=by unfold visV;rw [if_neg hsh,if_neg (by rw [ha2];simp)]
   refine Lq rfl (Y2 rfl) (Lm rfl rfl (yT (t:=46) rfl rfl (Ls rfl (Ls rfl (Ls rfl (Ls rfl (Ls rfl ?_)))))))
   refine Lq rfl (Qp rfl rfl) (Ld (yQ rfl (Tk (TR (Lm rfl rfl (Lq rfl (QL [_,_,_,_,_] (by kernel_rfl) rfl ⟨rfl,rfl,rfl,rfl,rfl,trivial⟩) ?_))))))
   refine Le rfl (zK [_,_,_,_,_] (e:=191) (sz:=5) (by kernel_rfl) ⟨.agg #[.int .i64 0,.int .i64 0,.int .i64 0,.int .i64 0,.string .empty],by kernel_rfl,rfl⟩ rfl rfl rfl (by omega) (by omega) ?_)
   intro g56
   refine Le rfl (Ea Hr.elemV rfl rfl (SrcOf.blk (by kernel_rfl) rfl (by simp [Value.oneCell'])) (by unfold maxLen;omega) (by omega) ?_)
   rintro p2 c2 hp2
   rw [flat_snoc vrC out v]
   refine La rfl rfl (Ld (TR (Lm rfl rfl (Lq rfl (Qd rfl rfl (Ze (by omega) (by omega))) (La rfl rfl (Ld ?_))))))
   refine ⟨_,?_,_,⟨_,s+1,out++[v],p2,c2,n+1,⟨by omega,by rw [htk,List.filterMap_append,←List.append_assoc,←ho];simp [hvis],by simp [hn],by omega⟩,rfl,(Za rfl (Za rfl (Za rfl (Za rfl rfl)))),rfl⟩,Sa⟩
   omega
  rw [Bool.not_eq_true] at ha2
  rw [ha2]
  refine Lq rfl (Y2 rfl) (Lm rfl rfl (zQ (t:=46) rfl rfl (Lq rfl (QL [_,_,_,_,_,_,_,_] (by kernel_rfl) rfl ⟨rfl,rfl,rfl,rfl,rfl,rfl,rfl,rfl,trivial⟩) (Lq rfl (Qf (off:=3) (by kernel_rfl) rfl) (Lq rfl (Ql (by kernel_rfl) rfl rfl) ?_)))))
  refine Le rfl (Ec (Hr.isCommitted B ⟨some ⟨gv,0,none⟩,cv,pa,ca,pc,cc,pe,ce⟩ h v.fin (by omega)) Tryz.func83 rfl rfl rfl ?_)
  rintro _ _ ⟨rfl,rfl⟩
  try simp only [cA,nA]
  by_cases hc2:Wa h v.fin=true
  ·
   rw [hc2]
   have hvis:visV h v=some v:=by unfold visV;rw [if_neg hsh,if_neg (by rw [hc2];simp)]
   refine Lq rfl (Y2 rfl) (Lq rfl (Qp rfl rfl) (Ld (yQ rfl (Tk (TR (Lm rfl rfl (Lq rfl (QL [_,_,_,_,_] (by kernel_rfl) rfl ⟨rfl,rfl,rfl,rfl,rfl,trivial⟩) ?_)))))))
   refine Le rfl (zK [_,_,_,_,_] (e:=191) (sz:=5) (by kernel_rfl) ⟨.agg #[.int .i64 0,.int .i64 0,.int .i64 0,.int .i64 0,.string .empty],by kernel_rfl,rfl⟩ rfl rfl rfl (by omega) (by omega) ?_)
   intro g56
   refine Le rfl (Ea Hr.elemV rfl rfl (SrcOf.blk (by kernel_rfl) rfl (by simp [Value.oneCell'])) (by unfold maxLen;omega) (by omega) ?_)
   rintro p2 c2 hp2
   rw [flat_snoc vrC out v]
   refine La rfl rfl (Ld (TR (Lm rfl rfl (Lq rfl (Qd rfl rfl (Ze (by omega) (by omega))) (La rfl rfl (Ld ?_))))))
   refine ⟨_,?_,_,⟨_,s+1,out++[v],p2,c2,n+1,⟨by omega,by rw [htk,List.filterMap_append,←List.append_assoc,←ho];simp [hvis],by simp [hn],by omega⟩,rfl,(Za rfl (Za rfl (Za rfl (Za rfl rfl)))),rfl⟩,Sa⟩
   omega
  rw [Bool.not_eq_true] at hc2
  rw [hc2]
  have hvis:visV h v=some ⟨v.page,v.slot,v.beg,0,v.data⟩:=by unfold visV;rw [if_neg hsh,if_pos ⟨ha2,hc2⟩]
  refine Lq rfl (Y2 rfl) (Lq rfl (Qp rfl rfl) (Ld (zF rfl (TR (Lq rfl (Qf (off:=3) (by kernel_rfl) rfl) ?_)))))
  refine L0 rfl (E1 (by kernel_rfl) rfl rfl rfl (by first | (simp;done) | (simp;omega)) ?_)
  try simp only [List.set_cons_zero,List.set_cons_succ]
  refine Ld (TR (Lm rfl rfl (Lq rfl (QL [_,_,_,_,_] (by kernel_rfl) rfl ⟨rfl,rfl,rfl,rfl,rfl,trivial⟩) ?_)))
  refine Le rfl (zK [_,_,_,_,_] (e:=191) (sz:=5) (by kernel_rfl) ⟨.agg #[.int .i64 0,.int .i64 0,.int .i64 0,.int .i64 0,.string .empty],by kernel_rfl,rfl⟩ rfl rfl rfl (by omega) (by omega) ?_)
  intro g56
  refine Le rfl (Ea Hr.elemV rfl rfl (SrcOf.blk (by kernel_rfl) rfl (by simp [Value.oneCell'])) (by unfold maxLen;omega) (by omega) ?_)
  rintro p2 c2 hp2
  rw [flat_snoc vrC out ⟨v.page,v.slot,v.beg,0,v.data⟩]
  refine La rfl rfl (Ld (TR (Lm rfl rfl (Lq rfl (Qd rfl rfl (Ze (by omega) (by omega))) (La rfl rfl (Ld ?_))))))
  refine ⟨_,?_,_,⟨_,s+1,out++[⟨v.page,v.slot,v.beg,0,v.data⟩],p2,c2,n+1,⟨by omega,by rw [htk,List.filterMap_append,←List.append_assoc,←ho];simp [hvis],by simp [hn],by omega⟩,rfl,(Za rfl (Za rfl (Za rfl (Za rfl rfl)))),rfl⟩,Sa⟩
  omega
 have hpe:p=h.pages:=by omega
 have hall:out=allR h:=by rw [ho0,hpe];rfl
 subst hn
 subst hall
 refine zB (TS (Lm rfl rfl (La rfl rfl (Ld (T.ret ?_)))))
 exact ⟨.inl rfl,_,_,res [_] rfl ⟨rvT rfl,trivial⟩,⟨po,co,rfl,rfl⟩,Sa⟩
open Go.RowKit
theorem eqVer (a b:Ver):EqSt Tryz.prog 191 #[.int .i64 a.page,.int .i64 a.slot,.int .i64 a.beg,.int .i64 a.fin,strW a.data] #[.int .i64 b.page,.int .i64 b.slot,.int .i64 b.beg,.int .i64 b.fin,strW b.data] (decide (a=b)):=by
  refine EqSt.mk' (by kernel_rfl) Tryz.underlying191 (by kernel_rfl) fun d0 w=>?_
  obtain ⟨a1,a2,a3,a4,a5⟩:=a
  obtain ⟨b1,b2,b3,b4,b5⟩:=b
  dsimp only
  refine Eq.trans (eqF_int w (a:=(a1:Int)) (b:=b1) rfl Tryz.underlying3 rfl rfl) ?_
  by_cases h1:(a1:Int)=b1
  · rw [if_pos h1]
    refine Eq.trans (eqF_int w (a:=(a2:Int)) (b:=b2) rfl Tryz.underlying3 rfl rfl) ?_
    by_cases h2:(a2:Int)=b2
    · rw [if_pos h2]
      refine Eq.trans (eqF_int w (a:=a3) (b:=b3) rfl Tryz.underlying2 rfl rfl) ?_
      by_cases h3:a3=b3
      · rw [if_pos h3]
        refine Eq.trans (eqF_int w (a:=a4) (b:=b4) rfl Tryz.underlying2 rfl rfl) ?_
        by_cases h4:a4=b4
        · rw [if_pos h4]
          refine Eq.trans (eqF_str w (a:=a5) (b:=b5) rfl Tryz.underlying9 rfl rfl) ?_
          by_cases h5:a5=b5
          · rw [if_pos h5,eqF_nil]
            have e1:a1=b1:=by omega
            have e2:a2=b2:=by omega
            simp [e1,e2,h3,h4,h5]
          · rw [if_neg h5];simp [h5]
        · rw [if_neg h4];simp [h4]
      · rw [if_neg h3];simp [h3]
    · rw [if_neg h2]
      have:a2≠b2:=by omega
      simp [this]
  · rw [if_neg h1]
    have:a1≠b1:=by omega
    simp [this]
theorem Hr.same (B:Wn) (X Y:List Ver) (p1 p2:Option Addr) (c1 c2:Nat) (hb:X.length<2^40):Fn Tryz.prog B 80 #[.slice p1 X.length c1,.slice p2 Y.length c2] [verR p1 X.length c1 X,verR p2 Y.length c2 Y] (fun u l=>u = .bool (decide (X=Y))∧l=[]):=by
 refine Wr 26 Tryz.func80 rfl rfl (nB rfl) (fun F=>?_)
 try simp only [cA,nA]
 refine T.own fun w ho=>?_
 have hp1:0<X.length → ∃ g,p1=some ⟨g,0,none⟩:=(ho.slice_at (p:=p1) (m:=X.length) (c:=c1)).2.1
 have hp2:0<Y.length → ∃ g,p2=some ⟨g,0,none⟩:=(ho.tl.slice_at (p:=p2) (m:=Y.length) (c:=c2)).2.1
 clear ho
 refine TS (La rfl rfl (Ld (Ts (TS (Lm rfl rfl ?_)))))
 refine Lq rfl (yI (e:=191) (sz:=5) (by kernel_rfl) rfl) (Lm rfl rfl (Lq rfl (yI (e:=191) (sz:=5) (by kernel_rfl) rfl) (Lq rfl (yW rfl rfl) (Ld ?_))))
 refine yN rfl (fun hne=>?_) (fun hne=>?_)
 ·
  rw [show decide (X=Y)=false by rw [decide_eq_false_iff_not];intro e;rw [e] at hne;exact hne rfl]
  refine TS (La rfl rfl (Ld (T.ret ?_)))
  exact ⟨.inl rfl,_,_,res [_] rfl ⟨rvT rfl,trivial⟩,⟨rfl,rfl⟩,Sa⟩
 have hlen:X.length=Y.length:=by omega
 refine Tk (Ts (TS (La rfl rfl (Ld (yH ?_)))))
 refine zG (fun mz fz lz => ∃ (f0:Fr) (i:Nat),(i≤X.length∧X.take i=Y.take i)∧mz=X.length-i∧fz=(upd (upd (upd f0 0 (.slice p1 X.length c1)) 1 (.slice p2 Y.length c2)) 5 (.int .i64 i))∧lz=verR p1 X.length c1 X::verR p2 Y.length c2 Y::F) ?_ ?_
 · refine ⟨_,_,⟨_,0,⟨Nat.zero_le _,rfl⟩,rfl,(Za rfl (Za rfl (Za rfl rfl))),rfl⟩,Sa⟩
 rintro mz fz lz ⟨f0,i,⟨hi,htk⟩,hmz,rfl,rfl⟩
 subst mz
 refine Ts (TS (Lm rfl rfl (Lm rfl rfl (Lq rfl (yI (e:=191) (sz:=5) (by kernel_rfl) rfl) (Lq rfl (yM rfl rfl) (Ld ?_))))))
 refine yN rfl (fun hlt=>?_) (fun hlt=>?_)
 ·
  obtain ⟨g1,rfl⟩:=hp1 (by omega)
  obtain ⟨g2,rfl⟩:=hp2 (by omega)
  obtain ⟨x,hx⟩ : ∃ x,X[i]'(by omega)=x:=⟨_,rfl⟩
  obtain ⟨y,hy⟩ : ∃ y,Y[i]'(by omega)=y:=⟨_,rfl⟩
  by_cases he:x=y
  ·
   refine Tk (Ts (yH (Ts (zU 9 (by kernel_rfl) (nB rfl) (by kernel_rfl) (Rq 0 rfl rfl (by kernel_rfl) (Sr _) (Qm rfl) (Rq 1 rfl rfl (by kernel_rfl) (Sr _) (Qm rfl) (Rq 2 rfl rfl (by kernel_rfl) (Sr _) (Qi _ (e:=191) (sz:=5) (by kernel_rfl) rfl rfl rfl (by omega)) ?_)))))))
   refine Rq 3 rfl rfl (by kernel_rfl) (Sr _) (QL [.int .i64 x.page,.int .i64 x.slot,.int .i64 x.beg,.int .i64 x.fin,strW x.data] (by kernel_rfl) rfl (by rw [show [Value.int .i64 x.page,.int .i64 x.slot,.int .i64 x.beg,.int .i64 x.fin,strW x.data]=vrC (X[i]'(by omega)) by rw [hx]];exact rdl_flat _ _ _ (by intros;rfl) _ (by omega))) (Rq 4 rfl rfl (by kernel_rfl) (Sr _) (Qm rfl) (Rq 5 rfl rfl (by kernel_rfl) (Sr _) (Qm rfl) (Rq 6 rfl rfl (by kernel_rfl) (Sr _) (Qi _ (e:=191) (sz:=5) (by kernel_rfl) rfl rfl rfl (by omega)) (Rq 7 rfl rfl (by kernel_rfl) (Sr _) (QL [.int .i64 y.page,.int .i64 y.slot,.int .i64 y.beg,.int .i64 y.fin,strW y.data] (by kernel_rfl) rfl (by rw [show [Value.int .i64 y.page,.int .i64 y.slot,.int .i64 y.beg,.int .i64 y.fin,strW y.data]=vrC (Y[i]'(by omega)) by rw [hy]];exact rdl_flat _ _ _ (by intros;rfl) _ (by omega))) (Rq 8 rfl rfl (by kernel_rfl) (Sr _) (YV (eqVer x y) rfl rfl) (Rd0 (by rfl) ?_))))))
   simp only [dS,dZ,dN]
   refine Ld (YQ rfl ((by simp [he])) (Tk (TR (Lm rfl rfl (Lq rfl (Qd rfl rfl (Ze (by omega) (by omega))) (La rfl rfl (Ld ?_)))))))
   refine ⟨_,?_,_,⟨_,i+1,⟨by omega,by rw [List.take_succ_eq_append_getElem (by omega),List.take_succ_eq_append_getElem (by omega),htk,hx,hy,he]⟩,rfl,(Za rfl (Za rfl (Za rfl rfl))),rfl⟩,Sa⟩
   omega
  refine Tk (Ts (yH (Ts (zU 9 (by kernel_rfl) (nB rfl) (by kernel_rfl) (Rq 0 rfl rfl (by kernel_rfl) (Sr _) (Qm rfl) (Rq 1 rfl rfl (by kernel_rfl) (Sr _) (Qm rfl) (Rq 2 rfl rfl (by kernel_rfl) (Sr _) (Qi _ (e:=191) (sz:=5) (by kernel_rfl) rfl rfl rfl (by omega)) ?_)))))))
  refine Rq 3 rfl rfl (by kernel_rfl) (Sr _) (QL [.int .i64 x.page,.int .i64 x.slot,.int .i64 x.beg,.int .i64 x.fin,strW x.data] (by kernel_rfl) rfl (by rw [show [Value.int .i64 x.page,.int .i64 x.slot,.int .i64 x.beg,.int .i64 x.fin,strW x.data]=vrC (X[i]'(by omega)) by rw [hx]];exact rdl_flat _ _ _ (by intros;rfl) _ (by omega))) (Rq 4 rfl rfl (by kernel_rfl) (Sr _) (Qm rfl) (Rq 5 rfl rfl (by kernel_rfl) (Sr _) (Qm rfl) (Rq 6 rfl rfl (by kernel_rfl) (Sr _) (Qi _ (e:=191) (sz:=5) (by kernel_rfl) rfl rfl rfl (by omega)) (Rq 7 rfl rfl (by kernel_rfl) (Sr _) (QL [.int .i64 y.page,.int .i64 y.slot,.int .i64 y.beg,.int .i64 y.fin,strW y.data] (by kernel_rfl) rfl (by rw [show [Value.int .i64 y.page,.int .i64 y.slot,.int .i64 y.beg,.int .i64 y.fin,strW y.data]=vrC (Y[i]'(by omega)) by rw [hy]];exact rdl_flat _ _ _ (by intros;rfl) _ (by omega))) (Rq 8 rfl rfl (by kernel_rfl) (Sr _) (YV (eqVer x y) rfl rfl) (Rd0 (by rfl) ?_))))))
  simp only [dS,dZ,dN]
  refine Ld (T.condBT rfl ((by simp [he])) ?_)
  rw [show decide (X=Y)=false by rw [decide_eq_false_iff_not];intro e;subst e;exact he (hx.symm.trans hy)]
  refine TS (La rfl rfl (Ld (T.ret ?_)))
  exact ⟨.inl rfl,_,_,res [_] rfl ⟨rvT rfl,trivial⟩,⟨rfl,rfl⟩,Sa⟩
 have hXY:X=Y:=by rw [List.take_of_length_le (by omega),List.take_of_length_le (by omega)] at htk;exact htk
 rw [decide_eq_true hXY]
 refine zB (TS (La rfl rfl (Ld (T.ret ?_))))
 exact ⟨.inl rfl,_,_,res [_] rfl ⟨rvT rfl,trivial⟩,⟨rfl,rfl⟩,Sa⟩
theorem sureK {h:HR} {m:Nat} (k:HrK h m):HrK {h with act:=[]} m:=⟨⟨k.s.v,Nat.zero_le _,k.s.c,k.s.e⟩,k.m,⟨k.r.hist,k.r.rvs,k.r.rcm,k.r.rus,fun t ht=>by simp at ht,k.r.lst,fun t ht=>by simp at ht,k.r.last0⟩,k.pages,k.room,k.last⟩
theorem Hr.sure (B:Wn) (q:HrQ) (h:HR) (m:Nat) (k:HrK h m):Fn Tryz.prog B 26 #[hrV q h] (hrL q h) (fun u l => ∃ p c,u = .slice p (sureR h).length c∧l=verR p (sureR h).length c (sureR h)::hrL q h):=by
 have k2:=sureK k
 unfold sureR
 obtain ⟨A,hA⟩ : ∃ A:List Int,([]:List Int)=A:=⟨_,rfl⟩
 rw [hA] at k2
 rw [hA]
 refine Wq 8 Tryz.func26 rfl rfl (nB rfl) (fun F=>?_)
 try simp only [cA,nA]
 refine TS ?_
 refine Le rfl (zL [_,_,_,_,_,_,_,_] rfl rfl ?_)
 intro g1
 refine La rfl rfl (Ld (TS (Lq rfl (QL [_,_,_,_,_,_,_,_] (by kernel_rfl) rfl ⟨rfl,rfl,rfl,rfl,rfl,rfl,rfl,rfl,trivial⟩) ?_)))
 refine Le rfl (Ec (Hr.copied B q h m k.s k.m) Tryz.func78 rfl rfl rfl ?_)
 rintro _ _ ⟨q1,rfl,rfl⟩
 try simp only [cA,nA]
 refine L0 rfl (Es [_,_,_,_,_,_,_,_] (by kernel_rfl) rfl rfl rfl rfl (by simp) ?_)
 try simp only [splice,lC,lN,dS,cA,tS,tZ,dZ,nA,aN]
 refine Ld (TS (Lq rfl (Qf (off:=4) (by kernel_rfl) rfl) ?_))
 refine L0 rfl (E1 (by kernel_rfl) rfl rfl rfl (by first | (simp;done) | (simp;omega)) ?_)
 try simp only [List.set_cons_zero,List.set_cons_succ]
 refine Ld (TS (Lq rfl (QL [_,_,_,_,_,_,_,_] (by kernel_rfl) rfl ⟨rfl,rfl,rfl,rfl,rfl,rfl,rfl,rfl,trivial⟩) (LW.conv (l':=acR none A.length 0 A::_) (fun w ho=>by subst hA;exact ho.row_nil _ _) ?_)))
 rw [show (Value.slice none 0 0)=Value.slice none A.length 0 by rw [←hA];rfl]
 refine Le rfl (Ec (Hr.all B ⟨q1.pv,q1.cv,none,0,q1.pc,q1.cc,q1.pe,q1.ce⟩ {h with act:=A} m k2) Tryz.func29 rfl rfl rfl ?_)
 rintro _ _ ⟨p,c,rfl,rfl⟩
 try simp only [cA,nA]
 refine La rfl rfl (Ld (T.ret ?_))
 exact ⟨.inl rfl,_,_,res [_] rfl ⟨rvT rfl,trivial⟩,⟨p,c,rfl,rfl⟩,Sa⟩
theorem HrW.add {g:HR} {m:Nat} (k:HrW g m) (hm:m+1<2^32) (t:Int) (d:List UInt8):HrW (Wm g t d).1 (m+1):=by
  have s:=k.s
  rcases add_cases g t d with ⟨_,e⟩ | ⟨q,h1,h2,h3,h4,h5⟩
  · rw [e];exact ⟨⟨by have:=s.v;omega,by have:=s.a;omega,by have:=s.c;omega,by have:=s.e;omega⟩,hm,k.pages,k.room,k.u,k.pg⟩
  · rw [h5]
    obtain ⟨a,b,_⟩:=roomy_some h3
    have hv:=write_add_vs (h:=g) (t:=t) (d:=d) (q:=q)
    have hus:=write_add_used (h:=g) (t:=t) (d:=d) (q:=q)
    have hrm:=k.room
    have hu:=k.u
    refine ⟨⟨by rw [hv];have:=s.v;simp;omega,by have:=s.a;show g.act.length≤_;omega,?_,by have:=s.e;show (g.es++[_]).length≤_;simp;omega⟩,hm,k.pages,k.room,by rw [hus];omega,fun p=>?_⟩
    · show (if (1:Int)=3 then g.cm++[(t,(0:Int))] else g.cm).length≤_
      rw [if_neg (by decide)];have:=s.c;omega
    · have hp:=k.pg p
      rw [hv]
      unfold Wi
      rw [Wc,usedV_append]
      by_cases e:q=p
      · subst e
        simp [Zh,usedV]
        unfold Wi usedV Zh at b
        omega
      · simp [Zh,usedV,e]
        unfold Wi usedV Zh at hp
        omega
theorem Hr.fits (B:Wn) (q:HrQ) (h:HR) (m:Nat) (k:HrK h m) (ends:Int) (he : -(2^63)≤ends∧ends<2^63) (ga:Nat) (x y:Int) (hm:m<2^30):Fn Tryz.prog B 71 #[hrV q h,.int .i64 ends,.slice (some ⟨ga,0,none⟩) 2 2] (hrL q h++[blk ga [zV x,zV y] 3]) (fun u l=>u = .bool (fitsR h ends [x,y])∧l=hrL q h):=by
 have hrm:=k.room
 obtain ⟨hu0,hu1⟩:=k.used
 have hl0:=k.r.last0
 have hlk:=k.last
 simp only [hrL,List.cons_append,List.nil_append]
 unfold fitsR
 refine Ws 71 Tryz.func71 rfl rfl (nB rfl) (fun F=>?_)
 try simp only [cA,nA]
 refine TS ?_
 refine Le rfl (zL [_,_,_,_,_,_,_,_] rfl rfl ?_)
 intro g3
 refine La rfl rfl (Ld (Ts (TS (Lm rfl rfl (Lq rfl (yM rfl rfl) (Lm rfl rfl ?_))))))
 refine zZ (t:=12) rfl (fun h1=>?_) (fun h1=>?_)
 ·
  try replace h1:=of_decide_eq_true h1
  rw [if_pos (.inl h1)]
  refine Ls rfl (Ls rfl (Ls rfl (Ls rfl (Lq rfl (Qp rfl rfl) (Ld (zF rfl (Ts ?_)))))))
  refine TR (La rfl rfl (Ld (T.ret ?_)))
  exact ⟨.inl rfl,_,_,res [_] rfl ⟨rvT rfl,trivial⟩,⟨rfl,rfl⟩,Sa⟩
 try replace h1:=of_decide_eq_false h1
 refine Lm rfl rfl (Lq rfl (Qf (off:=1) (by kernel_rfl) rfl) (Lq rfl (Ql (by kernel_rfl) rfl rfl) (Lq rfl (yZ rfl rfl) (Lq rfl (Qp rfl rfl) (Ld ?_)))))
 refine yN rfl (fun h2=>?_) (fun h2=>?_)
 ·
  rw [if_pos (.inr h2)]
  refine TS (La rfl rfl (Ld (T.ret ?_)))
  exact ⟨.inl rfl,_,_,res [_] rfl ⟨rvT rfl,trivial⟩,⟨rfl,rfl⟩,Sa⟩
 rw [if_neg (by omega)]
 refine Tk (TS (Lq rfl (QL [_,_,_,_,_,_,_,_] (by kernel_rfl) rfl ⟨rfl,rfl,rfl,rfl,rfl,rfl,rfl,rfl,trivial⟩) ?_))
 refine Le rfl (Ec (Hr.begin B q h m k.s k.m (by omega)) Tryz.func65 rfl rfl rfl ?_)
 rintro _ _ ⟨q1,rfl,rfl⟩
 try simp only [cA,nA]
 refine Lm rfl rfl (Lq rfl (Qx rfl rfl) (Lq rfl (Qx rfl rfl) ?_))
 refine L0 rfl (Es [_,_,_,_,_,_,_,_] (by kernel_rfl) rfl rfl rfl rfl (by simp) ?_)
 try simp only [splice,lC,lN,dS,cA,tS,tZ,dZ,nA,aN]
 refine La rfl rfl (Ld (TS (Lq rfl (QL [_,_,_,_,_,_,_,_] (by kernel_rfl) rfl ⟨rfl,rfl,rfl,rfl,rfl,rfl,rfl,rfl,trivial⟩) ?_)))
 have hs1:HrS (beginR h) (m+1):=⟨by have:=k.s.v;show h.vs.length≤_;omega,by have:=k.s.a;show (h.act++[h.last+1]).length≤_;simp;omega,by have:=k.s.c;show h.cm.length≤_;omega,by have:=k.s.e;show h.es.length≤_;omega⟩
 have hbu:(beginR h).used=h.used:=rfl
 refine Le rfl (Ec (Hr.copied B q1 (beginR h) (m+1) hs1 (by omega)) Tryz.func78 rfl rfl rfl ?_)
 rintro _ _ ⟨q2,rfl,rfl⟩
 try simp only [cA,nA]
 refine L0 rfl (Es [_,_,_,_,_,_,_,_] (by kernel_rfl) rfl rfl rfl rfl (by simp) ?_)
 try simp only [splice,lC,lN,dS,cA,tS,tZ,dZ,nA,aN]
 refine Ld (TS (Lq rfl (Qf (off:=2) (by kernel_rfl) rfl) (Lq rfl (Ql (by kernel_rfl) rfl rfl) (Lm rfl rfl (Lq rfl (YG rfl rfl (Ze (by omega) (by omega))) (Lq rfl (Qd rfl rfl (Ze (by omega) (by omega))) ?_))))))
 refine Lq rfl (Qd rfl rfl (Ze (by omega) (by omega))) (Lq rfl (Qf (off:=2) (by kernel_rfl) rfl) ?_)
 refine L0 rfl (E1 (by kernel_rfl) rfl rfl rfl (by first | (simp;done) | (simp;omega)) ?_)
 try simp only [List.set_cons_zero,List.set_cons_succ]
 refine Ld (Ts (TS (La rfl rfl (Ld (yH ?_)))))
 rw [hbu]
 obtain ⟨g0,hg0⟩ : ∃ g0:HR,({beginR h with used:=h.used+(20*ends+25)}:HR)=g0:=⟨_,rfl⟩
 have hw0:HrW g0 (m+1):=by rw [←hg0];exact ⟨⟨hs1.v,hs1.a,hs1.c,hs1.e⟩,by omega,k.pages,k.room,by show 0≤h.used+(20*ends+25)∧h.used+(20*ends+25)<_;omega,k.r.ok.room⟩
 refine T.conv (l':=blk g3 (hrC q2 g0) 81::hrL q2 g0++(blk ga [zV x,zV y] 3::hrL q h++F)) (fun w ho=>by subst hg0;exact ho.map Sa) ?_
 rw [hg0]
 refine zG (fun mz fz lz => ∃ (f0:Fr) (i:Nat) (g:HR) (q2:HrQ),(i≤2∧HrW g (m+1+i)∧fitsA g0 (h.last+1) [x,y]=fitsA g (h.last+1) ([x,y].drop i))∧mz=2-i∧fz=(upd (upd (upd (upd f0 2 (.slice (some ⟨ga,0,none⟩) 2 2)) 3 (.pointer (some ⟨g3,0,none⟩))) 7 (.int .i64 (h.last+1))) 8 (.int .i64 i))∧lz=blk g3 (hrC q2 g) 81::hrL q2 g++(blk ga [zV x,zV y] 3::hrL q h++F)) ?_ ?_
 · refine ⟨_,_,⟨_,0,g0,q2,⟨Nat.zero_le _,hw0,rfl⟩,rfl,(Za rfl (Za rfl (Za rfl (Za rfl rfl)))),rfl⟩,Sa⟩
 rintro mz fz lz ⟨f0,i,g,q2,⟨hi,hw,hfa⟩,hmz,rfl,rfl⟩
 subst mz
 try simp only [cA,nA]
 refine Ts (TS (Lm rfl rfl (Lm rfl rfl (Lq rfl (yI (e:=3) (sz:=1) (by kernel_rfl) rfl) (Lq rfl (yM rfl rfl) (Ld ?_))))))
 refine yN rfl (fun hlt=>?_) (fun hlt=>?_)
 ·
  obtain ⟨z,hz⟩ : ∃ z,[x,y][i]'(by simp;omega)=z:=⟨_,rfl⟩
  have hzc:([zV x,zV y]:List Value)[0+i*1]? = some (zV z):=by rw [show ([zV x,zV y]:List Value)=[x,y].map zV from rfl,map_at _ _ _ (by simp;omega),hz]
  have hdr:[x,y].drop i=z::[x,y].drop (i+1):=by rw [List.drop_eq_getElem_cons (by simp;omega),hz]
  rw [hdr] at hfa
  refine Tk (Ts (yH (Ts (TS (Lm rfl rfl (Lm rfl rfl ?_))))))
  refine Lq rfl (Qi _ (e:=3) (sz:=1) (by kernel_rfl) rfl rfl rfl (by omega)) (Lq rfl (Ql (v:=zV z) (by kernel_rfl) rfl hzc) (Lq rfl (yM rfl rfl) (Lm rfl rfl ?_)))
  refine zZ (t:=43) rfl (fun z1=>?_) (fun z1=>?_)
  ·
   try replace z1:=of_decide_eq_true z1
   rw [hfa,show fitsA g (h.last+1) (z::[x,y].drop (i+1))=(g,false) by unfold fitsA;rw [if_pos (.inl z1)]]
   refine Ls rfl (Ls rfl (Ls rfl (Ls rfl (Ls rfl (Lq rfl (Qp rfl rfl) (Ld (zF rfl ?_)))))))
   refine TS (La rfl rfl (Ld (T.ret ?_)))
   exact ⟨.inl rfl,_,_,res [_] rfl ⟨rvT rfl,trivial⟩,⟨rfl,rfl⟩,Sa⟩
  try replace z1:=of_decide_eq_false z1
  refine Lm rfl rfl (Lm rfl rfl (Lq rfl (Qi _ (e:=3) (sz:=1) (by kernel_rfl) rfl rfl rfl (by omega)) (Lq rfl (Ql (v:=zV z) (by kernel_rfl) rfl hzc) (Lq rfl (yZ rfl rfl) (Lq rfl (Qp rfl rfl) (Ld ?_))))))
  refine yN rfl (fun z2=>?_) (fun z2=>?_)
  ·
   rw [hfa,show fitsA g (h.last+1) (z::[x,y].drop (i+1))=(g,false) by unfold fitsA;rw [if_pos (.inr z2)]]
   refine TS (La rfl rfl (Ld (T.ret ?_)))
   exact ⟨.inl rfl,_,_,res [_] rfl ⟨rvT rfl,trivial⟩,⟨rfl,rfl⟩,Sa⟩
  obtain ⟨n,rfl⟩ : ∃ n:Nat,z=n:=⟨z.toNat,by omega⟩
  have hfb:fitsA g (h.last+1) ((n:Int)::[x,y].drop (i+1))=if (Wm g (h.last+1) (List.replicate n 0)).2.2.2≠0 then ((Wm g (h.last+1) (List.replicate n 0)).1,false) else fitsA (Wm g (h.last+1) (List.replicate n 0)).1 (h.last+1) ([x,y].drop (i+1)):=by
   conv=>lhs;unfold fitsA
   rw [if_neg (by omega),Int.toNat_natCast]
  refine Tk (TS (La rfl rfl (Ld (Ts (zW 15 (some g3) (by kernel_rfl) (nB rfl) (by kernel_rfl) (Rq 1 rfl rfl (by kernel_rfl) Sa (Qm rfl) ?_))))))
  refine Rq 2 rfl rfl (by kernel_rfl) Sa (Qm rfl) (Rq 3 rfl rfl (by kernel_rfl) Sa (Qm rfl) (Rq 4 rfl rfl (by kernel_rfl) Sa (Qi _ (e:=3) (sz:=1) (by kernel_rfl) rfl rfl rfl (by omega)) (Rq 5 rfl rfl (by kernel_rfl) Sa (Ql (v:=zV n) (by kernel_rfl) rfl hzc) ?_)))
  refine YC [0,6] (by kernel_rfl) (List.forall_mem_cons.2 ⟨?_,List.forall_mem_cons.2 ⟨?_,List.forall_mem_nil _⟩⟩)
  ·
   refine z6 rfl rfl (YL (QL [_,_,_,_,_,_,_,_] (by kernel_rfl) rfl ⟨rfl,rfl,rfl,rfl,rfl,rfl,rfl,rfl,trivial⟩) ?_)
   refine ⟨Sa,?_⟩
   refine yK 6 (by kernel_rfl) ?_
   refine z6 rfl rfl (YK n (.int .u8 0) 1 Cd.elemB (by kernel_rfl) rfl rfl rfl rfl (by omega) (by unfold maxLen;omega) ?_)
   intro gz
   rw [made_bytes n]
   refine ⟨Sa,?_⟩
   refine yK 7 (by kernel_rfl) ?_
   first | refine z6 rfl rfl (YL (Z2 (List.replicate n 0) (by kernel_rfl) (by kernel_rfl) rfl (fun _ ho=>ho.reads_row (by simp))) ?_)
   refine ⟨Sa,?_⟩
   refine yK 8 (by kernel_rfl) ?_
   refine z6 rfl rfl (Ec (Hr.add B q2 g (m+1+i) hw (h.last+1) (List.replicate n 0) (by simp;omega)) Tryz.func66 rfl rfl rfl ?_)
   rintro _ _ ⟨q3,rfl,rfl⟩
   try simp only [cA,nA]
   refine ⟨Sa,?_⟩
   refine Rq 9 rfl rfl (by kernel_rfl) Sa (Qm rfl) (Rq 10 rfl rfl (by kernel_rfl) Sa (Qx rfl rfl) (Rq 11 rfl rfl (by kernel_rfl) Sa (Qx rfl rfl) (Rq 12 rfl rfl (by kernel_rfl) Sa (Qx rfl rfl) (Rq 13 rfl rfl (by kernel_rfl) Sa (Qx rfl rfl) (yK 14 (by kernel_rfl) ?_)))))
   refine YH rfl rfl (Es [_,_,_,_,_,_,_,_] (by kernel_rfl) rfl rfl rfl rfl (by simp) ?_)
   try simp only [splice,lC,lN,dS,cA,tS,tZ,dZ,nA,aN]
   refine ⟨Sa,?_⟩
   refine Rd0 (by rfl) ?_
   simp only [dS,dZ,dN]
   refine La rfl rfl (Ld (TS (Lm rfl rfl (Lq rfl (yW rfl rfl) (Ld ?_)))))
   refine yN rfl (fun hbad=>?_) (fun hbad=>?_)
   ·
    rw [hfa,hfb,if_pos hbad]
    refine TS (La rfl rfl (Ld (T.ret ?_)))
    exact ⟨.inl rfl,_,_,res [_] rfl ⟨rvT rfl,trivial⟩,⟨rfl,rfl⟩,Sa⟩
   rw [if_neg hbad] at hfb
   refine Tk (TR (Lm rfl rfl (Lq rfl (Qd rfl rfl (Ze (by omega) (by omega))) (La rfl rfl (Ld ?_)))))
   refine ⟨_,?_,_,⟨_,i+1,(Wm g (h.last+1) (List.replicate n 0)).1,q3,⟨by omega,hw.add (by omega) _ _,hfa.trans hfb⟩,rfl,(Za rfl (Za rfl (Za rfl (Za rfl rfl)))),rfl⟩,Sa⟩
   omega
  refine z6 rfl rfl (YK n (.int .u8 0) 1 Cd.elemB (by kernel_rfl) rfl rfl rfl rfl (by omega) (by unfold maxLen;omega) ?_)
  intro gz
  rw [made_bytes n]
  refine ⟨Sa,?_⟩
  refine YC [0,7] (by kernel_rfl) (List.forall_mem_cons.2 ⟨?_,List.forall_mem_cons.2 ⟨?_,List.forall_mem_nil _⟩⟩)
  ·
   refine z6 rfl rfl (YL (QL [_,_,_,_,_,_,_,_] (by kernel_rfl) rfl ⟨rfl,rfl,rfl,rfl,rfl,rfl,rfl,rfl,trivial⟩) ?_)
   refine ⟨Sa,?_⟩
   refine yK 7 (by kernel_rfl) ?_
   first | refine z6 rfl rfl (YL (Z2 (List.replicate n 0) (by kernel_rfl) (by kernel_rfl) rfl (fun _ ho=>ho.reads_row (by simp))) ?_)
   refine ⟨Sa,?_⟩
   refine yK 8 (by kernel_rfl) ?_
   refine z6 rfl rfl (Ec (Hr.add B q2 g (m+1+i) hw (h.last+1) (List.replicate n 0) (by simp;omega)) Tryz.func66 rfl rfl rfl ?_)
   rintro _ _ ⟨q3,rfl,rfl⟩
   try simp only [cA,nA]
   refine ⟨Sa,?_⟩
   refine Rq 9 rfl rfl (by kernel_rfl) Sa (Qm rfl) (Rq 10 rfl rfl (by kernel_rfl) Sa (Qx rfl rfl) (Rq 11 rfl rfl (by kernel_rfl) Sa (Qx rfl rfl) (Rq 12 rfl rfl (by kernel_rfl) Sa (Qx rfl rfl) (Rq 13 rfl rfl (by kernel_rfl) Sa (Qx rfl rfl) (yK 14 (by kernel_rfl) ?_)))))
   refine YH rfl rfl (Es [_,_,_,_,_,_,_,_] (by kernel_rfl) rfl rfl rfl rfl (by simp) ?_)
   try simp only [splice,lC,lN,dS,cA,tS,tZ,dZ,nA,aN]
   refine ⟨Sa,?_⟩
   refine Rd0 (by rfl) ?_
   simp only [dS,dZ,dN]
   refine La rfl rfl (Ld (TS (Lm rfl rfl (Lq rfl (yW rfl rfl) (Ld ?_)))))
   refine yN rfl (fun hbad=>?_) (fun hbad=>?_)
   ·
    rw [hfa,hfb,if_pos hbad]
    refine TS (La rfl rfl (Ld (T.ret ?_)))
    exact ⟨.inl rfl,_,_,res [_] rfl ⟨rvT rfl,trivial⟩,⟨rfl,rfl⟩,Sa⟩
   rw [if_neg hbad] at hfb
   refine Tk (TR (Lm rfl rfl (Lq rfl (Qd rfl rfl (Ze (by omega) (by omega))) (La rfl rfl (Ld ?_)))))
   refine ⟨_,?_,_,⟨_,i+1,(Wm g (h.last+1) (List.replicate n 0)).1,q3,⟨by omega,hw.add (by omega) _ _,hfa.trans hfb⟩,rfl,(Za rfl (Za rfl (Za rfl (Za rfl rfl)))),rfl⟩,Sa⟩
   omega
  first | refine z6 rfl rfl (YL (Z2 (List.replicate n 0) (by kernel_rfl) (by kernel_rfl) rfl (fun _ ho=>ho.reads_row (by simp))) ?_)
  refine ⟨Sa,?_⟩
  refine yK 0 (by kernel_rfl) ?_
  refine z6 rfl rfl (YL (QL [_,_,_,_,_,_,_,_] (by kernel_rfl) rfl ⟨rfl,rfl,rfl,rfl,rfl,rfl,rfl,rfl,trivial⟩) ?_)
  refine ⟨Sa,?_⟩
  refine yK 8 (by kernel_rfl) ?_
  refine z6 rfl rfl (Ec (Hr.add B q2 g (m+1+i) hw (h.last+1) (List.replicate n 0) (by simp;omega)) Tryz.func66 rfl rfl rfl ?_)
  rintro _ _ ⟨q3,rfl,rfl⟩
  try simp only [cA,nA]
  refine ⟨Sa,?_⟩
  refine Rq 9 rfl rfl (by kernel_rfl) Sa (Qm rfl) (Rq 10 rfl rfl (by kernel_rfl) Sa (Qx rfl rfl) (Rq 11 rfl rfl (by kernel_rfl) Sa (Qx rfl rfl) (Rq 12 rfl rfl (by kernel_rfl) Sa (Qx rfl rfl) (Rq 13 rfl rfl (by kernel_rfl) Sa (Qx rfl rfl) (yK 14 (by kernel_rfl) ?_)))))
  refine YH rfl rfl (Es [_,_,_,_,_,_,_,_] (by kernel_rfl) rfl rfl rfl rfl (by simp) ?_)
  try simp only [splice,lC,lN,dS,cA,tS,tZ,dZ,nA,aN]
  refine ⟨Sa,?_⟩
  refine Rd0 (by rfl) ?_
  simp only [dS,dZ,dN]
  refine La rfl rfl (Ld (TS (Lm rfl rfl (Lq rfl (yW rfl rfl) (Ld ?_)))))
  refine yN rfl (fun hbad=>?_) (fun hbad=>?_)
  ·
   rw [hfa,hfb,if_pos hbad]
   refine TS (La rfl rfl (Ld (T.ret ?_)))
   exact ⟨.inl rfl,_,_,res [_] rfl ⟨rvT rfl,trivial⟩,⟨rfl,rfl⟩,Sa⟩
  rw [if_neg hbad] at hfb
  refine Tk (TR (Lm rfl rfl (Lq rfl (Qd rfl rfl (Ze (by omega) (by omega))) (La rfl rfl (Ld ?_)))))
  refine ⟨_,?_,_,⟨_,i+1,(Wm g (h.last+1) (List.replicate n 0)).1,q3,⟨by omega,hw.add (by omega) _ _,hfa.trans hfb⟩,rfl,(Za rfl (Za rfl (Za rfl (Za rfl rfl)))),rfl⟩,Sa⟩
  omega
 obtain rfl:i=2:=by omega
 rw [hfa,show fitsA g (h.last+1) ([x,y].drop 2)=(g,true) from rfl]
 refine zB (TS (Lq rfl (Qf (off:=2) (by kernel_rfl) rfl) (Lq rfl (Ql (by kernel_rfl) rfl rfl) (Lq rfl (Qf (off:=1) (by kernel_rfl) rfl) (Lq rfl (Ql (by kernel_rfl) rfl rfl) (Lq rfl (YF rfl rfl) ?_))))))
 refine La rfl rfl (Ld (T.ret ?_))
 exact ⟨.inl rfl,_,_,res [_] rfl ⟨rvT rfl,trivial⟩,⟨rfl,rfl⟩,Sa⟩
open Go.RowKit
theorem Hp.versions (B:Wn) (L:List VerM) (Y:List Ver) (p1 p2:Option Addr) (c1 c2:Nat) (hL : ∀ x∈L,x.Ok) (hb:L.length<2^32) (hdl : ∀ x∈L,x.v.data.length<2^32) :
  Fn Tryz.prog B 28 #[.slice p1 L.length c1,.slice p2 Y.length c2] [vmR p1 L.length c1 L,vmsA L,verR p2 Y.length c2 Y] (fun u l=>u = .bool (decide (L.map (·.v)=Y))∧l=[vmR p1 L.length c1 L,vmsA L]):=by
 refine Wr 35 Tryz.func28 rfl rfl (nB rfl) (fun F=>?_)
 try simp only [cA,nA]
 refine T.own fun w ho=>?_
 have hp1:0<L.length → ∃ g,p1=some ⟨g,0,none⟩:=(ho.slice_at (p:=p1) (m:=L.length) (c:=c1)).2.1
 have hvo:VmsOk L:=(ho.map Sa:Own B w [vmsA L]).vmsOk hL
 clear ho
 refine TS (La rfl rfl (Ld (TS (La rfl rfl (Ld ?_)))))
 refine Ts (TS (Lm rfl rfl (Lq rfl (yI (e:=139) (sz:=5) (by kernel_rfl) rfl) (Lm rfl rfl (Ld (yH ?_))))))
 refine T.conv (l':=verR none 0 0 []::_) (fun w ho=>ho.row_nil _ _) ?_
 refine zG (fun mz fz lz => ∃ (f0:Fr) (i:Nat) (out:List Ver) (po:Option Addr) (co n:Nat),(i≤L.length∧out=(L.take i).map (·.v)∧n=out.length∧n=i)∧mz=L.length-i∧fz=(upd (upd (upd (upd (upd f0 1 (.slice p2 Y.length c2)) 5 (.slice po n co)) 8 (.slice p1 L.length c1)) 9 (.int .i64 L.length)) 10 (.int .i64 i))∧lz=verR po n co out::vmR p1 L.length c1 L::vmsA L::verR p2 Y.length c2 Y::F) ?_ ?_
 · refine ⟨_,_,⟨_,0,[],none,0,0,⟨Nat.zero_le _,rfl,rfl,rfl⟩,rfl,(Za rfl (Za rfl (Za rfl (Za rfl (Za rfl rfl))))),rfl⟩,Sa⟩
 rintro mz fz lz ⟨f0,i,out,po,co,n,⟨hi,ho,hn,hni⟩,hmz,rfl,rfl⟩
 subst mz
 refine TS (Lq rfl (yM rfl rfl) (Ld (Ts ?_)))
 refine yN rfl (fun hlt=>?_) (fun hlt=>?_)
 ·
  obtain ⟨g1,rfl⟩:=hp1 (by omega)
  obtain ⟨x,hx⟩ : ∃ x,L[i]? = some x:=⟨_,List.getElem?_eq_getElem (by omega)⟩
  have hil:=(List.getElem?_eq_some_iff.1 hx).1
  have hrd:=RdV.ver (B:=B) hvo hx
  have hxl:=hdl x (List.mem_of_getElem? hx)
  refine Tk (Ts (yH (TS (Lq rfl (Qi _ (e:=139) (sz:=5) (by kernel_rfl) rfl rfl rfl (by omega)) ?_))))
  refine Lq rfl (QL [.int .i64 x.v.page,.int .i64 x.v.slot,.int .i64 x.v.beg,.int .i64 x.v.fin,.slice (offA x.p x.c 16 1) x.v.data.length (x.c-16)] (by kernel_rfl) rfl (by rw [show [Value.int .i64 x.v.page,.int .i64 x.v.slot,.int .i64 x.v.beg,.int .i64 x.v.fin,.slice (offA x.p x.c 16 1) x.v.data.length (x.c-16)]=vmC (L[i]'hil) by rw [(List.getElem?_eq_some_iff.1 hx).2]];exact rdl_flat _ _ _ (by intros;rfl) _ (by omega))) ?_
  refine Le rfl (El [.int .i64 0,.int .i64 0,.int .i64 0,.int .i64 0,.slice none 0 0] (by unfold Zf;kernel_rfl) ?_)
  intro g7
  refine L0 rfl (Es [_,_,_,_,_] (by kernel_rfl) rfl rfl rfl rfl (by simp) ?_)
  try simp only [splice,lC,lN,dS,cA,tS,tZ,dZ,nA,aN]
  refine Ld (TR (Lm rfl rfl (Lq rfl (Q0 (by kernel_rfl) rfl) (Lq rfl (Q0 (by kernel_rfl) rfl) (Lq rfl (Ql (by kernel_rfl) rfl rfl) (Lq rfl (Q0 (by kernel_rfl) rfl) (Lq rfl (Qf (off:=1) (by kernel_rfl) rfl) ?_)))))))
  refine Lq rfl (Ql (by kernel_rfl) rfl rfl) (Lq rfl (Qf (off:=2) (by kernel_rfl) rfl) (Lq rfl (Ql (by kernel_rfl) rfl rfl) (Lq rfl (Qf (off:=3) (by kernel_rfl) rfl) (Lq rfl (Ql (by kernel_rfl) rfl rfl) (Lq rfl (Qf (off:=4) (by kernel_rfl) rfl) (Lq rfl (Ql (by kernel_rfl) rfl rfl) (Lq rfl (Z2 x.v.data (by kernel_rfl) (by kernel_rfl) rfl (fun w ho=>hrd.reads w (ho.map Sa))) ?_)))))))
  refine Lq rfl (z8 [(0,1),(1,1),(2,1),(3,1),(4,1)] [.int .i64 0,.int .i64 0,.int .i64 0,.int .i64 0,.string .empty] [_,_,_,_,_] [(0,_),(1,_),(2,_),(3,_),(4,_)] (by kernel_rfl) (by unfold Zf;kernel_rfl) rfl rfl) ?_
  refine Le rfl (zK [_,_,_,_,_] (e:=191) (sz:=5) (by kernel_rfl) ⟨.agg #[.int .i64 0,.int .i64 0,.int .i64 0,.int .i64 0,.string .empty],by kernel_rfl,rfl⟩ rfl rfl rfl (by omega) (by omega) ?_)
  intro g29
  refine Le rfl (Ea Hr.elemV rfl rfl (SrcOf.blk (by kernel_rfl) rfl (by simp [Value.oneCell'])) (by unfold maxLen;omega) (by omega) ?_)
  rintro p3 c3 hp3
  try simp only [cA,nA]
  rw [flat_snoc vrC out x.v]
  refine La rfl rfl (Ld (TR (Lq rfl (Qd rfl rfl (Ze (by omega) (by omega))) (Lm rfl rfl (Ld ?_)))))
  refine ⟨_,?_,_,⟨_,i+1,out++[x.v],p3,c3,n+1,⟨by omega,by rw [List.take_succ_eq_append_getElem hil,List.map_append,←ho,(List.getElem?_eq_some_iff.1 hx).2];rfl,by simp [hn],by omega⟩,rfl,(Za rfl (Za rfl (Za rfl (Za rfl (Za rfl rfl))))),rfl⟩,Sa⟩
  omega
 rw [List.take_of_length_le (by omega)] at ho
 subst hn
 refine zB (TS (Lm rfl rfl (Lm rfl rfl ?_)))
 refine Le rfl (Ec (Hr.same B out Y po p2 co c2 (by omega)) Tryz.func80 rfl rfl rfl ?_)
 rintro _ _ ⟨rfl,rfl⟩
 try simp only [cA,nA]
 rw [ho]
 refine La rfl rfl (Ld (T.ret ?_))
 exact ⟨.inl rfl,_,_,res [_] rfl ⟨rvT rfl,trivial⟩,⟨rfl,rfl⟩,Sa⟩
theorem Hp.commitsLaw (B:Wn) (g b logs count n K:Nat) (q:HrQ) (h:HR) (hl:h.cm.length<2^32):Fn Tryz.prog B 30 #[pV g,hrV q h] (hpA g b logs count n K h::hrL q h) (fun u l=>u = .bool true∧l=hpA g b logs count n K h::hrL q h):=by
 obtain ⟨pv,cv,pa,ca,pc,cc,pe,ce⟩:=q
 dsimp only [hrV,hrL]
 refine Wr 46 Tryz.func30 rfl rfl (nB rfl) (fun F=>?_)
 try simp only [cA,nA]
 refine T.own fun w ho=>?_
 have hp:0<h.cm.length → ∃ g,pc=some ⟨g,0,none⟩:=((ho.map Sa:Own B w [c8R pc h.cm.length cc h.cm]).slice_at (p:=pc) (m:=h.cm.length) (c:=cc)).2.1
 clear ho
 refine TS ?_
 refine Le rfl (zL [_,_,_,_,_,_,_,_] rfl rfl ?_)
 intro g3
 refine La rfl rfl (Ld (TS (Lm rfl rfl (Lq rfl (Qn rfl) (Lq rfl (Q0 (by kernel_rfl) rfl) ?_)))))
 refine Le rfl (Ec (Hp.commits B g b logs count n K h hl) Tryz.func84 rfl rfl rfl ?_)
 rintro _ _ ⟨p2,c2,rfl,rfl⟩
 try simp only [cA,nA]
 refine LW.own fun w ho=>?_
 have hp2:0<h.cm.length → ∃ g,p2=some ⟨g,0,none⟩:=((ho.map Sa:Own B w [cmR p2 h.cm.length c2 h.cm]).slice_at (p:=p2) (m:=h.cm.length) (c:=c2)).2.1
 clear ho
 refine La rfl rfl (Ld (Ts (TS (Lm rfl rfl (Lq rfl (yI (e:=133) (sz:=2) (by kernel_rfl) rfl) (Lq rfl (Qf (off:=5) (by kernel_rfl) rfl) ?_))))))
 refine Lq rfl (Ql (by kernel_rfl) rfl rfl) (Lq rfl (yI (e:=196) (sz:=2) (by kernel_rfl) rfl) (Lq rfl (yW rfl rfl) (Ld (yL rfl (by omega) (Tk (Ts (Ts ?_)))))))
 refine TR (Lm rfl rfl (Lq rfl (yI (e:=133) (sz:=2) (by kernel_rfl) rfl) (Lm rfl rfl (Ld (yH ?_)))))
 refine zG (fun mz fz lz => ∃ (f0:Fr) (i:Nat),(i≤h.cm.length)∧mz=h.cm.length-i∧fz=(upd (upd (upd (upd f0 3 (.pointer (some ⟨g3,0,none⟩))) 18 (.slice p2 h.cm.length c2)) 19 (.int .i64 h.cm.length)) 20 (.int .i64 i))∧lz=cmR p2 h.cm.length c2 h.cm::hpA g b logs count n K h::blk g3 (hrC ⟨pv,cv,pa,ca,pc,cc,pe,ce⟩ h) 81::hrL ⟨pv,cv,pa,ca,pc,cc,pe,ce⟩ h++F) ?_ ?_
 · refine ⟨_,_,⟨_,0,Nat.zero_le _,rfl,(Za rfl (Za rfl (Za rfl (Za rfl rfl)))),rfl⟩,Sa⟩
 rintro mz fz lz ⟨f0,i,hi,hmz,rfl,rfl⟩
 subst mz
 try simp only [cA,nA]
 refine TS (Lq rfl (yM rfl rfl) (Ld (Ts ?_)))
 refine yN rfl (fun hlt=>?_) (fun hlt=>?_)
 ·
  obtain ⟨g1,rfl⟩:=hp (by omega)
  obtain ⟨g2,rfl⟩:=hp2 (by omega)
  obtain ⟨x,hx⟩ : ∃ x,h.cm[i]'(by omega)=x:=⟨_,rfl⟩
  have hx2:h.cm[i]? = some x:=by rw [List.getElem?_eq_getElem (by omega),hx]
  refine Tk (Ts (yH (TS (Lm rfl rfl (Lq rfl (Qi _ (e:=133) (sz:=2) (by kernel_rfl) rfl rfl rfl (by omega)) (Lq rfl (QL [.int .i64 x.1,.int .i64 x.2] (by kernel_rfl) rfl (by rw [show [Value.int .i64 x.1,.int .i64 x.2]=stC (h.cm[i]'(by omega)) by rw [hx]];exact rdl_flat _ _ _ (by intros;rfl) _ (by omega))) ?_))))))
  refine Le rfl (El [.int .i64 0,.int .i64 0] (by unfold Zf;kernel_rfl) ?_)
  intro g7
  refine La rfl rfl ?_
  refine L0 rfl (Es [_,_] (by kernel_rfl) rfl rfl rfl rfl (by simp) ?_)
  try simp only [splice,lC,lN,dS,cA,tS,tZ,dZ,nA,aN]
  refine Ld (Ts (zU 20 (by kernel_rfl) (nB rfl) (by kernel_rfl) (Rq 0 rfl rfl (by kernel_rfl) (Sr _) (Q0 (by kernel_rfl) rfl) (Rq 1 rfl rfl (by kernel_rfl) (Sr _) (Ql (by kernel_rfl) rfl rfl) (Rq 2 rfl rfl (by kernel_rfl) (Sr _) (Qf (off:=5) (by kernel_rfl) rfl) (Rq 3 rfl rfl (by kernel_rfl) (Sr _) (Ql (by kernel_rfl) rfl rfl) (Rq 4 rfl rfl (by kernel_rfl) (Sr _) (Qm rfl) ?_)))))))
  refine Rq 5 rfl rfl (by kernel_rfl) (Sr _) (Qi _ (e:=196) (sz:=2) (by kernel_rfl) rfl rfl rfl (by omega)) (Rq 6 rfl rfl (by kernel_rfl) (Sr _) (Q0 (by kernel_rfl) rfl) (Rq 7 rfl rfl (by kernel_rfl) (Sr _) (Ql (v := .int .i64 x.1) (by kernel_rfl) rfl (flat_cell0 stC 2 h.cm (fun _ _=>rfl) i (by omega) (by rw [hx];rfl))) (Rq 8 rfl rfl (by kernel_rfl) (Sr _) (yW rfl rfl) (Rq 9 rfl rfl (by kernel_rfl) (Sr _) (Qm rfl) (ZD (t:=34) rfl (decide_eq_false (by omega)) (Rq 10 rfl rfl (by kernel_rfl) (Sr _) (Qf (off:=1) (by kernel_rfl) rfl) (Rq 11 rfl rfl (by kernel_rfl) (Sr _) (Ql (by kernel_rfl) rfl rfl) ?_)))))))
  refine Rq 12 rfl rfl (by kernel_rfl) (Sr _) (Qf (off:=5) (by kernel_rfl) rfl) (Rq 13 rfl rfl (by kernel_rfl) (Sr _) (Ql (by kernel_rfl) rfl rfl) (Rq 14 rfl rfl (by kernel_rfl) (Sr _) (Qm rfl) (Rq 15 rfl rfl (by kernel_rfl) (Sr _) (Qi _ (e:=196) (sz:=2) (by kernel_rfl) rfl rfl rfl (by omega)) (Rq 16 rfl rfl (by kernel_rfl) (Sr _) (Qf (off:=1) (by kernel_rfl) rfl) (Rq 17 rfl rfl (by kernel_rfl) (Sr _) (Ql (v := .int .i64 x.2) (by kernel_rfl) rfl (c8_at hx2)) (Rq 18 rfl rfl (by kernel_rfl) (Sr _) (yW rfl rfl) (Rq 19 rfl rfl (by kernel_rfl) (Sr _) (Qp rfl rfl) ?_)))))))
  refine Rd0 (by rfl) ?_
  simp only [dS,dZ,dN]
  refine Ld (yL rfl (by omega) (Tk (TR (Lq rfl (Qd rfl rfl (Ze (by omega) (by omega))) (Lm rfl rfl (Ld ?_))))))
  refine ⟨_,?_,_,⟨_,i+1,by omega,rfl,(Za rfl (Za rfl (Za rfl (Za rfl rfl)))),rfl⟩,Sa⟩
  omega
 refine zB (TS (La rfl rfl (Ld (T.ret ?_))))
 exact ⟨.inl rfl,_,_,res [_] rfl ⟨rvT rfl,trivial⟩,⟨rfl,rfl⟩,Sa⟩
open Go.RowKit
def stepR (h:HR) (o:OpH):HR:=if o.kind=0 then beginR h else if o.kind=1 then (Wm h o.txn o.data).1 else if o.kind=2 then (endR h o.txn o.page o.slot).1 else if o.kind=3 then (Zl h o.txn o.stamp).1 else if o.kind=4 then (abortR h o.txn).1 else h
structure PlayI (h:HR) (c rm m:Nat):Prop where
 r:RInv h
 s:HrS h m
 pages:h.pages=c
 room:h.room=rm
 last:h.last≤m
theorem PlayI.k {h:HR} {c rm m:Nat} (p:PlayI h c rm m) (hm:m<2^31) (hc:c≤4096) (hr:rm<2^30):HrK h m:=⟨p.s,by omega,p.r,by rw [p.pages];exact hc,by rw [p.room];exact hr,by have:=p.last;omega⟩
theorem HrS.mono {h:HR} {m m':Nat} (s:HrS h m) (hm:m≤m'):HrS h m':=⟨Nat.le_trans s.v hm,Nat.le_trans s.a hm,Nat.le_trans s.c hm,Nat.le_trans s.e hm⟩
theorem HrS.write {h:HR} {m:Nat} (s:HrS h m) (e:En):HrS (Zg h e) (m+1):=by
  refine ⟨?_,Nat.le_trans s.a (Nat.le_succ _),?_,?_⟩
  · show (if e.kind=1 then _ else if e.kind=2 then _ else _:List Ver).length≤_
    have:=s.v
    split
    · simp;omega
    · split
      · split
        · simp;omega
        · omega
      · omega
  · show (if e.kind=3 then _ else _:List (Int×Int)).length≤_
    have:=s.c
    split
    · simp;omega
    · omega
  · have:=s.e
    show (h.es++[e]).length≤_
    simp;omega
theorem cm_cases (h:HR) (t s:Int):(Zl h t s).1=h∨(Zl h t s).1=Zg (Zo h t) (cmE t s):=by
  unfold Zl
  split
  · split
    · exact .inl rfl
    · split
      · exact .inl rfl
      · exact .inr rfl
  · exact .inl rfl
theorem ab_cases (h:HR) (t:Int):(abortR h t).1=h∨(abortR h t).1=Zo h t:=by
 unfold abortR
 split
 · exact .inr rfl
 · exact .inl rfl
theorem PlayI.step {h:HR} {c rm m:Nat} (p:PlayI h c rm m) (hm:m<2^31) (hc:c≤4096) (o:OpH):PlayI (stepR h o) c rm (m+1):=by
  have hp:h.pages≤4096:=by rw [p.pages];exact hc
  have hl:h.last<2^62:=by have:=p.last;omega
  have hl2:=p.last
  have h0:PlayI h c rm (m+1):=⟨p.r,p.s.mono (Nat.le_succ _),p.pages,p.room,by omega⟩
  unfold stepR
  split
  · exact ⟨p.r.begin,⟨by have:=p.s.v;show h.vs.length≤_;omega,by have:=p.s.a;show (h.act++[h.last+1]).length≤_;simp;omega,by have:=p.s.c;show h.cm.length≤_;omega,by have:=p.s.e;show h.es.length≤_;omega⟩,p.pages,p.room,by show h.last+1≤_;omega⟩
  · split
    · have hr:=p.r.add hp hl o.txn o.data
      rcases add_cases h o.txn o.data with ⟨_,e⟩ | ⟨q,_,_,_,_,e⟩
      · rw [e];exact h0
      · rw [e] at hr ⊢
        exact ⟨hr,p.s.write _,p.pages,p.room,by show h.last≤_;omega⟩
    · split
      · have hr:=p.r.end_ hp hl o.txn o.page o.slot
        rcases end_cases h o.txn o.page o.slot with ⟨_,e⟩ | ⟨i,v,_,_,_,_,_,e⟩
        · rw [e];exact h0
        · rw [e] at hr ⊢
          exact ⟨hr,p.s.write _,p.pages,p.room,by show h.last≤_;omega⟩
      · split
        · have hr:=p.r.commit hl o.txn o.stamp
          rcases cm_cases h o.txn o.stamp with e | e
          · rw [e];exact h0
          · rw [e] at hr ⊢
            exact ⟨hr,(show HrS (Zo h o.txn) m from ⟨p.s.v,Nat.le_trans (List.length_filter_le _ _) p.s.a,p.s.c,p.s.e⟩).write _,p.pages,p.room,by show h.last≤_;omega⟩
        · split
          · have hr:=p.r.abort o.txn
            rcases ab_cases h o.txn with e | e
            · rw [e];exact h0
            · rw [e] at hr ⊢
              exact ⟨hr,⟨by have:=p.s.v;show h.vs.length≤_;omega,Nat.le_trans (List.length_filter_le _ _) (by have:=p.s.a;omega),by have:=p.s.c;show h.cm.length≤_;omega,by have:=p.s.e;show h.es.length≤_;omega⟩,p.pages,p.room,by show h.last≤_;omega⟩
          · exact h0
theorem Hr.fitsC (B:Wn) (q:HrQ) (h:HR) (m:Nat) (k:HrK h m) (ends:Int) (he : -(2^63)≤ends∧ends<2^63) (ga:Nat) (x y:Int) (hm:m<2^30):Fn Tryz.prog B 71 #[hrV q h,.int .i64 ends,.slice (some ⟨ga,0,none⟩) 2 2] [verR q.pv h.vs.length q.cv h.vs,acR q.pa h.act.length q.ca h.act,c8R q.pc h.cm.length q.cc h.cm,e8R q.pe h.es.length q.ce h.es,blk ga [zV x,zV y] 3] (fun u l=>u = .bool (fitsR h ends [x,y])∧l=hrL q h):=Hr.fits B q h m k ends he ga x y hm
abbrev opC (o:OpH) (da:Option Addr) (dc:Nat) (ka:Option Addr) (kc:Nat):List Value:=[.int .i64 o.kind,.int .i64 o.txn,.int .i64 o.page,.int .i64 o.slot,.slice da o.data.length dc,.int .i64 o.stamp,.slice ka o.keep.length kc,.int .i64 o.t0,.int .i64 o.t1]
theorem Hp.step (B:Wn) (g b logs count n K:Nat) (q:HrQ) (h:HR) (m rm:Nat) (p:PlayI h count rm m) (hm:m<2^29) (hc:1≤count∧count≤4096) (hr:rm<2^29) (hK:K+count+2<2^28) (o:OpH) (ho:o.Ok) (da:Option Addr) (dc:Nat) (ka:Option Addr) (kc:Nat) (hdv:RoS B (.slice da o.data.length dc) (Zb o.data)) (hdl:o.data.length≤1048576) :
  Fn Tryz.prog B 22 #[pV g,hrV q h,.agg #[.int .i64 o.kind,.int .i64 o.txn,.int .i64 o.page,.int .i64 o.slot,.slice da o.data.length dc,.int .i64 o.stamp,.slice ka o.keep.length kc,.int .i64 o.t0,.int .i64 o.t1]] (hpA g b logs count n K h::hrL q h) (fun u l => ∃ q' K',K'≤K+count+2∧u = .tuple #[hrV q' (stepR h o),.bool true]∧l=hpA g b logs count n K' (stepR h o)::hrL q' (stepR h o)):=by
 have hk:=p.k (by omega) hc.2 (by omega)
 have hl0:=p.r.last0
 have hlm:=p.last
 have hcl:=p.s.c
 refine Ws 174 Tryz.func22 rfl rfl (nB rfl) (fun F=>?_)
 try simp only [cA,nA]
 refine TS ?_
 refine Le rfl (zL [_,_,_,_,_,_,_,_] rfl rfl ?_)
 intro g4
 refine Le rfl (zL [_,_,_,_,_,_,_,_,_] rfl rfl ?_)
 intro g5
 refine Le rfl (El [.int .i64 0,.int .i64 0,.int .i64 0,.slice none 0 0,.slice none 0 0,.slice none 0 0,.int .i64 0,.slice none 0 0] (by unfold Zf;kernel_rfl) ?_)
 intro g6
 refine La rfl rfl (Ld (Ts (TS (Lq rfl (Q0 (by kernel_rfl) rfl) (Lq rfl (Ql (by kernel_rfl) rfl rfl) (Ld ?_))))))
 refine yH (TS (Lq rfl (yU rfl rfl) (La rfl rfl (Ld ?_))))
 refine yN rfl (fun k0=>?_) (fun k0=>?_)
 ·
  rw [show stepR h o=beginR h by unfold stepR;rw [if_pos k0]]
  refine TS (Lq rfl (QL [_,_,_,_,_,_,_,_] (by kernel_rfl) rfl ⟨rfl,rfl,rfl,rfl,rfl,rfl,rfl,rfl,trivial⟩) ?_)
  refine Le rfl (Ec (Hr.begin B q h m hk.s hk.m (by omega)) Tryz.func65 rfl rfl rfl ?_)
  rintro _ _ ⟨q1,rfl,rfl⟩
  try simp only [cA,nA]
  refine Lm rfl rfl (Lq rfl (Qx rfl rfl) (Lq rfl (Qx rfl rfl) ?_))
  refine Le rfl (El [.int .i64 0,.int .i64 0,.int .i64 0,.slice none 0 0,.slice none 0 0,.slice none 0 0,.int .i64 0,.slice none 0 0] (by unfold Zf;kernel_rfl) ?_)
  intro g8
  refine L0 rfl (Es [_,_,_,_,_,_,_,_] (by kernel_rfl) rfl rfl rfl rfl (by simp) ?_)
  try simp only [splice,lC,lN,dS,cA,tS,tZ,dZ,nA,aN]
  refine La rfl rfl (Ld (Ts (zW 8 (some g6) (by kernel_rfl) (nB rfl) (by kernel_rfl) (Rq 0 rfl rfl (by kernel_rfl) Sa (QL [_,_,_,_,_,_,_,_] (by kernel_rfl) rfl ⟨rfl,rfl,rfl,rfl,rfl,rfl,rfl,rfl,trivial⟩) (Rq 1 rfl rfl (by kernel_rfl) Sa (Qm rfl) (Rq 2 rfl rfl (by kernel_rfl) Sa (Qn rfl) (Rq 3 rfl rfl (by kernel_rfl) Sa (Q0 (by kernel_rfl) rfl) ?_)))))))
  refine Rq 5 rfl rfl (by kernel_rfl) Sa (Qm rfl) (yK 4 (by kernel_rfl) ?_)
  refine z6 rfl rfl (Ec (Hp.begin B g b logs count n K h (by omega)) Tryz.func8 rfl rfl rfl ?_)
  rintro _ _ ⟨rfl,rfl⟩
  try simp only [cA,nA]
  refine ⟨Sa,?_⟩
  refine Rq 6 rfl rfl (by kernel_rfl) Sa (yU rfl rfl) (yK 7 (by kernel_rfl) ?_)
  refine YH rfl rfl (Es [_,_,_,_,_,_,_,_] (by kernel_rfl) rfl rfl rfl rfl (by simp) ?_)
  try simp only [splice,lC,lN,dS,cA,tS,tZ,dZ,nA,aN]
  refine ⟨Sa,?_⟩
  refine Rd0 (by rfl) ?_
  simp only [dS,dZ,dN]
  refine La rfl rfl (Ld ?_)
  simp only [decide_true]
  refine T.ret ?_
  exact ⟨.inl rfl,_,_,res [_,_] rfl ⟨rvA [_,_,_,_,_,_,_,_] (by kernel_rfl) rfl ⟨rfl,rfl,rfl,rfl,rfl,rfl,rfl,rfl,trivial⟩,rvT rfl,trivial⟩,⟨q1,K+1,by omega,rfl,rfl⟩,Sa⟩
 refine TS (Lq rfl (yU rfl rfl) (La rfl rfl (Ld ?_)))
 refine yN rfl (fun k1=>?_) (fun k1=>?_)
 ·
  rw [show stepR h o=(Wm h o.txn o.data).1 by unfold stepR;rw [if_neg k0,if_pos k1]]
  refine TS (Lq rfl (QL [_,_,_,_,_,_,_,_] (by kernel_rfl) rfl ⟨rfl,rfl,rfl,rfl,rfl,rfl,rfl,rfl,trivial⟩) (Lq rfl (Qf (off:=1) (by kernel_rfl) rfl) (Lq rfl (Ql (by kernel_rfl) rfl rfl) (Lq rfl (Qf (off:=4) (by kernel_rfl) rfl) (Lq rfl (Ql (by kernel_rfl) rfl rfl) (Lq rfl (Z2 o.data (by kernel_rfl) (by kernel_rfl) rfl (hdv.rd _).str) ?_))))))
  refine Le rfl (Ec (Hr.add B q h m hk.w o.txn o.data (by omega)) Tryz.func66 rfl rfl rfl ?_)
  rintro _ _ ⟨q1,rfl,rfl⟩
  try simp only [cA,nA]
  refine Lm rfl rfl (Lq rfl (Qx rfl rfl) (Lq rfl (Qx rfl rfl) (Lq rfl (Qx rfl rfl) (Lq rfl (Qx rfl rfl) ?_))))
  refine Le rfl (El [.int .i64 0,.int .i64 0,.int .i64 0,.slice none 0 0,.slice none 0 0,.slice none 0 0,.int .i64 0,.slice none 0 0] (by unfold Zf;kernel_rfl) ?_)
  intro g10
  refine L0 rfl (Es [_,_,_,_,_,_,_,_] (by kernel_rfl) rfl rfl rfl rfl (by simp) ?_)
  try simp only [splice,lC,lN,dS,cA,tS,tZ,dZ,nA,aN]
  refine La rfl rfl (La rfl rfl (La rfl rfl (Ld (TS (Lm rfl rfl (Lq rfl (Qf (off:=1) (by kernel_rfl) rfl) ?_))))))
  refine Lq rfl (Ql (by kernel_rfl) rfl rfl) (Lq rfl (Qf (off:=4) (by kernel_rfl) rfl) (Lq rfl (Ql (by kernel_rfl) rfl rfl) ?_))
  refine Le rfl (Ec (Hp.add B [] g b logs count n K h (by omega) o.txn da dc o.data (hdv.rd _) (by omega)) Tryz.func9 rfl rfl rfl ?_)
  rintro _ _ ⟨rfl,rfl⟩
  try simp only [cA,nA]
  refine Lm rfl rfl (Lq rfl (Qx rfl rfl) (Lq rfl (Qx rfl rfl) ?_))
  refine Le rfl (El [.int .i64 0,.int .i64 0] (by unfold Zf;kernel_rfl) ?_)
  intro g14
  refine L0 rfl (Es [_,_] (by kernel_rfl) rfl rfl rfl rfl (by simp) ?_)
  try simp only [splice,lC,lN,dS,cA,tS,tZ,dZ,nA,aN]
  refine La rfl rfl (Ld (TS (Lq rfl (QL [_,_,_,_,_,_,_,_] (by kernel_rfl) rfl ⟨rfl,rfl,rfl,rfl,rfl,rfl,rfl,rfl,trivial⟩) (Lq rfl (Q0 (by kernel_rfl) rfl) (Lq rfl (Ql (by kernel_rfl) rfl rfl) (Lm rfl rfl ?_))))))
  refine Lq rfl (yU rfl rfl) (Lm rfl rfl (zQ (t:=66) rfl (decide_eq_true (by omega)) (Lq rfl (Qf (off:=1) (by kernel_rfl) rfl) (Lq rfl (Ql (by kernel_rfl) rfl rfl) (Lm rfl rfl (Lq rfl (yU rfl rfl) (Lq rfl (Qp rfl rfl) ?_)))))))
  refine Lm rfl rfl (zQ (t:=72) rfl (decide_eq_true (by omega)) (Lm rfl rfl (Lm rfl rfl (Lq rfl (yU rfl rfl) (Lq rfl (Qp rfl rfl) ?_)))))
  refine L0 rfl (Es [_,_,_,_,_,_,_,_] (by kernel_rfl) rfl rfl rfl rfl (by simp) ?_)
  try simp only [splice,lC,lN,dS,cA,tS,tZ,dZ,nA,aN]
  refine La rfl rfl (Ld ?_)
  simp only [decide_true]
  refine T.ret ?_
  exact ⟨.inl rfl,_,_,res [_,_] rfl ⟨rvA [_,_,_,_,_,_,_,_] (by kernel_rfl) rfl ⟨rfl,rfl,rfl,rfl,rfl,rfl,rfl,rfl,trivial⟩,rvT rfl,trivial⟩,⟨q1,K+count+1,by omega,rfl,rfl⟩,Sa⟩
 refine TS (Lq rfl (yU rfl rfl) (La rfl rfl (Ld ?_)))
 refine yN rfl (fun k2=>?_) (fun k2=>?_)
 ·
  rw [show stepR h o=(endR h o.txn o.page o.slot).1 by unfold stepR;rw [if_neg k0,if_neg k1,if_pos k2]]
  refine TS (Lq rfl (QL [_,_,_,_,_,_,_,_] (by kernel_rfl) rfl ⟨rfl,rfl,rfl,rfl,rfl,rfl,rfl,rfl,trivial⟩) (Lq rfl (Qf (off:=1) (by kernel_rfl) rfl) (Lq rfl (Ql (by kernel_rfl) rfl rfl) (Lq rfl (Qf (off:=2) (by kernel_rfl) rfl) (Lq rfl (Ql (by kernel_rfl) rfl rfl) (Lq rfl (Qf (off:=3) (by kernel_rfl) rfl) ?_))))))
  refine Lq rfl (Ql (by kernel_rfl) rfl rfl) ?_
  refine Le rfl (Ec (Hr.end_ B q h m hk o.txn o.page o.slot) Tryz.func67 rfl rfl rfl ?_)
  rintro _ _ ⟨q1,rfl,rfl⟩
  try simp only [cA,nA]
  refine Lm rfl rfl (Lq rfl (Qx rfl rfl) (Lq rfl (Qx rfl rfl) ?_))
  refine Le rfl (El [.int .i64 0,.int .i64 0,.int .i64 0,.slice none 0 0,.slice none 0 0,.slice none 0 0,.int .i64 0,.slice none 0 0] (by unfold Zf;kernel_rfl) ?_)
  intro g16
  refine L0 rfl (Es [_,_,_,_,_,_,_,_] (by kernel_rfl) rfl rfl rfl rfl (by simp) ?_)
  try simp only [splice,lC,lN,dS,cA,tS,tZ,dZ,nA,aN]
  refine La rfl rfl (Ld (Ts (zW 13 (some g6) (by kernel_rfl) (nB rfl) (by kernel_rfl) (Rq 0 rfl rfl (by kernel_rfl) Sa (QL [_,_,_,_,_,_,_,_] (by kernel_rfl) rfl ⟨rfl,rfl,rfl,rfl,rfl,rfl,rfl,rfl,trivial⟩) (Rq 1 rfl rfl (by kernel_rfl) Sa (Qm rfl) (Rq 2 rfl rfl (by kernel_rfl) Sa (Qf (off:=1) (by kernel_rfl) rfl) (Rq 3 rfl rfl (by kernel_rfl) Sa (Ql (by kernel_rfl) rfl rfl) ?_)))))))
  refine Rq 4 rfl rfl (by kernel_rfl) Sa (Qf (off:=2) (by kernel_rfl) rfl) (Rq 5 rfl rfl (by kernel_rfl) Sa (Ql (by kernel_rfl) rfl rfl) (Rq 6 rfl rfl (by kernel_rfl) Sa (Qf (off:=3) (by kernel_rfl) rfl) (Rq 7 rfl rfl (by kernel_rfl) Sa (Ql (by kernel_rfl) rfl rfl) (Rq 8 rfl rfl (by kernel_rfl) Sa (z8 [(0,1),(1,1)] [.int .i64 0,.int .i64 0] [_,_] [(0,_),(1,_)] (by kernel_rfl) (by unfold Zf;kernel_rfl) rfl rfl) (Rq 10 rfl rfl (by kernel_rfl) Sa (Qm rfl) (yK 9 (by kernel_rfl) ?_))))))
  refine z6 rfl rfl (Ec (Hp.end_ B g b logs count n K h (by omega) o.txn o.page o.slot) Tryz.func10 rfl rfl rfl ?_)
  rintro _ _ ⟨rfl,rfl⟩
  try simp only [cA,nA]
  refine ⟨Sa,?_⟩
  refine Rq 11 rfl rfl (by kernel_rfl) Sa (yU rfl rfl) (yK 12 (by kernel_rfl) ?_)
  refine YH rfl rfl (Es [_,_,_,_,_,_,_,_] (by kernel_rfl) rfl rfl rfl rfl (by simp) ?_)
  try simp only [splice,lC,lN,dS,cA,tS,tZ,dZ,nA,aN]
  refine ⟨Sa,?_⟩
  refine Rd0 (by rfl) ?_
  simp only [dS,dZ,dN]
  refine La rfl rfl (Ld ?_)
  simp only [decide_true]
  refine T.ret ?_
  exact ⟨.inl rfl,_,_,res [_,_] rfl ⟨rvA [_,_,_,_,_,_,_,_] (by kernel_rfl) rfl ⟨rfl,rfl,rfl,rfl,rfl,rfl,rfl,rfl,trivial⟩,rvT rfl,trivial⟩,⟨q1,K+2,by omega,rfl,rfl⟩,Sa⟩
 refine TS (Lq rfl (yU rfl rfl) (La rfl rfl (Ld ?_)))
 refine yN rfl (fun k3=>?_) (fun k3=>?_)
 ·
  have hst:=(p.step (by omega) hc.2 o).s.c
  rw [show stepR h o=(Zl h o.txn o.stamp).1 by unfold stepR;rw [if_neg k0,if_neg k1,if_neg k2,if_pos k3]] at hst ⊢
  refine TS (Lq rfl (QL [_,_,_,_,_,_,_,_] (by kernel_rfl) rfl ⟨rfl,rfl,rfl,rfl,rfl,rfl,rfl,rfl,trivial⟩) (Lq rfl (Qf (off:=1) (by kernel_rfl) rfl) (Lq rfl (Ql (by kernel_rfl) rfl rfl) (Lq rfl (Qf (off:=5) (by kernel_rfl) rfl) (Lq rfl (Ql (by kernel_rfl) rfl rfl) ?_)))))
  refine Le rfl (Ec (Hr.commit B q h m hk o.txn o.stamp) Tryz.func31 rfl rfl rfl ?_)
  rintro _ _ ⟨q1,rfl,rfl⟩
  try simp only [cA,nA]
  refine Lm rfl rfl (Lq rfl (Qx rfl rfl) (Lq rfl (Qx rfl rfl) ?_))
  refine Le rfl (El [.int .i64 0,.int .i64 0,.int .i64 0,.slice none 0 0,.slice none 0 0,.slice none 0 0,.int .i64 0,.slice none 0 0] (by unfold Zf;kernel_rfl) ?_)
  intro g18
  refine L0 rfl (Es [_,_,_,_,_,_,_,_] (by kernel_rfl) rfl rfl rfl rfl (by simp) ?_)
  try simp only [splice,lC,lN,dS,cA,tS,tZ,dZ,nA,aN]
  refine La rfl rfl (Ld (Ts (zW 15 (some g6) (by kernel_rfl) (nB rfl) (by kernel_rfl) (Rq 0 rfl rfl (by kernel_rfl) Sa (QL [_,_,_,_,_,_,_,_] (by kernel_rfl) rfl ⟨rfl,rfl,rfl,rfl,rfl,rfl,rfl,rfl,trivial⟩) (Rq 1 rfl rfl (by kernel_rfl) Sa (Qm rfl) (Rq 2 rfl rfl (by kernel_rfl) Sa (Qf (off:=1) (by kernel_rfl) rfl) (Rq 3 rfl rfl (by kernel_rfl) Sa (Ql (by kernel_rfl) rfl rfl) ?_)))))))
  refine Rq 4 rfl rfl (by kernel_rfl) Sa (Qf (off:=5) (by kernel_rfl) rfl) (Rq 5 rfl rfl (by kernel_rfl) Sa (Ql (by kernel_rfl) rfl rfl) (Rq 7 rfl rfl (by kernel_rfl) Sa (Qm rfl) (yK 6 (by kernel_rfl) ?_)))
  refine z6 rfl rfl (Ec (Hp.commit B g b logs count n K h (by omega) o.txn o.stamp (by omega)) Tryz.func11 rfl rfl rfl ?_)
  rintro _ _ ⟨rfl,rfl⟩
  try simp only [cA,nA]
  refine ⟨Sa,?_⟩
  refine Rq 8 rfl rfl (by kernel_rfl) Sa (yU rfl rfl) (Rq 9 rfl rfl (by kernel_rfl) Sa (Qm rfl) (YY (t:=122) rfl (decide_eq_true (by omega)) (Rq 10 rfl rfl (by kernel_rfl) Sa (Qm rfl) (Rq 11 rfl rfl (by kernel_rfl) Sa (QL [_,_,_,_,_,_,_,_] (by kernel_rfl) rfl ⟨rfl,rfl,rfl,rfl,rfl,rfl,rfl,rfl,trivial⟩) (yK 12 (by kernel_rfl) ?_)))))
  refine z6 rfl rfl (Ec (Hp.commitsLaw B g b logs count n K q1 (Zl h o.txn o.stamp).1 (by omega)) Tryz.func30 rfl rfl rfl ?_)
  rintro _ _ ⟨rfl,rfl⟩
  try simp only [cA,nA]
  refine ⟨Sa,?_⟩
  refine Rq 13 rfl rfl (by kernel_rfl) Sa (Qp rfl rfl) (yK 14 (by kernel_rfl) ?_)
  refine YH rfl rfl (Es [_,_,_,_,_,_,_,_] (by kernel_rfl) rfl rfl rfl rfl (by simp) ?_)
  try simp only [splice,lC,lN,dS,cA,tS,tZ,dZ,nA,aN]
  refine ⟨Sa,?_⟩
  refine Rd0 (by rfl) ?_
  simp only [dS,dZ,dN]
  refine La rfl rfl (Ld (T.ret ?_))
  exact ⟨.inl rfl,_,_,res [_,_] rfl ⟨rvA [_,_,_,_,_,_,_,_] (by kernel_rfl) rfl ⟨rfl,rfl,rfl,rfl,rfl,rfl,rfl,rfl,trivial⟩,rvT rfl,trivial⟩,⟨q1,K,by omega,rfl,rfl⟩,Sa⟩
 refine TS (Lq rfl (yU rfl rfl) (La rfl rfl (Ld ?_)))
 refine yN rfl (fun k4=>?_) (fun k4=>?_)
 ·
  rw [show stepR h o=(abortR h o.txn).1 by unfold stepR;rw [if_neg k0,if_neg k1,if_neg k2,if_neg k3,if_pos k4]]
  refine TS (Lq rfl (QL [_,_,_,_,_,_,_,_] (by kernel_rfl) rfl ⟨rfl,rfl,rfl,rfl,rfl,rfl,rfl,rfl,trivial⟩) (Lq rfl (Qf (off:=1) (by kernel_rfl) rfl) (Lq rfl (Ql (by kernel_rfl) rfl rfl) ?_)))
  refine Le rfl (Ec (Hr.abort B q h o.txn m hk.s hk.m) Tryz.func68 rfl rfl rfl ?_)
  rintro _ _ ⟨q1,rfl,rfl⟩
  try simp only [cA,nA]
  refine Lm rfl rfl (Lq rfl (Qx rfl rfl) (Lq rfl (Qx rfl rfl) ?_))
  refine Le rfl (El [.int .i64 0,.int .i64 0,.int .i64 0,.slice none 0 0,.slice none 0 0,.slice none 0 0,.int .i64 0,.slice none 0 0] (by unfold Zf;kernel_rfl) ?_)
  intro g20
  refine L0 rfl (Es [_,_,_,_,_,_,_,_] (by kernel_rfl) rfl rfl rfl rfl (by simp) ?_)
  try simp only [splice,lC,lN,dS,cA,tS,tZ,dZ,nA,aN]
  refine La rfl rfl (Ld (Ts (zW 10 (some g6) (by kernel_rfl) (nB rfl) (by kernel_rfl) (Rq 0 rfl rfl (by kernel_rfl) Sa (QL [_,_,_,_,_,_,_,_] (by kernel_rfl) rfl ⟨rfl,rfl,rfl,rfl,rfl,rfl,rfl,rfl,trivial⟩) (Rq 1 rfl rfl (by kernel_rfl) Sa (Qm rfl) (Rq 2 rfl rfl (by kernel_rfl) Sa (Qn rfl) (Rq 3 rfl rfl (by kernel_rfl) Sa (Q0 (by kernel_rfl) rfl) ?_)))))))
  refine Rq 4 rfl rfl (by kernel_rfl) Sa (Qf (off:=1) (by kernel_rfl) rfl) (Rq 5 rfl rfl (by kernel_rfl) Sa (Ql (by kernel_rfl) rfl rfl) (Rq 7 rfl rfl (by kernel_rfl) Sa (Qm rfl) (yK 6 (by kernel_rfl) ?_)))
  refine z6 rfl rfl (Ec (Hp.abort B g b logs count n K h o.txn) Tryz.func12 rfl rfl rfl ?_)
  rintro _ _ ⟨rfl,rfl⟩
  try simp only [cA,nA]
  refine ⟨Sa,?_⟩
  refine Rq 8 rfl rfl (by kernel_rfl) Sa (yU rfl rfl) (yK 9 (by kernel_rfl) ?_)
  refine YH rfl rfl (Es [_,_,_,_,_,_,_,_] (by kernel_rfl) rfl rfl rfl rfl (by simp) ?_)
  try simp only [splice,lC,lN,dS,cA,tS,tZ,dZ,nA,aN]
  refine ⟨Sa,?_⟩
  refine Rd0 (by rfl) ?_
  simp only [dS,dZ,dN]
  refine La rfl rfl (Ld ?_)
  simp only [decide_true]
  refine T.ret ?_
  exact ⟨.inl rfl,_,_,res [_,_] rfl ⟨rvA [_,_,_,_,_,_,_,_] (by kernel_rfl) rfl ⟨rfl,rfl,rfl,rfl,rfl,rfl,rfl,rfl,trivial⟩,rvT rfl,trivial⟩,⟨q1,K,by omega,rfl,rfl⟩,Sa⟩
 rw [show stepR h o=h by unfold stepR;rw [if_neg k0,if_neg k1,if_neg k2,if_neg k3,if_neg k4]]
 refine TS (Lq rfl (yU rfl rfl) (La rfl rfl (Ld ?_)))
 refine yN rfl (fun k5=>?_) (fun k5=>?_)
 ·
  refine TR (Lm rfl rfl ?_)
  refine Le rfl (Ec (Hp.flush B g b logs count n K h (by omega)) Tryz.func69 rfl rfl rfl ?_)
  rintro _ _ ⟨rfl,rfl⟩
  try simp only [cA,nA]
  refine Ld (TS (Lq rfl (QL [_,_,_,_,_,_,_,_] (by kernel_rfl) rfl ⟨rfl,rfl,rfl,rfl,rfl,rfl,rfl,rfl,trivial⟩) ?_))
  refine L0 rfl (Es [_,_,_,_,_,_,_,_] (by kernel_rfl) rfl rfl rfl rfl (by simp) ?_)
  try simp only [splice,lC,lN,dS,cA,tS,tZ,dZ,nA,aN]
  refine La rfl rfl (Ld (T.ret ?_))
  exact ⟨.inl rfl,_,_,res [_,_] rfl ⟨rvA [_,_,_,_,_,_,_,_] (by kernel_rfl) rfl ⟨rfl,rfl,rfl,rfl,rfl,rfl,rfl,rfl,trivial⟩,rvT rfl,trivial⟩,⟨q,K,by omega,rfl,rfl⟩,Sa⟩
 refine TS (Lq rfl (yU rfl rfl) (La rfl rfl (Ld ?_)))
 refine yN rfl (fun k6=>?_) (fun k6=>?_)
 ·
  refine Ts (zW 23 (some g6) (by kernel_rfl) (nB rfl) (by kernel_rfl) (Rq 0 rfl rfl (by kernel_rfl) Sa (QL [_,_,_,_,_,_,_,_] (by kernel_rfl) rfl ⟨rfl,rfl,rfl,rfl,rfl,rfl,rfl,rfl,trivial⟩) (Rq 1 rfl rfl (by kernel_rfl) Sa (Qm rfl) (Rq 2 rfl rfl (by kernel_rfl) Sa (Qf (off:=3) (by kernel_rfl) rfl) (Rq 3 rfl rfl (by kernel_rfl) Sa (Ql (by kernel_rfl) rfl rfl) (Rq 4 rfl rfl (by kernel_rfl) Sa (Qf (off:=2) (by kernel_rfl) rfl) (Rq 5 rfl rfl (by kernel_rfl) Sa (Ql (by kernel_rfl) rfl rfl) ?_)))))))
  refine Rq 6 rfl rfl (by kernel_rfl) Sa (Qf (off:=4) (by kernel_rfl) rfl) (Rq 7 rfl rfl (by kernel_rfl) Sa (Ql (by kernel_rfl) rfl rfl) (Rq 8 rfl rfl (by kernel_rfl) Sa (yI (e:=5) (sz:=1) (by kernel_rfl) rfl) (Rq 11 rfl rfl (by kernel_rfl) Sa (QL [_,_,_,_,_,_,_,_] (by kernel_rfl) rfl ⟨rfl,rfl,rfl,rfl,rfl,rfl,rfl,rfl,trivial⟩) (Rq 12 rfl rfl (by kernel_rfl) Sa (Qf (off:=3) (by kernel_rfl) rfl) (Rq 13 rfl rfl (by kernel_rfl) Sa (Ql (by kernel_rfl) rfl rfl) (Rq 14 rfl rfl (by kernel_rfl) Sa (Qf (off:=2) (by kernel_rfl) rfl) (Rq 15 rfl rfl (by kernel_rfl) Sa (Ql (by kernel_rfl) rfl rfl) ?_)))))))
  refine Rq 16 rfl rfl (by kernel_rfl) Sa (Qf (off:=4) (by kernel_rfl) rfl) (Rq 17 rfl rfl (by kernel_rfl) Sa (Ql (by kernel_rfl) rfl rfl) (Rq 18 rfl rfl (by kernel_rfl) Sa (yI (e:=5) (sz:=1) (by kernel_rfl) rfl) ?_))
  refine YC [9,19] (by kernel_rfl) (List.forall_mem_cons.2 ⟨?_,List.forall_mem_cons.2 ⟨?_,List.forall_mem_nil _⟩⟩)
  ·
   refine z6 rfl rfl (ZC [_,_] (e:=3) (by kernel_rfl) (by kernel_rfl) rfl (by simp [Value.cells]) rfl (by omega) (by omega) ?_)
   intro g160
   refine ⟨Sa,?_⟩
   refine YC [10,19] (by kernel_rfl) (List.forall_mem_cons.2 ⟨?_,List.forall_mem_cons.2 ⟨?_,List.forall_mem_nil _⟩⟩)
   ·
    refine z6 rfl rfl (Ec (Hp.fits B [blk g160 [zV o.page,zV o.data.length] 3] g b logs count n K h (by omega) hc.1 o.slot ho.2 (some ⟨g160,0,none⟩) 2 2 [o.page,o.data.length] ⟨_,2,rfl,.inr ⟨g160,0,rfl,fun w ho=>ho.range (g:=g160) (C:=[zV o.page,zV o.data.length]) (fun j u hj=>by rw [Nat.zero_add];exact hj)⟩⟩ rfl (by omega)) Tryz.func70 rfl rfl rfl ?_)
    rintro _ _ ⟨rfl,rfl⟩
    try simp only [cA,nA]
    refine ⟨Sa,?_⟩
    refine yK 19 (by kernel_rfl) ?_
    refine z6 rfl rfl (ZC [_,_] (e:=3) (by kernel_rfl) (by kernel_rfl) rfl (by simp [Value.cells]) rfl (by omega) (by omega) ?_)
    intro g170
    refine ⟨Sa,?_⟩
    refine yK 20 (by kernel_rfl) ?_
    refine z6 rfl rfl (Ec (Hr.fitsC B q h m hk o.slot ho.2 g170 o.page o.data.length (by omega)) Tryz.func71 rfl rfl rfl ?_)
    rintro _ _ ⟨rfl,rfl⟩
    try simp only [cA,nA]
    refine ⟨Sa,?_⟩
    refine Rq 21 rfl rfl (by kernel_rfl) Sa (X2 (by kernel_rfl) rfl rfl) (yK 22 (by kernel_rfl) ?_)
    refine YH rfl rfl (Es [_,_,_,_,_,_,_,_] (by kernel_rfl) rfl rfl rfl rfl (by simp) ?_)
    try simp only [splice,lC,lN,dS,cA,tS,tZ,dZ,nA,aN]
    refine ⟨Sa,?_⟩
    refine Rd0 (by rfl) ?_
    simp only [dS,dZ,dN]
    refine La rfl rfl (Ld ?_)
    simp only [beq_self_eq_true]
    refine T.ret ?_
    exact ⟨.inl rfl,_,_,res [_,_] rfl ⟨rvA [_,_,_,_,_,_,_,_] (by kernel_rfl) rfl ⟨rfl,rfl,rfl,rfl,rfl,rfl,rfl,rfl,trivial⟩,rvT rfl,trivial⟩,⟨q,K+count,by omega,rfl,rfl⟩,Sa⟩
   refine z6 rfl rfl (ZC [_,_] (e:=3) (by kernel_rfl) (by kernel_rfl) rfl (by simp [Value.cells]) rfl (by omega) (by omega) ?_)
   intro g170
   refine ⟨Sa,?_⟩
   refine yK 10 (by kernel_rfl) ?_
   refine z6 rfl rfl (Ec (Hp.fits B [blk g160 [zV o.page,zV o.data.length] 3] g b logs count n K h (by omega) hc.1 o.slot ho.2 (some ⟨g160,0,none⟩) 2 2 [o.page,o.data.length] ⟨_,2,rfl,.inr ⟨g160,0,rfl,fun w ho=>ho.range (g:=g160) (C:=[zV o.page,zV o.data.length]) (fun j u hj=>by rw [Nat.zero_add];exact hj)⟩⟩ rfl (by omega)) Tryz.func70 rfl rfl rfl ?_)
   rintro _ _ ⟨rfl,rfl⟩
   try simp only [cA,nA]
   refine ⟨Sa,?_⟩
   refine yK 20 (by kernel_rfl) ?_
   refine z6 rfl rfl (Ec (Hr.fitsC B q h m hk o.slot ho.2 g170 o.page o.data.length (by omega)) Tryz.func71 rfl rfl rfl ?_)
   rintro _ _ ⟨rfl,rfl⟩
   try simp only [cA,nA]
   refine ⟨Sa,?_⟩
   refine Rq 21 rfl rfl (by kernel_rfl) Sa (X2 (by kernel_rfl) rfl rfl) (yK 22 (by kernel_rfl) ?_)
   refine YH rfl rfl (Es [_,_,_,_,_,_,_,_] (by kernel_rfl) rfl rfl rfl rfl (by simp) ?_)
   try simp only [splice,lC,lN,dS,cA,tS,tZ,dZ,nA,aN]
   refine ⟨Sa,?_⟩
   refine Rd0 (by rfl) ?_
   simp only [dS,dZ,dN]
   refine La rfl rfl (Ld ?_)
   simp only [beq_self_eq_true]
   refine T.ret ?_
   exact ⟨.inl rfl,_,_,res [_,_] rfl ⟨rvA [_,_,_,_,_,_,_,_] (by kernel_rfl) rfl ⟨rfl,rfl,rfl,rfl,rfl,rfl,rfl,rfl,trivial⟩,rvT rfl,trivial⟩,⟨q,K+count,by omega,rfl,rfl⟩,Sa⟩
  refine z6 rfl rfl (ZC [_,_] (e:=3) (by kernel_rfl) (by kernel_rfl) rfl (by simp [Value.cells]) rfl (by omega) (by omega) ?_)
  intro g170
  refine ⟨Sa,?_⟩
  refine yK 9 (by kernel_rfl) ?_
  refine z6 rfl rfl (ZC [_,_] (e:=3) (by kernel_rfl) (by kernel_rfl) rfl (by simp [Value.cells]) rfl (by omega) (by omega) ?_)
  intro g160
  refine ⟨Sa,?_⟩
  refine yK 10 (by kernel_rfl) ?_
  refine z6 rfl rfl (Ec (Hp.fits B [blk g160 [zV o.page,zV o.data.length] 3] g b logs count n K h (by omega) hc.1 o.slot ho.2 (some ⟨g160,0,none⟩) 2 2 [o.page,o.data.length] ⟨_,2,rfl,.inr ⟨g160,0,rfl,fun w ho=>ho.range (g:=g160) (C:=[zV o.page,zV o.data.length]) (fun j u hj=>by rw [Nat.zero_add];exact hj)⟩⟩ rfl (by omega)) Tryz.func70 rfl rfl rfl ?_)
  rintro _ _ ⟨rfl,rfl⟩
  try simp only [cA,nA]
  refine ⟨Sa,?_⟩
  refine yK 20 (by kernel_rfl) ?_
  refine z6 rfl rfl (Ec (Hr.fitsC B q h m hk o.slot ho.2 g170 o.page o.data.length (by omega)) Tryz.func71 rfl rfl rfl ?_)
  rintro _ _ ⟨rfl,rfl⟩
  try simp only [cA,nA]
  refine ⟨Sa,?_⟩
  refine Rq 21 rfl rfl (by kernel_rfl) Sa (X2 (by kernel_rfl) rfl rfl) (yK 22 (by kernel_rfl) ?_)
  refine YH rfl rfl (Es [_,_,_,_,_,_,_,_] (by kernel_rfl) rfl rfl rfl rfl (by simp) ?_)
  try simp only [splice,lC,lN,dS,cA,tS,tZ,dZ,nA,aN]
  refine ⟨Sa,?_⟩
  refine Rd0 (by rfl) ?_
  simp only [dS,dZ,dN]
  refine La rfl rfl (Ld ?_)
  simp only [beq_self_eq_true]
  refine T.ret ?_
  exact ⟨.inl rfl,_,_,res [_,_] rfl ⟨rvA [_,_,_,_,_,_,_,_] (by kernel_rfl) rfl ⟨rfl,rfl,rfl,rfl,rfl,rfl,rfl,rfl,trivial⟩,rvT rfl,trivial⟩,⟨q,K+count,by omega,rfl,rfl⟩,Sa⟩
 refine Tk (TS (Lq rfl (QL [_,_,_,_,_,_,_,_] (by kernel_rfl) rfl ⟨rfl,rfl,rfl,rfl,rfl,rfl,rfl,rfl,trivial⟩) ?_))
 refine L0 rfl (Es [_,_,_,_,_,_,_,_] (by kernel_rfl) rfl rfl rfl rfl (by simp) ?_)
 try simp only [splice,lC,lN,dS,cA,tS,tZ,dZ,nA,aN]
 refine La rfl rfl (Ld (T.ret ?_))
 exact ⟨.inl rfl,_,_,res [_,_] rfl ⟨rvA [_,_,_,_,_,_,_,_] (by kernel_rfl) rfl ⟨rfl,rfl,rfl,rfl,rfl,rfl,rfl,rfl,trivial⟩,rvT rfl,trivial⟩,⟨q,K,by omega,rfl,rfl⟩,Sa⟩
open Go.RowKit
theorem all_data {h:HR} (r:RInv h) {x:Ver} (hx:x∈allR h):x.data.length≤184:=by
 obtain ⟨i,v,h1,h2,h3,_⟩:=all_mem r hx
 have hv:=(r.ok.vok v (List.mem_of_getElem? h2)).2.1
 have:x.data=v.data:=by
  unfold visV at h3
  split at h3
  · cases h3
  · split at h3 <;> (cases h3;rfl)
 rw [this];exact hv
open Go.RowKit
theorem restart_S (h:HR) : ∀ i,i≤h.es.length→HrS (Zs h i) i
 | 0,_=>⟨Nat.le_refl 0,Nat.le_refl 0,Nat.le_refl 0,Nat.le_refl 0⟩
 | i+1,hi=>by
  have ih:=restart_S h i (by omega)
  have hx:h.es[i]? = some h.es[i]:=List.getElem?_eq_getElem (by omega)
  have e:h.es.take (i+1)=h.es.take i++[h.es[i]]:=by rw [List.take_add_one,hx];rfl
  have w:=HrS.write (h:=Zs h i) (m:=i) ih h.es[i]
  unfold Zs at w ⊢
  rw [e,replay_snoc]
  exact ⟨w.v,w.a,w.c,w.e⟩
open Go.RowKit
def secsD (D:DD) (N:Nat):List (List UInt8):=(List.range N).map D.read
theorem secsD_len (D:DD) (N:Nat):(secsD D N).length=N:=by simp [secsD]
theorem secsD_next (D:DD) (k:Nat):secsD D (k+1)=secsD D k++[D.read k]:=by unfold secsD;rw [List.range_succ,List.map_append];rfl
theorem secsD_at {D:DD} {N k:Nat} (h:k<N):(secsD D N)[k]? = some (D.read k):=by unfold secsD;rw [List.getElem?_map,List.getElem?_range h];rfl
theorem Hl.image (B:Wn) (b:Nat) (D:DD) (N:Nat) (hN:D.secs.length=N) (hD:D.Ok) (hp:D.pend.length<2^32) :
  Fn Tryz.prog B 23 #[pV b] [Zn b D] (fun u l => ∃ p a,u = .slice p N a∧l=[rS (.slice p N a) N (secsD D N),Zn b D]):=by
 have hmax:N≤4096:=by rw [←hN];exact hD.max
 refine Wq 27 Tryz.func23 rfl rfl (nB rfl) (fun F=>?_)
 try simp only [cA,nA]
 refine TS (La rfl rfl (Ld (TS (La rfl rfl (Ld ?_)))))
 refine Ts (TS (La rfl rfl (Ld (yH (T.conv (fun w ho=>Rf.nilS ho) ?_)))))
 refine zG (fun mz fz lz => ∃ (f0:Fr) (k:Nat) (p:Option Addr) (a:Nat) (Sc:List (List UInt8)),(k≤N∧Sc=secsD D k)∧mz=N-k∧fz=(upd (upd (upd f0 0 (pV b)) 3 (.slice p k a)) 4 (.int .i64 k))∧lz=rS (.slice p k a) k Sc::Zn b D::F) ?_ ?_
 · refine ⟨_,_,⟨_,0,none,0,[],⟨Nat.zero_le _,rfl⟩,rfl,(Za rfl (Za rfl (Za rfl rfl))),rfl⟩,Sa⟩
 rintro mz fz lz ⟨f0,k,p,a,Sc,⟨hk,hS⟩,hmz,rfl,rfl⟩
 subst mz
 refine Ts (TS (Lm rfl rfl (Lm rfl rfl (Lq rfl (Qn rfl) (Lq rfl (Q0 (by kernel_rfl) rfl) ?_)))))
 refine Le rfl (Ec (Dk.sectorsF B b D) Tryz.func34 rfl rfl rfl ?_)
 rintro _ _ ⟨rfl,rfl⟩
 try simp only [cA,nA]
 rw [hN]
 refine Lq rfl (yM rfl rfl) (Ld ?_)
 refine yN rfl (fun hlt=>?_) (fun hlt=>?_)
 ·
  have hrl:(D.read k).length=256:=hD.rd k (by omega)
  refine Tk (Ts (yH (TS (Lm rfl rfl (Lm rfl rfl ?_)))))
  refine Le rfl (Ec (Dk.readF B b D k _ rfl (by omega) (by omega)) Tryz.func32 rfl rfl rfl ?_)
  rintro _ _ ⟨g,cap,rfl,rfl⟩
  try simp only [cA,nA]
  refine Lm rfl rfl (Lq rfl (Qx rfl rfl) (Lq rfl (Qx rfl rfl) (La rfl rfl (La rfl rfl (Ld (TR (Lm rfl rfl ?_)))))))
  refine Lm rfl rfl (Lq rfl (Z2 (D.read k) (by kernel_rfl) (by kernel_rfl) rfl (fun _ ho=>ho.reads_row hrl)) ?_)
  refine Le rfl (zK [_] (e:=9) (sz:=1) (by kernel_rfl) ⟨.string .empty,by kernel_rfl,rfl⟩ rfl rfl rfl (by omega) (by omega) ?_)
  intro g24
  refine Le rfl (Ea Rf.elemS rfl rfl (SrcOf.blk (by kernel_rfl) rfl (by simp [Value.oneCell'])) (by unfold maxLen;omega) (by omega) ?_)
  rintro p2 a2 hp2
  rw [show Value.string (Zq (D.read k))=strW (D.read k) from rfl,map_snoc]
  refine La rfl rfl (Ld (TR (Lm rfl rfl (Lq rfl (Qd rfl rfl (Ze (by omega) (by omega))) (La rfl rfl (Ld ?_))))))
  refine ⟨_,?_,_,⟨_,k+1,p2,a2,Sc++[D.read k],⟨by omega,by rw [hS,secsD_next]⟩,rfl,(Za rfl (Za rfl (Za rfl rfl))),rfl⟩,Sa⟩
  omega
 obtain rfl:k=N:=by omega
 subst hS
 refine zB (TS (Lm rfl rfl (La rfl rfl (Ld (T.ret ?_)))))
 exact ⟨.inl rfl,_,_,res [_] rfl ⟨rvT rfl,trivial⟩,⟨p,a,rfl,rfl⟩,Sa⟩
theorem secsD_allD (D:DD) (N:Nat) : ∀ n,n≤N→allD ⟨secsD D N,[]⟩ 0 n=allD D 0 n:=allD_map D N
theorem secsD_Ok {D:DD} (h:D.Ok) {N:Nat} (hN:D.secs.length=N):DD.Ok ⟨secsD D N,[]⟩:=h.map hN
def MixR (X Y:DD) (logs:Nat) (u:Value):Prop := ∃ bb k1 s1 R1 k2 s2 R2,u = .bool bb∧Wj (allD X 0 logs) (logs*256+1) 0 0=(k1,s1,R1)∧Wj (allD Y 0 logs) (logs*256+1) 0 0=(k2,s2,R2)∧(bb=false→k1≤k2∧(allD X 0 logs).take k1=((allD Y 0 logs).take k2).take k1)
theorem scan_len {D:DD} {logs k:Nat} {s:UInt32} {R:List (Nat×List UInt8)} (hD:D.Ok) (hl:logs≤D.secs.length) (h:Wj (allD D 0 logs) (logs*256+1) 0 0=(k,s,R)):((allD D 0 logs).take k).length=k∧k≤logs*256:=by
 obtain ⟨es,_,k2,_,k4⟩:=scan_back (logs*256+1) 0 0 (allD D 0 logs) (Nat.zero_le _)
 rw [h] at k2
 injection k2 with k2 _
 have:=allD_length hD (first:=0) logs (by omega)
 rw [List.length_take]
 omega
theorem Hl.mixed (B:Wn) (X Y:DD) (N logs:Nat) (hX:X.secs.length=N) (hY:Y.secs.length=N) (oX:X.Ok) (oY:Y.Ok) (h1:1≤logs) (hl:logs≤N) (i:Int) (hi:i=logs) (px py:Option Addr) (ax ay:Nat) :
  Fn Tryz.prog B 24 #[.int .i64 i,.slice py N ay,.slice px N ax] [rS (.slice py N ay) N (secsD Y N),rS (.slice px N ax) N (secsD X N)] (fun u l=>MixR X Y logs u∧l=[rS (.slice py N ay) N (secsD Y N),rS (.slice px N ax) N (secsD X N)]):=by
 subst hi
 have hmax:N≤4096:=by rw [←hX];exact oX.max
 refine Ws 55 Tryz.func24 rfl rfl (nB rfl) (fun F=>?_)
 try simp only [cA,nA]
 refine TS (La rfl rfl (Ld (TS ?_)))
 refine Le rfl (Y8 Rf.elemS ?_)
 rintro ge
 refine Lm rfl rfl ?_
 refine Le rfl (Ea Rf.elemS rfl rfl (SrcOf.row (by kernel_rfl) one_strW) (by unfold maxLen;omega) (by omega) ?_)
 rintro p1 c1 hp1
 try simp only [cA,nA]
 simp only [Nat.zero_add,List.nil_append]
 refine Lq rfl (z8 [(0,1),(1,1)] [.slice none 0 0,.slice none 0 0] [_,_] [(0,_)] (by kernel_rfl) (by unfold Zf;kernel_rfl) rfl rfl) (Lm rfl rfl (LW.conv (fun w ho=>Rf.nilW ho) ?_))
 refine Le rfl (Ec (Rl.open B ⟨secsD X N,[]⟩ p1 none c1 0 N 0 (secsD_len _ _) rfl (secsD_Ok oX hX) (by omega) 0 logs 0 logs rfl rfl h1 (by omega)) Tryz.func25 rfl rfl rfl ?_)
 rintro _ _ ⟨p3,a3,k1,s1,R1,q3,c3,x1,rfl,rfl⟩
 try simp only [cA,nA]
 rw [secsD_allD X N logs hl] at x1 ⊢
 obtain ⟨l1,l2⟩:=scan_len oX (by omega) x1
 refine Lm rfl rfl (Lq rfl (Qx rfl rfl) (Lq rfl (Qx rfl rfl) (Lq rfl (Qx rfl rfl) (Lq rfl (Qx rfl rfl) ?_))))
 refine Le rfl (El [.slice none 0 0,.slice none 0 0] (by unfold Zf;kernel_rfl) ?_)
 intro g7
 refine Le rfl (El [.string .empty,.int .u32 0,.int .i64 0,.int .i64 0,.int .i64 0] (by unfold Zf;kernel_rfl) ?_)
 intro g8
 refine L0 rfl (Es [_,_] (by kernel_rfl) rfl rfl rfl rfl (by simp) ?_)
 try simp only [splice,lC,lN,dS,cA,tS,tZ,dZ,nA,aN]
 refine L0 rfl (Es [_,_,_,_,_] (by kernel_rfl) rfl rfl rfl rfl (by simp) ?_)
 try simp only [splice,lC,lN,dS,cA,tS,tZ,dZ,nA,aN]
 refine La rfl rfl (La rfl rfl (Ld (TS ?_)))
 refine Le rfl (Y8 Rf.elemS ?_)
 rintro gf
 refine Lm rfl rfl ?_
 refine Le rfl (Ea Rf.elemS rfl rfl (SrcOf.row (by kernel_rfl) one_strW) (by unfold maxLen;omega) (by omega) ?_)
 rintro p2 c2 hp2
 try simp only [cA,nA]
 simp only [Nat.zero_add,List.nil_append]
 refine Lq rfl (z8 [(0,1),(1,1)] [.slice none 0 0,.slice none 0 0] [_,_] [(0,_)] (by kernel_rfl) (by unfold Zf;kernel_rfl) rfl rfl) (Lm rfl rfl (LW.conv (fun w ho=>Rf.nilW ho) ?_))
 refine Le rfl (Ec (Rl.open B ⟨secsD Y N,[]⟩ p2 none c2 0 N 0 (secsD_len _ _) rfl (secsD_Ok oY hY) (by omega) 0 logs 0 logs rfl rfl h1 (by omega)) Tryz.func25 rfl rfl rfl ?_)
 rintro _ _ ⟨p4,a4,k2,s2,R2,q4,c4,x2,rfl,rfl⟩
 try simp only [cA,nA]
 rw [secsD_allD Y N logs hl] at x2 ⊢
 obtain ⟨l3,l4⟩:=scan_len oY (by omega) x2
 refine Lm rfl rfl (Lq rfl (Qx rfl rfl) (Lq rfl (Qx rfl rfl) (Lq rfl (Qx rfl rfl) (Lq rfl (Qx rfl rfl) ?_))))
 refine Le rfl (El [.slice none 0 0,.slice none 0 0] (by unfold Zf;kernel_rfl) ?_)
 intro g11
 refine Le rfl (El [.string .empty,.int .u32 0,.int .i64 0,.int .i64 0,.int .i64 0] (by unfold Zf;kernel_rfl) ?_)
 intro g12
 refine L0 rfl (Es [_,_] (by kernel_rfl) rfl rfl rfl rfl (by simp) ?_)
 try simp only [splice,lC,lN,dS,cA,tS,tZ,dZ,nA,aN]
 refine L0 rfl (Es [_,_,_,_,_] (by kernel_rfl) rfl rfl rfl rfl (by simp) ?_)
 try simp only [splice,lC,lN,dS,cA,tS,tZ,dZ,nA,aN]
 refine La rfl rfl (La rfl rfl (Ld (Ts (zU 18 (by kernel_rfl) (nB rfl) (by kernel_rfl) (Rq 0 rfl rfl (by kernel_rfl) (Sr _) (Q0 (by kernel_rfl) rfl) (Rq 1 rfl rfl (by kernel_rfl) (Sr _) (Ql (by kernel_rfl) rfl rfl) (Rq 2 rfl rfl (by kernel_rfl) (Sr _) (YU (by kernel_rfl) rfl) ?_)))))))
 refine Rq 3 rfl rfl (by kernel_rfl) (Sr _) (Q0 (by kernel_rfl) rfl) (Rq 4 rfl rfl (by kernel_rfl) (Sr _) (Ql (by kernel_rfl) rfl rfl) (Rq 5 rfl rfl (by kernel_rfl) (Sr _) (YU (by kernel_rfl) rfl) (Rq 6 rfl rfl (by kernel_rfl) (Sr _) (yZ rfl rfl) (Rq 7 rfl rfl (by kernel_rfl) (Sr _) (Qm rfl) ?_))))
 refine YE (t:=44) rfl (fun hgt=>?_) (fun hgt=>?_)
 ·
  try replace hgt:=of_decide_eq_true hgt
  refine yY 8 rfl rfl (by kernel_rfl) (Sr _) (yY 9 rfl rfl (by kernel_rfl) (Sr _) (yY 10 rfl rfl (by kernel_rfl) (Sr _) (yY 11 rfl rfl (by kernel_rfl) (Sr _) (yY 12 rfl rfl (by kernel_rfl) (Sr _) (yY 13 rfl rfl (by kernel_rfl) (Sr _) (yY 14 rfl rfl (by kernel_rfl) (Sr _) (yY 15 rfl rfl (by kernel_rfl) (Sr _) ?_)))))))
  refine yY 16 rfl rfl (by kernel_rfl) (Sr _) (Rq 17 rfl rfl (by kernel_rfl) (Sr _) (Qp rfl rfl) (Rd0 (by rfl) ?_))
  simp only [dS,dZ,dN]
  refine La rfl rfl (Ld (T.ret ?_))
  exact ⟨.inl rfl,_,_,res [_] rfl ⟨rvT rfl,trivial⟩,⟨⟨true,_,_,_,_,_,_,rfl,x1,x2,fun h=>by cases h⟩,rfl⟩,Sa⟩
 try replace hgt:=of_decide_eq_false hgt
 refine Rq 8 rfl rfl (by kernel_rfl) (Sr _) (Q0 (by kernel_rfl) rfl) (Rq 9 rfl rfl (by kernel_rfl) (Sr _) (Ql (by kernel_rfl) rfl rfl) (Rq 10 rfl rfl (by kernel_rfl) (Sr _) (Q0 (by kernel_rfl) rfl) (Rq 11 rfl rfl (by kernel_rfl) (Sr _) (Ql (by kernel_rfl) rfl rfl) (Rq 12 rfl rfl (by kernel_rfl) (Sr _) (Q0 (by kernel_rfl) rfl) (Rq 13 rfl rfl (by kernel_rfl) (Sr _) (Ql (by kernel_rfl) rfl rfl) (Rq 14 rfl rfl (by kernel_rfl) (Sr _) (YU (by kernel_rfl) rfl) (Rq 15 rfl rfl (by kernel_rfl) (Sr _) (Qt.sliceS_ns k1 (by kernel_rfl) rfl rfl (by rw [l1]) (by omega)) ?_)))))))
 refine Rq 16 rfl rfl (by kernel_rfl) (Sr _) (Qt.neqS rfl rfl) (Rq 17 rfl rfl (by kernel_rfl) (Sr _) (Qp rfl rfl) (Rd0 (by rfl) ?_))
 simp only [dS,dZ,dN]
 refine La rfl rfl (Ld (T.ret ?_))
 exact ⟨.inl rfl,_,_,res [_] rfl ⟨rvT rfl,trivial⟩,⟨⟨_,_,_,_,_,_,_,rfl,x1,x2,fun h=>⟨by omega,by simpa using h⟩⟩,rfl⟩,Sa⟩
open Go.RowKit
theorem lastE_mono {h:HR} (r:RInv h) (n:Nat):0≤lastE (h.es.take n)∧lastE (h.es.take n)≤h.last:=by
 refine ⟨(lastE_le _ _).1,?_⟩
 have key : ∀ (es:List En) (m x:Int),m≤x→(∀ e∈es,e.txn≤x)→es.foldl (fun m e=>max m e.txn) m≤x:=by
  intro es
  induction es with
  | nil=>intro m x h _;exact h
  | cons e es ih=>intro m x h1 h2;exact ih _ _ (by have:=h2 e (by simp);dsimp only;omega) (fun e he=>h2 e (by simp [he]))
 exact key _ _ _ r.last0 (fun e he=>r.lst e (List.mem_of_mem_take he))
open Go.RowKit
theorem PlayI.restart {h:HR} {c rm m:Nat} (p:PlayI h c rm m) (n:Nat):PlayI (Zs h n) c rm m:=by
 have h1:Zs h n=Zs h (min n h.es.length):=by unfold Zs;rw [←List.take_take,List.take_length]
 have hs:=restart_S h (min n h.es.length) (by omega)
 have:=p.s.e
 have e1:(Zs h n).pages=h.pages:=(replay_es _ _ _).2.1
 have e2:(Zs h n).room=h.room:=(replay_es _ _ _).2.2.1
 exact ⟨p.r.restart n,by rw [h1];exact hs.mono (by omega),e1.trans p.pages,e2.trans p.room,by have:=lastE_mono p.r n;have:=p.last;show lastE _≤_;omega⟩
theorem reopen_restart {h:HR} {c rm m:Nat} (p:PlayI h c rm m) (k:Nat):reopen c rm (h.es.take k)=Zs h k:=by unfold Zs;rw [p.pages,p.room]
end Go.Proofs.YtfjjgdnepfgnhaaGreatDoor
