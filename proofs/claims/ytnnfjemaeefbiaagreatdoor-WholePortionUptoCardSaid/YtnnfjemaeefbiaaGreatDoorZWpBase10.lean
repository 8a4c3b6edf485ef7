/- The texts PqB QgA QgB NfA NfB, one behind the other: what the law leans on. Conditions: as each theorem says. -/
import Derived.Test.YtnnfjemaeefbiaaGreatDoorZWpBase9
set_option linter.unusedSimpArgs false
set_option linter.unusedVariables false
set_option maxRecDepth 100000
set_option maxHeartbeats 16000000
namespace Go.Proofs.YtnnfjemaeefbiaaGreatDoor
open Go.RowKit
abbrev sAND : Str:=[65,78,68]
abbrev sOR : Str:=[79,82]
abbrev sNOT : Str:=[78,79,84]
def W5 : List T3:=[(1,[83,69,76,69,67,84],0),(4,[42],0),(1,[70,82,79,77],0),(1,[84],0),(1,[87,72,69,82,69],0)]
def preW : Str:=[115,101,108,101,99,116,32,42,32,102,114,111,109,32,116,32,119,104,101,114,101]
def preT : Str:=preW++[32]
theorem lex_preW : lexF preW=some W5:=by decide +kernel
theorem lex_pre (s:Str):lexF (preT++s)=(lexF s).map (W5 ++ ·):=by
  unfold preT
  rw [List.append_assoc,lexF_app (λ c hc => .inr (by simpa using hc.symm)) lex_preW,List.singleton_append,lexF_space]
def isT3 (l:List T3) (a:Nat) (k:Int) (ts:List Str):Bool:=match l[a]? with | none=>false | some x=>decide (x.1=k) && (ts.isEmpty || ts.contains x.2.1)
theorem isT_3 (L:List Tok) (a:Nat) (k:Int) (ts:List Str):isT L a k ts=isT3 (L.map tk3) a k ts:=by
  unfold isT isT3
  rw [List.getElem?_map]
  cases L[a]? <;> rfl
theorem isT_at {L:List Tok} {a:Nat} {t:T3} (h:(L.map tk3)[a]? = some t) (k:Int) (ts:List Str):isT L a k ts=(decide (t.1=k) && (ts.isEmpty || ts.contains t.2.1)):=by rw [isT_3];unfold isT3;rw [h]
theorem oneT_at {L:List Tok} {a:Nat} {t:T3} (h:(L.map tk3)[a]? = some t) (s:Str):oneT L a s=((decide (t.1=1) && [s].contains t.2.1) || (decide (t.1=4) && [s].contains t.2.1)):=by unfold oneT;rw [isT_at h,isT_at h];rfl
theorem isT_out {L:List Tok} {a:Nat} (h:(L.map tk3)[a]? = none) (k:Int) (ts:List Str):isT L a k ts=false:=by rw [isT_3];unfold isT3;rw [h]
theorem oneT_out {L:List Tok} {a:Nat} (h:(L.map tk3)[a]? = none) (s:Str):oneT L a s=false:=by unfold oneT;rw [isT_out h,isT_out h];rfl
theorem lstR_len {α:Type} {q:Sq} {R:Nat->PE (α×Nat)} : ∀ (f:Nat) (xs:List α) (a:Nat) (r:List α×Nat),lstR q R f xs a = .ok r->xs.length<=r.1.length
  | 0,xs,a,r,h=>by unfold lstR at h;cases h;exact Nat.le_refl _
  | f+1,xs,a,r,h=>by
    rw [lstR_succ] at h
    split at h
    . split at h
      . cases h
      . have:=lstR_len f _ _ _ h;simp at this;omega
    . cases h;exact Nat.le_refl _
theorem unR_n {q:Sq} : ∀ (f n b:Nat) (r:Nat×Nat),unR q f n b = .ok r->n<=r.1
  | 0,n,b,r,h=>by unfold unR at h;cases h;exact Nat.le_refl _
  | f+1,n,b,r,h=>by
    rw [unR_succ] at h
    split at h
    . split at h
      . cases h
      . have:=unR_n f _ _ _ h;omega
    . cases h;exact Nat.le_refl _
theorem if_err {P:Prop} [Decidable P] {α:Type} {e:Int×Int} {x:PE α} {r:α} (h:(if P then Except.error e else x) = .ok r):x = .ok r:=by
  split at h
  . cases h
  . exact h
theorem queryR_pre {q:Sq} {ls:List T3} (h:q.L.map tk3=W5++ls):queryR q 0=match exprR q 5 with
    | .error x => .error x
    | .ok (e,b) => .ok ([e],b):=by
  have at_ : ∀ (i:Nat) (t:T3),(W5++ls)[i]? = some t->(q.L.map tk3)[i]? = some t:=λ i t e=>by rw [h];exact e
  have h0:=oneT_at (at_ 0 _ rfl) [83,69,76,69,67,84]
  have h1:=oneT_at (at_ 1 _ rfl) [67,79,65,76,69,83,67,69]
  have h2:=oneT_at (at_ 1 _ rfl) [42]
  have h3:=oneT_at (at_ 2 _ rfl) [70,82,79,77]
  have h4:=oneT_at (at_ 4 _ rfl) [44]
  have h5:=oneT_at (at_ 4 _ rfl) [87,72,69,82,69]
  have hn:nameR q 3 = .ok ([84],4):=by
    have e:=at_ 3 _ rfl
    rw [List.getElem?_map] at e
    cases hx:q.L[3]? with
    | none=>rw [hx] at e;cases e
    | some x =>
      rw [hx] at e
      simp only [Option.map_some,Option.some.injEq,Prod.mk.injEq] at e
      unfold nameR
      rw [hx]
      dsimp only
      rw [if_pos ⟨e.1,by rw [e.2.1];decide,by rw [e.2.1];decide⟩,e.2.1]
  unfold queryR
  rw [mustA_cons,if_pos (by rw [h0];decide)]
  dsimp only [mustA]
  rw [mayA_one,if_neg (by rw [h1];decide)]
  dsimp only [Option.getD]
  unfold headQ
  rw [if_pos (by rw [h2];decide)]
  dsimp only
  unfold tabsQ
  rw [mustA_cons,if_pos (by rw [h3];decide)]
  dsimp only [mustA]
  rw [hn]
  dsimp only
  rw [if_neg (by rw [h4];decide)]
  dsimp only
  unfold whereR
  rw [if_pos (by rw [h5];decide)]
  show (match exprR q 5 with
    | .error x=>_
    | .ok (e,b)=>_)=_
  cases exprR q 5 <;> rfl
structure CondOk (s:Str) (e:Ex):Prop where
  ok : ∃ q x,lexR (preT++s) = .ok q.L/\parR q = .ok x/\x.n=1/\x.k+x.m+x.o=0/\x.wh=[e]
theorem sel_inv {q:Sq} {ls:List T3} (h:q.L.map tk3=W5++ls) {x:SelM} (hp:parR q = .ok x) (h1:x.n=1) (h2:x.k+x.m+x.o=0) {e:Ex} (h3:x.wh=[e]) : ∃ n,exprR q 5 = .ok (e,5+n)/\(n=ls.length\/(n+1=ls.length /\ ∃ t,ls[n]? = some t/\t.2.1=[59])):=by
  unfold parR at hp
  split at hp
  . cases hp
  . rename_i y b hs
    split at hp
    . cases hp
    . rename_i hend
      cases hp
      unfold selR at hs
      rw [queryR_pre h] at hs
      cases hx:exprR q 5 with
      | error z=>rw [hx] at hs;cases hs
      | ok z =>
        obtain ⟨e1,c⟩:=z
        rw [hx] at hs
        dsimp only at hs
        have hm:=(levR_mono 32).ex _ _ _ hx
        split at hs
        . cases hs
        . rename_i n1 c1 hu
          split at hs
          . cases hs
          . rename_i k1 c2 ha
            split at hs
            . cases hs
            . rename_i m1 c3 hd
              split at hs
              . cases hs
              . rename_i o1 c4 ho
                cases hs
                dsimp only at h1 h2 h3
                cases h3
                have e1:c1=c:=by
                  rw [unR_succ] at hu
                  split at hu
                  . split at hu
                    . cases hu
                    . have:=unR_n _ _ _ _ hu;dsimp only at this;omega
                  . cases hu;rfl
                have e2:c2=c1:=by
                  unfold asR at ha
                  split at ha
                  . split at ha
                    . cases ha
                    . split at ha
                      . cases ha
                      . simp only [Except.ok.injEq,Prod.mk.injEq] at ha;omega
                  . cases ha;rfl
                have e3:c3=c2:=by
                  unfold durR at hd
                  split at hd
                  . replace hd:=if_err hd
                    split at hd
                    . cases hd
                    . simp only [Except.ok.injEq,Prod.mk.injEq] at hd;omega
                  . split at hd
                    . split at hd
                      . cases hd
                      . simp only [Except.ok.injEq,Prod.mk.injEq] at hd;omega
                    . cases hd;rfl
                have e4:b=c3:=by
                  unfold ordR at ho
                  split at ho
                  . split at ho
                    . cases ho
                    . split at ho
                      . cases ho
                      . rename_i r hl
                        simp only [Except.ok.injEq,Prod.mk.injEq] at ho
                        unfold listR at hl
                        split at hl
                        . cases hl
                        . have:=lstR_len _ _ _ _ hl
                          simp at this;omega
                  . cases ho;rfl
                obtain rfl:c=b:=by omega
                have hlen:q.L.length=5+ls.length:=by
                  have:=congrArg List.length h
                  simp [W5] at this;omega
                obtain ⟨n,rfl⟩ : ∃ n,c=5+n:=⟨c-5,by omega⟩
                refine ⟨n,rfl,?_⟩
                rw [mayA_one] at hend
                by_cases hq:oneT q.L (5+n) [59]=true
                . rw [if_pos hq] at hend
                  simp at hend
                  have hl:=oneT_lt hq
                  have hg:(q.L.map tk3)[5+n]? = ls[n]? := by rw [h,List.getElem?_append_right (by simp [W5])];simp [W5]
                  cases ht:ls[n]? with
                  | none=>rw [List.getElem?_eq_none_iff] at ht;omega
                  | some t =>
                    rw [ht] at hg
                    rw [oneT_at hg] at hq
                    refine .inr ⟨by omega,t,rfl,?_⟩
                    simp at hq
                    rcases hq with hq | hq
                    . exact hq.2
                    . exact hq.2
                . rw [if_neg hq] at hend
                  simp at hend
                  have:n<=ls.length:=by
                    rcases Nat.lt_or_ge ls.length n with z | z
                    . exfalso;omega
                    . exact z
                  exact .inl (by omega)
theorem Al.of3 {q q':Sq} {o o' n:Nat} (h : ∀ p,p<n -> ∃ t,(q.L.map tk3)[o+p]? = some t/\(q'.L.map tk3)[o'+p]? = some t) (h1 : ∀ t,(q.L.map tk3)[o+n]? = some t->t.2.1∉goL) (h2 : ∀ t,(q'.L.map tk3)[o'+n]? = some t->t.2.1∉goL):Al q q' o o' n:=by
  refine ⟨λ p hp=>?_,λ x hx=>h1 (tk3 x) (by rw [List.getElem?_map,hx];rfl),λ x hx=>h2 (tk3 x) (by rw [List.getElem?_map,hx];rfl)⟩
  obtain ⟨t,e1,e2⟩:=h p hp
  rw [List.getElem?_map] at e1 e2
  cases h3:q.L[o+p]? with
  | none=>rw [h3] at e1;cases e1
  | some x =>
    cases h4:q'.L[o'+p]? with
    | none=>rw [h4] at e2;cases e2
    | some y =>
      rw [h3] at e1
      rw [h4] at e2
      simp only [Option.map_some,Option.some.injEq] at e1 e2
      have e:=e1.trans e2.symm
      simp only [Prod.mk.injEq] at e
      exact ⟨x,y,rfl,rfl,e.1,e.2.1,e.2.2⟩
structure Alone (la:List T3) (e:Ex):Prop where
  ex : ∃ q n,q.L.map tk3=W5++la/\exprR q 5 = .ok (e,5+n)/\(n=la.length\/(n+1=la.length /\ ∃ t,la[n]? = some t/\t.2.1=[59]))
theorem CondOk.alone {s:Str} {e:Ex} (h:CondOk s e) : ∃ la,lexF s=some la/\Alone la e:=by
  obtain ⟨q,x,h1,h2,h3,h4,h5⟩:=h.ok
  obtain ⟨-,hl⟩:=lexR_ok h1
  rw [lex_pre] at hl
  cases ha:lexF s with
  | none=>rw [ha] at hl;cases hl
  | some la =>
    rw [ha] at hl
    simp only [Option.map_some,Option.some.injEq] at hl
    obtain ⟨n,h6,h7⟩:=sel_inv hl.symm h2 h3 h4 h5
    exact ⟨la,rfl,q,n,hl.symm,h6,h7⟩
theorem Alone.factor {la:List T3} {e:Ex} (h:Alone la e) {q:Sq} {p:Nat} (h0:(q.L.map tk3)[p]? = some (4,[40],0)) (h1 : ∀ i,i<la.length->(q.L.map tk3)[p+1+i]? = la[i]?) (h2:(q.L.map tk3)[p+1+la.length]? = some (4,[41],0)) (r:Nat) (F:EP) {x:Ex} {c:Nat} (hx:factorR q F (levR q r).ex p = .ok (x,c)):x=e/\c=p+1+la.length+1:=by
  obtain ⟨qa,n,ha,he,hn⟩:=h.ex
  unfold factorR at hx
  rw [if_neg (by rw [isT_at h0];decide),if_neg (by rw [isT_at h0];decide),if_neg (by rw [oneT_at h0];decide),if_pos (by rw [oneT_at h0];decide)] at hx
  have g5 : ∀ i,(qa.L.map tk3)[5+i]? = la[i]? := λ i=>by rw [ha,List.getElem?_append_right (by simp [W5])];simp [W5]
  have hle:n<=la.length:=by rcases hn with z | z <;> omega
  have al:Al qa q 5 (p+1) n:=Al.of3 (λ i hi=>by
    refine ⟨la[i],?_,?_⟩
    . rw [g5];exact List.getElem?_eq_getElem (by omega)
    . rw [h1 i (by omega)];exact List.getElem?_eq_getElem (by omega)) (λ t ht=>by
      rw [g5] at ht
      rcases hn with z | ⟨z,u,hu,hu2⟩
      . rw [z,List.getElem?_eq_none (Nat.le_refl _)] at ht;cases ht
      . rw [hu] at ht;cases ht;rw [hu2];decide) (λ t ht=>by
      rcases hn with z | ⟨z,u,hu,hu2⟩
      . rw [z,h2] at ht;cases ht;decide
      . rw [h1 n (by omega),hu] at ht;cases ht;rw [hu2];decide)
  rcases (al.lev 32 r).ex 0 e n (by simpa using he) (Nat.le_refl _) with ⟨y,hy⟩ | hy
  . rw [Nat.add_zero] at hy
    rw [hy] at hx;cases hx
  . rw [Nat.add_zero] at hy
    rw [hy] at hx
    dsimp only at hx
    rcases hn with z | ⟨z,u,hu,hu2⟩
    . subst z
      rw [mustA_cons,if_pos (by rw [oneT_at h2];decide)] at hx
      simp only [mustA,Except.ok.injEq,Prod.mk.injEq] at hx
      exact ⟨hx.1.symm,by omega⟩
    . rw [mustA_cons,if_neg] at hx
      . cases hx
      . rw [oneT_at ((h1 n (by omega)).trans hu),hu2];simp
theorem chain_one {q:Sq} {R:EP} {ops:List Str} {p:Nat} {e x:Ex} {b c:Nat} (h:chainR q R ops p = .ok (x,c)) (hR : ∀ y d,R p = .ok (y,d)->y=e/\d=b) (hn:(isT q.L b 1 ops || isT q.L b 4 ops)=false):x=e/\c=b:=by
  unfold chainR at h
  split at h
  . cases h
  . rename_i y d hy
    obtain ⟨rfl,rfl⟩:=hR _ _ hy
    rw [chR_end hn] at h
    simp only [Except.ok.injEq,Prod.mk.injEq] at h
    exact ⟨h.1.symm,h.2.symm⟩
theorem cmp_none {q:Sq} {S:EP} {e:Ex} {b:Nat} : ∀ {os:List Str},(∀ t∈os,oneT q.L b t=false)->cmpR q S e b os = .ok (e,b)
  | [],_=>rfl
  | t::os,h=>by rw [cmpR_cons,if_neg (by rw [h t (by simp)];decide)];exact cmp_none λ u hu=>h u (by simp [hu])
theorem not_one {q:Sq} {N S:EP} {p:Nat} {e x:Ex} {b c:Nat} (h:notR q N S p = .ok (x,c)) (h0:oneT q.L p sNOT=false) (hS : ∀ y d,S p = .ok (y,d)->y=e/\d=b) (hn : ∀ t∈cmpOps,oneT q.L b t=false):x=e/\c=b:=by
  unfold notR at h
  rw [if_neg (by rw [h0];decide)] at h
  split at h
  . cases h
  . rename_i y d hy
    obtain ⟨rfl,rfl⟩:=hS _ _ hy
    rw [cmp_none hn] at h
    simp only [Except.ok.injEq,Prod.mk.injEq] at h
    exact ⟨h.1.symm,h.2.symm⟩
def Behind (q:Sq) (b:Nat):Prop:=(q.L.map tk3)[b]? = none \/ ∃ s n,(q.L.map tk3)[b]? = some (1,s,n)/\(s=sAND\/s=sOR)
theorem Behind.oneT {q:Sq} {b:Nat} (h:Behind q b) : ∀ t∈cmpOps,oneT q.L b t=false:=λ t ht=>by
  rcases h with h | ⟨s,n,h,hs⟩
  . exact oneT_out h t
  . rw [oneT_at h]
    have : ∀ t∈cmpOps,((decide ((1:Int)=1) && [t].contains s) || (decide ((1:Int)=4) && [t].contains s))=false:=by
      rcases hs with rfl | rfl <;> decide
    exact this t ht
theorem Behind.isT {q:Sq} {b:Nat} (h:Behind q b) (ts:List Str) (h0:ts.isEmpty=false) (h1:sAND∉ts) (h2:sOR∉ts):(isT q.L b 1 ts || isT q.L b 4 ts)=false:=by
  rcases h with h | ⟨s,n,h,hs⟩
  . rw [isT_out h,isT_out h];rfl
  . have hc:ts.contains s=false:=by
      cases hc:ts.contains s with
      | false=>rfl
      | true =>
        have:=List.contains_iff_mem.1 hc
        rcases hs with rfl | rfl
        . exact absurd this h1
        . exact absurd this h2
    rw [isT_at h,isT_at h]
    simp only [h0,hc]
    simp
theorem Alone.no {la:List T3} {e:Ex} (h:Alone la e) {q:Sq} {p:Nat} (h0:(q.L.map tk3)[p]? = some (4,[40],0)) (h1 : ∀ i,i<la.length->(q.L.map tk3)[p+1+i]? = la[i]?) (h2:(q.L.map tk3)[p+1+la.length]? = some (4,[41],0)) (hb:Behind q (p+1+la.length+1)) (r:Nat) {x:Ex} {c:Nat} (hx:(levR q (r+1)).no p = .ok (x,c)):x=e/\c=p+1+la.length+1 :=
  not_one hx (by rw [oneT_at h0];decide) (λ y d hy=>chain_one hy (λ y d hy=>chain_one hy (λ y d hy=>h.factor h0 h1 h2 r _ hy) (hb.isT _ rfl (by decide) (by decide))) (hb.isT _ rfl (by decide) (by decide))) hb.oneT
open Go.RowKit
theorem kindP_len {op:Str} {ks:List Int} (h:(kindP op ks).2=true):(ks.length=1/\(op=sNot\/op=[45]))\/(ks.length=2/\op≠sNot/\op≠sVal/\op≠sCol):=by
  unfold kindP at h
  split at h
  . rename_i h1
    simp only [Bool.and_eq_true,decide_eq_true_eq] at h
    right
    refine ⟨by omega,?_,?_,?_⟩ <;> rintro rfl <;> simp at h1
  . split at h
    . rename_i h1
      simp only [Bool.and_eq_true,decide_eq_true_eq] at h
      exact .inl ⟨by omega,.inl h1⟩
    . split at h
      . rename_i h1
        simp only [Bool.and_eq_true,decide_eq_true_eq] at h
        right
        refine ⟨by omega,?_,?_,?_⟩ <;> rintro rfl <;> simp [cmpOp] at h1
      . split at h
        . rename_i h1
          simp only [Bool.and_eq_true,Bool.or_eq_true,decide_eq_true_eq] at h
          rcases h.1 with h2 | h2
          . exact .inl ⟨by omega,.inr h1⟩
          . right
            refine ⟨by omega,?_,?_,?_⟩ <;> rintro rfl <;> simp at h1
        . split at h
          . rename_i h1
            simp only [Bool.and_eq_true,decide_eq_true_eq] at h
            right
            refine ⟨by omega,?_,?_,?_⟩ <;> rintro rfl <;> simp at h1
          . cases h
mutual
theorem bindE_ok (sc:List Co) : ∀ (e:Ex) (t:Tm),bindE sc e = .ok t->TmOk t
  | .mk op n text of args,t,h=>by
    rw [bindE] at h
    split at h
    . injection h with h;subst h;exact .val _ _ _
    . split at h
      . split at h
        . cases h
        . injection h with h;subst h;exact .val _ _ _
      . split at h
        . split at h
          . cases h
          . injection h with h;subst h;exact .col _ _ _
        . cases hb:bindL sc args with
          | error c=>rw [hb] at h;cases h
          | ok ts =>
            rw [hb] at h
            dsimp only at h
            split at h
            . rename_i hk
              injection h with h
              subst h
              have hall:=bindL_ok' sc args ts hb
              rcases kindP_len hk with ⟨h1,h2⟩ | ⟨h1,h2,h3,h4⟩
              . rw [List.length_map] at h1
                match ts,h1 with
                | [t],_=>exact .one op _ _ _ t (by rcases h2 with rfl | rfl <;> decide) (by rcases h2 with rfl | rfl <;> decide) (by rcases h2 with rfl | rfl <;> decide) (hall t (by simp))
              . rw [List.length_map] at h1
                match ts,h1 with
                | [t,u],_=>exact .two op _ _ _ t u h3 h4 h2 (hall t (by simp)) (hall u (by simp))
            . cases h
theorem bindL_ok' (sc:List Co) : ∀ (es:List Ex) (ts:List Tm),bindL sc es = .ok ts -> ∀ t∈ts,TmOk t
  | [],ts,h=>by rw [bindL] at h;injection h with h;subst h;intro t ht;cases ht
  | e::es,ts,h=>by
    rw [bindL] at h
    cases hb:bindE sc e with
    | error c=>rw [hb] at h;cases h
    | ok t =>
      rw [hb] at h
      dsimp only at h
      cases hl:bindL sc es with
      | error c=>rw [hl] at h;cases h
      | ok us =>
        rw [hl] at h
        injection h with h
        subst h
        intro u hu
        rcases List.mem_cons.1 hu with rfl | hu
        . exact bindE_ok sc e _ hb
        . exact bindL_ok' sc es us hl u hu
end
abbrev sNumber : Str:=[110,117,109,98,101,114]
abbrev sText : Str:=[116,101,120,116]
abbrev sName : Str:=[110,97,109,101]
abbrev sMinus : Str:=[45]
abbrev logOp (op:Str):Prop:=op=[79,82]\/op=sAnd
abbrev ariOp (op:Str):Prop:=op=[43]\/op=sMinus\/op=[42]
inductive BE (sc:List Co):Ex->Tm->Prop
  | num (n:Int) (text of:Str) (args:List Ex):BE sc (.mk sNumber n text of args) (.mk sVal 1 ⟨1,n,[]⟩ 0 [])
  | text (n:Int) (text of:Str) (args:List Ex):BE sc (.mk sText n text of args) (.mk sVal 2 ⟨2,0,text⟩ 0 [])
  | name (n:Int) (text of:Str) (args:List Ex) (i:Nat) (c:Co) (hf:findC sc of text=(i,0)) (hc:sc[i]? = some c):BE sc (.mk sName n text of args) (.mk sCol c.kind vZ i [])
  | one (op:Str) (k:Int) (n:Int) (text of:Str) (e:Ex) (t:Tm) (h:BE sc e t) (hk:(op=sNot/\t.kind=3/\k=3)\/(op=sMinus/\t.kind=1/\k=1)):BE sc (.mk op n text of [e]) (.mk op k vZ 0 [t])
  | two (op:Str) (k:Int) (n:Int) (text of:Str) (e1 e2:Ex) (t1 t2:Tm) (h1:BE sc e1 t1) (h2:BE sc e2 t2)
      (hk:(logOp op/\t1.kind=3/\t2.kind=3/\k=3)\/(cmpOp op/\t1.kind=t2.kind/\(t1.kind=1\/t1.kind=2)/\k=3)\/(ariOp op/\t1.kind=1/\t2.kind=1/\k=1)):BE sc (.mk op n text of [e1,e2]) (.mk op k vZ 0 [t1,t2])
theorem alls_two {k a b:Int}:alls k [a,b]=true↔a=k/\b=k:=by simp [alls]
theorem alls_one {k a:Int}:alls k [a]=true↔a=k:=by simp [alls]
theorem kindP_one {op:Str} {a:Int} (h:(kindP op [a]).2=true):(op=sNot/\a=3/\(kindP op [a]).1=3)\/(op=sMinus/\a=1/\(kindP op [a]).1=1):=by
  unfold kindP at h ⊢
  split
  . rename_i h1;rw [if_pos h1] at h;simp at h
  . rename_i h1;rw [if_neg h1] at h
    split
    . rename_i h2;rw [if_pos h2] at h
      simp only [Bool.and_eq_true,alls_one] at h
      exact .inl ⟨h2,h.2,rfl⟩
    . rename_i h2;rw [if_neg h2] at h
      split
      . rename_i h3;rw [if_pos h3] at h;simp at h
      . rename_i h3;rw [if_neg h3] at h
        split
        . rename_i h4;rw [if_pos h4] at h
          simp only [Bool.and_eq_true,alls_one] at h
          exact .inr ⟨h4,h.2,rfl⟩
        . rename_i h4;rw [if_neg h4] at h
          split at h <;> simp at h
theorem kindP_two {op:Str} {a b:Int} (h:(kindP op [a,b]).2=true):(logOp op/\a=3/\b=3/\(kindP op [a,b]).1=3)\/(cmpOp op/\a=b/\(a=1\/a=2)/\(kindP op [a,b]).1=3)\/(ariOp op/\a=1/\b=1/\(kindP op [a,b]).1=1):=by
  unfold kindP at h ⊢
  split
  . rename_i h1;rw [if_pos h1] at h
    simp only [Bool.and_eq_true,alls_two] at h
    exact .inl ⟨h1,h.2.1,h.2.2,rfl⟩
  . rename_i h1;rw [if_neg h1] at h
    split
    . rename_i h2;rw [if_pos h2] at h;simp at h
    . rename_i h2;rw [if_neg h2] at h
      split
      . rename_i h3;rw [if_pos h3] at h
        simp only [Bool.and_eq_true,Bool.or_eq_true,alls_two] at h
        exact .inr (.inl ⟨h3,by omega,by omega,rfl⟩)
      . rename_i h3;rw [if_neg h3] at h
        split
        . rename_i h4;rw [if_pos h4] at h
          simp only [Bool.and_eq_true,alls_two] at h
          exact .inr (.inr ⟨.inr (.inl h4),h.2.1,h.2.2,rfl⟩)
        . rename_i h4;rw [if_neg h4] at h
          split
          . rename_i h5;rw [if_pos h5] at h
            simp only [Bool.and_eq_true,alls_two] at h
            exact .inr (.inr ⟨h5.elim .inl λ h => .inr (.inr h),h.2.1,h.2.2,rfl⟩)
          . rename_i h5;rw [if_neg h5] at h;cases h
mutual
theorem be_of (sc:List Co) : ∀ (e:Ex) (t:Tm),bindE sc e = .ok t->BE sc e t
  | .mk op n text of args,t,h=>by
    rw [bindE] at h
    split at h
    . rename_i h1;subst h1;injection h with h;subst h;exact .num n text of args
    . split at h
      . rename_i h1;subst h1
        split at h
        . cases h
        . injection h with h;subst h;exact .text n text of args
      . split at h
        . rename_i h1;subst h1
          split at h
          . cases h
          . rename_i h2
            injection h with h;subst h
            have hlt:=findC_lt (Classical.not_not.1 h2)
            have hf:findC sc of text=((findC sc of text).1,0):=Prod.ext rfl (Classical.not_not.1 h2)
            have hc:sc[(findC sc of text).1]? = some (sc[(findC sc of text).1]'hlt):=List.getElem?_eq_getElem _
            have hk:kindAt sc (findC sc of text).1=(sc[(findC sc of text).1]'hlt).kind:=by unfold kindAt;rw [hc]
            rw [hk]
            exact .name n text of args _ _ hf hc
        . cases hb:bindL sc args with
          | error c=>rw [hb] at h;cases h
          | ok ts =>
            rw [hb] at h
            dsimp only at h
            split at h
            . rename_i hk
              injection h with h
              subst h
              have hall:=beL_of sc args ts hb
              rcases kindP_len hk with ⟨h1,_⟩ | ⟨h1,_,_,_⟩
              . rw [List.length_map] at h1
                match args,ts,h1,hall with
                | [e],[t],_,hall =>
                  have:=hall.2 0 e t rfl rfl
                  refine .one op _ n text of e t this ?_
                  rcases kindP_one (a:=t.kind) hk with ⟨a,b,c⟩ | ⟨a,b,c⟩
                  . exact .inl ⟨a,b,c⟩
                  . exact .inr ⟨a,b,c⟩
                | [],[t],_,hall=>simp at hall
                | _::_::_,[t],_,hall=>simp at hall
              . rw [List.length_map] at h1
                match args,ts,h1,hall with
                | [e,f],[t,u],_,hall =>
                  exact .two op _ n text of e f t u (hall.2 0 e t rfl rfl) (hall.2 1 f u rfl rfl) (kindP_two (a:=t.kind) (b:=u.kind) hk)
                | [],[t,u],_,hall=>simp at hall
                | [_],[t,u],_,hall=>simp at hall
                | _::_::_::_,[t,u],_,hall=>simp at hall
            . cases h
theorem beL_of (sc:List Co) : ∀ (es:List Ex) (ts:List Tm),bindL sc es = .ok ts->es.length=ts.length /\ ∀ (i:Nat) e t,es[i]? = some e->ts[i]? = some t->BE sc e t
  | [],ts,h=>by rw [bindL] at h;injection h with h;subst h;exact ⟨rfl,by intro i e t h;simp at h⟩
  | e::es,ts,h=>by
    rw [bindL] at h
    cases hb:bindE sc e with
    | error c=>rw [hb] at h;cases h
    | ok t =>
      rw [hb] at h
      dsimp only at h
      cases hl:bindL sc es with
      | error c=>rw [hl] at h;cases h
      | ok us =>
        rw [hl] at h
        injection h with h
        subst h
        obtain ⟨h1,h2⟩:=beL_of sc es us hl
        refine ⟨by simp [h1],λ i e' t' he ht=>?_⟩
        cases i with
        | zero=>simp at he ht;subst he;subst ht;exact be_of sc e _ hb
        | succ i=>exact h2 i e' t' (by simpa using he) (by simpa using ht)
end
theorem arithE_err {op:Str} {a b c:Int} (h:arithE op a b = .error c):c=171:=by
  unfold arithE at h
  split at h
  . cases h
  . injection h with h;exact h.symm
theorem reckon_ari {op:Str} (h:ariOp op) (a b:Va):reckonT op a b=arithE op a.int b.int:=by
  rcases h with rfl | rfl | rfl <;> simp [reckonT]
theorem reckon_bool {op:Str} (h:logOp op\/cmpOp op) (a b:Va) : ∃ p,reckonT op a b = .ok (truthV p):=by
  rcases h with (rfl | rfl) | (rfl | rfl | rfl | rfl | rfl | rfl) <;> exact ⟨_,by simp [reckonT];rfl⟩
theorem colT_err {row:List Va} {k p c:Int} (h:colT row k p = .error c):c=161:=by
  unfold colT at h
  split at h
  . injection h with h;exact h.symm
  . split at h
    . injection h with h;exact h.symm
    . split at h
      . injection h with h;exact h.symm
      . split at h
        . injection h with h;exact h.symm
        . cases h
theorem op_one {op:Str} {t k:Int} (hk:(op=sNot/\t=3/\k=3)\/(op=sMinus/\t=1/\k=1)):op≠sVal/\op≠sCol/\op≠sNumber/\op≠sText/\op≠sName/\op≠sAnd:=by
  rcases hk with ⟨rfl,_⟩ | ⟨rfl,_⟩ <;> decide
theorem op_two {op:Str} {a b k:Int} (hk:(logOp op/\a=3/\b=3/\k=3)\/(cmpOp op/\a=b/\(a=1\/a=2)/\k=3)\/(ariOp op/\a=1/\b=1/\k=1)):op≠sVal/\op≠sCol/\op≠sNumber/\op≠sText/\op≠sName/\op≠sNot:=by
  rcases hk with ⟨h | h,_⟩ | ⟨h | h | h | h | h | h,_⟩ | ⟨h | h | h,_⟩ <;> subst h <;> decide
theorem evalT_one {row:List Va} {op:Str} {k p:Int} {v:Va} {t:Tm} (h1:op≠sVal) (h2:op≠sCol):evalT row (.mk op k v p [t])=match evalT row t with
    | .error c => .error c
    | .ok a=>if op=sNot then .ok (truthV (decide (a.int=0))) else arithE [45] 0 a.int:=by rw [evalT,if_neg h1,if_neg h2] <;> rfl
theorem evalT_two {row:List Va} {op:Str} {k p:Int} {v:Va} {t u:Tm} (h1:op≠sVal) (h2:op≠sCol):evalT row (.mk op k v p [t,u])=match evalT row t with
    | .error c => .error c
    | .ok a=>match evalT row u with
      | .error c => .error c
      | .ok b=>reckonT op a b:=by rw [evalT,if_neg h1,if_neg h2] <;> rfl
theorem be_err {sc:List Co} {row:List Va} {e:Ex} {t:Tm} (h:BE sc e t) : ∀ c,evalT row t = .error c->c≠0:=by
  induction h with
  | num n text of args=>intro c hc;rw [evalT,if_pos rfl] at hc;cases hc
  | text n text of args=>intro c hc;rw [evalT,if_pos rfl] at hc;cases hc
  | name n text of args i c hf hc =>
    intro c hv
    rw [evalT,if_neg (by decide),if_pos rfl] at hv
    rw [colT_err hv];decide
  | one op k n text of e t h hk ih =>
    intro c hv
    obtain ⟨h1,h2,_⟩:=op_one hk
    rw [evalT_one h1 h2] at hv
    cases he:evalT row t with
    | error c'=>rw [he] at hv;injection hv with hv;subst hv;exact ih _ he
    | ok a =>
      rw [he] at hv
      dsimp only at hv
      split at hv
      . cases hv
      . rw [arithE_err hv];decide
  | two op k n text of e1 e2 t1 t2 b1 b2 hk ih1 ih2 =>
    intro c hv
    obtain ⟨h1,h2,_⟩:=op_two hk
    rw [evalT_two h1 h2] at hv
    cases he1:evalT row t1 with
    | error c'=>rw [he1] at hv;injection hv with hv;subst hv;exact ih1 _ he1
    | ok a =>
      rw [he1] at hv
      dsimp only at hv
      cases he2:evalT row t2 with
      | error c'=>rw [he2] at hv;injection hv with hv;subst hv;exact ih2 _ he2
      | ok b =>
        rw [he2] at hv
        dsimp only at hv
        rcases hk with ⟨h3,_⟩ | ⟨h3,_⟩ | ⟨h3,_⟩
        . obtain ⟨p,hp⟩:=reckon_bool (.inl h3) a b
          rw [hp] at hv;cases hv
        . obtain ⟨p,hp⟩:=reckon_bool (.inr h3) a b
          rw [hp] at hv;cases hv
        . rw [reckon_ari h3] at hv
          rw [arithE_err hv];decide
theorem evalR_ok {row:List Va} {t:Tm} {v:Va} (h:evalT row t = .ok v):evalR row t=(v,0):=by unfold evalR;rw [h]
theorem evalR_err {row:List Va} {t:Tm} {c:Int} (h:evalT row t = .error c):evalR row t=(vZ,c):=by unfold evalR;rw [h]
theorem ev_two {row:List Va} {op:Str} {k:Int} {u v:Tm} {w:Va} (h:evalT row (.mk op k vZ 0 [u,v]) = .ok w) (h1:op≠sVal) (h2:op≠sCol) : ∃ a b,evalT row u = .ok a/\evalT row v = .ok b/\reckonT op a b = .ok w:=by
  rw [evalT_two h1 h2] at h
  cases e:evalT row u with
  | error c=>rw [e] at h;cases h
  | ok a =>
    rw [e] at h;dsimp only at h
    cases e2:evalT row v with
    | error c=>rw [e2] at h;cases h
    | ok b=>rw [e2] at h;exact ⟨a,b,rfl,rfl,h⟩
theorem tbl_noBool : ∀ c∈tblSc,c.kind≠3:=by decide
theorem be_truth {row:List Va} {e:Ex} {t:Tm} (h:BE tblSc e t):t.kind=3 -> ∀ v,evalT row t = .ok v -> ∃ p,v=truthV p:=by
  cases h with
  | num n text of args=>intro h;simp [Tm.kind] at h
  | text n text of args=>intro h;simp [Tm.kind] at h
  | name n text of args i c hf hc=>intro h;exact absurd h (tbl_noBool c (List.mem_of_getElem? hc))
  | one op k n text of e t h hk =>
    intro hk3 v hv
    rcases hk with ⟨rfl,_,_⟩ | ⟨_,_,hk1⟩
    . rw [evalT_one (by decide) (by decide)] at hv
      cases e:evalT row t with
      | error c=>rw [e] at hv;cases hv
      | ok a=>rw [e] at hv;dsimp only at hv;rw [if_pos rfl] at hv;injection hv with hv;exact ⟨_,hv.symm⟩
    . simp only [Tm.kind] at hk3;omega
  | two op k n text of e1 e2 t1 t2 h1 h2 hk =>
    intro hk3 v hv
    obtain ⟨g1,g2,_⟩:=op_two hk
    obtain ⟨a,b,_,_,hr⟩:=ev_two hv g1 g2
    rcases hk with ⟨h3,_⟩ | ⟨h3,_⟩ | ⟨_,_,_,hk1⟩
    . obtain ⟨p,hp⟩:=reckon_bool (.inl h3) a b
      rw [hp] at hr;injection hr with hr;exact ⟨p,hr.symm⟩
    . obtain ⟨p,hp⟩:=reckon_bool (.inr h3) a b
      rw [hp] at hr;injection hr with hr;exact ⟨p,hr.symm⟩
    . simp only [Tm.kind] at hk3;omega
structure Cond (e:Ex) (t:Tm):Prop where
  b:bindE tblSc e = .ok t
  k:t.kind=3
theorem Cond.be {e:Ex} {t:Tm} (h:Cond e t):BE tblSc e t:=be_of tblSc e t h.b
theorem Cond.ok {e:Ex} {t:Tm} (h:Cond e t):TmOk t:=bindE_ok tblSc e t h.b
theorem Cond.cases {e:Ex} {t:Tm} (h:Cond e t) (row:List Va):(∃ p,evalT row t = .ok (truthV p)/\(evalR row t).2=0/\holds1 row t=p)\/(∃ c,evalT row t = .error c/\(evalR row t).2≠0/\holds1 row t=false):=by
  cases he:evalT row t with
  | ok v =>
    obtain ⟨p,rfl⟩:=be_truth h.be h.k v he
    refine .inl ⟨p,rfl,by rw [evalR_ok he],?_⟩
    unfold holds1
    rw [evalR_ok he]
    cases p <;> simp [truthV]
  | error c =>
    have hc:=be_err h.be c he
    refine .inr ⟨c,rfl,by rw [evalR_err he];exact hc,?_⟩
    unfold holds1
    rw [evalR_err he]
    simp [hc]
open Go.RowKit
theorem lexT_len : ∀ (f:Nat) (s:Str) (l:List T3),lexT f s=some l->l.length<=f
  | 0,_,_,h=>by cases h
  | f+1,s,l,h=>by
    rw [lexT] at h
    split at h
    . cases h;exact Nat.zero_le _
    . cases ho:oneR (s.dropWhile spaB) with
      | none=>rw [ho] at h;cases h
      | some v =>
        rw [ho] at h
        dsimp only at h
        cases hr:lexT f ((s.dropWhile spaB).drop v.2.2.2) with
        | none=>rw [hr] at h;cases h
        | some m =>
          rw [hr] at h
          cases h
          have:=lexT_len f _ m hr
          simp;omega
theorem quo_text : ∀ {r:Str} {v:Str×Nat},quoR r=some v->v.1.length<=r.length:=by
  intro r
  induction hl:r.length using Nat.strongRecOn generalizing r with
  | ind n ih =>
    intro v hv
    unfold quoR at hv
    split at hv
    . cases hv
    . rename_i r'
      cases hq:quoR r' with
      | none=>rw [hq] at hv;cases hv
      | some u =>
        rw [hq] at hv;cases hv
        have:=ih r'.length (by rw [<-hl];simp;omega) rfl hq
        rw [<-hl];simp;omega
    . cases hv;exact Nat.zero_le _
    . rename_i x r' _ _
      cases hq:quoR r' with
      | none=>rw [hq] at hv;cases hv
      | some u =>
        rw [hq] at hv;cases hv
        have:=ih r'.length (by rw [<-hl];simp) rfl hq
        rw [<-hl];simp;omega
theorem sgn_len : ∀ g∈sgnL,g.length<=2:=by decide
theorem one_text {s:Str} {v:Int×Str×Int×Nat} (h:oneR s=some v):v.2.1.length<=s.length+2:=by
  cases s with
  | nil=>cases h
  | cons x r =>
    change oneC (x::r) x r=some v at h
    unfold oneC at h
    split at h
    . cases h
      have:=tw_le (p:=worB) (x::r)
      simp only [upS,Lib.toUpperA,List.length_map]
      omega
    . split at h
      . split at h
        . cases h;exact Nat.zero_le _
        . cases h
      . split at h
        . cases hq:quoR r with
          | none=>rw [hq] at h;cases h
          | some u =>
            rw [hq] at h;cases h
            have:=quo_text hq
            simp only [List.length_cons];omega
        . cases hf:sgnL.find? (hasP (x::r)) with
          | none=>rw [hf] at h;cases h
          | some g =>
            rw [hf] at h;cases h
            have:=sgn_len g (List.mem_of_find?_eq_some hf)
            dsimp only;omega
theorem lexT_text : ∀ (f:Nat) (s:Str) (l:List T3),lexT f s=some l -> ∀ t∈l,t.2.1.length<=s.length+2
  | 0,_,_,h=>by cases h
  | f+1,s,l,h=>by
    rw [lexT] at h
    split at h
    . cases h;intro t ht;cases ht
    . cases ho:oneR (s.dropWhile spaB) with
      | none=>rw [ho] at h;cases h
      | some v =>
        rw [ho] at h
        dsimp only at h
        have h1:=one_text ho
        have h2:=dw_len (p:=spaB) s
        cases hr:lexT f ((s.dropWhile spaB).drop v.2.2.2) with
        | none=>rw [hr] at h;cases h
        | some m =>
          rw [hr] at h
          cases h
          intro t ht
          rcases List.mem_cons.1 ht with rfl | ht
          . dsimp only;omega
          . have:=lexT_text f _ m hr t ht
            rw [List.length_drop] at this
            omega
theorem pre_tokens {s:Str} : ∀ L,lexR (preT++s) = .ok L->L.length<2^25/\(∀ x∈L,x.text.length<2^40) /\ ∃ y,L[0]? = some y/\y.text=selW:=by
  intro L hL
  obtain ⟨h1,h2⟩:=lexR_ok hL
  have h3:=lexT_len _ _ _ h2
  have h4:=lexT_text _ _ _ h2
  rw [List.length_map] at h3
  refine ⟨by omega,λ x hx=>?_,?_⟩
  . have:=h4 (tk3 x) (List.mem_map_of_mem hx)
    dsimp only at this
    omega
  . rw [lex_pre] at h2
    cases hs:lexF s with
    | none=>rw [hs] at h2;cases h2
    | some ls =>
      rw [hs] at h2
      simp only [Option.map_some,Option.some.injEq] at h2
      have h5:(L.map tk3)[0]? = some (1,selW,0):=by rw [<-h2];rfl
      rw [List.getElem?_map] at h5
      cases hx:L[0]? with
      | none=>rw [hx] at h5;cases h5
      | some y =>
        rw [hx] at h5
        simp only [Option.map_some,Option.some.injEq,Prod.mk.injEq] at h5
        exact ⟨y,rfl,h5.2.1⟩
abbrev stD (s0:ByteArray) (vq vo va vd vr:Value):List Value:=[.string s0,.string .empty,.slice none 0 0,.slice none 0 0,.slice none 0 0,.slice none 0 0,iV 0,iV 0,.slice none 0 0,vq,vo,va,vd,vr]
def GoodT (s:Str):Prop := ∃ L,lexR (preT++s) = .ok L /\ ∀ p c,∃ e t,parR ⟨p,c,((preT++s).length:Int),L⟩ = .ok ⟨[e],1,0,0,0⟩/\Cond e t
def TPost (B:Wn) (s:Str) (u:Value) (l:List Wp):Prop := ∃ (s0:ByteArray) (k a:Int) (pq:Option Addr) (nq cq:Nat) (po:Option Addr) (no co:Nat) (pa:Option Addr) (na ca:Nat) (pd:Option Addr) (nd cd:Nat) (pr:Option Addr) (nr cr:Nat),
  u = .tuple #[.agg (stD s0 (.slice pq nq cq) (.slice po no co) (.slice pa na ca) (.slice pd nd cd) (.slice pr nr cr)).toArray,.agg #[iV k,iV a]]/\(GoodT s->k=0/\nq=1)/\(k=0->nq=1 -> ∃ q x A C,lexR (preT++s) = .ok q.L/\q.en=((preT++s).length:Int)/\parR q = .ok x/\x.n=1/\na=x.k/\nd=x.m/\nr=x.o/\QryV B A x.wh C/\(∃ g,pq=some ⟨g,0,none⟩)/\l=[row (.slice pq 1 cq) 91 7 1 C,A])
theorem Qg.parse (B:Wn) (h0:B.low=0) (s:Str) (hs:s.length<2^38):Fn Tryz.prog B 19 #[tV (preT++s)] [] (TPost B s):=by
  refine (Ps.parse B h0 (preT++s) (by simp [preT,preW];omega) pre_tokens).mono ?_
  intro u l h
  have bad : ∀ x:Int×Int,(GoodT s->False)->parBad u l x->TPost B s u l:=λ x hn hb=>⟨.empty,x.1,x.2,none,0,0,none,0,0,none,0,0,none,0,0,none,0,0,hb.1,λ hg=>(hn hg).elim,λ _ h1=>by cases h1⟩
  unfold ParPost at h
  cases hl:lexR (preT++s) with
  | error x=>rw [hl] at h;exact bad _ (λ ⟨L,h1,_⟩=>by rw [hl] at h1;cases h1) h
  | ok L =>
    rw [hl] at h
    obtain ⟨p,c,h⟩:=h
    cases hp:parR ⟨p,c,(preT++s).length,L⟩ with
    | error x =>
      rw [hp] at h
      exact bad _ (λ ⟨L2,h1,h2⟩=>by
        rw [hl] at h1;cases h1
        obtain ⟨e,t,h3,_⟩:=h2 p c
        rw [hp] at h3;cases h3) h
    | ok x =>
      rw [hp] at h
      obtain ⟨A,C,pq,cq,po,no,co,pa,ca,pd,cd,pr,cr,h1,h2,h3,h4⟩:=h
      exact ⟨_,0,0,pq,x.n,cq,po,no,co,pa,x.k,ca,pd,x.m,cd,pr,x.o,cr,h1,λ ⟨L2,g1,g2⟩=>by
        rw [hl] at g1;cases g1
        obtain ⟨e,t,g3,_⟩:=g2 p c
        rw [hp] at g3;cases g3
        exact ⟨rfl,rfl⟩,λ _ hn=>⟨⟨p,c,(preT++s).length,L⟩,x,A,C,hl,rfl,hp,hn,rfl,rfl,rfl,h2 hn,h3 (by omega),by rw [<-hn];exact h4⟩⟩
open Go.RowKit
instance : DecidableEq Va:=λ a b=>decidable_of_iff (a.kind=b.kind/\a.int=b.int/\a.text=b.text) (by
  obtain ⟨x,y,z⟩:=a
  obtain ⟨x',y',z'⟩:=b
  simp)
structure Lin {α:Type} (c:α->α->Int):Prop where
  rng : ∀ a b,c a b = -1\/c a b=0\/c a b=1
  refl : ∀ a,c a a=0
  eq : ∀ a b,c a b=0->a=b
  anti : ∀ a b,c b a = - c a b
  trans : ∀ a b d,c a b = -1->c b d = -1->c a d = -1
theorem Lin.le_trans {α:Type} {c:α->α->Int} (h:Lin c) {a b d:α} (h1:c a b<=0) (h2:c b d<=0):c a d<=0:=by
  rcases h.rng a b with e | e | e
  . rcases h.rng b d with f | f | f
    . rw [h.trans a b d e f];decide
    . rw [<-h.eq b d f,e];decide
    . omega
  . rw [h.eq a b e];exact h2
  . omega
theorem Lin.via {α β:Type} {c:α->α->Int} (h:Lin c) (f:β->α) (hf : ∀ x y,f x=f y->x=y):Lin λ x y=>c (f x) (f y) :=
  ⟨λ _ _=>h.rng _ _,λ _=>h.refl _,λ a b e=>hf a b (h.eq _ _ e),λ _ _=>h.anti _ _,λ _ _ _ e1 e2=>h.trans _ _ _ e1 e2⟩
theorem Lin.lex {α β:Type} {c:α->α->Int} {d:β->β->Int} (h:Lin c) (k:Lin d):Lin λ (x y:α×β)=>orI (c x.1 y.1) (d x.2 y.2) where
  rng:=λ a b=>by
    unfold orI
    split
    . exact h.rng _ _
    . exact k.rng _ _
  refl:=λ a=>by
    unfold orI
    rw [if_neg (by rw [h.refl];decide)];exact k.refl _
  eq:=λ a b e=>by
    unfold orI at e
    split at e
    . rename_i q;exact absurd e q
    . rename_i q
      exact Prod.ext (h.eq _ _ (by omega)) (k.eq _ _ e)
  anti:=λ a b=>by
    unfold orI
    have e1:=h.anti a.1 b.1
    have e2:=k.anti a.2 b.2
    by_cases q:c a.1 b.1=0
    . rw [if_neg (by omega),if_neg (by omega)];exact e2
    . rw [if_pos (by omega),if_pos (by omega)];exact e1
  trans:=λ a b e h1 h2=>by
    unfold orI at h1 h2 ⊢
    by_cases q1:c a.1 b.1=0
    . rw [if_neg (by omega)] at h1
      have e1:=h.eq _ _ q1
      rw [e1]
      by_cases q2:c b.1 e.1=0
      . rw [if_neg (by omega)] at h2 ⊢
        exact k.trans _ _ _ h1 h2
      . rw [if_pos q2] at h2 ⊢;exact h2
    . rw [if_pos q1] at h1
      by_cases q2:c b.1 e.1=0
      . have e2:=h.eq _ _ q2
        rw [<-e2,if_pos q1];exact h1
      . rw [if_pos q2] at h2
        have:=h.trans _ _ _ h1 h2
        rw [if_pos (by omega)];exact this
def cmpL {α:Type} (c:α->α->Int):List α->List α->Int
  | [],[]=>0
  | [],_::_ => -1
  | _::_,[]=>1
  | a::x,b::y=>orI (c a b) (cmpL c x y)
theorem Lin.list {α:Type} {c:α->α->Int} (h:Lin c):Lin (cmpL c) where
  rng:=λ a=>by
    induction a with
    | nil=>intro b;cases b <;> simp [cmpL]
    | cons x a ih =>
      intro b
      cases b with
      | nil=>simp [cmpL]
      | cons y b =>
        unfold cmpL orI
        split
        . exact h.rng _ _
        . exact ih b
  refl:=λ a=>by
    induction a with
    | nil=>rfl
    | cons x a ih=>unfold cmpL orI;rw [if_neg (by rw [h.refl];decide)];exact ih
  eq:=λ a=>by
    induction a with
    | nil=>intro b e;cases b with
      | nil=>rfl
      | cons y b=>simp [cmpL] at e
    | cons x a ih =>
      intro b e
      cases b with
      | nil=>simp [cmpL] at e
      | cons y b =>
        unfold cmpL orI at e
        split at e
        . rename_i q;exact absurd e q
        . rename_i q
          rw [h.eq x y (by omega),ih b e]
  anti:=λ a=>by
    induction a with
    | nil=>intro b;cases b <;> simp [cmpL]
    | cons x a ih =>
      intro b
      cases b with
      | nil=>simp [cmpL]
      | cons y b =>
        have e1:=h.anti x y
        have e2:=ih b
        unfold cmpL orI
        by_cases q:c x y=0
        . rw [if_neg (by omega),if_neg (by omega)];exact e2
        . rw [if_pos (by omega),if_pos (by omega)];exact e1
  trans:=λ a=>by
    induction a with
    | nil =>
      intro b d h1 h2
      cases d with
      | nil=>cases b <;> simp [cmpL] at h1 h2
      | cons z d=>rfl
    | cons x a ih =>
      intro b d h1 h2
      cases b with
      | nil=>simp [cmpL] at h1
      | cons y b =>
        cases d with
        | nil=>simp [cmpL] at h2
        | cons z d =>
          unfold cmpL orI at h1 h2 ⊢
          by_cases q1:c x y=0
          . rw [if_neg (by omega)] at h1
            have e1:=h.eq _ _ q1
            rw [e1]
            by_cases q2:c y z=0
            . rw [if_neg (by omega)] at h2 ⊢
              exact ih _ _ h1 h2
            . rw [if_pos q2] at h2 ⊢;exact h2
          . rw [if_pos q1] at h1
            by_cases q2:c y z=0
            . have e2:=h.eq _ _ q2
              rw [<-e2,if_pos q1];exact h1
            . rw [if_pos q2] at h2
              have:=h.trans _ _ _ h1 h2
              rw [if_pos (by omega)];exact this
theorem linI : Lin cmpI where
  rng:=λ a b=>by unfold cmpI;split;exact .inl rfl;split;exact .inr (.inr rfl);exact .inr (.inl rfl)
  refl:=λ a=>by unfold cmpI;rw [if_neg (by omega),if_neg (by omega)]
  eq:=λ a b e=>by unfold cmpI at e;split at e;cases e;split at e;cases e;omega
  anti:=λ a b=>by
    unfold cmpI
    rcases Int.lt_trichotomy a b with h | h | h
    . have n : ¬ b<a:=by omega
      simp [h,n]
    . subst h;simp
    . have n : ¬ a<b:=by omega
      simp [h,n]
  trans:=λ a b d h1 h2=>by
    unfold cmpI at h1 h2 ⊢
    rw [if_pos]
    split at h1
    . split at h2
      . omega
      . split at h2 <;> cases h2
    . split at h1 <;> cases h1
abbrev cmpB (a b:UInt8):Int:=cmpI a.toNat b.toNat
theorem linB : Lin cmpB:=linI.via (λ a:UInt8=>(a.toNat:Int)) λ x y e=>UInt8.toNat_inj.1 (by omega)
theorem linS0 : Lin (cmpL cmpB):=linB.list
theorem cmpS_eq : ∀ a b:Str,cmpS a b=cmpL cmpB a b:=by
  intro a
  induction a with
  | nil=>intro b;cases b with
    | nil=>rfl
    | cons y b=>rfl
  | cons x a ih =>
    intro b
    cases b with
    | nil=>unfold cmpS;rw [if_neg (by simp [Op.bytesLess]),if_neg (by simp)];rfl
    | cons y b =>
      have ih:=ih b
      show _=orI (cmpB x y) (cmpL cmpB a b)
      rw [<-ih]
      unfold cmpS orI
      rcases Nat.lt_trichotomy x.toNat y.toNat with h | h | h
      . have h1:x<y:=UInt8.lt_iff_toNat_lt.2 h
        have hv:cmpB x y = -1:=by unfold cmpB cmpI;rw [if_pos (by omega)]
        rw [if_pos (by simp [Op.bytesLess,h1]),hv];rfl
      . have he:x=y:=UInt8.toNat_inj.1 h
        subst he
        have hv:cmpB x x=0:=linB.refl x
        have e1:Op.bytesLess (x::a) (x::b)=Op.bytesLess a b:=by simp [Op.bytesLess]
        rw [hv,e1]
        by_cases q:Op.bytesLess a b=true
        . simp [q]
        . by_cases q2:a=b <;> simp [q,q2]
      . have n1 : ¬ x<y:=λ q=>by have:=UInt8.lt_iff_toNat_lt.1 q;omega
        have hne:x≠y:=λ q=>by rw [q] at h;omega
        have hv:cmpB x y=1:=by unfold cmpB cmpI;rw [if_neg (by omega),if_pos (by omega)]
        rw [if_neg (by simp [Op.bytesLess,n1,hne]),if_neg (by simp [hne]),hv];rfl
theorem linS : Lin cmpS:=by
  have:cmpS=cmpL cmpB:=funext λ a=>funext λ b=>cmpS_eq a b
  rw [this];exact linS0
def cmpV (a b:Va):Int:=orI (cmpI a.kind b.kind) (orI (cmpI a.int b.int) (cmpS a.text b.text))
theorem linV : Lin cmpV:=(linI.lex (linI.lex linS)).via (λ v:Va=>(v.kind,v.int,v.text)) λ x y e=>by
  obtain ⟨a,b,c⟩:=x
  obtain ⟨a',b',c'⟩:=y
  simp only [Prod.mk.injEq] at e
  obtain ⟨rfl,rfl,rfl⟩:=e
  rfl
abbrev cmpRw : List Va->List Va->Int:=cmpL cmpV
theorem linR : Lin cmpRw:=linV.list
structure Fz where
  row:List Va
  fr:Int
  to:Int
def cmpF (a b:Fz):Int:=orI (cmpRw a.row b.row) (orI (cmpI a.fr b.fr) (cmpI a.to b.to))
theorem linF : Lin cmpF:=(linR.lex (linI.lex linI)).via (λ f:Fz=>(f.row,f.fr,f.to)) λ x y e=>by
  obtain ⟨a,b,c⟩:=x
  obtain ⟨a',b',c'⟩:=y
  simp only [Prod.mk.injEq] at e
  obtain ⟨rfl,rfl,rfl⟩:=e
  rfl
abbrev Ord {α:Type} (c:α->α->Int) (l:List α):Prop:=l.Pairwise λ a b=>c a b<=0
theorem Ord.perm {α:Type} {c:α->α->Int} (h:Lin c) : ∀ {a b:List α},a.Perm b->Ord c a->Ord c b->a=b
  | [],b,hp,_,_=>(List.nil_perm.1 hp).symm ▸ rfl
  | x::a,b,hp,ha,hb=>by
    cases b with
    | nil=>exact absurd hp.length_eq (by simp)
    | cons y b =>
      have hxy:x=y:=by
        have hx:x∈y::b:=hp.mem_iff.1 (by simp)
        have hy:y∈x::a:=hp.mem_iff.2 (by simp)
        rcases List.mem_cons.1 hx with e | hx
        . exact e
        rcases List.mem_cons.1 hy with e | hy
        . exact e.symm
        have h1:=List.rel_of_pairwise_cons ha hy
        have h2:=List.rel_of_pairwise_cons hb hx
        have h3:=h.anti x y
        exact h.eq x y (by omega)
      subst hxy
      rw [Ord.perm h (List.Perm.cons_inv hp) ha.of_cons hb.of_cons]
open Go.RowKit
structure Canon (l:List (Int×Int)) (p:Int->Prop):Prop where
  ok : ∀ x∈l,x.1<x.2
  apart:l.Pairwise λ x y=>x.2<y.1
  mem : ∀ t,p t ↔ ∃ x∈l,x.1<=t/\t<x.2
theorem Canon.first {x:Int×Int} {l:List (Int×Int)} {p:Int->Prop} (h:Canon (x::l) p):p x.1/\(∀ t,t<x.1 -> ¬ p t)/\(∀ t,x.1<=t->t<x.2->p t) /\ ¬ p x.2:=by
  have hx:=h.ok x (by simp)
  have ha : ∀ y∈l,x.2<y.1:=λ y hy=>List.rel_of_pairwise_cons h.apart hy
  refine ⟨(h.mem _).2 ⟨x,by simp,by omega,hx⟩,λ t ht q=>?_,λ t h1 h2=>(h.mem _).2 ⟨x,by simp,h1,h2⟩,λ q=>?_⟩
  . obtain ⟨y,hy,h1,h2⟩:=(h.mem _).1 q
    rcases List.mem_cons.1 hy with rfl | hy
    . omega
    . have:=ha y hy;omega
  . obtain ⟨y,hy,h1,h2⟩:=(h.mem _).1 q
    rcases List.mem_cons.1 hy with rfl | hy
    . omega
    . have:=ha y hy;omega
theorem Canon.rest {x:Int×Int} {l:List (Int×Int)} {p:Int->Prop} (h:Canon (x::l) p):Canon l (λ t=>p t/\x.2<t):=by
  have hx:=h.ok x (by simp)
  have ha : ∀ y∈l,x.2<y.1:=λ y hy=>List.rel_of_pairwise_cons h.apart hy
  refine ⟨λ y hy=>h.ok y (by simp [hy]),h.apart.of_cons,λ t=>⟨λ ⟨q,q2⟩=>?_,λ ⟨y,hy,h1,h2⟩=>⟨(h.mem _).2 ⟨y,by simp [hy],h1,h2⟩,by have:=ha y hy;omega⟩⟩⟩
  obtain ⟨y,hy,h1,h2⟩:=(h.mem _).1 q
  rcases List.mem_cons.1 hy with rfl | hy
  . omega
  . exact ⟨y,hy,h1,h2⟩
theorem Canon.iff {l:List (Int×Int)} {p q:Int->Prop} (h:Canon l p) (e : ∀ t,p t↔q t):Canon l q:=⟨h.ok,h.apart,λ t=>(e t).symm.trans (h.mem t)⟩
theorem Canon.nil_iff {l:List (Int×Int)} {p:Int->Prop} (h:Canon l p):l=[] ↔ ∀ t,¬ p t:=by
  constructor
  . rintro rfl t q
    obtain ⟨x,hx,_⟩:=(h.mem t).1 q
    cases hx
  . intro k
    cases l with
    | nil=>rfl
    | cons x l=>exact absurd h.first.1 (k _)
theorem Canon.uniq : ∀ {l m:List (Int×Int)} {p:Int->Prop},Canon l p->Canon m p->l=m
  | [],m,p,h,k=>(k.nil_iff.2 (h.nil_iff.1 rfl)).symm
  | x::l,[],p,h,k=>absurd h.first.1 (k.nil_iff.1 rfl _)
  | x::l,y::m,p,h,k=>by
    obtain ⟨a1,a2,a3,a4⟩:=h.first
    obtain ⟨b1,b2,b3,b4⟩:=k.first
    have hx:=h.ok x (by simp)
    have hy:=k.ok y (by simp)
    have e1:x.1=y.1:=by
      rcases Int.lt_trichotomy x.1 y.1 with q | q | q
      . exact absurd a1 (b2 _ q)
      . exact q
      . exact absurd b1 (a2 _ q)
    have e2:x.2=y.2:=by
      rcases Int.lt_trichotomy x.2 y.2 with q | q | q
      . exact absurd (b3 _ (by omega) q) a4
      . exact q
      . exact absurd (a3 _ (by omega) q) b4
    have e:x=y:=Prod.ext e1 e2
    subst e
    rw [Canon.uniq h.rest k.rest]
def Layers (c:Int->Int) (k:Nat):List (Int×Int)->Prop:=λ out => ∃ ls:List (List (Int×Int)),out=ls.flatten/\(∀ (j:Nat) l,ls[j]? = some l->l≠[]/\Canon l (λ t=>(k:Int)+j<c t)) /\ ∀ t,c t<=k+ls.length
theorem Layers.uniq0 {c:Int->Int} : ∀ (ls ms:List (List (Int×Int))) (k:Nat),(∀ (j:Nat) l,ls[j]? = some l->l≠[]/\Canon l (λ t=>(k:Int)+j<c t))->(∀ t,c t<=k+ls.length)->(∀ (j:Nat) l,ms[j]? = some l->l≠[]/\Canon l (λ t=>(k:Int)+j<c t))->(∀ t,c t<=k+ms.length)->ls=ms
  | [],[],_,_,_,_,_=>rfl
  | [],m::ms,k,_,h2,h3,_=>by
    obtain ⟨a,b⟩:=h3 0 m rfl
    exact absurd (b.nil_iff.2 λ t q=>by have:=h2 t;simp at this q;omega) a
  | l::ls,[],k,h1,_,_,h4=>by
    obtain ⟨a,b⟩:=h1 0 l rfl
    exact absurd (b.nil_iff.2 λ t q=>by have:=h4 t;simp at this q;omega) a
  | l::ls,m::ms,k,h1,h2,h3,h4=>by
    have e:l=m:=Canon.uniq (h1 0 l rfl).2 (h3 0 m rfl).2
    have sh : ∀ {xs:List (List (Int×Int))} {x:List (Int×Int)},(∀ (j:Nat) l,(x::xs)[j]? = some l->l≠[]/\Canon l (λ t=>(k:Int)+j<c t)) -> ∀ (j:Nat) l,xs[j]? = some l->l≠[]/\Canon l (λ t=>((k+1:Nat):Int)+j<c t):=λ h j l hl=>by
      have:=h (j+1) l (by simpa using hl)
      refine ⟨this.1,this.2.iff λ t=>?_⟩
      constructor <;> intro q <;> omega
    rw [e,Layers.uniq0 ls ms (k+1) (sh h1) (λ t=>by have:=h2 t;simp at this;omega) (sh h3) (λ t=>by have:=h4 t;simp at this;omega)]
theorem Layers.uniq {c:Int->Int} {k:Nat} {l m:List (Int×Int)} (h:Layers c k l) (g:Layers c k m):l=m:=by
  obtain ⟨ls,rfl,h1,h2⟩:=h
  obtain ⟨ms,rfl,h3,h4⟩:=g
  rw [Layers.uniq0 ls ms k h1 h2 h3 h4]
theorem Layers.iff {c d:Int->Int} {k:Nat} {l:List (Int×Int)} (h:Layers c k l) (e : ∀ t,max (c t) 0=max (d t) 0):Layers d k l:=by
  obtain ⟨ls,h0,h1,h2⟩:=h
  refine ⟨ls,h0,λ j l hl=>⟨(h1 j l hl).1,(h1 j l hl).2.iff λ t=>?_⟩,λ t=>?_⟩
  . have:=e t;constructor <;> intro q <;> omega
  . have:=e t;have:=h2 t;omega
theorem Layers.nil {c:Int->Int} {k:Nat} (h : ∀ t,c t<=k):Layers c k []:=⟨[],rfl,λ j l hl=>by simp at hl,λ t=>by simpa using h t⟩
abbrev inP (t:Int) (x:Int×Int):Bool:=decide (x.1<=t/\t<x.2)
theorem Canon.count {l:List (Int×Int)} {p:Int->Prop} (h:Canon l p) (t:Int):(p t->(l.filter (inP t)).length=1)/\(¬ p t->(l.filter (inP t)).length=0):=by
  induction l generalizing p with
  | nil=>exact ⟨λ q=>absurd q ((h.nil_iff.1 rfl) t),λ _=>rfl⟩
  | cons x l ih =>
    have hr:=ih h.rest
    obtain ⟨a1,a2,a3,a4⟩:=h.first
    by_cases q:x.1<=t/\t<x.2
    . rw [List.filter_cons_of_pos (by simpa using q),List.length_cons,hr.2 (by omega)]
      exact ⟨λ _=>rfl,λ z=>absurd (a3 t q.1 q.2) z⟩
    . rw [List.filter_cons_of_neg (by simpa using q)]
      refine ⟨λ z=>hr.1 ⟨z,?_⟩,λ z=>hr.2 λ y=>z y.1⟩
      rcases Int.lt_trichotomy t x.2 with w | w | w
      . exact absurd z (a2 t (by omega))
      . subst w;exact absurd z a4
      . exact w
theorem Layers.count {c:Int->Int} {l:List (Int×Int)} {k:Nat} (h:Layers c k l) (t:Int):((l.filter (inP t)).length:Int)=max (c t-k) 0:=by
  obtain ⟨ls,rfl,h1,h2⟩:=h
  induction ls generalizing k with
  | nil=>have:=h2 t;simp at this ⊢;omega
  | cons m ls ih =>
    rw [List.flatten_cons,List.filter_append,List.length_append]
    have hc:=(h1 0 m rfl).2.count t
    have ih:=ih (k:=k+1) (λ j l hl=>by
      have:=h1 (j+1) l (by simpa using hl)
      refine ⟨this.1,this.2.iff λ t=>?_⟩
      constructor <;> intro q <;> omega) (λ t=>by have:=h2 t;simp at this;omega)
    by_cases q:(k:Int)<c t
    . have:=hc.1 (by simpa using q)
      omega
    . have:=hc.2 (by simpa using q)
      omega
abbrev okP (a b:Int):Prop:=0<=a/\a<b/\b<=1099511627776
theorem Canon.okP {l:List (Int×Int)} {p:Int->Prop} (h:Canon l p) (hp : ∀ t,p t->0<=t/\t<1099511627776) : ∀ x∈l,okP x.1 x.2:=λ x hx=>by
  have h1:=h.ok x hx
  have h2:=hp x.1 ((h.mem _).2 ⟨x,hx,by omega,h1⟩)
  have h3:=hp (x.2-1) ((h.mem _).2 ⟨x,hx,by omega,by omega⟩)
  unfold Go.Proofs.YtnnfjemaeefbiaaGreatDoor.okP
  omega
theorem Layers.okP {c:Int->Int} {l:List (Int×Int)} {k:Nat} (h:Layers c k l) (hp : ∀ t,0<c t->0<=t/\t<1099511627776) : ∀ x∈l,okP x.1 x.2:=λ x hx=>by
  obtain ⟨ls,rfl,h1,_⟩:=h
  obtain ⟨m,hm,hx⟩:=List.mem_flatten.1 hx
  obtain ⟨j,hj⟩:=List.getElem?_of_mem hm
  exact (h1 j m hj).2.okP (λ t q=>hp t (by omega)) x hx
abbrev hitF (r:List Va) (t:Int) (f:Fz):Bool:=decide (okP f.fr f.to) && decide (f.row=r) && inP t (f.fr,f.to)
def cnt (L:List Fz) (r:List Va) (t:Int):Int:=((L.filter (hitF r t)).length:Int)
theorem cnt_append (L M:List Fz) (r:List Va) (t:Int):cnt (L++M) r t=cnt L r t+cnt M r t:=by unfold cnt;rw [List.filter_append,List.length_append];omega
theorem cnt_perm {L M:List Fz} (h:L.Perm M) (r:List Va) (t:Int):cnt L r t=cnt M r t:=by unfold cnt;rw [(h.filter _).length_eq]
theorem cnt_nil (r:List Va) (t:Int):cnt [] r t=0:=rfl
theorem cnt_pos {L:List Fz} {r:List Va} {t:Int} (h:0<cnt L r t):0<=t/\t<1099511627776:=by
  unfold cnt at h
  obtain ⟨f,hf⟩:=List.exists_mem_of_length_pos (by omega:0<(L.filter (hitF r t)).length)
  have:=(List.mem_filter.1 hf).2
  simp only [hitF,Bool.and_eq_true,decide_eq_true_eq] at this
  unfold okP at this
  omega
theorem cnt_nonneg (L:List Fz) (r:List Va) (t:Int):0<=cnt L r t:=by unfold cnt;omega
theorem cnt_filter (L:List Fz) (p:List Va->Bool) (r:List Va) (t:Int):cnt (L.filter λ f=>p f.row) r t=if p r=true then cnt L r t else 0:=by
  unfold cnt
  rw [List.filter_filter]
  by_cases q:p r=true
  . rw [if_pos q]
    congr 2
    apply List.filter_congr
    intro f _
    simp only [hitF]
    by_cases e:f.row=r
    . rw [e,q];simp
    . simp [e]
  . rw [if_neg q]
    have:(L.filter λ f=>hitF r t f && p f.row)=[]:=by
      rw [List.filter_eq_nil_iff]
      intro f _ hh
      simp only [hitF,Bool.and_eq_true,decide_eq_true_eq] at hh
      rw [hh.1.1.2] at hh
      exact q hh.2
    rw [this];rfl
def fzs (r:List Va) (l:List (Int×Int)):List Fz:=l.map λ x=>⟨r,x.1,x.2⟩
def NF (out:List Fz) (c:List Va->Int->Int):Prop:=Ord cmpF out /\ ∃ (R:List (List Va)) (G:List Va->List (Int×Int)),R.Nodup/\(∀ r∈R,Layers (c r) 0 (G r))/\(∀ r,r∉R -> ∀ t,c r t<=0)/\out.Perm (R.flatMap λ r=>fzs r (G r))
theorem flat_perm {α β:Type} [DecidableEq α] {f:α->List β} : ∀ {R S:List α},R.Nodup->S.Nodup->(∀ r∈R,r∉S->f r=[])->(∀ r∈S,r∉R->f r=[])->(R.flatMap f).Perm (S.flatMap f)
  | [],S,_,_,_,h=>by
    have:S.flatMap f=[]:=by rw [List.flatMap_eq_nil_iff];exact λ r hr=>h r hr (by simp)
    rw [this];exact List.Perm.refl _
  | r::R,S,h1,h2,h3,h4=>by
    rw [List.nodup_cons] at h1
    by_cases q:r∈S
    . have hp:S.Perm (r::S.erase r):=List.perm_cons_erase q
      refine List.Perm.trans ?_ (hp.flatMap_right f).symm
      rw [List.flatMap_cons,List.flatMap_cons]
      refine List.Perm.append_left _ (flat_perm h1.2 (h2.erase r) (λ x hx hn=>h3 x (by simp [hx]) λ z=>hn ?_) (λ x hx hn=>h4 x (List.mem_of_mem_erase hx) λ z=>?_))
      . exact (List.mem_erase_of_ne λ e=>h1.1 (by rw [<-e];exact hx)).2 z
      . rcases List.mem_cons.1 z with e | z
        . subst e;exact (h2.not_mem_erase) hx
        . exact hn z
    . rw [List.flatMap_cons,h3 r (by simp) q,List.nil_append]
      exact flat_perm h1.2 h2 (λ x hx hn=>h3 x (by simp [hx]) hn) (λ x hx hn=>h4 x hx λ z=>by
        rcases List.mem_cons.1 z with e | z
        . subst e;exact q hx
        . exact hn z)
theorem flat_congr {α β:Type} {f g:α->List β} : ∀ {R:List α},(∀ r∈R,f r=g r)->R.flatMap f=R.flatMap g
  | [],_=>rfl
  | r::R,h=>by rw [List.flatMap_cons,List.flatMap_cons,h r (by simp),flat_congr λ x hx=>h x (by simp [hx])]
theorem NF.uniq {a b:List Fz} {c d:List Va->Int->Int} (h:NF a c) (k:NF b d) (e : ∀ r t,max (c r t) 0=max (d r t) 0):a=b:=by
  obtain ⟨h1,R,G,h2,h3,h4,h5⟩:=h
  obtain ⟨k1,S,H,k2,k3,k4,k5⟩:=k
  refine Ord.perm linF (h5.trans (List.Perm.trans ?_ k5.symm)) h1 k1
  have hG : ∀ r∈R,r∉S->G r=[]:=λ r hr hn=>(h3 r hr).uniq (Layers.nil λ t=>by have:=k4 r hn t;have:=e r t;simp;omega)
  have hH : ∀ r∈S,r∉R->H r=[]:=λ r hr hn=>(k3 r hr).uniq (Layers.nil λ t=>by have:=h4 r hn t;have:=e r t;simp;omega)
  have hGH : ∀ r∈R,r∈S->G r=H r:=λ r hr hs=>((h3 r hr).iff (e r)).uniq (k3 r hs)
  have e1:(R.flatMap λ r=>fzs r (G r))=R.flatMap λ r=>fzs r (if r∈R then G r else H r):=flat_congr λ r hr=>by rw [if_pos hr]
  have e2:(S.flatMap λ r=>fzs r (H r))=S.flatMap λ r=>fzs r (if r∈R then G r else H r):=flat_congr λ r hr=>by
    by_cases q:r∈R
    . rw [if_pos q,hGH r q hr]
    . rw [if_neg q]
  rw [e1,e2]
  refine flat_perm h2 k2 (λ r hr hn=>?_) (λ r hr hn=>?_)
  . rw [if_pos hr,hG r hr hn];rfl
  . rw [if_neg hn,hH r hr hn];rfl
theorem cnt_fzs {r:List Va} {l:List (Int×Int)} (ho : ∀ x∈l,okP x.1 x.2) (q:List Va) (t:Int):cnt (fzs r l) q t=if r=q then ((l.filter (inP t)).length:Int) else 0:=by
  unfold cnt fzs
  rw [List.filter_map,List.length_map]
  by_cases e:r=q
  . rw [if_pos e]
    congr 2
    apply List.filter_congr
    intro x hx
    have:=ho x hx
    simp [hitF,e,this]
  . rw [if_neg e]
    have:l.filter (hitF q t ∘ λ x=>(⟨r,x.1,x.2⟩:Fz))=[]:=by
      rw [List.filter_eq_nil_iff]
      intro x _
      simp [hitF,e]
    rw [this];rfl
theorem cnt_flat {G:List Va->List (Int×Int)} (r:List Va) (t:Int) : ∀ {R:List (List Va)},R.Nodup->(∀ r∈R,∀ x∈G r,okP x.1 x.2)->cnt (R.flatMap λ r=>fzs r (G r)) r t=if r∈R then (((G r).filter (inP t)).length:Int) else 0
  | [],_,_=>rfl
  | q::R,h,ho=>by
    rw [List.nodup_cons] at h
    rw [List.flatMap_cons,cnt_append,cnt_fzs (ho q (by simp)),cnt_flat r t h.2 λ r hr=>ho r (by simp [hr])]
    by_cases e:q=r
    . subst e
      rw [if_pos rfl,if_neg h.1,if_pos (by simp)];omega
    . rw [if_neg e]
      by_cases z:r∈R
      . rw [if_pos z,if_pos (by simp [z])];omega
      . rw [if_neg z,if_neg (by simp [z,Ne.symm e])];omega
theorem NF.cnt {out:List Fz} {c:List Va->Int->Int} (h:NF out c) (hc : ∀ r t,0<c r t->0<=t/\t<1099511627776) (r:List Va) (t:Int):cnt out r t=max (c r t) 0:=by
  obtain ⟨_,R,G,h2,h3,h4,h5⟩:=h
  rw [cnt_perm h5,cnt_flat r t h2 λ r hr=>(h3 r hr).okP (hc r)]
  by_cases z:r∈R
  . rw [if_pos z,(h3 r z).count t];simp
  . rw [if_neg z];have:=h4 r z t;omega
end Go.Proofs.YtnnfjemaeefbiaaGreatDoor
