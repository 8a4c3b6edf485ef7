/- The texts Reg Lib, one behind the other: what the law leans on. Conditions: as each theorem says. -/
import Derived.Test.YtkfmfoecplbclaaGreatDoorRows
import Derived.WalkKit
import Derived.OrdersHeld
import Derived.StillTail
import Derived.WalkSpells
import Derived.WalkLawsBesides
import Derived.ProofKit
import Derived.OpenShut
import Derived.JoinedCond
import Derived.Deep.RegionHeld3
import Derived.Deep.AppendLies
import Derived.Deep.MidRow
import Derived.Lib.Hide
import Derived.Laws.CopyOwn
set_option linter.unusedSimpArgs false
set_option linter.unusedVariables false
set_option maxRecDepth 100000
set_option maxHeartbeats 16000000
namespace Go.Proofs.YtkfmfoecplbclaaGreatDoor
theorem cA.{w} {α : Type w} {a : α} {xs ys : List α} : (a :: xs) ++ ys = a :: (xs ++ ys) := rfl
theorem nA.{w} {α : Type w} (xs : List α) : [] ++ xs = xs := rfl
theorem lC.{w} {α : Type w} {a : α} {xs : List α} : (a :: xs).length = xs.length + 1 := rfl
theorem lN.{w} {α : Type w} : ([] : List α).length = 0 := rfl
theorem dS.{w} {α : Type w} {a : α} {l : List α} {i : Nat} : (a :: l).drop (i + 1) = l.drop i := rfl
theorem tS.{w} {α : Type w} {a : α} {l : List α} {i : Nat} : (a :: l).take (i + 1) = a :: l.take i := rfl
theorem tZ.{w} {α : Type w} {l : List α} : l.take 0 = [] := rfl
theorem dZ.{w} {α : Type w} {l : List α} : l.drop 0 = l := rfl
theorem aN.{w} {α : Type w} (xs : List α) : xs ++ [] = xs := List.append_nil xs
theorem dN.{w} {α : Type w} {i : Nat} : ([] : List α).drop i = [] := List.drop_nil
theorem nB {n m : Nat} (h : Nat.ble n m = true) : n <= m := Nat.le_of_ble_eq_true h
end Go.Proofs.YtkfmfoecplbclaaGreatDoor
namespace Go.Proofs.YtkfmfoecplbclaaGreatDoor
section
variable {P : Program} {ops:Array Oper} {Q:Exit->Act->World->Prop} {md:Region.Mode}
def doneB (n size:Nat):Array Bool:=((List.range size).map λ i=>decide (i<n)).toArray
def directB (md:Region.Mode) (ops:Array Oper) (n:Nat):Bool :=
 (List.range ops.size).all λ j=>decide (j<n) || (List.range n).all (λ i=>Region.waitsFor md ops j i) || (List.range j).any (λ t=>decide (n<=t) && Region.waitsFor md ops j t)
def TailFree (n:Nat) (ops:Array Oper) (listed:Array Bool):Prop := ∀ t,n<=t->t<ops.size->listed.getD t true=false
def wpT (P:Program) (md:Region.Mode) (ops:Array Oper) (Q:Exit->Act->World->Prop) (n:Nat) (T:Act->World->Prop):Nat->(World->Prop)->Array Bool->Act->World->Prop
 | 0,_,listed,a,w=>listed=doneB n ops.size/\T a w
 | f+1,S,listed,a,w=>Region.ready md ops listed≠[] /\ ∀ i∈Region.ready md ops listed,i<n /\
   wpOp P ops Q i (λ a' w' => ∃ S':World->Prop,(∀ u,S' u->S u)/\S' w'/\wpT P md ops Q n T f S' (listed.setIfInBounds i true) a' w') a w
theorem getD_clash {listed:Array Bool} {i:Nat} (h:listed.getD i true=false) (h':listed.getD i false=true):False:=by
 rcases Nat.lt_or_ge i listed.size with hl | hl
 . simp [hl] at h h';rw [h] at h';cases h'
 . simp [Array.getElem?_eq_none hl] at h
theorem head_only {n i:Nat} {listed:Array Bool} (hd:directB md ops n=true) (ht:TailFree n ops listed) (hin:i<n) (hun:listed.getD i true=false) :
    ∀ j∈Region.ready md ops listed,j<n:=by
  intro j hj
  obtain ⟨_,oj,hoj,hall⟩:=mem_ready.1 hj
  have hlt:=(Array.getElem?_eq_some_iff.1 hoj).1
  have h1:=List.all_eq_true.1 hd j (List.mem_range.2 hlt)
  simp only [Bool.or_eq_true,decide_eq_true_eq] at h1
  rcases h1 with (h1 | h1) | h1
  . exact h1
  . obtain ⟨o',ho',e,he,hb,hon⟩:=Region.waitsFor_spec (List.all_eq_true.1 h1 i (List.mem_range.2 hin))
    have:o'=oj:=Option.some.inj (ho'.symm.trans hoj)
    subst this
    have h2:=hall e he hb
    rw [hon] at h2
    exact (getD_clash hun h2).elim
  . obtain ⟨t,htm,h2⟩:=List.any_eq_true.1 h1
    simp only [Bool.and_eq_true,decide_eq_true_eq] at h2
    obtain ⟨o',ho',e,he,hb,hon⟩:=Region.waitsFor_spec h2.2
    have:o'=oj:=Option.some.inj (ho'.symm.trans hoj)
    subst this
    have h3:=hall e he hb
    rw [hon] at h3
    exact (getD_clash (ht t h2.1 (by have:=List.mem_range.1 htm;omega)) h3).elim
theorem TailFree.set {n i:Nat} {listed:Array Bool} (ht:TailFree n ops listed) (hin:i<n):TailFree n ops (listed.setIfInBounds i true):=λ t h1 h2=>by
 rw [getD_set_ne true (by omega)];exact ht t h1 h2
theorem getD_doneB {n size j:Nat} (hj:j<n):(doneB n size).getD j true=true:=by
 rcases Nat.lt_or_ge j size with h | h
 . simp [doneB,h,hj]
 . simp [doneB,Array.getElem?_eq_none,h]
theorem YieldsIf.weaken {S S':World->Prop} {o:Oper} {v:Value} {a:Act} (h:YieldsIf P ops S o v a) (hs : ∀ u,S' u->S u):YieldsIf P ops S' o v a :=
 h.imp (λ ⟨hw,hv⟩=>⟨hw,λ w h=>hv w (hs w h)⟩) id
theorem wpT_first {n i:Nat} {T:Act->World->Prop} {oi:Oper} {v:Value} (hi:ops[i]? = some oi) (hsel : ∀ (j:Nat) (o:Oper) cs b,ops[j]? = some o->o.op ≠ .select cs b)
    (hQ : ∀ c a w,Q (.panic c) (a.put oi.dst v) w->Q (.panic c) a w) (hd:directB md ops n=true) (hin:i<n) :
    ∀ (f:Nat) (S:World->Prop) (listed:Array Bool) (a:Act) (w:World),TailFree n ops listed ->
      (∀ j oj,ops[j]? = some oj->j≠i->listed.getD j true=false->(∀ e∈oj.after,Region.binds md e=true->e.on≠i)->oi.apart ops oj=true) ->
      i∈Region.ready md ops listed->YieldsIf P ops S oi v a->S w ->
      wpT P md ops Q n T f S (listed.setIfInBounds i true) (a.put oi.dst v) w->wpT P md ops Q n T (f+1) S listed a w:=by
  intro f
  induction f with
  | zero =>
    intro S listed a w ht _ hr hy hS H
    refine ⟨(λ h=>(by rw [h] at hr;cases hr)),λ j hj=>?_⟩
    have hjn:=head_only hd ht hin (mem_ready.1 hr).1 j hj
    refine ⟨hjn,?_⟩
    by_cases hji:j=i
    . subst hji;exact hy.wpOp hi hS ⟨S,λ _ h=>h,hS,H⟩
    . have h1:=(mem_ready.1 hj).1
      rw [<-getD_set_ne true (Ne.symm hji),H.1,getD_doneB hjn] at h1
      cases h1
  | succ f ih =>
    intro S listed a w ht hfree hr hy hS H
    refine ⟨(λ h=>(by rw [h] at hr;cases hr)),λ j hj=>?_⟩
    have hjn:=head_only hd ht hin (mem_ready.1 hr).1 j hj
    refine ⟨hjn,?_⟩
    by_cases hji:j=i
    . subst hji;exact hy.wpOp hi hS ⟨S,λ _ h=>h,hS,H⟩
    . have h1:=(H.2 j (ready_mono hj hji)).2
      obtain ⟨hjun,oj,hoj,hall⟩:=mem_ready.1 hj
      have hnot : ∀ e∈oj.after,Region.binds md e=true->e.on≠i:=λ e he hb heq=>by
        have h2:=hall e he hb
        rw [heq] at h2
        exact getD_clash (mem_ready.1 hr).1 h2
      have h2:=wpOp_putIf (S:=S) hoj (hfree j oj hoj hji hjun hnot) (λ cs b=>hsel i oi cs b hi) (λ cs b=>hsel j oj cs b hoj) hQ hy h1
      refine wpOp_mono (λ a' w' h3=>?_) h2
      obtain ⟨hy',S',hSS,hS',hT⟩:=h3
      refine ⟨S',hSS,hS',ih S' (listed.setIfInBounds j true) a' w' (ht.set hjn) (λ k ok hk hki hun hno=>?_) (ready_mono hr (Ne.symm hji)) (YieldsIf.weaken hy' hSS) hS' ?_⟩
      . refine hfree k ok hk hki ?_ hno
        by_cases hjk:j=k
        . subst hjk;exact hjun
        . rw [getD_set_ne true hjk] at hun;exact hun
      . rw [Array.setIfInBounds_comm _ _ hji];exact hT
def tailFreeB (n:Nat) (ops:Array Oper) (listed:Array Bool):Bool:=(List.range ops.size).all λ t=>decide (t<n) || !listed.getD t true
theorem tailFreeB_spec {n:Nat} {listed:Array Bool} (h:tailFreeB n ops listed=true):TailFree n ops listed:=λ t h1 h2=>by
 have:=List.all_eq_true.1 h t (List.mem_range.2 h2)
 simpa [Nat.not_lt.2 h1] using this
def takeB (md:Region.Mode) (ops:Array Oper) (n i:Nat) (listed:Array Bool):Bool :=
 Region.noSelect ops && Region.free md ops listed i && (Region.ready md ops listed).contains i && decide (i<n) && directB md ops n && tailFreeB n ops listed
theorem getElem?_of_drop {i:Nat} {o:Oper} {rest:List Oper} (h:ops.toList.drop i=o::rest):ops[i]? = some o:=by
 have:ops.toList[i]? = some o:=by rw [<-List.head?_drop,h];rfl
 simpa using this
theorem Wu {rest:List Oper} {n i f:Nat} {S:World->Prop} {T:Act->World->Prop} {oi:Oper} {v:Value} {listed:Array Bool} {a:Act} {w:World} (hi':ops.toList.drop i=oi::rest)
  (hQ : ∀ c a w,Q (.panic c) (a.put oi.dst v) w->Q (.panic c) a w) (hS:S w) (hy:YieldsIf P ops S oi v a)
  (h:wpT P md ops Q n T f S (listed.setIfInBounds i true) (a.put oi.dst v) w) (hb:takeB md ops n i listed=true:=by kernel_rfl):wpT P md ops Q n T (f+1) S listed a w:=by
 have hi:=getElem?_of_drop hi'
 simp only [takeB,Bool.and_eq_true,decide_eq_true_eq] at hb
 obtain ⟨⟨⟨⟨⟨h1,h2⟩,h3⟩,h4⟩,h5⟩,h6⟩:=hb
 exact wpT_first hi (Region.noSelect_spec h1) hQ h5 h4 f S listed a w (tailFreeB_spec h6) (Region.free_spec hi h2) (by simpa using h3) hy hS h
theorem wpT_one {rest:List Oper} {n i f:Nat} {S:World->Prop} {T:Act->World->Prop} {o:Oper} {listed:Array Bool} {a:Act} {w:World} (hi':ops.toList.drop i=o::rest) (hg:Region.wanted o (yielded ops a.tmps)=true)
 
  (h : ∀ K:Act->World->Prop,(∀ (S':World->Prop) a' w',(∀ u,S' u->S u)->S' w'->wpT P md ops Q n T f S' (listed.setIfInBounds i true) a' w'->K a' w')->o.wp P a w K Q) (hb:(decide (Region.ready md ops listed=[i]) && decide (i<n))=true:=by kernel_rfl) :
  wpT P md ops Q n T (f+1) S listed a w:=by
 have hi:=getElem?_of_drop hi'
 simp only [Bool.and_eq_true,decide_eq_true_eq] at hb
 refine ⟨by rw [hb.1];simp,λ j hj=>?_⟩
 rw [hb.1] at hj
 simp only [List.mem_singleton] at hj
 subst hj
 refine ⟨hb.2,?_⟩
 unfold wpOp
 simp only [hi,hg,if_true]
 exact .inl (h _ λ S' a' w' h1 h2 h3=>⟨S',h1,h2,h3⟩)
theorem wpT_done {n:Nat} {S:World->Prop} {T:Act->World->Prop} {listed:Array Bool} {a:Act} {w:World} (h:T a w) (hb:listed=doneB n ops.size:=by kernel_rfl):wpT P md ops Q n T 0 S listed a w:=⟨hb,h⟩
theorem wpAny_of_wpT {n:Nat} (hseq:Region.seqB md ops (ops.toList.drop n).length n (doneB n ops.size)=true) :
  ∀ (f:Nat) (S:World->Prop) (listed:Array Bool) (a:Act) (w:World),wpT P md ops Q n (wpList P ops Q (ops.toList.drop n)) f S listed a w->wpAny P md ops Q (f+(ops.toList.drop n).length) listed a w
 | 0,_,listed,a,w,h=>by
  obtain ⟨rfl,h⟩:=h
  rw [Nat.zero_add]
  exact wpAny_of_seq _ n _ a w (λ j=>by simp) hseq h
 | f+1,S,listed,a,w,h=>by
  rw [show f+1+(ops.toList.drop n).length=(f+(ops.toList.drop n).length)+1 by omega]
  refine ⟨λ h0=>absurd h0 h.1,λ i hi=>wpOp_mono (λ a' w' h'=>?_) (h.2 i hi).2⟩
  obtain ⟨S',_,_,h'⟩:=h'
  exact wpAny_of_wpT hseq f S' _ a' w' h'
theorem wp_region_T {id:Nat} {l:List Oper} {a:Act} {w:World} (n:Nat) (S:World->Prop) (hn:n<=l.length)
  (h:wpT P .any l.toArray Q n (wpList P l.toArray Q (l.drop n)) n S (Array.replicate l.length false) a w.drew) (hm:P.follows .mixedOrders=true:=by kernel_rfl) (hseq:Region.seqB .any l.toArray (l.drop n).length n (doneB n l.length)=true:=by kernel_rfl):(Code.region id l.toArray true).wp P Q a w:=by
 refine wp_region_any hm ?_
 have:=wpAny_of_wpT (P:=P) (md := .any) (ops:=l.toArray) (Q:=Q) (n:=n) (by simpa using hseq) n S (Array.replicate l.length false) a w.drew h
 have e:n+(l.toArray.toList.drop n).length=l.toArray.size:=by simp;omega
 rw [e] at this
 simpa using this
end
open Go.RowKit
structure Kept (fp:List Nat) (w w':World):Prop where
 os:w'.os=w.os
 tape:w'.tape=w.tape
 output:w'.output=w.output
 size:w.heap.size<=w'.heap.size
 block : ∀ k,k<w.heap.size->k∉fp->w'.heap[k]? = w.heap[k]?
theorem Kept.refl (fp:List Nat) (w:World):Kept fp w w:=⟨rfl,rfl,rfl,Nat.le_refl _,λ _ _ _=>rfl⟩
theorem Kept.trans {fp fp':List Nat} {a b c:World} (h:Kept fp a b) (k:Kept fp' b c) (hs : ∀ x∈fp',x∈fp\/a.heap.size<=x):Kept fp a c :=
 ⟨k.os.trans h.os,k.tape.trans h.tape,k.output.trans h.output,Nat.le_trans h.size k.size,λ i hi hn =>
  (k.block i (Nat.lt_of_lt_of_le hi h.size) (λ hm=>by rcases hs i hm with h1 | h1;exact hn h1;omega)).trans (h.block i hi hn)⟩
theorem Kept.mono {fp fp':List Nat} {w w':World} (h:Kept fp w w') (hs : ∀ x∈fp,x∈fp'\/w.heap.size<=x):Kept fp' w w' :=
 ⟨h.os,h.tape,h.output,h.size,λ i hi hn=>h.block i hi (λ hm=>by rcases hs i hm with h1 | h1;exact hn h1;omega)⟩
theorem Kept.drew {fp:List Nat} {a w:World} (h:Kept fp a w):Kept fp a w.drew:=⟨h.os,h.tape,h.output,h.size,h.block⟩
theorem Kept.alloc {fp:List Nat} {a w:World} (h:Kept fp a w) (o:Obj):Kept fp a (w.alloc o) :=
 h.trans (fp':=[]) ⟨rfl,rfl,rfl,by simp,λ k hk _=>Below.heap_alloc _ _ _ hk⟩ (by simp)
theorem Kept.setCell {fp:List Nat} {a w:World} (h:Kept fp a w) {p:Addr} (hp:p.block∈fp\/a.heap.size<=p.block) (u:Value):Kept fp a (w.setCell p u) :=
 h.trans (fp':=[p.block]) ⟨rfl,rfl,rfl,by simp [World.setCell],λ k _ hn=>Below.heap_setCell _ _ _ _ (by simpa using hn)⟩ (by simpa using hp)
theorem Kept.grown {fp:List Nat} {a w w':World} {row:Option Nat} (h:Kept fp a w) (hg:w.grownBy w' row) (hr : ∀ k,row=some k->k∈fp\/a.heap.size<=k):Kept fp a w' :=
 h.trans (fp':=row.toList) ⟨hg.os,hg.tape,hg.output,hg.size,λ k hk hn=>hg.block k hk (λ e=>hn (by rw [<-e];simp))⟩ (by
  intro x hx;cases row with
  | none=>simp at hx
  | some r=>simp at hx;subst hx;exact hr _ rfl)
theorem Kept.toBelow {w w':World} (h:Kept [] w w'):Below w.heap.size w w':=⟨h.os,h.tape,h.output,h.size,λ k hk=>h.block k hk (by simp)⟩
theorem Kept.cell {fp:List Nat} {w w':World} (h:Kept fp w w') {p:Addr} (hp:p.block<w.heap.size) (hn:p.block∉fp):w'.cell? p=w.cell? p :=
 World.cell?_of_block (w:=w) (h.block p.block hp hn)
theorem Kept.frozen {fp:List Nat} {w w':World} (h:Kept fp w w') {p:Addr} (hp:p.block<w.heap.size) (hn:p.block∉fp):w'.frozen? p=w.frozen? p :=
 World.frozen?_of_block (w:=w) (h.block p.block hp hn)
theorem Zk {w:World} {b:Nat} {o:Obj} (h:w.heap[b]? = some o):b<w.heap.size:=(Array.getElem?_eq_some_iff.1 h).1
theorem owns_kept {w w':World} {base:Nat} {e:TypeId} {size:Nat} {v:Value} {n:Nat} {xs:List Value} {fp:List Nat}
    (h:w.ownsRow base e size v n xs) (hk:Kept fp w w') (hn : ∀ g,v.ownBlock=some g->g∉fp):w'.ownsRow base e size v n xs:=by
  refine ⟨h.1,?_⟩
  rcases h.2 with hn' | ⟨g,cap,cur,rfl,hb,hgg,rest⟩
  . exact .inl hn'
  . refine .inr ⟨g,cap,cur,rfl,hb,?_,rest⟩
    rw [hk.block g (Zk hgg) (hn g rfl)]
    exact hgg
theorem Kept.setRow {fp:List Nat} {a w:World} (h:Kept fp a w) {g:Nat} (hp:g∈fp\/a.heap.size<=g) (cs:Array Value):Kept fp a (w.setRow g cs) :=
 h.trans (fp':=[g]) ⟨rfl,rfl,rfl,by simp [World.setRow],λ k _ hn=>setRow_other w g k _ (by simpa using hn)⟩ (by simpa using hp)
theorem step_copy_kept {P:Program} {ops:Array Oper} {o:Oper} {a:Act} {w:World} {K:Act->World->Prop} {Q:Exit->Act->World->Prop} {E:Prop} (hgd:o.guard=none) (d s:Operand) (dT sT:TypeId)
    (ho:o.op = .call {callee := .builtin .copy,args := #[d,s],argTypes := #[dT,sT]}) (elem:TypeId) (hu:P.underlying dT=some (.slice elem)) (hsz:(P.info? elem).map (·.size)=some 1)
    (dp sp:Option Addr) (dLen dCap sLen sCap:Nat) (hd:a.eval d = .slice dp dLen dCap) (hs:a.eval s = .slice sp sLen sCap)
    (g off:Nat) (cur:List Value) (t:TypeId) (hg:w.heap[g]? = some (.cells cur.toArray t (0,0))) (cs:List Value) (hn:cs.length=Nat.min sLen dLen)
    (hpos:0<cs.length->dp=some ⟨g,off,none⟩ /\ ∃ ad,sp=some ad /\ ∀ j v,cs[j]? = some v->w.cell? (ad.add j)=some v)
    (hfit:off+cs.length<=cur.length) (h1 : ∀ v∈cs,v.oneCell'=true)
    (h : ∀ w',w'.heap[g]? = some (.cells (splice cur off cs).toArray t (0,0))->Kept [g] w w'->K (a.put o.dst (goInt cs.length)) w') :
    if Region.wanted o (yielded ops a.tmps)=true then Oper.wp P o a w K Q else E:=by
  have hw:Region.wanted o (yielded ops a.tmps)=true:=by simp [Region.wanted,hgd]
  rw [if_pos hw]
  by_cases h0:cs.length=0
  . obtain rfl:cs=[]:=List.eq_nil_of_length_eq_zero h0
    have hrun:=run_copy_none (P:=P) w dT sT o.type elem dp sp dLen dCap sLen sCap hu hsz (by simpa using hn.symm)
    unfold Oper.wp
    simp [execOp,ho,resolve,invoke,builtin,hd,hs,hrun,Result.andThen]
    exact h w (by simpa [splice] using hg) (Kept.refl _ _)
  . obtain ⟨rfl,ad,rfl,hsrc⟩:=hpos (by omega)
    have hrun:=run_copy_row (P:=P) w dT sT o.type elem g off dLen dCap ad sLen sCap cur.toArray t cs hu hsz hg hn hsrc (by simpa using hfit) h1
    unfold Oper.wp
    simp [execOp,ho,resolve,invoke,builtin,hd,hs,hrun,Result.andThen]
    exact h _ (by simpa [splice] using setRow_heap w g _ _ t _ hg) ((Kept.refl _ _).setRow (by simp) _)
theorem cells_from {w:World} {g:Nat} {C:List Value} {t:TypeId} {fr:Nat×Nat} (hg:w.heap[g]? = some (.cells C.toArray t fr)) (off:Nat) (cs:List Value) (h:cs <+: C.drop off) :
  ∀ j v,cs[j]? = some v->w.cell? ((⟨g,off,none⟩:Addr).add j)=some v:=by
 intro j v hv
 rw [Addr.add_mid,cell_of_row w g (off+j) C.toArray t fr hg]
 obtain ⟨r,hr⟩:=h
 have:(C.drop off)[j]? = some v:=by rw [<-hr,List.getElem?_append_left (List.getElem?_eq_some_iff.1 hv).1];exact hv
 simpa using this
theorem made_replicate (v:Value) (m:Nat) (n:Nat) (h:0<m:=by omega):(madeCells (List.replicate m v).toArray n).toList=List.replicate n v:=by
  apply List.ext_getElem
  . simp [madeCells]
  . intro i h1 h2
    have:i%m<m:=Nat.mod_lt _ h
    simp [madeCells,this]
theorem owns_exact {w:World} {base:Nat} {e:TypeId} {size n g:Nat} {xs:List Value} (h:w.ownsRow base e size (.slice (some ⟨g,0,none⟩) n n) n xs) :
    w.heap[g]? = some (.cells xs.toArray e (0,0))/\base<=g:=by
  rcases h.2 with ⟨h1,_⟩ | ⟨g',cap,cur,h1,hb,hg,_,_,hs,ht⟩
  . cases h1
  . injection h1 with h1 _ h2
    injection h1 with h1
    injection h1 with h1
    subst h1;subst h2
    refine ⟨?_,hb⟩
    rw [hg]
    have:cur.toList=xs:=by
      rw [<-ht,List.take_of_length_le]
      simp [hs]
    rw [<-this]
section flat
variable {α β:Type} (f:α->List β) (sz:Nat)
theorem flat_length (l:List α) (h : ∀ x∈l,(f x).length=sz):(l.flatMap f).length=l.length*sz:=by
 induction l with
 | nil=>simp
 | cons x l ih =>
  simp only [List.flatMap_cons,List.length_append,List.length_cons,h x (by simp),ih (λ y hy=>h y (by simp [hy]))]
  rw [Nat.add_mul,Nat.one_mul,Nat.add_comm]
theorem flat_split (l:List α) (h : ∀ x∈l,(f x).length=sz) (i:Nat) (hi:i<l.length) :
    l.flatMap f=(l.take i).flatMap f++(f l[i]++(l.drop (i+1)).flatMap f)/\((l.take i).flatMap f).length=i*sz:=by
  refine ⟨?_,?_⟩
  . have:l=l.take i++l[i]::l.drop (i+1):=by simp
    conv=>lhs;rw [this,List.flatMap_append,List.flatMap_cons]
  . rw [flat_length f sz _ (λ x hx=>h x (List.mem_of_mem_take hx)),List.length_take,Nat.min_eq_left (by omega)]
theorem flat_drop (l:List α) (h : ∀ x∈l,(f x).length=sz) (i:Nat) (hi:i<l.length) :
  (l.flatMap f).drop (i*sz)=f l[i]++(l.drop (i+1)).flatMap f:=by
 obtain ⟨h1,h2⟩:=flat_split f sz l h i hi
 rw [h1,<-h2];simp
theorem flat_splice (l:List α) (h : ∀ x∈l,(f x).length=sz) (i:Nat) (hi:i<l.length) (off:Nat) (cs:List β) (ho:off+cs.length<=sz) (y:α) (hy:f y=splice (f l[i]) off cs) :
  splice (l.flatMap f) (i*sz+off) cs=(l.set i y).flatMap f:=by
 obtain ⟨h1,h2⟩:=flat_split f sz l h i hi
 have h3:=h l[i] (by simp)
 have h4:l.set i y=l.take i++y::l.drop (i+1):=by simp [List.set_eq_take_append_cons_drop,hi]
 rw [h4]
 simp only [List.flatMap_append,List.flatMap_cons,hy]
 unfold splice
 rw [h1,<-h2]
 rw [List.take_append,List.take_of_length_le (by omega),show ((l.take i).flatMap f).length+off-((l.take i).flatMap f).length=off by omega]
 rw [List.take_append_of_le_length (by omega)]
 rw [show ((l.take i).flatMap f).length+off+cs.length=((l.take i).flatMap f).length+(off+cs.length) by omega,List.drop_append]
 rw [List.drop_of_length_le (by omega),show ((l.take i).flatMap f).length+(off+cs.length)-((l.take i).flatMap f).length=off+cs.length by omega]
 rw [List.drop_append_of_le_length (by omega)]
 simp
end flat
theorem fold_set (vs:List Value) (off:Nat) : ∀ (k:Nat) (cells:Array Value),off+k+vs.length<=cells.size ->
  ((vs.zipIdx k).foldl (λ (cs:Array Value) (x:Value×Nat)=>cs.setIfInBounds (off+x.2) x.1) cells).toList=splice cells.toList (off+k) vs:=by
 induction vs with
 | nil=>intro k cells _;simp [splice]
 | cons v vs ih =>
  intro k cells h
  simp only [List.length_cons] at h
  simp only [List.zipIdx_cons,List.foldl_cons]
  rw [ih (k+1) _ (by simp;omega)]
  unfold splice
  have hl:off+k<cells.toList.length:=by simp;omega
  have e:(cells.setIfInBounds (off+k) v).toList=cells.toList.take (off+k)++v::cells.toList.drop (off+k+1):=by
   rw [Array.toList_setIfInBounds,List.set_eq_take_append_cons_drop,if_pos hl]
  rw [e]
  have hlen:(cells.toList.take (off+k)).length=off+k:=by rw [List.length_take];omega
  have h1:List.take (off+(k+1)) (cells.toList.take (off+k)++v::cells.toList.drop (off+k+1))=cells.toList.take (off+k)++[v]:=by
   rw [List.take_append,hlen,List.take_of_length_le (by omega),show off+(k+1)-(off+k)=1 by omega];rfl
  have h2:List.drop (off+(k+1)+vs.length) (cells.toList.take (off+k)++v::cells.toList.drop (off+k+1))=cells.toList.drop (off+k+(vs.length+1)):=by
   rw [List.drop_append,hlen,List.drop_of_length_le (by omega),show off+(k+1)+vs.length-(off+k)=vs.length+1 by omega,List.drop_succ_cons,List.drop_drop,List.nil_append]
   congr 1;omega
  rw [h1,h2]
  simp only [List.length_cons,List.append_assoc,List.cons_append,List.nil_append]
theorem fill_two (place:Nat->Option (Nat×Nat)) (cells:Array Value) (u v:Value) (m n:Nat) (hm:u.cells.size=m) (hn:v.cells.size=n) (hc:cells.size=m+n)
  (h0:place 0=some (0,m)) (h1:place 1=some (m,n)):Instr.fill place cells [(0,u),(1,v)]=some (u.cells++v.cells):=by
 have e (x:Value) (off:Nat) (cs:Array Value) (h:off+x.cells.size<=cs.size) :
   (x.cells.zipIdx.foldl (λ (cs:Array Value) (c:Value×Nat)=>cs.setIfInBounds (off+c.2) c.1) cs).toList=splice cs.toList off x.cells.toList:=by
  have:=fold_set x.cells.toList off 0 cs (by simpa using h)
  simp only [Nat.add_zero] at this
  rw [<-this,<-Array.foldl_toList,Array.toList_zipIdx]
 have e1:=e u 0 cells (by omega)
 unfold Instr.fill
 simp only [h0,hm,ne_eq,not_true,decide_false,Bool.false_or,Nat.zero_add,hc]
 rw [if_neg (by simp)]
 unfold Instr.fill
 have hs:(u.cells.zipIdx.foldl (λ (cs:Array Value) (c:Value×Nat)=>cs.setIfInBounds (0+c.2) c.1) cells).size=m+n:=by
  rw [<-Array.length_toList,e1,length_splice _ _ _ (by simp;omega)];simpa using hc
 simp only [Nat.zero_add] at hs e1
 simp only [h1,hn,ne_eq,not_true,decide_false,Bool.false_or]
 rw [if_neg (by rw [hs];simp)]
 unfold Instr.fill
 congr 1
 apply Array.toList_inj.1
 rw [e v m _ (by omega),e1]
 unfold splice
 have hu:u.cells.toList.length=m:=by simpa using hm
 have hv:v.cells.toList.length=n:=by simpa using hn
 have hcl:cells.toList.length=m+n:=by simpa using hc
 simp [hu,hv,List.drop_append,hcl,hm,hn,<-hc]
 omega
theorem run_build_two {P:Program} (w:World) (t:TypeId) (i:TypeInfo) (z:Value) (fs:Array Field) (f0 f1:Field) (i0 i1:TypeInfo) (u v:Value)
  (hi:P.info? t=some i) (hz:i.zero=some z) (hu:P.underlying t=some (.struct fs)) (hfs:fs = #[f0,f1]) (h0:P.info? f0.type=some i0) (h1:P.info? f1.type=some i1)
  (ho0:f0.offset=0) (ho1:f1.offset=u.cells.size) (hs0:i0.size=u.cells.size) (hs1:i1.size=v.cells.size) (hzs:z.cells.size=u.cells.size+v.cells.size) :
  (Instr.build t #[(0,u),(1,v)]).run P w = .ok (.agg (u.cells++v.cells)) w:=by
 subst hfs
 have hf:=fill_two (λ x=>([(0,u.cells.size),(u.cells.size,v.cells.size)]:List (Nat×Nat))[x]?) z.cells u v _ _ rfl rfl hzs rfl rfl
 simp [Instr.build,zeroValue,typeInfo,hi,hz,run_underlying hu,sizeOf,h0,h1,ho0,ho1,hs0,hs1,hf]
theorem fill_one (place:Nat->Option (Nat×Nat)) (cells:Array Value) (u:Value) (m:Nat) (hm:u.cells.size=m) (hc:cells.size=m)
  (h0:place 0=some (0,m)):Instr.fill place cells [(0,u)]=some u.cells:=by
 have e1:(u.cells.zipIdx.foldl (λ (cs:Array Value) (c:Value×Nat)=>cs.setIfInBounds (0+c.2) c.1) cells).toList=splice cells.toList 0 u.cells.toList:=by
  have:=fold_set u.cells.toList 0 0 cells (by simpa using (show u.cells.size<=cells.size by omega))
  simp only [Nat.add_zero] at this
  rw [<-this,<-Array.foldl_toList,Array.toList_zipIdx]
 unfold Instr.fill
 simp only [h0,hm,ne_eq,not_true,decide_false,Bool.false_or,Nat.zero_add,hc]
 rw [if_neg (by simp)]
 unfold Instr.fill
 congr 1
 apply Array.toList_inj.1
 simp only [Nat.zero_add] at e1
 rw [e1]
 unfold splice
 have hcl:cells.toList.length=m:=by simpa using hc
 have hul:u.cells.toList.length=m:=by simpa using hm
 rw [List.drop_of_length_le (by omega)]
 simp
theorem run_buildSlice_one {P:Program} (w:World) (t e:TypeId) (i:TypeInfo) (z v:Value) (hu:P.underlying t=some (.slice e)) (hi:P.info? e=some i) (hz:i.zero=some z)
  (hs:i.size=v.cells.size) (hzs:z.cells.size=v.cells.size) (hle:v.cells.size<=16777216) (hpos:0<v.cells.size) :
  (Instr.buildSlice t 1 #[(0,v)]).run P w = .ok (.slice (some ⟨w.heap.size,0,none⟩) 1 1) (w.alloc (.cells v.cells e)):=by
 have hf:=fill_one (λ i=>some (i*v.cells.size,v.cells.size)) ((Array.range v.cells.size).map λ j=>z.cells[j%z.cells.size]!) v _ rfl (by simp) (by simp)
 have h1 : ¬ (2^24<v.cells.size):=by omega
 have h2:v.cells.size≠0:=by omega
 simp only [Instr.buildSlice,run_underlying hu,Sem.run_bind,Sem.run_pure,Result.andThen_ok,sizeOf,typeInfo,zeroValue,hi,hs,Nat.one_mul]
 simp [hi,hs,hz,h1,h2]
 rw [hf]
 simp [newRow]
def Zb (l:List UInt8):List Value:=l.map λ b => .int .u8 b.toNat
@[simp] theorem Wd (l:List UInt8):(Zb l).length=l.length:=by simp [Zb]
theorem Zu {l:List UInt8} : ∀ v∈Zb l,v.oneCell'=true:=by
 intro v hv;simp only [Zb,List.mem_map] at hv;obtain ⟨b,_,rfl⟩:=hv;rfl
def Reads (w:World) (v:Value) (cs:List Value) (fp:List Nat):Prop :=
 ∃ a cap,v = .slice a cs.length cap/\(cs=[] \/ ∃ b o,a=some ⟨b,o,none⟩/\w.rangeAt b o cs/\b∈fp)
theorem rangeAt_kept {w w':World} {b o:Nat} {cs:List Value} {fp:List Nat} (h:w.rangeAt b o cs) (hk:Kept fp w w') (hb:b∉fp):w'.rangeAt b o cs:=λ j v hv =>
 (hk.cell (p:=⟨b,o+j,none⟩) (World.block_lt_of_cell? w _ (h j v hv)) hb).trans (h j v hv)
theorem Reads.kept {w w':World} {v:Value} {cs:List Value} {fp fp':List Nat} (h:Reads w v cs fp) (hk:Kept fp' w w') (hd : ∀ x∈fp,x∉fp'):Reads w' v cs fp:=by
 obtain ⟨a,cap,rfl,h | ⟨b,o,rfl,hr,hb⟩⟩:=h
 . exact ⟨a,cap,rfl,.inl h⟩
 . exact ⟨_,cap,rfl,.inr ⟨b,o,rfl,rangeAt_kept hr hk (hd b hb),hb⟩⟩
theorem Reads.nil (w:World):Reads w (.slice none 0 0) [] []:=⟨_,_,rfl,.inl rfl⟩
end Go.Proofs.YtkfmfoecplbclaaGreatDoor
