/- The texts Law Law2 StRd BnRd, one behind the other: what the law leans on. Conditions: as each theorem says. -/
import Derived.Test.YtnnfjemaeefbiaaGreatDoorZWpBase17
import Derived.Deep.Slices
set_option linter.unusedSimpArgs false
set_option linter.unusedVariables false
set_option maxRecDepth 100000
set_option maxHeartbeats 16000000
namespace Go.Proofs.YtnnfjemaeefbiaaGreatDoor
open Go.ChangeShapes Go.WideShapes Go.ChangeAt Go.RowKit
theorem Tryz.own : ownKnob Tryz.prog.godebug=none:=by kernel_rfl
theorem Tryz.laidOut : laidOutB Tryz.prog=true:=by kernel_rfl
section
variable {H : Type} {enc:TypeId×Value->H} {P:Program}
theorem trodAll_stays (hl:laidOutB P=true) {W W':World} (hb:Below W.heap.size W W') : ∀ (ts:List TypeId) (vs:List Value) (ds:List (DataW H)) (ps:List MemPlace),(∀ t∈ts,P.readableRec t=true/\t<P.types.size) ->
    (∀ x∈ps,x.block<W.heap.size)->DataW.TrodAll enc P W 0 (λ _=>true) true ts vs ds ps->DataW.TrodAll enc P W' 0 (λ b=>decide (b<W.heap.size)) true ts vs ds ps
  | [],[],[],ps,_,_,h=>h
  | t::ts,v::vs,d::ds,ps,hr,hlt,h=>by
    obtain ⟨p,q,h1,h2,rfl⟩:=h
    refine ⟨p,q,Below.trod hl (hr t (by simp)).1 (hr t (by simp)).2 h1 hb (λ x hx=>hlt x (by simp [hx])),trodAll_stays hl hb ts vs ds q (λ t ht=>hr t (by simp [ht])) (λ x hx=>hlt x (by simp [hx])) h2,rfl⟩
  | [],[],_::_,_,_,_,h=>h
  | [],_::_,_,_,_,_,h=>h
  | _::_,[],_,_,_,_,h=>h
  | _::_,_::_,[],_,_,_,h=>h
theorem post_law {f:Func} {s:ChangeSpec} {W W':World} {args:Array Value} {ds gs:List (DataW H)} {before:List MemPlace} (hl:laidOutB P=true)
    (hW:DataW.Whole enc P f.params.toList s.vars false W args.toList ds gs before) (hvars:s.vars=[]) (hres:s.fn H (ds++gs)={results:=[.lit (.bool true)],args:=ds})
    (tb:TypeId) (htb:P.underlying tb=some .bool) (hrt:f.resultTypes = #[tb]) (hr : ∀ t∈f.params.toList,P.readableRec t=true/\t<P.types.size) (hb:Below W.heap.size W W') :
    s.post enc P f false true false false W args (.bool true) W':=by
  have hW':=hW
  obtain ⟨p,q,hA,hV,rfl,hfz,hnd⟩:=hW
  rw [hvars] at hV
  obtain ⟨rfl,rfl⟩:=trodVars_none hV
  have hlt : ∀ x∈p,x.block<W.heap.size:=λ x hx=>by simpa using hW'.lt x (by simp [hx])
  refine ⟨ds,[],p++[],[],p,[],hW',?_,?_,?_,hb.frame _,λ h=>by cases h⟩
  . rw [hres,hrt]
    exact trodAll_cons_mk (shut_bool htb _) trodAll_mk0
  . rw [hres]
    exact trodAll_stays hl hb _ _ _ _ hr hlt hA
  . rw [hres,hvars]
    rfl
end
section
variable {H : Type} {enc:TypeId×Value->H} {P:Program} {W:World}
abbrev Tr (enc:TypeId×Value->H) (P:Program) (W:World) (fuel:Nat) (t:TypeId) (cs:List Value):Option (DataW H×List MemPlace):=DataW.trod enc P W 0 (λ _=>true) true fuel t cs
def SliceAt (W:World) (sz:Nat) {α:Type} (R:List Value->α->Prop) (v:Value) (l:List α):Prop :=
  (v = .slice none 0 0/\l=[]) \/ ∃ a cap,v = .slice (some a) l.length cap/\l.length<=cap/\cap<=maxLen /\
    ∀ i (hi:i<l.length),∃ cells b o,a=⟨b,o,none⟩/\b<W.heap.size/\cells.length=sz/\W.rangeAt b (o+i*sz) cells/\R cells l[i]
theorem choose_list {α:Type} {n:Nat} {Q:Nat->α->Prop} (h : ∀ i,i<n -> ∃ a,Q i a) : ∃ l:List α,l.length=n /\ ∀ i (hi:i<l.length),Q i l[i]:=by
  induction n with
  | zero=>exact ⟨[],rfl,λ i hi=>by simp at hi⟩
  | succ n ih =>
    obtain ⟨l,hl,h2⟩:=ih (λ i hi=>h i (by omega))
    obtain ⟨a,ha⟩:=h n (by omega)
    refine ⟨l++[a],by simp [hl],λ i hi=>?_⟩
    by_cases hin:i<l.length
    . rw [List.getElem_append_left hin];exact h2 i hin
    . have:i=n:=by simp at hi;omega
      subst this
      simp only [<-hl,List.getElem_concat_length];rw [hl];exact ha
theorem map_sum_le {α β:Type} (f:α->Nat) (g:β->Nat) : ∀ (l:List α) (D:List β),l.length=D.length->(∀ i (h1:i<l.length) (h2:i<D.length),f l[i]<=g D[i])->(l.map f).sum<=(D.map g).sum
  | [],[],_,_=>by simp
  | x::l,y::D,hl,h=>by
    have h0:=h 0 (by simp) (by simp)
    have:=map_sum_le f g l D (by simpa using hl) (λ i h1 h2=>by have h3:=h (i+1) (by simpa using h1) (by simpa using h2);simp only [List.getElem_cons_succ] at h3;exact h3)
    simp only [List.map_cons,List.sum_cons]
    simp only [List.getElem_cons_zero] at h0
    omega
  | [],_::_,hl,_=>by simp at hl
  | _::_,[],hl,_=>by simp at hl
theorem bulkAll_sum (l:List (DataW H)):Rows.uptoBulkAll l=(l.map Rows.uptoBulk).sum:=by
  induction l with
  | nil=>rfl
  | cons d l ih=>simp [Rows.uptoBulkAll,ih]
theorem open_slice_R {t e:TypeId} {sz fuel:Nat} {cs:List Value} {x:DataW H×List MemPlace} {α:Type} {R:List Value->α->Prop} {B:α->Nat} (ht:P.underlying t=some (.slice e)) (hc:P.cellsOf e=sz) (hsz:0<sz)
    (hR : ∀ n cs y,Tr enc P W n e cs=some y -> ∃ a,R cs a/\B a<=Rows.uptoBulk y.1) (h:Tr enc P W fuel t cs=some x) :
    ∃ v l,cs=[v]/\SliceAt W sz R v l/\(l.map B).sum+1<=Rows.uptoBulk x.1/\l.length+1<=Rows.uptoBulk x.1:=by
  subst hc
  rcases Deep.open_slice ht h with ⟨rfl,rfl⟩ | ⟨a,len,cap,m,n,D,Pl,rfl,hb,hl,hm,hmm,rfl,hx⟩
  . exact ⟨_,[],rfl,.inl ⟨rfl,rfl⟩,by simp [Rows.uptoBulk],by simp [Rows.uptoBulk]⟩
  . simp only [if_true] at hmm
    subst hmm
    obtain ⟨l,hll,hli⟩:=choose_list (n:=len) (Q:=λ i (y:α) => ∃ cells,W.cells? 0 (a.add (i*P.cellsOf e)) (P.cellsOf e)=some cells/\R cells y/\B y<=Rows.uptoBulk (D i)) (λ i hi=>by
      obtain ⟨cs',h1,h2⟩:=hx i (by omega)
      obtain ⟨y,hy,hB⟩:=hR n cs' _ h2
      exact ⟨y,cs',h1,hy,hB⟩)
    refine ⟨_,l,rfl,.inr ⟨a,m,by rw [hll],by omega,hm,λ i hi=>?_⟩,?_,?_⟩
    . obtain ⟨cells,h1,h2,_⟩:=hli i hi
      obtain ⟨_,h4,h5⟩:=World.cells?_some h1
      have hsp:a.spot=none:=by
        have h0:=hx 0 (by omega)
        obtain ⟨cs',g1,_⟩:=h0
        obtain ⟨_,g4,g5⟩:=World.cells?_some g1
        have:=g5 0 hsz
        simp only [Nat.zero_mul] at this
        have hadd:(a.add 0).add 0=a:=by simp [Addr.add]
        rw [hadd,List.getElem?_eq_getElem (by omega)] at this
        unfold World.cell? at this
        cases hh:W.heap[a.block]? with
        | none=>simp [hh] at this
        | some o =>
          cases o <;> simp [hh] at this
          have hq:=this.1
          cases hs:a.spot with
          | none=>rfl
          | some s=>simp [hs] at hq
      obtain ⟨b,o,sp⟩:=a
      simp only at hsp
      subst hsp
      have hcell:W.rangeAt b (o+i*P.cellsOf e) cells:=λ j v hj=>by
        have hjl:j<P.cellsOf e:=by have:=(List.getElem?_eq_some_iff.1 hj).1;omega
        have:=h5 j hjl
        rw [Addr.add_mid,Addr.add_mid] at this
        rw [this];exact hj
      have hlt:b<W.heap.size:=World.block_lt_of_cell? W _ (hcell 0 _ (List.getElem?_eq_getElem (by omega)))
      exact ⟨cells,b,o,rfl,hlt,h4,hcell,h2⟩
    . have:=map_sum_le B Rows.uptoBulk l ((List.range len).map D) (by simp [hll]) (λ i h1 h2=>by
        obtain ⟨_,_,_,h3⟩:=hli i h1
        simpa using h3)
      simp only [Rows.uptoBulk,bulkAll_sum]
      omega
    . simp only [Rows.uptoBulk]
      have h1:l.length<=Rows.uptoBulkAll ((List.range len).map D):=by
        rw [bulkAll_sum,hll]
        have : ∀ L:List Nat,L.length<=((L.map D).map Rows.uptoBulk).sum:=by
          intro L
          induction L with
          | nil=>simp
          | cons a L ih =>
            simp only [List.map_cons,List.sum_cons,List.length_cons]
            have:1<=Rows.uptoBulk (D a):=by
              cases D a with
              | lit l=>cases l <;> simp [Rows.uptoBulk]
              | _=>simp [Rows.uptoBulk]
            omega
        simpa using this (List.range len)
      omega
theorem field_of {fs:Array Field} {n:Nat} {cs:List Value} {xs:List (DataW H×List MemPlace)} (hf : ∀ (i:Nat) (f:Field),fs[i]? = some f->Tr enc P W n f.type ((cs.drop f.offset).take (P.cellsOf f.type))=xs[i]?)
    (i t off c:Nat) (h:(fs[i]?).map (λ f=>(f.type,f.offset))=some (t,off)) (hc:P.cellsOf t=c:=by kernel_rfl):Tr enc P W n t ((cs.drop off).take c)=xs[i]? := by
  cases hq:fs[i]? with
  | none=>simp [hq] at h
  | some f =>
    simp only [hq,Option.map_some,Option.some.injEq,Prod.mk.injEq] at h
    have:=hf i f hq
    rw [h.1,h.2,hc] at this
    exact this
theorem read_i64 {e:TypeId} (he:P.underlying e=some (.int .i64)) (n:Nat) (cs:List Value) (y:DataW H×List MemPlace) (h:Tr enc P W n e cs=some y) : ∃ a:Int,(cs=[.int .i64 a] /\ -9223372036854775808<=a/\a<=9223372036854775807)/\1<=Rows.uptoBulk y.1:=by
  obtain ⟨k,rfl,rfl,hw⟩:=DataW.trod_int he h
  exact ⟨k,⟨rfl,by simpa [Lit.wf,IntKind.min,IntKind.max,IntKind.signed,IntKind.bits] using hw⟩,by simp [Rows.uptoBulk]⟩
theorem SliceAt.reads {α:Type} {R:List Value->α->Prop} {v:Value} {l:List α} (f:α->Value) (hf : ∀ cs a,R cs a->cs=[f a]) (h:SliceAt W 1 R v l) : ∃ fp,Reads W v (l.map f) fp /\ ∀ x∈fp,x<W.heap.size:=by
  rcases h with ⟨rfl,rfl⟩ | ⟨a,cap,rfl,hl,hm,hi⟩
  . exact ⟨[],Reads.nil W,by simp⟩
  . by_cases h0:l=[]
    . subst h0;exact ⟨[],⟨_,cap,rfl,.inl rfl⟩,by simp⟩
    . have hp:0<l.length:=List.length_pos_iff.2 h0
      obtain ⟨cells,b,o,ha,hb,hlen,hr,hR⟩:=hi 0 hp
      subst ha
      refine ⟨[b],⟨_,cap,by simp,.inr ⟨b,o,rfl,λ j v hv=>?_,by simp⟩⟩,by simpa using hb⟩
      have hj:j<l.length:=by have:=(List.getElem?_eq_some_iff.1 hv).1;simpa using this
      obtain ⟨cells',b',o',ha',_,hlen',hr',hR'⟩:=hi j hj
      injection ha' with e1 e2
      subst e1;subst e2
      have hc:=hf _ _ hR'
      subst hc
      have:=hr' 0 (f l[j]) rfl
      simp only [Nat.mul_one,Nat.add_zero] at this
      rw [this]
      simp only [List.getElem?_map,List.getElem?_eq_getElem hj,Option.map_some] at hv
      exact hv
end
theorem Tryz.upto_bound {H:Type} {l:List (DataW H)} (hk:Rows.uptoSmall H l=true):Rows.uptoBulkAll l<=1048576:=of_decide_eq_true hk
theorem bulk_three {H:Type} (a b c:DataW H):Rows.uptoBulkAll [a,b,c]=Rows.uptoBulk a+Rows.uptoBulk b+Rows.uptoBulk c:=by simp [Rows.uptoBulkAll];omega
open Go.RowKit
def baseOf (W:World):Wn:=⟨W.os,W.tape,W.output,0,World.piece W⟩
theorem own_base (W:World):Own (baseOf W) W []:=⟨rfl,rfl,rfl,Nat.zero_le _,Piece.le_refl _,λ _=>none,⟨λ _ => .inl rfl⟩,⟨λ _ _ e=>by cases e⟩,trivial⟩
theorem Own.keeps {W W':World} {l:List Wp} (h:Own (baseOf W) W' l):Below W.heap.size W W':=by
  have hb : ∀ k o,W.heap[k]? = some o->W'.heap[k]? = some o:=λ k o e=>h.ro.p k o e
  refine ⟨h.os,h.tape,h.output,?_,λ k hk=>?_⟩
  . rcases Nat.eq_zero_or_pos W.heap.size with h0 | h0
    . omega
    . have:=Zk (hb (W.heap.size-1) _ (Array.getElem?_eq_getElem (by omega)))
      omega
  . rw [hb k _ (Array.getElem?_eq_getElem hk),Array.getElem?_eq_getElem hk]
theorem Fn.law {P:Program} {W:World} {g:FuncId} {args:Array Value} (h:Fn P (baseOf W) g args [] (λ v l=>v = .bool true/\l=[])):Calls P g args W λ e W'=>e = .returned (.bool true)/\Below W.heap.size W W':=by
  refine (h.run W [] (own_base W)).mono ?_
  rintro e w' ⟨v,l,rfl,⟨rfl,rfl⟩,ho⟩
  exact ⟨rfl,ho.keeps⟩
theorem range_cell {W:World} {b o j:Nat} {v:Value} (h:W.cell? ⟨b,o+j,none⟩=some v) : ∃ c t fr,W.heap[b]? = some (.cells c t fr)/\c[o+j]? = some v:=by
  unfold World.cell? at h
  split at h
  . rename_i c e fr hb
    exact ⟨c,e,fr,hb,by simpa using h⟩
  . cases h
theorem roc_of {W:World} {b:Nat} {c:Array Value} {t:TypeId} {fr:Nat×Nat} (h:W.heap[b]? = some (.cells c t fr)):ROc (baseOf W) b c.toList:=⟨[],t,fr,by simpa [baseOf,World.piece] using h⟩
theorem SliceAt.ro {α:Type} {W:World} {sz:Nat} {R:List Value->α->Prop} {v:Value} {l:List α} (h:SliceAt W sz R v l) (hsz:0<sz) : ∃ a cap,v = .slice a l.length cap/\(l=[] \/ ∃ b o C,a=some ⟨b,o,none⟩/\ROc (baseOf W) b C /\ ∀ i (hi:i<l.length),∃ cells,rdl C (o+i*sz) cells/\R cells l[i]):=by
  rcases h with ⟨rfl,rfl⟩ | ⟨a,cap,rfl,hl,hm,hi⟩
  . exact ⟨none,0,rfl,.inl rfl⟩
  . refine ⟨some a,cap,rfl,?_⟩
    by_cases h0:l=[]
    . exact .inl h0
    . right
      have hp:0<l.length:=List.length_pos_iff.2 h0
      obtain ⟨cells,b,o,rfl,hb,hlen,hr,hR⟩:=hi 0 hp
      obtain ⟨c,t,fr,hbb,_⟩:=range_cell (hr 0 _ (List.getElem?_eq_getElem (by omega)))
      refine ⟨b,o,c.toList,rfl,roc_of hbb,λ i hil=>?_⟩
      obtain ⟨cells',b',o',e,_,hlen',hr',hR'⟩:=hi i hil
      injection e with e1 e2
      subst e1;subst e2
      refine ⟨cells',rdl_of λ j u hu=>?_,hR'⟩
      obtain ⟨c',t',fr',hb',hc'⟩:=range_cell (hr' j u hu)
      rw [hbb] at hb'
      injection hb' with e1
      injection e1 with e1
      subst e1
      simpa using hc'
end Go.Proofs.YtnnfjemaeefbiaaGreatDoor
namespace Go.Proofs.YtnnfjemaeefbiaaGreatDoor
open Go.ChangeShapes Go.WideShapes Go.ChangeAt Go.RowKit
section
variable {H : Type} {enc:TypeId×Value->H} {P:Program} {W:World}
theorem read_str {e:TypeId} (he:P.underlying e=some .string) (n:Nat) (cs:List Value) (y:DataW H×List MemPlace) (h:Tr enc P W n e cs=some y) : ∃ a:List UInt8,cs=[.string (Zq a)]/\a.length+1<=Rows.uptoBulk y.1:=by
  obtain ⟨s,h1,h2,_⟩:=DataW.trod_string he h
  refine ⟨s.data.toList,?_,?_⟩
  . rw [h1];rfl
  . rw [h2];simp [Rows.uptoBulk]
end
end Go.Proofs.YtnnfjemaeefbiaaGreatDoor
namespace Go.Proofs.YtnnfjemaeefbiaaGreatDoor
open Go.ChangeShapes Go.WideShapes Go.ChangeAt Go.RowKit
theorem Own.base_range {W w:World} {S:List Wp} {b o:Nat} {cs:List Value} (h:W.rangeAt b o cs) (H:Own (baseOf W) w S):w.rangeAt b o cs:=λ j v hv=>by
  obtain ⟨c,t,fr,hb,hc⟩:=range_cell (h j v hv)
  have:=H.ro.p b _ hb
  rw [cell_of_row w b (o+j) c t fr this]
  exact hc
theorem rangeAt_flat {α:Type} {g:α->List Value} {sz:Nat} {w:World} {b:Nat} (hg : ∀ a,(g a).length=sz) : ∀ (l:List α) (o:Nat),(∀ (i:Nat) x,l[i]? = some x->w.rangeAt b (o+i*sz) (g x))->w.rangeAt b o (l.flatMap g)
  | [],_,_,j,v,h=>by simp at h
  | a::l,o,h,j,v,hv=>by
    rw [List.flatMap_cons] at hv
    by_cases hj:j<sz
    . rw [List.getElem?_append_left (by rw [hg];exact hj)] at hv
      have:=h 0 a rfl j v hv
      rwa [Nat.zero_mul,Nat.add_zero] at this
    . rw [List.getElem?_append_right (by rw [hg];omega),hg] at hv
      have:=rangeAt_flat hg l (o+sz) (λ i x hx=>by
        have:=h (i+1) x (by simpa using hx)
        rwa [Nat.add_mul,Nat.one_mul,Nat.add_comm (i*sz) sz,<-Nat.add_assoc] at this) (j-sz) v hv
      rwa [Nat.add_assoc,Nat.add_sub_cancel' (by omega)] at this
theorem FlV.len {B:Wn} {S:List Wp} {α:Type} {g:α->List Value} {a:Option Addr} {m c:Nat} {x:List α} (h:FlV B S g (.slice a m c) x):x.length=m:=by
  obtain ⟨_,_,e,_⟩:=h
  injection e with _ e2 _
  exact e2.symm
theorem SliceAt.flV {W:World} {sz:Nat} {α:Type} {R:List Value->α->Prop} {v:Value} {l:List α} {g:α->List Value} (h:SliceAt W sz R v l) (hR : ∀ cs a,R cs a->cs=g a) (hg : ∀ a,(g a).length=sz):FlV (baseOf W) [] g v l:=by
  rcases h with ⟨rfl,rfl⟩ | ⟨a,cap,rfl,hl,hm,hi⟩
  . exact ⟨none,0,rfl,.inl rfl⟩
  . refine ⟨some a,cap,rfl,?_⟩
    by_cases h0:l=[]
    . exact .inl h0
    . obtain ⟨_,b,o,rfl,_,_,_,_⟩:=hi 0 (List.length_pos_iff.2 h0)
      refine .inr ⟨b,o,rfl,λ w ho=>rangeAt_flat hg l o λ i x hx=>?_⟩
      obtain ⟨hil,rfl⟩:=List.getElem?_eq_some_iff.1 hx
      obtain ⟨cells,b',o',e,_,_,hr,hRc⟩:=hi i hil
      injection e with e1 e2
      subst e1;subst e2
      rw [<-hR _ _ hRc]
      exact ho.base_range hr
section
variable {H : Type} {enc:TypeId×Value->H} {P:Program} {W:World}
theorem three_of {α:Type} {l:List α} (h:l.length=3) : ∃ a b c,l=[a,b,c]:=by
  match l,h with
  | [a,b,c],_=>exact ⟨a,b,c,rfl⟩
theorem two_of {α:Type} {l:List α} (h:l.length=2) : ∃ a b,l=[a,b]:=by
  match l,h with
  | [a,b],_=>exact ⟨a,b,rfl⟩
def VaR (cs:List Value) (v:Va):Prop:=cs=vaC v/\inI v.kind/\inI v.int
theorem read_va (n:Nat) (cs:List Value) (y:DataW H×List MemPlace) (h:Tr enc Tryz.prog W n 24 cs=some y) : ∃ v:Va,VaR cs v/\v.text.length+1<=Rows.uptoBulk y.1:=by
  obtain ⟨xs,m,rfl,rfl,hl,hx,hf⟩:=DataW.trod_struct Tryz.underlying24 h
  rw [show Tryz.prog.cellsOf 24=3 by kernel_rfl] at hl
  obtain ⟨c0,c1,c2,rfl⟩:=three_of hl
  obtain ⟨x0,x1,x2,rfl⟩:=three_of hx
  have f0:=field_of hf 0 3 0 1 rfl
  have f1:=field_of hf 1 2 1 1 rfl
  have f2:=field_of hf 2 9 2 1 rfl
  simp only [List.drop_zero,List.drop_succ_cons,List.take_succ_cons,List.take_zero,List.getElem?_cons_zero,List.getElem?_cons_succ] at f0 f1 f2
  obtain ⟨i0,⟨e0,b1,b2⟩,_⟩:=read_i64 Tryz.underlying3 _ _ _ f0
  obtain ⟨i1,⟨e1,b3,b4⟩,_⟩:=read_i64 Tryz.underlying2 _ _ _ f1
  obtain ⟨s2,e2,hb⟩:=read_str Tryz.underlying9 _ _ _ f2
  simp only [List.cons.injEq,and_true] at e0 e1 e2
  subst e0;subst e1;subst e2
  refine ⟨⟨i0,i1,s2⟩,⟨rfl,⟨b1,b2⟩,b3,b4⟩,?_⟩
  simp only [List.map_cons,List.map_nil,Rows.uptoBulk,Rows.uptoBulkAll]
  omega
theorem SliceAt.okRow {v:Value} {l:List Va} (h:SliceAt W 3 VaR v l) : ∀ x∈l,-9223372036854775808<=x.int/\x.int<9223372036854775808:=by
  intro x hx
  obtain ⟨i,hi,rfl⟩:=List.getElem_of_mem hx
  rcases h with ⟨_,h⟩ | ⟨a,cap,_,_,_,h⟩
  . rw [h] at hi;simp at hi
  . obtain ⟨cells,b,o,_,_,_,_,hR⟩:=h i hi
    have:=hR.2.2
    exact ⟨this.1,by have:=this.2;omega⟩
end
end Go.Proofs.YtnnfjemaeefbiaaGreatDoor
