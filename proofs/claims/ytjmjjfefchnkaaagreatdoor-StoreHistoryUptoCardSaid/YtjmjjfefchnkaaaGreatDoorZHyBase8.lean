/- The texts BgG BgH SlI RcA RcB WlL Law WlM WlN RlA RlB BhA BhB BhC BhD BhE BiA RlC RlD BhF BhG BiB RlE RlG Law2, one behind the other: what the law leans on. Conditions: as each theorem says. -/
import Derived.Test.YtjmjjfefchnkaaaGreatDoorZHyBase7
import Derived.Deep.QuietTactic
import Derived.BigQuiet
import Derived.Deep.Slices
set_option linter.unusedSimpArgs false
set_option linter.unusedVariables false
set_option maxRecDepth 100000
set_option maxHeartbeats 16000000
namespace Go.Proofs.YtjmjjfefchnkaaaGreatDoor
open Go.RowKit
theorem writes_ok : ∀ {L:List (Nat×List UInt8)} {D:DD},D.Ok→(∀ p∈L,p.1<D.secs.length∧p.2.length=256)→(Zz D L).Ok∧(Zz D L).secs.length=D.secs.length∧(Zz D L).pend.length=D.pend.length+L.length
 | [],D,h,_=>⟨h,rfl,rfl⟩
 | p::L,D,h,hL=>by
  obtain ⟨h1,h2⟩:=hL p (List.mem_cons_self ..)
  obtain ⟨a,b,c⟩:=writes_ok (L:=L) (h.wr2 p.1 p.2 h1 h2) (fun q hq=>hL q (List.mem_cons_of_mem _ hq))
  exact ⟨a,b,by rw [Zz,c];simp [DD.write];omega⟩
theorem writes_out {n:Nat} : ∀ {L:List (Nat×List UInt8)} {D:DD},(∀ p∈L,p.1≠n)→(Zz D L).read n=D.read n
 | [],_,_=>rfl
 | p::L,D,h=>by
  rw [Zz,writes_out (fun q hq=>h q (List.mem_cons_of_mem _ hq)),DD.rdW,if_neg (h p (List.mem_cons_self ..))]
theorem writes_in {n:Nat} {b:List UInt8} : ∀ {L:List (Nat×List UInt8)} {D:DD},(L.map Prod.fst).Nodup→(n,b)∈L→(Zz D L).read n=b
 | [],_,_,h=>by cases h
 | p::L,D,hd,h=>by
  simp only [List.map_cons,List.nodup_cons] at hd
  rcases List.mem_cons.1 h with rfl | h
  · rw [Zz,writes_out (fun q hq e=>hd.1 (List.mem_map.2 ⟨q,hq,e⟩)),DD.rdW,if_pos rfl]
  · rw [Zz];exact writes_in hd.2 h
theorem dirty_mem {first:Nat} {A:List Fa} {p:Nat×List UInt8}:p∈dirtyL first A ↔ ∃ (i:Nat) (x:Fa),A[i]? = some x∧x.dirty=true∧p=(first+x.page.toNat,x.b):=by
  unfold dirtyL
  rw [List.mem_filterMap]
  constructor
  · rintro ⟨x,hx,e⟩
    split at e
    · obtain ⟨i,hi,rfl⟩:=List.getElem_of_mem hx
      exact ⟨i,A[i],List.getElem?_eq_getElem hi,by assumption,(Option.some.inj e).symm⟩
    · cases e
  · rintro ⟨i,x,hi,hd,rfl⟩
    exact ⟨x,List.mem_of_getElem? hi,by rw [if_pos hd]⟩
theorem dirty_nodup {count n first:Nat} {A:List Fa} (hF:FOk count n A) (hdp : ∀ x∈A,x.dirty=true→0≤x.page):((dirtyL first A).map Prod.fst).Nodup:=by
  have key : ∀ (A:List Fa),(∀ x∈A,x.dirty=true→0≤x.page)→(∀ (i j:Nat) (x y:Fa),A[i]? = some x→A[j]? = some y→x.page=y.page→0≤x.page→i=j)→((dirtyL first A).map Prod.fst).Nodup:=by
    intro A
    induction A with
    | nil=>intro _ _;exact List.nodup_nil
    | cons a A ih =>
      intro h1 h2
      have ih':=ih (fun x hx=>h1 x (List.mem_cons_of_mem _ hx)) (fun i j x y hi hj e h0=>by have:=h2 (i+1) (j+1) x y (by simpa using hi) (by simpa using hj) e h0;omega)
      by_cases hd:a.dirty=true
      · have e:dirtyL first (a::A)=(first+a.page.toNat,a.b)::dirtyL first A:=by simp [dirtyL,hd]
        rw [e,List.map_cons,List.nodup_cons]
        refine ⟨fun hm=>?_,ih'⟩
        obtain ⟨p,hp,e2⟩:=List.mem_map.1 hm
        obtain ⟨i,x,hi,hxd,rfl⟩:=dirty_mem.1 hp
        have h0:=h1 a (List.mem_cons_self ..) hd
        have h3:=h1 x (List.mem_cons_of_mem _ (List.mem_of_getElem? hi)) hxd
        have:=h2 0 (i+1) a x rfl (by simpa using hi) (by dsimp only at e2;omega) h0
        omega
      · have e:dirtyL first (a::A)=dirtyL first A:=by simp [dirtyL,hd]
        rw [e];exact ih'
  exact key A hdp hF.one
instance finInh {n:Nat} [h:NeZero n]:Inhabited (Fin n):=⟨⟨0,Nat.pos_of_ne_zero h.out⟩⟩
open Go.RowKit
open Go.RowKit
section
variable {P : Program} {B:Wn} {n:Nat} {S l r:List Wp} {f:Fr} {K:Value→List Wp→Prop} {Φ:Post}
variable {d : Option Tmp} {ty:TypeId} {pos:String} {af:Array Edge} {gd:Option (Nat×Bool)}
end
open Go.RowKit
def tb (x:UInt32) (k:Nat):Bool:=x.toNat.testBit k
open Go.RowKit
open Go.RowKit
section
variable {P : Program} {B:Wn} {n:Nat} {l r:List Wp} {f:Fr} {Φ:Post} {c:Code}
end
end Go.Proofs.YtjmjjfefchnkaaaGreatDoor
namespace Go.Proofs.YtjmjjfefchnkaaaGreatDoor
open Go.ChangeShapes Go.WideShapes Go.ChangeAt Go.RowKit
theorem Tryz.own : ownKnob Tryz.prog.godebug=none:=by kernel_rfl
theorem Tryz.laidOut : laidOutB Tryz.prog=true:=by kernel_rfl
section
variable {H : Type} {enc:TypeId×Value→H} {P:Program}
theorem trodAll_stays (hl:laidOutB P=true) {W W':World} (hb:Below W.heap.size W W') : ∀ (ts:List TypeId) (vs:List Value) (ds:List (DataW H)) (ps:List MemPlace),(∀ t∈ts,P.readableRec t=true∧t<P.types.size) →
  (∀ x∈ps,x.block<W.heap.size)→DataW.TrodAll enc P W 0 (fun _=>true) true ts vs ds ps→DataW.TrodAll enc P W' 0 (fun b=>decide (b<W.heap.size)) true ts vs ds ps
 | [],[],[],ps,_,_,h=>h
 | t::ts,v::vs,d::ds,ps,hr,hlt,h=>by
  obtain ⟨p,q,h1,h2,rfl⟩:=h
  refine ⟨p,q,Below.trod hl (hr t (by simp)).1 (hr t (by simp)).2 h1 hb (fun x hx=>hlt x (by simp [hx])),trodAll_stays hl hb ts vs ds q (fun t ht=>hr t (by simp [ht])) (fun x hx=>hlt x (by simp [hx])) h2,rfl⟩
 | [],[],_::_,_,_,_,h=>h
 | [],_::_,_,_,_,_,h=>h
 | _::_,[],_,_,_,_,h=>h
 | _::_,_::_,[],_,_,_,h=>h
theorem post_law {f:Func} {s:ChangeSpec} {W W':World} {args:Array Value} {ds gs:List (DataW H)} {before:List MemPlace} (hl:laidOutB P=true)
    (hW:DataW.Whole enc P f.params.toList s.vars false W args.toList ds gs before) (hvars:s.vars=[]) (hres:s.fn H (ds++gs)={results:=[.lit (.bool true)],args:=ds})
    (tb:TypeId) (htb:P.underlying tb=some .bool) (hrt:f.resultTypes = #[tb]) (hr : ∀ t∈f.params.toList,P.readableRec t=true∧t<P.types.size) (hb:Below W.heap.size W W') :
    s.post enc P f false true false false W args (.bool true) W':=by
  have hW':=hW
  obtain ⟨p,q,hA,hV,rfl,hfz,hnd⟩:=hW
  rw [hvars] at hV
  obtain ⟨rfl,rfl⟩:=trodVars_none hV
  have hlt : ∀ x∈p,x.block<W.heap.size:=fun x hx=>by simpa using hW'.lt x (by simp [hx])
  refine ⟨ds,[],p++[],[],p,[],hW',?_,?_,?_,hb.frame _,fun h=>by cases h⟩
  · rw [hres,hrt]
    exact trodAll_cons_mk (shut_bool htb _) trodAll_mk0
  · rw [hres]
    exact trodAll_stays hl hb _ _ _ _ hr hlt hA
  · rw [hres,hvars]
    rfl
end
section
variable {H : Type} {enc:TypeId×Value→H} {P:Program} {W:World}
abbrev Tr (enc:TypeId×Value→H) (P:Program) (W:World) (fuel:Nat) (t:TypeId) (cs:List Value):Option (DataW H×List MemPlace):=DataW.trod enc P W 0 (fun _=>true) true fuel t cs
def SliceAt (W:World) (sz:Nat) {α:Type} (R:List Value→α→Prop) (v:Value) (l:List α):Prop :=
 (v = .slice none 0 0∧l=[]) ∨ ∃ a cap,v = .slice (some a) l.length cap∧l.length≤cap∧cap≤maxLen ∧
  ∀ i (hi:i<l.length),∃ cells b o,a=⟨b,o,none⟩∧b<W.heap.size∧cells.length=sz∧W.rangeAt b (o+i*sz) cells∧R cells l[i]
theorem choose_list {α:Type} {n:Nat} {Q:Nat→α→Prop} (h : ∀ i,i<n → ∃ a,Q i a) : ∃ l:List α,l.length=n ∧ ∀ i (hi:i<l.length),Q i l[i]:=by
  induction n with
  | zero=>exact ⟨[],rfl,fun i hi=>by simp at hi⟩
  | succ n ih =>
    obtain ⟨l,hl,h2⟩:=ih (fun i hi=>h i (by omega))
    obtain ⟨a,ha⟩:=h n (by omega)
    refine ⟨l++[a],by simp [hl],fun i hi=>?_⟩
    by_cases hin:i<l.length
    · rw [List.getElem_append_left hin];exact h2 i hin
    · have:i=n:=by simp at hi;omega
      subst this
      simp only [←hl,List.getElem_concat_length];rw [hl];exact ha
theorem map_sum_le {α β:Type} (f:α→Nat) (g:β→Nat) : ∀ (l:List α) (D:List β),l.length=D.length→(∀ i (h1:i<l.length) (h2:i<D.length),f l[i]≤g D[i])→(l.map f).sum≤(D.map g).sum
 | [],[],_,_=>by simp
 | x::l,y::D,hl,h=>by
  have h0:=h 0 (by simp) (by simp)
  have:=map_sum_le f g l D (by simpa using hl) (fun i h1 h2=>by have h3:=h (i+1) (by simpa using h1) (by simpa using h2);simp only [List.getElem_cons_succ] at h3;exact h3)
  simp only [List.map_cons,List.sum_cons]
  simp only [List.getElem_cons_zero] at h0
  omega
 | [],_::_,hl,_=>by simp at hl
 | _::_,[],hl,_=>by simp at hl
theorem bulkAll_sum (l:List (DataW H)):Rows.uptoBulkAll l=(l.map Rows.uptoBulk).sum:=by
 induction l with
 | nil=>rfl
 | cons d l ih=>simp [Rows.uptoBulkAll,ih]
theorem open_slice_R {t e:TypeId} {sz fuel:Nat} {cs:List Value} {x:DataW H×List MemPlace} {α:Type} {R:List Value→α→Prop} {B:α→Nat} (ht:P.underlying t=some (.slice e)) (hc:P.cellsOf e=sz) (hsz:0<sz)
    (hR : ∀ n cs y,Tr enc P W n e cs=some y → ∃ a,R cs a∧B a≤Rows.uptoBulk y.1) (h:Tr enc P W fuel t cs=some x) :
    ∃ v l,cs=[v]∧SliceAt W sz R v l∧(l.map B).sum+1≤Rows.uptoBulk x.1∧l.length+1≤Rows.uptoBulk x.1:=by
  subst hc
  rcases Deep.open_slice ht h with ⟨rfl,rfl⟩ | ⟨a,len,cap,m,n,D,Pl,rfl,hb,hl,hm,hmm,rfl,hx⟩
  · exact ⟨_,[],rfl,.inl ⟨rfl,rfl⟩,by simp [Rows.uptoBulk],by simp [Rows.uptoBulk]⟩
  · simp only [if_true] at hmm
    subst hmm
    obtain ⟨l,hll,hli⟩:=choose_list (n:=len) (Q:=fun i (y:α) => ∃ cells,W.cells? 0 (a.add (i*P.cellsOf e)) (P.cellsOf e)=some cells∧R cells y∧B y≤Rows.uptoBulk (D i)) (fun i hi=>by
      obtain ⟨cs',h1,h2⟩:=hx i (by omega)
      obtain ⟨y,hy,hB⟩:=hR n cs' _ h2
      exact ⟨y,cs',h1,hy,hB⟩)
    refine ⟨_,l,rfl,.inr ⟨a,m,by rw [hll],by omega,hm,fun i hi=>?_⟩,?_,?_⟩
    · obtain ⟨cells,h1,h2,_⟩:=hli i hi
      obtain ⟨_,h4,h5⟩:=World.cells?_some h1
      have hsp:a.spot=none:=by
        have h0:=hx 0 (by omega)
        obtain ⟨cs',g1,_⟩:=h0
        obtain ⟨_,g4,g5⟩:=World.cells?_some g1
        have:=g5 0 hsz
        simp only [Nat.zero_mul] at this
        have hadd:(a.add 0).add 0=a:=by simp [Addr.add]
        rw [hadd,List.getElem?_eq_getElem (by omega)] at this
        unfold World.cell? at this
        cases hh:W.heap[a.block]? with
        | none=>simp [hh] at this
        | some o =>
          cases o <;> simp [hh] at this
          have hq:=this.1
          cases hs:a.spot with
          | none=>rfl
          | some s=>simp [hs] at hq
      obtain ⟨b,o,sp⟩:=a
      simp only at hsp
      subst hsp
      have hcell:W.rangeAt b (o+i*P.cellsOf e) cells:=fun j v hj=>by
        have hjl:j<P.cellsOf e:=by have:=(List.getElem?_eq_some_iff.1 hj).1;omega
        have:=h5 j hjl
        rw [Addr.add_mid,Addr.add_mid] at this
        rw [this];exact hj
      have hlt:b<W.heap.size:=World.block_lt_of_cell? W _ (hcell 0 _ (List.getElem?_eq_getElem (by omega)))
      exact ⟨cells,b,o,rfl,hlt,h4,hcell,h2⟩
    · have:=map_sum_le B Rows.uptoBulk l ((List.range len).map D) (by simp [hll]) (fun i h1 h2=>by
        obtain ⟨_,_,_,h3⟩:=hli i h1
        simpa using h3)
      simp only [Rows.uptoBulk,bulkAll_sum]
      omega
    · simp only [Rows.uptoBulk]
      have h1:l.length≤Rows.uptoBulkAll ((List.range len).map D):=by
        rw [bulkAll_sum,hll]
        have : ∀ L:List Nat,L.length≤((L.map D).map Rows.uptoBulk).sum:=by
          intro L
          induction L with
          | nil=>simp
          | cons a L ih =>
            simp only [List.map_cons,List.sum_cons,List.length_cons]
            have:1≤Rows.uptoBulk (D a):=by
              cases D a with
              | lit l=>cases l <;> simp [Rows.uptoBulk]
              | _=>simp [Rows.uptoBulk]
            omega
        simpa using this (List.range len)
      omega
theorem field_of {fs:Array Field} {n:Nat} {cs:List Value} {xs:List (DataW H×List MemPlace)} (hf : ∀ (i:Nat) (f:Field),fs[i]? = some f→Tr enc P W n f.type ((cs.drop f.offset).take (P.cellsOf f.type))=xs[i]?)
  (i t off c:Nat) (h:(fs[i]?).map (fun f=>(f.type,f.offset))=some (t,off)) (hc:P.cellsOf t=c):Tr enc P W n t ((cs.drop off).take c)=xs[i]? := by
 cases hq:fs[i]? with
 | none=>simp [hq] at h
 | some f =>
  simp only [hq,Option.map_some,Option.some.injEq,Prod.mk.injEq] at h
  have:=hf i f hq
  rw [h.1,h.2,hc] at this
  exact this
theorem read_bool {e:TypeId} (he:P.underlying e=some .bool) (n:Nat) (cs:List Value) (y:DataW H×List MemPlace) (h:Tr enc P W n e cs=some y) : ∃ a:Bool,cs=[.bool a]∧1≤Rows.uptoBulk y.1:=by
 obtain ⟨b,rfl,rfl⟩:=DataW.trod_bool he h
 exact ⟨b,rfl,by simp [Rows.uptoBulk]⟩
theorem read_i64 {e:TypeId} (he:P.underlying e=some (.int .i64)) (n:Nat) (cs:List Value) (y:DataW H×List MemPlace) (h:Tr enc P W n e cs=some y) : ∃ a:Int,(cs=[.int .i64 a] ∧ -9223372036854775808≤a∧a≤9223372036854775807)∧1≤Rows.uptoBulk y.1:=by
 obtain ⟨k,rfl,rfl,hw⟩:=DataW.trod_int he h
 exact ⟨k,⟨rfl,by simpa [Lit.wf,IntKind.min,IntKind.max,IntKind.signed,IntKind.bits] using hw⟩,by simp [Rows.uptoBulk]⟩
theorem SliceAt.reads {α:Type} {R:List Value→α→Prop} {v:Value} {l:List α} (f:α→Value) (hf : ∀ cs a,R cs a→cs=[f a]) (h:SliceAt W 1 R v l) : ∃ fp,Reads W v (l.map f) fp ∧ ∀ x∈fp,x<W.heap.size:=by
  rcases h with ⟨rfl,rfl⟩ | ⟨a,cap,rfl,hl,hm,hi⟩
  · exact ⟨[],Reads.nil W,by simp⟩
  · by_cases h0:l=[]
    · subst h0;exact ⟨[],⟨_,cap,rfl,.inl rfl⟩,by simp⟩
    · have hp:0<l.length:=List.length_pos_iff.2 h0
      obtain ⟨cells,b,o,ha,hb,hlen,hr,hR⟩:=hi 0 hp
      subst ha
      refine ⟨[b],⟨_,cap,by simp,.inr ⟨b,o,rfl,fun j v hv=>?_,by simp⟩⟩,by simpa using hb⟩
      have hj:j<l.length:=by have:=(List.getElem?_eq_some_iff.1 hv).1;simpa using this
      obtain ⟨cells',b',o',ha',_,hlen',hr',hR'⟩:=hi j hj
      injection ha' with e1 e2
      subst e1;subst e2
      have hc:=hf _ _ hR'
      subst hc
      have:=hr' 0 (f l[j]) rfl
      simp only [Nat.mul_one,Nat.add_zero] at this
      rw [this]
      simp only [List.getElem?_map,List.getElem?_eq_getElem hj,Option.map_some] at hv
      exact hv
end
theorem Tryz.upto_bound {H:Type} {l:List (DataW H)} (hk:Rows.uptoSmall H l=true):Rows.uptoBulkAll l≤1048576:=of_decide_eq_true hk
theorem bulk_two {H:Type} (a b:DataW H):Rows.uptoBulkAll [a,b]=Rows.uptoBulk a+Rows.uptoBulk b:=by simp [Rows.uptoBulkAll]
open Go.RowKit
def RoLB (B:Wn) (v:Value) (l:List (List UInt8)):Prop := ∃ a cap,v = .slice a l.length cap∧l.length≤cap∧(l=[] ∨ ∃ b o C,a=some ⟨b,o,none⟩∧ROc B b C ∧
 ∀ i (hi:i<l.length),∃ da dc,rdl C (o+i*1) [.slice da l[i].length dc]∧RoS B (.slice da l[i].length dc) (Zb l[i]))
theorem RoLB.parts {B:Wn} {v:Value} {l:List (List UInt8)} (h:RoLB B v l) (S:List Wp):PartsV B S v l:=by
  obtain ⟨a,cap,rfl,_,h | ⟨b,o,C,rfl,k,h⟩⟩:=h
  · subst h
    exact ⟨[],⟨a,cap,rfl,.inl rfl⟩,rfl,fun i h=>by simp at h⟩
  · obtain ⟨vs,hl,hvs⟩:=choose_list (n:=l.length) (Q:=fun i v=>C[o+i]? = some v ∧ ∀ h:i<l.length,RdV B S v (Zb l[i])) (fun i hi=>by
      obtain ⟨da,dc,e1,e2⟩:=h i hi
      have e1:=e1.1
      rw [Nat.mul_one] at e1
      exact ⟨_,e1,fun _=>e2.rd S⟩)
    refine ⟨vs,⟨_,cap,by rw [hl],.inr ⟨b,o,rfl,fun w ho=>ho.range (g:=b) (C:=C) (fun j u hj=>?_)⟩⟩,hl,fun i h1 h2=>(hvs i h1).2 h2⟩
    obtain ⟨hj1,rfl⟩:=List.getElem?_eq_some_iff.1 hj
    exact (hvs j hj1).1
open Go.RowKit
open Go.RowKit
open Go.RowKit
open Go.RowKit
theorem findA_eq {A:List Fa} {page:Int} {i:Nat} {x:Fa} (h0:0≤page) (hx:A[i]? = some x) (hp:x.page=page) (hf : ∀ (j:Nat),j<i → ∀ y:Fa,A[j]? = some y→y.page≠page):findA A page=some i:=by
 unfold findA
 rw [if_neg (by omega),List.findIdx?_eq_some_iff_getElem]
 obtain ⟨hi,e⟩:=List.getElem?_eq_some_iff.1 hx
 refine ⟨hi,by rw [e];exact decide_eq_true hp,fun j hj=>?_⟩
 simpa using hf j hj _ (List.getElem?_eq_getElem (by omega))
open Go.RowKit
open Go.RowKit
open Go.RowKit
open Go.RowKit
structure PInv (first count n K:Nat) (s:Pl):Prop where
 F:FOk count n s.A
 dp : ∀ x∈s.A,x.dirty=true→0≤x.page
 pins : ∀ x∈s.A,x.pins≤K
 hand:s.hand<n
 fit:s.W.first+s.W.count≤s.D.secs.length
 wst:s.W.st.length≤s.W.count*256
 wdur:s.W.dur≤s.W.st.length
 pend:s.D.pend.length≤K
 ok:s.D.Ok
 sec:first+count≤s.D.secs.length
theorem PInv.w {first count n K:Nat} {s:Pl} (h:PInv first count n K s) (hK:K<2^31):WOk s.W s.D:=⟨h.fit,h.ok.max,h.wst,h.wdur,by have:=h.pend;omega⟩
theorem PInv.mono {first count n K K':Nat} {s:Pl} (h:PInv first count n K s) (hK:K≤K'):PInv first count n K' s:=⟨h.F,h.dp,fun x hx=>by have:=h.pins x hx;omega,h.hand,h.fit,h.wst,h.wdur,by have:=h.pend;omega,h.ok,h.sec⟩
theorem mem_set_of {α:Type} {l:List α} {i:Nat} {a x:α} (h:x∈l.set i a):x=a∨x∈l:=by
 rcases List.mem_or_eq_of_mem_set h with h | h
 · exact .inr h
 · exact .inl h
theorem FOk.set {count n:Nat} {A:List Fa} (h:FOk count n A) {i:Nat} {x y:Fa} (hx:A[i]? = some x) (hp:y.page=x.page) (hb:y=fa1∨(0≤y.page∧y.page<count∧y.b.length=256∧0≤y.pins)) (hm : -(2^63)≤y.mark∧y.mark<2^63):FOk count n (A.set i y):=by
  have hil:=(List.getElem?_eq_some_iff.1 hx).1
  have key : ∀ (j:Nat) (z:Fa),(A.set i y)[j]? = some z → ∃ z',A[j]? = some z'∧z.page=z'.page:=fun j z hz=>by
    rw [List.getElem?_set] at hz
    split at hz
    · rename_i e;subst e;cases hz;exact ⟨x,hx,hp⟩
    · exact ⟨z,hz,rfl⟩
  refine ⟨by rw [List.length_set];exact h.len,h.n1,h.n2,fun z hz=>?_,fun z hz=>?_,fun j k z u hz hu e h0=>?_⟩
  · rcases mem_set_of hz with rfl | hz
    · exact hb
    · exact h.fr z hz
  · rcases mem_set_of hz with rfl | hz
    · exact hm
    · exact h.mrk z hz
  · obtain ⟨z',a1,a2⟩:=key j z hz
    obtain ⟨u',b1,b2⟩:=key k u hu
    exact h.one j k z' u' a1 b1 (by rw [←a2,←b2];exact e) (by rw [←a2];exact h0)
theorem FOk.put {count n:Nat} {A:List Fa} (h:FOk count n A) {i:Nat} {page:Int} {b:List UInt8} (h0:0≤page) (hc:page<count) (hb:b.length=256) (hno : ∀ (j:Nat) (y:Fa),A[j]? = some y→y.page≠page):FOk count n (A.set i (newA page b)):=by
  have key : ∀ (j:Nat) (z:Fa),(A.set i (newA page b))[j]? = some z→(j=i∧z=newA page b)∨(j≠i∧A[j]? = some z):=fun j z hz=>by
    rw [List.getElem?_set] at hz
    split at hz
    · rename_i e;subst e
      split at hz
      · cases hz;exact .inl ⟨rfl,rfl⟩
      · cases hz
    · rename_i e;exact .inr ⟨fun e2=>e e2.symm,hz⟩
  refine ⟨by rw [List.length_set];exact h.len,h.n1,h.n2,fun z hz=>?_,fun z hz=>?_,fun j k z u hz hu e h1=>?_⟩
  · rcases mem_set_of hz with rfl | hz
    · exact .inr ⟨h0,hc,hb,by show (0:Int)≤1;omega⟩
    · exact h.fr z hz
  · rcases mem_set_of hz with rfl | hz
    · exact ⟨by show -(2^63)≤(0:Int);omega,by show (0:Int)<_;omega⟩
    · exact h.mrk z hz
  · rcases key j z hz with ⟨rfl,rfl⟩ | ⟨a1,a2⟩ <;> rcases key k u hu with ⟨rfl,rfl⟩ | ⟨b1,b2⟩
    · rfl
    · exact absurd e.symm (hno k u b2)
    · exact absurd e (hno j z a2)
    · exact h.one j k z u a2 b2 e h1
theorem FOk.clock {count n f:Nat} {A A':List Fa} {h i h':Nat} (hF:FOk count n A) (hc:clockA f A h=some (i,A',h')) (hge : ∀ (j:Nat) (y:Fa),A[j]? = some y→0≤y.page):FOk count n A':=by
  have hl:=(clock_len hc).1
  refine ⟨by rw [hl];exact hF.len,hF.n1,hF.n2,fun z hz=>?_,fun z hz=>?_,fun j k z u hz hu e h1=>?_⟩
  · obtain ⟨j,hj,rfl⟩:=List.getElem_of_mem hz
    obtain ⟨x,hx,q1,q2,q3,q4,q5⟩:=clock_fr hc j _ (List.getElem?_eq_getElem hj)
    have:=fr_ok hF hx (hge j x hx)
    exact .inr ⟨by rw [q1];exact this.1,by rw [q1];exact this.2.1,by rw [q5];exact this.2.2.1,by rw [q3];exact this.2.2.2⟩
  · obtain ⟨j,hj,rfl⟩:=List.getElem_of_mem hz
    obtain ⟨x,hx,q1,q2,q3,q4,q5⟩:=clock_fr hc j _ (List.getElem?_eq_getElem hj)
    rw [q2]
    exact hF.mrk x (List.mem_of_getElem? hx)
  · obtain ⟨x,hx,q1,_⟩:=clock_fr hc j z hz
    obtain ⟨y,hy,r1,_⟩:=clock_fr hc k u hu
    exact hF.one j k x y hx hy (by rw [←q1,←r1];exact e) (by rw [←q1];exact h1)
theorem PInv.pin {first count n K:Nat} {s:Pl} (h:PInv first count n K s) (hK:K<2^31) (page:Int):PInv first count n (K+1) (pinP first count s page).1:=by
  have hc:=pin_cases (first:=first) (count:=count) (page:=page) (s:=s) (by rw [h.F.len];exact h.hand)
  generalize pinP first count s page=res at hc ⊢
  cases hc with
  | range _=>exact h.mono (Nat.le_succ _)
  | full _ _ _=>exact h.mono (Nat.le_succ _)
  | found i x hr hf hx =>
    obtain ⟨h0,x2,hx2,hp,_⟩:=findA_some hf
    rw [hx] at hx2
    cases hx2
    have hxm:=List.mem_of_getElem? hx
    have hxo:=fr_ok h.F hx (by omega)
    refine ⟨h.F.set (y:=upA x) hx rfl (.inr ⟨hxo.1,hxo.2.1,hxo.2.2.1,by show 0≤x.pins+1;omega⟩) (h.F.mrk x hxm),fun z hz hd=>?_,fun z hz=>?_,h.hand,h.fit,h.wst,h.wdur,by have:=h.pend;dsimp only;omega,h.ok,h.sec⟩
    · rcases mem_set_of hz with rfl | hz
      · exact h.dp x hxm hd
      · exact h.dp z hz hd
    · rcases mem_set_of hz with rfl | hz
      · have:=h.pins x hxm;show x.pins+1≤_;omega
      · have:=h.pins z hz;omega
  | free i x hr hf hi hp hfirst =>
    have hrl:=h.ok.rd (first+page.toNat) (by have:=h.sec;omega)
    refine ⟨h.F.put (by omega) (by omega) hrl (findA_none hf (by omega)),fun z hz hd=>?_,fun z hz=>?_,h.hand,h.fit,h.wst,h.wdur,by have:=h.pend;dsimp only;omega,h.ok,h.sec⟩
    · rcases mem_set_of hz with rfl | hz
      · cases hd
      · exact h.dp z hz hd
    · rcases mem_set_of hz with rfl | hz
      · show (1:Int)≤_;omega
      · have:=h.pins z hz;omega
  | clock i h' A' x' hr hf hx ha hc hx' hup =>
    obtain ⟨y,hy,q1,q2,q3,q4,q5⟩:=clock_fr hc i x' hx'
    have hyo:=fr_ok h.F hy (hx i y hy)
    have hsec:=h.sec
    have hpe:=h.pend
    obtain ⟨f1,f2,f3,f4,f5,f6,f7⟩:=(h.w hK).give (first:=first) h.ok (by omega) x' (by rw [q1];omega) (by rw [q5];exact hyo.2.2.1)
    have hrl:=f2.rd (first+page.toNat) (by rw [f3];omega)
    have hF':=h.F.clock hc hx
    have hno : ∀ (j:Nat) (z:Fa),A'[j]? = some z→z.page≠page:=fun j z hz=>by
      obtain ⟨w,hw,r1,_⟩:=clock_fr hc j z hz
      rw [r1];exact findA_none hf (by omega) j w hw
    refine ⟨hF'.put (by omega) (by omega) hrl hno,fun z hz hd=>?_,fun z hz=>?_,?_,f1.fit,f1.st,f1.dur,by dsimp only;omega,f2,by rw [f3];exact hsec⟩
    · rcases mem_set_of hz with rfl | hz
      · cases hd
      · obtain ⟨j,hj,rfl⟩:=List.getElem_of_mem hz
        obtain ⟨w,hw,r1,r2,r3,r4,r5⟩:=clock_fr hc j _ (List.getElem?_eq_getElem hj)
        rw [r1];exact hx j w hw
    · rcases mem_set_of hz with rfl | hz
      · show (1:Int)≤_;omega
      · obtain ⟨j,hj,rfl⟩:=List.getElem_of_mem hz
        obtain ⟨w,hw,r1,r2,r3,r4,r5⟩:=clock_fr hc j _ (List.getElem?_eq_getElem hj)
        have:=h.pins w (List.mem_of_getElem? hw)
        rw [r3];omega
    · have:=(clock_at hc (by rw [h.F.len];exact h.hand)).1
      rwa [h.F.len] at this
theorem PInv.setA {first count n K:Nat} {s:Pl} (h:PInv first count n K s) {A:List Fa} (hF:FOk count n A) (hd : ∀ x∈A,x.dirty=true→0≤x.page) (hp : ∀ x∈A,x.pins≤K):PInv first count n K {s with A:=A}:=⟨hF,hd,hp,h.hand,h.fit,h.wst,h.wdur,h.pend,h.ok,h.sec⟩
theorem PInv.unpin {first count n K:Nat} {s:Pl} (h:PInv first count n K s) (page:Int):PInv first count n K {s with A:=(unpinA s.A page).1}:=by
  unfold unpinA
  cases hp:pinnedA s.A page with
  | none=>exact h
  | some r =>
    obtain ⟨i,x⟩:=r
    obtain ⟨hf,hx,hpos⟩:=pinnedA_some hp
    obtain ⟨h0,x2,hx2,hpg,_⟩:=findA_some hf
    rw [hx] at hx2
    cases hx2
    have hxm:=List.mem_of_getElem? hx
    have hxo:=fr_ok h.F hx (by omega)
    have hxk:=h.pins x hxm
    refine h.setA (h.F.set (y:={x with pins:=x.pins-1}) hx rfl (.inr ⟨hxo.1,hxo.2.1,hxo.2.2.1,by show 0≤x.pins-1;omega⟩) (h.F.mrk x hxm)) (fun z hz hd=>?_) (fun z hz=>?_)
    · rcases mem_set_of hz with rfl | hz
      · exact h.dp x hxm hd
      · exact h.dp z hz hd
    · rcases mem_set_of hz with rfl | hz
      · show x.pins-1≤_;omega
      · exact h.pins z hz
theorem PInv.put {first count n K:Nat} {s:Pl} (h:PInv first count n K s) (page:Int) (d:List UInt8) (mark:Int) (hm : -(2^63)≤mark∧mark<2^63):PInv first count n K {s with A:=(putA s.A page d mark).1}:=by
  unfold putA
  cases hp:pinnedA s.A page with
  | none=>exact h
  | some r =>
    obtain ⟨i,x⟩:=r
    dsimp only
    by_cases hd:d.length≠256
    · rw [if_pos hd];exact h
    · rw [if_neg hd]
      obtain ⟨hf,hx,hpos⟩:=pinnedA_some hp
      obtain ⟨h0,x2,hx2,hpg,_⟩:=findA_some hf
      rw [hx] at hx2
      cases hx2
      have hxm:=List.mem_of_getElem? hx
      have hxo:=fr_ok h.F hx (by omega)
      have hxk:=h.F.mrk x hxm
      refine h.setA (h.F.set (y:={x with mark:=max x.mark mark,dirty:=true,b:=d}) hx rfl (.inr ⟨hxo.1,hxo.2.1,by show d.length=256;omega,hxo.2.2.2⟩) (by show _≤max x.mark mark∧max x.mark mark<_;omega)) (fun z hz hd=>?_) (fun z hz=>?_)
      · rcases mem_set_of hz with rfl | hz
        · exact hxo.1
        · exact h.dp z hz hd
      · rcases mem_set_of hz with rfl | hz
        · exact h.pins x hxm
        · exact h.pins z hz
theorem PInv.flush {first count n K:Nat} {s:Pl} (h:PInv first count n K s) (hK:K<2^31):PInv first count n K (flushP first s):=by
  have hsec:=h.sec
  obtain ⟨f1,f2,f3,f4,f5,f6,f7⟩:=(h.w hK).force h.ok (Zm s.A) (h.w hK).room
  have hL : ∀ p∈dirtyL first s.A,p.1<(Zv s.W s.D (Zm s.A)).2.secs.length∧p.2.length=256:=fun p hp=>by
    obtain ⟨i,x,hx,hd,rfl⟩:=dirty_mem.1 hp
    have:=fr_ok h.F hx (h.dp x (List.mem_of_getElem? hx) hd)
    exact ⟨by rw [f3];dsimp only;omega,this.2.2.1⟩
  obtain ⟨w1,w2,w3⟩:=writes_ok f2 hL
  have hcm : ∀ x∈cleanA s.A,∃ y∈s.A,x={y with dirty:=false}:=fun x hx=>by
    obtain ⟨y,hy,rfl⟩:=List.mem_map.1 hx
    exact ⟨y,hy,rfl⟩
  have hca : ∀ (j:Nat) (x:Fa),(cleanA s.A)[j]? = some x → ∃ y,s.A[j]? = some y∧x.page=y.page:=fun j x hx=>by
    unfold cleanA at hx
    rw [List.getElem?_map] at hx
    cases hy:s.A[j]? with
    | none=>rw [hy] at hx;cases hx
    | some y=>rw [hy] at hx;cases hx;exact ⟨y,rfl,rfl⟩
  refine ⟨⟨by simp only [flushP,cleanA,List.length_map];exact h.F.len,h.F.n1,h.F.n2,fun x hx=>?_,fun x hx=>?_,fun i j x y hx hy e h0=>?_⟩,fun x hx hd=>?_,fun x hx=>?_,h.hand,?_,?_,?_,?_,w1.sy,?_⟩
  · obtain ⟨y,hy,rfl⟩:=hcm x hx
    rcases h.F.fr y hy with rfl | h
    · exact .inl rfl
    · exact .inr h
  · obtain ⟨y,hy,rfl⟩:=hcm x hx
    exact h.F.mrk y hy
  · obtain ⟨x',a1,a2⟩:=hca i x hx
    obtain ⟨y',b1,b2⟩:=hca j y hy
    exact h.F.one i j x' y' a1 b1 (by rw [←a2,←b2];exact e) (by rw [←a2];exact h0)
  · obtain ⟨y,hy,rfl⟩:=hcm x hx
    cases hd
  · obtain ⟨y,hy,rfl⟩:=hcm x hx
    exact h.pins y hy
  · show (Zv s.W s.D (Zm s.A)).1.first+(Zv s.W s.D (Zm s.A)).1.count≤(Zz _ _).sync.secs.length
    rw [DD.sync_len w1,w2];exact f1.fit
  · exact f1.st
  · exact f1.dur
  · exact Nat.zero_le _
  · show first+count≤(Zz _ _).sync.secs.length
    rw [DD.sync_len w1,w2,f3];exact hsec
theorem addW_fit {W:Wl} {d:List UInt8} (hst:W.st.length≤W.count*256) (hd:W.dur≤W.st.length):(addW W d).1.first=W.first∧(addW W d).1.count=W.count∧(addW W d).1.st.length≤W.count*256∧(addW W d).1.dur≤(addW W d).1.st.length:=by
  unfold addW
  split
  · exact ⟨rfl,rfl,hst,hd⟩
  · split
    · exact ⟨rfl,rfl,hst,hd⟩
    · split
      · exact ⟨rfl,rfl,hst,hd⟩
      · refine ⟨rfl,rfl,?_,?_⟩ <;> simp [Zd] <;> omega
theorem PInv.append {first count n K:Nat} {s:Pl} (h:PInv first count n K s) (d:List UInt8):PInv first count n K {s with W:=(addW s.W d).1}:=by
 obtain ⟨a1,a2,a3,a4⟩:=addW_fit (d:=d) h.wst h.wdur
 exact ⟨h.F,h.dp,h.pins,h.hand,by rw [a1,a2];exact h.fit,by rw [a2];exact a3,a4,h.pend,h.ok,h.sec⟩
open Go.RowKit
def HasP (first:Nat) (A:List Fa) (D:DD) (q:Nat) (d:List UInt8):Prop:=(∃ (i:Nat) (x:Fa),A[i]? = some x∧x.page=q∧x.b=d)∨((∀ (i:Nat) (x:Fa),A[i]? = some x→x.page≠q)∧D.read (first+q)=d)
def Coh (first:Nat) (A:List Fa) (D:DD):Prop := ∀ (i:Nat) (x:Fa),A[i]? = some x→0≤x.page→x.dirty=false→x.b=D.read (first+x.page.toNat)
theorem HasP.uniq {first count n:Nat} {A:List Fa} {D:DD} (hF:FOk count n A) {q:Nat} {d:List UInt8} (h:HasP first A D q d) {i:Nat} {x:Fa} (hx:A[i]? = some x) (hp:x.page=q):x.b=d:=by
  rcases h with ⟨j,y,h1,h2,h3⟩ | ⟨h1,_⟩
  · have e:=hF.one i j x y hx h1 (by omega) (by omega)
    subst e
    rw [hx] at h1;cases h1;exact h3
  · exact absurd hp (h1 i x hx)
theorem force_read {W:Wl} {D:DD} (ho:D.Ok) (hw:WOk W D) (m:Int) {x:Nat} (hx:x<D.secs.length) (h:W.first+W.count≤x):(Zv W D m).2.read x=D.read x:=by
 unfold Zv
 split
 · rfl
 · exact flushE_out ho hw.fit hw.dur hw.st hx (.inr h)
theorem give_read {first:Nat} {W:Wl} {D:DD} (ho:D.Ok) (hw:WOk W D) (x:Fa) {q:Nat} (hx:q<D.secs.length) (h:W.first+W.count≤q):(giveP first W D x).2.read q=if x.dirty=true∧first+x.page.toNat=q then x.b else D.read q:=by
  unfold giveP
  by_cases hd:x.dirty=true
  · rw [if_pos hd,DD.rdW]
    rw [force_read ho hw x.mark hx h]
    by_cases e:first+x.page.toNat=q
    · rw [if_pos e,if_pos ⟨hd,e⟩]
    · rw [if_neg e,if_neg (fun k=>e k.2)]
  · rw [if_neg hd,if_neg (fun k=>hd k.1)]
theorem HasP.set {first:Nat} {A:List Fa} {D:DD} {i:Nat} {x y:Fa} (hx:A[i]? = some x) (hp:y.page=x.page) (hb:y.b=x.b) {q:Nat} {d:List UInt8} (h:HasP first A D q d):HasP first (A.set i y) D q d:=by
  have hil:=(List.getElem?_eq_some_iff.1 hx).1
  rcases h with ⟨j,z,h1,h2,h3⟩ | ⟨h1,h2⟩
  · by_cases e:i=j
    · subst e
      rw [hx] at h1;cases h1
      exact .inl ⟨i,y,by rw [List.getElem?_set_self hil],by rw [hp,h2],by rw [hb,h3]⟩
    · exact .inl ⟨j,z,by rw [List.getElem?_set_ne e];exact h1,h2,h3⟩
  · refine .inr ⟨fun j z hz=>?_,h2⟩
    rw [List.getElem?_set] at hz
    split at hz
    · cases hz;rw [hp];exact h1 i x hx
    · exact h1 j z hz
theorem Coh.set {first:Nat} {A:List Fa} {D:DD} {i:Nat} {x y:Fa} (hx:A[i]? = some x) (hp:y.page=x.page) (hb:y.dirty=false→y.b=x.b∧x.dirty=false) (h:Coh first A D):Coh first (A.set i y) D:=by
  have hil:=(List.getElem?_eq_some_iff.1 hx).1
  intro j z hz h0 hd
  rw [List.getElem?_set] at hz
  split at hz
  · cases hz
    obtain ⟨e1,e2⟩:=hb hd
    rw [e1,hp]
    exact h i x hx (by rw [←hp];exact h0) e2
  · exact h j z hz h0 hd
theorem findA_of {count n:Nat} {A:List Fa} (hF:FOk count n A) {i:Nat} {x:Fa} (hx:A[i]? = some x) {page:Int} (hp:x.page=page) (h0:0≤page):findA A page=some i :=
 findA_eq h0 hx hp fun j hj y hy e=>by
  have:=hF.one j i y x hy hx (by rw [e,hp]) (by rw [e];exact h0)
  omega
theorem pinnedA_of {count n:Nat} {A:List Fa} (hF:FOk count n A) {i:Nat} {x:Fa} (hx:A[i]? = some x) {page:Int} (hp:x.page=page) (h0:0≤page) (hq:0<x.pins):pinnedA A page=some (i,x):=by
 unfold pinnedA
 rw [findA_of hF hx hp h0]
 dsimp only
 rw [hx]
 dsimp only
 rw [if_pos hq]
theorem pin_ok {first count n K:Nat} {s:Pl} (h:PInv first count n K s) (hK:K<2^31) (page:Int) (hlog:s.W.first+s.W.count≤first) (hc:Coh first s.A s.D):(∀ (q:Nat) (d:List UInt8),q<count→HasP first s.A s.D q d→HasP first (pinP first count s page).1.A (pinP first count s page).1.D q d)∧Coh first (pinP first count s page).1.A (pinP first count s page).1.D:=by
  have hw:=h.w hK
  have ho:=h.ok
  have hF:=h.F
  have hsec:=h.sec
  have hcs:=pin_cases (first:=first) (count:=count) (page:=page) (s:=s) (by rw [h.F.len];exact h.hand)
  generalize pinP first count s page=res at hcs ⊢
  cases hcs with
  | range hr=>exact ⟨fun q d _ h=>h,hc⟩
  | full hr hf hx=>exact ⟨fun q d _ h=>h,hc⟩
  | found i x hr hf hx=>exact ⟨fun q d _ h=>HasP.set (y:=upA x) hx rfl rfl h,Coh.set (y:=upA x) hx rfl (fun e=>⟨rfl,e⟩) hc⟩
  | free i x hr hf hi hp hfirst =>
    have hil:=(List.getElem?_eq_some_iff.1 hi).1
    have hno:=findA_none hf (by omega)
    dsimp only
    refine ⟨fun q d hq h=>?_,fun j z hz h0 hd=>?_⟩
    · rcases h with ⟨j,z,h1,h2,h3⟩ | ⟨h1,h2⟩
      · by_cases e:i=j
        · subst e;rw [hi] at h1;cases h1;omega
        · exact .inl ⟨j,z,by rw [List.getElem?_set_ne e];exact h1,h2,h3⟩
      · by_cases e:page=q
        · refine .inl ⟨i,_,List.getElem?_set_self hil,e,?_⟩
          rw [←h2,e];rfl
        · refine .inr ⟨fun j z hz=>?_,h2⟩
          rw [List.getElem?_set] at hz
          split at hz
          · cases hz;exact e
          · exact h1 j z hz
    · rw [List.getElem?_set] at hz
      split at hz
      · cases hz;rfl
      · exact hc j z hz h0 hd
  | clock i h' A' x' hr hf hx ha hc' hx' hup =>
    obtain ⟨hl,hi⟩:=clock_len hc'
    have hil:i<A'.length:=by omega
    have hfr:=clock_fr hc'
    have hno:=findA_none hf (by omega)
    obtain ⟨x,hxx,e1,e2,e3,e4,e5⟩:=hfr i x' hx'
    have hxo:=fr_ok hF hxx (hx i x hxx)
    have hx0:0≤x'.page:=by rw [e1];exact hxo.1
    have fwd : ∀ (j:Nat) (z:Fa),s.A[j]? = some z → ∃ z',A'[j]? = some z'∧z'.page=z.page∧z'.b=z.b∧z'.dirty=z.dirty:=fun j z hz=>by
      have hj:=(List.getElem?_eq_some_iff.1 hz).1
      obtain ⟨y,hy,q1,q2,q3,q4,q5⟩:=hfr j A'[j] (List.getElem?_eq_getElem (by omega))
      rw [hz] at hy;cases hy
      exact ⟨_,List.getElem?_eq_getElem (by omega),q1,q5,q4⟩
    have rd : ∀ q,q<count→(giveP first s.W s.D x').2.read (first+q)=if x'.dirty=true∧first+x'.page.toNat=first+q then x'.b else s.D.read (first+q):=fun q hq=>give_read ho hw x' (by omega) (by omega)
    dsimp only
    refine ⟨fun q d hq h=>?_,fun j z hz h0 hd=>?_⟩
    · rcases h with ⟨j,z,h1,h2,h3⟩ | ⟨h1,h2⟩
      · by_cases e:i=j
        · subst e
          rw [hxx] at h1;cases h1
          refine .inr ⟨fun j z hz=>?_,?_⟩
          · rw [List.getElem?_set] at hz
            split at hz
            · cases hz
              intro e;exact hno i x hxx (by rw [h2];exact e.symm)
            · rename_i hne
              obtain ⟨y,hy,q1,_⟩:=hfr j z hz
              intro e
              exact hne (hF.one i j x y hxx hy (by rw [←q1,e,h2]) hxo.1)
          · rw [rd q hq]
            by_cases hd:x'.dirty=true
            · rw [if_pos ⟨hd,by rw [e1,h2];simp⟩,e5,h3]
            · rw [if_neg (fun k=>hd k.1)]
              have:=hc i x hxx hxo.1 (by rw [←e4];simpa using hd)
              rw [h2] at this
              rw [←h3,this];simp
        · obtain ⟨z',a1,a2,a3,_⟩:=fwd j z h1
          exact .inl ⟨j,z',by rw [List.getElem?_set_ne e];exact a1,by rw [a2,h2],by rw [a3,h3]⟩
      · have hrq:(giveP first s.W s.D x').2.read (first+q)=d:=by
          rw [rd q hq,if_neg (fun k=>h1 i x hxx (by rw [←e1];omega)),h2]
        by_cases e:page=q
        · refine .inl ⟨i,_,List.getElem?_set_self hil,e,?_⟩
          rw [←hrq,e];rfl
        · refine .inr ⟨fun j z hz=>?_,hrq⟩
          rw [List.getElem?_set] at hz
          split at hz
          · cases hz;exact e
          · obtain ⟨y,hy,q1,_⟩:=hfr j z hz
            rw [q1];exact h1 j y hy
    · rw [List.getElem?_set] at hz
      split at hz
      · cases hz;rfl
      · rename_i hne
        obtain ⟨y,hy,q1,q2,q3,q4,q5⟩:=hfr j z hz
        have hyo:=fr_ok hF hy (by rw [←q1];exact h0)
        rw [q5,hc j y hy hyo.1 (by rw [←q4];exact hd),q1,rd _ (by omega),if_neg]
        rintro ⟨_,k⟩
        exact hne (hF.one i j x y hxx hy (by rw [←e1];omega) hxo.1)
theorem pin_frame {first count n K:Nat} {s:Pl} (h:PInv first count n K s) (page:Int) (hr : ¬ (page<0∨(count:Int)≤page)) (hz : ∀ x∈s.A,x.pins=0):(pinP first count s page).2=0 ∧ ∃ (i:Nat) (x:Fa),(pinP first count s page).1.A[i]? = some x∧x.page=page∧x.pins=1 ∧ ∀ (j:Nat) (y:Fa),(pinP first count s page).1.A[j]? = some y→j≠i→y.pins=0:=by
 have hF:=h.F
 have hcs:=pin_cases (first:=first) (count:=count) (page:=page) (s:=s) (by rw [h.F.len];exact h.hand)
 generalize pinP first count s page=res at hcs ⊢
 cases hcs with
 | range hr'=>exact absurd hr' hr
 | full hr' hf hx =>
  have h0:0<s.A.length:=by rw [hF.len];exact hF.n1
  have:=hx 0 _ (List.getElem?_eq_getElem h0)
  have:=hz s.A[0] (List.getElem_mem _)
  omega
 | found i x hr' hf hx =>
  obtain ⟨_,x2,hx2,hp,_⟩:=findA_some hf
  rw [hx] at hx2;cases hx2
  have hil:=(List.getElem?_eq_some_iff.1 hx).1
  refine ⟨rfl,i,upA x,List.getElem?_set_self hil,hp,by simp [upA,hz x (List.mem_of_getElem? hx)],fun j y hy hne=>?_⟩
  rw [List.getElem?_set_ne (fun e=>hne e.symm)] at hy
  exact hz y (List.mem_of_getElem? hy)
 | free i x hr' hf hi hp hfirst =>
  have hil:=(List.getElem?_eq_some_iff.1 hi).1
  refine ⟨rfl,i,_,List.getElem?_set_self hil,rfl,rfl,fun j y hy hne=>?_⟩
  dsimp only at hy
  rw [List.getElem?_set_ne (fun e=>hne e.symm)] at hy
  exact hz y (List.mem_of_getElem? hy)
 | clock i h' A' x' hr' hf hx ha hc' hx' hup =>
  have hil:=(List.getElem?_eq_some_iff.1 hx').1
  refine ⟨rfl,i,_,List.getElem?_set_self hil,rfl,rfl,fun j y hy hne=>?_⟩
  dsimp only at hy
  rw [List.getElem?_set_ne (fun e=>hne e.symm)] at hy
  obtain ⟨z,hz1,_,_,q3,_⟩:=clock_fr hc' j y hy
  rw [q3];exact hz z (List.mem_of_getElem? hz1)
theorem flush_has {first count n K:Nat} {s:Pl} (h:PInv first count n K s) (hK:K<2^31) (hlog:s.W.first+s.W.count≤first) (hc:Coh first s.A s.D) {q:Nat} (hq:q<count) {d:List UInt8} (hh:HasP first s.A s.D q d) :
    (Zz (Zv s.W s.D (Zm s.A)).2 (dirtyL first s.A)).sync.read (first+q)=d:=by
  have hw:=h.w hK
  have hF:=h.F
  have hsec:=h.sec
  obtain ⟨f1,f2,f3,f4,f5,f6,f7⟩:=hw.force h.ok (Zm s.A) hw.room
  have hL : ∀ p∈dirtyL first s.A,p.1<(Zv s.W s.D (Zm s.A)).2.secs.length∧p.2.length=256:=fun p hp=>by
    obtain ⟨i,x,hx,hd,rfl⟩:=dirty_mem.1 hp
    have:=fr_ok hF hx (h.dp x (List.mem_of_getElem? hx) hd)
    exact ⟨by rw [f3];dsimp only;omega,this.2.2.1⟩
  obtain ⟨w1,w2,w3⟩:=writes_ok f2 hL
  rw [DD.rdS w1 _ (by rw [w2,f3];omega)]
  have hrd:=force_read h.ok hw (Zm s.A) (x:=first+q) (by omega) (by omega)
  rcases hh with ⟨i,x,h1,h2,h3⟩ | ⟨h1,h2⟩
  · by_cases hd:x.dirty=true
    · exact writes_in (dirty_nodup hF h.dp) (dirty_mem.2 ⟨i,x,h1,hd,by rw [h2,h3];simp⟩)
    · rw [writes_out,hrd]
      · have:=hc i x h1 (by omega) (by simpa using hd)
        rw [h2] at this
        rw [←h3,this];simp
      · intro p hp
        obtain ⟨j,y,hy,hyd,rfl⟩:=dirty_mem.1 hp
        have hy0:=h.dp y (List.mem_of_getElem? hy) hyd
        intro e
        dsimp only at e
        have:=hF.one i j x y h1 hy (by omega) (by omega)
        subst this
        rw [h1] at hy;cases hy
        exact hd hyd
  · rw [writes_out,hrd,h2]
    intro p hp
    obtain ⟨j,y,hy,hyd,rfl⟩:=dirty_mem.1 hp
    have hy0:=h.dp y (List.mem_of_getElem? hy) hyd
    intro e
    dsimp only at e
    exact h1 j y hy (by omega)
open Go.RowKit
def ScanG (al:List UInt8) (m k:Nat) (s:UInt32) (R:List (Nat×List UInt8)):Prop := ∃ f,m<f+k∧Wj al (m+1) 0 0=((Wj al f k s).1,(Wj al f k s).2.1,R++(Wj al f k s).2.2)
theorem ScanG.stop {al:List UInt8} {m k:Nat} {s:UInt32} {R:List (Nat×List UInt8)} (h:ScanG al m k s R) (ht:takeRec al k s=none):Wj al (m+1) 0 0=(k,s,R):=by
 obtain ⟨f,_,e⟩:=h
 rw [e,scan_none ht,List.append_nil]
theorem ScanG.next {al:List UInt8} {m k nn:Nat} {s s':UInt32} {R:List (Nat×List UInt8)} (h:ScanG al m k s R) (hk:k≤m) (ht:takeRec al k s=some (nn,s')):ScanG al m (k+(8+nn)) s' (R++[(k+(8+nn),((al.drop k).take (8+nn)).drop 8)]):=by
 obtain ⟨f,hf,e⟩:=h
 cases f with
 | zero=>omega
 | succ f =>
  refine ⟨f,by omega,?_⟩
  rw [e,Wj,ht]
  simp
open Go.RowKit
open Go.RowKit
structure OpB where
 kind:Int
 page:Int
 data:List UInt8
 mark:Int
def stepPl (s:Pl) (o:OpB):Pl :=
 if o.kind=0 then (pinP 4 8 s o.page).1 else if o.kind=1 then {s with A:=(unpinA s.A o.page).1} else if o.kind=2 then {s with A:=(putA s.A o.page o.data o.mark).1}
 else if o.kind=3 then s else if o.kind=4 then flushP 4 s else if o.kind=5 then {s with W:=(addW s.W o.data).1} else s
theorem PInv.step {n K:Nat} {s:Pl} (h:PInv 4 8 n K s) (hK:K<2^31) (o:OpB) (hm : -(2^63)≤o.mark∧o.mark<2^63):PInv 4 8 n (K+1) (stepPl s o):=by
  unfold stepPl
  split
  · exact h.pin hK _
  · split
    · exact (h.unpin _).mono (Nat.le_succ _)
    · split
      · exact (h.put _ _ _ hm).mono (Nat.le_succ _)
      · split
        · exact h.mono (Nat.le_succ _)
        · split
          · exact (h.flush hK).mono (Nat.le_succ _)
          · split
            · exact (h.append _).mono (Nat.le_succ _)
            · exact h.mono (Nat.le_succ _)
open Go.RowKit
theorem give_len {first:Nat} {W:Wl} {D:DD} (h:WOk W D) (ho:D.Ok) (x:Fa):(giveP first W D x).2.secs.length=D.secs.length:=by
 have:=(h.force ho x.mark h.room).2.2.1
 unfold giveP
 split
 · exact this
 · rfl
theorem step_len {n K:Nat} {s:Pl} (h:PInv 4 8 n K s) (hK:K<2^31) (o:OpB):(stepPl s o).D.secs.length=s.D.secs.length:=by
  unfold stepPl
  split
  · have hc:=pin_cases (first:=4) (count:=8) (page:=o.page) (s:=s) (by rw [h.F.len];exact h.hand)
    generalize pinP 4 8 s o.page=res at hc ⊢
    cases hc with
    | clock i h' A' x' hr hf hx ha hc hx' hup=>exact give_len (h.w hK) h.ok x'
    | _=>rfl
  · split
    · rfl
    · split
      · rfl
      · split
        · rfl
        · split
          · obtain ⟨f1,f2,f3,f4,f5,f6,f7⟩:=(h.w hK).force h.ok (Zm s.A) (h.w hK).room
            have hsec:=h.sec
            have hL : ∀ p∈dirtyL 4 s.A,p.1<(Zv s.W s.D (Zm s.A)).2.secs.length∧p.2.length=256:=fun p hp=>by
              obtain ⟨i,x,hx,hd,rfl⟩:=dirty_mem.1 hp
              have:=fr_ok h.F hx (h.dp x (List.mem_of_getElem? hx) hd)
              exact ⟨by rw [f3];dsimp only;omega,this.2.2.1⟩
            obtain ⟨w1,w2,w3⟩:=writes_ok f2 hL
            show (Zz _ _).sync.secs.length=_
            rw [DD.sync_len w1,w2,f3]
          · split <;> rfl
open Go.RowKit
theorem force_log {W:Wl} {D:DD} (h:WOk W D) (ho:D.Ok) (m:Int):(Zv W D m).1.first=W.first∧(Zv W D m).1.count=W.count:=by
 obtain ⟨f1,f2,f3,f4,f5,f6,f7⟩:=h.force ho m h.room
 exact ⟨f5,f6⟩
theorem give_log {first:Nat} {W:Wl} {D:DD} (h:WOk W D) (ho:D.Ok) (x:Fa):(giveP first W D x).1.first=W.first∧(giveP first W D x).1.count=W.count:=by
 unfold giveP
 split
 · exact force_log h ho x.mark
 · exact ⟨rfl,rfl⟩
theorem pin_log {first count n K:Nat} {s:Pl} (h:PInv first count n K s) (hK:K<2^31) (page:Int):(pinP first count s page).1.W.first=s.W.first∧(pinP first count s page).1.W.count=s.W.count:=by
 have hc:=pin_cases (first:=first) (count:=count) (page:=page) (s:=s) (by rw [h.F.len];exact h.hand)
 generalize pinP first count s page=res at hc ⊢
 cases hc with
 | clock i h' A' x' hr hf hx ha hc hx' hup=>exact give_log (h.w hK) h.ok x'
 | _=>exact ⟨rfl,rfl⟩
theorem pin_len {n K:Nat} {s:Pl} (h:PInv 4 8 n K s) (hK:K<2^31) (page:Int):(pinP 4 8 s page).1.D.secs.length=s.D.secs.length:=by
 have:=step_len h hK ⟨0,page,[],0⟩
 unfold stepPl at this
 rwa [if_pos rfl] at this
structure ThInv (n K:Nat) (s:Pl) (last:List (List UInt8)):Prop where
 inv:PInv 4 8 n K s
 len:s.D.secs.length=12
 log:s.W.first+s.W.count≤4
 zero : ∀ x∈s.A,x.pins=0
 coh:Coh 4 s.A s.D
 ll:last.length=8
 has : ∀ (q:Nat) (d:List UInt8),last[q]? = some d→HasP 4 s.A s.D q d
structure OneP (page:Int) (A:List Fa) (i:Nat) (x:Fa):Prop where
 at_:A[i]? = some x
 pg:x.page=page
 one:x.pins=1
 rest : ∀ (j:Nat) (y:Fa),A[j]? = some y→j≠i→y.pins=0
theorem OneP.set {page:Int} {A:List Fa} {i:Nat} {x y:Fa} (h:OneP page A i x) (hp:y.page=page) (h1:y.pins=1):OneP page (A.set i y) i y:=by
 have hil:=(List.getElem?_eq_some_iff.1 h.at_).1
 exact ⟨List.getElem?_set_self hil,hp,h1,fun j z hz hne=>by rw [List.getElem?_set_ne (fun e=>hne e.symm)] at hz;exact h.rest j z hz hne⟩
theorem OneP.unpin {count n:Nat} {page:Int} {A:List Fa} {i:Nat} {x:Fa} (h:OneP page A i x) (hF:FOk count n A) (h0:0≤page):unpinA A page=(A.set i {x with pins:=0},0)∧unpinA (A.set i {x with pins:=0}) page=(A.set i {x with pins:=0},61) ∧ ∀ y∈A.set i {x with pins:=0},y.pins=0:=by
  have hil:=(List.getElem?_eq_some_iff.1 h.at_).1
  have h1:=pinnedA_of hF h.at_ h.pg h0 (by rw [h.one];omega)
  have hz : ∀ (j:Nat) (y:Fa),(A.set i {x with pins:=0})[j]? = some y→y.pins=0:=fun j y hy=>by
    by_cases e:i=j
    · subst e;rw [List.getElem?_set_self hil] at hy;cases hy;rfl
    · rw [List.getElem?_set_ne e] at hy;exact h.rest j y hy (fun q=>e q.symm)
  refine ⟨?_,?_,fun y hy=>by obtain ⟨j,hj,rfl⟩:=List.getElem_of_mem hy;exact hz j _ (List.getElem?_eq_getElem hj)⟩
  · unfold unpinA
    rw [h1]
    dsimp only
    rw [h.one];rfl
  · unfold unpinA
    cases hp:pinnedA (A.set i {x with pins:=0}) page with
    | none=>rfl
    | some r =>
      obtain ⟨_,hr,h2⟩:=pinnedA_some hp
      have:=hz _ _ hr
      omega
theorem ThInv.round {n K:Nat} {s:Pl} {last:List (List UInt8)} (h:ThInv n K s last) (hK:K<2^31) {page:Int} (h0:0≤page) (h8:page<8) :
    ∃ s1 i x,pinP 4 8 s page=(s1,0)∧PInv 4 8 n (K+1) s1∧OneP page s1.A i x∧last[page.toNat]? = some x.b∧x.b.length=256∧pinnedA s1.A page=some (i,x) ∧
      ∀ (d:List UInt8) (mark:Int),-(2^63)≤mark∧mark<2^63 → ∃ c A3,(putA s1.A page d mark).2=c∧(c=0∨c=10)∧unpinA (putA s1.A page d mark).1 page=(A3,0)∧unpinA A3 page=(A3,61)∧ThInv n (K+1) {s1 with A:=A3} (if c=0 then last.set page.toNat d else last)∧PInv 4 8 n (K+1) {s1 with A:=(putA s1.A page d mark).1}:=by
  have hr : ¬ (page<0∨((8:Nat):Int)≤page):=by omega
  obtain ⟨hcode,i,x,hi,hp,hone,hrest⟩:=pin_frame h.inv page hr h.zero
  have hpi:=h.inv.pin hK page
  obtain ⟨hhas,hcoh⟩:=pin_ok h.inv hK page h.log h.coh
  have hlen:=pin_len h.inv hK page
  obtain ⟨hl1,hl2⟩:=pin_log h.inv hK page
  have hs1:pinP 4 8 s page=((pinP 4 8 s page).1,0):=by rw [←hcode]
  generalize (pinP 4 8 s page).1=s1 at *
  have hO:OneP page s1.A i x:=⟨hi,hp,hone,hrest⟩
  have hpin:=pinnedA_of hpi.F hi hp h0 (by rw [hone];omega)
  have hxo:=fr_ok hpi.F hi (by omega)
  have hq8:page.toNat<last.length:=by rw [h.ll];omega
  have hlast:last[page.toNat]? = some x.b:=by
    have:=(hhas page.toNat _ (by omega) (h.has page.toNat _ (List.getElem?_eq_getElem hq8))).uniq hpi.F hi (by omega)
    rw [this];exact List.getElem?_eq_getElem hq8
  refine ⟨s1,i,x,hs1,hpi,hO,hlast,hxo.2.2.1,hpin,fun d mark hm=>?_⟩
  have hput:=hpi.put page d mark hm
  by_cases hd:d.length=256
  · have e:putA s1.A page d mark=(s1.A.set i {x with mark:=max x.mark mark,dirty:=true,b:=d},0):=by
      unfold putA;rw [hpin];dsimp only;rw [if_neg (by simp [hd])]
    rw [e] at hput ⊢
    dsimp only at hput ⊢
    have hO2:OneP page (s1.A.set i {x with mark:=max x.mark mark,dirty:=true,b:=d}) i {x with mark:=max x.mark mark,dirty:=true,b:=d}:=hO.set hp hone
    obtain ⟨u1,u2,u3⟩:=hO2.unpin hput.F h0
    have hun:=hput.unpin page
    rw [u1] at hun
    dsimp only at hun
    have hil:=(List.getElem?_eq_some_iff.1 hi).1
    refine ⟨0,_,rfl,.inl rfl,u1,u2,?_,hput⟩
    rw [if_pos rfl]
    refine ⟨hun,hlen.trans h.len,by rw [hl1,hl2];exact h.log,u3,?_,by rw [List.length_set];exact h.ll,fun q dd hq=>?_⟩
    · dsimp only
      rw [List.set_set]
      exact Coh.set (x:=x) hi rfl (fun e=>by cases e) (hcoh)
    · dsimp only
      rw [List.set_set]
      rw [List.getElem?_set] at hq
      split at hq
      · rename_i eq
        cases hq
        exact .inl ⟨i,_,List.getElem?_set_self hil,by show x.page=_;omega,rfl⟩
      · rename_i ne
        have hqq:q<8:=by have:=(List.getElem?_eq_some_iff.1 hq).1;rw [h.ll] at this;exact this
        rcases hhas q dd hqq (h.has q dd hq) with ⟨j,z,a1,a2,a3⟩ | ⟨a1,a2⟩
        · refine .inl ⟨j,z,?_,a2,a3⟩
          rw [List.getElem?_set_ne]
          · exact a1
          · intro e;subst e;rw [hi] at a1;cases a1;omega
        · refine .inr ⟨fun j z hz=>?_,a2⟩
          rw [List.getElem?_set] at hz
          split at hz
          · cases hz;show x.page≠_;omega
          · exact a1 j z hz
  · have e:putA s1.A page d mark=(s1.A,10):=by
      unfold putA;rw [hpin];dsimp only;rw [if_pos hd]
    rw [e] at hput ⊢
    dsimp only at hput ⊢
    obtain ⟨u1,u2,u3⟩:=hO.unpin hpi.F h0
    have hun:=hpi.unpin page
    rw [u1] at hun
    dsimp only at hun
    refine ⟨10,_,rfl,.inr rfl,u1,u2,?_,hput⟩
    rw [if_neg (by decide)]
    refine ⟨hun,hlen.trans h.len,by rw [hl1,hl2];exact h.log,u3,Coh.set (x:=x) hi rfl (fun e=>⟨rfl,e⟩) hcoh,h.ll,fun q dd hq=>?_⟩
    have hqq:q<8:=by have:=(List.getElem?_eq_some_iff.1 hq).1;rw [h.ll] at this;exact this
    exact HasP.set (y:={x with pins:=0}) hi rfl rfl (hhas q dd hqq (h.has q dd hq))
open Go.RowKit
open Go.RowKit
theorem DD.Ok.map {D:DD} (h:D.Ok) {N:Nat} (hN:D.secs.length=N):DD.Ok ⟨(List.range N).map D.read,[]⟩:=by
 have h1:=h.pos
 have h2:=h.max
 refine ⟨by simp;omega,by simp;omega,?_,by simp,by simp⟩
 intro s hs
 obtain ⟨j,hj,rfl⟩:=List.mem_map.1 hs
 exact h.rd j (by have:=List.mem_range.1 hj;omega)
open Go.RowKit
def baseOf (W:World):Wn:=⟨W.os,W.tape,W.output,World.piece W⟩
theorem own_base (W:World):Own (baseOf W) W []:=⟨rfl,rfl,rfl,Piece.le_refl _,fun _=>none,⟨fun _ => .inl rfl⟩,⟨fun _ _ e=>by cases e⟩,trivial⟩
theorem Own.keeps {W W':World} {l:List Wp} (h:Own (baseOf W) W' l):Kept [] W W':=by
  have hb : ∀ k o,W.heap[k]? = some o→W'.heap[k]? = some o:=fun k o e=>h.ro.p k o e
  refine ⟨h.os,h.tape,h.output,?_,fun k hk _=>?_⟩
  · rcases Nat.eq_zero_or_pos W.heap.size with h0 | h0
    · omega
    · have:=Zk (hb (W.heap.size-1) _ (Array.getElem?_eq_getElem (by omega)))
      omega
  · rw [hb k _ (Array.getElem?_eq_getElem hk),Array.getElem?_eq_getElem hk]
theorem Fn.law {P:Program} {W:World} {g:FuncId} {args:Array Value} (h:Fn P (baseOf W) g args [] (fun v l=>v = .bool true∧l=[])):Calls P g args W fun e W'=>e = .returned (.bool true)∧Kept [] W W':=by
 refine (h.run W [] (own_base W)).mono ?_
 rintro e w' ⟨v,l,rfl,⟨rfl,rfl⟩,ho⟩
 exact ⟨rfl,ho.keeps⟩
theorem range_cell {W:World} {b o j:Nat} {v:Value} (h:W.cell? ⟨b,o+j,none⟩=some v) : ∃ c t fr,W.heap[b]? = some (.cells c t fr)∧c[o+j]? = some v:=by
  unfold World.cell? at h
  split at h
  · rename_i c e fr hb
    exact ⟨c,e,fr,hb,by simpa using h⟩
  · cases h
theorem roc_of {W:World} {b:Nat} {c:Array Value} {t:TypeId} {fr:Nat×Nat} (h:W.heap[b]? = some (.cells c t fr)):ROc (baseOf W) b c.toList:=⟨[],t,fr,by simpa [baseOf,World.piece] using h⟩
theorem RoS.ofReads {W:World} {v:Value} {cs:List Value} {fp:List Nat} (h:Reads W v cs fp):RoS (baseOf W) v cs:=by
  obtain ⟨a,cap,rfl,h | ⟨b,o,rfl,hr,_⟩⟩:=h
  · exact ⟨a,cap,rfl,.inl h⟩
  · match cs,hr with
    | [],_=>exact ⟨_,cap,rfl,.inl rfl⟩
    | u::cs,hr =>
      obtain ⟨c,t,fr,hb,_⟩:=range_cell (hr 0 u rfl)
      refine ⟨_,cap,rfl,.inr ⟨b,o,c.toList,rfl,roc_of hb,fun j x hx=>?_⟩⟩
      obtain ⟨c',t',fr',hb',hc'⟩:=range_cell (hr j x hx)
      rw [hb] at hb'
      injection hb' with e1
      injection e1 with e1
      subst e1
      rw [Nat.mul_one]
      simpa using hc'
theorem SliceAt.ro {α:Type} {W:World} {sz:Nat} {R:List Value→α→Prop} {v:Value} {l:List α} (h:SliceAt W sz R v l) (hsz:0<sz) : ∃ a cap,v = .slice a l.length cap∧(l=[] ∨ ∃ b o C,a=some ⟨b,o,none⟩∧ROc (baseOf W) b C ∧ ∀ i (hi:i<l.length),∃ cells,rdl C (o+i*sz) cells∧R cells l[i]):=by
  rcases h with ⟨rfl,rfl⟩ | ⟨a,cap,rfl,hl,hm,hi⟩
  · exact ⟨none,0,rfl,.inl rfl⟩
  · refine ⟨some a,cap,rfl,?_⟩
    by_cases h0:l=[]
    · exact .inl h0
    · right
      have hp:0<l.length:=List.length_pos_iff.2 h0
      obtain ⟨cells,b,o,rfl,hb,hlen,hr,hR⟩:=hi 0 hp
      obtain ⟨c,t,fr,hbb,_⟩:=range_cell (hr 0 _ (List.getElem?_eq_getElem (by omega)))
      refine ⟨b,o,c.toList,rfl,roc_of hbb,fun i hil=>?_⟩
      obtain ⟨cells',b',o',e,_,hlen',hr',hR'⟩:=hi i hil
      injection e with e1 e2
      subst e1;subst e2
      refine ⟨cells',rdl_of fun j u hu=>?_,hR'⟩
      obtain ⟨c',t',fr',hb',hc'⟩:=range_cell (hr' j u hu)
      rw [hbb] at hb'
      injection hb' with e1
      injection e1 with e1
      subst e1
      simpa using hc'
end Go.Proofs.YtjmjjfefchnkaaaGreatDoor
