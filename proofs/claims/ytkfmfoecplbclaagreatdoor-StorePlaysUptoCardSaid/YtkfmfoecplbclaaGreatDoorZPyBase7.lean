/- The texts Law Law2 PgRd StRd SxA SxV RfZ SxE HeA HpA HpB, one behind the other: what the law leans on. Conditions: as each theorem says. -/
import Derived.Test.YtkfmfoecplbclaaGreatDoorZPyBase6
import Derived.Deep.Slices
import Derived.Test.YtkfmfoecplbclaaGreatDoorCards
import Derived.Test.YtkfmfoecplbclaaGreatDoorTie
import Derived.Deep.DeepHandedRow
import Derived.Lib.LaidU8
set_option linter.unusedSimpArgs false
set_option linter.unusedVariables false
set_option maxRecDepth 100000
set_option maxHeartbeats 16000000
namespace Go.Proofs.YtkfmfoecplbclaaGreatDoor
open Go.ChangeShapes Go.WideShapes Go.ChangeAt Go.RowKit
theorem Tryz.own : ownKnob Tryz.prog.godebug=none:=by kernel_rfl
theorem Tryz.laidOut : laidOutB Tryz.prog=true:=by kernel_rfl
section
variable {H : Type} {enc:TypeId×Value->H} {P:Program}
theorem trodAll_stays (hl:laidOutB P=true) {W W':World} (hb:Below W.heap.size W W') : ∀ (ts:List TypeId) (vs:List Value) (ds:List (DataW H)) (ps:List MemPlace),(∀ t∈ts,P.readableRec t=true/\t<P.types.size) ->
  (∀ x∈ps,x.block<W.heap.size)->DataW.TrodAll enc P W 0 (λ _=>true) true ts vs ds ps->DataW.TrodAll enc P W' 0 (λ b=>decide (b<W.heap.size)) true ts vs ds ps
 | [],[],[],ps,_,_,h=>h
 | t::ts,v::vs,d::ds,ps,hr,hlt,h=>by
  obtain ⟨p,q,h1,h2,rfl⟩:=h
  refine ⟨p,q,Below.trod hl (hr t (by simp)).1 (hr t (by simp)).2 h1 hb (λ x hx=>hlt x (by simp [hx])),trodAll_stays hl hb ts vs ds q (λ t ht=>hr t (by simp [ht])) (λ x hx=>hlt x (by simp [hx])) h2,rfl⟩
 | [],[],_::_,_,_,_,h=>h
 | [],_::_,_,_,_,_,h=>h
 | _::_,[],_,_,_,_,h=>h
 | _::_,_::_,[],_,_,_,h=>h
theorem post_law {f:Func} {s:ChangeSpec} {W W':World} {args:Array Value} {ds gs:List (DataW H)} {before:List MemPlace} (hl:laidOutB P=true)
    (hW:DataW.Whole enc P f.params.toList s.vars false W args.toList ds gs before) (hvars:s.vars=[]) (hres:s.fn H (ds++gs)={results:=[.lit (.bool true)],args:=ds})
    (tb:TypeId) (htb:P.underlying tb=some .bool) (hrt:f.resultTypes = #[tb]) (hr : ∀ t∈f.params.toList,P.readableRec t=true/\t<P.types.size) (hb:Below W.heap.size W W') :
    s.post enc P f false true false false W args (.bool true) W':=by
  have hW':=hW
  obtain ⟨p,q,hA,hV,rfl,hfz,hnd⟩:=hW
  rw [hvars] at hV
  obtain ⟨rfl,rfl⟩:=trodVars_none hV
  have hlt : ∀ x∈p,x.block<W.heap.size:=λ x hx=>by simpa using hW'.lt x (by simp [hx])
  refine ⟨ds,[],p++[],[],p,[],hW',?_,?_,?_,hb.frame _,λ h=>by cases h⟩
  . rw [hres,hrt]
    exact trodAll_cons_mk (shut_bool htb _) trodAll_mk0
  . rw [hres]
    exact trodAll_stays hl hb _ _ _ _ hr hlt hA
  . rw [hres,hvars]
    rfl
end
section
variable {H : Type} {enc:TypeId×Value->H} {P:Program} {W:World}
abbrev Tr (enc:TypeId×Value->H) (P:Program) (W:World) (fuel:Nat) (t:TypeId) (cs:List Value):Option (DataW H×List MemPlace):=DataW.trod enc P W 0 (λ _=>true) true fuel t cs
def SliceAt (W:World) (sz:Nat) {α:Type} (R:List Value->α->Prop) (v:Value) (l:List α):Prop :=
 (v = .slice none 0 0/\l=[]) \/ ∃ a cap,v = .slice (some a) l.length cap/\l.length<=cap/\cap<=maxLen /\
  ∀ i (hi:i<l.length),∃ cells b o,a=⟨b,o,none⟩/\b<W.heap.size/\cells.length=sz/\W.rangeAt b (o+i*sz) cells/\R cells l[i]
theorem choose_list {α:Type} {n:Nat} {Q:Nat->α->Prop} (h : ∀ i,i<n -> ∃ a,Q i a) : ∃ l:List α,l.length=n /\ ∀ i (hi:i<l.length),Q i l[i]:=by
  induction n with
  | zero=>exact ⟨[],rfl,λ i hi=>by simp at hi⟩
  | succ n ih =>
    obtain ⟨l,hl,h2⟩:=ih (λ i hi=>h i (by omega))
    obtain ⟨a,ha⟩:=h n (by omega)
    refine ⟨l++[a],by simp [hl],λ i hi=>?_⟩
    by_cases hin:i<l.length
    . rw [List.getElem_append_left hin];exact h2 i hin
    . have:i=n:=by simp at hi;omega
      subst this
      simp only [<-hl,List.getElem_concat_length];rw [hl];exact ha
theorem map_sum_le {α β:Type} (f:α->Nat) (g:β->Nat) : ∀ (l:List α) (D:List β),l.length=D.length->(∀ i (h1:i<l.length) (h2:i<D.length),f l[i]<=g D[i])->(l.map f).sum<=(D.map g).sum
 | [],[],_,_=>by simp
 | x::l,y::D,hl,h=>by
  have h0:=h 0 (by simp) (by simp)
  have:=map_sum_le f g l D (by simpa using hl) (λ i h1 h2=>by have h3:=h (i+1) (by simpa using h1) (by simpa using h2);simp only [List.getElem_cons_succ] at h3;exact h3)
  simp only [List.map_cons,List.sum_cons]
  simp only [List.getElem_cons_zero] at h0
  omega
 | [],_::_,hl,_=>by simp at hl
 | _::_,[],hl,_=>by simp at hl
theorem bulkAll_sum (l:List (DataW H)):Rows.uptoBulkAll l=(l.map Rows.uptoBulk).sum:=by
 induction l with
 | nil=>rfl
 | cons d l ih=>simp [Rows.uptoBulkAll,ih]
theorem open_slice_R {t e:TypeId} {sz fuel:Nat} {cs:List Value} {x:DataW H×List MemPlace} {α:Type} {R:List Value->α->Prop} {B:α->Nat} (ht:P.underlying t=some (.slice e)) (hc:P.cellsOf e=sz)
    (hR : ∀ n cs y,Tr enc P W n e cs=some y -> ∃ a,R cs a/\B a<=Rows.uptoBulk y.1) (h:Tr enc P W fuel t cs=some x) (hsz:0<sz:=by omega) :
    ∃ v l,cs=[v]/\SliceAt W sz R v l/\(l.map B).sum+1<=Rows.uptoBulk x.1/\l.length+1<=Rows.uptoBulk x.1:=by
  subst hc
  rcases Deep.open_slice ht h with ⟨rfl,rfl⟩ | ⟨a,len,cap,m,n,D,Pl,rfl,hb,hl,hm,hmm,rfl,hx⟩
  . exact ⟨_,[],rfl,.inl ⟨rfl,rfl⟩,by simp [Rows.uptoBulk],by simp [Rows.uptoBulk]⟩
  . simp only [if_true] at hmm
    subst hmm
    obtain ⟨l,hll,hli⟩:=choose_list (n:=len) (Q:=λ i (y:α) => ∃ cells,W.cells? 0 (a.add (i*P.cellsOf e)) (P.cellsOf e)=some cells/\R cells y/\B y<=Rows.uptoBulk (D i)) (λ i hi=>by
      obtain ⟨cs',h1,h2⟩:=hx i (by omega)
      obtain ⟨y,hy,hB⟩:=hR n cs' _ h2
      exact ⟨y,cs',h1,hy,hB⟩)
    refine ⟨_,l,rfl,.inr ⟨a,m,by rw [hll],by omega,hm,λ i hi=>?_⟩,?_,?_⟩
    . obtain ⟨cells,h1,h2,_⟩:=hli i hi
      obtain ⟨_,h4,h5⟩:=World.cells?_some h1
      have hsp:a.spot=none:=by
        have h0:=hx 0 (by omega)
        obtain ⟨cs',g1,_⟩:=h0
        obtain ⟨_,g4,g5⟩:=World.cells?_some g1
        have:=g5 0 hsz
        simp only [Nat.zero_mul] at this
        have hadd:(a.add 0).add 0=a:=by simp [Addr.add]
        rw [hadd,List.getElem?_eq_getElem (by omega)] at this
        unfold World.cell? at this
        cases hh:W.heap[a.block]? with
        | none=>simp [hh] at this
        | some o =>
          cases o <;> simp [hh] at this
          have hq:=this.1
          cases hs:a.spot with
          | none=>rfl
          | some s=>simp [hs] at hq
      obtain ⟨b,o,sp⟩:=a
      simp only at hsp
      subst hsp
      have hcell:W.rangeAt b (o+i*P.cellsOf e) cells:=λ j v hj=>by
        have hjl:j<P.cellsOf e:=by have:=(List.getElem?_eq_some_iff.1 hj).1;omega
        have:=h5 j hjl
        rw [Addr.add_mid,Addr.add_mid] at this
        rw [this];exact hj
      have hlt:b<W.heap.size:=World.block_lt_of_cell? W _ (hcell 0 _ (List.getElem?_eq_getElem (by omega)))
      exact ⟨cells,b,o,rfl,hlt,h4,hcell,h2⟩
    . have:=map_sum_le B Rows.uptoBulk l ((List.range len).map D) (by simp [hll]) (λ i h1 h2=>by
        obtain ⟨_,_,_,h3⟩:=hli i h1
        simpa using h3)
      simp only [Rows.uptoBulk,bulkAll_sum]
      omega
    . simp only [Rows.uptoBulk]
      have h1:l.length<=Rows.uptoBulkAll ((List.range len).map D):=by
        rw [bulkAll_sum,hll]
        have : ∀ L:List Nat,L.length<=((L.map D).map Rows.uptoBulk).sum:=by
          intro L
          induction L with
          | nil=>simp
          | cons a L ih =>
            simp only [List.map_cons,List.sum_cons,List.length_cons]
            have:1<=Rows.uptoBulk (D a):=by
              cases D a with
              | lit l=>cases l <;> simp [Rows.uptoBulk]
              | _=>simp [Rows.uptoBulk]
            omega
        simpa using this (List.range len)
      omega
theorem field_of {fs:Array Field} {n:Nat} {cs:List Value} {xs:List (DataW H×List MemPlace)} (hf : ∀ (i:Nat) (f:Field),fs[i]? = some f->Tr enc P W n f.type ((cs.drop f.offset).take (P.cellsOf f.type))=xs[i]?)
  (i t off c:Nat) (h:(fs[i]?).map (λ f=>(f.type,f.offset))=some (t,off)) (hc:P.cellsOf t=c:=by kernel_rfl):Tr enc P W n t ((cs.drop off).take c)=xs[i]? := by
 cases hq:fs[i]? with
 | none=>simp [hq] at h
 | some f =>
  simp only [hq,Option.map_some,Option.some.injEq,Prod.mk.injEq] at h
  have:=hf i f hq
  rw [h.1,h.2,hc] at this
  exact this
theorem read_bool {e:TypeId} (he:P.underlying e=some .bool) (n:Nat) (cs:List Value) (y:DataW H×List MemPlace) (h:Tr enc P W n e cs=some y) : ∃ a:Bool,cs=[.bool a]/\1<=Rows.uptoBulk y.1:=by
 obtain ⟨b,rfl,rfl⟩:=DataW.trod_bool he h
 exact ⟨b,rfl,by simp [Rows.uptoBulk]⟩
theorem read_i64 {e:TypeId} (he:P.underlying e=some (.int .i64)) (n:Nat) (cs:List Value) (y:DataW H×List MemPlace) (h:Tr enc P W n e cs=some y) : ∃ a:Int,(cs=[.int .i64 a] /\ -9223372036854775808<=a/\a<=9223372036854775807)/\1<=Rows.uptoBulk y.1:=by
 obtain ⟨k,rfl,rfl,hw⟩:=DataW.trod_int he h
 exact ⟨k,⟨rfl,by simpa [Lit.wf,IntKind.min,IntKind.max,IntKind.signed,IntKind.bits] using hw⟩,by simp [Rows.uptoBulk]⟩
theorem SliceAt.reads {α:Type} {R:List Value->α->Prop} {v:Value} {l:List α} (f:α->Value) (hf : ∀ cs a,R cs a->cs=[f a]) (h:SliceAt W 1 R v l) : ∃ fp,Reads W v (l.map f) fp /\ ∀ x∈fp,x<W.heap.size:=by
  rcases h with ⟨rfl,rfl⟩ | ⟨a,cap,rfl,hl,hm,hi⟩
  . exact ⟨[],Reads.nil W,by simp⟩
  . by_cases h0:l=[]
    . subst h0;exact ⟨[],⟨_,cap,rfl,.inl rfl⟩,by simp⟩
    . have hp:0<l.length:=List.length_pos_iff.2 h0
      obtain ⟨cells,b,o,ha,hb,hlen,hr,hR⟩:=hi 0 hp
      subst ha
      refine ⟨[b],⟨_,cap,by simp,.inr ⟨b,o,rfl,λ j v hv=>?_,by simp⟩⟩,by simpa using hb⟩
      have hj:j<l.length:=by have:=(List.getElem?_eq_some_iff.1 hv).1;simpa using this
      obtain ⟨cells',b',o',ha',_,hlen',hr',hR'⟩:=hi j hj
      injection ha' with e1 e2
      subst e1;subst e2
      have hc:=hf _ _ hR'
      subst hc
      have:=hr' 0 (f l[j]) rfl
      simp only [Nat.mul_one,Nat.add_zero] at this
      rw [this]
      simp only [List.getElem?_map,List.getElem?_eq_getElem hj,Option.map_some] at hv
      exact hv
end
theorem Tryz.upto_bound {H:Type} {l:List (DataW H)} (hk:Rows.uptoSmall H l=true):Rows.uptoBulkAll l<=1048576:=of_decide_eq_true hk
open Go.RowKit
def baseOf (W:World):Wn:=⟨W.os,W.tape,W.output,World.piece W⟩
theorem own_base (W:World):Own (baseOf W) W []:=⟨rfl,rfl,rfl,Piece.le_refl _,λ _=>none,⟨λ _ => .inl rfl⟩,⟨λ _ _ e=>by cases e⟩,trivial⟩
theorem Own.keeps {W W':World} {l:List Wp} (h:Own (baseOf W) W' l):Kept [] W W':=by
  have hb : ∀ k o,W.heap[k]? = some o->W'.heap[k]? = some o:=λ k o e=>h.ro.p k o e
  refine ⟨h.os,h.tape,h.output,?_,λ k hk _=>?_⟩
  . rcases Nat.eq_zero_or_pos W.heap.size with h0 | h0
    . omega
    . have:=Zk (hb (W.heap.size-1) _ (Array.getElem?_eq_getElem (by omega)))
      omega
  . rw [hb k _ (Array.getElem?_eq_getElem hk),Array.getElem?_eq_getElem hk]
theorem Fn.law {P:Program} {W:World} {g:FuncId} {args:Array Value} (h:Fn P (baseOf W) g args [] (λ v l=>v = .bool true/\l=[])):Calls P g args W λ e W'=>e = .returned (.bool true)/\Kept [] W W':=by
 refine (h.run W [] (own_base W)).mono ?_
 rintro e w' ⟨v,l,rfl,⟨rfl,rfl⟩,ho⟩
 exact ⟨rfl,ho.keeps⟩
theorem range_cell {W:World} {b o j:Nat} {v:Value} (h:W.cell? ⟨b,o+j,none⟩=some v) : ∃ c t fr,W.heap[b]? = some (.cells c t fr)/\c[o+j]? = some v:=by
  unfold World.cell? at h
  split at h
  . rename_i c e fr hb
    exact ⟨c,e,fr,hb,by simpa using h⟩
  . cases h
theorem roc_of {W:World} {b:Nat} {c:Array Value} {t:TypeId} {fr:Nat×Nat} (h:W.heap[b]? = some (.cells c t fr)):ROc (baseOf W) b c.toList:=⟨[],t,fr,by simpa [baseOf,World.piece] using h⟩
theorem RoS.ofReads {W:World} {v:Value} {cs:List Value} {fp:List Nat} (h:Reads W v cs fp):RoS (baseOf W) v cs:=by
  obtain ⟨a,cap,rfl,h | ⟨b,o,rfl,hr,_⟩⟩:=h
  . exact ⟨a,cap,rfl,.inl h⟩
  . match cs,hr with
    | [],_=>exact ⟨_,cap,rfl,.inl rfl⟩
    | u::cs,hr =>
      obtain ⟨c,t,fr,hb,_⟩:=range_cell (hr 0 u rfl)
      refine ⟨_,cap,rfl,.inr ⟨b,o,c.toList,rfl,roc_of hb,λ j x hx=>?_⟩⟩
      obtain ⟨c',t',fr',hb',hc'⟩:=range_cell (hr j x hx)
      rw [hb] at hb'
      injection hb' with e1
      injection e1 with e1
      subst e1
      rw [Nat.mul_one]
      simpa using hc'
theorem SliceAt.ro {α:Type} {W:World} {sz:Nat} {R:List Value->α->Prop} {v:Value} {l:List α} (h:SliceAt W sz R v l) (hsz:0<sz) : ∃ a cap,v = .slice a l.length cap/\(l=[] \/ ∃ b o C,a=some ⟨b,o,none⟩/\ROc (baseOf W) b C /\ ∀ i (hi:i<l.length),∃ cells,rdl C (o+i*sz) cells/\R cells l[i]):=by
  rcases h with ⟨rfl,rfl⟩ | ⟨a,cap,rfl,hl,hm,hi⟩
  . exact ⟨none,0,rfl,.inl rfl⟩
  . refine ⟨some a,cap,rfl,?_⟩
    by_cases h0:l=[]
    . exact .inl h0
    . right
      have hp:0<l.length:=List.length_pos_iff.2 h0
      obtain ⟨cells,b,o,rfl,hb,hlen,hr,hR⟩:=hi 0 hp
      obtain ⟨c,t,fr,hbb,_⟩:=range_cell (hr 0 _ (List.getElem?_eq_getElem (by omega)))
      refine ⟨b,o,c.toList,rfl,roc_of hbb,λ i hil=>?_⟩
      obtain ⟨cells',b',o',e,_,hlen',hr',hR'⟩:=hi i hil
      injection e with e1 e2
      subst e1;subst e2
      refine ⟨cells',rdl_of λ j u hu=>?_,hR'⟩
      obtain ⟨c',t',fr',hb',hc'⟩:=range_cell (hr' j u hu)
      rw [hbb] at hb'
      injection hb' with e1
      injection e1 with e1
      subst e1
      simpa using hc'
end Go.Proofs.YtkfmfoecplbclaaGreatDoor
namespace Go.Proofs.YtkfmfoecplbclaaGreatDoor
open Go.ChangeShapes Go.WideShapes Go.ChangeAt Go.RowKit
section
variable {H : Type} {enc:TypeId×Value->H} {W:World}
end
noncomputable def laidWorld (os:Os):World :=
 let w0:=World.holding Tryz.prog os ⟨#[],#[],[]⟩
 let put (h:Array Obj) (g:Nat) (cs:Array Value):Array Obj:=h.modify g fun
  | .cells _ t frozen => .cells cs t frozen
  | o=>o
 let h1:=put w0.heap 1 (Lib.firstTab.map λ z=>Value.int .u8 z).toArray
 let h2:=put h1 2 ((List.range 16).flatMap λ i=>[Value.int .u8 (Lib.accLo i),Value.int .u8 (Lib.accHi i)]).toArray
 {w0 with heap:=h2}
theorem laid_met (os:Os) (args:Array Value):laidMet Tryz.prog [("unicode/utf8.acceptRanges",Rows.laid_unicode_utf8_acceptRanges),("unicode/utf8.first",Rows.laid_unicode_utf8_first)] ((laidWorld os).forCall (λ _ _=>0) ⟨#[],args,[]⟩).memory :=
 laidMet_of_run' 8 (by kernel_rfl) (by kernel_rfl)
end Go.Proofs.YtkfmfoecplbclaaGreatDoor
namespace Go.Proofs.YtkfmfoecplbclaaGreatDoor
open Go.ChangeShapes Go.WideShapes Go.ChangeAt Go.RowKit
section
variable {H : Type} {enc:TypeId×Value->H} {P:Program} {W:World}
theorem read_str {e:TypeId} (he:P.underlying e=some .string) (n:Nat) (cs:List Value) (y:DataW H×List MemPlace) (h:Tr enc P W n e cs=some y) : ∃ a:List UInt8,cs=[.string (Zq a)]/\a.length+1<=Rows.uptoBulk y.1:=by
 obtain ⟨s,h1,h2,_⟩:=DataW.trod_string he h
 refine ⟨s.data.toList,?_,?_⟩
 . rw [h1];rfl
 . rw [h2];simp [Rows.uptoBulk]
end
open Go.RowKit
structure Vx where
 k:Int
 n:Int
 s:List UInt8
 deriving DecidableEq
def Vx.Ok (v:Vx):Prop:=(v.k=1/\v.s=[] /\ -(2^63)<=v.n/\v.n<2^63)\/(v.k=2/\v.n=0/\v.s.length<=64)
def escB (s:List UInt8):List UInt8:=s.flatMap λ x=>if x=0 then [0,255] else [x]
def numX (n:Int):UInt64:=UInt64.ofNat (n+2^63).toNat
def encX (v:Vx):List UInt8:=if v.k=1 then 1::be (numX v.n) 8 else 2::(escB v.s++[0,0])
def encL (l:List Vx):List UInt8:=l.flatMap encX
def chk1 (v:Vx):Int:=if (v.k=1/\v.s=[])\/(v.k=2/\v.n=0/\v.s.length<=64) then 0 else if v.k=2/\v.n=0 then 2 else 21
def chkX : List Vx->Int
 | []=>0
 | v::l=>if chk1 v≠0 then chk1 v else chkX l
theorem encL_app (a b:List Vx):encL (a++b)=encL a++encL b:=by simp [encL]
theorem encL_cons (v:Vx) (l:List Vx):encL (v::l)=encX v++encL l:=by simp [encL]
theorem numX_nat {n:Int} (h1 : -(2^63)<=n) (h2:n<2^63):(numX n).toNat=(n+2^63).toNat:=by
 unfold numX
 rw [UInt64.toNat_ofNat']
 exact Nat.mod_eq_of_lt (by omega)
theorem numX_inj {a b:Int} (h1 : -(2^63)<=a) (h2:a<2^63) (h3 : -(2^63)<=b) (h4:b<2^63) (h:numX a=numX b):a=b:=by
 have:=congrArg UInt64.toNat h
 rw [numX_nat h1 h2,numX_nat h3 h4] at this
 omega
theorem escB_cons (x:UInt8) (s:List UInt8):escB (x::s)=(if x=0 then [0,255] else [x])++escB s:=by simp [escB]
theorem escB_app (a b:List UInt8):escB (a++b)=escB a++escB b:=by simp [escB]
theorem escB_le : ∀ s:List UInt8,s.length<=(escB s).length/\(escB s).length<=2*s.length
 | []=>by simp [escB]
 | x::s=>by
  have:=escB_le s
  rw [escB_cons,List.length_append,List.length_cons]
  split <;> simp <;> omega
theorem escB_inj : ∀ {s t r q:List UInt8},escB s++(0::0::r)=escB t++(0::0::q)->s=t/\r=q
  | [],[],r,q,h=>by simpa [escB] using h
  | [],y::t,r,q,h=>by
    rw [escB_cons] at h
    by_cases e:y=0
    . rw [if_pos e] at h;simp [escB] at h
    . rw [if_neg e] at h;simp [escB] at h;exact absurd h.1.symm e
  | x::s,[],r,q,h=>by
    rw [escB_cons] at h
    by_cases e:x=0
    . rw [if_pos e] at h;simp [escB] at h
    . rw [if_neg e] at h;simp [escB] at h;exact absurd h.1 e
  | x::s,y::t,r,q,h=>by
    rw [escB_cons,escB_cons] at h
    by_cases e:x=0 <;> by_cases e2:y=0
    . rw [if_pos e,if_pos e2] at h
      simp only [List.cons_append,List.nil_append,List.cons.injEq,true_and] at h
      obtain ⟨a,b⟩:=escB_inj h
      exact ⟨by rw [a,e,e2],b⟩
    . rw [if_pos e,if_neg e2] at h
      simp only [List.cons_append,List.nil_append,List.cons.injEq] at h
      exact absurd h.1.symm e2
    . rw [if_neg e,if_pos e2] at h
      simp only [List.cons_append,List.nil_append,List.cons.injEq] at h
      exact absurd h.1 e
    . rw [if_neg e,if_neg e2] at h
      simp only [List.cons_append,List.nil_append,List.cons.injEq] at h
      obtain ⟨a,b⟩:=escB_inj h.2
      exact ⟨by rw [a,h.1],b⟩
theorem be_inj8 {a b:UInt64} (h:be a 8=be b 8):a=b:=by
 have:=congrArg Wg h
 rwa [get64_be a (by have:=a.toNat_lt;omega),get64_be b (by have:=b.toNat_lt;omega)] at this
theorem encX_inj {v u:Vx} (hv:v.Ok) (hu:u.Ok) {r q:List UInt8} (h:encX v++r=encX u++q):v=u/\r=q:=by
  obtain ⟨k,n,s⟩:=v
  obtain ⟨k2,n2,s2⟩:=u
  unfold encX at h
  rcases hv with ⟨h1,h2,h3,h4⟩ | ⟨h1,h2,h3⟩ <;> rcases hu with ⟨g1,g2,g3,g4⟩ | ⟨g1,g2,g3⟩ <;> dsimp only at h1 h2 h3 g1 g2 g3 h
  . subst h1 h2 g1 g2
    rw [if_pos rfl,if_pos rfl] at h
    simp only [List.cons_append,List.cons.injEq,true_and] at h
    obtain ⟨a,b⟩:=List.append_inj h (by rw [Zd,Zd])
    exact ⟨by rw [numX_inj h3 h4 g3 g4 (be_inj8 a)],b⟩
  . subst h1 g1
    rw [if_pos rfl,if_neg (by decide)] at h
    simp at h
  . subst h1 g1
    rw [if_pos rfl,if_neg (by decide)] at h
    simp at h
  . subst h1 h2 g1 g2
    rw [if_neg (by decide),if_neg (by decide)] at h
    simp only [List.cons_append,List.cons.injEq,true_and,List.append_assoc,List.nil_append] at h
    obtain ⟨a,b⟩:=escB_inj h
    exact ⟨by rw [a],b⟩
theorem encX_ne (v:Vx) : ∃ x r,encX v=x::r:=by
 unfold encX
 split
 . exact ⟨_,_,rfl⟩
 . exact ⟨_,_,rfl⟩
theorem encL_inj : ∀ {a b:List Vx},(∀ v∈a,v.Ok)->(∀ v∈b,v.Ok)->encL a=encL b->a=b
 | [],[],_,_,_=>rfl
 | [],v::b,_,_,h=>by rw [encL_cons] at h;obtain ⟨x,r,e⟩:=encX_ne v;rw [e] at h;simp [encL] at h
 | v::a,[],_,_,h=>by rw [encL_cons] at h;obtain ⟨x,r,e⟩:=encX_ne v;rw [e] at h;simp [encL] at h
 | v::a,u::b,ha,hb,h=>by
  rw [encL_cons,encL_cons] at h
  obtain ⟨h1,h2⟩:=encX_inj (ha v (by simp)) (hb u (by simp)) h
  rw [h1,encL_inj (λ v hv=>ha v (by simp [hv])) (λ v hv=>hb v (by simp [hv])) h2]
open Classical in
noncomputable def decL (b:List UInt8):List Vx:=if h : ∃ l:List Vx,(∀ v∈l,v.Ok)/\encL l=b then Classical.choose h else []
theorem decL_enc {l:List Vx} (h : ∀ v∈l,v.Ok):decL (encL l)=l:=by
 have hex : ∃ l':List Vx,(∀ v∈l',v.Ok)/\encL l'=encL l:=⟨l,h,rfl⟩
 unfold decL
 rw [dif_pos hex]
 obtain ⟨h1,h2⟩:=Classical.choose_spec hex
 exact encL_inj h1 h h2
theorem chkX_zero : ∀ {l:List Vx},chkX l=0->(∀ v∈l,-(2^63)<=v.n/\v.n<2^63) -> ∀ v∈l,v.Ok
  | [],_,_,v,hv=>by cases hv
  | u::l,h,hr,v,hv=>by
    unfold chkX at h
    have h0:chk1 u=0:=by
      rcases Decidable.em (chk1 u=0) with e | e
      . exact e
      . rw [if_pos e] at h;exact absurd h e
    rw [if_neg (by simp [h0])] at h
    rcases List.mem_cons.1 hv with rfl | hv
    . unfold chk1 at h0
      split at h0
      . rename_i e
        rcases e with ⟨a,b⟩ | ⟨a,b,c⟩
        . exact .inl ⟨a,b,hr v (by simp)⟩
        . exact .inr ⟨a,b,c⟩
      . split at h0 <;> cases h0
    . exact chkX_zero h (λ w hw=>hr w (by simp [hw])) v hv
theorem chkX_ok : ∀ {l:List Vx},(∀ v∈l,v.Ok)->chkX l=0
 | [],_=>rfl
 | u::l,h=>by
  have h0:chk1 u=0:=by
   unfold chk1
   rw [if_pos]
   rcases h u (by simp) with ⟨a,b,_⟩ | ⟨a,b,c⟩
   . exact .inl ⟨a,b⟩
   . exact .inr ⟨a,b,c⟩
  unfold chkX
  rw [if_neg (by simp [h0])]
  exact chkX_ok (λ v hv=>h v (by simp [hv]))
theorem encX_len {v:Vx} (h:v.Ok):3<=(encX v).length/\(encX v).length<=131:=by
  unfold encX
  rcases h with ⟨a,_⟩ | ⟨a,b,c⟩
  . rw [if_pos a,List.length_cons,Zd];omega
  . rw [if_neg (by omega),List.length_cons,List.length_append]
    have:=escB_le v.s
    simp;omega
theorem encL_len : ∀ {l:List Vx},(∀ v∈l,v.Ok)->3*l.length<=(encL l).length/\(encL l).length<=131*l.length
 | [],_=>by simp [encL]
 | u::l,h=>by
  have h1:=encX_len (h u (by simp))
  have h2:=encL_len (l:=l) (λ v hv=>h v (by simp [hv]))
  rw [encL_cons,List.length_append,List.length_cons]
  omega
structure Fx1 where
 row:List Vx
 fr:Int
 to:Int
 deriving DecidableEq
def headX (t a b:Int):List Vx:=[⟨1,t,[]⟩,⟨1,a,[]⟩,⟨1,b,[]⟩]
def rightP (a b:Int):Prop:=0<=a/\a<b/\b<=1099511627776
instance (a b:Int):Decidable (rightP a b):=by unfold rightP;infer_instance
def valsF (t:Int) (f:Fx1):List Vx:=headX t f.fr f.to++f.row
def recE (t:Int) (f:Fx1):Int:=if t<0 then 1 else if ¬ rightP f.fr f.to then 40 else if chkX f.row≠0 then chkX f.row else if 184<(encL (valsF t f)).length then 2 else 0
def recD (t:Int) (f:Fx1):List UInt8:=if recE t f=0 then encL (valsF t f) else []
structure FxOk (t:Int) (f:Fx1):Prop where
 t0:0<=t
 t1:t<2^63
 p:rightP f.fr f.to
 row : ∀ v∈f.row,v.Ok
 len:(encL (valsF t f)).length<=184
theorem recE_ok {t:Int} {f:Fx1} (ht:t<2^63) (hr : ∀ v∈f.row,-(2^63)<=v.n/\v.n<2^63) (h:recE t f=0):FxOk t f:=by
  unfold recE at h
  split at h
  . cases h
  . split at h
    . cases h
    . split at h
      . rename_i e;exact absurd h e
      . split at h
        . cases h
        . rename_i a b c d
          exact ⟨by omega,ht,by simpa using b,chkX_zero (by simpa using c) hr,by omega⟩
theorem FxOk.vals {t:Int} {f:Fx1} (h:FxOk t f) : ∀ v∈valsF t f,v.Ok:=by
  obtain ⟨p1,p2,p3⟩:=h.p
  have:=h.t0;have:=h.t1
  intro v hv
  unfold valsF headX at hv
  rcases List.mem_append.1 hv with hv | hv
  . simp at hv
    rcases hv with rfl | rfl | rfl <;> exact .inl ⟨rfl,rfl,by dsimp only;omega,by dsimp only;omega⟩
  . exact h.row v hv
theorem FxOk.recE {t:Int} {f:Fx1} (h:FxOk t f):recE t f=0:=by
 unfold Go.Proofs.YtkfmfoecplbclaaGreatDoor.recE
 rw [if_neg (by have:=h.t0;omega),if_neg (by simpa using h.p),chkX_ok h.row,if_neg (by simp),if_neg (by have:=h.len;omega)]
open Go.RowKit
section
variable {P : Program} {B:Wn} {n:Nat} {S S' l:List Wp} {f:Fr}
variable {d : Option Tmp} {ty:TypeId} {pos:String} {af:Array Edge} {gd:Option (Nat×Bool)}
theorem Qt.loadAggW {t g o:Nat} {x:Operand} (vs:List Value) (hx:ev n f x=some (.pointer (some ⟨g,o,none⟩))) (hc : ∀ w,Own B w S->w.rangeAt g o vs) (h1:aggB P t vs.length=true:=by kernel_rfl):Qt P B n S ⟨d,.load t x,ty,pos,af,gd⟩ f (.agg vs.toArray):=⟨λ w ho=>by
  have hr:=hc w ho
  unfold aggB at h1
  split at h1
  . rename_i fs hu
    have:=run_loadAt_mid (P:=P) w g o t vs _ hr hu rfl (by simpa [szOf] using h1)
    simp [execOp,Zc hx,this]
  . rename_i a b hu
    have:=run_loadAt_mid (P:=P) w g o t vs _ hr hu rfl (by simpa [szOf] using h1)
    simp [execOp,Zc hx,this]
  . cases h1⟩
def FlV (B:Wn) (S:List Wp) {α:Type} (g:α->List Value) (v:Value) (l:List α):Prop := ∃ a c,v = .slice a l.length c/\(l=[] \/ ∃ b o,a=some ⟨b,o,none⟩ /\ ∀ w,Own B w S->w.rangeAt b o (l.flatMap g))
variable {α : Type} {g:α->List Value}
theorem FlV.mono {v:Value} {x:List α} (h:FlV B S g v x) (hs : ∀ w,Own B w S'->Own B w S):FlV B S' g v x:=by
 obtain ⟨a,cap,e,h⟩:=h
 refine ⟨a,cap,e,h.imp id ?_⟩
 rintro ⟨b,o,e1,h1⟩
 exact ⟨b,o,e1,λ w ho=>h1 w (hs w ho)⟩
theorem FlV.empty (a:Option Addr) (c:Nat):FlV B S g (.slice a 0 c) []:=⟨a,c,rfl,.inl rfl⟩
theorem FlV.form {v:Value} {x:List α} {m:Nat} (h:FlV B S g v x) (hm:x.length=m) : ∃ a cap,v = .slice a m cap:=by
 obtain ⟨a,cap,rfl,_⟩:=h
 exact ⟨a,cap,by rw [hm]⟩
theorem rangeAt_part {w:World} {b o:Nat} {cs ds:List Value} (k:Nat) (h:w.rangeAt b o cs) (hd : ∀ j v,ds[j]? = some v->cs[k+j]? = some v):w.rangeAt b (o+k) ds:=λ j v hv=>by
 rw [Nat.add_assoc];exact h (k+j) v (hd j v hv)
theorem flat_part {sz:Nat} (hg : ∀ x,(g x).length=sz) {T:List α} {i:Nat} {x:α} (h:T[i]? = some x) (j:Nat) (v:Value) (hv:(g x)[j]? = some v):(T.flatMap g)[i*sz+j]? = some v:=by
 have hj:j<sz:=by have:=(List.getElem?_eq_some_iff.1 hv).1;rwa [hg] at this
 induction T generalizing i with
 | nil=>simp at h
 | cons y R ih =>
  cases i with
  | zero =>
   simp at h;subst h
   rw [List.flatMap_cons,Nat.zero_mul,Nat.zero_add,List.getElem?_append_left (by rw [hg];exact hj)]
   exact hv
  | succ i =>
   have:=ih (i:=i) (by simpa using h)
   rw [List.flatMap_cons,List.getElem?_append_right (by rw [hg,Nat.add_mul];omega),<-this,hg]
   congr 1
   rw [Nat.add_mul];omega
theorem FlV.at {a:Option Addr} {m c sz:Nat} {x:List α} (h:FlV B S g (.slice a m c) x) (hg : ∀ y,(g y).length=sz) (hp:0<m) : ∃ b o,a=some ⟨b,o,none⟩ /\ ∀ i y,x[i]? = some y -> ∀ w,Own B w S->w.rangeAt b (o+i*sz) (g y):=by
  obtain ⟨a2,c2,e,h1 | ⟨b,o,e1,h1⟩⟩:=h
  . subst h1;injection e with _ e2 _;simp at e2;omega
  . injection e with e2 _ _
    exact ⟨b,o,e2.trans e1,λ i y hy w ho=>rangeAt_part _ (h1 w ho) (λ j v hv=>flat_part hg hy j v hv)⟩
theorem FlV.ofRow {p:Option Addr} {m c e sz:Nat} {x:List α} {l:List Wp} (hg : ∀ y,(g y).length=sz) (hz:0<sz) (hS : ∀ w,Own B w S->w.ownsRow 0 e sz (.slice p m c) m (x.flatMap g)) (hm:x.length=m) (hp:0<m -> ∃ g,p=some ⟨g,0,none⟩):FlV B S g (.slice p m c) x:=by
  refine ⟨p,c,by rw [hm],?_⟩
  rcases Nat.eq_zero_or_pos m with h0 | h0
  . exact .inl (List.eq_nil_of_length_eq_zero (by omega))
  . obtain ⟨g,rfl⟩:=hp h0
    refine .inr ⟨g,0,rfl,λ w ho j v hv=>?_⟩
    have:=(hS w ho).cells (g:=g) rfl j v hv
    rwa [Addr.add_mid] at this
theorem FlV.row {p:Option Addr} {m c e sz:Nat} {x:List α} {l:List Wp} (hg : ∀ y,(g y).length=sz) (hz:0<sz) (hm:x.length=m) (hp:0<m -> ∃ g,p=some ⟨g,0,none⟩):FlV B (row (.slice p m c) e sz m (x.flatMap g)::l) g (.slice p m c) x :=
 FlV.ofRow (l:=l) hg hz (λ _ ho=>ho.row_owns) hm hp
theorem FlV.blk {b m c:Nat} {t:TypeId} {x:List α} {l:List Wp} (hm:x.length=m):FlV B (blk b (x.flatMap g) t::l) g (.slice (some ⟨b,0,none⟩) m c) x :=
 ⟨_,c,by rw [hm],.inr ⟨b,0,rfl,λ w ho=>ho.range (g:=b) (o:=0) (C:=x.flatMap g) (λ j v hj=>by rw [Nat.zero_add];exact hj)⟩⟩
end
section
variable {P : Program} {B:Wn} {n:Nat} {S l r:List Wp} {f:Fr} {K:Value->List Wp->Prop} {Φ:Post}
variable {d : Option Tmp} {ty:TypeId} {pos:String} {af:Array Edge} {gd:Option (Nat×Bool)}
theorem Ef.lits {t e sz len:Nat} {parts:Array (Nat×Operand)} (vs C:List Value) (hp:parts.toList.map (λ p=>(p.1,ev n f p.2))=(vs.zipIdx 0).map λ x=>(x.2,some x.1)) (h1 : ∀ v∈vs,v.cells.size=sz) (hC:(vs.flatMap λ v=>v.cells.toList)=C) (hl:vs.length=len)
  (h : ∀ g,K (.slice (some ⟨g,0,none⟩) len len) (blk g C e::l)) (hk:sliceB P t e sz=true:=by kernel_rfl) (hz:((P.info? e).bind (·.zero)).isSome=true:=by kernel_rfl) (h0:0<len:=by omega) (hs0:0<sz:=by omega) (h24:len*sz<=16777216:=by omega):Ef P B n ⟨d,.buildSlice t len parts,ty,pos,af,gd⟩ f l K:=⟨λ w next Q ho hk'=>by
 subst hC
 obtain ⟨q1,q2⟩:=sliceB_spec hk
 obtain ⟨i,hi,his⟩:=info_of_size q2
 rw [hi] at hz
 obtain ⟨z,hzz⟩:=Option.isSome_iff_exists.1 hz
 have hpe:(parts.map λ p=>(p.1,evu n f p.2)).toList=(vs.zipIdx 0).map λ x=>(x.2,x.1):=by
  rw [Array.toList_map]
  have e:=congrArg (List.map (λ p:Nat×Option Value=>(p.1,p.2.getD undef))) hp
  simp only [List.map_map,Function.comp_def,Option.getD_some] at e
  exact e
 have hpos:0<len*sz:=Nat.mul_pos h0 hs0
 have hr:=run_buildSlice (P:=P) w t e len (parts.map λ p=>(p.1,evu n f p.2)) (vs.flatMap λ v=>v.cells.toList).toArray i z q1 hi (by simpa using hzz) (by rw [his];omega) (by rw [his];omega) (by rw [hpe,his];exact Great.fill_whole hs0 _ _ h1 (by simp [hl]))
 unfold Oper.wp execOp
 simp only [Wk,Sem.run_bind,hr,Sem.run_pure,Result.andThen_ok]
 exact hk' _ _ _ (h _) (ho.alloc _ e)⟩
end
theorem FlV.len {B:Wn} {S:List Wp} {α:Type} {g:α->List Value} {a:Option Addr} {m c:Nat} {x:List α} (h:FlV B S g (.slice a m c) x):x.length=m:=by
 obtain ⟨_,_,e,_⟩:=h
 injection e with _ e2 _
 exact e2.symm
def bvOp (op:BinOp) (a b:BitVec 64):BitVec 64:=match op with
 | .and=>a &&& b
 | .or=>a ||| b
 | .xor=>a ^^^ b
 | _=>a &&& ~~~b
def isBits (op:BinOp):Bool:=match op with
 | .and | .or | .xor | .andNot=>true
 | _=>false
section
variable {P : Program} {B:Wn} {n:Nat} {S l:List Wp} {f:Fr}
variable {d : Option Tmp} {ty:TypeId} {pos:String} {af:Array Edge} {gd:Option (Nat×Bool)}
theorem Qt.bits64 {op:BinOp} {t t2:TypeId} {x y:Operand} {k:IntKind} {a b:Int} (r:Nat) (hop:isBits op=true) (hk:k = .i64\/k = .u64) (hx:ev n f x=some (.int k a)) (hy:ev n f y=some (.int k b)) (h:(bvOp op (BitVec.ofInt 64 a) (BitVec.ofInt 64 b)).toNat=r) (hr:k.wrap r=r):Qt P B n S ⟨d,.binOp op t x y t2,ty,pos,af,gd⟩ f (.int k (r:Int)):=⟨λ w _=>by
  have h1:(Op.intBits op k a b).run P w = .ok (.int k (r:Int)) w:=by
    rcases hk with rfl | rfl
    . cases op <;> first | (simp [isBits] at hop;done) | skip
      . have h':(BitVec.ofInt 64 a &&& BitVec.ofInt 64 b).toNat=r:=h
        show Sem.run P (pure (Value.int .i64 (IntKind.i64.wrap (((BitVec.ofInt 64 a &&& BitVec.ofInt 64 b).toNat:Nat):Int)))) w=_
        rw [h',hr];rfl
      . have h':(BitVec.ofInt 64 a ||| BitVec.ofInt 64 b).toNat=r:=h
        show Sem.run P (pure (Value.int .i64 (IntKind.i64.wrap (((BitVec.ofInt 64 a ||| BitVec.ofInt 64 b).toNat:Nat):Int)))) w=_
        rw [h',hr];rfl
      . have h':(BitVec.ofInt 64 a ^^^ BitVec.ofInt 64 b).toNat=r:=h
        show Sem.run P (pure (Value.int .i64 (IntKind.i64.wrap (((BitVec.ofInt 64 a ^^^ BitVec.ofInt 64 b).toNat:Nat):Int)))) w=_
        rw [h',hr];rfl
      . have h':(BitVec.ofInt 64 a &&& ~~~(BitVec.ofInt 64 b)).toNat=r:=h
        show Sem.run P (pure (Value.int .i64 (IntKind.i64.wrap (((BitVec.ofInt 64 a &&& ~~~(BitVec.ofInt 64 b)).toNat:Nat):Int)))) w=_
        rw [h',hr];rfl
    . cases op <;> first | (simp [isBits] at hop;done) | skip
      . have h':(BitVec.ofInt 64 a &&& BitVec.ofInt 64 b).toNat=r:=h
        show Sem.run P (pure (Value.int .u64 (IntKind.u64.wrap (((BitVec.ofInt 64 a &&& BitVec.ofInt 64 b).toNat:Nat):Int)))) w=_
        rw [h',hr];rfl
      . have h':(BitVec.ofInt 64 a ||| BitVec.ofInt 64 b).toNat=r:=h
        show Sem.run P (pure (Value.int .u64 (IntKind.u64.wrap (((BitVec.ofInt 64 a ||| BitVec.ofInt 64 b).toNat:Nat):Int)))) w=_
        rw [h',hr];rfl
      . have h':(BitVec.ofInt 64 a ^^^ BitVec.ofInt 64 b).toNat=r:=h
        show Sem.run P (pure (Value.int .u64 (IntKind.u64.wrap (((BitVec.ofInt 64 a ^^^ BitVec.ofInt 64 b).toNat:Nat):Int)))) w=_
        rw [h',hr];rfl
      . have h':(BitVec.ofInt 64 a &&& ~~~(BitVec.ofInt 64 b)).toNat=r:=h
        show Sem.run P (pure (Value.int .u64 (IntKind.u64.wrap (((BitVec.ofInt 64 a &&& ~~~(BitVec.ofInt 64 b)).toNat:Nat):Int)))) w=_
        rw [h',hr];rfl
  cases op <;> first | (simp [isBits] at hop;done) | simp [execOp,Zc hx,Zc hy,eqGuard,Go.binOp,h1]⟩
end
open Go.RowKit
abbrev strW (d:List UInt8):Value := .string (Zq d)
abbrev sl (p:Option Addr) (n c:Nat):Value := .slice p n c
open Go.RowKit
open Go.RowKit
open Go.RowKit
open Go.RowKit
theorem RoS.form {B:Wn} {v:Value} {cs:List Value} {n:Nat} (h:RoS B v cs) (hn:cs.length=n) : ∃ a cap,v = .slice a n cap:=by
 obtain ⟨a,cap,rfl,_⟩:=h
 exact ⟨a,cap,by rw [hn]⟩
theorem RoS.str {B:Wn} {S:List Wp} {v:Value} {cs:List Value} (h:RoS B v cs) : ∀ w,Own B w S -> ∃ fp,Reads w v cs fp:=λ _ ho=>let ⟨fp,h1,_⟩:=h.reads ho;⟨fp,h1⟩
open Go.RowKit
abbrev vxC (v:Vx):List Value:=[.int .i64 v.k,.int .i64 v.n,strW v.s]
abbrev vxR (p:Option Addr) (n c:Nat) (l:List Vx):Wp:=row (.slice p n c) 125 3 n (l.flatMap vxC)
theorem one_vxC {l:List Vx} : ∀ v∈l.flatMap vxC,v.oneCell'=true:=by
 intro v hv
 obtain ⟨x,_,h⟩:=List.mem_flatMap.1 hv
 simp at h
 rcases h with rfl | rfl | rfl <;> rfl
theorem chkX_cons (v:Vx) (l:List Vx):chkX (v::l)=if chk1 v≠0 then chk1 v else chkX l:=rfl
theorem chk1_ok {v:Vx} (h:(v.k=1/\v.s=[])\/(v.k=2/\v.n=0/\v.s.length<=64)):chk1 v=0:=by unfold chk1;rw [if_pos h]
theorem chk1_long {v:Vx} (h:v.k=2) (h2:v.n=0) (h3 : ¬ v.s.length<=64):chk1 v=2:=by
 unfold chk1
 rw [if_neg (by rintro (⟨a,_⟩ | ⟨_,_,a⟩) <;> omega),if_pos ⟨h,h2⟩]
theorem chk1_kind {v:Vx} (h : ¬ (v.k=1/\v.s=[])) (h2 : ¬ (v.k=2/\v.n=0)):chk1 v=21:=by
 unfold chk1
 rw [if_neg (by rintro (a | ⟨a,b,_⟩);exact h a;exact h2 ⟨a,b⟩),if_neg h2]
theorem Cx.check (B:Wn) (S:List Wp) (l:List Vx) (pa:Option Addr) (m ca:Nat) (hl:l.length=m) (hm:m<2^40) (hv:FlV B S vxC (.slice pa m ca) l) (hs : ∀ v∈l,v.s.length<2^40):Fn Tryz.prog B 123 #[.slice pa m ca] S (λ u r=>u = .int .i64 (chkX l)/\r=S):=by
 refine Wq 44 Tryz.func123 rfl rfl (nB rfl) (λ F=>?_)
 refine TS (La rfl (Ld (Ts (TS ?_))))
 iterate 3 refine Lz ?_
 refine Ld (yH ?_)
 refine zG (λ mz fz lz => ∃ (f0:Fr) (k:Nat),(k<=m/\chkX (l.drop k)=chkX l)/\mz=m-k/\fz=(upd (upd (upd f0 5 (.slice pa m ca)) 6 (.int .i64 m)) 7 (.int .i64 k))/\lz=S++F) ?_ ?_
 . refine ⟨_,_,⟨_,0,⟨Nat.zero_le _,rfl⟩,rfl,U3,rfl⟩,Sa⟩
 rintro mz fz lz ⟨f0,k,⟨hk,hc⟩,hmz,rfl,rfl⟩
 subst mz
 refine TS (Lq (yM rfl rfl) (Ld (Ts ?_)))
 refine yN rfl (λ hlt=>?_) (λ hlt=>?_)
 .
  obtain ⟨b,o,rfl,hr⟩:=hv.at (sz:=3) (λ _=>rfl) (by omega)
  obtain ⟨v,hx⟩ : ∃ v,l[k]? = some v:=⟨_,List.getElem?_eq_getElem (by omega)⟩
  have hd:l.drop k=v::l.drop (k+1):=by rw [List.drop_eq_getElem_cons (by omega),(List.getElem?_eq_some_iff.1 hx).2]
  rw [hd,chkX_cons] at hc
  have hsl:=hs v (List.mem_of_getElem? hx)
  refine Tk (Ts (yH (TS ?_)))
  refine Lz ?_
  refine Lq (Qt.loadAggW [.int .i64 v.k,.int .i64 v.n,strW v.s] rfl (λ w ho=>hr k v hx w ho.drop)) ?_
  refine Le (El [.int .i64 0,.int .i64 0,.string .empty] (by unfold Zf;kernel_rfl) ?_)
  intro g4
  refine L0 (Es [_,_,_] rfl rfl rfl rfl (by simp) ?_)
  try simp only [splice,lC,lN,dS,cA,tS,tZ,dZ,nA,aN]
  refine Ld (yH (Ts (TS ?_)))
  iterate 4 refine Lz ?_
  refine zZ (t:=15) rfl (λ k1=>?_) (λ k1=>?_)
  .
   try replace k1:=of_decide_eq_true k1
   iterate 2 refine Lz ?_
   refine Lq (Z3 rfl rfl) (Lq (Qp rfl rfl) (La rfl (Ld ?_)))
   refine yN rfl (λ s1=>?_) (λ s1=>?_)
   .
    rw [chk1_ok (.inl ⟨k1,s1⟩),if_neg (by simp)] at hc
    refine Tk (zM rfl (Tk (TR ?_)))
    iterate 2 refine Lz ?_
    refine Ld ?_
    refine ⟨_,?_,_,⟨_,k+1,⟨by omega,hc⟩,rfl,U3,rfl⟩,Sa⟩
    omega
   rw [chk1_kind (v:=v) (λ q=>s1 q.2) (by omega),if_pos (by simp)] at hc
   refine TR ?_
   iterate 4 refine Lz ?_
   refine yT (t:=23) rfl (decide_eq_false (by omega)) ?_
   iterate 5 refine Lz ?_
   refine yT (t:=28) rfl rfl ?_
   iterate 6 refine Lz ?_
   refine Ld (yQ rfl (TS ?_))
   iterate 4 refine Lz ?_
   refine yT (t:=38) rfl (decide_eq_false (by omega)) ?_
   iterate 5 refine Lz ?_
   refine Ld (yQ rfl (TS (La rfl (Ld (T.ret ?_)))))
   exact ⟨.inl rfl,_,_,res [_] rfl ⟨rvT rfl,trivial⟩,⟨by rw [<-hc];rfl,rfl⟩,Sa⟩
  try replace k1:=of_decide_eq_false k1
  iterate 5 refine Lz ?_
  refine Ld (yQ rfl (TR ?_))
  iterate 4 refine Lz ?_
  refine zZ (t:=23) rfl (λ k2=>?_) (λ k2=>?_)
  .
   try replace k2:=of_decide_eq_true k2
   iterate 5 refine Lz ?_
   refine zZ (t:=28) rfl (λ n0=>?_) (λ n0=>?_)
   .
    try replace n0:=of_decide_eq_true n0
    iterate 6 refine Lz ?_
    refine Ld ?_
    refine yN rfl (λ s2=>?_) (λ s2=>?_)
    .
     rw [chk1_ok (.inr ⟨k2,n0,by omega⟩),if_neg (by simp)] at hc
     refine Tk (TR ?_)
     iterate 2 refine Lz ?_
     refine Ld ?_
     refine ⟨_,?_,_,⟨_,k+1,⟨by omega,hc⟩,rfl,U3,rfl⟩,Sa⟩
     omega
    rw [chk1_long k2 n0 (by omega),if_pos (by simp)] at hc
    refine TS ?_
    iterate 4 refine Lz ?_
    refine zQ (t:=38) rfl (decide_eq_true (by omega)) ?_
    iterate 5 refine Lz ?_
    refine Ld (zM rfl (TS (La rfl (Ld (T.ret ?_)))))
    exact ⟨.inl rfl,_,_,res [_] rfl ⟨rvT rfl,trivial⟩,⟨by rw [<-hc];rfl,rfl⟩,Sa⟩
   try replace n0:=of_decide_eq_false n0
   rw [chk1_kind (v:=v) (λ q=>k1 q.1) (λ q=>n0 q.2),if_pos (by simp)] at hc
   iterate 6 refine Lz ?_
   refine Ld (yQ rfl (TS ?_))
   iterate 4 refine Lz ?_
   refine zQ (t:=38) rfl (decide_eq_true (by omega)) ?_
   iterate 5 refine Lz ?_
   refine Ld (yL rfl (TS (La rfl (Ld (T.ret ?_)))))
   exact ⟨.inl rfl,_,_,res [_] rfl ⟨rvT rfl,trivial⟩,⟨by rw [<-hc];rfl,rfl⟩,Sa⟩
  try replace k2:=of_decide_eq_false k2
  rw [chk1_kind (v:=v) (λ q=>k1 q.1) (λ q=>k2 q.1),if_pos (by simp)] at hc
  iterate 5 refine Lz ?_
  refine yT (t:=28) rfl rfl ?_
  iterate 6 refine Lz ?_
  refine Ld (yQ rfl (TS ?_))
  iterate 4 refine Lz ?_
  refine yT (t:=38) rfl (decide_eq_false (by omega)) ?_
  iterate 5 refine Lz ?_
  refine Ld (yQ rfl (TS (La rfl (Ld (T.ret ?_)))))
  exact ⟨.inl rfl,_,_,res [_] rfl ⟨rvT rfl,trivial⟩,⟨by rw [<-hc];rfl,rfl⟩,Sa⟩
 obtain rfl:k=m:=by omega
 rw [List.drop_of_length_le (by omega)] at hc
 refine zB (TS (La rfl (Ld (T.ret ?_))))
 exact ⟨.inl rfl,_,_,res [_] rfl ⟨rvT rfl,trivial⟩,⟨by rw [<-hc];rfl,rfl⟩,Sa⟩
theorem xor_top {a:Nat} (h:a<2^63):a ^^^ 2^63=a+2^63:=by
  apply Nat.eq_of_testBit_eq
  intro i
  rw [Nat.testBit_xor,Nat.add_comm a]
  rcases Nat.lt_trichotomy i 63 with q | q | q
  . rw [Nat.testBit_two_pow_add_gt q,Nat.testBit_two_pow_of_ne (by omega),Bool.xor_false]
  . subst q
    rw [Nat.testBit_two_pow_add_eq,Nat.testBit_two_pow_self,Bool.xor_true]
  . have e:2^64<=2^i:=Nat.pow_le_pow_right (by omega) (by omega)
    rw [Nat.testBit_two_pow_of_ne (by omega),Bool.xor_false,Nat.testBit_lt_two_pow (by omega),Nat.testBit_lt_two_pow (by omega)]
theorem num_bits {n:Int} (h1 : -(2^63)<=n) (h2:n<2^63):(BitVec.ofInt 64 n).toNat ^^^ 2^63=(numX n).toNat:=by
  rw [numX_nat h1 h2,BitVec.toNat_ofInt]
  by_cases h0:0<=n
  . have e:(n%((2^64:Nat):Int)).toNat=n.toNat:=by omega
    rw [e,xor_top (by omega)]
    omega
  . have e:(n%((2^64:Nat):Int)).toNat=(n+2^63).toNat+2^63:=by omega
    rw [e,<-xor_top (by omega),Nat.xor_assoc,Nat.xor_self,Nat.xor_zero]
theorem num_back {n:Int} (h1 : -(2^63)<=n) (h2:n<2^63):(numX n).toNat ^^^ 2^63=(BitVec.ofInt 64 n).toNat:=by
 rw [<-num_bits h1 h2,Nat.xor_assoc,Nat.xor_self,Nat.xor_zero]
theorem wrU_bits (n:Int):IntKind.u64.wrap n=((BitVec.ofInt 64 n).toNat:Int):=by
 rw [BitVec.toNat_ofInt]
 simp [IntKind.wrap,IntKind.bits,IntKind.signed]
 omega
theorem wrI_bits {n:Int} (h1 : -(2^63)<=n) (h2:n<2^63):IntKind.i64.wrap ((BitVec.ofInt 64 n).toNat:Int)=n:=by
 rw [BitVec.toNat_ofInt]
 simp [IntKind.wrap,IntKind.bits,IntKind.signed]
 omega
theorem ofInt_bits (n:Int):BitVec.ofInt 64 ((BitVec.ofInt 64 n).toNat:Int)=BitVec.ofInt 64 n:=by
 apply BitVec.eq_of_toNat_eq
 rw [BitVec.toNat_ofInt,BitVec.toNat_ofInt]
 omega
theorem bytes_app (a b:List UInt8):Zb a++Zb b=Zb (a++b):=by simp [Zb]
theorem encL_next {l:List Vx} {k:Nat} {v:Vx} (h:l[k]? = some v):encL (l.take (k+1))=encL (l.take k)++encX v:=by
 obtain ⟨hk,hv⟩:=List.getElem?_eq_some_iff.1 h
 rw [List.take_succ_eq_append_getElem hk,hv,encL_app]
 simp [encL]
theorem esc_next {s:List UInt8} {j:Nat} (h:j<s.length):escB (s.take (j+1))=escB (s.take j)++(if s[j]=0 then [0,255] else [s[j]]):=by
 rw [List.take_succ_eq_append_getElem h,escB_app]
 congr 1
 rw [escB_cons];simp [escB]
theorem Cx.encode (B:Wn) (S:List Wp) (l:List Vx) (pa:Option Addr) (m ca:Nat) (hl:l.length=m) (hm:m<2^30) (hv:FlV B S vxC (.slice pa m ca) l) (hs : ∀ v∈l,v.s.length<2^40) (hrg : ∀ v∈l,-(2^63)<=v.n/\v.n<2^63) (hc:chkX l=0) :
  Fn Tryz.prog B 75 #[.slice pa m ca] S (λ u r => ∃ p c,(0<(encL l).length -> ∃ g,p=some ⟨g,0,none⟩)/\u = .tuple #[.slice p (encL l).length c,.int .i64 0]/\r=rB (.slice p (encL l).length c) (encL l).length (encL l)::S):=by
 have hok:=chkX_zero hc hrg
 refine Wq 62 Tryz.func75 rfl rfl (nB rfl) (λ F=>?_)
 refine TS (La rfl (La rfl (Ld (Ts (TS (Lm rfl ?_))))))
 refine Le (Ec (Cx.check B S l pa m ca hl (by omega) hv hs) Tryz.func123 rfl rfl rfl ?_)
 rintro _ l2 ⟨rfl,hl2⟩
 rw [hl2,hc]
 clear hl2
 refine La rfl (Ld (TS (Lm rfl (Lq (yW rfl rfl) (Ld (yQ rfl (T.conv (l':=rB (.slice none 0 0) 0 []::_) (λ w ho=>ho.row_nil _ _) (Tk (TS (La rfl (Ld (Ts (Ts ?_)))))))))))))
 refine TR ?_
 iterate 3 refine Lz ?_
 refine Ld (yH ?_)
 refine zG (λ mz fz lz => ∃ (f0:Fr) (k n:Nat) (p:Option Addr) (c:Nat) (bs:List UInt8),(k<=m/\bs=encL (l.take k)/\bs.length=n/\n<=131*k/\(0<n -> ∃ g,p=some ⟨g,0,none⟩))/\mz=m-k/\fz=(upd (upd (upd (upd f0 5 (.slice p n c)) 14 (.slice pa m ca)) 15 (.int .i64 m)) 16 (.int .i64 k))/\lz=rB (.slice p n c) n bs::S++F) ?_ ?_
 . refine ⟨_,_,⟨_,0,0,none,0,[],⟨Nat.zero_le _,rfl,rfl,Nat.le_refl _,λ h=>by omega⟩,rfl,U4,rfl⟩,Sa⟩
 rintro mz fz lz ⟨f0,k,n,p,c,bs,⟨hk,hbs,hbl,hnb,hp⟩,hmz,rfl,rfl⟩
 subst mz
 try simp only [cA,nA]
 refine TS (Lq (yM rfl rfl) (Ld (Ts ?_)))
 refine yN rfl (λ hlt=>?_) (λ hlt=>?_)
 .
  obtain ⟨b,o,rfl,hr⟩:=hv.at (sz:=3) (λ _=>rfl) (by omega)
  obtain ⟨v,hx⟩ : ∃ v,l[k]? = some v:=⟨_,List.getElem?_eq_getElem (by omega)⟩
  have hvo:=hok v (List.mem_of_getElem? hx)
  have hvr:=hrg v (List.mem_of_getElem? hx)
  have hnx:=encL_next hx
  rw [<-hbs] at hnx
  by_cases k1:v.k=1
  .
   have hes:encX v=1::be (numX v.n) 8:=by unfold encX;rw [if_pos k1]
   refine Tk (Ts (yH (TS ?_)))
   refine Lz ?_
   refine Lq (Qt.loadAggW [.int .i64 v.k,.int .i64 v.n,strW v.s] rfl (λ w ho=>hr k v hx w (ho.map Sa))) ?_
   refine Le (El [.int .i64 0,.int .i64 0,.string .empty] (by unfold Zf;kernel_rfl) ?_)
   intro g7
   refine L0 (Es [_,_,_] rfl rfl rfl rfl (by simp) ?_)
   try simp only [splice,lC,lN,dS,cA,tS,tZ,dZ,nA,aN]
   refine Ld (TS ?_)
   iterate 3 refine Lz ?_
   refine Lq (yX (k' := .u8) (r:=1) rfl (by rw [k1];rfl)) ?_
   refine Le (zK [_] (e:=5) (sz:=1) ⟨.int .u8 0,by kernel_rfl,rfl⟩ rfl rfl rfl ?_)
   intro g24
   refine Le (Ea Cd.elemB rfl rfl (SrcOf.blk (by kernel_rfl) rfl (by simp [Value.oneCell'])) (by unfold maxLen;omega) ?_)
   rintro p1 c1 hp1
   rw [show Zb bs++[Value.int .u8 1]=Zb (bs++[1]) from bytes_app bs [1]]
   refine La rfl (Ld (Ts (TS ?_)))
   iterate 3 refine Lz ?_
   refine Ld (zM rfl (TS ?_))
   iterate 3 refine Lz ?_
   refine Lq (yX (k' := .u64) (r:=((BitVec.ofInt 64 v.n).toNat:Int)) rfl (wrU_bits v.n)) (Lq (Qt.bits64 (numX v.n).toNat rfl (.inr rfl) rfl rfl (by show (BitVec.ofInt 64 _ ^^^ BitVec.ofInt 64 _).toNat=_;rw [ofInt_bits,BitVec.toNat_xor,<-num_bits hvr.1 hvr.2];rfl) (by have:=(numX v.n).toNat_lt;rw [wrU_bits,BitVec.toNat_ofInt];omega)) ?_)
   refine Le (Ec (Cd.putP B [rB (.slice p1 (n+1) c1) (n+1) (bs++[1])] (.slice p1 (n+1) c1) (bs++[1]) (n+1) (by simp [hbl]) (numX v.n) 8 8 rfl (RdV.rB (by simp [hbl]) hp1)) Tryz.func95 rfl rfl rfl ?_)
   rintro _ _ ⟨p2,c2,rfl,hp2,rfl⟩
   try simp only [cA,nA]
   refine La rfl (Ld (zB (TR ?_)))
   iterate 2 refine Lz ?_
   refine Ld ?_
   refine ⟨_,?_,_,⟨_,k+1,n+1+8,p2,c2,bs++[1]++be (numX v.n) 8,⟨by omega,by rw [hnx,hes,List.append_assoc];rfl,by simp [hbl,Zd],by omega,hp2⟩,rfl,U4,rfl⟩,Sa⟩
   omega
  have hk2:v.k=2/\v.s.length<=64:=by rcases hvo with ⟨q,_⟩ | ⟨q,_,q2⟩;exact absurd q k1;exact ⟨q,q2⟩
  have hes:encX v=2::(escB v.s++[0,0]):=by unfold encX;rw [if_neg k1]
  refine Tk (Ts (yH (TS ?_)))
  refine Lz ?_
  refine Lq (Qt.loadAggW [.int .i64 v.k,.int .i64 v.n,strW v.s] rfl (λ w ho=>hr k v hx w (ho.map Sa))) ?_
  refine Le (El [.int .i64 0,.int .i64 0,.string .empty] (by unfold Zf;kernel_rfl) ?_)
  intro g7
  refine L0 (Es [_,_,_] rfl rfl rfl rfl (by simp) ?_)
  try simp only [splice,lC,lN,dS,cA,tS,tZ,dZ,nA,aN]
  refine Ld (TS ?_)
  iterate 3 refine Lz ?_
  refine Lq (yX (k' := .u8) (r:=2) rfl (by rw [hk2.1];rfl)) ?_
  refine Le (zK [_] (e:=5) (sz:=1) ⟨.int .u8 0,by kernel_rfl,rfl⟩ rfl rfl rfl ?_)
  intro g24
  refine Le (Ea Cd.elemB rfl rfl (SrcOf.blk (by kernel_rfl) rfl (by simp [Value.oneCell'])) (by unfold maxLen;omega) ?_)
  rintro p1 c1 hp1
  rw [show Zb bs++[Value.int .u8 2]=Zb (bs++[2]) from bytes_app bs [2]]
  refine La rfl (Ld (Ts (TS ?_)))
  iterate 3 refine Lz ?_
  refine Ld (yL rfl (Tk (Ts (TS ?_))))
  iterate 4 refine Lz ?_
  refine Ld (yH ?_)
  refine zG (λ mz fz lz => ∃ (f0:Fr) (j n2:Nat) (p2:Option Addr) (c2:Nat) (bs2:List UInt8),(j<=v.s.length/\bs2=bs++[2]++escB (v.s.take j)/\bs2.length=n2/\n2<=n+1+2*j/\(0<n2 -> ∃ g,p2=some ⟨g,0,none⟩))/\mz=v.s.length-j/\fz=(upd (upd (upd (upd (upd (upd (upd f0 5 (.slice p2 n2 c2)) 7 (.pointer (some ⟨g7,0,none⟩))) 14 (.slice (some ⟨b,o,none⟩) m ca)) 15 (.int .i64 m)) 16 (.int .i64 k)) 37 (.int .i64 v.s.length)) 38 (.int .i64 j))/\lz=rB (.slice p2 n2 c2) n2 bs2::blk g7 [.int .i64 v.k,.int .i64 v.n,strW v.s] 125::S++F) ?_ ?_
  . refine ⟨_,_,⟨_,0,n+1,p1,c1,bs++[2],⟨Nat.zero_le _,by simp [escB],by simp [hbl],Nat.le_refl _,hp1⟩,rfl,U7,rfl⟩,Sa⟩
  rintro mz fz lz ⟨f0,j,n2,p2,c2,bs2,⟨hj,hb2,hb2l,hn2,hp2⟩,hmz,rfl,rfl⟩
  subst mz
  try simp only [cA,nA]
  refine TS (Lq (yM rfl rfl) (Ld (Ts ?_)))
  refine yN rfl (λ hlt2=>?_) (λ hlt2=>?_)
  .
   have hjs:j<v.s.length:=by omega
   have hen:=esc_next (s:=v.s) (j:=j) hjs
   refine Tk (Ts (yH (TS (Lm rfl (La rfl (Ld (TS ?_)))))))
   iterate 4 refine Lz ?_
   refine Lq (YR (a:=v.s) j rfl rfl rfl (by omega)) ?_
   refine Le (zK [_] (e:=5) (sz:=1) ⟨.int .u8 0,by kernel_rfl,rfl⟩ rfl rfl rfl ?_)
   intro g46
   refine Le (Ea Cd.elemB rfl rfl (SrcOf.blk (by kernel_rfl) rfl (by simp [Value.oneCell'])) (by unfold maxLen;omega) ?_)
   rintro p3 c3 hp3
   rw [show Zb bs2++[Value.int .u8 (v.s[j]'hjs).toNat]=Zb (bs2++[v.s[j]'hjs]) from bytes_app bs2 [v.s[j]'hjs]]
   refine La rfl (Ld (TS ?_))
   iterate 3 refine Lz ?_
   refine Lq (YR (a:=v.s) j rfl rfl rfl (by omega)) (Lq (yU rfl rfl) (Ld ?_))
   refine yN rfl (λ h0=>?_) (λ h0=>?_)
   .
    have hx0:v.s[j]'hjs=0:=by apply UInt8.toNat_inj.1;show (v.s[j]'hjs).toNat=0;omega
    rw [if_pos hx0] at hen
    refine TR (Lm rfl ?_)
    refine Le (zK [_] (e:=5) (sz:=1) ⟨.int .u8 0,by kernel_rfl,rfl⟩ rfl rfl rfl ?_)
    intro g54
    refine Le (Ea Cd.elemB rfl rfl (SrcOf.blk (by kernel_rfl) rfl (by simp [Value.oneCell'])) (by unfold maxLen;omega) ?_)
    rintro p4 c4 hp4
    rw [show Zb (bs2++[v.s[j]'hjs])++[Value.int .u8 255]=Zb (bs2++[v.s[j]'hjs]++[255]) from bytes_app (bs2++[v.s[j]'hjs]) [255]]
    refine La rfl (Ld (TR ?_))
    iterate 2 refine Lz ?_
    refine Ld ?_
    refine ⟨_,?_,_,⟨_,j+1,n2+1+1,p4,c4,bs2++[v.s[j]'hjs]++[255],⟨by omega,by rw [hen,hb2,hx0];simp,by simp [hb2l],by omega,hp4⟩,rfl,U7,rfl⟩,Sa⟩
    omega
   have hx0:v.s[j]'hjs≠0:=λ e=>h0 (by rw [e];rfl)
   rw [if_neg hx0] at hen
   refine Tk (TR ?_)
   iterate 2 refine Lz ?_
   refine Ld ?_
   refine ⟨_,?_,_,⟨_,j+1,n2+1,p3,c3,bs2++[v.s[j]'hjs],⟨by omega,by rw [hen,hb2];simp,by simp [hb2l],by omega,hp3⟩,rfl,U7,rfl⟩,Sa⟩
   omega
  obtain rfl:j=v.s.length:=by omega
  rw [List.take_length] at hb2
  refine zB (TR (Lm rfl ?_))
  refine Le (ZC [_,_] (e:=5) (by kernel_rfl) (by kernel_rfl) rfl (by simp [Value.cells]) rfl (by omega) (by omega) ?_)
  intro g58
  refine Le (Ea Cd.elemB rfl rfl (SrcOf.blk (by kernel_rfl) rfl (by simp [Value.oneCell'])) (by unfold maxLen;omega) ?_)
  rintro p3 c3 hp3
  rw [show Zb bs2++[Value.int .u8 0,Value.int .u8 0]=Zb (bs2++[0,0]) from bytes_app bs2 [0,0]]
  refine La rfl (Ld (TR ?_))
  iterate 2 refine Lz ?_
  refine Ld ?_
  refine ⟨_,?_,_,⟨_,k+1,n2+2,p3,c3,bs2++[0,0],⟨by omega,by rw [hnx,hes,hb2];simp,by simp [hb2l],by omega,hp3⟩,rfl,U4,rfl⟩,Sa⟩
  omega
 obtain rfl:k=m:=by omega
 rw [List.take_of_length_le (by omega)] at hbs
 subst hbs
 subst hbl
 refine zB (TS ?_)
 iterate 3 refine Lz ?_
 refine Ld (T.ret ?_)
 exact ⟨.inl rfl,_,_,res [_,_] rfl ⟨rvT rfl,rvT rfl,trivial⟩,⟨p,c,hp,rfl,rfl⟩,Sa⟩
theorem Cx.encodeNo (B:Wn) (S:List Wp) (l:List Vx) (pa:Option Addr) (m ca:Nat) (hl:l.length=m) (hm:m<2^30) (hv:FlV B S vxC (.slice pa m ca) l) (hs : ∀ v∈l,v.s.length<2^40) (hc:chkX l≠0) :
  Fn Tryz.prog B 75 #[.slice pa m ca] S (λ u r=>u = .tuple #[.slice none 0 0,.int .i64 (chkX l)]/\r=S):=by
 refine Wq 62 Tryz.func75 rfl rfl (nB rfl) (λ F=>?_)
 refine TS (La rfl (La rfl (Ld (Ts (TS (Lm rfl ?_))))))
 refine Le (Ec (Cx.check B S l pa m ca hl (by omega) hv hs) Tryz.func123 rfl rfl rfl ?_)
 rintro _ l2 ⟨rfl,hl2⟩
 rw [hl2]
 clear hl2
 refine La rfl (Ld (TS (Lm rfl (Lq (yW rfl rfl) (Ld (zM rfl (TS ?_)))))))
 iterate 3 refine Lz ?_
 refine Ld (T.ret ?_)
 exact ⟨.inl rfl,_,_,res [_,_] rfl ⟨rvT rfl,rvT rfl,trivial⟩,⟨rfl,rfl⟩,Sa⟩
open Go.RowKit
structure En where
 kind:Int
 txn:Int
 page:Int
 slot:Int
 stamp:Int
 data:List UInt8
abbrev enPlace (e:En):Prop:=0<=e.page/\e.page<=65535/\0<=e.slot/\e.slot<=255
def enCode (e:En):Int :=
 if e.kind<1\/3<e.kind then 21
 else if e.txn<1 \/ ¬ enPlace e\/e.stamp<0\/1099511627776<e.stamp then 1
 else if (e.kind=3/\(e.page≠0\/e.slot≠0))\/(e.kind≠3/\e.stamp≠0)\/(e.kind≠1/\0<e.data.length) then 1
 else if 200<e.data.length then 2 else 0
structure EnOk (e:En):Prop where
 kind:1<=e.kind/\e.kind<=3
 txn:1<=e.txn/\e.txn<9223372036854775808
 place:enPlace e
 stamp:0<=e.stamp/\e.stamp<=1099511627776
 three:e.kind=3->e.page=0/\e.slot=0
 other:e.kind≠3->e.stamp=0
 none:e.kind≠1->e.data=[]
 long:e.data.length<=200
theorem EnOk.code {e:En} (h:EnOk e):enCode e=0:=by
 have h1:=h.kind;have h2:=h.txn;have h3:=h.place;have h4:=h.stamp;have h5:=h.long
 unfold enCode
 rw [if_neg (by omega),if_neg (by omega)]
 rw [if_neg,if_neg (by omega)]
 rintro (⟨k,hp⟩ | ⟨k,hp⟩ | ⟨k,hp⟩)
 . have:=h.three k;omega
 . exact hp (h.other k)
 . rw [h.none k] at hp;simp at hp
def Zj (e:En):List UInt8:=UInt8.ofInt e.kind::(be (UInt64.ofInt e.txn) 8++(if e.kind=3 then be (UInt64.ofInt e.stamp) 8 else be (UInt64.ofInt e.page) 2++(UInt8.ofInt e.slot::e.data)))
theorem encE_len {e:En}:(Zj e).length=if e.kind=3 then 17 else 12+e.data.length:=by
 unfold Zj
 split <;> simp [Zd] <;> omega
theorem u64_int {n:Int} (h0:0<=n) (h1:n<18446744073709551616):((UInt64.ofInt n).toNat:Int)=n:=by
 simp [UInt64.ofInt];omega
theorem u8_int {n:Int} (h0:0<=n:=by omega) (h1:n<256:=by omega):((UInt8.ofInt n).toNat:Int)=n:=by
 simp [UInt8.ofInt];omega
theorem get_be {n:Int} {k:Nat} (h0:0<=n) (h1:n<9223372036854775808) (hk:k<=8) (h2:n<((256^k:Nat):Int)):((Wg (be (UInt64.ofInt n) k)).toNat:Int)=n:=by
 rw [get64_be _ (h:=hk) (by have:=u64_int h0 (by omega);omega),u64_int h0 (by omega)]
open Go.RowKit
theorem snocI {α:Type} {motive:List α->Prop} (nil:motive []) (snoc : ∀ (l:List α) (a:α),motive l->motive (l++[a])) (l:List α):motive l:=by
 have key : ∀ (n:Nat) (l:List α),l.length=n->motive l:=by
  intro n
  induction n with
  | zero=>intro l hl;rw [List.eq_nil_of_length_eq_zero hl];exact nil
  | succ n ih =>
   intro l hl
   have hne:l≠[]:=λ e=>by rw [e] at hl;simp at hl
   rw [<-List.dropLast_concat_getLast hne]
   exact snoc _ _ (ih _ (by simp [hl]))
 exact key _ l rfl
theorem mem_of_filt {α:Type} {p:α->Bool} {l:List α} {a:α} (h:a∈l.filter p):a∈l:=(List.mem_filter.1 h).1
structure Ver where
 page:Nat
 slot:Nat
 beg:Int
 fin:Int
 data:List UInt8
 deriving DecidableEq
structure HR where
 pages:Nat
 room:Nat
 used:Int
 vs:List Ver
 act:List Int
 cm:List (Int×Int)
 last:Int
 es:List En
def enSz (e:En):Nat:=8+(Zj e).length
theorem enSz_eq (e:En):enSz e=if e.kind=3 then 25 else 20+e.data.length:=by
 unfold enSz;rw [encE_len];split <;> omega
abbrev atP (page slot:Int) (v:Ver):Bool:=decide ((v.page:Int)=page) && decide ((v.slot:Int)=slot)
def We (vs:List Ver) (page slot:Int):Option Nat:=vs.findIdx? (atP page slot)
def finV (t:Int) (v:Ver):Ver:={v with fin:=t}
def Zg (h:HR) (e:En):HR :=
 {h with
  es:=h.es++[e]
  used:=h.used+enSz e
  vs:=if e.kind=1 then h.vs++[⟨e.page.toNat,e.slot.toNat,e.txn,0,e.data⟩] else if e.kind=2 then (match We h.vs e.page e.slot with | some i=>h.vs.modify i (finV e.txn) | none=>h.vs) else h.vs
  cm:=if e.kind=3 then h.cm++[(e.txn,e.stamp)] else h.cm}
def Zp (h:HR) (t:Int):Bool:=h.act.contains t
def Wa (h:HR) (t:Int):Bool:=(h.cm.map (·.1)).contains t
def Zh (vs:List Ver) (q:Nat):List Ver:=vs.filter λ v=>decide (v.page=q)
def usedV (l:List Ver):Nat:=(l.map λ v=>17+v.data.length).sum
def Wi (vs:List Ver) (q:Nat):Nat:=13+usedV (Zh vs q)
def newR (pages room:Nat):HR:=⟨pages,room,0,[],[],[],0,[]⟩
def beginR (h:HR):HR:={h with last:=h.last+1,act:=h.act++[h.last+1]}
def Zo (h:HR) (t:Int):HR:={h with act:=h.act.filter λ x=>decide (x≠t)}
def abortR (h:HR) (t:Int):HR×Int:=if Zp h t=true then (Zo h t,0) else (h,70)
def roomyP (h:HR) (n:Nat):Option Nat:=(List.range h.pages).find? λ q=>decide (Wi h.vs q+17+n<=256)
abbrev addE (h:HR) (t:Int) (d:List UInt8) (q:Nat):En:=⟨1,t,q,(Zh h.vs q).length,0,d⟩
def Wm (h:HR) (t:Int) (d:List UInt8):HR×Int×Int×Int :=
 if Zp h t=true then
  if 184<d.length then (h,0,0,2) else
   match roomyP h d.length with
   | none=>(h,0,0,3)
   | some q=>if (h.room:Int)<h.used+20+d.length then (h,0,0,3) else (Zg h (addE h t d q),q,(Zh h.vs q).length,0)
 else (h,0,0,70)
abbrev endE (t page slot:Int):En:=⟨2,t,page,slot,0,[]⟩
def endR (h:HR) (t page slot:Int):HR×Int :=
 if Zp h t=true then
  match (We h.vs page slot).bind (h.vs[·]?) with
  | none=>(h,4)
  | some v =>
   if (v.beg≠t/\Wa h v.beg=false)\/v.fin=t\/Wa h v.fin=true then (h,4)
   else if Zp h v.fin=true then (h,71)
   else if (h.room:Int)<h.used+20 then (h,3)
   else (Zg h (endE t page slot),0)
 else (h,70)
abbrev cmE (t stamp:Int):En:=⟨3,t,0,0,stamp,[]⟩
def badStamp (h:HR) (stamp:Int):Bool:=decide (stamp<0) || decide (1099511627776<stamp) || (match h.cm.getLast? with | none=>false | some c=>decide (stamp<=c.2))
def Zl (h:HR) (t stamp:Int):HR×Int :=
 if Zp h t=true then
  if badStamp h stamp=true then (h,1)
  else if (h.room:Int)<h.used+25 then (h,3)
  else (Zg (Zo h t) (cmE t stamp),0)
 else (h,70)
def visV (h:HR) (v:Ver):Option Ver :=
 if Zp h v.beg=false/\Wa h v.beg=false then none
 else some (if Zp h v.fin=false/\Wa h v.fin=false then {v with fin:=0} else v)
def allR (h:HR):List Ver:=(List.range h.pages).flatMap λ q=>(Zh h.vs q).filterMap (visV h)
def sureR (h:HR):List Ver:=allR {h with act:=[]}
def lastE (es:List En):Int:=es.foldl (λ m e=>max m e.txn) 0
def replay (pages room:Nat) (es:List En):HR:=es.foldl Zg (newR pages room)
def Zs (h:HR) (n:Nat):HR:={replay h.pages h.room (h.es.take n) with last:=lastE (h.es.take n)}
def fitsA (h:HR) (t:Int):List Int->HR×Bool
 | []=>(h,true)
 | s::l=>if s<0\/184<s then (h,false) else
   let r:=Wm h t (List.replicate s.toNat 0)
   if r.2.2.2≠0 then (r.1,false) else fitsA r.1 t l
def fitsR (h:HR) (ends:Int) (sizes:List Int):Bool :=
 if ends<0\/(h.room:Int)<ends then false else
  let r:=fitsA {beginR h with used:=h.used+(20*ends+25)} (h.last+1) sizes
  r.2 && decide (r.1.used<=(r.1.room:Int))
def verB (v:Ver):List UInt8:=be (UInt64.ofInt v.beg) 8++be (UInt64.ofInt v.fin) 8++v.data
theorem length_verB (v:Ver):(verB v).length=16+v.data.length:=by simp [verB,Zd];omega
def Zi (vs:List Ver) (q:Nat):List (List UInt8):=(Zh vs q).map verB
theorem used_recs (vs:List Ver) (q:Nat):ZO (Zi vs q)=usedV (Zh vs q):=by
 unfold Zi ZO usedV
 rw [List.map_map]
 congr 1
 apply List.map_congr_left
 intro v _
 simp [length_verB];omega
def Slots (vs:List Ver):Prop := ∀ (i:Nat) (v:Ver),vs[i]? = some v->v.slot=(Zh (vs.take i) v.page).length
theorem Wc (a b:List Ver) (q:Nat):Zh (a++b) q=Zh a q++Zh b q:=by simp [Zh]
theorem Slots.snoc {vs:List Ver} (h:Slots vs) {v:Ver} (hv:v.slot=(Zh vs v.page).length):Slots (vs++[v]):=by
  intro i u hu
  rw [List.getElem?_append] at hu
  split at hu
  . rename_i hi
    rw [h i u hu,List.take_append_of_le_length (by omega)]
  . rename_i hi
    have hi2:i-vs.length=0:=by
      rcases Nat.eq_zero_or_pos (i-vs.length) with e | e
      . exact e
      . rw [List.getElem?_eq_none (by simp;omega)] at hu;cases hu
    rw [hi2] at hu
    simp at hu;subst hu
    have:i=vs.length:=by omega
    subst this
    rw [hv,List.take_left']
    rfl
theorem pageV_modify (t:Int) (q:Nat) : ∀ (vs:List Ver) (i:Nat),(Zh (vs.modify i (finV t)) q).length=(Zh vs q).length
 | [],i=>by simp [Zh]
 | v::vs,0=>by simp [Zh,finV,List.filter_cons];split <;> rfl
 | v::vs,i+1=>by
  have:=pageV_modify t q vs i
  simp only [Zh,List.modify_succ_cons,List.filter_cons] at this ⊢
  split <;> simp [this]
theorem take_modify {t:Int} : ∀ (vs:List Ver) (i j:Nat),(vs.modify i (finV t)).take j=(vs.take j).modify i (finV t)
 | [],i,j=>by simp
 | v::vs,i,0=>by simp
 | v::vs,0,j+1=>by simp
 | v::vs,i+1,j+1=>by simp [take_modify vs i j]
theorem Slots.modify {vs:List Ver} (h:Slots vs) (i:Nat) (t:Int):Slots (vs.modify i (finV t)):=by
 intro j u hu
 rw [List.getElem?_modify] at hu
 cases hv:vs[j]? with
 | none=>rw [hv] at hu;split at hu <;> cases hu
 | some v =>
  have h1:=h j v hv
  rw [take_modify,pageV_modify]
  rw [hv] at hu
  split at hu
  . simp at hu;subst hu;exact h1
  . simp at hu;subst hu;exact h1
theorem slots_page {vs:List Ver} (h:Slots vs) (q:Nat) : ∀ (s:Nat) (v:Ver),(Zh vs q)[s]? = some v->v.page=q/\v.slot=s:=by
  have key : ∀ (pre post:List Ver),pre++post=vs -> ∀ (s:Nat) (v:Ver),(Zh post q)[s]? = some v->v.page=q/\v.slot=(Zh pre q).length+s:=by
    intro pre post
    induction post generalizing pre with
    | nil=>intro _ s v hv;simp [Zh] at hv
    | cons u post ih =>
      intro he s v hv
      have hu:vs[pre.length]? = some u:=by rw [<-he];simp
      have hs:=h pre.length u hu
      have htk:vs.take pre.length=pre:=by rw [<-he];simp
      rw [htk] at hs
      have ih':=ih (pre++[u]) (by rw [<-he];simp)
      by_cases e:u.page=q
      . have:Zh (u::post) q=u::Zh post q:=by simp [Zh,e]
        rw [this] at hv
        have hp1:Zh (pre++[u]) q=Zh pre q++[u]:=by simp [Zh,e]
        cases s with
        | zero=>simp at hv;subst hv;exact ⟨e,by rw [hs,e];rfl⟩
        | succ s =>
          simp at hv
          obtain ⟨a,b⟩:=ih' s v hv
          rw [hp1] at b
          exact ⟨a,by rw [b];simp;omega⟩
      . have:Zh (u::post) q=Zh post q:=by simp [Zh,e]
        rw [this] at hv
        have hp1:Zh (pre++[u]) q=Zh pre q:=by simp [Zh,e]
        obtain ⟨a,b⟩:=ih' s v hv
        rw [hp1] at b
        exact ⟨a,b⟩
  intro s v hv
  have:=key [] vs rfl s v hv
  simpa [Zh] using this
theorem slots_inj {vs:List Ver} (h:Slots vs) {i j:Nat} {u v:Ver} (hu:vs[i]? = some u) (hv:vs[j]? = some v) (hp:u.page=v.page:=by omega) (hs:u.slot=v.slot:=by omega):i=j:=by
 have key : ∀ {i j:Nat} {u v:Ver},vs[i]? = some u->vs[j]? = some v->u.page=v.page->u.slot=v.slot -> ¬ i<j:=by
  intro i j u v hu hv hp hs hlt
  have h1:=h i u hu
  have h2:=h j v hv
  have hsplit:vs.take j=vs.take i++u::(vs.take j).drop (i+1):=by
   have hi:(vs.take j)[i]? = some u:=by rw [List.getElem?_take,if_pos hlt];exact hu
   have hil:=(List.getElem?_eq_some_iff.1 hi).1
   have e1:(vs.take j).take i=vs.take i:=by rw [List.take_take];congr 1;omega
   have e2:=List.take_append_drop i (vs.take j)
   rw [e1] at e2
   rw [List.drop_eq_getElem_cons hil] at e2
   have e3:(vs.take j)[i]=u:=by rw [List.getElem?_eq_getElem hil] at hi;exact Option.some.inj hi
   rw [e3] at e2
   exact e2.symm
  rw [hsplit,Wc] at h2
  have:Zh (u::(vs.take j).drop (i+1)) v.page=u::Zh ((vs.take j).drop (i+1)) v.page:=by simp [Zh,hp]
  rw [this] at h2
  rw [hp] at h1
  simp at h2
  omega
 rcases Nat.lt_trichotomy i j with h1 | h1 | h1
 . exact absurd h1 (key hu hv hp hs)
 . exact h1
 . exact absurd h1 (key hv hu hp.symm hs.symm)
theorem findV_some {vs:List Ver} {page slot:Int} {i:Nat} (h:We vs page slot=some i) : ∃ v,vs[i]? = some v/\(v.page:Int)=page/\(v.slot:Int)=slot:=by
 obtain ⟨hi,h1,_⟩:=List.findIdx?_eq_some_iff_getElem.1 h
 simp only [atP,Bool.and_eq_true,decide_eq_true_eq] at h1
 exact ⟨_,List.getElem?_eq_getElem hi,h1⟩
theorem findV_none {vs:List Ver} {page slot:Int} (h:We vs page slot=none) : ∀ v∈vs,¬ ((v.page:Int)=page/\(v.slot:Int)=slot):=by
 intro v hv
 have:=List.findIdx?_eq_none_iff.1 h v hv
 simpa [atP] using this
theorem findV_of {vs:List Ver} (h:Slots vs) {i:Nat} {v:Ver} (hv:vs[i]? = some v):We vs v.page v.slot=some i:=by
 cases hf:We vs v.page v.slot with
 | none=>exact absurd ⟨rfl,rfl⟩ (findV_none hf v (List.mem_of_getElem? hv))
 | some j =>
  obtain ⟨u,hu,h1,h2⟩:=findV_some hf
  rw [slots_inj h hu hv]
theorem page_at {vs:List Ver} (h:Slots vs) {i:Nat} {v:Ver} (hv:vs[i]? = some v):(Zh vs v.page)[v.slot]? = some v:=by
 have hi:=(List.getElem?_eq_some_iff.1 hv).1
 have h1:=h i v hv
 have e2:=List.take_append_drop i vs
 rw [List.drop_eq_getElem_cons hi] at e2
 have e3:vs[i]=v:=by rw [List.getElem?_eq_getElem hi] at hv;exact Option.some.inj hv
 rw [e3] at e2
 rw [<-e2,Wc,List.getElem?_append_right (by rw [e2] at *;omega)]
 have:Zh (v::vs.drop (i+1)) v.page=v::Zh (vs.drop (i+1)) v.page:=by simp [Zh]
 rw [this]
 have e4:v.slot-(Zh (vs.take i) v.page).length=0:=by omega
 rw [e4];rfl
theorem findV_page {vs:List Ver} (h:Slots vs) (page slot:Int):(We vs page slot).bind (vs[·]?)=if 0<=page/\0<=slot then (Zh vs page.toNat)[slot.toNat]? else none:=by
  cases hf:We vs page slot with
  | some i =>
    obtain ⟨v,hv,h1,h2⟩:=findV_some hf
    have:=page_at h hv
    rw [if_pos (by omega)]
    have e1:page.toNat=v.page:=by omega
    have e2:slot.toNat=v.slot:=by omega
    rw [e1,e2,this]
    exact hv
  | none =>
    have hn:=findV_none hf
    split
    . rename_i h0
      cases hp:(Zh vs page.toNat)[slot.toNat]? with
      | none=>rfl
      | some v =>
        obtain ⟨a,b⟩:=slots_page h _ _ _ hp
        have hm:v∈vs:=mem_of_filt (List.mem_of_getElem? hp)
        exact absurd ⟨by omega,by omega⟩ (hn v hm)
    . rfl
open Go.RowKit
structure OkStep (h:HR) (e:En):Prop where
 ok:EnOk e
 cm:Wa h e.txn=false
 one:e.kind=1->e.page<h.pages/\e.slot=(Zh h.vs e.page.toNat).length/\e.data.length<=184/\Wi h.vs e.page.toNat+17+e.data.length<=256
 two:e.kind=2 -> ∃ (i:Nat) (v:Ver),We h.vs e.page e.slot=some i/\h.vs[i]? = some v/\Wa h v.fin=false
 fit:h.used+enSz e<=h.room
def HistOk (pages room:Nat) (es:List En):Prop := ∀ (k:Nat) (e:En),es[k]? = some e->OkStep (replay pages room (es.take k)) e
theorem HistOk.take {pages room:Nat} {es:List En} (h:HistOk pages room es) (n:Nat):HistOk pages room (es.take n):=by
  intro k e he
  rw [List.getElem?_take] at he
  split at he
  . rename_i hk
    have:=h k e he
    rw [List.take_take]
    rwa [Nat.min_eq_left (by omega)]
  . cases he
theorem replay_snoc (pages room:Nat) (es:List En) (e:En):replay pages room (es++[e])=Zg (replay pages room es) e:=by simp [replay,List.foldl_append]
theorem HistOk.snoc {pages room:Nat} {es:List En} {e:En} (h:HistOk pages room es) (he:OkStep (replay pages room es) e):HistOk pages room (es++[e]):=by
  intro k x hx
  rw [List.getElem?_append] at hx
  split at hx
  . rename_i hk
    rw [List.take_append_of_le_length (by omega)]
    exact h k x hx
  . rename_i hk
    have hi2:k-es.length=0:=by
      rcases Nat.eq_zero_or_pos (k-es.length) with q | q
      . exact q
      . rw [List.getElem?_eq_none (by simp;omega)] at hx;cases hx
    rw [hi2] at hx
    simp at hx;subst hx
    have:k=es.length:=by omega
    subst this
    rw [List.take_left']
    . exact he
    . rfl
theorem HistOk.last {pages room:Nat} {es:List En} {e:En} (h:HistOk pages room (es++[e])):HistOk pages room es/\OkStep (replay pages room es) e:=by
  constructor
  . have:=h.take es.length
    rwa [List.take_left' rfl] at this
  . have:=h es.length e (by simp)
    rwa [List.take_left' rfl] at this
abbrev cmOf (e:En):Option (Int×Int):=if e.kind=3 then some (e.txn,e.stamp) else none
structure RepOk (h:HR):Prop where
 slots:Slots h.vs
 vok : ∀ v∈h.vs,v.page<h.pages/\v.data.length<=184/\(∃ e∈h.es,e.kind=1/\e.txn=v.beg)/\(v.fin=0 \/ ∃ e∈h.es,e.kind=2/\e.txn=v.fin)
 room : ∀ q,Wi h.vs q<=256
 cm:h.cm=h.es.filterMap cmOf
 nd:(h.cm.map (·.1)).Nodup
 used:h.used=((h.es.map enSz).sum:Nat)
 le:h.used<=h.room
 eok : ∀ e∈h.es,EnOk e
theorem isCm_iff {h:HR} {t:Int}:Wa h t=true ↔ ∃ s,(t,s)∈h.cm:=by
 unfold Wa
 rw [List.contains_iff_mem]
 simp
theorem isCm_no {h:HR} {t:Int}:Wa h t=false ↔ ∀ s,(t,s)∉h.cm:=by
 rw [<-Bool.not_eq_true,isCm_iff]
 simp
theorem mem_modify {t:Int} : ∀ {vs:List Ver} {i:Nat} {u:Ver},u∈vs.modify i (finV t)->u∈vs \/ ∃ v∈vs,u=finV t v
  | [],i,u,h=>by simp at h
  | v::vs,0,u,h=>by
    simp at h
    rcases h with rfl | h
    . exact .inr ⟨v,by simp,rfl⟩
    . exact .inl (by simp [h])
  | v::vs,i+1,u,h=>by
    simp at h
    rcases h with rfl | h
    . exact .inl (by simp)
    . rcases mem_modify h with h | ⟨v',h,e⟩
      . exact .inl (by simp [h])
      . exact .inr ⟨v',by simp [h],e⟩
theorem usedV_append (a b:List Ver):usedV (a++b)=usedV a+usedV b:=by simp [usedV]
theorem usedV_modify (t:Int) (q:Nat) : ∀ (vs:List Ver) (i:Nat),usedV (Zh (vs.modify i (finV t)) q)=usedV (Zh vs q)
 | [],i=>by simp [Zh]
 | v::vs,0=>by simp [Zh,finV,List.filter_cons];split <;> simp [usedV]
 | v::vs,i+1=>by
  have:=usedV_modify t q vs i
  simp only [Zh,List.modify_succ_cons,List.filter_cons] at this ⊢
  split
  . simp only [usedV,List.map_cons,List.sum_cons] at this ⊢;rw [this]
  . exact this
theorem pages_len {h:HR} (r:RepOk h) (q:Nat):17*(Zh h.vs q).length<=243:=by
 have h1:=r.room q
 unfold Wi at h1
 have key : ∀ l:List Ver,17*l.length<=usedV l:=λ l=>by
  induction l with
  | nil=>simp [usedV]
  | cons a l ih=>simp [usedV] at ih ⊢;omega
 have:=key (Zh h.vs q)
 omega
theorem RepOk.new (pages room:Nat):RepOk (newR pages room):=⟨λ i v h=>by simp [newR] at h,by simp [newR],λ q=>by simp [newR,Wi,Zh,usedV],rfl,by simp [newR],by simp [newR],by simp [newR],by simp [newR]⟩
theorem kinds {e:En} (h:EnOk e):e.kind=1\/e.kind=2\/e.kind=3:=by have:=h.kind;omega
theorem OkStep.congr {h g:HR} {e:En} (s:OkStep h e) (h1:g.pages=h.pages) (h2:g.room=h.room) (h3:g.used=h.used) (h4:g.vs=h.vs) (h5:g.cm=h.cm):OkStep g e:=by
 obtain ⟨a,b,c,d,f⟩:=s
 have e1 : ∀ t,Wa g t=Wa h t:=λ t=>by unfold Wa;rw [h5]
 exact ⟨a,by rw [e1];exact b,by rw [h1,h4];exact c,by rw [h4];simp only [e1];exact d,by rw [h2,h3];exact f⟩
theorem RepOk.write {h:HR} {e:En} (r:RepOk h) (s:OkStep h e):RepOk (Zg h e):=by
  have hk:=kinds s.ok
  refine ⟨?_,?_,?_,?_,?_,?_,?_,?_⟩
  . unfold Zg
    rcases hk with k | k | k <;> simp only [k,if_true,reduceIte,show ¬ (2:Int)=1 by omega,show ¬ (3:Int)=1 by omega,show ¬ (3:Int)=2 by omega]
    . exact r.slots.snoc (by have:=(s.one k).2.1;dsimp only;omega)
    . obtain ⟨i,v,h1,h2,_⟩:=s.two k
      rw [h1];exact r.slots.modify i _
    . exact r.slots
  . unfold Zg
    intro v hv
    rcases hk with k | k | k <;> simp only [k,if_true,reduceIte,show ¬ (2:Int)=1 by omega,show ¬ (3:Int)=1 by omega,show ¬ (3:Int)=2 by omega] at hv ⊢
    . rcases List.mem_append.1 hv with hv | hv
      . obtain ⟨a,b,⟨x,hx,c⟩,d⟩:=r.vok v hv
        exact ⟨a,b,⟨x,by simp [hx],c⟩,d.imp id λ ⟨y,hy,q⟩=>⟨y,by simp [hy],q⟩⟩
      . simp at hv;subst hv
        obtain ⟨a,b,c,d⟩:=s.one k
        have:=s.ok.place
        exact ⟨by dsimp only;omega,c,⟨e,by simp,k,rfl⟩,.inl rfl⟩
    . obtain ⟨i,u,h1,h2,_⟩:=s.two k
      rw [h1] at hv
      rcases mem_modify hv with hv | ⟨u,hu,rfl⟩
      . obtain ⟨a,b,⟨x,hx,c⟩,d⟩:=r.vok v hv
        exact ⟨a,b,⟨x,by simp [hx],c⟩,d.imp id λ ⟨y,hy,q⟩=>⟨y,by simp [hy],q⟩⟩
      . obtain ⟨a,b,⟨x,hx,c⟩,d⟩:=r.vok u hu
        exact ⟨a,b,⟨x,by simp [hx],c⟩,.inr ⟨e,by simp,k,rfl⟩⟩
    . obtain ⟨a,b,⟨x,hx,c⟩,d⟩:=r.vok v hv
      exact ⟨a,b,⟨x,by simp [hx],c⟩,d.imp id λ ⟨y,hy,q⟩=>⟨y,by simp [hy],q⟩⟩
  . unfold Zg
    intro q
    rcases hk with k | k | k <;> simp only [k,if_true,reduceIte,show ¬ (2:Int)=1 by omega,show ¬ (3:Int)=1 by omega,show ¬ (3:Int)=2 by omega]
    . obtain ⟨a,b,c,d⟩:=s.one k
      have hq:=r.room q
      unfold Wi at hq d ⊢
      rw [Wc,usedV_append]
      by_cases e1:e.page.toNat=q
      . subst e1
        simp [Zh,usedV] at d ⊢;omega
      . simp [Zh,usedV,e1] at hq ⊢;omega
    . obtain ⟨i,v,h1,h2,_⟩:=s.two k
      rw [h1];unfold Wi;rw [usedV_modify];exact r.room q
    . exact r.room q
  . unfold Zg
    dsimp only
    rw [List.filterMap_append,r.cm]
    by_cases k:e.kind=3 <;> simp [k,cmOf]
  . unfold Zg
    dsimp only
    have hn:=isCm_no.1 s.cm
    split
    . rw [List.map_append,List.nodup_append]
      refine ⟨r.nd,by simp,λ a ha b hb e1=>?_⟩
      simp at hb;subst hb;subst e1
      obtain ⟨p,hp,q⟩:=List.mem_map.1 ha
      exact hn p.2 (by rw [<-q];exact hp)
    . exact r.nd
  . unfold Zg
    dsimp only
    rw [r.used];simp
  . unfold Zg
    exact s.fit
  . unfold Zg
    intro x hx
    rcases List.mem_append.1 hx with hx | hx
    . exact r.eok x hx
    . simp at hx;subst hx;exact s.ok
theorem replay_es (pages room:Nat) (es:List En):(replay pages room es).es=es/\(replay pages room es).pages=pages/\(replay pages room es).room=room/\(replay pages room es).act=[]/\(replay pages room es).last=0:=by
 induction es using snocI with
 | nil=>simp [replay,newR]
 | snoc es e ih=>rw [replay_snoc];simp [Zg,ih]
theorem RepOk.replay {pages room:Nat} {es:List En} (h:HistOk pages room es):RepOk (replay pages room es):=by
 induction es using snocI with
 | nil=>exact RepOk.new pages room
 | snoc es e ih =>
  rw [replay_snoc]
  exact (ih h.last.1).write h.last.2
structure RInv (h:HR):Prop where
 hist:HistOk h.pages h.room h.es
 rvs:(replay h.pages h.room h.es).vs=h.vs
 rcm:(replay h.pages h.room h.es).cm=h.cm
 rus:(replay h.pages h.room h.es).used=h.used
 actcm : ∀ t∈h.act,Wa h t=false
 lst : ∀ e∈h.es,e.txn<=h.last
 act1 : ∀ t∈h.act,1<=t/\t<=h.last
 last0:0<=h.last
theorem RepOk.congr {h g:HR} (r:RepOk h) (h1:h.pages=g.pages) (h2:h.room=g.room) (h3:h.vs=g.vs) (h4:h.cm=g.cm) (h5:h.used=g.used) (h6:h.es=g.es):RepOk g:=⟨by rw [<-h3];exact r.slots,by rw [<-h1,<-h3,<-h6];exact r.vok,by rw [<-h3];exact r.room,by rw [<-h4,<-h6];exact r.cm,by rw [<-h4];exact r.nd,by rw [<-h5,<-h6];exact r.used,by rw [<-h5,<-h2];exact r.le,by rw [<-h6];exact r.eok⟩
theorem RInv.ok {h:HR} (r:RInv h):RepOk h:=by
 obtain ⟨a,b,c,d,e⟩:=replay_es h.pages h.room h.es
 exact (RepOk.replay r.hist).congr b c r.rvs r.rcm r.rus a
theorem RInv.cms {h:HR} (r:RInv h) {t:Int} (ht:Wa h t=true):1<=t/\t<=h.last:=by
 obtain ⟨s,hs⟩:=isCm_iff.1 ht
 rw [r.ok.cm] at hs
 obtain ⟨e,he,h2⟩:=List.mem_filterMap.1 hs
 have:=r.lst e he
 have:=(r.ok.eok e he).txn
 unfold cmOf at h2
 split at h2
 . simp at h2;omega
 . cases h2
theorem RInv.cm0 {h:HR} (r:RInv h) {t:Int} (ht:t<=0):Wa h t=false/\Zp h t=false:=by
  constructor
  . cases hc:Wa h t with
    | false=>rfl
    | true=>have:=r.cms hc;omega
  . cases hc:Zp h t with
    | false=>rfl
    | true=>have:=r.act1 t (by simpa [Zp] using hc);omega
theorem RInv.write {h:HR} {e:En} (r:RInv h) (s:OkStep h e) (h1:e.txn<=h.last) (h3:e.kind=3->e.txn∉h.act):RInv (Zg h e):=by
  obtain ⟨q1,q2,q3,q4,q5⟩:=replay_es h.pages h.room h.es
  have s':OkStep (replay h.pages h.room h.es) e:=s.congr q2 q3 r.rus r.rvs r.rcm
  refine ⟨r.hist.snoc s',?_,?_,?_,λ t ht=>?_,λ x hx=>?_,r.act1,r.last0⟩
  . show (replay h.pages h.room (h.es++[e])).vs=_
    rw [replay_snoc];unfold Zg;dsimp only;rw [r.rvs]
  . show (replay h.pages h.room (h.es++[e])).cm=_
    rw [replay_snoc];unfold Zg;dsimp only;rw [r.rcm]
  . show (replay h.pages h.room (h.es++[e])).used=_
    rw [replay_snoc];unfold Zg;dsimp only;rw [r.rus]
  . have h4:=r.actcm t ht
    rw [isCm_no] at h4 ⊢
    intro q hq
    unfold Zg at hq
    dsimp only at hq
    split at hq
    . rename_i k
      rcases List.mem_append.1 hq with hq | hq
      . exact h4 q hq
      . simp at hq
        exact h3 k (by rw [<-hq.1];exact ht)
    . exact h4 q hq
  . unfold Zg at hx
    rcases List.mem_append.1 hx with hx | hx
    . exact r.lst x hx
    . simp at hx;subst hx;exact h1
theorem RInv.newR (pages room:Nat):RInv (newR pages room):=⟨λ k e he=>by simp [Go.Proofs.YtkfmfoecplbclaaGreatDoor.newR] at he,rfl,rfl,rfl,by simp [Go.Proofs.YtkfmfoecplbclaaGreatDoor.newR],by simp [Go.Proofs.YtkfmfoecplbclaaGreatDoor.newR],by simp [Go.Proofs.YtkfmfoecplbclaaGreatDoor.newR],by simp [Go.Proofs.YtkfmfoecplbclaaGreatDoor.newR]⟩
theorem RInv.begin {h:HR} (r:RInv h):RInv (beginR h):=by
  refine ⟨r.hist,r.rvs,r.rcm,r.rus,λ t ht=>?_,λ e he=>?_,λ t ht=>?_,?_⟩
  . rcases List.mem_append.1 ht with ht | ht
    . exact r.actcm t ht
    . simp at ht;subst ht
      show Wa h (h.last+1)=false
      cases hc:Wa h (h.last+1) with
      | false=>rfl
      | true=>have:=r.cms hc;omega
  . have:=r.lst e he;show e.txn<=h.last+1;omega
  . have:=r.last0
    show 1<=t/\t<=h.last+1
    rcases List.mem_append.1 ht with ht | ht
    . have:=r.act1 t ht;omega
    . simp at ht;omega
  . have:=r.last0;show 0<=h.last+1;omega
theorem RInv.without {h:HR} (r:RInv h) (t:Int):RInv (Zo h t):=by
 refine ⟨r.hist,r.rvs,r.rcm,r.rus,λ u hu=>?_,r.lst,λ u hu=>?_,r.last0⟩
 . exact r.actcm u (mem_of_filt hu)
 . exact r.act1 u (mem_of_filt hu)
theorem isAct_iff {h:HR} {t:Int}:Zp h t=true↔t∈h.act:=by unfold Zp;rw [List.contains_iff_mem]
theorem RInv.abort {h:HR} (r:RInv h) (t:Int):RInv (abortR h t).1:=by
 unfold abortR
 split
 . exact r.without t
 . exact r
theorem roomy_some {h:HR} {n q:Nat} (hq:roomyP h n=some q):q<h.pages/\Wi h.vs q+17+n<=256 /\ ∀ j,j<q -> ¬ Wi h.vs j+17+n<=256:=by
 unfold roomyP at hq
 obtain ⟨h1,i,hi,h2,h3⟩:=List.find?_eq_some_iff_getElem.1 hq
 simp at hi h2
 subst h2
 refine ⟨hi,by simpa using h1,λ j hj=>?_⟩
 have:=h3 j hj
 simpa using this
theorem roomy_none {h:HR} {n:Nat} (hq:roomyP h n=none) : ∀ j,j<h.pages -> ¬ Wi h.vs j+17+n<=256:=by
 intro j hj
 unfold roomyP at hq
 have:=List.find?_eq_none.1 hq j (by simpa using hj)
 simpa using this
theorem roomy_of {h:HR} {n q:Nat} (h1:q<h.pages) (h2:Wi h.vs q+17+n<=256) (h3 : ∀ j,j<q -> ¬ Wi h.vs j+17+n<=256):roomyP h n=some q:=by
 cases hr:roomyP h n with
 | none=>exact absurd h2 (roomy_none hr q h1)
 | some p =>
  obtain ⟨a,b,c⟩:=roomy_some hr
  rcases Nat.lt_trichotomy p q with k | k | k
  . exact absurd b (h3 p k)
  . rw [k]
  . exact absurd h2 (c q k)
theorem roomy_no {h:HR} {n:Nat} (h3 : ∀ j,j<h.pages -> ¬ Wi h.vs j+17+n<=256):roomyP h n=none:=by
 cases hr:roomyP h n with
 | none=>rfl
 | some p=>obtain ⟨a,b,c⟩:=roomy_some hr;exact absurd b (h3 p a)
theorem RInv.addStep {h:HR} (r:RInv h) (hp:h.pages<=4096) (hl:h.last<2^62) {t:Int} {d:List UInt8} {q:Nat} (ht:Zp h t=true) (hd:d.length<=184) (hq:q<h.pages) (hu:Wi h.vs q+17+d.length<=256) (hf:h.used+20+d.length<=h.room):OkStep h (addE h t d q):=by
 have h1:=r.act1 t (isAct_iff.1 ht)
 have h2:=pages_len r.ok q
 refine ⟨⟨by simp,by simp;omega,by simp only [enPlace];omega,by simp,by simp,by simp,by simp,by simp;omega⟩,r.actcm t (isAct_iff.1 ht),λ _=>⟨by simp only;omega,by simp,hd,by simpa using hu⟩,by simp,by rw [enSz_eq];simp;omega⟩
theorem RInv.endStep {h:HR} (r:RInv h) (hp:h.pages<=4096) (hl:h.last<2^62) {t page slot:Int} {i:Nat} {v:Ver} (ht:Zp h t=true) (hi:We h.vs page slot=some i) (hv:h.vs[i]? = some v) (hn:Wa h v.fin=false) (hf:h.used+20<=h.room):OkStep h (endE t page slot):=by
 have h1:=r.act1 t (isAct_iff.1 ht)
 obtain ⟨u,hu,e1,e2⟩:=findV_some hi
 rw [hv] at hu;cases hu
 have h2:=r.ok.vok v (List.mem_of_getElem? hv)
 have h3:=pages_len r.ok v.page
 have h4:=(List.getElem?_eq_some_iff.1 (page_at r.ok.slots hv)).1
 refine ⟨⟨by simp,by simp;omega,by simp only [enPlace];omega,by simp,by simp,by simp,by simp,by simp⟩,r.actcm t (isAct_iff.1 ht),by simp,λ _=>⟨i,v,hi,hv,hn⟩,by rw [enSz_eq];simp;omega⟩
theorem RInv.cmStep {h:HR} (r:RInv h) (hl:h.last<2^62) {t stamp:Int} (ht:Zp h t=true) (hb:badStamp h stamp=false) (hf:h.used+25<=h.room):OkStep (Zo h t) (cmE t stamp):=by
 have h1:=r.act1 t (isAct_iff.1 ht)
 have h2:0<=stamp/\stamp<=1099511627776:=by
  unfold badStamp at hb
  simp only [Bool.or_eq_false_iff,decide_eq_false_iff_not] at hb
  omega
 refine ⟨⟨by simp,by simp;omega,by simp [enPlace],by simpa using h2,by simp,by simp,by simp,by simp⟩,r.actcm t (isAct_iff.1 ht),by simp,by simp,by rw [enSz_eq,if_pos rfl];exact hf⟩
theorem RInv.add {h:HR} (r:RInv h) (hp:h.pages<=4096) (hl:h.last<2^62) (t:Int) (d:List UInt8):RInv (Wm h t d).1:=by
  unfold Wm
  split
  . rename_i ht
    split
    . exact r
    . rename_i hd
      split
      . exact r
      . rename_i q hq
        split
        . exact r
        . rename_i hf
          obtain ⟨a,b,_⟩:=roomy_some hq
          exact r.write (r.addStep hp hl ht (by omega) a b (by omega)) (r.act1 t (isAct_iff.1 ht)).2 (by simp)
  . exact r
theorem RInv.end_ {h:HR} (r:RInv h) (hp:h.pages<=4096) (hl:h.last<2^62) (t page slot:Int):RInv (endR h t page slot).1:=by
  unfold endR
  split
  . rename_i ht
    split
    . exact r
    . rename_i v hv
      split
      . exact r
      . rename_i hc
        split
        . exact r
        . split
          . exact r
          . cases hf:We h.vs page slot with
            | none=>rw [hf] at hv;cases hv
            | some i =>
              rw [hf] at hv
              have hn:Wa h v.fin=false:=by
                cases hq:Wa h v.fin with
                | false=>rfl
                | true=>exact absurd (.inr (.inr hq)) hc
              exact r.write (r.endStep hp hl ht hf hv hn (by omega)) (r.act1 t (isAct_iff.1 ht)).2 (by simp)
  . exact r
theorem RInv.commit {h:HR} (r:RInv h) (hl:h.last<2^62) (t stamp:Int):RInv (Zl h t stamp).1:=by
  unfold Zl
  split
  . rename_i ht
    split
    . exact r
    . rename_i hb
      split
      . exact r
      . exact (r.without t).write (r.cmStep hl ht (by simpa using hb) (by omega)) (r.act1 t (isAct_iff.1 ht)).2 (λ _=>by simp [Zo])
  . exact r
theorem pageV_fm_modify {h:HR} {t:Int} {q:Nat} : ∀ {vs:List Ver} {i:Nat} {v:Ver},vs[i]? = some v->visV h (finV t v)=visV h v->(Zh (vs.modify i (finV t)) q).filterMap (visV h)=(Zh vs q).filterMap (visV h)
 | [],i,v,hv,_=>by simp at hv
 | u::vs,0,v,hv,e=>by
  simp at hv;subst hv
  simp only [Zh,List.modify_zero_cons,List.filter_cons,show (finV t u).page=u.page from rfl]
  split
  . simp only [List.filterMap_cons,e]
  . rfl
 | u::vs,i+1,v,hv,e=>by
  have ih:=pageV_fm_modify (q:=q) (vs:=vs) (i:=i) (by simpa using hv) e
  simp only [Zh,List.modify_succ_cons,List.filter_cons] at ih ⊢
  split
  . simp only [List.filterMap_cons,ih]
  . exact ih
theorem vis_congr {h g:HR} (h1:g.act=h.act) (h2:g.cm=h.cm) (v:Ver):visV g v=visV h v:=by
 unfold visV Zp Wa;rw [h1,h2]
theorem all_write {h:HR} {e:En} (s:OkStep h e) (ha:h.act=[]) (hk:e.kind≠3):allR (Zg h e)=allR h:=by
  have hc:(Zg h e).cm=h.cm:=by simp [Zg,hk]
  have hact : ∀ t,Zp h t=false:=λ t=>by simp [Zp,ha]
  unfold allR
  show (List.range h.pages).flatMap _=_
  congr 1
  funext q
  have ev:visV (Zg h e)=visV h:=funext λ v=>vis_congr (g:=Zg h e) (h:=h) rfl hc v
  rw [ev]
  rcases kinds s.ok with k | k | k
  . have:(Zg h e).vs=h.vs++[⟨e.page.toNat,e.slot.toNat,e.txn,0,e.data⟩]:=by simp [Zg,k]
    rw [this,Wc,List.filterMap_append]
    have:(Zh [(⟨e.page.toNat,e.slot.toNat,e.txn,0,e.data⟩:Ver)] q).filterMap (visV h)=[]:=by
      rw [List.filterMap_eq_nil_iff]
      intro v hv
      have:=mem_of_filt hv
      simp at this;subst this
      unfold visV
      rw [if_pos ⟨hact _,s.cm⟩]
    rw [this,List.append_nil]
  . obtain ⟨i,v,h1,h2,h3⟩:=s.two k
    have:(Zg h e).vs=h.vs.modify i (finV e.txn):=by simp [Zg,k,h1]
    rw [this]
    refine pageV_fm_modify h2 ?_
    unfold visV finV
    dsimp only
    split
    . rfl
    . rw [if_pos ⟨hact _,s.cm⟩,if_pos ⟨hact _,h3⟩]
  . exact absurd k hk
theorem lastE_le : ∀ (es:List En) (m:Int),m<=es.foldl (λ m e=>max m e.txn) m /\ ∀ e∈es,e.txn<=es.foldl (λ m e=>max m e.txn) m
 | [],m=>by simp
 | x::es,m=>by
  obtain ⟨h1,h2⟩:=lastE_le es (max m x.txn)
  simp only [List.foldl_cons]
  refine ⟨by omega,λ e he=>?_⟩
  rcases List.mem_cons.1 he with rfl | he
  . omega
  . exact h2 e he
theorem RInv.restart {h:HR} (r:RInv h) (n:Nat):RInv (Zs h n):=by
  obtain ⟨a,b,c,d,e⟩:=replay_es h.pages h.room (h.es.take n)
  unfold Zs
  refine ⟨?_,?_,?_,?_,?_,?_,?_,?_⟩
  . show HistOk (replay h.pages h.room (h.es.take n)).pages (replay h.pages h.room (h.es.take n)).room (replay h.pages h.room (h.es.take n)).es
    rw [a,b,c];exact r.hist.take n
  . show (replay (replay h.pages h.room (h.es.take n)).pages (replay h.pages h.room (h.es.take n)).room (replay h.pages h.room (h.es.take n)).es).vs=_
    rw [a,b,c]
  . show (replay (replay h.pages h.room (h.es.take n)).pages (replay h.pages h.room (h.es.take n)).room (replay h.pages h.room (h.es.take n)).es).cm=_
    rw [a,b,c]
  . show (replay (replay h.pages h.room (h.es.take n)).pages (replay h.pages h.room (h.es.take n)).room (replay h.pages h.room (h.es.take n)).es).used=_
    rw [a,b,c]
  . show ∀ t∈(replay h.pages h.room (h.es.take n)).act,_
    rw [d];simp
  . show ∀ e∈(replay h.pages h.room (h.es.take n)).es,e.txn<=lastE (h.es.take n)
    rw [a];exact (lastE_le _ _).2
  . show ∀ t∈(replay h.pages h.room (h.es.take n)).act,_
    rw [d];simp
  . exact (lastE_le _ _).1
end Go.Proofs.YtkfmfoecplbclaaGreatDoor
