/- The texts SlF SlH SlG BaA BbA BcA BcB BcC, one behind the other: what the law leans on. Conditions: as each theorem says. -/
import Derived.Test.YtnnfjemaeefbiaaGreatDoorZWpBase1
import Derived.Great.BuildSlice
set_option linter.unusedSimpArgs false
set_option linter.unusedVariables false
set_option maxRecDepth 100000
set_option maxHeartbeats 16000000
namespace Go.Proofs.YtnnfjemaeefbiaaGreatDoor
open Go.RowKit
section
variable {P : Program} {B:Wn} {n:Nat} {S l r:List Wp} {f:Fr} {K:Value->List Wp->Prop} {Φ:Post}
variable {d : Option Tmp} {ty:TypeId} {pos:String} {af:Array Edge} {gd:Option (Nat×Bool)}
def RdV (B:Wn) (S:List Wp) (v:Value) (cs:List Value):Prop := ∃ a cap,v = .slice a cs.length cap/\(cs=[] \/ ∃ b o,a=some ⟨b,o,none⟩ /\ ∀ w,Own B w S->w.rangeAt b o cs)
theorem RdV.mono {S S':List Wp} {v:Value} {cs:List Value} (h:RdV B S v cs) (hs : ∀ w,Own B w S'->Own B w S):RdV B S' v cs:=by
  obtain ⟨a,cap,e,h⟩:=h
  refine ⟨a,cap,e,h.imp id ?_⟩
  rintro ⟨b,o,e1,h1⟩
  exact ⟨b,o,e1,λ w ho=>h1 w (hs w ho)⟩
theorem RdV.reads {v:Value} {cs:List Value} (h:RdV B S v cs) (w:World) (ho:Own B w S) : ∃ fp,Reads w v cs fp:=by
  obtain ⟨a,cap,rfl,h | ⟨b,o,rfl,h⟩⟩:=h
  . exact ⟨[],a,cap,rfl,.inl h⟩
  . exact ⟨[b],_,cap,rfl,.inr ⟨b,o,rfl,h w ho,by simp⟩⟩
theorem RdV.form {v:Value} {cs:List Value} {m:Nat} (h:RdV B S v cs) (hm:cs.length=m) : ∃ a cap,v = .slice a m cap:=by
  obtain ⟨a,cap,rfl,_⟩:=h
  exact ⟨a,cap,by rw [hm]⟩
theorem RdV.nil (S:List Wp) (c:Nat):RdV B S (.slice none 0 c) []:=⟨none,c,rfl,.inl rfl⟩
theorem RdV.empty (S:List Wp) (a:Option Addr) (c:Nat):RdV B S (.slice a 0 c) []:=⟨a,c,rfl,.inl rfl⟩
theorem RdV.ofRow {p:Option Addr} {m c e:Nat} {cs:List Value} (hS : ∀ w,Own B w S->w.ownsRow 0 e 1 (.slice p m c) m cs) (hm:cs.length=m) (hp:0<m -> ∃ g,p=some ⟨g,0,none⟩):RdV B S (.slice p m c) cs:=by
  refine ⟨p,c,by rw [hm],?_⟩
  rcases Nat.eq_zero_or_pos m with h0 | h0
  . exact .inl (List.eq_nil_of_length_eq_zero (by omega))
  . obtain ⟨g,rfl⟩:=hp h0
    refine .inr ⟨g,0,rfl,λ w ho j v hv=>?_⟩
    have:=(hS w ho).cells (g:=g) rfl j v hv
    rwa [Addr.add_mid] at this
theorem RdV.sub {a:Option Addr} {m cap:Nat} {cs:List Value} (h:RdV B S (.slice a m cap) cs) (lo hi cap':Nat) (hl:lo<=hi) (hh:hi<=cs.length) (a':Option Addr) (ha:lo<hi -> ∀ b o,a=some ⟨b,o,none⟩->a'=some ⟨b,o+lo,none⟩):RdV B S (.slice a' (hi-lo) cap') ((cs.take hi).drop lo):=by
  have hlen:((cs.take hi).drop lo).length=hi-lo:=by simp;omega
  refine ⟨a',cap',by rw [hlen],?_⟩
  rcases Nat.eq_or_lt_of_le hl with h0 | h0
  . exact .inl (List.eq_nil_of_length_eq_zero (by omega))
  . obtain ⟨a2,c2,e,h1 | ⟨b,o,e1,h1⟩⟩:=h
    . subst h1;simp at hh;omega
    . injection e with e2 _ _
      refine .inr ⟨b,o+lo,ha h0 b o (e2.trans e1),λ w ho j v hv=>?_⟩
      rw [Nat.add_assoc]
      refine h1 w ho (lo+j) v ?_
      rw [List.getElem?_drop,List.getElem?_take] at hv
      split at hv
      . exact hv
      . cases hv
theorem RdV.at {a:Option Addr} {m c:Nat} {cs:List Value} (h:RdV B S (.slice a m c) cs) (hp:0<m) : ∃ b o,a=some ⟨b,o,none⟩ /\ ∀ j (hj:j<cs.length) w,Own B w S->w.cell? ⟨b,o+j*1,none⟩=some cs[j]:=by
  obtain ⟨a2,c2,e,h1 | ⟨b,o,e1,h1⟩⟩:=h
  . subst h1;injection e with _ e2 _;simp at e2;omega
  . injection e with e2 _ _
    exact ⟨b,o,e2.trans e1,λ j hj w ho=>by rw [Nat.mul_one];exact h1 w ho j _ (List.getElem?_eq_getElem hj)⟩
theorem zN {t g o:Nat} {x:Operand} {v:Value} (hx:ev n f x=some (.pointer (some ⟨g,o,none⟩))) (hc : ∀ w,Own B w S->w.cell? ⟨g,o,none⟩=some v) (h1:oneB P t=true:=by kernel_rfl):Qt P B n S ⟨d,.load t x,ty,pos,af,gd⟩ f v:=⟨λ w ho=>by
  have hc:=hc w ho
  unfold oneB at h1
  split at h1
  . cases h1
  . cases h1
  . rename_i dd n1 n2 hu
    have hagg:(isAgg t).run P w = .ok false w:=by
      unfold isAgg
      simp only [Sem.run_bind,run_underlying hu,Result.andThen_ok]
      cases dd <;> first | exact (n1 _ rfl).elim | exact (n2 _ _ rfl).elim | rfl
    simp [execOp,Zc hx,Instr.loadAt,Instr.sureAddr,loadVar,hagg,Go.load,Sem.run,hc]
  . cases h1⟩
theorem T.ex {c:Code} {α:Type} {l':α->List Wp} (h : ∀ w,Own B w l -> ∃ x,Own B w (l' x)) (k : ∀ x,T P B n c Φ f (l' x)):T P B n c Φ f l:=⟨λ Q w hf ho=>by
  obtain ⟨x,hx⟩:=h w ho
  exact (k x).run Q w hf hx⟩
def isSl (P:Program) (t:TypeId):Bool:=match P.underlying t with | some (.slice _)=>true | _=>false
theorem YT {t t2:TypeId} {x y:Operand} {p:Option Addr} {m c c':Nat} (hx:ev n f x=some (.slice p m c)) (hy:ev n f y=some (.slice none 0 c')) (ht:isSl P t=true:=by kernel_rfl):Qt P B n S ⟨d,.binOp .eql t x y t2,ty,pos,af,gd⟩ f (.bool p.isNone):=⟨λ w _=>by
  obtain ⟨e,hu⟩ : ∃ e,P.underlying t=some (.slice e):=by unfold isSl at ht;split at ht;exact ⟨_,by assumption⟩;cases ht
  have:(Op.equal t (.slice p m c) (.slice none 0 c')).run P w = .ok p.isNone w:=by
    show (Op.equalIn (9999+1) t (.slice p m c) (.slice none 0 c')).run P w=_
    rw [Op.equalIn]
    cases p <;> simp [run_underlying hu]
  simp [execOp,Zc hx,Zc hy,eqGuard,Go.binOp,this]⟩
def offA (p:Option Addr) (c lo sz:Nat):Option Addr:=if c=lo then p else p.map (·.add (lo*sz))
theorem offA_some {b o c lo sz:Nat} (h:c≠lo):offA (some ⟨b,o,none⟩) c lo sz=some ⟨b,o+lo*sz,none⟩:=by simp [offA,h,Addr.add_mid]
theorem run_slice_sn {w:World} {t e sz:Nat} {p:Option Addr} {m c lo:Nat} (ht:sliceB P t e sz=true) (h1:lo<=m) (kl:IntKind) :
    (Instr.sliceAt t (.slice p m c) (some (.int kl lo)) none none).run P w = .ok (.slice (if c=lo then p else p.map (·.add (lo*sz))) (m-lo) (c-lo)) w:=by
  obtain ⟨hu,hs⟩:=sliceB_spec ht
  obtain ⟨i,hi',his⟩:=info_of_size hs
  subst his
  simp [Instr.sliceAt,run_underlying hu,Instr.slice,Instr.sliceBounds,Instr.sliceBound,asIntOf,sizeOf,typeInfo,hi',h1]
theorem zP {t e sz:Nat} {x y:Operand} {p:Option Addr} {m c:Nat} {k:IntKind} {i:Int} (lo:Nat) (ht:sliceB P t e sz=true) (hx:ev n f x=some (.slice p m c)) (hy:ev n f y=some (.int k i)) (hi1:i=(lo:Int)) (h1:lo<=m) :
    Qt P B n S ⟨d,.slice t x (some y) none none,ty,pos,af,gd⟩ f (.slice (offA p c lo sz) (m-lo) (c-lo)):=⟨λ w _=>by
  subst hi1
  have:=run_slice_sn (w:=w) (p:=p) (m:=m) (c:=c) ht h1 k
  simp [execOp,Zc hx,Zc hy,this,offA]⟩
theorem run_slice_ns {w:World} {t e sz:Nat} {p:Option Addr} {m c hi:Nat} (ht:sliceB P t e sz=true) (h2:hi<=c) (kh:IntKind) :
    (Instr.sliceAt t (.slice p m c) none (some (.int kh hi)) none).run P w = .ok (.slice p hi c) w:=by
  obtain ⟨hu,hs⟩:=sliceB_spec ht
  obtain ⟨i,hi',his⟩:=info_of_size hs
  have h0:(if c=0 then p else p.map (·.add (0*i.size)))=p:=by
    split
    . rfl
    . cases p <;> simp [Addr.add]
  simp [Instr.sliceAt,run_underlying hu,Instr.slice,Instr.sliceBounds,Instr.sliceBound,asIntOf,sizeOf,typeInfo,hi',h2]
  intro _
  cases p <;> simp [Addr.add]
theorem Y6 {t e sz:Nat} {x z:Operand} {p:Option Addr} {m c:Nat} {k2:IntKind} {j:Int} (hi:Nat) (hx:ev n f x=some (.slice p m c)) (hz:ev n f z=some (.int k2 j)) (hj1:j=(hi:Int)) (ht:sliceB P t e sz=true:=by kernel_rfl) (h2:hi<=c:=by omega) :
    Qt P B n S ⟨d,.slice t x none (some z) none,ty,pos,af,gd⟩ f (.slice p hi c):=⟨λ w _=>by
  subst hj1
  have:=run_slice_ns (w:=w) (p:=p) (m:=m) ht h2 k2
  simp [execOp,Zc hx,Zc hz,this]⟩
theorem ofInt_nat (w m:Nat):BitVec.ofInt w (m:Int)=BitVec.ofNat w m:=by simp
end
open Go.RowKit
section
variable {P : Program} {B:Wn} {n:Nat} {S l r:List Wp} {f:Fr} {K:Value->List Wp->Prop} {Φ:Post}
variable {d : Option Tmp} {ty:TypeId} {pos:String} {af:Array Edge} {gd:Option (Nat×Bool)}
def fblk (g:Nat) (C:List Value) (t:TypeId) (fr:Nat×Nat):Wp:=λ h=>h g=some (.cells C.toArray t fr)
instance (g : Nat) (l:List Wp) (C:List Value) (t:TypeId) (fr:Nat×Nat):CellsAt g (fblk g C t fr::l) C:=⟨λ _ ⟨_,_,_,a,_,e,_⟩=>⟨[],t,fr,by rw [List.append_nil];exact a.p _ _ e⟩⟩
class FrzB (g:Nat) (l:List Wp) (r:outParam (List Wp)):Prop where
  cut : ∃ C t m,(∀ h,Has l h->Has (blk g C t::m) h) /\ ∀ h,Has (fblk g C t (C.length,C.length+1)::m) h->Has r h
instance (g : Nat) (C:List Value) (t:TypeId) (l:List Wp):FrzB g (blk g C t::l) (fblk g C t (C.length,C.length+1)::l):=⟨C,t,l,λ _ H=>H,λ _ H=>H⟩
instance (g : Nat) (A:Wp) (l r:List Wp) [k:FrzB g l r]:FrzB g (A::l) (A::r):=⟨by
  obtain ⟨C,t,m,h1,h2⟩:=k.cut
  exact ⟨C,t,A::m,λ h H=>Has.swap (Wt h1 H),λ h H=>Wt h2 (Has.swap H)⟩⟩
theorem Own.frz {w:World} {g:Nat} (H:Own B w l) [k:FrzB g l r] : ∃ (C:List Value) (t:TypeId),w.heap[g]? = some (.cells C.toArray t (0,0))/\Own B (w.freeze ⟨g,C.length,none⟩ 1) r:=by
  obtain ⟨C,t,m,h1,h2⟩:=k.cut
  have H1:Own B w (blk g C t::m):=H.map h1
  refine ⟨C,t,H1.get,Own.map ?_ h2⟩
  have e:w.freeze ⟨g,C.length,none⟩ 1={w with heap:=w.heap.modify g fun | .cells c elem (lo,hi) => .cells c elem (if lo == hi then (C.length,C.length+1) else (min lo C.length,max hi (C.length+1))) | o=>o}:=by
    unfold World.freeze;rw [if_neg (by decide)];rfl
  rw [e]
  refine Own.kept (fp:=[g]) H1 ⟨rfl,rfl,rfl,by simp,λ k _ hn=>?_,Nat.le_refl _⟩ (λ h e g' hg=>by simp at hg;subst hg;exact ⟨_,e⟩) (λ h1 h _ _ e _=>?_)
  . simp only [List.mem_singleton] at hn
    simp only [Array.getElem?_modify]
    rw [if_neg (λ q=>hn q.symm)]
  . have:=e g (.inl (by simp))
    unfold fblk
    rw [this]
    simp only [Array.getElem?_modify,if_true]
    have hg:=H1.get
    rw [hg]
    rfl
theorem YX {t g m c:Nat} {x:Operand} (hb:bytesB P t=true) (hx:ev n f x=some (.slice (some ⟨g,0,none⟩) m c)) [k:FrzB g l r] (h:K (.slice (some ⟨g,0,none⟩) m c) r):Ef P B n ⟨d,.convert t t x,ty,pos,af,gd⟩ f l K:=⟨λ w next Q ho hk=>by
  obtain ⟨e,h1,h2⟩:=bytesB_spec hb
  obtain ⟨C,t',hg,ho'⟩:=ho.frz (k:=k)
  have hsh:w.shape? g=some (t',C.length):=by
    unfold World.shape?;rw [hg];simp
  have hr:(convert t t (.slice (some ⟨g,0,none⟩) m c)).run P w = .ok (.slice (some ⟨g,0,none⟩) m c) (w.freeze ⟨g,C.length,none⟩ 1):=by
    simp [convert,run_underlying h1,run_underlying h2,markStringish,hsh]
  unfold Oper.wp execOp
  simp only [Wk,Zc hx,Sem.run_bind,hr,Sem.run_pure,Result.andThen_ok]
  exact hk _ _ _ h ho'⟩
theorem ZC {t e len:Nat} {parts:Array (Nat×Operand)} (vs:List Value) (hp:parts.toList.map (λ p=>(p.1,ev n f p.2))=(vs.zipIdx 0).map λ x=>(x.2,some x.1)) (h1 : ∀ v∈vs,v.cells = #[v]) (hl:vs.length=len)
    (h : ∀ g,K (.slice (some ⟨g,0,none⟩) len len) (blk g vs e::l)) (hk:sliceB P t e 1=true:=by kernel_rfl) (hz:((P.info? e).bind (·.zero)).isSome=true:=by kernel_rfl) (h0:0<len:=by omega) (h24:len<=16777216:=by omega):Ef P B n ⟨d,.buildSlice t len parts,ty,pos,af,gd⟩ f l K:=⟨λ w next Q ho hk'=>by
  obtain ⟨q1,q2⟩:=sliceB_spec hk
  obtain ⟨i,hi,his⟩:=info_of_size q2
  rw [hi] at hz
  obtain ⟨z,hzz⟩:=Option.isSome_iff_exists.1 hz
  have hpe:(parts.map λ p=>(p.1,evu n f p.2)).toList=(vs.zipIdx 0).map λ x=>(x.2,x.1):=by
    rw [Array.toList_map]
    have e:=congrArg (List.map (λ p:Nat×Option Value=>(p.1,p.2.getD undef))) hp
    simp only [List.map_map,Function.comp_def,Option.getD_some] at e
    exact e
  have hr:=run_buildSlice (P:=P) w t e len (parts.map λ p=>(p.1,evu n f p.2)) vs.toArray i z q1 hi (by simpa using hzz) (by rw [his];omega) (by rw [his];omega) (by rw [hpe,his];exact Great.fill_flat _ _ h1 (by simp [hl]))
  unfold Oper.wp execOp
  simp only [Wk,Sem.run_bind,hr,Sem.run_pure,Result.andThen_ok]
  exact hk' _ _ _ (h _) (ho.alloc vs e)⟩
end
open Go.RowKit
section
variable {P : Program} {B:Wn} {n:Nat} {S l r:List Wp} {f:Fr} {K:Value->List Wp->Prop}
variable {d : Option Tmp} {ty:TypeId} {pos:String} {af:Array Edge} {gd:Option (Nat×Bool)}
theorem Own.tl {w:World} {A:Wp} (H:Own B w (A::l)):Own B w l:=H.map λ _ k=>k.tail
theorem ZV {t t2:TypeId} {x y:Operand} {a:UInt64} {k:IntKind} {i:Int} (j:Nat) (hx:ev n f x=some (.int .u64 a.toNat)) (hy:ev n f y=some (.int k i)) (hi:i=(j:Int)) (hj:j<64):Qt P B n S ⟨d,.binOp .shr t x y t2,ty,pos,af,gd⟩ f (.int .u64 (a.toNat/2^j:Nat)):=⟨λ w _=>by
  subst hi
  have e:(a.toNat:Int).fdiv (2^j)=((a.toNat/2^j:Nat):Int):=by
    rw [Int.fdiv_eq_ediv_of_nonneg _ (by exact_mod_cast Nat.zero_le _)]
    push_cast;rfl
  have h:(Op.shift .shr .u64 (a.toNat:Int) k (j:Int)).run P w = .ok (.int .u64 (a.toNat/2^j:Nat)) w:=by
    have:min j 64=j:=by omega
    simp [Op.shift,IntKind.bits,this]
  simp [execOp,Zc hx,Zc hy,eqGuard,Go.binOp,h]⟩
theorem YP {x y:Operand} {k:IntKind} {a b:Int} (hx:ev n f x=some (.int k a)) (hy:ev n f y=some (.int k b)) {ts:Array TypeId}:Qt P B n S ⟨d,.call ⟨.builtin .max,#[x,y],ts⟩,ty,pos,af,gd⟩ f (.int k (Max.max a b)):=⟨λ w _=>by
  have h:(if a<b then b else a)=Max.max a b:=by split <;> omega
  have h':(if b>a then b else a)=Max.max a b:=by split <;> omega
  simp [execOp,resolve,invoke,builtin,Builtin.max_,Builtin.max2,Zc hx,Zc hy,h,h']⟩
theorem ZQ {x y:Operand} {k:IntKind} {a b:Int} (hx:ev n f x=some (.int k a)) (hy:ev n f y=some (.int k b)) {ts:Array TypeId}:Qt P B n S ⟨d,.call ⟨.builtin .min,#[x,y],ts⟩,ty,pos,af,gd⟩ f (.int k (Min.min a b)):=⟨λ w _=>by
  have h:(if b<a then b else a)=Min.min a b:=by split <;> omega
  simp [execOp,resolve,invoke,builtin,Builtin.min_,Builtin.min2,Zc hx,Zc hy,h]⟩
theorem YR {t:TypeId} {x y:Operand} {a:List UInt8} {k:IntKind} {i:Int} (j:Nat) (hx:ev n f x=some (.string (Zq a))) (hy:ev n f y=some (.int k i)) (hj:i=(j:Int)) (hl:j<a.length) (ht:isStr P t=true:=by kernel_rfl) :
    Qt P B n S ⟨d,.index t x y,ty,pos,af,gd⟩ f (.int .u8 (a[j]).toNat):=⟨λ w _=>by
  subst hj
  have hu:=isStr_spec ht
  have hg:(Zq a)[j]? = some a[j]:=by
    rw [getElem?_pos _ _ (by rw [size_strOf];exact hl)]
    rfl
  simp [execOp,Instr.index,Zc hx,Zc hy,asIntOf,run_underlying hu,hg]⟩
section
variable (w : World)
end
end
open Go.RowKit
theorem Has.over {A:Wp} : ∀ {m r:List Wp} {h:Piece},Has (m++A::r) h->Has (A::(m++r)) h
  | [],_,_,H=>H
  | _::_,_,_,H=>Has.swap (Wt (λ _ k=>Has.over k) H)
theorem Has.app_imp {l l':List Wp} (f : ∀ k,Has l k->Has l' k) : ∀ {m:List Wp} {h:Piece},Has (m++l) h->Has (m++l') h
  | [],_,H=>f _ H
  | _::_,_,H=>Wt (λ _ k=>Has.app_imp f k) H
theorem Has.app_tail {l:List Wp} : ∀ {m:List Wp} {h:Piece},Has (m++l) h->Has l h
  | [],_,H=>H
  | _::_,_,H=>Has.app_tail H.tail
instance (priority := low) (A:Wp) (m l r:List Wp) [k:TakeA A l r]:TakeA A (m++l) (m++r):=⟨λ _ H=>Has.over (Has.app_imp k.take H)⟩
instance (priority := low) (v:Value) (e sz n:Nat) (xs:List Value) (m l r:List Wp) [k:TakeR v l e sz n xs r]:TakeR v (m++l) e sz n xs (m++r):=⟨λ _ H=>Has.over (Has.app_imp k.take H)⟩
instance (priority := low) (g:Nat) (m l:List Wp) (C:List Value) [k:CellsAt g l C]:CellsAt g (m++l) C:=⟨λ _ H=>k.find _ H.app_tail⟩
instance (priority := low) (g:Nat) (m l:List Wp) (C:List Value) (t:TypeId) [k:FindB g l C t]:FindB g (m++l) C t:=⟨λ _ H=>k.find _ H.app_tail⟩
instance (priority := low) (g:Nat) (D:List Value) (m l r:List Wp) [k:ReplB g l D r]:ReplB g (m++l) D (m++r):=⟨by
  obtain ⟨C,t,x,h1,h2⟩:=k.cut
  exact ⟨C,t,m++x,λ h H=>Has.over (Has.app_imp h1 H),λ h H=>Has.app_imp h2 (Has.under H)⟩⟩
instance (priority := low) (g:Nat) (m l r:List Wp) (C D:List Value) [k:StoreAt g l C D r]:StoreAt g (m++l) C D (m++r):=⟨λ hd h H=>by
  obtain ⟨h1,h2,d,a,b,e,H2⟩:=H.split
  obtain ⟨X,t,y,e1,e2⟩:=k.cut hd h2 H2
  exact ⟨X,t,m++y,Has.over (Has.join d a b e e1),λ h' H'=>Has.app_imp e2 (Has.under H')⟩⟩
abbrev chainOf (pv:Value):List PanicEntry:=[{v:=pv,recovered:=false}]
structure Fx (P:Program) (B:Wn) (g:FuncId) (args:Array Value) (pre:List Wp) (pv:Value):Prop where
  run : ∀ w F,Own B w (pre++F)->Calls P g args w λ e w'=>e = .panicked (chainOf pv)/\Own B w' (pre++F)
def FxPost (pv:Value) (S F:List Wp):Post:=λ e _ l=>e = .panic (chainOf pv)/\Sub l (S++F)
section
variable {P : Program} {B:Wn} {n:Nat} {ops:Array Oper} {rest:List Oper} {o:Oper} {Φ:Post} {f:Fr} {l l':List Wp} {pv:Value}
theorem Fx.enter {g:FuncId} {fn:Func} {c:Code} {args:List Value} {pre:List Wp} (hfn:P.funcs[g]? = some fn) (hc:fn.body=some c) (hn:fn.ntmps=n) (hl:args.length<=n)
    (h : ∀ F,T P B n c (FxPost pv pre F) (U (λ _=>none) ((List.range args.length).zip args)) (pre++F)):Fx P B g args.toArray pre pv:=⟨λ w F ho=>by
  refine calls_of_wp hfn hc ?_
  rw [hn,enter_eq args n hl]
  refine (h F).run _ w ⟨λ e f w' l hk ho'=>?_,λ c a d v w' k=>(by cases d <;> exact k)⟩ ho
  obtain ⟨rfl,hs⟩:=hk
  exact ⟨rfl,rfl,ho'.map hs⟩⟩
theorem Fx.enter2 {g:FuncId} {fn:Func} {c:Code} {a0 a1:Value} {pre:List Wp} (n:Nat) (hfn:P.funcs[g]? = some fn) (hc:fn.body=some c) (hn:fn.ntmps=n) (hl:2<=n)
    (h : ∀ F,T P B n c (FxPost pv pre F) (upd (upd (λ _=>none) 1 a1) 0 a0) (pre++F)):Fx P B g #[a0,a1] pre pv:=Fx.enter (args:=[a0,a1]) hfn hc hn hl h
theorem Fx.enter3 {g:FuncId} {fn:Func} {c:Code} {a0 a1 a2:Value} {pre:List Wp} (n:Nat) (hfn:P.funcs[g]? = some fn) (hc:fn.body=some c) (hn:fn.ntmps=n) (hl:3<=n)
    (h : ∀ F,T P B n c (FxPost pv pre F) (upd (upd (upd (λ _=>none) 2 a2) 1 a1) 0 a0) (pre++F)):Fx P B g #[a0,a1,a2] pre pv:=Fx.enter (args:=[a0,a1,a2]) hfn hc hn hl h
structure Dx (P:Program) (B:Wn) (n:Nat) (o:Oper) (f:Fr) (l:List Wp) (pv:Value) (l':List Wp):Prop where
  run : ∀ w next Q,Own B w l->(∀ w',Own B w' l'->Q (.panic (chainOf pv)) (act n f) w')->o.wp P (act n f) w next Q
section named
variable {t : Option Tmp} {ty:TypeId} {pos:String} {af:Array Edge} {gd:Option (Nat×Bool)}
theorem Dx.call {g:FuncId} {fn:Func} {args:Array Operand} {ats:Array TypeId} {vs:List Value} {pre F:List Wp} (hc:Fx P B g vs.toArray pre pv) (hf:P.funcs[g]? = some fn) (hn:(fn.name == "runtime.NumGoroutine")=false) (hb:fn.body.isNone=false)
    (ha:args.toList.map (ev n f)=vs.map some) [k:TakeL pre l F]:Dx P B n ⟨t,.call ⟨.value (.func g),args,ats⟩,ty,pos,af,gd⟩ f l pv (pre++F):=⟨λ w next Q ho hk=>by
  have hav:args.map (evu n f)=vs.toArray:=by
    have:args.toList.map (evu n f)=vs:=by
      have e:=congrArg (List.map (λ o:Option Value=>o.getD undef)) ha
      have e2:(λ x=>evu n f x)=evu n f:=rfl
      simp only [List.map_map,Function.comp_def,Option.getD_some,List.map_id'] at e
      exact e
    rw [<-Array.toList_inj,Array.toList_map]
    simpa using this
  have h0:=hc.run w F ho.takeL
  unfold Oper.wp execOp
  rw [Wk]
  have he:((do let c <-resolve (evu n f) ⟨.value (.func g),args,ats⟩ ty;invoke c.target c.args):Sem Next).run P w = .ok (.enter g vs.toArray) w:=by
    simp only [resolve,hav]
    have hg:evu n f (.func g) = .func (.func g) #[] #[]:=rfl
    have hn' : ¬ fn.name = "runtime.NumGoroutine" := by simpa using hn
    have hb' : ¬ fn.body=none:=λ e=>by rw [e] at hb;cases hb
    simp [hg,Deferred.ofValue,invoke,callFunc,hf,hn',hb']
  rw [he]
  show Calls P g vs.toArray w _
  refine Calls.mono h0 ?_
  rintro e w' ⟨rfl,ho'⟩
  exact hk w' ho'⟩
theorem Dx.pan {x:Operand} {ti:TypeId} {v:Value} (hx:ev n f x=some (.iface ti v)):Dx P B n ⟨t,.panic x,ty,pos,af,gd⟩ f l (.iface ti v) l:=⟨λ w next Q ho hk=>by
  unfold Oper.wp execOp
  simp only [Wk,Zc hx,Instr.panic]
  exact hk w ho⟩
theorem Y4 {S:List Wp} {fv:FuncId} {cs:Array Operand} (vs:List Value) (hc:cs.toList.map (ev n f)=vs.map some):Qt P B n S ⟨t,.makeFunc (.func fv) #[] cs,ty,pos,af,gd⟩ f (.func (.func fv) #[] vs.toArray):=⟨λ w _=>by
  have hav:cs.map (evu n f)=vs.toArray:=by
    have:cs.toList.map (evu n f)=vs:=by
      have e:=congrArg (List.map (λ o:Option Value=>o.getD undef)) hc
      have e2:(λ x=>evu n f x)=evu n f:=rfl
      simp only [List.map_map,Function.comp_def,Option.getD_some,List.map_id'] at e
      exact e
    rw [<-Array.toList_inj,Array.toList_map]
    simpa using this
  simp [execOp,Instr.makeFunc,hav]⟩
theorem ZF {S:List Wp} {ti:TypeId} {x:Operand} {v:Value} (hx:ev n f x=some v) (h:(match P.underlying ti with | some (.interface _)=>false | some _=>true | none=>false)=true:=by kernel_rfl):Qt P B n S ⟨t,.makeInterface ti x,ty,pos,af,gd⟩ f (.iface ti v):=⟨λ w _=>by
  split at h
  . cases h
  . rename_i d hd hu
    simp only [execOp,Instr.makeInterface,Sem.run_bind,run_underlying hu,Result.andThen_ok,Zc hx]
    cases d <;> first | exact (hd _ rfl).elim | rfl
  . cases h⟩
theorem ZE {d:Option Tmp} {x:Operand} {g:FuncId} {fn:Func} {args:Array Operand} {ats:Array TypeId} {pre F:List Wp} {R:Value->List Wp->Prop} {K:Value->List Wp->Prop} (vs cap:List Value) (hc:Fn P B g (vs++cap).toArray pre R) (hf:P.funcs[g]? = some fn) (hn:(fn.name == "runtime.NumGoroutine")=false) (hb:fn.body.isNone=false)
    (hx:ev n f x=some (.func (.func g) #[] cap.toArray)) (ha:args.toList.map (ev n f)=vs.map some) (hne:(match x with | .func _=>false | _=>true)=true) [k:TakeL pre l F] (h : ∀ v l',R v l'->K v (l'++F)):Ef P B n ⟨d,.call ⟨.value x,args,ats⟩,ty,pos,af,gd⟩ f l K:=⟨λ w next Q ho hk=>by
  have hav:args.map (evu n f)=vs.toArray:=by
    have:args.toList.map (evu n f)=vs:=by
      have e:=congrArg (List.map (λ o:Option Value=>o.getD undef)) ha
      have e2:(λ x=>evu n f x)=evu n f:=rfl
      simp only [List.map_map,Function.comp_def,Option.getD_some,List.map_id'] at e
      exact e
    rw [<-Array.toList_inj,Array.toList_map]
    simpa using this
  have h0:=hc.run w F ho.takeL
  unfold Oper.wp execOp
  rw [Wk]
  have he:((do let c <-resolve (evu n f) ⟨.value x,args,ats⟩ ty;invoke c.target c.args):Sem Next).run P w = .ok (.enter g (vs++cap).toArray) w:=by
    simp only [resolve,hav]
    have hn' : ¬ fn.name = "runtime.NumGoroutine" := by simpa using hn
    have hb' : ¬ fn.body=none:=λ e=>by rw [e] at hb;cases hb
    simp [Zc hx,Deferred.ofValue,invoke,callFunc,hf,hn',hb']
  rw [he]
  show Calls P g (vs++cap).toArray w _
  refine Calls.mono h0 ?_
  rintro e w' ⟨v,l',rfl,hR,ho'⟩
  exact hk v w' _ (h v l' hR) ho'⟩
end named
theorem LW.dies (hd:Dx P B n o f l pv l') (h:Φ (.panic (chainOf pv)) f l') (hw:want n ops f o=true:=by exact rfl):LW P B n ops (o::rest) Φ f l:=⟨λ Q w hf ho=>by
  unfold wpList
  rw [want_eq,if_pos hw]
  exact .inl (hd.run w _ Q ho λ w' ho'=>hf.go _ _ w' _ h ho')⟩
theorem RO.dies {m k i:Nat} {S:List Wp} {listed:Array Bool} {rest':List Oper} (hi:ops.toList.drop i=o::rest') (hw:want n ops f o=true) (hd:Dx P B n o f l pv l') (h:Φ (.panic (chainOf pv)) f l'):RO P B n ops m Φ k S listed f l i:=⟨λ Q w hc hf ho=>by
  have hi':=getElem?_of_drop hi
  unfold wpOp
  simp only [hi']
  rw [want_eq,if_pos hw]
  exact .inl (hd.run w _ Q ho λ w' ho'=>hf.go _ _ w' _ h ho')⟩
end
open Go.RowKit
abbrev Str := List UInt8
abbrev tV (d:Str):Value := .string (Zq d)
abbrev iV (a:Int):Value := .int .i64 a
section
variable {P : Program} {B:Wn} {n:Nat} {S S' l:List Wp} {f:Fr}
variable {d : Option Tmp} {ty:TypeId} {pos:String} {af:Array Edge} {gd:Option (Nat×Bool)}
theorem Qt.loadAggW {t g o:Nat} {x:Operand} (vs:List Value) (hx:ev n f x=some (.pointer (some ⟨g,o,none⟩))) (hc : ∀ w,Own B w S->w.rangeAt g o vs) (h1:aggB P t vs.length=true:=by kernel_rfl):Qt P B n S ⟨d,.load t x,ty,pos,af,gd⟩ f (.agg vs.toArray):=⟨λ w ho=>by
  have hr:=hc w ho
  unfold aggB at h1
  split at h1
  . rename_i fs hu
    have:=run_loadAt_mid (P:=P) w g o t vs _ hr hu rfl (by simpa [szOf] using h1)
    simp [execOp,Zc hx,this]
  . rename_i a b hu
    have:=run_loadAt_mid (P:=P) w g o t vs _ hr hu rfl (by simpa [szOf] using h1)
    simp [execOp,Zc hx,this]
  . cases h1⟩
def FlV (B:Wn) (S:List Wp) {α:Type} (g:α->List Value) (v:Value) (l:List α):Prop := ∃ a c,v = .slice a l.length c/\(l=[] \/ ∃ b o,a=some ⟨b,o,none⟩ /\ ∀ w,Own B w S->w.rangeAt b o (l.flatMap g))
variable {α : Type} {g:α->List Value}
theorem FlV.mono {v:Value} {x:List α} (h:FlV B S g v x) (hs : ∀ w,Own B w S'->Own B w S):FlV B S' g v x:=by
  obtain ⟨a,cap,e,h⟩:=h
  refine ⟨a,cap,e,h.imp id ?_⟩
  rintro ⟨b,o,e1,h1⟩
  exact ⟨b,o,e1,λ w ho=>h1 w (hs w ho)⟩
theorem FlV.empty (a:Option Addr) (c:Nat):FlV B S g (.slice a 0 c) []:=⟨a,c,rfl,.inl rfl⟩
theorem FlV.form {v:Value} {x:List α} {m:Nat} (h:FlV B S g v x) (hm:x.length=m) : ∃ a cap,v = .slice a m cap:=by
  obtain ⟨a,cap,rfl,_⟩:=h
  exact ⟨a,cap,by rw [hm]⟩
theorem rangeAt_part {w:World} {b o:Nat} {cs ds:List Value} (k:Nat) (h:w.rangeAt b o cs) (hd : ∀ j v,ds[j]? = some v->cs[k+j]? = some v):w.rangeAt b (o+k) ds:=λ j v hv=>by
  rw [Nat.add_assoc];exact h (k+j) v (hd j v hv)
theorem flat_part {sz:Nat} (hg : ∀ x,(g x).length=sz) {T:List α} {i:Nat} {x:α} (h:T[i]? = some x) (j:Nat) (v:Value) (hv:(g x)[j]? = some v):(T.flatMap g)[i*sz+j]? = some v:=by
  have hj:j<sz:=by have:=(List.getElem?_eq_some_iff.1 hv).1;rwa [hg] at this
  induction T generalizing i with
  | nil=>simp at h
  | cons y R ih =>
    cases i with
    | zero =>
      simp at h;subst h
      rw [List.flatMap_cons,Nat.zero_mul,Nat.zero_add,List.getElem?_append_left (by rw [hg];exact hj)]
      exact hv
    | succ i =>
      have:=ih (i:=i) (by simpa using h)
      rw [List.flatMap_cons,List.getElem?_append_right (by rw [hg,Nat.add_mul];omega),<-this,hg]
      congr 1
      rw [Nat.add_mul];omega
theorem FlV.at {a:Option Addr} {m c sz:Nat} {x:List α} (h:FlV B S g (.slice a m c) x) (hg : ∀ y,(g y).length=sz) (hp:0<m) : ∃ b o,a=some ⟨b,o,none⟩ /\ ∀ i y,x[i]? = some y -> ∀ w,Own B w S->w.rangeAt b (o+i*sz) (g y):=by
  obtain ⟨a2,c2,e,h1 | ⟨b,o,e1,h1⟩⟩:=h
  . subst h1;injection e with _ e2 _;simp at e2;omega
  . injection e with e2 _ _
    exact ⟨b,o,e2.trans e1,λ i y hy w ho=>rangeAt_part _ (h1 w ho) (λ j v hv=>flat_part hg hy j v hv)⟩
theorem FlV.ofRow {p:Option Addr} {m c e sz:Nat} {x:List α} {l:List Wp} (hg : ∀ y,(g y).length=sz) (hz:0<sz) (hS : ∀ w,Own B w S->w.ownsRow 0 e sz (.slice p m c) m (x.flatMap g)) (hm:x.length=m) (hp:0<m -> ∃ g,p=some ⟨g,0,none⟩):FlV B S g (.slice p m c) x:=by
  refine ⟨p,c,by rw [hm],?_⟩
  rcases Nat.eq_zero_or_pos m with h0 | h0
  . exact .inl (List.eq_nil_of_length_eq_zero (by omega))
  . obtain ⟨g,rfl⟩:=hp h0
    refine .inr ⟨g,0,rfl,λ w ho j v hv=>?_⟩
    have:=(hS w ho).cells (g:=g) rfl j v hv
    rwa [Addr.add_mid] at this
theorem FlV.row {p:Option Addr} {m c e sz:Nat} {x:List α} {l:List Wp} (hg : ∀ y,(g y).length=sz) (hz:0<sz) (hm:x.length=m) (hp:0<m -> ∃ g,p=some ⟨g,0,none⟩):FlV B (row (.slice p m c) e sz m (x.flatMap g)::l) g (.slice p m c) x :=
  FlV.ofRow (l:=l) hg hz (λ _ ho=>ho.row_owns) hm hp
theorem FlV.blk {b m c:Nat} {t:TypeId} {x:List α} {l:List Wp} (hm:x.length=m):FlV B (blk b (x.flatMap g) t::l) g (.slice (some ⟨b,0,none⟩) m c) x :=
  ⟨_,c,by rw [hm],.inr ⟨b,0,rfl,λ w ho=>ho.range (g:=b) (o:=0) (C:=x.flatMap g) (λ j v hj=>by rw [Nat.zero_add];exact hj)⟩⟩
theorem rangeAt_one {w:World} {b o:Nat} {cs:List Value} {j:Nat} {v:Value} (h:w.rangeAt b o cs) (hj:cs[j]? = some v):w.cell? ⟨b,o+j,none⟩=some v:=h j v hj
end
structure Co where
  table:Str
  name:Str
  kind:Int
abbrev coC (c:Co):List Value:=[tV c.table,tV c.name,iV c.kind]
theorem coC_len (c:Co):(coC c).length=3:=rfl
abbrev ccC (c:Str×Int):List Value:=[tV c.1,iV c.2]
structure Tb where
  id:Int
  name:Str
  cols:List (Str×Int)
def TbV (B:Wn) (S:List Wp) (v:Value) (l:List Tb):Prop := ∃ a c,v = .slice a l.length c/\(l=[] \/ ∃ b o,a=some ⟨b,o,none⟩ /\ ∀ i t,l[i]? = some t -> ∃ ca cc ka kl kc ib,(∀ w,Own B w S->w.rangeAt b (o+i*5) [iV t.id,tV t.name,.slice ca t.cols.length cc,.slice ka kl kc,.bool ib])/\FlV B S ccC (.slice ca t.cols.length cc) t.cols)
theorem TbV.mono {B:Wn} {S S':List Wp} {v:Value} {l:List Tb} (h:TbV B S v l) (hs : ∀ w,Own B w S'->Own B w S):TbV B S' v l:=by
  obtain ⟨a,cap,e,h⟩:=h
  refine ⟨a,cap,e,h.imp id ?_⟩
  rintro ⟨b,o,e1,h1⟩
  refine ⟨b,o,e1,λ i t ht=>?_⟩
  obtain ⟨ca,cc,ka,kl,kc,ib,g1,g2⟩:=h1 i t ht
  exact ⟨ca,cc,ka,kl,kc,ib,λ w ho=>g1 w (hs w ho),g2.mono hs⟩
def colsP (t:Tb):List Co:=t.cols.map λ c=>⟨t.name,c.1,c.2⟩
def scopeP (l:List Tb):List Co:=l.flatMap colsP
theorem scopeP_succ {l:List Tb} {i:Nat} {t:Tb} (h:l[i]? = some t):scopeP (l.take (i+1))=scopeP (l.take i)++colsP t:=by
  unfold scopeP
  rw [List.take_add_one,h,List.flatMap_append]
  simp
theorem colsP_succ {t:Tb} {j:Nat} {c:Str×Int} (h:t.cols[j]? = some c):(colsP t).take (j+1)=(colsP t).take j++[⟨t.name,c.1,c.2⟩]:=by
  unfold colsP
  rw [List.take_add_one,List.getElem?_map,h]
  rfl
theorem scopeP_len {l:List Tb} (k:Nat):(scopeP (l.take k)).length<=(l.map λ t=>t.cols.length).sum:=by
  unfold scopeP
  induction l generalizing k with
  | nil=>simp
  | cons t l ih =>
    cases k with
    | zero=>simp
    | succ k =>
      rw [List.take_succ_cons,List.flatMap_cons,List.length_append,List.map_cons,List.sum_cons]
      have:=ih k
      unfold colsP at this ⊢
      simp only [List.length_map]
      omega
theorem Bd.elemC : ElemOk Tryz.prog 79 142 3 40 := .mk' (.agg #[.string .empty,.string .empty,.int .i64 0]) Tryz.underlying79 (by kernel_rfl) rfl (by omega)
theorem Bd.scope (B:Wn) (S:List Wp) (tv:Value) (ts:List Tb) (h:TbV B S tv ts) (hn:ts.length<2^32) (hc:(ts.map λ t=>t.cols.length).sum<2^30):Fn Tryz.prog B 21 #[tv] S (λ u l => ∃ p c,u = .slice p (scopeP ts).length c/\(0<(scopeP ts).length -> ∃ g,p=some ⟨g,0,none⟩)/\l=row (.slice p (scopeP ts).length c) 142 3 (scopeP ts).length ((scopeP ts).flatMap coC)::S):=by
 obtain ⟨a,cap,rfl,hr⟩:=h
 refine Wq 31 Tryz.func21 rfl rfl (nB rfl) (λ F=>?_)
 refine Ts ?_
 refine TR ?_
 refine La rfl ?_
 refine Ld ?_
 refine Ts ?_
 refine TR ?_
 refine La rfl ?_
 refine Ld ?_
 refine Ts ?_
 refine Ts ?_
 refine TR ?_
 refine Lm rfl ?_
 refine Lq (yI (e:=82) (sz:=5) rfl) ?_
 refine Lm rfl ?_
 refine Ld ?_
 refine yH ?_
 refine T.conv (l':=row (.slice none 0 0) 142 3 0 (List.flatMap coC [])::_) (λ w ho=>ho.row_nil 142 3) ?_
 refine zG (λ mz fz lz => ∃ (f0:Fr) (i:Nat) (acc:List Co) (p:Option Addr) (n c:Nat),(i<=ts.length/\acc=scopeP (ts.take i)/\acc.length=n/\(0<n -> ∃ g,p=some ⟨g,0,none⟩))/\mz=ts.length-i/\fz=(upd (upd (upd (upd f0 3 (.slice p n c)) 8 (.slice a ts.length cap)) 9 (.int .i64 ts.length)) 10 (.int .i64 i))/\lz=row (.slice p n c) 142 3 n (acc.flatMap coC)::(S++F)) ?_ ?_
 . refine ⟨_,_,⟨_,0,[],none,0,0,⟨Nat.zero_le _,rfl,rfl,λ h=>absurd h (by omega)⟩,rfl,(Za rfl (Za rfl (Za rfl (Za rfl rfl)))),rfl⟩,Sa⟩
 rintro mz fz lz ⟨f0,i,acc,p,n,c,⟨hi,hacc,hlen,hp⟩,hmz,rfl,rfl⟩
 subst mz
 refine Ts ?_
 refine TR ?_
 refine Lq (yM rfl rfl) ?_
 refine Ld ?_
 refine Ts ?_
 refine yN rfl (λ hlt=>?_) (λ hlt=>?_)
 .
  obtain ⟨b,o,rfl,hro⟩:=hr.resolve_left (by intro e;rw [e] at hlt;simp at hlt;omega)
  obtain ⟨t,ht⟩ : ∃ t,ts[i]? = some t:=⟨_,List.getElem?_eq_getElem (by omega)⟩
  obtain ⟨ca,cc,ka,kl,kc,ib,h1,h2⟩:=hro i t ht
  have hsl:=scopeP_len (l:=ts) (i+1)
  rw [scopeP_succ ht] at hsl
  have hcl:(colsP t).length=t.cols.length:=by simp [colsP]
  rw [List.length_append,hcl,<-hacc,hlen] at hsl
  clear hro hr
  refine Tk ?_
  refine Ts ?_
  refine yH ?_
  refine Ts ?_
  refine TR ?_
  refine Lq (Qi _ (e:=82) (sz:=5) rfl rfl rfl) ?_
  refine Lq (Qt.loadAggW [_,_,_,_,_] rfl (λ w ho=>h1 w (ho.map Sa))) ?_
  refine Le (El [.int .i64 0,.string .empty,.slice none 0 0,.slice none 0 0,.bool false] (by unfold Zf;kernel_rfl) ?_)
  intro g5
  refine L0 (Es [_,_,_,_,_] rfl rfl rfl rfl (by simp) ?_)
  try simp only [splice,lC,lN,dS,cA,tS,tZ,dZ,nA,aN]
  refine Ld ?_
  refine Ts ?_
  refine TR ?_
  refine Lq (Qf (off:=2) rfl) ?_
  refine Lq (Ql rfl rfl) ?_
  refine Lq (yI (e:=140) (sz:=2) rfl) ?_
  refine Lm rfl ?_
  refine Ld ?_
  refine yH ?_
  refine zG (λ mz fz lz => ∃ (f0:Fr) (j:Nat) (acc2:List Co) (p:Option Addr) (n2 c:Nat),(j<=t.cols.length/\acc2=acc++(colsP t).take j/\acc2.length=n2/\n2=n+j/\(0<n2 -> ∃ g,p=some ⟨g,0,none⟩))/\mz=t.cols.length-j/\fz=(upd (upd (upd (upd (upd (upd (upd (upd f0 3 (.slice p n2 c)) 5 (.pointer (some ⟨g5,0,none⟩))) 8 (.slice (some ⟨b,o,none⟩) ts.length cap)) 9 (.int .i64 ts.length)) 10 (.int .i64 i)) 15 (.slice ca t.cols.length cc)) 16 (.int .i64 t.cols.length)) 17 (.int .i64 j))/\lz=row (.slice p n2 c) 142 3 n2 (acc2.flatMap coC)::blk g5 [iV t.id,tV t.name,.slice ca t.cols.length cc,.slice ka kl kc,.bool ib] 82::(S++F)) ?_ ?_
  . refine ⟨_,_,⟨_,0,acc,p,n,c,⟨Nat.zero_le _,by simp,hlen,rfl,hp⟩,rfl,(Za rfl (Za rfl (Za rfl (Za rfl (Za rfl (Za rfl (Za rfl (Za rfl rfl)))))))),rfl⟩,Sa⟩
  rintro mz fz lz ⟨f0,j,acc2,p,n2,c,⟨hj,hacc2,hlen2,hn2,hp2⟩,hmz,rfl,rfl⟩
  subst mz
  refine Ts ?_
  refine TR ?_
  refine Lq (yM rfl rfl) ?_
  refine Ld ?_
  refine Ts ?_
  refine yN rfl (λ hlt2=>?_) (λ hlt2=>?_)
  .
   obtain ⟨cb,co,rfl,hcr⟩:=h2.at (sz:=2) (λ _=>rfl) (by omega)
   obtain ⟨q,hq⟩ : ∃ q,t.cols[j]? = some q:=⟨_,List.getElem?_eq_getElem (by omega)⟩
   have hq1:=hcr j q hq
   refine Tk ?_
   refine Ts ?_
   refine yH ?_
   refine Ts ?_
   refine TR ?_
   refine Lq (Qi _ (e:=140) (sz:=2) rfl rfl rfl) ?_
   refine Lq (Qt.loadAggW [_,_] rfl (λ w ho=>hq1 w (ho.map Sa))) ?_
   refine Le (El [.string .empty,.int .i64 0] (by unfold Zf;kernel_rfl) ?_)
   intro g7
   refine L0 (Es [_,_] rfl rfl rfl rfl (by simp) ?_)
   try simp only [splice,lC,lN,dS,cA,tS,tZ,dZ,nA,aN]
   refine Ld ?_
   refine TR ?_
   refine Lm rfl ?_
   refine Lq (Qf (off:=1) rfl) ?_
   refine Lq (Ql rfl rfl) ?_
   refine Lq (QL [_,_] rfl ⟨rfl,rfl,trivial⟩) ?_
   refine Lq (z8 [(0,1),(1,2)] [.string .empty,.string .empty,.int .i64 0] [_,_,_] [(0,_),(1,_)] (by unfold Zf;kernel_rfl) rfl rfl) ?_
   refine Le (zK [_,_,_] (e:=142) (sz:=3) ⟨.agg #[.string .empty,.string .empty,.int .i64 0],by kernel_rfl,rfl⟩ rfl rfl rfl ?_)
   intro g26
   refine Le (Ea Bd.elemC rfl rfl (SrcOf.blk (by kernel_rfl) rfl (by simp [Value.oneCell'])) (by unfold maxLen;omega) ?_)
   rintro p4 c4 hp4
   try simp only [cA,nA]
   rw [show acc2.flatMap coC++[tV t.name,tV q.1,iV q.2]=(acc2++[(⟨t.name,q.1,q.2⟩:Co)]).flatMap coC by simp]
   refine La rfl ?_
   refine Ld ?_
   refine TR ?_
   refine Lq (Qd rfl rfl (Ze)) ?_
   refine Lm rfl ?_
   refine Ld ?_
   refine ⟨_,?_,_,⟨_,j+1,acc2++[⟨t.name,q.1,q.2⟩],p4,n2+1,c4,⟨by omega,by rw [hacc2,colsP_succ hq,List.append_assoc],by simp [hlen2],by omega,hp4⟩,rfl,(Za rfl (Za rfl (Za rfl (Za rfl (Za rfl (Za rfl (Za rfl (Za rfl rfl)))))))),rfl⟩,Sa⟩
   omega
  obtain rfl:t.cols.length=j:=by omega
  refine zB ?_
  refine TR ?_
  refine Lq (Qd rfl rfl (Ze)) ?_
  refine Lm rfl ?_
  refine Ld ?_
  refine ⟨_,?_,_,⟨_,i+1,acc2,p,n2,c,⟨by omega,by rw [hacc2,scopeP_succ ht,hacc,show List.take t.cols.length (colsP t)=colsP t from List.take_of_length_le (by rw [hcl];exact Nat.le_refl _)],hlen2,hp2⟩,rfl,(Za rfl (Za rfl (Za rfl (Za rfl rfl)))),rfl⟩,Sa⟩
  omega
 obtain rfl:ts.length=i:=by omega
 rw [List.take_length] at hacc
 subst hacc
 subst hlen
 refine zB ?_
 refine Ts ?_
 refine TR ?_
 refine Lm rfl ?_
 refine La rfl ?_
 refine Ld ?_
 refine T.ret ?_
 exact ⟨.inl rfl,_,_,res [_] rfl ⟨rvT rfl,trivial⟩,⟨p,c,rfl,hp,rfl⟩,Sa⟩
def okT (of:Str) (c:Co):Bool:=decide (of=[]\/c.table=of)
def hitB (sc:List Co) (of name:Str) (i:Nat):Bool:=match sc[i]? with | some c=>okT of c && decide (c.name=name) | none=>false
def tabB (sc:List Co) (of:Str) (i:Nat):Bool:=match sc[i]? with | some c=>okT of c | none=>false
def hits (sc:List Co) (of name:Str) (k:Nat):List Nat:=(List.range k).filter (hitB sc of name)
def tabs (sc:List Co) (of:Str) (k:Nat):Nat:=((List.range k).filter (tabB sc of)).length
theorem hits_succ (sc:List Co) (of name:Str) (k:Nat):hits sc of name (k+1)=hits sc of name k++if hitB sc of name k then [k] else []:=by
  unfold hits
  rw [List.range_succ,List.filter_append]
  simp only [List.filter_cons,List.filter_nil]
theorem tabs_succ (sc:List Co) (of:Str) (k:Nat):tabs sc of (k+1)=tabs sc of k+if tabB sc of k then 1 else 0:=by
  unfold tabs
  rw [List.range_succ,List.filter_append,List.length_append]
  simp only [List.filter_cons,List.filter_nil]
  split <;> rfl
theorem hitB_eq {sc:List Co} {of name:Str} {k:Nat} {q:Co} (h:sc[k]? = some q):hitB sc of name k=(okT of q && decide (q.name=name)):=by unfold hitB;rw [h]
theorem tabB_eq {sc:List Co} {of:Str} {k:Nat} {q:Co} (h:sc[k]? = some q):tabB sc of k=okT of q:=by unfold tabB;rw [h]
theorem hits_mono (sc:List Co) (of name:Str) {k m:Nat} (h:k<=m):(hits sc of name k).length<=(hits sc of name m).length:=by
  induction m with
  | zero =>
    obtain rfl:k=0:=by omega
    exact Nat.le_refl _
  | succ m ih =>
    by_cases e:k=m+1
    . rw [e];exact Nat.le_refl _
    . rw [hits_succ,List.length_append];have:=ih (by omega);omega
theorem hits_lt {sc:List Co} {of name:Str} {k i:Nat} (h:i∈hits sc of name k):i<k/\i<sc.length:=by
  unfold hits at h
  obtain ⟨h1,h2⟩:=List.mem_filter.1 h
  refine ⟨List.mem_range.1 h1,?_⟩
  unfold hitB at h2
  split at h2
  . rename_i c hc;exact (List.getElem?_eq_some_iff.1 hc).1
  . cases h2
theorem tabs_le (sc:List Co) (of:Str) (k:Nat):tabs sc of k<=k:=by
  unfold tabs
  have:=List.length_filter_le (tabB sc of) (List.range k)
  rwa [List.length_range] at this
def findC (sc:List Co) (of name:Str):Nat×Int :=
  if 2<=(hits sc of name sc.length).length then (0,173)
  else if of≠[]/\tabs sc of sc.length=0 then (0,160)
  else match hits sc of name sc.length with
    | []=>(0,161)
    | i::_=>(i,0)
def headI (l:List Nat):Int:=match l with | [] => -1 | i::_=>i
theorem Bd.find (B:Wn) (S:List Wp) (a:Option Addr) (m c:Nat) (sc:List Co) (of name:Str) (h:FlV B S coC (.slice a m c) sc) (hm:sc.length=m) (hn:m<2^32):Fn Tryz.prog B 49 #[.slice a m c,tV of,tV name] S (λ u l=>u = .tuple #[iV (findC sc of name).1,iV (findC sc of name).2]/\l=S):=by
 refine Ws 51 Tryz.func49 rfl rfl (nB rfl) (λ F=>?_)
 refine Ts ?_
 refine TR ?_
 refine La rfl ?_
 refine La rfl ?_
 refine Ld ?_
 refine Ts ?_
 refine TR ?_
 refine La rfl ?_
 refine La rfl ?_
 refine Ld ?_
 refine Ts ?_
 refine Ts ?_
 refine TR ?_
 refine Lm rfl ?_
 refine Lq (yI (e:=142) (sz:=3) rfl) ?_
 refine Lm rfl ?_
 refine Ld ?_
 refine yH ?_
 refine zG (λ mz fz lz => ∃ (f0:Fr) (k:Nat) (at0 tb:Int),(k<=m/\(hits sc of name k).length<=1/\at0=headI (hits sc of name k)/\tb=(tabs sc of k:Int))/\mz=m-k/\fz=(upd (upd (upd (upd (upd (upd (upd f0 1 (tV of)) 2 (tV name)) 8 (iV at0)) 9 (iV tb)) 12 (.slice a m c)) 13 (.int .i64 m)) 14 (.int .i64 k))/\lz=S++F) ?_ ?_
 . refine ⟨_,_,⟨_,0,-1,0,⟨Nat.zero_le _,Nat.zero_le _,rfl,rfl⟩,rfl,(Za rfl (Za rfl (Za rfl (Za rfl (Za rfl (Za rfl (Za rfl rfl))))))),rfl⟩,Sa⟩
 rintro mz fz lz ⟨f0,k,at0,tb,⟨hk,hh,hat0,htb⟩,hmz,rfl,rfl⟩
 subst mz
 have htl:=tabs_le sc of k
 refine Ts ?_
 refine TR ?_
 refine Lq (yM rfl rfl) ?_
 refine Ld ?_
 refine Ts ?_
 refine yN rfl (λ hlt=>?_) (λ hlt=>?_)
 .
  obtain ⟨b,o,rfl,hr⟩:=h.at (sz:=3) coC_len (by omega)
  obtain ⟨q,hq⟩ : ∃ q,sc[k]? = some q:=⟨_,List.getElem?_eq_getElem (by omega)⟩
  have hq1:=hr k q hq
  refine Tk ?_
  refine Ts ?_
  refine yH ?_
  refine Ts ?_
  refine TR ?_
  refine Lm rfl ?_
  refine Lq (Qi _ (e:=142) (sz:=3) rfl rfl rfl) ?_
  refine Lq (Qt.loadAggW [_,_,_] rfl (λ w ho=>hq1 w (ho.map Sa))) ?_
  refine Le (El [.string .empty,.string .empty,.int .i64 0] (by unfold Zf;kernel_rfl) ?_)
  intro g11
  refine La rfl ?_
  refine L0 (Es [_,_,_] rfl rfl rfl rfl (by simp) ?_)
  try simp only [splice,lC,lN,dS,cA,tS,tZ,dZ,nA,aN]
  refine Ld ?_
  refine Ts ?_
  refine Ts ?_
  refine TR ?_
  refine Lm rfl ?_
  refine Lq (Qt.neqS rfl rfl) ?_
  refine Lm rfl ?_
  refine zZ (t:=21) rfl (λ hof=>?_) (λ hof=>?_)
  .
   try replace hof:=of_decide_eq_true hof
   refine Lq (Q0 rfl) ?_
   refine Lq (Ql rfl rfl) ?_
   refine Lm rfl ?_
   refine Lq (Qt.neqS rfl rfl) ?_
   refine Lq (Qp rfl rfl) ?_
   refine Ld ?_
   refine yN rfl (λ hne=>?_) (λ hne=>?_)
   .
    have hok:okT of q=false:=by unfold okT;exact decide_eq_false (by rintro (e | e);exact hof e;exact hne e)
    have h1:hits sc of name (k+1)=hits sc of name k:=by rw [hits_succ,hitB_eq hq,hok];simp
    have h2:tabs sc of (k+1)=tabs sc of k:=by rw [tabs_succ,tabB_eq hq,hok];rfl
    refine zB ?_
    refine TR ?_
    refine Lq (Qd rfl rfl (Ze)) ?_
    refine Lm rfl ?_
    refine Ld ?_
    refine ⟨_,?_,_,⟨_,k+1,at0,tb,⟨by omega,by rw [h1];exact hh,by rw [h1];exact hat0,by rw [h2];exact htb⟩,rfl,(Za rfl (Za rfl (Za rfl (Za rfl (Za rfl (Za rfl (Za rfl rfl))))))),rfl⟩,Sa⟩
    omega
   have hok:okT of q=true:=by unfold okT;exact decide_eq_true (.inr (Classical.not_not.1 hne))
   have h2:tabs sc of (k+1)=tabs sc of k+1:=by rw [tabs_succ,tabB_eq hq,hok];rfl
   refine Tk ?_
   refine Ts ?_
   refine TR ?_
   refine Lm rfl ?_
   refine Lq (Qd rfl rfl (Ze)) ?_
   refine La rfl ?_
   refine Ld ?_
   refine yH ?_
   refine Ts ?_
   refine TR ?_
   refine Lq (Qf (off:=1) rfl) ?_
   refine Lq (Q0 rfl) ?_
   refine Lq (Ql rfl rfl) ?_
   refine Lm rfl ?_
   refine Lq (Qt.neqS rfl rfl) ?_
   refine La rfl ?_
   refine Ld ?_
   refine yN rfl (λ hnm=>?_) (λ hnm=>?_)
   .
    have h1:hits sc of name (k+1)=hits sc of name k:=by rw [hits_succ,hitB_eq hq,hok,decide_eq_false hnm];simp
    refine Tk ?_
    refine TR ?_
    refine Lq (Qd rfl rfl (Ze)) ?_
    refine Lm rfl ?_
    refine Ld ?_
    refine ⟨_,?_,_,⟨_,k+1,at0,tb+1,⟨by omega,by rw [h1];exact hh,by rw [h1];exact hat0,by rw [h2,htb];rfl⟩,rfl,(Za rfl (Za rfl (Za rfl (Za rfl (Za rfl (Za rfl (Za rfl rfl))))))),rfl⟩,Sa⟩
    omega
   have h1:hits sc of name (k+1)=hits sc of name k++[k]:=by rw [hits_succ,hitB_eq hq,hok,decide_eq_true (Classical.not_not.1 hnm)];simp
   refine Ts ?_
   refine TR ?_
   refine Lm rfl ?_
   refine Lq (zX rfl rfl) ?_
   refine La rfl ?_
   refine Ld ?_
   refine yN rfl (λ hat=>?_) (λ hat=>?_)
   .
    have h3:=hits_mono sc of name (k:=k+1) (m:=sc.length) (by omega)
    have h4:findC sc of name=(0,173):=by
     unfold findC
     rw [if_pos]
     rw [h1,List.length_append] at h3
     cases e:hits sc of name k with
     | nil=>rw [hat0,e] at hat;simp [headI] at hat
     | cons x r=>rw [e] at h3;simp at h3;omega
    refine Ts ?_
    refine TR ?_
    refine La rfl ?_
    refine La rfl ?_
    refine Ld ?_
    refine T.ret ?_
    exact ⟨.inl rfl,_,_,res [_,_] rfl ⟨rvT rfl,rvT rfl,trivial⟩,⟨by rw [h4];rfl,rfl⟩,Sa⟩
   have h3:hits sc of name k=[]:=by
    cases e:hits sc of name k with
    | nil=>rfl
    | cons x r=>rw [hat0,e] at hat;simp only [headI] at hat;omega
   refine TR ?_
   refine Lm rfl ?_
   refine La rfl ?_
   refine Ld ?_
   refine TR ?_
   refine Lq (Qd rfl rfl (Ze)) ?_
   refine Lm rfl ?_
   refine Ld ?_
   refine ⟨_,?_,_,⟨_,k+1,k,tb+1,⟨by omega,by rw [h1,h3];simp,by rw [h1,h3];rfl,by rw [h2,htb];rfl⟩,rfl,(Za rfl (Za rfl (Za rfl (Za rfl (Za rfl (Za rfl (Za rfl rfl))))))),rfl⟩,Sa⟩
   omega
  try replace hof:=of_decide_eq_false hof
  refine Ls rfl ?_
  refine Ls rfl ?_
  refine Ls rfl ?_
  refine Ls rfl ?_
  refine Lq (Qp rfl rfl) ?_
  refine Ld ?_
  refine yQ rfl ?_
  have hok:okT of q=true:=by unfold okT;exact decide_eq_true (.inl (Classical.not_not.1 hof))
  have h2:tabs sc of (k+1)=tabs sc of k+1:=by rw [tabs_succ,tabB_eq hq,hok];rfl
  refine Tk ?_
  refine Ts ?_
  refine TR ?_
  refine Lm rfl ?_
  refine Lq (Qd rfl rfl (Ze)) ?_
  refine La rfl ?_
  refine Ld ?_
  refine yH ?_
  refine Ts ?_
  refine TR ?_
  refine Lq (Qf (off:=1) rfl) ?_
  refine Lq (Q0 rfl) ?_
  refine Lq (Ql rfl rfl) ?_
  refine Lm rfl ?_
  refine Lq (Qt.neqS rfl rfl) ?_
  refine La rfl ?_
  refine Ld ?_
  refine yN rfl (λ hnm=>?_) (λ hnm=>?_)
  .
   have h1:hits sc of name (k+1)=hits sc of name k:=by rw [hits_succ,hitB_eq hq,hok,decide_eq_false hnm];simp
   refine Tk ?_
   refine TR ?_
   refine Lq (Qd rfl rfl (Ze)) ?_
   refine Lm rfl ?_
   refine Ld ?_
   refine ⟨_,?_,_,⟨_,k+1,at0,tb+1,⟨by omega,by rw [h1];exact hh,by rw [h1];exact hat0,by rw [h2,htb];rfl⟩,rfl,(Za rfl (Za rfl (Za rfl (Za rfl (Za rfl (Za rfl (Za rfl rfl))))))),rfl⟩,Sa⟩
   omega
  have h1:hits sc of name (k+1)=hits sc of name k++[k]:=by rw [hits_succ,hitB_eq hq,hok,decide_eq_true (Classical.not_not.1 hnm)];simp
  refine Ts ?_
  refine TR ?_
  refine Lm rfl ?_
  refine Lq (zX rfl rfl) ?_
  refine La rfl ?_
  refine Ld ?_
  refine yN rfl (λ hat=>?_) (λ hat=>?_)
  .
   have h3:=hits_mono sc of name (k:=k+1) (m:=sc.length) (by omega)
   have h4:findC sc of name=(0,173):=by
    unfold findC
    rw [if_pos]
    rw [h1,List.length_append] at h3
    cases e:hits sc of name k with
    | nil=>rw [hat0,e] at hat;simp [headI] at hat
    | cons x r=>rw [e] at h3;simp at h3;omega
   refine Ts ?_
   refine TR ?_
   refine La rfl ?_
   refine La rfl ?_
   refine Ld ?_
   refine T.ret ?_
   exact ⟨.inl rfl,_,_,res [_,_] rfl ⟨rvT rfl,rvT rfl,trivial⟩,⟨by rw [h4];rfl,rfl⟩,Sa⟩
  have h3:hits sc of name k=[]:=by
   cases e:hits sc of name k with
   | nil=>rfl
   | cons x r=>rw [hat0,e] at hat;simp only [headI] at hat;omega
  refine TR ?_
  refine Lm rfl ?_
  refine La rfl ?_
  refine Ld ?_
  refine TR ?_
  refine Lq (Qd rfl rfl (Ze)) ?_
  refine Lm rfl ?_
  refine Ld ?_
  refine ⟨_,?_,_,⟨_,k+1,k,tb+1,⟨by omega,by rw [h1,h3];simp,by rw [h1,h3];rfl,by rw [h2,htb];rfl⟩,rfl,(Za rfl (Za rfl (Za rfl (Za rfl (Za rfl (Za rfl (Za rfl rfl))))))),rfl⟩,Sa⟩
  omega
 obtain rfl:m=k:=by omega
 refine zB ?_
 refine Ts ?_
 refine yH ?_
 refine Ts ?_
 refine TR ?_
 refine Lm rfl ?_
 refine Lq (Qt.neqS rfl rfl) ?_
 refine Lm rfl ?_
 refine zZ (t:=43) rfl (λ hof=>?_) (λ hof=>?_)
 .
  try replace hof:=of_decide_eq_true hof
  refine Lm rfl ?_
  refine Lq (yU rfl rfl) ?_
  refine Lq (Qp rfl rfl) ?_
  refine La rfl ?_
  refine Ld ?_
  refine yN rfl (λ ht=>?_) (λ ht=>?_)
  .
   have h4:findC sc of name=(0,160):=by unfold findC;rw [hm,if_neg (by omega),if_pos ⟨hof,by omega⟩]
   refine Ts ?_
   refine TR ?_
   refine La rfl ?_
   refine La rfl ?_
   refine Ld ?_
   refine T.ret ?_
   exact ⟨.inl rfl,_,_,res [_,_] rfl ⟨rvT rfl,rvT rfl,trivial⟩,⟨by rw [h4];rfl,rfl⟩,Sa⟩
  have hnt : ¬ (of≠[]/\tabs sc of sc.length=0):=by rw [hm];omega
  refine Ts ?_
  refine TR ?_
  refine Lm rfl ?_
  refine Lq (yM rfl rfl) ?_
  refine La rfl ?_
  refine Ld ?_
  refine yN rfl (λ hat=>?_) (λ hat=>?_)
  .
   have h4:findC sc of name=(0,161):=by
    unfold findC
    rw [if_neg (by rw [hm];omega),if_neg hnt]
    rw [hm]
    cases e:hits sc of name m with
    | nil=>rfl
    | cons x r=>rw [hat0,e] at hat;simp only [headI] at hat;omega
   refine Ts ?_
   refine TR ?_
   refine La rfl ?_
   refine La rfl ?_
   refine Ld ?_
   refine T.ret ?_
   exact ⟨.inl rfl,_,_,res [_,_] rfl ⟨rvT rfl,rvT rfl,trivial⟩,⟨by rw [h4];rfl,rfl⟩,Sa⟩
  have h4:iV (findC sc of name).1=iV (headI (hits sc of name m))/\(findC sc of name).2=0:=by
   unfold findC
   rw [if_neg (by rw [hm];omega),if_neg hnt]
   rw [hm]
   cases e:hits sc of name m with
   | nil=>rw [hat0,e] at hat;simp [headI] at hat
   | cons x r=>exact ⟨rfl,rfl⟩
  refine Tk ?_
  refine Ts ?_
  refine TR ?_
  refine Lm rfl ?_
  refine La rfl ?_
  refine La rfl ?_
  refine Ld ?_
  refine T.ret ?_
  exact ⟨.inl rfl,_,_,res [_,_] rfl ⟨rvT rfl,rvT rfl,trivial⟩,⟨by rw [h4.1,h4.2,<-hat0];rfl,rfl⟩,Sa⟩
 try replace hof:=of_decide_eq_false hof
 refine Ls rfl ?_
 refine Ls rfl ?_
 refine Lq (Qp rfl rfl) ?_
 refine La rfl ?_
 refine Ld ?_
 refine yQ rfl ?_
 have hnt : ¬ (of≠[]/\tabs sc of sc.length=0):=λ e=>hof e.1
 refine Ts ?_
 refine TR ?_
 refine Lm rfl ?_
 refine Lq (yM rfl rfl) ?_
 refine La rfl ?_
 refine Ld ?_
 refine yN rfl (λ hat=>?_) (λ hat=>?_)
 .
  have h4:findC sc of name=(0,161):=by
   unfold findC
   rw [if_neg (by rw [hm];omega),if_neg hnt]
   rw [hm]
   cases e:hits sc of name m with
   | nil=>rfl
   | cons x r=>rw [hat0,e] at hat;simp only [headI] at hat;omega
  refine Ts ?_
  refine TR ?_
  refine La rfl ?_
  refine La rfl ?_
  refine Ld ?_
  refine T.ret ?_
  exact ⟨.inl rfl,_,_,res [_,_] rfl ⟨rvT rfl,rvT rfl,trivial⟩,⟨by rw [h4];rfl,rfl⟩,Sa⟩
 have h4:iV (findC sc of name).1=iV (headI (hits sc of name m))/\(findC sc of name).2=0:=by
  unfold findC
  rw [if_neg (by rw [hm];omega),if_neg hnt]
  rw [hm]
  cases e:hits sc of name m with
  | nil=>rw [hat0,e] at hat;simp [headI] at hat
  | cons x r=>exact ⟨rfl,rfl⟩
 refine Tk ?_
 refine Ts ?_
 refine TR ?_
 refine Lm rfl ?_
 refine La rfl ?_
 refine La rfl ?_
 refine Ld ?_
 refine T.ret ?_
 exact ⟨.inl rfl,_,_,res [_,_] rfl ⟨rvT rfl,rvT rfl,trivial⟩,⟨by rw [h4.1,h4.2,<-hat0];rfl,rfl⟩,Sa⟩
open Go.RowKit
structure C7 where (op kind vkind vint vtext place args:Value)
abbrev c7 (c:C7):List Value:=[c.op,c.kind,c.vkind,c.vint,c.vtext,c.place,c.args]
abbrev tA (c:C7):Value := .agg #[c.op,c.kind,c.vkind,c.vint,c.vtext,c.place,c.args]
structure C5 where (op n text of args:Value)
abbrev c5 (c:C5):List Value:=[c.op,c.n,c.text,c.of,c.args]
abbrev eA (c:C5):Value := .agg #[c.op,c.n,c.text,c.of,c.args]
structure Va where
  kind:Int
  int:Int
  text:Str
abbrev vaC (v:Va):List Value:=[iV v.kind,iV v.int,tV v.text]
abbrev vA (v:Va):Value := .agg #[iV v.kind,iV v.int,tV v.text]
def vZ : Va:=⟨0,0,[]⟩
inductive Ex where
  | mk (op:Str) (n:Int) (text of:Str) (args:List Ex)
inductive Tm where
  | mk (op:Str) (kind:Int) (v:Va) (place:Int) (args:List Tm)
def Tm.op : Tm->Str | .mk op _ _ _ _=>op
def Tm.kind : Tm->Int | .mk _ k _ _ _=>k
def Tm.v : Tm->Va | .mk _ _ v _ _=>v
def Tm.place : Tm->Int | .mk _ _ _ p _=>p
def Tm.args : Tm->List Tm | .mk _ _ _ _ a=>a
inductive TmV (B:Wn) (S:List Wp):Tm->C7->Prop
  | mk (op:Str) (k:Int) (v:Va) (p:Int) (args:List Tm) (av:Value) (css:List C7) (hf:FlV B S c7 av css) (hl:css.length=args.length) (hb:args.length<2^32)
      (hc : ∀ (i:Nat) (t:Tm) (c:C7),args[i]? = some t->css[i]? = some c->TmV B S t c):TmV B S (.mk op k v p args) ⟨tV op,iV k,iV v.kind,iV v.int,tV v.text,iV p,av⟩
inductive ExV (B:Wn) (S:List Wp):Ex->C5->Prop
  | mk (op:Str) (n:Int) (text of:Str) (args:List Ex) (av:Value) (css:List C5) (hf:FlV B S c5 av css) (hl:css.length=args.length) (hb:args.length<2^32) (ht:text.length<2^40)
      (hc : ∀ (i:Nat) (t:Ex) (c:C5),args[i]? = some t->css[i]? = some c->ExV B S t c):ExV B S (.mk op n text of args) ⟨tV op,iV n,tV text,tV of,av⟩
section
variable {B : Wn} {S S':List Wp}
theorem TmV.mono {t:Tm} {c:C7} (h:TmV B S t c) (hs : ∀ w,Own B w S'->Own B w S):TmV B S' t c:=by
  induction h with
  | mk op k v p args av css hf hl hb hc ih=>exact .mk op k v p args av css (hf.mono hs) hl hb ih
theorem ExV.mono {t:Ex} {c:C5} (h:ExV B S t c) (hs : ∀ w,Own B w S'->Own B w S):ExV B S' t c:=by
  induction h with
  | mk op n text of args av css hf hl hb ht hc ih=>exact .mk op n text of args av css (hf.mono hs) hl hb ht ih
theorem TmV.sub {t:Tm} {c:C7} (h:TmV B S t c) (hs:Sub S' S):TmV B S' t c:=h.mono λ _ ho=>ho.map hs
end
def alls (k:Int) (ks:List Int):Bool:=ks.all λ x=>decide (x=k)
theorem alls_succ {k:Int} {ks:List Int} {i:Nat} {x:Int} (h:ks[i]? = some x):alls k (ks.take (i+1))=(alls k (ks.take i) && decide (x=k)):=by
  unfold alls
  rw [List.take_add_one,h,List.all_append]
  simp
theorem alls_false {k:Int} {ks:List Int} {i:Nat} {x:Int} (h:ks[i]? = some x) (hx:x≠k):alls k ks=false:=by
  unfold alls
  rw [List.all_eq_false]
  exact ⟨x,List.mem_of_getElem? h,by simpa using hx⟩
def KsV (css:List C7) (ks:List Int):Prop:=ks.length=css.length /\ ∀ (i:Nat) (c:C7),css[i]? = some c -> ∃ k,ks[i]? = some k/\c.kind=iV k
theorem Bd.neK (B:Wn) (g:Nat) (c:C7) (k kc:Int) (h:c.kind=iV kc):Fn Tryz.prog B 96 #[tA c,.pointer (some ⟨g,0,none⟩)] [blk g [iV k] 3] (λ u l=>u = .bool (decide (kc≠k))/\l=[blk g [iV k] 3]):=by
  obtain ⟨op,kind,vk,vi,vt,pl,ar⟩:=c
  dsimp only at h
  subst h
  refine Wr 8 Tryz.func96 rfl rfl (nB rfl) (λ F=>?_)
  try simp only [cA,nA]
  refine Ts ?_
  refine TR ?_
  refine Le (zL [_,_,_,_,_,_,_] rfl rfl ?_)
  intro g2
  refine La rfl ?_
  refine Ld ?_
  refine Ts ?_
  refine TR ?_
  refine Lq (Qf (off:=1) rfl) ?_
  refine Lq (Ql rfl rfl) ?_
  refine Lq (Ql rfl rfl) ?_
  refine Lq (yW rfl rfl) ?_
  refine La rfl ?_
  refine Ld ?_
  refine T.ret ?_
  exact ⟨.inl rfl,_,_,res [_] rfl ⟨rvT rfl,trivial⟩,⟨rfl,rfl⟩,Sa⟩
theorem Bd.indexK (B:Wn) (S:List Wp) (g:Nat) (a:Option Addr) (m c:Nat) (css:List C7) (ks:List Int) (k:Int) (h:FlV B S c7 (.slice a m c) css) (hm:css.length=m) (hn:m<2^32) (hk:KsV css ks):Fn Tryz.prog B 133 #[.slice a m c,.func (.func 96) #[] #[.pointer (some ⟨g,0,none⟩)]] (blk g [iV k] 3::S) (λ u l=>(∃ r:Int,u=iV r/\decide (0<=r) = !alls k ks)/\l=blk g [iV k] 3::S):=by
 refine Wr 19 Tryz.func133 rfl rfl (nB rfl) (λ F=>?_)
 try simp only [cA,nA]
 refine Ts ?_
 refine TR ?_
 refine La rfl ?_
 refine Ld ?_
 refine Ts ?_
 refine Ts ?_
 refine TR ?_
 refine Lm rfl ?_
 refine Lq (yI (e:=27) (sz:=7) rfl) ?_
 refine Lm rfl ?_
 refine Ld ?_
 refine yH ?_
 refine zG (λ mz fz lz => ∃ (f0:Fr) (i:Nat),(i<=m/\alls k (ks.take i)=true)/\mz=m-i/\fz=(upd (upd (upd (upd (upd f0 0 (.slice a m c)) 1 (.func (.func 96) #[] #[.pointer (some ⟨g,0,none⟩)])) 6 (.slice a m c)) 7 (.int .i64 m)) 8 (.int .i64 i))/\lz=blk g [iV k] 3::(S++F)) ?_ ?_
 . refine ⟨_,_,⟨_,0,⟨Nat.zero_le _,rfl⟩,rfl,(Za rfl (Za rfl (Za rfl (Za rfl (Za rfl rfl))))),rfl⟩,Sa⟩
 rintro mz fz lz ⟨f0,i,⟨hi,ha⟩,hmz,rfl,rfl⟩
 subst mz
 refine Ts ?_
 refine TR ?_
 refine Lq (yM rfl rfl) ?_
 refine Ld ?_
 refine Ts ?_
 refine yN rfl (λ hlt=>?_) (λ hlt=>?_)
 .
  obtain ⟨b,o,rfl,hr⟩:=h.at (sz:=7) (λ _=>rfl) (by omega)
  obtain ⟨q,hq⟩ : ∃ q,css[i]? = some q:=⟨_,List.getElem?_eq_getElem (by omega)⟩
  obtain ⟨kc,hkc,hqk⟩:=hk.2 i q hq
  have hq1:=hr i q hq
  refine Tk ?_
  refine Ts ?_
  refine yH ?_
  refine Ts ?_
  refine TR ?_
  refine Lm rfl ?_
  refine La rfl ?_
  refine Ld ?_
  refine Ts ?_
  refine TR ?_
  refine Lm rfl ?_
  refine Lm rfl ?_
  refine Lm rfl ?_
  refine Lq (Qi _ (e:=27) (sz:=7) rfl rfl rfl) ?_
  refine Lq (Qt.loadAggW (c7 q) rfl (λ w ho=>hq1 w (ho.map Sa))) ?_
  refine Le (ZE [tA q] [.pointer (some ⟨g,0,none⟩)] (Bd.neK B g q k kc hqk) Tryz.func96 rfl rfl rfl rfl rfl ?_)
  rintro _ _ ⟨rfl,rfl⟩
  try simp only [cA,nA]
  refine Ld ?_
  refine yN rfl (λ hne=>?_) (λ hne=>?_)
  .
   refine Ts ?_
   refine TR ?_
   refine Lm rfl ?_
   refine La rfl ?_
   refine Ld ?_
   refine T.ret ?_
   exact ⟨.inl rfl,_,_,res [_] rfl ⟨rvT rfl,trivial⟩,⟨⟨i,rfl,by rw [alls_false hkc hne];exact decide_eq_true (by omega)⟩,rfl⟩,Sa⟩
  refine Tk ?_
  refine TR ?_
  refine Lq (Qd rfl rfl (Ze)) ?_
  refine Lm rfl ?_
  refine Ld ?_
  refine ⟨_,?_,_,⟨_,i+1,⟨by omega,by rw [alls_succ hkc,ha,decide_eq_true (Classical.not_not.1 hne)];rfl⟩,rfl,(Za rfl (Za rfl (Za rfl (Za rfl (Za rfl rfl))))),rfl⟩,Sa⟩
  omega
 obtain rfl:m=i:=by omega
 rw [List.take_of_length_le (by rw [hk.1,hm];exact Nat.le_refl _)] at ha
 refine zB ?_
 refine Ts ?_
 refine TR ?_
 refine La rfl ?_
 refine Ld ?_
 refine T.ret ?_
 exact ⟨.inl rfl,_,_,res [_] rfl ⟨rvT rfl,trivial⟩,⟨⟨-1,rfl,by rw [ha];rfl⟩,rfl⟩,Sa⟩
theorem Bd.containsK (B:Wn) (S:List Wp) (g:Nat) (a:Option Addr) (m c:Nat) (css:List C7) (ks:List Int) (k:Int) (h:FlV B S c7 (.slice a m c) css) (hm:css.length=m) (hn:m<2^32) (hk:KsV css ks):Fn Tryz.prog B 95 #[.slice a m c,.func (.func 96) #[] #[.pointer (some ⟨g,0,none⟩)]] (blk g [iV k] 3::S) (λ u l=>u = .bool (!alls k ks)/\l=blk g [iV k] 3::S):=by
  refine Wr 9 Tryz.func95 rfl rfl (nB rfl) (λ F=>?_)
  try simp only [cA,nA]
  refine Ts ?_
  refine TR ?_
  refine La rfl ?_
  refine Ld ?_
  refine Ts ?_
  refine TR ?_
  refine Lm rfl ?_
  refine Lm rfl ?_
  refine Le (Ec (Bd.indexK B S g a m c css ks k h hm hn hk) Tryz.func133 rfl rfl rfl ?_)
  rintro _ _ ⟨⟨r,rfl,hr⟩,rfl⟩
  try simp only [cA,nA]
  refine Lq (zX rfl rfl) ?_
  refine La rfl ?_
  refine Ld ?_
  rw [<-hr]
  refine T.ret ?_
  exact ⟨.inl rfl,_,_,res [_] rfl ⟨rvT rfl,trivial⟩,⟨rfl,rfl⟩,Sa⟩
theorem Bd.allK (B:Wn) (S:List Wp) (g:Nat) (a:Option Addr) (m c:Nat) (css:List C7) (ks:List Int) (k:Int) (h:FlV B S c7 (.slice a m c) css) (hm:css.length=m) (hn:m<2^32) (hk:KsV css ks):Fn Tryz.prog B 94 #[iV k,.pointer (some ⟨g,0,none⟩)] (blk g [.slice a m c] 25::S) (λ u l=>u = .bool (alls k ks)/\l=blk g [.slice a m c] 25::S):=by
  refine Wr 8 Tryz.func94 rfl rfl (nB rfl) (λ F=>?_)
  try simp only [cA,nA]
  refine Ts ?_
  refine TR ?_
  refine Le (zL [_] rfl rfl ?_)
  intro g2
  refine La rfl ?_
  refine Ld ?_
  refine Ts ?_
  refine TR ?_
  refine Lq (Ql rfl rfl) ?_
  refine Lq (Y4 [_] rfl) ?_
  refine Le (Ec (Bd.containsK B S g2 a m c css ks k h hm hn hk) Tryz.func95 rfl rfl rfl ?_)
  rintro _ _ ⟨rfl,rfl⟩
  try simp only [cA,nA]
  refine Lq (Y2 rfl) ?_
  refine La rfl ?_
  refine Ld ?_
  rw [show (!alls k ks) = !alls k ks from rfl]
  refine T.ret ?_
  exact ⟨.inl rfl,_,_,res [_] rfl ⟨rvT rfl,trivial⟩,⟨by simp [outV],rfl⟩,Sa⟩
open Go.RowKit
abbrev cmpOp (op:Str):Prop:=op=[61]\/op=[60,62]\/op=[60,61]\/op=[62,61]\/op=[60]\/op=[62]
def kindP (op:Str) (ks:List Int):Int×Bool :=
  if op=[79,82]\/op=[65,78,68] then (3,decide ((ks.length:Int)=2) && alls 3 ks)
  else if op=[78,79,84] then (3,decide ((ks.length:Int)=1) && alls 3 ks)
  else if cmpOp op then (3,decide ((ks.length:Int)=2) && (alls 1 ks || alls 2 ks))
  else if op=[45] then (1,(decide ((ks.length:Int)=1) || decide ((ks.length:Int)=2)) && alls 1 ks)
  else if op=[43]\/op=[42] then (1,decide ((ks.length:Int)=2) && alls 1 ks)
  else (0,false)
abbrev kClo (g:Nat):Value := .func (.func 94) #[] #[.pointer (some ⟨g,0,none⟩)]
theorem Bd.kind (B:Wn) (S:List Wp) (op:Str) (a:Option Addr) (m c:Nat) (css:List C7) (ks:List Int) (h:FlV B S c7 (.slice a m c) css) (hm:css.length=m) (hn:m<2^32) (hk:KsV css ks):Fn Tryz.prog B 50 #[tV op,.slice a m c] S (λ u l=>u = .tuple #[iV (kindP op ks).1,.bool (kindP op ks).2]/\l=S):=by
 have hkl:ks.length=m:=hk.1.trans hm
 refine Wr 70 Tryz.func50 rfl rfl (nB rfl) (λ F=>?_)
 refine Ts ?_
 refine TR ?_
 refine Le (zL [_] rfl rfl ?_)
 intro g3
 refine La rfl ?_
 refine La rfl ?_
 refine Ld ?_
 refine Ts ?_
 refine TR ?_
 refine Lq (Y4 [_] rfl) ?_
 refine La rfl ?_
 refine Ld ?_
 refine Ts ?_
 refine Ts ?_
 refine TR ?_
 refine Lm rfl ?_
 refine Ld ?_
 refine yH ?_
 refine T.cut (λ fz lz => ∃ (f0:Fr) (b9:Bool),(b9=true↔(op=[79,82]\/op=[65,78,68]))/\fz=(upd (upd (upd (upd f0 3 (.pointer (some ⟨g3,0,none⟩))) 6 (kClo g3)) 8 (tV op)) 9 (.bool b9))/\lz=blk g3 [.slice a m c] 25::(S++F)) ?_ ?_
 .
  refine Ts ?_
  refine TR ?_
  refine Lq (Z3 rfl rfl) ?_
  refine La rfl ?_
  refine Ld ?_
  refine yN rfl (λ h1=>?_) (λ h1=>?_)
  .
   refine Tk ?_
   exact ⟨_,⟨_,decide (op=[79,82]),by simp [h1],(Za rfl (Za rfl (Za rfl (Za rfl rfl)))),rfl⟩,Sa⟩
  refine TR ?_
  refine Lq (Z3 rfl rfl) ?_
  refine La rfl ?_
  refine Ld ?_
  exact ⟨_,⟨_,decide (op=[65,78,68]),by simp [h1],(Za rfl (Za rfl (Za rfl (Za rfl rfl)))),rfl⟩,Sa⟩
 rintro fz lz ⟨f0,b9,h9,rfl,rfl⟩
 refine Y9 rfl (λ h1=>?_) (λ h1=>?_)
 .
  have hkp:kindP op ks=(3,decide ((m:Int)=2) && alls 3 ks):=by unfold kindP;rw [if_pos (h9.1 h1),hkl]
  refine Ts ?_
  refine TR ?_
  refine Lq (Ql rfl rfl) ?_
  refine Lq (yI (e:=27) (sz:=7) rfl) ?_
  refine Lq (yU rfl rfl) ?_
  refine Lm rfl ?_
  refine zZ (t:=15) rfl (λ hl=>?_) (λ hl=>?_)
  .
   try replace hl:=of_decide_eq_true hl
   refine Lm rfl ?_
   refine Le (ZE [iV 3] [.pointer (some ⟨g3,0,none⟩)] (Bd.allK B S g3 a m c css ks 3 h hm hn hk) Tryz.func94 rfl rfl rfl rfl rfl ?_)
   rintro _ _ ⟨rfl,rfl⟩
   try simp only [cA,nA]
   refine Lq (Qp rfl rfl) ?_
   refine La rfl ?_
   refine La rfl ?_
   refine Ld ?_
   refine T.ret ?_
   exact ⟨.inl rfl,_,_,res [_,_] rfl ⟨rvT rfl,rvT rfl,trivial⟩,⟨by rw [hkp,decide_eq_true hl];rfl,rfl⟩,Sa⟩
  try replace hl:=of_decide_eq_false hl
  refine Ls rfl ?_
  refine Ls rfl ?_
  refine Lq (Qp rfl rfl) ?_
  refine La rfl ?_
  refine La rfl ?_
  refine Ld ?_
  refine T.ret ?_
  exact ⟨.inl rfl,_,_,res [_,_] rfl ⟨rvT rfl,rvT rfl,trivial⟩,⟨by rw [hkp,decide_eq_false hl];rfl,rfl⟩,Sa⟩
 have h9n : ¬ (op=[79,82]\/op=[65,78,68]):=λ e=>by rw [h9.2 e] at h1;cases h1
 refine Ts ?_
 refine TR ?_
 refine Lq (Z3 rfl rfl) ?_
 refine La rfl ?_
 refine Ld ?_
 refine yN rfl (λ h2=>?_) (λ h2=>?_)
 .
  have hkp:kindP op ks=(3,decide ((m:Int)=1) && alls 3 ks):=by unfold kindP;rw [if_neg h9n,if_pos h2,hkl]
  refine Ts ?_
  refine TR ?_
  refine Lq (Ql rfl rfl) ?_
  refine Lq (yI (e:=27) (sz:=7) rfl) ?_
  refine Lq (yU rfl rfl) ?_
  refine Lm rfl ?_
  refine zZ (t:=24) rfl (λ hl=>?_) (λ hl=>?_)
  .
   try replace hl:=of_decide_eq_true hl
   refine Lm rfl ?_
   refine Le (ZE [iV 3] [.pointer (some ⟨g3,0,none⟩)] (Bd.allK B S g3 a m c css ks 3 h hm hn hk) Tryz.func94 rfl rfl rfl rfl rfl ?_)
   rintro _ _ ⟨rfl,rfl⟩
   try simp only [cA,nA]
   refine Lq (Qp rfl rfl) ?_
   refine La rfl ?_
   refine La rfl ?_
   refine Ld ?_
   refine T.ret ?_
   exact ⟨.inl rfl,_,_,res [_,_] rfl ⟨rvT rfl,rvT rfl,trivial⟩,⟨by rw [hkp,decide_eq_true hl];rfl,rfl⟩,Sa⟩
  try replace hl:=of_decide_eq_false hl
  refine Ls rfl ?_
  refine Ls rfl ?_
  refine Lq (Qp rfl rfl) ?_
  refine La rfl ?_
  refine La rfl ?_
  refine Ld ?_
  refine T.ret ?_
  exact ⟨.inl rfl,_,_,res [_,_] rfl ⟨rvT rfl,rvT rfl,trivial⟩,⟨by rw [hkp,decide_eq_false hl];rfl,rfl⟩,Sa⟩
 refine T.cut (λ fz lz => ∃ (f0:Fr) (b28:Bool),(b28=true↔cmpOp op)/\fz=(upd (upd (upd (upd f0 3 (.pointer (some ⟨g3,0,none⟩))) 6 (kClo g3)) 8 (tV op)) 28 (.bool b28))/\lz=blk g3 [.slice a m c] 25::(S++F)) ?_ ?_
 .
  refine Ts ?_
  refine TR ?_
  refine Lq (Z3 rfl rfl) ?_
  refine La rfl ?_
  refine Ld ?_
  refine yN rfl (λ e1=>?_) (λ e1=>?_)
  .
   refine Tk ?_
   exact ⟨_,⟨_,decide (op=[61]),by simp [e1,cmpOp],(Za rfl (Za rfl (Za rfl (Za rfl rfl)))),rfl⟩,Sa⟩
  refine Ts ?_
  refine TR ?_
  refine Lq (Z3 rfl rfl) ?_
  refine La rfl ?_
  refine Ld ?_
  refine yN rfl (λ e2=>?_) (λ e2=>?_)
  .
   refine Tk ?_
   exact ⟨_,⟨_,decide (op=[60,62]),by simp [e2,cmpOp],(Za rfl (Za rfl (Za rfl (Za rfl rfl)))),rfl⟩,Sa⟩
  refine Ts ?_
  refine TR ?_
  refine Lq (Z3 rfl rfl) ?_
  refine La rfl ?_
  refine Ld ?_
  refine yN rfl (λ e3=>?_) (λ e3=>?_)
  .
   refine Tk ?_
   exact ⟨_,⟨_,decide (op=[60,61]),by simp [e3,cmpOp],(Za rfl (Za rfl (Za rfl (Za rfl rfl)))),rfl⟩,Sa⟩
  refine Ts ?_
  refine TR ?_
  refine Lq (Z3 rfl rfl) ?_
  refine La rfl ?_
  refine Ld ?_
  refine yN rfl (λ e4=>?_) (λ e4=>?_)
  .
   refine Tk ?_
   exact ⟨_,⟨_,decide (op=[62,61]),by simp [e4,cmpOp],(Za rfl (Za rfl (Za rfl (Za rfl rfl)))),rfl⟩,Sa⟩
  refine Ts ?_
  refine TR ?_
  refine Lq (Z3 rfl rfl) ?_
  refine La rfl ?_
  refine Ld ?_
  refine yN rfl (λ e5=>?_) (λ e5=>?_)
  .
   refine Tk ?_
   exact ⟨_,⟨_,decide (op=[60]),by simp [e5,cmpOp],(Za rfl (Za rfl (Za rfl (Za rfl rfl)))),rfl⟩,Sa⟩
  refine TR ?_
  refine Lq (Z3 rfl rfl) ?_
  refine La rfl ?_
  refine Ld ?_
  exact ⟨_,⟨_,decide (op=[62]),by simp [e1,e2,e3,e4,e5,cmpOp],(Za rfl (Za rfl (Za rfl (Za rfl rfl)))),rfl⟩,Sa⟩
 rintro fz lz ⟨f0,b28,h28,rfl,rfl⟩
 refine Y9 rfl (λ h3=>?_) (λ h3=>?_)
 .
  have hkp:kindP op ks=(3,decide ((m:Int)=2) && (alls 1 ks || alls 2 ks)):=by unfold kindP;rw [if_neg h9n,if_neg h2,if_pos (h28.1 h3),hkl]
  refine Ts ?_
  refine TR ?_
  refine Lq (Ql rfl rfl) ?_
  refine Lq (yI (e:=27) (sz:=7) rfl) ?_
  refine Lq (yU rfl rfl) ?_
  refine Lm rfl ?_
  refine zZ (t:=38) rfl (λ hl=>?_) (λ hl=>?_)
  .
   try replace hl:=of_decide_eq_true hl
   refine Lm rfl ?_
   refine Le (ZE [iV 1] [.pointer (some ⟨g3,0,none⟩)] (Bd.allK B S g3 a m c css ks 1 h hm hn hk) Tryz.func94 rfl rfl rfl rfl rfl ?_)
   rintro _ _ ⟨rfl,rfl⟩
   try simp only [cA,nA]
   refine Lm rfl ?_
   refine zZ (t:=41) rfl (λ ha=>?_) (λ ha=>?_)
   .
    try replace ha:=of_decide_eq_true ha
    refine Ls rfl ?_
    refine Ls rfl ?_
    refine Lq (Qp rfl rfl) ?_
    refine Lq (Qp rfl rfl) ?_
    refine La rfl ?_
    refine La rfl ?_
    refine Ld ?_
    refine T.ret ?_
    exact ⟨.inl rfl,_,_,res [_,_] rfl ⟨rvT rfl,rvT rfl,trivial⟩,⟨by rw [hkp,decide_eq_true hl,ha];rfl,rfl⟩,Sa⟩
   try replace ha:=of_decide_eq_false ha
   refine Lm rfl ?_
   refine Le (ZE [iV 2] [.pointer (some ⟨g3,0,none⟩)] (Bd.allK B S g3 a m c css ks 2 h hm hn hk) Tryz.func94 rfl rfl rfl rfl rfl ?_)
   rintro _ _ ⟨rfl,rfl⟩
   try simp only [cA,nA]
   refine Lq (Qp rfl rfl) ?_
   refine Lq (Qp rfl rfl) ?_
   refine La rfl ?_
   refine La rfl ?_
   refine Ld ?_
   refine T.ret ?_
   exact ⟨.inl rfl,_,_,res [_,_] rfl ⟨rvT rfl,rvT rfl,trivial⟩,⟨by rw [hkp,decide_eq_true hl,ha];rfl,rfl⟩,Sa⟩
  try replace hl:=of_decide_eq_false hl
  refine Ls rfl ?_
  refine Ls rfl ?_
  refine Ls rfl ?_
  refine Ls rfl ?_
  refine Ls rfl ?_
  refine Ls rfl ?_
  refine Lq (Qp rfl rfl) ?_
  refine La rfl ?_
  refine La rfl ?_
  refine Ld ?_
  refine T.ret ?_
  exact ⟨.inl rfl,_,_,res [_,_] rfl ⟨rvT rfl,rvT rfl,trivial⟩,⟨by rw [hkp,decide_eq_false hl];rfl,rfl⟩,Sa⟩
 have h28n : ¬ cmpOp op:=λ e=>by rw [h28.2 e] at h3;cases h3
 refine Ts ?_
 refine TR ?_
 refine Lq (Z3 rfl rfl) ?_
 refine La rfl ?_
 refine Ld ?_
 refine yN rfl (λ h4=>?_) (λ h4=>?_)
 .
  have hkp:kindP op ks=(1,(decide ((m:Int)=1) || decide ((m:Int)=2)) && alls 1 ks):=by unfold kindP;rw [if_neg h9n,if_neg h2,if_neg h28n,if_pos h4,hkl]
  refine Ts ?_
  refine TR ?_
  refine Lq (Ql rfl rfl) ?_
  refine Lq (yI (e:=27) (sz:=7) rfl) ?_
  refine Lq (yU rfl rfl) ?_
  refine Lm rfl ?_
  refine zZ (t:=51) rfl (λ hl=>?_) (λ hl=>?_)
  .
   try replace hl:=of_decide_eq_true hl
   refine Ls rfl ?_
   refine Ls rfl ?_
   refine Ls rfl ?_
   refine Lq (Qp rfl rfl) ?_
   refine Lm rfl ?_
   refine zQ (t:=56) rfl rfl ?_
   refine Lm rfl ?_
   refine Le (ZE [iV 1] [.pointer (some ⟨g3,0,none⟩)] (Bd.allK B S g3 a m c css ks 1 h hm hn hk) Tryz.func94 rfl rfl rfl rfl rfl ?_)
   rintro _ _ ⟨rfl,rfl⟩
   try simp only [cA,nA]
   refine Lq (Qp rfl rfl) ?_
   refine La rfl ?_
   refine La rfl ?_
   refine Ld ?_
   refine T.ret ?_
   exact ⟨.inl rfl,_,_,res [_,_] rfl ⟨rvT rfl,rvT rfl,trivial⟩,⟨by rw [hkp,decide_eq_true hl];rfl,rfl⟩,Sa⟩
  try replace hl:=of_decide_eq_false hl
  refine Lq (Ql rfl rfl) ?_
  refine Lq (yI (e:=27) (sz:=7) rfl) ?_
  refine Lq (yU rfl rfl) ?_
  refine Lq (Qp rfl rfl) ?_
  refine Lm rfl ?_
  refine zZ (t:=56) rfl (λ hl2=>?_) (λ hl2=>?_)
  .
   try replace hl2:=of_decide_eq_true hl2
   refine Lm rfl ?_
   refine Le (ZE [iV 1] [.pointer (some ⟨g3,0,none⟩)] (Bd.allK B S g3 a m c css ks 1 h hm hn hk) Tryz.func94 rfl rfl rfl rfl rfl ?_)
   rintro _ _ ⟨rfl,rfl⟩
   try simp only [cA,nA]
   refine Lq (Qp rfl rfl) ?_
   refine La rfl ?_
   refine La rfl ?_
   refine Ld ?_
   refine T.ret ?_
   exact ⟨.inl rfl,_,_,res [_,_] rfl ⟨rvT rfl,rvT rfl,trivial⟩,⟨by rw [hkp,decide_eq_false hl,decide_eq_true hl2];rfl,rfl⟩,Sa⟩
  try replace hl2:=of_decide_eq_false hl2
  refine Ls rfl ?_
  refine Ls rfl ?_
  refine Lq (Qp rfl rfl) ?_
  refine La rfl ?_
  refine La rfl ?_
  refine Ld ?_
  refine T.ret ?_
  exact ⟨.inl rfl,_,_,res [_,_] rfl ⟨rvT rfl,rvT rfl,trivial⟩,⟨by rw [hkp,decide_eq_false hl,decide_eq_false hl2];rfl,rfl⟩,Sa⟩
 refine T.cut (λ fz lz => ∃ (f0:Fr) (b60:Bool),(b60=true↔(op=[43]\/op=[42]))/\fz=(upd (upd (upd (upd f0 3 (.pointer (some ⟨g3,0,none⟩))) 6 (kClo g3)) 8 (tV op)) 60 (.bool b60))/\lz=blk g3 [.slice a m c] 25::(S++F)) ?_ ?_
 .
  refine Ts ?_
  refine TR ?_
  refine Lq (Z3 rfl rfl) ?_
  refine La rfl ?_
  refine Ld ?_
  refine yN rfl (λ e1=>?_) (λ e1=>?_)
  .
   refine Tk ?_
   exact ⟨_,⟨_,decide (op=[43]),by simp [e1],(Za rfl (Za rfl (Za rfl (Za rfl rfl)))),rfl⟩,Sa⟩
  refine TR ?_
  refine Lq (Z3 rfl rfl) ?_
  refine La rfl ?_
  refine Ld ?_
  exact ⟨_,⟨_,decide (op=[42]),by simp [e1],(Za rfl (Za rfl (Za rfl (Za rfl rfl)))),rfl⟩,Sa⟩
 rintro fz lz ⟨f0,b60,h60,rfl,rfl⟩
 refine Y9 rfl (λ h5=>?_) (λ h5=>?_)
 .
  have hkp:kindP op ks=(1,decide ((m:Int)=2) && alls 1 ks):=by unfold kindP;rw [if_neg h9n,if_neg h2,if_neg h28n,if_neg h4,if_pos (h60.1 h5),hkl]
  refine Ts ?_
  refine TR ?_
  refine Lq (Ql rfl rfl) ?_
  refine Lq (yI (e:=27) (sz:=7) rfl) ?_
  refine Lq (yU rfl rfl) ?_
  refine Lm rfl ?_
  refine zZ (t:=66) rfl (λ hl=>?_) (λ hl=>?_)
  .
   try replace hl:=of_decide_eq_true hl
   refine Lm rfl ?_
   refine Le (ZE [iV 1] [.pointer (some ⟨g3,0,none⟩)] (Bd.allK B S g3 a m c css ks 1 h hm hn hk) Tryz.func94 rfl rfl rfl rfl rfl ?_)
   rintro _ _ ⟨rfl,rfl⟩
   try simp only [cA,nA]
   refine Lq (Qp rfl rfl) ?_
   refine La rfl ?_
   refine La rfl ?_
   refine Ld ?_
   refine T.ret ?_
   exact ⟨.inl rfl,_,_,res [_,_] rfl ⟨rvT rfl,rvT rfl,trivial⟩,⟨by rw [hkp,decide_eq_true hl];rfl,rfl⟩,Sa⟩
  try replace hl:=of_decide_eq_false hl
  refine Ls rfl ?_
  refine Ls rfl ?_
  refine Lq (Qp rfl rfl) ?_
  refine La rfl ?_
  refine La rfl ?_
  refine Ld ?_
  refine T.ret ?_
  exact ⟨.inl rfl,_,_,res [_,_] rfl ⟨rvT rfl,rvT rfl,trivial⟩,⟨by rw [hkp,decide_eq_false hl];rfl,rfl⟩,Sa⟩
 have h60n : ¬ (op=[43]\/op=[42]):=λ e=>by rw [h60.2 e] at h5;cases h5
 have hkp:kindP op ks=(0,false):=by unfold kindP;rw [if_neg h9n,if_neg h2,if_neg h28n,if_neg h4,if_neg h60n]
 refine Tk ?_
 refine Ts ?_
 refine TR ?_
 refine La rfl ?_
 refine La rfl ?_
 refine Ld ?_
 refine T.ret ?_
 exact ⟨.inl rfl,_,_,res [_,_] rfl ⟨rvT rfl,rvT rfl,trivial⟩,⟨by rw [hkp];rfl,rfl⟩,Sa⟩
open Go.RowKit
def kindAt (sc:List Co) (i:Nat):Int:=match sc[i]? with | some c=>c.kind | none=>0
mutual
def bindE (sc:List Co):Ex->Except Int Tm
  | .mk op n text of args =>
    if op=[110,117,109,98,101,114] then .ok (.mk [118,97,108,117,101] 1 ⟨1,n,[]⟩ 0 [])
    else if op=[116,101,120,116] then (if 64<text.length then .error 2 else .ok (.mk [118,97,108,117,101] 2 ⟨2,0,text⟩ 0 []))
    else if op=[110,97,109,101] then (if (findC sc of text).2≠0 then .error (findC sc of text).2 else .ok (.mk [99,111,108,117,109,110] (kindAt sc (findC sc of text).1) vZ (findC sc of text).1 []))
    else match bindL sc args with
      | .error c => .error c
      | .ok ts=>if (kindP op (ts.map Tm.kind)).2=true then .ok (.mk op (kindP op (ts.map Tm.kind)).1 vZ 0 ts) else .error 170
def bindL (sc:List Co):List Ex->Except Int (List Tm)
  | [] => .ok []
  | e::es=>match bindE sc e with
    | .error c => .error c
    | .ok t=>match bindL sc es with
      | .error c => .error c
      | .ok ts => .ok (t::ts)
end
theorem bindL_ok {sc:List Co} {xs0:List Ex} {e:Ex} {bs:List Ex} {ts:List Tm} (h:bindL sc xs0 = .ok ts) :
    bindL sc (xs0++e::bs)=match bindE sc e with
      | .error c => .error c
      | .ok t=>match bindL sc bs with
        | .error c => .error c
        | .ok us => .ok (ts++t::us):=by
  induction xs0 generalizing ts with
  | nil =>
    simp only [bindL] at h;injection h with h;subst h
    rw [List.nil_append,bindL]
    rfl
  | cons x xs ih =>
    rw [bindL] at h
    rw [List.cons_append,bindL]
    cases hx:bindE sc x with
    | error c=>rw [hx] at h;cases h
    | ok t =>
      rw [hx] at h
      cases hxs:bindL sc xs with
      | error c=>rw [hxs] at h;cases h
      | ok us =>
        rw [hxs] at h;injection h with h;subst h
        dsimp only
        rw [ih hxs]
        cases bindE sc e with
        | error c=>rfl
        | ok t2=>cases bindL sc bs <;> rfl
theorem take_app {α:Type} {l:List α} {k:Nat} {x:α} (h:l[k]? = some x):l=l.take k++x::l.drop (k+1):=by
  obtain ⟨hk,rfl⟩:=List.getElem?_eq_some_iff.1 h
  rw [<-List.drop_eq_getElem_cons hk,List.take_append_drop]
theorem bindL_err {sc:List Co} {args:List Ex} {k:Nat} {e:Ex} {ts:List Tm} {c:Int} (he:args[k]? = some e) (h:bindL sc (args.take k) = .ok ts) (hb:bindE sc e = .error c):bindL sc args = .error c:=by
  rw [take_app he,bindL_ok h,hb]
theorem bindL_next {sc:List Co} {args:List Ex} {k:Nat} {e:Ex} {ts:List Tm} {t:Tm} (he:args[k]? = some e) (h:bindL sc (args.take k) = .ok ts) (hb:bindE sc e = .ok t):bindL sc (args.take (k+1)) = .ok (ts++[t]):=by
  rw [List.take_add_one,he]
  show bindL sc (args.take k++e::[])=_
  rw [bindL_ok h,hb]
  rfl
theorem findC_lt {sc:List Co} {of name:Str} (h:(findC sc of name).2=0):(findC sc of name).1<sc.length:=by
  unfold findC at h ⊢
  split at h
  . cases h
  . split at h
    . cases h
    . rename_i h1 h2
      rw [if_neg h1,if_neg h2]
      split at h
      . cases h
      . rename_i i r e
        exact (hits_lt (e ▸ List.mem_cons_self)).2
section
variable {B : Wn} {S:List Wp}
theorem TmV.form {t:Tm} {c:C7} (h:TmV B S t c) : ∃ a m,c=⟨tV t.op,iV t.kind,iV t.v.kind,iV t.v.int,tV t.v.text,iV t.place,.slice a t.args.length m⟩:=by
  cases h with
  | mk op k v p args av css hf hl hb hc =>
    obtain ⟨a,cap,rfl⟩:=hf.form hl
    exact ⟨a,cap,rfl⟩
theorem ExV.form {t:Ex} {c:C5} (h:ExV B S t c) : ∃ op n text of a m cap,c=⟨tV op,iV n,tV text,tV of,.slice a m cap⟩:=by
  cases h with
  | mk op n text of args av css hf hl hb ht hc =>
    obtain ⟨a,cap,rfl⟩:=hf.form hl
    exact ⟨op,n,text,of,a,_,cap,rfl⟩
end
abbrev zC : C7:=⟨.string .empty,iV 0,iV 0,iV 0,.string .empty,iV 0,.slice none 0 0⟩
def BindPost (B:Wn) (S:List Wp) (sc:List Co) (e:Ex) (u:Value) (l:List Wp):Prop:=match bindE sc e with
  | .error code=>u = .tuple #[tA zC,iV code]/\code≠0/\l=S
  | .ok t => ∃ A c,u = .tuple #[tA c,iV 0]/\TmV B [A] t c/\l=A::S
theorem BindPost.okE {B:Wn} {S l:List Wp} {sc:List Co} {e:Ex} {u:Value} {t:Tm} (h:BindPost B S sc e u l) (hb:bindE sc e = .ok t) : ∃ A c,u = .tuple #[tA c,iV 0]/\TmV B [A] t c/\l=A::S:=by unfold BindPost at h;rw [hb] at h;exact h
theorem BindPost.errE {B:Wn} {S l:List Wp} {sc:List Co} {e:Ex} {u:Value} {code:Int} (h:BindPost B S sc e u l) (hb:bindE sc e = .error code):u = .tuple #[tA zC,iV code]/\code≠0/\l=S:=by unfold BindPost at h;rw [hb] at h;exact h
theorem BindPost.ofOk {B:Wn} {S l:List Wp} {sc:List Co} {e:Ex} {u:Value} {t:Tm} {A:Wp} {c:C7} (hb:bindE sc e = .ok t) (h1:u = .tuple #[tA c,iV 0]) (h2:TmV B [A] t c) (h3:l=A::S):BindPost B S sc e u l:=by unfold BindPost;rw [hb];exact ⟨A,c,h1,h2,h3⟩
theorem BindPost.ofErr {B:Wn} {S l:List Wp} {sc:List Co} {e:Ex} {u:Value} {code:Int} (hb:bindE sc e = .error code) (h1:u = .tuple #[tA zC,iV code]) (h2:code≠0) (h3:l=S):BindPost B S sc e u l:=by unfold BindPost;rw [hb];exact ⟨h1,h2,h3⟩
theorem Bd.elemT : ElemOk Tryz.prog 25 27 7 88 := .mk' (tA zC) Tryz.underlying25 (by kernel_rfl) rfl (by omega)
def TmsV (B:Wn) (A:Wp) (ts:List Tm) (css:List C7):Prop:=css.length=ts.length /\ ∀ (i:Nat) (t:Tm) (c:C7),ts[i]? = some t->css[i]? = some c->TmV B [A] t c
theorem TmsV.ks {B:Wn} {A:Wp} {ts:List Tm} {css:List C7} (h:TmsV B A ts css):KsV css (ts.map Tm.kind):=⟨by rw [List.length_map,h.1],λ i c hc=>by
  have hi:=(List.getElem?_eq_some_iff.1 hc).1
  have ht:ts[i]? = some (ts[i]'(by rw [<-h.1];exact hi)):=List.getElem?_eq_getElem _
  obtain ⟨a,m,hf⟩:=(h.2 i _ c ht hc).form
  exact ⟨_,by rw [List.getElem?_map,ht];rfl,by rw [hf]⟩⟩
theorem TmsV.snoc {B:Wn} {A A1:Wp} {ts:List Tm} {css:List C7} {t:Tm} {c:C7} (h:TmsV B A ts css) (h1:TmV B [A1] t c):TmsV B (sepL [A,A1]) (ts++[t]) (css++[c]):=⟨by rw [List.length_append,List.length_append,h.1];rfl,λ i t' c' ht hc=>by
  by_cases hi:i<ts.length
  . rw [List.getElem?_append_left hi] at ht
    rw [List.getElem?_append_left (by rw [h.1];exact hi)] at hc
    exact (h.2 i t' c' ht hc).sub λ k H=>by
      obtain ⟨h1,h2,d,a,b,e,H2⟩:=Has.open_sepL H
      exact ⟨h1,h2,d,a,b,e,trivial⟩
  . rw [List.getElem?_append_right (by omega)] at ht
    rw [List.getElem?_append_right (by rw [h.1];omega),h.1] at hc
    have hj:=(List.getElem?_eq_some_iff.1 ht).1
    have:i-ts.length=0:=by simp at hj;omega
    rw [this] at ht hc
    simp at ht hc;subst ht;subst hc
    exact h1.sub λ k H=>(Has.open_sepL H).tail⟩
instance (priority := high) (l:List Wp):TakeA (pu True) l l:=⟨λ _ H=>Has.close_pu trivial H⟩
instance (priority := high) (A l r:List Wp) [k:TakeL A l r]:TakeA (sepL A) l r:=⟨λ h H=>Has.close_sepL (k.take h H)⟩
theorem TmV.leaf (B:Wn) (S:List Wp) (op:Str) (k:Int) (v:Va) (p:Int):TmV B S (.mk op k v p []) ⟨tV op,iV k,iV v.kind,iV v.int,tV v.text,iV p,.slice none 0 0⟩ :=
  .mk op k v p [] _ [] (.empty _ _) rfl (by simp) (by intro i t c h;simp at h)
theorem Bd.bind (B:Wn) (S:List Wp) (e:Ex) (ce:C5) (a:Option Addr) (m c:Nat) (sc:List Co) (h:ExV B S e ce) (hs:FlV B S coC (.slice a m c) sc) (hm:sc.length=m) (hmn:m<2^32):Fn Tryz.prog B 20 #[eA ce,.slice a m c] S (BindPost B S sc e):=by
 induction h with
 | mk op n text of args av css hf hl hb ht hc ih =>
 obtain ⟨pa,ca,rfl⟩:=hf.form hl
 refine Wr 98 Tryz.func20 rfl rfl (nB rfl) (λ F=>?_)
 refine Ts ?_
 refine TR ?_
 refine Le (zL [_,_,_,_,_] rfl rfl ?_)
 intro g2
 refine Le (El [.string .empty,.int .i64 0,.int .i64 0,.int .i64 0,.string .empty,.int .i64 0,.slice none 0 0] (by unfold Zf;kernel_rfl) ?_)
 intro g4
 refine La rfl ?_
 refine Ld ?_
 refine Ts ?_
 refine Ts ?_
 refine TR ?_
 refine Lq (Q0 rfl) ?_
 refine Lq (Ql rfl rfl) ?_
 refine Ld ?_
 refine yH ?_
 refine Ts ?_
 refine TR ?_
 refine Lq (Z3 rfl rfl) ?_
 refine La rfl ?_
 refine Ld ?_
 refine yN rfl (λ h1=>?_) (λ h1=>?_)
 .
  refine Ts ?_
  refine TR ?_
  refine Lq (Qf (off:=1) rfl) ?_
  refine Lq (Ql rfl rfl) ?_
  refine Lq (z8 [(0,1),(1,1),(2,1)] [.int .i64 0,.int .i64 0,.string .empty] [_,_,_] [(0,_),(1,_)] (by unfold Zf;kernel_rfl) rfl rfl) ?_
  refine Lq (z8 [(0,1),(1,1),(2,3),(5,1),(6,1)] [.string .empty,.int .i64 0,.int .i64 0,.int .i64 0,.string .empty,.int .i64 0,.slice none 0 0] [_,_,_,_,_,_,_] [(0,_),(1,_),(2,_)] (by unfold Zf;kernel_rfl) rfl rfl) ?_
  refine L0 (Es [_,_,_,_,_,_,_] rfl rfl rfl rfl (by simp) ?_)
  try simp only [splice,lC,lN,dS,cA,tS,tZ,dZ,nA,aN]
  refine La rfl ?_
  refine Ld ?_
  refine T.ret ?_
  exact ⟨.inl rfl,_,_,res [_,_] rfl ⟨rvA [_,_,_,_,_,_,_] rfl ⟨rfl,rfl,rfl,rfl,rfl,rfl,rfl,trivial⟩,rvT rfl,trivial⟩,BindPost.ofOk (A:=pu True) (c:=⟨tV _,iV _,iV _,iV _,tV _,iV _,_⟩) (by unfold bindE;rw [if_pos h1]) rfl (TmV.leaf _ _ _ _ _ _) rfl,Sa⟩
 refine Ts ?_
 refine TR ?_
 refine Lq (Z3 rfl rfl) ?_
 refine La rfl ?_
 refine Ld ?_
 refine yN rfl (λ h2=>?_) (λ h2=>?_)
 .
  refine Ts ?_
  refine Ts ?_
  refine TR ?_
  refine Lq (Qf (off:=2) rfl) ?_
  refine Lq (Ql rfl rfl) ?_
  refine Lq (YU rfl) ?_
  refine Lq (yZ rfl rfl) ?_
  refine Ld ?_
  refine yN rfl (λ h3=>?_) (λ h3=>?_)
  .
   refine Ts ?_
   refine TR ?_
   refine Lq (z8 [(0,1),(1,1),(2,3),(5,1),(6,1)] [.string .empty,.int .i64 0,.int .i64 0,.int .i64 0,.string .empty,.int .i64 0,.slice none 0 0] [_,_,_,_,_,_,_] [] (by unfold Zf;kernel_rfl) rfl rfl) ?_
   refine L0 (Es [_,_,_,_,_,_,_] rfl rfl rfl rfl (by simp) ?_)
   try simp only [splice,lC,lN,dS,cA,tS,tZ,dZ,nA,aN]
   refine La rfl ?_
   refine Ld ?_
   refine T.ret ?_
   exact ⟨.inl rfl,_,_,res [_,_] rfl ⟨rvA [_,_,_,_,_,_,_] rfl ⟨rfl,rfl,rfl,rfl,rfl,rfl,rfl,trivial⟩,rvT rfl,trivial⟩,BindPost.ofErr (by unfold bindE;rw [if_neg h1,if_pos h2,if_pos (by omega)]) rfl (by omega) rfl,Sa⟩
  refine Tk ?_
  refine Ts ?_
  refine TR ?_
  refine Lq (Qf (off:=2) rfl) ?_
  refine Lq (Ql rfl rfl) ?_
  refine Lq (z8 [(0,1),(1,1),(2,1)] [.int .i64 0,.int .i64 0,.string .empty] [_,_,_] [(0,_),(2,_)] (by unfold Zf;kernel_rfl) rfl rfl) ?_
  refine Lq (z8 [(0,1),(1,1),(2,3),(5,1),(6,1)] [.string .empty,.int .i64 0,.int .i64 0,.int .i64 0,.string .empty,.int .i64 0,.slice none 0 0] [_,_,_,_,_,_,_] [(0,_),(1,_),(2,_)] (by unfold Zf;kernel_rfl) rfl rfl) ?_
  refine L0 (Es [_,_,_,_,_,_,_] rfl rfl rfl rfl (by simp) ?_)
  try simp only [splice,lC,lN,dS,cA,tS,tZ,dZ,nA,aN]
  refine La rfl ?_
  refine Ld ?_
  refine T.ret ?_
  exact ⟨.inl rfl,_,_,res [_,_] rfl ⟨rvA [_,_,_,_,_,_,_] rfl ⟨rfl,rfl,rfl,rfl,rfl,rfl,rfl,trivial⟩,rvT rfl,trivial⟩,BindPost.ofOk (A:=pu True) (c:=⟨tV _,iV _,iV _,iV _,tV _,iV _,_⟩) (by unfold bindE;rw [if_neg h1,if_pos h2,if_neg (by omega)]) rfl (TmV.leaf _ _ _ _ _ _) rfl,Sa⟩
 refine Ts ?_
 refine TR ?_
 refine Lq (Z3 rfl rfl) ?_
 refine La rfl ?_
 refine Ld ?_
 refine yN rfl (λ h3=>?_) (λ h3=>?_)
 .
  refine Ts ?_
  refine TR ?_
  refine Lm rfl ?_
  refine Lq (Qf (off:=3) rfl) ?_
  refine Lq (Ql rfl rfl) ?_
  refine Lq (Qf (off:=2) rfl) ?_
  refine Lq (Ql rfl rfl) ?_
  refine Le (Ec (Bd.find B S a m c sc of text hs hm hmn) Tryz.func49 rfl rfl rfl ?_)
  rintro _ _ ⟨rfl,rfl⟩
  try simp only [cA,nA]
  refine Lm rfl ?_
  refine Lq (Qx rfl rfl) ?_
  refine Lq (Qx rfl rfl) ?_
  refine La rfl ?_
  refine La rfl ?_
  refine Ld ?_
  refine Ts ?_
  refine Ts ?_
  refine TR ?_
  refine Lm rfl ?_
  refine Lq (yW rfl rfl) ?_
  refine Ld ?_
  refine yN rfl (λ h4=>?_) (λ h4=>?_)
  .
   refine Ts ?_
   refine TR ?_
   refine Lq (z8 [(0,1),(1,1),(2,3),(5,1),(6,1)] [.string .empty,.int .i64 0,.int .i64 0,.int .i64 0,.string .empty,.int .i64 0,.slice none 0 0] [_,_,_,_,_,_,_] [] (by unfold Zf;kernel_rfl) rfl rfl) ?_
   refine Lm rfl ?_
   refine L0 (Es [_,_,_,_,_,_,_] rfl rfl rfl rfl (by simp) ?_)
   try simp only [splice,lC,lN,dS,cA,tS,tZ,dZ,nA,aN]
   refine La rfl ?_
   refine Ld ?_
   refine T.ret ?_
   exact ⟨.inl rfl,_,_,res [_,_] rfl ⟨rvA [_,_,_,_,_,_,_] rfl ⟨rfl,rfl,rfl,rfl,rfl,rfl,rfl,trivial⟩,rvT rfl,trivial⟩,BindPost.ofErr (by unfold bindE;rw [if_neg h1,if_neg h2,if_pos h3,if_pos h4]) rfl h4 rfl,Sa⟩
  have h5:=findC_lt (Classical.not_not.1 h4)
  have h6:bindE sc (.mk op n text of args) = .ok (.mk [99,111,108,117,109,110] (kindAt sc (findC sc of text).1) vZ (findC sc of text).1 []):=by unfold bindE;rw [if_neg h1,if_neg h2,if_pos h3,if_neg h4]
  generalize (findC sc of text).1=fi at h5 h6 ⊢
  obtain ⟨b,o,rfl,hr⟩:=hs.at (sz:=3) coC_len (by omega)
  obtain ⟨q,hq⟩ : ∃ q,sc[fi]? = some q:=⟨_,List.getElem?_eq_getElem (by omega)⟩
  have hq1:=hr fi q hq
  have hk:kindAt sc fi=q.kind:=by unfold kindAt;rw [hq]
  rw [hk] at h6
  refine Tk ?_
  refine Ts ?_
  refine TR ?_
  refine Lm rfl ?_
  refine Lm rfl ?_
  refine Lq (Qi _ (e:=142) (sz:=3) rfl rfl rfl) ?_
  refine Lq (Qf (off:=1) rfl) ?_
  refine Lq (Qf (off:=1) rfl) ?_
  refine Lq (zN rfl (λ w ho=>rangeAt_one (j:=2) (hq1 w (ho.map Sa)) rfl)) ?_
  refine Lm rfl ?_
  refine Lq (z8 [(0,1),(1,1),(2,3),(5,1),(6,1)] [.string .empty,.int .i64 0,.int .i64 0,.int .i64 0,.string .empty,.int .i64 0,.slice none 0 0] [_,_,_,_,_,_,_] [(0,_),(1,_),(3,_)] (by unfold Zf;kernel_rfl) rfl rfl) ?_
  refine L0 (Es [_,_,_,_,_,_,_] rfl rfl rfl rfl (by simp) ?_)
  try simp only [splice,lC,lN,dS,cA,tS,tZ,dZ,nA,aN]
  refine La rfl ?_
  refine Ld ?_
  refine T.ret ?_
  exact ⟨.inl rfl,_,_,res [_,_] rfl ⟨rvA [_,_,_,_,_,_,_] rfl ⟨rfl,rfl,rfl,rfl,rfl,rfl,rfl,trivial⟩,rvT rfl,trivial⟩,BindPost.ofOk (A:=pu True) (c:=⟨tV _,iV _,iV _,iV _,tV _,iV _,_⟩) h6 rfl (TmV.leaf _ _ _ _ _ _) rfl,Sa⟩
 refine T.conv (l':=row (.slice none 0 0) 27 7 0 (List.flatMap c7 [])::_) (λ w ho=>ho.row_nil 27 7) ?_
 refine Tk ?_
 refine Ts ?_
 refine TR ?_
 refine Lq (Q0 rfl) ?_
 refine Lq (Ql rfl rfl) ?_
 refine Lq (z8 [(0,1),(1,1),(2,3),(5,1),(6,1)] [.string .empty,.int .i64 0,.int .i64 0,.int .i64 0,.string .empty,.int .i64 0,.slice none 0 0] [_,_,_,_,_,_,_] [(0,_)] (by unfold Zf;kernel_rfl) rfl rfl) ?_
 refine Le (El [.string .empty,.int .i64 0,.int .i64 0,.int .i64 0,.string .empty,.int .i64 0,.slice none 0 0] (by unfold Zf;kernel_rfl) ?_)
 intro g8
 refine L0 (Es [_,_,_,_,_,_,_] rfl rfl rfl rfl (by simp) ?_)
 try simp only [splice,lC,lN,dS,cA,tS,tZ,dZ,nA,aN]
 refine Ld ?_
 refine Ts ?_
 refine Ts ?_
 refine TR ?_
 refine Lq (Qf (off:=4) rfl) ?_
 refine Lq (Ql rfl rfl) ?_
 refine Lq (yI (e:=76) (sz:=5) rfl) ?_
 refine Lm rfl ?_
 refine Ld ?_
 refine yH ?_
 refine zG (λ mz fz lz => ∃ (f0:Fr) (k:Nat) (ts:List Tm) (cs:List C7) (A:Wp) (p:Option Addr) (l0 c0:Nat),(k<=args.length/\bindL sc (args.take k) = .ok ts/\TmsV B A ts cs/\cs.length=l0/\ts.length=k/\(0<l0 -> ∃ g,p=some ⟨g,0,none⟩))/\mz=args.length-k/\fz=(upd (upd (upd (upd (upd (upd (upd f0 1 (.slice a m c)) 2 (.pointer (some ⟨g2,0,none⟩))) 4 (.pointer (some ⟨g4,0,none⟩))) 8 (.pointer (some ⟨g8,0,none⟩))) 61 (.slice pa args.length ca)) 62 (.int .i64 args.length)) 63 (.int .i64 k))/\lz=row (.slice p l0 c0) 27 7 l0 (cs.flatMap c7)::blk g8 [tV op,iV 0,iV 0,iV 0,.string .empty,iV 0,.slice p l0 c0] 27::blk g4 (c7 zC) 27::blk g2 [tV op,iV n,tV text,tV of,.slice pa args.length ca] 76::A::(S++F)) ?_ ?_
 . refine ⟨_,_,⟨_,0,[],[],pu True,none,0,0,⟨Nat.zero_le _,rfl,⟨rfl,by intro i t c h;simp at h⟩,rfl,rfl,λ h=>absurd h (by omega)⟩,rfl,(Za rfl (Za rfl (Za rfl (Za rfl (Za rfl (Za rfl (Za rfl rfl))))))),rfl⟩,Sa⟩
 rintro mz fz lz ⟨f0,k,ts,cs,A,p,l0,c0,⟨hk,hbl,htv,hcl,htl,hp⟩,hmz,rfl,rfl⟩
 subst mz
 refine Ts ?_
 refine TR ?_
 refine Lq (yM rfl rfl) ?_
 refine Ld ?_
 refine Ts ?_
 refine yN rfl (λ hlt=>?_) (λ hlt=>?_)
 .
  obtain ⟨b,o,rfl,hr⟩:=hf.at (sz:=5) (λ _=>rfl) (by omega)
  obtain ⟨x,hx⟩ : ∃ x,args[k]? = some x:=⟨_,List.getElem?_eq_getElem (by omega)⟩
  obtain ⟨q,hq⟩ : ∃ q,css[k]? = some q:=⟨_,List.getElem?_eq_getElem (by omega)⟩
  have hq1:=hr k q hq
  have ihx:=ih k x q hx hq
  obtain ⟨o1,n1,t1,f1,pa1,m1,c1,rfl⟩:=(hc k x q hx hq).form
  refine Tk ?_
  refine Ts ?_
  refine yH ?_
  refine Ts ?_
  refine TR ?_
  refine Lq (Qi _ (e:=76) (sz:=5) rfl rfl rfl) ?_
  refine Lq (Qt.loadAggW (c5 ⟨tV o1,iV n1,tV t1,tV f1,.slice pa1 m1 c1⟩) rfl (λ w ho=>hq1 w (ho.map Sa))) ?_
  refine Le (El [.string .empty,.int .i64 0,.string .empty,.string .empty,.slice none 0 0] (by unfold Zf;kernel_rfl) ?_)
  intro g10
  refine L0 (Es [_,_,_,_,_] rfl rfl rfl rfl (by simp) ?_)
  try simp only [splice,lC,lN,dS,cA,tS,tZ,dZ,nA,aN]
  refine Ld ?_
  refine Ts ?_
  refine TR ?_
  refine Lq (QL [_,_,_,_,_] rfl ⟨rfl,rfl,rfl,rfl,rfl,trivial⟩) ?_
  refine Lm rfl ?_
  refine Le (Ec (ihx) Tryz.func20 rfl rfl rfl ?_)
  rintro u l5 hpost
  by_cases hbe : ∃ t,bindE sc x = .ok t
  .
   obtain ⟨t,hbe⟩:=hbe
   obtain ⟨A1,q7,rfl,ht1,rfl⟩:=hpost.okE hbe
   obtain ⟨pa7,ca7,rfl⟩:=ht1.form
   try simp only [cA,nA]
   refine Lm rfl ?_
   refine Lq (Qx rfl rfl) ?_
   refine Lq (Qx rfl rfl) ?_
   refine Le (El [.string .empty,.int .i64 0,.int .i64 0,.int .i64 0,.string .empty,.int .i64 0,.slice none 0 0] (by unfold Zf;kernel_rfl) ?_)
   intro g11
   refine L0 (Es [_,_,_,_,_,_,_] rfl rfl rfl rfl (by simp) ?_)
   try simp only [splice,lC,lN,dS,cA,tS,tZ,dZ,nA,aN]
   refine La rfl ?_
   refine Ld ?_
   refine Ts ?_
   refine Ts ?_
   refine TR ?_
   refine Lm rfl ?_
   refine Lq (yW rfl rfl) ?_
   refine Ld ?_
   refine yQ rfl ?_
   have hsn:=htv.snoc ht1
   have hle:=htv.1
   refine Tk ?_
   refine TR ?_
   refine Lq (Qf (off:=6) rfl) ?_
   refine Lq (Ql rfl rfl) ?_
   refine Lq (QL [_,_,_,_,_,_,_] rfl ⟨rfl,rfl,rfl,rfl,rfl,rfl,rfl,trivial⟩) ?_
   refine Le (zK [_,_,_,_,_,_,_] (e:=27) (sz:=7) ⟨.agg #[.string .empty,.int .i64 0,.int .i64 0,.int .i64 0,.string .empty,.int .i64 0,.slice none 0 0],by kernel_rfl,rfl⟩ rfl rfl rfl ?_)
   intro g80
   refine Le (Ea Bd.elemT rfl rfl (SrcOf.blk (by kernel_rfl) rfl (by simp [Value.oneCell'])) (by unfold maxLen;omega) ?_)
   rintro p4 c4 hp4
   rw [show cs.flatMap c7++[tV t.op,iV t.kind,iV t.v.kind,iV t.v.int,tV t.v.text,iV t.place,.slice pa7 t.args.length ca7]=(cs++[(⟨tV t.op,iV t.kind,iV t.v.kind,iV t.v.int,tV t.v.text,iV t.place,.slice pa7 t.args.length ca7⟩:C7)]).flatMap c7 by simp]
   refine Lq (Qf (off:=6) rfl) ?_
   refine L0 (E1 rfl rfl rfl (by first | (simp;done) | (simp;omega)) ?_)
   try simp only [List.set_cons_zero,List.set_cons_succ]
   refine Ld ?_
   refine TR ?_
   refine Lq (Qd rfl rfl (Ze)) ?_
   refine Lm rfl ?_
   refine Ld ?_
   refine ⟨_,?_,_,⟨_,k+1,ts++[t],cs++[⟨tV t.op,iV t.kind,iV t.v.kind,iV t.v.int,tV t.v.text,iV t.place,.slice pa7 t.args.length ca7⟩],sepL [A,A1],p4,l0+1,c4,⟨by omega,bindL_next hx hbl hbe,hsn,by simp [hcl],by simp [htl],hp4⟩,rfl,(Za rfl (Za rfl (Za rfl (Za rfl (Za rfl (Za rfl (Za rfl rfl))))))),rfl⟩,Sa⟩
   omega
  obtain ⟨code,hbe⟩ : ∃ code,bindE sc x = .error code:=by
   cases e:bindE sc x with
   | error c=>exact ⟨c,rfl⟩
   | ok t=>exact absurd ⟨t,e⟩ hbe
  obtain ⟨rfl,hne,rfl⟩:=hpost.errE hbe
  refine Lm rfl ?_
  refine Lq (Qx rfl rfl) ?_
  refine Lq (Qx rfl rfl) ?_
  refine Le (El [.string .empty,.int .i64 0,.int .i64 0,.int .i64 0,.string .empty,.int .i64 0,.slice none 0 0] (by unfold Zf;kernel_rfl) ?_)
  intro g11
  refine L0 (Es [_,_,_,_,_,_,_] rfl rfl rfl rfl (by simp) ?_)
  try simp only [splice,lC,lN,dS,cA,tS,tZ,dZ,nA,aN]
  refine La rfl ?_
  refine Ld ?_
  refine Ts ?_
  refine Ts ?_
  refine TR ?_
  refine Lm rfl ?_
  refine Lq (yW rfl rfl) ?_
  refine Ld ?_
  refine zM rfl (hne) ?_
  refine Ts ?_
  refine TR ?_
  refine Lq (z8 [(0,1),(1,1),(2,3),(5,1),(6,1)] [.string .empty,.int .i64 0,.int .i64 0,.int .i64 0,.string .empty,.int .i64 0,.slice none 0 0] [_,_,_,_,_,_,_] [] (by unfold Zf;kernel_rfl) rfl rfl) ?_
  refine Lm rfl ?_
  refine L0 (Es [_,_,_,_,_,_,_] rfl rfl rfl rfl (by simp) ?_)
  try simp only [splice,lC,lN,dS,cA,tS,tZ,dZ,nA,aN]
  refine La rfl ?_
  refine Ld ?_
  refine T.ret ?_
  exact ⟨.inl rfl,_,_,res [_,_] rfl ⟨rvA [_,_,_,_,_,_,_] rfl ⟨rfl,rfl,rfl,rfl,rfl,rfl,rfl,trivial⟩,rvT rfl,trivial⟩,BindPost.ofErr (by unfold bindE;rw [if_neg h1,if_neg h2,if_neg h3,bindL_err hx hbl hbe]) rfl hne rfl,Sa⟩
 obtain rfl:args.length=k:=by omega
 rw [List.take_length] at hbl
 refine zB ?_
 refine Ts ?_
 refine TR ?_
 refine Lq (Q0 rfl) ?_
 refine Lq (Ql rfl rfl) ?_
 refine Lq (Qf (off:=6) rfl) ?_
 refine Lq (Ql rfl rfl) ?_
 refine Le (Ec (Bd.kind B [row (.slice p l0 c0) 27 7 l0 (cs.flatMap c7)] op p l0 c0 cs (ts.map Tm.kind) (FlV.row (sz:=7) (λ _=>rfl) (by omega) hcl hp) hcl (by have:=htv.1;omega) htv.ks) Tryz.func50 rfl rfl rfl ?_)
 rintro _ _ ⟨rfl,rfl⟩
 try simp only [cA,nA]
 refine Lm rfl ?_
 refine Lq (Qx rfl rfl) ?_
 refine Lq (Qx rfl rfl) ?_
 refine La rfl ?_
 refine La rfl ?_
 refine Ld ?_
 refine Ts ?_
 refine Ts ?_
 refine TR ?_
 refine Lm rfl ?_
 refine Lq (Y2 rfl) ?_
 refine Ld ?_
 refine Y9 rfl (λ h4=>?_) (λ h4=>?_)
 .
  have h6:(kindP op (ts.map Tm.kind)).2=false:=by simpa using h4
  refine Ts ?_
  refine TR ?_
  refine Lq (z8 [(0,1),(1,1),(2,3),(5,1),(6,1)] [.string .empty,.int .i64 0,.int .i64 0,.int .i64 0,.string .empty,.int .i64 0,.slice none 0 0] [_,_,_,_,_,_,_] [] (by unfold Zf;kernel_rfl) rfl rfl) ?_
  refine L0 (Es [_,_,_,_,_,_,_] rfl rfl rfl rfl (by simp) ?_)
  try simp only [splice,lC,lN,dS,cA,tS,tZ,dZ,nA,aN]
  refine La rfl ?_
  refine Ld ?_
  refine T.ret ?_
  exact ⟨.inl rfl,_,_,res [_,_] rfl ⟨rvA [_,_,_,_,_,_,_] rfl ⟨rfl,rfl,rfl,rfl,rfl,rfl,rfl,trivial⟩,rvT rfl,trivial⟩,BindPost.ofErr (by unfold bindE;rw [if_neg h1,if_neg h2,if_neg h3,hbl];dsimp only;rw [if_neg (by rw [h6];decide)]) rfl (by omega) rfl,Sa⟩
 have h6:(kindP op (ts.map Tm.kind)).2=true:=by simpa using h4
 refine Tk ?_
 refine Ts ?_
 refine TR ?_
 refine Lm rfl ?_
 refine Lq (Qf (off:=1) rfl) ?_
 refine L0 (E1 rfl rfl rfl (by first | (simp;done) | (simp;omega)) ?_)
 try simp only [List.set_cons_zero,List.set_cons_succ]
 refine Ld ?_
 refine Ts ?_
 refine TR ?_
 refine Lq (QL [_,_,_,_,_,_,_] rfl ⟨rfl,rfl,rfl,rfl,rfl,rfl,rfl,trivial⟩) ?_
 refine L0 (Es [_,_,_,_,_,_,_] rfl rfl rfl rfl (by simp) ?_)
 try simp only [splice,lC,lN,dS,cA,tS,tZ,dZ,nA,aN]
 refine La rfl ?_
 refine Ld ?_
 refine T.ret ?_
 exact ⟨.inl rfl,_,_,res [_,_] rfl ⟨rvA [_,_,_,_,_,_,_] rfl ⟨rfl,rfl,rfl,rfl,rfl,rfl,rfl,trivial⟩,rvT rfl,trivial⟩,BindPost.ofOk (A:=sepL [row (.slice p l0 c0) 27 7 l0 (cs.flatMap c7),A]) (c:=⟨tV _,iV _,iV _,iV _,tV _,iV _,_⟩) (by unfold bindE;rw [if_neg h1,if_neg h2,if_neg h3,hbl];dsimp only;rw [if_pos h6]) rfl (.mk op _ vZ 0 ts _ cs ((FlV.row (l:=[A]) (sz:=7) (λ _=>rfl) (by omega) hcl hp).mono λ w ho=>ho.map λ _ H=>Has.open_sepL H) htv.1 (by omega) (λ i t c h1 h2=>(htv.2 i t c h1 h2).sub λ _ H=>(Has.open_sepL H).tail)) rfl,Sa⟩
end Go.Proofs.YtnnfjemaeefbiaaGreatDoor
