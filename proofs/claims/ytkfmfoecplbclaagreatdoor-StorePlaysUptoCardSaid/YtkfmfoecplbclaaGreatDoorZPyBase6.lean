/- The texts MpA, one behind the other: what the law leans on. Conditions: as each theorem says. -/
import Derived.Test.YtkfmfoecplbclaaGreatDoorZPyBase5
import Derived.Maps.RangeRun
set_option linter.unusedSectionVars false
set_option linter.unusedSimpArgs false
set_option linter.unusedVariables false
set_option maxRecDepth 100000
set_option maxHeartbeats 16000000
namespace Go.Proofs.YtkfmfoecplbclaaGreatDoor
open Go.RowKit
def Zy {α β:Type} [DecidableEq α]:List (α×β)->α->Option β
 | [],_=>none
 | p::l,k=>if p.1=k then some p.2 else Zy l k
def putL {α β:Type} [DecidableEq α]:List (α×β)->α->β->List (α×β)
 | [],k,v=>[(k,v)]
 | p::l,k,v=>if p.1=k then (k,v)::l else p::putL l k v
def cutL {α β:Type} [DecidableEq α] (L:List (α×β)) (k:α):List (α×β):=L.filter λ p=>decide (p.1≠k)
structure MapIs {α β:Type} (ke:α->Value) (ve:β->Value) (L:List (α×β)) (es:Array MapEntry) (clock:Nat):Prop where
 st:MapKept.Stamped es clock
 eq:es.toList.map (λ e=>(e.key,e.val))=L.map λ p=>(ke p.1,ve p.2)
def mpA {α β:Type} (ke:α->Value) (ve:β->Value) (g:Nat) (L:List (α×β)):Wp:=λ h => ∃ es clock,h g=some (.map es clock)/\MapIs ke ve L es clock
def rgA {α β:Type} (ke:α->Value) (ve:β->Value) (r g:Nat) (L left:List (α×β)):Wp:=λ h => ∃ es clock seen c0,r≠g/\h g=some (.map es clock)/\MapIs ke ve L es clock/\h r=some (.mapIter (some g) clock seen c0)/\clock<=c0/\(leftOf es seen).toList.map (λ e=>(e.key,e.val))=left.map λ p=>(ke p.1,ve p.2)
def reA {α β:Type} (ke:α->Value) (ve:β->Value) (r g:Nat) (L left:List (α×β)) (p:α×β):Wp:=λ h => ∃ (es:Array MapEntry) (clock:Nat) (seen:Array Nat) (e:MapEntry),r≠g/\h g=some (.map es clock)/\MapIs ke ve L es clock/\h r=some (.mapIter (some g) clock (seen.push e.born) clock)/\(leftOf es (seen.push e.born)).toList.map (λ e=>(e.key,e.val))=left.map (λ p=>(ke p.1,ve p.2))/\e∈es.toList/\e.key=ke p.1/\e.val=ve p.2
def msA {α β:Type} (ke:α->Value) (ve:β->Value) (g:Nat) (L:List (α×β)) (k:α) (b:Nat):Wp:=λ h => ∃ es clock,h g=some (.map es clock)/\MapIs ke ve L es clock /\ ∃ e∈es.toList,e.key=ke k/\e.born=b
structure KeyOk (P:Program) (kt:TypeId) {α:Type} (ke:α->Value):Prop where
 chk : ∀ (w:World) (k:α) (e:Bool),(Instr.checkKey e 10000 kt (ke k)).run P w = .ok () w
 stays : ∀ (w:World) (k:α),(Instr.keyThatStays (ke k) (ke k)).run P w = .ok (ke k) w
 find : ∀ [DecidableEq α] {β:Type} (ve:β->Value) (w:World) (k:α) (es:List MapEntry) (L:List (α×β)),es.map (λ e=>(e.key,e.val))=L.map (λ p=>(ke p.1,ve p.2)) ->
  (Zy L k=none/\(Instr.findKey kt (ke k) es).run P w = .ok none w) \/ ∃ v j,Zy L k=some v/\(Instr.findKey kt (ke k) es).run P w = .ok (some (j,ve v)) w/\L[j]?.map (·.1)=some k /\ ∀ (j':Nat),j'<j->L[j']?.map (·.1)≠some k
structure MapOk (P:Program) (t:TypeId) {α:Type} (ke:α->Value) (z:Value):Prop where
 ex : ∃ kt et,P.underlying t=some (.map kt et)/\(P.info? et).bind (·.zero)=some z/\KeyOk P kt ke
 inj : ∀ a b,ke a=ke b->a=b
theorem i64_inj : ∀ a b:Int,Value.int .i64 a = .int .i64 b->a=b:=λ a b h=>by injection h
section
variable {P : Program} {B:Wn} {n:Nat} {S l r:List Wp} {f:Fr} {K:Value->List Wp->Prop}
variable {d : Option Tmp} {ty:TypeId} {pos:String} {af:Array Edge} {gd:Option (Nat×Bool)}
variable {α β:Type} [DecidableEq α] {ke:α->Value} {ve:β->Value} {L left:List (α×β)} {g:Nat}
theorem findNow_look {dk:TypeDesc} (hk : ∀ a,MapKept.IsKey dk (ke a)) (hi : ∀ a b,ke a=ke b->a=b) (k:α) : ∀ (es:List MapEntry) (L:List (α×β)) (i:Nat),es.map (λ e=>(e.key,e.val))=L.map (λ p=>(ke p.1,ve p.2)) ->
    (Zy L k=none/\Instr.findNow dk (ke k) es i=some none) \/ ∃ v j,Zy L k=some v/\Instr.findNow dk (ke k) es i=some (some (i+j,ve v))/\L[j]?.map (·.1)=some k /\ ∀ (j':Nat),j'<j->L[j']?.map (·.1)≠some k
  | [],[],i,_ => .inl ⟨rfl,rfl⟩
  | [],_::_,_,h=>by simp at h
  | _::_,[],_,h=>by simp at h
  | e::es,p::L,i,h=>by
    simp only [List.map_cons,List.cons.injEq,Prod.mk.injEq] at h
    obtain ⟨⟨h1,h2⟩,h3⟩:=h
    obtain ⟨r,hr,hiff⟩:=MapKept.sameNow_of_keys (hk k) (hk p.1)
    by_cases e1:p.1=k
    . refine .inr ⟨p.2,0,by simp [Zy,e1],?_,by simp [e1],λ j' h=>by omega⟩
      have:r=true:=hiff.2 (by rw [e1])
      subst this
      simp [Instr.findNow,h1,hr,h2]
    . have:r=false:=by
        cases r with
        | false=>rfl
        | true=>exact absurd (hi _ _ (hiff.1 rfl)).symm e1
      subst this
      have hf:Instr.findNow dk (ke k) (e::es) i=Instr.findNow dk (ke k) es (i+1):=by simp [Instr.findNow,h1,hr]
      rw [hf]
      rcases findNow_look hk hi k es L (i+1) h3 with ⟨a1,a2⟩ | ⟨v,j,a1,a2,a3,a4⟩
      . exact .inl ⟨by simp [Zy,e1,a1],a2⟩
      . refine .inr ⟨v,j+1,by simp [Zy,e1,a1],by rw [a2];congr 3;omega,by simpa using a3,λ j' hj'=>?_⟩
        cases j' with
        | zero=>simpa using e1
        | succ j'=>simpa using a4 j' (by omega)
theorem MapOk.mk3 {P:Program} {t:TypeId} {α:Type} {ke:α->Value} {z:Value} (kt et:TypeId) (d:TypeDesc) (h1:P.underlying t=some (.map kt et)) (h2:P.underlying kt=some d) (h3 : ∀ a,MapKept.IsKey d (ke a)) (h5 : ∀ a b,ke a=ke b->a=b) (h4:(P.info? et).bind (·.zero)=some z:=by kernel_rfl):MapOk P t ke z :=
  ⟨⟨kt,et,h1,h4,λ w k e=>MapKept.run_checkKey h2 (h3 k) e 9999,λ w k=>MapKept.run_keyThatStays (h3 k),λ ve w k es L he=>by
    rcases findNow_look (ve:=ve) h3 h5 k es L 0 he with ⟨a1,a2⟩ | ⟨v,j,a1,a2,a3,a4⟩
    . exact .inl ⟨a1,MapKept.run_findKey h2 a2⟩
    . rw [Nat.zero_add] at a2
      exact .inr ⟨v,j,a1,MapKept.run_findKey h2 a2,a3,a4⟩⟩,h5⟩
theorem look_put_same (k:α) (v:β) : ∀ L:List (α×β),Zy (putL L k v) k=some v
 | []=>by simp [putL,Zy]
 | p::L=>by
  unfold putL
  split
  . simp [Zy]
  . rename_i hne;simp [Zy,hne,look_put_same k v L]
theorem look_put_ne {k k':α} (v:β) (h:k≠k') : ∀ L:List (α×β),Zy (putL L k v) k'=Zy L k'
 | []=>by simp [putL,Zy,h]
 | p::L=>by
  unfold putL
  split
  . rename_i e;simp [Zy,e,h]
  . simp [Zy,look_put_ne v h L]
theorem putL_new {k:α} {v:β} : ∀ {L:List (α×β)},Zy L k=none->putL L k v=L++[(k,v)]
 | [],_=>rfl
 | p::L,h=>by
  unfold Zy at h
  split at h
  . cases h
  . rename_i hne;simp [putL,hne,putL_new h]
theorem putL_old {k:α} {v:β} : ∀ {L:List (α×β)} {j:Nat},L[j]?.map (·.1)=some k->(∀ (j':Nat),j'<j->L[j']?.map (·.1)≠some k)->putL L k v=L.set j (k,v)
 | [],j,h,_=>by simp at h
 | p::L,0,h,_=>by simp at h;simp [putL,h]
 | p::L,j+1,h,h2=>by
  have:=h2 0 (by omega)
  simp at this
  simp [putL,this,putL_old (L:=L) (j:=j) (by simpa using h) (λ j' hj'=>by simpa using h2 (j'+1) (by omega))]
theorem lookL_none_mem {k:α} : ∀ {L:List (α×β)},Zy L k=none -> ∀ p∈L,p.1≠k
  | [],_,p,hp=>by cases hp
  | q::L,h,p,hp=>by
    unfold Zy at h
    split at h
    . cases h
    . rename_i hne
      rcases List.mem_cons.1 hp with rfl | hp
      . exact hne
      . exact lookL_none_mem h p hp
theorem lookL_mem {k:α} {v:β} : ∀ {L:List (α×β)},Zy L k=some v->(k,v)∈L
 | [],h=>by cases h
 | q::L,h=>by
  unfold Zy at h
  split at h
  . rename_i e;injection h with h;subst e;subst h;exact List.mem_cons_self ..
  . exact List.mem_cons_of_mem _ (lookL_mem h)
theorem MapIs.len {es:Array MapEntry} {clock:Nat} (h:MapIs ke ve L es clock):es.size=L.length:=by
 have:=congrArg List.length h.eq
 simpa using this
theorem MapIs.nodup {es:Array MapEntry} {clock:Nat} (h:MapIs ke ve L es clock):(L.map (·.1)).Nodup:=by
 have h1:es.toList.map (·.key)=L.map λ p=>ke p.1:=by
  have:=congrArg (List.map Prod.fst) h.eq
  rw [List.map_map,List.map_map] at this
  exact this
 have h2:=h.st.2.2
 rw [h1] at h2
 have h3:(L.map (·.1)).map ke=L.map λ p=>ke p.1:=by rw [List.map_map];rfl
 rw [<-h3] at h2
 exact List.Pairwise.of_map ke (λ a b hab e=>hab (by rw [e])) h2
theorem MapIs.at_ {es:Array MapEntry} {clock:Nat} (h:MapIs ke ve L es clock) {j:Nat} {e:MapEntry} (he:es[j]? = some e) : ∃ p,L[j]? = some p/\e.key=ke p.1/\e.val=ve p.2:=by
 have:=congrArg (·[j]?) h.eq
 simp only [List.getElem?_map,Array.getElem?_toList,he,Option.map_some] at this
 cases hp:L[j]? with
 | none=>rw [hp] at this;simp at this
 | some p=>rw [hp] at this;simp at this;exact ⟨p,rfl,this.1,this.2⟩
theorem MapIs.push {es:Array MapEntry} {clock:Nat} (h:MapIs ke ve L es clock) (hi : ∀ a b,ke a=ke b->a=b) {k:α} {v:β} (hn:Zy L k=none):MapIs ke ve (putL L k v) (es.push ⟨ke k,ve v,clock⟩) (clock+1):=by
  obtain ⟨h1,h2,h3⟩:=h.st
  refine ⟨⟨λ x hx=>?_,?_,?_⟩,by simp [putL_new hn,h.eq]⟩
  . simp at hx
    rcases hx with hx | rfl
    . have:=h1 x (by simpa using hx);omega
    . exact Nat.lt_succ_self _
  . simp only [Array.toList_push,List.map_append,List.map_cons,List.map_nil]
    rw [List.nodup_append]
    refine ⟨h2,by simp,λ a ha b hb=>?_⟩
    simp at hb;subst hb
    obtain ⟨x,hx,rfl⟩:=List.mem_map.1 ha
    have:=h1 x hx;omega
  . simp only [Array.toList_push,List.map_append,List.map_cons,List.map_nil]
    rw [List.nodup_append]
    refine ⟨h3,by simp,λ a ha b hb e=>?_⟩
    simp at hb;subst hb;subst e
    obtain ⟨x,hx,e⟩:=List.mem_map.1 ha
    obtain ⟨j,hj,rfl⟩:=List.getElem_of_mem hx
    obtain ⟨p,hp,e1,_⟩:=h.at_ (j:=j) (e:=es[j]) (by simp)
    have e':ke p.1=ke k:=by rw [<-e1];exact e
    exact lookL_none_mem hn p (List.mem_of_getElem? hp) (hi _ _ e')
theorem MapIs.modify {es:Array MapEntry} {clock:Nat} (h:MapIs ke ve L es clock) {k:α} {v:β} {j:Nat} (h1:L[j]?.map (·.1)=some k) (h2 : ∀ (j':Nat),j'<j->L[j']?.map (·.1)≠some k):MapIs ke ve (putL L k v) (es.modify j λ e=>{e with key:=ke k,val:=ve v}) clock:=by
  have hkey : ∀ e,es[j]? = some e->e.key=ke k:=λ e he=>by
    obtain ⟨p,hp,e1,_⟩:=h.at_ he
    rw [hp] at h1;simp at h1;rw [e1,h1]
  have hb:(es.modify j λ e=>{e with key:=ke k,val:=ve v}).toList.map (·.born)=es.toList.map (·.born):=by
    apply List.ext_getElem?
    intro i
    simp only [List.getElem?_map,Array.getElem?_toList,Array.getElem?_modify]
    split
    . cases es[i]? <;> rfl
    . rfl
  have hk:(es.modify j λ e=>{e with key:=ke k,val:=ve v}).toList.map (·.key)=es.toList.map (·.key):=by
    apply List.ext_getElem?
    intro i
    simp only [List.getElem?_map,Array.getElem?_toList,Array.getElem?_modify]
    split
    . rename_i e;subst e
      cases he:es[j]? with
      | none=>rfl
      | some e=>simp [hkey e he]
    . rfl
  refine ⟨⟨λ x hx=>?_,by rw [hb];exact h.st.2.1,by rw [hk];exact h.st.2.2⟩,?_⟩
  . have:x.born∈(es.modify j λ e=>{e with key:=ke k,val:=ve v}).toList.map (·.born):=List.mem_map_of_mem hx
    rw [hb] at this
    obtain ⟨y,hy,e⟩:=List.mem_map.1 this
    rw [<-e];exact h.st.1 y hy
  . rw [putL_old h1 h2]
    apply List.ext_getElem?
    intro i
    simp only [List.getElem?_map,Array.getElem?_toList,Array.getElem?_modify,List.getElem?_set]
    have:=congrArg (·[i]?) h.eq
    simp only [List.getElem?_map,Array.getElem?_toList] at this
    have hlen:=h.len
    by_cases e:j=i
    . subst e
      by_cases hj:j<L.length
      . rw [if_pos rfl,if_pos rfl,if_pos hj,Array.getElem?_eq_getElem (by omega)];rfl
      . rw [if_pos rfl,if_pos rfl,if_neg hj,Array.getElem?_eq_none (by omega)];rfl
    . rw [if_neg e,if_neg e];exact this
class MapAt (g:Nat) (l:List Wp) {α β:outParam Type} (ke:outParam (α->Value)) (ve:outParam (β->Value)) (L:outParam (List (α×β))):Prop where
 find : ∀ h,Has l h -> ∃ es clock,h g=some (.map es clock)/\MapIs ke ve L es clock
instance {α β:Type} (ke:α->Value) (ve:β->Value) (g:Nat) (L:List (α×β)) (l:List Wp):MapAt g (mpA ke ve g L::l) ke ve L:=⟨λ _ ⟨_,_,_,a,_,⟨es,c,e1,e2⟩,_⟩=>⟨es,c,a.p _ _ e1,e2⟩⟩
instance {α β:Type} (ke:α->Value) (ve:β->Value) (r g:Nat) (L left:List (α×β)) (l:List Wp):MapAt g (rgA ke ve r g L left::l) ke ve L:=⟨λ _ ⟨_,_,_,a,_,⟨es,c,_,_,_,e1,e2,_⟩,_⟩=>⟨es,c,a.p _ _ e1,e2⟩⟩
instance {α β:Type} (ke:α->Value) (ve:β->Value) (g:Nat) (L:List (α×β)) (k:α) (b:Nat) (l:List Wp):MapAt g (msA ke ve g L k b::l) ke ve L:=⟨λ _ ⟨_,_,_,a,_,⟨es,c,e1,e2,_⟩,_⟩=>⟨es,c,a.p _ _ e1,e2⟩⟩
instance {α β:Type} (ke:α->Value) (ve:β->Value) (g:Nat) (L:List (α×β)) (A:Wp) (l:List Wp) [k:MapAt g l ke ve L]:MapAt g (A::l) ke ve L:=⟨λ _ H=>k.find _ H.tail⟩
class TakeM (g:Nat) (l:List Wp) {α β:outParam Type} (ke:outParam (α->Value)) (ve:outParam (β->Value)) (L:outParam (List (α×β))) (r:outParam (List Wp)):Prop where
 take : ∀ h,Has l h->Has (mpA ke ve g L::r) h
instance {α β:Type} (ke:α->Value) (ve:β->Value) (g:Nat) (L:List (α×β)) (l:List Wp):TakeM g (mpA ke ve g L::l) ke ve L l:=⟨λ _ H=>H⟩
instance {α β:Type} (ke:α->Value) (ve:β->Value) (r g:Nat) (L left:List (α×β)) (l:List Wp):TakeM g (rgA ke ve r g L left::l) ke ve L l:=⟨λ _ H=>Has.weaken (λ _ ⟨es,c,_,_,_,e1,e2,_⟩=>⟨es,c,e1,e2⟩) H⟩
instance {α β:Type} (ke:α->Value) (ve:β->Value) (g:Nat) (L:List (α×β)) (A:Wp) (l r:List Wp) [k:TakeM g l ke ve L r]:TakeM g (A::l) ke ve L (A::r):=⟨λ _ ⟨h1,h2,d,a,b,e,H⟩=>Has.swap ⟨h1,h2,d,a,b,e,k.take _ H⟩⟩
instance {α β:Type} (ke:α->Value) (ve:β->Value) (r g:Nat) (L left:List (α×β)) (p:α×β) (l:List Wp):MapAt g (reA ke ve r g L left p::l) ke ve L:=⟨λ _ ⟨_,_,_,a,_,⟨es,c,_,_,_,e1,e2,_⟩,_⟩=>⟨es,c,a.p _ _ e1,e2⟩⟩
theorem re_rg {α β:Type} {ke:α->Value} {ve:β->Value} {r g:Nat} {L left:List (α×β)} {p:α×β} (h:Piece):reA ke ve r g L left p h->rgA ke ve r g L left h:=λ ⟨es,c,seen,e,h1,h2,h3,h4,h6,_⟩=>⟨es,c,_,c,h1,h2,h3,h4,Nat.le_refl _,h6⟩
instance {α β:Type} (ke:α->Value) (ve:β->Value) (r g:Nat) (L left:List (α×β)) (p:α×β) (l:List Wp):TakeA (rgA ke ve r g L left) (reA ke ve r g L left p::l) l:=⟨λ _ H=>Has.weaken re_rg H⟩
instance {α β:Type} (ke:α->Value) (ve:β->Value) (r g:Nat) (L left:List (α×β)) (p:α×β) (l:List Wp):TakeA (mpA ke ve g L) (reA ke ve r g L left p::l) l:=⟨λ _ H=>Has.weaken (λ _ ⟨es,c,_,_,_,e1,e2,_⟩=>⟨es,c,e1,e2⟩) H⟩
instance {α β:Type} (ke:α->Value) (ve:β->Value) (r g:Nat) (L left:List (α×β)) (p:α×β) (l:List Wp):TakeM g (reA ke ve r g L left p::l) ke ve L l:=⟨λ _ H=>Has.weaken (λ _ ⟨es,c,_,_,_,e1,e2,_⟩=>⟨es,c,e1,e2⟩) H⟩
class EntAt (r:Nat) (l:List Wp) {α β:outParam Type} (ke:outParam (α->Value)) (ve:outParam (β->Value)) (p:outParam (α×β)):Prop where
 find : ∀ h,Has l h -> ∃ g L left,∃ h1,Piece.le h1 h/\reA ke ve r g L left p h1
instance {α β:Type} (ke:α->Value) (ve:β->Value) (r g:Nat) (L left:List (α×β)) (p:α×β) (l:List Wp):EntAt r (reA ke ve r g L left p::l) ke ve p:=⟨λ _ ⟨h1,_,_,a,_,e,_⟩=>⟨g,L,left,h1,a,e⟩⟩
instance {α β:Type} (ke:α->Value) (ve:β->Value) (r:Nat) (p:α×β) (A:Wp) (l:List Wp) [k:EntAt r l ke ve p]:EntAt r (A::l) ke ve p:=⟨λ h H=>by
 obtain ⟨h1,h2,d,a,b,e,H2⟩:=H
 obtain ⟨g,L,left,h3,hle,e3⟩:=k.find _ H2
 exact ⟨g,L,left,h3,hle.le_trans b,e3⟩⟩
instance {α β:Type} (ke:α->Value) (ve:β->Value) (r g:Nat) (L left:List (α×β)) (l:List Wp):TakeA (mpA ke ve g L) (rgA ke ve r g L left::l) l:=⟨λ _ H=>Has.weaken (λ _ ⟨es,c,_,_,_,e1,e2,_⟩=>⟨es,c,e1,e2⟩) H⟩
theorem Own.mapAt {w:World} {α β:Type} {ke:α->Value} {ve:β->Value} {g:Nat} {L:List (α×β)} (H:Own B w l) [k:MapAt g l ke ve L] : ∃ es clock,w.heap[g]? = some (.map es clock)/\MapIs ke ve L es clock:=by
 obtain ⟨h,_,hl,e⟩:=H.has
 obtain ⟨es,c,e1,e2⟩:=k.find _ e
 exact ⟨es,c,hl.p _ _ e1,e2⟩
theorem Own.mapNodup {w:World} {α β:Type} [DecidableEq α] {ke:α->Value} {ve:β->Value} (g:Nat) {L:List (α×β)} (H:Own B w l) [k:MapAt g l ke ve L]:(L.map (·.1)).Nodup:=by
 obtain ⟨es,c,_,e⟩:=H.mapAt (g:=g)
 exact e.nodup
theorem Own.takeM {w:World} {α β:Type} {ke:α->Value} {ve:β->Value} {g:Nat} {L:List (α×β)} (H:Own B w l) [k:TakeM g l ke ve L r]:Own B w (mpA ke ve g L::r):=H.map k.take
theorem Own.mapHead {w:World} (H:Own B w (mpA ke ve g L::l)) : ∃ es clock,w.heap[g]? = some (.map es clock)/\MapIs ke ve L es clock:=H.mapAt
theorem kept_setObj (w:World) (g:Nat) (o:Obj):Kept [g] w {w with heap:=w.heap.setIfInBounds g o}:=by
 refine ⟨rfl,rfl,rfl,by simp,λ k hk hn=>?_⟩
 show (w.heap.setIfInBounds g o)[k]? = _
 rw [Array.getElem?_setIfInBounds,if_neg (λ e=>hn (by simp [e]))]
theorem Own.setMap {w:World} {A A':Wp} (H:Own B w (A::l)) {o:Obj} (hA : ∀ h,A h -> ∃ o',h g=some o') (hA' : ∀ h h1:Piece,A h1->h g=some o->(∀ b o',h1 b=some o'->b≠g->h b=some o')->A' h):Own B {w with heap:=w.heap.setIfInBounds g o} (A'::l):=by
 have hb : ∃ o',w.heap[g]? = some o':=by
  obtain ⟨h,_,hl,h1,_,_,a1,_,hA1,_⟩:=H.has
  obtain ⟨o',e⟩:=hA _ hA1
  exact ⟨o',hl.p _ _ (a1.p _ _ e)⟩
 obtain ⟨o',hb⟩:=hb
 have hlt:g<w.heap.size:=(Array.getElem?_eq_some_iff.1 hb).1
 refine Own.kept (fp:=[g]) H (kept_setObj w g o) (λ h e g' hg=>by simp at hg;subst hg;exact hA _ e) (λ h1 h hA1 _ e1 e2=>hA' h h1 hA1 ?_ λ b o' hb hne=>e2 b o' hb (by simpa using hne))
 have:=e1 g (.inl (by simp))
 rw [this]
 show (w.heap.setIfInBounds g o)[g]? = _
 rw [Array.getElem?_setIfInBounds,if_pos rfl,if_pos hlt]
theorem mapOk_sub {t:TypeId} {z:Value} (M:MapOk P t ke z) (w:World) (k:α) (e:Bool) : ∃ kt et,P.underlying t=some (.map kt et)/\(Instr.checkKey e 10000 kt (ke k)).run P w = .ok () w/\(zeroValue et).run P w = .ok z w /\ ∀ (es:List MapEntry) (L:List (α×β)),es.map (λ e=>(e.key,e.val))=L.map (λ p=>(ke p.1,ve p.2)) ->
  (Zy L k=none/\(Instr.findKey kt (ke k) es).run P w = .ok none w) \/ ∃ v j,Zy L k=some v/\(Instr.findKey kt (ke k) es).run P w = .ok (some (j,ve v)) w/\L[j]?.map (·.1)=some k /\ ∀ (j':Nat),j'<j->L[j']?.map (·.1)≠some k:=by
 obtain ⟨kt,et,h1,h4,K⟩:=M.ex
 refine ⟨kt,et,h1,K.chk w k e,?_,K.find ve w k⟩
 cases hi:P.info? et with
 | none=>rw [hi] at h4;cases h4
 | some i=>rw [hi] at h4;simp at h4;simp [zeroValue,typeInfo,hi,h4]
theorem YD {t:TypeId} (α β:Type) (ke:α->Value) (ve:β->Value) (h : ∀ g,K (.map (some g)) (mpA ke ve g ([]:List (α×β))::l)):Ef P B n ⟨d,.makeMap t none,ty,pos,af,gd⟩ f l K:=⟨λ w next Q ho hk=>by
 have hr:(Instr.makeMap t none).run P w = .ok (.map (some w.heap.size)) (w.alloc (.map #[] 0)):=by simp [Instr.makeMap]
 unfold Oper.wp execOp
 simp only [Wk,Option.map_none,Sem.run_bind,hr,Sem.run_pure,Result.andThen_ok]
 refine hk _ _ _ (h _) (Own.fresh ho ((Kept.refl _ _).alloc _) λ hh e=>⟨#[],0,?_,⟨MapKept.stamped_empty 0,rfl⟩⟩)
 rw [e _ (Nat.le_refl _)]
 exact heap_alloc_new w _⟩
theorem run_lookup {t:TypeId} {z:Value} (M:MapOk P t ke z) (w:World) (k:α) (c:Bool) {es:Array MapEntry} {clock:Nat} (hb:w.heap[g]? = some (.map es clock)) (hm:MapIs ke ve L es clock) :
    (Instr.lookup t (.map (some g)) (ke k) c).run P w = .ok (if c then .tuple #[(match Zy L k with | some v=>ve v | none=>z),.bool (Zy L k).isSome] else (match Zy L k with | some v=>ve v | none=>z)) w:=by
  obtain ⟨kt,et,h1,h2,h3,h4⟩:=mapOk_sub (ve:=ve) M w k es.isEmpty
  rcases h4 es.toList L hm.eq with ⟨a1,a2⟩ | ⟨v,j,a1,a2,_,_⟩
  . rw [a1]
    simp [Instr.lookup,run_underlying h1,MapKept.run_getObj_map hb,h2,a2,h3]
  . rw [a1]
    simp [Instr.lookup,run_underlying h1,MapKept.run_getObj_map hb,h2,a2]
theorem ZL {t:TypeId} {x y:Operand} {z:Value} (M:MapOk P t ke z) (hx:ev n f x=some (.map (some g))) (k:α) (hy:ev n f y=some (ke k)) [kk:MapAt g S ke ve L] {v:β} (hv:Zy L k=some v):Qt P B n S ⟨d,.lookup t x y true,ty,pos,af,gd⟩ f (.tuple #[ve v,.bool true]):=⟨λ w ho=>by
 obtain ⟨es,c,hb,hm⟩:=ho.mapAt (g:=g)
 have:=run_lookup M w k true hb hm
 simp only [hv,if_true,Option.isSome_some] at this
 simp [execOp,Zc hx,Zc hy,this]⟩
theorem ZM {t:TypeId} {x y:Operand} {z:Value} (M:MapOk P t ke z) (hx:ev n f x=some (.map (some g))) (k:α) (hy:ev n f y=some (ke k)) [kk:MapAt g S ke ve L] (hv:Zy L k=none):Qt P B n S ⟨d,.lookup t x y true,ty,pos,af,gd⟩ f (.tuple #[z,.bool false]):=⟨λ w ho=>by
 obtain ⟨es,c,hb,hm⟩:=ho.mapAt (g:=g)
 have:=run_lookup M w k true hb hm
 simp only [hv,if_true,Option.isSome_none] at this
 simp [execOp,Zc hx,Zc hy,this]⟩
theorem ZN {t:TypeId} {x y:Operand} {z:Value} (M:MapOk P t ke z) (hx:ev n f x=some (.map (some g))) (k:α) (hy:ev n f y=some (ke k)) [kk:MapAt g S ke ve L] {v:β} (hv:Zy L k=some v):Qt P B n S ⟨d,.lookup t x y false,ty,pos,af,gd⟩ f (ve v):=⟨λ w ho=>by
 obtain ⟨es,c,hb,hm⟩:=ho.mapAt (g:=g)
 have:=run_lookup M w k false hb hm
 simp only [hv,Bool.false_eq_true,if_false] at this
 simp [execOp,Zc hx,Zc hy,this]⟩
theorem ZP {t:TypeId} {x y:Operand} {z:Value} (M:MapOk P t ke z) (hx:ev n f x=some (.map (some g))) (k:α) (hy:ev n f y=some (ke k)) [kk:MapAt g S ke ve L] (hv:Zy L k=none):Qt P B n S ⟨d,.lookup t x y false,ty,pos,af,gd⟩ f z:=⟨λ w ho=>by
 obtain ⟨es,c,hb,hm⟩:=ho.mapAt (g:=g)
 have:=run_lookup M w k false hb hm
 simp only [hv,Bool.false_eq_true,if_false] at this
 simp [execOp,Zc hx,Zc hy,this]⟩
theorem zT {t:TypeId} {x y:Operand} {z:Value} (M:MapOk P t ke z) (hx:ev n f x=some (.map (some g))) (k:α) (hy:ev n f y=some (ke k)) [kk:MapAt g S ke ve L] (v0:β) (hz:z=ve v0):Qt P B n S ⟨d,.lookup t x y false,ty,pos,af,gd⟩ f (ve ((Zy L k).getD v0)):=by
 cases h:Zy L k with
 | none=>rw [Option.getD_none,<-hz];exact ZP M hx k hy h
 | some v=>exact ZN M hx k hy h
theorem run_mapUpdate {t:TypeId} {z:Value} (M:MapOk P t ke z) (w:World) (k:α) (v:β) {es:Array MapEntry} {clock:Nat} (hb:w.heap[g]? = some (.map es clock)) (hm:MapIs ke ve L es clock) :
    ∃ es' c',(Instr.mapUpdate t (.map (some g)) (ke k) (ve v)).run P w = .ok () {w with heap:=w.heap.setIfInBounds g (.map es' c')}/\MapIs ke ve (putL L k v) es' c':=by
  obtain ⟨kt,et,h1,h2,h3,h4⟩:=mapOk_sub (ve:=ve) M w k false
  obtain ⟨kt',et',u1,u2,K⟩:=M.ex
  rcases h4 es.toList L hm.eq with ⟨a1,a2⟩ | ⟨v0,j,a1,a2,a3,a4⟩
  . refine ⟨_,_,?_,hm.push M.inj a1⟩
    simp [Instr.mapUpdate,run_underlying h1,MapKept.run_getObj_map hb,h2,a2,MapKept.run_setObj_map _ hb]
  . have hj : ∃ e,es[j]? = some e/\e.key=ke k:=by
      cases hq:es[j]? with
      | none =>
        cases hp:L[j]? with
        | none=>rw [hp] at a3;cases a3
        | some p =>
          have:=(List.getElem?_eq_some_iff.1 hp).1
          have:=hm.len
          have:=Array.getElem?_eq_none_iff.1 hq
          omega
      | some e =>
        obtain ⟨p,hp,e1,_⟩:=hm.at_ hq
        rw [hp] at a3;simp at a3
        exact ⟨e,rfl,by rw [e1,a3]⟩
    obtain ⟨e,hq,hek⟩:=hj
    refine ⟨_,_,?_,hm.modify a3 a4⟩
    simp [Instr.mapUpdate,run_underlying h1,MapKept.run_getObj_map hb,h2,a2,hq,hek,K.stays _ k,MapKept.run_setObj_map _ hb]
theorem Y0 {t:TypeId} {x y v:Operand} {z:Value} (M:MapOk P t ke z) (hx:ev n f x=some (.map (some g))) (k:α) (hy:ev n f y=some (ke k)) (b:β) (hv:ev n f v=some (ve b)) [kk:TakeM g l ke ve L r] (h:K (.tuple #[]) (mpA ke ve g (putL L k b)::r)):Ef P B n ⟨d,.mapUpdate t x y v,ty,pos,af,gd⟩ f l K:=⟨λ w next Q ho hk=>by
 have ho2:=ho.takeM (k:=kk)
 obtain ⟨es,c,hb,hm⟩:=ho2.mapHead
 obtain ⟨es',c',hr,hm'⟩:=run_mapUpdate M w k b hb hm
 unfold Oper.wp execOp
 simp only [Wk,Zc hx,Zc hy,Zc hv,Sem.run_bind,hr,Sem.run_pure,Result.andThen_ok]
 exact hk _ _ _ h (ho2.setMap (λ h ⟨es,c,e,_⟩=>⟨_,e⟩) λ h h1 _ e _=>⟨es',c',e,hm'⟩)⟩
theorem Z4 {t kt et:TypeId} {x:Operand} (ht:P.underlying t=some (.map kt et)) (hx:ev n f x=some (.map (some g))) [kk:TakeM g l ke ve L r] (h : ∀ i,K (.pointer (some ⟨i,0,none⟩)) (rgA ke ve i g L L::r)):Ef P B n ⟨d,.range t x,ty,pos,af,gd⟩ f l K:=⟨λ w next Q ho hk=>by
 have ho2:=ho.takeM (k:=kk)
 obtain ⟨es,c,hb,hm⟩:=ho2.mapHead
 have hr:=run_range_map (P:=P) w t kt et g es c ht hb
 unfold Oper.wp execOp
 simp only [Wk,Zc hx,Sem.run_bind,hr,Sem.run_pure,Result.andThen_ok]
 have hlt:g<w.heap.size:=(Array.getElem?_eq_some_iff.1 hb).1
 refine hk _ _ _ (h _) (Own.kept (fp:=[g]) ho2 ((Kept.refl _ _).alloc _) (λ h ⟨es,c,e,_⟩ g' hg=>by simp at hg;subst hg;exact ⟨_,e⟩) (λ h1 h ⟨es1,c1,q1,q2⟩ hle e1 _=>?_))
 have eg:h g=some (.map es c):=by
  rw [e1 g (.inl (by simp)),heap_alloc_old w _ hlt];exact hb
 have ei:h w.heap.size=some (.mapIter (some g) c #[] c):=by
  rw [e1 _ (.inr (Nat.le_refl _))];exact heap_alloc_new w _
 refine ⟨es,c,#[],c,by omega,eg,hm,ei,Nat.le_refl _,?_⟩
 rw [<-hm.eq]
 have:(leftOf es #[]).toList=es.toList:=by
  unfold leftOf
  rw [Array.toList_filter,List.filter_eq_self]
  intro a _
  simp
 rw [this]⟩
theorem leftOf_push (es:Array MapEntry) (seen:Array Nat) (e:MapEntry):(leftOf es (seen.push e.born)).toList=(leftOf es seen).toList.filter λ x=>decide (x.born≠e.born):=by
 unfold leftOf
 simp only [Array.toList_filter,List.filter_filter]
 congr 1
 funext x
 by_cases h:x.born=e.born <;> simp [h]
theorem nodup_map_inj {γ δ:Type} (f:γ->δ) : ∀ {l:List γ},(l.map f).Nodup -> ∀ {x y:γ},x∈l->y∈l->f x=f y->x=y
  | a::l,hn,x,y,hx,hy,e=>by
    simp only [List.map_cons,List.nodup_cons] at hn
    rcases List.mem_cons.1 hx with h1 | hx
    . rcases List.mem_cons.1 hy with h2 | hy
      . rw [h1,h2]
      . have:=List.mem_map_of_mem (f:=f) hy
        rw [<-e,h1] at this
        exact absurd this hn.1
    . rcases List.mem_cons.1 hy with h2 | hy
      . have:=List.mem_map_of_mem (f:=f) hx
        rw [e,h2] at this
        exact absurd this hn.1
      . exact nodup_map_inj f hn.2 hx hy e
theorem left_cut : ∀ (Y:List MapEntry) (left:List (α×β)),Y.map (λ e=>(e.key,e.val))=left.map (λ p=>(ke p.1,ve p.2)) -> ∀ (b:Nat) (k:α),(∀ x∈Y,x.born=b↔x.key=ke k)->(∀ a b,ke a=ke b->a=b) ->
  (Y.filter λ x=>decide (x.born≠b)).map (λ e=>(e.key,e.val))=(cutL left k).map λ p=>(ke p.1,ve p.2)
 | [],[],_,_,_,_,_=>rfl
 | [],_::_,h,_,_,_,_=>by simp at h
 | _::_,[],h,_,_,_,_=>by simp at h
 | e::Y,p::left,h,b,k,hb,hi=>by
  simp only [List.map_cons,List.cons.injEq,Prod.mk.injEq] at h
  obtain ⟨⟨h1,h2⟩,h3⟩:=h
  have ih:=left_cut Y left h3 b k (λ x hx=>hb x (List.mem_cons_of_mem _ hx)) hi
  have hiff:e.born=b↔p.1=k:=(hb e (List.mem_cons_self ..)).trans ⟨λ q=>hi _ _ (h1.symm.trans q),λ q=>by rw [h1,q]⟩
  unfold cutL at ih ⊢
  by_cases q:p.1=k
  . rw [List.filter_cons_of_neg (by simpa using hiff.2 q),List.filter_cons_of_neg (by simpa using q)];exact ih
  . rw [List.filter_cons_of_pos (by simpa using λ z=>q (hiff.1 z)),List.filter_cons_of_pos (by simpa using q),List.map_cons,List.map_cons,ih,h1,h2]
theorem Z5 {x:Operand} {i:Nat} {r0:List Wp} (hx:ev n f x=some (.pointer (some ⟨i,0,none⟩))) (hl:l=rgA ke ve i g L ([]:List (α×β))::r0) (h:K (.tuple #[.bool false]) l):Ef P B n ⟨d,.next x false,ty,pos,af,gd⟩ f l K:=⟨λ w next Q ho hk=>by
  subst hl
  obtain ⟨hh,_,hle,h1,_,_,a1,_,⟨es,c,seen,c0,hne,q1,q2,q3,q4,q5⟩,_⟩:=ho.has
  have hr:=hle.p _ _ (a1.p _ _ q3)
  have hb:=hle.p _ _ (a1.p _ _ q1)
  unfold Oper.wp execOp
  rcases run_next_at (P:=P) w ty i g c c0 seen es c hr hb q2.st.1 q4 with ⟨_,e2⟩ | ⟨e,he,_⟩
  . simp only [Wk,Zc hx,Sem.run_bind,e2,Sem.run_pure,Result.andThen_ok]
    exact hk _ _ _ h ho
  . have:(leftOf es seen).toList=[]:=by simpa using q5
    rw [this] at he;cases he⟩
theorem Z6 {x:Operand} {i:Nat} {r0:List Wp} (hi : ∀ a b,ke a=ke b->a=b) (hx:ev n f x=some (.pointer (some ⟨i,0,none⟩))) (hl:l=rgA ke ve i g L left::r0) (hne:left≠[]) (h : ∀ p∈left,K (.tuple #[.bool true,ke p.1,ve p.2]) (reA ke ve i g L (cutL left p.1) p::r0)):Ef P B n ⟨d,.next x false,ty,pos,af,gd⟩ f l K:=⟨λ w next Q ho hk=>by
  subst hl
  have ho0:=ho
  obtain ⟨hh,_,hle,h1,_,_,a1,_,⟨es,c,seen,c0,hig,q1,q2,q3,q4,q5⟩,_⟩:=ho.has
  have hr:=hle.p _ _ (a1.p _ _ q3)
  have hb:=hle.p _ _ (a1.p _ _ q1)
  unfold Oper.wp execOp
  rcases run_next_at (P:=P) w ty i g c c0 seen es c hr hb q2.st.1 q4 with ⟨e1,_⟩ | ⟨e,he,w1,hw1,e2⟩
  . exfalso
    have:(leftOf es seen).toList=[]:=by simpa using e1
    rw [this] at q5
    exact hne (by simpa using q5.symm)
  . obtain ⟨j,hj,rfl⟩:=List.getElem_of_mem he
    have hpj:=congrArg (·[j]?) q5
    simp only [List.getElem?_map,List.getElem?_eq_getElem hj,Option.map_some] at hpj
    cases hp:left[j]? with
    | none=>rw [hp] at hpj;cases hpj
    | some p =>
      rw [hp] at hpj
      simp only [Option.map_some,Option.some.injEq,Prod.mk.injEq] at hpj
      obtain ⟨p1,p2⟩:=hpj
      simp only [Wk,Zc hx,Sem.run_bind,e2,Sem.run_pure,Result.andThen_ok]
      rw [p1,p2]
      refine hk _ _ _ (h p (List.mem_of_getElem? hp)) ?_
      have ho1:Own B w1 (rgA ke ve i g L left::r0):=by rcases hw1 with rfl | rfl <;> first | exact ho0 | exact ho0.drew
      have hb1:w1.heap[g]? = some (.map es c):=by rcases hw1 with rfl | rfl <;> exact hb
      have hr1:w1.heap[i]? = some (.mapIter (some g) c seen c0):=by rcases hw1 with rfl | rfl <;> exact hr
      refine Own.kept (fp:=[i,g]) ho1 ⟨rfl,rfl,rfl,by simp [ChangeMaps.setBlock],λ k hk hn=>?_⟩ (λ h ⟨es,c,_,_,_,e,_,e3,_⟩ g' hg=>by simp at hg;rcases hg with rfl | rfl;exact ⟨_,e3⟩;exact ⟨_,e⟩) (λ h1 h _ _ e1 _=>?_)
      . show (w1.heap.setIfInBounds i _)[k]? = _
        rw [Array.getElem?_setIfInBounds,if_neg (λ e=>hn (by simp [e]))]
      . have hlt:i<w1.heap.size:=(Array.getElem?_eq_some_iff.1 hr1).1
        have eg:h g=some (.map es c):=by
          rw [e1 g (.inl (by simp))]
          show (w1.heap.setIfInBounds i _)[g]? = _
          rw [Array.getElem?_setIfInBounds,if_neg hig];exact hb1
        have ei:h i=some (.mapIter (some g) c (seen.push (leftOf es seen).toList[j].born) c):=by
          rw [e1 i (.inl (by simp))]
          show (w1.heap.setIfInBounds i _)[i]? = _
          rw [Array.getElem?_setIfInBounds,if_pos rfl,if_pos hlt]
        have hsub : ∀ x∈(leftOf es seen).toList,x∈es.toList:=λ x hx=>by
          unfold leftOf at hx
          rw [Array.toList_filter] at hx
          exact (List.mem_filter.1 hx).1
        have hme:(leftOf es seen).toList[j]∈es.toList:=hsub _ (List.getElem_mem _)
        refine ⟨es,c,seen,(leftOf es seen).toList[j],hig,eg,q2,ei,?_,hme,p1,p2⟩
        rw [leftOf_push]
        refine left_cut _ _ q5 _ p.1 (λ x hx=>⟨λ e=>?_,λ e=>?_⟩) hi
        . rw [nodup_map_inj (·.born) q2.st.2.1 (hsub x hx) hme e];exact p1
        . rw [nodup_map_inj (·.key) q2.st.2.2 (hsub x hx) hme (e.trans p1.symm)]⟩
theorem Z7 {x:Operand} {i:Nat} {p:α×β} (hx:ev n f x=some (.pointer (some ⟨i,0,none⟩))) [kk:EntAt i S ke ve p]:Qt P B n S ⟨d,.entry x,ty,pos,af,gd⟩ f (.tuple #[ke p.1,ve p.2]):=⟨λ w ho=>by
 obtain ⟨hh,_,hle,H⟩:=ho.has
 obtain ⟨g,L,left,h1,a1,es,c,seen,e,hig,q1,q2,q3,q5,q6,q7,q8⟩:=kk.find _ H
 have hr:=hle.p _ _ (a1.p _ _ q3)
 have hb:=hle.p _ _ (a1.p _ _ q1)
 have:=run_entry_at (P:=P) w i g c seen es c e hr hb q6 q2.st.2.1
 simp [execOp,Zc hx,this,q7,q8]⟩
end
end Go.Proofs.YtkfmfoecplbclaaGreatDoor
