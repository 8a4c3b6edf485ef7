/- The texts MpA HeA HpA HpB, one behind the other: what the law leans on. Conditions: as each theorem says. -/
import Derived.Test.YtfjjgdnepfgnhaaGreatDoorZHfBase6
import Derived.Maps.RangeRun
set_option linter.unusedSectionVars false
set_option linter.unusedSimpArgs false
set_option linter.unusedVariables false
set_option maxRecDepth 100000
set_option maxHeartbeats 16000000
namespace Go.Proofs.YtfjjgdnepfgnhaaGreatDoor
open Go.RowKit
def Zy {α β:Type} [DecidableEq α]:List (α×β)→α→Option β
 | [],_=>none
 | p::l,k=>if p.1=k then some p.2 else Zy l k
def putL {α β:Type} [DecidableEq α]:List (α×β)→α→β→List (α×β)
 | [],k,v=>[(k,v)]
 | p::l,k,v=>if p.1=k then (k,v)::l else p::putL l k v
def cutL {α β:Type} [DecidableEq α] (L:List (α×β)) (k:α):List (α×β):=L.filter fun p=>decide (p.1≠k)
structure MapIs {α β:Type} (ke:α→Value) (ve:β→Value) (L:List (α×β)) (es:Array MapEntry) (clock:Nat):Prop where
 st:MapKept.Stamped es clock
 eq:es.toList.map (fun e=>(e.key,e.val))=L.map fun p=>(ke p.1,ve p.2)
def mpA {α β:Type} (ke:α→Value) (ve:β→Value) (g:Nat) (L:List (α×β)):Wp:=fun h => ∃ es clock,h g=some (.map es clock)∧MapIs ke ve L es clock
def rgA {α β:Type} (ke:α→Value) (ve:β→Value) (r g:Nat) (L left:List (α×β)):Wp:=fun h => ∃ es clock seen c0,r≠g∧h g=some (.map es clock)∧MapIs ke ve L es clock∧h r=some (.mapIter (some g) clock seen c0)∧clock≤c0∧(leftOf es seen).toList.map (fun e=>(e.key,e.val))=left.map fun p=>(ke p.1,ve p.2)
def reA {α β:Type} (ke:α→Value) (ve:β→Value) (r g:Nat) (L left:List (α×β)) (p:α×β):Wp:=fun h => ∃ (es:Array MapEntry) (clock:Nat) (seen:Array Nat) (e:MapEntry),r≠g∧h g=some (.map es clock)∧MapIs ke ve L es clock∧h r=some (.mapIter (some g) clock (seen.push e.born) clock)∧(leftOf es (seen.push e.born)).toList.map (fun e=>(e.key,e.val))=left.map (fun p=>(ke p.1,ve p.2))∧e∈es.toList∧e.key=ke p.1∧e.val=ve p.2
def msA {α β:Type} (ke:α→Value) (ve:β→Value) (g:Nat) (L:List (α×β)) (k:α) (b:Nat):Wp:=fun h => ∃ es clock,h g=some (.map es clock)∧MapIs ke ve L es clock ∧ ∃ e∈es.toList,e.key=ke k∧e.born=b
structure KeyOk (P:Program) (kt:TypeId) {α:Type} (ke:α→Value):Prop where
 chk : ∀ (w:World) (k:α) (e:Bool),(Instr.checkKey e 10000 kt (ke k)).run P w = .ok () w
 stays : ∀ (w:World) (k:α),(Instr.keyThatStays (ke k) (ke k)).run P w = .ok (ke k) w
 find : ∀ [DecidableEq α] {β:Type} (ve:β→Value) (w:World) (k:α) (es:List MapEntry) (L:List (α×β)),es.map (fun e=>(e.key,e.val))=L.map (fun p=>(ke p.1,ve p.2)) →
  (Zy L k=none∧(Instr.findKey kt (ke k) es).run P w = .ok none w) ∨ ∃ v j,Zy L k=some v∧(Instr.findKey kt (ke k) es).run P w = .ok (some (j,ve v)) w∧L[j]?.map (·.1)=some k ∧ ∀ (j':Nat),j'<j→L[j']?.map (·.1)≠some k
structure MapOk (P:Program) (t:TypeId) {α:Type} (ke:α→Value) (z:Value):Prop where
 ex : ∃ kt et,P.underlying t=some (.map kt et)∧(P.info? et).bind (·.zero)=some z∧KeyOk P kt ke
 inj : ∀ a b,ke a=ke b→a=b
theorem i64_inj : ∀ a b:Int,Value.int .i64 a = .int .i64 b→a=b:=fun a b h=>by injection h
section
variable {P : Program} {B:Wn} {n:Nat} {S l r:List Wp} {f:Fr} {K:Value→List Wp→Prop}
variable {d : Option Tmp} {ty:TypeId} {pos:String} {af:Array Edge} {gd:Option (Nat×Bool)}
variable {α β:Type} [DecidableEq α] {ke:α→Value} {ve:β→Value} {L left:List (α×β)} {g:Nat}
theorem findNow_look {dk:TypeDesc} (hk : ∀ a,MapKept.IsKey dk (ke a)) (hi : ∀ a b,ke a=ke b→a=b) (k:α) : ∀ (es:List MapEntry) (L:List (α×β)) (i:Nat),es.map (fun e=>(e.key,e.val))=L.map (fun p=>(ke p.1,ve p.2)) →
    (Zy L k=none∧Instr.findNow dk (ke k) es i=some none) ∨ ∃ v j,Zy L k=some v∧Instr.findNow dk (ke k) es i=some (some (i+j,ve v))∧L[j]?.map (·.1)=some k ∧ ∀ (j':Nat),j'<j→L[j']?.map (·.1)≠some k
  | [],[],i,_ => .inl ⟨rfl,rfl⟩
  | [],_::_,_,h=>by simp at h
  | _::_,[],_,h=>by simp at h
  | e::es,p::L,i,h=>by
    simp only [List.map_cons,List.cons.injEq,Prod.mk.injEq] at h
    obtain ⟨⟨h1,h2⟩,h3⟩:=h
    obtain ⟨r,hr,hiff⟩:=MapKept.sameNow_of_keys (hk k) (hk p.1)
    by_cases e1:p.1=k
    · refine .inr ⟨p.2,0,by simp [Zy,e1],?_,by simp [e1],fun j' h=>by omega⟩
      have:r=true:=hiff.2 (by rw [e1])
      subst this
      simp [Instr.findNow,h1,hr,h2]
    · have:r=false:=by
        cases r with
        | false=>rfl
        | true=>exact absurd (hi _ _ (hiff.1 rfl)).symm e1
      subst this
      have hf:Instr.findNow dk (ke k) (e::es) i=Instr.findNow dk (ke k) es (i+1):=by simp [Instr.findNow,h1,hr]
      rw [hf]
      rcases findNow_look hk hi k es L (i+1) h3 with ⟨a1,a2⟩ | ⟨v,j,a1,a2,a3,a4⟩
      · exact .inl ⟨by simp [Zy,e1,a1],a2⟩
      · refine .inr ⟨v,j+1,by simp [Zy,e1,a1],by rw [a2];congr 3;omega,by simpa using a3,fun j' hj'=>?_⟩
        cases j' with
        | zero=>simpa using e1
        | succ j'=>simpa using a4 j' (by omega)
theorem MapOk.mk3 {P:Program} {t:TypeId} {α:Type} {ke:α→Value} {z:Value} (kt et:TypeId) (d:TypeDesc) (h1:P.underlying t=some (.map kt et)) (h2:P.underlying kt=some d) (h3 : ∀ a,MapKept.IsKey d (ke a)) (h4:(P.info? et).bind (·.zero)=some z) (h5 : ∀ a b,ke a=ke b→a=b):MapOk P t ke z :=
  ⟨⟨kt,et,h1,h4,fun w k e=>MapKept.run_checkKey h2 (h3 k) e 9999,fun w k=>MapKept.run_keyThatStays (h3 k),fun ve w k es L he=>by
    rcases findNow_look (ve:=ve) h3 h5 k es L 0 he with ⟨a1,a2⟩ | ⟨v,j,a1,a2,a3,a4⟩
    · exact .inl ⟨a1,MapKept.run_findKey h2 a2⟩
    · rw [Nat.zero_add] at a2
      exact .inr ⟨v,j,a1,MapKept.run_findKey h2 a2,a3,a4⟩⟩,h5⟩
theorem look_put_same (k:α) (v:β) : ∀ L:List (α×β),Zy (putL L k v) k=some v
 | []=>by simp [putL,Zy]
 | p::L=>by
  unfold putL
  split
  · simp [Zy]
  · rename_i hne;simp [Zy,hne,look_put_same k v L]
theorem look_put_ne {k k':α} (v:β) (h:k≠k') : ∀ L:List (α×β),Zy (putL L k v) k'=Zy L k'
 | []=>by simp [putL,Zy,h]
 | p::L=>by
  unfold putL
  split
  · rename_i e;simp [Zy,e,h]
  · simp [Zy,look_put_ne v h L]
theorem putL_new {k:α} {v:β} : ∀ {L:List (α×β)},Zy L k=none→putL L k v=L++[(k,v)]
 | [],_=>rfl
 | p::L,h=>by
  unfold Zy at h
  split at h
  · cases h
  · rename_i hne;simp [putL,hne,putL_new h]
theorem putL_old {k:α} {v:β} : ∀ {L:List (α×β)} {j:Nat},L[j]?.map (·.1)=some k→(∀ (j':Nat),j'<j→L[j']?.map (·.1)≠some k)→putL L k v=L.set j (k,v)
 | [],j,h,_=>by simp at h
 | p::L,0,h,_=>by simp at h;simp [putL,h]
 | p::L,j+1,h,h2=>by
  have:=h2 0 (by omega)
  simp at this
  simp [putL,this,putL_old (L:=L) (j:=j) (by simpa using h) (fun j' hj'=>by simpa using h2 (j'+1) (by omega))]
theorem lookL_none_mem {k:α} : ∀ {L:List (α×β)},Zy L k=none → ∀ p∈L,p.1≠k
  | [],_,p,hp=>by cases hp
  | q::L,h,p,hp=>by
    unfold Zy at h
    split at h
    · cases h
    · rename_i hne
      rcases List.mem_cons.1 hp with rfl | hp
      · exact hne
      · exact lookL_none_mem h p hp
theorem lookL_mem {k:α} {v:β} : ∀ {L:List (α×β)},Zy L k=some v→(k,v)∈L
 | [],h=>by cases h
 | q::L,h=>by
  unfold Zy at h
  split at h
  · rename_i e;injection h with h;subst e;subst h;exact List.mem_cons_self ..
  · exact List.mem_cons_of_mem _ (lookL_mem h)
theorem MapIs.len {es:Array MapEntry} {clock:Nat} (h:MapIs ke ve L es clock):es.size=L.length:=by
 have:=congrArg List.length h.eq
 simpa using this
theorem MapIs.nodup {es:Array MapEntry} {clock:Nat} (h:MapIs ke ve L es clock):(L.map (·.1)).Nodup:=by
 have h1:es.toList.map (·.key)=L.map fun p=>ke p.1:=by
  have:=congrArg (List.map Prod.fst) h.eq
  rw [List.map_map,List.map_map] at this
  exact this
 have h2:=h.st.2.2
 rw [h1] at h2
 have h3:(L.map (·.1)).map ke=L.map fun p=>ke p.1:=by rw [List.map_map];rfl
 rw [←h3] at h2
 exact List.Pairwise.of_map ke (fun a b hab e=>hab (by rw [e])) h2
theorem MapIs.at_ {es:Array MapEntry} {clock:Nat} (h:MapIs ke ve L es clock) {j:Nat} {e:MapEntry} (he:es[j]? = some e) : ∃ p,L[j]? = some p∧e.key=ke p.1∧e.val=ve p.2:=by
 have:=congrArg (·[j]?) h.eq
 simp only [List.getElem?_map,Array.getElem?_toList,he,Option.map_some] at this
 cases hp:L[j]? with
 | none=>rw [hp] at this;simp at this
 | some p=>rw [hp] at this;simp at this;exact ⟨p,rfl,this.1,this.2⟩
theorem MapIs.push {es:Array MapEntry} {clock:Nat} (h:MapIs ke ve L es clock) (hi : ∀ a b,ke a=ke b→a=b) {k:α} {v:β} (hn:Zy L k=none):MapIs ke ve (putL L k v) (es.push ⟨ke k,ve v,clock⟩) (clock+1):=by
  obtain ⟨h1,h2,h3⟩:=h.st
  refine ⟨⟨fun x hx=>?_,?_,?_⟩,by simp [putL_new hn,h.eq]⟩
  · simp at hx
    rcases hx with hx | rfl
    · have:=h1 x (by simpa using hx);omega
    · exact Nat.lt_succ_self _
  · simp only [Array.toList_push,List.map_append,List.map_cons,List.map_nil]
    rw [List.nodup_append]
    refine ⟨h2,by simp,fun a ha b hb=>?_⟩
    simp at hb;subst hb
    obtain ⟨x,hx,rfl⟩:=List.mem_map.1 ha
    have:=h1 x hx;omega
  · simp only [Array.toList_push,List.map_append,List.map_cons,List.map_nil]
    rw [List.nodup_append]
    refine ⟨h3,by simp,fun a ha b hb e=>?_⟩
    simp at hb;subst hb;subst e
    obtain ⟨x,hx,e⟩:=List.mem_map.1 ha
    obtain ⟨j,hj,rfl⟩:=List.getElem_of_mem hx
    obtain ⟨p,hp,e1,_⟩:=h.at_ (j:=j) (e:=es[j]) (by simp)
    have e':ke p.1=ke k:=by rw [←e1];exact e
    exact lookL_none_mem hn p (List.mem_of_getElem? hp) (hi _ _ e')
theorem MapIs.modify {es:Array MapEntry} {clock:Nat} (h:MapIs ke ve L es clock) {k:α} {v:β} {j:Nat} (h1:L[j]?.map (·.1)=some k) (h2 : ∀ (j':Nat),j'<j→L[j']?.map (·.1)≠some k):MapIs ke ve (putL L k v) (es.modify j fun e=>{e with key:=ke k,val:=ve v}) clock:=by
  have hkey : ∀ e,es[j]? = some e→e.key=ke k:=fun e he=>by
    obtain ⟨p,hp,e1,_⟩:=h.at_ he
    rw [hp] at h1;simp at h1;rw [e1,h1]
  have hb:(es.modify j fun e=>{e with key:=ke k,val:=ve v}).toList.map (·.born)=es.toList.map (·.born):=by
    apply List.ext_getElem?
    intro i
    simp only [List.getElem?_map,Array.getElem?_toList,Array.getElem?_modify]
    split
    · cases es[i]? <;> rfl
    · rfl
  have hk:(es.modify j fun e=>{e with key:=ke k,val:=ve v}).toList.map (·.key)=es.toList.map (·.key):=by
    apply List.ext_getElem?
    intro i
    simp only [List.getElem?_map,Array.getElem?_toList,Array.getElem?_modify]
    split
    · rename_i e;subst e
      cases he:es[j]? with
      | none=>rfl
      | some e=>simp [hkey e he]
    · rfl
  refine ⟨⟨fun x hx=>?_,by rw [hb];exact h.st.2.1,by rw [hk];exact h.st.2.2⟩,?_⟩
  · have:x.born∈(es.modify j fun e=>{e with key:=ke k,val:=ve v}).toList.map (·.born):=List.mem_map_of_mem hx
    rw [hb] at this
    obtain ⟨y,hy,e⟩:=List.mem_map.1 this
    rw [←e];exact h.st.1 y hy
  · rw [putL_old h1 h2]
    apply List.ext_getElem?
    intro i
    simp only [List.getElem?_map,Array.getElem?_toList,Array.getElem?_modify,List.getElem?_set]
    have:=congrArg (·[i]?) h.eq
    simp only [List.getElem?_map,Array.getElem?_toList] at this
    have hlen:=h.len
    by_cases e:j=i
    · subst e
      by_cases hj:j<L.length
      · rw [if_pos rfl,if_pos rfl,if_pos hj,Array.getElem?_eq_getElem (by omega)];rfl
      · rw [if_pos rfl,if_pos rfl,if_neg hj,Array.getElem?_eq_none (by omega)];rfl
    · rw [if_neg e,if_neg e];exact this
class MapAt (g:Nat) (l:List Wp) {α β:outParam Type} (ke:outParam (α→Value)) (ve:outParam (β→Value)) (L:outParam (List (α×β))):Prop where
 find : ∀ h,Has l h → ∃ es clock,h g=some (.map es clock)∧MapIs ke ve L es clock
instance {α β:Type} (ke:α→Value) (ve:β→Value) (g:Nat) (L:List (α×β)) (l:List Wp):MapAt g (mpA ke ve g L::l) ke ve L:=⟨fun _ ⟨_,_,_,a,_,⟨es,c,e1,e2⟩,_⟩=>⟨es,c,a.p _ _ e1,e2⟩⟩
instance {α β:Type} (ke:α→Value) (ve:β→Value) (r g:Nat) (L left:List (α×β)) (l:List Wp):MapAt g (rgA ke ve r g L left::l) ke ve L:=⟨fun _ ⟨_,_,_,a,_,⟨es,c,_,_,_,e1,e2,_⟩,_⟩=>⟨es,c,a.p _ _ e1,e2⟩⟩
instance {α β:Type} (ke:α→Value) (ve:β→Value) (g:Nat) (L:List (α×β)) (k:α) (b:Nat) (l:List Wp):MapAt g (msA ke ve g L k b::l) ke ve L:=⟨fun _ ⟨_,_,_,a,_,⟨es,c,e1,e2,_⟩,_⟩=>⟨es,c,a.p _ _ e1,e2⟩⟩
instance {α β:Type} (ke:α→Value) (ve:β→Value) (g:Nat) (L:List (α×β)) (A:Wp) (l:List Wp) [k:MapAt g l ke ve L]:MapAt g (A::l) ke ve L:=⟨fun _ H=>k.find _ H.tail⟩
class TakeM (g:Nat) (l:List Wp) {α β:outParam Type} (ke:outParam (α→Value)) (ve:outParam (β→Value)) (L:outParam (List (α×β))) (r:outParam (List Wp)):Prop where
 take : ∀ h,Has l h→Has (mpA ke ve g L::r) h
instance {α β:Type} (ke:α→Value) (ve:β→Value) (g:Nat) (L:List (α×β)) (l:List Wp):TakeM g (mpA ke ve g L::l) ke ve L l:=⟨fun _ H=>H⟩
instance {α β:Type} (ke:α→Value) (ve:β→Value) (r g:Nat) (L left:List (α×β)) (l:List Wp):TakeM g (rgA ke ve r g L left::l) ke ve L l:=⟨fun _ H=>Has.weaken (fun _ ⟨es,c,_,_,_,e1,e2,_⟩=>⟨es,c,e1,e2⟩) H⟩
instance {α β:Type} (ke:α→Value) (ve:β→Value) (g:Nat) (L:List (α×β)) (A:Wp) (l r:List Wp) [k:TakeM g l ke ve L r]:TakeM g (A::l) ke ve L (A::r):=⟨fun _ ⟨h1,h2,d,a,b,e,H⟩=>Has.swap ⟨h1,h2,d,a,b,e,k.take _ H⟩⟩
instance {α β:Type} (ke:α→Value) (ve:β→Value) (r g:Nat) (L left:List (α×β)) (p:α×β) (l:List Wp):MapAt g (reA ke ve r g L left p::l) ke ve L:=⟨fun _ ⟨_,_,_,a,_,⟨es,c,_,_,_,e1,e2,_⟩,_⟩=>⟨es,c,a.p _ _ e1,e2⟩⟩
theorem re_rg {α β:Type} {ke:α→Value} {ve:β→Value} {r g:Nat} {L left:List (α×β)} {p:α×β} (h:Piece):reA ke ve r g L left p h→rgA ke ve r g L left h:=fun ⟨es,c,seen,e,h1,h2,h3,h4,h6,_⟩=>⟨es,c,_,c,h1,h2,h3,h4,Nat.le_refl _,h6⟩
instance {α β:Type} (ke:α→Value) (ve:β→Value) (r g:Nat) (L left:List (α×β)) (p:α×β) (l:List Wp):TakeA (rgA ke ve r g L left) (reA ke ve r g L left p::l) l:=⟨fun _ H=>Has.weaken re_rg H⟩
instance {α β:Type} (ke:α→Value) (ve:β→Value) (r g:Nat) (L left:List (α×β)) (p:α×β) (l:List Wp):TakeA (mpA ke ve g L) (reA ke ve r g L left p::l) l:=⟨fun _ H=>Has.weaken (fun _ ⟨es,c,_,_,_,e1,e2,_⟩=>⟨es,c,e1,e2⟩) H⟩
instance {α β:Type} (ke:α→Value) (ve:β→Value) (r g:Nat) (L left:List (α×β)) (p:α×β) (l:List Wp):TakeM g (reA ke ve r g L left p::l) ke ve L l:=⟨fun _ H=>Has.weaken (fun _ ⟨es,c,_,_,_,e1,e2,_⟩=>⟨es,c,e1,e2⟩) H⟩
class EntAt (r:Nat) (l:List Wp) {α β:outParam Type} (ke:outParam (α→Value)) (ve:outParam (β→Value)) (p:outParam (α×β)):Prop where
 find : ∀ h,Has l h → ∃ g L left,∃ h1,Piece.le h1 h∧reA ke ve r g L left p h1
instance {α β:Type} (ke:α→Value) (ve:β→Value) (r g:Nat) (L left:List (α×β)) (p:α×β) (l:List Wp):EntAt r (reA ke ve r g L left p::l) ke ve p:=⟨fun _ ⟨h1,_,_,a,_,e,_⟩=>⟨g,L,left,h1,a,e⟩⟩
instance {α β:Type} (ke:α→Value) (ve:β→Value) (r:Nat) (p:α×β) (A:Wp) (l:List Wp) [k:EntAt r l ke ve p]:EntAt r (A::l) ke ve p:=⟨fun h H=>by
 obtain ⟨h1,h2,d,a,b,e,H2⟩:=H
 obtain ⟨g,L,left,h3,hle,e3⟩:=k.find _ H2
 exact ⟨g,L,left,h3,hle.le_trans b,e3⟩⟩
instance {α β:Type} (ke:α→Value) (ve:β→Value) (r g:Nat) (L left:List (α×β)) (l:List Wp):TakeA (mpA ke ve g L) (rgA ke ve r g L left::l) l:=⟨fun _ H=>Has.weaken (fun _ ⟨es,c,_,_,_,e1,e2,_⟩=>⟨es,c,e1,e2⟩) H⟩
theorem Own.mapAt {w:World} {α β:Type} {ke:α→Value} {ve:β→Value} {g:Nat} {L:List (α×β)} (H:Own B w l) [k:MapAt g l ke ve L] : ∃ es clock,w.heap[g]? = some (.map es clock)∧MapIs ke ve L es clock:=by
 obtain ⟨h,_,hl,e⟩:=H.has
 obtain ⟨es,c,e1,e2⟩:=k.find _ e
 exact ⟨es,c,hl.p _ _ e1,e2⟩
theorem Own.mapNodup {w:World} {α β:Type} [DecidableEq α] {ke:α→Value} {ve:β→Value} (g:Nat) {L:List (α×β)} (H:Own B w l) [k:MapAt g l ke ve L]:(L.map (·.1)).Nodup:=by
 obtain ⟨es,c,_,e⟩:=H.mapAt (g:=g)
 exact e.nodup
theorem Own.takeM {w:World} {α β:Type} {ke:α→Value} {ve:β→Value} {g:Nat} {L:List (α×β)} (H:Own B w l) [k:TakeM g l ke ve L r]:Own B w (mpA ke ve g L::r):=H.map k.take
theorem Own.mapHead {w:World} (H:Own B w (mpA ke ve g L::l)) : ∃ es clock,w.heap[g]? = some (.map es clock)∧MapIs ke ve L es clock:=H.mapAt
theorem kept_setObj (w:World) (g:Nat) (o:Obj):Kept [g] w {w with heap:=w.heap.setIfInBounds g o}:=by
 refine ⟨rfl,rfl,rfl,by simp,fun k hk hn=>?_⟩
 show (w.heap.setIfInBounds g o)[k]? = _
 rw [Array.getElem?_setIfInBounds,if_neg (fun e=>hn (by simp [e]))]
theorem Own.setMap {w:World} {A A':Wp} (H:Own B w (A::l)) {o:Obj} (hA : ∀ h,A h → ∃ o',h g=some o') (hA' : ∀ h h1:Piece,A h1→h g=some o→(∀ b o',h1 b=some o'→b≠g→h b=some o')→A' h):Own B {w with heap:=w.heap.setIfInBounds g o} (A'::l):=by
 have hb : ∃ o',w.heap[g]? = some o':=by
  obtain ⟨h,_,hl,h1,_,_,a1,_,hA1,_⟩:=H.has
  obtain ⟨o',e⟩:=hA _ hA1
  exact ⟨o',hl.p _ _ (a1.p _ _ e)⟩
 obtain ⟨o',hb⟩:=hb
 have hlt:g<w.heap.size:=(Array.getElem?_eq_some_iff.1 hb).1
 refine Own.kept (fp:=[g]) H (kept_setObj w g o) (fun h e g' hg=>by simp at hg;subst hg;exact hA _ e) (fun h1 h hA1 _ e1 e2=>hA' h h1 hA1 ?_ fun b o' hb hne=>e2 b o' hb (by simpa using hne))
 have:=e1 g (.inl (by simp))
 rw [this]
 show (w.heap.setIfInBounds g o)[g]? = _
 rw [Array.getElem?_setIfInBounds,if_pos rfl,if_pos hlt]
theorem mapOk_sub {t:TypeId} {z:Value} (M:MapOk P t ke z) (w:World) (k:α) (e:Bool) : ∃ kt et,P.underlying t=some (.map kt et)∧(Instr.checkKey e 10000 kt (ke k)).run P w = .ok () w∧(zeroValue et).run P w = .ok z w ∧ ∀ (es:List MapEntry) (L:List (α×β)),es.map (fun e=>(e.key,e.val))=L.map (fun p=>(ke p.1,ve p.2)) →
  (Zy L k=none∧(Instr.findKey kt (ke k) es).run P w = .ok none w) ∨ ∃ v j,Zy L k=some v∧(Instr.findKey kt (ke k) es).run P w = .ok (some (j,ve v)) w∧L[j]?.map (·.1)=some k ∧ ∀ (j':Nat),j'<j→L[j']?.map (·.1)≠some k:=by
 obtain ⟨kt,et,h1,h4,K⟩:=M.ex
 refine ⟨kt,et,h1,K.chk w k e,?_,K.find ve w k⟩
 cases hi:P.info? et with
 | none=>rw [hi] at h4;cases h4
 | some i=>rw [hi] at h4;simp at h4;simp [zeroValue,typeInfo,hi,h4]
theorem YD {t:TypeId} (α β:Type) (ke:α→Value) (ve:β→Value) (h : ∀ g,K (.map (some g)) (mpA ke ve g ([]:List (α×β))::l)):Ef P B n ⟨d,.makeMap t none,ty,pos,af,gd⟩ f l K:=⟨fun w next Q ho hk=>by
 have hr:(Instr.makeMap t none).run P w = .ok (.map (some w.heap.size)) (w.alloc (.map #[] 0)):=by simp [Instr.makeMap]
 unfold Oper.wp execOp
 simp only [Wk,Option.map_none,Sem.run_bind,hr,Sem.run_pure,Result.andThen_ok]
 refine hk _ _ _ (h _) (Own.fresh ho ((Kept.refl _ _).alloc _) fun hh e=>⟨#[],0,?_,⟨MapKept.stamped_empty 0,rfl⟩⟩)
 rw [e _ (Nat.le_refl _)]
 exact heap_alloc_new w _⟩
theorem run_lookup {t:TypeId} {z:Value} (M:MapOk P t ke z) (w:World) (k:α) (c:Bool) {es:Array MapEntry} {clock:Nat} (hb:w.heap[g]? = some (.map es clock)) (hm:MapIs ke ve L es clock) :
    (Instr.lookup t (.map (some g)) (ke k) c).run P w = .ok (if c then .tuple #[(match Zy L k with | some v=>ve v | none=>z),.bool (Zy L k).isSome] else (match Zy L k with | some v=>ve v | none=>z)) w:=by
  obtain ⟨kt,et,h1,h2,h3,h4⟩:=mapOk_sub (ve:=ve) M w k es.isEmpty
  rcases h4 es.toList L hm.eq with ⟨a1,a2⟩ | ⟨v,j,a1,a2,_,_⟩
  · rw [a1]
    simp [Instr.lookup,run_underlying h1,MapKept.run_getObj_map hb,h2,a2,h3]
  · rw [a1]
    simp [Instr.lookup,run_underlying h1,MapKept.run_getObj_map hb,h2,a2]
theorem ZL {t:TypeId} {x y:Operand} {z:Value} (M:MapOk P t ke z) (hx:ev n f x=some (.map (some g))) (k:α) (hy:ev n f y=some (ke k)) [kk:MapAt g S ke ve L] {v:β} (hv:Zy L k=some v):Qt P B n S ⟨d,.lookup t x y true,ty,pos,af,gd⟩ f (.tuple #[ve v,.bool true]):=⟨fun w ho=>by
 obtain ⟨es,c,hb,hm⟩:=ho.mapAt (g:=g)
 have:=run_lookup M w k true hb hm
 simp only [hv,if_true,Option.isSome_some] at this
 simp [execOp,Zc hx,Zc hy,this]⟩
theorem ZM {t:TypeId} {x y:Operand} {z:Value} (M:MapOk P t ke z) (hx:ev n f x=some (.map (some g))) (k:α) (hy:ev n f y=some (ke k)) [kk:MapAt g S ke ve L] (hv:Zy L k=none):Qt P B n S ⟨d,.lookup t x y true,ty,pos,af,gd⟩ f (.tuple #[z,.bool false]):=⟨fun w ho=>by
 obtain ⟨es,c,hb,hm⟩:=ho.mapAt (g:=g)
 have:=run_lookup M w k true hb hm
 simp only [hv,if_true,Option.isSome_none] at this
 simp [execOp,Zc hx,Zc hy,this]⟩
theorem ZN {t:TypeId} {x y:Operand} {z:Value} (M:MapOk P t ke z) (hx:ev n f x=some (.map (some g))) (k:α) (hy:ev n f y=some (ke k)) [kk:MapAt g S ke ve L] {v:β} (hv:Zy L k=some v):Qt P B n S ⟨d,.lookup t x y false,ty,pos,af,gd⟩ f (ve v):=⟨fun w ho=>by
 obtain ⟨es,c,hb,hm⟩:=ho.mapAt (g:=g)
 have:=run_lookup M w k false hb hm
 simp only [hv,Bool.false_eq_true,if_false] at this
 simp [execOp,Zc hx,Zc hy,this]⟩
theorem ZP {t:TypeId} {x y:Operand} {z:Value} (M:MapOk P t ke z) (hx:ev n f x=some (.map (some g))) (k:α) (hy:ev n f y=some (ke k)) [kk:MapAt g S ke ve L] (hv:Zy L k=none):Qt P B n S ⟨d,.lookup t x y false,ty,pos,af,gd⟩ f z:=⟨fun w ho=>by
 obtain ⟨es,c,hb,hm⟩:=ho.mapAt (g:=g)
 have:=run_lookup M w k false hb hm
 simp only [hv,Bool.false_eq_true,if_false] at this
 simp [execOp,Zc hx,Zc hy,this]⟩
theorem zT {t:TypeId} {x y:Operand} {z:Value} (M:MapOk P t ke z) (hx:ev n f x=some (.map (some g))) (k:α) (hy:ev n f y=some (ke k)) [kk:MapAt g S ke ve L] (v0:β) (hz:z=ve v0):Qt P B n S ⟨d,.lookup t x y false,ty,pos,af,gd⟩ f (ve ((Zy L k).getD v0)):=by
 cases h:Zy L k with
 | none=>rw [Option.getD_none,←hz];exact ZP M hx k hy h
 | some v=>exact ZN M hx k hy h
theorem run_mapUpdate {t:TypeId} {z:Value} (M:MapOk P t ke z) (w:World) (k:α) (v:β) {es:Array MapEntry} {clock:Nat} (hb:w.heap[g]? = some (.map es clock)) (hm:MapIs ke ve L es clock) :
    ∃ es' c',(Instr.mapUpdate t (.map (some g)) (ke k) (ve v)).run P w = .ok () {w with heap:=w.heap.setIfInBounds g (.map es' c')}∧MapIs ke ve (putL L k v) es' c':=by
  obtain ⟨kt,et,h1,h2,h3,h4⟩:=mapOk_sub (ve:=ve) M w k false
  obtain ⟨kt',et',u1,u2,K⟩:=M.ex
  rcases h4 es.toList L hm.eq with ⟨a1,a2⟩ | ⟨v0,j,a1,a2,a3,a4⟩
  · refine ⟨_,_,?_,hm.push M.inj a1⟩
    simp [Instr.mapUpdate,run_underlying h1,MapKept.run_getObj_map hb,h2,a2,MapKept.run_setObj_map _ hb]
  · have hj : ∃ e,es[j]? = some e∧e.key=ke k:=by
      cases hq:es[j]? with
      | none =>
        cases hp:L[j]? with
        | none=>rw [hp] at a3;cases a3
        | some p =>
          have:=(List.getElem?_eq_some_iff.1 hp).1
          have:=hm.len
          have:=Array.getElem?_eq_none_iff.1 hq
          omega
      | some e =>
        obtain ⟨p,hp,e1,_⟩:=hm.at_ hq
        rw [hp] at a3;simp at a3
        exact ⟨e,rfl,by rw [e1,a3]⟩
    obtain ⟨e,hq,hek⟩:=hj
    refine ⟨_,_,?_,hm.modify a3 a4⟩
    simp [Instr.mapUpdate,run_underlying h1,MapKept.run_getObj_map hb,h2,a2,hq,hek,K.stays _ k,MapKept.run_setObj_map _ hb]
theorem Y0 {t:TypeId} {x y v:Operand} {z:Value} (M:MapOk P t ke z) (hx:ev n f x=some (.map (some g))) (k:α) (hy:ev n f y=some (ke k)) (b:β) (hv:ev n f v=some (ve b)) [kk:TakeM g l ke ve L r] (h:K (.tuple #[]) (mpA ke ve g (putL L k b)::r)):Ef P B n ⟨d,.mapUpdate t x y v,ty,pos,af,gd⟩ f l K:=⟨fun w next Q ho hk=>by
 have ho2:=ho.takeM (k:=kk)
 obtain ⟨es,c,hb,hm⟩:=ho2.mapHead
 obtain ⟨es',c',hr,hm'⟩:=run_mapUpdate M w k b hb hm
 unfold Oper.wp execOp
 simp only [Wk,Zc hx,Zc hy,Zc hv,Sem.run_bind,hr,Sem.run_pure,Result.andThen_ok]
 exact hk _ _ _ h (ho2.setMap (fun h ⟨es,c,e,_⟩=>⟨_,e⟩) fun h h1 _ e _=>⟨es',c',e,hm'⟩)⟩
theorem Z4 {t kt et:TypeId} {x:Operand} (ht:P.underlying t=some (.map kt et)) (hx:ev n f x=some (.map (some g))) [kk:TakeM g l ke ve L r] (h : ∀ i,K (.pointer (some ⟨i,0,none⟩)) (rgA ke ve i g L L::r)):Ef P B n ⟨d,.range t x,ty,pos,af,gd⟩ f l K:=⟨fun w next Q ho hk=>by
 have ho2:=ho.takeM (k:=kk)
 obtain ⟨es,c,hb,hm⟩:=ho2.mapHead
 have hr:=run_range_map (P:=P) w t kt et g es c ht hb
 unfold Oper.wp execOp
 simp only [Wk,Zc hx,Sem.run_bind,hr,Sem.run_pure,Result.andThen_ok]
 have hlt:g<w.heap.size:=(Array.getElem?_eq_some_iff.1 hb).1
 refine hk _ _ _ (h _) (Own.kept (fp:=[g]) ho2 ((Kept.refl _ _).alloc _) (fun h ⟨es,c,e,_⟩ g' hg=>by simp at hg;subst hg;exact ⟨_,e⟩) (fun h1 h ⟨es1,c1,q1,q2⟩ hle e1 _=>?_))
 have eg:h g=some (.map es c):=by
  rw [e1 g (.inl (by simp)),heap_alloc_old w _ hlt];exact hb
 have ei:h w.heap.size=some (.mapIter (some g) c #[] c):=by
  rw [e1 _ (.inr (Nat.le_refl _))];exact heap_alloc_new w _
 refine ⟨es,c,#[],c,by omega,eg,hm,ei,Nat.le_refl _,?_⟩
 rw [←hm.eq]
 have:(leftOf es #[]).toList=es.toList:=by
  unfold leftOf
  rw [Array.toList_filter,List.filter_eq_self]
  intro a _
  simp
 rw [this]⟩
theorem leftOf_push (es:Array MapEntry) (seen:Array Nat) (e:MapEntry):(leftOf es (seen.push e.born)).toList=(leftOf es seen).toList.filter fun x=>decide (x.born≠e.born):=by
 unfold leftOf
 simp only [Array.toList_filter,List.filter_filter]
 congr 1
 funext x
 by_cases h:x.born=e.born <;> simp [h]
theorem nodup_map_inj {γ δ:Type} (f:γ→δ) : ∀ {l:List γ},(l.map f).Nodup → ∀ {x y:γ},x∈l→y∈l→f x=f y→x=y
  | a::l,hn,x,y,hx,hy,e=>by
    simp only [List.map_cons,List.nodup_cons] at hn
    rcases List.mem_cons.1 hx with h1 | hx
    · rcases List.mem_cons.1 hy with h2 | hy
      · rw [h1,h2]
      · have:=List.mem_map_of_mem (f:=f) hy
        rw [←e,h1] at this
        exact absurd this hn.1
    · rcases List.mem_cons.1 hy with h2 | hy
      · have:=List.mem_map_of_mem (f:=f) hx
        rw [e,h2] at this
        exact absurd this hn.1
      · exact nodup_map_inj f hn.2 hx hy e
theorem left_cut : ∀ (Y:List MapEntry) (left:List (α×β)),Y.map (fun e=>(e.key,e.val))=left.map (fun p=>(ke p.1,ve p.2)) → ∀ (b:Nat) (k:α),(∀ x∈Y,x.born=b↔x.key=ke k)→(∀ a b,ke a=ke b→a=b) →
  (Y.filter fun x=>decide (x.born≠b)).map (fun e=>(e.key,e.val))=(cutL left k).map fun p=>(ke p.1,ve p.2)
 | [],[],_,_,_,_,_=>rfl
 | [],_::_,h,_,_,_,_=>by simp at h
 | _::_,[],h,_,_,_,_=>by simp at h
 | e::Y,p::left,h,b,k,hb,hi=>by
  simp only [List.map_cons,List.cons.injEq,Prod.mk.injEq] at h
  obtain ⟨⟨h1,h2⟩,h3⟩:=h
  have ih:=left_cut Y left h3 b k (fun x hx=>hb x (List.mem_cons_of_mem _ hx)) hi
  have hiff:e.born=b↔p.1=k:=(hb e (List.mem_cons_self ..)).trans ⟨fun q=>hi _ _ (h1.symm.trans q),fun q=>by rw [h1,q]⟩
  unfold cutL at ih ⊢
  by_cases q:p.1=k
  · rw [List.filter_cons_of_neg (by simpa using hiff.2 q),List.filter_cons_of_neg (by simpa using q)];exact ih
  · rw [List.filter_cons_of_pos (by simpa using fun z=>q (hiff.1 z)),List.filter_cons_of_pos (by simpa using q),List.map_cons,List.map_cons,ih,h1,h2]
theorem Z5 {x:Operand} {i:Nat} {r0:List Wp} (hx:ev n f x=some (.pointer (some ⟨i,0,none⟩))) (hl:l=rgA ke ve i g L ([]:List (α×β))::r0) (h:K (.tuple #[.bool false]) l):Ef P B n ⟨d,.next x false,ty,pos,af,gd⟩ f l K:=⟨fun w next Q ho hk=>by
  subst hl
  obtain ⟨hh,_,hle,h1,_,_,a1,_,⟨es,c,seen,c0,hne,q1,q2,q3,q4,q5⟩,_⟩:=ho.has
  have hr:=hle.p _ _ (a1.p _ _ q3)
  have hb:=hle.p _ _ (a1.p _ _ q1)
  unfold Oper.wp execOp
  rcases run_next_at (P:=P) w ty i g c c0 seen es c hr hb q2.st.1 q4 with ⟨_,e2⟩ | ⟨e,he,_⟩
  · simp only [Wk,Zc hx,Sem.run_bind,e2,Sem.run_pure,Result.andThen_ok]
    exact hk _ _ _ h ho
  · have:(leftOf es seen).toList=[]:=by simpa using q5
    rw [this] at he;cases he⟩
theorem Z6 {x:Operand} {i:Nat} {r0:List Wp} (hi : ∀ a b,ke a=ke b→a=b) (hx:ev n f x=some (.pointer (some ⟨i,0,none⟩))) (hl:l=rgA ke ve i g L left::r0) (hne:left≠[]) (h : ∀ p∈left,K (.tuple #[.bool true,ke p.1,ve p.2]) (reA ke ve i g L (cutL left p.1) p::r0)):Ef P B n ⟨d,.next x false,ty,pos,af,gd⟩ f l K:=⟨fun w next Q ho hk=>by
  subst hl
  have ho0:=ho
  obtain ⟨hh,_,hle,h1,_,_,a1,_,⟨es,c,seen,c0,hig,q1,q2,q3,q4,q5⟩,_⟩:=ho.has
  have hr:=hle.p _ _ (a1.p _ _ q3)
  have hb:=hle.p _ _ (a1.p _ _ q1)
  unfold Oper.wp execOp
  rcases run_next_at (P:=P) w ty i g c c0 seen es c hr hb q2.st.1 q4 with ⟨e1,_⟩ | ⟨e,he,w1,hw1,e2⟩
  · exfalso
    have:(leftOf es seen).toList=[]:=by simpa using e1
    rw [this] at q5
    exact hne (by simpa using q5.symm)
  · obtain ⟨j,hj,rfl⟩:=List.getElem_of_mem he
    have hpj:=congrArg (·[j]?) q5
    simp only [List.getElem?_map,List.getElem?_eq_getElem hj,Option.map_some] at hpj
    cases hp:left[j]? with
    | none=>rw [hp] at hpj;cases hpj
    | some p =>
      rw [hp] at hpj
      simp only [Option.map_some,Option.some.injEq,Prod.mk.injEq] at hpj
      obtain ⟨p1,p2⟩:=hpj
      simp only [Wk,Zc hx,Sem.run_bind,e2,Sem.run_pure,Result.andThen_ok]
      rw [p1,p2]
      refine hk _ _ _ (h p (List.mem_of_getElem? hp)) ?_
      have ho1:Own B w1 (rgA ke ve i g L left::r0):=by rcases hw1 with rfl | rfl <;> first | exact ho0 | exact ho0.drew
      have hb1:w1.heap[g]? = some (.map es c):=by rcases hw1 with rfl | rfl <;> exact hb
      have hr1:w1.heap[i]? = some (.mapIter (some g) c seen c0):=by rcases hw1 with rfl | rfl <;> exact hr
      refine Own.kept (fp:=[i,g]) ho1 ⟨rfl,rfl,rfl,by simp [ChangeMaps.setBlock],fun k hk hn=>?_⟩ (fun h ⟨es,c,_,_,_,e,_,e3,_⟩ g' hg=>by simp at hg;rcases hg with rfl | rfl;exact ⟨_,e3⟩;exact ⟨_,e⟩) (fun h1 h _ _ e1 _=>?_)
      · show (w1.heap.setIfInBounds i _)[k]? = _
        rw [Array.getElem?_setIfInBounds,if_neg (fun e=>hn (by simp [e]))]
      · have hlt:i<w1.heap.size:=(Array.getElem?_eq_some_iff.1 hr1).1
        have eg:h g=some (.map es c):=by
          rw [e1 g (.inl (by simp))]
          show (w1.heap.setIfInBounds i _)[g]? = _
          rw [Array.getElem?_setIfInBounds,if_neg hig];exact hb1
        have ei:h i=some (.mapIter (some g) c (seen.push (leftOf es seen).toList[j].born) c):=by
          rw [e1 i (.inl (by simp))]
          show (w1.heap.setIfInBounds i _)[i]? = _
          rw [Array.getElem?_setIfInBounds,if_pos rfl,if_pos hlt]
        have hsub : ∀ x∈(leftOf es seen).toList,x∈es.toList:=fun x hx=>by
          unfold leftOf at hx
          rw [Array.toList_filter] at hx
          exact (List.mem_filter.1 hx).1
        have hme:(leftOf es seen).toList[j]∈es.toList:=hsub _ (List.getElem_mem _)
        refine ⟨es,c,seen,(leftOf es seen).toList[j],hig,eg,q2,ei,?_,hme,p1,p2⟩
        rw [leftOf_push]
        refine left_cut _ _ q5 _ p.1 (fun x hx=>⟨fun e=>?_,fun e=>?_⟩) hi
        · rw [nodup_map_inj (·.born) q2.st.2.1 (hsub x hx) hme e];exact p1
        · rw [nodup_map_inj (·.key) q2.st.2.2 (hsub x hx) hme (e.trans p1.symm)]⟩
theorem Z7 {x:Operand} {i:Nat} {p:α×β} (hx:ev n f x=some (.pointer (some ⟨i,0,none⟩))) [kk:EntAt i S ke ve p]:Qt P B n S ⟨d,.entry x,ty,pos,af,gd⟩ f (.tuple #[ke p.1,ve p.2]):=⟨fun w ho=>by
 obtain ⟨hh,_,hle,H⟩:=ho.has
 obtain ⟨g,L,left,h1,a1,es,c,seen,e,hig,q1,q2,q3,q5,q6,q7,q8⟩:=kk.find _ H
 have hr:=hle.p _ _ (a1.p _ _ q3)
 have hb:=hle.p _ _ (a1.p _ _ q1)
 have:=run_entry_at (P:=P) w i g c seen es c e hr hb q6 q2.st.2.1
 simp [execOp,Zc hx,this,q7,q8]⟩
end
open Go.RowKit
structure En where
 kind:Int
 txn:Int
 page:Int
 slot:Int
 stamp:Int
 data:List UInt8
abbrev enPlace (e:En):Prop:=0≤e.page∧e.page≤65535∧0≤e.slot∧e.slot≤255
def enCode (e:En):Int :=
 if e.kind<1∨3<e.kind then 21
 else if e.txn<1 ∨ ¬ enPlace e∨e.stamp<0∨1099511627776<e.stamp then 1
 else if (e.kind=3∧(e.page≠0∨e.slot≠0))∨(e.kind≠3∧e.stamp≠0)∨(e.kind≠1∧0<e.data.length) then 1
 else if 200<e.data.length then 2 else 0
structure EnOk (e:En):Prop where
 kind:1≤e.kind∧e.kind≤3
 txn:1≤e.txn∧e.txn<9223372036854775808
 place:enPlace e
 stamp:0≤e.stamp∧e.stamp≤1099511627776
 three:e.kind=3→e.page=0∧e.slot=0
 other:e.kind≠3→e.stamp=0
 none:e.kind≠1→e.data=[]
 long:e.data.length≤200
theorem EnOk.code {e:En} (h:EnOk e):enCode e=0:=by
 have h1:=h.kind;have h2:=h.txn;have h3:=h.place;have h4:=h.stamp;have h5:=h.long
 unfold enCode
 rw [if_neg (by omega),if_neg (by omega)]
 rw [if_neg,if_neg (by omega)]
 rintro (⟨k,hp⟩ | ⟨k,hp⟩ | ⟨k,hp⟩)
 · have:=h.three k;omega
 · exact hp (h.other k)
 · rw [h.none k] at hp;simp at hp
def Zj (e:En):List UInt8:=UInt8.ofInt e.kind::(be (UInt64.ofInt e.txn) 8++(if e.kind=3 then be (UInt64.ofInt e.stamp) 8 else be (UInt64.ofInt e.page) 2++(UInt8.ofInt e.slot::e.data)))
theorem encE_len {e:En}:(Zj e).length=if e.kind=3 then 17 else 12+e.data.length:=by
 unfold Zj
 split <;> simp [Zd] <;> omega
theorem u64_int {n:Int} (h0:0≤n) (h1:n<18446744073709551616):((UInt64.ofInt n).toNat:Int)=n:=by
 simp [UInt64.ofInt];omega
theorem u8_int {n:Int} (h0:0≤n) (h1:n<256):((UInt8.ofInt n).toNat:Int)=n:=by
 simp [UInt8.ofInt];omega
theorem get_be {n:Int} {k:Nat} (h0:0≤n) (h1:n<9223372036854775808) (hk:k≤8) (h2:n<((256^k:Nat):Int)):((Wg (be (UInt64.ofInt n) k)).toNat:Int)=n:=by
 rw [get64_be _ hk (by have:=u64_int h0 (by omega);omega),u64_int h0 (by omega)]
open Go.RowKit
theorem snocI {α:Type} {motive:List α→Prop} (nil:motive []) (snoc : ∀ (l:List α) (a:α),motive l→motive (l++[a])) (l:List α):motive l:=by
 have key : ∀ (n:Nat) (l:List α),l.length=n→motive l:=by
  intro n
  induction n with
  | zero=>intro l hl;rw [List.eq_nil_of_length_eq_zero hl];exact nil
  | succ n ih =>
   intro l hl
   have hne:l≠[]:=fun e=>by rw [e] at hl;simp at hl
   rw [←List.dropLast_concat_getLast hne]
   exact snoc _ _ (ih _ (by simp [hl]))
 exact key _ l rfl
theorem mem_of_filt {α:Type} {p:α→Bool} {l:List α} {a:α} (h:a∈l.filter p):a∈l:=(List.mem_filter.1 h).1
structure Ver where
 page:Nat
 slot:Nat
 beg:Int
 fin:Int
 data:List UInt8
 deriving DecidableEq
structure HR where
 pages:Nat
 room:Nat
 used:Int
 vs:List Ver
 act:List Int
 cm:List (Int×Int)
 last:Int
 es:List En
def enSz (e:En):Nat:=8+(Zj e).length
theorem enSz_eq (e:En):enSz e=if e.kind=3 then 25 else 20+e.data.length:=by
 unfold enSz;rw [encE_len];split <;> omega
abbrev atP (page slot:Int) (v:Ver):Bool:=decide ((v.page:Int)=page) && decide ((v.slot:Int)=slot)
def We (vs:List Ver) (page slot:Int):Option Nat:=vs.findIdx? (atP page slot)
def finV (t:Int) (v:Ver):Ver:={v with fin:=t}
def Zg (h:HR) (e:En):HR :=
 {h with
  es:=h.es++[e]
  used:=h.used+enSz e
  vs:=if e.kind=1 then h.vs++[⟨e.page.toNat,e.slot.toNat,e.txn,0,e.data⟩] else if e.kind=2 then (match We h.vs e.page e.slot with | some i=>h.vs.modify i (finV e.txn) | none=>h.vs) else h.vs
  cm:=if e.kind=3 then h.cm++[(e.txn,e.stamp)] else h.cm}
def Zp (h:HR) (t:Int):Bool:=h.act.contains t
def Wa (h:HR) (t:Int):Bool:=(h.cm.map (·.1)).contains t
def Zh (vs:List Ver) (q:Nat):List Ver:=vs.filter fun v=>decide (v.page=q)
def usedV (l:List Ver):Nat:=(l.map fun v=>17+v.data.length).sum
def Wi (vs:List Ver) (q:Nat):Nat:=13+usedV (Zh vs q)
def newR (pages room:Nat):HR:=⟨pages,room,0,[],[],[],0,[]⟩
def beginR (h:HR):HR:={h with last:=h.last+1,act:=h.act++[h.last+1]}
def Zo (h:HR) (t:Int):HR:={h with act:=h.act.filter fun x=>decide (x≠t)}
def abortR (h:HR) (t:Int):HR×Int:=if Zp h t=true then (Zo h t,0) else (h,70)
def roomyP (h:HR) (n:Nat):Option Nat:=(List.range h.pages).find? fun q=>decide (Wi h.vs q+17+n≤256)
abbrev addE (h:HR) (t:Int) (d:List UInt8) (q:Nat):En:=⟨1,t,q,(Zh h.vs q).length,0,d⟩
def Wm (h:HR) (t:Int) (d:List UInt8):HR×Int×Int×Int :=
 if Zp h t=true then
  if 184<d.length then (h,0,0,2) else
   match roomyP h d.length with
   | none=>(h,0,0,3)
   | some q=>if (h.room:Int)<h.used+20+d.length then (h,0,0,3) else (Zg h (addE h t d q),q,(Zh h.vs q).length,0)
 else (h,0,0,70)
abbrev endE (t page slot:Int):En:=⟨2,t,page,slot,0,[]⟩
def endR (h:HR) (t page slot:Int):HR×Int :=
 if Zp h t=true then
  match (We h.vs page slot).bind (h.vs[·]?) with
  | none=>(h,4)
  | some v =>
   if (v.beg≠t∧Wa h v.beg=false)∨v.fin=t∨Wa h v.fin=true then (h,4)
   else if Zp h v.fin=true then (h,71)
   else if (h.room:Int)<h.used+20 then (h,3)
   else (Zg h (endE t page slot),0)
 else (h,70)
abbrev cmE (t stamp:Int):En:=⟨3,t,0,0,stamp,[]⟩
def badStamp (h:HR) (stamp:Int):Bool:=decide (stamp<0) || decide (1099511627776<stamp) || (match h.cm.getLast? with | none=>false | some c=>decide (stamp≤c.2))
def Zl (h:HR) (t stamp:Int):HR×Int :=
 if Zp h t=true then
  if badStamp h stamp=true then (h,1)
  else if (h.room:Int)<h.used+25 then (h,3)
  else (Zg (Zo h t) (cmE t stamp),0)
 else (h,70)
def visV (h:HR) (v:Ver):Option Ver :=
 if Zp h v.beg=false∧Wa h v.beg=false then none
 else some (if Zp h v.fin=false∧Wa h v.fin=false then {v with fin:=0} else v)
def allR (h:HR):List Ver:=(List.range h.pages).flatMap fun q=>(Zh h.vs q).filterMap (visV h)
def sureR (h:HR):List Ver:=allR {h with act:=[]}
def lastE (es:List En):Int:=es.foldl (fun m e=>max m e.txn) 0
def replay (pages room:Nat) (es:List En):HR:=es.foldl Zg (newR pages room)
def Zs (h:HR) (n:Nat):HR:={replay h.pages h.room (h.es.take n) with last:=lastE (h.es.take n)}
def fitsA (h:HR) (t:Int):List Int→HR×Bool
 | []=>(h,true)
 | s::l=>if s<0∨184<s then (h,false) else
   let r:=Wm h t (List.replicate s.toNat 0)
   if r.2.2.2≠0 then (r.1,false) else fitsA r.1 t l
def fitsR (h:HR) (ends:Int) (sizes:List Int):Bool :=
 if ends<0∨(h.room:Int)<ends then false else
  let r:=fitsA {beginR h with used:=h.used+(20*ends+25)} (h.last+1) sizes
  r.2 && decide (r.1.used≤(r.1.room:Int))
def verB (v:Ver):List UInt8:=be (UInt64.ofInt v.beg) 8++be (UInt64.ofInt v.fin) 8++v.data
theorem length_verB (v:Ver):(verB v).length=16+v.data.length:=by simp [verB,Zd];omega
def Zi (vs:List Ver) (q:Nat):List (List UInt8):=(Zh vs q).map verB
theorem used_recs (vs:List Ver) (q:Nat):ZO (Zi vs q)=usedV (Zh vs q):=by
 unfold Zi ZO usedV
 rw [List.map_map]
 congr 1
 apply List.map_congr_left
 intro v _
 simp [length_verB];omega
def Slots (vs:List Ver):Prop := ∀ (i:Nat) (v:Ver),vs[i]? = some v→v.slot=(Zh (vs.take i) v.page).length
theorem Wc (a b:List Ver) (q:Nat):Zh (a++b) q=Zh a q++Zh b q:=by simp [Zh]
theorem Slots.snoc {vs:List Ver} (h:Slots vs) {v:Ver} (hv:v.slot=(Zh vs v.page).length):Slots (vs++[v]):=by
  intro i u hu
  rw [List.getElem?_append] at hu
  split at hu
  · rename_i hi
    rw [h i u hu,List.take_append_of_le_length (by omega)]
  · rename_i hi
    have hi2:i-vs.length=0:=by
      rcases Nat.eq_zero_or_pos (i-vs.length) with e | e
      · exact e
      · rw [List.getElem?_eq_none (by simp;omega)] at hu;cases hu
    rw [hi2] at hu
    simp at hu;subst hu
    have:i=vs.length:=by omega
    subst this
    rw [hv,List.take_left']
    rfl
theorem pageV_modify (t:Int) (q:Nat) : ∀ (vs:List Ver) (i:Nat),(Zh (vs.modify i (finV t)) q).length=(Zh vs q).length
 | [],i=>by simp [Zh]
 | v::vs,0=>by simp [Zh,finV,List.filter_cons];split <;> rfl
 | v::vs,i+1=>by
  have:=pageV_modify t q vs i
  simp only [Zh,List.modify_succ_cons,List.filter_cons] at this ⊢
  split <;> simp [this]
theorem take_modify {t:Int} : ∀ (vs:List Ver) (i j:Nat),(vs.modify i (finV t)).take j=(vs.take j).modify i (finV t)
 | [],i,j=>by simp
 | v::vs,i,0=>by simp
 | v::vs,0,j+1=>by simp
 | v::vs,i+1,j+1=>by simp [take_modify vs i j]
theorem Slots.modify {vs:List Ver} (h:Slots vs) (i:Nat) (t:Int):Slots (vs.modify i (finV t)):=by
 intro j u hu
 rw [List.getElem?_modify] at hu
 cases hv:vs[j]? with
 | none=>rw [hv] at hu;split at hu <;> cases hu
 | some v =>
  have h1:=h j v hv
  rw [take_modify,pageV_modify]
  rw [hv] at hu
  split at hu
  · simp at hu;subst hu;exact h1
  · simp at hu;subst hu;exact h1
theorem slots_page {vs:List Ver} (h:Slots vs) (q:Nat) : ∀ (s:Nat) (v:Ver),(Zh vs q)[s]? = some v→v.page=q∧v.slot=s:=by
  have key : ∀ (pre post:List Ver),pre++post=vs → ∀ (s:Nat) (v:Ver),(Zh post q)[s]? = some v→v.page=q∧v.slot=(Zh pre q).length+s:=by
    intro pre post
    induction post generalizing pre with
    | nil=>intro _ s v hv;simp [Zh] at hv
    | cons u post ih =>
      intro he s v hv
      have hu:vs[pre.length]? = some u:=by rw [←he];simp
      have hs:=h pre.length u hu
      have htk:vs.take pre.length=pre:=by rw [←he];simp
      rw [htk] at hs
      have ih':=ih (pre++[u]) (by rw [←he];simp)
      by_cases e:u.page=q
      · have:Zh (u::post) q=u::Zh post q:=by simp [Zh,e]
        rw [this] at hv
        have hp1:Zh (pre++[u]) q=Zh pre q++[u]:=by simp [Zh,e]
        cases s with
        | zero=>simp at hv;subst hv;exact ⟨e,by rw [hs,e];rfl⟩
        | succ s =>
          simp at hv
          obtain ⟨a,b⟩:=ih' s v hv
          rw [hp1] at b
          exact ⟨a,by rw [b];simp;omega⟩
      · have:Zh (u::post) q=Zh post q:=by simp [Zh,e]
        rw [this] at hv
        have hp1:Zh (pre++[u]) q=Zh pre q:=by simp [Zh,e]
        obtain ⟨a,b⟩:=ih' s v hv
        rw [hp1] at b
        exact ⟨a,b⟩
  intro s v hv
  have:=key [] vs rfl s v hv
  simpa [Zh] using this
theorem slots_inj {vs:List Ver} (h:Slots vs) {i j:Nat} {u v:Ver} (hu:vs[i]? = some u) (hv:vs[j]? = some v) (hp:u.page=v.page) (hs:u.slot=v.slot):i=j:=by
 have key : ∀ {i j:Nat} {u v:Ver},vs[i]? = some u→vs[j]? = some v→u.page=v.page→u.slot=v.slot → ¬ i<j:=by
  intro i j u v hu hv hp hs hlt
  have h1:=h i u hu
  have h2:=h j v hv
  have hsplit:vs.take j=vs.take i++u::(vs.take j).drop (i+1):=by
   have hi:(vs.take j)[i]? = some u:=by rw [List.getElem?_take,if_pos hlt];exact hu
   have hil:=(List.getElem?_eq_some_iff.1 hi).1
   have e1:(vs.take j).take i=vs.take i:=by rw [List.take_take];congr 1;omega
   have e2:=List.take_append_drop i (vs.take j)
   rw [e1] at e2
   rw [List.drop_eq_getElem_cons hil] at e2
   have e3:(vs.take j)[i]=u:=by rw [List.getElem?_eq_getElem hil] at hi;exact Option.some.inj hi
   rw [e3] at e2
   exact e2.symm
  rw [hsplit,Wc] at h2
  have:Zh (u::(vs.take j).drop (i+1)) v.page=u::Zh ((vs.take j).drop (i+1)) v.page:=by simp [Zh,hp]
  rw [this] at h2
  rw [hp] at h1
  simp at h2
  omega
 rcases Nat.lt_trichotomy i j with h1 | h1 | h1
 · exact absurd h1 (key hu hv hp hs)
 · exact h1
 · exact absurd h1 (key hv hu hp.symm hs.symm)
theorem findV_some {vs:List Ver} {page slot:Int} {i:Nat} (h:We vs page slot=some i) : ∃ v,vs[i]? = some v∧(v.page:Int)=page∧(v.slot:Int)=slot:=by
 obtain ⟨hi,h1,_⟩:=List.findIdx?_eq_some_iff_getElem.1 h
 simp only [atP,Bool.and_eq_true,decide_eq_true_eq] at h1
 exact ⟨_,List.getElem?_eq_getElem hi,h1⟩
theorem findV_none {vs:List Ver} {page slot:Int} (h:We vs page slot=none) : ∀ v∈vs,¬ ((v.page:Int)=page∧(v.slot:Int)=slot):=by
 intro v hv
 have:=List.findIdx?_eq_none_iff.1 h v hv
 simpa [atP] using this
theorem findV_of {vs:List Ver} (h:Slots vs) {i:Nat} {v:Ver} (hv:vs[i]? = some v):We vs v.page v.slot=some i:=by
 cases hf:We vs v.page v.slot with
 | none=>exact absurd ⟨rfl,rfl⟩ (findV_none hf v (List.mem_of_getElem? hv))
 | some j =>
  obtain ⟨u,hu,h1,h2⟩:=findV_some hf
  rw [slots_inj h hu hv (by omega) (by omega)]
theorem page_at {vs:List Ver} (h:Slots vs) {i:Nat} {v:Ver} (hv:vs[i]? = some v):(Zh vs v.page)[v.slot]? = some v:=by
 have hi:=(List.getElem?_eq_some_iff.1 hv).1
 have h1:=h i v hv
 have e2:=List.take_append_drop i vs
 rw [List.drop_eq_getElem_cons hi] at e2
 have e3:vs[i]=v:=by rw [List.getElem?_eq_getElem hi] at hv;exact Option.some.inj hv
 rw [e3] at e2
 rw [←e2,Wc,List.getElem?_append_right (by rw [e2] at *;omega)]
 have:Zh (v::vs.drop (i+1)) v.page=v::Zh (vs.drop (i+1)) v.page:=by simp [Zh]
 rw [this]
 have e4:v.slot-(Zh (vs.take i) v.page).length=0:=by omega
 rw [e4];rfl
theorem findV_page {vs:List Ver} (h:Slots vs) (page slot:Int):(We vs page slot).bind (vs[·]?)=if 0≤page∧0≤slot then (Zh vs page.toNat)[slot.toNat]? else none:=by
  cases hf:We vs page slot with
  | some i =>
    obtain ⟨v,hv,h1,h2⟩:=findV_some hf
    have:=page_at h hv
    rw [if_pos (by omega)]
    have e1:page.toNat=v.page:=by omega
    have e2:slot.toNat=v.slot:=by omega
    rw [e1,e2,this]
    exact hv
  | none =>
    have hn:=findV_none hf
    split
    · rename_i h0
      cases hp:(Zh vs page.toNat)[slot.toNat]? with
      | none=>rfl
      | some v =>
        obtain ⟨a,b⟩:=slots_page h _ _ _ hp
        have hm:v∈vs:=mem_of_filt (List.mem_of_getElem? hp)
        exact absurd ⟨by omega,by omega⟩ (hn v hm)
    · rfl
open Go.RowKit
structure OkStep (h:HR) (e:En):Prop where
 ok:EnOk e
 cm:Wa h e.txn=false
 one:e.kind=1→e.page<h.pages∧e.slot=(Zh h.vs e.page.toNat).length∧e.data.length≤184∧Wi h.vs e.page.toNat+17+e.data.length≤256
 two:e.kind=2 → ∃ (i:Nat) (v:Ver),We h.vs e.page e.slot=some i∧h.vs[i]? = some v∧Wa h v.fin=false
 fit:h.used+enSz e≤h.room
def HistOk (pages room:Nat) (es:List En):Prop := ∀ (k:Nat) (e:En),es[k]? = some e→OkStep (replay pages room (es.take k)) e
theorem HistOk.take {pages room:Nat} {es:List En} (h:HistOk pages room es) (n:Nat):HistOk pages room (es.take n):=by
  intro k e he
  rw [List.getElem?_take] at he
  split at he
  · rename_i hk
    have:=h k e he
    rw [List.take_take]
    rwa [Nat.min_eq_left (by omega)]
  · cases he
theorem replay_snoc (pages room:Nat) (es:List En) (e:En):replay pages room (es++[e])=Zg (replay pages room es) e:=by simp [replay,List.foldl_append]
theorem HistOk.snoc {pages room:Nat} {es:List En} {e:En} (h:HistOk pages room es) (he:OkStep (replay pages room es) e):HistOk pages room (es++[e]):=by
  intro k x hx
  rw [List.getElem?_append] at hx
  split at hx
  · rename_i hk
    rw [List.take_append_of_le_length (by omega)]
    exact h k x hx
  · rename_i hk
    have hi2:k-es.length=0:=by
      rcases Nat.eq_zero_or_pos (k-es.length) with q | q
      · exact q
      · rw [List.getElem?_eq_none (by simp;omega)] at hx;cases hx
    rw [hi2] at hx
    simp at hx;subst hx
    have:k=es.length:=by omega
    subst this
    rw [List.take_left']
    · exact he
    · rfl
theorem HistOk.last {pages room:Nat} {es:List En} {e:En} (h:HistOk pages room (es++[e])):HistOk pages room es∧OkStep (replay pages room es) e:=by
  constructor
  · have:=h.take es.length
    rwa [List.take_left' rfl] at this
  · have:=h es.length e (by simp)
    rwa [List.take_left' rfl] at this
abbrev cmOf (e:En):Option (Int×Int):=if e.kind=3 then some (e.txn,e.stamp) else none
structure RepOk (h:HR):Prop where
 slots:Slots h.vs
 vok : ∀ v∈h.vs,v.page<h.pages∧v.data.length≤184∧(∃ e∈h.es,e.kind=1∧e.txn=v.beg)∧(v.fin=0 ∨ ∃ e∈h.es,e.kind=2∧e.txn=v.fin)
 room : ∀ q,Wi h.vs q≤256
 cm:h.cm=h.es.filterMap cmOf
 nd:(h.cm.map (·.1)).Nodup
 used:h.used=((h.es.map enSz).sum:Nat)
 le:h.used≤h.room
 eok : ∀ e∈h.es,EnOk e
theorem isCm_iff {h:HR} {t:Int}:Wa h t=true ↔ ∃ s,(t,s)∈h.cm:=by
 unfold Wa
 rw [List.contains_iff_mem]
 simp
theorem isCm_no {h:HR} {t:Int}:Wa h t=false ↔ ∀ s,(t,s)∉h.cm:=by
 rw [←Bool.not_eq_true,isCm_iff]
 simp
theorem mem_modify {t:Int} : ∀ {vs:List Ver} {i:Nat} {u:Ver},u∈vs.modify i (finV t)→u∈vs ∨ ∃ v∈vs,u=finV t v
  | [],i,u,h=>by simp at h
  | v::vs,0,u,h=>by
    simp at h
    rcases h with rfl | h
    · exact .inr ⟨v,by simp,rfl⟩
    · exact .inl (by simp [h])
  | v::vs,i+1,u,h=>by
    simp at h
    rcases h with rfl | h
    · exact .inl (by simp)
    · rcases mem_modify h with h | ⟨v',h,e⟩
      · exact .inl (by simp [h])
      · exact .inr ⟨v',by simp [h],e⟩
theorem usedV_append (a b:List Ver):usedV (a++b)=usedV a+usedV b:=by simp [usedV]
theorem usedV_modify (t:Int) (q:Nat) : ∀ (vs:List Ver) (i:Nat),usedV (Zh (vs.modify i (finV t)) q)=usedV (Zh vs q)
 | [],i=>by simp [Zh]
 | v::vs,0=>by simp [Zh,finV,List.filter_cons];split <;> simp [usedV]
 | v::vs,i+1=>by
  have:=usedV_modify t q vs i
  simp only [Zh,List.modify_succ_cons,List.filter_cons] at this ⊢
  split
  · simp only [usedV,List.map_cons,List.sum_cons] at this ⊢;rw [this]
  · exact this
theorem pages_len {h:HR} (r:RepOk h) (q:Nat):17*(Zh h.vs q).length≤243:=by
 have h1:=r.room q
 unfold Wi at h1
 have key : ∀ l:List Ver,17*l.length≤usedV l:=fun l=>by
  induction l with
  | nil=>simp [usedV]
  | cons a l ih=>simp [usedV] at ih ⊢;omega
 have:=key (Zh h.vs q)
 omega
theorem RepOk.new (pages room:Nat):RepOk (newR pages room):=⟨fun i v h=>by simp [newR] at h,by simp [newR],fun q=>by simp [newR,Wi,Zh,usedV],rfl,by simp [newR],by simp [newR],by simp [newR],by simp [newR]⟩
theorem kinds {e:En} (h:EnOk e):e.kind=1∨e.kind=2∨e.kind=3:=by have:=h.kind;omega
theorem OkStep.congr {h g:HR} {e:En} (s:OkStep h e) (h1:g.pages=h.pages) (h2:g.room=h.room) (h3:g.used=h.used) (h4:g.vs=h.vs) (h5:g.cm=h.cm):OkStep g e:=by
 obtain ⟨a,b,c,d,f⟩:=s
 have e1 : ∀ t,Wa g t=Wa h t:=fun t=>by unfold Wa;rw [h5]
 exact ⟨a,by rw [e1];exact b,by rw [h1,h4];exact c,by rw [h4];simp only [e1];exact d,by rw [h2,h3];exact f⟩
theorem RepOk.write {h:HR} {e:En} (r:RepOk h) (s:OkStep h e):RepOk (Zg h e):=by
  have hk:=kinds s.ok
  refine ⟨?_,?_,?_,?_,?_,?_,?_,?_⟩
  · unfold Zg
    rcases hk with k | k | k <;> simp only [k,if_true,reduceIte,show ¬ (2:Int)=1 by omega,show ¬ (3:Int)=1 by omega,show ¬ (3:Int)=2 by omega]
    · exact r.slots.snoc (by have:=(s.one k).2.1;dsimp only;omega)
    · obtain ⟨i,v,h1,h2,_⟩:=s.two k
      rw [h1];exact r.slots.modify i _
    · exact r.slots
  · unfold Zg
    intro v hv
    rcases hk with k | k | k <;> simp only [k,if_true,reduceIte,show ¬ (2:Int)=1 by omega,show ¬ (3:Int)=1 by omega,show ¬ (3:Int)=2 by omega] at hv ⊢
    · rcases List.mem_append.1 hv with hv | hv
      · obtain ⟨a,b,⟨x,hx,c⟩,d⟩:=r.vok v hv
        exact ⟨a,b,⟨x,by simp [hx],c⟩,d.imp id fun ⟨y,hy,q⟩=>⟨y,by simp [hy],q⟩⟩
      · simp at hv;subst hv
        obtain ⟨a,b,c,d⟩:=s.one k
        have:=s.ok.place
        exact ⟨by dsimp only;omega,c,⟨e,by simp,k,rfl⟩,.inl rfl⟩
    · obtain ⟨i,u,h1,h2,_⟩:=s.two k
      rw [h1] at hv
      rcases mem_modify hv with hv | ⟨u,hu,rfl⟩
      · obtain ⟨a,b,⟨x,hx,c⟩,d⟩:=r.vok v hv
        exact ⟨a,b,⟨x,by simp [hx],c⟩,d.imp id fun ⟨y,hy,q⟩=>⟨y,by simp [hy],q⟩⟩
      · obtain ⟨a,b,⟨x,hx,c⟩,d⟩:=r.vok u hu
        exact ⟨a,b,⟨x,by simp [hx],c⟩,.inr ⟨e,by simp,k,rfl⟩⟩
    · obtain ⟨a,b,⟨x,hx,c⟩,d⟩:=r.vok v hv
      exact ⟨a,b,⟨x,by simp [hx],c⟩,d.imp id fun ⟨y,hy,q⟩=>⟨y,by simp [hy],q⟩⟩
  · unfold Zg
    intro q
    rcases hk with k | k | k <;> simp only [k,if_true,reduceIte,show ¬ (2:Int)=1 by omega,show ¬ (3:Int)=1 by omega,show ¬ (3:Int)=2 by omega]
    · obtain ⟨a,b,c,d⟩:=s.one k
      have hq:=r.room q
      unfold Wi at hq d ⊢
      rw [Wc,usedV_append]
      by_cases e1:e.page.toNat=q
      · subst e1
        simp [Zh,usedV] at d ⊢;omega
      · simp [Zh,usedV,e1] at hq ⊢;omega
    · obtain ⟨i,v,h1,h2,_⟩:=s.two k
      rw [h1];unfold Wi;rw [usedV_modify];exact r.room q
    · exact r.room q
  · unfold Zg
    dsimp only
    rw [List.filterMap_append,r.cm]
    by_cases k:e.kind=3 <;> simp [k,cmOf]
  · unfold Zg
    dsimp only
    have hn:=isCm_no.1 s.cm
    split
    · rw [List.map_append,List.nodup_append]
      refine ⟨r.nd,by simp,fun a ha b hb e1=>?_⟩
      simp at hb;subst hb;subst e1
      obtain ⟨p,hp,q⟩:=List.mem_map.1 ha
      exact hn p.2 (by rw [←q];exact hp)
    · exact r.nd
  · unfold Zg
    dsimp only
    rw [r.used];simp
  · unfold Zg
    exact s.fit
  · unfold Zg
    intro x hx
    rcases List.mem_append.1 hx with hx | hx
    · exact r.eok x hx
    · simp at hx;subst hx;exact s.ok
theorem replay_es (pages room:Nat) (es:List En):(replay pages room es).es=es∧(replay pages room es).pages=pages∧(replay pages room es).room=room∧(replay pages room es).act=[]∧(replay pages room es).last=0:=by
 induction es using snocI with
 | nil=>simp [replay,newR]
 | snoc es e ih=>rw [replay_snoc];simp [Zg,ih]
theorem RepOk.replay {pages room:Nat} {es:List En} (h:HistOk pages room es):RepOk (replay pages room es):=by
 induction es using snocI with
 | nil=>exact RepOk.new pages room
 | snoc es e ih =>
  rw [replay_snoc]
  exact (ih h.last.1).write h.last.2
structure RInv (h:HR):Prop where
 hist:HistOk h.pages h.room h.es
 rvs:(replay h.pages h.room h.es).vs=h.vs
 rcm:(replay h.pages h.room h.es).cm=h.cm
 rus:(replay h.pages h.room h.es).used=h.used
 actcm : ∀ t∈h.act,Wa h t=false
 lst : ∀ e∈h.es,e.txn≤h.last
 act1 : ∀ t∈h.act,1≤t∧t≤h.last
 last0:0≤h.last
theorem RepOk.congr {h g:HR} (r:RepOk h) (h1:h.pages=g.pages) (h2:h.room=g.room) (h3:h.vs=g.vs) (h4:h.cm=g.cm) (h5:h.used=g.used) (h6:h.es=g.es):RepOk g:=⟨by rw [←h3];exact r.slots,by rw [←h1,←h3,←h6];exact r.vok,by rw [←h3];exact r.room,by rw [←h4,←h6];exact r.cm,by rw [←h4];exact r.nd,by rw [←h5,←h6];exact r.used,by rw [←h5,←h2];exact r.le,by rw [←h6];exact r.eok⟩
theorem RInv.ok {h:HR} (r:RInv h):RepOk h:=by
 obtain ⟨a,b,c,d,e⟩:=replay_es h.pages h.room h.es
 exact (RepOk.replay r.hist).congr b c r.rvs r.rcm r.rus a
theorem RInv.cms {h:HR} (r:RInv h) {t:Int} (ht:Wa h t=true):1≤t∧t≤h.last:=by
 obtain ⟨s,hs⟩:=isCm_iff.1 ht
 rw [r.ok.cm] at hs
 obtain ⟨e,he,h2⟩:=List.mem_filterMap.1 hs
 have:=r.lst e he
 have:=(r.ok.eok e he).txn
 unfold cmOf at h2
 split at h2
 · simp at h2;omega
 · cases h2
theorem RInv.write {h:HR} {e:En} (r:RInv h) (s:OkStep h e) (h1:e.txn≤h.last) (h3:e.kind=3→e.txn∉h.act):RInv (Zg h e):=by
  obtain ⟨q1,q2,q3,q4,q5⟩:=replay_es h.pages h.room h.es
  have s':OkStep (replay h.pages h.room h.es) e:=s.congr q2 q3 r.rus r.rvs r.rcm
  refine ⟨r.hist.snoc s',?_,?_,?_,fun t ht=>?_,fun x hx=>?_,r.act1,r.last0⟩
  · show (replay h.pages h.room (h.es++[e])).vs=_
    rw [replay_snoc];unfold Zg;dsimp only;rw [r.rvs]
  · show (replay h.pages h.room (h.es++[e])).cm=_
    rw [replay_snoc];unfold Zg;dsimp only;rw [r.rcm]
  · show (replay h.pages h.room (h.es++[e])).used=_
    rw [replay_snoc];unfold Zg;dsimp only;rw [r.rus]
  · have h4:=r.actcm t ht
    rw [isCm_no] at h4 ⊢
    intro q hq
    unfold Zg at hq
    dsimp only at hq
    split at hq
    · rename_i k
      rcases List.mem_append.1 hq with hq | hq
      · exact h4 q hq
      · simp at hq
        exact h3 k (by rw [←hq.1];exact ht)
    · exact h4 q hq
  · unfold Zg at hx
    rcases List.mem_append.1 hx with hx | hx
    · exact r.lst x hx
    · simp at hx;subst hx;exact h1
theorem RInv.newR (pages room:Nat):RInv (newR pages room):=⟨fun k e he=>by simp [Go.Proofs.YtfjjgdnepfgnhaaGreatDoor.newR] at he,rfl,rfl,rfl,by simp [Go.Proofs.YtfjjgdnepfgnhaaGreatDoor.newR],by simp [Go.Proofs.YtfjjgdnepfgnhaaGreatDoor.newR],by simp [Go.Proofs.YtfjjgdnepfgnhaaGreatDoor.newR],by simp [Go.Proofs.YtfjjgdnepfgnhaaGreatDoor.newR]⟩
theorem RInv.begin {h:HR} (r:RInv h):RInv (beginR h):=by
  refine ⟨r.hist,r.rvs,r.rcm,r.rus,fun t ht=>?_,fun e he=>?_,fun t ht=>?_,?_⟩
  · rcases List.mem_append.1 ht with ht | ht
    · exact r.actcm t ht
    · simp at ht;subst ht
      show Wa h (h.last+1)=false
      cases hc:Wa h (h.last+1) with
      | false=>rfl
      | true=>have:=r.cms hc;omega
  · have:=r.lst e he;show e.txn≤h.last+1;omega
  · have:=r.last0
    show 1≤t∧t≤h.last+1
    rcases List.mem_append.1 ht with ht | ht
    · have:=r.act1 t ht;omega
    · simp at ht;omega
  · have:=r.last0;show 0≤h.last+1;omega
theorem RInv.without {h:HR} (r:RInv h) (t:Int):RInv (Zo h t):=by
 refine ⟨r.hist,r.rvs,r.rcm,r.rus,fun u hu=>?_,r.lst,fun u hu=>?_,r.last0⟩
 · exact r.actcm u (mem_of_filt hu)
 · exact r.act1 u (mem_of_filt hu)
theorem isAct_iff {h:HR} {t:Int}:Zp h t=true↔t∈h.act:=by unfold Zp;rw [List.contains_iff_mem]
theorem RInv.abort {h:HR} (r:RInv h) (t:Int):RInv (abortR h t).1:=by
 unfold abortR
 split
 · exact r.without t
 · exact r
theorem roomy_some {h:HR} {n q:Nat} (hq:roomyP h n=some q):q<h.pages∧Wi h.vs q+17+n≤256 ∧ ∀ j,j<q → ¬ Wi h.vs j+17+n≤256:=by
 unfold roomyP at hq
 obtain ⟨h1,i,hi,h2,h3⟩:=List.find?_eq_some_iff_getElem.1 hq
 simp at hi h2
 subst h2
 refine ⟨hi,by simpa using h1,fun j hj=>?_⟩
 have:=h3 j hj
 simpa using this
theorem roomy_none {h:HR} {n:Nat} (hq:roomyP h n=none) : ∀ j,j<h.pages → ¬ Wi h.vs j+17+n≤256:=by
 intro j hj
 unfold roomyP at hq
 have:=List.find?_eq_none.1 hq j (by simpa using hj)
 simpa using this
theorem roomy_of {h:HR} {n q:Nat} (h1:q<h.pages) (h2:Wi h.vs q+17+n≤256) (h3 : ∀ j,j<q → ¬ Wi h.vs j+17+n≤256):roomyP h n=some q:=by
 cases hr:roomyP h n with
 | none=>exact absurd h2 (roomy_none hr q h1)
 | some p =>
  obtain ⟨a,b,c⟩:=roomy_some hr
  rcases Nat.lt_trichotomy p q with k | k | k
  · exact absurd b (h3 p k)
  · rw [k]
  · exact absurd h2 (c q k)
theorem roomy_no {h:HR} {n:Nat} (h3 : ∀ j,j<h.pages → ¬ Wi h.vs j+17+n≤256):roomyP h n=none:=by
 cases hr:roomyP h n with
 | none=>rfl
 | some p=>obtain ⟨a,b,c⟩:=roomy_some hr;exact absurd b (h3 p a)
theorem RInv.addStep {h:HR} (r:RInv h) (hp:h.pages≤4096) (hl:h.last<2^62) {t:Int} {d:List UInt8} {q:Nat} (ht:Zp h t=true) (hd:d.length≤184) (hq:q<h.pages) (hu:Wi h.vs q+17+d.length≤256) (hf:h.used+20+d.length≤h.room):OkStep h (addE h t d q):=by
 have h1:=r.act1 t (isAct_iff.1 ht)
 have h2:=pages_len r.ok q
 refine ⟨⟨by simp,by simp;omega,by simp only [enPlace];omega,by simp,by simp,by simp,by simp,by simp;omega⟩,r.actcm t (isAct_iff.1 ht),fun _=>⟨by simp only;omega,by simp,hd,by simpa using hu⟩,by simp,by rw [enSz_eq];simp;omega⟩
theorem RInv.endStep {h:HR} (r:RInv h) (hp:h.pages≤4096) (hl:h.last<2^62) {t page slot:Int} {i:Nat} {v:Ver} (ht:Zp h t=true) (hi:We h.vs page slot=some i) (hv:h.vs[i]? = some v) (hn:Wa h v.fin=false) (hf:h.used+20≤h.room):OkStep h (endE t page slot):=by
 have h1:=r.act1 t (isAct_iff.1 ht)
 obtain ⟨u,hu,e1,e2⟩:=findV_some hi
 rw [hv] at hu;cases hu
 have h2:=r.ok.vok v (List.mem_of_getElem? hv)
 have h3:=pages_len r.ok v.page
 have h4:=(List.getElem?_eq_some_iff.1 (page_at r.ok.slots hv)).1
 refine ⟨⟨by simp,by simp;omega,by simp only [enPlace];omega,by simp,by simp,by simp,by simp,by simp⟩,r.actcm t (isAct_iff.1 ht),by simp,fun _=>⟨i,v,hi,hv,hn⟩,by rw [enSz_eq];simp;omega⟩
theorem RInv.cmStep {h:HR} (r:RInv h) (hl:h.last<2^62) {t stamp:Int} (ht:Zp h t=true) (hb:badStamp h stamp=false) (hf:h.used+25≤h.room):OkStep (Zo h t) (cmE t stamp):=by
 have h1:=r.act1 t (isAct_iff.1 ht)
 have h2:0≤stamp∧stamp≤1099511627776:=by
  unfold badStamp at hb
  simp only [Bool.or_eq_false_iff,decide_eq_false_iff_not] at hb
  omega
 refine ⟨⟨by simp,by simp;omega,by simp [enPlace],by simpa using h2,by simp,by simp,by simp,by simp⟩,r.actcm t (isAct_iff.1 ht),by simp,by simp,by rw [enSz_eq,if_pos rfl];exact hf⟩
theorem RInv.add {h:HR} (r:RInv h) (hp:h.pages≤4096) (hl:h.last<2^62) (t:Int) (d:List UInt8):RInv (Wm h t d).1:=by
  unfold Wm
  split
  · rename_i ht
    split
    · exact r
    · rename_i hd
      split
      · exact r
      · rename_i q hq
        split
        · exact r
        · rename_i hf
          obtain ⟨a,b,_⟩:=roomy_some hq
          exact r.write (r.addStep hp hl ht (by omega) a b (by omega)) (r.act1 t (isAct_iff.1 ht)).2 (by simp)
  · exact r
theorem RInv.end_ {h:HR} (r:RInv h) (hp:h.pages≤4096) (hl:h.last<2^62) (t page slot:Int):RInv (endR h t page slot).1:=by
  unfold endR
  split
  · rename_i ht
    split
    · exact r
    · rename_i v hv
      split
      · exact r
      · rename_i hc
        split
        · exact r
        · split
          · exact r
          · cases hf:We h.vs page slot with
            | none=>rw [hf] at hv;cases hv
            | some i =>
              rw [hf] at hv
              have hn:Wa h v.fin=false:=by
                cases hq:Wa h v.fin with
                | false=>rfl
                | true=>exact absurd (.inr (.inr hq)) hc
              exact r.write (r.endStep hp hl ht hf hv hn (by omega)) (r.act1 t (isAct_iff.1 ht)).2 (by simp)
  · exact r
theorem RInv.commit {h:HR} (r:RInv h) (hl:h.last<2^62) (t stamp:Int):RInv (Zl h t stamp).1:=by
  unfold Zl
  split
  · rename_i ht
    split
    · exact r
    · rename_i hb
      split
      · exact r
      · exact (r.without t).write (r.cmStep hl ht (by simpa using hb) (by omega)) (r.act1 t (isAct_iff.1 ht)).2 (fun _=>by simp [Zo])
  · exact r
theorem pageV_fm_modify {h:HR} {t:Int} {q:Nat} : ∀ {vs:List Ver} {i:Nat} {v:Ver},vs[i]? = some v→visV h (finV t v)=visV h v→(Zh (vs.modify i (finV t)) q).filterMap (visV h)=(Zh vs q).filterMap (visV h)
 | [],i,v,hv,_=>by simp at hv
 | u::vs,0,v,hv,e=>by
  simp at hv;subst hv
  simp only [Zh,List.modify_zero_cons,List.filter_cons,show (finV t u).page=u.page from rfl]
  split
  · simp only [List.filterMap_cons,e]
  · rfl
 | u::vs,i+1,v,hv,e=>by
  have ih:=pageV_fm_modify (q:=q) (vs:=vs) (i:=i) (by simpa using hv) e
  simp only [Zh,List.modify_succ_cons,List.filter_cons] at ih ⊢
  split
  · simp only [List.filterMap_cons,ih]
  · exact ih
theorem vis_congr {h g:HR} (h1:g.act=h.act) (h2:g.cm=h.cm) (v:Ver):visV g v=visV h v:=by
 unfold visV Zp Wa;rw [h1,h2]
theorem all_write {h:HR} {e:En} (s:OkStep h e) (ha:h.act=[]) (hk:e.kind≠3):allR (Zg h e)=allR h:=by
  have hc:(Zg h e).cm=h.cm:=by simp [Zg,hk]
  have hact : ∀ t,Zp h t=false:=fun t=>by simp [Zp,ha]
  unfold allR
  show (List.range h.pages).flatMap _=_
  congr 1
  funext q
  have ev:visV (Zg h e)=visV h:=funext fun v=>vis_congr (g:=Zg h e) (h:=h) rfl hc v
  rw [ev]
  rcases kinds s.ok with k | k | k
  · have:(Zg h e).vs=h.vs++[⟨e.page.toNat,e.slot.toNat,e.txn,0,e.data⟩]:=by simp [Zg,k]
    rw [this,Wc,List.filterMap_append]
    have:(Zh [(⟨e.page.toNat,e.slot.toNat,e.txn,0,e.data⟩:Ver)] q).filterMap (visV h)=[]:=by
      rw [List.filterMap_eq_nil_iff]
      intro v hv
      have:=mem_of_filt hv
      simp at this;subst this
      unfold visV
      rw [if_pos ⟨hact _,s.cm⟩]
    rw [this,List.append_nil]
  · obtain ⟨i,v,h1,h2,h3⟩:=s.two k
    have:(Zg h e).vs=h.vs.modify i (finV e.txn):=by simp [Zg,k,h1]
    rw [this]
    refine pageV_fm_modify h2 ?_
    unfold visV finV
    dsimp only
    split
    · rfl
    · rw [if_pos ⟨hact _,s.cm⟩,if_pos ⟨hact _,h3⟩]
  · exact absurd k hk
theorem replay_all {pages room:Nat} {es:List En} (h:HistOk pages room es) {k:Nat} (hk:k≤es.length) (hc : ∀ (i:Nat) (e:En),k≤i→es[i]? = some e→e.kind≠3):allR (replay pages room (es.take k))=allR (replay pages room es):=by
 have key : ∀ m,k+m≤es.length→allR (replay pages room (es.take k))=allR (replay pages room (es.take (k+m))):=by
  intro m
  induction m with
  | zero=>intro _;rfl
  | succ m ih =>
   intro hm
   rw [ih (by omega)]
   have hx:es[k+m]? = some es[k+m]:=List.getElem?_eq_getElem (by omega)
   rw [show es.take (k+(m+1))=es.take (k+m)++[es[k+m]] by rw [←Nat.add_assoc,List.take_add_one,hx];rfl,replay_snoc]
   exact (all_write (h (k+m) _ hx) (replay_es pages room _).2.2.2.1 (hc _ _ (by omega) hx)).symm
 have:=key (es.length-k) (by omega)
 rwa [show k+(es.length-k)=es.length by omega,List.take_length] at this
theorem allR_last (h:HR) (x:Int):allR {h with last:=x}=allR h:=by
 unfold allR
 show (List.range h.pages).flatMap _=_
 congr 1
theorem all_congr {g h:HR} (h1:g.pages=h.pages) (h2:g.vs=h.vs) {act:List Int} (h3:g.act=act) (h4:g.cm=h.cm):allR g=allR {h with act:=act}:=by
 unfold allR
 rw [h1,h2]
 congr 1
 funext q
 congr 1
 exact funext fun v=>vis_congr (h:={h with act:=act}) h3 h4 v
theorem restart_sure {h:HR} (r:RInv h) {k:Nat} (hk:k≤h.es.length) (hc : ∀ (i:Nat) (e:En),k≤i→h.es[i]? = some e→e.kind≠3):allR (Zs h k)=sureR h:=by
 unfold Zs sureR
 rw [allR_last,replay_all r.hist hk hc]
 obtain ⟨q1,q2,q3,q4,q5⟩:=replay_es h.pages h.room h.es
 exact all_congr q2 r.rvs q4 r.rcm
theorem lastE_le : ∀ (es:List En) (m:Int),m≤es.foldl (fun m e=>max m e.txn) m ∧ ∀ e∈es,e.txn≤es.foldl (fun m e=>max m e.txn) m
 | [],m=>by simp
 | x::es,m=>by
  obtain ⟨h1,h2⟩:=lastE_le es (max m x.txn)
  simp only [List.foldl_cons]
  refine ⟨by omega,fun e he=>?_⟩
  rcases List.mem_cons.1 he with rfl | he
  · omega
  · exact h2 e he
theorem RInv.restart {h:HR} (r:RInv h) (n:Nat):RInv (Zs h n):=by
  obtain ⟨a,b,c,d,e⟩:=replay_es h.pages h.room (h.es.take n)
  unfold Zs
  refine ⟨?_,?_,?_,?_,?_,?_,?_,?_⟩
  · show HistOk (replay h.pages h.room (h.es.take n)).pages (replay h.pages h.room (h.es.take n)).room (replay h.pages h.room (h.es.take n)).es
    rw [a,b,c];exact r.hist.take n
  · show (replay (replay h.pages h.room (h.es.take n)).pages (replay h.pages h.room (h.es.take n)).room (replay h.pages h.room (h.es.take n)).es).vs=_
    rw [a,b,c]
  · show (replay (replay h.pages h.room (h.es.take n)).pages (replay h.pages h.room (h.es.take n)).room (replay h.pages h.room (h.es.take n)).es).cm=_
    rw [a,b,c]
  · show (replay (replay h.pages h.room (h.es.take n)).pages (replay h.pages h.room (h.es.take n)).room (replay h.pages h.room (h.es.take n)).es).used=_
    rw [a,b,c]
  · show ∀ t∈(replay h.pages h.room (h.es.take n)).act,_
    rw [d];simp
  · show ∀ e∈(replay h.pages h.room (h.es.take n)).es,e.txn≤lastE (h.es.take n)
    rw [a];exact (lastE_le _ _).2
  · show ∀ t∈(replay h.pages h.room (h.es.take n)).act,_
    rw [d];simp
  · exact (lastE_le _ _).1
end Go.Proofs.YtfjjgdnepfgnhaaGreatDoor
