/- The texts SfA SkA SfT QcB QdA QdB, one behind the other: what the law leans on. Conditions: as each theorem says. -/
import Derived.Test.YtnnfjemaeefbiaaGreatDoorZWpBase11
import Derived.Shelf.SlSortCmp.NoneTotal
import Derived.Shelf.SlLaysF0
import Derived.Test.YtnnfjemaeefbiaaGreatDoorProg
set_option linter.unusedSimpArgs false
set_option linter.unusedVariables false
set_option maxRecDepth 100000
set_option maxHeartbeats 16000000
namespace Go.Proofs.YtnnfjemaeefbiaaGreatDoor
open Go.RowKit Go.Shelf Go.Lib Go.Sort
section
variable {P : Program} {B:Wn} {α:Type} [Inhabited α]
theorem sort_block (enc:α->Value) (w:World) (g m:Nat) (d:Array α) (os:Array Obj) {cur:Array Value} {e:TypeId} {fr:Nat×Nat} (h:w.heap[g]? = some (.cells cur e fr)):(sortWorld enc w g 0 m d os).heap[g]? = some (.cells (putCells enc 0 d cur) e fr):=by
  have hg:g<w.heap.size:=Zk h
  unfold sortWorld
  rw [heap_grow_old _ _ (by rw [size_putRow];exact hg)]
  show (Array.modify w.heap g (onCells (putCells enc 0 d)))[g]? = _
  rw [Array.getElem?_modify,if_pos rfl,h]
  rfl
theorem sort_kept (enc:α->Value) (w:World) (g m:Nat) (d:Array α) (os:Array Obj):Kept [g] w (sortWorld enc w g 0 m d os):=by
  refine ⟨rfl,rfl,rfl,?_,λ k hk hn=>?_,Nat.le_add_right w.drawn m⟩
  . unfold sortWorld
    rw [size_grow,size_putRow]
    exact Nat.le_add_right _ _
  . unfold sortWorld
    rw [heap_grow_old _ _ (by rw [size_putRow];exact hk)]
    show (Array.modify w.heap g (onCells (putCells enc 0 d)))[k]? = _
    rw [Array.getElem?_modify,if_neg (λ e=>hn (by simp [e]))]
theorem put_take (enc:α->Value) (d:Array α) (cur:Array Value) (h:d.size<=cur.size):(putCells enc 0 d cur).toList.take (d.size*1)=d.toList.map enc:=by
  apply List.ext_getElem
  . simp [putCells];omega
  . intro i h1 h2
    have hi:i<d.size:=by simpa using h2
    simp [putCells,hi,getElem!_pos]
theorem Own.sorted {w:World} {g m cap k:Nat} {e:TypeId} {ds:List α} {enc:α->Value} {l:List Wp} (H:Own B w (row (.slice (some ⟨g,0,none⟩) m cap) e 1 m (ds.map enc)::l)) (d':Array α) (hd:d'.size=m) (os:Array Obj):Own B (sortWorld enc w g 0 k d' os) (row (.slice (some ⟨g,0,none⟩) m cap) e 1 m (d'.toList.map enc)::l):=by
  obtain ⟨e1,e2⟩:=H.row_owns
  rcases e2 with ⟨e2,_⟩ | ⟨g',cap',cur,e2,_,e3,e4,e5,e6,e7⟩
  . cases e2
  . injection e2 with e2 _ e8
    injection e2 with e2
    injection e2 with e2
    subst e2;subst e8
    refine H.row_kept (by simpa [Value.ownBlock] using sort_kept enc w g k d' os) ⟨by simp [hd],.inr ⟨g,cap,_,rfl,Nat.zero_le _,sort_block enc w g k d' os e3,e4,e5,by simp [putCells,e6],?_⟩⟩ (λ g2 hg => .inl hg)
    rw [<-hd]
    exact put_take enc d' cur (by omega)
theorem Fn.sort {ρ:Ren} (L:SlLaysF.n6 P ρ) (enc:α->Value) (h1:OneCell enc) (cf:α->α->Int) (hO:SWO (ltOf cf)) (gc:Nat) (e:TypeId) (eg : ∀ args w,(callFunc gc args).run P w = .ok (.enter gc args) w) (v:Value) (m:Nat) (ds:List α) (hm:ds.length=m) (hb:m<2^61) (S:List Wp)
    (hcmp : ∀ x y W,Own B W S->Calls P gc #[enc x,enc y] W λ e w'=>e = .returned (.int .i64 (cf x y)) /\ ∃ q,w'=W.drewN q) (f:Nat) (hf:ρ.f 6=f) :
    Fn P B f #[v,.func (.func gc) #[] #[]] (row v e 1 m (ds.map enc)::S) (λ u l=>u = .tuple #[] /\ ∃ ds':List α,ds'.Perm ds/\l=row v e 1 m (ds'.map enc)::S):=⟨λ w F ho=>by
  subst hf
  obtain ⟨p,cap,rfl,hp,hl⟩:=Own.row_slice ho
  rcases Nat.eq_zero_or_pos m with h0 | h0
  . subst h0
    obtain rfl:ds=[]:=List.eq_nil_of_length_eq_zero hm
    refine (AnyF.slices_SortFunc_none {L with} p cap (.func (.func gc) #[] #[]) w).mono ?_
    rintro _ w' ⟨rfl,rfl⟩
    exact ⟨_,_,rfl,⟨rfl,[],List.Perm.refl _,rfl⟩,ho⟩
  . obtain ⟨g,rfl⟩:=hp h0
    have hsz:ds.toArray.size=m:=by simpa using hm
    have hH:Holds enc w g 0 ds.toArray:=λ j hj=>by
      have hj':j<m:=by omega
      obtain ⟨e1,e2⟩:=ho.row_owns
      rcases e2 with ⟨e2,_⟩ | ⟨g',cap',cur,e2,_,e3,e4,e5,e6,e7⟩
      . cases e2
      . injection e2 with e2 _ e8
        injection e2 with e2
        injection e2 with e2
        subst e2
        have hlj:j<ds.length:=by omega
        have hc:cur[j]? = some (enc ds[j]):=by
          rw [<-Array.getElem?_toList]
          have:(cur.toList.take (m*1))[j]? = (ds.map enc)[j]? := by rw [e7]
          rw [List.getElem?_take,if_pos (by omega)] at this
          rw [this]
          simp [hlj]
        constructor
        . unfold World.cell?
          rw [e3]
          simp [hc,hlj,getElem!_pos]
        . unfold World.frozen?
          rw [e3]
          simp
    have hblk:g<w.heap.size:=by
      obtain ⟨e1,e2⟩:=ho.row_owns
      rcases e2 with ⟨e2,_⟩ | ⟨g',cap',cur,e2,_,e3,_⟩
      . cases e2
      . injection e2 with e2 _ e8
        injection e2 with e2
        injection e2 with e2
        subst e2
        exact Zk e3
    have hlays:CmpLays1 P gc #[] enc cf g 0 ds.toArray.size w:=λ k os dk hk x y=>by
      have h2:=ho.sorted (k:=k) dk (by omega) os
      refine (hcmp x y _ ((h2.map λ _ k=>k.tail).drop)).mono ?_
      rintro _ w' ⟨rfl,q,rfl⟩
      exact ⟨rfl,q,#[],by rw [grow_empty]⟩
    have h:=Any.slices_SortFunc L enc h1 cf hO gc #[] g 0 cap ds.toArray w eg hlays hH hblk (by omega)
    rw [hsz] at h
    refine h.mono ?_
    rintro _ w' ⟨rfl,d',k,os,hp1,_,rfl⟩
    obtain ⟨q1,q2,q3⟩:=hp1
    refine ⟨_,_,rfl,⟨rfl,d'.toList,?_,rfl⟩,ho.sorted (k:=k) d' (by omega) os⟩
    have e1:d'.extract 0 m=d':=by rw [<-hsz,<-q1];simp
    have e2:ds.toArray.extract 0 m=ds.toArray:=by rw [<-hsz];simp
    rw [e1,e2] at q3
    simpa using q3⟩
end
end Go.Proofs.YtnnfjemaeefbiaaGreatDoor
namespace Go.Proofs.YtnnfjemaeefbiaaGreatDoor
open Go.RowKit Go.Shelf Go.Lib Go.Sort
section
variable {P : Program} {B:Wn} {α:Type} [Inhabited α]
theorem put_takeK (d:Array Value) (cur:Array Value) (h:d.size<=cur.size):(putCells id 0 d cur).toList.take d.size=d.toList:=by
  apply List.ext_getElem
  . simp [putCells];omega
  . intro i h1 h2
    have hi:i<d.size:=by simpa using h2
    simp [putCells,hi,getElem!_pos]
theorem Own.sortedK {w:World} {g m cap k sz:Nat} {e:TypeId} {cs:List Value} {l:List Wp} (H:Own B w (row (.slice (some ⟨g,0,none⟩) m cap) e sz m cs::l)) (d':Array Value) (hd:d'.size=m*sz) (os:Array Obj):Own B (sortWorld id w g 0 k d' os) (row (.slice (some ⟨g,0,none⟩) m cap) e sz m d'.toList::l):=by
  obtain ⟨e1,e2⟩:=H.row_owns
  rcases e2 with ⟨e2,_⟩ | ⟨g',cap',cur,e2,_,e3,e4,e5,e6,e7⟩
  . cases e2
  . injection e2 with e2 _ e8
    injection e2 with e2
    injection e2 with e2
    subst e2;subst e8
    have hle:m*sz<=cap*sz:=Nat.mul_le_mul_right _ e4
    refine H.row_kept (by simpa [Value.ownBlock] using sort_kept id w g k d' os) ⟨by simp [hd],.inr ⟨g,cap,_,rfl,Nat.zero_le _,sort_block id w g k d' os e3,e4,e5,by simp [putCells,e6],?_⟩⟩ (λ g2 hg => .inl hg)
    rw [<-hd]
    exact put_takeK d' cur (by omega)
theorem flatK_list (enc:α->List Value) (k:Nat) (hk : ∀ x,(enc x).length=k) (ds:List α):(flatK enc k ds.toArray).toList=ds.flatMap enc:=by
  apply List.ext_getElem?
  intro i
  have hl:(ds.flatMap enc).length=ds.length*k:=by
    induction ds with
    | nil=>simp
    | cons a l ih=>simp [hk] at ih ⊢;rw [ih,Nat.add_mul,Nat.one_mul,Nat.add_comm]
  by_cases hi:i<ds.length*k
  . have h1:=get_flatK enc k ds.toArray i (by simpa using hi)
    have hk0:0<k:=by rcases Nat.eq_zero_or_pos k with e | e;(subst e;simp at hi);exact e
    have hq:i/k<ds.length:=Nat.div_lt_of_lt_mul (by rw [Nat.mul_comm];exact hi)
    have hr:i%k<k:=Nat.mod_lt _ hk0
    have hv:(enc ds[i/k])[i%k]? = some ((enc ds[i/k])[i%k]'(by rw [hk];exact hr)):=List.getElem?_eq_getElem _
    have h2:=flat_cell enc k ds (λ x _=>hk x) (i/k) (i%k) hq hv
    rw [Nat.zero_add,show i/k*k+i%k=i by rw [Nat.mul_comm];exact Nat.div_add_mod i k] at h2
    rw [h2]
    have hs:i<(flatK enc k ds.toArray).size:=by simpa using hi
    rw [Array.getElem?_toList,Array.getElem?_eq_getElem hs]
    rw [getElem!_pos (flatK enc k ds.toArray) i hs] at h1
    rw [h1]
    simp [hq,getElem!_pos,hk,hr]
  . have hs2:(flatK enc k ds.toArray).toList.length=ds.length*k:=by simp
    rw [List.getElem?_eq_none (by omega),List.getElem?_eq_none (by rw [hl];omega)]
theorem Fn.sortK {ρ:Ren} (L:SlLaysF0.n6 P ρ) (k:Nat) (aE : ∀ w,(isAgg (ρ.t 24)).run P w = .ok true w) (zE : ∀ w,(Go.sizeOf (ρ.t 24)).run P w = .ok k w) (enc:α->List Value) (hk : ∀ x,(enc x).length=k) (h1 : ∀ x,∀ v∈enc x,v.oneCell'=true) (cf:α->α->Int) (hO:SWO (ltOf cf)) (gc:Nat) (e:TypeId) (eg : ∀ args w,(callFunc gc args).run P w = .ok (.enter gc args) w) (v:Value) (m:Nat) (ds:List α) (hm:ds.length=m) (hb:m<2^61) (S:List Wp)
    (hcmp : ∀ x y W,Own B W S->Calls P gc #[.agg (enc x).toArray,.agg (enc y).toArray] W λ e w'=>e = .returned (.int .i64 (cf x y)) /\ ∃ q os',w'=grow (W.drewN q) os') (f:Nat) (hf:ρ.f 6=f) :
    Fn P B f #[v,.func (.func gc) #[] #[]] (row v e k m (ds.flatMap enc)::S) (λ u l=>u = .tuple #[] /\ ∃ ds':List α,ds'.Perm ds/\SortedIn (ltOf cf) 0 m ds'.toArray/\l=row v e k m (ds'.flatMap enc)::S):=⟨λ w F ho=>by
  subst hf
  obtain ⟨p,cap,rfl,hp,hl⟩:=Own.row_slice ho
  have hfl:(ds.flatMap enc).length=m*k:=hl
  rcases Nat.eq_zero_or_pos m with h0 | h0
  . subst h0
    obtain rfl:ds=[]:=List.eq_nil_of_length_eq_zero hm
    refine (AnyF.slices_SortFunc_none {L with} p cap (.func (.func gc) #[] #[]) w).mono ?_
    rintro _ w' ⟨rfl,rfl⟩
    exact ⟨_,_,rfl,⟨rfl,[],List.Perm.refl _,λ i h=>by omega,rfl⟩,ho⟩
  . obtain ⟨g,rfl⟩:=hp h0
    have hsz:ds.toArray.size=m:=by simpa using hm
    have hfk:=flatK_list enc k hk ds
    obtain ⟨e1,e2⟩:=ho.row_owns
    rcases e2 with ⟨e2,_⟩ | ⟨g',cap',cur,e2,_,e3,e4,e5,e6,e7⟩
    . cases e2
    . injection e2 with e2 _ e8
      injection e2 with e2
      injection e2 with e2
      subst e2;subst e8
      have hle:m*k<=cap*k:=Nat.mul_le_mul_right _ e4
      have hH:HoldsK enc k w g 0 ds.toArray:=λ j hj=>by
        have hj':j<m*k:=by simpa [hsz] using hj
        have hc:cur[j]? = some (flatK enc k ds.toArray)[j]:=by
          rw [<-Array.getElem?_toList]
          have:(cur.toList.take (m*k))[j]? = (ds.flatMap enc)[j]? := by rw [e7]
          rw [List.getElem?_take,if_pos (by omega)] at this
          rw [this,<-hfk,Array.getElem?_toList,Array.getElem?_eq_getElem hj]
        constructor
        . unfold World.cell?
          rw [e3]
          simp [hc]
          exact (getElem!_pos (flatK enc k ds.toArray) j hj).symm
        . unfold World.frozen?
          rw [e3]
          simp
      have hblk:g<w.heap.size:=Zk e3
      have hlays:CmpLays P gc #[] enc k cf g 0 ds.toArray.size w:=λ q os dk hdk x y=>by
        have h2:=ho.sortedK (k:=q) (flatK enc k dk) (by simp [hdk,hsz]) os
        refine (hcmp x y _ ((h2.map λ _ k=>k.tail).drop)).mono ?_
        rintro _ w' ⟨rfl,q,os',rfl⟩
        exact ⟨rfl,q,os',rfl⟩
      have h:=AnyQ.slices_SortFunc L k aE zE enc hk h1 cf hO gc #[] g 0 cap ds.toArray w eg hlays hH hblk (by omega)
      rw [hsz] at h
      refine h.mono ?_
      rintro _ w' ⟨rfl,d',q,os,hp1,hp2,rfl⟩
      obtain ⟨q1,q2,q3⟩:=hp1
      have hd':d'.size=m:=by omega
      have hso:=ho.sortedK (k:=q) (flatK enc k d') (by simp [hd']) os
      refine ⟨_,_,rfl,⟨rfl,d'.toList,?_,by simpa using hp2,rfl⟩,?_⟩
      . have e1:d'.extract 0 m=d':=by rw [<-hd'];simp
        have e2:ds.toArray.extract 0 m=ds.toArray:=by rw [<-hsz];simp
        rw [e1,e2] at q3
        simpa using q3
      . have:=flatK_list enc k hk d'.toList
        rw [Array.toArray_toList] at this
        rw [<-this]
        exact hso⟩
end
end Go.Proofs.YtnnfjemaeefbiaaGreatDoor
namespace Go.Proofs
open Go.Shelf
def Tryz.sortFx_ren : Go.Shelf.Ren:=⟨fun | 6=>33 | 15=>64 | 14=>63 | 28=>117 | 29=>118 | 20=>109 | 21=>110 | 22=>111 | 23=>112 | 24=>113 | 25=>114 | 26=>115 | 27=>116 | 46=>139 | 47=>140 | 48=>141 | 49=>142 | 50=>143 | 57=>170 | n=>n,fun | 22=>22 | 24=>35 | 25=>105 | 3=>3 | 39=>162 | 0=>0 | 53=>212 | 55=>193 | 4=>4 | 46=>206 | 45=>205 | 50=>143 | 5=>5 | 9=>9 | 66=>236 | 70=>240 | 76=>259 | 77=>260 | n=>n,fun | n=>n⟩
theorem Tryz.sortFx : Go.Proofs.SlLaysF0.n6 Tryz.prog Tryz.sortFx_ren:={
  mixed:=by kernel_rfl
  f6:=⟨Tryz.f33.name,by decide,Tryz.func33.trans (congrArg some (by kernel_rfl))⟩
  f14:=⟨Tryz.f63.name,by decide,Tryz.func63.trans (congrArg some (by kernel_rfl))⟩
  f15:=Tryz.func64.trans (congrArg some (by kernel_rfl))
  f20:=⟨Tryz.f109.name,by decide,Tryz.func109.trans (congrArg some (by kernel_rfl))⟩
  f21:=⟨Tryz.f110.name,by decide,Tryz.func110.trans (congrArg some (by kernel_rfl))⟩
  f22:=⟨Tryz.f111.name,by decide,Tryz.func111.trans (congrArg some (by kernel_rfl))⟩
  f23:=⟨Tryz.f112.name,by decide,Tryz.func112.trans (congrArg some (by kernel_rfl))⟩
  f24:=⟨Tryz.f113.name,by decide,Tryz.func113.trans (congrArg some (by kernel_rfl))⟩
  f25:=⟨Tryz.f114.name,by decide,Tryz.func114.trans (congrArg some (by kernel_rfl))⟩
  f26:=⟨Tryz.f115.name,by decide,Tryz.func115.trans (congrArg some (by kernel_rfl))⟩
  f27:=⟨Tryz.f116.name,by decide,Tryz.func116.trans (congrArg some (by kernel_rfl))⟩
  f28:=Tryz.func117.trans (congrArg some (by kernel_rfl))
  f29:=Tryz.func118.trans (congrArg some (by kernel_rfl))
  f46:=⟨Tryz.f139.name,by decide,Tryz.func139.trans (congrArg some (by kernel_rfl))⟩
  f47:=Tryz.func140.trans (congrArg some (by kernel_rfl))
  f48:=Tryz.func141.trans (congrArg some (by kernel_rfl))
  f49:=⟨Tryz.f142.name,by decide,Tryz.func142.trans (congrArg some (by kernel_rfl))⟩
  f50:=⟨Tryz.f143.name,by decide,Tryz.func143.trans (congrArg some (by kernel_rfl))⟩
  f57:=⟨Tryz.f170.name,by decide,Tryz.func170.trans (congrArg some (by kernel_rfl))⟩
  t0:=Tryz.underlying0
  a0:=Tryz.isAgg0
  z0:=Tryz.sizeOf0
  v0:=Tryz.zeroValue0
  t3:=Tryz.underlying3
  a3:=Tryz.isAgg3
  z3:=Tryz.sizeOf3
  v3:=Tryz.zeroValue3
  t4:=Tryz.underlying4
  a4:=Tryz.isAgg4
  z4:=Tryz.sizeOf4
  v4:=Tryz.zeroValue4
  t5:=Tryz.underlying5
  a5:=Tryz.isAgg5
  z5:=Tryz.sizeOf5
  v5:=Tryz.zeroValue5
  t9:=Tryz.underlying9
  a9:=Tryz.isAgg9
  z9:=Tryz.sizeOf9
  v9:=Tryz.zeroValue9
  t22:=Tryz.underlying22
  a22:=Tryz.isAgg22
  z22:=Tryz.sizeOf22
  v22:=Tryz.zeroValue22
  t25:=Tryz.underlying105
  a25:=Tryz.isAgg105
  z25:=Tryz.sizeOf105
  v25:=Tryz.zeroValue105
  t39:=Tryz.underlying162
  a39:=Tryz.isAgg162
  z39:=Tryz.sizeOf162
  v39:=Tryz.zeroValue162
  t45:=Tryz.underlying205
  a45:=Tryz.isAgg205
  z45:=Tryz.sizeOf205
  v45:=Tryz.zeroValue205
  t46:=Tryz.underlying206
  a46:=Tryz.isAgg206
  z46:=Tryz.sizeOf206
  v46:=Tryz.zeroValue206
  t50:=Tryz.underlying143
  a50:=Tryz.isAgg143
  z50:=Tryz.sizeOf143
  v50:=Tryz.zeroValue143
  t53:=Tryz.underlying212
  a53:=Tryz.isAgg212
  z53:=Tryz.sizeOf212
  v53:=Tryz.zeroValue212
  t55:=Tryz.underlying193
  a55:=Tryz.isAgg193
  z55:=Tryz.sizeOf193
  v55:=Tryz.zeroValue193
  t66:=Tryz.underlying236
  a66:=Tryz.isAgg236
  z66:=Tryz.sizeOf236
  v66:=Tryz.zeroValue236
  t70:=Tryz.underlying240
  a70:=Tryz.isAgg240
  z70:=Tryz.sizeOf240
  v70:=Tryz.zeroValue240
  t76:=Tryz.underlying259
  a76:=Tryz.isAgg259
  z76:=Tryz.sizeOf259
  v76:=Tryz.zeroValue259
  t77:=Tryz.underlying260
  a77:=Tryz.isAgg260
  z77:=Tryz.sizeOf260
  v77:=Tryz.zeroValue260}
def Tryz.sortPd_ren : Go.Shelf.Ren:=⟨fun | 6=>105 | 15=>64 | 14=>137 | 28=>117 | 29=>118 | 20=>153 | 21=>154 | 22=>155 | 23=>156 | 24=>157 | 25=>158 | 26=>159 | 27=>160 | 46=>178 | 47=>140 | 48=>141 | 49=>179 | 50=>180 | 57=>188 | n=>n,fun | 22=>66 | 24=>33 | 25=>201 | 3=>3 | 39=>162 | 0=>0 | 53=>212 | 55=>193 | 4=>4 | 46=>206 | 45=>205 | 50=>143 | 5=>5 | 9=>9 | 66=>236 | 70=>240 | 76=>259 | 77=>260 | n=>n,fun | n=>n⟩
theorem Tryz.sortPd : Go.Proofs.SlLaysF0.n6 Tryz.prog Tryz.sortPd_ren:={
  mixed:=by kernel_rfl
  f6:=⟨Tryz.f105.name,by decide,Tryz.func105.trans (congrArg some (by kernel_rfl))⟩
  f14:=⟨Tryz.f137.name,by decide,Tryz.func137.trans (congrArg some (by kernel_rfl))⟩
  f15:=Tryz.func64.trans (congrArg some (by kernel_rfl))
  f20:=⟨Tryz.f153.name,by decide,Tryz.func153.trans (congrArg some (by kernel_rfl))⟩
  f21:=⟨Tryz.f154.name,by decide,Tryz.func154.trans (congrArg some (by kernel_rfl))⟩
  f22:=⟨Tryz.f155.name,by decide,Tryz.func155.trans (congrArg some (by kernel_rfl))⟩
  f23:=⟨Tryz.f156.name,by decide,Tryz.func156.trans (congrArg some (by kernel_rfl))⟩
  f24:=⟨Tryz.f157.name,by decide,Tryz.func157.trans (congrArg some (by kernel_rfl))⟩
  f25:=⟨Tryz.f158.name,by decide,Tryz.func158.trans (congrArg some (by kernel_rfl))⟩
  f26:=⟨Tryz.f159.name,by decide,Tryz.func159.trans (congrArg some (by kernel_rfl))⟩
  f27:=⟨Tryz.f160.name,by decide,Tryz.func160.trans (congrArg some (by kernel_rfl))⟩
  f28:=Tryz.func117.trans (congrArg some (by kernel_rfl))
  f29:=Tryz.func118.trans (congrArg some (by kernel_rfl))
  f46:=⟨Tryz.f178.name,by decide,Tryz.func178.trans (congrArg some (by kernel_rfl))⟩
  f47:=Tryz.func140.trans (congrArg some (by kernel_rfl))
  f48:=Tryz.func141.trans (congrArg some (by kernel_rfl))
  f49:=⟨Tryz.f179.name,by decide,Tryz.func179.trans (congrArg some (by kernel_rfl))⟩
  f50:=⟨Tryz.f180.name,by decide,Tryz.func180.trans (congrArg some (by kernel_rfl))⟩
  f57:=⟨Tryz.f188.name,by decide,Tryz.func188.trans (congrArg some (by kernel_rfl))⟩
  t0:=Tryz.underlying0
  a0:=Tryz.isAgg0
  z0:=Tryz.sizeOf0
  v0:=Tryz.zeroValue0
  t3:=Tryz.underlying3
  a3:=Tryz.isAgg3
  z3:=Tryz.sizeOf3
  v3:=Tryz.zeroValue3
  t4:=Tryz.underlying4
  a4:=Tryz.isAgg4
  z4:=Tryz.sizeOf4
  v4:=Tryz.zeroValue4
  t5:=Tryz.underlying5
  a5:=Tryz.isAgg5
  z5:=Tryz.sizeOf5
  v5:=Tryz.zeroValue5
  t9:=Tryz.underlying9
  a9:=Tryz.isAgg9
  z9:=Tryz.sizeOf9
  v9:=Tryz.zeroValue9
  t22:=Tryz.underlying66
  a22:=Tryz.isAgg66
  z22:=Tryz.sizeOf66
  v22:=Tryz.zeroValue66
  t25:=Tryz.underlying201
  a25:=Tryz.isAgg201
  z25:=Tryz.sizeOf201
  v25:=Tryz.zeroValue201
  t39:=Tryz.underlying162
  a39:=Tryz.isAgg162
  z39:=Tryz.sizeOf162
  v39:=Tryz.zeroValue162
  t45:=Tryz.underlying205
  a45:=Tryz.isAgg205
  z45:=Tryz.sizeOf205
  v45:=Tryz.zeroValue205
  t46:=Tryz.underlying206
  a46:=Tryz.isAgg206
  z46:=Tryz.sizeOf206
  v46:=Tryz.zeroValue206
  t50:=Tryz.underlying143
  a50:=Tryz.isAgg143
  z50:=Tryz.sizeOf143
  v50:=Tryz.zeroValue143
  t53:=Tryz.underlying212
  a53:=Tryz.isAgg212
  z53:=Tryz.sizeOf212
  v53:=Tryz.zeroValue212
  t55:=Tryz.underlying193
  a55:=Tryz.isAgg193
  z55:=Tryz.sizeOf193
  v55:=Tryz.zeroValue193
  t66:=Tryz.underlying236
  a66:=Tryz.isAgg236
  z66:=Tryz.sizeOf236
  v66:=Tryz.zeroValue236
  t70:=Tryz.underlying240
  a70:=Tryz.isAgg240
  z70:=Tryz.sizeOf240
  v70:=Tryz.zeroValue240
  t76:=Tryz.underlying259
  a76:=Tryz.isAgg259
  z76:=Tryz.sizeOf259
  v76:=Tryz.zeroValue259
  t77:=Tryz.underlying260
  a77:=Tryz.isAgg260
  z77:=Tryz.sizeOf260
  v77:=Tryz.zeroValue260}
end Go.Proofs
namespace Go.Proofs.YtnnfjemaeefbiaaGreatDoor
open Go.RowKit Go.Shelf Go.Lib Go.Sort
def baseAt (W:World):Wn:=⟨W.os,W.tape,W.output,W.drawn,World.piece W⟩
theorem own_at (W:World):Own (baseAt W) W []:=⟨rfl,rfl,rfl,Nat.le_refl _,Piece.le_refl _,λ _=>none,⟨λ _ => .inl rfl⟩,⟨λ _ _ e=>by cases e⟩,trivial⟩
theorem Own.atRange {W w:World} {S:List Wp} {b o:Nat} {cs:List Value} (h:W.rangeAt b o cs) (H:Own (baseAt W) w S):w.rangeAt b o cs:=λ j v hv=>by
  have h1:=h j v hv
  unfold World.cell? at h1 ⊢
  dsimp only at h1 ⊢
  cases hb:W.heap[b]? with
  | none=>rw [hb] at h1;cases h1
  | some ob =>
    rw [show w.heap[b]? = some ob from H.ro.p b ob hb]
    rw [hb] at h1
    exact h1
theorem Own.atGrow {W w:World} (H:Own (baseAt W) w []) : ∃ q os',w=grow (W.drewN q) os':=by
  have hb : ∀ (k:Nat) o,W.heap[k]? = some o->w.heap[k]? = some o:=λ k o e=>H.ro.p k o e
  have hsz:W.heap.size<=w.heap.size:=by
    rcases Nat.eq_zero_or_pos W.heap.size with h0 | h0
    . omega
    . have:=Zk (hb (W.heap.size-1) _ (Array.getElem?_eq_getElem (by omega)))
      omega
  refine ⟨w.drawn-W.drawn,w.heap.extract W.heap.size w.heap.size,?_⟩
  have e1:w.heap=W.heap++w.heap.extract W.heap.size w.heap.size:=by
    apply Array.ext
    . simp;omega
    . intro i h1 h2
      by_cases hi:i<W.heap.size
      . rw [Array.getElem_append_left hi]
        have:=hb i _ (Array.getElem?_eq_getElem hi)
        rw [Array.getElem?_eq_getElem h1] at this
        exact Option.some.inj this
      . rw [Array.getElem_append_right (by omega),Array.getElem_extract]
        congr 1;omega
  have e2:=H.low
  have e3:w.drawn=W.drawn+(w.drawn-W.drawn):=by
    have:W.drawn<=w.drawn:=e2
    omega
  have h3:=H.os
  have h4:=H.tape
  have h5:=H.output
  obtain ⟨wh,wt,wd,wo,wu⟩:=w
  dsimp only at e1 e3 h3 h4 h5
  unfold grow World.drewN
  dsimp only
  rw [<-e1,<-e3]
  subst h3;subst h4;subst h5
  rfl
theorem Fn.grown {P:Program} {W:World} {g:FuncId} {args:Array Value} {v:Value} (h:Fn P (baseAt W) g args [] (λ u l=>u=v/\l=[])):Calls P g args W λ e w'=>e = .returned v /\ ∃ q os',w'=grow (W.drewN q) os':=by
  refine (h.run W [] (own_at W)).mono ?_
  rintro e w' ⟨v,l,rfl,⟨rfl,rfl⟩,ho⟩
  exact ⟨rfl,ho.atGrow⟩
theorem FlV.at' {B:Wn} {S:List Wp} {α:Type} {g:α->List Value} {v:Value} {x:List α} (h:FlV B S g v x) {W:World} (hW:Own B W S):FlV (baseAt W) [] g v x:=by
  obtain ⟨a,c,e,h1 | ⟨b,o,e1,h1⟩⟩:=h
  . exact ⟨a,c,e,.inl h1⟩
  . exact ⟨a,c,e,.inr ⟨b,o,e1,λ w ho=>Own.atRange (h1 W hW) ho⟩⟩
theorem Lin.swo {α:Type} {c:α->α->Int} (h:Lin c):SWO (ltOf c) where
  irrefl:=λ x=>by simp [ltOf,h.refl]
  trans:=λ x y z h1 h2=>by
    simp only [ltOf,decide_eq_true_eq] at h1 h2 ⊢
    have q1:=h.rng x y
    have q2:=h.rng y z
    rw [h.trans x y z (by omega) (by omega)];decide
  ntrans:=λ x y z h1 h2=>by
    simp only [ltOf,decide_eq_false_iff_not,Int.not_lt] at h1 h2 ⊢
    have q1:=h.anti x y
    have q2:=h.anti y z
    have q3:=h.anti x z
    have:=h.le_trans (a:=z) (b:=y) (d:=x) (by omega) (by omega)
    omega
theorem swo_via {α β:Type} {c:α->α->Int} (f:β->α) (h:SWO (ltOf c)):SWO (ltOf λ x y=>c (f x) (f y)) where
  irrefl:=λ x=>h.irrefl _
  trans:=λ x y z=>h.trans _ _ _
  ntrans:=λ x y z=>h.ntrans _ _ _
theorem sorted_pair {α:Type} [Inhabited α] {c:α->α->Int} {l:List α} (h:SortedIn (ltOf c) 0 l.length l.toArray):l.Pairwise λ x y => ¬ c y x<0:=by
  rw [List.pairwise_iff_getElem]
  intro i j hi hj hij
  have:=h i j (Nat.zero_le _) hij hj
  simpa [ltOf,getElem!_pos,hi,hj] using this
theorem entersQ {P:Program} {g:FuncId} {fn:Func} (hf:P.funcs[g]? = some fn) (hn:(fn.name == "runtime.NumGoroutine")=false) (hb:fn.body.isNone=false) (args:Array Value) (w:World):(callFunc g args).run P w = .ok (.enter g args) w:=by
  have hn' : ¬ fn.name = "runtime.NumGoroutine" := by simpa using hn
  have hb' : ¬ fn.body=none:=λ e=>by rw [e] at hb;cases hb
  simp [callFunc,hf,hn',hb']
abbrev FqS (B:Wn) (S:List Wp):={x:Fq // FqV B S x}
instance (B : Wn) (S:List Wp):Inhabited (FqS B S):=⟨⟨⟨.slice none 0 0,[],0,0⟩,by decide,FlV.empty _ _⟩⟩
abbrev fqR (p:Option Addr) (n c:Nat) (Q:List Fq):Wp:=row (.slice p n c) 35 3 n (Q.flatMap fqC)
theorem Qc.sortF (B:Wn) (S:List Wp) (p:Option Addr) (n c:Nat) (Q:List Fq) (hn:Q.length=n) (hb:n<2^60) (hQ : ∀ x∈Q,FqV B S x):Fn Tryz.prog B 33 #[.slice p n c,.func (.func 34) #[] #[]] (fqR p n c Q::S) (λ u l=>u = .tuple #[] /\ ∃ Q',Q'.Perm Q/\Ord cmpF (Q'.map Fq.fz)/\(∀ x∈Q',FqV B S x)/\l=fqR p n c Q'::S):=by
  obtain ⟨ds,rfl⟩ : ∃ ds:List (FqS B S),Q=ds.map (·.1):=⟨Q.attach.map λ x=>⟨x.1,hQ x.1 x.2⟩,by simp⟩
  have hl:ds.length=n:=by simpa using hn
  have key:=Fn.sortK (B:=B) (α:=FqS B S) Tryz.sortFx 3 (λ w=>by kernel_rfl) (λ w=>by kernel_rfl) (λ x=>fqC x.1) (λ _=>rfl) (λ x v hv=>by
    obtain ⟨a,c,e⟩:=x.2.form
    simp only [fqC,List.mem_cons,List.not_mem_nil,or_false] at hv
    rcases hv with rfl | rfl | rfl
    . rw [e];rfl
    . rfl
    . rfl) (λ x y=>cmpF x.1.fz y.1.fz) (swo_via (λ x:FqS B S=>x.1.fz) linF.swo) 34 35 (entersQ Tryz.func34 rfl rfl) (.slice p n c) n ds hl (by omega) S (λ x y W hW=>Fn.grown (Qc.order (baseAt W) [] x.1 y.1 ⟨x.2.1,x.2.2.at' hW⟩ ⟨y.2.1,y.2.2.at' hW⟩)) 33 rfl
  have e0 : ∀ xs:List (FqS B S),(xs.flatMap λ x=>fqC x.1)=(xs.map (·.1)).flatMap fqC:=λ xs=>by rw [List.flatMap_map]
  rw [e0] at key
  refine key.mono ?_
  rintro u l ⟨rfl,ds',h1,h2,rfl⟩
  have hl':ds'.length=n:=by rw [h1.length_eq,hl]
  rw [<-hl'] at h2
  refine ⟨rfl,ds'.map (·.1),h1.map _,?_,?_,by rw [e0]⟩
  . have h3:=sorted_pair h2
    unfold Ord
    rw [List.map_map,List.pairwise_map]
    refine h3.imp λ {x y} h=>?_
    have:=linF.anti y.1.fz x.1.fz
    simp only [Function.comp_apply] at h ⊢
    omega
  . intro x hx
    obtain ⟨y,hy,rfl⟩:=List.mem_map.1 hx
    exact y.2
end Go.Proofs.YtnnfjemaeefbiaaGreatDoor
namespace Go.Proofs.YtnnfjemaeefbiaaGreatDoor
open Go.RowKit Go.Shelf Go.Lib Go.Sort
section
variable {P : Program} {B:Wn} {n:Nat} {S l r:List Wp} {f:Fr} {K:Value->List Wp->Prop}
variable {d : Option Tmp} {ty:TypeId} {pos:String} {af:Array Edge} {gd:Option (Nat×Bool)}
theorem Ef.clearK {t e sz g o m c:Nat} {x:Operand} {C:List Value} {ty2:TypeId} (z:Value) (zs:List Value) (hk:sliceB P t e sz=true) (hz:(P.info? e).bind (·.zero)=some z) (hzc:z.cells=zs.toArray) (h1:zs.all (·.oneCell')=true) (hx:ev n f x=some (.slice (some ⟨g,o,none⟩) m c)) (hm:0<m) (hfit:o+m*zs.length<=C.length)
    [kk:StoreAt g l C (splice C o (Builtin.zeroCells zs.toArray m).toList) r] (h:K (.tuple #[]) r):Ef P B n ⟨d,.call ⟨.builtin .clear,#[x],#[t]⟩,ty2,pos,af,gd⟩ f l K:=⟨λ w next Q ho hk2=>by
  obtain ⟨hu,_⟩:=sliceB_spec hk
  have hl:(Builtin.zeroCells zs.toArray m).toList.length=m*zs.length:=by rw [Array.length_toList,size_zeroCells,List.size_toArray]
  have h1c : ∀ u∈(Builtin.zeroCells zs.toArray m).toList,u.oneCell'=true:=λ u hu2=>by
    unfold Builtin.zeroCells at hu2
    rw [Array.toList_map] at hu2
    obtain ⟨i,hi,rfl⟩:=List.mem_map.1 hu2
    have hi':i<m*zs.length:=by simpa using hi
    have hz0:0<zs.length:=by
      rcases Nat.eq_zero_or_pos zs.length with h0 | h0
      . rw [h0] at hi';omega
      . exact h0
    have hlt:i%zs.length<zs.length:=Nat.mod_lt _ hz0
    have e:zs.toArray[i%zs.toArray.size]! = zs[i%zs.length]:=by simp [hlt]
    rw [e]
    exact List.all_eq_true.1 h1 _ (List.getElem_mem _)
  obtain ⟨X,t',hg,ho'⟩:=ho.store (g:=g) (C:=C) (D:=splice C o (Builtin.zeroCells zs.toArray m).toList) (length_splice _ _ _ (by rw [hl];exact hfit))
  have hv:(zeroValue e).run P w = .ok z w:=by
    cases hi:P.info? e with
    | none=>rw [hi] at hz;cases hz
    | some i =>
      rw [hi] at hz
      simp only [Option.bind_some] at hz
      simp [zeroValue,typeInfo,hi,hz]
  have hst:=run_storeCells_at P g o t' (Builtin.zeroCells zs.toArray m).toList 0 (C++X).toArray w hg (by rw [Nat.add_zero,hl];simp;omega) h1c
  have hsp:=splice_append C X o (Builtin.zeroCells zs.toArray m).toList (by rw [hl];exact hfit)
  have hr:(Builtin.clear_ #[t] ty2 #[.slice (some ⟨g,o,none⟩) m c]).run P w = .ok (.tuple #[]) (w.setRow g (splice C o (Builtin.zeroCells zs.toArray m).toList++X).toArray):=by
    obtain ⟨m,rfl⟩ : ∃ k,m=k+1:=⟨m-1,by omega⟩
    simp only [Nat.add_zero] at hst
    unfold Builtin.clear_
    simp [run_underlying hu,hv,hzc,hst]
    rw [<-hsp]
    simp [splice,List.append_assoc]
  unfold Oper.wp execOp
  simp only [Wk,resolve,invoke,builtin,Sem.run_bind,Sem.run_pure,Result.andThen_ok,List.map_toArray,List.map_cons,List.map_nil,Zc hx,hr]
  exact hk2 _ _ _ h ho'⟩
theorem SrcOf.fq {α:Type} {g:α->List Value} {tx sz m:Nat} {v:Value} {x:List α} (h:FlV B l g v x) (hg : ∀ a,(g a).length=sz) (hm:x.length=m) (h1 : ∀ u∈x.flatMap g,u.oneCell'=true) (hk:sliceZ P tx sz=true:=by kernel_rfl):SrcOf P B l sz tx v m (x.flatMap g):=⟨λ w ho=>by
  obtain ⟨e,he⟩:=sliceZ_spec hk
  subst hm
  obtain ⟨a,c,rfl,h⟩:=h
  have hl : ∀ y:List α,(y.flatMap g).length=y.length*sz:=λ y=>by
    induction y with
    | nil=>simp
    | cons a y ih=>rw [List.flatMap_cons,List.length_append,hg,ih,List.length_cons,Nat.add_mul];omega
  rcases h with rfl | ⟨b,o,rfl,h⟩
  . cases a with
    | none=>exact Src.ofNil w he c
    | some a=>exact Src.ofSlice w he a 0 c [] (by simp) (by simp) (by simp)
  . exact Src.ofSlice w he ⟨b,o,none⟩ _ c (x.flatMap g) (hl x) (λ j u hj=>by rw [Addr.add_mid];exact h w ho j u hj) h1⟩
theorem Own.openK {w:World} {g m c e sz:Nat} {xs:List Value} (H:Own B w (row (.slice (some ⟨g,0,none⟩) m c) e sz m xs::l)) : ∃ C:List Value,Own B w (pu (C.length=c*sz/\C.take (m*sz)=xs/\m<=c/\c<=maxLen)::blk g C e::l):=by
  obtain ⟨h,d,hl,h1,h2,d2,a1,a2,⟨hx,e1⟩,H2⟩:=H.has
  rcases e1 with ⟨e1,_⟩ | ⟨g',cap',cur,e1,e2,c1,c2,c3,c4⟩
  . cases e1
  . injection e1 with e1 _ ec
    injection e1 with e1
    injection e1 with e1
    subst e1;subst ec
    refine ⟨cur.toList,H.os,H.tape,H.output,H.low,H.ro,h,d,hl,Has.close_pu ⟨by simpa using c3,by simpa using c4,c1,c2⟩ ⟨h1,h2,d2,a1,a2,?_,H2⟩⟩
    show h1 g=_
    rw [e2]
theorem Has.closeK {h:Piece} {g m c e sz:Nat} {C xs:List Value} (hC:C.length=c*sz) (hm:m<=c) (hc:c<=maxLen) (hx:C.take (m*sz)=xs) (H:Has (blk g C e::l) h):Has (row (.slice (some ⟨g,0,none⟩) m c) e sz m xs::l) h:=by
  subst hx
  refine Has.weaken (λ k hk=>?_) H
  have:m*sz<=c*sz:=Nat.mul_le_mul_right _ hm
  refine ⟨by rw [List.length_take];omega,.inr ⟨g,c,C.toArray,rfl,hk,hm,hc,by simp [hC],by simp⟩⟩
theorem Own.pure {w:World} {p:Prop} (H:Own B w (pu p::l)):p:=by
  obtain ⟨_,_,_,H1⟩:=H.has
  exact (Has.open_pu H1).1
theorem Own.unpure {w:World} {p:Prop} (H:Own B w (pu p::l)):Own B w l:=H.map λ _ k=>k.tail
end
abbrev pdV (f t:Int):Value := .agg #[iV f,iV t]
abbrev pC (x:Int×Int):List Value:=[iV x.1,iV x.2]
abbrev okX (x:Int×Int):Bool:=decide (okP x.1 x.2)
abbrev hasX (x:Int×Int) (t:Int):Bool:=decide (x.1<=t/\t<x.2)
theorem Qd.checkOk (B:Wn) (f t:Int) (h:okP f t):Fn Tryz.prog B 55 #[pdV f t] [] (λ v l=>v=iV 0/\l=[]):=by
  obtain ⟨h1,h2,h3⟩:=h
  refine Wq 18 Tryz.func55 rfl rfl (nB rfl) (λ F=>?_)
  try simp only [cA,nA]
  refine Ts ?_
  refine TR ?_
  refine Le (zL [_,_] rfl rfl ?_)
  intro g1
  refine La rfl ?_
  refine Ld ?_
  refine Ts ?_
  refine Ts ?_
  refine TR ?_
  refine Lq (Q0 rfl) ?_
  refine Lq (Ql rfl rfl) ?_
  refine Lq (yM rfl rfl) ?_
  refine Lm rfl ?_
  refine yT (t:=6) rfl (decide_eq_false (by omega)) ?_
  refine Lq (Q0 rfl) ?_
  refine Lq (Ql rfl rfl) ?_
  refine Lq (Qf (off:=1) rfl) ?_
  refine Lq (Ql rfl rfl) ?_
  refine Lq (zX rfl rfl) ?_
  refine Lq (Qp rfl rfl) ?_
  refine Lm rfl ?_
  refine yT (t:=13) rfl (decide_eq_false (by omega)) ?_
  refine Lq (Qf (off:=1) rfl) ?_
  refine Lq (Ql rfl rfl) ?_
  refine Lq (yZ rfl rfl) ?_
  refine Lq (Qp rfl rfl) ?_
  refine Ld ?_
  refine yL rfl (by omega) ?_
  refine Tk ?_
  refine Ts ?_
  refine TR ?_
  refine La rfl ?_
  refine Ld ?_
  refine T.ret ?_
  exact ⟨.inl rfl,_,_,res [_] rfl ⟨rvT rfl,trivial⟩,⟨rfl,rfl⟩,Sa⟩
theorem Qd.checkNo (B:Wn) (f t:Int) (h : ¬ okP f t):Fn Tryz.prog B 55 #[pdV f t] [] (λ v l=>v=iV 40/\l=[]):=by
 unfold okP at h
 refine Wq 18 Tryz.func55 rfl rfl (nB rfl) (λ F=>?_)
 try simp only [cA,nA]
 refine Ts ?_
 refine TR ?_
 refine Le (zL [_,_] rfl rfl ?_)
 intro g1
 refine La rfl ?_
 refine Ld ?_
 refine Ts ?_
 refine Ts ?_
 refine TR ?_
 refine Lq (Q0 rfl) ?_
 refine Lq (Ql rfl rfl) ?_
 refine Lq (yM rfl rfl) ?_
 refine Lm rfl ?_
 refine zZ (t:=6) rfl (λ h1=>?_) (λ h1=>?_)
 .
  try replace h1:=of_decide_eq_true h1
  refine Ls rfl ?_
  refine Ls rfl ?_
  refine Ls rfl ?_
  refine Ls rfl ?_
  refine Ls rfl ?_
  refine Lq (Qp rfl rfl) ?_
  refine Lm rfl ?_
  refine zQ (t:=13) rfl rfl ?_
  refine Ls rfl ?_
  refine Ls rfl ?_
  refine Ls rfl ?_
  refine Lq (Qp rfl rfl) ?_
  refine Ld ?_
  refine zF rfl ?_
  refine Ts ?_
  refine TR ?_
  refine La rfl ?_
  refine Ld ?_
  refine T.ret ?_
  exact ⟨.inl rfl,_,_,res [_] rfl ⟨rvT rfl,trivial⟩,⟨rfl,rfl⟩,Sa⟩
 try replace h1:=of_decide_eq_false h1
 refine Lq (Q0 rfl) ?_
 refine Lq (Ql rfl rfl) ?_
 refine Lq (Qf (off:=1) rfl) ?_
 refine Lq (Ql rfl rfl) ?_
 refine Lq (zX rfl rfl) ?_
 refine Lq (Qp rfl rfl) ?_
 refine Lm rfl ?_
 refine zZ (t:=13) rfl (λ h2=>?_) (λ h2=>?_)
 .
  try replace h2:=of_decide_eq_true h2
  refine Ls rfl ?_
  refine Ls rfl ?_
  refine Ls rfl ?_
  refine Lq (Qp rfl rfl) ?_
  refine Ld ?_
  refine zF rfl ?_
  refine Ts ?_
  refine TR ?_
  refine La rfl ?_
  refine Ld ?_
  refine T.ret ?_
  exact ⟨.inl rfl,_,_,res [_] rfl ⟨rvT rfl,trivial⟩,⟨rfl,rfl⟩,Sa⟩
 try replace h2:=of_decide_eq_false h2
 refine Lq (Qf (off:=1) rfl) ?_
 refine Lq (Ql rfl rfl) ?_
 refine Lq (yZ rfl rfl) ?_
 refine Lq (Qp rfl rfl) ?_
 refine Ld ?_
 refine zM rfl (by omega) ?_
 refine Ts ?_
 refine TR ?_
 refine La rfl ?_
 refine Ld ?_
 refine T.ret ?_
 exact ⟨.inl rfl,_,_,res [_] rfl ⟨rvT rfl,trivial⟩,⟨rfl,rfl⟩,Sa⟩
def codeX (x:Int×Int):Int:=if okP x.1 x.2 then 0 else 40
theorem Qd.check (B:Wn) (x:Int×Int):Fn Tryz.prog B 55 #[pdV x.1 x.2] [] (λ v l=>v=iV (codeX x)/\l=[]):=by
  by_cases h:okP x.1 x.2
  . have e:codeX x=0:=if_pos h
    rw [e];exact Qd.checkOk B _ _ h
  . have e:codeX x=40:=if_neg h
    rw [e];exact Qd.checkNo B _ _ h
theorem codeX_ok (x:Int×Int):codeX x=0↔okX x=true:=by
  unfold codeX
  rw [decide_eq_true_eq]
  split
  . exact ⟨λ _=>by assumption,λ _=>rfl⟩
  . exact ⟨λ h=>absurd h (by decide),λ h=>absurd h (by assumption)⟩
theorem Qd.has (B:Wn) (x:Int×Int) (t:Int):Fn Tryz.prog B 51 #[pdV x.1 x.2,iV t] [] (λ u l=>u = .bool (hasX x t)/\l=[]):=by
 refine Wr 15 Tryz.func51 rfl rfl (nB rfl) (λ F=>?_)
 try simp only [cA,nA]
 refine Ts ?_
 refine TR ?_
 refine Le (zL [_,_] rfl rfl ?_)
 intro g2
 refine La rfl ?_
 refine Ld ?_
 refine Ts ?_
 refine TR ?_
 refine Lq (Q0 rfl) ?_
 refine Lq (Ql rfl rfl) ?_
 refine Lm rfl ?_
 refine Lq (YF rfl rfl) ?_
 refine Lm rfl ?_
 refine zZ (t:=9) rfl (λ h1=>?_) (λ h1=>?_)
 .
  try replace h1:=of_decide_eq_true h1
  refine Lm rfl ?_
  refine Lq (Qf (off:=1) rfl) ?_
  refine Lq (Ql rfl rfl) ?_
  refine Lq (yM rfl rfl) ?_
  refine Lq (Qp rfl rfl) ?_
  refine La rfl ?_
  refine Ld ?_
  refine T.ret ?_
  exact ⟨.inl rfl,_,_,res [_] rfl ⟨rvT rfl,trivial⟩,⟨by simp [outV,h1],rfl⟩,Sa⟩
 try replace h1:=of_decide_eq_false h1
 refine Ls rfl ?_
 refine Ls rfl ?_
 refine Ls rfl ?_
 refine Ls rfl ?_
 refine Lq (Qp rfl rfl) ?_
 refine La rfl ?_
 refine Ld ?_
 refine T.ret ?_
 exact ⟨.inl rfl,_,_,res [_] rfl ⟨rvT rfl,trivial⟩,⟨by simp [outV,h1],rfl⟩,Sa⟩
theorem bad_eq (x:Int×Int):decide (codeX x≠0) = !okX x:=by
  by_cases h:okX x=true
  . rw [(codeX_ok x).2 h,h];rfl
  . have h2:=mt (codeX_ok x).1 h
    rw [decide_eq_true h2,Bool.eq_false_iff.2 h];rfl
theorem Qd.bad (B:Wn) (x:Int×Int):Fn Tryz.prog B 104 #[pdV x.1 x.2] [] (λ u l=>u = .bool (!okX x)/\l=[]):=by
  refine Wq 6 Tryz.func104 rfl rfl (nB rfl) (λ F=>?_)
  try simp only [cA,nA]
  refine Ts ?_
  refine TR ?_
  refine Le (zL [_,_] rfl rfl ?_)
  intro g1
  refine La rfl ?_
  refine Ld ?_
  refine Ts ?_
  refine TR ?_
  refine Lq (QL [_,_] rfl ⟨rfl,rfl,trivial⟩) ?_
  refine Le (Ec (Qd.check B x) Tryz.func55 rfl rfl rfl ?_)
  rintro _ _ ⟨rfl,rfl⟩
  try simp only [cA,nA]
  refine Lq (yW rfl rfl) ?_
  refine La rfl ?_
  refine Ld ?_
  refine T.ret ?_
  exact ⟨.inl rfl,_,_,res [_] rfl ⟨rvT rfl,trivial⟩,⟨congrArg Value.bool (bad_eq x),rfl⟩,Sa⟩
theorem Qd.froms (B:Wn) (x y:Int×Int):Fn Tryz.prog B 106 #[pdV x.1 x.2,pdV y.1 y.2] [] (λ u l=>u=iV (cmpI x.1 y.1)/\l=[]):=by
  refine Wr 10 Tryz.func106 rfl rfl (nB rfl) (λ F=>?_)
  try simp only [cA,nA]
  refine Ts ?_
  refine TR ?_
  refine Le (zL [_,_] rfl rfl ?_)
  intro g2
  refine Le (zL [_,_] rfl rfl ?_)
  intro g3
  refine La rfl ?_
  refine Ld ?_
  refine Ts ?_
  refine TR ?_
  refine Lq (Q0 rfl) ?_
  refine Lq (Ql rfl rfl) ?_
  refine Lq (Q0 rfl) ?_
  refine Lq (Ql rfl rfl) ?_
  refine Le (Ec (Bd.compareI B x.1 y.1) Tryz.func58 rfl rfl rfl ?_)
  rintro _ _ ⟨rfl,rfl⟩
  try simp only [cA,nA]
  refine La rfl ?_
  refine Ld ?_
  refine T.ret ?_
  exact ⟨.inl rfl,_,_,res [_] rfl ⟨rvT rfl,trivial⟩,⟨rfl,rfl⟩,Sa⟩
abbrev pdR (p:Option Addr) (n c:Nat) (L:List (Int×Int)):Wp:=row (.slice p n c) 33 2 n (L.flatMap pC)
theorem Qd.elem : ElemOk Tryz.prog 66 33 2 16 := .mk' (.agg #[iV 0,iV 0]) Tryz.underlying66 (by kernel_rfl) rfl (by omega)
theorem pC_one (L:List (Int×Int)) : ∀ u∈L.flatMap pC,u.oneCell'=true:=λ u hu=>by
  obtain ⟨x,_,hx⟩:=List.mem_flatMap.1 hu
  simp at hx
  rcases hx with rfl | rfl <;> rfl
theorem Qd.clone (B:Wn) (S:List Wp) (a:Option Addr) (m c:Nat) (L:List (Int×Int)) (h:FlV B S pC (.slice a m c) L) (hm:L.length=m) (hb:m<2^42):Fn Tryz.prog B 62 #[.slice a m c] S (λ u l => ∃ p c',u = .slice p m c'/\(0<m -> ∃ g,p=some ⟨g,0,none⟩)/\l=pdR p m c' L::S):=by
  refine Wq 8 Tryz.func62 rfl rfl (nB rfl) (λ F=>?_)
  refine Ts ?_
  refine TR ?_
  refine La rfl ?_
  refine Ld ?_
  refine Ts ?_
  refine Ts ?_
  refine TR ?_
  refine Lm rfl ?_
  refine Lq (YT rfl rfl) ?_
  refine Ld ?_
  refine Y9 rfl (λ h0=>?_) (λ h0=>?_)
  . skip
    have hL:L=[]:=by
      rcases Nat.eq_zero_or_pos m with z | z
      . exact List.eq_nil_of_length_eq_zero (by omega)
      . obtain ⟨b,o,e,_⟩:=h.at (sz:=2) (λ _=>rfl) z
        rw [e] at h0;cases h0
    subst hL
    obtain rfl:m=0:=hm.symm
    refine T.conv (l':=pdR none 0 0 []::(S++F)) (λ w ho=>ho.row_nil _ _) ?_
    refine Ts ?_
    refine TR ?_
    refine La rfl ?_
    refine Ld ?_
    refine T.ret ?_
    exact ⟨.inl rfl,_,_,res [_] rfl ⟨rvT rfl,trivial⟩,⟨none,0,rfl,λ z=>absurd z (by omega),rfl⟩,Sa⟩
  refine Tk ?_
  refine Ts ?_
  refine TR ?_
  refine Le (Y8 Qd.elem ?_)
  rintro g5
  refine Lm rfl ?_
  refine Le (Ea Qd.elem rfl rfl (SrcOf.fq (m:=m) (h.mono (λ w ho=>ho.tl.drop)) (λ _=>rfl) hm (pC_one L)) (by unfold maxLen;omega) ?_)
  rintro p1 c1 hp1
  try simp only [cA,nA]
  simp only [Nat.zero_add,List.nil_append]
  refine La rfl ?_
  refine Ld ?_
  refine T.ret ?_
  exact ⟨.inl rfl,_,_,res [_] rfl ⟨rvT rfl,trivial⟩,⟨p1,c1,rfl,λ z=>hp1 (by omega),rfl⟩,Sa⟩
theorem spl_after {α:Type} {C vs:List α} {o i:Nat} (h:o+vs.length<=i) (hl:o+vs.length<=C.length):(splice C o vs)[i]? = C[i]? := by
  unfold splice
  rw [List.getElem?_append_right (by simp;omega),List.getElem?_append_right (by simp;omega),List.getElem?_drop]
  congr 1
  simp;omega
theorem spl_take {α:Type} {C vs:List α} {o:Nat} (hl:o+vs.length<=C.length):(splice C o vs).take (o+vs.length)=C.take o++vs:=by
  unfold splice
  rw [<-List.append_assoc,List.take_append_of_le_length (by simp;omega),List.take_of_length_le (by simp;omega)]
theorem spl_before {α:Type} {C vs:List α} {o k:Nat} (h:k<=o) (hl:o<=C.length):(splice C o vs).take k=C.take k:=by
  unfold splice
  rw [List.take_append_of_le_length (by simp;omega),List.take_take,Nat.min_eq_left h]
theorem filter_snoc {α:Type} {p:α->Bool} {L:List α} {j:Nat} {x:α} (h:L[j]? = some x):(L.take (j+1)).filter p=(L.take j).filter p++(if p x=true then [x] else []):=by
  rw [List.take_add_one,h,List.filter_append]
  congr 1
  simp only [Option.toList]
  by_cases q:p x=true
  . rw [if_pos q];simp [q]
  . rw [if_neg q];simp [q]
theorem Qd.index (B:Wn) (S:List Wp) (a:Option Addr) (m c:Nat) (L:List (Int×Int)) (h:FlV B S pC (.slice a m c) L) (hm:L.length=m) (hb:m<2^42) (q:Int×Int->Bool) (fg:FuncId) (fn:Func) (hf:Tryz.prog.funcs[fg]? = some fn) (hn:(fn.name == "runtime.NumGoroutine")=false) (hbb:fn.body.isNone=false) (hq : ∀ x:Int×Int,Fn Tryz.prog B fg #[pdV x.1 x.2] [] (λ u l=>u = .bool (q x)/\l=[])) :
  Fn Tryz.prog B 136 #[.slice a m c,.func (.func fg) #[] #[]] S (λ u l=>(∃ r:Int,u=iV r/\((r = -1/\L.filter (λ x => !q x)=L) \/ ∃ k:Nat,r=k/\k<m/\(L.take (k+1)).filter (λ x => !q x)=L.take k))/\l=S):=by
 refine Wr 19 Tryz.func136 rfl rfl (nB rfl) (λ F=>?_)
 refine Ts ?_
 refine TR ?_
 refine La rfl ?_
 refine Ld ?_
 refine Ts ?_
 refine Ts ?_
 refine TR ?_
 refine Lm rfl ?_
 refine Lq (yI (e:=33) (sz:=2) rfl) ?_
 refine Lm rfl ?_
 refine Ld ?_
 refine yH ?_
 refine zG (λ mz fz lz => ∃ (f0:Fr) (i:Nat),(i<=m/\(L.take i).filter (λ x => !q x)=L.take i)/\mz=m-i/\fz=(upd (upd (upd (upd (upd f0 0 (.slice a m c)) 1 (.func (.func fg) #[] #[])) 6 (.slice a m c)) 7 (iV m)) 8 (iV i))/\lz=S++F) ?_ ?_
 . refine ⟨_,_,⟨_,0,⟨Nat.zero_le _,rfl⟩,rfl,(Za rfl (Za rfl (Za rfl (Za rfl (Za rfl rfl))))),rfl⟩,Sa⟩
 rintro mz fz lz ⟨f0,i,⟨hi,hh⟩,hmz,rfl,rfl⟩
 subst mz
 refine Ts ?_
 refine TR ?_
 refine Lq (yM rfl rfl) ?_
 refine Ld ?_
 refine Ts ?_
 refine yN rfl (λ hlt=>?_) (λ hlt=>?_)
 .
  obtain ⟨b,o,rfl,hr⟩:=h.at (sz:=2) (λ _=>rfl) (by omega)
  obtain ⟨x,hx⟩ : ∃ x,L[i]? = some x:=⟨_,List.getElem?_eq_getElem (by omega)⟩
  have hx1:=hr i x hx
  refine Tk ?_
  refine Ts ?_
  refine yH ?_
  refine Ts ?_
  refine TR ?_
  refine Lm rfl ?_
  refine La rfl ?_
  refine Ld ?_
  refine Ts ?_
  refine TR ?_
  refine Lm rfl ?_
  refine Lm rfl ?_
  refine Lm rfl ?_
  refine Lq (Qi _ (e:=33) (sz:=2) rfl rfl rfl) ?_
  refine Lq (Qt.loadAggW (pC x) rfl (λ w ho=>hx1 w (ho.map Sa))) ?_
  refine Le (ZE [pdV x.1 x.2] [] (hq x) hf hn hbb rfl rfl rfl ?_)
  rintro _ _ ⟨rfl,rfl⟩
  try simp only [cA,nA]
  refine Ld ?_
  refine Y9 rfl (λ hz=>?_) (λ hz=>?_)
  .
   refine Ts ?_
   refine TR ?_
   refine Lm rfl ?_
   refine La rfl ?_
   refine Ld ?_
   refine T.ret ?_
   exact ⟨.inl rfl,_,_,res [_] rfl ⟨rvT rfl,trivial⟩,⟨⟨i,rfl,.inr ⟨i,rfl,by omega,by rw [filter_snoc hx,hh,hz];simp⟩⟩,rfl⟩,Sa⟩
  refine Tk ?_
  refine TR ?_
  refine Lq (Qd rfl rfl (Ze)) ?_
  refine Lm rfl ?_
  refine Ld ?_
  refine ⟨_,?_,_,⟨_,i+1,⟨by omega,by rw [filter_snoc hx,hh,hz,List.take_add_one,hx];simp⟩,rfl,(Za rfl (Za rfl (Za rfl (Za rfl (Za rfl rfl))))),rfl⟩,Sa⟩
  omega
 obtain rfl:m=i:=by omega
 rw [List.take_of_length_le (by omega)] at hh
 refine zB ?_
 refine Ts ?_
 refine TR ?_
 refine La rfl ?_
 refine Ld ?_
 refine T.ret ?_
 exact ⟨.inl rfl,_,_,res [_] rfl ⟨rvT rfl,trivial⟩,⟨⟨-1,rfl,.inl ⟨rfl,hh⟩⟩,rfl⟩,Sa⟩
theorem flat_take {L:List (Int×Int)} {k:Nat}:(L.flatMap pC).take (k*2)=(L.take k).flatMap pC:=by
  induction L generalizing k with
  | nil=>simp
  | cons x L ih =>
    cases k with
    | zero=>simp
    | succ k=>rw [List.flatMap_cons,List.take_succ_cons,List.flatMap_cons,<-ih,Nat.add_mul];simp [List.take_append]
theorem flat_lenP (L:List (Int×Int)):(L.flatMap pC).length=L.length*2:=flat_length pC 2 _ (λ _ _=>rfl)
theorem pC_at {L:List (Int×Int)} {i:Nat} {x:Int×Int} (h:L[i]? = some x):(L.flatMap pC)[i*2]? = some (iV x.1)/\(L.flatMap pC)[i*2+1]? = some (iV x.2) :=
  ⟨flat_part (g:=pC) (sz:=2) (λ _=>rfl) h 0 _ rfl,flat_part (g:=pC) (sz:=2) (λ _=>rfl) h 1 _ rfl⟩
theorem Qd.delete (B:Wn) (p:Option Addr) (m c:Nat) (L:List (Int×Int)) (hm:L.length=m) (hb:m<2^42) (hp:0<m -> ∃ g,p=some ⟨g,0,none⟩) (q:Int×Int->Bool) (fg:FuncId) (fn:Func) (hf:Tryz.prog.funcs[fg]? = some fn) (hn:(fn.name == "runtime.NumGoroutine")=false) (hbb:fn.body.isNone=false) (hq : ∀ x:Int×Int,Fn Tryz.prog B fg #[pdV x.1 x.2] [] (λ u l=>u = .bool (q x)/\l=[])) :
  Fn Tryz.prog B 103 #[.slice p m c,.func (.func fg) #[] #[]] [pdR p m c L] (λ u l=>u = .slice p (L.filter λ x => !q x).length c/\l=[pdR p (L.filter λ x => !q x).length c (L.filter λ x => !q x)]):=by
 have hix:=Qd.index B [pdR p m c L] p m c L (FlV.row (sz:=2) (λ _=>rfl) (by omega) hm hp) hm hb q fg fn hf hn hbb hq
 refine Wr 42 Tryz.func103 rfl rfl (nB rfl) (λ F=>?_)
 try simp only [cA,nA]
 refine Ts ?_
 refine TR ?_
 refine La rfl ?_
 refine Ld ?_
 refine Ts ?_
 refine TR ?_
 refine Lm rfl ?_
 refine Lm rfl ?_
 refine Le (Ec (hix) Tryz.func136 rfl rfl rfl ?_)
 rintro _ _ ⟨⟨r,rfl,hr⟩,rfl⟩
 try simp only [cA,nA]
 refine La rfl ?_
 refine Ld ?_
 refine Ts ?_
 refine Ts ?_
 refine TR ?_
 refine Lm rfl ?_
 refine Lq (yU rfl rfl) ?_
 refine Ld ?_
 refine yN rfl (λ hr1=>?_) (λ hr1=>?_)
 .
  have hall:L.filter (λ x => !q x)=L:=by
   rcases hr with h | ⟨k,h,_⟩
   . exact h.2
   . omega
  rw [hall,hm]
  refine Ts ?_
  refine TR ?_
  refine Lm rfl ?_
  refine La rfl ?_
  refine Ld ?_
  refine T.ret ?_
  exact ⟨.inl rfl,_,_,res [_] rfl ⟨rvT rfl,trivial⟩,⟨rfl,rfl⟩,Sa⟩
 obtain ⟨k,rfl,hkm,hk⟩ : ∃ k:Nat,r=k/\k<m/\(L.take (k+1)).filter (λ x => !q x)=L.take k:=by
  rcases hr with h | h
  . exact absurd h.1 hr1
  . exact h
 obtain ⟨g,rfl⟩:=hp (by omega)
 refine T.ex (λ w ho=>ho.openK) λ C=>?_
 refine T.own λ w1 ho1=>?_
 obtain ⟨hC1,hC2,hC3,hC4⟩:=ho1.pure
 refine T.conv (λ w ho=>ho.unpure) ?_
 clear ho1
 have hcell : ∀ (i:Nat) x,L[i]? = some x->C[i*2]? = some (iV x.1)/\C[i*2+1]? = some (iV x.2):=λ i x hx=>by
  have hi:i<m:=by rw [<-hm];exact (List.getElem?_eq_some_iff.1 hx).1
  have h2:=pC_at hx
  rw [<-hC2,List.getElem?_take,if_pos (by omega),List.getElem?_take,if_pos (by omega)] at h2
  exact h2
 refine Tk ?_
 refine Ts ?_
 refine Ts ?_
 refine TR ?_
 refine Lm rfl ?_
 refine Lq (Qd rfl rfl (Ze)) ?_
 refine La rfl ?_
 refine Ld ?_
 refine yH ?_
 refine zG (λ mz fz lz => ∃ (f0:Fr) (i j:Nat) (D:List Value),(i<j/\j<=m/\D.length=c*2/\i=((L.take j).filter λ x => !q x).length/\D.take (i*2)=((L.take j).filter λ x => !q x).flatMap pC /\ ∀ (i:Nat) x,j<=i->L[i]? = some x->D[i*2]? = some (iV x.1)/\D[i*2+1]? = some (iV x.2))/\mz=m-j/\fz=(upd (upd (upd (upd f0 0 (.slice (some ⟨g,0,none⟩) m c)) 1 (.func (.func fg) #[] #[])) 5 (iV i)) 6 (iV j))/\lz=blk g D 33::F) ?_ ?_
 . refine ⟨_,_,⟨_,k,k+1,C,⟨by omega,by omega,hC1,by rw [hk];simp;omega,by rw [hk,<-flat_take,<-hC2,List.take_take,Nat.min_eq_left (by omega)],λ i x _ hx=>hcell i x hx⟩,rfl,(Za rfl (Za rfl (Za rfl (Za rfl rfl)))),rfl⟩,Sa⟩
 rintro mz fz lz ⟨f0,i,j,D,⟨hij,hjm,hD1,hi,hD2,hD3⟩,hmz,rfl,rfl⟩
 subst mz
 refine Ts ?_
 refine Ts ?_
 refine TR ?_
 refine Lm rfl ?_
 refine Lm rfl ?_
 refine Lq (yI (e:=33) (sz:=2) rfl) ?_
 refine Lq (yM rfl rfl) ?_
 refine Ld ?_
 refine yN rfl (λ hlt=>?_) (λ hlt=>?_)
 .
  obtain ⟨x,hx⟩ : ∃ x,L[j]? = some x:=⟨_,List.getElem?_eq_getElem (by omega)⟩
  have hx1:=hD3 j x (Nat.le_refl _) hx
  have hsn:=filter_snoc (p:=λ x => !q x) hx
  refine Tk ?_
  refine Ts ?_
  refine yH ?_
  refine Ts ?_
  refine TR ?_
  refine Lm rfl ?_
  refine Lm rfl ?_
  refine Lq (Qi j (e:=33) (sz:=2) rfl rfl rfl) ?_
  refine Lq (QL (pC x) rfl ⟨by rw [Nat.zero_add];exact hx1.1,by rw [Nat.zero_add];exact hx1.2,trivial⟩) ?_
  refine Le (El [.int .i64 0,.int .i64 0] (by unfold Zf;kernel_rfl) ?_)
  intro g7
  refine L0 (Es [_,_] rfl rfl rfl rfl (by simp) ?_)
  try simp only [splice,lC,lN,dS,cA,tS,tZ,dZ,nA,aN]
  refine Ld ?_
  refine Ts ?_
  refine TR ?_
  refine Lm rfl ?_
  refine Lq (QL [_,_] rfl ⟨rfl,rfl,trivial⟩) ?_
  refine Le (ZE [pdV x.1 x.2] [] (hq x) hf hn hbb rfl rfl rfl ?_)
  rintro _ _ ⟨rfl,rfl⟩
  try simp only [cA,nA]
  refine Lq (Y2 rfl) ?_
  refine Ld ?_
  refine Y9 rfl (λ hz=>?_) (λ hz=>?_)
  .
   have hz':(!q x)=true:=hz
   rw [if_pos hz'] at hsn
   refine Ts ?_
   refine TR ?_
   refine Lm rfl ?_
   refine Lm rfl ?_
   refine Lq (QL [_,_] rfl ⟨rfl,rfl,trivial⟩) ?_
   refine Lq (Qi i (e:=33) (sz:=2) rfl rfl rfl) ?_
   refine L0 (Es (pC x) rfl rfl rfl rfl (by simp;omega) ?_)
   refine Ld ?_
   refine TR ?_
   refine Lm rfl ?_
   refine Lq (Qd rfl rfl (Ze)) ?_
   refine La rfl ?_
   refine Ld ?_
   refine TR ?_
   refine Lm rfl ?_
   refine Lq (Qd rfl rfl (Ze)) ?_
   refine La rfl ?_
   refine Ld ?_
   refine ⟨_,?_,_,⟨_,i+1,j+1,splice D (0+i*2) (pC x),⟨by omega,by omega,by rw [length_splice _ _ _ (by simp;omega)];exact hD1,by rw [hsn,List.length_append,<-hi];rfl,by rw [hsn,List.flatMap_append,<-hD2,show (i+1)*2=0+i*2+(pC x).length by simp;omega,spl_take (by simp;omega),Nat.zero_add];simp,λ i2 y h1 h2=>by rw [spl_after (by simp;omega) (by simp;omega),spl_after (by simp;omega) (by simp;omega)];exact hD3 i2 y (by omega) h2⟩,rfl,(Za rfl (Za rfl (Za rfl (Za rfl rfl)))),rfl⟩,Sa⟩
   omega
  have hz' : ¬ (!q x)=true:=by rw [show (!q x)=false from hz];decide
  rw [if_neg hz',List.append_nil] at hsn
  refine Tk ?_
  refine TR ?_
  refine Lm rfl ?_
  refine Lq (Qd rfl rfl (Ze)) ?_
  refine La rfl ?_
  refine Ld ?_
  refine ⟨_,?_,_,⟨_,i,j+1,D,⟨by omega,by omega,hD1,by rw [hsn];exact hi,by rw [hsn];exact hD2,λ i2 y h1 h2=>hD3 i2 y (by omega) h2⟩,rfl,(Za rfl (Za rfl (Za rfl (Za rfl rfl)))),rfl⟩,Sa⟩
  omega
 have ez:L.take j=L:=List.take_of_length_le (by omega)
 rw [ez] at hi hD2
 refine zB ?_
 refine Ts ?_
 refine TR ?_
 refine Lm rfl ?_
 refine Lm rfl ?_
 refine Lq (Qt.sliceE_snn i (some ⟨g,i*2,none⟩) (m-i) (c-i) (e:=33) (sz:=2) rfl rfl rfl (by rw [offA_some (by omega)];simp) rfl rfl) ?_
 refine L0 (Ef.clearK (e:=33) (sz:=2) (C:=D) (.agg #[iV 0,iV 0]) [iV 0,iV 0] (by kernel_rfl) (by kernel_rfl) rfl rfl rfl (by omega) (by simp;omega) ?_)
 refine Ld ?_
 refine Ts ?_
 refine TR ?_
 refine Lm rfl ?_
 refine Lm rfl ?_
 refine Lq (Y6 i (e:=33) (sz:=2) rfl rfl rfl) ?_
 refine La rfl ?_
 refine Ld ?_
 refine T.ret ?_
 exact ⟨.inl rfl,_,_,res [_] rfl ⟨rvT rfl,trivial⟩,⟨by rw [<-hi];rfl,by rw [<-hi]⟩,(λ h H=>Has.closeK (sz:=2) (m:=i) (xs:=(L.filter λ x => !q x).flatMap pC) (by rw [length_splice _ _ _ (by rw [Array.length_toList,size_zeroCells];simp;omega),hD1]) (by omega) hC4 (by rw [spl_before (Nat.le_refl _) (by omega)];exact hD2) H)⟩
end Go.Proofs.YtnnfjemaeefbiaaGreatDoor
namespace Go.Proofs.YtnnfjemaeefbiaaGreatDoor
open Go.RowKit Go.Shelf Go.Lib Go.Sort
def covP (L:List (Int×Int)) (t:Int):Prop := ∃ x∈L,x.1<=t/\t<x.2
theorem covP_snoc {L:List (Int×Int)} {x:Int×Int} (t:Int):covP (L++[x]) t↔covP L t\/(x.1<=t/\t<x.2):=by
  unfold covP
  constructor
  . rintro ⟨y,hy,h⟩
    rcases List.mem_append.1 hy with hy | hy
    . exact .inl ⟨y,hy,h⟩
    . rw [List.mem_singleton] at hy;subst hy;exact .inr h
  . rintro (⟨y,hy,h⟩ | h)
    . exact ⟨y,List.mem_append_left _ hy,h⟩
    . exact ⟨x,List.mem_append_right _ (by simp),h⟩
theorem covP_perm {L M:List (Int×Int)} (h:L.Perm M) (t:Int):covP L t↔covP M t:=by
  unfold covP
  exact ⟨λ ⟨x,hx,e⟩=>⟨x,h.mem_iff.1 hx,e⟩,λ ⟨x,hx,e⟩=>⟨x,h.mem_iff.2 hx,e⟩⟩
theorem Canon.add {O:List (Int×Int)} {p:Int->Prop} {x:Int×Int} (h:Canon O p) (hx:x.1<x.2) (ha : ∀ y∈O,y.2<x.1):Canon (O++[x]) (λ t=>p t\/(x.1<=t/\t<x.2)):=by
  refine ⟨λ y hy=>?_,?_,λ t=>?_⟩
  . rcases List.mem_append.1 hy with hy | hy
    . exact h.ok y hy
    . rw [List.mem_singleton] at hy;subst hy;exact hx
  . rw [List.pairwise_append]
    exact ⟨h.apart,List.pairwise_singleton _ _,λ y hy z hz=>by rw [List.mem_singleton] at hz;subst hz;exact ha y hy⟩
  . rw [h.mem t]
    exact (covP_snoc (L:=O) (x:=x) t).symm
theorem Canon.on {O:List (Int×Int)} {p:Int->Prop} {z x:Int×Int} (h:Canon (O++[z]) p) (h1:z.1<=x.1) (h2:x.1<=z.2):Canon (O++[(z.1,max z.2 x.2)]) (λ t=>p t\/(x.1<=t/\t<x.2)):=by
  have hz:=h.ok z (by simp)
  have hap:=List.pairwise_append.1 h.apart
  refine ⟨λ y hy=>?_,?_,λ t=>?_⟩
  . rcases List.mem_append.1 hy with hy | hy
    . exact h.ok y (List.mem_append_left _ hy)
    . rw [List.mem_singleton] at hy;subst hy;dsimp only;omega
  . rw [List.pairwise_append]
    exact ⟨hap.1,List.pairwise_singleton _ _,λ y hy w hw=>by rw [List.mem_singleton] at hw;subst hw;exact hap.2.2 y hy z (by simp)⟩
  . rw [h.mem t]
    have e1:=covP_snoc (L:=O) (x:=z) t
    have e2:=covP_snoc (L:=O) (x:=(z.1,max z.2 x.2)) t
    have e3:(∃ y∈O++[z],y.1<=t/\t<y.2)↔covP (O++[z]) t:=Iff.rfl
    rw [e3,e1]
    show _↔covP (O++[(z.1,max z.2 x.2)]) t
    rw [e2]
    dsimp only
    constructor
    . rintro ((a | a) | a)
      . exact .inl a
      . exact .inr (by omega)
      . exact .inr (by omega)
    . rintro (a | a)
      . exact .inl (.inl a)
      . by_cases q:t<z.2
        . exact .inl (.inr (by omega))
        . exact .inr (by omega)
theorem set_lastP {O:List (Int×Int)} {z:Int×Int} {b:Int} {i:Nat} (hi:i=O.length*2+1):((O++[z]).flatMap pC).set i (iV b)=(O++[(z.1,b)]).flatMap pC:=by
  subst hi
  rw [List.flatMap_append,List.flatMap_append,List.set_append_right _ _ (by rw [flat_lenP];omega),flat_lenP]
  simp
theorem le_at {M:List (Int×Int)} (h:M.Pairwise λ x y=>x.1<=y.1) {i j:Nat} (hij:i<j) {x y:Int×Int} (hx:M[i]? = some x) (hy:M[j]? = some y):x.1<=y.1:=by
  obtain ⟨h1,rfl⟩:=List.getElem?_eq_some_iff.1 hx
  obtain ⟨h2,rfl⟩:=List.getElem?_eq_some_iff.1 hy
  exact List.pairwise_iff_getElem.1 h i j h1 h2 hij
theorem Qd.sort (B:Wn) (p:Option Addr) (n c:Nat) (L:List (Int×Int)) (hn:L.length=n) (hb:n<2^60):Fn Tryz.prog B 105 #[.slice p n c,.func (.func 106) #[] #[]] [pdR p n c L] (λ u l=>u = .tuple #[] /\ ∃ M,M.Perm L/\M.Pairwise (λ x y=>x.1<=y.1)/\l=[pdR p n c M]):=by
  have key:=Fn.sortK (B:=B) Tryz.sortPd 2 (λ w=>by kernel_rfl) (λ w=>by kernel_rfl) pC (λ _=>rfl) (λ x v hv=>by simp at hv;rcases hv with rfl | rfl <;> rfl) (λ x y=>cmpI x.1 y.1) (swo_via (λ x:Int×Int=>x.1) linI.swo) 106 33 (entersQ Tryz.func106 rfl rfl) (.slice p n c) n L hn (by omega) [] (λ x y W hW=>Fn.grown (Qd.froms (baseAt W) x y)) 105 rfl
  refine key.mono ?_
  rintro u l ⟨rfl,ds',h1,h2,rfl⟩
  have hl':ds'.length=n:=by rw [h1.length_eq,hn]
  rw [<-hl'] at h2
  refine ⟨rfl,ds',h1,(sorted_pair h2).imp λ {x y} h=>?_,rfl⟩
  unfold cmpI at h
  by_cases q:y.1<x.1
  . rw [if_pos q] at h;exact absurd (by decide) h
  . omega
def UniPost (L:List (Int×Int)) (u:Value) (l:List Wp) (S:List Wp):Prop := ∃ O p c,Canon O (covP (L.filter okX))/\O.length<=L.length/\(0<O.length -> ∃ g,p=some ⟨g,0,none⟩)/\u = .slice p O.length c/\l=pdR p O.length c O::S
theorem Qd.union (B:Wn) (S:List Wp) (a:Option Addr) (m c:Nat) (L:List (Int×Int)) (h:FlV B S pC (.slice a m c) L) (hm:L.length=m) (hb:m<2^42):Fn Tryz.prog B 60 #[.slice a m c] S (λ u l=>UniPost L u l S):=by
  have hcl:=Qd.clone B S a m c L h hm hb
  refine Wq 54 Tryz.func60 rfl rfl (nB rfl) (λ F=>?_)
  refine Ts ?_
  refine TR ?_
  refine La rfl ?_
  refine Ld ?_
  refine Ts ?_
  refine TR ?_
  refine Lm rfl ?_
  refine Le (Ec (hcl) Tryz.func62 rfl rfl rfl ?_)
  rintro _ _ ⟨p1,c1,rfl,hp1,rfl⟩
  try simp only [cA,nA]
  refine Le (Ec (Qd.delete B p1 m c1 L hm hb hp1 (λ x => !okX x) 104 _ Tryz.func104 rfl rfl (Qd.bad B)) Tryz.func103 rfl rfl rfl ?_)
  rintro _ _ ⟨rfl,rfl⟩
  try simp only [cA,nA]
  refine La rfl ?_
  refine Ld ?_
  refine Ts ?_
  refine TR ?_
  refine Lm rfl ?_
  have ef:(L.filter λ x => !!okX x)=L.filter okX:=by congr 1;funext x;simp
  rw [ef]
  have hfl:(L.filter okX).length<=m:=by rw [<-hm];exact List.length_filter_le _ _
  refine Le (Ec (Qd.sort B p1 (L.filter okX).length c1 (L.filter okX) rfl (by omega)) Tryz.func105 rfl rfl rfl ?_)
  rintro _ _ ⟨rfl,M,hM,hMs,rfl⟩
  try simp only [cA,nA]
  refine Ld ?_
  refine Ts ?_
  refine TR ?_
  refine La rfl ?_
  refine Ld ?_
  refine Ts ?_
  refine Ts ?_
  refine TR ?_
  refine Lm rfl ?_
  refine Lq (yI (e:=33) (sz:=2) rfl) ?_
  refine Lm rfl ?_
  refine Ld ?_
  refine yH ?_
  have hMl:M.length=(L.filter okX).length:=hM.length_eq
  have hMo : ∀ x∈M,x.1<x.2:=λ x hx=>by
    have:=(List.mem_filter.1 (hM.mem_iff.1 hx)).2
    simp only [decide_eq_true_eq] at this
    exact this.2.1
  generalize (L.filter okX).length=k at hfl hMl ⊢
  refine T.conv (l':=pdR none 0 0 []::_) (λ w ho=>ho.row_nil 33 2) ?_
  have hp2:0<k -> ∃ g,p1=some ⟨g,0,none⟩:=λ z=>hp1 (by omega)
  refine zG (λ mz fz lz => ∃ (f0:Fr) (i:Nat) (O:List (Int×Int)) (p:Option Addr) (n0 c0:Nat),(i<=k/\Canon O (covP (M.take i))/\O.length=n0/\n0<=i/\(0<n0 -> ∃ g,p=some ⟨g,0,none⟩)/\(∀ x∈O,∀ (j:Nat) y,i<=j->M[j]? = some y->x.1<=y.1))/\mz=k-i/\fz=(upd (upd (upd (upd f0 4 (.slice p n0 c0)) 13 (.slice p1 k c1)) 14 (iV k)) 15 (iV i))/\lz=pdR p n0 c0 O::pdR p1 k c1 M::(S++F)) ?_ ?_
  . refine ⟨_,_,⟨_,0,[],none,0,0,⟨Nat.zero_le _,⟨by simp,List.Pairwise.nil,λ t=>by simp [covP]⟩,rfl,Nat.le_refl _,λ z=>absurd z (by omega),by simp⟩,rfl,(Za rfl (Za rfl (Za rfl (Za rfl rfl)))),rfl⟩,Sa⟩
  rintro mz fz lz ⟨f0,i,O,p,n0,c0,⟨hi,hO,hOn,hni,hp,hfr⟩,hmz,rfl,rfl⟩
  subst mz
  refine Ts ?_
  refine TR ?_
  refine Lq (yM rfl rfl) ?_
  refine Ld ?_
  refine Ts ?_
  refine yN rfl (λ hlt=>?_) (λ hlt=>?_)
  . skip
    obtain ⟨g1,rfl⟩:=hp2 (by omega)
    obtain ⟨x,hx⟩ : ∃ x,M[i]? = some x:=⟨_,List.getElem?_eq_getElem (by omega)⟩
    have hxo:=hMo x (List.mem_of_getElem? hx)
    have hcs:M.take (i+1)=M.take i++[x]:=by rw [List.take_add_one,hx];rfl
    have hcov : ∀ t,covP (M.take (i+1)) t↔covP (M.take i) t\/(x.1<=t/\t<x.2):=λ t=>by rw [hcs];exact covP_snoc t
    by_cases hn0:n0=0
    . skip
      obtain rfl:O=[]:=List.eq_nil_of_length_eq_zero (by omega)
      subst hn0
      refine Tk ?_
      refine Ts ?_
      refine yH ?_
      refine Ts ?_
      refine TR ?_
      refine Lq (Qi i (e:=33) (sz:=2) rfl rfl rfl) ?_
      refine Lq (QL (pC x) rfl ⟨by rw [Nat.zero_add];exact (pC_at hx).1,by rw [Nat.zero_add];exact (pC_at hx).2,trivial⟩) ?_
      refine Le (El [.int .i64 0,.int .i64 0] (by unfold Zf;kernel_rfl) ?_)
      intro g6
      refine L0 (Es [_,_] rfl rfl rfl rfl (by simp) ?_)
      try simp only [splice,lC,lN,dS,cA,tS,tZ,dZ,nA,aN]
      refine Ld ?_
      refine Ts ?_
      refine TR ?_
      refine Lm rfl ?_
      refine Lq (yI (e:=33) (sz:=2) rfl) ?_
      refine La rfl ?_
      refine Ld ?_
      refine Ts ?_
      refine zU 13 (nB rfl) ?_
      refine Rq 0 rfl (Sr _) (Qm rfl) ?_
      refine Rq 1 rfl (Sr _) (yZ rfl rfl) ?_
      refine Rq 2 rfl (Sr _) (Qm rfl) ?_
      refine ZD (t:=23) rfl rfl ?_
      refine yY 3 rfl (Sr _) ?_
      refine yY 4 rfl (Sr _) ?_
      refine yY 5 rfl (Sr _) ?_
      refine yY 6 rfl (Sr _) ?_
      refine yY 7 rfl (Sr _) ?_
      refine yY 8 rfl (Sr _) ?_
      refine yY 9 rfl (Sr _) ?_
      refine yY 10 rfl (Sr _) ?_
      refine yY 11 rfl (Sr _) ?_
      refine Rq 12 rfl (Sr _) (Qp rfl rfl) ?_
      refine Rd0 (by rfl) ?_
      simp only [dS,dZ,dN]
      refine Ld ?_
      refine yQ rfl ?_
      have hfr1 : ∀ y∈[x],∀ (j:Nat) z,i+1<=j->M[j]? = some z->y.1<=z.1:=λ y hy j z h1 h2=>by
        simp at hy;subst hy
        exact le_at hMs (by omega) hx h2
      refine TR ?_
      refine Lm rfl ?_
      refine Lq (QL [_,_] rfl ⟨rfl,rfl,trivial⟩) ?_
      refine Le (zK [_,_] (e:=33) (sz:=2) ⟨.agg #[.int .i64 0,.int .i64 0],by kernel_rfl,rfl⟩ rfl rfl rfl ?_)
      intro g50
      refine Le (Ea Qd.elem rfl rfl (SrcOf.blk (by kernel_rfl) rfl (by simp [Value.oneCell'])) (by unfold maxLen;omega) ?_)
      rintro p4 c4 hp4
      rw [show ((([]:List (Int×Int)).flatMap pC)++[iV x.1,iV x.2])=[x].flatMap pC from rfl]
      refine La rfl ?_
      refine Ld ?_
      refine TR ?_
      refine Lq (Qd rfl rfl (Ze)) ?_
      refine Lm rfl ?_
      refine Ld ?_
      refine ⟨_,?_,_,⟨_,i+1,[x],p4,0+1,c4,⟨by omega,(hO.add hxo (by simp)).iff λ t=>(hcov t).symm,rfl,by omega,hp4,hfr1⟩,rfl,(Za rfl (Za rfl (Za rfl (Za rfl rfl)))),rfl⟩,Sa⟩
      omega
    obtain ⟨g2,rfl⟩:=hp (by omega)
    obtain ⟨O0,z,rfl⟩ : ∃ O0 z,O=O0++[z]:=⟨O.dropLast,O.getLast (by intro e;subst e;exact hn0 hOn.symm),(List.dropLast_concat_getLast _).symm⟩
    have hO0:O0.length+1=n0:=by simpa using hOn
    have hz:(O0++[z])[O0.length]? = some z:=by simp
    refine Tk ?_
    refine Ts ?_
    refine yH ?_
    refine Ts ?_
    refine TR ?_
    refine Lq (Qi i (e:=33) (sz:=2) rfl rfl rfl) ?_
    refine Lq (QL (pC x) rfl ⟨by rw [Nat.zero_add];exact (pC_at hx).1,by rw [Nat.zero_add];exact (pC_at hx).2,trivial⟩) ?_
    refine Le (El [.int .i64 0,.int .i64 0] (by unfold Zf;kernel_rfl) ?_)
    intro g6
    refine L0 (Es [_,_] rfl rfl rfl rfl (by simp) ?_)
    try simp only [splice,lC,lN,dS,cA,tS,tZ,dZ,nA,aN]
    refine Ld ?_
    refine Ts ?_
    refine TR ?_
    refine Lm rfl ?_
    refine Lq (yI (e:=33) (sz:=2) rfl) ?_
    refine La rfl ?_
    refine Ld ?_
    refine Ts ?_
    refine zU 13 (nB rfl) ?_
    refine Rq 0 rfl (Sr _) (Qm rfl) ?_
    refine Rq 1 rfl (Sr _) (yZ rfl rfl) ?_
    refine Rq 2 rfl (Sr _) (Qm rfl) ?_
    refine YY (t:=23) rfl (decide_eq_true ((by omega))) ?_
    refine Rq 3 rfl (Sr _) (Q0 rfl) ?_
    refine Rq 4 rfl (Sr _) (Ql rfl rfl) ?_
    refine Rq 5 rfl (Sr _) (Qm rfl) ?_
    refine Rq 6 rfl (Sr _) (Qm rfl) ?_
    refine Rq 7 rfl (Sr _) (Qt.sub (r:=(O0.length:Int)) rfl rfl (by rw [Ze];omega)) ?_
    refine Rq 8 rfl (Sr _) (Qi O0.length (e:=33) (sz:=2) rfl rfl rfl) ?_
    refine Rq 9 rfl (Sr _) (Qf (off:=1) rfl) ?_
    refine Rq 10 rfl (Sr _) (Ql (v:=iV z.2) rfl (by rw [Nat.zero_add];exact (pC_at hz).2)) ?_
    refine Rq 11 rfl (Sr _) (YF rfl rfl) ?_
    refine Rq 12 rfl (Sr _) (Qp rfl rfl) ?_
    refine Rd0 (by rfl) ?_
    simp only [dS,dZ,dN]
    refine Ld ?_
    have hzx:z.1<=x.1:=hfr z (by simp) i x (Nat.le_refl _) hx
    refine yN rfl (λ hle=>?_) (λ hle=>?_)
    . skip
      have hfr1 : ∀ y∈O0++[(z.1,max z.2 x.2)],∀ (j:Nat) w,i+1<=j->M[j]? = some w->y.1<=w.1:=λ y hy j w h1 h2=>by
        rcases List.mem_append.1 hy with hy | hy
        . exact hfr y (by simp [hy]) j w (by omega) h2
        . simp at hy;subst hy;exact hfr z (by simp) j w (by omega) h2
      refine zU 12 (nB rfl) ?_
      refine Rq 0 rfl (Sr _) (Qm rfl) ?_
      refine Rq 1 rfl (Sr _) (Qm rfl) ?_
      refine Rq 2 rfl (Sr _) (Qt.sub (r:=(O0.length:Int)) rfl rfl (by rw [Ze];omega)) ?_
      refine Rq 3 rfl (Sr _) (Qm rfl) ?_
      refine Rq 4 rfl (Sr _) (Qm rfl) ?_
      refine Rq 5 rfl (Sr _) (Qt.sub (r:=(O0.length:Int)) rfl rfl (by rw [Ze];omega)) ?_
      refine Rq 6 rfl (Sr _) (Qi O0.length (e:=33) (sz:=2) rfl rfl rfl) ?_
      refine Rq 7 rfl (Sr _) (Qf (off:=1) rfl) ?_
      refine Rq 8 rfl (Sr _) (Ql (v:=iV z.2) rfl (by rw [Nat.zero_add];exact (pC_at hz).2)) ?_
      refine Rq 9 rfl (Sr _) (Qf (off:=1) rfl) ?_
      refine Rq 10 rfl (Sr _) (Ql rfl rfl) ?_
      refine Rq 11 rfl (Sr _) (YP rfl rfl) ?_
      refine Rd0 (by rfl) ?_
      simp only [dS,dZ,dN]
      refine Lq (Qi O0.length (e:=33) (sz:=2) rfl rfl rfl) ?_
      refine Lq (Qf (off:=1) rfl) ?_
      refine L0 (E1 rfl rfl rfl (by rw [flat_lenP];simp;omega) ?_)
      rw [set_lastP (by omega)]
      refine Ld ?_
      refine TR ?_
      refine Lq (Qd rfl rfl (Ze)) ?_
      refine Lm rfl ?_
      refine Ld ?_
      refine ⟨_,?_,_,⟨_,i+1,O0++[(z.1,max z.2 x.2)],some ⟨g2,0,none⟩,n0,c0,⟨by omega,(hO.on hzx hle).iff λ t=>(hcov t).symm,by simpa using hO0,by omega,λ _=>⟨_,rfl⟩,hfr1⟩,rfl,(Za rfl (Za rfl (Za rfl (Za rfl rfl)))),rfl⟩,Sa⟩
      omega
    have hapx : ∀ y∈O0++[z],y.2<x.1:=λ y hy=>by
      have hzl:z.2<x.1:=by omega
      rcases List.mem_append.1 hy with hy | hy
      . have q1:=(List.pairwise_append.1 hO.apart).2.2 y hy z (by simp)
        have q2:=hO.ok z (by simp)
        omega
      . simp at hy;subst hy;exact hzl
    have hfr1 : ∀ y∈O0++[z]++[x],∀ (j:Nat) w,i+1<=j->M[j]? = some w->y.1<=w.1:=λ y hy j w h1 h2=>by
      rcases List.mem_append.1 hy with hy | hy
      . exact hfr y hy j w (by omega) h2
      . simp at hy;subst hy;exact le_at hMs (by omega) hx h2
    refine TR ?_
    refine Lm rfl ?_
    refine Lq (QL [_,_] rfl ⟨rfl,rfl,trivial⟩) ?_
    refine Le (zK [_,_] (e:=33) (sz:=2) ⟨.agg #[.int .i64 0,.int .i64 0],by kernel_rfl,rfl⟩ rfl rfl rfl ?_)
    intro g50
    refine Le (Ea Qd.elem rfl rfl (SrcOf.blk (by kernel_rfl) rfl (by simp [Value.oneCell'])) (by unfold maxLen;omega) ?_)
    rintro p4 c4 hp4
    rw [show ((O0++[z]).flatMap pC++[iV x.1,iV x.2])=(O0++[z]++[x]).flatMap pC by simp]
    refine La rfl ?_
    refine Ld ?_
    refine TR ?_
    refine Lq (Qd rfl rfl (Ze)) ?_
    refine Lm rfl ?_
    refine Ld ?_
    refine ⟨_,?_,_,⟨_,i+1,O0++[z]++[x],p4,n0+1,c4,⟨by omega,(hO.add hxo hapx).iff λ t=>(hcov t).symm,by simp;omega,by omega,hp4,hfr1⟩,rfl,(Za rfl (Za rfl (Za rfl (Za rfl rfl)))),rfl⟩,Sa⟩
    omega
  have e:M.take i=M:=List.take_of_length_le (by omega)
  rw [e] at hO
  refine zB ?_
  refine Ts ?_
  refine TR ?_
  refine Lm rfl ?_
  refine La rfl ?_
  refine Ld ?_
  refine T.ret ?_
  exact ⟨.inl rfl,_,_,res [_] rfl ⟨rvT rfl,trivial⟩,⟨O,p,c0,hO.iff (covP_perm hM),by omega,by rw [hOn];exact hp,by rw [hOn];rfl,by rw [hOn]⟩,Sa⟩
end Go.Proofs.YtnnfjemaeefbiaaGreatDoor
