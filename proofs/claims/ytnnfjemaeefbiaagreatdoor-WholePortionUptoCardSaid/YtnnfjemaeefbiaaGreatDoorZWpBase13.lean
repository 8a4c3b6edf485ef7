/- The texts SfI SiA QdC QeA QeB QeC QeD, one behind the other: what the law leans on. Conditions: as each theorem says. -/
import Derived.Test.YtnnfjemaeefbiaaGreatDoorZWpBase12
import Derived.Shelf.SlLaysNS
import Derived.Test.YtnnfjemaeefbiaaGreatDoorProg
import Derived.Shelf.SortG.Plain
import Derived.Shelf.SortG.SortNone
set_option linter.unusedSimpArgs false
set_option linter.unusedVariables false
set_option maxRecDepth 100000
set_option maxHeartbeats 16000000
namespace Go.Proofs
open Go.Shelf
def Tryz.sortI_ren : Go.Shelf.Ren:=⟨fun | 53=>107 | 64=>64 | 63=>138 | 78=>117 | 79=>118 | 70=>161 | 71=>162 | 72=>163 | 73=>164 | 74=>165 | 75=>166 | 59=>167 | 76=>168 | 77=>169 | 88=>181 | 89=>140 | 90=>141 | 91=>182 | 92=>183 | 68=>101 | 96=>189 | n=>n,fun | 22=>65 | 23=>2 | 3=>3 | 51=>162 | 0=>0 | 67=>212 | 69=>193 | 4=>4 | 61=>206 | 60=>205 | 44=>143 | 5=>5 | 9=>9 | 75=>236 | 79=>240 | 83=>259 | 84=>260 | n=>n,fun | n=>n⟩
theorem Tryz.sortI : Go.Proofs.SlLaysN.n53 Tryz.prog Tryz.sortI_ren:={
  mixed:=by kernel_rfl
  f53:=⟨Tryz.f107.name,by decide,Tryz.func107.trans (congrArg some (by kernel_rfl))⟩
  f59:=⟨Tryz.f167.name,by decide,Tryz.func167.trans (congrArg some (by kernel_rfl))⟩
  f63:=⟨Tryz.f138.name,by decide,Tryz.func138.trans (congrArg some (by kernel_rfl))⟩
  f64:=Tryz.func64.trans (congrArg some (by kernel_rfl))
  f68:=⟨Tryz.f101.name,by decide,Tryz.func101.trans (congrArg some (by kernel_rfl))⟩
  f70:=⟨Tryz.f161.name,by decide,Tryz.func161.trans (congrArg some (by kernel_rfl))⟩
  f71:=⟨Tryz.f162.name,by decide,Tryz.func162.trans (congrArg some (by kernel_rfl))⟩
  f72:=⟨Tryz.f163.name,by decide,Tryz.func163.trans (congrArg some (by kernel_rfl))⟩
  f73:=⟨Tryz.f164.name,by decide,Tryz.func164.trans (congrArg some (by kernel_rfl))⟩
  f74:=⟨Tryz.f165.name,by decide,Tryz.func165.trans (congrArg some (by kernel_rfl))⟩
  f75:=⟨Tryz.f166.name,by decide,Tryz.func166.trans (congrArg some (by kernel_rfl))⟩
  f76:=⟨Tryz.f168.name,by decide,Tryz.func168.trans (congrArg some (by kernel_rfl))⟩
  f77:=⟨Tryz.f169.name,by decide,Tryz.func169.trans (congrArg some (by kernel_rfl))⟩
  f78:=Tryz.func117.trans (congrArg some (by kernel_rfl))
  f79:=Tryz.func118.trans (congrArg some (by kernel_rfl))
  f88:=⟨Tryz.f181.name,by decide,Tryz.func181.trans (congrArg some (by kernel_rfl))⟩
  f89:=Tryz.func140.trans (congrArg some (by kernel_rfl))
  f90:=Tryz.func141.trans (congrArg some (by kernel_rfl))
  f91:=⟨Tryz.f182.name,by decide,Tryz.func182.trans (congrArg some (by kernel_rfl))⟩
  f92:=⟨Tryz.f183.name,by decide,Tryz.func183.trans (congrArg some (by kernel_rfl))⟩
  f96:=⟨Tryz.f189.name,by decide,Tryz.func189.trans (congrArg some (by kernel_rfl))⟩
  t0:=Tryz.underlying0
  a0:=Tryz.isAgg0
  z0:=Tryz.sizeOf0
  v0:=Tryz.zeroValue0
  t3:=Tryz.underlying3
  a3:=Tryz.isAgg3
  z3:=Tryz.sizeOf3
  v3:=Tryz.zeroValue3
  t4:=Tryz.underlying4
  a4:=Tryz.isAgg4
  z4:=Tryz.sizeOf4
  v4:=Tryz.zeroValue4
  t5:=Tryz.underlying5
  a5:=Tryz.isAgg5
  z5:=Tryz.sizeOf5
  v5:=Tryz.zeroValue5
  t9:=Tryz.underlying9
  a9:=Tryz.isAgg9
  z9:=Tryz.sizeOf9
  v9:=Tryz.zeroValue9
  t22:=Tryz.underlying65
  a22:=Tryz.isAgg65
  z22:=Tryz.sizeOf65
  v22:=Tryz.zeroValue65
  t23:=Tryz.underlying2
  a23:=Tryz.isAgg2
  z23:=Tryz.sizeOf2
  v23:=Tryz.zeroValue2
  t44:=Tryz.underlying143
  a44:=Tryz.isAgg143
  z44:=Tryz.sizeOf143
  v44:=Tryz.zeroValue143
  t51:=Tryz.underlying162
  a51:=Tryz.isAgg162
  z51:=Tryz.sizeOf162
  v51:=Tryz.zeroValue162
  t60:=Tryz.underlying205
  a60:=Tryz.isAgg205
  z60:=Tryz.sizeOf205
  v60:=Tryz.zeroValue205
  t61:=Tryz.underlying206
  a61:=Tryz.isAgg206
  z61:=Tryz.sizeOf206
  v61:=Tryz.zeroValue206
  t67:=Tryz.underlying212
  a67:=Tryz.isAgg212
  z67:=Tryz.sizeOf212
  v67:=Tryz.zeroValue212
  t69:=Tryz.underlying193
  a69:=Tryz.isAgg193
  z69:=Tryz.sizeOf193
  v69:=Tryz.zeroValue193
  t75:=Tryz.underlying236
  a75:=Tryz.isAgg236
  z75:=Tryz.sizeOf236
  v75:=Tryz.zeroValue236
  t79:=Tryz.underlying240
  a79:=Tryz.isAgg240
  z79:=Tryz.sizeOf240
  v79:=Tryz.zeroValue240
  t83:=Tryz.underlying259
  a83:=Tryz.isAgg259
  z83:=Tryz.sizeOf259
  v83:=Tryz.zeroValue259
  t84:=Tryz.underlying260
  a84:=Tryz.isAgg260
  z84:=Tryz.sizeOf260
  v84:=Tryz.zeroValue260}
end Go.Proofs
namespace Go.Proofs.YtnnfjemaeefbiaaGreatDoor
open Go.RowKit Go.Shelf Go.Lib Go.Sort
abbrev sortZ (zs:List Int):List Int:=zs.mergeSort λ x y=>decide (x<=y)
theorem Fn.sortI {P:Program} {B:Wn} {ρ:Ren} (L:SlLaysN.n53 P ρ) (v:Value) (e:TypeId) (m:Nat) (zs:List Int) (hm:zs.length=m) (hb:m<2^61) (S:List Wp) (f:Nat) (hf:ρ.f 53=f) :
    Fn P B f #[v] (row v e 1 m (zs.map (Value.int .i64))::S) (λ u l=>u = .tuple #[]/\l=row v e 1 m ((sortZ zs).map (Value.int .i64))::S):=⟨λ w F ho=>by
  subst hf
  obtain ⟨p,cap,rfl,hp,hl⟩:=Own.row_slice ho
  rcases Nat.eq_zero_or_pos m with h0 | h0
  . subst h0
    obtain rfl:zs=[]:=List.eq_nil_of_length_eq_zero hm
    refine (AnyG.slices_Sort_int_none L p cap w).mono ?_
    rintro _ w' ⟨rfl,rfl⟩
    exact ⟨_,_,rfl,⟨rfl,by simp [sortZ]⟩,ho⟩
  . obtain ⟨g,rfl⟩:=hp h0
    have hsz:zs.toArray.size=m:=by simpa using hm
    obtain ⟨e1,e2⟩:=ho.row_owns
    rcases e2 with ⟨e2,_⟩ | ⟨g',cap',cur,e2,_,e3,e4,e5,e6,e7⟩
    . cases e2
    . injection e2 with e2 _ e8
      injection e2 with e2
      injection e2 with e2
      subst e2
      have hH:Holds (Value.int .i64) w g 0 zs.toArray:=λ j hj=>by
        have hlj:j<zs.length:=by simpa using hj
        have hc:cur[j]? = some (.int .i64 zs[j]):=by
          rw [<-Array.getElem?_toList]
          have:(cur.toList.take (m*1))[j]? = (zs.map (Value.int .i64))[j]? := by rw [e7]
          rw [List.getElem?_take,if_pos (by omega)] at this
          rw [this]
          simp [hlj]
        constructor
        . unfold World.cell?
          rw [e3]
          simp [hc,hlj,getElem!_pos]
        . unfold World.frozen?
          rw [e3]
          simp
      have hblk:g<w.heap.size:=Zk e3
      have h:=AnyG.slices_Sort_int L g 0 cap zs w hH hblk (by omega)
      rw [hm] at h
      refine h.mono ?_
      rintro _ w' ⟨rfl,k,os,rfl⟩
      have hso:=ho.sorted (k:=k) (sortZ zs).toArray (by simp [sortZ,hm]) os
      exact ⟨_,_,rfl,⟨rfl,rfl⟩,hso⟩⟩
end Go.Proofs.YtnnfjemaeefbiaaGreatDoor
namespace Go.Proofs.YtnnfjemaeefbiaaGreatDoor
open Go.RowKit Go.Shelf Go.Lib Go.Sort
abbrev RiseZ (l:List Int):Prop:=l.Pairwise (· < ·)
abbrev rZ (p:Option Addr) (m c:Nat) (l:List Int):Wp:=row (.slice p m c) 2 1 m (l.map iV)
def compZ (l:List Int):List Int:=l.foldl (λ acc x=>if acc.getLast? = some x then acc else acc++[x]) []
theorem comp_snoc (l:List Int) (x:Int):compZ (l++[x])=if (compZ l).getLast? = some x then compZ l else compZ l++[x]:=by unfold compZ;rw [List.foldl_append];rfl
theorem snoc_ind {P:List Int->Prop} (h0:P []) (h1 : ∀ l x,P l->P (l++[x])) (l:List Int):P l:=by
  have : ∀ n (l:List Int),l.length=n->P l:=λ n=>by
    induction n with
    | zero=>intro l hl;rw [List.eq_nil_of_length_eq_zero hl];exact h0
    | succ n ih =>
      intro l hl
      have hne:l≠[]:=λ e=>by rw [e] at hl;simp at hl
      rw [<-List.dropLast_concat_getLast hne]
      exact h1 _ _ (ih _ (by rw [List.length_dropLast];omega))
  exact this _ l rfl
theorem comp_last (l:List Int):(compZ l).getLast? = l.getLast? := by
  refine snoc_ind (P:=λ l=>(compZ l).getLast? = l.getLast?) rfl (λ l x ih=>?_) l
  rw [comp_snoc]
  split
  . rename_i h;rw [h];simp
  . simp
theorem comp_snoc' (l:List Int) (x:Int):compZ (l++[x])=if l.getLast? = some x then compZ l else compZ l++[x]:=by rw [comp_snoc,comp_last]
theorem comp_len (l:List Int):(compZ l).length<=l.length:=by
  refine snoc_ind (P:=λ l=>(compZ l).length<=l.length) (Nat.le_refl _) (λ l x ih=>?_) l
  rw [comp_snoc,List.length_append]
  split
  . simp;omega
  . simp;omega
theorem mem_comp (l:List Int) (y:Int):y∈compZ l↔y∈l:=by
  refine snoc_ind (P:=λ l=>y∈compZ l↔y∈l) (by simp [compZ]) (λ l x ih=>?_) l
  rw [comp_snoc]
  split
  . rename_i h
    rw [ih,List.mem_append]
    constructor
    . exact .inl
    . rintro (h2 | h2)
      . exact h2
      . have:y=x:=by simpa using h2
        subst this
        rw [comp_last] at h
        exact List.mem_of_getLast? h
  . rw [List.mem_append,List.mem_append,ih]
theorem comp_rise (l:List Int) (h:l.Pairwise (· <= ·)):RiseZ (compZ l):=by
  revert h
  refine snoc_ind (P:=λ l=>l.Pairwise (· <= ·)->RiseZ (compZ l)) (λ _=>List.Pairwise.nil) (λ l x ih h=>?_) l
  have h1:=List.pairwise_append.1 h
  rw [comp_snoc']
  split
  . exact ih h1.1
  . rename_i hl
    refine List.pairwise_append.2 ⟨ih h1.1,by simp,λ a ha b hb=>?_⟩
    obtain rfl:b=x:=by simpa using hb
    have ha':=(mem_comp l a).1 ha
    have h2:=h1.2.2 a ha' b (by simp)
    rcases Int.lt_or_eq_of_le h2 with h3 | h3
    . exact h3
    . subst h3
      exfalso
      rcases hq:l.getLast? with _ | z
      . rw [List.getLast?_eq_none_iff] at hq;subst hq;simp at ha'
      . rw [hq] at hl
        have hz:=List.mem_of_getLast? hq
        have hz2:=h1.2.2 z hz a (by simp)
        obtain ⟨l1,rfl⟩:=List.getLast?_eq_some_iff.1 hq
        have h4:=List.pairwise_append.1 h1.1
        rcases List.mem_append.1 ha' with h5 | h5
        . have:=h4.2.2 a h5 z (by simp)
          exact hl (by rw [show z=a by omega])
        . have:a=z:=by simpa using h5
          exact hl (by rw [this])
section
variable {B : Wn} {l:List Wp}
theorem Own.openRow {w:World} {g m c e:Nat} {xs:List Value} (H:Own B w (row (.slice (some ⟨g,0,none⟩) m c) e 1 m xs::l)) : ∃ C:List Value,Own B w (pu (C.length=c/\C.take m=xs/\m<=c/\c<=maxLen)::blk g C e::l):=by
  obtain ⟨h,d,hl,h1,h2,d2,a1,a2,⟨hx,e1⟩,H2⟩:=H.has
  rcases e1 with ⟨e1,_⟩ | ⟨g',cap',cur,e1,e2,c1,c2,c3,c4⟩
  . cases e1
  . injection e1 with e1 _ ec
    injection e1 with e1
    injection e1 with e1
    subst e1;subst ec
    refine ⟨cur.toList,H.os,H.tape,H.output,H.low,H.ro,h,d,hl,Has.close_pu ⟨by simpa using c3,by simpa using c4,c1,c2⟩ ⟨h1,h2,d2,a1,a2,?_,H2⟩⟩
    unfold blk
    simpa using e2
theorem Has.closeRow {h:Piece} {g m c e:Nat} {C xs:List Value} (hC:C.length=c) (hm:m<=c) (hc:c<=maxLen) (hx:C.take m=xs) (H:Has (blk g C e::l) h):Has (row (.slice (some ⟨g,0,none⟩) m c) e 1 m xs::l) h:=by
  subst hx
  refine Has.weaken (λ k hk=>?_) H
  refine ⟨by rw [List.length_take];omega,.inr ⟨g,c,C.toArray,rfl,hk,hm,hc,by simp [hC],by simp⟩⟩
end
theorem comp_short {l:List Int} (h:l.length<2):compZ l=l:=by
  rcases l with _ | ⟨x,_ | ⟨y,l⟩⟩
  . rfl
  . rfl
  . exact absurd h (by simp)
theorem take_snocZ {l:List Int} {k:Nat} (h:k<l.length):l.take (k+1)=l.take k++[l[k]]:=by rw [List.take_succ_eq_append_getElem h]
theorem last_take {l:List Int} {k:Nat} (h:k<l.length):(l.take (k+1)).getLast? = some l[k]:=by rw [take_snocZ h,List.getLast?_append];rfl
theorem comp_same {l:List Int} {k:Nat} (h:k+1<l.length) (he:l[k+1]=l[k]):compZ (l.take (k+1+1))=compZ (l.take (k+1)):=by
  rw [take_snocZ h,comp_snoc',last_take (by omega),he,if_pos rfl]
theorem comp_new {l:List Int} {k:Nat} (h:k+1<l.length) (he:l[k+1]≠l[k]):compZ (l.take (k+1+1))=compZ (l.take (k+1))++[l[k+1]]:=by
  rw [take_snocZ h,comp_snoc',last_take (by omega),if_neg (λ e=>he (Option.some.inj e).symm)]
theorem set_take {C:List Value} {j:Nat} {v:Value} {xs:List Value} (hj:j<C.length) (h:C.take j=xs):(C.set j v).take (j+1)=xs++[v]:=by
  rw [List.take_succ_eq_append_getElem (by simpa using hj),List.take_set_of_le (Nat.le_refl _),h]
  simp
theorem splice_headZ {C X:List Value} {n:Nat} (h:n<=C.length):(splice C n X).take n=C.take n:=by
  unfold splice
  rw [List.take_append_of_le_length (by simp;omega),List.take_take,Nat.min_self]
theorem cell_of_take {C:List Value} {zs:List Int} {m:Nat} (h:C.take m=zs.map iV) (hm:zs.length=m) (j:Nat) (hj:j<zs.length):C[j]? = some (iV zs[j]):=by
  have e:(C.take m)[j]? = (zs.map iV)[j]? := by rw [h]
  rw [List.getElem?_take,if_pos (by omega)] at e
  rw [e];simp [hj]
theorem Sl.compact (B:Wn) (p:Option Addr) (m c:Nat) (zs:List Int) (hm:zs.length=m) (hs:m<2^40):Fn Tryz.prog B 108 #[.slice p m c] [rZ p m c zs] (λ v l=>v = .slice p (compZ zs).length c/\l=[rZ p (compZ zs).length c (compZ zs)]):=by
 refine Wq 61 Tryz.func108 rfl rfl (nB rfl) (λ F=>?_)
 try simp only [cA,nA]
 refine Ts ?_
 refine TR ?_
 refine La rfl ?_
 refine Ld ?_
 refine Ts ?_
 refine Ts ?_
 refine TR ?_
 refine Lm rfl ?_
 refine Lq (yI (e:=2) (sz:=1) rfl) ?_
 refine Lq (yM rfl rfl) ?_
 refine Ld ?_
 refine yN rfl (λ hlt=>?_) (λ hlt=>?_)
 .
  have e:=comp_short (l:=zs) (by omega)
  refine Ts ?_
  refine TR ?_
  refine Lm rfl ?_
  refine La rfl ?_
  refine Ld ?_
  refine T.ret ?_
  exact ⟨.inl rfl,_,_,res [_] rfl ⟨rvT rfl,trivial⟩,⟨by rw [e,hm];rfl,by rw [e,hm]⟩,Sa⟩
 refine T.own λ w0 ho0=>?_
 obtain ⟨g,rfl⟩:=(ho0.slice_at (p:=p) (m:=m) (c:=c) (k:=m)).2.1 (by omega)
 clear ho0
 refine T.ex (λ w ho=>ho.openRow) λ C=>?_
 refine T.own λ w1 ho1=>?_
 obtain ⟨hC1,hC2,hC3,hC4⟩:=ho1.has.elim λ h H=>(Has.open_pu H.2.2).1
 refine T.conv (λ w ho=>ho.tl) ?_
 clear ho1
 have hcell:=cell_of_take hC2 hm
 refine Tk ?_
 refine Ts ?_
 refine Ts ?_
 refine TR ?_
 refine La rfl ?_
 refine Ld ?_
 refine yH ?_
 refine zG (λ mz fz lz => ∃ (f0:Fr) (k:Nat),(1<=k/\k<=m/\compZ (zs.take k)=zs.take k)/\mz=m-k/\fz=(upd (upd f0 0 (.slice (some ⟨g,0,none⟩) m c)) 3 (.int .i64 k))/\lz=blk g C 2::F) ?_ ?_
 . refine ⟨_,_,⟨_,1,⟨Nat.le_refl _,by omega,comp_short (by simp;omega)⟩,rfl,(Za rfl (Za rfl rfl)),rfl⟩,Sa⟩
 rintro mz fz lz ⟨f0,k,⟨hk1,hk2,hk3⟩,hmz,rfl,rfl⟩
 subst mz
 refine Ts ?_
 refine Ts ?_
 refine TR ?_
 refine Lm rfl ?_
 refine Lm rfl ?_
 refine Lq (yI (e:=2) (sz:=1) rfl) ?_
 refine Lq (yM rfl rfl) ?_
 refine Ld ?_
 refine yN rfl (λ hkm=>?_) (λ hkm=>?_)
 .
  obtain ⟨k,rfl⟩ : ∃ k',k=k'+1:=⟨k-1,by omega⟩
  have hkl:k+1<zs.length:=by omega
  refine Tk ?_
  refine Ts ?_
  refine yH ?_
  refine Ts ?_
  refine zU 10 (nB rfl) ?_
  refine Rq 0 rfl (Sr _) (Qm rfl) ?_
  refine Rq 1 rfl (Sr _) (Qm rfl) ?_
  refine Rq 2 rfl (Sr _) (Qi (k+1) (e:=2) (sz:=1) rfl rfl rfl) ?_
  refine Rq 3 rfl (Sr _) (Ql (v:=iV zs[k+1]) rfl (by rw [Nat.mul_one,Nat.zero_add];exact hcell _ hkl)) ?_
  refine Rq 4 rfl (Sr _) (Qm rfl) ?_
  refine Rq 5 rfl (Sr _) (Qm rfl) ?_
  refine Rq 6 rfl (Sr _) (Qt.sub (r:=(k:Int)) rfl rfl (by rw [Ze];omega)) ?_
  refine Rq 7 rfl (Sr _) (Qi k (e:=2) (sz:=1) rfl rfl rfl) ?_
  refine Rq 8 rfl (Sr _) (Ql (v:=iV zs[k]) rfl (by rw [Nat.mul_one,Nat.zero_add];exact hcell _ (by omega))) ?_
  refine Rq 9 rfl (Sr _) (yU rfl rfl) ?_
  refine Rd0 (by rfl) ?_
  simp only [dS,dZ,dN]
  refine Ld ?_
  refine yN rfl (λ heq=>?_) (λ heq=>?_)
  .
   have heq':zs[k+1]=zs[k]:=by simpa using heq
   refine Ts ?_
   refine TR ?_
   refine Lm rfl ?_
   refine Lm rfl ?_
   refine Lq (Qt.sliceE_snn (k+1) (some ⟨g,k+1,none⟩) (m-(k+1)) (c-(k+1)) (e:=2) (sz:=1) rfl rfl rfl (offA_one (by omega)) rfl rfl) ?_
   refine La rfl ?_
   refine Ld ?_
   refine Ts ?_
   refine Ts ?_
   refine TR ?_
   refine La rfl ?_
   refine Ld ?_
   refine yH ?_
   refine zG (λ mz fz lz => ∃ (f0:Fr) (j n:Nat) (D:List Value),(1<=j/\n<=k+j/\k+1+j<=m/\D.length=c/\n=(compZ (zs.take (k+1+j))).length/\D.take n=(compZ (zs.take (k+1+j))).map iV /\ ∀ i,k+j<=i->D[i]? = C[i]?)/\mz=m-j/\fz=(upd (upd (upd (upd f0 0 (.slice (some ⟨g,0,none⟩) m c)) 3 (.int .i64 n)) 4 (.slice (some ⟨g,k+1,none⟩) (m-(k+1)) (c-(k+1)))) 5 (.int .i64 j))/\lz=blk g D 2::F) ?_ ?_
   . refine ⟨_,_,⟨_,1,k+1,C,⟨Nat.le_refl _,by omega,by omega,hC1,by rw [comp_same hkl heq',hk3];simp;omega,by rw [comp_same hkl heq',hk3,List.map_take,<-hC2,List.take_take,Nat.min_eq_left (by omega)],λ _ _=>rfl⟩,rfl,(Za rfl (Za rfl (Za rfl (Za rfl rfl)))),rfl⟩,Sa⟩
   rintro mz fz lz ⟨f0,j,n,D,⟨hj1,hj2,hj3,hD1,hn,hD2,hD3⟩,hmz,rfl,rfl⟩
   subst mz
   refine Ts ?_
   refine Ts ?_
   refine TR ?_
   refine Lm rfl ?_
   refine Lm rfl ?_
   refine Lq (yI (e:=2) (sz:=1) rfl) ?_
   refine Lq (yM rfl rfl) ?_
   refine Ld ?_
   refine yN rfl (λ hjm=>?_) (λ hjm=>?_)
   .
    have hjl:k+j+1<zs.length:=by omega
    obtain ⟨j,rfl⟩ : ∃ j',j=j'+1:=⟨j-1,by omega⟩
    refine Tk ?_
    refine Ts ?_
    refine yH ?_
    refine Ts ?_
    refine zU 10 (nB rfl) ?_
    refine Rq 0 rfl (Sr _) (Qm rfl) ?_
    refine Rq 1 rfl (Sr _) (Qm rfl) ?_
    refine Rq 2 rfl (Sr _) (Qi (j+1) (e:=2) (sz:=1) rfl rfl rfl) ?_
    refine Rq 3 rfl (Sr _) (Ql (v:=iV zs[k+(j+1)+1]) rfl (by rw [Nat.mul_one,show k+1+(j+1)=k+(j+1)+1 by omega,hD3 _ (by omega)];exact hcell _ hjl)) ?_
    refine Rq 4 rfl (Sr _) (Qm rfl) ?_
    refine Rq 5 rfl (Sr _) (Qm rfl) ?_
    refine Rq 6 rfl (Sr _) (Qt.sub (r:=(j:Int)) rfl rfl (by rw [Ze];omega)) ?_
    refine Rq 7 rfl (Sr _) (Qi j (e:=2) (sz:=1) rfl rfl rfl) ?_
    refine Rq 8 rfl (Sr _) (Ql (v:=iV (zs[k+(j+1)]'(by omega))) rfl (by rw [Nat.mul_one,show k+1+j=k+(j+1) by omega,hD3 _ (by omega)];exact hcell _ (by omega))) ?_
    refine Rq 9 rfl (Sr _) (yW rfl rfl) ?_
    refine Rd0 (by rfl) ?_
    simp only [dS,dZ,dN]
    refine Ld ?_
    refine yN rfl (λ hne=>?_) (λ hne=>?_)
    .
     have hne':zs[k+(j+1)+1]≠zs[k+(j+1)]'(by omega):=by simpa using hne
     have hcn:=comp_new hjl hne'
     rw [show k+1+(j+1)=k+(j+1)+1 by omega] at hn hD2
     refine Ts ?_
     refine TR ?_
     refine Lm rfl ?_
     refine Lm rfl ?_
     refine Lm rfl ?_
     refine Lm rfl ?_
     refine Lq (Qi (j+1) (e:=2) (sz:=1) rfl rfl rfl) ?_
     refine Lq (Ql (v:=iV zs[k+(j+1)+1]) rfl (by rw [Nat.mul_one,show k+1+(j+1)=k+(j+1)+1 by omega,hD3 _ (by omega)];exact hcell _ hjl)) ?_
     refine Lq (Qi n (e:=2) (sz:=1) rfl rfl rfl) ?_
     refine L0 (E1 rfl rfl rfl (by omega) ?_)
     refine Ld ?_
     refine TR ?_
     refine Lm rfl ?_
     refine Lq (Qd rfl rfl (Ze)) ?_
     refine La rfl ?_
     refine Ld ?_
     refine TR ?_
     refine Lm rfl ?_
     refine Lq (Qd rfl rfl (Ze)) ?_
     refine La rfl ?_
     refine Ld ?_
     refine ⟨_,?_,_,⟨_,j+1+1,n+1,D.set (0+n*1) (iV zs[k+(j+1)+1]),⟨by omega,by omega,by omega,by rw [List.length_set];exact hD1,by rw [show k+1+(j+1+1)=k+(j+1)+1+1 by omega,hcn,List.length_append,<-hn];rfl,by rw [show k+1+(j+1+1)=k+(j+1)+1+1 by omega,hcn,List.map_append,show 0+n*1=n by omega];exact set_take (by omega) hD2,λ i hi=>by rw [List.getElem?_set_ne (by omega)];exact hD3 i (by omega)⟩,rfl,(Za rfl (Za rfl (Za rfl (Za rfl rfl)))),rfl⟩,Sa⟩
     omega
    have heq2:zs[k+(j+1)+1]=zs[k+(j+1)]'(by omega):=by simpa using hne
    have hcs:=comp_same hjl heq2
    refine Tk ?_
    refine TR ?_
    refine Lm rfl ?_
    refine Lq (Qd rfl rfl (Ze)) ?_
    refine La rfl ?_
    refine Ld ?_
    refine ⟨_,?_,_,⟨_,j+1+1,n,D,⟨by omega,by omega,by omega,hD1,by rw [show k+1+(j+1+1)=k+(j+1)+1+1 by omega,hcs,show k+(j+1)+1=k+1+(j+1) by omega];exact hn,by rw [show k+1+(j+1+1)=k+(j+1)+1+1 by omega,hcs,show k+(j+1)+1=k+1+(j+1) by omega];exact hD2,λ i hi=>hD3 i (by omega)⟩,rfl,(Za rfl (Za rfl (Za rfl (Za rfl rfl)))),rfl⟩,Sa⟩
    omega
   have ez:zs.take (k+1+j)=zs:=List.take_of_length_le (by omega)
   rw [ez] at hn hD2
   refine zB ?_
   refine Ts ?_
   refine TR ?_
   refine Lm rfl ?_
   refine Lm rfl ?_
   refine Lq (Qt.sliceE_snn n (some ⟨g,n,none⟩) (m-n) (c-n) (e:=2) (sz:=1) rfl rfl rfl (offA_one (by omega)) rfl rfl) ?_
   refine L0 (Ef.clear (e:=2) (C:=D) (.int .i64 0) (by kernel_rfl) (by kernel_rfl) rfl rfl rfl (by omega) (by omega) ?_)
   refine Ld ?_
   refine Ts ?_
   refine TR ?_
   refine Lm rfl ?_
   refine Lm rfl ?_
   refine Lq (Y6 n (e:=2) (sz:=1) rfl rfl rfl) ?_
   refine La rfl ?_
   refine Ld ?_
   refine T.ret ?_
   exact ⟨.inl rfl,_,_,res [_] rfl ⟨rvT rfl,trivial⟩,⟨by rw [<-hn];rfl,by rw [<-hn]⟩,(λ h H=>Has.closeRow (m:=n) (xs:=(compZ zs).map iV) (by rw [length_splice _ _ _ (by simp;omega),hD1]) (by omega) hC4 (by rw [splice_headZ (by omega)];exact hD2) H)⟩
  have hne':zs[k+1]≠zs[k]:=by simpa using heq
  refine Tk ?_
  refine TR ?_
  refine Lm rfl ?_
  refine Lq (Qd rfl rfl (Ze)) ?_
  refine La rfl ?_
  refine Ld ?_
  refine ⟨_,?_,_,⟨_,k+1+1,⟨by omega,by omega,by rw [comp_new hkl hne',hk3,<-take_snocZ hkl]⟩,rfl,(Za rfl (Za rfl rfl)),rfl⟩,Sa⟩
  omega
 obtain rfl:k=m:=by omega
 have ez:zs.take k=zs:=List.take_of_length_le (by omega)
 rw [ez] at hk3
 refine zB ?_
 refine Ts ?_
 refine TR ?_
 refine Lm rfl ?_
 refine La rfl ?_
 refine Ld ?_
 refine T.ret ?_
 exact ⟨.inl rfl,_,_,res [_] rfl ⟨rvT rfl,trivial⟩,⟨by rw [hk3,hm];rfl,by rw [hk3,hm]⟩,(λ h H=>Has.closeRow hC1 hC3 hC4 hC2 H)⟩
theorem sortZ_perm' (l:List Int):(sortZ l).Perm l:=List.mergeSort_perm l _
theorem sortZ_le (l:List Int):(sortZ l).Pairwise (· <= ·):=by
  have h1:(sortZ l).Pairwise (λ a b=>decide (a<=b)=true):=List.pairwise_mergeSort (by intro a b c h1 h2;simp at h1 h2 ⊢;omega) (by intro a b;simp;omega) l
  exact h1.imp λ h=>by simpa using h
def endsP (L:List (Int×Int)):List Int:=(L.filter okX).flatMap λ x=>[x.1,x.2]
def edgZ (L:List (Int×Int)):List Int:=compZ (sortZ (endsP L))
theorem edgZ_rise (L:List (Int×Int)):RiseZ (edgZ L):=comp_rise _ (sortZ_le _)
theorem mem_edgZ {L:List (Int×Int)} {t:Int}:t∈edgZ L ↔ ∃ x∈L,okX x=true/\(t=x.1\/t=x.2):=by
  unfold edgZ endsP
  rw [mem_comp,(sortZ_perm' _).mem_iff,List.mem_flatMap]
  constructor
  . rintro ⟨x,hx,h⟩
    have:=List.mem_filter.1 hx
    exact ⟨x,this.1,this.2,by simpa using h⟩
  . rintro ⟨x,hx,h1,h2⟩
    exact ⟨x,List.mem_filter.2 ⟨hx,h1⟩,by simpa using h2⟩
theorem endsP_len (L:List (Int×Int)):(endsP L).length<=2*L.length:=by
  unfold endsP
  rw [flat_length _ 2 _ (λ _ _=>rfl)]
  have:=List.length_filter_le okX L
  omega
theorem edgZ_len (L:List (Int×Int)):(edgZ L).length<=2*L.length:=by
  have h1:=comp_len (sortZ (endsP L))
  have h2:=(sortZ_perm' (endsP L)).length_eq
  have h3:=endsP_len L
  unfold edgZ
  omega
theorem endsP_snoc {L:List (Int×Int)} {i:Nat} {x:Int×Int} (h:L[i]? = some x):endsP (L.take (i+1))=endsP (L.take i)++(if okX x=true then [x.1,x.2] else []):=by
  unfold endsP
  rw [filter_snoc h,List.flatMap_append]
  split
  . simp
  . simp
theorem Qd.elemI : ElemOk Tryz.prog 65 2 1 8 := .mk' (iV 0) Tryz.underlying65 (by kernel_rfl) rfl (by omega)
theorem Qd.edges (B:Wn) (S:List Wp) (a:Option Addr) (m c:Nat) (L:List (Int×Int)) (h:FlV B S pC (.slice a m c) L) (hm:L.length=m) (hb:m<2^38):Fn Tryz.prog B 61 #[.slice a m c] S (λ u l => ∃ p c',u = .slice p (edgZ L).length c'/\(0<(edgZ L).length -> ∃ g,p=some ⟨g,0,none⟩)/\l=rZ p (edgZ L).length c' (edgZ L)::S):=by
 refine Wq 27 Tryz.func61 rfl rfl (nB rfl) (λ F=>?_)
 refine Ts ?_
 refine TR ?_
 refine La rfl ?_
 refine Ld ?_
 refine Ts ?_
 refine TR ?_
 refine La rfl ?_
 refine Ld ?_
 refine Ts ?_
 refine Ts ?_
 refine TR ?_
 refine Lm rfl ?_
 refine Lq (yI (e:=33) (sz:=2) rfl) ?_
 refine Lm rfl ?_
 refine Ld ?_
 refine yH ?_
 refine T.conv (l':=rZ none 0 0 []::_) (λ w ho=>ho.row_nil 2 1) ?_
 refine zG (λ mz fz lz => ∃ (f0:Fr) (i:Nat) (Z:List Int) (p:Option Addr) (n0 c0:Nat),(i<=m/\Z=endsP (L.take i)/\Z.length=n0/\n0<=2*i/\(0<n0 -> ∃ g,p=some ⟨g,0,none⟩))/\mz=m-i/\fz=(upd (upd (upd (upd f0 3 (.slice p n0 c0)) 6 (.slice a m c)) 7 (iV m)) 8 (iV i))/\lz=rZ p n0 c0 Z::(S++F)) ?_ ?_
 . refine ⟨_,_,⟨_,0,[],none,0,0,⟨Nat.zero_le _,rfl,rfl,Nat.le_refl _,λ z=>absurd z (by omega)⟩,rfl,(Za rfl (Za rfl (Za rfl (Za rfl rfl)))),rfl⟩,Sa⟩
 rintro mz fz lz ⟨f0,i,Z,p,n0,c0,⟨hi,hZ,hn,hni,hp⟩,hmz,rfl,rfl⟩
 subst mz
 refine Ts ?_
 refine TR ?_
 refine Lq (yM rfl rfl) ?_
 refine Ld ?_
 refine Ts ?_
 refine yN rfl (λ hlt=>?_) (λ hlt=>?_)
 .
  obtain ⟨b,o,rfl,hr⟩:=h.at (sz:=2) (λ _=>rfl) (by omega)
  obtain ⟨x,hx⟩ : ∃ x,L[i]? = some x:=⟨_,List.getElem?_eq_getElem (by omega)⟩
  have hx1:=hr i x hx
  refine Tk ?_
  refine Ts ?_
  refine yH ?_
  refine Ts ?_
  refine TR ?_
  refine Lq (Qi _ (e:=33) (sz:=2) rfl rfl rfl) ?_
  refine Lq (Qt.loadAggW (pC x) rfl (λ w ho=>hx1 w (ho.map Sa))) ?_
  refine Le (El [.int .i64 0,.int .i64 0] (by unfold Zf;kernel_rfl) ?_)
  intro g5
  refine L0 (Es [_,_] rfl rfl rfl rfl (by simp) ?_)
  try simp only [splice,lC,lN,dS,cA,tS,tZ,dZ,nA,aN]
  refine Ld ?_
  refine Ts ?_
  refine TR ?_
  refine Lq (QL [_,_] rfl ⟨rfl,rfl,trivial⟩) ?_
  refine Le (Ec (Qd.check B x) Tryz.func55 rfl rfl rfl ?_)
  rintro _ _ ⟨rfl,rfl⟩
  try simp only [cA,nA]
  refine Lq (yU rfl rfl) ?_
  refine Ld ?_
  refine yN rfl (λ hz=>?_) (λ hz=>?_)
  .
   have hok:=(codeX_ok x).1 hz
   refine TR ?_
   refine Lm rfl ?_
   refine Lq (Q0 rfl) ?_
   refine Lq (Ql rfl rfl) ?_
   refine Lq (Qf (off:=1) rfl) ?_
   refine Lq (Ql rfl rfl) ?_
   refine Le (ZC [_,_] (e:=2) rfl (by simp [Value.cells]) rfl ?_)
   intro g20
   refine Le (Ea Qd.elemI rfl rfl (SrcOf.blk (by kernel_rfl) rfl (by simp [Value.oneCell'])) (by unfold maxLen;omega) ?_)
   rintro p4 c4 hp4
   rw [show Z.map iV++[iV x.1,iV x.2]=(Z++[x.1,x.2]).map iV by simp]
   refine La rfl ?_
   refine Ld ?_
   refine TR ?_
   refine Lq (Qd rfl rfl (Ze)) ?_
   refine Lm rfl ?_
   refine Ld ?_
   refine ⟨_,?_,_,⟨_,i+1,Z++[x.1,x.2],p4,n0+2,c4,⟨by omega,by rw [endsP_snoc hx,if_pos hok,hZ],by simp [hn],by omega,hp4⟩,rfl,(Za rfl (Za rfl (Za rfl (Za rfl rfl)))),rfl⟩,Sa⟩
   omega
  have hok:=mt (codeX_ok x).2 hz
  refine Tk ?_
  refine TR ?_
  refine Lq (Qd rfl rfl (Ze)) ?_
  refine Lm rfl ?_
  refine Ld ?_
  refine ⟨_,?_,_,⟨_,i+1,Z,p,n0,c0,⟨by omega,by rw [endsP_snoc hx,if_neg hok,hZ,List.append_nil],hn,by omega,hp⟩,rfl,(Za rfl (Za rfl (Za rfl (Za rfl rfl)))),rfl⟩,Sa⟩
  omega
 have ez:L.take i=L:=List.take_of_length_le (by omega)
 rw [ez] at hZ
 subst hZ
 refine zB ?_
 refine Ts ?_
 refine TR ?_
 refine Lm rfl ?_
 refine Le (Ec (Fn.sortI Tryz.sortI (.slice p n0 c0) 2 n0 (endsP L) hn (by omega) [] 107 rfl) Tryz.func107 rfl rfl rfl ?_)
 rintro _ _ ⟨rfl,rfl⟩
 try simp only [cA,nA]
 refine Ld ?_
 refine Ts ?_
 refine TR ?_
 refine Lm rfl ?_
 refine Le (Ec (Sl.compact B p n0 c0 (sortZ (endsP L)) (by rw [(sortZ_perm' _).length_eq,hn]) (by omega)) Tryz.func108 rfl rfl rfl ?_)
 rintro _ _ ⟨rfl,rfl⟩
 try simp only [cA,nA]
 refine La rfl ?_
 refine Ld ?_
 rw [show compZ (sortZ (endsP L))=edgZ L from rfl]
 refine T.ret ?_
 exact ⟨.inl rfl,_,_,res [_] rfl ⟨rvT rfl,trivial⟩,⟨p,c0,rfl,λ z=>hp (by have:=comp_len (sortZ (endsP L));have:=(sortZ_perm' (endsP L)).length_eq;unfold edgZ at z;omega),rfl⟩,Sa⟩
open Go.RowKit
def cntP (L:List (Int×Int)) (t:Int):Int:=((L.filter λ x=>hasX x t).length:Int)
theorem cntP_nil (t:Int):cntP [] t=0:=rfl
theorem cntP_cons (x:Int×Int) (L:List (Int×Int)) (t:Int):cntP (x::L) t=(if x.1<=t/\t<x.2 then 1 else 0)+cntP L t:=by
  unfold cntP
  rw [List.filter_cons]
  by_cases h:x.1<=t/\t<x.2
  . rw [if_pos h,if_pos (by simpa using h),List.length_cons];omega
  . rw [if_neg h,if_neg (by simpa using h)];omega
theorem cntP_nn (L:List (Int×Int)) (t:Int):0<=cntP L t:=by unfold cntP;omega
theorem cntP_le (L:List (Int×Int)) (t:Int):cntP L t<=L.length:=by
  unfold cntP
  have:=List.length_filter_le (λ x:Int×Int=>hasX x t) L
  omega
theorem cntP_snoc {L:List (Int×Int)} {i:Nat} {x:Int×Int} {t:Int} (h:L[i]? = some x):cntP (L.take (i+1)) t=cntP (L.take i) t+(if hasX x t=true then 1 else 0):=by
  unfold cntP
  rw [filter_snoc h,List.length_append]
  split <;> simp
theorem cntP_pos {L:List (Int×Int)} {t:Int} (h:0<cntP L t) : ∃ x∈L,x.1<=t/\t<x.2:=by
  unfold cntP at h
  obtain ⟨x,hx⟩:=List.exists_mem_of_length_pos (by omega:0<(L.filter λ x=>hasX x t).length)
  have:=List.mem_filter.1 hx
  exact ⟨x,this.1,by simpa using this.2⟩
theorem cntP_same {L:List (Int×Int)} {s t:Int} (h : ∀ x∈L,(x.1<=s/\s<x.2)↔(x.1<=t/\t<x.2)):cntP L s=cntP L t:=by
  unfold cntP
  congr 2
  apply List.filter_congr
  intro x hx
  have:=h x hx
  show decide (x.1<=s/\s<x.2)=decide (x.1<=t/\t<x.2)
  by_cases q:x.1<=s/\s<x.2
  . rw [decide_eq_true q,decide_eq_true (this.1 q)]
  . rw [decide_eq_false q,decide_eq_false (λ z=>q (this.2 z))]
theorem rise_next {E:List Int} (h:RiseZ E) {i:Nat} {u v t:Int} (hu:E[i]? = some u) (hv:E[i+1]? = some v) (ht:t∈E):t<=u\/v<=t:=by
  obtain ⟨j,hj⟩:=List.getElem?_of_mem ht
  obtain ⟨a1,rfl⟩:=List.getElem?_eq_some_iff.1 hu
  obtain ⟨a2,rfl⟩:=List.getElem?_eq_some_iff.1 hv
  obtain ⟨a3,rfl⟩:=List.getElem?_eq_some_iff.1 hj
  have h:=List.pairwise_iff_getElem.1 h
  rcases Nat.lt_trichotomy j i with q | q | q
  . have:=h j i a3 a1 q;omega
  . subst q;omega
  . rcases Nat.lt_trichotomy j (i+1) with q2 | q2 | q2
    . omega
    . subst q2;omega
    . have:=h (i+1) j a2 a3 q2;omega
theorem rise_find : ∀ {E:List Int},RiseZ E -> ∀ {a b t:Int},a∈E->b∈E->a<=t->t<b -> ∃ i u v,E[i]? = some u/\E[i+1]? = some v/\u<=t/\t<v
  | [],_,a,b,t,ha,_,_,_=>by cases ha
  | [e],_,a,b,t,ha,hb,h1,h2=>by
    simp at ha hb;omega
  | e::f::E,h,a,b,t,ha,hb,h1,h2=>by
    by_cases q:f<=t
    . have hb':b∈f::E:=by
        rcases List.mem_cons.1 hb with rfl | hb
        . have:=List.rel_of_pairwise_cons h (by simp:f∈f::E);omega
        . exact hb
      obtain ⟨i,u,v,e1,e2,e3,e4⟩:=rise_find h.of_cons (a:=f) (b:=b) (t:=t) (by simp) hb' q h2
      exact ⟨i+1,u,v,by simpa using e1,by simpa using e2,e3,e4⟩
    . refine ⟨0,e,f,rfl,rfl,?_,by omega⟩
      rcases List.mem_cons.1 ha with rfl | ha
      . exact h1
      . exfalso
        rcases List.mem_cons.1 ha with rfl | ha
        . omega
        . have:=List.rel_of_pairwise_cons h.of_cons ha;omega
structure Stp where
  fr:Int
  to:Int
  n:Int
abbrev spC (x:Stp):List Value:=[iV x.fr,iV x.to,iV x.n]
def cD (plus minus:List (Int×Int)) (t:Int):Int:=cntP plus t-cntP minus t
def stepsZ (plus minus:List (Int×Int)):List Stp:=(List.range ((edgZ (plus++minus)).length-1)).map λ i=>⟨(edgZ (plus++minus)).getD i 0,(edgZ (plus++minus)).getD (i+1) 0,cD plus minus ((edgZ (plus++minus)).getD i 0)⟩
theorem stepsZ_len (plus minus:List (Int×Int)):(stepsZ plus minus).length=(edgZ (plus++minus)).length-1:=by simp [stepsZ]
theorem stepsZ_at {plus minus:List (Int×Int)} {i:Nat} {u v:Int} (hu:(edgZ (plus++minus))[i]? = some u) (hv:(edgZ (plus++minus))[i+1]? = some v):(stepsZ plus minus)[i]? = some ⟨u,v,cD plus minus u⟩:=by
  have h2:=(List.getElem?_eq_some_iff.1 hv).1
  unfold stepsZ
  rw [List.getElem?_map,List.getElem?_range (by omega)]
  simp [List.getD,hu,hv]
section
variable {plus minus:List (Int×Int)}
theorem cD_same (hp : ∀ x∈plus,okX x=true) (hm : ∀ x∈minus,okX x=true) {i:Nat} {u v t:Int} (hu:(edgZ (plus++minus))[i]? = some u) (hv:(edgZ (plus++minus))[i+1]? = some v) (h1:u<=t) (h2:t<v):cD plus minus u=cD plus minus t:=by
  have key : ∀ x∈plus++minus,okX x=true->((x.1<=u/\u<x.2)↔(x.1<=t/\t<x.2)):=λ x hx ho=>by
    have e1:=rise_next (edgZ_rise _) hu hv (mem_edgZ.2 ⟨x,hx,ho,.inl rfl⟩)
    have e2:=rise_next (edgZ_rise _) hu hv (mem_edgZ.2 ⟨x,hx,ho,.inr rfl⟩)
    omega
  unfold cD
  rw [cntP_same (s:=u) (t:=t) (λ x hx=>key x (List.mem_append_left _ hx) (hp x hx)),cntP_same (L:=minus) (s:=u) (t:=t) (λ x hx=>key x (List.mem_append_right _ hx) (hm x hx))]
theorem edg_ok {L:List (Int×Int)} {t:Int} (h:t∈edgZ L):0<=t/\t<=1099511627776:=by
  obtain ⟨x,_,ho,e⟩:=mem_edgZ.1 h
  simp only [decide_eq_true_eq] at ho
  obtain ⟨a,b,c⟩:=ho
  omega
def hereZ (Z:List Stp) (k:Int):List (Int×Int):=(Z.filter λ s=>decide (k<=s.n)).map λ s=>(s.fr,s.to)
theorem here_ok (Z:List Stp) (k:Int) (h:Z=stepsZ plus minus):(hereZ Z k).filter okX=hereZ Z k:=by
  rw [List.filter_eq_self]
  intro x hx
  unfold hereZ at hx
  obtain ⟨s,hs,rfl⟩:=List.mem_map.1 hx
  have hs:=(List.mem_filter.1 hs).1
  rw [h] at hs
  obtain ⟨i,hi⟩:=List.getElem?_of_mem hs
  have hl:=(List.getElem?_eq_some_iff.1 hi).1
  rw [stepsZ_len] at hl
  have hu:(edgZ (plus++minus))[i]? = some (edgZ (plus++minus))[i]:=List.getElem?_eq_getElem (by omega)
  have hv:(edgZ (plus++minus))[i+1]? = some (edgZ (plus++minus))[i+1]:=List.getElem?_eq_getElem (by omega)
  rw [stepsZ_at hu hv] at hi
  have hi:=Option.some.inj hi
  subst hi
  have e1:=edg_ok (List.mem_of_getElem? hu)
  have e2:=edg_ok (List.mem_of_getElem? hv)
  have e3:(edgZ (plus++minus))[i]<(edgZ (plus++minus))[i+1]:=List.pairwise_iff_getElem.1 (edgZ_rise _) i (i+1) (by omega) (by omega) (by omega)
  simp only [decide_eq_true_eq]
  exact ⟨e1.1,e3,e2.2⟩
theorem here_cov (hp : ∀ x∈plus,okX x=true) (hm : ∀ x∈minus,okX x=true) {k:Int} (hk:0<k) (t:Int):covP (hereZ (stepsZ plus minus) k) t↔k<=cD plus minus t:=by
  constructor
  . rintro ⟨x,hx,h1,h2⟩
    unfold hereZ at hx
    obtain ⟨s,hs,rfl⟩:=List.mem_map.1 hx
    obtain ⟨hs,hn⟩:=List.mem_filter.1 hs
    obtain ⟨i,hi⟩:=List.getElem?_of_mem hs
    have hl:=(List.getElem?_eq_some_iff.1 hi).1
    rw [stepsZ_len] at hl
    obtain ⟨u,hu⟩ : ∃ u,(edgZ (plus++minus))[i]? = some u:=⟨_,List.getElem?_eq_getElem (by omega)⟩
    obtain ⟨v,hv⟩ : ∃ v,(edgZ (plus++minus))[i+1]? = some v:=⟨_,List.getElem?_eq_getElem (by omega)⟩
    rw [stepsZ_at hu hv] at hi
    have hi:=Option.some.inj hi
    subst hi
    rw [<-cD_same hp hm hu hv h1 h2]
    simpa using hn
  . intro h
    have h0:0<cntP plus t:=by
      have:=cntP_nn minus t
      unfold cD at h
      omega
    obtain ⟨x,hx,h1,h2⟩:=cntP_pos h0
    have hxo:=hp x hx
    obtain ⟨i,u,v,hu,hv,h3,h4⟩:=rise_find (edgZ_rise (plus++minus)) (mem_edgZ.2 ⟨x,List.mem_append_left _ hx,hxo,.inl rfl⟩) (mem_edgZ.2 ⟨x,List.mem_append_left _ hx,hxo,.inr rfl⟩) h1 h2
    refine ⟨(u,v),?_,h3,h4⟩
    unfold hereZ
    refine List.mem_map.2 ⟨⟨u,v,cD plus minus u⟩,List.mem_filter.2 ⟨List.mem_of_getElem? (stepsZ_at hu hv),?_⟩,rfl⟩
    rw [cD_same hp hm hu hv h3 h4]
    simpa using h
end
theorem len_count : ∀ (l m:List Int),(∀ a,l.count a<=m.count a)->l.length<=m.length
  | [],m,_=>Nat.zero_le _
  | x::l,m,h=>by
    have hx:x∈m:=by
      have:=h x
      rw [List.count_cons_self] at this
      exact List.count_pos_iff.1 (by omega)
    have h2:=len_count l (m.erase x) λ a=>by
      have:=h a
      rw [List.count_erase]
      rw [List.count_cons] at this
      split at this
      . rename_i q
        have:x=a:=by simpa using q
        subst this
        simp;omega
      . rename_i q
        rw [if_neg q]
        omega
    rw [List.length_erase_of_mem hx] at h2
    have:0<m.length:=List.length_pos_of_mem hx
    simp;omega
theorem Canon.start {l:List (Int×Int)} {p:Int->Prop} (h:Canon l p) {x:Int×Int} (hx:x∈l):p x.1 /\ ¬ p (x.1-1):=by
  have hok:=h.ok x hx
  refine ⟨(h.mem _).2 ⟨x,hx,by omega,hok⟩,λ q=>?_⟩
  obtain ⟨y,hy,h1,h2⟩:=(h.mem _).1 q
  obtain ⟨i,hi⟩:=List.getElem?_of_mem hx
  obtain ⟨j,hj⟩:=List.getElem?_of_mem hy
  obtain ⟨a1,rfl⟩:=List.getElem?_eq_some_iff.1 hi
  obtain ⟨a2,rfl⟩:=List.getElem?_eq_some_iff.1 hj
  have ha:=List.pairwise_iff_getElem.1 h.apart
  rcases Nat.lt_trichotomy i j with z | z | z
  . have:=ha i j a1 a2 z;omega
  . subst z;omega
  . have:=ha j i a2 a1 z;omega
theorem count_rise : ∀ (l:List Int),l.Pairwise (· < ·) -> ∀ a,l.count a<=1
  | [],_,_=>by simp
  | x::l,h,a=>by
    rw [List.count_cons]
    by_cases q:x=a
    . subst q
      have:l.count x=0:=List.count_eq_zero.2 λ hx=>by
        have:=List.rel_of_pairwise_cons h hx;omega
      simp [this]
    . have:=count_rise l h.of_cons a
      simp [q];omega
theorem Canon.count_start {l:List (Int×Int)} {p:Int->Prop} (h:Canon l p) (a:Int):(l.map (·.1)).count a<=1:=by
  refine count_rise _ ?_ a
  rw [List.pairwise_map]
  have : ∀ x∈l,∀ y∈l,x.2<y.1->x.1<y.1:=λ x hx y _ q=>by have:=h.ok x hx;omega
  exact h.apart.imp_of_mem λ {x y} hx hy q=>this x hx y hy q
theorem layers_count {c:Int->Int} (a:Int) : ∀ (ls:List (List (Int×Int))) (k:Nat),(∀ (j:Nat) l,ls[j]? = some l->Canon l (λ t=>(k:Int)+j<c t))->((ls.flatten.map (·.1)).count a:Int)<=max 0 (c a-max (k:Int) (c (a-1)))
  | [],k,_=>by simp;omega
  | l::ls,k,h=>by
    have h0:=h 0 l rfl
    have ih:=layers_count a ls (k+1) (λ j m hm=>by
      have h1:=h (j+1) m (by simpa using hm)
      have h2:Canon m (λ t=>((k+1:Nat):Int)+j<c t):=h1.iff λ t=>by constructor <;> intro q <;> omega
      exact h2)
    rw [List.flatten_cons,List.map_append,List.count_append]
    by_cases q:a∈l.map (·.1)
    . obtain ⟨x,hx,rfl⟩:=List.mem_map.1 q
      have h1:=h0.start hx
      have h2:=h0.count_start x.1
      simp only [Int.natCast_zero,Int.add_zero] at h1
      omega
    . rw [List.count_eq_zero.2 q]
      omega
theorem start_le (plus minus:List (Int×Int)) (a:Int):cD plus minus a-cD plus minus (a-1)<=((plus.map (·.1)++minus.map (·.2)).count a:Int):=by
  have h1 : ∀ L:List (Int×Int),cntP L a-cntP L (a-1)<=((L.map (·.1)).count a:Int):=λ L=>by
    induction L with
    | nil=>simp [cntP]
    | cons x L ih =>
      rw [cntP_cons,cntP_cons,List.map_cons,List.count_cons]
      by_cases q:x.1=a
      . simp only [q,beq_self_eq_true,if_true]
        split <;> split <;> omega
      . have q' : ¬ (x.1 == a)=true:=by simpa using q
        rw [if_neg q']
        split <;> split <;> omega
  have h2 : ∀ L:List (Int×Int),cntP L (a-1)-cntP L a<=((L.map (·.2)).count a:Int):=λ L=>by
    induction L with
    | nil=>simp [cntP]
    | cons x L ih =>
      rw [cntP_cons,cntP_cons,List.map_cons,List.count_cons]
      by_cases q:x.2=a
      . simp only [q,beq_self_eq_true,if_true]
        split <;> split <;> omega
      . have q' : ¬ (x.2 == a)=true:=by simpa using q
        rw [if_neg q']
        split <;> split <;> omega
  have e1:=h1 plus
  have e2:=h2 minus
  rw [List.count_append]
  unfold cD
  omega
theorem layers_len {plus minus:List (Int×Int)} {ls:List (List (Int×Int))} (h : ∀ (j:Nat) l,ls[j]? = some l->Canon l (λ t=>(j:Int)<cD plus minus t)) (hm : ∀ t,- cntP minus t<=cD plus minus t:=λ t=>by unfold cD;have:=cntP_nn plus t;omega):ls.flatten.length<=plus.length+minus.length:=by
  have:=len_count (ls.flatten.map (·.1)) (plus.map (·.1)++minus.map (·.2)) λ a=>by
    have e1:=layers_count (c:=cD plus minus) a ls 0 (λ j l hl=>(h j l hl).iff λ t=>by constructor <;> intro q <;> omega)
    have e2:=start_le plus minus a
    omega
  rw [List.length_map,List.length_append,List.length_map,List.length_map] at this
  exact this
end Go.Proofs.YtnnfjemaeefbiaaGreatDoor
namespace Go.Proofs.YtnnfjemaeefbiaaGreatDoor
open Go.RowKit Go.Shelf Go.Lib Go.Sort
abbrev vaR (p:Option Addr) (n c:Nat) (x:List Va):Wp:=row (.slice p n c) 24 3 n (x.flatMap vaC)
theorem Qe.elemV : ElemOk Tryz.prog 31 24 3 32 := .mk' (.agg #[iV 0,iV 0,.string .empty]) Tryz.underlying31 (by kernel_rfl) rfl (by omega)
theorem vaC_one (x:List Va) : ∀ u∈x.flatMap vaC,u.oneCell'=true:=λ u hu=>by
  obtain ⟨v,_,hx⟩:=List.mem_flatMap.1 hu
  simp at hx
  rcases hx with rfl | rfl | rfl <;> rfl
theorem Qe.copied (B:Wn) (S:List Wp) (g:Nat) (t:TypeId) (pa:Option Addr) (m ca:Nat) (x:List Va) (h:FlV B S vaC (.slice pa m ca) x) (hm:x.length=m) (hb:m<2^32):Fn Tryz.prog B 41 #[.slice (some ⟨g,0,none⟩) 1 1] (blk g [.slice pa m ca] t::S) (λ u l => ∃ p c',u = .slice p m c'/\(0<m -> ∃ g,p=some ⟨g,0,none⟩)/\l=vaR p m c' x::blk g [.slice pa m ca] t::S):=by
 refine Wq 17 Tryz.func41 rfl rfl (nB rfl) (λ F=>?_)
 try simp only [cA,nA]
 refine Ts ?_
 refine TR ?_
 refine La rfl ?_
 refine Ld ?_
 refine Ts ?_
 refine TR ?_
 refine La rfl ?_
 refine Ld ?_
 refine Ts ?_
 refine Ts ?_
 refine TR ?_
 refine Lm rfl ?_
 refine Lq (yI (e:=31) (sz:=1) rfl) ?_
 refine Lm rfl ?_
 refine Ld ?_
 refine yH ?_
 refine T.conv (l':=vaR none 0 0 []::_) (λ w ho=>ho.row_nil 24 3) ?_
 refine zG (λ mz fz lz => ∃ (f0:Fr) (i:Nat) (z:List Va) (p:Option Addr) (n0 c0:Nat),(i<=1/\(i=0->z=[]/\n0=0/\p=none/\c0=0)/\(i=1->z=x/\n0=m/\(0<m -> ∃ g,p=some ⟨g,0,none⟩)))/\mz=1-i/\fz=(upd (upd (upd (upd f0 3 (.slice p n0 c0)) 6 (.slice (some ⟨g,0,none⟩) 1 1)) 7 (iV 1)) 8 (iV i))/\lz=vaR p n0 c0 z::blk g [.slice pa m ca] t::(S++F)) ?_ ?_
 . refine ⟨_,_,⟨_,0,[],none,0,0,⟨by omega,λ _=>⟨rfl,rfl,rfl,rfl⟩,λ z=>absurd z (by omega)⟩,rfl,(Za rfl (Za rfl (Za rfl (Za rfl rfl)))),rfl⟩,Sa⟩
 rintro mz fz lz ⟨f0,i,z,p,n0,c0,⟨hi,h0,h1⟩,hmz,rfl,rfl⟩
 subst mz
 refine Ts ?_
 refine TR ?_
 refine Lq (yM rfl rfl) ?_
 refine Ld ?_
 refine Ts ?_
 refine yN rfl (λ hlt=>?_) (λ hlt=>?_)
 .
  obtain rfl:i=0:=by omega
  obtain ⟨rfl,rfl,rfl,rfl⟩:=h0 rfl
  refine Tk ?_
  refine Ts ?_
  refine yH ?_
  refine Ts ?_
  refine TR ?_
  refine Lq (Qi _ (e:=31) (sz:=1) rfl rfl rfl) ?_
  refine Lq (Ql (v := .slice pa m ca) rfl rfl) ?_
  refine La rfl ?_
  refine Ld ?_
  refine TR ?_
  refine Lm rfl ?_
  refine Lm rfl ?_
  refine Le (Ea Qe.elemV rfl rfl (SrcOf.fq (m:=m) (h.mono (λ w ho=>ho.tl.tl.drop)) (λ _=>rfl) hm (vaC_one x)) (by unfold maxLen;omega) ?_)
  rintro p4 c4 hp4
  simp only [Nat.zero_add,List.nil_append,List.flatMap_nil]
  refine La rfl ?_
  refine Ld ?_
  refine TR ?_
  refine Lq (Qd rfl rfl (Ze)) ?_
  refine Lm rfl ?_
  refine Ld ?_
  refine ⟨_,?_,_,⟨_,1,x,p4,m,c4,⟨by omega,λ z=>absurd z (by omega),λ _=>⟨rfl,rfl,λ z=>hp4 (by omega)⟩⟩,rfl,(Za rfl (Za rfl (Za rfl (Za rfl rfl)))),rfl⟩,Sa⟩
  omega
 obtain rfl:i=1:=by omega
 obtain ⟨rfl,rfl,hp⟩:=h1 rfl
 refine zB ?_
 refine Ts ?_
 refine TR ?_
 refine Lm rfl ?_
 refine La rfl ?_
 refine Ld ?_
 refine T.ret ?_
 exact ⟨.inl rfl,_,_,res [_] rfl ⟨rvT rfl,trivial⟩,⟨p,c0,rfl,hp,rfl⟩,Sa⟩
abbrev stR (p:Option Addr) (n c:Nat) (Z:List Stp):Wp:=row (.slice p n c) 156 3 n (Z.flatMap spC)
theorem Qe.elemS : ElemOk Tryz.prog 101 156 3 24 := .mk' (.agg #[iV 0,iV 0,iV 0]) Tryz.underlying101 (by kernel_rfl) rfl (by omega)
theorem edge_at {E:List Int} {i:Nat} {u:Int} (h:E[i]? = some u):(E.map iV)[0+i*1]? = some (iV u):=by simp [h]
theorem Qe.steps (B:Wn) (S:List Wp) (pa:Option Addr) (m ca:Nat) (plus:List (Int×Int)) (hp:FlV B S pC (.slice pa m ca) plus) (hm:plus.length=m) (hmb:m<2^36) (pb:Option Addr) (k cb:Nat) (minus:List (Int×Int)) (hq:FlV B S pC (.slice pb k cb) minus) (hk:minus.length=k) (hkb:k<2^36) :
  Fn Tryz.prog B 32 #[.slice pa m ca,.slice pb k cb] S (λ u l => ∃ p c',u = .slice p (stepsZ plus minus).length c'/\(0<(stepsZ plus minus).length -> ∃ g,p=some ⟨g,0,none⟩)/\l=stR p (stepsZ plus minus).length c' (stepsZ plus minus)::S):=by
 have hcl:=Qd.clone B S pa m ca plus hp hm (by omega)
 refine Wr 74 Tryz.func32 rfl rfl (nB rfl) (λ F=>?_)
 refine Ts ?_
 refine TR ?_
 refine La rfl ?_
 refine Ld ?_
 refine Ts ?_
 refine TR ?_
 refine Lm rfl ?_
 refine Le (Ec (hcl) Tryz.func62 rfl rfl rfl ?_)
 rintro _ _ ⟨p1,c1,rfl,hp1,rfl⟩
 try simp only [cA,nA]
 refine Lm rfl ?_
 refine Le (Ea Qd.elem rfl rfl (SrcOf.fq (m:=k) (hq.mono (λ w ho=>ho.tl.drop)) (λ _=>rfl) hk (pC_one minus)) (by unfold maxLen;omega) ?_)
 rintro p2 c2 hp2
 rw [<-List.flatMap_append]
 refine Le (Ec (Qd.edges B [pdR p2 (m+k) c2 (plus++minus)] p2 (m+k) c2 (plus++minus) (FlV.row (sz:=2) (λ _=>rfl) (by omega) (by simp;omega) hp2) (by simp;omega) (by omega)) Tryz.func61 rfl rfl rfl ?_)
 rintro _ _ ⟨pe,ce,rfl,hpe,rfl⟩
 try simp only [cA,nA]
 have hel:=edgZ_len (plus++minus)
 have hsl:=stepsZ_len plus minus
 rw [List.length_append] at hel
 obtain ⟨E,hE⟩ : ∃ E,E=edgZ (plus++minus):=⟨_,rfl⟩
 obtain ⟨Z,hZ⟩ : ∃ Z,Z=stepsZ plus minus:=⟨_,rfl⟩
 have hat := @stepsZ_at plus minus
 rw [<-hE] at hel hsl hpe hat ⊢
 rw [<-hZ] at hsl hat ⊢
 refine La rfl ?_
 refine Ld ?_
 refine Ts ?_
 refine TR ?_
 refine La rfl ?_
 refine Ld ?_
 refine Ts ?_
 refine Ts ?_
 refine TR ?_
 refine Lm rfl ?_
 refine Lq (yI (e:=2) (sz:=1) rfl) ?_
 refine Lq (Qt.sub rfl rfl (Ze)) ?_
 refine Lq (YP rfl rfl) ?_
 refine Lm rfl ?_
 refine Ld ?_
 refine yH ?_
 refine T.conv (l':=stR none 0 0 (Z.take 0)::_) (λ w ho=>ho.row_nil 156 3) ?_
 refine zG (λ mz fz lz => ∃ (f0:Fr) (i:Nat) (p:Option Addr) (n0 c0:Nat),(i<=E.length-1/\n0=i/\(0<n0 -> ∃ g,p=some ⟨g,0,none⟩))/\mz=E.length-i/\fz=(upd (upd (upd (upd (upd (upd f0 0 (.slice pa m ca)) 1 (.slice pb k cb)) 5 (.slice pe E.length ce)) 6 (.slice p n0 c0)) 21 (iV (max ((E.length:Int)-1) 0))) 22 (iV i))/\lz=stR p n0 c0 (Z.take i)::rZ pe E.length ce E::(S++F)) ?_ ?_
 . refine ⟨_,_,⟨_,0,none,0,0,⟨Nat.zero_le _,rfl,λ z=>absurd z (by omega)⟩,rfl,(Za rfl (Za rfl (Za rfl (Za rfl (Za rfl (Za rfl rfl)))))),rfl⟩,Sa⟩
 rintro mz fz lz ⟨f0,i,p,n0,c0,⟨hi,hn,hpp⟩,hmz,rfl,rfl⟩
 subst mz
 refine Ts ?_
 refine TR ?_
 refine Lq (yM rfl rfl) ?_
 refine Ld ?_
 refine Ts ?_
 refine yN rfl (λ hlt=>?_) (λ hlt=>?_)
 .
  obtain ⟨ge,rfl⟩:=hpe (by omega)
  obtain ⟨u,hu⟩ : ∃ u,E[i]? = some u:=⟨_,List.getElem?_eq_getElem (by omega)⟩
  obtain ⟨v,hv⟩ : ∃ v,E[i+1]? = some v:=⟨_,List.getElem?_eq_getElem (by omega)⟩
  have hz:=hat hu hv
  refine Tk ?_
  refine Ts ?_
  refine yH ?_
  refine Ts ?_
  refine TR ?_
  refine Lm rfl ?_
  refine La rfl ?_
  refine Ld ?_
  refine Ts ?_
  refine zU 12 (nB rfl) ?_
  refine Rq 0 rfl (Sr _) (Qm rfl) ?_
  refine Rq 1 rfl (Sr _) (Qm rfl) ?_
  refine Rq 2 rfl (Sr _) (Qi i (e:=2) (sz:=1) rfl rfl rfl) ?_
  refine Rq 3 rfl (Sr _) (Ql (v:=iV u) rfl (edge_at hu)) ?_
  refine Rq 4 rfl (Sr _) (Qm rfl) ?_
  refine Rq 5 rfl (Sr _) (Qm rfl) ?_
  refine Rq 6 rfl (Sr _) (Qd (r:=((i+1:Nat):Int)) rfl rfl (by rw [Ze];omega)) ?_
  refine Rq 7 rfl (Sr _) (Qi (i+1) (e:=2) (sz:=1) rfl rfl rfl) ?_
  refine Rq 8 rfl (Sr _) (Ql (v:=iV v) rfl (edge_at hv)) ?_
  refine Rq 9 rfl (Sr _) (z8 [(0,1),(1,1)] [.int .i64 0,.int .i64 0] [_,_] [(0,_),(1,_)] (by unfold Zf;kernel_rfl) rfl rfl) ?_
  refine Rq 10 rfl (Sr _) (z8 [(0,2),(2,1)] [.int .i64 0,.int .i64 0,.int .i64 0] [_,_,_] [(0,_)] (by unfold Zf;kernel_rfl) rfl rfl) ?_
  refine yK 11 ?_
  refine ZK rfl rfl (El [.int .i64 0,.int .i64 0,.int .i64 0] (by unfold Zf;kernel_rfl) ?_)
  intro g8
  refine ⟨Sa,?_⟩
  refine Rd0 (by rfl) ?_
  simp only [dS,dZ,dN]
  refine L0 (Es [_,_,_] rfl rfl rfl rfl (by simp) ?_)
  try simp only [splice,lC,lN,dS,cA,tS,tZ,dZ,nA,aN]
  refine Ld ?_
  refine Ts ?_
  refine Ts ?_
  refine TR ?_
  refine Lm rfl ?_
  refine Lq (yI (e:=33) (sz:=2) rfl) ?_
  refine Lm rfl ?_
  refine Ld ?_
  refine yH ?_
  refine zG (λ mz fz lz => ∃ (f0:Fr) (j:Nat) (cn:Int),(j<=m/\cn=cntP (plus.take j) u)/\mz=m-j/\fz=(upd (upd (upd (upd (upd (upd (upd (upd (upd (upd f0 0 (.slice pa m ca)) 1 (.slice pb k cb)) 5 (.slice (some ⟨ge,0,none⟩) E.length ce)) 6 (.slice p n0 c0)) 8 (.pointer (some ⟨g8,0,none⟩))) 21 (iV (max ((E.length:Int)-1) 0))) 22 (iV i)) 36 (.slice pa m ca)) 37 (iV m)) 38 (iV j))/\lz=blk g8 [iV u,iV v,iV cn] 156::stR p n0 c0 (Z.take i)::rZ (some ⟨ge,0,none⟩) E.length ce E::(S++F)) ?_ ?_
  . refine ⟨_,_,⟨_,0,0,⟨Nat.zero_le _,rfl⟩,rfl,(Za rfl (Za rfl (Za rfl (Za rfl (Za rfl (Za rfl (Za rfl (Za rfl (Za rfl (Za rfl rfl)))))))))),rfl⟩,Sa⟩
  rintro mz fz lz ⟨f0,j,cn,⟨hj,hcn0⟩,hmz,rfl,rfl⟩
  subst mz
  refine Ts ?_
  refine TR ?_
  refine Lq (yM rfl rfl) ?_
  refine Ld ?_
  refine Ts ?_
  refine yN rfl (λ hlt2=>?_) (λ hlt2=>?_)
  .
   obtain ⟨b,o,rfl,hr⟩:=hp.at (sz:=2) (λ _=>rfl) (by omega)
   obtain ⟨x,hx⟩ : ∃ x,plus[j]? = some x:=⟨_,List.getElem?_eq_getElem (by omega)⟩
   have hx1:=hr j x hx
   have hcs:=cntP_snoc (t:=u) hx
   have hcl2:=cntP_le (plus.take j) u
   have hcn:=cntP_nn (plus.take j) u
   rw [List.length_take] at hcl2
   refine Tk ?_
   refine Ts ?_
   refine yH ?_
   refine Ts ?_
   refine TR ?_
   refine Lq (Qi _ (e:=33) (sz:=2) rfl rfl rfl) ?_
   refine Lq (Qt.loadAggW (pC x) rfl (λ w ho=>hx1 w (ho.map Sa))) ?_
   refine Le (El [.int .i64 0,.int .i64 0] (by unfold Zf;kernel_rfl) ?_)
   intro g10
   refine L0 (Es [_,_] rfl rfl rfl rfl (by simp) ?_)
   try simp only [splice,lC,lN,dS,cA,tS,tZ,dZ,nA,aN]
   refine Ld ?_
   refine Ts ?_
   refine TR ?_
   refine Lq (QL [_,_] rfl ⟨rfl,rfl,trivial⟩) ?_
   refine Lq (Q0 rfl) ?_
   refine Lq (Q0 rfl) ?_
   refine Lq (Ql rfl rfl) ?_
   refine Le (Ec (Qd.has B x u) Tryz.func51 rfl rfl rfl ?_)
   rintro _ _ ⟨rfl,rfl⟩
   try simp only [cA,nA]
   refine Ld ?_
   refine Y9 rfl (λ hb=>?_) (λ hb=>?_)
   .
    rw [if_pos hb] at hcs
    refine TR ?_
    refine Lq (Qf (off:=2) rfl) ?_
    refine Lq (Ql rfl rfl) ?_
    refine Lq (Qd rfl rfl (Ze)) ?_
    refine Lq (Qf (off:=2) rfl) ?_
    refine L0 (E1 rfl rfl rfl (by first | (simp;done) | (simp;omega)) ?_)
    try simp only [List.set_cons_zero,List.set_cons_succ]
    refine Ld ?_
    refine TR ?_
    refine Lq (Qd rfl rfl (Ze)) ?_
    refine Lm rfl ?_
    refine Ld ?_
    refine ⟨_,?_,_,⟨_,j+1,cn+1,⟨by omega,by omega⟩,rfl,(Za rfl (Za rfl (Za rfl (Za rfl (Za rfl (Za rfl (Za rfl (Za rfl (Za rfl (Za rfl rfl)))))))))),rfl⟩,Sa⟩
    omega
   rw [if_neg (by rw [hb];decide),Int.add_zero] at hcs
   refine Tk ?_
   refine TR ?_
   refine Lq (Qd rfl rfl (Ze)) ?_
   refine Lm rfl ?_
   refine Ld ?_
   refine ⟨_,?_,_,⟨_,j+1,cn,⟨by omega,by omega⟩,rfl,(Za rfl (Za rfl (Za rfl (Za rfl (Za rfl (Za rfl (Za rfl (Za rfl (Za rfl (Za rfl rfl)))))))))),rfl⟩,Sa⟩
   omega
  have ez:plus.take j=plus:=List.take_of_length_le (by omega)
  rw [ez] at hcn0
  refine zB ?_
  refine Ts ?_
  refine Ts ?_
  refine TR ?_
  refine Lm rfl ?_
  refine Lq (yI (e:=33) (sz:=2) rfl) ?_
  refine Lm rfl ?_
  refine Ld ?_
  refine yH ?_
  refine zG (λ mz fz lz => ∃ (f0:Fr) (j2:Nat) (cn:Int),(j2<=k/\cn=cD plus (minus.take j2) u)/\mz=k-j2/\fz=(upd (upd (upd (upd (upd (upd (upd (upd (upd (upd f0 0 (.slice pa m ca)) 1 (.slice pb k cb)) 5 (.slice (some ⟨ge,0,none⟩) E.length ce)) 6 (.slice p n0 c0)) 8 (.pointer (some ⟨g8,0,none⟩))) 21 (iV (max ((E.length:Int)-1) 0))) 22 (iV i)) 52 (.slice pb k cb)) 53 (iV k)) 54 (iV j2))/\lz=blk g8 [iV u,iV v,iV cn] 156::stR p n0 c0 (Z.take i)::rZ (some ⟨ge,0,none⟩) E.length ce E::(S++F)) ?_ ?_
  . refine ⟨_,_,⟨_,0,cn,⟨Nat.zero_le _,by rw [hcn0];simp [cD,cntP]⟩,rfl,(Za rfl (Za rfl (Za rfl (Za rfl (Za rfl (Za rfl (Za rfl (Za rfl (Za rfl (Za rfl rfl)))))))))),rfl⟩,Sa⟩
  rintro mz fz lz ⟨f0,j2,cn,⟨hj2,hcn1⟩,hmz,rfl,rfl⟩
  subst mz
  refine Ts ?_
  refine TR ?_
  refine Lq (yM rfl rfl) ?_
  refine Ld ?_
  refine Ts ?_
  refine yN rfl (λ hlt3=>?_) (λ hlt3=>?_)
  .
   obtain ⟨b,o,rfl,hr⟩:=hq.at (sz:=2) (λ _=>rfl) (by omega)
   obtain ⟨x,hx⟩ : ∃ x,minus[j2]? = some x:=⟨_,List.getElem?_eq_getElem (by omega)⟩
   have hx1:=hr j2 x hx
   have hcs:cD plus (minus.take (j2+1)) u=cD plus (minus.take j2) u-(if hasX x u=true then 1 else 0):=by unfold cD;rw [cntP_snoc hx];omega
   have q1:=cntP_le (minus.take j2) u
   have q2:=cntP_le plus u
   have q3:=cntP_nn plus u
   have q4:=cntP_nn (minus.take j2) u
   rw [List.length_take] at q1
   have hcd:cD plus (minus.take j2) u=cntP plus u-cntP (minus.take j2) u:=rfl
   refine Tk ?_
   refine Ts ?_
   refine yH ?_
   refine Ts ?_
   refine TR ?_
   refine Lq (Qi _ (e:=33) (sz:=2) rfl rfl rfl) ?_
   refine Lq (Qt.loadAggW (pC x) rfl (λ w ho=>hx1 w (ho.map Sa))) ?_
   refine Le (El [.int .i64 0,.int .i64 0] (by unfold Zf;kernel_rfl) ?_)
   intro g12
   refine L0 (Es [_,_] rfl rfl rfl rfl (by simp) ?_)
   try simp only [splice,lC,lN,dS,cA,tS,tZ,dZ,nA,aN]
   refine Ld ?_
   refine Ts ?_
   refine TR ?_
   refine Lq (QL [_,_] rfl ⟨rfl,rfl,trivial⟩) ?_
   refine Lq (Q0 rfl) ?_
   refine Lq (Q0 rfl) ?_
   refine Lq (Ql rfl rfl) ?_
   refine Le (Ec (Qd.has B x u) Tryz.func51 rfl rfl rfl ?_)
   rintro _ _ ⟨rfl,rfl⟩
   try simp only [cA,nA]
   refine Ld ?_
   refine Y9 rfl (λ hb=>?_) (λ hb=>?_)
   .
    rw [if_pos hb] at hcs
    refine TR ?_
    refine Lq (Qf (off:=2) rfl) ?_
    refine Lq (Ql rfl rfl) ?_
    refine Lq (Qt.sub rfl rfl (Ze)) ?_
    refine Lq (Qf (off:=2) rfl) ?_
    refine L0 (E1 rfl rfl rfl (by first | (simp;done) | (simp;omega)) ?_)
    try simp only [List.set_cons_zero,List.set_cons_succ]
    refine Ld ?_
    refine TR ?_
    refine Lq (Qd rfl rfl (Ze)) ?_
    refine Lm rfl ?_
    refine Ld ?_
    refine ⟨_,?_,_,⟨_,j2+1,cn-1,⟨by omega,by omega⟩,rfl,(Za rfl (Za rfl (Za rfl (Za rfl (Za rfl (Za rfl (Za rfl (Za rfl (Za rfl (Za rfl rfl)))))))))),rfl⟩,Sa⟩
    omega
   rw [if_neg (by rw [hb];decide),Int.sub_zero] at hcs
   refine Tk ?_
   refine TR ?_
   refine Lq (Qd rfl rfl (Ze)) ?_
   refine Lm rfl ?_
   refine Ld ?_
   refine ⟨_,?_,_,⟨_,j2+1,cn,⟨by omega,by omega⟩,rfl,(Za rfl (Za rfl (Za rfl (Za rfl (Za rfl (Za rfl (Za rfl (Za rfl (Za rfl (Za rfl rfl)))))))))),rfl⟩,Sa⟩
   omega
  have ez2:minus.take j2=minus:=List.take_of_length_le (by omega)
  rw [ez2] at hcn1
  subst hcn1
  refine zB ?_
  refine TR ?_
  refine Lm rfl ?_
  refine Lq (QL [_,_,_] rfl ⟨rfl,rfl,rfl,trivial⟩) ?_
  refine Le (zK [_,_,_] (e:=156) (sz:=3) ⟨.agg #[.int .i64 0,.int .i64 0,.int .i64 0],by kernel_rfl,rfl⟩ rfl rfl rfl ?_)
  intro g70
  refine Le (Ea Qe.elemS rfl rfl (SrcOf.blk (by kernel_rfl) rfl (by simp [Value.oneCell'])) (by unfold maxLen;omega) ?_)
  rintro p4 c4 hp4
  rw [show (Z.take i).flatMap spC++[iV u,iV v,iV (cD plus minus u)]=(Z.take (i+1)).flatMap spC by rw [List.take_add_one,hz,List.flatMap_append];rfl]
  refine La rfl ?_
  refine Ld ?_
  refine TR ?_
  refine Lq (Qd rfl rfl (Ze)) ?_
  refine Lm rfl ?_
  refine Ld ?_
  refine ⟨_,?_,_,⟨_,i+1,p4,n0+1,c4,⟨by omega,by omega,hp4⟩,rfl,(Za rfl (Za rfl (Za rfl (Za rfl (Za rfl (Za rfl rfl)))))),rfl⟩,Sa⟩
  omega
 have hzl:Z.length=i:=by omega
 have ez:Z.take i=Z:=List.take_of_length_le (by omega)
 rw [ez]
 subst hn
 rw [<-hzl]
 refine zB ?_
 refine Ts ?_
 refine TR ?_
 refine Lm rfl ?_
 refine La rfl ?_
 refine Ld ?_
 refine T.ret ?_
 exact ⟨.inl rfl,_,_,res [_] rfl ⟨rvT rfl,trivial⟩,⟨p,c0,rfl,by rw [hzl];exact hpp,rfl⟩,Sa⟩
end Go.Proofs.YtnnfjemaeefbiaaGreatDoor
namespace Go.Proofs.YtnnfjemaeefbiaaGreatDoor
open Go.RowKit Go.Shelf Go.Lib Go.Sort
theorem Own.sepQ {B:Wn} {w:World} {l:List Wp} (ho:Own B w [sepL l]):Own B w l:=ho.map λ _ H=>by simpa using Has.open_sepL H
theorem Qe.elemF : ElemOk Tryz.prog 22 35 3 40 := .mk' (.agg #[.slice none 0 0,iV 0,iV 0]) Tryz.underlying22 (by kernel_rfl) rfl (by omega)
theorem here_snoc {Z:List Stp} {i:Nat} {s:Stp} {k:Int} (h:Z[i]? = some s):hereZ (Z.take (i+1)) k=hereZ (Z.take i) k++(if k<=s.n then [(s.fr,s.to)] else []):=by
  unfold hereZ
  rw [filter_snoc h,List.map_append]
  by_cases q:k<=s.n
  . rw [if_pos q,if_pos (by simpa using q)];rfl
  . rw [if_neg q,if_neg (by simpa using q)];rfl
theorem snoc_all {ls:List (List (Int×Int))} {O:List (Int×Int)} {P:Nat->List (Int×Int)->Prop} (h : ∀ (j:Nat) l,ls[j]? = some l->P j l) (hO:P ls.length O) : ∀ (j:Nat) l,(ls++[O])[j]? = some l->P j l:=λ j l hl=>by
  rcases Nat.lt_trichotomy j ls.length with q | q | q
  . rw [List.getElem?_append_left q] at hl;exact h j l hl
  . subst q;simp at hl;subst hl;exact hO
  . rw [List.getElem?_eq_none (by simp;omega)] at hl;cases hl
theorem fzs_append (r:List Va) (a b:List (Int×Int)):fzs r (a++b)=fzs r a++fzs r b:=by unfold fzs;rw [List.map_append]
theorem fqC_one {B:Wn} {S:List Wp} {Q:List Fq} (h : ∀ x∈Q,FqV B S x) : ∀ u∈Q.flatMap fqC,u.oneCell'=true:=λ u hu=>by
  obtain ⟨x,hx,hv⟩:=List.mem_flatMap.1 hu
  obtain ⟨a,c,e⟩:=(h x hx).form
  simp only [fqC,List.mem_cons,List.not_mem_nil,or_false] at hv
  rcases hv with rfl | rfl | rfl
  . rw [e];rfl
  . rfl
  . rfl
theorem fzs_len (r:List Va) (l:List (Int×Int)):(fzs r l).length=l.length:=by unfold fzs;rw [List.length_map]
def FqsA (B:Wn) (A:Wp) (Q:List Fq):Prop := ∀ x∈Q,FqV B [A] x
theorem FqsA.snoc {B:Wn} {A A2:Wp} {Q:List Fq} {x:Fq} (h:FqsA B A Q) (h2:FqV B [A2] x):FqsA B (sepL [A,A2]) (Q++[x]):=λ y hy=>by
  rcases List.mem_append.1 hy with hy | hy
  . exact (h y hy).mono λ w ho=>ho.sepQ.map Sa
  . rw [List.mem_singleton] at hy;subst hy;exact h2.mono λ w ho=>ho.sepQ.map Sa
theorem FqsA.app {B:Wn} {A A2:Wp} {Q R:List Fq} (h:FqsA B A Q) (h2:FqsA B A2 R):FqsA B (sepL [A,A2]) (Q++R):=λ y hy=>by
  rcases List.mem_append.1 hy with hy | hy
  . exact (h y hy).mono λ w ho=>ho.sepQ.map Sa
  . exact (h2 y hy).mono λ w ho=>ho.sepQ.map Sa
def LayPost (B:Wn) (S:List Wp) (r:List Va) (plus minus:List (Int×Int)) (u:Value) (l:List Wp):Prop := ∃ Q A p c G,u = .slice p Q.length c/\(0<Q.length -> ∃ g,p=some ⟨g,0,none⟩)/\FqsA B A Q/\Q.map Fq.fz=fzs r G/\Layers (cD plus minus) 0 G/\Q.length<=plus.length+minus.length/\l=fqR p Q.length c Q::A::S
theorem Qe.layers (B:Wn) (S:List Wp) (ra:Option Addr) (m rc:Nat) (r:List Va) (hr:FlV B S vaC (.slice ra m rc) r) (hm:r.length=m) (hmb:m<2^32) (plus minus:List (Int×Int)) (hpo : ∀ x∈plus,okX x=true) (hmo : ∀ x∈minus,okX x=true) (hpb:plus.length<2^36) (hqb:minus.length<2^36) (ps:Option Addr) (z cs:Nat) (hz:FlV B S spC (.slice ps z cs) (stepsZ plus minus)) (hzl:(stepsZ plus minus).length=z) :
  Fn Tryz.prog B 31 #[.slice ra m rc,.slice ps z cs] S (LayPost B S r plus minus):=by
 have hze:z<=2*(plus.length+minus.length):=by
  have h1:=stepsZ_len plus minus
  have h2:=edgZ_len (plus++minus)
  rw [List.length_append] at h2
  omega
 obtain ⟨Z,hZ⟩ : ∃ Z,Z=stepsZ plus minus:=⟨_,rfl⟩
 have hok:=λ k=>here_ok Z k hZ
 have hcov:=λ {k:Int} (hk:0<k) (t:Int)=>here_cov hpo hmo hk t
 rw [<-hZ] at hz hzl hcov
 have hsc : ∀ t,cD plus minus t<=plus.length:=λ t=>by have:=cntP_le plus t;have:=cntP_nn minus t;unfold cD;omega
 refine Wr 50 Tryz.func31 rfl rfl (nB rfl) (λ F=>?_)
 refine Ts ?_
 refine TR ?_
 refine La rfl ?_
 refine Ld ?_
 refine Ts ?_
 refine TR ?_
 refine La rfl ?_
 refine Ld ?_
 refine Ts ?_
 refine TR ?_
 refine La rfl ?_
 refine Ld ?_
 refine yH ?_
 refine T.conv (l':=fqR none 0 0 []::pu True::_) (λ w ho=>(ho.row_nil 35 3).map λ _ H=>Has.swap (Has.close_pu trivial H)) ?_
 refine zG (λ mz fz lz => ∃ (f0:Fr) (ls:List (List (Int×Int))) (Q:List Fq) (A:Wp) (p:Option Addr) (n0 c0:Nat),(ls.length<=plus.length/\(∀ (j:Nat) l,ls[j]? = some l->l≠[]/\Canon l (λ t=>(j:Int)<cD plus minus t))/\Q.map Fq.fz=fzs r ls.flatten/\Q.length=n0/\FqsA B A Q/\(0<n0 -> ∃ g,p=some ⟨g,0,none⟩))/\mz=plus.length+1-ls.length/\fz=(upd (upd (upd (upd f0 0 (.slice ra m rc)) 1 (.slice ps z cs)) 5 (.slice p n0 c0)) 6 (iV ((ls.length:Int)+1)))/\lz=fqR p n0 c0 Q::A::(S++F)) ?_ ?_
 . refine ⟨_,_,⟨_,[],[],pu True,none,0,0,⟨Nat.zero_le _,by simp,rfl,rfl,by intro x hx;simp at hx,λ h=>absurd h (by omega)⟩,rfl,(Za rfl (Za rfl (Za rfl (Za rfl rfl)))),rfl⟩,Sa⟩
 rintro mz fz lz ⟨f0,ls,Q,A,p,n0,c0,⟨hls,hcan,hQ,hQn,hQA,hp⟩,hmz,rfl,rfl⟩
 subst mz
 refine T.conv (l':=pdR none 0 0 []::_) (λ w ho=>ho.row_nil 33 2) ?_
 refine Ts ?_
 refine yH ?_
 refine Ts ?_
 refine TR ?_
 refine La rfl ?_
 refine Ld ?_
 refine Ts ?_
 refine Ts ?_
 refine TR ?_
 refine Lm rfl ?_
 refine Lq (yI (e:=156) (sz:=3) rfl) ?_
 refine Lm rfl ?_
 refine Ld ?_
 refine yH ?_
 refine zG (λ mz fz lz => ∃ (f0:Fr) (i:Nat) (H:List (Int×Int)) (p1:Option Addr) (n1 c1:Nat),(i<=z/\H=hereZ (Z.take i) ((ls.length:Int)+1)/\H.length=n1/\n1<=i/\(0<n1 -> ∃ g,p1=some ⟨g,0,none⟩))/\mz=z-i/\fz=(upd (upd (upd (upd (upd (upd (upd (upd f0 0 (.slice ra m rc)) 1 (.slice ps z cs)) 5 (.slice p n0 c0)) 6 (iV ((ls.length:Int)+1))) 7 (.slice p1 n1 c1)) 14 (.slice ps z cs)) 15 (iV z)) 16 (iV i))/\lz=pdR p1 n1 c1 H::fqR p n0 c0 Q::A::(S++F)) ?_ ?_
 . refine ⟨_,_,⟨_,0,[],none,0,0,⟨Nat.zero_le _,rfl,rfl,Nat.le_refl _,λ h=>absurd h (by omega)⟩,rfl,(Za rfl (Za rfl (Za rfl (Za rfl (Za rfl (Za rfl (Za rfl (Za rfl rfl)))))))),rfl⟩,Sa⟩
 rintro mz fz lz ⟨f0,i,H,p1,n1,c1,⟨hi,hH,hHn,hHi,hp1⟩,hmz,rfl,rfl⟩
 subst mz
 refine Ts ?_
 refine TR ?_
 refine Lq (yM rfl rfl) ?_
 refine Ld ?_
 refine Ts ?_
 refine yN rfl (λ hlt=>?_) (λ hlt=>?_)
 .
  obtain ⟨b,o,rfl,hrr⟩:=hz.at (sz:=3) (λ _=>rfl) (by omega)
  obtain ⟨s,hs⟩ : ∃ s,Z[i]? = some s:=⟨_,List.getElem?_eq_getElem (by omega)⟩
  have hs1:=hrr i s hs
  have hsn:=here_snoc (k:=(ls.length:Int)+1) hs
  refine Tk ?_
  refine Ts ?_
  refine yH ?_
  refine Ts ?_
  refine TR ?_
  refine Lq (Qi _ (e:=156) (sz:=3) rfl rfl rfl) ?_
  refine Lq (Qt.loadAggW (spC s) rfl (λ w ho=>hs1 w (ho.map Sa))) ?_
  refine Le (El [.int .i64 0,.int .i64 0,.int .i64 0] (by unfold Zf;kernel_rfl) ?_)
  intro g9
  refine L0 (Es [_,_,_] rfl rfl rfl rfl (by simp) ?_)
  try simp only [splice,lC,lN,dS,cA,tS,tZ,dZ,nA,aN]
  refine Ld ?_
  refine Ts ?_
  refine TR ?_
  refine Lq (Qf (off:=2) rfl) ?_
  refine Lq (Ql rfl rfl) ?_
  refine Lm rfl ?_
  refine Lq (zX rfl rfl) ?_
  refine Ld ?_
  refine yN rfl (λ hge=>?_) (λ hge=>?_)
  .
   rw [if_pos (by omega)] at hsn
   refine TR ?_
   refine Lm rfl ?_
   refine Lq (Q0 rfl) ?_
   refine Lq (QL [_,_] rfl ⟨rfl,rfl,trivial⟩) ?_
   refine Le (zK [_,_] (e:=33) (sz:=2) ⟨.agg #[.int .i64 0,.int .i64 0],by kernel_rfl,rfl⟩ rfl rfl rfl ?_)
   intro g27
   refine Le (Ea Qd.elem rfl rfl (SrcOf.blk (by kernel_rfl) rfl (by simp [Value.oneCell'])) (by unfold maxLen;omega) ?_)
   rintro p4 c4 hp4
   rw [show H.flatMap pC++[iV s.fr,iV s.to]=(H++[(s.fr,s.to)]).flatMap pC by simp]
   refine La rfl ?_
   refine Ld ?_
   refine TR ?_
   refine Lq (Qd rfl rfl (Ze)) ?_
   refine Lm rfl ?_
   refine Ld ?_
   refine ⟨_,?_,_,⟨_,i+1,H++[(s.fr,s.to)],p4,n1+1,c4,⟨by omega,by rw [hsn,hH],by simp [hHn],by omega,hp4⟩,rfl,(Za rfl (Za rfl (Za rfl (Za rfl (Za rfl (Za rfl (Za rfl (Za rfl rfl)))))))),rfl⟩,Sa⟩
   omega
  rw [if_neg (by omega),List.append_nil] at hsn
  refine Tk ?_
  refine TR ?_
  refine Lq (Qd rfl rfl (Ze)) ?_
  refine Lm rfl ?_
  refine Ld ?_
  refine ⟨_,?_,_,⟨_,i+1,H,p1,n1,c1,⟨by omega,by rw [hsn,hH],hHn,by omega,hp1⟩,rfl,(Za rfl (Za rfl (Za rfl (Za rfl (Za rfl (Za rfl (Za rfl (Za rfl rfl)))))))),rfl⟩,Sa⟩
  omega
 have ez:Z.take i=Z:=List.take_of_length_le (by omega)
 rw [ez] at hH
 have hcv : ∀ t,covP H t↔(ls.length:Int)<cD plus minus t:=λ t=>by rw [hH,hcov (by omega) t];omega
 refine zB ?_
 refine Ts ?_
 refine Ts ?_
 refine TR ?_
 refine Lm rfl ?_
 refine Lq (yI (e:=33) (sz:=2) rfl) ?_
 refine Lq (yU rfl rfl) ?_
 refine Ld ?_
 refine yN rfl (λ h0=>?_) (λ h0=>?_)
 .
  have hH0:H=[]:=List.eq_nil_of_length_eq_zero (by omega)
  have hlay:Layers (cD plus minus) 0 ls.flatten:=⟨ls,rfl,λ j l hl=>⟨(hcan j l hl).1,(hcan j l hl).2.iff λ t=>by simp⟩,λ t=>by
   have:=mt (hcv t).2 (by rw [hH0];rintro ⟨x,hx,_⟩;cases hx)
   simp;omega⟩
  have hlen:=layers_len (λ j l hl=>(hcan j l hl).2)
  have hQl:Q.length=ls.flatten.length:=by have:=congrArg List.length hQ;rwa [List.length_map,fzs_len] at this
  subst hQn
  refine Ts ?_
  refine TR ?_
  refine Lm rfl ?_
  refine La rfl ?_
  refine Ld ?_
  refine T.ret ?_
  exact ⟨.inl rfl,_,_,res [_] rfl ⟨rvT rfl,trivial⟩,⟨Q,A,p,c0,ls.flatten,rfl,hp,hQA,hQ,hlay,by omega,rfl⟩,Sa⟩
 refine Tk ?_
 refine Ts ?_
 refine TR ?_
 refine Lm rfl ?_
 refine Le (Ec (Qd.union B [pdR p1 n1 c1 H] p1 n1 c1 H (FlV.row (sz:=2) (λ _=>rfl) (by omega) hHn hp1) hHn (by omega)) Tryz.func60 rfl rfl rfl ?_)
 rintro _ _ ⟨O,pu1,cu1,hO,hOl,hpu,rfl,rfl⟩
 try simp only [cA,nA]
 rw [hH,hok,<-hH] at hO
 have hO:=hO.iff hcv
 have hOne:O≠[]:=by
  intro e
  have h1:=hO.nil_iff.1 e
  obtain ⟨x,hx⟩:=List.exists_mem_of_length_pos (by omega:0<H.length)
  have hxo:okX x=true:=by
   have:x∈H.filter okX:=by rw [hH,hok,<-hH];exact hx
   exact (List.mem_filter.1 this).2
  simp only [decide_eq_true_eq] at hxo
  exact h1 x.1 ((hcv x.1).1 ⟨x,hx,by omega,hxo.2.1⟩)
 have hcan2 : ∀ (j:Nat) l,(ls++[O])[j]? = some l->l≠[]/\Canon l (λ t=>(j:Int)<cD plus minus t):=snoc_all (P:=λ j l=>l≠[]/\Canon l (λ t=>(j:Int)<cD plus minus t)) hcan ⟨hOne,hO⟩
 have hlen:=layers_len (λ j l hl=>(hcan2 j l hl).2)
 have hQl:Q.length=ls.flatten.length:=by have:=congrArg List.length hQ;rwa [List.length_map,fzs_len] at this
 have hfl:(ls++[O]).flatten=ls.flatten++O:=by simp
 rw [hfl,List.length_append] at hlen
 have hlp:ls.length+1<=plus.length:=by
  obtain ⟨x,hx⟩:=List.exists_mem_of_ne_nil _ hOne
  have h1:=(hO.mem x.1).2 ⟨x,hx,by omega,hO.ok x hx⟩
  have h2:=hsc x.1
  omega
 obtain ⟨on,hon⟩ : ∃ on,O.length=on:=⟨_,rfl⟩
 rw [hon] at hpu hOl hlen ⊢
 refine Lq (yI (e:=33) (sz:=2) rfl) ?_
 refine Lm rfl ?_
 refine Ld ?_
 refine yH ?_
 refine zG (λ mz fz lz => ∃ (f0:Fr) (j:Nat) (Q2:List Fq) (A2:Wp) (p2:Option Addr) (n2 c2:Nat),(j<=on/\Q2.map Fq.fz=fzs r (ls.flatten++O.take j)/\Q2.length=n2/\n2=n0+j/\FqsA B A2 Q2/\(0<n2 -> ∃ g,p2=some ⟨g,0,none⟩))/\mz=on-j/\fz=(upd (upd (upd (upd (upd (upd (upd f0 0 (.slice ra m rc)) 1 (.slice ps z cs)) 5 (.slice p2 n2 c2)) 6 (iV ((ls.length:Int)+1))) 35 (.slice pu1 on cu1)) 36 (iV on)) 37 (iV j))/\lz=fqR p2 n2 c2 Q2::A2::pdR pu1 on cu1 O::(S++F)) ?_ ?_
 . refine ⟨_,_,⟨_,0,Q,A,p,n0,c0,⟨Nat.zero_le _,by simpa using hQ,hQn,rfl,hQA,hp⟩,rfl,(Za rfl (Za rfl (Za rfl (Za rfl (Za rfl (Za rfl (Za rfl rfl))))))),rfl⟩,Sa⟩
 rintro mz fz lz ⟨f0,j,Q2,A2,p2,n2,c2,⟨hj,hQ2,hQ2n,hn2,hQ2A,hp2⟩,hmz,rfl,rfl⟩
 subst mz
 refine Ts ?_
 refine TR ?_
 refine Lq (yM rfl rfl) ?_
 refine Ld ?_
 refine Ts ?_
 refine yN rfl (λ hlt2=>?_) (λ hlt2=>?_)
 .
  obtain ⟨gu,rfl⟩:=hpu (by omega)
  obtain ⟨x,hx⟩ : ∃ x,O[j]? = some x:=⟨_,List.getElem?_eq_getElem (by omega)⟩
  refine Tk ?_
  refine Ts ?_
  refine yH ?_
  refine Ts ?_
  refine TR ?_
  refine Lq (Qi j (e:=33) (sz:=2) rfl rfl rfl) ?_
  refine Lq (QL (pC x) rfl ⟨by rw [Nat.zero_add];exact (pC_at hx).1,by rw [Nat.zero_add];exact (pC_at hx).2,trivial⟩) ?_
  refine Le (El [.int .i64 0,.int .i64 0] (by unfold Zf;kernel_rfl) ?_)
  intro g11
  refine L0 (Es [_,_] rfl rfl rfl rfl (by simp) ?_)
  try simp only [splice,lC,lN,dS,cA,tS,tZ,dZ,nA,aN]
  refine Ld ?_
  refine zW 8 none (nB rfl) ?_
  refine Rq 0 rfl Sa (Qm rfl) ?_
  refine Rq 1 rfl Sa (Qm rfl) ?_
  refine Rq 4 rfl Sa (QL [_,_] rfl ⟨rfl,rfl,trivial⟩) ?_
  refine yK 2 ?_
  refine z6 rfl (zK [_] (e:=31) (sz:=1) ⟨.slice none 0 0,by kernel_rfl,rfl⟩ rfl rfl rfl ?_)
  intro g43
  refine ⟨Sa,?_⟩
  refine yK 3 ?_
  refine z6 rfl (Ec (Qe.copied B S g43 31 ra m rc r hr hm hmb) Tryz.func41 rfl rfl rfl ?_)
  rintro _ _ ⟨pr,cr,rfl,hpr,rfl⟩
  try simp only [cA,nA]
  refine ⟨Sa,?_⟩
  refine Rq 5 rfl Sa (z8 [(0,1),(1,2)] [.slice none 0 0,.int .i64 0,.int .i64 0] [_,_,_] [(0,_),(1,_)] (by unfold Zf;kernel_rfl) rfl rfl) ?_
  refine yK 6 ?_
  refine zY rfl (zK [_,_,_] (e:=35) (sz:=3) ⟨.agg #[.slice none 0 0,.int .i64 0,.int .i64 0],by kernel_rfl,rfl⟩ rfl rfl rfl ?_)
  intro g47
  refine yK 7 ?_
  refine zY rfl (Ea Qe.elemF rfl rfl (SrcOf.blk (by kernel_rfl) rfl (by simp [Value.oneCell'])) (by unfold maxLen;omega) ?_)
  rintro p4 c4 hp4
  try simp only [cA,nA]
  have hfx:FqV B [vaR pr m cr r] ⟨.slice pr m cr,r,x.1,x.2⟩:=⟨by dsimp only;omega,FlV.row (l:=[]) (sz:=3) (λ _=>rfl) (by omega) hm hpr⟩
  have hsn:=hQ2A.snoc hfx
  rw [show Q2.flatMap fqC++[.slice pr m cr,iV x.1,iV x.2]=(Q2++[(⟨.slice pr m cr,r,x.1,x.2⟩:Fq)]).flatMap fqC by simp]
  refine Rd0 (by rfl) ?_
  simp only [dS,dZ,dN]
  refine La rfl ?_
  refine Ld ?_
  refine TR ?_
  refine Lq (Qd rfl rfl (Ze)) ?_
  refine Lm rfl ?_
  refine Ld ?_
  refine ⟨_,?_,_,⟨_,j+1,Q2++[⟨.slice pr m cr,r,x.1,x.2⟩],sepL [A2,vaR pr m cr r],p4,n2+1,c4,⟨by omega,by rw [List.map_append,hQ2,List.take_add_one,hx,<-List.append_assoc,fzs_append r (ls.flatten++O.take j)];rfl,by simp [hQ2n],by omega,hsn,hp4⟩,rfl,(Za rfl (Za rfl (Za rfl (Za rfl (Za rfl (Za rfl (Za rfl rfl))))))),rfl⟩,Sa⟩
  omega
 have ez2:O.take j=O:=List.take_of_length_le (by omega)
 rw [ez2,<-hfl] at hQ2
 refine zB ?_
 refine TR ?_
 refine Lm rfl ?_
 refine Lq (Qd (r:=((ls++[O]).length:Int)+1) rfl rfl (by rw [Ze];simp)) ?_
 refine La rfl ?_
 refine Ld ?_
 refine ⟨_,?_,_,⟨_,ls++[O],Q2,A2,p2,n2,c2,⟨by simp;omega,hcan2,hQ2,hQ2n,hQ2A,hp2⟩,rfl,(Za rfl (Za rfl (Za rfl (Za rfl rfl)))),rfl⟩,Sa⟩
 (simp;omega)
open Go.RowKit
abbrev okF (f:Fz):Bool:=okX (f.fr,f.to)
def perR (r:List Va) (L:List Fz):List (Int×Int):=(L.filter λ f=>decide (f.row=r)).map λ f=>(f.fr,f.to)
theorem perR_append (r:List Va) (L M:List Fz):perR r (L++M)=perR r L++perR r M:=by unfold perR;rw [List.filter_append,List.map_append]
theorem perR_none {r:List Va} {L:List Fz} (h : ∀ f∈L,f.row≠r):perR r L=[]:=by
  unfold perR
  rw [List.filter_eq_nil_iff.2 λ f hf=>by simpa using h f hf];rfl
theorem perR_all {r:List Va} {L:List Fz} (h : ∀ f∈L,f.row=r):perR r L=L.map λ f=>(f.fr,f.to):=by
  unfold perR
  rw [List.filter_eq_self.2 λ f hf=>by simpa using h f hf]
theorem perR_ok {r:List Va} {L:List Fz} (h : ∀ f∈L,okF f=true) : ∀ x∈perR r L,okX x=true:=λ x hx=>by
  unfold perR at hx
  obtain ⟨f,hf,rfl⟩:=List.mem_map.1 hx
  exact h f (List.mem_filter.1 hf).1
theorem cnt_per {L:List Fz} (h : ∀ f∈L,okF f=true) (r:List Va) (t:Int):cnt L r t=cntP (perR r L) t:=by
  unfold cnt cntP perR
  rw [List.filter_map,List.length_map,List.filter_filter]
  congr 2
  apply List.filter_congr
  intro f hf
  have:=h f hf
  simp only [decide_eq_true_eq] at this
  simp [hitF,this,Bool.and_comm]
theorem cnt_ok (L:List Fz) (r:List Va) (t:Int):cnt (L.filter okF) r t=cnt L r t:=by
  unfold cnt
  rw [List.filter_filter]
  congr 2
  apply List.filter_congr
  intro f _
  simp only [hitF]
  by_cases q:okP f.fr f.to
  . simp [q]
  . simp [q]
def Bound (L:List Fz) (i:Nat):Prop := ∀ y∈L.take i,∀ z∈L.drop i,y.row≠z.row
theorem row_le {L:List Fz} (h:Ord cmpF L) {i j:Nat} {x y:Fz} (hij:i<=j) (hx:L[i]? = some x) (hy:L[j]? = some y):cmpRw x.row y.row<=0:=by
  obtain ⟨h1,rfl⟩:=List.getElem?_eq_some_iff.1 hx
  obtain ⟨h2,rfl⟩:=List.getElem?_eq_some_iff.1 hy
  rcases Nat.lt_or_ge i j with q | q
  . have:=List.pairwise_iff_getElem.1 h i j h1 h2 q
    unfold cmpF orI at this
    split at this
    . exact this
    . omega
  . obtain rfl:i=j:=by omega
    have:=linR.refl L[i].row
    omega
theorem group_next {L:List Fz} (h:Ord cmpF L) {i k:Nat} {x:Fz} (hb:Bound L i) (hx:L[i]? = some x) (hik:i<k) (hk:k<=L.length) (hs : ∀ (j:Nat) y,i<=j->j<k->L[j]? = some y->y.row=x.row) (he:k=L.length \/ ∃ y,L[k]? = some y/\y.row≠x.row):perR x.row L=((L.drop i).take (k-i)).map (λ f=>(f.fr,f.to))/\Bound L k:=by
  have hbk:Bound L k:=by
    intro y hy z hz e
    obtain ⟨j,hj⟩:=List.getElem?_of_mem hy
    obtain ⟨j2,hj2⟩:=List.getElem?_of_mem hz
    rw [List.getElem?_take] at hj
    rw [List.getElem?_drop] at hj2
    split at hj
    . rename_i hjk
      by_cases q:j<i
      . refine hb y ?_ z ?_ e
        . exact List.mem_of_getElem? (i:=j) (by rw [List.getElem?_take,if_pos q];exact hj)
        . exact List.mem_of_getElem? (i:=k+j2-i) (by rw [List.getElem?_drop,show i+(k+j2-i)=k+j2 by omega];exact hj2)
      . have e1:=hs j y (by omega) hjk hj
        have hl:=(List.getElem?_eq_some_iff.1 hj2).1
        rcases he with he | ⟨w,hw,hne⟩
        . omega
        . have a1:=row_le h (i:=i) (j:=k) (by omega) hx hw
          have a2:=row_le h (i:=k) (j:=k+j2) (by omega) hw hj2
          rw [<-e,e1] at a2
          have a3:=linR.anti x.row w.row
          have:cmpRw w.row x.row=0:=by omega
          exact hne (linR.eq _ _ this)
    . cases hj
  refine ⟨?_,hbk⟩
  have e0:L=L.take i++((L.drop i).take (k-i)++L.drop k):=by
    have e1:(L.drop i).drop (k-i)=L.drop k:=by rw [List.drop_drop];congr 1;omega
    rw [<-e1,List.take_append_drop,List.take_append_drop]
  have hxd:x∈L.drop i:=List.mem_of_getElem? (i:=0) (by rw [List.getElem?_drop];exact hx)
  have hxk:x∈L.take k:=List.mem_of_getElem? (i:=i) (by rw [List.getElem?_take,if_pos hik];exact hx)
  have h1:perR x.row (L.take i)=[]:=perR_none λ f hf=>hb f hf x hxd
  have h3:perR x.row (L.drop k)=[]:=perR_none λ f hf e=>hbk x hxk f hf e.symm
  have h2:perR x.row ((L.drop i).take (k-i))=((L.drop i).take (k-i)).map λ f=>(f.fr,f.to):=perR_all λ f hf=>by
    obtain ⟨j,hj⟩:=List.getElem?_of_mem hf
    rw [List.getElem?_take] at hj
    split at hj
    . rw [List.getElem?_drop] at hj
      exact hs (i+j) f (by omega) (by omega) hj
    . cases hj
  conv=>lhs;rw [e0]
  rw [perR_append,perR_append,h1,h2,h3,List.nil_append,List.append_nil]
def GP (L M:List Fz) (i:Nat) (out:List Fz):Prop := ∃ (R:List (List Va)) (G:List Va->List (Int×Int)),R.Nodup/\(∀ r,r∈R ↔ ∃ y∈L.take i,y.row=r)/\(∀ r∈R,Layers (cD (perR r L) (perR r M)) 0 (G r))/\out=(R.flatMap λ r=>fzs r (G r))/\out.length<=i+(M.filter λ f=>decide (f.row∈R)).length
theorem GP.zero (L M:List Fz):GP L M 0 []:=⟨[],λ _=>[],List.nodup_nil,by simp,by simp,rfl,Nat.zero_le _⟩
theorem GP.step {L M:List Fz} {i k:Nat} {out:List Fz} {x:Fz} {G2:List (Int×Int)} (h:GP L M i out) (hb:Bound L i) (hx:L[i]? = some x) (hik:i<k) (hk:k<=L.length) (hs : ∀ (j:Nat) y,i<=j->j<k->L[j]? = some y->y.row=x.row) (hper:(perR x.row L).length=k-i) (hl:Layers (cD (perR x.row L) (perR x.row M)) 0 G2) (hlen:G2.length<=(perR x.row L).length+(perR x.row M).length):GP L M k (out++fzs x.row G2):=by
  obtain ⟨R,G,h1,h2,h3,h4,h5⟩:=h
  have hxd:x∈L.drop i:=List.mem_of_getElem? (i:=0) (by rw [List.getElem?_drop];exact hx)
  have hnr:x.row∉R:=λ q=>by
    obtain ⟨y,hy,e⟩:=(h2 _).1 q
    exact hb y hy x hxd e
  refine ⟨R++[x.row],λ r=>if r=x.row then G2 else G r,?_,λ r=>?_,λ r hr=>?_,?_,?_⟩
  . rw [List.nodup_append]
    refine ⟨h1,by simp,λ a ha b hb2=>?_⟩
    rw [List.mem_singleton] at hb2
    subst hb2
    exact λ e=>hnr (e ▸ ha)
  . rw [List.mem_append,List.mem_singleton,h2]
    constructor
    . rintro (⟨y,hy,e⟩ | rfl)
      . refine ⟨y,?_,e⟩
        obtain ⟨j,hj⟩:=List.getElem?_of_mem hy
        rw [List.getElem?_take] at hj
        split at hj
        . exact List.mem_of_getElem? (i:=j) (by rw [List.getElem?_take,if_pos (by omega)];exact hj)
        . cases hj
      . exact ⟨x,List.mem_of_getElem? (i:=i) (by rw [List.getElem?_take,if_pos hik];exact hx),rfl⟩
    . rintro ⟨y,hy,e⟩
      obtain ⟨j,hj⟩:=List.getElem?_of_mem hy
      rw [List.getElem?_take] at hj
      split at hj
      . by_cases q:j<i
        . exact .inl ⟨y,List.mem_of_getElem? (i:=j) (by rw [List.getElem?_take,if_pos q];exact hj),e⟩
        . exact .inr (by rw [<-e];exact hs j y (by omega) (by omega) hj)
      . cases hj
  . rcases List.mem_append.1 hr with hr | hr
    . have hne:r≠x.row:=λ e=>hnr (e ▸ hr)
      dsimp only;rw [if_neg hne];exact h3 r hr
    . rw [List.mem_singleton] at hr
      subst hr
      dsimp only;rw [if_pos rfl];exact hl
  . rw [List.flatMap_append,h4]
    congr 1
    . refine flat_congr λ r hr=>?_
      have hne:r≠x.row:=λ e=>hnr (e ▸ hr)
      dsimp only;rw [if_neg hne]
    . simp
  . rw [List.length_append,fzs_len]
    have e1:(M.filter λ f=>decide (f.row∈R++[x.row])).length=(M.filter λ f=>decide (f.row∈R)).length+(perR x.row M).length:=by
      unfold perR
      rw [List.length_map]
      clear h5 hl hlen h3
      induction M with
      | nil=>rfl
      | cons f M ih =>
        rw [List.filter_cons,List.filter_cons,List.filter_cons]
        by_cases q:f.row=x.row
        . rw [if_pos (by simp [q]),if_neg (by simpa [q] using hnr),if_pos (by simp [q])]
          simp only [List.length_cons]
          omega
        . by_cases q2:f.row∈R
          . rw [if_pos (by simp [q2]),if_pos (by simpa using q2),if_neg (by simpa using q)]
            simp only [List.length_cons]
            omega
          . rw [if_neg (by simp [q2,q]),if_neg (by simpa using q2),if_neg (by simpa using q)]
            exact ih
    omega
theorem GP.nf {L M out out2:List Fz} (h:GP L M L.length out) (hL : ∀ f∈L,okF f=true) (hM : ∀ f∈M,okF f=true) (hp:out2.Perm out) (ho:Ord cmpF out2):NF out2 (λ r t=>cnt L r t-cnt M r t)/\out2.length<=L.length+M.length:=by
  obtain ⟨R,G,h1,h2,h3,h4,h5⟩:=h
  refine ⟨⟨ho,R,G,h1,λ r hr=>(h3 r hr).iff λ t=>by dsimp only;rw [cnt_per hL,cnt_per hM];rfl,λ r hr t=>?_,h4 ▸ hp⟩,?_⟩
  . have h0:perR r L=[]:=perR_none λ f hf e=>hr ((h2 r).2 ⟨f,by rw [List.take_length];exact hf,e⟩)
    have:=cnt_nonneg M r t
    dsimp only
    rw [cnt_per hL,h0,cntP_nil]
    omega
  . have:=List.length_filter_le (λ f:Fz=>decide (f.row∈R)) M
    rw [hp.length_eq]
    omega
end Go.Proofs.YtnnfjemaeefbiaaGreatDoor
