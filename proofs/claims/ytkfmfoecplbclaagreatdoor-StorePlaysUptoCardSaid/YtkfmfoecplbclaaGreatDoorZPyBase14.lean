/- The texts SfI SiA SfT TaA SlU TaB TaC TaD TaE HpF HeT HeU HeV HpG, one behind the other: what the law leans on. Conditions: as each theorem says. -/
import Derived.Test.YtkfmfoecplbclaaGreatDoorZPyBase13
import Derived.Shelf.SlLaysNS
import Derived.Test.YtkfmfoecplbclaaGreatDoorProg
import Derived.Shelf.SortG.Plain
import Derived.Shelf.SortG.SortNone
import Derived.Shelf.SlLaysF0
set_option linter.unusedSimpArgs false
set_option linter.unusedVariables false
set_option maxRecDepth 100000
set_option maxHeartbeats 16000000
namespace Go.Proofs
open Go.Shelf
def Tryz.sortI_ren : Go.Shelf.Ren:=⟨fun | 53=>101 | 64=>136 | 63=>135 | 78=>160 | 79=>161 | 70=>151 | 71=>152 | 72=>153 | 73=>154 | 74=>155 | 75=>156 | 59=>157 | 76=>158 | 77=>159 | 88=>177 | 89=>178 | 90=>179 | 91=>180 | 92=>181 | 68=>182 | 96=>196 | n=>n,fun | 22=>29 | 23=>2 | 3=>3 | 51=>250 | 0=>0 | 67=>208 | 69=>195 | 4=>4 | 61=>287 | 60=>286 | 44=>292 | 5=>5 | 9=>9 | 75=>308 | 79=>312 | 83=>322 | 84=>252 | n=>n,fun | n=>n⟩
theorem Tryz.sortI : Go.Proofs.SlLaysN.n53 Tryz.prog Tryz.sortI_ren:={
 mixed:=by kernel_rfl
 f53:=⟨Tryz.f101.name,by decide,Tryz.func101.trans (congrArg some (by kernel_rfl))⟩
 f59:=⟨Tryz.f157.name,by decide,Tryz.func157.trans (congrArg some (by kernel_rfl))⟩
 f63:=⟨Tryz.f135.name,by decide,Tryz.func135.trans (congrArg some (by kernel_rfl))⟩
 f64:=Tryz.func136.trans (congrArg some (by kernel_rfl))
 f68:=⟨Tryz.f182.name,by decide,Tryz.func182.trans (congrArg some (by kernel_rfl))⟩
 f70:=⟨Tryz.f151.name,by decide,Tryz.func151.trans (congrArg some (by kernel_rfl))⟩
 f71:=⟨Tryz.f152.name,by decide,Tryz.func152.trans (congrArg some (by kernel_rfl))⟩
 f72:=⟨Tryz.f153.name,by decide,Tryz.func153.trans (congrArg some (by kernel_rfl))⟩
 f73:=⟨Tryz.f154.name,by decide,Tryz.func154.trans (congrArg some (by kernel_rfl))⟩
 f74:=⟨Tryz.f155.name,by decide,Tryz.func155.trans (congrArg some (by kernel_rfl))⟩
 f75:=⟨Tryz.f156.name,by decide,Tryz.func156.trans (congrArg some (by kernel_rfl))⟩
 f76:=⟨Tryz.f158.name,by decide,Tryz.func158.trans (congrArg some (by kernel_rfl))⟩
 f77:=⟨Tryz.f159.name,by decide,Tryz.func159.trans (congrArg some (by kernel_rfl))⟩
 f78:=Tryz.func160.trans (congrArg some (by kernel_rfl))
 f79:=Tryz.func161.trans (congrArg some (by kernel_rfl))
 f88:=⟨Tryz.f177.name,by decide,Tryz.func177.trans (congrArg some (by kernel_rfl))⟩
 f89:=Tryz.func178.trans (congrArg some (by kernel_rfl))
 f90:=Tryz.func179.trans (congrArg some (by kernel_rfl))
 f91:=⟨Tryz.f180.name,by decide,Tryz.func180.trans (congrArg some (by kernel_rfl))⟩
 f92:=⟨Tryz.f181.name,by decide,Tryz.func181.trans (congrArg some (by kernel_rfl))⟩
 f96:=⟨Tryz.f196.name,by decide,Tryz.func196.trans (congrArg some (by kernel_rfl))⟩
 t0:=Tryz.underlying0
 a0:=Tryz.isAgg0
 z0:=Tryz.sizeOf0
 v0:=Tryz.zeroValue0
 t3:=Tryz.underlying3
 a3:=Tryz.isAgg3
 z3:=Tryz.sizeOf3
 v3:=Tryz.zeroValue3
 t4:=Tryz.underlying4
 a4:=Tryz.isAgg4
 z4:=Tryz.sizeOf4
 v4:=Tryz.zeroValue4
 t5:=Tryz.underlying5
 a5:=Tryz.isAgg5
 z5:=Tryz.sizeOf5
 v5:=Tryz.zeroValue5
 t9:=Tryz.underlying9
 a9:=Tryz.isAgg9
 z9:=Tryz.sizeOf9
 v9:=Tryz.zeroValue9
 t22:=Tryz.underlying29
 a22:=Tryz.isAgg29
 z22:=Tryz.sizeOf29
 v22:=Tryz.zeroValue29
 t23:=Tryz.underlying2
 a23:=Tryz.isAgg2
 z23:=Tryz.sizeOf2
 v23:=Tryz.zeroValue2
 t44:=Tryz.underlying292
 a44:=Tryz.isAgg292
 z44:=Tryz.sizeOf292
 v44:=Tryz.zeroValue292
 t51:=Tryz.underlying250
 a51:=Tryz.isAgg250
 z51:=Tryz.sizeOf250
 v51:=Tryz.zeroValue250
 t60:=Tryz.underlying286
 a60:=Tryz.isAgg286
 z60:=Tryz.sizeOf286
 v60:=Tryz.zeroValue286
 t61:=Tryz.underlying287
 a61:=Tryz.isAgg287
 z61:=Tryz.sizeOf287
 v61:=Tryz.zeroValue287
 t67:=Tryz.underlying208
 a67:=Tryz.isAgg208
 z67:=Tryz.sizeOf208
 v67:=Tryz.zeroValue208
 t69:=Tryz.underlying195
 a69:=Tryz.isAgg195
 z69:=Tryz.sizeOf195
 v69:=Tryz.zeroValue195
 t75:=Tryz.underlying308
 a75:=Tryz.isAgg308
 z75:=Tryz.sizeOf308
 v75:=Tryz.zeroValue308
 t79:=Tryz.underlying312
 a79:=Tryz.isAgg312
 z79:=Tryz.sizeOf312
 v79:=Tryz.zeroValue312
 t83:=Tryz.underlying322
 a83:=Tryz.isAgg322
 z83:=Tryz.sizeOf322
 v83:=Tryz.zeroValue322
 t84:=Tryz.underlying252
 a84:=Tryz.isAgg252
 z84:=Tryz.sizeOf252
 v84:=Tryz.zeroValue252}
end Go.Proofs
namespace Go.Proofs.YtkfmfoecplbclaaGreatDoor
open Go.RowKit Go.Shelf Go.Lib Go.Sort
abbrev sortZ (zs:List Int):List Int:=zs.mergeSort λ x y=>decide (x<=y)
theorem Fn.sortI {P:Program} {B:Wn} {ρ:Ren} (L:SlLaysN.n53 P ρ) (v:Value) (e:TypeId) (m:Nat) (zs:List Int) (hm:zs.length=m) (hb:m<2^61) (S:List Wp) (f:Nat) (hf:ρ.f 53=f) :
    Fn P B f #[v] (row v e 1 m (zs.map (Value.int .i64))::S) (λ u l=>u = .tuple #[]/\l=row v e 1 m ((sortZ zs).map (Value.int .i64))::S):=⟨λ w F ho=>by
  subst hf
  obtain ⟨p,cap,rfl,hp,hl⟩:=Own.row_slice ho
  rcases Nat.eq_zero_or_pos m with h0 | h0
  . subst h0
    obtain rfl:zs=[]:=List.eq_nil_of_length_eq_zero hm
    refine (AnyG.slices_Sort_int_none L p cap w).mono ?_
    rintro _ w' ⟨rfl,rfl⟩
    exact ⟨_,_,rfl,⟨rfl,by simp [sortZ]⟩,ho⟩
  . obtain ⟨g,rfl⟩:=hp h0
    have hsz:zs.toArray.size=m:=by simpa using hm
    obtain ⟨e1,e2⟩:=ho.row_owns
    rcases e2 with ⟨e2,_⟩ | ⟨g',cap',cur,e2,_,e3,e4,e5,e6,e7⟩
    . cases e2
    . injection e2 with e2 _ e8
      injection e2 with e2
      injection e2 with e2
      subst e2
      have hH:Holds (Value.int .i64) w g 0 zs.toArray:=λ j hj=>by
        have hlj:j<zs.length:=by simpa using hj
        have hc:cur[j]? = some (.int .i64 zs[j]):=by
          rw [<-Array.getElem?_toList]
          have:(cur.toList.take (m*1))[j]? = (zs.map (Value.int .i64))[j]? := by rw [e7]
          rw [List.getElem?_take,if_pos (by omega)] at this
          rw [this]
          simp [hlj]
        constructor
        . unfold World.cell?
          rw [e3]
          simp [hc,hlj,getElem!_pos]
        . unfold World.frozen?
          rw [e3]
          simp
      have hblk:g<w.heap.size:=Zk e3
      have h:=AnyG.slices_Sort_int L g 0 cap zs w hH hblk (by omega)
      rw [hm] at h
      refine h.mono ?_
      rintro _ w' ⟨rfl,k,os,rfl⟩
      have hso:=ho.sorted (k:=k) (sortZ zs).toArray (by simp [sortZ,hm]) os
      exact ⟨_,_,rfl,⟨rfl,rfl⟩,hso⟩⟩
theorem sortZ_perm {l m:List Int} (hp:l.Perm m) (hm:m.Pairwise (· <= ·)):sortZ l=m:=by
  have h1:(sortZ l).Pairwise (λ a b=>decide (a<=b)=true):=List.pairwise_mergeSort (by intro a b c h1 h2;simp at h1 h2 ⊢;omega) (by intro a b;simp;omega) l
  have h2:(sortZ l).Perm m:=(List.mergeSort_perm l _).trans hp
  have key : ∀ (a b:List Int),a.Perm b->a.Pairwise (· <= ·)->b.Pairwise (· <= ·)->a=b:=by
    intro a
    induction a with
    | nil=>intro b hp _ _;exact (List.nil_perm.1 hp).symm ▸ rfl
    | cons x a ih =>
      intro b hp ha hb
      cases b with
      | nil=>exact absurd hp.symm (by simp)
      | cons y b =>
        have hxy:x=y:=by
          have h1:x∈y::b:=hp.subset (List.mem_cons_self ..)
          have h2:y∈x::a:=hp.symm.subset (List.mem_cons_self ..)
          rcases List.mem_cons.1 h1 with h1 | h1
          . exact h1
          . rcases List.mem_cons.1 h2 with h2 | h2
            . exact h2.symm
            . have:=(List.pairwise_cons.1 ha).1 y h2
              have:=(List.pairwise_cons.1 hb).1 x h1
              omega
        subst hxy
        rw [ih b (hp.cons_inv) (List.pairwise_cons.1 ha).2 (List.pairwise_cons.1 hb).2]
  exact key _ _ h2 (h1.imp λ h=>by simpa using h) hm
end Go.Proofs.YtkfmfoecplbclaaGreatDoor
namespace Go.Proofs
open Go.Shelf
def Tryz.sortT_ren : Go.Shelf.Ren:=⟨fun | 6=>138 | 15=>136 | 14=>163 | 28=>160 | 29=>161 | 20=>183 | 21=>184 | 22=>185 | 23=>186 | 24=>187 | 25=>188 | 26=>189 | 27=>190 | 46=>197 | 47=>178 | 48=>179 | 49=>198 | 50=>199 | 57=>201 | n=>n,fun | 22=>85 | 24=>231 | 25=>239 | 3=>3 | 39=>250 | 0=>0 | 53=>208 | 55=>195 | 4=>4 | 46=>287 | 45=>286 | 50=>292 | 5=>5 | 9=>9 | 66=>308 | 70=>312 | 76=>322 | 77=>252 | n=>n,fun | n=>n⟩
theorem Tryz.sortT : Go.Proofs.SlLaysF0.n6 Tryz.prog Tryz.sortT_ren:={
 mixed:=by kernel_rfl
 f6:=⟨Tryz.f138.name,by decide,Tryz.func138.trans (congrArg some (by kernel_rfl))⟩
 f14:=⟨Tryz.f163.name,by decide,Tryz.func163.trans (congrArg some (by kernel_rfl))⟩
 f15:=Tryz.func136.trans (congrArg some (by kernel_rfl))
 f20:=⟨Tryz.f183.name,by decide,Tryz.func183.trans (congrArg some (by kernel_rfl))⟩
 f21:=⟨Tryz.f184.name,by decide,Tryz.func184.trans (congrArg some (by kernel_rfl))⟩
 f22:=⟨Tryz.f185.name,by decide,Tryz.func185.trans (congrArg some (by kernel_rfl))⟩
 f23:=⟨Tryz.f186.name,by decide,Tryz.func186.trans (congrArg some (by kernel_rfl))⟩
 f24:=⟨Tryz.f187.name,by decide,Tryz.func187.trans (congrArg some (by kernel_rfl))⟩
 f25:=⟨Tryz.f188.name,by decide,Tryz.func188.trans (congrArg some (by kernel_rfl))⟩
 f26:=⟨Tryz.f189.name,by decide,Tryz.func189.trans (congrArg some (by kernel_rfl))⟩
 f27:=⟨Tryz.f190.name,by decide,Tryz.func190.trans (congrArg some (by kernel_rfl))⟩
 f28:=Tryz.func160.trans (congrArg some (by kernel_rfl))
 f29:=Tryz.func161.trans (congrArg some (by kernel_rfl))
 f46:=⟨Tryz.f197.name,by decide,Tryz.func197.trans (congrArg some (by kernel_rfl))⟩
 f47:=Tryz.func178.trans (congrArg some (by kernel_rfl))
 f48:=Tryz.func179.trans (congrArg some (by kernel_rfl))
 f49:=⟨Tryz.f198.name,by decide,Tryz.func198.trans (congrArg some (by kernel_rfl))⟩
 f50:=⟨Tryz.f199.name,by decide,Tryz.func199.trans (congrArg some (by kernel_rfl))⟩
 f57:=⟨Tryz.f201.name,by decide,Tryz.func201.trans (congrArg some (by kernel_rfl))⟩
 t0:=Tryz.underlying0
 a0:=Tryz.isAgg0
 z0:=Tryz.sizeOf0
 v0:=Tryz.zeroValue0
 t3:=Tryz.underlying3
 a3:=Tryz.isAgg3
 z3:=Tryz.sizeOf3
 v3:=Tryz.zeroValue3
 t4:=Tryz.underlying4
 a4:=Tryz.isAgg4
 z4:=Tryz.sizeOf4
 v4:=Tryz.zeroValue4
 t5:=Tryz.underlying5
 a5:=Tryz.isAgg5
 z5:=Tryz.sizeOf5
 v5:=Tryz.zeroValue5
 t9:=Tryz.underlying9
 a9:=Tryz.isAgg9
 z9:=Tryz.sizeOf9
 v9:=Tryz.zeroValue9
 t22:=Tryz.underlying85
 a22:=Tryz.isAgg85
 z22:=Tryz.sizeOf85
 v22:=Tryz.zeroValue85
 t25:=Tryz.underlying239
 a25:=Tryz.isAgg239
 z25:=Tryz.sizeOf239
 v25:=Tryz.zeroValue239
 t39:=Tryz.underlying250
 a39:=Tryz.isAgg250
 z39:=Tryz.sizeOf250
 v39:=Tryz.zeroValue250
 t45:=Tryz.underlying286
 a45:=Tryz.isAgg286
 z45:=Tryz.sizeOf286
 v45:=Tryz.zeroValue286
 t46:=Tryz.underlying287
 a46:=Tryz.isAgg287
 z46:=Tryz.sizeOf287
 v46:=Tryz.zeroValue287
 t50:=Tryz.underlying292
 a50:=Tryz.isAgg292
 z50:=Tryz.sizeOf292
 v50:=Tryz.zeroValue292
 t53:=Tryz.underlying208
 a53:=Tryz.isAgg208
 z53:=Tryz.sizeOf208
 v53:=Tryz.zeroValue208
 t55:=Tryz.underlying195
 a55:=Tryz.isAgg195
 z55:=Tryz.sizeOf195
 v55:=Tryz.zeroValue195
 t66:=Tryz.underlying308
 a66:=Tryz.isAgg308
 z66:=Tryz.sizeOf308
 v66:=Tryz.zeroValue308
 t70:=Tryz.underlying312
 a70:=Tryz.isAgg312
 z70:=Tryz.sizeOf312
 v70:=Tryz.zeroValue312
 t76:=Tryz.underlying322
 a76:=Tryz.isAgg322
 z76:=Tryz.sizeOf322
 v76:=Tryz.zeroValue322
 t77:=Tryz.underlying252
 a77:=Tryz.isAgg252
 z77:=Tryz.sizeOf252
 v77:=Tryz.zeroValue252}
end Go.Proofs
namespace Go.Proofs.YtkfmfoecplbclaaGreatDoor
open Go.RowKit Go.Shelf Go.Lib Go.Sort
structure Tch where
 page:Int
 first:Int
 last:Int
instance : Inhabited Tch:=⟨⟨0,0,0⟩⟩
abbrev tchC (x:Tch):List Value:=[.int .i64 x.page,.int .i64 x.first,.int .i64 x.last]
abbrev tchV (x:Tch):Value := .agg #[.int .i64 x.page,.int .i64 x.first,.int .i64 x.last]
def cmpZ (x y:Int):Int:=if x<y then -1 else if y<x then 1 else 0
def cmpT (x y:Tch):Int:=cmpZ x.page y.page
theorem Ta.isNaN (x:Int) (W:World):Calls Tryz.prog 140 #[.int .i64 x] W λ e w'=>e = .returned (.bool false)/\w'=W:=by
 go_enter Tryz.func140,Tryz.ntmps140
 go_wp2
 go_ret
 exact ⟨by simp,rfl⟩
theorem Ta.compare (x y:Int) (W:World):Calls Tryz.prog 105 #[.int .i64 x,.int .i64 y] W λ e w'=>e = .returned (.int .i64 (cmpZ x y))/\w'=W:=by
  go_enter Tryz.func105,Tryz.ntmps105
  go_wp2_with fail
  refine (Ta.isNaN x _).mono ?_
  rintro e w' ⟨rfl,rfl⟩
  go_wp2_with fail
  refine (Ta.isNaN y _).mono ?_
  rintro e w' ⟨rfl,rfl⟩
  by_cases h1:x<y
  . go_wp2
    go_ret
    exact ⟨by simp [cmpZ,h1],rfl⟩
  . by_cases h2:y<x
    . go_wp2
      go_ret
      exact ⟨by simp [cmpZ,h1,h2],rfl⟩
    . go_wp2
      go_ret
      exact ⟨by rw [show cmpZ x y=0 by unfold cmpZ;rw [if_neg (by omega),if_neg (by omega)]];rfl,rfl⟩
theorem Ta.cmp (x y:Tch) (W:World):Calls Tryz.prog 104 #[tchV x,tchV y] W λ e w'=>e = .returned (.int .i64 (cmpT x y)) /\ ∃ q os',w'=grow (W.drewN q) os':=by
 go_enter Tryz.func104,Tryz.ntmps104
 go_wp2_with fail
 refine (Ta.compare x.page y.page _).mono ?_
 rintro e w' ⟨rfl,rfl⟩
 go_wp2
 go_ret
 exact ⟨by simp [cmpT],0,_,by rw [alloc_eq_grow,alloc_eq_grow,grow_grow];rfl⟩
theorem cmpT_lt {x y:Tch}:ltOf cmpT x y=decide (x.page<y.page):=by
 unfold ltOf cmpT cmpZ
 by_cases h1:x.page<y.page
 . simp [h1]
 . by_cases h2:y.page<x.page <;> simp [h1,h2]
theorem cmpT_swo : SWO (ltOf cmpT):=⟨λ x=>by simp [cmpT_lt],λ x y z=>by simp only [cmpT_lt,decide_eq_true_eq];omega,λ x y z=>by simp only [cmpT_lt,decide_eq_false_iff_not];omega⟩
abbrev sortT (l:List Tch):List Tch:=l.mergeSort λ x y=>decide (x.page<=y.page)
theorem sorted_uniq : ∀ {a b:List Tch},a.Perm b->(a.map (·.page)).Nodup->a.Pairwise (λ x y=>x.page<=y.page)->b.Pairwise (λ x y=>x.page<=y.page)->a=b
  | [],b,hp,_,_,_=>(List.nil_perm.1 hp).symm ▸ rfl
  | x::a,[],hp,_,_,_=>absurd hp.symm (by simp)
  | x::a,y::b,hp,hn,ha,hb=>by
    have hxy:x=y:=by
      have h1:x∈y::b:=hp.subset (List.mem_cons_self ..)
      have h2:y∈x::a:=hp.symm.subset (List.mem_cons_self ..)
      rcases List.mem_cons.1 h1 with h1 | h1
      . exact h1
      . rcases List.mem_cons.1 h2 with h2 | h2
        . exact h2.symm
        . have h3:=(List.pairwise_cons.1 ha).1 y h2
          have h4:=(List.pairwise_cons.1 hb).1 x h1
          simp only [List.map_cons,List.nodup_cons] at hn
          exact absurd (List.mem_map_of_mem (f:=(·.page)) h2) (by rw [show y.page=x.page by omega];exact hn.1)
    subst hxy
    simp only [List.map_cons,List.nodup_cons] at hn
    rw [sorted_uniq hp.cons_inv hn.2 (List.pairwise_cons.1 ha).2 (List.pairwise_cons.1 hb).2]
theorem sortT_sorted (l:List Tch):(sortT l).Pairwise (λ x y=>x.page<=y.page):=by
 have:=List.pairwise_mergeSort (le:=λ x y:Tch=>decide (x.page<=y.page)) (by intro a b c h1 h2;simp at h1 h2 ⊢;omega) (by intro a b;simp;omega) l
 exact this.imp λ h=>by simpa using h
theorem sortT_of {l m:List Tch} (hp:m.Perm l) (hn:(l.map (·.page)).Nodup) (hs:SortedIn (ltOf cmpT) 0 m.length m.toArray):m=sortT l:=by
 refine sorted_uniq (hp.trans (List.mergeSort_perm l _).symm) ((hp.map _).nodup_iff.2 hn) ?_ (sortT_sorted l)
 rw [List.pairwise_iff_getElem]
 intro i j hi hj hij
 have:=hs i j (Nat.zero_le _) hij hj
 rw [cmpT_lt] at this
 simp only [decide_eq_false_iff_not] at this
 rw [getElem!_pos m.toArray i (by simpa using hi),getElem!_pos m.toArray j (by simpa using hj)] at this
 simpa using this
open Go.RowKit
section
variable {ro : Option Nat} {P:Program} {ops:Array Oper} {Q:Exit->Act->World->Prop} {md:Region.Mode} {S:World->Prop}
def wpR (ro:Option Nat) (P:Program) (o:Oper) (a:Act) (w:World) (next:Act->World->Prop) (Q:Exit->Act->World->Prop):Prop:=o.uponIn (fen ro) 0 P a next Q ((execOp a.eval o).run P w)
theorem wpR_mono {o:Oper} {a:Act} {w:World} {K K':Act->World->Prop} (h : ∀ a w,K a w->K' a w) (hh:wpR ro P o a w K Q):wpR ro P o a w K' Q:=by
 unfold wpR at *
 generalize (execOp a.eval o).run P w=r at *
 cases r with
 | ok x w' =>
  cases x <;> simp only [Oper.uponIn] at hh ⊢ <;>
   first
    | exact h _ _ hh
    | exact ⟨hh.1,CallsIn.mono hh.2 (λ e w'' he=>by cases e <;> first | exact h _ _ he | exact he)⟩
    | exact ⟨hh.1,RowsIn.mono hh.2 (λ _ _ he=>h _ _ he)⟩
    | exact ⟨hh.1,RoundIn.mono hh.2 (λ e w'' he=>by cases e <;> first | exact h _ _ he | exact he)⟩
 | halt x w'=>cases x <;> simp only [Oper.uponIn] at hh ⊢ <;> exact hh
theorem wpIn_wpR {o:Oper} {a:Act} {w:World} {K:Act->World->Prop} (hd:noDef o=true):o.wpIn (fen ro) 0 P a w K Q↔wpR ro P o a w K Q:=by
 unfold Oper.wpIn wpR
 rw [Oper.semAt_eq _ _ _ (noDef_spec hd)]
 exact ⟨λ h=>h.2,λ h=>⟨λ _ _=>trivial,h⟩⟩
def wpOpR (ro:Option Nat) (P:Program) (ops:Array Oper) (Q:Exit->Act->World->Prop) (i:Nat) (K:Act->World->Prop) (a:Act) (w:World):Prop :=
 match ops[i]? with
 | none=>K a w
 | some o=>if Region.wanted o (yielded ops a.tmps) then wpR ro P o a w K Q else K (a.put o.dst undef) w
theorem wpOpR_mono {i:Nat} {a:Act} {w:World} {K K':Act->World->Prop} (h : ∀ a w,K a w->K' a w) (hh:wpOpR ro P ops Q i K a w):wpOpR ro P ops Q i K' a w:=by
  unfold wpOpR at *
  split
  . exact h _ _ (by simpa [*] using hh)
  . rename_i o ho
    simp only [ho] at hh
    split
    . rename_i hw;simp only [hw,if_true] at hh;exact wpR_mono h hh
    . rename_i hw;simp only [hw] at hh;exact h _ _ hh
theorem wpOpR_yields {i:Nat} {o:Oper} {v:Value} {a:Act} (hi:ops[i]? = some o) (hy:YieldsIf P ops S o v a)
  {K:Act->World->Prop} {w:World} (hS:S w) (h:K (a.put o.dst v) w):wpOpR ro P ops Q i K a w:=by
 unfold wpOpR
 simp only [hi]
 rcases hy with ⟨hw,hv⟩ | ⟨hw,rfl⟩
 . simp only [hw,if_true,wpR,hv w hS,Oper.uponIn];exact h
 . simp only [hw,Bool.false_eq_true,if_false];exact h
theorem wpOpR_putIf {j:Nat} {oi oj:Oper} {v:Value} (hj:ops[j]? = some oj) (hap:oi.apart ops oj=true)
    (hsi : ∀ cs b,oi.op ≠ .select cs b) (hsj : ∀ cs b,oj.op ≠ .select cs b)
    (hQ : ∀ c a w,Q (.panic c) (a.put oi.dst v) w->Q (.panic c) a w) {K:Act->World->Prop} {a:Act} {w:World}
    (hy:YieldsIf P ops S oi v a) (h:wpOpR ro P ops Q j K (a.put oi.dst v) w) :
    wpOpR ro P ops Q j (λ a' w'=>YieldsIf P ops S oi v a'/\K (a'.put oi.dst v) w') a w:=by
  obtain ⟨h1,h2,h3⟩:=Oper.apart_spec hap
  have keep : ∀ (a:Act),YieldsIf P ops S oi v a -> ∀ u,YieldsIf P ops S oi v (a.put oj.dst u):=λ a hy u =>
    hy.of_same (execOp_put oi hsi a oj.dst u h3) (wanted_put oi a oj.dst u h3)
  have keepD : ∀ d,YieldsIf P ops S oi v {a with defers:=d::a.defers}:=λ d=>hy.of_same rfl rfl
  unfold wpOpR at *
  simp only [hj] at *
  rw [wanted_put oj a oi.dst v h1] at h
  split
  . rename_i hw
    simp only [hw,if_true] at h
    unfold wpR at *
    rw [execOp_put oj hsj a oi.dst v h1] at h
    generalize (execOp a.eval oj).run P w=r at *
    cases r with
    | ok x w' =>
      cases x <;> simp only [Oper.uponIn] at h ⊢
      case value u=>exact ⟨keep a hy u,by rw [<-Act.put_comm a v u h2];exact h⟩
      case skip=>exact ⟨keep a hy _,by rw [<-Act.put_comm a v undef h2];exact h⟩
      case defer d =>
        refine ⟨keep _ (keepD d) _,?_⟩
        rw [<-Act.put_comm _ v undef h2,<-Act.put_defers]
        exact h
      case enter f args =>
        refine ⟨h.1,CallsIn.mono h.2 λ e w'' he=>?_⟩
        cases e with
        | returned u=>exact ⟨keep a hy u,by rw [<-Act.put_comm a v u h2];exact he⟩
        | panicked c=>exact hQ _ _ _ he
        | outgrown=>exact he
      case row row args=>exact ⟨h.1,RowsIn.mono h.2 λ u w'' he=>⟨keep a hy u,by rw [<-Act.put_comm a v u h2];exact he⟩⟩
      case round l f tmps assign body =>
        refine ⟨h.1,RoundIn.mono h.2 λ e w'' he=>?_⟩
        cases e with
        | returned u=>exact ⟨keep a hy u,by rw [<-Act.put_comm a v u h2];exact he⟩
        | panicked c=>exact hQ _ _ _ he
        | outgrown=>exact he
    | halt x w' =>
      cases x <;> simp only [Oper.uponIn] at h ⊢
      case panic u=>exact hQ _ _ _ h
  . rename_i hw
    simp only [hw] at h
    exact ⟨keep a hy _,by rw [<-Act.put_comm a v undef h2];exact h⟩
def wpTR (ro:Option Nat) (P:Program) (md:Region.Mode) (ops:Array Oper) (Q:Exit->Act->World->Prop) (n:Nat) (T:Act->World->Prop):Nat->(World->Prop)->Array Bool->Act->World->Prop
 | 0,_,listed,a,w=>listed=doneB n ops.size/\T a w
 | f+1,S,listed,a,w=>Region.ready md ops listed≠[] /\ ∀ i∈Region.ready md ops listed,i<n /\
   wpOpR ro P ops Q i (λ a' w' => ∃ S':World->Prop,(∀ u,S' u->S u)/\S' w'/\wpTR ro P md ops Q n T f S' (listed.setIfInBounds i true) a' w') a w
theorem wpTR_first {n i:Nat} {T:Act->World->Prop} {oi:Oper} {v:Value} (hi:ops[i]? = some oi) (hsel : ∀ (j:Nat) (o:Oper) cs b,ops[j]? = some o->o.op ≠ .select cs b)
    (hQ : ∀ c a w,Q (.panic c) (a.put oi.dst v) w->Q (.panic c) a w) (hd:directB md ops n=true) (hin:i<n) :
    ∀ (f:Nat) (S:World->Prop) (listed:Array Bool) (a:Act) (w:World),TailFree n ops listed ->
      (∀ j oj,ops[j]? = some oj->j≠i->listed.getD j true=false->(∀ e∈oj.after,Region.binds md e=true->e.on≠i)->oi.apart ops oj=true) ->
      i∈Region.ready md ops listed->YieldsIf P ops S oi v a->S w ->
      wpTR ro P md ops Q n T f S (listed.setIfInBounds i true) (a.put oi.dst v) w->wpTR ro P md ops Q n T (f+1) S listed a w:=by
  intro f
  induction f with
  | zero =>
    intro S listed a w ht _ hr hy hS H
    refine ⟨(λ h=>(by rw [h] at hr;cases hr)),λ j hj=>?_⟩
    have hjn:=head_only hd ht hin (mem_ready.1 hr).1 j hj
    refine ⟨hjn,?_⟩
    by_cases hji:j=i
    . subst hji;exact wpOpR_yields hi hy hS ⟨S,λ _ h=>h,hS,H⟩
    . have h1:=(mem_ready.1 hj).1
      rw [<-getD_set_ne true (Ne.symm hji),H.1,getD_doneB hjn] at h1
      cases h1
  | succ f ih =>
    intro S listed a w ht hfree hr hy hS H
    refine ⟨(λ h=>(by rw [h] at hr;cases hr)),λ j hj=>?_⟩
    have hjn:=head_only hd ht hin (mem_ready.1 hr).1 j hj
    refine ⟨hjn,?_⟩
    by_cases hji:j=i
    . subst hji;exact wpOpR_yields hi hy hS ⟨S,λ _ h=>h,hS,H⟩
    . have h1:=(H.2 j (ready_mono hj hji)).2
      obtain ⟨hjun,oj,hoj,hall⟩:=mem_ready.1 hj
      have hnot : ∀ e∈oj.after,Region.binds md e=true->e.on≠i:=λ e he hb heq=>by
        have h2:=hall e he hb
        rw [heq] at h2
        exact getD_clash (mem_ready.1 hr).1 h2
      have h2:=wpOpR_putIf (S:=S) hoj (hfree j oj hoj hji hjun hnot) (λ cs b=>hsel i oi cs b hi) (λ cs b=>hsel j oj cs b hoj) hQ hy h1
      refine wpOpR_mono (λ a' w' h3=>?_) h2
      obtain ⟨hy',S',hSS,hS',hT⟩:=h3
      refine ⟨S',hSS,hS',ih S' (listed.setIfInBounds j true) a' w' (ht.set hjn) (λ k ok hk hki hun hno=>?_) (ready_mono hr (Ne.symm hji)) (YieldsIf.weaken hy' hSS) hS' ?_⟩
      . refine hfree k ok hk hki ?_ hno
        by_cases hjk:j=k
        . subst hjk;exact hjun
        . rw [getD_set_ne true hjk] at hun;exact hun
      . rw [Array.setIfInBounds_comm _ _ hji];exact hT
theorem wpTR_take {rest:List Oper} {n i f:Nat} {S:World->Prop} {T:Act->World->Prop} {oi:Oper} {v:Value} {listed:Array Bool} {a:Act} {w:World} (hi':ops.toList.drop i=oi::rest) (hb:takeB md ops n i listed=true)
  (hQ : ∀ c a w,Q (.panic c) (a.put oi.dst v) w->Q (.panic c) a w) (hS:S w) (hy:YieldsIf P ops S oi v a)
  (h:wpTR ro P md ops Q n T f S (listed.setIfInBounds i true) (a.put oi.dst v) w):wpTR ro P md ops Q n T (f+1) S listed a w:=by
 have hi:=getElem?_of_drop hi'
 simp only [takeB,Bool.and_eq_true,decide_eq_true_eq] at hb
 obtain ⟨⟨⟨⟨⟨h1,h2⟩,h3⟩,h4⟩,h5⟩,h6⟩:=hb
 exact wpTR_first hi (Region.noSelect_spec h1) hQ h5 h4 f S listed a w (tailFreeB_spec h6) (Region.free_spec hi h2) (by simpa using h3) hy hS h
end
structure RY (P:Program) (B:Wn) (n:Nat) (ro:Option Nat) (ops:Array Oper) (m:Nat) (Φ:PostD) (ds:List Deferred) (k:Nat) (S:List Wp) (listed:Array Bool) (f:Fr) (l:List Wp):Prop where
 run : ∀ Q w,FitsD B n Φ Q->Own B w l->wpTR ro P .any ops Q m (wpListIn (fen ro) 0 P ops Q (ops.toList.drop m)) k (λ u=>Own B u S) listed (aD n f ds) w
structure RJ (P:Program) (B:Wn) (n:Nat) (ro:Option Nat) (ops:Array Oper) (m:Nat) (Φ:PostD) (ds:List Deferred) (k:Nat) (S:List Wp) (listed:Array Bool) (f:Fr) (l:List Wp) (i:Nat):Prop where
 run : ∀ Q w,FitsD B n Φ Q->Own B w l->wpOpR ro P ops Q i (λ a' w' => ∃ S':World->Prop,(∀ u,S' u->Own B u S)/\S' w'/\wpTR ro P .any ops Q m (wpListIn (fen ro) 0 P ops Q (ops.toList.drop m)) k S' (listed.setIfInBounds i true) a' w') (aD n f ds) w
section
variable {P : Program} {B:Wn} {n:Nat} {ro:Option Nat} {ops:Array Oper} {rest:List Oper} {o:Oper} {Φ:PostD} {ds:List Deferred} {f:Fr} {l:List Wp}
variable {m k:Nat} {S:List Wp} {listed:Array Bool}
theorem RY.take {rest':List Oper} {v:Value} (i:Nat) (hi:ops.toList.drop i=o::rest') (hw:want n ops f o=true) (hb:takeB .any ops m i listed=true) (hs:Sub l S) (hq:Qt P B n S o f v)
  (h:RY P B n ro ops m Φ ds k S (listed.setIfInBounds i true) (putd f o.dst v) l):RY P B n ro ops m Φ ds (k+1) S listed f l:=⟨λ Q w hf ho=>by
 refine wpTR_take hi hb (λ c a w=>hf.pk c a o.dst v w) (ho.map hs) (.inl ⟨by rw [want_aD,hw],λ w' ho'=>by rw [eval_aD];exact hq.run w' ho'⟩) ?_
 rw [put_aD]
 exact h.run Q w hf ho⟩
theorem RY.skip {rest':List Oper} (i:Nat) (hi:ops.toList.drop i=o::rest') (hw:want n ops f o=false) (hb:takeB .any ops m i listed=true) (hs:Sub l S)
  (h:RY P B n ro ops m Φ ds k S (listed.setIfInBounds i true) (putd f o.dst undef) l):RY P B n ro ops m Φ ds (k+1) S listed f l:=⟨λ Q w hf ho=>by
 refine wpTR_take hi hb (λ c a w=>hf.pk c a o.dst undef w) (ho.map hs) (.inr ⟨by rw [want_aD,hw],rfl⟩) ?_
 rw [put_aD]
 exact h.run Q w hf ho⟩
section named
variable {t : Tmp} {op:Op} {ty:TypeId} {pos:String} {af:Array Edge} {gd:Option (Nat×Bool)} {rest':List Oper} {v:Value}
theorem RY.q (i:Nat) (hi:ops.toList.drop i=⟨some t,op,ty,pos,af,gd⟩::rest') (hw:want n ops f ⟨some t,op,ty,pos,af,gd⟩=true) (hb:takeB .any ops m i listed=true) (hs:Sub l S) (hq:Qt P B n S ⟨some t,op,ty,pos,af,gd⟩ f v)
  (h:RY P B n ro ops m Φ ds k S (listed.setIfInBounds i true) (upd f t v) l):RY P B n ro ops m Φ ds (k+1) S listed f l:=RY.take i hi hw hb hs hq h
theorem RY.s (i:Nat) (hi:ops.toList.drop i=⟨some t,op,ty,pos,af,gd⟩::rest') (hw:want n ops f ⟨some t,op,ty,pos,af,gd⟩=false) (hb:takeB .any ops m i listed=true) (hs:Sub l S)
  (h:RY P B n ro ops m Φ ds k S (listed.setIfInBounds i true) (upd f t undef) l):RY P B n ro ops m Φ ds (k+1) S listed f l:=RY.skip i hi hw hb hs h
end named
theorem RY.all (is:List Nat) (hb:(decide (Region.ready .any ops listed=is) && !is.isEmpty && is.all (λ i=>decide (i<m)))=true) (h : ∀ i∈is,RJ P B n ro ops m Φ ds k S listed f l i):RY P B n ro ops m Φ ds (k+1) S listed f l:=⟨λ Q w hf ho=>by
 simp only [Bool.and_eq_true,decide_eq_true_eq,List.all_eq_true] at hb
 obtain ⟨⟨h1,h2⟩,h3⟩:=hb
 refine ⟨(λ e=>by rw [h1] at e;rw [e] at h2;simp at h2),λ i hi=>?_⟩
 rw [h1] at hi
 exact ⟨h3 i hi,(h i hi).run Q w hf ho⟩⟩
theorem RY.one (i:Nat) (hb:(decide (Region.ready .any ops listed=[i]) && decide (i<m))=true) (h:RJ P B n ro ops m Φ ds k S listed f l i):RY P B n ro ops m Φ ds (k+1) S listed f l:=by
 simp only [Bool.and_eq_true,decide_eq_true_eq] at hb
 refine RY.all [i] ?_ (List.forall_mem_cons.2 ⟨h,List.forall_mem_nil _⟩)
 simp [hb.1,hb.2]
theorem RJ.act {rest':List Oper} {i:Nat} (hi:ops.toList.drop i=o::rest') (hw:wantD n ops f o=true)
  (he:Ey P B n ro o f l λ v l'=>Sub l' S/\RY P B n ro ops m Φ ds k l' (listed.setIfInBounds i true) (putd f o.dst v) l'):RJ P B n ro ops m Φ ds k S listed f l i:=⟨λ Q w hf ho=>by
 have hi':=getElem?_of_drop hi
 unfold wpOpR
 simp only [hi']
 rw [want_aD,if_pos (wantD_spec hw).2]
 refine (wpIn_wpR (wantD_spec hw).1).1 (he.run ds w _ Q ho λ v w' l' hK ho'=>?_)
 rw [put_aD]
 exact ⟨λ u=>Own B u l',λ u hu=>hu.map hK.1,ho',hK.2.run Q w' hf ho'⟩⟩
theorem RJ.actS {rest':List Oper} {i:Nat} (hi:ops.toList.drop i=o::rest') (hw:wantD n ops f o=true)
  (he:Ey P B n ro o f l λ v l'=>Sub l' S/\RY P B n ro ops m Φ ds k S (listed.setIfInBounds i true) (putd f o.dst v) l'):RJ P B n ro ops m Φ ds k S listed f l i:=⟨λ Q w hf ho=>by
 have hi':=getElem?_of_drop hi
 unfold wpOpR
 simp only [hi']
 rw [want_aD,if_pos (wantD_spec hw).2]
 refine (wpIn_wpR (wantD_spec hw).1).1 (he.run ds w _ Q ho λ v w' l' hK ho'=>?_)
 rw [put_aD]
 exact ⟨λ u=>Own B u S,λ u hu=>hu,ho'.map hK.1,hK.2.run Q w' hf ho'⟩⟩
section named
variable {t : Tmp} {op:Op} {ty:TypeId} {pos:String} {af:Array Edge} {gd:Option (Nat×Bool)} {rest':List Oper} {i:Nat}
theorem RJ.e (hi:ops.toList.drop i=⟨some t,op,ty,pos,af,gd⟩::rest') (hw:wantD n ops f ⟨some t,op,ty,pos,af,gd⟩=true)
  (he:Ef P B n ⟨some t,op,ty,pos,af,gd⟩ f l λ v l'=>Sub l' S/\RY P B n ro ops m Φ ds k l' (listed.setIfInBounds i true) (upd f t v) l'):RJ P B n ro ops m Φ ds k S listed f l i:=RJ.act hi hw (Ey.of (wantD_spec hw).1 he)
theorem RJ.e0 (hi:ops.toList.drop i=⟨none,op,ty,pos,af,gd⟩::rest') (hw:wantD n ops f ⟨none,op,ty,pos,af,gd⟩=true)
  (he:Ef P B n ⟨none,op,ty,pos,af,gd⟩ f l λ _ l'=>Sub l' S/\RY P B n ro ops m Φ ds k l' (listed.setIfInBounds i true) f l'):RJ P B n ro ops m Φ ds k S listed f l i:=RJ.act hi hw (Ey.of (wantD_spec hw).1 he)
theorem RJ.eS (hi:ops.toList.drop i=⟨some t,op,ty,pos,af,gd⟩::rest') (hw:wantD n ops f ⟨some t,op,ty,pos,af,gd⟩=true)
  (he:Ef P B n ⟨some t,op,ty,pos,af,gd⟩ f l λ v l'=>Sub l' S/\RY P B n ro ops m Φ ds k S (listed.setIfInBounds i true) (upd f t v) l'):RJ P B n ro ops m Φ ds k S listed f l i:=RJ.actS hi hw (Ey.of (wantD_spec hw).1 he)
theorem RJ.eS0 (hi:ops.toList.drop i=⟨none,op,ty,pos,af,gd⟩::rest') (hw:wantD n ops f ⟨none,op,ty,pos,af,gd⟩=true)
  (he:Ef P B n ⟨none,op,ty,pos,af,gd⟩ f l λ _ l'=>Sub l' S/\RY P B n ro ops m Φ ds k S (listed.setIfInBounds i true) f l'):RJ P B n ro ops m Φ ds k S listed f l i:=RJ.actS hi hw (Ey.of (wantD_spec hw).1 he)
theorem RJ.y (hi:ops.toList.drop i=⟨some t,op,ty,pos,af,gd⟩::rest') (hw:wantD n ops f ⟨some t,op,ty,pos,af,gd⟩=true)
  (he:Ey P B n ro ⟨some t,op,ty,pos,af,gd⟩ f l λ v l'=>Sub l' S/\RY P B n ro ops m Φ ds k l' (listed.setIfInBounds i true) (upd f t v) l'):RJ P B n ro ops m Φ ds k S listed f l i:=RJ.act hi hw he
end named
theorem RY.done (hb:listed=doneB m ops.size) (h:LI P B n ro ops (ops.toList.drop m) Φ ds f l):RY P B n ro ops m Φ ds 0 S listed f l:=⟨λ Q w hf ho=>⟨hb,h.run Q w hf ho⟩⟩
theorem RY.split {t:Nat} {b:Bool} (hb:f t=some (.bool b)) (h1:b=true->RY P B n ro ops m Φ ds k S listed (upd f t (.bool true)) l) (h2:b=false->RY P B n ro ops m Φ ds k S listed (upd f t (.bool false)) l):RY P B n ro ops m Φ ds k S listed f l:=by
 cases b with
 | true=>have:=h1 rfl;rwa [upd_self hb] at this
 | false=>have:=h2 rfl;rwa [upd_self hb] at this
theorem RY.gT {t:Nat} {b:Bool} (hb:f t=some (.bool b)) (h:b=true) (h1:RY P B n ro ops m Φ ds k S listed (upd f t (.bool true)) l):RY P B n ro ops m Φ ds k S listed f l:=by subst h;rwa [upd_self hb] at h1
theorem RY.gF {t:Nat} {b:Bool} (hb:f t=some (.bool b)) (h:b=false) (h1:RY P B n ro ops m Φ ds k S listed (upd f t (.bool false)) l):RY P B n ro ops m Φ ds k S listed f l:=by subst h;rwa [upd_self hb] at h1
theorem RY.own (h : ∀ w,Own B w l->RY P B n ro ops m Φ ds k S listed f l):RY P B n ro ops m Φ ds k S listed f l:=⟨λ Q w hf ho=>(h w ho).run Q w hf ho⟩
theorem RY.conv {l':List Wp} (hc : ∀ w,Own B w l->Own B w l') (h:RY P B n ro ops m Φ ds k S listed f l'):RY P B n ro ops m Φ ds k S listed f l:=⟨λ Q w hf ho=>h.run Q w hf (hc w ho)⟩
end
open Go.RowKit
abbrev kI (a:Int):Value := .int .i64 a
abbrev tmA (g:Nat) (L:List (Int×Tch)):Wp:=mpA kI tchV g L
abbrev tmB (g1 gm:Nat):Wp:=blk g1 [.map (some gm)] 229
theorem Ta.okP : MapOk Tryz.prog 229 kI (tchV ⟨0,0,0⟩):=MapOk.mk3 3 231 (.int .i64) Tryz.underlying229 Tryz.underlying3 (λ _=>rfl) i64_inj
theorem Ta.elem : ElemOk Tryz.prog 85 231 3 24 := .mk' (.agg #[.int .i64 0,.int .i64 0,.int .i64 0]) Tryz.underlying85 (by kernel_rfl) rfl (by omega)
theorem Ta.values (B:Wn) (gm:Nat):Fn Tryz.prog B 103 #[.map (some gm)] [] (λ u l => ∃ g1,u = .func (.func 139) #[] #[.pointer (some ⟨g1,0,none⟩)]/\l=[tmB g1 gm]):=by
 refine Wq 4 Tryz.func103 rfl rfl (nB rfl) (λ F=>?_)
 try simp only [cA,nA]
 refine TS ?_
 refine Le (zL [_] rfl rfl ?_)
 intro g1
 refine La rfl (Ld (TS (Lq (Y4 [_] rfl) (La rfl (Ld (T.ret ?_))))))
 exact ⟨.inl rfl,_,_,res [_] rfl ⟨rvT rfl,trivial⟩,⟨_,rfl,rfl⟩,Sa⟩
theorem cut_perm {left:List (Int×Tch)} {p:Int×Tch} (hn:(left.map (·.1)).Nodup) (h:p∈left):(left.map (·.2)).Perm (p.2::(cutL left p.1).map (·.2))/\((cutL left p.1).map (·.1)).Nodup/\(cutL left p.1).length<left.length:=by
  induction left with
  | nil=>cases h
  | cons q left ih =>
    simp only [List.map_cons,List.nodup_cons] at hn
    by_cases e:q.1=p.1
    . have hq:q=p:=by
        rcases List.mem_cons.1 h with h | h
        . exact h.symm
        . exact absurd (List.mem_map_of_mem (f:=(·.1)) h) (by rw [<-e];exact hn.1)
      subst hq
      have:cutL (q::left) q.1=left:=by
        unfold cutL
        rw [List.filter_cons_of_neg (by simp),List.filter_eq_self]
        intro a ha
        simp only [decide_eq_true_eq]
        exact λ e=>hn.1 (e ▸ List.mem_map_of_mem ha)
      rw [this]
      exact ⟨List.Perm.refl _,hn.2,by simp⟩
    . have hm:p∈left:=by
        rcases List.mem_cons.1 h with rfl | h
        . exact absurd rfl e
        . exact h
      obtain ⟨i1,i2,i3⟩:=ih hn.2 hm
      have:cutL (q::left) p.1=q::cutL left p.1:=by
        unfold cutL
        rw [List.filter_cons_of_pos (by simpa using e)]
      rw [this]
      refine ⟨?_,?_,by simp;omega⟩
      . simp only [List.map_cons]
        exact (i1.cons q.2).trans (List.Perm.swap ..)
      . simp only [List.map_cons,List.nodup_cons]
        refine ⟨λ hh=>hn.1 ?_,i2⟩
        obtain ⟨a,ha,e2⟩:=List.mem_map.1 hh
        exact e2 ▸ List.mem_map_of_mem ((List.mem_filter.1 ha).1)
theorem iterT_end {gi gm:Nat} {L left:List (Int×Tch)} {l:List Wp} {k:Piece} (K:Has (rgA kI tchV gi gm L left::l) k):Has (tmA gm L::l) k:=Has.weaken (λ _ ⟨es,c,_,_,_,e1,e2,_⟩=>⟨es,c,e1,e2⟩) K
theorem Ta.iter (B:Wn) (g1 gm:Nat) (L:List (Int×Tch)):Iter Tryz.prog B 139 [.pointer (some ⟨g1,0,none⟩)] (λ x:Tch=>[tchV x]) [] [tmB g1 gm,tmA gm L] (λ pre x=>(pre++[x]).length<=L.length) (λ xs=>xs.Perm (L.map (·.2))) (λ _=>True) (λ _=>[tmB g1 gm,tmA gm L]) (λ _=>[]):=by
 intro lp J Jx K0 hs1 hs2 hY
 show Fn Tryz.prog B _ #[.func (.yield lp) #[] #[],.pointer (some ⟨g1,0,none⟩)] _ _
 refine Fn.enterM2 15 Tryz.func139 rfl rfl (nB rfl) (λ F=>?_)
 try simp only [cA,nA]
 refine TI.seq ?_
 refine TI.region (by rfl) ?_
 refine Lq (Ql rfl rfl) ?_
 refine Le (Z4 (ke:=kI) Tryz.underlying229 rfl ?_)
 rintro gi
 refine LW.own (λ w ho=>?_)
 have hnd:=ho.mapNodup gm
 clear ho
 refine Ld ?_
 refine TI.block ?_
 refine TI.loop (λ mz fz lz => ∃ (f0:Fr) (left:List (Int×Tch)) (xs:List Tch),((left.map (·.1)).Nodup/\(xs++left.map (·.2)).Perm (L.map (·.2)))/\mz=left.length/\fz=(upd (upd (upd f0 0 (.func (.yield lp) #[] #[])) 1 (.pointer (some ⟨g1,0,none⟩))) 6 (.pointer (some ⟨gi,0,none⟩)))/\lz=rgA kI tchV gi gm L left::tmB g1 gm::(J xs++F)) ?_ ?_
 . refine ⟨_,_,⟨_,L,[],⟨hnd,List.Perm.refl _⟩,rfl,U3,rfl⟩,Sa⟩
 rintro mz fz lz ⟨f0,left,xs,⟨hnd1,hperm⟩,hmz,rfl,rfl⟩
 subst mz
 have hlen:=hperm.length_eq
 simp only [List.length_append,List.length_map] at hlen
 by_cases hlf:left=[]
 .
  subst hlf
  rw [List.map_nil,List.append_nil] at hperm
  refine TI.seq ?_
  refine TI.region (by rfl) ?_
  refine Le (Z5 rfl rfl ?_)
  refine Lq (Qx rfl rfl) (Ld ?_)
  refine TI.seq ?_
  refine TI.condF rfl ?_
  refine TI.exit ?_
  exact ⟨.inr rfl,_,.nil,_,_,res [] rfl trivial,.inl ⟨xs,hperm,rfl⟩,(λ k K=>Sa k (iterT_end K))⟩
 have h1:0<left.length:=List.length_pos_iff.2 hlf
 refine TI.seq ?_
 refine TI.region (by rfl) ?_
 refine Le (Z6 (left:=left) i64_inj rfl rfl hlf ?_)
 rintro ⟨q,tq⟩ hq
 try simp only [cA,nA]
 refine Lq (Qx rfl rfl) (Ld ?_)
 refine TI.seq ?_
 obtain ⟨c1,c2,c3⟩:=cut_perm hnd1 hq
 refine TI.condT rfl ?_
 refine TI.skip ?_
 refine TI.block ?_
 refine TI.seq ?_
 refine TI.region (by rfl) ?_
 refine Lq (Z7 rfl) (Lq (YM (v:=tchV tq) rfl rfl) ?_)
 refine Le (El [.int .i64 0,.int .i64 0,.int .i64 0] (by unfold Zf;kernel_rfl) ?_)
 intro g4
 refine L0 (Es [_,_,_] rfl rfl rfl rfl (by simp) ?_)
 try simp only [splice,lC,lN,dS,cA,tS,tZ,dZ,nA,aN]
 refine Ld ?_
 refine TI.seq ?_
 refine TI.regionY ?_
 refine LI.q rfl (Qm rfl) ?_
 refine LI.q rfl (QL [_,_,_] rfl ⟨rfl,rfl,rfl,trivial⟩) ?_
 refine LI.y rfl (Ey.yield [tchV tq] (hY xs tq (by simp;omega)) rfl rfl ?_)
 rintro _ _ (⟨rfl,rfl⟩ | ⟨rfl,rfl⟩)
 .
  refine LI.q rfl (Y2 rfl) ?_
  refine LI.done ?_
  refine TI.condF rfl ?_
  refine TI.skip ?_
  refine ⟨rfl,_,?_,_,⟨_,cutL left q,xs++[tq],⟨c2,(by rw [List.append_assoc];exact ((c1.symm.append_left xs).trans hperm))⟩,rfl,U3,rfl⟩,Sa⟩
  omega
 refine LI.q rfl (Y2 rfl) ?_
 refine LI.done ?_
 refine TI.condT rfl ?_
 refine TI.ret ?_
 exact ⟨.inl rfl,_,.nil,_,_,res [] rfl trivial,.inr ⟨xs++[tq],trivial,rfl⟩,Sa⟩
open Go.RowKit
abbrev toR (p:Option Addr) (n c:Nat) (xs:List Tch):Wp:=row (.slice p n c) 231 3 n (xs.flatMap tchC)
def outT (g:Nat) (xs:List Tch):Wp:=exA λ pc:Option Addr×Nat=>sepL [blk g [.slice pc.1 xs.length pc.2] 85,toR pc.1 xs.length pc.2 xs]
theorem outT_ex {B:Wn} {g:Nat} {xs:List Tch} {l:List Wp} (w:World) (ho:Own B w (outT g xs::l)) : ∃ pc:Option Addr×Nat,Own B w (blk g [.slice pc.1 xs.length pc.2] 85::toR pc.1 xs.length pc.2 xs::l):=by
 obtain ⟨h,a,b,H⟩:=ho.has
 obtain ⟨pc,H1⟩:=Has.open_ex H
 exact ⟨pc,ho.os,ho.tape,ho.output,ho.ro,h,a,b,Has.open_sepL H1⟩
theorem outT_in {g n:Nat} {xs:List Tch} {p:Option Addr} {c:Nat} (hn:n=xs.length) {l:List Wp} {k:Piece} (H:Has (blk g [.slice p n c] 85::toR p n c xs::l) k):Has (outT g xs::l) k:=by
 subst hn
 exact Has.close_ex (p,c) (Has.close_sepL (l:=[blk g [.slice p xs.length c] 85,toR p xs.length c xs]) H)
theorem seq_start {g g1 gm:Nat} {L:List (Int×Tch)} {F:List Wp} {k:Piece} (K:Has (tmB g1 gm::tmA gm L::blk g [.slice none 0 0] 85::F) k):Has ([tmB g1 gm,tmA gm L]++[outT g []]++F) k :=
 Wt (λ _ K=>Wt (λ _ K=>outT_in (p:=none) (c:=0) (n:=0) rfl (Wt (λ _ K=>rowNilP K) K)) K) K
theorem seq_round {g n:Nat} {xs:List Tch} {x:Tch} {p:Option Addr} {c:Nat} {F:List Wp} {k:Piece} (hn:n=xs.length+1) (K:Has (blk g [.slice p n c] 85::row (.slice p n c) 231 3 n (xs.flatMap tchC++tchC x)::F) k):Has (outT g (xs++[x])::F) k:=by
 have e:xs.flatMap tchC++tchC x=(xs++[x]).flatMap tchC:=flat_snoc tchC xs x
 rw [e] at K
 exact outT_in (by simpa using hn) K
theorem Ta.append (B:Wn) (g1 gm:Nat) (L:List (Int×Tch)) (hb:L.length<2^39):Fn Tryz.prog B 162 #[.slice none 0 0,.func (.func 139) #[] #[.pointer (some ⟨g1,0,none⟩)]] [tmB g1 gm,tmA gm L] (λ u l => ∃ xs p c,xs.Perm (L.map (·.2))/\u = .slice p xs.length c/\l=[toR p xs.length c xs,tmB g1 gm,tmA gm L]):=by
 refine Fn.enterM2 13 Tryz.func162 rfl rfl (nB rfl) (λ F=>?_)
 try simp only [cA,nA]
 refine TI.seq ?_
 refine TI.region (by rfl) ?_
 refine Le (zL [_] rfl rfl ?_)
 intro g2
 refine La rfl (Ld ?_)
 refine TI.seq ?_
 refine TI.seq ?_
 refine TI.region (by rfl) ?_
 refine Lm rfl (Ld ?_)
 refine TI.block ?_
 refine TI.conv (l':=[tmB g1 gm,tmA gm L]++[outT g2 []]++F) (λ w ho=>ho.map λ k K=>seq_start (Sa k K)) ?_
 simp only [List.cons_append,List.nil_append]
 refine TI.rangeL (λ xs=>[outT g2 xs]) (λ _ _=>[pu False]) (_) rfl (Ta.iter B g1 gm L) rfl (entersOf Tryz.func139 rfl rfl) (λ _=>rfl) ([tmB g1 gm,tmA gm L,outT g2 []]) rfl ?_ ?_ ?_
 .
  rintro lp xs x F0 hG
  simp only [List.zip_cons_cons,List.zip_nil_right,List.zip_nil_left,pjs,List.cons_append,List.nil_append]
  refine TI.region (by rfl) ?_
  refine Le (El [.int .i64 0,.int .i64 0,.int .i64 0] (by unfold Zf;kernel_rfl) ?_)
  intro g5
  refine L0 (Es [_,_,_] rfl rfl rfl rfl (by simp) ?_)
  try simp only [splice,lC,lN,dS,cA,tS,tZ,dZ,nA,aN]
  refine Ld ?_
  refine ⟨rfl,rfl,[blk g5 (tchC x) 231,outT g2 xs],Sa,λ F1=>?_⟩
  try simp only [cA,nA]
  refine TI.ex (l':=λ pc:Option Addr×Nat=>blk g2 [.slice pc.1 xs.length pc.2] 85::toR pc.1 xs.length pc.2 xs::blk g5 (tchC x) 231::F1) (λ w ho=>outT_ex w (ho.map Sa)) (λ pc=>?_)
  obtain ⟨p,c⟩:=pc
  have hxl:xs.length+1<=L.length:=by have:=hG;simp at this;omega
  refine TI.block ?_
  refine TI.region (by rfl) ?_
  iterate 2 refine Lz ?_
  refine Le (zK [_,_,_] (e:=231) (sz:=3) ⟨.agg #[.int .i64 0,.int .i64 0,.int .i64 0],by kernel_rfl,rfl⟩ rfl rfl rfl ?_)
  intro g10
  refine Le (Ea Ta.elem rfl rfl (SrcOf.blk (by kernel_rfl) rfl (by simp [Value.oneCell'])) (by unfold maxLen;omega) ?_)
  rintro p4 c4 hp4
  try simp only [cA,nA]
  refine L0 (E1 (by kernel_rfl) rfl rfl rfl (by first | (simp;done) | (simp;omega)) ?_)
  try simp only [List.set_cons_zero,List.set_cons_succ]
  refine Ld ?_
  refine ⟨rfl,?_⟩
  try simp only [cA,nA]
  exact λ k K=>seq_round (p:=p4) (c:=c4) rfl (Sa k K)
 .
  rintro D xs hS
  try simp only [List.cons_append,List.nil_append,List.append_nil]
  refine TI.ex (l':=λ pc:Option Addr×Nat=>blk g2 [.slice pc.1 xs.length pc.2] 85::toR pc.1 xs.length pc.2 xs::tmB g1 gm::tmA gm L::objA D (.deferred (some []))::F) (λ w ho=>outT_ex w (ho.map Sa)) (λ pc=>?_)
  obtain ⟨p,c⟩:=pc
  refine TI.seq ?_
  refine TI.region (by rfl) ?_
  iterate 2 refine Lz ?_
  refine Ld ?_
  refine TI.ret ?_
  exact ⟨.inl rfl,_,Marks.one,_,_,res [_] rfl ⟨rvT rfl,trivial⟩,⟨xs,p,c,hS,rfl,rfl⟩,Sa⟩
 rintro D c xs hS
 exact TI.own λ w ho=>by obtain ⟨_,_,_,H⟩:=ho.has;exact (Has.open_pu H.tail).1.elim
theorem Ta.collect (B:Wn) (g1 gm:Nat) (L:List (Int×Tch)) (hb:L.length<2^39):Fn Tryz.prog B 137 #[.func (.func 139) #[] #[.pointer (some ⟨g1,0,none⟩)]] [tmB g1 gm,tmA gm L] (λ u l => ∃ xs p c,xs.Perm (L.map (·.2))/\u = .slice p xs.length c/\l=[toR p xs.length c xs,tmB g1 gm,tmA gm L]):=by
 refine Wq 5 Tryz.func137 rfl rfl (nB rfl) (λ F=>?_)
 try simp only [cA,nA]
 refine TS (La rfl (Ld (TS (Lm rfl ?_))))
 refine Le (Ec (Ta.append B g1 gm L hb) Tryz.func162 rfl rfl rfl ?_)
 rintro _ _ ⟨xs,p,c,hp,rfl,rfl⟩
 try simp only [cA,nA]
 refine La rfl (Ld (T.ret ?_))
 exact ⟨.inl rfl,_,_,res [_] rfl ⟨rvT rfl,trivial⟩,⟨xs,p,c,hp,rfl,rfl⟩,Sa⟩
theorem Ta.sort (B:Wn) (p:Option Addr) (n c:Nat) (xs:List Tch) (hn:xs.length=n) (hb:n<2^40) (hd:(xs.map (·.page)).Nodup):Fn Tryz.prog B 138 #[.slice p n c,.func (.func 104) #[] #[]] [toR p n c xs] (λ u l=>u = .tuple #[]/\l=[toR p n c (sortT xs)]):=by
 refine (Fn.sortK Tryz.sortT 3 (λ w=>by kernel_rfl) (λ w=>by kernel_rfl) tchC (λ _=>rfl) (λ x v hv=>by simp at hv;rcases hv with rfl | rfl | rfl <;> rfl) cmpT cmpT_swo 104 231 (entersOf Tryz.func104 rfl rfl) (.slice p n c) n xs hn (by omega) [] (λ x y W _=>Ta.cmp x y W) 138 rfl).mono ?_
 rintro u l ⟨rfl,ds,h1,h2,rfl⟩
 have hl:ds.length=n:=by rw [h1.length_eq,hn]
 rw [<-hl] at h2
 rw [sortT_of h1 hd h2]
 exact ⟨rfl,rfl⟩
open Go.RowKit
structure An where
 cm:List (Int×Int)
 done:List (Int×Int)
 seen:List (Int×Int)
 pages:List (Int×Tch)
 last:Int
abbrev bumpI (L:List (Int×Int)) (k:Int):List (Int×Int):=putL L k (IntKind.i64.wrap ((Zy L k).getD 0+1))
def anStep (a:An) (x:En×Int):An :=
 if x.1.kind=3 then {a with last:=max a.last x.1.txn,seen:=bumpI a.seen x.1.txn,cm:=if (Zy a.done x.1.txn).getD 0=0 then a.cm++[(x.1.txn,x.1.stamp)] else a.cm,done:=bumpI a.done x.1.txn}
 else {a with last:=max a.last x.1.txn,seen:=bumpI a.seen x.1.txn,pages:=putL a.pages x.1.page { (match Zy a.pages x.1.page with | some p=>p | none=>⟨x.1.page,x.2,0⟩) with last:=x.2} }
def anRun (l:List (En×Int)):An:=l.foldl anStep ⟨[],[],[],[],0⟩
def losersA (a:An):List Int:=sortZ ((a.seen.map (·.1)).filter λ t=>decide ((Zy a.done t).getD 0=0))
def pagesT (a:An):List Tch:=sortT (a.pages.map (·.2))
theorem anRun_snoc {l:List (En×Int)} {i:Nat} {x:En×Int} (h:l[i]? = some x):anRun (l.take (i+1))=anStep (anRun (l.take i)) x:=by
 obtain ⟨hi,rfl⟩:=List.getElem?_eq_some_iff.1 h
 unfold anRun
 rw [List.take_succ_eq_append_getElem hi,List.foldl_append]
 rfl
def PgKey (L:List (Int×Tch)):Prop := ∀ p∈L,p.2.page=p.1
theorem mem_putL {α β:Type} [DecidableEq α] {k:α} {v:β} : ∀ {L:List (α×β)} {p:α×β},p∈putL L k v->p=(k,v)\/p∈L
  | [],p,h=>by simp [putL] at h;exact .inl h
  | q::L,p,h=>by
    unfold putL at h
    split at h
    . rcases List.mem_cons.1 h with h | h
      . exact .inl h
      . exact .inr (List.mem_cons_of_mem _ h)
    . rcases List.mem_cons.1 h with h | h
      . exact .inr (h ▸ List.mem_cons_self ..)
      . exact (mem_putL h).imp id (List.mem_cons_of_mem _)
theorem putL_length {α β:Type} [DecidableEq α] {k:α} {v:β} : ∀ {L:List (α×β)},(putL L k v).length<=L.length+1
 | []=>by simp [putL]
 | q::L=>by
  unfold putL
  split
  . simp
  . have:=putL_length (k:=k) (v:=v) (L:=L);simp;omega
theorem an_keys (l:List (En×Int)):PgKey (anRun l).pages/\(anRun l).pages.length<=l.length/\(anRun l).seen.length<=l.length/\(anRun l).cm.length<=l.length:=by
  have key : ∀ (l:List (En×Int)) (a:An),PgKey a.pages->PgKey (l.foldl anStep a).pages/\(l.foldl anStep a).pages.length<=a.pages.length+l.length/\(l.foldl anStep a).seen.length<=a.seen.length+l.length/\(l.foldl anStep a).cm.length<=a.cm.length+l.length:=by
    intro l
    induction l with
    | nil=>intro a h;exact ⟨h,by simp,by simp,by simp⟩
    | cons x l ih =>
      intro a h
      have hs:PgKey (anStep a x).pages/\(anStep a x).pages.length<=a.pages.length+1/\(anStep a x).seen.length<=a.seen.length+1/\(anStep a x).cm.length<=a.cm.length+1:=by
        unfold anStep
        by_cases hk:x.1.kind=3
        . rw [if_pos hk]
          refine ⟨h,by dsimp only;omega,putL_length,?_⟩
          dsimp only
          split <;> simp
        . rw [if_neg hk]
          refine ⟨λ p hp=>?_,putL_length,putL_length,by dsimp only;omega⟩
          rcases mem_putL hp with rfl | hp
          . dsimp only
            cases hq:Zy a.pages x.1.page with
            | none=>rfl
            | some q=>exact h _ (lookL_mem hq)
          . exact h p hp
      obtain ⟨i1,i2,i3,i4⟩:=ih (anStep a x) hs.1
      simp only [List.foldl_cons,List.length_cons]
      exact ⟨i1,by omega,by omega,by omega⟩
  have:=key l ⟨[],[],[],[],0⟩ (λ p hp=>by cases hp)
  simpa [anRun] using this
theorem sortZ_same {a b:List Int} (h:a.Perm b):sortZ a=sortZ b:=by
 refine sortZ_perm (h.trans (List.mergeSort_perm b _).symm) ?_
 have:=List.pairwise_mergeSort (le:=λ x y:Int=>decide (x<=y)) (by intro a b c h1 h2;simp at h1 h2 ⊢;omega) (by intro a b;simp;omega) b
 exact this.imp λ h=>by simpa using h
theorem sortT_same {a b:List Tch} (h:a.Perm b) (hn:(b.map (·.page)).Nodup):sortT a=sortT b :=
 sorted_uniq ((List.mergeSort_perm a _).trans (h.trans (List.mergeSort_perm b _).symm)) ((((List.mergeSort_perm a _).trans h).map _).nodup_iff.2 hn) (sortT_sorted a) (sortT_sorted b)
theorem pages_nodup {L:List (Int×Tch)} (h:PgKey L) (hn:(L.map (·.1)).Nodup):((L.map (·.2)).map (·.page)).Nodup:=by
 rw [List.map_map]
 have:L.map ((λ x:Tch=>x.page) ∘ λ x=>x.2)=L.map (·.1):=List.map_congr_left λ p hp=>h p hp
 rw [this];exact hn
theorem Ta.sorted (B:Wn) (g1 gm:Nat) (L:List (Int×Tch)) (hb:L.length<2^39) (hk:PgKey L) (hn:(L.map (·.1)).Nodup):Fn Tryz.prog B 102 #[.func (.func 139) #[] #[.pointer (some ⟨g1,0,none⟩)],.func (.func 104) #[] #[]] [tmB g1 gm,tmA gm L] (λ u l => ∃ p c,u = .slice p L.length c/\l=[toR p L.length c (sortT (L.map (·.2))),tmB g1 gm,tmA gm L]):=by
 have hpn:=pages_nodup hk hn
 refine Wr 12 Tryz.func102 rfl rfl (nB rfl) (λ F=>?_)
 try simp only [cA,nA]
 refine TS (La rfl (Ld (TS (Lm rfl ?_))))
 refine Le (Ec (Ta.collect B g1 gm L hb) Tryz.func137 rfl rfl rfl ?_)
 rintro _ _ ⟨xs,p,c,hp,rfl,rfl⟩
 try simp only [cA,nA]
 have hl:xs.length=L.length:=by rw [hp.length_eq,List.length_map]
 rw [hl]
 refine La rfl (Ld (TS (Lm rfl (Lm rfl ?_))))
 refine Le (Ec (Ta.sort B p L.length c xs hl (by omega) ((hp.map _).nodup_iff.2 hpn)) Tryz.func138 rfl rfl rfl ?_)
 rintro _ _ ⟨rfl,rfl⟩
 try simp only [cA,nA]
 rw [sortT_same hp hpn]
 refine Ld (TS (Lm rfl (La rfl (Ld (T.ret ?_)))))
 exact ⟨.inl rfl,_,_,res [_] rfl ⟨rvT rfl,trivial⟩,⟨p,c,rfl,rfl⟩,Sa⟩
open Go.RowKit
structure EnM where
 e:En
 p:Option Addr
 c:Nat
abbrev emC (x:EnM):List Value:=enC x.e x.p x.c
abbrev emR (p:Option Addr) (n c:Nat) (l:List EnM):Wp:=row (.slice p n c) 166 6 n (l.flatMap emC)
abbrev mkR (p:Option Addr) (n c:Nat) (l:List Int):Wp:=row (.slice p n c) 2 1 n (l.map kI)
abbrev mSI (g:Nat) (L:List (Int×Int)):Wp:=mpA kI kI g L
theorem Ta.okI : MapOk Tryz.prog 133 kI (kI 0):=MapOk.mk3 2 3 (.int .i64) Tryz.underlying133 Tryz.underlying2 (λ _=>rfl) i64_inj
theorem Ta.elemL : ElemOk Tryz.prog 29 2 1 8 := .mk' (.int .i64 0) Tryz.underlying29 (by kernel_rfl) rfl (by omega)
theorem perm_cutI {left:List (Int×Int)} {p:Int×Int} (hn:(left.map (·.1)).Nodup) (h:p∈left):(left.map (·.1)).Perm (p.1::(cutL left p.1).map (·.1))/\((cutL left p.1).map (·.1)).Nodup/\(cutL left p.1).length<left.length:=by
  induction left with
  | nil=>cases h
  | cons q left ih =>
    simp only [List.map_cons,List.nodup_cons] at hn
    by_cases e:q.1=p.1
    . have hq:q=p:=by
        rcases List.mem_cons.1 h with h | h
        . exact h.symm
        . exact absurd (List.mem_map_of_mem (f:=(·.1)) h) (by rw [<-e];exact hn.1)
      subst hq
      have:cutL (q::left) q.1=left:=by
        unfold cutL
        rw [List.filter_cons_of_neg (by simp),List.filter_eq_self]
        intro a ha
        simp only [decide_eq_true_eq]
        exact λ e=>hn.1 (e ▸ List.mem_map_of_mem ha)
      rw [this]
      exact ⟨List.Perm.refl _,hn.2,by simp⟩
    . have hm:p∈left:=by
        rcases List.mem_cons.1 h with rfl | h
        . exact absurd rfl e
        . exact h
      obtain ⟨i1,i2,i3⟩:=ih hn.2 hm
      have:cutL (q::left) p.1=q::cutL left p.1:=by
        unfold cutL
        rw [List.filter_cons_of_pos (by simpa using e)]
      rw [this]
      refine ⟨?_,?_,by simp;omega⟩
      . simp only [List.map_cons]
        exact (i1.cons q.1).trans (List.Perm.swap ..)
      . simp only [List.map_cons,List.nodup_cons]
        refine ⟨λ hh=>hn.1 ?_,i2⟩
        obtain ⟨a,ha,e2⟩:=List.mem_map.1 hh
        exact e2 ▸ List.mem_map_of_mem ((List.mem_filter.1 ha).1)
theorem filt_perm {f:Int->Bool} {acc b c:List Int} {q:Int} (h:b.Perm (q::c)):(acc++b.filter f).Perm (acc++(if f q=true then [q] else [])++c.filter f):=by
 rw [List.append_assoc]
 refine List.Perm.append_left acc ?_
 have:=h.filter f
 rw [List.filter_cons] at this
 split
 . rename_i hf;rw [if_pos hf] at this;exact this
 . rename_i hf;rw [if_neg hf] at this;exact this
abbrev lostB (a:An) (t:Int):Bool:=decide ((Zy a.done t).getD 0=0)
def AnR (es:List EnM) (ms:List Int) (pe pm:Option Addr) (ne ce cm:Nat) (u:Value) (l:List Wp):Prop := ∃ (p1 p2 p3:Option Addr) (c1 c2 c3:Nat),u = .agg #[.slice p1 (anRun ((es.map (·.e)).zip ms)).cm.length c1,.slice p2 (losersA (anRun ((es.map (·.e)).zip ms))).length c2,.slice p3 (pagesT (anRun ((es.map (·.e)).zip ms))).length c3,.int .i64 (anRun ((es.map (·.e)).zip ms)).last] /\
 l=[cmR p1 (anRun ((es.map (·.e)).zip ms)).cm.length c1 (anRun ((es.map (·.e)).zip ms)).cm,mkR p2 (losersA (anRun ((es.map (·.e)).zip ms))).length c2 (losersA (anRun ((es.map (·.e)).zip ms))),toR p3 (pagesT (anRun ((es.map (·.e)).zip ms))).length c3 (pagesT (anRun ((es.map (·.e)).zip ms))),emR pe ne ce es,mkR pm ne cm ms]
theorem Ta.analyse (B:Wn) (es:List EnM) (ms:List Int) (pe pm:Option Addr) (ne ce cm:Nat) (hne:es.length=ne) (hnm:ms.length=ne) (hb:ne<2^32) :
  Fn Tryz.prog B 51 #[.slice pe ne ce,.slice pm ne cm] [emR pe ne ce es,mkR pm ne cm ms] (AnR es ms pe pm ne ce cm):=by
 unfold AnR
 obtain ⟨Z,hZ⟩ : ∃ Z,(es.map (·.e)).zip ms=Z:=⟨_,rfl⟩
 have hZl:Z.length=ne:=by rw [<-hZ];simp [hne,hnm]
 rw [hZ]
 refine Wr 111 Tryz.func51 rfl rfl (nB rfl) (λ F=>?_)
 try simp only [cA,nA]
 refine T.own λ w0 ho0=>?_
 have hpe:=(ho0.slice_at (p:=pe) (m:=ne) (c:=ce)).2.1
 have hpm:=(ho0.slice_at (p:=pm) (m:=ne) (c:=cm)).2.1
 clear ho0
 refine TS ?_
 refine Le (El [.slice none 0 0,.slice none 0 0,.slice none 0 0,.int .i64 0] (by unfold Zf;kernel_rfl) ?_)
 intro g4
 refine Ld (TS ?_)
 refine Le (El [.slice none 0 0,.slice none 0 0,.slice none 0 0,.int .i64 0] (by unfold Zf;kernel_rfl) ?_)
 intro g5
 refine Ld (TS ?_)
 refine Le (YD Int Int kI kI ?_)
 rintro gd
 refine La rfl (Ld (TS ?_))
 refine Le (YD Int Int kI kI ?_)
 rintro gs
 refine La rfl (Ld (TS ?_))
 refine Le (YD Int Tch kI tchV ?_)
 rintro gp
 refine La rfl (Ld (Ts (TS ?_)))
 iterate 3 refine Lz ?_
 refine Ld (yH (T.conv (l':=cmR none 0 0 []::tmA gp []::mSI gs []::mSI gd []::blk g5 [.slice none 0 0,.slice none 0 0,.slice none 0 0,.int .i64 0] 87::blk g4 [.slice none 0 0,.slice none 0 0,.slice none 0 0,.int .i64 0] 87::emR pe ne ce es::mkR pm ne cm ms::F) (λ w ho=>ho.row_nil _ _) ?_))
 refine zG (λ mz fz lz => ∃ (f0:Fr) (i:Nat) (a:An) (p1:Option Addr) (c1 nc:Nat),(i<=ne/\a=anRun (Z.take i)/\nc=a.cm.length)/\mz=ne-i/\fz=(upd (upd (upd (upd (upd (upd (upd (upd (upd (upd f0 0 (.slice pe ne ce)) 1 (.slice pm ne cm)) 4 (.pointer (some ⟨g4,0,none⟩))) 5 (.pointer (some ⟨g5,0,none⟩))) 6 (.map (some gd))) 7 (.map (some gs))) 8 (.map (some gp))) 18 (.slice pe ne ce)) 19 (.int .i64 ne)) 20 (.int .i64 i))/\lz=cmR p1 nc c1 a.cm::tmA gp a.pages::mSI gs a.seen::mSI gd a.done::blk g5 [.slice p1 nc c1,.slice none 0 0,.slice none 0 0,.int .i64 a.last] 87::blk g4 [.slice none 0 0,.slice none 0 0,.slice none 0 0,.int .i64 0] 87::emR pe ne ce es::mkR pm ne cm ms::F) ?_ ?_
 . refine ⟨_,_,⟨_,0,⟨[],[],[],[],0⟩,none,0,0,⟨Nat.zero_le _,rfl,rfl⟩,rfl,U10,rfl⟩,Sa⟩
 rintro mz fz lz ⟨f0,i,a,p1,c1,nc,⟨hi,ha,hnc⟩,hmz,rfl,rfl⟩
 subst mz
 have hkeys:=an_keys (Z.take i)
 rw [<-ha] at hkeys
 obtain ⟨hk1,hk2,hk3,hk4⟩:=hkeys
 have hZi:(Z.take i).length=i:=by rw [List.length_take];omega
 refine TS (Lq (yM rfl rfl) (Ld (Ts ?_)))
 refine yN rfl (λ hlt=>?_) (λ hlt=>?_)
 .
  obtain ⟨ge,rfl⟩:=hpe (by omega)
  obtain ⟨gm2,rfl⟩:=hpm (by omega)
  obtain ⟨x,hx⟩ : ∃ x,es[i]'(by omega)=x:=⟨_,rfl⟩
  obtain ⟨m,hm⟩ : ∃ m,ms[i]'(by omega)=m:=⟨_,rfl⟩
  have hz:Z[i]? = some (x.e,m):=by rw [<-hZ,List.getElem?_zip_eq_some];exact ⟨by rw [List.getElem?_map,List.getElem?_eq_getElem (by omega),hx];rfl,by rw [List.getElem?_eq_getElem (by omega),hm]⟩
  have hstep:=anRun_snoc hz
  rw [<-ha] at hstep
  refine Tk (Ts (yH (TS ?_)))
  iterate 2 refine Lz ?_
  refine Lq (QL [.int .i64 x.e.kind,.int .i64 x.e.txn,.int .i64 x.e.page,.int .i64 x.e.slot,.int .i64 x.e.stamp,.slice x.p x.e.data.length x.c] rfl (by rw [show [Value.int .i64 x.e.kind,.int .i64 x.e.txn,.int .i64 x.e.page,.int .i64 x.e.slot,.int .i64 x.e.stamp,.slice x.p x.e.data.length x.c]=emC (es[i]'(by omega)) by rw [hx]];exact rdl_flat _ _ _ (by intros;rfl) _ (by omega))) ?_
  refine Le (El [.int .i64 0,.int .i64 0,.int .i64 0,.int .i64 0,.int .i64 0,.slice none 0 0] (by unfold Zf;kernel_rfl) ?_)
  intro g10
  refine La rfl ?_
  refine L0 (Es [_,_,_,_,_,_] rfl rfl rfl rfl (by simp) ?_)
  try simp only [splice,lC,lN,dS,cA,tS,tZ,dZ,nA,aN]
  refine Ld (TS (La rfl (Ld (Ts (TS ?_)))))
  iterate 4 refine Lz ?_
  refine Ld (zM rfl (TR ?_))
  iterate 3 refine Lz ?_
  refine Lq (Ql (v:=kI m) rfl (by rw [map_at _ _ _ (by omega),hm])) (La rfl (Ld (TS ?_)))
  iterate 4 refine Lz ?_
  refine Lq (YP rfl rfl) (Lq (Qf (off:=3) rfl) ?_)
  refine L0 (E1 (by kernel_rfl) rfl rfl rfl (by first | (simp;done) | (simp;omega)) ?_)
  try simp only [List.set_cons_zero,List.set_cons_succ]
  refine Ld (TS ?_)
  iterate 3 refine Lz ?_
  refine Lq (zT Ta.okI rfl x.e.txn rfl 0 rfl) (Lq (Qd rfl rfl rfl) ?_)
  refine L0 (Y0 Ta.okI rfl x.e.txn rfl (IntKind.i64.wrap ((Zy a.seen x.e.txn).getD 0+1)) rfl ?_)
  refine Ld (Ts (TS ?_))
  iterate 3 refine Lz ?_
  refine Ld ?_
  refine yN rfl (λ h3=>?_) (λ h3=>?_)
  .
   refine Ts (TS ?_)
   iterate 3 refine Lz ?_
   refine Lq (zT Ta.okI rfl x.e.txn rfl 0 rfl) (Lq (yU rfl rfl) (Ld ?_))
   refine yN rfl (λ hd0=>?_) (λ hd0=>?_)
   .
    refine TR ?_
    iterate 6 refine Lz ?_
    refine Lq (z8 [(0,1),(1,1)] [.int .i64 0,.int .i64 0] [_,_] [(0,_),(1,_)] (by unfold Zf;kernel_rfl) rfl rfl) ?_
    refine Le (zK [_,_] (e:=94) (sz:=2) ⟨.agg #[.int .i64 0,.int .i64 0],by kernel_rfl,rfl⟩ rfl rfl rfl ?_)
    intro g59
    refine Le (Ea Hp.elemC rfl rfl (SrcOf.blk (by kernel_rfl) rfl (by simp [Value.oneCell'])) (by unfold maxLen;omega) ?_)
    rintro p2 c2 hp2
    try simp only [cA,nA]
    rw [flat_snoc stC a.cm (x.e.txn,x.e.stamp)]
    refine Lq (Q0 (by kernel_rfl) rfl) ?_
    refine L0 (E1 (by kernel_rfl) rfl rfl rfl (by first | (simp;done) | (simp;omega)) ?_)
    try simp only [List.set_cons_zero,List.set_cons_succ]
    refine Ld (TS ?_)
    iterate 3 refine Lz ?_
    refine Lq (zT Ta.okI rfl x.e.txn rfl 0 rfl) (Lq (Qd rfl rfl rfl) ?_)
    refine L0 (Y0 Ta.okI rfl x.e.txn rfl (IntKind.i64.wrap ((Zy a.done x.e.txn).getD 0+1)) rfl ?_)
    refine Ld (zB (TR ?_))
    iterate 2 refine Lz ?_
    refine Ld ?_
    refine ⟨_,?_,_,⟨_,i+1,{a with last:=max a.last x.e.txn,seen:=bumpI a.seen x.e.txn,cm:=a.cm++[(x.e.txn,x.e.stamp)],done:=bumpI a.done x.e.txn},p2,c2,nc+1,⟨by omega,by rw [hstep];unfold anStep;rw [if_pos h3,if_pos hd0],by simp [hnc]⟩,rfl,U10,rfl⟩,Sa⟩
    omega
   refine Tk (TS ?_)
   iterate 3 refine Lz ?_
   refine Lq (zT Ta.okI rfl x.e.txn rfl 0 rfl) (Lq (Qd rfl rfl rfl) ?_)
   refine L0 (Y0 Ta.okI rfl x.e.txn rfl (IntKind.i64.wrap ((Zy a.done x.e.txn).getD 0+1)) rfl ?_)
   refine Ld (zB (TR ?_))
   iterate 2 refine Lz ?_
   refine Ld ?_
   refine ⟨_,?_,_,⟨_,i+1,{a with last:=max a.last x.e.txn,seen:=bumpI a.seen x.e.txn,done:=bumpI a.done x.e.txn},p1,c1,nc,⟨by omega,by rw [hstep];unfold anStep;rw [if_pos h3,if_neg hd0],hnc⟩,rfl,U10,rfl⟩,Sa⟩
   omega
  by_cases hlp:Zy a.pages x.e.page=none
  .
   refine Tk (TS ?_)
   iterate 3 refine Lz ?_
   refine Lq (ZM Ta.okP rfl x.e.page rfl hlp) ?_
   iterate 3 refine Lz ?_
   refine Le (El [.int .i64 0,.int .i64 0,.int .i64 0] (by unfold Zf;kernel_rfl) ?_)
   intro g12
   refine L0 (Es [_,_,_] rfl rfl rfl rfl (by simp) ?_)
   try simp only [splice,lC,lN,dS,cA,tS,tZ,dZ,nA,aN]
   refine La rfl (Ld (Ts (TS (Lm rfl (Lq (Y2 rfl) (Ld (zF rfl (TR ?_))))))))
   iterate 3 refine Lz ?_
   refine Lq (z8 [(0,1),(1,1),(2,1)] [.int .i64 0,.int .i64 0,.int .i64 0] [_,_,_] [(0,_),(1,_)] (by unfold Zf;kernel_rfl) rfl rfl) ?_
   refine L0 (Es [_,_,_] rfl rfl rfl rfl (by simp) ?_)
   try simp only [splice,lC,lN,dS,cA,tS,tZ,dZ,nA,aN]
   refine Ld (TS ?_)
   iterate 2 refine Lz ?_
   refine L0 (E1 (by kernel_rfl) rfl rfl rfl (by first | (simp;done) | (simp;omega)) ?_)
   try simp only [List.set_cons_zero,List.set_cons_succ]
   refine Ld (TR ?_)
   iterate 4 refine Lz ?_
   refine L0 (Y0 Ta.okP rfl x.e.page rfl ⟨x.e.page,m,m⟩ rfl ?_)
   refine Ld (TR ?_)
   iterate 2 refine Lz ?_
   refine Ld ?_
   refine ⟨_,?_,_,⟨_,i+1,{a with last:=max a.last x.e.txn,seen:=bumpI a.seen x.e.txn,pages:=putL a.pages x.e.page ⟨x.e.page,m,m⟩},p1,c1,nc,⟨by omega,by rw [hstep];unfold anStep;rw [if_neg h3,hlp],hnc⟩,rfl,U10,rfl⟩,Sa⟩
   omega
  obtain ⟨pg,hpg⟩:=Option.ne_none_iff_exists'.1 hlp
  refine Tk (TS ?_)
  iterate 3 refine Lz ?_
  refine Lq (ZL Ta.okP rfl x.e.page rfl hpg) ?_
  iterate 3 refine Lz ?_
  refine Le (El [.int .i64 0,.int .i64 0,.int .i64 0] (by unfold Zf;kernel_rfl) ?_)
  intro g12
  refine L0 (Es [_,_,_] rfl rfl rfl rfl (by simp) ?_)
  try simp only [splice,lC,lN,dS,cA,tS,tZ,dZ,nA,aN]
  refine La rfl (Ld (Ts (TS (Lm rfl (Lq (Y2 rfl) (Ld (yQ rfl (Tk (TS ?_)))))))))
  iterate 2 refine Lz ?_
  refine L0 (E1 (by kernel_rfl) rfl rfl rfl (by first | (simp;done) | (simp;omega)) ?_)
  try simp only [List.set_cons_zero,List.set_cons_succ]
  refine Ld (TR ?_)
  iterate 4 refine Lz ?_
  refine L0 (Y0 Ta.okP rfl x.e.page rfl ⟨pg.page,pg.first,m⟩ rfl ?_)
  refine Ld (TR ?_)
  iterate 2 refine Lz ?_
  refine Ld ?_
  refine ⟨_,?_,_,⟨_,i+1,{a with last:=max a.last x.e.txn,seen:=bumpI a.seen x.e.txn,pages:=putL a.pages x.e.page ⟨pg.page,pg.first,m⟩},p1,c1,nc,⟨by omega,by rw [hstep];unfold anStep;rw [if_neg h3,hpg],hnc⟩,rfl,U10,rfl⟩,Sa⟩
  omega
 obtain rfl:i=ne:=by omega
 rw [List.take_of_length_le (by omega)] at ha
 rw [<-ha]
 refine zB (Ts (TS (Lm rfl ?_)))
 refine Le (Z4 (ke:=kI) (ve:=kI) Tryz.underlying133 rfl ?_)
 rintro gi
 refine LW.own (λ w ho=>?_)
 have hnd:=ho.mapNodup gs
 have hnp:=ho.mapNodup gp
 clear ho
 refine LW.conv (l':=mkR none 0 0 []::_) (λ w ho=>ho.row_nil _ _) (Ld (yH ?_))
 refine zG (λ mz fz lz => ∃ (f0:Fr) (left:List (Int×Int)) (acc:List Int) (p2:Option Addr) (c2 n2:Nat),((left.map (·.1)).Nodup/\(acc++(left.map (·.1)).filter (lostB a)).Perm ((a.seen.map (·.1)).filter (lostB a))/\acc.length=n2/\n2+left.length<=a.seen.length)/\mz=left.length/\fz=(upd (upd (upd (upd (upd f0 4 (.pointer (some ⟨g4,0,none⟩))) 5 (.pointer (some ⟨g5,0,none⟩))) 6 (.map (some gd))) 8 (.map (some gp))) 88 (.pointer (some ⟨gi,0,none⟩)))/\lz=rgA kI kI gi gs a.seen left::mkR p2 n2 c2 acc::cmR p1 nc c1 a.cm::tmA gp a.pages::mSI gd a.done::blk g5 [.slice p1 nc c1,.slice p2 n2 c2,.slice none 0 0,.int .i64 a.last] 87::blk g4 [.slice none 0 0,.slice none 0 0,.slice none 0 0,.int .i64 0] 87::emR pe i ce es::mkR pm i cm ms::F) ?_ ?_
 . refine ⟨_,_,⟨_,a.seen,[],none,0,0,⟨hnd,List.Perm.refl _,rfl,by omega⟩,rfl,U5,rfl⟩,Sa⟩
 rintro mz fz lz ⟨f0,left,acc,p2,c2,n2,⟨hnd1,hperm,hacc,hlb⟩,hmz,rfl,rfl⟩
 subst mz
 by_cases hlf:left=[]
 .
  subst hlf
  rw [List.map_nil,List.filter_nil,List.append_nil] at hperm
  have hL:sortZ acc=losersA a:=sortZ_same hperm
  have hLl:(losersA a).length=n2:=by rw [<-hL,<-hacc];simp [sortZ]
  have hplen:(pagesT a).length=a.pages.length:=by simp [pagesT,sortT]
  refine TS ?_
  refine Le (Z5 rfl rfl ?_)
  refine Lq (Qx rfl rfl) (Ld (Ts (yQ rfl (zB (TS ?_)))))
  iterate 2 refine Lz ?_
  refine Le (Ec (Fn.sortI Tryz.sortI (.slice p2 n2 c2) 2 n2 acc hacc (by omega) [] 101 rfl) Tryz.func101 rfl rfl rfl ?_)
  rintro _ _ ⟨rfl,rfl⟩
  try simp only [cA,nA]
  rw [hL]
  refine Ld (TS (Lm rfl ?_))
  refine Le (Ec (Ta.values B gp) Tryz.func103 rfl rfl rfl ?_)
  rintro _ _ ⟨g1,rfl,rfl⟩
  try simp only [cA,nA]
  refine Le (Ec (Ta.sorted B g1 gp a.pages (by omega) hk1 hnp) Tryz.func102 rfl rfl rfl ?_)
  rintro _ _ ⟨p3,c3,rfl,rfl⟩
  try simp only [cA,nA]
  rw [<-hplen,show sortT (a.pages.map (·.2))=pagesT a from rfl]
  refine Lq (Qf (off:=2) rfl) ?_
  refine L0 (E1 (by kernel_rfl) rfl rfl rfl (by first | (simp;done) | (simp;omega)) ?_)
  try simp only [List.set_cons_zero,List.set_cons_succ]
  refine Ld (TS ?_)
  refine Lz ?_
  refine L0 (Es [_,_,_,_] rfl rfl rfl rfl (by simp) ?_)
  try simp only [splice,lC,lN,dS,cA,tS,tZ,dZ,nA,aN]
  refine Ld ?_
  subst hnc
  subst hLl
  refine T.ret ?_
  exact ⟨.inl rfl,_,_,res [_] rfl ⟨rvA [_,_,_,_] rfl ⟨rfl,rfl,rfl,rfl,trivial⟩,trivial⟩,⟨p1,p2,p3,c1,c2,c3,rfl,rfl⟩,Sa⟩
 have h1:0<left.length:=List.length_pos_iff.2 hlf
 refine TS ?_
 refine Le (Z6 (left:=left) i64_inj rfl rfl hlf ?_)
 rintro ⟨q,tq⟩ hq
 try simp only [cA,nA]
 refine Lq (Qx rfl rfl) (Ld (Ts ?_))
 obtain ⟨d1,d2,d3⟩:=perm_cutI hnd1 hq
 have d4:(cutL left q).length<left.length:=d3
 have hfp:=filt_perm (f:=lostB a) (acc:=acc) d1
 refine zF rfl (Tk (yH (TS (Lq (Z7 rfl) (Lq (YM (v:=kI q) rfl rfl) (La rfl (Ld (TS (Lm rfl (Lm rfl (Lq (zT Ta.okI rfl q rfl 0 rfl) (Lq (yU rfl rfl) (Ld ?_)))))))))))))
 refine yN rfl (λ hlo=>?_) (λ hlo=>?_)
 .
  rw [if_pos (show lostB a q=true by simpa using hlo)] at hfp
  refine TR ?_
  iterate 3 refine Lz ?_
  refine Le (zK [_] (e:=2) (sz:=1) ⟨.int .i64 0,by kernel_rfl,rfl⟩ rfl rfl rfl ?_)
  intro g100
  refine Le (Ea Ta.elemL rfl rfl (SrcOf.blk (by kernel_rfl) rfl (by simp [Value.oneCell'])) (by unfold maxLen;omega) ?_)
  rintro p4 c4 hp4
  try simp only [cA,nA]
  rw [map_snoc kI acc q]
  refine Lq (Qf (off:=1) rfl) ?_
  refine L0 (E1 (by kernel_rfl) rfl rfl rfl (by first | (simp;done) | (simp;omega)) ?_)
  try simp only [List.set_cons_zero,List.set_cons_succ]
  refine Ld ?_
  refine ⟨_,?_,_,⟨_,cutL left q,acc++[q],p4,c4,n2+1,⟨d2,hfp.symm.trans hperm,by simp [hacc],by omega⟩,rfl,U5,rfl⟩,Sa⟩
  omega
 rw [if_neg (show ¬ lostB a q=true by simpa using hlo),List.append_nil] at hfp
 refine Tk ?_
 refine ⟨_,?_,_,⟨_,cutL left q,acc,p2,c2,n2,⟨d2,hfp.symm.trans hperm,hacc,by omega⟩,rfl,U5,rfl⟩,Sa⟩
 omega
open Go.RowKit
structure PreI (logs count n K k:Nat) (s:Pl) (es:List En):Prop where
 inv:PInv logs count n K s
 len:s.D.secs.length=logs+count
 l1:1<=logs
 zero : ∀ x∈s.A,x.pins=0
 coh:Coh logs s.A s.D
 log:LogI logs s.W s.D es
 has : ∀ q,q<k->q<count->HasP logs s.A s.D q (Zx [] 0)
theorem PreI.done {logs count n K:Nat} {s:Pl} {es:List En} (h:PreI logs count n K count s es):SInv logs count n K s es (λ _=>[]) :=
 ⟨h.inv,h.len,h.l1,h.zero,h.coh,h.log,λ q hq=>⟨0,by omega,h.has q hq hq⟩,λ q hq=>⟨⟨by simp [ZO],by simp⟩,by simp⟩⟩
theorem PreI.new {logs count n:Nat} {D:DD} {es:List En} (h1:1<=logs) (hc:1<=count) (hn1:1<=n) (hn2:n<=4096) (ho:D.Ok) (hl:D.secs.length=logs+count) (hp:D.pend=[]) (hs:Secs D 0 logs (Zr 0 0 (es.map Zj))) (hle:(Zr 0 0 (es.map Zj)).length<=logs*256):PreI logs count n 0 0 ⟨List.replicate n fa1,0,mkW 0 logs (es.map Zj) (Zr 0 0 (es.map Zj)).length,D⟩ es:=by
  have hx : ∀ x∈List.replicate n fa1,x=fa1:=λ x hx=>(List.mem_replicate.1 hx).2
  refine ⟨⟨FOk.new count n hn1 hn2,λ x h hd=>?_,λ x h=>?_,by show 0<n;omega,?_,hle,Nat.le_refl _,by rw [hp];simp,ho,by rw [hl];omega⟩,hl,h1,λ x h=>by rw [hx x h],λ i x h h0=>?_,?_,λ q h=>by omega⟩
  . rw [hx x h] at hd;cases hd
  . rw [hx x h];decide
  . show 0+logs<=_;dsimp only;omega
  . rw [hx x (List.mem_of_getElem? h)] at h0;exact absurd h0 (by decide)
  . refine ⟨rfl,⟨es.length,Nat.le_refl _,by rw [List.take_length];rfl,λ i e hi he=>?_⟩,?_,λ p h=>by rw [hp] at h;cases h⟩
    . rw [List.getElem?_eq_none hi] at he;cases he
    . show Secs D 0 logs ((Zr 0 0 (es.map Zj)).take (Zr 0 0 (es.map Zj)).length)
      rw [List.take_length];exact hs
theorem pg0_len : (Zx [] 0).length=256:=length_pgBytes (by simp [ZO])
theorem PreI.round {logs count n K k:Nat} {s:Pl} {es:List En} (h:PreI logs count n K k s es) (hK:K<2^31) (hq:k<count) : ∃ s1 i x A2 A3,pinP logs count s k=(s1,0)/\PInv logs count n (K+1) s1/\pinnedA s1.A k=some (i,x)/\putA s1.A k (Zx [] 0) 0=(A2,0)/\PInv logs count n (K+1) {s1 with A:=A2}/\unpinA A2 k=(A3,0)/\PreI logs count n (K+1) (k+1) {s1 with A:=A3} es:=by
  have hr : ¬ ((k:Int)<0\/(count:Int)<=(k:Int)):=by omega
  obtain ⟨hcode,i,x,hi,hp,hone,hrest⟩:=pin_frame h.inv k hr h.zero
  have hpi:=h.inv.pin hK k
  obtain ⟨l1,l2,l3⟩:=h.log.first
  obtain ⟨hhas,hcoh⟩:=pin_ok h.inv hK k (by omega) h.coh
  have hlen:=pin_secs h.inv hK k
  have hlog:=h.log.pin h.inv hK k
  have hs1:pinP logs count s k=((pinP logs count s k).1,0):=by rw [<-hcode]
  generalize (pinP logs count s k).1=s1 at *
  have hO:OneP k s1.A i x:=⟨hi,hp,hone,hrest⟩
  have hpin:=pinnedA_of hpi.F hi hp (by omega) (by rw [hone];omega)
  have hil:=(List.getElem?_eq_some_iff.1 hi).1
  have hput:=hpi.put k (Zx [] 0) 0 (by omega)
  have e:putA s1.A k (Zx [] 0) 0=(s1.A.set i {x with mark:=max x.mark 0,dirty:=true,b:=Zx [] 0},0):=by
    unfold putA;rw [hpin];dsimp only;rw [if_neg (by simp [pg0_len])]
  rw [e] at hput
  dsimp only at hput
  have hO2:OneP k (s1.A.set i {x with mark:=max x.mark 0,dirty:=true,b:=Zx [] 0}) i {x with mark:=max x.mark 0,dirty:=true,b:=Zx [] 0}:=hO.set hp hone
  obtain ⟨u1,u2,u3⟩:=hO2.unpin hput.F (by omega)
  have hun:=hput.unpin k
  rw [u1] at hun
  dsimp only at hun
  refine ⟨s1,i,x,_,_,hs1,hpi,hpin,e,hput,u1,hun,hlen.trans h.len,h.l1,u3,?_,hlog,λ p hp1 hp2=>?_⟩
  . dsimp only
    rw [List.set_set]
    exact Coh.set (x:=x) hi rfl (λ e=>by cases e) hcoh
  . dsimp only
    rw [List.set_set]
    by_cases e2:p=k
    . exact .inl ⟨i,_,List.getElem?_set_self hil,by rw [e2];exact hp,rfl⟩
    . rcases hhas p _ hp2 (h.has p (by omega) hp2) with ⟨j,z,h1,h2,h3⟩ | ⟨h1,h2⟩
      . by_cases e3:i=j
        . subst e3;rw [hi] at h1;cases h1;omega
        . exact .inl ⟨j,z,by rw [List.getElem?_set_ne e3];exact h1,h2,h3⟩
      . refine .inr ⟨λ j z hz=>?_,h2⟩
        rw [List.getElem?_set] at hz
        split at hz
        . cases hz;dsimp only;omega
        . exact h1 j z hz
theorem an_last : ∀ (l:List (En×Int)),(anRun l).last=lastE (l.map (·.1)):=by
 intro l
 unfold anRun lastE
 have key : ∀ (l:List (En×Int)) (a:An),(l.foldl anStep a).last=(l.map (·.1)).foldl (λ m e=>max m e.txn) a.last:=by
  intro l
  induction l with
  | nil=>intro a;rfl
  | cons x l ih =>
   intro a
   simp only [List.foldl_cons,List.map_cons]
   rw [ih]
   congr 1
   unfold anStep
   split <;> rfl
 exact key l _
structure AnOk (l:List (En×Int)) (a:An):Prop where
 cm:a.cm=(l.map (·.1)).filterMap cmOf
 done : ∀ t,(Zy a.done t).getD 0=if t∈a.cm.map (·.1) then 1 else 0
 seen : ∀ t,t∈a.seen.map (·.1) ↔ ∃ x∈l,x.1.txn=t
theorem mem_putL_key {k:Int} {v:Int} {t:Int} : ∀ {L:List (Int×Int)},t∈(putL L k v).map (·.1)↔t=k\/t∈L.map (·.1)
  | []=>by simp [putL]
  | q::L=>by
    unfold putL
    split
    . rename_i e;simp;constructor
      . rintro (h | h)
        . exact .inl h
        . exact .inr (.inr h)
      . rintro (h | h | h)
        . exact .inl h
        . exact .inl (by rw [h,e])
        . exact .inr h
    . have:=mem_putL_key (k:=k) (v:=v) (t:=t) (L:=L)
      simp only [List.map_cons,List.mem_cons,this]
      constructor
      . rintro (h | h | h)
        . exact .inr (.inl h)
        . exact .inl h
        . exact .inr (.inr h)
      . rintro (h | h | h)
        . exact .inr (.inl h)
        . exact .inl h
        . exact .inr (.inr h)
theorem an_ok (l:List (En×Int)) (hn:(((l.map (·.1)).filterMap cmOf).map (·.1)).Nodup):AnOk l (anRun l):=by
  induction l using snocI with
  | nil=>exact ⟨rfl,λ t=>by simp [anRun,Zy],λ t=>by simp [anRun]⟩
  | snoc l x ih =>
    rw [List.map_append,List.filterMap_append,List.map_append,List.nodup_append] at hn
    obtain ⟨n1,n2,n3⟩:=hn
    obtain ⟨i1,i2,i3⟩:=ih n1
    have hrun:anRun (l++[x])=anStep (anRun l) x:=by unfold anRun;rw [List.foldl_append];rfl
    rw [hrun]
    unfold anStep
    by_cases hk:x.1.kind=3
    . rw [if_pos hk]
      have hc:cmOf x.1=some (x.1.txn,x.1.stamp):=by unfold cmOf;rw [if_pos hk]
      have hx:x.1.txn∉(anRun l).cm.map (·.1):=by
        rw [i1]
        intro h
        exact n3 _ h x.1.txn (by simp [hc]) rfl
      have hd:(Zy (anRun l).done x.1.txn).getD 0=0:=by rw [i2,if_neg hx]
      refine ⟨?_,λ t=>?_,λ t=>?_⟩
      . dsimp only
        rw [if_pos hd,List.map_append,List.filterMap_append,i1]
        simp [hc]
      . dsimp only
        rw [if_pos hd]
        by_cases e:x.1.txn=t
        . subst e
          rw [look_put_same]
          rw [hd]
          rw [if_pos (by rw [List.map_append];simp)];rfl
        . rw [look_put_ne _ e,i2]
          by_cases ht:t∈(anRun l).cm.map (·.1)
          . rw [if_pos ht,if_pos (by rw [List.map_append];exact List.mem_append_left _ ht)]
          . rw [if_neg ht,if_neg]
            rw [List.map_append,List.mem_append]
            rintro (q | q)
            . exact ht q
            . simp at q;exact e q.symm
      . dsimp only
        rw [mem_putL_key,i3]
        simp only [List.mem_append,List.mem_singleton]
        constructor
        . rintro (h | ⟨y,hy,h⟩)
          . exact ⟨x,.inr rfl,h.symm⟩
          . exact ⟨y,.inl hy,h⟩
        . rintro ⟨y,hy | rfl,h⟩
          . exact .inr ⟨y,hy,h⟩
          . exact .inl h.symm
    . rw [if_neg hk]
      have hc:cmOf x.1=none:=by unfold cmOf;rw [if_neg hk]
      refine ⟨?_,i2,λ t=>?_⟩
      . dsimp only
        rw [List.map_append,List.filterMap_append,i1]
        simp [hc]
      . dsimp only
        rw [mem_putL_key,i3]
        simp only [List.mem_append,List.mem_singleton]
        constructor
        . rintro (h | ⟨y,hy,h⟩)
          . exact ⟨x,.inr rfl,h.symm⟩
          . exact ⟨y,.inl hy,h⟩
        . rintro ⟨y,hy | rfl,h⟩
          . exact .inr ⟨y,hy,h⟩
          . exact .inl h.symm
open Go.RowKit
theorem ap_rec {h:HR} (r:RepOk h) {v:Ver} {i:Nat} (hv:h.vs[i]? = some v):(Zi h.vs v.page)[v.slot]? = some (verB v):=by
 unfold Zi;rw [List.getElem?_map,page_at r.slots hv];rfl
theorem Hp.redoStep (B:Wn) (g b n logs count K:Nat) (q:HpQ) (pc:Option Addr) (nc cc:Nat) (last:Int) (s:Pl) (es:List En) (h:HR) (r:RepOk h) (hpg:h.pages=count) (hs:SInv logs count n K s es (Zi h.vs)) (hK:K<2^30) (mark:Nat) (mi:Int) (hmi:mi=mark) (hm:mark<2^40) (e:En) (p:Option Addr) (c:Nat) (hok:OkStep h e) (S:List Wp) (hv:RdV B S (.slice p e.data.length c) (Zb e.data)) :
    Fn Tryz.prog B 50 #[pV g,enV e p c,.int .i64 mi] (hpB g q pc nc cc last::wlS b q s::plS b n logs count q s::Zn b s.D::S)
      (λ u l => ∃ s',SInv logs count n (K+1) s' es (Zi (Zg h e).vs)/\u = .int .i64 0/\l=hpB g q pc nc cc last::wlS b q s'::plS b n logs count q s'::Zn b s'.D::S):=by
  subst hmi
  obtain ⟨p1,p2,p3,p4⟩:=hok.ok.place
  rcases kinds hok.ok with k | k | k
  . obtain ⟨o1,o2,o3,o4⟩:=hok.one k
    obtain ⟨j,hj⟩ : ∃ j:Nat,e.page=j:=⟨e.page.toNat,by omega⟩
    have hjn:e.page.toNat=j:=by omega
    have hrl:(Zi h.vs j).length=(Zh h.vs j).length:=by simp [Zi]
    rw [hjn] at o2 o4
    have hrc:rcSet (Zi h.vs) true j (Zi h.vs j++[newB e.txn e.data])=Zi (Zg h e).vs:=by
      funext x
      rw [recs_add (h:=h) (e:=e) k x]
      unfold rcSet
      simp only [if_true]
      by_cases e1:x=j
      . subst e1;rw [if_pos rfl,if_pos hjn.symm];rfl
      . rw [if_neg e1,if_neg (by rw [hjn];exact e1)]
    have hro2:=recs_ok (r.write hok) j
    have hro3:PgOk (Zi h.vs j++[newB e.txn e.data])/\(Zi h.vs j++[newB e.txn e.data]).length<256:=by have:=congrFun hrc j;unfold rcSet at this;simp only [if_true] at this;rw [this];exact hro2
    have hus:ZO (Zi h.vs j)+17+e.data.length<=243:=by rw [used_recs];unfold Wi at o4;omega
    have:=Hp.redoP B S g b n logs count K q pc nc cc last s es (Zi h.vs) hs hK mark hm e p c (by omega) j hj (by omega) _ hro3.1 hro3.2 (λ gpg m=>Hp.applyAdd B S (pV g) gpg (Zi h.vs j) m e p c hok.ok k hv (by rw [hrl];exact o2) o3 hus)
    rw [hrc] at this
    exact this
  . obtain ⟨i,v,h1,h2,h3⟩:=hok.two k
    obtain ⟨v0,hv0,hvp,hvs⟩:=findV_some h1
    rw [h2] at hv0;cases hv0
    have hvk:=r.vok v (List.mem_of_getElem? h2)
    have hrc:rcSet (Zi h.vs) true v.page ((Zi h.vs v.page).set v.slot (setB 8 (be (UInt64.ofInt e.txn) 8) (verB v)))=Zi (Zg h e).vs:=by
      have hp:=page_at r.slots h2
      funext x
      rw [recs_end (h:=h) (e:=e) r k h1 h2 x]
      unfold rcSet
      simp only [if_true]
      have e3:e.page.toNat=v.page:=by omega
      have e4:e.slot.toNat=v.slot:=by omega
      by_cases e1:x=v.page
      . subst e1
        rw [if_pos rfl,if_pos e3.symm,e4]
        exact (modify_set (ap_rec r h2) _).symm
      . rw [if_neg e1,if_neg (by rw [e3];exact e1)]
    have hro2:=recs_ok (r.write hok) v.page
    have hro3:=hro2
    have hrq:=congrFun hrc v.page
    simp only [rcSet,if_true] at hrq
    rw [<-hrq] at hro3
    have:=Hp.redoP B S g b n logs count K q pc nc cc last s es (Zi h.vs) hs hK mark hm e p c (by omega) v.page hvp.symm (by omega) _ hro3.1 hro3.2 (λ gpg m=>Hp.applyEnd B S (pV g) gpg (Zi h.vs v.page) m e p c hok.ok k v.slot hvs.symm (verB v) (ap_rec r h2) (by rw [length_verB];omega))
    rw [hrc] at this
    exact this
  . have hrc:Zi (Zg h e).vs=Zi h.vs:=funext λ x=>recs_commit k x
    rw [hrc]
    refine Fn.wide (Hp.redoC B g mark e p c k) ?_
    rintro v l ⟨rfl,rfl⟩
    exact ⟨_,Sr _,s,hs.mono (by omega),rfl,rfl⟩
open Go.RowKit
def mksOf (es:List En):List Int:=(logR 0 (es.map Zj)).map λ x=>(x.1:Int)
theorem mks_len (es:List En):(mksOf es).length=es.length:=by simp [mksOf,length_logR]
theorem rec_of {R:List WRec} {es:List En} (h:R.map (λ x:WRec=>(x.mark,x.r.b))=logR 0 (es.map Zj)) {i:Nat} {x:WRec} (hx:R[i]? = some x) : ∃ e,es[i]? = some e/\x.r.b=Zj e/\(mksOf es)[i]? = some (x.mark:Int):=by
 have h1:=congrArg (·[i]?) h
 simp only [List.getElem?_map,hx,Option.map_some] at h1
 have h2:=congrArg (·[i]?) (logR_snd 0 (es.map Zj))
 simp only [List.getElem?_map,<-h1,Option.map_some] at h2
 cases he:es[i]? with
 | none=>rw [he] at h2;cases h2
 | some e =>
  rw [he] at h2
  refine ⟨e,rfl,by simpa using h2,?_⟩
  unfold mksOf
  rw [List.getElem?_map,<-h1];rfl
theorem mark_le {es:List En} {i:Nat} {m:Int} (h:(mksOf es)[i]? = some m):0<=m/\m<=(Zr 0 0 (es.map Zj)).length:=by
 have key : ∀ (ds:List (List UInt8)) (s:UInt32) (k i:Nat) (x:Nat×List UInt8),(logR k ds)[i]? = some x->x.1<=k+(Zr s k ds).length:=by
  intro ds
  induction ds with
  | nil=>intro s k i x h;simp [logR] at h
  | cons d ds ih =>
   intro s k i x h
   simp only [Zr,List.length_append,Wf]
   cases i with
   | zero=>simp [logR] at h;rw [<-h];dsimp only;omega
   | succ i =>
    have:=ih (sealW s k d) (k+(8+d.length)) i x (by simpa [logR] using h)
    omega
 unfold mksOf at h
 rw [List.getElem?_map] at h
 cases hx:(logR 0 (es.map Zj))[i]? with
 | none=>rw [hx] at h;cases h
 | some x =>
  rw [hx] at h
  simp only [Option.map_some,Option.some.injEq] at h
  have:=key _ 0 0 i x hx
  omega
theorem Own.recCap {B:Wn} {w:World} {l:List Wp} {R:List Rec} (ho:Own B w (recsA R::l)) (j:Nat) (hj:j<R.length):R[j].b.length<=R[j].c:=owns_cap (ho.rec_owns j hj)
def cmSt (l:List (Int×Int)):List (Int×Int):=l.foldl (λ st c=>putL st c.1 2) []
theorem cmSt_snoc {l:List (Int×Int)} {j:Nat} {c:Int×Int} (h:l[j]? = some c):cmSt (l.take (j+1))=putL (cmSt (l.take j)) c.1 2:=by
 obtain ⟨hj,rfl⟩:=List.getElem?_eq_some_iff.1 h
 unfold cmSt
 rw [List.take_succ_eq_append_getElem hj,List.foldl_append]
 rfl
theorem cmSt_look (l:List (Int×Int)) (t:Int):lookS (cmSt l) t=if t∈l.map (·.1) then 2 else 0:=by
  induction l using snocI with
  | nil=>simp [cmSt,lookS,Zy]
  | snoc l c ih =>
    have e:cmSt (l++[c])=putL (cmSt l) c.1 2:=by unfold cmSt;rw [List.foldl_append];rfl
    rw [e]
    unfold lookS at ih ⊢
    by_cases h:c.1=t
    . subst h
      rw [look_put_same,if_pos (by simp)];rfl
    . rw [look_put_ne _ h,ih]
      by_cases ht:t∈l.map (·.1)
      . rw [if_pos ht,if_pos (by rw [List.map_append];exact List.mem_append_left _ ht)]
      . rw [if_neg ht,if_neg]
        rw [List.map_append,List.mem_append]
        rintro (q | q)
        . exact ht q
        . simp at q;exact h q.symm
abbrev reopen (pages room:Nat) (es:List En):HR:={replay pages room es with last:=lastE es}
theorem reopen_inv {pages room:Nat} {es:List En} (h:HistOk pages room es):RInv (reopen pages room es):=by
  obtain ⟨a,b,c,d,e⟩:=replay_es pages room es
  refine ⟨?_,?_,?_,?_,?_,?_,?_,?_⟩
  . show HistOk (replay pages room es).pages (replay pages room es).room (replay pages room es).es
    rw [a,b,c];exact h
  . show (replay (replay pages room es).pages (replay pages room es).room (replay pages room es).es).vs=_
    rw [a,b,c]
  . show (replay (replay pages room es).pages (replay pages room es).room (replay pages room es).es).cm=_
    rw [a,b,c]
  . show (replay (replay pages room es).pages (replay pages room es).room (replay pages room es).es).used=_
    rw [a,b,c]
  . show ∀ t∈(replay pages room es).act,_
    rw [d];simp
  . show ∀ x∈(replay pages room es).es,x.txn<=lastE es
    rw [a];exact (lastE_le _ _).2
  . show ∀ t∈(replay pages room es).act,_
    rw [d];simp
  . exact (lastE_le _ _).1
theorem reopen_st {pages room:Nat} {es:List En}:StI (cmSt (replay pages room es).cm) (reopen pages room es):=λ t=>by
 rw [cmSt_look]
 have ha:Zp (reopen pages room es) t=false:=by unfold Zp;rw [show (reopen pages room es).act=[] from (replay_es pages room es).2.2.2.1];rfl
 unfold stN
 rw [ha]
 have hc:Wa (reopen pages room es) t=true↔t∈(replay pages room es).cm.map (·.1):=by unfold Wa;rw [List.contains_iff_mem]
 simp only [hc]
 simp
theorem zip_map_fst {α β:Type} : ∀ {l:List α} {m:List β},l.length=m.length->(l.zip m).map (·.1)=l
 | [],_,_=>by simp
 | a::l,[],h=>by simp at h
 | a::l,b::m,h=>by simp [zip_map_fst (l:=l) (m:=m) (by simpa using h)]
open Go.RowKit
theorem Bp.new (B:Wn) (b gl gs first count n:Nat) (D:DD) (i j k:Int) (hi:i=first) (hj:j=count) (hk:k=n) (hs:D.secs.length<=4096) (h1:1<=count) (hD:first+count<=D.secs.length) (hn1:1<=n) (hn2:n<=4096) :
  Fn Tryz.prog B 42 #[.pointer (some ⟨b,0,none⟩),.int .i64 i,.int .i64 j,.int .i64 k,.slice (some ⟨gs,0,none⟩) 1 1] [Zn b D,blk gs [ifW gl] 217] (λ u l => ∃ g,u = .tuple #[.pointer (some ⟨g,0,none⟩),.int .i64 0]/\l=[plA g b n first count 0 gl (List.replicate n fa1),Zn b D]):=by
 refine (Bf.new B [blk gs [ifW gl] 217] b D first count n i j k hi hj hk (.slice (some ⟨gs,0,none⟩) 1 1) [ifW gl] hs h1 hD hn1 hn2 ⟨_,1,rfl,.inr ⟨gs,0,rfl,λ w ho=>ho.range (g:=gs) (C:=[ifW gl]) (λ j u hj=>by rw [Nat.zero_add];exact hj)⟩⟩ (by simp [Value.oneCell']) (by simp)).sub ?_
 rintro v l ⟨g,gf,pl,cl,rfl,rfl⟩
 refine ⟨_,λ k2 K=>?_,g,rfl,rfl⟩
 refine sub_pl ⟨List.replicate n fm1,gf,pl,cl⟩ (map_fm1 n) k2 ?_
 simp only [plC,List.cons_append,List.nil_append]
 have K3:=da_none n _ k2 K
 rw [show [ifW gl].length=1 from rfl] at K3
 exact Sa k2 K3
theorem Hp.elemEn : ElemOk Tryz.prog 162 166 6 64 := .mk' (.agg #[.int .i64 0,.int .i64 0,.int .i64 0,.int .i64 0,.int .i64 0,.slice none 0 0]) Tryz.underlying162 (by kernel_rfl) rfl (by omega)
def OpenH (b logs count n K:Nat) (es:List En) (u:Value) (l:List Wp):Prop := ∃ (g:Nat) (p1 p2 p3:Option Addr) (c1 c2 c3:Nat),u = .tuple #[pV g,.agg #[.slice p1 (anRun (es.zip (mksOf es))).cm.length c1,.slice p2 (losersA (anRun (es.zip (mksOf es)))).length c2,.slice p3 (pagesT (anRun (es.zip (mksOf es)))).length c3,.int .i64 (lastE es)],.int .i64 0] /\
 l=[hpA g b logs count n K (reopen count (logs*256) es),cmR p1 (anRun (es.zip (mksOf es))).cm.length c1 (anRun (es.zip (mksOf es))).cm,mkR p2 (losersA (anRun (es.zip (mksOf es)))).length c2 (losersA (anRun (es.zip (mksOf es)))),toR p3 (pagesT (anRun (es.zip (mksOf es)))).length c3 (pagesT (anRun (es.zip (mksOf es))))]
theorem Hp.open (B:Wn) (b:Nat) (D:DD) (logs count n K0:Nat) (i j:Int) (hi:i=logs) (hj:j=n) (es:List En) (h1:1<=logs) (hc:1<=count) (hl:D.secs.length=logs+count) (hn1:1<=n) (hn2:n<=4096) (hroom:D.pend.length+4096<2^32) (hh:HistOk count (logs*256) es)
  (hscan : ∃ x y,Wj (allD D 0 logs) (logs*256+1) 0 0=(x,y,logR 0 (es.map Zj))) (hK0:lastE es<=K0) (hK:K0+count+es.length<2^30) :
  Fn Tryz.prog B 21 #[pV b,.int .i64 i,.int .i64 j] [Zn b D] (OpenH b logs count n (K0+count+es.length) es):=by
 subst hi;subst hj
 refine Fn.diskOk λ hok=>?_
 have hmax:=hok.max
 have hrep:=RepOk.replay hh
 obtain ⟨hre,hrp,hrr,hra,hrl⟩:=replay_es count (logs*256) es
 have hml:=mks_len es
 obtain ⟨N,hN⟩ : ∃ N,es.length=N:=⟨_,rfl⟩
 have hz:(es.zip (mksOf es)).map (·.1)=es:=zip_map_fst hml.symm
 obtain ⟨a,ha⟩ : ∃ a,anRun (es.zip (mksOf es))=a:=⟨_,rfl⟩
 have hal:a.last=lastE es:=by rw [<-ha,an_last,hz]
 have hac:a.cm=(replay count (logs*256) es).cm:=by
  have h3:=hrep.cm
  rw [hre] at h3
  have h4:=hrep.nd
  rw [h3] at h4
  rw [<-ha,(an_ok (es.zip (mksOf es)) (by rw [hz];exact h4)).cm,hz,h3]
 have hacl:a.cm.length<=es.length:=by rw [hac,hrep.cm,hre];exact List.length_filterMap_le ..
 have hus:=hrep.used
 have hle:=hrep.le
 rw [hrr] at hle
 rw [hre] at hus
 unfold OpenH
 rw [ha,hN]
 rw [hN] at hK
 refine Ws 163 Tryz.func21 rfl rfl (nB rfl) (λ F=>?_)
 try simp only [cA,nA]
 refine TS (La rfl ?_)
 refine Le (El [.slice none 0 0,.slice none 0 0,.slice none 0 0,.int .i64 0] (by unfold Zf;kernel_rfl) ?_)
 intro g7
 refine La rfl (Ld (Ts (TS ?_)))
 iterate 3 refine Lz ?_
 refine yT (t:=27) rfl (decide_eq_false (by omega)) ?_
 iterate 4 refine Lz ?_
 refine Le (Ec (Dk.sectorsF B b D) Tryz.func40 rfl rfl rfl ?_)
 rintro _ _ ⟨rfl,rfl⟩
 try simp only [cA,nA]
 iterate 3 refine Lz ?_
 refine yT (t:=35) rfl (decide_eq_false (by omega)) ?_
 iterate 4 refine Lz ?_
 refine yT (t:=39) rfl (decide_eq_false (by omega)) ?_
 iterate 3 refine Lz ?_
 refine Ld (yL rfl (Tk (TS (Lm rfl (Lm rfl ?_)))))
 refine Le (Ec (Wl.openAny B b D 0 logs 0 logs rfl rfl h1 (by omega) hroom) Tryz.func41 rfl rfl rfl ?_)
 rintro _ _ ⟨gl,q,cq,R,ds,D1,e1,e2,e3,e4,e5,e6,e7,e8,e9,rfl,rfl⟩
 try simp only [cA,nA]
 obtain ⟨x0,y0,hsc⟩:=hscan
 rw [hsc] at e9
 injection e9 with f1 f2
 injection f2 with f2 f3
 obtain rfl:ds=es.map Zj:=by have:=congrArg (List.map (·.2)) f3;rwa [logR_snd,logR_snd] at this
 clear f1 f2 f3 hsc x0 y0
 rw [List.length_map,hN]
 iterate 7 refine Lz ?_
 refine Ld (TS ?_)
 iterate 5 refine Lz ?_
 refine Le (Ec (Dk.sectorsF B b D1) Tryz.func40 rfl rfl rfl ?_)
 rintro _ _ ⟨rfl,rfl⟩
 try simp only [cA,nA]
 iterate 4 refine Lz ?_
 refine Lq (ZF (v := .pointer (some ⟨gl,0,none⟩)) (by kernel_rfl) rfl) ?_
 refine Le (zK [_] (e:=217) (sz:=1) ⟨.nilIface,by kernel_rfl,rfl⟩ rfl rfl rfl ?_)
 intro g63
 refine Le (Ec (Bp.new B b gl g63 logs count n D1 logs _ n rfl (by omega) rfl (by omega) hc (by omega) hn1 hn2) Tryz.func42 rfl rfl rfl ?_)
 rintro _ _ ⟨gp,rfl,rfl⟩
 try simp only [cA,nA]
 iterate 5 refine Lz ?_
 refine Ld (TS ?_)
 refine Le (YD Int Int zV zV ?_)
 rintro gm
 refine Lq (z8 [(0,1),(1,1),(2,1)] [.map none,.slice none 0 0,.int .i64 0] [_,_,_] [(0,_)] (by unfold Zf;kernel_rfl) rfl rfl) (Lm rfl (Lm rfl (Lq (z8 [(0,3),(3,1),(4,1)] [.map none,.slice none 0 0,.int .i64 0,.pointer none,.pointer none] [_,_,_,_,_] [(0,_),(1,_),(2,_)] (by unfold Zf;kernel_rfl) rfl rfl) ?_)))
 refine Le (zL [.map (some gm),.slice none 0 0,.int .i64 0,pV gl,pV gp] rfl rfl ?_)
 intro g72
 refine La rfl (Ld (Ts (TS ?_)))
 iterate 3 refine Lz ?_
 refine Le (Ec (Bp.pages B gp b n logs count 0 gl (List.replicate n fa1)) Tryz.func43 rfl rfl rfl ?_)
 rintro _ _ ⟨rfl,rfl⟩
 try simp only [cA,nA]
 refine Lm rfl (Ld (yH ?_))
 refine zG (λ mz fz lz => ∃ (f0:Fr) (k:Nat) (s:Pl),(k<=count/\PreI logs count n k k s es)/\mz=count-k/\fz=(upd (upd (upd (upd (upd (upd f0 7 (.pointer (some ⟨g7,0,none⟩))) 10 (.slice q N cq)) 12 (pV gp)) 14 (pV g72)) 76 (.int .i64 count)) 77 (.int .i64 k))/\lz=blk g7 [.slice none 0 0,.slice none 0 0,.slice none 0 0,.int .i64 0] 87::hpB g72 ⟨gm,gl,gp⟩ none 0 0 0::stA ⟨gm,gl,gp⟩ []::wrecR q N cq R::recsA (R.map WRec.r)::wlS b ⟨gm,gl,gp⟩ s::plS b n logs count ⟨gm,gl,gp⟩ s::Zn b s.D::F) ?_ ?_
 . refine ⟨_,_,⟨_,0,⟨List.replicate n fa1,0,mkW 0 logs (es.map Zj) (Zr 0 0 (es.map Zj)).length,D1⟩,⟨Nat.zero_le _,PreI.new h1 hc hn1 hn2 e3 (by omega) e5 e6 e7⟩,rfl,U6,rfl⟩,Sa⟩
 rintro mz fz lz ⟨f0,k,s,⟨hk,hP⟩,hmz,rfl,rfl⟩
 subst mz
 refine TS (Lq (yM rfl rfl) (Ld (Ts ?_)))
 refine yN rfl (λ hlt=>?_) (λ hlt=>?_)
 .
  have hk2:k<count:=by omega
  obtain ⟨s1,i1,x1,A2,A3,r1,r2,r3,r4,r5,r6,r7⟩:=hP.round (by omega) hk2
  have hF:=hP.inv.F
  have hpins : ∀ x∈s.A,x.pins<2^62:=λ x hx=>by have:=hP.inv.pins x hx;omega
  have hF1:=r2.F
  have hF2:=r5.F
  have hpins2 : ∀ x∈A2,x.pins<2^62:=λ x hx=>by have:=r5.pins x hx;omega
  have hpe:=hP.inv.pend
  have hhd:=hP.inv.hand
  have hw1:=hP.inv.w (by omega)
  have hok1:=hP.inv.ok
  have hsc1:=hP.inv.sec
  clear hP
  obtain ⟨A,hand,W,D2⟩:=s
  dsimp only [wlS,plS] at hF hpins hpe hhd hw1 hok1 hsc1 ⊢
  refine Tk (Ts (yH (TS (Lm rfl (La rfl (Ld (TS (Lm rfl (Lm rfl ?_)))))))))
  refine Le (Ec (Bp.pin B gp b n logs count hand gl A W D2 k hF hpins hhd hw1 hok1 (by omega) hsc1) Tryz.func44 rfl rfl rfl ?_)
  rintro _ _ ⟨rfl,rfl⟩
  try simp only [cA,nA]
  rw [r1]
  refine Ld (TS (Lm rfl (Lm rfl ?_)))
  refine Le (Ec (Pg.new B) Tryz.func46 rfl rfl rfl ?_)
  rintro _ _ ⟨gpg,rfl,rfl⟩
  try simp only [cA,nA]
  refine Le (Ec (Fn.own (Pg.bytes B gpg [] 0)) Tryz.func47 rfl rfl rfl ?_)
  rintro _ _ ⟨⟨p6,c6,rfl,rfl⟩,w6,F6,ho6⟩
  try simp only [cA,nA]
  simp only [List.cons_append,List.nil_append] at ho6
  have hp6:0<256 -> ∃ g,p6=some ⟨g,0,none⟩:=(ho6.slice_at (p:=p6) (m:=256) (c:=c6)).2.1
  clear ho6
  refine Le (Ec (Bp.put B [rB (.slice p6 256 c6) 256 (Zx [] 0)] gp b n logs count s1.hand gl s1.A k hF1.len hn2 i1 x1 r3 p6 c6 (Zx [] 0) 0 pg0_len (RdV.rB pg0_len hp6)) Tryz.func45 rfl rfl rfl ?_)
  rintro _ _ ⟨rfl,rfl⟩
  try simp only [cA,nA]
  rw [r4]
  refine Ld (TR (Lm rfl (Lm rfl ?_)))
  refine Le (Ec (Bp.unpin B gp b n logs count s1.hand gl A2 k hF2.len hn2 hpins2) Tryz.func48 rfl rfl rfl ?_)
  rintro _ _ ⟨rfl,rfl⟩
  try simp only [cA,nA]
  rw [r6]
  refine Ld (TR ?_)
  iterate 2 refine Lz ?_
  refine Ld ?_
  refine ⟨_,?_,_,⟨_,k+1,{s1 with A:=A3},⟨by omega,r7⟩,rfl,U6,rfl⟩,Sa⟩
  omega
 obtain rfl:k=count:=by omega
 have hS:=hP.done
 clear hP
 refine T.conv (l':=emR none 0 0 []::mkR none 0 0 []::_) (λ w ho=>(ho.row_nil _ _).row_nil _ _) (zB (TS (La rfl (Ld (TS (La rfl (Ld (Ts (TS ?_)))))))))
 iterate 3 refine Lz ?_
 refine Ld (yH ?_)
 refine zG (λ mz fz lz => ∃ (f0:Fr) (i:Nat) (s:Pl) (pe pm:Option Addr) (ce cm:Nat) (ems:List EnM) (mss:List Int),(i<=N/\SInv logs k n (k+i) s es (Zi (replay k (logs*256) (es.take i)).vs)/\ems.map (·.e)=es.take i/\mss=(mksOf es).take i)/\mz=N-i/\fz=(upd (upd (upd (upd (upd (upd (upd f0 7 (.pointer (some ⟨g7,0,none⟩))) 14 (pV g72)) 16 (.slice pe i ce)) 17 (.slice pm i cm)) 92 (.slice q N cq)) 93 (.int .i64 N)) 94 (.int .i64 i))/\lz=emR pe i ce ems::mkR pm i cm mss::blk g7 [.slice none 0 0,.slice none 0 0,.slice none 0 0,.int .i64 0] 87::hpB g72 ⟨gm,gl,gp⟩ none 0 0 0::stA ⟨gm,gl,gp⟩ []::wrecR q N cq R::recsA (R.map WRec.r)::wlS b ⟨gm,gl,gp⟩ s::plS b n logs k ⟨gm,gl,gp⟩ s::Zn b s.D::F) ?_ ?_
 . refine ⟨_,_,⟨_,0,s,none,none,0,0,[],[],⟨Nat.zero_le _,hS,rfl,rfl⟩,rfl,U7,rfl⟩,Sa⟩
 rintro mz fz lz ⟨f0,i,s,pe,pm,ce,cm,ems,mss,⟨hi,hS2,hem,hms⟩,hmz,rfl,rfl⟩
 subst mz
 have heml:ems.length=i:=by have:=congrArg List.length hem;simpa [hN,Nat.min_eq_left hi] using this
 have hmsl:mss.length=i:=by rw [hms,List.length_take,hml];omega
 refine TS (Lq (yM rfl rfl) (Ld (Ts ?_)))
 refine yN rfl (λ hlt2=>?_) (λ hlt2=>?_)
 .
  have hi2:i<N:=by omega
  have hRl:R.length=N:=by have:=congrArg List.length e2;rw [List.length_map,length_logR,List.length_map] at this;omega
  obtain ⟨x,hx⟩ : ∃ x,R[i]? = some x:=⟨_,List.getElem?_eq_getElem (by omega)⟩
  obtain ⟨e,he,hxe,hmk⟩:=rec_of e2 hx
  have hmle:=mark_le hmk
  have hok2:=hh i e he
  have hri:=RepOk.replay (hh.take i)
  have hpi:=(replay_es k (logs*256) (es.take i)).2.1
  refine T.own λ w ho=>?_
  have hRok:RecOk (R.map WRec.r):=(ho.map Sa:Own B w [recsA (R.map WRec.r)]).recOk
  have hxc:x.r.b.length<=x.r.c:=by have:=(ho.map Sa:Own B w [recsA (R.map WRec.r)]).recCap i (by simp;omega);simpa [(List.getElem?_eq_some_iff.1 hx).2] using this
  have hqp : ∃ g,q=some ⟨g,0,none⟩:=(ho.slice_at (p:=q) (m:=N) (c:=cq)).2.1 (by omega)
  clear ho
  obtain ⟨gq,rfl⟩:=hqp
  have rx:RdV B [recsA (R.map WRec.r)] (recV x.r) (Zb x.r.b):=by have:=RdV.rec (B:=B) hRok (j:=i) (by simp;omega);simpa [(List.getElem?_eq_some_iff.1 hx).2] using this
  rw [hxe] at rx hxc
  have hxl:(Zj e).length=x.r.b.length:=by rw [hxe]
  refine Tk (Ts (yH (TS ?_)))
  refine Lz ?_
  refine Lq (QL [.int .i64 x.mark,recV x.r] rfl (by rw [show [Value.int .i64 x.mark,recV x.r]=wrecC (R[i]'(by omega)) by rw [(List.getElem?_eq_some_iff.1 hx).2]];exact rdl_flat _ _ _ (by intros;rfl) _ (by omega))) ?_
  refine Le (El [.int .i64 0,.slice none 0 0] (by unfold Zf;kernel_rfl) ?_)
  intro g19
  refine L0 (Es [_,_] rfl rfl rfl rfl (by simp) ?_)
  try simp only [splice,lC,lN,dS,cA,tS,tZ,dZ,nA,aN]
  refine Ld (TS ?_)
  iterate 2 refine Lz ?_
  refine Le (Ec (Tl.decode B [recsA (R.map WRec.r)] e x.r.p x.r.b.length x.r.c hok2.ok hxl (by rw [<-hxl];exact hxc) (by simpa [recV,hxl] using rx)) Tryz.func49 rfl rfl rfl ?_)
  rintro _ _ ⟨p5,c5,rfl,rfl⟩
  try simp only [cA,nA]
  iterate 3 refine Lz ?_
  refine Le (El [.int .i64 0,.int .i64 0,.int .i64 0,.int .i64 0,.int .i64 0,.slice none 0 0] (by unfold Zf;kernel_rfl) ?_)
  intro g20
  refine L0 (Es [_,_,_,_,_,_] rfl rfl rfl rfl (by simp) ?_)
  try simp only [splice,lC,lN,dS,cA,tS,tZ,dZ,nA,aN]
  refine La rfl (Ld (Ts (TS ?_)))
  iterate 3 refine Lz ?_
  refine LW.own λ w ho=>?_
  have hp5:0<e.data.length -> ∃ g,p5=some ⟨g,0,none⟩:=((ho.map Sa:Own B w [rB (.slice p5 e.data.length c5) e.data.length e.data]).slice_at (p:=p5) (m:=e.data.length) (c:=c5)).2.1
  clear ho
  refine yT (t:=106) rfl rfl ?_
  iterate 4 refine Lz ?_
  refine Le (Ec (Hp.redoStep B g72 b n logs k (k+i) ⟨gm,gl,gp⟩ none 0 0 0 s es (replay k (logs*256) (es.take i)) hri hpi hS2 (by omega) x.mark x.mark rfl (by omega) e p5 c5 hok2 [rB (.slice p5 e.data.length c5) e.data.length e.data] (RdV.rB rfl hp5)) Tryz.func50 rfl rfl rfl ?_)
  rintro _ _ ⟨s',hs',rfl,rfl⟩
  try simp only [cA,nA]
  refine Lq (yW rfl rfl) (Lq (Qp rfl rfl) (Ld (yQ rfl (Tk (zW 10 none (nB rfl) ?_)))))
  refine Rz 0 ?_;refine Rz 1 ?_;refine Rz 4 ?_;refine Rz 5 ?_;refine Rz 6 ?_
  refine YC [2,7] (List.forall_mem_cons.2 ⟨?_,List.forall_mem_cons.2 ⟨?_,List.forall_mem_nil _⟩⟩)
  .
   refine z6 rfl (zK [_,_,_,_,_,_] (e:=166) (sz:=6) ⟨.agg #[.int .i64 0,.int .i64 0,.int .i64 0,.int .i64 0,.int .i64 0,.slice none 0 0],by kernel_rfl,rfl⟩ rfl rfl rfl ?_)
   intro g117
   refine ⟨Sa,?_⟩
   refine YC [3,7] (List.forall_mem_cons.2 ⟨?_,List.forall_mem_cons.2 ⟨?_,List.forall_mem_nil _⟩⟩)
   .
    refine z6 rfl (Ea Hp.elemEn rfl rfl (SrcOf.blk (by kernel_rfl) rfl (by simp [Value.oneCell'])) (by unfold maxLen;omega) ?_)
    intro p6 c6 hp6
    rw [flat_snoc emC ems ⟨e,p5,c5⟩]
    refine ⟨Sa,?_⟩
    refine yK 7 ?_
    refine z6 rfl (zK [_] (e:=2) (sz:=1) ⟨.int .i64 0,by kernel_rfl,rfl⟩ rfl rfl rfl ?_)
    intro g122
    refine ⟨Sa,?_⟩
    refine yK 8 ?_
    refine zY rfl (Ea Ta.elemL rfl rfl (SrcOf.blk (by kernel_rfl) rfl (by simp [Value.oneCell'])) (by unfold maxLen;omega) ?_)
    intro p7 c7 hp7
    rw [map_snoc kI mss (x.mark:Int)]
    refine Rz 9 ?_
    refine Rd0 (by rfl) ?_
    simp only [dS,dZ,dN]
    refine La rfl (Ld (TR ?_))
    iterate 2 refine Lz ?_
    refine Ld ?_
    refine ⟨_,?_,_,⟨_,i+1,s',p6,p7,c6,c7,ems++[⟨e,p5,c5⟩],mss++[(x.mark:Int)],⟨by omega,by rw [List.take_succ_eq_append_getElem (by omega),replay_snoc,show es[i]'(by omega)=e from (List.getElem?_eq_some_iff.1 he).2];exact hs',by rw [List.map_append,hem,List.take_succ_eq_append_getElem (by omega),show es[i]'(by omega)=e from (List.getElem?_eq_some_iff.1 he).2];rfl,by rw [hms,List.take_succ_eq_append_getElem (by omega),show (mksOf es)[i]'(by omega)=(x.mark:Int) from (List.getElem?_eq_some_iff.1 hmk).2]⟩,rfl,U7,rfl⟩,Sa⟩
    omega
   refine z6 rfl (zK [_] (e:=2) (sz:=1) ⟨.int .i64 0,by kernel_rfl,rfl⟩ rfl rfl rfl ?_)
   intro g122
   refine ⟨Sa,?_⟩
   refine yK 3 ?_
   refine z6 rfl (Ea Hp.elemEn rfl rfl (SrcOf.blk (by kernel_rfl) rfl (by simp [Value.oneCell'])) (by unfold maxLen;omega) ?_)
   intro p6 c6 hp6
   rw [flat_snoc emC ems ⟨e,p5,c5⟩]
   refine ⟨Sa,?_⟩
   refine yK 8 ?_
   refine zY rfl (Ea Ta.elemL rfl rfl (SrcOf.blk (by kernel_rfl) rfl (by simp [Value.oneCell'])) (by unfold maxLen;omega) ?_)
   intro p7 c7 hp7
   rw [map_snoc kI mss (x.mark:Int)]
   refine Rz 9 ?_
   refine Rd0 (by rfl) ?_
   simp only [dS,dZ,dN]
   refine La rfl (Ld (TR ?_))
   iterate 2 refine Lz ?_
   refine Ld ?_
   refine ⟨_,?_,_,⟨_,i+1,s',p6,p7,c6,c7,ems++[⟨e,p5,c5⟩],mss++[(x.mark:Int)],⟨by omega,by rw [List.take_succ_eq_append_getElem (by omega),replay_snoc,show es[i]'(by omega)=e from (List.getElem?_eq_some_iff.1 he).2];exact hs',by rw [List.map_append,hem,List.take_succ_eq_append_getElem (by omega),show es[i]'(by omega)=e from (List.getElem?_eq_some_iff.1 he).2];rfl,by rw [hms,List.take_succ_eq_append_getElem (by omega),show (mksOf es)[i]'(by omega)=(x.mark:Int) from (List.getElem?_eq_some_iff.1 hmk).2]⟩,rfl,U7,rfl⟩,Sa⟩
   omega
  refine z6 rfl (zK [_] (e:=2) (sz:=1) ⟨.int .i64 0,by kernel_rfl,rfl⟩ rfl rfl rfl ?_)
  intro g122
  refine ⟨Sa,?_⟩
  refine yK 2 ?_
  refine z6 rfl (zK [_,_,_,_,_,_] (e:=166) (sz:=6) ⟨.agg #[.int .i64 0,.int .i64 0,.int .i64 0,.int .i64 0,.int .i64 0,.slice none 0 0],by kernel_rfl,rfl⟩ rfl rfl rfl ?_)
  intro g117
  refine ⟨Sa,?_⟩
  refine yK 3 ?_
  refine z6 rfl (Ea Hp.elemEn rfl rfl (SrcOf.blk (by kernel_rfl) rfl (by simp [Value.oneCell'])) (by unfold maxLen;omega) ?_)
  intro p6 c6 hp6
  rw [flat_snoc emC ems ⟨e,p5,c5⟩]
  refine ⟨Sa,?_⟩
  refine yK 8 ?_
  refine zY rfl (Ea Ta.elemL rfl rfl (SrcOf.blk (by kernel_rfl) rfl (by simp [Value.oneCell'])) (by unfold maxLen;omega) ?_)
  intro p7 c7 hp7
  rw [map_snoc kI mss (x.mark:Int)]
  refine Rz 9 ?_
  refine Rd0 (by rfl) ?_
  simp only [dS,dZ,dN]
  refine La rfl (Ld (TR ?_))
  iterate 2 refine Lz ?_
  refine Ld ?_
  refine ⟨_,?_,_,⟨_,i+1,s',p6,p7,c6,c7,ems++[⟨e,p5,c5⟩],mss++[(x.mark:Int)],⟨by omega,by rw [List.take_succ_eq_append_getElem (by omega),replay_snoc,show es[i]'(by omega)=e from (List.getElem?_eq_some_iff.1 he).2];exact hs',by rw [List.map_append,hem,List.take_succ_eq_append_getElem (by omega),show es[i]'(by omega)=e from (List.getElem?_eq_some_iff.1 he).2];rfl,by rw [hms,List.take_succ_eq_append_getElem (by omega),show (mksOf es)[i]'(by omega)=(x.mark:Int) from (List.getElem?_eq_some_iff.1 hmk).2]⟩,rfl,U7,rfl⟩,Sa⟩
  omega
 obtain rfl:i=N:=by omega
 rw [List.take_of_length_le (by omega)] at hS2 hem hms
 subst hms
 refine zB (TS (Lm rfl (Lm rfl ?_)))
 refine Le (Ec (Ta.analyse B ems (mksOf es) pe pm i ce cm heml hmsl (by omega)) Tryz.func51 rfl rfl rfl ?_)
 rintro _ _ ⟨p1,p2,p3,c1,c2,c3,rfl,rfl⟩
 try simp only [cA,nA]
 rw [hem,ha,hal]
 refine Le (El [.slice none 0 0,.slice none 0 0,.slice none 0 0,.int .i64 0] (by unfold Zf;kernel_rfl) ?_)
 intro g22
 refine L0 (Es [_,_,_,_] rfl rfl rfl rfl (by simp) ?_)
 try simp only [splice,lC,lN,dS,cA,tS,tZ,dZ,nA,aN]
 refine Ld (Ts (T.own λ w ho=>?_))
 have hp1:0<a.cm.length -> ∃ g,p1=some ⟨g,0,none⟩:=((ho.map Sa:Own B w [cmR p1 a.cm.length c1 a.cm]).slice_at (p:=p1) (m:=a.cm.length) (c:=c1)).2.1
 clear ho
 refine T.conv (l':=cmR none 0 0 []::_) (λ w ho=>ho.row_nil _ _) (T.draw 16 ([blk g22 [.slice p1 a.cm.length c1,.slice p2 (losersA a).length c2,.slice p3 (pagesT a).length c3,.int .i64 (lastE es)] 87]) (nB rfl) ?_)
 refine Rz 0 ?_;refine Rz 1 ?_;refine Rz 2 ?_;refine Rz 3 ?_;refine Rz 4 ?_;refine Rz 5 ?_;refine Rz 7 ?_;refine Rz 8 ?_;refine Rz 10 ?_;refine Rz 11 ?_
 refine yK 6 ?_
 refine z6 rfl (YL (Ql rfl rfl) ?_)
 refine ⟨Sa,?_⟩
 refine yK 9 ?_
 refine z6 rfl (Ea Hp.elemC rfl rfl (SrcOf.row (by kernel_rfl) one_stC) (by unfold maxLen;omega) ?_)
 intro p8 c8 hp8
 simp only [Nat.zero_add,List.flatMap_nil,List.nil_append]
 refine ⟨Sa,?_⟩
 refine Rz 12 ?_;refine Rz 13 ?_;refine Rz 14 ?_
 refine yK 15 ?_
 refine YH rfl (E1 (by kernel_rfl) rfl rfl rfl (by first | (simp;done) | (simp;omega)) ?_)
 try simp only [List.set_cons_zero,List.set_cons_succ]
 refine ⟨Sa,?_⟩
 refine Rd0 (by rfl) ?_
 simp only [dS,dZ,dN]
 iterate 3 refine Lz ?_
 refine L0 (E1 (by kernel_rfl) rfl rfl rfl (by first | (simp;done) | (simp;omega)) ?_)
 try simp only [List.set_cons_zero,List.set_cons_succ]
 refine Ld (Ts (TS ?_))
 iterate 4 refine Lz ?_
 refine Ld (yH ?_)
 obtain ⟨m,hm⟩ : ∃ m,a.cm.length=m:=⟨_,rfl⟩
 rw [hm] at hp1 ⊢
 refine zG (λ mz fz lz => ∃ (f0:Fr) (j:Nat) (st:List (Int×Int)),(j<=m/\st=cmSt (a.cm.take j))/\mz=m-j/\fz=(upd (upd (upd (upd (upd (upd f0 7 (.pointer (some ⟨g7,0,none⟩))) 14 (pV g72)) 22 (.pointer (some ⟨g22,0,none⟩))) 147 (.slice p1 m c1)) 148 (.int .i64 m)) 149 (.int .i64 j))/\lz=hpB g72 ⟨gm,gl,gp⟩ p8 m c8 (lastE es)::stA ⟨gm,gl,gp⟩ st::cmR p8 m c8 a.cm::wlS b ⟨gm,gl,gp⟩ s::plS b n logs k ⟨gm,gl,gp⟩ s::Zn b s.D::blk g22 [.slice p1 m c1,.slice p2 (losersA a).length c2,.slice p3 (pagesT a).length c3,.int .i64 (lastE es)] 87::blk g7 [.slice none 0 0,.slice none 0 0,.slice none 0 0,.int .i64 0] 87::cmR p1 m c1 a.cm::mkR p2 (losersA a).length c2 (losersA a)::toR p3 (pagesT a).length c3 (pagesT a)::F) ?_ ?_
 . refine ⟨_,_,⟨_,0,[],⟨Nat.zero_le _,rfl⟩,rfl,U6,rfl⟩,Sa⟩
 rintro mz fz lz ⟨f0,j,st,⟨hj,hst⟩,hmz,rfl,rfl⟩
 subst mz
 refine TS (Lq (yM rfl rfl) (Ld (Ts ?_)))
 refine yN rfl (λ hlt3=>?_) (λ hlt3=>?_)
 .
  obtain ⟨g1,rfl⟩:=hp1 (by omega)
  obtain ⟨c,hc3⟩ : ∃ c,a.cm[j]? = some c:=⟨_,List.getElem?_eq_getElem (by omega)⟩
  refine Tk (Ts (yH (TS ?_)))
  refine Lz ?_
  refine Lq (QL [.int .i64 c.1,.int .i64 c.2] rfl (by rw [show [Value.int .i64 c.1,.int .i64 c.2]=stC (a.cm[j]'(by omega)) by rw [(List.getElem?_eq_some_iff.1 hc3).2]];exact rdl_flat _ _ _ (by intros;rfl) _ (by omega))) ?_
  refine Le (El [.int .i64 0,.int .i64 0] (by unfold Zf;kernel_rfl) ?_)
  intro g24
  refine L0 (Es [_,_] rfl rfl rfl rfl (by simp) ?_)
  try simp only [splice,lC,lN,dS,cA,tS,tZ,dZ,nA,aN]
  refine Ld (zU 7 (nB rfl) ?_)
  refine Rz 0 ?_;refine Rz 1 ?_;refine Rz 2 ?_;refine Rz 3 ?_;refine Rz 4 ?_;refine Rz 5 ?_;refine Rz 6 ?_
  refine Rd0 (by rfl) ?_
  simp only [dS,dZ,dN]
  refine L0 (Y0 Hp.okS rfl c.1 rfl 2 rfl ?_)
  refine Ld (TR ?_)
  iterate 2 refine Lz ?_
  refine Ld ?_
  refine ⟨_,?_,_,⟨_,j+1,putL st c.1 2,⟨by omega,by rw [cmSt_snoc hc3,hst]⟩,rfl,U6,rfl⟩,Sa⟩
  omega
 obtain rfl:j=m:=by omega
 rw [List.take_of_length_le (by omega)] at hst
 subst hst
 subst hm
 have hI:HInv logs k n (K0+k+i) s (cmSt a.cm) (reopen k (logs*256) es):=⟨by show SInv logs k n _ s (replay k (logs*256) es).es (Zi (replay k (logs*256) es).vs);rw [hre];exact hS2.mono (by omega),reopen_inv hh,by rw [hac];exact reopen_st,hrp,hrr,by show lastE es<=_;omega⟩
 refine zB (Ts (zU 3 (nB rfl) ?_))
 refine Rz 0 ?_;refine Rz 1 ?_;refine Rz 2 ?_
 refine Rd0 (by rfl) ?_
 simp only [dS,dZ,dN]
 refine L0 (Es [_,_,_,_] rfl rfl rfl rfl (by simp) ?_)
 try simp only [splice,lC,lN,dS,cA,tS,tZ,dZ,nA,aN]
 refine La rfl (Ld (T.ret ?_))
 exact ⟨.inl rfl,_,_,res [_,_,_] rfl ⟨rvT rfl,rvA [_,_,_,_] rfl ⟨rfl,rfl,rfl,rfl,trivial⟩,rvT rfl,trivial⟩,⟨g72,p1,p2,p3,c1,c2,c3,rfl,rfl⟩,Wb [hpB g72 ⟨gm,gl,gp⟩ p8 a.cm.length c8 (lastE es),stA ⟨gm,gl,gp⟩ (cmSt a.cm),cmR p8 a.cm.length c8 a.cm,wlS b ⟨gm,gl,gp⟩ s,plS b n logs k ⟨gm,gl,gp⟩ s,Zn b s.D] ⟨⟨gm,gl,gp⟩,p8,c8,s,cmSt a.cm⟩ (reopen k (logs*256) es) hI (by dsimp only [hpC];rw [show (reopen k (logs*256) es).cm=a.cm from hac.symm])⟩
open Go.RowKit
theorem lays_not {D:DD} {f:Nat->Option Nat} {j:Nat} (h : ∀ p∈D.pend,p.1≠j) : ∀ i,(D.lays f i).getD j []=D.secs.getD j []
  | 0=>rfl
  | i+1=>by
    have ih:=lays_not (f:=f) h i
    by_cases hi:i<D.pend.length
    . cases hk:f i with
      | none=>rw [DD.lays_none D f i hi hk];exact ih
      | some k =>
        rw [DD.lays_some D f i k hi hk]
        have hp:=h _ (List.getElem_mem hi)
        unfold layW
        rw [List.getD_eq_getElem?_getD,List.getElem?_set_ne hp,<-List.getD_eq_getElem?_getD]
        exact ih
    . have:D.lays f (i+1)=D.lays f i:=by
        simp [DD.lays,List.getElem?_eq_none (show D.pend.length<=i by omega)]
      rw [this];exact ih
theorem read_at {D:DD} {j:Nat} (h : ∀ p∈D.pend,p.1≠j):D.read j=D.secs.getD j []:=by
 unfold DD.read
 have key : ∀ i,i<=D.pend.length->D.readK j i=D.secs.getD j []:=by
  intro i
  induction i with
  | zero=>intro _;exact DD.readK_zero D j
  | succ i ih=>intro hi;rw [DD.readK_succ D j i (by omega),if_neg (h _ (List.getElem_mem (by omega)))];exact ih (by omega)
 exact key _ (Nat.le_refl _)
theorem crash_at {D:DD} {j:Nat} (h : ∀ p∈D.pend,p.1≠j) (keep:List Bool) (t a:Int):(D.crash keep t a).read j=D.read j:=by
 rw [DD.rdN _ rfl,read_at h]
 exact lays_not h _
theorem scan_secs {D:DD} {logs:Nat} {ds:List (List UInt8)} (hs:Secs D 0 logs (Zr 0 0 ds)) (hok : ∀ d∈ds,OkD d) (hl:(Zr 0 0 ds).length<=logs*256) : ∃ x y,Wj (allD D 0 logs) (logs*256+1) 0 0=(x,y,logR 0 ds):=by
 rw [all_text hs hl,scan_text ds _ _ (by have:=length_logB_le 0 0 ds;omega) hok]
 exact ⟨_,_,rfl⟩
theorem logB_le_take {es:List En} (k:Nat):(Zr 0 0 ((es.take k).map Zj)).length<=(Zr 0 0 (es.map Zj)).length:=by
 have:Zr 0 0 (es.map Zj)=Zr 0 0 ((es.take k).map Zj)++Zr (logS 0 0 ((es.take k).map Zj)) (0+(Zr 0 0 ((es.take k).map Zj)).length) ((es.drop k).map Zj):=by
  rw [<-logB_app,<-List.map_append,List.take_append_drop]
 rw [this,List.length_append];omega
theorem LogI.durB {logs:Nat} {W:Wl} {D:DD} {es:List En} (h:LogI logs W D es) : ∃ k,k<=es.length/\W.st.take W.dur=Zr 0 0 ((es.take k).map Zj) /\ ∀ (i:Nat) (e:En),k<=i->es[i]? = some e->e.kind≠3:=by
 obtain ⟨k,k1,k2,k3⟩:=h.dur
 refine ⟨k,k1,?_,k3⟩
 have:Zr 0 0 (es.map Zj)=Zr 0 0 ((es.take k).map Zj)++Zr (logS 0 0 ((es.take k).map Zj)) (0+(Zr 0 0 ((es.take k).map Zj)).length) ((es.drop k).map Zj):=by
  rw [<-logB_app,<-List.map_append,List.take_append_drop]
 rw [h.first.2.2,this,k2,List.take_left' rfl]
theorem HInv.crash {logs count n K:Nat} {s:Pl} {st:List (Int×Int)} {h:HR} (i:HInv logs count n K s st h) (keep:List Bool) (t a:Int) : ∃ k,k<=h.es.length/\(∀ (j:Nat) (e:En),k<=j->h.es[j]? = some e->e.kind≠3)/\(∃ x y,Wj (allD (s.D.crash keep t a) 0 logs) (logs*256+1) 0 0=(x,y,logR 0 ((h.es.take k).map Zj)))/\(s.D.crash keep t a).secs.length=logs+count/\(s.D.crash keep t a).Ok:=by
  obtain ⟨k,k1,k2,k3⟩:=i.s.log.durB
  have ho:=i.s.inv.ok
  have hlen:=i.s.len
  refine ⟨k,k1,k3,scan_secs (λ j hj=>?_) (λ d hd=>?_) ?_,(DD.crash_len ho keep t a).trans hlen,ho.cr keep t a⟩
  . rw [crash_at (λ p hp=>by have:=i.s.log.pend p hp;omega) keep t a,<-k2]
    exact i.s.log.secs j hj
  . obtain ⟨e,he,rfl⟩:=List.mem_map.1 hd
    exact encE_ok (i.r.ok.eok e (List.mem_of_mem_take he))
  . have h1:=logB_le_take (es:=h.es) k
    have h2:=i.s.inv.wst
    rw [i.s.log.first.2.1,i.s.log.first.2.2] at h2
    omega
def CrashH (b logs count:Nat) (h:HR) (u:Value) (l:List Wp):Prop := ∃ (D:DD) (k:Nat),(HistOk count (logs*256) (h.es.take k)/\k<=h.es.length/\(∀ (j:Nat) (e:En),k<=j->h.es[j]? = some e->e.kind≠3)/\(∃ x y,Wj (allD D 0 logs) (logs*256+1) 0 0=(x,y,logR 0 ((h.es.take k).map Zj)))/\D.secs.length=logs+count/\D.Ok/\D.pend=[])/\u = .tuple #[]/\l=[Zn b D]
theorem Hp.crash (B:Wn) (g b logs count n K:Nat) (h:HR) (hK:K<2^30) (vk:Value) (keep:List Bool) (tear at_:Int) (hk:RoS B vk (boolsV keep)) :
  Fn Tryz.prog B 7 #[pV b,vk,.int .i64 tear,.int .i64 at_] [hpA g b logs count n K h] (CrashH b logs count h):=by
 refine Fn.openHp λ x hi hp=>?_
 have hpe:=hi.s.inv.pend
 have hr:=hi.r.hist
 rw [hi.pages,hi.room] at hr
 obtain ⟨k,k1,k2,k3,k4,k5⟩:=hi.crash keep tear at_
 simp only [hpC,List.append_nil]
 refine Fn.wide (Dk.crashF B b x.s.D vk keep tear at_ hk (by omega)) ?_
 rintro u l ⟨rfl,rfl⟩
 exact ⟨_,Sa,_,k,⟨hr.take k,k1,k2,k3,k4,k5,rfl⟩,rfl,rfl⟩
end Go.Proofs.YtkfmfoecplbclaaGreatDoor
