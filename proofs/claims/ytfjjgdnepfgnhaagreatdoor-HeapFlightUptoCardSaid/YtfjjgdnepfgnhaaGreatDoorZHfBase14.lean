/- The texts SfI SiA SfT TaA SlR SlS SlT SlU TaB TaC TaD TaE HpF HeT, one behind the other: what the law leans on. Conditions: as each theorem says. -/
import Derived.Test.YtfjjgdnepfgnhaaGreatDoorZHfBase13
import Derived.Shelf.SlLaysNS
import Derived.Test.YtfjjgdnepfgnhaaGreatDoorProg
import Derived.Shelf.SortG.Plain
import Derived.Shelf.SortG.SortNone
import Derived.Shelf.SlLaysF0
import Derived.RangeFuncIn
import Derived.RangeFuncRecord
import Derived.RangeFuncLeaves
import Derived.RangeFuncSeq
import Derived.TacticsIn
set_option linter.unusedSimpArgs false
set_option linter.unusedVariables false
set_option maxRecDepth 100000
set_option maxHeartbeats 16000000
namespace Go.Proofs
open Go.Shelf
def Tryz.sortI_ren : Go.Shelf.Ren:=⟨fun | 53=>57 | 64=>108 | 63=>107 | 78=>145 | 79=>146 | 70=>136 | 71=>137 | 72=>138 | 73=>139 | 74=>140 | 75=>141 | 59=>142 | 76=>143 | 77=>144 | 88=>157 | 89=>158 | 90=>159 | 91=>160 | 92=>161 | 68=>162 | 96=>175 | n=>n,fun | 22=>29 | 23=>2 | 3=>3 | 51=>221 | 0=>0 | 67=>94 | 69=>151 | 4=>4 | 61=>250 | 60=>249 | 44=>255 | 5=>5 | 9=>9 | 75=>270 | 79=>274 | 83=>285 | 84=>229 | n=>n,fun | n=>n⟩
theorem Tryz.sortI : Go.Proofs.SlLaysN.n53 Tryz.prog Tryz.sortI_ren:={
 mixed:=by kernel_rfl
 f53:=⟨Tryz.f57.name,by decide,Tryz.func57.trans (congrArg some (by kernel_rfl))⟩
 f59:=⟨Tryz.f142.name,by decide,Tryz.func142.trans (congrArg some (by kernel_rfl))⟩
 f63:=⟨Tryz.f107.name,by decide,Tryz.func107.trans (congrArg some (by kernel_rfl))⟩
 f64:=Tryz.func108.trans (congrArg some (by kernel_rfl))
 f68:=⟨Tryz.f162.name,by decide,Tryz.func162.trans (congrArg some (by kernel_rfl))⟩
 f70:=⟨Tryz.f136.name,by decide,Tryz.func136.trans (congrArg some (by kernel_rfl))⟩
 f71:=⟨Tryz.f137.name,by decide,Tryz.func137.trans (congrArg some (by kernel_rfl))⟩
 f72:=⟨Tryz.f138.name,by decide,Tryz.func138.trans (congrArg some (by kernel_rfl))⟩
 f73:=⟨Tryz.f139.name,by decide,Tryz.func139.trans (congrArg some (by kernel_rfl))⟩
 f74:=⟨Tryz.f140.name,by decide,Tryz.func140.trans (congrArg some (by kernel_rfl))⟩
 f75:=⟨Tryz.f141.name,by decide,Tryz.func141.trans (congrArg some (by kernel_rfl))⟩
 f76:=⟨Tryz.f143.name,by decide,Tryz.func143.trans (congrArg some (by kernel_rfl))⟩
 f77:=⟨Tryz.f144.name,by decide,Tryz.func144.trans (congrArg some (by kernel_rfl))⟩
 f78:=Tryz.func145.trans (congrArg some (by kernel_rfl))
 f79:=Tryz.func146.trans (congrArg some (by kernel_rfl))
 f88:=⟨Tryz.f157.name,by decide,Tryz.func157.trans (congrArg some (by kernel_rfl))⟩
 f89:=Tryz.func158.trans (congrArg some (by kernel_rfl))
 f90:=Tryz.func159.trans (congrArg some (by kernel_rfl))
 f91:=⟨Tryz.f160.name,by decide,Tryz.func160.trans (congrArg some (by kernel_rfl))⟩
 f92:=⟨Tryz.f161.name,by decide,Tryz.func161.trans (congrArg some (by kernel_rfl))⟩
 f96:=⟨Tryz.f175.name,by decide,Tryz.func175.trans (congrArg some (by kernel_rfl))⟩
 t0:=Tryz.underlying0
 a0:=Tryz.isAgg0
 z0:=Tryz.sizeOf0
 v0:=Tryz.zeroValue0
 t3:=Tryz.underlying3
 a3:=Tryz.isAgg3
 z3:=Tryz.sizeOf3
 v3:=Tryz.zeroValue3
 t4:=Tryz.underlying4
 a4:=Tryz.isAgg4
 z4:=Tryz.sizeOf4
 v4:=Tryz.zeroValue4
 t5:=Tryz.underlying5
 a5:=Tryz.isAgg5
 z5:=Tryz.sizeOf5
 v5:=Tryz.zeroValue5
 t9:=Tryz.underlying9
 a9:=Tryz.isAgg9
 z9:=Tryz.sizeOf9
 v9:=Tryz.zeroValue9
 t22:=Tryz.underlying29
 a22:=Tryz.isAgg29
 z22:=Tryz.sizeOf29
 v22:=Tryz.zeroValue29
 t23:=Tryz.underlying2
 a23:=Tryz.isAgg2
 z23:=Tryz.sizeOf2
 v23:=Tryz.zeroValue2
 t44:=Tryz.underlying255
 a44:=Tryz.isAgg255
 z44:=Tryz.sizeOf255
 v44:=Tryz.zeroValue255
 t51:=Tryz.underlying221
 a51:=Tryz.isAgg221
 z51:=Tryz.sizeOf221
 v51:=Tryz.zeroValue221
 t60:=Tryz.underlying249
 a60:=Tryz.isAgg249
 z60:=Tryz.sizeOf249
 v60:=Tryz.zeroValue249
 t61:=Tryz.underlying250
 a61:=Tryz.isAgg250
 z61:=Tryz.sizeOf250
 v61:=Tryz.zeroValue250
 t67:=Tryz.underlying94
 a67:=Tryz.isAgg94
 z67:=Tryz.sizeOf94
 v67:=Tryz.zeroValue94
 t69:=Tryz.underlying151
 a69:=Tryz.isAgg151
 z69:=Tryz.sizeOf151
 v69:=Tryz.zeroValue151
 t75:=Tryz.underlying270
 a75:=Tryz.isAgg270
 z75:=Tryz.sizeOf270
 v75:=Tryz.zeroValue270
 t79:=Tryz.underlying274
 a79:=Tryz.isAgg274
 z79:=Tryz.sizeOf274
 v79:=Tryz.zeroValue274
 t83:=Tryz.underlying285
 a83:=Tryz.isAgg285
 z83:=Tryz.sizeOf285
 v83:=Tryz.zeroValue285
 t84:=Tryz.underlying229
 a84:=Tryz.isAgg229
 z84:=Tryz.sizeOf229
 v84:=Tryz.zeroValue229}
end Go.Proofs
namespace Go.Proofs.YtfjjgdnepfgnhaaGreatDoor
open Go.RowKit Go.Shelf Go.Lib Go.Sort
abbrev sortZ (zs:List Int):List Int:=zs.mergeSort fun x y=>decide (x≤y)
theorem Fn.sortI {P:Program} {B:Wn} {ρ:Ren} (L:SlLaysN.n53 P ρ) (v:Value) (e:TypeId) (m:Nat) (zs:List Int) (hm:zs.length=m) (hb:m<2^61) (S:List Wp) (f:Nat) (hf:ρ.f 53=f) :
    Fn P B f #[v] (row v e 1 m (zs.map (Value.int .i64))::S) (fun u l=>u = .tuple #[]∧l=row v e 1 m ((sortZ zs).map (Value.int .i64))::S):=⟨fun w F ho=>by
  subst hf
  obtain ⟨p,cap,rfl,hp,hl⟩:=Own.row_slice ho
  rcases Nat.eq_zero_or_pos m with h0 | h0
  · subst h0
    obtain rfl:zs=[]:=List.eq_nil_of_length_eq_zero hm
    refine (AnyG.slices_Sort_int_none L p cap w).mono ?_
    rintro _ w' ⟨rfl,rfl⟩
    exact ⟨_,_,rfl,⟨rfl,by simp [sortZ]⟩,ho⟩
  · obtain ⟨g,rfl⟩:=hp h0
    have hsz:zs.toArray.size=m:=by simpa using hm
    obtain ⟨e1,e2⟩:=ho.row_owns
    rcases e2 with ⟨e2,_⟩ | ⟨g',cap',cur,e2,_,e3,e4,e5,e6,e7⟩
    · cases e2
    · injection e2 with e2 _ e8
      injection e2 with e2
      injection e2 with e2
      subst e2
      have hH:Holds (Value.int .i64) w g 0 zs.toArray:=fun j hj=>by
        have hlj:j<zs.length:=by simpa using hj
        have hc:cur[j]? = some (.int .i64 zs[j]):=by
          rw [←Array.getElem?_toList]
          have:(cur.toList.take (m*1))[j]? = (zs.map (Value.int .i64))[j]? := by rw [e7]
          rw [List.getElem?_take,if_pos (by omega)] at this
          rw [this]
          simp [hlj]
        constructor
        · unfold World.cell?
          rw [e3]
          simp [hc,hlj,getElem!_pos]
        · unfold World.frozen?
          rw [e3]
          simp
      have hblk:g<w.heap.size:=Zk e3
      have h:=AnyG.slices_Sort_int L g 0 cap zs w hH hblk (by omega)
      rw [hm] at h
      refine h.mono ?_
      rintro _ w' ⟨rfl,k,os,rfl⟩
      have hso:=ho.sorted (k:=k) (sortZ zs).toArray (by simp [sortZ,hm]) os
      exact ⟨_,_,rfl,⟨rfl,rfl⟩,hso⟩⟩
theorem sortZ_perm {l m:List Int} (hp:l.Perm m) (hm:m.Pairwise (· ≤ ·)):sortZ l=m:=by
  have h1:(sortZ l).Pairwise (fun a b=>decide (a≤b)=true):=List.pairwise_mergeSort (by intro a b c h1 h2;simp at h1 h2 ⊢;omega) (by intro a b;simp;omega) l
  have h2:(sortZ l).Perm m:=(List.mergeSort_perm l _).trans hp
  have key : ∀ (a b:List Int),a.Perm b→a.Pairwise (· ≤ ·)→b.Pairwise (· ≤ ·)→a=b:=by
    intro a
    induction a with
    | nil=>intro b hp _ _;exact (List.nil_perm.1 hp).symm ▸ rfl
    | cons x a ih =>
      intro b hp ha hb
      cases b with
      | nil=>exact absurd hp.symm (by simp)
      | cons y b =>
        have hxy:x=y:=by
          have h1:x∈y::b:=hp.subset (List.mem_cons_self ..)
          have h2:y∈x::a:=hp.symm.subset (List.mem_cons_self ..)
          rcases List.mem_cons.1 h1 with h1 | h1
          · exact h1
          · rcases List.mem_cons.1 h2 with h2 | h2
            · exact h2.symm
            · have:=(List.pairwise_cons.1 ha).1 y h2
              have:=(List.pairwise_cons.1 hb).1 x h1
              omega
        subst hxy
        rw [ih b (hp.cons_inv) (List.pairwise_cons.1 ha).2 (List.pairwise_cons.1 hb).2]
  exact key _ _ h2 (h1.imp fun h=>by simpa using h) hm
end Go.Proofs.YtfjjgdnepfgnhaaGreatDoor
namespace Go.Proofs
open Go.Shelf
def Tryz.sortT_ren : Go.Shelf.Ren:=⟨fun | 6=>110 | 15=>108 | 14=>148 | 28=>145 | 29=>146 | 20=>163 | 21=>164 | 22=>165 | 23=>166 | 24=>167 | 25=>168 | 26=>169 | 27=>170 | 46=>176 | 47=>158 | 48=>159 | 49=>177 | 50=>178 | 57=>187 | n=>n,fun | 22=>30 | 24=>71 | 25=>164 | 3=>3 | 39=>221 | 0=>0 | 53=>94 | 55=>151 | 4=>4 | 46=>250 | 45=>249 | 50=>255 | 5=>5 | 9=>9 | 66=>270 | 70=>274 | 76=>285 | 77=>229 | n=>n,fun | n=>n⟩
theorem Tryz.sortT : Go.Proofs.SlLaysF0.n6 Tryz.prog Tryz.sortT_ren:={
 mixed:=by kernel_rfl
 f6:=⟨Tryz.f110.name,by decide,Tryz.func110.trans (congrArg some (by kernel_rfl))⟩
 f14:=⟨Tryz.f148.name,by decide,Tryz.func148.trans (congrArg some (by kernel_rfl))⟩
 f15:=Tryz.func108.trans (congrArg some (by kernel_rfl))
 f20:=⟨Tryz.f163.name,by decide,Tryz.func163.trans (congrArg some (by kernel_rfl))⟩
 f21:=⟨Tryz.f164.name,by decide,Tryz.func164.trans (congrArg some (by kernel_rfl))⟩
 f22:=⟨Tryz.f165.name,by decide,Tryz.func165.trans (congrArg some (by kernel_rfl))⟩
 f23:=⟨Tryz.f166.name,by decide,Tryz.func166.trans (congrArg some (by kernel_rfl))⟩
 f24:=⟨Tryz.f167.name,by decide,Tryz.func167.trans (congrArg some (by kernel_rfl))⟩
 f25:=⟨Tryz.f168.name,by decide,Tryz.func168.trans (congrArg some (by kernel_rfl))⟩
 f26:=⟨Tryz.f169.name,by decide,Tryz.func169.trans (congrArg some (by kernel_rfl))⟩
 f27:=⟨Tryz.f170.name,by decide,Tryz.func170.trans (congrArg some (by kernel_rfl))⟩
 f28:=Tryz.func145.trans (congrArg some (by kernel_rfl))
 f29:=Tryz.func146.trans (congrArg some (by kernel_rfl))
 f46:=⟨Tryz.f176.name,by decide,Tryz.func176.trans (congrArg some (by kernel_rfl))⟩
 f47:=Tryz.func158.trans (congrArg some (by kernel_rfl))
 f48:=Tryz.func159.trans (congrArg some (by kernel_rfl))
 f49:=⟨Tryz.f177.name,by decide,Tryz.func177.trans (congrArg some (by kernel_rfl))⟩
 f50:=⟨Tryz.f178.name,by decide,Tryz.func178.trans (congrArg some (by kernel_rfl))⟩
 f57:=⟨Tryz.f187.name,by decide,Tryz.func187.trans (congrArg some (by kernel_rfl))⟩
 t0:=Tryz.underlying0
 a0:=Tryz.isAgg0
 z0:=Tryz.sizeOf0
 v0:=Tryz.zeroValue0
 t3:=Tryz.underlying3
 a3:=Tryz.isAgg3
 z3:=Tryz.sizeOf3
 v3:=Tryz.zeroValue3
 t4:=Tryz.underlying4
 a4:=Tryz.isAgg4
 z4:=Tryz.sizeOf4
 v4:=Tryz.zeroValue4
 t5:=Tryz.underlying5
 a5:=Tryz.isAgg5
 z5:=Tryz.sizeOf5
 v5:=Tryz.zeroValue5
 t9:=Tryz.underlying9
 a9:=Tryz.isAgg9
 z9:=Tryz.sizeOf9
 v9:=Tryz.zeroValue9
 t22:=Tryz.underlying30
 a22:=Tryz.isAgg30
 z22:=Tryz.sizeOf30
 v22:=Tryz.zeroValue30
 t25:=Tryz.underlying164
 a25:=Tryz.isAgg164
 z25:=Tryz.sizeOf164
 v25:=Tryz.zeroValue164
 t39:=Tryz.underlying221
 a39:=Tryz.isAgg221
 z39:=Tryz.sizeOf221
 v39:=Tryz.zeroValue221
 t45:=Tryz.underlying249
 a45:=Tryz.isAgg249
 z45:=Tryz.sizeOf249
 v45:=Tryz.zeroValue249
 t46:=Tryz.underlying250
 a46:=Tryz.isAgg250
 z46:=Tryz.sizeOf250
 v46:=Tryz.zeroValue250
 t50:=Tryz.underlying255
 a50:=Tryz.isAgg255
 z50:=Tryz.sizeOf255
 v50:=Tryz.zeroValue255
 t53:=Tryz.underlying94
 a53:=Tryz.isAgg94
 z53:=Tryz.sizeOf94
 v53:=Tryz.zeroValue94
 t55:=Tryz.underlying151
 a55:=Tryz.isAgg151
 z55:=Tryz.sizeOf151
 v55:=Tryz.zeroValue151
 t66:=Tryz.underlying270
 a66:=Tryz.isAgg270
 z66:=Tryz.sizeOf270
 v66:=Tryz.zeroValue270
 t70:=Tryz.underlying274
 a70:=Tryz.isAgg274
 z70:=Tryz.sizeOf274
 v70:=Tryz.zeroValue274
 t76:=Tryz.underlying285
 a76:=Tryz.isAgg285
 z76:=Tryz.sizeOf285
 v76:=Tryz.zeroValue285
 t77:=Tryz.underlying229
 a77:=Tryz.isAgg229
 z77:=Tryz.sizeOf229
 v77:=Tryz.zeroValue229}
end Go.Proofs
namespace Go.Proofs.YtfjjgdnepfgnhaaGreatDoor
open Go.RowKit Go.Shelf Go.Lib Go.Sort
structure Tch where
 page:Int
 first:Int
 last:Int
instance : Inhabited Tch:=⟨⟨0,0,0⟩⟩
abbrev tchC (x:Tch):List Value:=[.int .i64 x.page,.int .i64 x.first,.int .i64 x.last]
abbrev tchV (x:Tch):Value := .agg #[.int .i64 x.page,.int .i64 x.first,.int .i64 x.last]
def cmpZ (x y:Int):Int:=if x<y then -1 else if y<x then 1 else 0
def cmpT (x y:Tch):Int:=cmpZ x.page y.page
theorem Ta.isNaN (x:Int) (W:World):Calls Tryz.prog 112 #[.int .i64 x] W fun e w'=>e = .returned (.bool false)∧w'=W:=by
 go_enter Tryz.func112,Tryz.ntmps112
 go_wp2
 go_ret
 exact ⟨by simp,rfl⟩
theorem Ta.compare (x y:Int) (W:World):Calls Tryz.prog 61 #[.int .i64 x,.int .i64 y] W fun e w'=>e = .returned (.int .i64 (cmpZ x y))∧w'=W:=by
  go_enter Tryz.func61,Tryz.ntmps61
  go_wp2_with fail
  refine (Ta.isNaN x _).mono ?_
  rintro e w' ⟨rfl,rfl⟩
  go_wp2_with fail
  refine (Ta.isNaN y _).mono ?_
  rintro e w' ⟨rfl,rfl⟩
  by_cases h1:x<y
  · go_wp2
    go_ret
    exact ⟨by simp [cmpZ,h1],rfl⟩
  · by_cases h2:y<x
    · go_wp2
      go_ret
      exact ⟨by simp [cmpZ,h1,h2],rfl⟩
    · go_wp2
      go_ret
      exact ⟨by rw [show cmpZ x y=0 by unfold cmpZ;rw [if_neg (by omega),if_neg (by omega)]];rfl,rfl⟩
theorem Ta.cmp (x y:Tch) (W:World):Calls Tryz.prog 60 #[tchV x,tchV y] W fun e w'=>e = .returned (.int .i64 (cmpT x y)) ∧ ∃ q os',w'=grow (W.drewN q) os':=by
 go_enter Tryz.func60,Tryz.ntmps60
 go_wp2_with fail
 refine (Ta.compare x.page y.page _).mono ?_
 rintro e w' ⟨rfl,rfl⟩
 go_wp2
 go_ret
 exact ⟨by simp [cmpT],0,_,by rw [alloc_eq_grow,alloc_eq_grow,grow_grow];rfl⟩
theorem cmpT_lt {x y:Tch}:ltOf cmpT x y=decide (x.page<y.page):=by
 unfold ltOf cmpT cmpZ
 by_cases h1:x.page<y.page
 · simp [h1]
 · by_cases h2:y.page<x.page <;> simp [h1,h2]
theorem cmpT_swo : SWO (ltOf cmpT):=⟨fun x=>by simp [cmpT_lt],fun x y z=>by simp only [cmpT_lt,decide_eq_true_eq];omega,fun x y z=>by simp only [cmpT_lt,decide_eq_false_iff_not];omega⟩
abbrev sortT (l:List Tch):List Tch:=l.mergeSort fun x y=>decide (x.page≤y.page)
theorem sorted_uniq : ∀ {a b:List Tch},a.Perm b→(a.map (·.page)).Nodup→a.Pairwise (fun x y=>x.page≤y.page)→b.Pairwise (fun x y=>x.page≤y.page)→a=b
  | [],b,hp,_,_,_=>(List.nil_perm.1 hp).symm ▸ rfl
  | x::a,[],hp,_,_,_=>absurd hp.symm (by simp)
  | x::a,y::b,hp,hn,ha,hb=>by
    have hxy:x=y:=by
      have h1:x∈y::b:=hp.subset (List.mem_cons_self ..)
      have h2:y∈x::a:=hp.symm.subset (List.mem_cons_self ..)
      rcases List.mem_cons.1 h1 with h1 | h1
      · exact h1
      · rcases List.mem_cons.1 h2 with h2 | h2
        · exact h2.symm
        · have h3:=(List.pairwise_cons.1 ha).1 y h2
          have h4:=(List.pairwise_cons.1 hb).1 x h1
          simp only [List.map_cons,List.nodup_cons] at hn
          exact absurd (List.mem_map_of_mem (f:=(·.page)) h2) (by rw [show y.page=x.page by omega];exact hn.1)
    subst hxy
    simp only [List.map_cons,List.nodup_cons] at hn
    rw [sorted_uniq hp.cons_inv hn.2 (List.pairwise_cons.1 ha).2 (List.pairwise_cons.1 hb).2]
theorem sortT_sorted (l:List Tch):(sortT l).Pairwise (fun x y=>x.page≤y.page):=by
 have:=List.pairwise_mergeSort (le:=fun x y:Tch=>decide (x.page≤y.page)) (by intro a b c h1 h2;simp at h1 h2 ⊢;omega) (by intro a b;simp;omega) l
 exact this.imp fun h=>by simpa using h
theorem sortT_of {l m:List Tch} (hp:m.Perm l) (hn:(l.map (·.page)).Nodup) (hs:SortedIn (ltOf cmpT) 0 m.length m.toArray):m=sortT l:=by
 refine sorted_uniq (hp.trans (List.mergeSort_perm l _).symm) ((hp.map _).nodup_iff.2 hn) ?_ (sortT_sorted l)
 rw [List.pairwise_iff_getElem]
 intro i j hi hj hij
 have:=hs i j (Nat.zero_le _) hij hj
 rw [cmpT_lt] at this
 simp only [decide_eq_false_iff_not] at this
 rw [getElem!_pos m.toArray i (by simpa using hi),getElem!_pos m.toArray j (by simpa using hj)] at this
 simpa using this
open Go.RowKit
def fen (ro:Option Nat):Fence:={Fence.wide with round:=ro}
theorem calls_fen {P:Program} {f:FuncId} {args:Array Value} {w:World} {R:Ending→World→Prop} (ro:Option Nat) (n:Nat) (h:Calls P f args w R):CallsIn (fen ro) n P f args w R:=(callsIn_wide (n:=n)).2 h
theorem rows_fen {P:Program} {row:String} {args:Array Value} {w:World} {R:Value→World→Prop} (ro:Option Nat) (n:Nat) (h:Rows P row args w R):RowsIn (fen ro) n P row args w R:=fun c cs _=>by
 obtain ⟨v,w',r,s⟩:=h c cs
 exact ⟨v,w',r,(stepsIn_wide (P:=P)).2 s⟩
theorem depth_fen (ro:Option Nat) (n:Nat):(fen ro).depth.isSome=true→1≤n:=fun h=>by simp [fen,Fence.wide] at h
def aD (n:Nat) (f:Fr) (ds:List Deferred):Act:=⟨tm n f,ds⟩
def Act.more (a:Act) (ds:List Deferred):Act:=⟨a.tmps,a.defers++ds⟩
theorem more_act (n:Nat) (f:Fr) (ds:List Deferred):Act.more (act n f) ds=aD n f ds:=rfl
theorem more_eval (a:Act) (ds:List Deferred):(Act.more a ds).eval=a.eval:=by funext x;cases x <;> rfl
theorem more_put (a:Act) (ds:List Deferred) (d:Option Nat) (v:Value):(Act.more a ds).put d v=Act.more (a.put d v) ds:=by cases d <;> rfl
theorem eval_aD (n:Nat) (f:Fr) (ds:List Deferred):(aD n f ds).eval=evu n f:=by rw [←more_act,more_eval,Wk]
theorem put_aD (n:Nat) (f:Fr) (ds:List Deferred) (d:Option Nat) (v:Value):(aD n f ds).put d v=aD n (putd f d v) ds:=by rw [←more_act,more_put,put_act,more_act]
def noDef (o:Oper):Bool:=match o.op with | .defer _=>false | _=>true
theorem noDef_spec {o:Oper} (h:noDef o=true) : ∀ c,o.op ≠ .defer c:=fun c e=>by unfold noDef at h;rw [e] at h;cases h
section
variable {P : Program} {o:Oper} {a:Act} {w:World} {next next':Act→World→Prop} {Q Q':Exit→Act→World→Prop}
theorem op_fen (ro:Option Nat) (ds:List Deferred) (hd:noDef o=true) (hn : ∀ a w,next a w→next' (Act.more a ds) w) (hq : ∀ e a w,Q' e a w→e ≠ .outgrown∧Q e (Act.more a ds) w) (h:o.wp P a w next Q'):o.wpIn (fen ro) 0 P (Act.more a ds) w next' Q:=by
 refine ⟨fun _ _=>trivial,?_⟩
 rw [Oper.semAt_eq _ _ _ (noDef_spec hd),more_eval]
 unfold Oper.wp at h
 generalize (execOp a.eval o).run P w=r at h ⊢
 cases r with
 | ok x w' =>
  cases x <;> simp only [Oper.upon,Oper.uponIn] at h ⊢
  case value v=>rw [more_put];exact hn _ _ h
  case skip=>rw [more_put];exact hn _ _ h
  case defer d =>
   have e:({ (Act.more a ds) with defers:=d::(Act.more a ds).defers}.put o.dst undef)=Act.more ({a with defers:=d::a.defers}.put o.dst undef) ds:=by cases o.dst <;> rfl
   rw [e];exact hn _ _ h
  case enter f args =>
   refine ⟨depth_fen ro 0,calls_fen ro _ (Calls.mono h ?_)⟩
   intro e w'' k
   cases e with
   | returned v=>show next' ((Act.more a ds).put o.dst v) w'';rw [more_put];exact hn _ _ k
   | panicked c=>exact (hq _ _ _ k).2
   | outgrown=>obtain ⟨a0,w0,k⟩:=k;exact absurd rfl (hq _ _ _ k).1
  case row row args =>
   refine ⟨depth_fen ro 0,rows_fen ro _ (Rows.mono h ?_)⟩
   intro v w'' k
   rw [more_put];exact hn _ _ k
 | halt x w' =>
  cases x <;> simp only [Oper.upon,Oper.uponIn] at h ⊢
  exact (hq _ _ _ h).2
theorem ops_fen {ops:Array Oper} (ro:Option Nat) (ds:List Deferred) (hd : ∀ (i:Nat) (o:Oper),ops[i]? = some o→noDef o=true) (hq : ∀ e a w,Q' e a w→e ≠ .outgrown∧Q e (Act.more a ds) w) : ∀ is a w,wpOps P ops Q' is a w→wpOpsIn (fen ro) 0 P ops Q is (Act.more a ds) w
  | [],a,w,h=>(hq _ _ _ h).2
  | i::is,a,w,h=>by
    simp only [wpOps] at h
    simp only [wpOpsIn]
    cases ho:ops[i]? with
    | none=>rw [ho] at h;exact ops_fen ro ds hd hq is a w h
    | some o =>
      rw [ho] at h
      simp only at h ⊢
      have e:yielded ops (Act.more a ds).tmps=yielded ops a.tmps:=rfl
      rw [e]
      split
      · rename_i hw
        rw [if_pos hw] at h
        rcases h with h | ⟨_,a0,w0,k⟩
        · exact op_fen ro ds (hd i o ho) (fun a w k=>ops_fen ro ds hd hq is a w k) hq h
        · exact absurd rfl (hq _ _ _ k).1
      · rename_i hw
        rw [if_neg hw] at h
        refine ⟨fun _ _=>trivial,?_⟩
        rw [more_put]
        exact ops_fen ro ds hd hq is _ w h
end
abbrev PostD := Exit→List Deferred→Fr→List Wp→Prop
structure FitsD (B:Wn) (n:Nat) (Φ:PostD) (Q:Exit→Act→World→Prop):Prop where
 go : ∀ e ds f w l,Φ e ds f l→Own B w l→Q e (aD n f ds) w
 pk:PanicKeeps Q
structure TI (P:Program) (B:Wn) (n:Nat) (ro:Option Nat) (c:Code) (Φ:PostD) (ds:List Deferred) (f:Fr) (l:List Wp):Prop where
 run : ∀ Q w,FitsD B n Φ Q→Own B w l→c.wpIn (fen ro) 0 P Q (aD n f ds) w
structure LI (P:Program) (B:Wn) (n:Nat) (ro:Option Nat) (ops:Array Oper) (rest:List Oper) (Φ:PostD) (ds:List Deferred) (f:Fr) (l:List Wp):Prop where
 run : ∀ Q w,FitsD B n Φ Q→Own B w l→wpListIn (fen ro) 0 P ops Q rest (aD n f ds) w
structure Ey (P:Program) (B:Wn) (n:Nat) (ro:Option Nat) (o:Oper) (f:Fr) (l:List Wp) (K:Value→List Wp→Prop):Prop where
 run : ∀ ds w next Q,Own B w l→(∀ v w' l',K v l'→Own B w' l'→next ((aD n f ds).put o.dst v) w')→o.wpIn (fen ro) 0 P (aD n f ds) w next Q
def regP (Φ:PostD) (ds:List Deferred):Post
 | .outgrown,_,_=>False
 | e,f,l=>Φ e ds f l
def thenI (K:List Deferred→Fr→List Wp→Prop) (Φ:PostD):PostD
 | .normal,ds,f,l=>K ds f l
 | e,ds,f,l=>Φ e ds f l
def blockI (id:Nat) (Φ:PostD):PostD
 | .exit id',ds,f,l=>bif Nat.beq id' id then Φ .normal ds f l else Φ (.exit id') ds f l
 | e,ds,f,l=>Φ e ds f l
def noDefs (ol:List Oper):Bool:=ol.all noDef
theorem noDefs_spec {ol:List Oper} (h:noDefs ol=true) : ∀ (i:Nat) (o:Oper),ol.toArray[i]? = some o→noDef o=true:=fun i o e=>by
 refine List.all_eq_true.1 h o ?_
 rw [List.getElem?_toArray] at e
 exact List.mem_of_getElem? e
section
variable {P : Program} {B:Wn} {n:Nat} {ro:Option Nat} {ops:Array Oper} {rest:List Oper} {o:Oper} {Φ:PostD} {ds:List Deferred} {f:Fr} {l:List Wp}
def shiftQ (Q:Exit→Act→World→Prop) (ds:List Deferred) (e:Exit) (a:Act) (w:World):Prop:=e ≠ .outgrown∧Q e (Act.more a ds) w
theorem FitsD.shift {Q:Exit→Act→World→Prop} (hf:FitsD B n Φ Q) (ds:List Deferred):Fits B n (regP Φ ds) (shiftQ Q ds):=⟨fun e f w l k ho=>by
 cases e with
 | outgrown=>exact k.elim
 | _=>exact ⟨(by simp),hf.go _ ds f w l k ho⟩,fun c a d v w k=>⟨by simp,hf.pk c _ d v w (by rw [more_put];exact k.2)⟩⟩
theorem TI.own {c:Code} (h : ∀ w,Own B w l→TI P B n ro c Φ ds f l):TI P B n ro c Φ ds f l:=⟨fun Q w hf ho=>(h w ho).run Q w hf ho⟩
theorem TI.conv {c:Code} {l':List Wp} (hc : ∀ w,Own B w l→Own B w l') (h:TI P B n ro c Φ ds f l'):TI P B n ro c Φ ds f l:=⟨fun Q w hf ho=>h.run Q w hf (hc w ho)⟩
theorem TI.ex {c:Code} {α:Type} {l':α→List Wp} (h : ∀ w,Own B w l → ∃ x,Own B w (l' x)) (k : ∀ x,TI P B n ro c Φ ds f (l' x)):TI P B n ro c Φ ds f l:=⟨fun Q w hf ho=>by
 obtain ⟨x,hx⟩:=h w ho
 exact (k x).run Q w hf hx⟩
theorem TI.skip (h:Φ .normal ds f l):TI P B n ro .skip Φ ds f l:=⟨fun _ w hf ho=>wpIn_skip (hf.go _ _ _ w _ h ho)⟩
theorem TI.ret (h:Φ .ret ds f l):TI P B n ro .ret Φ ds f l:=⟨fun _ w hf ho=>wpIn_ret (hf.go _ _ _ w _ h ho)⟩
theorem TI.exit {id:Nat} (h:Φ (.exit id) ds f l):TI P B n ro (.exit id) Φ ds f l:=⟨fun _ w hf ho=>wpIn_exit (hf.go _ _ _ w _ h ho)⟩
theorem TI.seq {x y:Code} (h:TI P B n ro x (thenI (fun ds' f' l'=>TI P B n ro y Φ ds' f' l') Φ) ds f l):TI P B n ro (.seq x y) Φ ds f l:=⟨fun Q w hf ho=>by
  refine wpIn_seq (h.run _ w ⟨fun e ds' f' w' l' k ho'=>?_,fun c a d v w' k=>?_⟩ ho)
  · cases e with
    | normal=>exact (show TI P B n ro y Φ ds' f' l' from k).run Q w' hf ho'
    | _=>exact hf.go _ _ _ w' l' k ho'
  · exact hf.pk c a d v w' k⟩
theorem TI.cut {x y:Code} (M:Fr→List Wp→Prop) (h1:TI P B n ro x (thenI (fun ds' f' l'=>ds'=ds ∧ ∃ l'',M f' l''∧Sub l' l'') Φ) ds f l) (h2 : ∀ f l,M f l→TI P B n ro y Φ ds f l):TI P B n ro (.seq x y) Φ ds f l:=by
 refine TI.seq ⟨fun Q w hf ho=>h1.run Q w ⟨fun e ds' f' w' l' k ho'=>?_,hf.pk⟩ ho⟩
 cases e with
 | normal =>
  obtain ⟨rfl,l'',hM,hs⟩:=k
  exact hf.go .normal _ f' w' l'' (h2 f' l'' hM) (ho'.map hs)
 | _=>exact hf.go _ _ _ w' l' k ho'
theorem TI.block {id:Nat} {c:Code} (h:TI P B n ro c (blockI id Φ) ds f l):TI P B n ro (.block id c) Φ ds f l:=⟨fun Q w hf ho=>by
  refine wpIn_block (h.run _ w ⟨fun e ds' f' w' l' k ho'=>?_,fun c a d v w' k=>?_⟩ ho)
  · cases e with
    | exit id' =>
      simp only [blockI,Exit.inBlock] at k ⊢
      by_cases hid:id'=id
      · subst hid;simp only [Nat.beq_refl,cond_true] at k;rw [if_pos rfl];exact hf.go _ _ _ w' l' k ho'
      · have hb:Nat.beq id' id=false:=by
          cases hb:Nat.beq id' id with
          | false=>rfl
          | true=>exact absurd (Nat.eq_of_beq_eq_true hb) hid
        rw [hb] at k;rw [if_neg hid];exact hf.go _ _ _ w' l' k ho'
    | _=>exact hf.go _ _ _ w' l' k ho'
  · exact hf.pk c a d v w' k⟩
theorem TI.cond {c:Operand} {x y:Code} {b:Bool} (hb:ev n f c=some (.bool b)) (h1:b=true→TI P B n ro x Φ ds f l) (h2:b=false→TI P B n ro y Φ ds f l):TI P B n ro (.cond c x y) Φ ds f l:=⟨fun Q w hf ho=>by
 refine wpIn_cond (t:=b) (by rw [eval_aD,Zc hb]) ?_
 cases b with
 | true=>exact (h1 rfl).run Q w hf ho
 | false=>exact (h2 rfl).run Q w hf ho⟩
theorem TI.condP {c:Operand} {x y:Code} {p:Prop} [i:Decidable p] (hb:ev n f c=some (.bool (decide p))) (h1:p→TI P B n ro x Φ ds f l) (h2 : ¬ p→TI P B n ro y Φ ds f l):TI P B n ro (.cond c x y) Φ ds f l :=
 TI.cond hb (fun h=>h1 (of_decide_eq_true h)) (fun h=>h2 (of_decide_eq_false h))
theorem TI.condT {c:Operand} {x y:Code} (hb:ev n f c=some (.bool true)) (h:TI P B n ro x Φ ds f l):TI P B n ro (.cond c x y) Φ ds f l:=TI.cond hb (fun _=>h) (fun h=>by cases h)
theorem TI.condF {c:Operand} {x y:Code} (hb:ev n f c=some (.bool false)) (h:TI P B n ro y Φ ds f l):TI P B n ro (.cond c x y) Φ ds f l:=TI.cond hb (fun h=>by cases h) (fun _=>h)
theorem TI.condPT {c:Operand} {x y:Code} {p:Prop} [i:Decidable p] (hb:ev n f c=some (.bool (decide p))) (hp:p) (h1:TI P B n ro x Φ ds f l):TI P B n ro (.cond c x y) Φ ds f l:=TI.condP hb (fun _=>h1) (fun h=>absurd hp h)
theorem TI.condPF {c:Operand} {x y:Code} {p:Prop} [i:Decidable p] (hb:ev n f c=some (.bool (decide p))) (hp : ¬ p) (h1:TI P B n ro y Φ ds f l):TI P B n ro (.cond c x y) Φ ds f l:=TI.condP hb (fun h=>absurd h hp) (fun _=>h1)
theorem TI.condBT {c:Operand} {x y:Code} {b:Bool} (hb:ev n f c=some (.bool b)) (h:b=true) (h1:TI P B n ro x Φ ds f l):TI P B n ro (.cond c x y) Φ ds f l:=TI.cond hb (fun _=>h1) (fun e=>by rw [e] at h;cases h)
theorem TI.condBF {c:Operand} {x y:Code} {b:Bool} (hb:ev n f c=some (.bool b)) (h:b=false) (h1:TI P B n ro y Φ ds f l):TI P B n ro (.cond c x y) Φ ds f l:=TI.cond hb (fun e=>by rw [e] at h;cases h) (fun _=>h1)
theorem TI.imp {c:Code} {Φ':PostD} (hi : ∀ e ds f l,Φ' e ds f l→Φ e ds f l) (h:TI P B n ro c Φ' ds f l):TI P B n ro c Φ ds f l:=⟨fun Q w hf ho=>h.run Q w ⟨fun e ds' f' w' l' k=>hf.go e ds' f' w' l' (hi _ _ _ _ k),hf.pk⟩ ho⟩
theorem TI.region {id:Nat} {ol:List Oper} (hd:noDefs ol=true) (h:LW P B n ol.toArray ol (regP Φ ds) f l):TI P B n ro (.region id ol.toArray false) Φ ds f l:=⟨fun Q w hf ho=>by
 have h1:=h.run (shiftQ Q ds) w (hf.shift ds) ho
 rw [←wpOps_eq_wpList ol 0 (by simp)] at h1
 refine wpIn_region ?_
 rw [List.range_eq_range',List.size_toArray]
 exact ops_fen ro ds (noDefs_spec hd) (fun _ _ _ k=>k) _ _ _ h1⟩
theorem TI.draw {id:Nat} {ol:List Oper} (m:Nat) (S:List Wp) (hm:P.follows .mixedOrders=true) (hn:m≤ol.length) (hseq:Region.seqB .any ol.toArray (ol.drop m).length m (doneB m ol.length)=true)
  (hd:noDefs ol=true) (h:RW P B n ol.toArray m (regP Φ ds) m S (Array.replicate ol.length false) f l):TI P B n ro (.region id ol.toArray true) Φ ds f l:=⟨fun Q w hf ho=>by
 have h1:=h.run (shiftQ Q ds) _ (Closed.none _) (hf.shift ds) ho.drew
 have h2:=wpAny_of_wpU (P:=P) (md := .any) (ops:=ol.toArray) (Q:=shiftQ Q ds) (n:=m) (by simpa using hseq) m _ (Array.replicate ol.length false) _ _ h1
 have e:m+(ol.toArray.toList.drop m).length=ol.toArray.size:=by simp;omega
 rw [e] at h2
 refine wpIn_region_draw fun t=>?_
 simp only [Region.schedule,hm,Bool.true_or,if_true]
 refine ops_fen (Q':=shiftQ Q ds) (a:=act n f) ro ds (noDefs_spec hd) (fun _ _ _ k=>k) _ _ (wpAny_sound _ t _ _ _ ?_)
 simpa using h2⟩
theorem TI.drawAll {id:Nat} {ol:List Oper} (m:Nat) (hm:P.follows .mixedOrders=true) (hn:m≤ol.length) (hseq:Region.seqB .any ol.toArray (ol.drop m).length m (doneB m ol.length)=true)
  (hd:noDefs ol=true) (h:RW P B n ol.toArray m (regP Φ ds) m l (Array.replicate ol.length false) f l):TI P B n ro (.region id ol.toArray true) Φ ds f l:=TI.draw m l hm hn hseq hd h
theorem TI.drawEx {id:Nat} {ol:List Oper} (m g:Nat) {S:List Wp} [k:Wo g l S] (hm:P.follows .mixedOrders=true) (hn:m≤ol.length) (hseq:Region.seqB .any ol.toArray (ol.drop m).length m (doneB m ol.length)=true)
  (hd:noDefs ol=true) (h:RW P B n ol.toArray m (regP Φ ds) m S (Array.replicate ol.length false) f l):TI P B n ro (.region id ol.toArray true) Φ ds f l:=TI.draw m S hm hn hseq hd h
theorem TI.drawBl {id:Nat} {ol:List Oper} (m:Nat) (g:Option Nat) {S:List Wp} [k:Bl g l S] (hm:P.follows .mixedOrders=true) (hn:m≤ol.length) (hseq:Region.seqB .any ol.toArray (ol.drop m).length m (doneB m ol.length)=true)
  (hd:noDefs ol=true) (h:RW P B n ol.toArray m (regP Φ ds) m S (Array.replicate ol.length false) f l):TI P B n ro (.region id ol.toArray true) Φ ds f l:=TI.draw m S hm hn hseq hd h
theorem TI.loop {c:Code} (I:Nat→Fr→List Wp→Prop) (h0 : ∃ m l',I m f l'∧Sub l l') (round : ∀ m f l,I m f l→TI P B n ro c (thenI (fun ds' f' l'=>ds'=ds ∧ ∃ m',m'<m ∧ ∃ l'',I m' f' l''∧Sub l' l'') Φ) ds f l):TI P B n ro (.loop c) Φ ds f l:=⟨fun Q w hf ho=>by
 obtain ⟨m,l0,hm,hs0⟩:=h0
 replace ho:=ho.map hs0
 intro b k cs hro hb hr
 have key : ∀ m f w l,I m f l→Own B w l → ∃ e a' w',Q e a' w'∧ArrivesIn (Machine.fenced P (fen ro)) P (lone (b.atR (aD n f ds) (.code c :: .inLoop c::k)) cs w) b k cs e a' w':=by
  intro m
  induction m using Nat.strongRecOn with
  | _ m ih =>
   intro f w l hI ho
   obtain ⟨e,a₁,w₁,hq,harr⟩:=(round m f l hI).run (Exit.then (fun a' w' => ∃ m' f' l',m'<m∧I m' f' l'∧Own B w' l'∧a'=aD n f' ds) Q) w
    ⟨fun e ds' f' w' l' k ho'=>by
     cases e with
     | normal=>obtain ⟨rfl,m',h1,l'',h2,h3⟩:=k;exact ⟨m',f',l'',h1,h2,ho'.map h3,rfl⟩
     | _=>exact hf.go _ _ _ w' l' k ho',fun c a d v w' k=>hf.pk c a d v w' k⟩ ho b (.inLoop c::k) cs hro hb hr
   cases e with
   | normal =>
    obtain ⟨m',f',l',h1,h2,h3,rfl⟩:=hq
    obtain ⟨e₂,a₂,w₂,hq₂,harr₂⟩:=ih m' h1 f' w₁ l' h2 h3
    exact ⟨e₂,a₂,w₂,hq₂,.of_steps (StepsIn.trans harr (.one (fenced_calm hb hr rfl) stepR_inLoop)) harr₂⟩
   | exit id=>exact ⟨_,a₁,w₁,hq,.pass (x := .inLoop c) rfl (fun _ _ => .inl (by simp)) harr⟩
   | goto l=>exact ⟨_,a₁,w₁,hq,.pass (x := .inLoop c) rfl (fun _ _ => .inl (by simp)) harr⟩
   | ret=>exact ⟨_,a₁,w₁,hq,.pass (x := .inLoop c) rfl (fun _ _ => .inl (by simp)) harr⟩
   | panic ch=>exact ⟨_,a₁,w₁,hq,.pass (x := .inLoop c) rfl (fun _ _ => .inl (by simp)) harr⟩
   | outgrown=>exact ⟨_,a₁,w₁,hq,.pass (x := .inLoop c) rfl (fun _ _ => .inl (by simp)) harr⟩
 obtain ⟨e,a',w',hq,harr⟩:=key m f w l0 hm ho
 exact ⟨e,a',w',hq,.of_steps (.one (fenced_calm hb hr rfl) stepR_loop) harr⟩⟩
theorem TI.regionY {id:Nat} {ol:List Oper} (h:LI P B n ro ol.toArray ol Φ ds f l):TI P B n ro (.region id ol.toArray false) Φ ds f l:=⟨fun Q w hf ho=>wpIn_region_lit (h.run Q w hf ho)⟩
theorem want_aD (n:Nat) (ops:Array Oper) (f:Fr) (ds:List Deferred) (o:Oper):Region.wanted o (yielded ops (aD n f ds).tmps)=want n ops f o:=want_eq n ops f o
theorem Ey.of {K:Value→List Wp→Prop} (hd:noDef o=true) (h:Ef P B n o f l K):Ey P B n ro o f l K:=⟨fun ds w next Q ho hk=>by
 have h1:=h.run w (fun a w=>next (Act.more a ds) w) (fun _ _ _=>False) ho (fun v w' l' k ho'=>by rw [←more_put];exact hk v w' l' k ho')
 exact op_fen (a:=act n f) ro ds hd (fun _ _ k=>k) (fun _ _ _ k=>k.elim) h1⟩
theorem LI.act (hw:want n ops f o=true) (he:Ey P B n ro o f l fun v l'=>LI P B n ro ops rest Φ ds (putd f o.dst v) l'):LI P B n ro ops (o::rest) Φ ds f l:=⟨fun Q w hf ho=>by
 unfold wpListIn
 rw [want_aD,if_pos hw]
 refine he.run ds w _ Q ho fun v w' l' k ho'=>?_
 rw [put_aD]
 exact k.run Q w' hf ho'⟩
theorem LI.skip (hw:want n ops f o=false) (h:LI P B n ro ops rest Φ ds (putd f o.dst undef) l):LI P B n ro ops (o::rest) Φ ds f l:=⟨fun Q w hf ho=>by
 unfold wpListIn
 rw [want_aD,hw,if_neg (by simp),put_aD]
 exact ⟨fun _ _=>trivial,h.run Q w hf ho⟩⟩
theorem LI.quiet {v:Value} (hd:noDef o=true) (hw:want n ops f o=true) (hq:Qt P B n l o f v) (h:LI P B n ro ops rest Φ ds (putd f o.dst v) l):LI P B n ro ops (o::rest) Φ ds f l:=LI.act hw ⟨fun ds' w next Q ho hk=>by
 refine ⟨fun _ _=>trivial,?_⟩
 rw [Oper.semAt_eq _ _ _ (noDef_spec hd),eval_aD,hq.run w ho]
 exact hk v w l h ho⟩
section named
variable {t : Tmp} {op:Op} {ty:TypeId} {pos:String} {af:Array Edge} {gd:Option (Nat×Bool)}
def wantD (n:Nat) (ops:Array Oper) (f:Fr) (o:Oper):Bool:=noDef o && want n ops f o
theorem wantD_spec (h:wantD n ops f o=true):noDef o=true∧want n ops f o=true:=by simpa [wantD] using h
theorem LI.q {v:Value} (hw:wantD n ops f ⟨some t,op,ty,pos,af,gd⟩=true) (hq:Qt P B n l ⟨some t,op,ty,pos,af,gd⟩ f v) (h:LI P B n ro ops rest Φ ds (upd f t v) l):LI P B n ro ops (⟨some t,op,ty,pos,af,gd⟩::rest) Φ ds f l:=LI.quiet (wantD_spec hw).1 (wantD_spec hw).2 hq h
theorem LI.e (hw:wantD n ops f ⟨some t,op,ty,pos,af,gd⟩=true) (he:Ef P B n ⟨some t,op,ty,pos,af,gd⟩ f l fun v l'=>LI P B n ro ops rest Φ ds (upd f t v) l'):LI P B n ro ops (⟨some t,op,ty,pos,af,gd⟩::rest) Φ ds f l:=LI.act (wantD_spec hw).2 (Ey.of (wantD_spec hw).1 he)
theorem LI.e0 (hw:wantD n ops f ⟨none,op,ty,pos,af,gd⟩=true) (he:Ef P B n ⟨none,op,ty,pos,af,gd⟩ f l fun _ l'=>LI P B n ro ops rest Φ ds f l'):LI P B n ro ops (⟨none,op,ty,pos,af,gd⟩::rest) Φ ds f l:=LI.act (wantD_spec hw).2 (Ey.of (wantD_spec hw).1 he)
theorem LI.y (hw:want n ops f ⟨some t,op,ty,pos,af,gd⟩=true) (he:Ey P B n ro ⟨some t,op,ty,pos,af,gd⟩ f l fun v l'=>LI P B n ro ops rest Φ ds (upd f t v) l'):LI P B n ro ops (⟨some t,op,ty,pos,af,gd⟩::rest) Φ ds f l:=LI.act hw he
theorem LI.s (hw:want n ops f ⟨some t,op,ty,pos,af,gd⟩=false) (h:LI P B n ro ops rest Φ ds (upd f t undef) l):LI P B n ro ops (⟨some t,op,ty,pos,af,gd⟩::rest) Φ ds f l:=LI.skip hw h
end named
theorem LI.done (h:Φ .normal ds f l):LI P B n ro ops [] Φ ds f l:=⟨fun _ w hf ho=>hf.go _ _ _ w _ h ho⟩
theorem LI.split {t:Nat} {b:Bool} (hb:f t=some (.bool b)) (h1:b=true→LI P B n ro ops rest Φ ds (upd f t (.bool true)) l) (h2:b=false→LI P B n ro ops rest Φ ds (upd f t (.bool false)) l):LI P B n ro ops rest Φ ds f l:=by
 cases b with
 | true=>have:=h1 rfl;rwa [upd_self hb] at this
 | false=>have:=h2 rfl;rwa [upd_self hb] at this
theorem LI.gT {t:Nat} {b:Bool} (hb:f t=some (.bool b)) (h:b=true) (h1:LI P B n ro ops rest Φ ds (upd f t (.bool true)) l):LI P B n ro ops rest Φ ds f l:=by subst h;rwa [upd_self hb] at h1
theorem LI.gF {t:Nat} {b:Bool} (hb:f t=some (.bool b)) (h:b=false) (h1:LI P B n ro ops rest Φ ds (upd f t (.bool false)) l):LI P B n ro ops rest Φ ds f l:=by subst h;rwa [upd_self hb] at h1
theorem LI.own (h : ∀ w,Own B w l→LI P B n ro ops rest Φ ds f l):LI P B n ro ops rest Φ ds f l:=⟨fun Q w hf ho=>(h w ho).run Q w hf ho⟩
theorem LI.conv {l':List Wp} (hc : ∀ w,Own B w l→Own B w l') (h:LI P B n ro ops rest Φ ds f l'):LI P B n ro ops rest Φ ds f l:=⟨fun Q w hf ho=>h.run Q w hf (hc w ho)⟩
end
open Go.RowKit
def objA (r:Nat) (o:Obj):Wp:=fun h=>h r=some o
section
variable {B : Wn} {w:World} {l:List Wp}
theorem Own.objGet {r:Nat} {o:Obj} (H:Own B w (objA r o::l)):w.heap[r]? = some o:=by
 obtain ⟨h,_,hl,h1,_,_,a1,_,hA,_⟩:=H.has
 exact hl.p _ _ (a1.p _ _ hA)
theorem Own.objNew (H:Own B w l) (o:Obj):Own B (w.alloc o) (objA w.heap.size o::l) :=
 Own.fresh H ((Kept.refl _ _).alloc _) fun h e=>by
  have:=e w.heap.size (Nat.le_refl _)
  unfold objA
  rw [this]
  exact World.alloc_heap_new w o
theorem Own.objPut {r:Nat} {o:Obj} (H:Own B w (objA r o::l)) (o':Obj):Own B (w.putObj r o') (objA r o'::l):=by
 have hr:=H.objGet
 have hlt:r<w.heap.size:=(Array.getElem?_eq_some_iff.1 hr).1
 refine Own.kept (fp:=[r]) H ⟨rfl,rfl,rfl,(by simp),fun i hi hn=>World.putObj_heap_other (by simpa using hn)⟩ (fun h e g' hg=>by simp at hg;subst hg;exact ⟨_,e⟩) (fun h1 h _ _ e _=>?_)
 have:=e r (.inl (by simp))
 unfold objA
 rw [this]
 exact World.putObj_heap_same hlt
end
theorem Has.overY {A:Wp} : ∀ {m r:List Wp} {h:Piece},Has (m++A::r) h→Has (A::(m++r)) h
 | [],_,_,H=>H
 | _::_,_,_,H=>Has.swap (Wt (fun _ k=>Has.overY k) H)
structure FnY (P:Program) (B:Wn) (lp:Nat) (args:List Value) (pre:List Wp) (R:Value→List Wp→Prop):Prop where
 run : ∀ w F,Own B w (pre++F)→YieldAt Fence.wide 0 P lp args.toArray w fun e w' => ∃ v l,e = .returned v∧R v l∧Own B w' (l++F)
section
variable {P : Program} {B:Wn} {n:Nat} {ro:Option Nat} {f:Fr} {l:List Wp}
variable {d : Option Tmp} {ty:TypeId} {pos:String} {af:Array Edge} {gd:Option (Nat×Bool)}
theorem Ey.yield {x:Operand} {lp:Nat} {args:Array Operand} {ats:Array TypeId} {pre F:List Wp} {R:Value→List Wp→Prop} {K:Value→List Wp→Prop} (vs:List Value) (hc:FnY P B lp vs pre R)
  (hx:ev n f x=some (.func (.yield lp) #[] #[])) (ha:args.toList.map (ev n f)=vs.map some) [k:TakeL pre l F] (h : ∀ v l',R v l'→K v (l'++F)):Ey P B n ro ⟨d,.call ⟨.value x,args,ats⟩,ty,pos,af,gd⟩ f l K:=⟨fun ds w next Q ho hk=>by
 have hav:args.map (evu n f)=vs.toArray:=by
  have:args.toList.map (evu n f)=vs:=by
   have e:=congrArg (List.map (fun o:Option Value=>o.getD undef)) ha
   have e2:(fun x=>evu n f x)=evu n f:=rfl
   simp only [List.map_map,Function.comp_def,Option.getD_some,List.map_id'] at e
   exact e
  rw [←Array.toList_inj,Array.toList_map]
  simpa using this
 obtain ⟨fn,tmps,assign,body,hy,hR⟩:=hc.run w F ho.takeL
 refine ⟨fun _ _=>trivial,?_⟩
 rw [Oper.semAt_eq _ _ _ (fun c e=>by cases e),eval_aD]
 have he:(execOp (evu n f) ⟨d,.call ⟨.value x,args,ats⟩,ty,pos,af,gd⟩).run P w = .ok (.round lp fn tmps assign body) w:=by
  have h1:((do let c ←resolve (evu n f) ⟨.value x,args,ats⟩ ty;invoke c.target c.args):Sem Next).run P w=(Instr.yield lp vs.toArray).run P w:=by
   simp only [resolve,hav]
   simp [Zc hx,Deferred.ofValue,invoke]
  exact h1.trans hy
 rw [he]
 refine ⟨depth_fen ro 0,?_⟩
 have hR':RoundIn (fen ro) 0 P lp fn tmps assign body w (fun e w' => ∃ v l,e = .returned v∧R v l∧Own B w' (l++F)):=hR
 refine RoundIn.mono hR' ?_
 rintro e w' ⟨v,l',rfl,hRv,ho'⟩
 exact hk v w' _ (h v l' hRv) ho'⟩
end
theorem entersOf {P:Program} {g:FuncId} {fn:Func} (hf:P.funcs[g]? = some fn) (hn:(fn.name == "runtime.NumGoroutine")=false) (hb:fn.body.isNone=false) (args:Array Value) (w:World):(callFunc g args).run P w = .ok (.enter g args) w:=by
 have hn' : ¬ fn.name = "runtime.NumGoroutine" := by simpa using hn
 have hb' : ¬ fn.body=none:=fun e=>by rw [e] at hb;cases hb
 simp [callFunc,hf,hn',hb']
def mkD (D:Nat):Deferred:={target := .collected D,args := #[]}
def pjs (f:Fr):List (Nat×Value)→Fr
 | []=>f
 | p::r=>pjs (upd f p.1 p.2) r
theorem tm_pjs (n:Nat) : ∀ (f:Fr) (l:List (Nat×Value)),l.foldl (fun t p=>t.setIfInBounds p.1 p.2) (tm n f)=tm n (pjs f l)
 | _,[]=>rfl
 | f,p::r=>by
  have e:=put_act n f (some p.1) p.2
  have e2:(tm n f).setIfInBounds p.1 p.2=tm n (upd f p.1 p.2):=congrArg Act.tmps e
  rw [List.foldl_cons,e2]
  exact tm_pjs n _ r
def Iter (P:Program) (B:Wn) {α:Type} (gf:FuncId) (lb:List Value) (encs:α→List Value) (st0 pre0:List Wp) (G:List α→α→Prop) (S Sx:List α→Prop) (itp itx:List α→List Wp):Prop :=
 ∀ (lp:Nat) (J Jx:List α→List Wp) (K0:List Wp),Sub (J []) (st0++K0)→Sub (st0++K0) (J [])→(∀ pre x,G pre x→FnY P B lp (encs x) (J pre) (fun v l=>(v = .bool true∧l=J (pre++[x]))∨(v = .bool false∧l=Jx (pre++[x])))) →
  Fn P B gf (#[.func (.yield lp) #[] #[]]++lb.toArray) (pre0++J []) (fun _ l=>(∃ xs,S xs∧l=itp xs++J xs)∨(∃ xs,Sx xs∧l=itx xs++Jx xs))
def roundP {α:Type} (I:List α→List Wp) (Ix:Code→List α→List Wp) (xs:List α) (F:List Wp):PostD
 | .normal,ds,_,l=>ds=[]∧Sub l (I xs++F)
 | .ret,ds,_,l=>ds=[]∧Sub l (Ix .ret xs++F)
 | .exit id,ds,_,l=>ds=[]∧Sub l (Ix (.exit id) xs++F)
 | .goto t,ds,_,l=>ds=[]∧Sub l (Ix (.goto t) xs++F)
 | _,_,_,_=>False
section
variable {P : Program} {B:Wn} {n:Nat} {f:Fr} {l:List Wp} {Φ:PostD} {ds:List Deferred}
theorem TI.range {α:Type} {g:Operand} {ps:List Tmp} {assign body:Code} {gf:FuncId} {lb:List Value} {encs:α→List Value} {st0 pre0 F:List Wp} {G:List α→α→Prop} {S Sx:List α→Prop} {itp itx:List α→List Wp}
    (I:List α→List Wp) (Ix:Code→List α→List Wp) (K0:List Wp) (hI:I []=st0++K0) (hit:Iter P B gf lb encs st0 pre0 G S Sx itp itx)
    (hg:ev n f g=some (.func (.func gf) #[] lb.toArray)) (eg : ∀ args w,(callFunc gf args).run P w = .ok (.enter gf args) w) (hps : ∀ x,(encs x).length=ps.length)
    (hl:Sub l (pre0++I []++F))
    (hbody : ∀ lp pre x F0,G pre x→TI P B n (some lp) assign (fun e ds' f' l'=>e = .normal∧ds'=[] ∧ ∃ l1,Sub l' (l1++F0) ∧ ∀ F1,TI P B n (some lp) body (roundP I Ix (pre++[x]) F1) [] f' (l1++F1)) [] (pjs f (ps.zip (encs x))) (I pre++F0))
    (hdone : ∀ D xs,S xs→Φ .normal (mkD D::ds) f (objA D (.deferred (some []))::(itp xs++I xs++F)))
    (hstop : ∀ D c xs,Sx xs→TI P B n none c Φ (mkD D::ds) f (objA D (.deferred (some []))::(itx xs++Ix c xs++F))) :
    TI P B n none (.rangeFunc g ps.toArray assign body) Φ ds f l:=⟨fun Q w hf ho=>by
  refine wpIn_rangeFunc ?_
  intro fn hfn
  obtain ⟨rec,hrec⟩ : ∃ rec:LoopState→Option Code→Loop,rec=fun st pe=>{state:=st,pending:=pe,fn,tmps:=tm n f,params:=ps.toArray,assign,body,defers:=w.heap.size}:=⟨_,rfl⟩
  obtain ⟨W1,hW1⟩ : ∃ W1,(w.alloc (.deferred (some []))).alloc (.loop (rec .ready none))=W1:=⟨_,rfl⟩
  have ho0:=ho.map hl
  have ho1:=(ho0.objNew (.deferred (some []))).objNew (.loop (rec .ready none))
  rw [World.size_alloc,hW1] at ho1
  obtain ⟨J,hJ⟩ : ∃ J:List α→List Wp,J=fun xs=>objA (w.heap.size+1) (.loop (rec .ready none))::objA w.heap.size (.deferred (some []))::I xs:=⟨_,rfl⟩
  obtain ⟨Jx,hJx⟩ : ∃ Jx:List α→List Wp,Jx=fun xs=>[exA fun c=>sepL (objA (w.heap.size+1) (.loop (rec .done (some c)))::objA w.heap.size (.deferred (some []))::Ix c xs)]:=⟨_,rfl⟩
  have hY : ∀ pre x,G pre x→FnY P B (w.heap.size+1) (encs x) (J pre) (fun v l=>(v = .bool true∧l=J (pre++[x]))∨(v = .bool false∧l=Jx (pre++[x]))):=by
    intro pre x hG
    refine ⟨fun W F' hW=>?_⟩
    rw [hJ] at hW
    have hl1:=hW.objGet
    have hy:=run_yield (P:=P) (args:=(encs x).toArray) hl1 (by rw [hrec];simpa using hps x)
    rw [hrec] at hy
    refine ⟨fn,_,assign,body,hy,roundIn_of_wpIn hfn ?_⟩
    have et:(ps.toArray.zip (encs x).toArray).foldl (fun tmps (t,a)=>tmps.setIfInBounds t a) (tm n f)=tm n (pjs f (ps.zip (encs x))):=by
      rw [←tm_pjs,←Array.foldl_toList]
      simp
    rw [show ((ps.toArray.zip (encs x).toArray).foldl (fun tmps (t,a)=>tmps.setIfInBounds t a) (tm n f))=_ from et]
    have hW2:Own B W (I pre++(objA (w.heap.size+1) (.loop (rec .ready none))::objA w.heap.size (.deferred (some []))::F')):=hW.map fun h H=>by
      have H2:Has ([objA (w.heap.size+1) (.loop (rec .ready none)),objA w.heap.size (.deferred (some []))]++(I pre++F')) h:=H
      refine Has.under (m:=I pre) (Wt (fun _ k=>?_) H2)
      exact Has.under (m:=I pre) k
    refine (hbody (w.heap.size+1) pre x _ hG).run _ W ⟨?_,?_⟩ hW2
    · rintro e ds' f' W3 l' ⟨rfl,rfl,l1,hs,hb⟩ ho3
      have ho4:Own B W3 (objA (w.heap.size+1) (.loop (rec .ready none))::(l1++objA w.heap.size (.deferred (some []))::F')):=ho3.map fun h H=>Has.overY (hs h H)
      have hl4:=ho4.objGet
      have ho5:=ho4.objPut (.loop {rec .ready none with state := .busy})
      refine ⟨_,run_beginRound hl4 (by rw [hrec]),?_⟩
      have ho6:=ho5.map fun h H=>Has.under (m:=l1) H
      refine (hb _).run _ _ ⟨?_,fun c a d v w' k=>k.elim⟩ ho6
      have fin : ∀ (L:List Wp) (jump:Option Code) (l7:List Wp) (W7:World),Sub l7 (L++objA (w.heap.size+1) (.loop {rec .ready none with state := .busy})::objA w.heap.size (.deferred (some []))::F')→Own B W7 l7 →
          ∃ W8,(Instr.endRound (w.heap.size+1) jump).run P W7 = .ok (.bool jump.isNone) W8∧Own B W8 (objA (w.heap.size+1) (.loop (rec (if jump.isNone then .ready else .done) jump))::objA w.heap.size (.deferred (some []))::(L++F')):=by
        intro L jump l7 W7 h7 o7
        have o8:Own B W7 (objA (w.heap.size+1) (.loop {rec .ready none with state := .busy})::(L++objA w.heap.size (.deferred (some []))::F')):=o7.map fun h H=>Has.overY (h7 h H)
        have o9:=o8.objPut (.loop (rec (if jump.isNone then .ready else .done) jump))
        refine ⟨_,?_,o9.map fun h H=>Wt (fun _ k=>Has.overY k) H⟩
        have:=run_endRound (P:=P) jump o8.objGet
        rw [hrec] at this ⊢
        exact this
      have stop : ∀ (c:Code) (l7:List Wp) (W7:World),Sub l7 (Ix c (pre++[x])++objA (w.heap.size+1) (.loop {rec .ready none with state := .busy})::objA w.heap.size (.deferred (some []))::F')→Own B W7 l7 →
          ∃ v W8,(Instr.endRound (w.heap.size+1) (some c)).run P W7 = .ok v W8 ∧ ∃ v' l,Ending.returned v = .returned v'∧((v' = .bool true∧l=J (pre++[x]))∨(v' = .bool false∧l=Jx (pre++[x])))∧Own B W8 (l++F'):=by
        intro c l7 W7 h7 o7
        obtain ⟨W8,hr,o8⟩:=fin _ (some c) l7 W7 h7 o7
        refine ⟨_,W8,hr,_,_,rfl,.inr ⟨rfl,rfl⟩,?_⟩
        rw [hJx]
        exact o8.map fun h H=>Has.close_ex c (Has.close_sepL (l:=objA (w.heap.size+1) (.loop (rec .done (some c)))::objA w.heap.size (.deferred (some []))::Ix c (pre++[x])) H)
      intro e ds7 f7 W7 l7 hp o7
      cases e with
      | normal =>
        obtain ⟨W8,hr,o8⟩:=fin _ none l7 W7 hp.2 o7
        refine ⟨_,W8,hr,_,_,rfl,.inl ⟨rfl,rfl⟩,?_⟩
        rw [hJ]
        exact o8
      | ret=>exact stop _ l7 W7 hp.2 o7
      | exit id=>exact stop _ l7 W7 hp.2 o7
      | goto t=>exact stop _ l7 W7 hp.2 o7
      | panic c=>exact hp.elim
      | outgrown=>exact hp.elim
    · exact fun c a d v w' k=>k.elim
  have hs1 : ∀ h,Has (J []) h→Has (st0++(objA (w.heap.size+1) (.loop (rec .ready none))::objA w.heap.size (.deferred (some []))::K0)) h:=fun h H=>by
    rw [hJ] at H
    have H2:Has ([objA (w.heap.size+1) (.loop (rec .ready none)),objA w.heap.size (.deferred (some []))]++(st0++K0)) h:=by
      have e:(fun xs=>objA (w.heap.size+1) (.loop (rec .ready none))::objA w.heap.size (.deferred (some []))::I xs) []=[objA (w.heap.size+1) (.loop (rec .ready none)),objA w.heap.size (.deferred (some []))]++(st0++K0):=by simp [hI]
      rw [←e];exact H
    refine Has.under (m:=st0) (Wt (fun _ k=>?_) H2)
    exact Has.under (m:=st0) k
  have hs2 : ∀ h,Has (st0++(objA (w.heap.size+1) (.loop (rec .ready none))::objA w.heap.size (.deferred (some []))::K0)) h→Has (J []) h:=fun h H=>by
    rw [hJ]
    show Has (objA (w.heap.size+1) (.loop (rec .ready none))::objA w.heap.size (.deferred (some []))::I []) h
    rw [hI]
    exact Wt (fun _ k=>Has.overY (m:=st0) k) (Has.overY (m:=st0) H)
  have hcall:=(hit (w.heap.size+1) J Jx _ hs1 hs2 hY).run W1 F (ho1.map fun h H=>by
    rw [hJ]
    have H2:Has ([objA (w.heap.size+1) (.loop (rec .ready none)),objA w.heap.size (.deferred (some []))]++(pre0++(I []++F))) h:=by
      simpa using H
    have H3:Has (pre0++(objA (w.heap.size+1) (.loop (rec .ready none))::objA w.heap.size (.deferred (some []))::(I []++F))) h:=by
      refine Has.under (m:=pre0) (Wt (fun _ k=>?_) H2)
      exact Has.under (m:=pre0) k
    simpa using H3)
  refine ⟨w.heap.size+1,[mkD w.heap.size],W1,{target := .fn (.func gf) lb.toArray,args := #[.func (.yield (w.heap.size+1)) #[] #[]]},W1,gf,#[.func (.yield (w.heap.size+1)) #[] #[]]++lb.toArray,W1,?_,?_,fun _ _=>trivial,?_,depth_fen none 0,?_⟩
  · rw [←hW1,hrec];exact run_enterLoop_outer _ _ _ _ _
  · have hg':(aD n f ds).eval g = .func (.func gf) #[] lb.toArray:=by rw [eval_aD];exact Zc hg
    simp only [resolve,hg']
    simp [Deferred.ofValue,Act.eval]
  · simp [invoke,eg]
  · refine calls_fen none _ (Calls.mono hcall ?_)
    rintro e W2 ⟨v,l2,rfl,hd,o2⟩
    rcases hd with ⟨xs,hS,rfl⟩ | ⟨xs,hS,rfl⟩
    · rw [hJ] at o2
      have o3:Own B W2 (objA (w.heap.size+1) (.loop (rec .ready none))::objA w.heap.size (.deferred (some []))::(itp xs++I xs++F)):=o2.map fun h H=>by
        have H2:Has (itp xs++(objA (w.heap.size+1) (.loop (rec .ready none))::objA w.heap.size (.deferred (some []))::(I xs++F))) h:=by simpa using H
        have H3:=Wt (fun _ k=>Has.overY (m:=itp xs) k) (Has.overY (m:=itp xs) H2)
        simpa using H3
      have o4:=(o3.objPut (.loop (rec .exhausted none))).map fun h H=>H.tail
      exact ⟨none,W2.putObj (w.heap.size+1) (.loop (rec .exhausted none)),by have:=run_endLoop (P:=P) o3.objGet (by rw [hrec];simp);rw [hrec] at this ⊢;exact this,hf.go .normal _ f _ _ (hdone _ xs hS) o4⟩
    · rw [hJx] at o2
      obtain ⟨c,o2'⟩ : ∃ c,Own B W2 (objA (w.heap.size+1) (.loop (rec .done (some c)))::objA w.heap.size (.deferred (some []))::(itx xs++Ix c xs++F)):=by
        have H:=o2.has
        obtain ⟨h,a,b,H⟩:=H
        have H2:Has (itx xs++(exA (fun c=>sepL (objA (w.heap.size+1) (.loop (rec .done (some c)))::objA w.heap.size (.deferred (some []))::Ix c xs))::F)) h:=by simpa using H
        obtain ⟨c,H3⟩:=Has.open_ex (Has.overY (m:=itx xs) H2)
        refine ⟨c,o2.os,o2.tape,o2.output,o2.ro,h,a,b,?_⟩
        have H4:=Has.open_sepL H3
        have H5:Has (objA (w.heap.size+1) (.loop (rec .done (some c)))::objA w.heap.size (.deferred (some []))::(Ix c xs++(itx xs++F))) h:=by simpa using H4
        refine Wt (fun _ k=>Wt (fun _ k=>?_) k) H5
        obtain ⟨k1,k2,d,e1,e2,m1,m2⟩:=Has.split k
        obtain ⟨k3,k4,d2,e3,e4,m3,m4⟩:=Has.split m2
        rw [List.append_assoc]
        exact Has.join (Piece.disj.disj_symm (Piece.add_disj (d.disj_symm.disj_symm.disj_le e3) ((d2.disj_symm.disj_le (Piece.le_refl _)))) |>.disj_symm.disj_symm) (e3.le_trans e2) (Piece.add_le e1 (e4.le_trans e2)) m3 (Has.join (d.disj_le e4) (Piece.le_add_left _ _) (Piece.le_add_right (d.disj_le e4)) m1 m4)
      have o4:=(o2'.objPut (.loop (rec .exhausted (some c)))).map fun h H=>H.tail
      exact ⟨some c,W2.putObj (w.heap.size+1) (.loop (rec .exhausted (some c))),by have:=run_endLoop (P:=P) o2'.objGet (by rw [hrec];simp);rw [hrec] at this ⊢;exact this,(hstop _ c xs hS).run Q _ hf o4⟩⟩
theorem TI.rangeL {α:Type} {g:Operand} {ps:List Tmp} {assign body:Code} {gf:FuncId} {lb:List Value} {encs:α→List Value} {st0 pre0 F:List Wp} {G:List α→α→Prop} {S Sx:List α→Prop} {itp itx:List α→List Wp}
  (I:List α→List Wp) (Ix:Code→List α→List Wp) (K0:List Wp) (hI:I []=st0++K0) (hit:Iter P B gf lb encs st0 pre0 G S Sx itp itx)
  (hg:ev n f g=some (.func (.func gf) #[] lb.toArray)) (eg : ∀ args w,(callFunc gf args).run P w = .ok (.enter gf args) w) (hps : ∀ x,(encs x).length=ps.length)
  (PI:List Wp) (hPI:PI=pre0++I []) [k:TakeL PI l F]
  (hbody : ∀ lp pre x F0,G pre x→TI P B n (some lp) assign (fun e ds' f' l'=>e = .normal∧ds'=[] ∧ ∃ l1,Sub l' (l1++F0) ∧ ∀ F1,TI P B n (some lp) body (roundP I Ix (pre++[x]) F1) [] f' (l1++F1)) [] (pjs f (ps.zip (encs x))) (I pre++F0))
  (hdone : ∀ D xs,S xs→Φ .normal (mkD D::ds) f (objA D (.deferred (some []))::(itp xs++I xs++F)))
  (hstop : ∀ D c xs,Sx xs→TI P B n none c Φ (mkD D::ds) f (objA D (.deferred (some []))::(itx xs++Ix c xs++F))) :
  TI P B n none (.rangeFunc g ps.toArray assign body) Φ ds f l:=TI.range I Ix K0 hI hit hg eg hps (by rw [←hPI];exact k.take) hbody hdone hstop
end
open Go.RowKit
inductive Marks : List Deferred→List Wp→List Wp→Prop
 | nil {l:List Wp}:Marks [] l l
 | cons {D:Nat} {ds:List Deferred} {l r s:List Wp}:(∀ h,Has l h→Has (objA D (.deferred (some []))::r) h)→Marks ds r s→Marks (mkD D::ds) l s
theorem Marks.one {D:Nat} {l r:List Wp} [k:TakeA (objA D (.deferred (some []))) l r]:Marks [mkD D] l r := .cons k.take .nil
section
variable {P : Program} {B:Wn} {n:Nat} {f:Fr}
theorem leaves_marks {fn:Func} {R:Ending→World→Prop} : ∀ {ds:List Deferred} {l r:List Wp} {w:World},Marks ds l r→Own B w l→(∀ w',Own B w' r → ∃ v,(results fn (tm n f)).run P w' = .ok v w'∧R (.returned v) w')→LeavesInM Fence.wide 0 P fn (tm n f) R ds .returning w
 | _,_,_,w,.nil,ho,h=>h w ho
 | _,_,_,w,.cons (D:=D) (r:=r) k hm,ho,h=>by
  have h1:=ho.map k
  refine ⟨by simp,.inl ⟨D,_,rfl,run_takeDeferred h1.objGet,?_⟩⟩
  exact leaves_marks hm ((h1.objPut (.deferred none)).map fun _ H=>H.tail) h
def FnPostM (P:Program) (B:Wn) (n:Nat) (fn:Func) (R:Value→List Wp→Prop) (F:List Wp):PostD:=fun e ds f l=>(e = .ret∨e = .normal) ∧ ∃ lR,Marks ds l lR ∧ ∃ v l',(∀ w,Own B w lR→(results fn (act n f).tmps).run P w = .ok v w)∧R v l'∧Sub lR (l'++F)
theorem Fn.enterM {g:FuncId} {fn:Func} {c:Code} {args:List Value} {pre:List Wp} {R:Value→List Wp→Prop} (hfn:P.funcs[g]? = some fn) (hc:fn.body=some c) (hn:fn.ntmps=n) (hl:args.length≤n)
  (h : ∀ F,TI P B n none c (FnPostM P B n fn R F) [] (U (fun _=>none) ((List.range args.length).zip args)) (pre++F)):Fn P B g args.toArray pre R:=⟨fun w F ho=>by
 refine (callsIn_wide (n:=0)).1 (callsIn_of_wp_marks (F:=Fence.wide) hfn hc trivial ?_)
 rw [hn,enter_eq args n hl]
 refine wpIn_mono ((h F).run (fun e a w'=>(∀ c,e ≠ .panic c)∧bodyPostM Fence.wide 0 P fn (fun e w' => ∃ v l,e = .returned v∧R v l∧Own B w' (l++F)) e a w') w ⟨fun e ds f w' l hk ho'=>?_,fun c a d v w' k=>absurd rfl (k.1 c)⟩ ho) fun _ _ _ k=>k.2
 obtain ⟨he,lR,hm,v,l',hr,hR,hs⟩:=hk
 have:=leaves_marks (P:=P) (n:=n) (f:=f) (fn:=fn) (R:=fun e w' => ∃ v l,e = .returned v∧R v l∧Own B w' (l++F)) hm ho' (fun w' ho'=>⟨v,hr w' ho',v,l',rfl,hR,ho'.map hs⟩)
 rcases he with rfl | rfl <;> exact ⟨fun c e=>(by cases e),this⟩⟩
theorem Fn.enterM2 {g:FuncId} {fn:Func} {c:Code} {a0 a1:Value} {pre:List Wp} {R:Value→List Wp→Prop} (n:Nat) (hfn:P.funcs[g]? = some fn) (hc:fn.body=some c) (hn:fn.ntmps=n) (hl:2≤n)
  (h : ∀ F,TI P B n none c (FnPostM P B n fn R F) [] (upd (upd (fun _=>none) 1 a1) 0 a0) (pre++F)):Fn P B g #[a0,a1] pre R:=Fn.enterM (args:=[a0,a1]) hfn hc hn hl h
end
open Go.RowKit
section
variable {ro : Option Nat} {P:Program} {ops:Array Oper} {Q:Exit→Act→World→Prop} {md:Region.Mode} {S:World→Prop}
def wpR (ro:Option Nat) (P:Program) (o:Oper) (a:Act) (w:World) (next:Act→World→Prop) (Q:Exit→Act→World→Prop):Prop:=o.uponIn (fen ro) 0 P a next Q ((execOp a.eval o).run P w)
theorem wpR_mono {o:Oper} {a:Act} {w:World} {K K':Act→World→Prop} (h : ∀ a w,K a w→K' a w) (hh:wpR ro P o a w K Q):wpR ro P o a w K' Q:=by
 unfold wpR at *
 generalize (execOp a.eval o).run P w=r at *
 cases r with
 | ok x w' =>
  cases x <;> simp only [Oper.uponIn] at hh ⊢ <;>
   first
    | exact h _ _ hh
    | exact ⟨hh.1,CallsIn.mono hh.2 (fun e w'' he=>by cases e <;> first | exact h _ _ he | exact he)⟩
    | exact ⟨hh.1,RowsIn.mono hh.2 (fun _ _ he=>h _ _ he)⟩
    | exact ⟨hh.1,RoundIn.mono hh.2 (fun e w'' he=>by cases e <;> first | exact h _ _ he | exact he)⟩
 | halt x w'=>cases x <;> simp only [Oper.uponIn] at hh ⊢ <;> exact hh
theorem wpIn_wpR {o:Oper} {a:Act} {w:World} {K:Act→World→Prop} (hd:noDef o=true):o.wpIn (fen ro) 0 P a w K Q↔wpR ro P o a w K Q:=by
 unfold Oper.wpIn wpR
 rw [Oper.semAt_eq _ _ _ (noDef_spec hd)]
 exact ⟨fun h=>h.2,fun h=>⟨fun _ _=>trivial,h⟩⟩
def wpOpR (ro:Option Nat) (P:Program) (ops:Array Oper) (Q:Exit→Act→World→Prop) (i:Nat) (K:Act→World→Prop) (a:Act) (w:World):Prop :=
 match ops[i]? with
 | none=>K a w
 | some o=>if Region.wanted o (yielded ops a.tmps) then wpR ro P o a w K Q else K (a.put o.dst undef) w
theorem wpOpR_mono {i:Nat} {a:Act} {w:World} {K K':Act→World→Prop} (h : ∀ a w,K a w→K' a w) (hh:wpOpR ro P ops Q i K a w):wpOpR ro P ops Q i K' a w:=by
  unfold wpOpR at *
  split
  · exact h _ _ (by simpa [*] using hh)
  · rename_i o ho
    simp only [ho] at hh
    split
    · rename_i hw;simp only [hw,if_true] at hh;exact wpR_mono h hh
    · rename_i hw;simp only [hw] at hh;exact h _ _ hh
theorem wpOpR_yields {i:Nat} {o:Oper} {v:Value} {a:Act} (hi:ops[i]? = some o) (hy:YieldsIf P ops S o v a)
  {K:Act→World→Prop} {w:World} (hS:S w) (h:K (a.put o.dst v) w):wpOpR ro P ops Q i K a w:=by
 unfold wpOpR
 simp only [hi]
 rcases hy with ⟨hw,hv⟩ | ⟨hw,rfl⟩
 · simp only [hw,if_true,wpR,hv w hS,Oper.uponIn];exact h
 · simp only [hw,Bool.false_eq_true,if_false];exact h
theorem wpOpR_putIf {j:Nat} {oi oj:Oper} {v:Value} (hj:ops[j]? = some oj) (hap:oi.apart ops oj=true)
    (hsi : ∀ cs b,oi.op ≠ .select cs b) (hsj : ∀ cs b,oj.op ≠ .select cs b)
    (hQ : ∀ c a w,Q (.panic c) (a.put oi.dst v) w→Q (.panic c) a w) {K:Act→World→Prop} {a:Act} {w:World}
    (hy:YieldsIf P ops S oi v a) (h:wpOpR ro P ops Q j K (a.put oi.dst v) w) :
    wpOpR ro P ops Q j (fun a' w'=>YieldsIf P ops S oi v a'∧K (a'.put oi.dst v) w') a w:=by
  obtain ⟨h1,h2,h3⟩:=Oper.apart_spec hap
  have keep : ∀ (a:Act),YieldsIf P ops S oi v a → ∀ u,YieldsIf P ops S oi v (a.put oj.dst u):=fun a hy u =>
    hy.of_same (execOp_put oi hsi a oj.dst u h3) (wanted_put oi a oj.dst u h3)
  have keepD : ∀ d,YieldsIf P ops S oi v {a with defers:=d::a.defers}:=fun d=>hy.of_same rfl rfl
  unfold wpOpR at *
  simp only [hj] at *
  rw [wanted_put oj a oi.dst v h1] at h
  split
  · rename_i hw
    simp only [hw,if_true] at h
    unfold wpR at *
    rw [execOp_put oj hsj a oi.dst v h1] at h
    generalize (execOp a.eval oj).run P w=r at *
    cases r with
    | ok x w' =>
      cases x <;> simp only [Oper.uponIn] at h ⊢
      case value u=>exact ⟨keep a hy u,by rw [←Act.put_comm a v u h2];exact h⟩
      case skip=>exact ⟨keep a hy _,by rw [←Act.put_comm a v undef h2];exact h⟩
      case defer d =>
        refine ⟨keep _ (keepD d) _,?_⟩
        rw [←Act.put_comm _ v undef h2,←Act.put_defers]
        exact h
      case enter f args =>
        refine ⟨h.1,CallsIn.mono h.2 fun e w'' he=>?_⟩
        cases e with
        | returned u=>exact ⟨keep a hy u,by rw [←Act.put_comm a v u h2];exact he⟩
        | panicked c=>exact hQ _ _ _ he
        | outgrown=>exact he
      case row row args=>exact ⟨h.1,RowsIn.mono h.2 fun u w'' he=>⟨keep a hy u,by rw [←Act.put_comm a v u h2];exact he⟩⟩
      case round l f tmps assign body =>
        refine ⟨h.1,RoundIn.mono h.2 fun e w'' he=>?_⟩
        cases e with
        | returned u=>exact ⟨keep a hy u,by rw [←Act.put_comm a v u h2];exact he⟩
        | panicked c=>exact hQ _ _ _ he
        | outgrown=>exact he
    | halt x w' =>
      cases x <;> simp only [Oper.uponIn] at h ⊢
      case panic u=>exact hQ _ _ _ h
  · rename_i hw
    simp only [hw] at h
    exact ⟨keep a hy _,by rw [←Act.put_comm a v undef h2];exact h⟩
def wpTR (ro:Option Nat) (P:Program) (md:Region.Mode) (ops:Array Oper) (Q:Exit→Act→World→Prop) (n:Nat) (T:Act→World→Prop):Nat→(World→Prop)→Array Bool→Act→World→Prop
 | 0,_,listed,a,w=>listed=doneB n ops.size∧T a w
 | f+1,S,listed,a,w=>Region.ready md ops listed≠[] ∧ ∀ i∈Region.ready md ops listed,i<n ∧
   wpOpR ro P ops Q i (fun a' w' => ∃ S':World→Prop,(∀ u,S' u→S u)∧S' w'∧wpTR ro P md ops Q n T f S' (listed.setIfInBounds i true) a' w') a w
theorem wpTR_first {n i:Nat} {T:Act→World→Prop} {oi:Oper} {v:Value} (hi:ops[i]? = some oi) (hsel : ∀ (j:Nat) (o:Oper) cs b,ops[j]? = some o→o.op ≠ .select cs b)
    (hQ : ∀ c a w,Q (.panic c) (a.put oi.dst v) w→Q (.panic c) a w) (hd:directB md ops n=true) (hin:i<n) :
    ∀ (f:Nat) (S:World→Prop) (listed:Array Bool) (a:Act) (w:World),TailFree n ops listed →
      (∀ j oj,ops[j]? = some oj→j≠i→listed.getD j true=false→(∀ e∈oj.after,Region.binds md e=true→e.on≠i)→oi.apart ops oj=true) →
      i∈Region.ready md ops listed→YieldsIf P ops S oi v a→S w →
      wpTR ro P md ops Q n T f S (listed.setIfInBounds i true) (a.put oi.dst v) w→wpTR ro P md ops Q n T (f+1) S listed a w:=by
  intro f
  induction f with
  | zero =>
    intro S listed a w ht _ hr hy hS H
    refine ⟨(fun h=>(by rw [h] at hr;cases hr)),fun j hj=>?_⟩
    have hjn:=head_only hd ht hin (mem_ready.1 hr).1 j hj
    refine ⟨hjn,?_⟩
    by_cases hji:j=i
    · subst hji;exact wpOpR_yields hi hy hS ⟨S,fun _ h=>h,hS,H⟩
    · have h1:=(mem_ready.1 hj).1
      rw [←getD_set_ne true (Ne.symm hji),H.1,getD_doneB hjn] at h1
      cases h1
  | succ f ih =>
    intro S listed a w ht hfree hr hy hS H
    refine ⟨(fun h=>(by rw [h] at hr;cases hr)),fun j hj=>?_⟩
    have hjn:=head_only hd ht hin (mem_ready.1 hr).1 j hj
    refine ⟨hjn,?_⟩
    by_cases hji:j=i
    · subst hji;exact wpOpR_yields hi hy hS ⟨S,fun _ h=>h,hS,H⟩
    · have h1:=(H.2 j (ready_mono hj hji)).2
      obtain ⟨hjun,oj,hoj,hall⟩:=mem_ready.1 hj
      have hnot : ∀ e∈oj.after,Region.binds md e=true→e.on≠i:=fun e he hb heq=>by
        have h2:=hall e he hb
        rw [heq] at h2
        exact getD_clash (mem_ready.1 hr).1 h2
      have h2:=wpOpR_putIf (S:=S) hoj (hfree j oj hoj hji hjun hnot) (fun cs b=>hsel i oi cs b hi) (fun cs b=>hsel j oj cs b hoj) hQ hy h1
      refine wpOpR_mono (fun a' w' h3=>?_) h2
      obtain ⟨hy',S',hSS,hS',hT⟩:=h3
      refine ⟨S',hSS,hS',ih S' (listed.setIfInBounds j true) a' w' (ht.set hjn) (fun k ok hk hki hun hno=>?_) (ready_mono hr (Ne.symm hji)) (YieldsIf.weaken hy' hSS) hS' ?_⟩
      · refine hfree k ok hk hki ?_ hno
        by_cases hjk:j=k
        · subst hjk;exact hjun
        · rw [getD_set_ne true hjk] at hun;exact hun
      · rw [Array.setIfInBounds_comm _ _ hji];exact hT
theorem wpTR_take {rest:List Oper} {n i f:Nat} {S:World→Prop} {T:Act→World→Prop} {oi:Oper} {v:Value} {listed:Array Bool} {a:Act} {w:World} (hi':ops.toList.drop i=oi::rest) (hb:takeB md ops n i listed=true)
  (hQ : ∀ c a w,Q (.panic c) (a.put oi.dst v) w→Q (.panic c) a w) (hS:S w) (hy:YieldsIf P ops S oi v a)
  (h:wpTR ro P md ops Q n T f S (listed.setIfInBounds i true) (a.put oi.dst v) w):wpTR ro P md ops Q n T (f+1) S listed a w:=by
 have hi:=getElem?_of_drop hi'
 simp only [takeB,Bool.and_eq_true,decide_eq_true_eq] at hb
 obtain ⟨⟨⟨⟨⟨h1,h2⟩,h3⟩,h4⟩,h5⟩,h6⟩:=hb
 exact wpTR_first hi (Region.noSelect_spec h1) hQ h5 h4 f S listed a w (tailFreeB_spec h6) (Region.free_spec hi h2) (by simpa using h3) hy hS h
end
structure RY (P:Program) (B:Wn) (n:Nat) (ro:Option Nat) (ops:Array Oper) (m:Nat) (Φ:PostD) (ds:List Deferred) (k:Nat) (S:List Wp) (listed:Array Bool) (f:Fr) (l:List Wp):Prop where
 run : ∀ Q w,FitsD B n Φ Q→Own B w l→wpTR ro P .any ops Q m (wpListIn (fen ro) 0 P ops Q (ops.toList.drop m)) k (fun u=>Own B u S) listed (aD n f ds) w
structure RJ (P:Program) (B:Wn) (n:Nat) (ro:Option Nat) (ops:Array Oper) (m:Nat) (Φ:PostD) (ds:List Deferred) (k:Nat) (S:List Wp) (listed:Array Bool) (f:Fr) (l:List Wp) (i:Nat):Prop where
 run : ∀ Q w,FitsD B n Φ Q→Own B w l→wpOpR ro P ops Q i (fun a' w' => ∃ S':World→Prop,(∀ u,S' u→Own B u S)∧S' w'∧wpTR ro P .any ops Q m (wpListIn (fen ro) 0 P ops Q (ops.toList.drop m)) k S' (listed.setIfInBounds i true) a' w') (aD n f ds) w
section
variable {P : Program} {B:Wn} {n:Nat} {ro:Option Nat} {ops:Array Oper} {rest:List Oper} {o:Oper} {Φ:PostD} {ds:List Deferred} {f:Fr} {l:List Wp}
variable {m k:Nat} {S:List Wp} {listed:Array Bool}
theorem RY.take {rest':List Oper} {v:Value} (i:Nat) (hi:ops.toList.drop i=o::rest') (hw:want n ops f o=true) (hb:takeB .any ops m i listed=true) (hs:Sub l S) (hq:Qt P B n S o f v)
  (h:RY P B n ro ops m Φ ds k S (listed.setIfInBounds i true) (putd f o.dst v) l):RY P B n ro ops m Φ ds (k+1) S listed f l:=⟨fun Q w hf ho=>by
 refine wpTR_take hi hb (fun c a w=>hf.pk c a o.dst v w) (ho.map hs) (.inl ⟨by rw [want_aD,hw],fun w' ho'=>by rw [eval_aD];exact hq.run w' ho'⟩) ?_
 rw [put_aD]
 exact h.run Q w hf ho⟩
theorem RY.skip {rest':List Oper} (i:Nat) (hi:ops.toList.drop i=o::rest') (hw:want n ops f o=false) (hb:takeB .any ops m i listed=true) (hs:Sub l S)
  (h:RY P B n ro ops m Φ ds k S (listed.setIfInBounds i true) (putd f o.dst undef) l):RY P B n ro ops m Φ ds (k+1) S listed f l:=⟨fun Q w hf ho=>by
 refine wpTR_take hi hb (fun c a w=>hf.pk c a o.dst undef w) (ho.map hs) (.inr ⟨by rw [want_aD,hw],rfl⟩) ?_
 rw [put_aD]
 exact h.run Q w hf ho⟩
section named
variable {t : Tmp} {op:Op} {ty:TypeId} {pos:String} {af:Array Edge} {gd:Option (Nat×Bool)} {rest':List Oper} {v:Value}
theorem RY.q (i:Nat) (hi:ops.toList.drop i=⟨some t,op,ty,pos,af,gd⟩::rest') (hw:want n ops f ⟨some t,op,ty,pos,af,gd⟩=true) (hb:takeB .any ops m i listed=true) (hs:Sub l S) (hq:Qt P B n S ⟨some t,op,ty,pos,af,gd⟩ f v)
  (h:RY P B n ro ops m Φ ds k S (listed.setIfInBounds i true) (upd f t v) l):RY P B n ro ops m Φ ds (k+1) S listed f l:=RY.take i hi hw hb hs hq h
theorem RY.s (i:Nat) (hi:ops.toList.drop i=⟨some t,op,ty,pos,af,gd⟩::rest') (hw:want n ops f ⟨some t,op,ty,pos,af,gd⟩=false) (hb:takeB .any ops m i listed=true) (hs:Sub l S)
  (h:RY P B n ro ops m Φ ds k S (listed.setIfInBounds i true) (upd f t undef) l):RY P B n ro ops m Φ ds (k+1) S listed f l:=RY.skip i hi hw hb hs h
end named
theorem RY.all (is:List Nat) (hb:(decide (Region.ready .any ops listed=is) && !is.isEmpty && is.all (fun i=>decide (i<m)))=true) (h : ∀ i∈is,RJ P B n ro ops m Φ ds k S listed f l i):RY P B n ro ops m Φ ds (k+1) S listed f l:=⟨fun Q w hf ho=>by
 simp only [Bool.and_eq_true,decide_eq_true_eq,List.all_eq_true] at hb
 obtain ⟨⟨h1,h2⟩,h3⟩:=hb
 refine ⟨(fun e=>by rw [h1] at e;rw [e] at h2;simp at h2),fun i hi=>?_⟩
 rw [h1] at hi
 exact ⟨h3 i hi,(h i hi).run Q w hf ho⟩⟩
theorem RY.one (i:Nat) (hb:(decide (Region.ready .any ops listed=[i]) && decide (i<m))=true) (h:RJ P B n ro ops m Φ ds k S listed f l i):RY P B n ro ops m Φ ds (k+1) S listed f l:=by
 simp only [Bool.and_eq_true,decide_eq_true_eq] at hb
 refine RY.all [i] ?_ (List.forall_mem_cons.2 ⟨h,List.forall_mem_nil _⟩)
 simp [hb.1,hb.2]
theorem RJ.act {rest':List Oper} {i:Nat} (hi:ops.toList.drop i=o::rest') (hw:wantD n ops f o=true)
  (he:Ey P B n ro o f l fun v l'=>Sub l' S∧RY P B n ro ops m Φ ds k l' (listed.setIfInBounds i true) (putd f o.dst v) l'):RJ P B n ro ops m Φ ds k S listed f l i:=⟨fun Q w hf ho=>by
 have hi':=getElem?_of_drop hi
 unfold wpOpR
 simp only [hi']
 rw [want_aD,if_pos (wantD_spec hw).2]
 refine (wpIn_wpR (wantD_spec hw).1).1 (he.run ds w _ Q ho fun v w' l' hK ho'=>?_)
 rw [put_aD]
 exact ⟨fun u=>Own B u l',fun u hu=>hu.map hK.1,ho',hK.2.run Q w' hf ho'⟩⟩
theorem RJ.actS {rest':List Oper} {i:Nat} (hi:ops.toList.drop i=o::rest') (hw:wantD n ops f o=true)
  (he:Ey P B n ro o f l fun v l'=>Sub l' S∧RY P B n ro ops m Φ ds k S (listed.setIfInBounds i true) (putd f o.dst v) l'):RJ P B n ro ops m Φ ds k S listed f l i:=⟨fun Q w hf ho=>by
 have hi':=getElem?_of_drop hi
 unfold wpOpR
 simp only [hi']
 rw [want_aD,if_pos (wantD_spec hw).2]
 refine (wpIn_wpR (wantD_spec hw).1).1 (he.run ds w _ Q ho fun v w' l' hK ho'=>?_)
 rw [put_aD]
 exact ⟨fun u=>Own B u S,fun u hu=>hu,ho'.map hK.1,hK.2.run Q w' hf ho'⟩⟩
section named
variable {t : Tmp} {op:Op} {ty:TypeId} {pos:String} {af:Array Edge} {gd:Option (Nat×Bool)} {rest':List Oper} {i:Nat}
theorem RJ.e (hi:ops.toList.drop i=⟨some t,op,ty,pos,af,gd⟩::rest') (hw:wantD n ops f ⟨some t,op,ty,pos,af,gd⟩=true)
  (he:Ef P B n ⟨some t,op,ty,pos,af,gd⟩ f l fun v l'=>Sub l' S∧RY P B n ro ops m Φ ds k l' (listed.setIfInBounds i true) (upd f t v) l'):RJ P B n ro ops m Φ ds k S listed f l i:=RJ.act hi hw (Ey.of (wantD_spec hw).1 he)
theorem RJ.e0 (hi:ops.toList.drop i=⟨none,op,ty,pos,af,gd⟩::rest') (hw:wantD n ops f ⟨none,op,ty,pos,af,gd⟩=true)
  (he:Ef P B n ⟨none,op,ty,pos,af,gd⟩ f l fun _ l'=>Sub l' S∧RY P B n ro ops m Φ ds k l' (listed.setIfInBounds i true) f l'):RJ P B n ro ops m Φ ds k S listed f l i:=RJ.act hi hw (Ey.of (wantD_spec hw).1 he)
theorem RJ.eS (hi:ops.toList.drop i=⟨some t,op,ty,pos,af,gd⟩::rest') (hw:wantD n ops f ⟨some t,op,ty,pos,af,gd⟩=true)
  (he:Ef P B n ⟨some t,op,ty,pos,af,gd⟩ f l fun v l'=>Sub l' S∧RY P B n ro ops m Φ ds k S (listed.setIfInBounds i true) (upd f t v) l'):RJ P B n ro ops m Φ ds k S listed f l i:=RJ.actS hi hw (Ey.of (wantD_spec hw).1 he)
theorem RJ.eS0 (hi:ops.toList.drop i=⟨none,op,ty,pos,af,gd⟩::rest') (hw:wantD n ops f ⟨none,op,ty,pos,af,gd⟩=true)
  (he:Ef P B n ⟨none,op,ty,pos,af,gd⟩ f l fun _ l'=>Sub l' S∧RY P B n ro ops m Φ ds k S (listed.setIfInBounds i true) f l'):RJ P B n ro ops m Φ ds k S listed f l i:=RJ.actS hi hw (Ey.of (wantD_spec hw).1 he)
theorem RJ.y (hi:ops.toList.drop i=⟨some t,op,ty,pos,af,gd⟩::rest') (hw:wantD n ops f ⟨some t,op,ty,pos,af,gd⟩=true)
  (he:Ey P B n ro ⟨some t,op,ty,pos,af,gd⟩ f l fun v l'=>Sub l' S∧RY P B n ro ops m Φ ds k l' (listed.setIfInBounds i true) (upd f t v) l'):RJ P B n ro ops m Φ ds k S listed f l i:=RJ.act hi hw he
end named
theorem RY.done (hb:listed=doneB m ops.size) (h:LI P B n ro ops (ops.toList.drop m) Φ ds f l):RY P B n ro ops m Φ ds 0 S listed f l:=⟨fun Q w hf ho=>⟨hb,h.run Q w hf ho⟩⟩
theorem RY.split {t:Nat} {b:Bool} (hb:f t=some (.bool b)) (h1:b=true→RY P B n ro ops m Φ ds k S listed (upd f t (.bool true)) l) (h2:b=false→RY P B n ro ops m Φ ds k S listed (upd f t (.bool false)) l):RY P B n ro ops m Φ ds k S listed f l:=by
 cases b with
 | true=>have:=h1 rfl;rwa [upd_self hb] at this
 | false=>have:=h2 rfl;rwa [upd_self hb] at this
theorem RY.gT {t:Nat} {b:Bool} (hb:f t=some (.bool b)) (h:b=true) (h1:RY P B n ro ops m Φ ds k S listed (upd f t (.bool true)) l):RY P B n ro ops m Φ ds k S listed f l:=by subst h;rwa [upd_self hb] at h1
theorem RY.gF {t:Nat} {b:Bool} (hb:f t=some (.bool b)) (h:b=false) (h1:RY P B n ro ops m Φ ds k S listed (upd f t (.bool false)) l):RY P B n ro ops m Φ ds k S listed f l:=by subst h;rwa [upd_self hb] at h1
theorem RY.own (h : ∀ w,Own B w l→RY P B n ro ops m Φ ds k S listed f l):RY P B n ro ops m Φ ds k S listed f l:=⟨fun Q w hf ho=>(h w ho).run Q w hf ho⟩
theorem RY.conv {l':List Wp} (hc : ∀ w,Own B w l→Own B w l') (h:RY P B n ro ops m Φ ds k S listed f l'):RY P B n ro ops m Φ ds k S listed f l:=⟨fun Q w hf ho=>h.run Q w hf (hc w ho)⟩
end
open Go.RowKit
abbrev kI (a:Int):Value := .int .i64 a
abbrev tmA (g:Nat) (L:List (Int×Tch)):Wp:=mpA kI tchV g L
abbrev tmB (g1 gm:Nat):Wp:=blk g1 [.map (some gm)] 156
theorem Ta.okP : MapOk Tryz.prog 156 kI (tchV ⟨0,0,0⟩):=MapOk.mk3 3 71 (.int .i64) Tryz.underlying156 Tryz.underlying3 (fun _=>rfl) (by kernel_rfl) i64_inj
theorem Ta.elem : ElemOk Tryz.prog 30 71 3 24 := .mk' (.agg #[.int .i64 0,.int .i64 0,.int .i64 0]) Tryz.underlying30 (by kernel_rfl) rfl (by omega)
theorem Ta.values (B:Wn) (gm:Nat):Fn Tryz.prog B 59 #[.map (some gm)] [] (fun u l => ∃ g1,u = .func (.func 111) #[] #[.pointer (some ⟨g1,0,none⟩)]∧l=[tmB g1 gm]):=by
 refine Wq 4 Tryz.func59 rfl rfl (nB rfl) (fun F=>?_)
 try simp only [cA,nA]
 refine TS ?_
 refine Le rfl (zL [_] rfl rfl ?_)
 intro g1
 refine La rfl rfl (Ld (TS (Lq rfl (Y4 [_] rfl) (La rfl rfl (Ld (T.ret ?_))))))
 exact ⟨.inl rfl,_,_,res [_] rfl ⟨rvT rfl,trivial⟩,⟨_,rfl,rfl⟩,Sa⟩
theorem cut_perm {left:List (Int×Tch)} {p:Int×Tch} (hn:(left.map (·.1)).Nodup) (h:p∈left):(left.map (·.2)).Perm (p.2::(cutL left p.1).map (·.2))∧((cutL left p.1).map (·.1)).Nodup∧(cutL left p.1).length<left.length:=by
  induction left with
  | nil=>cases h
  | cons q left ih =>
    simp only [List.map_cons,List.nodup_cons] at hn
    by_cases e:q.1=p.1
    · have hq:q=p:=by
        rcases List.mem_cons.1 h with h | h
        · exact h.symm
        · exact absurd (List.mem_map_of_mem (f:=(·.1)) h) (by rw [←e];exact hn.1)
      subst hq
      have:cutL (q::left) q.1=left:=by
        unfold cutL
        rw [List.filter_cons_of_neg (by simp),List.filter_eq_self]
        intro a ha
        simp only [decide_eq_true_eq]
        exact fun e=>hn.1 (e ▸ List.mem_map_of_mem ha)
      rw [this]
      exact ⟨List.Perm.refl _,hn.2,by simp⟩
    · have hm:p∈left:=by
        rcases List.mem_cons.1 h with rfl | h
        · exact absurd rfl e
        · exact h
      obtain ⟨i1,i2,i3⟩:=ih hn.2 hm
      have:cutL (q::left) p.1=q::cutL left p.1:=by
        unfold cutL
        rw [List.filter_cons_of_pos (by simpa using e)]
      rw [this]
      refine ⟨?_,?_,by simp;omega⟩
      · simp only [List.map_cons]
        exact (i1.cons q.2).trans (List.Perm.swap ..)
      · simp only [List.map_cons,List.nodup_cons]
        refine ⟨fun hh=>hn.1 ?_,i2⟩
        obtain ⟨a,ha,e2⟩:=List.mem_map.1 hh
        exact e2 ▸ List.mem_map_of_mem ((List.mem_filter.1 ha).1)
theorem iterT_end {gi gm:Nat} {L left:List (Int×Tch)} {l:List Wp} {k:Piece} (K:Has (rgA kI tchV gi gm L left::l) k):Has (tmA gm L::l) k:=Has.weaken (fun _ ⟨es,c,_,_,_,e1,e2,_⟩=>⟨es,c,e1,e2⟩) K
theorem Ta.iter (B:Wn) (g1 gm:Nat) (L:List (Int×Tch)):Iter Tryz.prog B 111 [.pointer (some ⟨g1,0,none⟩)] (fun x:Tch=>[tchV x]) [] [tmB g1 gm,tmA gm L] (fun pre x=>(pre++[x]).length≤L.length) (fun xs=>xs.Perm (L.map (·.2))) (fun _=>True) (fun _=>[tmB g1 gm,tmA gm L]) (fun _=>[]):=by
 intro lp J Jx K0 hs1 hs2 hY
 show Fn Tryz.prog B _ #[.func (.yield lp) #[] #[],.pointer (some ⟨g1,0,none⟩)] _ _
 refine Fn.enterM2 15 Tryz.func111 rfl rfl (nB rfl) (fun F=>?_)
 try simp only [cA,nA]
 refine TI.seq ?_
 refine TI.region (by rfl) ?_
 refine Lq rfl (Ql (by kernel_rfl) rfl rfl) ?_
 refine Le rfl (Z4 (ke:=kI) Tryz.underlying156 rfl ?_)
 rintro gi
 refine LW.own (fun w ho=>?_)
 have hnd:=ho.mapNodup gm
 clear ho
 refine Ld ?_
 refine TI.block ?_
 refine TI.loop (fun mz fz lz => ∃ (f0:Fr) (left:List (Int×Tch)) (xs:List Tch),((left.map (·.1)).Nodup∧(xs++left.map (·.2)).Perm (L.map (·.2)))∧mz=left.length∧fz=(upd (upd (upd f0 0 (.func (.yield lp) #[] #[])) 1 (.pointer (some ⟨g1,0,none⟩))) 6 (.pointer (some ⟨gi,0,none⟩)))∧lz=rgA kI tchV gi gm L left::tmB g1 gm::(J xs++F)) ?_ ?_
 · refine ⟨_,_,⟨_,L,[],⟨hnd,List.Perm.refl _⟩,rfl,(Za rfl (Za rfl (Za rfl rfl))),rfl⟩,Sa⟩
 rintro mz fz lz ⟨f0,left,xs,⟨hnd1,hperm⟩,hmz,rfl,rfl⟩
 subst mz
 have hlen:=hperm.length_eq
 simp only [List.length_append,List.length_map] at hlen
 by_cases hlf:left=[]
 ·
  subst hlf
  rw [List.map_nil,List.append_nil] at hperm
  refine TI.seq ?_
  refine TI.region (by rfl) ?_
  refine Le rfl (Z5 rfl rfl ?_)
  refine Lq rfl (Qx rfl rfl) (Ld ?_)
  refine TI.seq ?_
  refine TI.condF rfl ?_
  refine TI.exit ?_
  exact ⟨.inr rfl,_,.nil,_,_,res [] rfl trivial,.inl ⟨xs,hperm,rfl⟩,(fun k K=>Sa k (iterT_end K))⟩
 have h1:0<left.length:=List.length_pos_iff.2 hlf
 refine TI.seq ?_
 refine TI.region (by rfl) ?_
 refine Le rfl (Z6 (left:=left) i64_inj rfl rfl hlf ?_)
 rintro ⟨q,tq⟩ hq
 try simp only [cA,nA]
 refine Lq rfl (Qx rfl rfl) (Ld ?_)
 refine TI.seq ?_
 obtain ⟨c1,c2,c3⟩:=cut_perm hnd1 hq
 refine TI.condT rfl ?_
 refine TI.skip ?_
 refine TI.block ?_
 refine TI.seq ?_
 refine TI.region (by rfl) ?_
 refine Lq rfl (Z7 rfl) (Lq rfl (YM (v:=tchV tq) rfl rfl) ?_)
 refine Le rfl (El [.int .i64 0,.int .i64 0,.int .i64 0] (by unfold Zf;kernel_rfl) ?_)
 intro g4
 refine L0 rfl (Es [_,_,_] (by kernel_rfl) rfl rfl rfl rfl (by simp) ?_)
 try simp only [splice,lC,lN,dS,cA,tS,tZ,dZ,nA,aN]
 refine Ld ?_
 refine TI.seq ?_
 refine TI.regionY ?_
 refine LI.q rfl (Qm rfl) ?_
 refine LI.q rfl (QL [_,_,_] (by kernel_rfl) rfl ⟨rfl,rfl,rfl,trivial⟩) ?_
 refine LI.y rfl (Ey.yield [tchV tq] (hY xs tq (by simp;omega)) rfl rfl ?_)
 rintro _ _ (⟨rfl,rfl⟩ | ⟨rfl,rfl⟩)
 ·
  refine LI.q rfl (Y2 rfl) ?_
  refine LI.done ?_
  refine TI.condF rfl ?_
  refine TI.skip ?_
  refine ⟨rfl,_,?_,_,⟨_,cutL left q,xs++[tq],⟨c2,(by rw [List.append_assoc];exact ((c1.symm.append_left xs).trans hperm))⟩,rfl,(Za rfl (Za rfl (Za rfl rfl))),rfl⟩,Sa⟩
  omega
 refine LI.q rfl (Y2 rfl) ?_
 refine LI.done ?_
 refine TI.condT rfl ?_
 refine TI.ret ?_
 exact ⟨.inl rfl,_,.nil,_,_,res [] rfl trivial,.inr ⟨xs++[tq],trivial,rfl⟩,Sa⟩
open Go.RowKit
abbrev toR (p:Option Addr) (n c:Nat) (xs:List Tch):Wp:=row (.slice p n c) 71 3 n (xs.flatMap tchC)
def outT (g:Nat) (xs:List Tch):Wp:=exA fun pc:Option Addr×Nat=>sepL [blk g [.slice pc.1 xs.length pc.2] 30,toR pc.1 xs.length pc.2 xs]
theorem outT_ex {B:Wn} {g:Nat} {xs:List Tch} {l:List Wp} (w:World) (ho:Own B w (outT g xs::l)) : ∃ pc:Option Addr×Nat,Own B w (blk g [.slice pc.1 xs.length pc.2] 30::toR pc.1 xs.length pc.2 xs::l):=by
 obtain ⟨h,a,b,H⟩:=ho.has
 obtain ⟨pc,H1⟩:=Has.open_ex H
 exact ⟨pc,ho.os,ho.tape,ho.output,ho.ro,h,a,b,Has.open_sepL H1⟩
theorem outT_in {g n:Nat} {xs:List Tch} {p:Option Addr} {c:Nat} (hn:n=xs.length) {l:List Wp} {k:Piece} (H:Has (blk g [.slice p n c] 30::toR p n c xs::l) k):Has (outT g xs::l) k:=by
 subst hn
 exact Has.close_ex (p,c) (Has.close_sepL (l:=[blk g [.slice p xs.length c] 30,toR p xs.length c xs]) H)
theorem seq_start {g g1 gm:Nat} {L:List (Int×Tch)} {F:List Wp} {k:Piece} (K:Has (tmB g1 gm::tmA gm L::blk g [.slice none 0 0] 30::F) k):Has ([tmB g1 gm,tmA gm L]++[outT g []]++F) k :=
 Wt (fun _ K=>Wt (fun _ K=>outT_in (p:=none) (c:=0) (n:=0) rfl (Wt (fun _ K=>rowNilP K) K)) K) K
theorem seq_round {g n:Nat} {xs:List Tch} {x:Tch} {p:Option Addr} {c:Nat} {F:List Wp} {k:Piece} (hn:n=xs.length+1) (K:Has (blk g [.slice p n c] 30::row (.slice p n c) 71 3 n (xs.flatMap tchC++tchC x)::F) k):Has (outT g (xs++[x])::F) k:=by
 have e:xs.flatMap tchC++tchC x=(xs++[x]).flatMap tchC:=flat_snoc tchC xs x
 rw [e] at K
 exact outT_in (by simpa using hn) K
theorem Ta.append (B:Wn) (g1 gm:Nat) (L:List (Int×Tch)) (hb:L.length<2^39):Fn Tryz.prog B 147 #[.slice none 0 0,.func (.func 111) #[] #[.pointer (some ⟨g1,0,none⟩)]] [tmB g1 gm,tmA gm L] (fun u l => ∃ xs p c,xs.Perm (L.map (·.2))∧u = .slice p xs.length c∧l=[toR p xs.length c xs,tmB g1 gm,tmA gm L]):=by
 refine Fn.enterM2 13 Tryz.func147 rfl rfl (nB rfl) (fun F=>?_)
 try simp only [cA,nA]
 refine TI.seq ?_
 refine TI.region (by rfl) ?_
 refine Le rfl (zL [_] rfl rfl ?_)
 intro g2
 refine La rfl rfl (Ld ?_)
 refine TI.seq ?_
 refine TI.seq ?_
 refine TI.region (by rfl) ?_
 refine Lm rfl rfl (Ld ?_)
 refine TI.block ?_
 refine TI.conv (l':=[tmB g1 gm,tmA gm L]++[outT g2 []]++F) (fun w ho=>ho.map fun k K=>seq_start (Sa k K)) ?_
 simp only [List.cons_append,List.nil_append]
 refine TI.rangeL (fun xs=>[outT g2 xs]) (fun _ _=>[pu False]) (_) rfl (Ta.iter B g1 gm L) rfl (entersOf Tryz.func111 rfl rfl) (fun _=>rfl) ([tmB g1 gm,tmA gm L,outT g2 []]) rfl ?_ ?_ ?_
 ·
  rintro lp xs x F0 hG
  simp only [List.zip_cons_cons,List.zip_nil_right,List.zip_nil_left,pjs,List.cons_append,List.nil_append]
  refine TI.region (by rfl) ?_
  refine Le rfl (El [.int .i64 0,.int .i64 0,.int .i64 0] (by unfold Zf;kernel_rfl) ?_)
  intro g5
  refine L0 rfl (Es [_,_,_] (by kernel_rfl) rfl rfl rfl rfl (by simp) ?_)
  try simp only [splice,lC,lN,dS,cA,tS,tZ,dZ,nA,aN]
  refine Ld ?_
  refine ⟨rfl,rfl,[blk g5 (tchC x) 71,outT g2 xs],Sa,fun F1=>?_⟩
  try simp only [cA,nA]
  refine TI.ex (l':=fun pc:Option Addr×Nat=>blk g2 [.slice pc.1 xs.length pc.2] 30::toR pc.1 xs.length pc.2 xs::blk g5 (tchC x) 71::F1) (fun w ho=>outT_ex w (ho.map Sa)) (fun pc=>?_)
  obtain ⟨p,c⟩:=pc
  have hxl:xs.length+1≤L.length:=by have:=hG;simp at this;omega
  refine TI.block ?_
  refine TI.region (by rfl) ?_
  refine Lq rfl (Ql (by kernel_rfl) rfl rfl) (Lq rfl (QL [_,_,_] (by kernel_rfl) rfl ⟨rfl,rfl,rfl,trivial⟩) ?_)
  refine Le rfl (zK [_,_,_] (e:=71) (sz:=3) (by kernel_rfl) ⟨.agg #[.int .i64 0,.int .i64 0,.int .i64 0],by kernel_rfl,rfl⟩ rfl rfl rfl (by omega) (by omega) ?_)
  intro g10
  refine Le rfl (Ea Ta.elem rfl rfl (SrcOf.blk (by kernel_rfl) rfl (by simp [Value.oneCell'])) (by unfold maxLen;omega) (by omega) ?_)
  rintro p4 c4 hp4
  try simp only [cA,nA]
  refine L0 rfl (E1 (by kernel_rfl) rfl rfl rfl (by first | (simp;done) | (simp;omega)) ?_)
  try simp only [List.set_cons_zero,List.set_cons_succ]
  refine Ld ?_
  refine ⟨rfl,?_⟩
  try simp only [cA,nA]
  exact fun k K=>seq_round (p:=p4) (c:=c4) rfl (Sa k K)
 ·
  rintro D xs hS
  try simp only [List.cons_append,List.nil_append,List.append_nil]
  refine TI.ex (l':=fun pc:Option Addr×Nat=>blk g2 [.slice pc.1 xs.length pc.2] 30::toR pc.1 xs.length pc.2 xs::tmB g1 gm::tmA gm L::objA D (.deferred (some []))::F) (fun w ho=>outT_ex w (ho.map Sa)) (fun pc=>?_)
  obtain ⟨p,c⟩:=pc
  refine TI.seq ?_
  refine TI.region (by rfl) ?_
  refine Lq rfl (Ql (by kernel_rfl) rfl rfl) (La rfl rfl (Ld ?_))
  refine TI.ret ?_
  exact ⟨.inl rfl,_,Marks.one,_,_,res [_] rfl ⟨rvT rfl,trivial⟩,⟨xs,p,c,hS,rfl,rfl⟩,Sa⟩
 rintro D c xs hS
 exact TI.own fun w ho=>by obtain ⟨_,_,_,H⟩:=ho.has;exact (Has.open_pu H.tail).1.elim
theorem Ta.collect (B:Wn) (g1 gm:Nat) (L:List (Int×Tch)) (hb:L.length<2^39):Fn Tryz.prog B 109 #[.func (.func 111) #[] #[.pointer (some ⟨g1,0,none⟩)]] [tmB g1 gm,tmA gm L] (fun u l => ∃ xs p c,xs.Perm (L.map (·.2))∧u = .slice p xs.length c∧l=[toR p xs.length c xs,tmB g1 gm,tmA gm L]):=by
 refine Wq 5 Tryz.func109 rfl rfl (nB rfl) (fun F=>?_)
 try simp only [cA,nA]
 refine TS (La rfl rfl (Ld (TS (Lm rfl rfl ?_))))
 refine Le rfl (Ec (Ta.append B g1 gm L hb) Tryz.func147 rfl rfl rfl ?_)
 rintro _ _ ⟨xs,p,c,hp,rfl,rfl⟩
 try simp only [cA,nA]
 refine La rfl rfl (Ld (T.ret ?_))
 exact ⟨.inl rfl,_,_,res [_] rfl ⟨rvT rfl,trivial⟩,⟨xs,p,c,hp,rfl,rfl⟩,Sa⟩
theorem Ta.sort (B:Wn) (p:Option Addr) (n c:Nat) (xs:List Tch) (hn:xs.length=n) (hb:n<2^40) (hd:(xs.map (·.page)).Nodup):Fn Tryz.prog B 110 #[.slice p n c,.func (.func 60) #[] #[]] [toR p n c xs] (fun u l=>u = .tuple #[]∧l=[toR p n c (sortT xs)]):=by
 refine (Fn.sortK Tryz.sortT 3 (fun w=>by kernel_rfl) (fun w=>by kernel_rfl) tchC (fun _=>rfl) (fun x v hv=>by simp at hv;rcases hv with rfl | rfl | rfl <;> rfl) cmpT cmpT_swo 60 71 (entersOf Tryz.func60 rfl rfl) (.slice p n c) n xs hn (by omega) [] (fun x y W _=>Ta.cmp x y W) 110 rfl).mono ?_
 rintro u l ⟨rfl,ds,h1,h2,rfl⟩
 have hl:ds.length=n:=by rw [h1.length_eq,hn]
 rw [←hl] at h2
 rw [sortT_of h1 hd h2]
 exact ⟨rfl,rfl⟩
open Go.RowKit
structure An where
 cm:List (Int×Int)
 done:List (Int×Int)
 seen:List (Int×Int)
 pages:List (Int×Tch)
 last:Int
abbrev bumpI (L:List (Int×Int)) (k:Int):List (Int×Int):=putL L k (IntKind.i64.wrap ((Zy L k).getD 0+1))
def anStep (a:An) (x:En×Int):An :=
 if x.1.kind=3 then {a with last:=max a.last x.1.txn,seen:=bumpI a.seen x.1.txn,cm:=if (Zy a.done x.1.txn).getD 0=0 then a.cm++[(x.1.txn,x.1.stamp)] else a.cm,done:=bumpI a.done x.1.txn}
 else {a with last:=max a.last x.1.txn,seen:=bumpI a.seen x.1.txn,pages:=putL a.pages x.1.page { (match Zy a.pages x.1.page with | some p=>p | none=>⟨x.1.page,x.2,0⟩) with last:=x.2} }
def anRun (l:List (En×Int)):An:=l.foldl anStep ⟨[],[],[],[],0⟩
def losersA (a:An):List Int:=sortZ ((a.seen.map (·.1)).filter fun t=>decide ((Zy a.done t).getD 0=0))
def pagesT (a:An):List Tch:=sortT (a.pages.map (·.2))
theorem anRun_snoc {l:List (En×Int)} {i:Nat} {x:En×Int} (h:l[i]? = some x):anRun (l.take (i+1))=anStep (anRun (l.take i)) x:=by
 obtain ⟨hi,rfl⟩:=List.getElem?_eq_some_iff.1 h
 unfold anRun
 rw [List.take_succ_eq_append_getElem hi,List.foldl_append]
 rfl
def PgKey (L:List (Int×Tch)):Prop := ∀ p∈L,p.2.page=p.1
theorem mem_putL {α β:Type} [DecidableEq α] {k:α} {v:β} : ∀ {L:List (α×β)} {p:α×β},p∈putL L k v→p=(k,v)∨p∈L
  | [],p,h=>by simp [putL] at h;exact .inl h
  | q::L,p,h=>by
    unfold putL at h
    split at h
    · rcases List.mem_cons.1 h with h | h
      · exact .inl h
      · exact .inr (List.mem_cons_of_mem _ h)
    · rcases List.mem_cons.1 h with h | h
      · exact .inr (h ▸ List.mem_cons_self ..)
      · exact (mem_putL h).imp id (List.mem_cons_of_mem _)
theorem putL_length {α β:Type} [DecidableEq α] {k:α} {v:β} : ∀ {L:List (α×β)},(putL L k v).length≤L.length+1
 | []=>by simp [putL]
 | q::L=>by
  unfold putL
  split
  · simp
  · have:=putL_length (k:=k) (v:=v) (L:=L);simp;omega
theorem an_keys (l:List (En×Int)):PgKey (anRun l).pages∧(anRun l).pages.length≤l.length∧(anRun l).seen.length≤l.length∧(anRun l).cm.length≤l.length:=by
  have key : ∀ (l:List (En×Int)) (a:An),PgKey a.pages→PgKey (l.foldl anStep a).pages∧(l.foldl anStep a).pages.length≤a.pages.length+l.length∧(l.foldl anStep a).seen.length≤a.seen.length+l.length∧(l.foldl anStep a).cm.length≤a.cm.length+l.length:=by
    intro l
    induction l with
    | nil=>intro a h;exact ⟨h,by simp,by simp,by simp⟩
    | cons x l ih =>
      intro a h
      have hs:PgKey (anStep a x).pages∧(anStep a x).pages.length≤a.pages.length+1∧(anStep a x).seen.length≤a.seen.length+1∧(anStep a x).cm.length≤a.cm.length+1:=by
        unfold anStep
        by_cases hk:x.1.kind=3
        · rw [if_pos hk]
          refine ⟨h,by dsimp only;omega,putL_length,?_⟩
          dsimp only
          split <;> simp
        · rw [if_neg hk]
          refine ⟨fun p hp=>?_,putL_length,putL_length,by dsimp only;omega⟩
          rcases mem_putL hp with rfl | hp
          · dsimp only
            cases hq:Zy a.pages x.1.page with
            | none=>rfl
            | some q=>exact h _ (lookL_mem hq)
          · exact h p hp
      obtain ⟨i1,i2,i3,i4⟩:=ih (anStep a x) hs.1
      simp only [List.foldl_cons,List.length_cons]
      exact ⟨i1,by omega,by omega,by omega⟩
  have:=key l ⟨[],[],[],[],0⟩ (fun p hp=>by cases hp)
  simpa [anRun] using this
theorem sortZ_same {a b:List Int} (h:a.Perm b):sortZ a=sortZ b:=by
 refine sortZ_perm (h.trans (List.mergeSort_perm b _).symm) ?_
 have:=List.pairwise_mergeSort (le:=fun x y:Int=>decide (x≤y)) (by intro a b c h1 h2;simp at h1 h2 ⊢;omega) (by intro a b;simp;omega) b
 exact this.imp fun h=>by simpa using h
theorem sortT_same {a b:List Tch} (h:a.Perm b) (hn:(b.map (·.page)).Nodup):sortT a=sortT b :=
 sorted_uniq ((List.mergeSort_perm a _).trans (h.trans (List.mergeSort_perm b _).symm)) ((((List.mergeSort_perm a _).trans h).map _).nodup_iff.2 hn) (sortT_sorted a) (sortT_sorted b)
theorem pages_nodup {L:List (Int×Tch)} (h:PgKey L) (hn:(L.map (·.1)).Nodup):((L.map (·.2)).map (·.page)).Nodup:=by
 rw [List.map_map]
 have:L.map ((fun x:Tch=>x.page) ∘ fun x=>x.2)=L.map (·.1):=List.map_congr_left fun p hp=>h p hp
 rw [this];exact hn
theorem Ta.sorted (B:Wn) (g1 gm:Nat) (L:List (Int×Tch)) (hb:L.length<2^39) (hk:PgKey L) (hn:(L.map (·.1)).Nodup):Fn Tryz.prog B 58 #[.func (.func 111) #[] #[.pointer (some ⟨g1,0,none⟩)],.func (.func 60) #[] #[]] [tmB g1 gm,tmA gm L] (fun u l => ∃ p c,u = .slice p L.length c∧l=[toR p L.length c (sortT (L.map (·.2))),tmB g1 gm,tmA gm L]):=by
 have hpn:=pages_nodup hk hn
 refine Wr 12 Tryz.func58 rfl rfl (nB rfl) (fun F=>?_)
 try simp only [cA,nA]
 refine TS (La rfl rfl (Ld (TS (Lm rfl rfl ?_))))
 refine Le rfl (Ec (Ta.collect B g1 gm L hb) Tryz.func109 rfl rfl rfl ?_)
 rintro _ _ ⟨xs,p,c,hp,rfl,rfl⟩
 try simp only [cA,nA]
 have hl:xs.length=L.length:=by rw [hp.length_eq,List.length_map]
 rw [hl]
 refine La rfl rfl (Ld (TS (Lm rfl rfl (Lm rfl rfl ?_))))
 refine Le rfl (Ec (Ta.sort B p L.length c xs hl (by omega) ((hp.map _).nodup_iff.2 hpn)) Tryz.func110 rfl rfl rfl ?_)
 rintro _ _ ⟨rfl,rfl⟩
 try simp only [cA,nA]
 rw [sortT_same hp hpn]
 refine Ld (TS (Lm rfl rfl (La rfl rfl (Ld (T.ret ?_)))))
 exact ⟨.inl rfl,_,_,res [_] rfl ⟨rvT rfl,trivial⟩,⟨p,c,rfl,rfl⟩,Sa⟩
open Go.RowKit
structure EnM where
 e:En
 p:Option Addr
 c:Nat
abbrev emC (x:EnM):List Value:=enC x.e x.p x.c
abbrev emR (p:Option Addr) (n c:Nat) (l:List EnM):Wp:=row (.slice p n c) 64 6 n (l.flatMap emC)
abbrev mkR (p:Option Addr) (n c:Nat) (l:List Int):Wp:=row (.slice p n c) 2 1 n (l.map kI)
abbrev mSI (g:Nat) (L:List (Int×Int)):Wp:=mpA kI kI g L
theorem Ta.okI : MapOk Tryz.prog 40 kI (kI 0):=MapOk.mk3 2 3 (.int .i64) Tryz.underlying40 Tryz.underlying2 (fun _=>rfl) (by kernel_rfl) i64_inj
theorem Ta.elemL : ElemOk Tryz.prog 29 2 1 8 := .mk' (.int .i64 0) Tryz.underlying29 (by kernel_rfl) rfl (by omega)
theorem perm_cutI {left:List (Int×Int)} {p:Int×Int} (hn:(left.map (·.1)).Nodup) (h:p∈left):(left.map (·.1)).Perm (p.1::(cutL left p.1).map (·.1))∧((cutL left p.1).map (·.1)).Nodup∧(cutL left p.1).length<left.length:=by
  induction left with
  | nil=>cases h
  | cons q left ih =>
    simp only [List.map_cons,List.nodup_cons] at hn
    by_cases e:q.1=p.1
    · have hq:q=p:=by
        rcases List.mem_cons.1 h with h | h
        · exact h.symm
        · exact absurd (List.mem_map_of_mem (f:=(·.1)) h) (by rw [←e];exact hn.1)
      subst hq
      have:cutL (q::left) q.1=left:=by
        unfold cutL
        rw [List.filter_cons_of_neg (by simp),List.filter_eq_self]
        intro a ha
        simp only [decide_eq_true_eq]
        exact fun e=>hn.1 (e ▸ List.mem_map_of_mem ha)
      rw [this]
      exact ⟨List.Perm.refl _,hn.2,by simp⟩
    · have hm:p∈left:=by
        rcases List.mem_cons.1 h with rfl | h
        · exact absurd rfl e
        · exact h
      obtain ⟨i1,i2,i3⟩:=ih hn.2 hm
      have:cutL (q::left) p.1=q::cutL left p.1:=by
        unfold cutL
        rw [List.filter_cons_of_pos (by simpa using e)]
      rw [this]
      refine ⟨?_,?_,by simp;omega⟩
      · simp only [List.map_cons]
        exact (i1.cons q.1).trans (List.Perm.swap ..)
      · simp only [List.map_cons,List.nodup_cons]
        refine ⟨fun hh=>hn.1 ?_,i2⟩
        obtain ⟨a,ha,e2⟩:=List.mem_map.1 hh
        exact e2 ▸ List.mem_map_of_mem ((List.mem_filter.1 ha).1)
theorem filt_perm {f:Int→Bool} {acc b c:List Int} {q:Int} (h:b.Perm (q::c)):(acc++b.filter f).Perm (acc++(if f q=true then [q] else [])++c.filter f):=by
 rw [List.append_assoc]
 refine List.Perm.append_left acc ?_
 have:=h.filter f
 rw [List.filter_cons] at this
 split
 · rename_i hf;rw [if_pos hf] at this;exact this
 · rename_i hf;rw [if_neg hf] at this;exact this
abbrev lostB (a:An) (t:Int):Bool:=decide ((Zy a.done t).getD 0=0)
def AnR (es:List EnM) (ms:List Int) (pe pm:Option Addr) (ne ce cm:Nat) (u:Value) (l:List Wp):Prop := ∃ (p1 p2 p3:Option Addr) (c1 c2 c3:Nat),u = .agg #[.slice p1 (anRun ((es.map (·.e)).zip ms)).cm.length c1,.slice p2 (losersA (anRun ((es.map (·.e)).zip ms))).length c2,.slice p3 (pagesT (anRun ((es.map (·.e)).zip ms))).length c3,.int .i64 (anRun ((es.map (·.e)).zip ms)).last] ∧
 l=[cmR p1 (anRun ((es.map (·.e)).zip ms)).cm.length c1 (anRun ((es.map (·.e)).zip ms)).cm,mkR p2 (losersA (anRun ((es.map (·.e)).zip ms))).length c2 (losersA (anRun ((es.map (·.e)).zip ms))),toR p3 (pagesT (anRun ((es.map (·.e)).zip ms))).length c3 (pagesT (anRun ((es.map (·.e)).zip ms))),emR pe ne ce es,mkR pm ne cm ms]
theorem Ta.analyse (B:Wn) (es:List EnM) (ms:List Int) (pe pm:Option Addr) (ne ce cm:Nat) (hne:es.length=ne) (hnm:ms.length=ne) (hb:ne<2^32) :
  Fn Tryz.prog B 17 #[.slice pe ne ce,.slice pm ne cm] [emR pe ne ce es,mkR pm ne cm ms] (AnR es ms pe pm ne ce cm):=by
 unfold AnR
 obtain ⟨Z,hZ⟩ : ∃ Z,(es.map (·.e)).zip ms=Z:=⟨_,rfl⟩
 have hZl:Z.length=ne:=by rw [←hZ];simp [hne,hnm]
 rw [hZ]
 refine Wr 111 Tryz.func17 rfl rfl (nB rfl) (fun F=>?_)
 try simp only [cA,nA]
 refine T.own fun w0 ho0=>?_
 have hpe:=(ho0.slice_at (p:=pe) (m:=ne) (c:=ce)).2.1
 have hpm:=(ho0.slice_at (p:=pm) (m:=ne) (c:=cm)).2.1
 clear ho0
 refine TS ?_
 refine Le rfl (El [.slice none 0 0,.slice none 0 0,.slice none 0 0,.int .i64 0] (by unfold Zf;kernel_rfl) ?_)
 intro g4
 refine Ld (TS ?_)
 refine Le rfl (El [.slice none 0 0,.slice none 0 0,.slice none 0 0,.int .i64 0] (by unfold Zf;kernel_rfl) ?_)
 intro g5
 refine Ld (TS ?_)
 refine Le rfl (YD Int Int kI kI ?_)
 rintro gd
 refine La rfl rfl (Ld (TS ?_))
 refine Le rfl (YD Int Int kI kI ?_)
 rintro gs
 refine La rfl rfl (Ld (TS ?_))
 refine Le rfl (YD Int Tch kI tchV ?_)
 rintro gp
 refine La rfl rfl (Ld (Ts (TS (Lm rfl rfl (Lq rfl (yI (e:=64) (sz:=6) (by kernel_rfl) rfl) (Lm rfl rfl ?_))))))
 refine Ld (yH (T.conv (l':=cmR none 0 0 []::tmA gp []::mSI gs []::mSI gd []::blk g5 [.slice none 0 0,.slice none 0 0,.slice none 0 0,.int .i64 0] 32::blk g4 [.slice none 0 0,.slice none 0 0,.slice none 0 0,.int .i64 0] 32::emR pe ne ce es::mkR pm ne cm ms::F) (fun w ho=>ho.row_nil _ _) ?_))
 refine zG (fun mz fz lz => ∃ (f0:Fr) (i:Nat) (a:An) (p1:Option Addr) (c1 nc:Nat),(i≤ne∧a=anRun (Z.take i)∧nc=a.cm.length)∧mz=ne-i∧fz=(upd (upd (upd (upd (upd (upd (upd (upd (upd (upd f0 0 (.slice pe ne ce)) 1 (.slice pm ne cm)) 4 (.pointer (some ⟨g4,0,none⟩))) 5 (.pointer (some ⟨g5,0,none⟩))) 6 (.map (some gd))) 7 (.map (some gs))) 8 (.map (some gp))) 18 (.slice pe ne ce)) 19 (.int .i64 ne)) 20 (.int .i64 i))∧lz=cmR p1 nc c1 a.cm::tmA gp a.pages::mSI gs a.seen::mSI gd a.done::blk g5 [.slice p1 nc c1,.slice none 0 0,.slice none 0 0,.int .i64 a.last] 32::blk g4 [.slice none 0 0,.slice none 0 0,.slice none 0 0,.int .i64 0] 32::emR pe ne ce es::mkR pm ne cm ms::F) ?_ ?_
 · refine ⟨_,_,⟨_,0,⟨[],[],[],[],0⟩,none,0,0,⟨Nat.zero_le _,rfl,rfl⟩,rfl,(Za rfl (Za rfl (Za rfl (Za rfl (Za rfl (Za rfl (Za rfl (Za rfl (Za rfl (Za rfl rfl)))))))))),rfl⟩,Sa⟩
 rintro mz fz lz ⟨f0,i,a,p1,c1,nc,⟨hi,ha,hnc⟩,hmz,rfl,rfl⟩
 subst mz
 have hkeys:=an_keys (Z.take i)
 rw [←ha] at hkeys
 obtain ⟨hk1,hk2,hk3,hk4⟩:=hkeys
 have hZi:(Z.take i).length=i:=by rw [List.length_take];omega
 refine TS (Lq rfl (yM rfl rfl) (Ld (Ts ?_)))
 refine yN rfl (fun hlt=>?_) (fun hlt=>?_)
 ·
  obtain ⟨ge,rfl⟩:=hpe (by omega)
  obtain ⟨gm2,rfl⟩:=hpm (by omega)
  obtain ⟨x,hx⟩ : ∃ x,es[i]'(by omega)=x:=⟨_,rfl⟩
  obtain ⟨m,hm⟩ : ∃ m,ms[i]'(by omega)=m:=⟨_,rfl⟩
  have hz:Z[i]? = some (x.e,m):=by rw [←hZ,List.getElem?_zip_eq_some];exact ⟨by rw [List.getElem?_map,List.getElem?_eq_getElem (by omega),hx];rfl,by rw [List.getElem?_eq_getElem (by omega),hm]⟩
  have hstep:=anRun_snoc hz
  rw [←ha] at hstep
  refine Tk (Ts (yH (TS (Lm rfl rfl (Lq rfl (Qi _ (e:=64) (sz:=6) (by kernel_rfl) rfl rfl rfl (by omega)) (Lq rfl (QL [.int .i64 x.e.kind,.int .i64 x.e.txn,.int .i64 x.e.page,.int .i64 x.e.slot,.int .i64 x.e.stamp,.slice x.p x.e.data.length x.c] (by kernel_rfl) rfl (by rw [show [Value.int .i64 x.e.kind,.int .i64 x.e.txn,.int .i64 x.e.page,.int .i64 x.e.slot,.int .i64 x.e.stamp,.slice x.p x.e.data.length x.c]=emC (es[i]'(by omega)) by rw [hx]];exact rdl_flat _ _ _ (by intros;rfl) _ (by omega))) ?_))))))
  refine Le rfl (El [.int .i64 0,.int .i64 0,.int .i64 0,.int .i64 0,.int .i64 0,.slice none 0 0] (by unfold Zf;kernel_rfl) ?_)
  intro g10
  refine La rfl rfl ?_
  refine L0 rfl (Es [_,_,_,_,_,_] (by kernel_rfl) rfl rfl rfl rfl (by simp) ?_)
  try simp only [splice,lC,lN,dS,cA,tS,tZ,dZ,nA,aN]
  refine Ld (TS (La rfl rfl (Ld (Ts (TS ?_)))))
  refine Lm rfl rfl (Lm rfl rfl (Lq rfl (yI (e:=2) (sz:=1) (by kernel_rfl) rfl) (Lq rfl (yM rfl rfl) (Ld (zM rfl (by omega) (TR (Lm rfl rfl ?_)))))))
  refine Lm rfl rfl (Lq rfl (Qi _ (e:=2) (sz:=1) (by kernel_rfl) rfl rfl rfl (by omega)) (Lq rfl (Ql (v:=kI m) (by kernel_rfl) rfl (by rw [map_at _ _ _ (by omega),hm])) (La rfl rfl (Ld (TS (Lq rfl (Qf (off:=3) (by kernel_rfl) rfl) ?_))))))
  refine Lq rfl (Ql (by kernel_rfl) rfl rfl) (Lq rfl (Qf (off:=1) (by kernel_rfl) rfl) (Lq rfl (Ql (by kernel_rfl) rfl rfl) (Lq rfl (YP rfl rfl) (Lq rfl (Qf (off:=3) (by kernel_rfl) rfl) ?_))))
  refine L0 rfl (E1 (by kernel_rfl) rfl rfl rfl (by first | (simp;done) | (simp;omega)) ?_)
  try simp only [List.set_cons_zero,List.set_cons_succ]
  refine Ld (TS (Lm rfl rfl (Lq rfl (Qf (off:=1) (by kernel_rfl) rfl) (Lq rfl (Ql (by kernel_rfl) rfl rfl) (Lq rfl (zT Ta.okI rfl x.e.txn rfl 0 rfl) (Lq rfl (Qd rfl rfl rfl) ?_))))))
  refine L0 rfl (Y0 Ta.okI rfl x.e.txn rfl (IntKind.i64.wrap ((Zy a.seen x.e.txn).getD 0+1)) rfl ?_)
  refine Ld (Ts (TS (Lq rfl (Q0 (by kernel_rfl) rfl) (Lq rfl (Ql (by kernel_rfl) rfl rfl) (Lq rfl (yU rfl rfl) (Ld ?_))))))
  refine yN rfl (fun h3=>?_) (fun h3=>?_)
  ·
   refine Ts (TS (Lm rfl rfl (Lq rfl (Qf (off:=1) (by kernel_rfl) rfl) (Lq rfl (Ql (by kernel_rfl) rfl rfl) (Lq rfl (zT Ta.okI rfl x.e.txn rfl 0 rfl) (Lq rfl (yU rfl rfl) ?_))))))
   refine Ld ?_
   refine yN rfl (fun hd0=>?_) (fun hd0=>?_)
   ·
    refine TR (Lq rfl (Q0 (by kernel_rfl) rfl) (Lq rfl (Ql (by kernel_rfl) rfl rfl) (Lq rfl (Qf (off:=1) (by kernel_rfl) rfl) (Lq rfl (Ql (by kernel_rfl) rfl rfl) (Lq rfl (Qf (off:=4) (by kernel_rfl) rfl) (Lq rfl (Ql (by kernel_rfl) rfl rfl) (Lq rfl (z8 [(0,1),(1,1)] [.int .i64 0,.int .i64 0] [_,_] [(0,_),(1,_)] (by kernel_rfl) (by unfold Zf;kernel_rfl) rfl rfl) ?_)))))))
    refine Le rfl (zK [_,_] (e:=133) (sz:=2) (by kernel_rfl) ⟨.agg #[.int .i64 0,.int .i64 0],by kernel_rfl,rfl⟩ rfl rfl rfl (by omega) (by omega) ?_)
    intro g59
    refine Le rfl (Ea Hp.elemC rfl rfl (SrcOf.blk (by kernel_rfl) rfl (by simp [Value.oneCell'])) (by unfold maxLen;omega) (by omega) ?_)
    rintro p2 c2 hp2
    try simp only [cA,nA]
    rw [flat_snoc stC a.cm (x.e.txn,x.e.stamp)]
    refine Lq rfl (Q0 (by kernel_rfl) rfl) ?_
    refine L0 rfl (E1 (by kernel_rfl) rfl rfl rfl (by first | (simp;done) | (simp;omega)) ?_)
    try simp only [List.set_cons_zero,List.set_cons_succ]
    refine Ld (TS (Lm rfl rfl (Lq rfl (Qf (off:=1) (by kernel_rfl) rfl) (Lq rfl (Ql (by kernel_rfl) rfl rfl) (Lq rfl (zT Ta.okI rfl x.e.txn rfl 0 rfl) (Lq rfl (Qd rfl rfl rfl) ?_))))))
    refine L0 rfl (Y0 Ta.okI rfl x.e.txn rfl (IntKind.i64.wrap ((Zy a.done x.e.txn).getD 0+1)) rfl ?_)
    refine Ld (zB (TR (Lq rfl (Qd rfl rfl (Ze (by omega) (by omega))) (Lm rfl rfl (Ld ?_)))))
    refine ⟨_,?_,_,⟨_,i+1,{a with last:=max a.last x.e.txn,seen:=bumpI a.seen x.e.txn,cm:=a.cm++[(x.e.txn,x.e.stamp)],done:=bumpI a.done x.e.txn},p2,c2,nc+1,⟨by omega,by rw [hstep];unfold anStep;rw [if_pos h3,if_pos hd0],by simp [hnc]⟩,rfl,(Za rfl (Za rfl (Za rfl (Za rfl (Za rfl (Za rfl (Za rfl (Za rfl (Za rfl (Za rfl rfl)))))))))),rfl⟩,Sa⟩
    omega
   refine Tk (TS (Lm rfl rfl (Lq rfl (Qf (off:=1) (by kernel_rfl) rfl) (Lq rfl (Ql (by kernel_rfl) rfl rfl) (Lq rfl (zT Ta.okI rfl x.e.txn rfl 0 rfl) (Lq rfl (Qd rfl rfl rfl) ?_))))))
   refine L0 rfl (Y0 Ta.okI rfl x.e.txn rfl (IntKind.i64.wrap ((Zy a.done x.e.txn).getD 0+1)) rfl ?_)
   refine Ld (zB (TR (Lq rfl (Qd rfl rfl (Ze (by omega) (by omega))) (Lm rfl rfl (Ld ?_)))))
   refine ⟨_,?_,_,⟨_,i+1,{a with last:=max a.last x.e.txn,seen:=bumpI a.seen x.e.txn,done:=bumpI a.done x.e.txn},p1,c1,nc,⟨by omega,by rw [hstep];unfold anStep;rw [if_pos h3,if_neg hd0],hnc⟩,rfl,(Za rfl (Za rfl (Za rfl (Za rfl (Za rfl (Za rfl (Za rfl (Za rfl (Za rfl (Za rfl rfl)))))))))),rfl⟩,Sa⟩
   omega
  by_cases hlp:Zy a.pages x.e.page=none
  ·
   refine Tk (TS (Lm rfl rfl (Lq rfl (Qf (off:=2) (by kernel_rfl) rfl) (Lq rfl (Ql (by kernel_rfl) rfl rfl) (Lq rfl (ZM Ta.okP rfl x.e.page rfl hlp) (Lm rfl rfl ?_))))))
   refine Lq rfl (Qx rfl rfl) (Lq rfl (Qx rfl rfl) ?_)
   refine Le rfl (El [.int .i64 0,.int .i64 0,.int .i64 0] (by unfold Zf;kernel_rfl) ?_)
   intro g12
   refine L0 rfl (Es [_,_,_] (by kernel_rfl) rfl rfl rfl rfl (by simp) ?_)
   try simp only [splice,lC,lN,dS,cA,tS,tZ,dZ,nA,aN]
   refine La rfl rfl (Ld (Ts (TS (Lm rfl rfl (Lq rfl (Y2 rfl) (Ld ?_))))))
   refine zF rfl (TR (Lq rfl (Qf (off:=2) (by kernel_rfl) rfl) (Lq rfl (Ql (by kernel_rfl) rfl rfl) (Lm rfl rfl (Lq rfl (z8 [(0,1),(1,1),(2,1)] [.int .i64 0,.int .i64 0,.int .i64 0] [_,_,_] [(0,_),(1,_)] (by kernel_rfl) (by unfold Zf;kernel_rfl) rfl rfl) ?_)))))
   refine L0 rfl (Es [_,_,_] (by kernel_rfl) rfl rfl rfl rfl (by simp) ?_)
   try simp only [splice,lC,lN,dS,cA,tS,tZ,dZ,nA,aN]
   refine Ld (TS (Lm rfl rfl (Lq rfl (Qf (off:=2) (by kernel_rfl) rfl) ?_)))
   refine L0 rfl (E1 (by kernel_rfl) rfl rfl rfl (by first | (simp;done) | (simp;omega)) ?_)
   try simp only [List.set_cons_zero,List.set_cons_succ]
   refine Ld (TR (Lm rfl rfl (Lq rfl (Qf (off:=2) (by kernel_rfl) rfl) (Lq rfl (Ql (by kernel_rfl) rfl rfl) (Lq rfl (QL [_,_,_] (by kernel_rfl) rfl ⟨rfl,rfl,rfl,trivial⟩) ?_)))))
   refine L0 rfl (Y0 Ta.okP rfl x.e.page rfl ⟨x.e.page,m,m⟩ rfl ?_)
   refine Ld (TR (Lq rfl (Qd rfl rfl (Ze (by omega) (by omega))) (Lm rfl rfl (Ld ?_))))
   refine ⟨_,?_,_,⟨_,i+1,{a with last:=max a.last x.e.txn,seen:=bumpI a.seen x.e.txn,pages:=putL a.pages x.e.page ⟨x.e.page,m,m⟩},p1,c1,nc,⟨by omega,by rw [hstep];unfold anStep;rw [if_neg h3,hlp],hnc⟩,rfl,(Za rfl (Za rfl (Za rfl (Za rfl (Za rfl (Za rfl (Za rfl (Za rfl (Za rfl (Za rfl rfl)))))))))),rfl⟩,Sa⟩
   omega
  obtain ⟨pg,hpg⟩:=Option.ne_none_iff_exists'.1 hlp
  refine Tk (TS (Lm rfl rfl (Lq rfl (Qf (off:=2) (by kernel_rfl) rfl) (Lq rfl (Ql (by kernel_rfl) rfl rfl) (Lq rfl (ZL Ta.okP rfl x.e.page rfl hpg) (Lm rfl rfl ?_))))))
  refine Lq rfl (Qx rfl rfl) (Lq rfl (Qx rfl rfl) ?_)
  refine Le rfl (El [.int .i64 0,.int .i64 0,.int .i64 0] (by unfold Zf;kernel_rfl) ?_)
  intro g12
  refine L0 rfl (Es [_,_,_] (by kernel_rfl) rfl rfl rfl rfl (by simp) ?_)
  try simp only [splice,lC,lN,dS,cA,tS,tZ,dZ,nA,aN]
  refine La rfl rfl (Ld (Ts (TS (Lm rfl rfl (Lq rfl (Y2 rfl) (Ld ?_))))))
  refine yQ rfl (Tk (TS (Lm rfl rfl (Lq rfl (Qf (off:=2) (by kernel_rfl) rfl) ?_))))
  refine L0 rfl (E1 (by kernel_rfl) rfl rfl rfl (by first | (simp;done) | (simp;omega)) ?_)
  try simp only [List.set_cons_zero,List.set_cons_succ]
  refine Ld (TR (Lm rfl rfl (Lq rfl (Qf (off:=2) (by kernel_rfl) rfl) (Lq rfl (Ql (by kernel_rfl) rfl rfl) (Lq rfl (QL [_,_,_] (by kernel_rfl) rfl ⟨rfl,rfl,rfl,trivial⟩) ?_)))))
  refine L0 rfl (Y0 Ta.okP rfl x.e.page rfl ⟨pg.page,pg.first,m⟩ rfl ?_)
  refine Ld (TR (Lq rfl (Qd rfl rfl (Ze (by omega) (by omega))) (Lm rfl rfl (Ld ?_))))
  refine ⟨_,?_,_,⟨_,i+1,{a with last:=max a.last x.e.txn,seen:=bumpI a.seen x.e.txn,pages:=putL a.pages x.e.page ⟨pg.page,pg.first,m⟩},p1,c1,nc,⟨by omega,by rw [hstep];unfold anStep;rw [if_neg h3,hpg],hnc⟩,rfl,(Za rfl (Za rfl (Za rfl (Za rfl (Za rfl (Za rfl (Za rfl (Za rfl (Za rfl (Za rfl rfl)))))))))),rfl⟩,Sa⟩
  omega
 obtain rfl:i=ne:=by omega
 rw [List.take_of_length_le (by omega)] at ha
 rw [←ha]
 refine zB (Ts (TS (Lm rfl rfl ?_)))
 refine Le rfl (Z4 (ke:=kI) (ve:=kI) Tryz.underlying40 rfl ?_)
 rintro gi
 refine LW.own (fun w ho=>?_)
 have hnd:=ho.mapNodup gs
 have hnp:=ho.mapNodup gp
 clear ho
 refine LW.conv (l':=mkR none 0 0 []::_) (fun w ho=>ho.row_nil _ _) (Ld (yH ?_))
 refine zG (fun mz fz lz => ∃ (f0:Fr) (left:List (Int×Int)) (acc:List Int) (p2:Option Addr) (c2 n2:Nat),((left.map (·.1)).Nodup∧(acc++(left.map (·.1)).filter (lostB a)).Perm ((a.seen.map (·.1)).filter (lostB a))∧acc.length=n2∧n2+left.length≤a.seen.length)∧mz=left.length∧fz=(upd (upd (upd (upd (upd f0 4 (.pointer (some ⟨g4,0,none⟩))) 5 (.pointer (some ⟨g5,0,none⟩))) 6 (.map (some gd))) 8 (.map (some gp))) 88 (.pointer (some ⟨gi,0,none⟩)))∧lz=rgA kI kI gi gs a.seen left::mkR p2 n2 c2 acc::cmR p1 nc c1 a.cm::tmA gp a.pages::mSI gd a.done::blk g5 [.slice p1 nc c1,.slice p2 n2 c2,.slice none 0 0,.int .i64 a.last] 32::blk g4 [.slice none 0 0,.slice none 0 0,.slice none 0 0,.int .i64 0] 32::emR pe i ce es::mkR pm i cm ms::F) ?_ ?_
 · refine ⟨_,_,⟨_,a.seen,[],none,0,0,⟨hnd,List.Perm.refl _,rfl,by omega⟩,rfl,(Za rfl (Za rfl (Za rfl (Za rfl (Za rfl rfl))))),rfl⟩,Sa⟩
 rintro mz fz lz ⟨f0,left,acc,p2,c2,n2,⟨hnd1,hperm,hacc,hlb⟩,hmz,rfl,rfl⟩
 subst mz
 by_cases hlf:left=[]
 ·
  subst hlf
  rw [List.map_nil,List.filter_nil,List.append_nil] at hperm
  have hL:sortZ acc=losersA a:=sortZ_same hperm
  have hLl:(losersA a).length=n2:=by rw [←hL,←hacc];simp [sortZ]
  have hplen:(pagesT a).length=a.pages.length:=by simp [pagesT,sortT]
  refine TS ?_
  refine Le rfl (Z5 rfl rfl ?_)
  refine Lq rfl (Qx rfl rfl) (Ld (Ts (yQ rfl (zB (TS (Lq rfl (Qf (off:=1) (by kernel_rfl) rfl) ?_))))))
  refine Lq rfl (Ql (by kernel_rfl) rfl rfl) ?_
  refine Le rfl (Ec (Fn.sortI Tryz.sortI (.slice p2 n2 c2) 2 n2 acc hacc (by omega) [] 57 rfl) Tryz.func57 rfl rfl rfl ?_)
  rintro _ _ ⟨rfl,rfl⟩
  try simp only [cA,nA]
  rw [hL]
  refine Ld (TS (Lm rfl rfl ?_))
  refine Le rfl (Ec (Ta.values B gp) Tryz.func59 rfl rfl rfl ?_)
  rintro _ _ ⟨g1,rfl,rfl⟩
  try simp only [cA,nA]
  refine Le rfl (Ec (Ta.sorted B g1 gp a.pages (by omega) hk1 hnp) Tryz.func58 rfl rfl rfl ?_)
  rintro _ _ ⟨p3,c3,rfl,rfl⟩
  try simp only [cA,nA]
  rw [←hplen,show sortT (a.pages.map (·.2))=pagesT a from rfl]
  refine Lq rfl (Qf (off:=2) (by kernel_rfl) rfl) ?_
  refine L0 rfl (E1 (by kernel_rfl) rfl rfl rfl (by first | (simp;done) | (simp;omega)) ?_)
  try simp only [List.set_cons_zero,List.set_cons_succ]
  refine Ld (TS (Lq rfl (QL [_,_,_,_] (by kernel_rfl) rfl ⟨rfl,rfl,rfl,rfl,trivial⟩) ?_))
  refine L0 rfl (Es [_,_,_,_] (by kernel_rfl) rfl rfl rfl rfl (by simp) ?_)
  try simp only [splice,lC,lN,dS,cA,tS,tZ,dZ,nA,aN]
  refine Ld ?_
  subst hnc
  subst hLl
  refine T.ret ?_
  exact ⟨.inl rfl,_,_,res [_] rfl ⟨rvA [_,_,_,_] (by kernel_rfl) rfl ⟨rfl,rfl,rfl,rfl,trivial⟩,trivial⟩,⟨p1,p2,p3,c1,c2,c3,rfl,rfl⟩,Sa⟩
 have h1:0<left.length:=List.length_pos_iff.2 hlf
 refine TS ?_
 refine Le rfl (Z6 (left:=left) i64_inj rfl rfl hlf ?_)
 rintro ⟨q,tq⟩ hq
 try simp only [cA,nA]
 refine Lq rfl (Qx rfl rfl) (Ld (Ts ?_))
 obtain ⟨d1,d2,d3⟩:=perm_cutI hnd1 hq
 have d4:(cutL left q).length<left.length:=d3
 have hfp:=filt_perm (f:=lostB a) (acc:=acc) d1
 refine zF rfl (Tk (yH (TS (Lq rfl (Z7 rfl) (Lq rfl (YM (v:=kI q) rfl rfl) (La rfl rfl ?_))))))
 refine Ld (TS (Lm rfl rfl (Lm rfl rfl (Lq rfl (zT Ta.okI rfl q rfl 0 rfl) (Lq rfl (yU rfl rfl) (Ld ?_))))))
 refine yN rfl (fun hlo=>?_) (fun hlo=>?_)
 ·
  rw [if_pos (show lostB a q=true by simpa using hlo)] at hfp
  refine TR (Lq rfl (Qf (off:=1) (by kernel_rfl) rfl) (Lq rfl (Ql (by kernel_rfl) rfl rfl) (Lm rfl rfl ?_)))
  refine Le rfl (zK [_] (e:=2) (sz:=1) (by kernel_rfl) ⟨.int .i64 0,by kernel_rfl,rfl⟩ rfl rfl rfl (by omega) (by omega) ?_)
  intro g100
  refine Le rfl (Ea Ta.elemL rfl rfl (SrcOf.blk (by kernel_rfl) rfl (by simp [Value.oneCell'])) (by unfold maxLen;omega) (by omega) ?_)
  rintro p4 c4 hp4
  try simp only [cA,nA]
  rw [map_snoc kI acc q]
  refine Lq rfl (Qf (off:=1) (by kernel_rfl) rfl) ?_
  refine L0 rfl (E1 (by kernel_rfl) rfl rfl rfl (by first | (simp;done) | (simp;omega)) ?_)
  try simp only [List.set_cons_zero,List.set_cons_succ]
  refine Ld ?_
  refine ⟨_,?_,_,⟨_,cutL left q,acc++[q],p4,c4,n2+1,⟨d2,hfp.symm.trans hperm,by simp [hacc],by omega⟩,rfl,(Za rfl (Za rfl (Za rfl (Za rfl (Za rfl rfl))))),rfl⟩,Sa⟩
  omega
 rw [if_neg (show ¬ lostB a q=true by simpa using hlo),List.append_nil] at hfp
 refine Tk ?_
 refine ⟨_,?_,_,⟨_,cutL left q,acc,p2,c2,n2,⟨d2,hfp.symm.trans hperm,hacc,by omega⟩,rfl,(Za rfl (Za rfl (Za rfl (Za rfl (Za rfl rfl))))),rfl⟩,Sa⟩
 omega
open Go.RowKit
structure PreI (logs count n K k:Nat) (s:Pl) (es:List En):Prop where
 inv:PInv logs count n K s
 len:s.D.secs.length=logs+count
 l1:1≤logs
 zero : ∀ x∈s.A,x.pins=0
 coh:Coh logs s.A s.D
 log:LogI logs s.W s.D es
 has : ∀ q,q<k→q<count→HasP logs s.A s.D q (Zx [] 0)
theorem PreI.done {logs count n K:Nat} {s:Pl} {es:List En} (h:PreI logs count n K count s es):SInv logs count n K s es (fun _=>[]) :=
 ⟨h.inv,h.len,h.l1,h.zero,h.coh,h.log,fun q hq=>⟨0,by omega,h.has q hq hq⟩,fun q hq=>⟨⟨by simp [ZO],by simp⟩,by simp⟩⟩
theorem PreI.new {logs count n:Nat} {D:DD} {es:List En} (h1:1≤logs) (hc:1≤count) (hn1:1≤n) (hn2:n≤4096) (ho:D.Ok) (hl:D.secs.length=logs+count) (hp:D.pend=[]) (hs:Secs D 0 logs (Zr 0 0 (es.map Zj))) (hle:(Zr 0 0 (es.map Zj)).length≤logs*256):PreI logs count n 0 0 ⟨List.replicate n fa1,0,mkW 0 logs (es.map Zj) (Zr 0 0 (es.map Zj)).length,D⟩ es:=by
  have hx : ∀ x∈List.replicate n fa1,x=fa1:=fun x hx=>(List.mem_replicate.1 hx).2
  refine ⟨⟨FOk.new count n hn1 hn2,fun x h hd=>?_,fun x h=>?_,by show 0<n;omega,?_,hle,Nat.le_refl _,by rw [hp];simp,ho,by rw [hl];omega⟩,hl,h1,fun x h=>by rw [hx x h],fun i x h h0=>?_,?_,fun q h=>by omega⟩
  · rw [hx x h] at hd;cases hd
  · rw [hx x h];decide
  · show 0+logs≤_;dsimp only;omega
  · rw [hx x (List.mem_of_getElem? h)] at h0;exact absurd h0 (by decide)
  · refine ⟨rfl,⟨es.length,Nat.le_refl _,by rw [List.take_length];rfl,fun i e hi he=>?_⟩,?_,fun p h=>by rw [hp] at h;cases h⟩
    · rw [List.getElem?_eq_none hi] at he;cases he
    · show Secs D 0 logs ((Zr 0 0 (es.map Zj)).take (Zr 0 0 (es.map Zj)).length)
      rw [List.take_length];exact hs
theorem pg0_len : (Zx [] 0).length=256:=length_pgBytes (by simp [ZO])
theorem PreI.round {logs count n K k:Nat} {s:Pl} {es:List En} (h:PreI logs count n K k s es) (hK:K<2^31) (hq:k<count) : ∃ s1 i x A2 A3,pinP logs count s k=(s1,0)∧PInv logs count n (K+1) s1∧pinnedA s1.A k=some (i,x)∧putA s1.A k (Zx [] 0) 0=(A2,0)∧PInv logs count n (K+1) {s1 with A:=A2}∧unpinA A2 k=(A3,0)∧PreI logs count n (K+1) (k+1) {s1 with A:=A3} es:=by
  have hr : ¬ ((k:Int)<0∨(count:Int)≤(k:Int)):=by omega
  obtain ⟨hcode,i,x,hi,hp,hone,hrest⟩:=pin_frame h.inv k hr h.zero
  have hpi:=h.inv.pin hK k
  obtain ⟨l1,l2,l3⟩:=h.log.first
  obtain ⟨hhas,hcoh⟩:=pin_ok h.inv hK k (by omega) h.coh
  have hlen:=pin_secs h.inv hK k
  have hlog:=h.log.pin h.inv hK k
  have hs1:pinP logs count s k=((pinP logs count s k).1,0):=by rw [←hcode]
  generalize (pinP logs count s k).1=s1 at *
  have hO:OneP k s1.A i x:=⟨hi,hp,hone,hrest⟩
  have hpin:=pinnedA_of hpi.F hi hp (by omega) (by rw [hone];omega)
  have hil:=(List.getElem?_eq_some_iff.1 hi).1
  have hput:=hpi.put k (Zx [] 0) 0 (by omega)
  have e:putA s1.A k (Zx [] 0) 0=(s1.A.set i {x with mark:=max x.mark 0,dirty:=true,b:=Zx [] 0},0):=by
    unfold putA;rw [hpin];dsimp only;rw [if_neg (by simp [pg0_len])]
  rw [e] at hput
  dsimp only at hput
  have hO2:OneP k (s1.A.set i {x with mark:=max x.mark 0,dirty:=true,b:=Zx [] 0}) i {x with mark:=max x.mark 0,dirty:=true,b:=Zx [] 0}:=hO.set hp hone
  obtain ⟨u1,u2,u3⟩:=hO2.unpin hput.F (by omega)
  have hun:=hput.unpin k
  rw [u1] at hun
  dsimp only at hun
  refine ⟨s1,i,x,_,_,hs1,hpi,hpin,e,hput,u1,hun,hlen.trans h.len,h.l1,u3,?_,hlog,fun p hp1 hp2=>?_⟩
  · dsimp only
    rw [List.set_set]
    exact Coh.set (x:=x) hi rfl (fun e=>by cases e) hcoh
  · dsimp only
    rw [List.set_set]
    by_cases e2:p=k
    · exact .inl ⟨i,_,List.getElem?_set_self hil,by rw [e2];exact hp,rfl⟩
    · rcases hhas p _ hp2 (h.has p (by omega) hp2) with ⟨j,z,h1,h2,h3⟩ | ⟨h1,h2⟩
      · by_cases e3:i=j
        · subst e3;rw [hi] at h1;cases h1;omega
        · exact .inl ⟨j,z,by rw [List.getElem?_set_ne e3];exact h1,h2,h3⟩
      · refine .inr ⟨fun j z hz=>?_,h2⟩
        rw [List.getElem?_set] at hz
        split at hz
        · cases hz;dsimp only;omega
        · exact h1 j z hz
theorem an_last : ∀ (l:List (En×Int)),(anRun l).last=lastE (l.map (·.1)):=by
 intro l
 unfold anRun lastE
 have key : ∀ (l:List (En×Int)) (a:An),(l.foldl anStep a).last=(l.map (·.1)).foldl (fun m e=>max m e.txn) a.last:=by
  intro l
  induction l with
  | nil=>intro a;rfl
  | cons x l ih =>
   intro a
   simp only [List.foldl_cons,List.map_cons]
   rw [ih]
   congr 1
   unfold anStep
   split <;> rfl
 exact key l _
structure AnOk (l:List (En×Int)) (a:An):Prop where
 cm:a.cm=(l.map (·.1)).filterMap cmOf
 done : ∀ t,(Zy a.done t).getD 0=if t∈a.cm.map (·.1) then 1 else 0
 seen : ∀ t,t∈a.seen.map (·.1) ↔ ∃ x∈l,x.1.txn=t
theorem mem_putL_key {k:Int} {v:Int} {t:Int} : ∀ {L:List (Int×Int)},t∈(putL L k v).map (·.1)↔t=k∨t∈L.map (·.1)
  | []=>by simp [putL]
  | q::L=>by
    unfold putL
    split
    · rename_i e;simp;constructor
      · rintro (h | h)
        · exact .inl h
        · exact .inr (.inr h)
      · rintro (h | h | h)
        · exact .inl h
        · exact .inl (by rw [h,e])
        · exact .inr h
    · have:=mem_putL_key (k:=k) (v:=v) (t:=t) (L:=L)
      simp only [List.map_cons,List.mem_cons,this]
      constructor
      · rintro (h | h | h)
        · exact .inr (.inl h)
        · exact .inl h
        · exact .inr (.inr h)
      · rintro (h | h | h)
        · exact .inr (.inl h)
        · exact .inl h
        · exact .inr (.inr h)
theorem an_ok (l:List (En×Int)) (hn:(((l.map (·.1)).filterMap cmOf).map (·.1)).Nodup):AnOk l (anRun l):=by
  induction l using snocI with
  | nil=>exact ⟨rfl,fun t=>by simp [anRun,Zy],fun t=>by simp [anRun]⟩
  | snoc l x ih =>
    rw [List.map_append,List.filterMap_append,List.map_append,List.nodup_append] at hn
    obtain ⟨n1,n2,n3⟩:=hn
    obtain ⟨i1,i2,i3⟩:=ih n1
    have hrun:anRun (l++[x])=anStep (anRun l) x:=by unfold anRun;rw [List.foldl_append];rfl
    rw [hrun]
    unfold anStep
    by_cases hk:x.1.kind=3
    · rw [if_pos hk]
      have hc:cmOf x.1=some (x.1.txn,x.1.stamp):=by unfold cmOf;rw [if_pos hk]
      have hx:x.1.txn∉(anRun l).cm.map (·.1):=by
        rw [i1]
        intro h
        exact n3 _ h x.1.txn (by simp [hc]) rfl
      have hd:(Zy (anRun l).done x.1.txn).getD 0=0:=by rw [i2,if_neg hx]
      refine ⟨?_,fun t=>?_,fun t=>?_⟩
      · dsimp only
        rw [if_pos hd,List.map_append,List.filterMap_append,i1]
        simp [hc]
      · dsimp only
        rw [if_pos hd]
        by_cases e:x.1.txn=t
        · subst e
          rw [look_put_same]
          rw [hd]
          rw [if_pos (by rw [List.map_append];simp)];rfl
        · rw [look_put_ne _ e,i2]
          by_cases ht:t∈(anRun l).cm.map (·.1)
          · rw [if_pos ht,if_pos (by rw [List.map_append];exact List.mem_append_left _ ht)]
          · rw [if_neg ht,if_neg]
            rw [List.map_append,List.mem_append]
            rintro (q | q)
            · exact ht q
            · simp at q;exact e q.symm
      · dsimp only
        rw [mem_putL_key,i3]
        simp only [List.mem_append,List.mem_singleton]
        constructor
        · rintro (h | ⟨y,hy,h⟩)
          · exact ⟨x,.inr rfl,h.symm⟩
          · exact ⟨y,.inl hy,h⟩
        · rintro ⟨y,hy | rfl,h⟩
          · exact .inr ⟨y,hy,h⟩
          · exact .inl h.symm
    · rw [if_neg hk]
      have hc:cmOf x.1=none:=by unfold cmOf;rw [if_neg hk]
      refine ⟨?_,i2,fun t=>?_⟩
      · dsimp only
        rw [List.map_append,List.filterMap_append,i1]
        simp [hc]
      · dsimp only
        rw [mem_putL_key,i3]
        simp only [List.mem_append,List.mem_singleton]
        constructor
        · rintro (h | ⟨y,hy,h⟩)
          · exact ⟨x,.inr rfl,h.symm⟩
          · exact ⟨y,.inl hy,h⟩
        · rintro ⟨y,hy | rfl,h⟩
          · exact .inr ⟨y,hy,h⟩
          · exact .inl h.symm
open Go.RowKit
theorem ap_rec {h:HR} (r:RepOk h) {v:Ver} {i:Nat} (hv:h.vs[i]? = some v):(Zi h.vs v.page)[v.slot]? = some (verB v):=by
 unfold Zi;rw [List.getElem?_map,page_at r.slots hv];rfl
theorem Hp.redoStep (B:Wn) (g b n logs count K:Nat) (q:HpQ) (pc:Option Addr) (nc cc:Nat) (last:Int) (s:Pl) (es:List En) (h:HR) (r:RepOk h) (hpg:h.pages=count) (hs:SInv logs count n K s es (Zi h.vs)) (hK:K<2^30) (mark:Nat) (mi:Int) (hmi:mi=mark) (hm:mark<2^40) (e:En) (p:Option Addr) (c:Nat) (hok:OkStep h e) (S:List Wp) (hv:RdV B S (.slice p e.data.length c) (Zb e.data)) :
    Fn Tryz.prog B 42 #[pV g,enV e p c,.int .i64 mi] (hpB g q pc nc cc last::wlS b q s::plS b n logs count q s::Zn b s.D::S)
      (fun u l => ∃ s',SInv logs count n (K+1) s' es (Zi (Zg h e).vs)∧u = .int .i64 0∧l=hpB g q pc nc cc last::wlS b q s'::plS b n logs count q s'::Zn b s'.D::S):=by
  subst hmi
  obtain ⟨p1,p2,p3,p4⟩:=hok.ok.place
  rcases kinds hok.ok with k | k | k
  · obtain ⟨o1,o2,o3,o4⟩:=hok.one k
    obtain ⟨j,hj⟩ : ∃ j:Nat,e.page=j:=⟨e.page.toNat,by omega⟩
    have hjn:e.page.toNat=j:=by omega
    have hrl:(Zi h.vs j).length=(Zh h.vs j).length:=by simp [Zi]
    rw [hjn] at o2 o4
    have hrc:rcSet (Zi h.vs) true j (Zi h.vs j++[newB e.txn e.data])=Zi (Zg h e).vs:=by
      funext x
      rw [recs_add (h:=h) (e:=e) k x]
      unfold rcSet
      simp only [if_true]
      by_cases e1:x=j
      · subst e1;rw [if_pos rfl,if_pos hjn.symm];rfl
      · rw [if_neg e1,if_neg (by rw [hjn];exact e1)]
    have hro2:=recs_ok (r.write hok) j
    have hro3:PgOk (Zi h.vs j++[newB e.txn e.data])∧(Zi h.vs j++[newB e.txn e.data]).length<256:=by have:=congrFun hrc j;unfold rcSet at this;simp only [if_true] at this;rw [this];exact hro2
    have hus:ZO (Zi h.vs j)+17+e.data.length≤243:=by rw [used_recs];unfold Wi at o4;omega
    have:=Hp.redoP B S g b n logs count K q pc nc cc last s es (Zi h.vs) hs hK mark hm e p c (by omega) j hj (by omega) _ hro3.1 hro3.2 (fun gpg m=>Hp.applyAdd B S (pV g) gpg (Zi h.vs j) m e p c hok.ok k hv (by rw [hrl];exact o2) o3 hus)
    rw [hrc] at this
    exact this
  · obtain ⟨i,v,h1,h2,h3⟩:=hok.two k
    obtain ⟨v0,hv0,hvp,hvs⟩:=findV_some h1
    rw [h2] at hv0;cases hv0
    have hvk:=r.vok v (List.mem_of_getElem? h2)
    have hrc:rcSet (Zi h.vs) true v.page ((Zi h.vs v.page).set v.slot (setB 8 (be (UInt64.ofInt e.txn) 8) (verB v)))=Zi (Zg h e).vs:=by
      have hp:=page_at r.slots h2
      funext x
      rw [recs_end (h:=h) (e:=e) r k h1 h2 x]
      unfold rcSet
      simp only [if_true]
      have e3:e.page.toNat=v.page:=by omega
      have e4:e.slot.toNat=v.slot:=by omega
      by_cases e1:x=v.page
      · subst e1
        rw [if_pos rfl,if_pos e3.symm,e4]
        exact (modify_set (ap_rec r h2) _).symm
      · rw [if_neg e1,if_neg (by rw [e3];exact e1)]
    have hro2:=recs_ok (r.write hok) v.page
    have hro3:=hro2
    have hrq:=congrFun hrc v.page
    simp only [rcSet,if_true] at hrq
    rw [←hrq] at hro3
    have:=Hp.redoP B S g b n logs count K q pc nc cc last s es (Zi h.vs) hs hK mark hm e p c (by omega) v.page hvp.symm (by omega) _ hro3.1 hro3.2 (fun gpg m=>Hp.applyEnd B S (pV g) gpg (Zi h.vs v.page) m e p c hok.ok k v.slot hvs.symm (verB v) (ap_rec r h2) (by rw [length_verB];omega))
    rw [hrc] at this
    exact this
  · have hrc:Zi (Zg h e).vs=Zi h.vs:=funext fun x=>recs_commit k x
    rw [hrc]
    refine Fn.wide (Hp.redoC B g mark e p c k) ?_
    rintro v l ⟨rfl,rfl⟩
    exact ⟨_,Sr _,s,hs.mono (by omega),rfl,rfl⟩
end Go.Proofs.YtfjjgdnepfgnhaaGreatDoor
