/- The texts SfL SfA BfA BfB BfC BfD BgA BgB SlW BgC BgD BfE BgE BgF, one behind the other: what the law leans on. Conditions: as each theorem says. -/
import Derived.Test.YtkfmfoecplbclaaGreatDoorZPyBase7
import Derived.Shelf.SlLaysF
import Derived.Test.YtkfmfoecplbclaaGreatDoorProg
import Derived.Shelf.SlSortCmp.NoneTotal
set_option linter.unusedSimpArgs false
set_option linter.unusedVariables false
set_option maxRecDepth 100000
set_option maxHeartbeats 16000000
namespace Go.Proofs
open Go.Shelf
def Tryz.sortF_ren : Go.Shelf.Ren:=⟨fun | 6=>117 | 15=>136 | 14=>141 | 28=>160 | 29=>161 | 20=>164 | 21=>165 | 22=>166 | 23=>167 | 24=>168 | 25=>169 | 26=>170 | 27=>171 | 46=>191 | 47=>178 | 48=>179 | 49=>192 | 50=>193 | 57=>200 | n=>n,fun | 22=>257 | 24=>221 | 25=>259 | 3=>3 | 39=>250 | 0=>0 | 53=>208 | 55=>195 | 4=>4 | 46=>287 | 45=>286 | 50=>292 | 5=>5 | 9=>9 | 66=>308 | 70=>312 | 76=>322 | 77=>252 | n=>n,fun | n=>n⟩
theorem Tryz.sortF : Go.Proofs.SlLaysF.n6 Tryz.prog Tryz.sortF_ren:={
 mixed:=by kernel_rfl
 f6:=⟨Tryz.f117.name,by decide,Tryz.func117.trans (congrArg some (by kernel_rfl))⟩
 f14:=⟨Tryz.f141.name,by decide,Tryz.func141.trans (congrArg some (by kernel_rfl))⟩
 f15:=Tryz.func136.trans (congrArg some (by kernel_rfl))
 f20:=⟨Tryz.f164.name,by decide,Tryz.func164.trans (congrArg some (by kernel_rfl))⟩
 f21:=⟨Tryz.f165.name,by decide,Tryz.func165.trans (congrArg some (by kernel_rfl))⟩
 f22:=⟨Tryz.f166.name,by decide,Tryz.func166.trans (congrArg some (by kernel_rfl))⟩
 f23:=⟨Tryz.f167.name,by decide,Tryz.func167.trans (congrArg some (by kernel_rfl))⟩
 f24:=⟨Tryz.f168.name,by decide,Tryz.func168.trans (congrArg some (by kernel_rfl))⟩
 f25:=⟨Tryz.f169.name,by decide,Tryz.func169.trans (congrArg some (by kernel_rfl))⟩
 f26:=⟨Tryz.f170.name,by decide,Tryz.func170.trans (congrArg some (by kernel_rfl))⟩
 f27:=⟨Tryz.f171.name,by decide,Tryz.func171.trans (congrArg some (by kernel_rfl))⟩
 f28:=Tryz.func160.trans (congrArg some (by kernel_rfl))
 f29:=Tryz.func161.trans (congrArg some (by kernel_rfl))
 f46:=⟨Tryz.f191.name,by decide,Tryz.func191.trans (congrArg some (by kernel_rfl))⟩
 f47:=Tryz.func178.trans (congrArg some (by kernel_rfl))
 f48:=Tryz.func179.trans (congrArg some (by kernel_rfl))
 f49:=⟨Tryz.f192.name,by decide,Tryz.func192.trans (congrArg some (by kernel_rfl))⟩
 f50:=⟨Tryz.f193.name,by decide,Tryz.func193.trans (congrArg some (by kernel_rfl))⟩
 f57:=⟨Tryz.f200.name,by decide,Tryz.func200.trans (congrArg some (by kernel_rfl))⟩
 t0:=Tryz.underlying0
 a0:=Tryz.isAgg0
 z0:=Tryz.sizeOf0
 v0:=Tryz.zeroValue0
 t3:=Tryz.underlying3
 a3:=Tryz.isAgg3
 z3:=Tryz.sizeOf3
 v3:=Tryz.zeroValue3
 t4:=Tryz.underlying4
 a4:=Tryz.isAgg4
 z4:=Tryz.sizeOf4
 v4:=Tryz.zeroValue4
 t5:=Tryz.underlying5
 a5:=Tryz.isAgg5
 z5:=Tryz.sizeOf5
 v5:=Tryz.zeroValue5
 t9:=Tryz.underlying9
 a9:=Tryz.isAgg9
 z9:=Tryz.sizeOf9
 v9:=Tryz.zeroValue9
 t22:=Tryz.underlying257
 a22:=Tryz.isAgg257
 z22:=Tryz.sizeOf257
 v22:=Tryz.zeroValue257
 a24:=Tryz.isAgg221
 z24:=Tryz.sizeOf221
 t25:=Tryz.underlying259
 a25:=Tryz.isAgg259
 z25:=Tryz.sizeOf259
 v25:=Tryz.zeroValue259
 t39:=Tryz.underlying250
 a39:=Tryz.isAgg250
 z39:=Tryz.sizeOf250
 v39:=Tryz.zeroValue250
 t45:=Tryz.underlying286
 a45:=Tryz.isAgg286
 z45:=Tryz.sizeOf286
 v45:=Tryz.zeroValue286
 t46:=Tryz.underlying287
 a46:=Tryz.isAgg287
 z46:=Tryz.sizeOf287
 v46:=Tryz.zeroValue287
 t50:=Tryz.underlying292
 a50:=Tryz.isAgg292
 z50:=Tryz.sizeOf292
 v50:=Tryz.zeroValue292
 t53:=Tryz.underlying208
 a53:=Tryz.isAgg208
 z53:=Tryz.sizeOf208
 v53:=Tryz.zeroValue208
 t55:=Tryz.underlying195
 a55:=Tryz.isAgg195
 z55:=Tryz.sizeOf195
 v55:=Tryz.zeroValue195
 t66:=Tryz.underlying308
 a66:=Tryz.isAgg308
 z66:=Tryz.sizeOf308
 v66:=Tryz.zeroValue308
 t70:=Tryz.underlying312
 a70:=Tryz.isAgg312
 z70:=Tryz.sizeOf312
 v70:=Tryz.zeroValue312
 t76:=Tryz.underlying322
 a76:=Tryz.isAgg322
 z76:=Tryz.sizeOf322
 v76:=Tryz.zeroValue322
 t77:=Tryz.underlying252
 a77:=Tryz.isAgg252
 z77:=Tryz.sizeOf252
 v77:=Tryz.zeroValue252}
end Go.Proofs
namespace Go.Proofs.YtkfmfoecplbclaaGreatDoor
open Go.RowKit Go.Shelf Go.Lib Go.Sort
section
variable {P : Program} {B:Wn} {α:Type} [Inhabited α]
theorem sort_block (enc:α->Value) (w:World) (g m:Nat) (d:Array α) (os:Array Obj) {cur:Array Value} {e:TypeId} {fr:Nat×Nat} (h:w.heap[g]? = some (.cells cur e fr)):(sortWorld enc w g 0 m d os).heap[g]? = some (.cells (putCells enc 0 d cur) e fr):=by
 have hg:g<w.heap.size:=Zk h
 unfold sortWorld
 rw [heap_grow_old _ _ (by rw [size_putRow];exact hg)]
 show (Array.modify w.heap g (onCells (putCells enc 0 d)))[g]? = _
 rw [Array.getElem?_modify,if_pos rfl,h]
 rfl
theorem sort_kept (enc:α->Value) (w:World) (g m:Nat) (d:Array α) (os:Array Obj):Kept [g] w (sortWorld enc w g 0 m d os):=by
  refine ⟨rfl,rfl,rfl,?_,λ k hk hn=>?_⟩
  . unfold sortWorld
    rw [size_grow,size_putRow]
    exact Nat.le_add_right _ _
  . unfold sortWorld
    rw [heap_grow_old _ _ (by rw [size_putRow];exact hk)]
    show (Array.modify w.heap g (onCells (putCells enc 0 d)))[k]? = _
    rw [Array.getElem?_modify,if_neg (λ e=>hn (by simp [e]))]
theorem put_take (enc:α->Value) (d:Array α) (cur:Array Value) (h:d.size<=cur.size):(putCells enc 0 d cur).toList.take (d.size*1)=d.toList.map enc:=by
  apply List.ext_getElem
  . simp [putCells];omega
  . intro i h1 h2
    have hi:i<d.size:=by simpa using h2
    simp [putCells,hi,getElem!_pos]
theorem Own.sorted {w:World} {g m cap k:Nat} {e:TypeId} {ds:List α} {enc:α->Value} {l:List Wp} (H:Own B w (row (.slice (some ⟨g,0,none⟩) m cap) e 1 m (ds.map enc)::l)) (d':Array α) (hd:d'.size=m) (os:Array Obj):Own B (sortWorld enc w g 0 k d' os) (row (.slice (some ⟨g,0,none⟩) m cap) e 1 m (d'.toList.map enc)::l):=by
  obtain ⟨e1,e2⟩:=H.row_owns
  rcases e2 with ⟨e2,_⟩ | ⟨g',cap',cur,e2,_,e3,e4,e5,e6,e7⟩
  . cases e2
  . injection e2 with e2 _ e8
    injection e2 with e2
    injection e2 with e2
    subst e2;subst e8
    refine H.row_kept (by simpa [Value.ownBlock] using sort_kept enc w g k d' os) ⟨by simp [hd],.inr ⟨g,cap,_,rfl,Nat.zero_le _,sort_block enc w g k d' os e3,e4,e5,by simp [putCells,e6],?_⟩⟩ (λ g2 hg => .inl hg)
    rw [<-hd]
    exact put_take enc d' cur (by omega)
theorem Fn.sort {ρ:Ren} (L:SlLaysF.n6 P ρ) (enc:α->Value) (h1:OneCell enc) (cf:α->α->Int) (hO:SWO (ltOf cf)) (gc:Nat) (e:TypeId) (eg : ∀ args w,(callFunc gc args).run P w = .ok (.enter gc args) w) (v:Value) (m:Nat) (ds:List α) (hm:ds.length=m) (hb:m<2^61) (S:List Wp)
    (hcmp : ∀ x y W,Own B W S->Calls P gc #[enc x,enc y] W λ e w'=>e = .returned (.int .i64 (cf x y)) /\ ∃ q,w'=W.drewN q) (f:Nat) (hf:ρ.f 6=f) :
    Fn P B f #[v,.func (.func gc) #[] #[]] (row v e 1 m (ds.map enc)::S) (λ u l=>u = .tuple #[] /\ ∃ ds':List α,ds'.Perm ds/\l=row v e 1 m (ds'.map enc)::S):=⟨λ w F ho=>by
  subst hf
  obtain ⟨p,cap,rfl,hp,hl⟩:=Own.row_slice ho
  rcases Nat.eq_zero_or_pos m with h0 | h0
  . subst h0
    obtain rfl:ds=[]:=List.eq_nil_of_length_eq_zero hm
    refine (AnyF.slices_SortFunc_none {L with} p cap (.func (.func gc) #[] #[]) w).mono ?_
    rintro _ w' ⟨rfl,rfl⟩
    exact ⟨_,_,rfl,⟨rfl,[],List.Perm.refl _,rfl⟩,ho⟩
  . obtain ⟨g,rfl⟩:=hp h0
    have hsz:ds.toArray.size=m:=by simpa using hm
    have hH:Holds enc w g 0 ds.toArray:=λ j hj=>by
      have hj':j<m:=by omega
      obtain ⟨e1,e2⟩:=ho.row_owns
      rcases e2 with ⟨e2,_⟩ | ⟨g',cap',cur,e2,_,e3,e4,e5,e6,e7⟩
      . cases e2
      . injection e2 with e2 _ e8
        injection e2 with e2
        injection e2 with e2
        subst e2
        have hlj:j<ds.length:=by omega
        have hc:cur[j]? = some (enc ds[j]):=by
          rw [<-Array.getElem?_toList]
          have:(cur.toList.take (m*1))[j]? = (ds.map enc)[j]? := by rw [e7]
          rw [List.getElem?_take,if_pos (by omega)] at this
          rw [this]
          simp [hlj]
        constructor
        . unfold World.cell?
          rw [e3]
          simp [hc,hlj,getElem!_pos]
        . unfold World.frozen?
          rw [e3]
          simp
    have hblk:g<w.heap.size:=by
      obtain ⟨e1,e2⟩:=ho.row_owns
      rcases e2 with ⟨e2,_⟩ | ⟨g',cap',cur,e2,_,e3,_⟩
      . cases e2
      . injection e2 with e2 _ e8
        injection e2 with e2
        injection e2 with e2
        subst e2
        exact Zk e3
    have hlays:CmpLays1 P gc #[] enc cf g 0 ds.toArray.size w:=λ k os dk hk x y=>by
      have h2:=ho.sorted (k:=k) dk (by omega) os
      refine (hcmp x y _ ((h2.map λ _ k=>k.tail).drop)).mono ?_
      rintro _ w' ⟨rfl,q,rfl⟩
      exact ⟨rfl,q,#[],by rw [grow_empty]⟩
    have h:=Any.slices_SortFunc L enc h1 cf hO gc #[] g 0 cap ds.toArray w eg hlays hH hblk (by omega)
    rw [hsz] at h
    refine h.mono ?_
    rintro _ w' ⟨rfl,d',k,os,hp1,_,rfl⟩
    obtain ⟨q1,q2,q3⟩:=hp1
    refine ⟨_,_,rfl,⟨rfl,d'.toList,?_,rfl⟩,ho.sorted (k:=k) d' (by omega) os⟩
    have e1:d'.extract 0 m=d':=by rw [<-hsz,<-q1];simp
    have e2:ds.toArray.extract 0 m=ds.toArray:=by rw [<-hsz];simp
    rw [e1,e2] at q3
    simpa using q3⟩
end
open Go.RowKit
section
variable {P : Program} {B:Wn} {n:Nat} {S l r:List Wp} {f:Fr} {K:Value->List Wp->Prop} {d:Option Tmp} {ty:TypeId} {pos:String} {af:Array Edge} {gd:Option (Nat×Bool)}
theorem ZF {t:TypeId} {x:Operand} {v:Value} (ht:(match P.underlying t with | some (.interface _)=>false | some _=>true | none=>false)=true) (hx:ev n f x=some v):Qt P B n S ⟨d,.makeInterface t x,ty,pos,af,gd⟩ f (.iface t v):=⟨λ w _=>by
  split at ht
  . cases ht
  . rename_i u hn hu
    have:(Instr.makeInterface t v).run P w = .ok (.iface t v) w:=by
      unfold Instr.makeInterface
      rw [Sem.run_bind,run_underlying hu]
      simp only [Result.andThen_ok]
      rfl
    simp [execOp,Zc hx,this]
  . cases ht⟩
theorem ZB {g:FuncId} {fn:Func} {t:TypeId} {x:Operand} {name:String} {args:Array Operand} {ats:Array TypeId} {v:Value} {vs:List Value} {pre F:List Wp} {R:Value->List Wp->Prop} (hc:Fn P B g (v::vs).toArray pre R) (hf:P.funcs[g]? = some fn) (hn:(fn.name == "runtime.NumGoroutine")=false) (hb:fn.body.isNone=false)
  (hx:ev n f x=some (.iface t v)) (hm : ∀ w,(method (P.types.size+Made.depth) t v name).run P w = .ok (g,v) w) (ha:args.toList.map (ev n f)=vs.map some) [k:TakeL pre l F] (h : ∀ v l',R v l'->K v (l'++F)):Ef P B n ⟨d,.call ⟨.invoke x name,args,ats⟩,ty,pos,af,gd⟩ f l K:=⟨λ w next Q ho hk=>by
 have hav:args.map (evu n f)=vs.toArray:=by
  have:args.toList.map (evu n f)=vs:=by
   have e:=congrArg (List.map (λ o:Option Value=>o.getD undef)) ha
   have e2:(λ x=>evu n f x)=evu n f:=rfl
   simp only [List.map_map,Function.comp_def,Option.getD_some,List.map_id'] at e
   exact e
  rw [<-Array.toList_inj,Array.toList_map]
  simpa using this
 have h0:=hc.run w F ho.takeL
 unfold Oper.wp execOp
 rw [Wk]
 have he:((do let c <-resolve (evu n f) ⟨.invoke x name,args,ats⟩ ty;invoke c.target c.args):Sem Next).run P w = .ok (.enter g (v::vs).toArray) w:=by
  have hn' : ¬ fn.name = "runtime.NumGoroutine" := by simpa using hn
  have hb' : ¬ fn.body=none:=λ e=>by rw [e] at hb;cases hb
  simp [resolve,hav,Zc hx,Go.invoke,callMethod,callFunc,hm,hf,hn',hb']
 rw [he]
 show Calls P g (v::vs).toArray w _
 refine Calls.mono h0 ?_
 rintro e w' ⟨v,l',rfl,hR,ho'⟩
 exact hk v w' _ (h v l' hR) ho'⟩
end
structure Fm where
 page:Int
 mark:Int
 pins:Int
 dirty:Bool
 used:Bool
 p:Option Addr
 c:Nat
 b:List UInt8
abbrev fmC (x:Fm):List Value:=[.int .i64 x.page,.slice x.p x.b.length x.c,.int .i64 x.mark,.int .i64 x.pins,.bool x.dirty,.bool x.used]
abbrev fmR (gf n:Nat) (Fs:List Fm):Wp:=row (.slice (some ⟨gf,0,none⟩) n n) 219 6 n (Fs.flatMap fmC)
abbrev Zw (g b gf n first count hand:Nat) (pl:Option Addr) (nl cl:Nat):Wp:=blk g [.pointer (some ⟨b,0,none⟩),.int .i64 first,.int .i64 count,.slice (some ⟨gf,0,none⟩) n n,.int .i64 hand,.slice pl nl cl] 156
theorem fm_at {Fs:List Fm} {i:Nat} {x:Fm} (h:Fs[i]? = some x) (j:Nat) (hj:j<6):(Fs.flatMap fmC)[0+i*6+j]? = (fmC x)[j]? := by
 induction Fs generalizing i with
 | nil=>simp at h
 | cons y R ih =>
  cases i with
  | zero =>
   simp at h;subst h
   rw [List.flatMap_cons,Nat.zero_mul,Nat.add_zero,Nat.zero_add,List.getElem?_append_left (by simpa using hj)]
  | succ i =>
   have:=ih (i:=i) (by simpa using h)
   rw [List.flatMap_cons,List.getElem?_append_right (by simp;omega),<-this]
   congr 1
   simp;omega
theorem fm_set {Fs:List Fm} {i:Nat} {x y:Fm} (h:Fs[i]? = some x) (j:Nat) (v:Value) (hy:fmC y=(fmC x).set j v) (hj:j<6:=by omega):(Fs.flatMap fmC).set (0+i*6+j) v=(Fs.set i y).flatMap fmC:=by
 induction Fs generalizing i with
 | nil=>simp at h
 | cons z R ih =>
  cases i with
  | zero =>
   simp at h;subst h
   rw [List.flatMap_cons,Nat.zero_mul,Nat.add_zero,Nat.zero_add,List.set_append_left _ _ (by simpa using hj),<-hy]
   rfl
  | succ i =>
   have:=ih (i:=i) (by simpa using h)
   rw [List.flatMap_cons,List.set_cons_succ,List.flatMap_cons,<-this,List.set_append_right _ _ (by simp;omega)]
   congr 2
   simp;omega
theorem fm_splice {Fs:List Fm} {i:Nat} (h:i<Fs.length) (y:Fm):splice (Fs.flatMap fmC) (0+i*6) (fmC y)=(Fs.set i y).flatMap fmC:=by
 unfold splice
 induction Fs generalizing i with
 | nil=>simp at h
 | cons z R ih =>
  cases i with
  | zero=>simp [List.flatMap_cons]
  | succ i =>
   have:=ih (i:=i) (by simpa using h)
   rw [List.set_cons_succ,List.flatMap_cons,List.flatMap_cons,<-this]
   rw [List.take_append,List.drop_append,List.take_of_length_le (l:=fmC z) (by first | (simp;done) | (simp;omega)),List.drop_of_length_le (l:=fmC z) (by first | (simp;done) | (simp;omega))]
   simp only [List.length_cons,List.length_nil,List.nil_append,List.append_assoc]
   congr 2
   . congr 1;omega
   . congr 2;omega
theorem fm_len (Fs:List Fm):(Fs.flatMap fmC).length=Fs.length*6:=flat_length fmC 6 _ (λ _ _=>rfl)
theorem Bf.find_some (B:Wn) (g b gf n first count hand:Nat) (pl:Option Addr) (nl cl:Nat) (Fs:List Fm) (page:Int) (i:Nat) (x:Fm) (hn:Fs.length=n) (hn2:n<=4096) (hx:Fs[i]? = some x) (hp:x.page=page) (h0:0<=page) (hfirst : ∀ (j:Nat),j<i -> ∀ y:Fm,Fs[j]? = some y->y.page≠page) :
  Fn Tryz.prog B 92 #[.pointer (some ⟨g,0,none⟩),.int .i64 page] [Zw g b gf n first count hand pl nl cl,fmR gf n Fs] (λ u l=>u = .pointer (some ⟨gf,0+i*6,none⟩)/\l=[Zw g b gf n first count hand pl nl cl,fmR gf n Fs]):=by
 have hi:i<n:=by rw [<-hn];exact (List.getElem?_eq_some_iff.1 hx).1
 refine Wr 33 Tryz.func92 rfl rfl (nB rfl) (λ F=>?_)
 try simp only [cA,nA]
 refine TS (La rfl (Ld (Ts (TS ?_))))
 iterate 6 refine Lz ?_
 refine Ld (yH ?_)
 refine zG (λ mz fz lz => ∃ (f0:Fr) (k:Nat),(k<=i)/\mz=n-k/\fz=(upd (upd (upd (upd f0 0 (.pointer (some ⟨g,0,none⟩))) 1 (.int .i64 page)) 11 (.int .i64 n)) 12 (.int .i64 k))/\lz=Zw g b gf n first count hand pl nl cl::fmR gf n Fs::F) ?_ ?_
 . refine ⟨_,_,⟨_,0,Nat.zero_le _,rfl,U4,rfl⟩,Sa⟩
 rintro mz fz lz ⟨f0,k,hk,hmz,rfl,rfl⟩
 subst mz
 obtain ⟨y,hy⟩ : ∃ y,Fs[k]? = some y:=⟨_,List.getElem?_eq_getElem (by omega)⟩
 refine TS (Lq (yM rfl rfl) (Ld (Ts (zM rfl ?_))))
 by_cases e:k=i
 .
  subst e
  obtain rfl:y=x:=by rw [hx] at hy;exact (Option.some.inj hy).symm
  refine Tk (Ts (yH (TS (Lm rfl (La rfl (Ld (TS ?_)))))))
  iterate 7 refine Lz ?_
  refine Ld (TS ?_)
  iterate 3 refine Lz ?_
  refine Lq (Ql (v := .int .i64 y.page) rfl (fm_at hy 0 (by omega))) ?_
  iterate 3 refine Lz ?_
  refine zQ (t:=27) rfl (decide_eq_true (hp)) ?_
  iterate 3 refine Lz ?_
  refine Ld (zM rfl (TS (Lm rfl (La rfl (Ld (T.ret ?_))))))
  exact ⟨.inl rfl,_,_,res [_] rfl ⟨rvT rfl,trivial⟩,⟨rfl,rfl⟩,Sa⟩
 refine Tk (Ts (yH (TS (Lm rfl (La rfl (Ld (TS ?_)))))))
 iterate 7 refine Lz ?_
 refine Ld (TS ?_)
 iterate 3 refine Lz ?_
 refine Lq (Ql (v := .int .i64 y.page) rfl (fm_at hy 0 (by omega))) ?_
 iterate 3 refine Lz ?_
 refine yT (t:=27) rfl (decide_eq_false ((hfirst k (by omega) y hy))) ?_
 iterate 3 refine Lz ?_
 refine Ld (yQ rfl (Tk (TR ?_)))
 iterate 2 refine Lz ?_
 refine Ld ?_
 refine ⟨_,?_,_,⟨_,k+1,by omega,rfl,U4,rfl⟩,Sa⟩
 omega
theorem Bf.find_none (B:Wn) (g b gf n first count hand:Nat) (pl:Option Addr) (nl cl:Nat) (Fs:List Fm) (page:Int) (hn:Fs.length=n) (hn2:n<=4096) (hno : ∀ (j:Nat) (y:Fm),Fs[j]? = some y->y.page=page->page<0) :
  Fn Tryz.prog B 92 #[.pointer (some ⟨g,0,none⟩),.int .i64 page] [Zw g b gf n first count hand pl nl cl,fmR gf n Fs] (λ u l=>u = .pointer none/\l=[Zw g b gf n first count hand pl nl cl,fmR gf n Fs]):=by
 refine Wr 33 Tryz.func92 rfl rfl (nB rfl) (λ F=>?_)
 try simp only [cA,nA]
 refine TS (La rfl (Ld (Ts (TS ?_))))
 iterate 6 refine Lz ?_
 refine Ld (yH ?_)
 refine zG (λ mz fz lz => ∃ (f0:Fr) (k:Nat),(k<=n)/\mz=n-k/\fz=(upd (upd (upd (upd f0 0 (.pointer (some ⟨g,0,none⟩))) 1 (.int .i64 page)) 11 (.int .i64 n)) 12 (.int .i64 k))/\lz=Zw g b gf n first count hand pl nl cl::fmR gf n Fs::F) ?_ ?_
 . refine ⟨_,_,⟨_,0,Nat.zero_le _,rfl,U4,rfl⟩,Sa⟩
 rintro mz fz lz ⟨f0,k,hk,hmz,rfl,rfl⟩
 subst mz
 refine TS (Lq (yM rfl rfl) (Ld (Ts ?_)))
 refine yN rfl (λ hlt=>?_) (λ hlt=>?_)
 .
  obtain ⟨y,hy⟩ : ∃ y,Fs[k]? = some y:=⟨_,List.getElem?_eq_getElem (by omega)⟩
  refine Tk (Ts (yH (TS (Lm rfl (La rfl (Ld (TS ?_)))))))
  iterate 7 refine Lz ?_
  refine Ld (TS ?_)
  iterate 3 refine Lz ?_
  refine Lq (Ql (v := .int .i64 y.page) rfl (fm_at hy 0 (by omega))) ?_
  iterate 3 refine Lz ?_
  refine zZ (t:=27) rfl (λ he=>?_) (λ he=>?_)
  .
   try replace he:=of_decide_eq_true he
   have hneg:=hno k y hy he
   iterate 3 refine Lz ?_
   refine Ld (yL rfl (Tk (TR ?_)))
   iterate 2 refine Lz ?_
   refine Ld ?_
   refine ⟨_,?_,_,⟨_,k+1,by omega,rfl,U4,rfl⟩,Sa⟩
   omega
  try replace he:=of_decide_eq_false he
  iterate 3 refine Lz ?_
  refine Ld (yQ rfl (Tk (TR ?_)))
  iterate 2 refine Lz ?_
  refine Ld ?_
  refine ⟨_,?_,_,⟨_,k+1,by omega,rfl,U4,rfl⟩,Sa⟩
  omega
 refine zB (TS (La rfl (Ld (T.ret ?_))))
 exact ⟨.inl rfl,_,_,res [_] rfl ⟨rvT rfl,trivial⟩,⟨rfl,rfl⟩,Sa⟩
open Go.RowKit
structure Fd (Fs:List Fm) (page:Int) (i:Nat) (x:Fm):Prop where
 at_:Fs[i]? = some x
 pg:x.page=page
 pos:0<=page
 first : ∀ (j:Nat),j<i -> ∀ y:Fm,Fs[j]? = some y->y.page≠page
theorem Bf.pinned_some (B:Wn) (g b gf n first count hand:Nat) (pl:Option Addr) (nl cl:Nat) (Fs:List Fm) (page:Int) (i:Nat) (x:Fm) (hn:Fs.length=n) (hn2:n<=4096) (hx:Fd Fs page i x) (hpin:0<x.pins) :
  Fn Tryz.prog B 94 #[.pointer (some ⟨g,0,none⟩),.int .i64 page] [Zw g b gf n first count hand pl nl cl,fmR gf n Fs] (λ u l=>u = .pointer (some ⟨gf,0+i*6,none⟩)/\l=[Zw g b gf n first count hand pl nl cl,fmR gf n Fs]):=by
 refine Wr 19 Tryz.func94 rfl rfl (nB rfl) (λ F=>?_)
 try simp only [cA,nA]
 refine TS (La rfl (Ld (Ts (TS (Lm rfl (Lm rfl ?_))))))
 refine Le (Ec (Bf.find_some B g b gf n first count hand pl nl cl Fs page i x hn hn2 hx.at_ hx.pg hx.pos hx.first) Tryz.func92 rfl rfl rfl ?_)
 rintro _ _ ⟨rfl,rfl⟩
 try simp only [cA,nA]
 refine La rfl (Ld (TS (Lm rfl (Lq (YZ rfl rfl) (Lm rfl (zQ (t:=11) rfl rfl ?_))))))
 iterate 3 refine Lz ?_
 refine Lq (Ql (v := .int .i64 x.pins) rfl (fm_at hx.at_ 3 (by omega))) (Lq (yZ rfl rfl) (Lq (Qp rfl rfl) (Ld (zM rfl (TS (Lm rfl (La rfl (Ld (T.ret ?_)))))))))
 exact ⟨.inl rfl,_,_,res [_] rfl ⟨rvT rfl,trivial⟩,⟨rfl,rfl⟩,Sa⟩
theorem Bf.unpin (B:Wn) (g b gf n first count hand:Nat) (pl:Option Addr) (nl cl:Nat) (Fs:List Fm) (page:Int) (i:Nat) (x:Fm) (hn:Fs.length=n) (hn2:n<=4096) (hx:Fd Fs page i x) (hpin:0<x.pins) (hpin2:x.pins<2^62) :
  Fn Tryz.prog B 48 #[.pointer (some ⟨g,0,none⟩),.int .i64 page] [Zw g b gf n first count hand pl nl cl,fmR gf n Fs] (λ u l=>u = .int .i64 0/\l=[Zw g b gf n first count hand pl nl cl,fmR gf n (Fs.set i {x with pins:=x.pins-1})]):=by
 have hi:i<Fs.length:=(List.getElem?_eq_some_iff.1 hx.at_).1
 have hfl:=fm_len Fs
 refine Wr 18 Tryz.func48 rfl rfl (nB rfl) (λ F=>?_)
 try simp only [cA,nA]
 refine TS (La rfl (Ld (TS (Lm rfl (Lm rfl ?_)))))
 refine Le (Ec (Bf.pinned_some B g b gf n first count hand pl nl cl Fs page i x hn hn2 hx hpin) Tryz.func94 rfl rfl rfl ?_)
 rintro _ _ ⟨rfl,rfl⟩
 try simp only [cA,nA]
 refine La rfl (Ld (Ts (TS ?_)))
 iterate 2 refine Lz ?_
 refine Ld (yQ rfl (Tk (TS ?_)))
 iterate 3 refine Lz ?_
 refine Lq (Ql (v := .int .i64 x.pins) rfl (fm_at hx.at_ 3 (by omega))) ?_
 iterate 3 refine Lz ?_
 refine L0 (E1 (by kernel_rfl) rfl rfl rfl (by omega) ?_)
 rw [fm_set (y:={x with pins:=x.pins-1}) hx.at_ 3 _ rfl]
 refine Ld (TS (La rfl (Ld (T.ret ?_))))
 exact ⟨.inl rfl,_,_,res [_] rfl ⟨rvT rfl,trivial⟩,⟨rfl,rfl⟩,Sa⟩
theorem Bf.bytes (B:Wn) (S:List Wp) (g b gf n first count hand:Nat) (pl:Option Addr) (nl cl:Nat) (Fs:List Fm) (page:Int) (i:Nat) (x:Fm) (hn:Fs.length=n) (hn2:n<=4096) (hx:Fd Fs page i x) (hpin:0<x.pins) (hv:RdV B S (.slice x.p x.b.length x.c) (Zb x.b)) (hb:x.b.length<2^40) :
  Fn Tryz.prog B 106 #[.pointer (some ⟨g,0,none⟩),.int .i64 page] (Zw g b gf n first count hand pl nl cl::fmR gf n Fs::S) (λ u l => ∃ p c,u = .tuple #[.slice p x.b.length c,.int .i64 0]/\(0<x.b.length -> ∃ g,p=some ⟨g,0,none⟩)/\l=rB (.slice p x.b.length c) x.b.length x.b::Zw g b gf n first count hand pl nl cl::fmR gf n Fs::S):=by
 refine Wr 17 Tryz.func106 rfl rfl (nB rfl) (λ F=>?_)
 try simp only [cA,nA]
 refine TS (La rfl (La rfl (Ld (TS (Lm rfl (Lm rfl ?_))))))
 refine Le (Ec (Bf.pinned_some B g b gf n first count hand pl nl cl Fs page i x hn hn2 hx hpin) Tryz.func94 rfl rfl rfl ?_)
 rintro _ _ ⟨rfl,rfl⟩
 try simp only [cA,nA]
 refine La rfl (Ld (Ts (TS ?_)))
 iterate 2 refine Lz ?_
 refine Ld (yQ rfl (Tk (TS ?_)))
 iterate 3 refine Lz ?_
 refine Lq (Ql (v := .slice x.p x.b.length x.c) rfl (fm_at hx.at_ 1 (by omega))) ?_
 refine Le (Ec (Bc.clone B S (.slice x.p x.b.length x.c) x.b x.b.length rfl hv hb) Tryz.func89 rfl rfl rfl ?_)
 rintro _ _ ⟨p5,c5,rfl,hp5,rfl⟩
 try simp only [cA,nA]
 refine La rfl (La rfl (Ld (T.ret ?_)))
 exact ⟨.inl rfl,_,_,res [_,_] rfl ⟨rvT rfl,rvT rfl,trivial⟩,⟨_,_,rfl,hp5,rfl⟩,Sa⟩
theorem Bf.put (B:Wn) (S:List Wp) (g b gf n first count hand:Nat) (pl:Option Addr) (nl cl:Nat) (Fs:List Fm) (page:Int) (i:Nat) (x:Fm) (hn:Fs.length=n) (hn2:n<=4096) (hx:Fd Fs page i x) (hpin:0<x.pins) (a:Option Addr) (ca:Nat) (d:List UInt8) (mark:Int) (hd:d.length=256) (hv:RdV B S (.slice a 256 ca) (Zb d)) :
  Fn Tryz.prog B 45 #[.pointer (some ⟨g,0,none⟩),.int .i64 page,.slice a 256 ca,.int .i64 mark] (Zw g b gf n first count hand pl nl cl::fmR gf n Fs::S)
   (λ u l => ∃ p c,u = .int .i64 0/\(∃ g,p=some ⟨g,0,none⟩)/\l=rB (.slice p 256 c) 256 d::Zw g b gf n first count hand pl nl cl::fmR gf n (Fs.set i {x with mark:=max x.mark mark,dirty:=true,p:=p,c:=c,b:=d})::S):=by
 have hi:i<Fs.length:=(List.getElem?_eq_some_iff.1 hx.at_).1
 have hfl:=fm_len Fs
 refine Fn.enter4 37 Tryz.func45 rfl rfl (nB rfl) (λ F=>?_)
 try simp only [cA,nA]
 refine TS (La rfl (Ld (TS (Lm rfl (Lm rfl ?_)))))
 refine Le (Ec (Bf.pinned_some B g b gf n first count hand pl nl cl Fs page i x hn hn2 hx hpin) Tryz.func94 rfl rfl rfl ?_)
 rintro _ _ ⟨rfl,rfl⟩
 try simp only [cA,nA]
 refine La rfl (Ld (Ts (yH (TS ?_))))
 iterate 3 refine Lz ?_
 refine Ld (yQ rfl (TS ?_))
 iterate 4 refine Lz ?_
 refine Ld (yQ rfl (Tk (TS ?_)))
 iterate 3 refine Lz ?_
 refine Le (Ec (Bc.clone B S (.slice a 256 ca) d 256 hd hv (by omega)) Tryz.func89 rfl rfl rfl ?_)
 rintro _ _ ⟨p5,c5,rfl,hp5,rfl⟩
 try simp only [cA,nA]
 have hg5:=hp5 (by omega)
 iterate 2 refine Lz ?_
 refine L0 (E1 (by kernel_rfl) rfl rfl rfl (by omega) ?_)
 rw [fm_set (y:={x with p:=p5,c:=c5,b:=d}) hx.at_ 1 _ (by simp only [fmC,List.set_cons_zero,List.set_cons_succ,hd])]
 have h2:(Fs.set i {x with p:=p5,c:=c5,b:=d})[i]? = some {x with p:=p5,c:=c5,b:=d}:=by rw [List.getElem?_set_self hi]
 have hfl2:=fm_len (Fs.set i {x with p:=p5,c:=c5,b:=d})
 rw [List.length_set] at hfl2
 iterate 2 refine Lz ?_
 refine L0 (E1 (by kernel_rfl) rfl rfl rfl (by omega) ?_)
 rw [fm_set (y:={x with p:=p5,c:=c5,b:=d,dirty:=true}) h2 4 _ rfl,List.set_set]
 have h3:(Fs.set i {x with p:=p5,c:=c5,b:=d,dirty:=true})[i]? = some {x with p:=p5,c:=c5,b:=d,dirty:=true}:=by rw [List.getElem?_set_self hi]
 have hfl3:=fm_len (Fs.set i {x with p:=p5,c:=c5,b:=d,dirty:=true})
 rw [List.length_set] at hfl3
 refine Ld (TS ?_)
 iterate 4 refine Lz ?_
 refine Lq (Ql (v := .int .i64 x.mark) rfl (fm_at h3 2 (by omega))) (Lm rfl (Lq (YP rfl rfl) ?_))
 iterate 2 refine Lz ?_
 refine L0 (E1 (by kernel_rfl) rfl rfl rfl (by omega) ?_)
 rw [fm_set (y:={x with p:=p5,c:=c5,b:=d,dirty:=true,mark:=max x.mark mark}) h3 2 _ rfl,List.set_set]
 refine Ld (TS (La rfl (Ld (T.ret ?_))))
 exact ⟨.inl rfl,_,_,res [_] rfl ⟨rvT rfl,trivial⟩,⟨p5,c5,rfl,hg5,rfl⟩,Sa⟩
theorem Bf.pages (B:Wn) (g b gf n first count hand:Nat) (pl:Option Addr) (nl cl:Nat) :
  Fn Tryz.prog B 43 #[.pointer (some ⟨g,0,none⟩)] [Zw g b gf n first count hand pl nl cl] (λ u l=>u = .int .i64 count/\l=[Zw g b gf n first count hand pl nl cl]):=by
 refine Wq 7 Tryz.func43 rfl rfl (nB rfl) (λ F=>?_)
 try simp only [cA,nA]
 refine TS (La rfl (Ld (TS ?_)))
 iterate 5 refine Lz ?_
 refine Ld (T.ret ?_)
 exact ⟨.inl rfl,_,_,res [_] rfl ⟨rvT rfl,trivial⟩,⟨rfl,rfl⟩,Sa⟩
open Go.RowKit
theorem Bf.elemF : ElemOk Tryz.prog 154 217 1 16 := .mk' .nilIface Tryz.underlying154 (by kernel_rfl) rfl (by omega)
theorem Bf.elemFr : ElemOk Tryz.prog 153 219 6 56 := .mk' (.agg #[.int .i64 0,.slice none 0 0,.int .i64 0,.int .i64 0,.bool false,.bool false]) Tryz.underlying153 (by kernel_rfl) rfl (by omega)
abbrev fm0 : Fm:=⟨0,0,0,false,false,none,0,[]⟩
abbrev fm1 : Fm:=⟨-1,0,0,false,false,none,0,[]⟩
abbrev lgR (pl:Option Addr) (nl cl:Nat) (ls:List Value):Wp:=row (.slice pl nl cl) 217 1 nl ls
theorem Bf.clone (B:Wn) (S:List Wp) (v:Value) (ls:List Value) (m:Nat) (hm:ls.length=m) (hv:RdV B S v ls) (h1 : ∀ x∈ls,x.oneCell'=true) (hb:m<2^20):Fn Tryz.prog B 91 #[v] S (λ u l => ∃ p c,u = .slice p m c/\l=lgR p m c ls::S):=by
 subst hm
 obtain ⟨a,c,rfl⟩:=hv.form (m:=ls.length) rfl
 refine Wq 8 Tryz.func91 rfl rfl (nB rfl) (λ F=>?_)
 refine TS (La rfl (Ld (Ts (TS (Lm rfl (Lq (YT rfl rfl) (Ld ?_)))))))
 refine Y9 rfl (λ h=>?_) (λ h=>?_)
 .
  have hb0:ls=[]:=by rcases Nat.eq_zero_or_pos ls.length with h0 | h0;exact List.eq_nil_of_length_eq_zero h0;obtain ⟨g,o,rfl,_⟩:=hv.at h0;cases h
  subst hb0
  refine T.conv (l':=lgR none ([]:List Value).length 0 []::(S++F)) (λ w ho=>ho.row_nil _ _) (TS (La rfl (Ld (T.ret ?_))))
  exact ⟨.inl rfl,_,_,res [_] rfl ⟨rvT rfl,trivial⟩,⟨none,0,rfl,rfl⟩,Sa⟩
 refine Tk (TS ?_)
 refine Le (Y8 Bf.elemF ?_)
 rintro g5
 refine Lm rfl ?_
 refine Le (Ea Bf.elemF rfl rfl (SrcOf.rd (m:=ls.length) (hv.mono (λ w ho=>ho.tl.drop)) (by kernel_rfl) rfl h1) (by unfold maxLen;omega) ?_)
 rintro p1 c1 hp1
 try simp only [cA,nA]
 simp only [Nat.zero_add,List.nil_append]
 refine La rfl (Ld (T.ret ?_))
 exact ⟨.inl rfl,_,_,res [_] rfl ⟨rvT rfl,trivial⟩,⟨_,_,rfl,rfl⟩,Sa⟩
abbrev fmZ : Value := .agg #[.int .i64 0,.slice none 0 0,.int .i64 0,.int .i64 0,.bool false,.bool false]
theorem made_frames (n:Nat):(madeCells fmZ.cells (n*6)).toList=(List.replicate n fm0).flatMap fmC:=by
  have hl:((List.replicate n fm0).flatMap fmC).length=n*6:=by rw [fm_len,List.length_replicate]
  have hz:fmZ.cells=(fmC fm0).toArray:=rfl
  rw [hz]
  apply List.ext_getElem
  . rw [hl];simp [madeCells]
  . intro i h1 h2
    have h2':=h2
    rw [hl] at h2'
    have h3:=fm_at (Fs:=List.replicate n fm0) (i:=i/6) (x:=fm0) (by rw [List.getElem?_replicate,if_pos (by omega)]) (i%6) (Nat.mod_lt _ (by omega))
    rw [show 0+i/6*6+i%6=i by omega,List.getElem?_eq_getElem h2] at h3
    have h6:i%6<(fmC fm0).length:=Nat.mod_lt _ (by show 0<6;omega)
    rw [List.getElem?_eq_getElem h6] at h3
    rw [Option.some.inj h3]
    simp [madeCells]
    rw [List.getElem?_eq_getElem h6]
    rfl
theorem fm_rep (k n:Nat) (h:k<n):(List.replicate k fm1++List.replicate (n-k) fm0).set k fm1=List.replicate (k+1) fm1++List.replicate (n-(k+1)) fm0:=by
 rw [List.set_append_right _ _ (by simp),List.length_replicate,Nat.sub_self,show n-k=(n-(k+1))+1 by omega,List.replicate_succ,List.set_cons_zero,List.replicate_succ' (n:=k),List.append_assoc]
 rfl
theorem Bf.new (B:Wn) (S:List Wp) (b:Nat) (D:DD) (first count n:Nat) (i j k:Int) (hi:i=first) (hj:j=count) (hk:k=n) (lv:Value) (ls:List Value) (hs:D.secs.length<=4096) (h1:1<=count) (hD:first+count<=D.secs.length) (hn1:1<=n) (hn2:n<=4096) (hv:RdV B S lv ls) (h1' : ∀ x∈ls,x.oneCell'=true) (hb:ls.length<2^20) :
  Fn Tryz.prog B 42 #[.pointer (some ⟨b,0,none⟩),.int .i64 i,.int .i64 j,.int .i64 k,lv] (Zn b D::S) (λ u l => ∃ g gf pl cl,u = .tuple #[.pointer (some ⟨g,0,none⟩),.int .i64 0]/\l=Zw g b gf n first count 0 pl ls.length cl::fmR gf n (List.replicate n fm1)::lgR pl ls.length cl ls::Zn b D::S):=by
 subst hi;subst hj;subst hk
 refine Fn.enter5 73 Tryz.func42 rfl rfl (nB rfl) (λ F=>?_)
 try simp only [cA,nA]
 refine TS (La rfl (La rfl (Ld (Ts (TS ?_)))))
 iterate 3 refine Lz ?_
 refine yT (t:=16) rfl rfl ?_
 iterate 4 refine Lz ?_
 refine yT (t:=20) rfl (decide_eq_false (by omega)) ?_
 iterate 4 refine Lz ?_
 refine Le (Ec (Dk.sectorsF B b D) Tryz.func40 rfl rfl rfl ?_)
 rintro _ _ ⟨rfl,rfl⟩
 try simp only [cA,nA]
 iterate 3 refine Lz ?_
 refine yT (t:=28) rfl (decide_eq_false (by omega)) ?_
 iterate 4 refine Lz ?_
 refine Le (Ec (Dk.sectorsF B b D) Tryz.func40 rfl rfl rfl ?_)
 rintro _ _ ⟨rfl,rfl⟩
 try simp only [cA,nA]
 iterate 5 refine Lz ?_
 refine yT (t:=38) rfl (decide_eq_false (by omega)) ?_
 iterate 4 refine Lz ?_
 refine yT (t:=42) rfl (decide_eq_false (by omega)) ?_
 iterate 3 refine Lz ?_
 refine Ld (yL rfl (Tk (Ts (zW 10 none (nB rfl) ?_))))
 refine Rz 0 ?_;refine Rz 1 ?_;refine Rz 2 ?_
 refine Rq 3 rfl Sa (z8 [(0,1),(1,1),(2,1)] [.pointer none,.int .i64 0,.int .i64 0] [_,_,_] [(0,_),(1,_),(2,_)] (by unfold Zf;kernel_rfl) rfl rfl) ?_
 refine Rz 4 ?_;refine Rz 6 ?_
 refine YC [5,7] (List.forall_mem_cons.2 ⟨?_,List.forall_mem_cons.2 ⟨?_,List.forall_mem_nil _⟩⟩)
 .
  refine z6 rfl (YK n fmZ 56 Bf.elemFr rfl rfl rfl rfl (by unfold maxLen;omega) ?_)
  rintro g51
  try simp only [cA,nA]
  rw [made_frames,show List.replicate n fm0=List.replicate 0 fm1++List.replicate (n-0) fm0 by simp]
  refine ⟨Sa,?_⟩
  refine yK 7 ?_
  refine z6 rfl (Ec (Bf.clone B S lv ls ls.length rfl hv h1' hb) Tryz.func91 rfl rfl rfl ?_)
  rintro _ _ ⟨p53,c53,rfl,rfl⟩
  try simp only [cA,nA]
  refine ⟨Sa,?_⟩
  refine Rq 8 rfl Sa (z8 [(0,3),(3,1),(4,1),(5,1)] [.pointer none,.int .i64 0,.int .i64 0,.slice none 0 0,.int .i64 0,.slice none 0 0] [_,_,_,_,_,_] [(0,_),(1,_),(3,_)] (by unfold Zf;kernel_rfl) rfl rfl) (yK 9 ?_)
  refine zY rfl (zL [_,_,_,_,_,_] rfl rfl ?_)
  intro g55
  refine Rd0 (by rfl) ?_
  simp only [dS,dZ,dN]
  refine La rfl (Ld (Ts (TS ?_)))
  iterate 6 refine Lz ?_
  refine Ld (yH ?_)
  refine zG (λ mz fz lz => ∃ (f0:Fr) (m:Nat),(m<=n)/\mz=n-m/\fz=(upd (upd (upd f0 12 (.pointer (some ⟨g55,0,none⟩))) 60 (.int .i64 n)) 61 (.int .i64 m))/\lz=Zw g55 b g51 n first count 0 p53 ls.length c53::fmR g51 n (List.replicate m fm1++List.replicate (n-m) fm0)::lgR p53 ls.length c53 ls::Zn b D::(S++F)) ?_ ?_
  . refine ⟨_,_,⟨_,0,Nat.zero_le _,rfl,U3,rfl⟩,Sa⟩
  rintro mz fz lz ⟨f0,m,hm,hmz,rfl,rfl⟩
  subst mz
  refine TS (Lq (yM rfl rfl) (Ld (Ts ?_)))
  refine yN rfl (λ hlt=>?_) (λ hlt=>?_)
  .
   have hfl:=fm_len (List.replicate m fm1++List.replicate (n-m) fm0)
   rw [List.length_append,List.length_replicate,List.length_replicate] at hfl
   have hat:(List.replicate m fm1++List.replicate (n-m) fm0)[m]? = some fm0:=by rw [List.getElem?_append_right (by simp),List.length_replicate,Nat.sub_self,List.getElem?_replicate,if_pos (by omega)]
   refine Tk (Ts (yH (TS (Lm rfl (La rfl (Ld (TR ?_)))))))
   iterate 7 refine Lz ?_
   refine L0 (E1 (by kernel_rfl) rfl rfl rfl (by omega) ?_)
   rw [show (0+m*6)=0+m*6+0 from rfl,fm_set (y:=fm1) hat 0 _ rfl,fm_rep m n (by omega)]
   refine Ld (TR ?_)
   iterate 2 refine Lz ?_
   refine Ld ?_
   refine ⟨_,?_,_,⟨_,m+1,by omega,rfl,U3,rfl⟩,Sa⟩
   omega
  obtain rfl:m=n:=by omega
  rw [Nat.sub_self,List.replicate_zero,List.append_nil]
  refine zB (TS ?_)
  iterate 3 refine Lz ?_
  refine Ld (T.ret ?_)
  exact ⟨.inl rfl,_,_,res [_,_] rfl ⟨rvT rfl,rvT rfl,trivial⟩,⟨g55,g51,p53,c53,rfl,rfl⟩,Sa⟩
 refine z6 rfl (Ec (Bf.clone B S lv ls ls.length rfl hv h1' hb) Tryz.func91 rfl rfl rfl ?_)
 rintro _ _ ⟨p53,c53,rfl,rfl⟩
 try simp only [cA,nA]
 refine ⟨Sa,?_⟩
 refine yK 5 ?_
 refine z6 rfl (YK n fmZ 56 Bf.elemFr rfl rfl rfl rfl (by unfold maxLen;omega) ?_)
 rintro g51
 rw [made_frames,show List.replicate n fm0=List.replicate 0 fm1++List.replicate (n-0) fm0 by simp]
 refine ⟨Sa,?_⟩
 refine Rq 8 rfl Sa (z8 [(0,3),(3,1),(4,1),(5,1)] [.pointer none,.int .i64 0,.int .i64 0,.slice none 0 0,.int .i64 0,.slice none 0 0] [_,_,_,_,_,_] [(0,_),(1,_),(3,_)] (by unfold Zf;kernel_rfl) rfl rfl) (yK 9 ?_)
 refine zY rfl (zL [_,_,_,_,_,_] rfl rfl ?_)
 intro g55
 refine Rd0 (by rfl) ?_
 simp only [dS,dZ,dN]
 refine La rfl (Ld (Ts (TS ?_)))
 iterate 6 refine Lz ?_
 refine Ld (yH ?_)
 refine zG (λ mz fz lz => ∃ (f0:Fr) (m:Nat),(m<=n)/\mz=n-m/\fz=(upd (upd (upd f0 12 (.pointer (some ⟨g55,0,none⟩))) 60 (.int .i64 n)) 61 (.int .i64 m))/\lz=Zw g55 b g51 n first count 0 p53 ls.length c53::fmR g51 n (List.replicate m fm1++List.replicate (n-m) fm0)::lgR p53 ls.length c53 ls::Zn b D::(S++F)) ?_ ?_
 . refine ⟨_,_,⟨_,0,Nat.zero_le _,rfl,U3,rfl⟩,Sa⟩
 rintro mz fz lz ⟨f0,m,hm,hmz,rfl,rfl⟩
 subst mz
 refine TS (Lq (yM rfl rfl) (Ld (Ts ?_)))
 refine yN rfl (λ hlt=>?_) (λ hlt=>?_)
 .
  have hfl:=fm_len (List.replicate m fm1++List.replicate (n-m) fm0)
  rw [List.length_append,List.length_replicate,List.length_replicate] at hfl
  have hat:(List.replicate m fm1++List.replicate (n-m) fm0)[m]? = some fm0:=by rw [List.getElem?_append_right (by simp),List.length_replicate,Nat.sub_self,List.getElem?_replicate,if_pos (by omega)]
  refine Tk (Ts (yH (TS (Lm rfl (La rfl (Ld (TR ?_)))))))
  iterate 7 refine Lz ?_
  refine L0 (E1 (by kernel_rfl) rfl rfl rfl (by omega) ?_)
  rw [show (0+m*6)=0+m*6+0 from rfl,fm_set (y:=fm1) hat 0 _ rfl,fm_rep m n (by omega)]
  refine Ld (TR ?_)
  iterate 2 refine Lz ?_
  refine Ld ?_
  refine ⟨_,?_,_,⟨_,m+1,by omega,rfl,U3,rfl⟩,Sa⟩
  omega
 obtain rfl:m=n:=by omega
 rw [Nat.sub_self,List.replicate_zero,List.append_nil]
 refine zB (TS ?_)
 iterate 3 refine Lz ?_
 refine Ld (T.ret ?_)
 exact ⟨.inl rfl,_,_,res [_,_] rfl ⟨rvT rfl,rvT rfl,trivial⟩,⟨g55,g51,p53,c53,rfl,rfl⟩,Sa⟩
open Go.RowKit
theorem Bf.victim_free (B:Wn) (g b gf n first count hand:Nat) (pl:Option Addr) (nl cl:Nat) (Fs:List Fm) (i:Nat) (x:Fm) (hn:Fs.length=n) (hn2:n<=4096) (hx:Fs[i]? = some x) (hp:x.page<0) (hfirst : ∀ (j:Nat),j<i -> ∀ y:Fm,Fs[j]? = some y->0<=y.page) :
  Fn Tryz.prog B 93 #[.pointer (some ⟨g,0,none⟩)] [Zw g b gf n first count hand pl nl cl,fmR gf n Fs] (λ u l=>u = .pointer (some ⟨gf,0+i*6,none⟩)/\l=[Zw g b gf n first count hand pl nl cl,fmR gf n Fs]):=by
 have hi:i<n:=by rw [<-hn];exact (List.getElem?_eq_some_iff.1 hx).1
 refine Wq 105 Tryz.func93 rfl rfl (nB rfl) (λ F=>?_)
 try simp only [cA,nA]
 refine TS (La rfl (Ld (TS (La rfl (Ld (Ts (TS ?_)))))))
 iterate 6 refine Lz ?_
 refine Ld (yH ?_)
 refine zG (λ mz fz lz => ∃ (f0:Fr) (k:Nat) (fb:Bool),(k<=i)/\mz=n-k/\fz=(upd (upd (upd (upd f0 0 (.pointer (some ⟨g,0,none⟩))) 3 (.bool fb)) 11 (.int .i64 n)) 12 (.int .i64 k))/\lz=Zw g b gf n first count hand pl nl cl::fmR gf n Fs::F) ?_ ?_
 . refine ⟨_,_,⟨_,0,true,Nat.zero_le _,rfl,(Za rfl (Za rfl (Za rfl (Za rfl rfl)))),rfl⟩,Sa⟩
 rintro mz fz lz ⟨f0,k,fb,hk,hmz,rfl,rfl⟩
 subst mz
 obtain ⟨y,hy⟩ : ∃ y,Fs[k]? = some y:=⟨_,List.getElem?_eq_getElem (by omega)⟩
 refine TS (Lq (yM rfl rfl) (Ld (Ts (zM rfl ?_))))
 by_cases e:k=i
 .
  subst e
  obtain rfl:y=x:=by rw [hx] at hy;exact (Option.some.inj hy).symm
  refine Tk (Ts (yH (TS (Lm rfl (La rfl (Ld (TS ?_)))))))
  iterate 7 refine Lz ?_
  refine Ld (Ts (TS ?_))
  iterate 3 refine Lz ?_
  refine Lq (Ql (v := .int .i64 y.page) rfl (fm_at hy 0 (by omega))) (Lq (yM rfl rfl) (Ld (zM rfl (TS (Lm rfl (La rfl (Ld (T.ret ?_))))))))
  exact ⟨.inl rfl,_,_,res [_] rfl ⟨rvT rfl,trivial⟩,⟨rfl,rfl⟩,Sa⟩
 have hpos:=hfirst k (by omega) y hy
 refine Tk (Ts (yH (TS (Lm rfl (La rfl (Ld (TS ?_)))))))
 iterate 7 refine Lz ?_
 refine Ld (Ts (TS ?_))
 iterate 3 refine Lz ?_
 refine Lq (Ql (v := .int .i64 y.page) rfl (fm_at hy 0 (by omega))) (Lq (yM rfl rfl) (Ld (yL rfl (Tk (TR (Lm rfl (Lm rfl ?_)))))))
 refine zZ (t:=28) rfl (λ hfb=>?_) (λ hfb=>?_)
 .
  try replace hfb:=of_decide_eq_true hfb
  iterate 3 refine Lz ?_
  refine Lq (Ql (v := .int .i64 y.pins) rfl (fm_at hy 3 (by omega))) ?_
  iterate 3 refine Lz ?_
  refine Ld (TR ?_)
  iterate 2 refine Lz ?_
  refine Ld ?_
  refine ⟨_,?_,_,⟨_,k+1,_,by omega,rfl,(Za rfl (Za rfl (Za rfl (Za rfl rfl)))),rfl⟩,Sa⟩
  omega
 try replace hfb:=of_decide_eq_false hfb
 iterate 7 refine Lz ?_
 refine Ld (TR ?_)
 iterate 2 refine Lz ?_
 refine Ld ?_
 refine ⟨_,?_,_,⟨_,k+1,_,by omega,rfl,(Za rfl (Za rfl (Za rfl (Za rfl rfl)))),rfl⟩,Sa⟩
 omega
theorem Bf.victim_full (B:Wn) (g b gf n first count hand:Nat) (pl:Option Addr) (nl cl:Nat) (Fs:List Fm) (hn:Fs.length=n) (hn2:n<=4096) (hall : ∀ (j:Nat) (y:Fm),Fs[j]? = some y->0<=y.page/\0<y.pins) :
  Fn Tryz.prog B 93 #[.pointer (some ⟨g,0,none⟩)] [Zw g b gf n first count hand pl nl cl,fmR gf n Fs] (λ u l=>u = .pointer none/\l=[Zw g b gf n first count hand pl nl cl,fmR gf n Fs]):=by
 refine Wq 105 Tryz.func93 rfl rfl (nB rfl) (λ F=>?_)
 try simp only [cA,nA]
 refine TS (La rfl (Ld (TS (La rfl (Ld (Ts (TS ?_)))))))
 iterate 6 refine Lz ?_
 refine Ld (yH ?_)
 refine zG (λ mz fz lz => ∃ (f0:Fr) (k:Nat) (fb:Bool),(k<=n/\fb=true)/\mz=n-k/\fz=(upd (upd (upd (upd f0 0 (.pointer (some ⟨g,0,none⟩))) 3 (.bool fb)) 11 (.int .i64 n)) 12 (.int .i64 k))/\lz=Zw g b gf n first count hand pl nl cl::fmR gf n Fs::F) ?_ ?_
 . refine ⟨_,_,⟨_,0,true,⟨Nat.zero_le _,rfl⟩,rfl,(Za rfl (Za rfl (Za rfl (Za rfl rfl)))),rfl⟩,Sa⟩
 rintro mz fz lz ⟨f0,k,fb,⟨hk,hfb⟩,hmz,rfl,rfl⟩
 subst mz
 subst hfb
 refine TS (Lq (yM rfl rfl) (Ld (Ts ?_)))
 refine yN rfl (λ hlt=>?_) (λ hlt=>?_)
 .
  obtain ⟨y,hy⟩ : ∃ y,Fs[k]? = some y:=⟨_,List.getElem?_eq_getElem (by omega)⟩
  obtain ⟨hy1,hy2⟩:=hall k y hy
  refine Tk (Ts (yH (TS (Lm rfl (La rfl (Ld (TS ?_)))))))
  iterate 7 refine Lz ?_
  refine Ld (Ts (TS ?_))
  iterate 3 refine Lz ?_
  refine Lq (Ql (v := .int .i64 y.page) rfl (fm_at hy 0 (by omega))) (Lq (yM rfl rfl) (Ld (yL rfl (Tk (TR (Lm rfl (Lm rfl (zQ (t:=28) rfl rfl ?_))))))))
  iterate 3 refine Lz ?_
  refine Lq (Ql (v := .int .i64 y.pins) rfl (fm_at hy 3 (by omega))) ?_
  iterate 3 refine Lz ?_
  refine Ld (TR ?_)
  iterate 2 refine Lz ?_
  refine Ld ?_
  refine ⟨_,?_,_,⟨_,k+1,_,⟨by omega,by simpa using hy2⟩,rfl,(Za rfl (Za rfl (Za rfl (Za rfl rfl)))),rfl⟩,Sa⟩
  omega
 refine zB (Ts (TS (Lm rfl (Ld (zF rfl (TS (La rfl (Ld (T.ret ?_)))))))))
 exact ⟨.inl rfl,_,_,res [_] rfl ⟨rvT rfl,trivial⟩,⟨rfl,rfl⟩,Sa⟩
abbrev fmNew (page:Int) (p:Option Addr) (c:Nat) (b:List UInt8):Fm:=⟨page,0,1,false,true,p,c,b⟩
theorem Bf.pin_range (B:Wn) (g b gf n first count hand:Nat) (pl:Option Addr) (nl cl:Nat) (page:Int) (h:page<0\/(count:Int)<=page) :
  Fn Tryz.prog B 44 #[.pointer (some ⟨g,0,none⟩),.int .i64 page] [Zw g b gf n first count hand pl nl cl] (λ u l=>u = .int .i64 1/\l=[Zw g b gf n first count hand pl nl cl]):=by
 refine Wr 59 Tryz.func44 rfl rfl (nB rfl) (λ F=>?_)
 try simp only [cA,nA]
 refine TS (La rfl (Ld (Ts (TS ?_))))
 iterate 3 refine Lz ?_
 refine zZ (t:=10) rfl (λ h1=>?_) (λ h1=>?_)
 .
  try replace h1:=of_decide_eq_true h1
  iterate 8 refine Lz ?_
  refine Ld (zF rfl (TS (La rfl (Ld (T.ret ?_)))))
  exact ⟨.inl rfl,_,_,res [_] rfl ⟨rvT rfl,trivial⟩,⟨rfl,rfl⟩,Sa⟩
 try replace h1:=of_decide_eq_false h1
 iterate 8 refine Lz ?_
 refine Ld (zM rfl (TS (La rfl (Ld (T.ret ?_)))))
 exact ⟨.inl rfl,_,_,res [_] rfl ⟨rvT rfl,trivial⟩,⟨rfl,rfl⟩,Sa⟩
theorem Bf.pin_full (B:Wn) (g b gf n first count hand:Nat) (pl:Option Addr) (nl cl:Nat) (Fs:List Fm) (page:Int) (h0:0<=page) (hc:page<count) (hn:Fs.length=n) (hn2:n<=4096) (hno : ∀ (j:Nat) (y:Fm),Fs[j]? = some y->y.page≠page) (hall : ∀ (j:Nat) (y:Fm),Fs[j]? = some y->0<=y.page/\0<y.pins) :
  Fn Tryz.prog B 44 #[.pointer (some ⟨g,0,none⟩),.int .i64 page] [Zw g b gf n first count hand pl nl cl,fmR gf n Fs] (λ u l=>u = .int .i64 60/\l=[Zw g b gf n first count hand pl nl cl,fmR gf n Fs]):=by
 refine Wr 59 Tryz.func44 rfl rfl (nB rfl) (λ F=>?_)
 try simp only [cA,nA]
 refine TS (La rfl (Ld (Ts (TS ?_))))
 iterate 3 refine Lz ?_
 refine yT (t:=10) rfl (decide_eq_false (by omega)) ?_
 iterate 8 refine Lz ?_
 refine Ld (yL rfl (Tk (TS (Lm rfl (Lm rfl ?_)))))
 refine Le (Ec (Bf.find_none B g b gf n first count hand pl nl cl Fs page hn hn2 (λ j y hj e=>absurd e (hno j y hj))) Tryz.func92 rfl rfl rfl ?_)
 rintro _ _ ⟨rfl,rfl⟩
 try simp only [cA,nA]
 refine La rfl (Ld (Ts (TS ?_)))
 iterate 2 refine Lz ?_
 refine Ld (zF rfl (TS (Lm rfl ?_)))
 refine Le (Ec (Bf.victim_full B g b gf n first count hand pl nl cl Fs hn hn2 hall) Tryz.func93 rfl rfl rfl ?_)
 rintro _ _ ⟨rfl,rfl⟩
 try simp only [cA,nA]
 refine La rfl (Ld (Ts (TS ?_)))
 iterate 2 refine Lz ?_
 refine Ld (zF rfl (TS (La rfl (Ld (T.ret ?_)))))
 exact ⟨.inl rfl,_,_,res [_] rfl ⟨rvT rfl,trivial⟩,⟨rfl,rfl⟩,Sa⟩
theorem Bf.pin_free (B:Wn) (g b gf n first count hand:Nat) (pl:Option Addr) (nl cl:Nat) (Fs:List Fm) (D:DD) (page:Int) (j:Nat) (hj:page=j) (hc:j<count) (hn:Fs.length=n) (hn2:n<=4096) (hno : ∀ (k:Nat) (y:Fm),Fs[k]? = some y->y.page≠page) (i:Nat) (x:Fm) (hx:Fs[i]? = some x) (hp:x.page<0) (hfirst : ∀ (k:Nat),k<i -> ∀ y:Fm,Fs[k]? = some y->0<=y.page) (hsec:first+count<=D.secs.length) (hmx:D.secs.length<=4096) (hroom:D.pend.length<2^32) (hrl:(D.read (first+j)).length=256) :
  Fn Tryz.prog B 44 #[.pointer (some ⟨g,0,none⟩),.int .i64 page] [Zw g b gf n first count hand pl nl cl,fmR gf n Fs,Zn b D] (λ u l => ∃ gx c,u = .int .i64 0/\l=[rB (.slice (some ⟨gx,0,none⟩) 256 c) 256 (D.read (first+j)),Zw g b gf n first count hand pl nl cl,fmR gf n (Fs.set i (fmNew page (some ⟨gx,0,none⟩) c (D.read (first+j)))),Zn b D]):=by
 have hi:i<Fs.length:=(List.getElem?_eq_some_iff.1 hx).1
 have hfl:=fm_len Fs
 refine Wr 59 Tryz.func44 rfl rfl (nB rfl) (λ F=>?_)
 try simp only [cA,nA]
 refine TS (La rfl (Ld (Ts (TS ?_))))
 iterate 3 refine Lz ?_
 refine yT (t:=10) rfl (decide_eq_false (by omega)) ?_
 iterate 8 refine Lz ?_
 refine Ld (yL rfl (Tk (TS (Lm rfl (Lm rfl ?_)))))
 refine Le (Ec (Bf.find_none B g b gf n first count hand pl nl cl Fs page hn hn2 (λ j y hj e=>absurd e (hno j y hj))) Tryz.func92 rfl rfl rfl ?_)
 rintro _ _ ⟨rfl,rfl⟩
 try simp only [cA,nA]
 refine La rfl (Ld (Ts (TS ?_)))
 iterate 2 refine Lz ?_
 refine Ld (zF rfl (TS (Lm rfl ?_)))
 refine Le (Ec (Bf.victim_free B g b gf n first count hand pl nl cl Fs i x hn hn2 hx hp hfirst) Tryz.func93 rfl rfl rfl ?_)
 rintro _ _ ⟨rfl,rfl⟩
 try simp only [cA,nA]
 refine La rfl (Ld (Ts (TS ?_)))
 iterate 2 refine Lz ?_
 refine Ld (yQ rfl (Tk (Ts (zW 17 none (nB rfl) ?_))))
 refine Rz 0 ?_;refine Rz 1 ?_;refine Rz 2 ?_;refine Rz 3 ?_;refine Rz 4 ?_;refine Rz 5 ?_;refine Rz 6 ?_;refine Rz 7 ?_;refine Rz 8 ?_;refine Rz 9 ?_;refine Rz 10 ?_;refine Rz 11 ?_
 refine yK 12 ?_
 refine zY rfl (Ec (Dk.readF B b D (first+j) _ hroom) Tryz.func86 rfl rfl rfl ?_)
 rintro _ _ ⟨gx,cx,rfl,rfl⟩
 try simp only [cA,nA]
 obtain ⟨dat,hdat⟩ : ∃ dat,D.read (first+j)=dat:=⟨_,rfl⟩
 rw [hdat] at hrl
 rw [hdat]
 refine Rz 13 ?_;refine Rz 14 ?_;refine Rz 15 ?_;refine Rz 16 ?_
 refine Rd0 (by rfl) ?_
 simp only [dS,dZ,dN]
 refine La rfl (Ld (TR ?_))
 iterate 3 refine Lz ?_
 refine Lq (z8 [(0,1),(1,1),(2,1),(3,1),(4,1),(5,1)] [.int .i64 0,.slice none 0 0,.int .i64 0,.int .i64 0,.bool false,.bool false] [_,_,_,_,_,_] [(0,_),(1,_)] (by unfold Zf;kernel_rfl) rfl rfl) (Lq (Qn rfl) ?_)
 refine L0 (Es (fmC ⟨page,0,0,false,false,some ⟨gx,0,none⟩,cx,dat⟩) rfl rfl (by simp only [fmC,hrl];rfl) rfl (by simp only [List.length_cons,List.length_nil];omega) ?_)
 rw [fm_splice hi]
 have h2:(Fs.set i ⟨page,0,0,false,false,some ⟨gx,0,none⟩,cx,dat⟩)[i]? = some ⟨page,0,0,false,false,some ⟨gx,0,none⟩,cx,dat⟩:=by rw [List.getElem?_set_self hi]
 have hfl2:=fm_len (Fs.set i ⟨page,0,0,false,false,some ⟨gx,0,none⟩,cx,dat⟩)
 rw [List.length_set] at hfl2
 refine Ld (TS ?_)
 iterate 3 refine Lz ?_
 refine Lq (Ql (v := .int .i64 0) rfl (fm_at h2 3 (by omega))) ?_
 iterate 3 refine Lz ?_
 refine L0 (E1 (by kernel_rfl) rfl rfl rfl (by omega) ?_)
 rw [fm_set (y:=⟨page,0,1,false,false,some ⟨gx,0,none⟩,cx,dat⟩) h2 3 (.int .i64 (0+1)) rfl,List.set_set]
 have h3:(Fs.set i ⟨page,0,1,false,false,some ⟨gx,0,none⟩,cx,dat⟩)[i]? = some ⟨page,0,1,false,false,some ⟨gx,0,none⟩,cx,dat⟩:=by rw [List.getElem?_set_self hi]
 have hfl3:=fm_len (Fs.set i ⟨page,0,1,false,false,some ⟨gx,0,none⟩,cx,dat⟩)
 rw [List.length_set] at hfl3
 refine Ld (TS ?_)
 iterate 3 refine Lz ?_
 refine L0 (E1 (by kernel_rfl) rfl rfl rfl (by omega) ?_)
 rw [fm_set (y:=fmNew page (some ⟨gx,0,none⟩) cx dat) h3 5 _ rfl,List.set_set]
 refine Ld (TS (La rfl (Ld (T.ret ?_))))
 exact ⟨.inl rfl,_,_,res [_] rfl ⟨rvT rfl,trivial⟩,⟨gx,cx,rfl,rfl⟩,Sa⟩
open Go.RowKit
structure Fa where
 page:Int
 mark:Int
 pins:Int
 dirty:Bool
 used:Bool
 b:List UInt8
abbrev fa1 : Fa:=⟨-1,0,0,false,false,[]⟩
def Fm.a (x:Fm):Fa:=⟨x.page,x.mark,x.pins,x.dirty,x.used,x.b⟩
structure Pl where
 A:List Fa
 hand:Nat
 W:Wl
 D:DD
def findA (A:List Fa) (page:Int):Option Nat:=if page<0 then none else A.findIdx? λ x=>decide (x.page=page)
def upA (x:Fa):Fa:={x with pins:=x.pins+1,used:=true}
def clockA : Nat->List Fa->Nat->Option (Nat×List Fa×Nat)
 | 0,_,_=>none
 | f+1,A,h=>match A[h]? with
  | none=>none
  | some x=>if 0<x.pins then clockA f A ((h+1)%A.length) else if x.used=true then clockA f (A.set h {x with used:=false}) ((h+1)%A.length) else some (h,A,(h+1)%A.length)
def Zv (W:Wl) (D:DD) (mark:Int):Wl×DD:=if mark<=W.dur then (W,D) else (W.flushed,Wh W D)
def giveP (first:Nat) (W:Wl) (D:DD) (x:Fa):Wl×DD:=if x.dirty=true then ((Zv W D x.mark).1,(Zv W D x.mark).2.write (first+x.page.toNat) x.b) else (W,D)
def victimP (first:Nat) (s:Pl):Option (Nat×Pl):=match s.A.findIdx? λ x=>decide (x.page<0) with
 | some i=>some (i,s)
 | none=>if (s.A.all λ x=>decide (0<x.pins))=true then none else match clockA (2*s.A.length+1) s.A s.hand with
  | none=>none
  | some (i,A',h')=>match A'[i]? with
   | none=>none
   | some x=>some (i,⟨A',h',(giveP first s.W s.D x).1,(giveP first s.W s.D x).2⟩)
def newA (page:Int) (b:List UInt8):Fa:=⟨page,0,1,false,true,b⟩
def pinP (first count:Nat) (s:Pl) (page:Int):Pl×Int:=if page<0\/(count:Int)<=page then (s,1) else match findA s.A page with
 | some i=>match s.A[i]? with
  | none=>(s,1)
  | some x=>({s with A:=s.A.set i (upA x)},0)
 | none=>match victimP first s with
  | none=>(s,60)
  | some (i,s')=>({s' with A:=s'.A.set i (newA page (s'.D.read (first+page.toNat)))},0)
def pinnedA (A:List Fa) (page:Int):Option (Nat×Fa):=match findA A page with
 | none=>none
 | some i=>match A[i]? with
  | none=>none
  | some x=>if 0<x.pins then some (i,x) else none
def unpinA (A:List Fa) (page:Int):List Fa×Int:=match pinnedA A page with
 | none=>(A,61)
 | some (i,x)=>(A.set i {x with pins:=x.pins-1},0)
def putA (A:List Fa) (page:Int) (d:List UInt8) (mark:Int):List Fa×Int:=match pinnedA A page with
 | none=>(A,61)
 | some (i,x)=>if d.length≠256 then (A,10) else (A.set i {x with mark:=max x.mark mark,dirty:=true,b:=d},0)
def Zm (A:List Fa):Int:=A.foldl (λ m x=>if x.dirty=true then max m x.mark else m) 0
def Zz : DD->List (Nat×List UInt8)->DD
 | D,[]=>D
 | D,p::L=>Zz (D.write p.1 p.2) L
def dirtyL (first:Nat) (A:List Fa):List (Nat×List UInt8):=A.filterMap λ x=>if x.dirty=true then some (first+x.page.toNat,x.b) else none
def cleanA (A:List Fa):List Fa:=A.map λ x=>{x with dirty:=false}
def flushP (first:Nat) (s:Pl):Pl:=⟨cleanA s.A,s.hand,(Zv s.W s.D (Zm s.A)).1,(Zz (Zv s.W s.D (Zm s.A)).2 (dirtyL first s.A)).sync⟩
structure FOk (count n:Nat) (A:List Fa):Prop where
 len:A.length=n
 n1:1<=n
 n2:n<=4096
 fr : ∀ x∈A,x=fa1\/(0<=x.page/\x.page<count/\x.b.length=256/\0<=x.pins)
 mrk : ∀ x∈A,-(2^63)<=x.mark/\x.mark<2^63
 one : ∀ (i j:Nat) (x y:Fa),A[i]? = some x->A[j]? = some y->x.page=y.page->0<=x.page->i=j
abbrev fmD (x:Fm):Wp:=rB (.slice x.p x.b.length x.c) x.b.length x.b
def daA (Fs:List Fm):Wp:=sepL (Fs.map fmD)
abbrev ifW (gl:Nat):Value := .iface 136 (.pointer (some ⟨gl,0,none⟩))
structure Pg3 where
 Fs:List Fm
 gf:Nat
 pl:Option Addr
 cl:Nat
abbrev plC (g b n first count hand gl:Nat) (q:Pg3):List Wp:=[Zw g b q.gf n first count hand q.pl 1 q.cl,fmR q.gf n q.Fs,lgR q.pl 1 q.cl [ifW gl],daA q.Fs]
def plA (g b n first count hand gl:Nat) (A:List Fa):Wp:=exA λ q:Pg3=>sepL (pu (q.Fs.map Fm.a=A)::plC g b n first count hand gl q)
theorem daA_at {Fs:List Fm} {i:Nat} {x:Fm} (h:Fs[i]? = some x) {k:Piece} (H:daA Fs k):fmD x k:=by
 have : ∀ (L:List Wp) (i:Nat) (A:Wp),L[i]? = some A->(∀ a b:Piece,Piece.le a b->A a->A b) -> ∀ k,Has L k->A k:=by
  intro L
  induction L with
  | nil=>intro i A hi;simp at hi
  | cons C L ih =>
   intro i A hi hm k ⟨h1,h2,_,a1,a2,e1,e2⟩
   cases i with
   | zero=>simp at hi;subst hi;exact hm _ _ a1 e1
   | succ i=>exact hm _ _ a2 (ih i A (by simpa using hi) hm _ e2)
 refine this _ i (fmD x) (by simp [h]) ?_ k H
 intro a b hab ⟨e1,e2⟩
 refine ⟨e1,e2.imp id ?_⟩
 rintro ⟨g,cap,cur,q1,q2,q3⟩
 exact ⟨g,cap,cur,q1,hab.p _ _ q2,q3⟩
theorem Own.daAt {B:Wn} {w:World} {l r:List Wp} {Fs:List Fm} {i:Nat} {x:Fm} (H:Own B w l) [k:TakeA (daA Fs) l r] (h:Fs[i]? = some x):Own B w [fmD x]:=H.map λ _ hk=>by
 obtain ⟨h1,_,_,a,_,e,_⟩:=k.take _ hk
 refine ⟨h1,λ _=>none,⟨λ _ => .inr rfl⟩,a,⟨λ _ _ e=>by cases e⟩,daA_at h e,trivial⟩
theorem Own.daPtr {B:Wn} {w:World} {l r:List Wp} {Fs:List Fm} (H:Own B w l) [k:TakeA (daA Fs) l r] : ∀ (i:Nat) (x:Fm),Fs[i]? = some x->0<x.b.length -> ∃ g,x.p=some ⟨g,0,none⟩:=λ i x h h0=>by
 have:=H.daAt (k:=k) h
 exact (this.slice_at (p:=x.p) (m:=x.b.length) (c:=x.c)).2.1 h0
theorem RdV.da {B:Wn} {S r:List Wp} {Fs:List Fm} [k:TakeA (daA Fs) S r] {i:Nat} {x:Fm} (h:Fs[i]? = some x) (hp:0<x.b.length -> ∃ g,x.p=some ⟨g,0,none⟩):RdV B S (.slice x.p x.b.length x.c) (Zb x.b) :=
 RdV.ofRow (λ w ho=>(ho.daAt (k:=k) h).row_owns) (by simp) (by simpa using hp)
theorem da_same {Fs:List Fm} {i:Nat} {x y:Fm} (h:Fs[i]? = some x) (hp:y.p=x.p) (hc:y.c=x.c) (hb:y.b=x.b):daA (Fs.set i y)=daA Fs:=by
  have:(Fs.set i y).map fmD=Fs.map fmD:=by
    apply List.ext_getElem?
    intro j
    rw [List.map_set,List.getElem?_set]
    split
    . rename_i e;subst e
      have hlt:=(List.getElem?_eq_some_iff.1 h).1
      rw [List.getElem?_map,h,List.length_map,if_pos hlt]
      simp [fmD,hp,hc,hb]
    . rfl
  unfold daA
  rw [this]
theorem da_put {Fs:List Fm} {i:Nat} {y:Fm} (hi:i<Fs.length) {l:List Wp}:Sub (fmD y::daA Fs::l) (daA (Fs.set i y)::l):=λ h H=>by
 have key : ∀ (L:List Wp) (i:Nat) (A:Wp),i<L.length -> ∀ h,Has (A::L) h->Has (L.set i A) h:=by
  intro L
  induction L with
  | nil=>intro i A hi;simp at hi
  | cons C L ih =>
   intro i A hi h H
   cases i with
   | zero=>exact Has.tail (Has.swap H)
   | succ i =>
    obtain ⟨h1,h2,d,a1,a2,e1,e2⟩:=Has.swap H
    exact ⟨h1,h2,d,a1,a2,e1,ih i A (by simpa using hi) _ e2⟩
 obtain ⟨h1,h2,d,a1,a2,e1,e2⟩:=Has.split (l:=[fmD y,daA Fs]) (m:=l) H
 refine ⟨h1,h2,d,a1,a2,?_,e2⟩
 obtain ⟨k1,k2,d2,b1,b2,f1,f2⟩:=e1
 have f3:Has (Fs.map fmD) k2:=by
  obtain ⟨m1,_,_,c1,_,q,_⟩:=f2
  exact Has.mono c1 q
 show Has ((Fs.set i y).map fmD) h1
 rw [List.map_set]
 exact key _ _ _ (by simpa using hi) _ ⟨k1,k2,d2,b1,b2,f1,f3⟩
theorem Fn.openPl {P:Program} {B:Wn} {f:FuncId} {args:Array Value} {g b n first count hand gl:Nat} {A:List Fa} {S:List Wp} {R:Value->List Wp->Prop}
  (h : ∀ q:Pg3,q.Fs.map Fm.a=A->(∀ (i:Nat) (x:Fm),q.Fs[i]? = some x->0<x.b.length -> ∃ g,x.p=some ⟨g,0,none⟩)->(∃ gp,q.pl=some ⟨gp,0,none⟩)->Fn P B f args (plC g b n first count hand gl q++S) R):Fn P B f args (plA g b n first count hand gl A::S) R:=⟨λ w F ho=>by
 obtain ⟨hh,hd,hl,H⟩:=ho.has
 obtain ⟨q,H1⟩:=Has.open_ex H
 have H2:=Has.open_sepL H1
 obtain ⟨hA,H3⟩:=Has.open_pu H2
 have ho':Own B w (plC g b n first count hand gl q++(S++F)):=⟨ho.os,ho.tape,ho.output,ho.ro,hh,hd,hl,H3⟩
 simp only [List.cons_append,List.nil_append] at ho'
 refine (h q hA (ho'.daPtr (Fs:=q.Fs)) ((ho'.slice_at (p:=q.pl) (m:=1) (c:=q.cl)).2.1 (by omega))).run w F ?_
 simpa using ho'⟩
theorem sub_pl {g b n first count hand gl:Nat} {A:List Fa} (q:Pg3) (hA:q.Fs.map Fm.a=A) {S:List Wp}:Sub (plC g b n first count hand gl q++S) (plA g b n first count hand gl A::S):=λ h H=>by
 refine Has.close_ex q ?_
 exact Has.close_sepL (Has.close_pu hA H)
open Go.RowKit
structure WOk (W:Wl) (D:DD):Prop where
 fit:W.first+W.count<=D.secs.length
 max:D.secs.length<=4096
 st:W.st.length<=W.count*256
 dur:W.dur<=W.st.length
 room:D.pend.length+16384<2^32
theorem Bp.force (B:Wn) (g b gf n first count hand:Nat) (gp:Nat) (cl:Nat) (gl:Nat) (W:Wl) (D:DD) (mark:Int) (hw:WOk W D) :
  Fn Tryz.prog B 119 #[.pointer (some ⟨g,0,none⟩),.int .i64 mark] [Zw g b gf n first count hand (some ⟨gp,0,none⟩) 1 cl,lgR (some ⟨gp,0,none⟩) 1 cl [ifW gl],wlA gl b W,Zn b D] (λ u l=>u = .tuple #[]/\l=[Zw g b gf n first count hand (some ⟨gp,0,none⟩) 1 cl,lgR (some ⟨gp,0,none⟩) 1 cl [ifW gl],wlA gl b (Zv W D mark).1,Zn b (Zv W D mark).2]):=by
 obtain ⟨w1,w2,w3,w4,w5⟩:=hw
 refine Wr 19 Tryz.func119 rfl rfl (nB rfl) (λ F=>?_)
 try simp only [cA,nA]
 refine TS ?_
 iterate 6 refine Lz ?_
 refine Ld (yH ?_)
 refine zG (λ mz fz lz => ∃ (f0:Fr) (k:Nat) (W2:Wl) (D2:DD),(k<=1/\(k=0->W2=W/\D2=D)/\(k=1->W2=(Zv W D mark).1/\D2=(Zv W D mark).2))/\mz=1-k/\fz=(upd (upd (upd (upd f0 1 (.int .i64 mark)) 9 (.slice (some ⟨gp,0,none⟩) 1 cl)) 10 (.int .i64 1)) 11 (.int .i64 k))/\lz=Zw g b gf n first count hand (some ⟨gp,0,none⟩) 1 cl::lgR (some ⟨gp,0,none⟩) 1 cl [ifW gl]::wlA gl b W2::Zn b D2::F) ?_ ?_
 . refine ⟨_,_,⟨_,0,W,D,⟨Nat.zero_le _,λ _=>⟨rfl,rfl⟩,λ h=>by omega⟩,rfl,(Za rfl (Za rfl (Za rfl (Za rfl rfl)))),rfl⟩,Sa⟩
 rintro mz fz lz ⟨f0,k,W2,D2,⟨hk,hk0,hk1⟩,hmz,rfl,rfl⟩
 subst mz
 refine TS (Lq (yM rfl rfl) (Ld (Ts ?_)))
 refine yN rfl (λ hlt=>?_) (λ hlt=>?_)
 .
  obtain rfl:k=0:=by omega
  obtain ⟨e1,e2⟩:=hk0 rfl
  subst W2
  subst D2
  by_cases hm:mark<=W.dur
  .
   refine Tk (Ts (yH (TS ?_)))
   refine Lz ?_
   refine Lq (Ql (v:=ifW gl) rfl rfl) (La rfl (Ld (TR (Lm rfl (Lm rfl ?_)))))
   refine Le (ZB (vs:=[.int .i64 mark]) (Wl.forceNo B gl b W mark (by omega) hm) Tryz.func128 rfl rfl rfl (λ w=>by kernel_rfl) rfl ?_)
   rintro _ _ ⟨rfl,rfl⟩
   try simp only [cA,nA]
   refine Ld (TR ?_)
   iterate 2 refine Lz ?_
   refine Ld ?_
   refine ⟨_,?_,_,⟨_,1,W,D,⟨Nat.le_refl _,λ h=>by omega,λ _=>by unfold Zv;rw [if_pos hm];exact ⟨rfl,rfl⟩⟩,rfl,(Za rfl (Za rfl (Za rfl (Za rfl rfl)))),rfl⟩,Sa⟩
   omega
  refine Tk (Ts (yH (TS ?_)))
  refine Lz ?_
  refine Lq (Ql (v:=ifW gl) rfl rfl) (La rfl (Ld (TR (Lm rfl (Lm rfl ?_)))))
  refine Le (ZB (vs:=[.int .i64 mark]) (Wl.forceYes B gl b W D mark w1 w2 w3 w4 (by omega) (by omega)) Tryz.func128 rfl rfl rfl (λ w=>by kernel_rfl) rfl ?_)
  rintro _ _ ⟨rfl,rfl⟩
  try simp only [cA,nA]
  refine Ld (TR ?_)
  iterate 2 refine Lz ?_
  refine Ld ?_
  refine ⟨_,?_,_,⟨_,1,W.flushed,Wh W D,⟨Nat.le_refl _,λ h=>by omega,λ _=>by unfold Zv;rw [if_neg hm];exact ⟨rfl,rfl⟩⟩,rfl,(Za rfl (Za rfl (Za rfl (Za rfl rfl)))),rfl⟩,Sa⟩
  omega
 obtain rfl:k=1:=by omega
 obtain ⟨e1,e2⟩:=hk1 rfl
 subst W2
 subst D2
 refine zB ?_
 exact ⟨.inr rfl,_,_,res [] rfl trivial,⟨rfl,rfl⟩,Sa⟩
theorem flushE_pend (W:Wl) (D:DD):(Wh W D).pend.length<=D.pend.length:=by
 unfold Wh flushD
 split
 . exact Nat.le_refl _
 . simp [DD.sync]
theorem WOk.force {W:Wl} {D:DD} (h:WOk W D) (ho:D.Ok) (mark:Int) (hp:D.pend.length+16384<2^32):WOk (Zv W D mark).1 (Zv W D mark).2/\(Zv W D mark).2.Ok/\(Zv W D mark).2.secs.length=D.secs.length/\(Zv W D mark).2.pend.length<=D.pend.length/\(Zv W D mark).1.first=W.first/\(Zv W D mark).1.count=W.count/\(Zv W D mark).1.st=W.st:=by
  unfold Zv
  split
  . exact ⟨h,ho,rfl,Nat.le_refl _,rfl,rfl,rfl⟩
  . have hl:(Wh W D).Ok/\(Wh W D).secs.length=D.secs.length:=by
      unfold Wh
      split
      . exact ⟨ho,rfl⟩
      . rename_i hne
        have hfit:W.first+(W.dur/256+flushN W)<=D.secs.length:=by
          have:=h.fit;have:=h.st;have:=h.dur
          unfold flushN
          omega
        have h1:=lays_ok (W:=W) (k:=flushN W) (n:=W.dur/256) ho hfit
        exact ⟨h1.1.sy,(DD.sync_len h1.1).trans h1.2⟩
    exact ⟨⟨by rw [hl.2];exact h.fit,by rw [hl.2];exact h.max,h.st,Nat.le_refl _,by have:=flushE_pend W D;have:=h.room;show (Wh W D).pend.length+16384<2^32;omega⟩,hl.1,hl.2,flushE_pend W D,rfl,rfl,rfl⟩
theorem clock_len : ∀ {f:Nat} {A A':List Fa} {h i h':Nat},clockA f A h=some (i,A',h')->A'.length=A.length/\i<A.length
  | 0,_,_,_,_,_,e=>by cases e
  | f+1,A,A',h,i,h',e=>by
    unfold clockA at e
    split at e
    . cases e
    . rename_i x hx
      split at e
      . exact clock_len e
      . split at e
        . have:=clock_len e;simpa using this
        . simp only [Option.some.injEq,Prod.mk.injEq] at e
          obtain ⟨rfl,rfl,_⟩:=e
          exact ⟨rfl,(List.getElem?_eq_some_iff.1 hx).1⟩
theorem map_a_at {Fs:List Fm} {A:List Fa} (h:Fs.map Fm.a=A) {i:Nat} {x:Fm} (hx:Fs[i]? = some x):A[i]? = some x.a:=by rw [<-h,List.getElem?_map,hx];rfl
theorem map_a_back {Fs:List Fm} {A:List Fa} (h:Fs.map Fm.a=A) {i:Nat} {y:Fa} (hx:A[i]? = some y) : ∃ x,Fs[i]? = some x/\x.a=y:=by
 rw [<-h,List.getElem?_map] at hx
 cases hf:Fs[i]? with
 | none=>rw [hf] at hx;cases hx
 | some x=>rw [hf] at hx;exact ⟨x,rfl,by simpa using hx⟩
theorem daA_cells {Fs:List Fm} {i:Nat} {x:Fm} (h:Fs[i]? = some x) {g:Nat} (hp:x.p=some ⟨g,0,none⟩) (h0:0<x.b.length) (k:Piece) (H:daA Fs k) : ∃ C t fr,k g=some (.cells C t fr) /\ ∀ j v,(Zb x.b)[j]? = some v->C[0+j]? = some v:=by
  obtain ⟨e1,e2⟩:=daA_at h H
  rcases e2 with ⟨_,e2⟩ | ⟨g',cap,cur,q1,q2,q3,q4,q5,q6⟩
  . omega
  . rw [hp] at q1
    injection q1 with q1 _ _
    injection q1 with q1
    injection q1 with q1
    subst q1
    refine ⟨_,_,_,q2,λ j v hv=>?_⟩
    rw [Nat.zero_add,<-Array.getElem?_toList]
    have hj:j<(Zb x.b).length:=(List.getElem?_eq_some_iff.1 hv).1
    rw [<-q6,List.getElem?_take] at hv
    split at hv
    . exact hv
    . cases hv
theorem clock_succ {f:Nat} {A:List Fa} {h:Nat} {r:Nat×List Fa×Nat} (e:clockA f A h=some r) : ∃ f',f=f'+1:=by
 cases f with
 | zero=>cases e
 | succ f'=>exact ⟨f',rfl⟩
theorem fm_unuse {Fs:List Fm} {h j:Nat} {y z:Fm} (hy:Fs[h]? = some y) (hz:(Fs.set h {y with used:=false})[j]? = some z) : ∃ z',Fs[j]? = some z'/\z.page=z'.page/\z.b=z'.b/\z.p=z'.p:=by
 rw [List.getElem?_set] at hz
 split at hz
 . rename_i e;subst e;rw [if_pos (List.getElem?_eq_some_iff.1 hy).1] at hz;simp at hz;subst hz;exact ⟨y,hy,rfl,rfl,rfl⟩
 . exact ⟨z,hz,rfl,rfl,rfl⟩
theorem Bp.victim_clock (B:Wn) (g b gf n first count hand:Nat) (gp cl gl:Nat) (W:Wl) (D:DD) (Fs:List Fm) (hn:Fs.length=n) (hn2:n<=4096) (hh:hand<n)
  (hfr : ∀ (j:Nat) (x:Fm),Fs[j]? = some x->0<=x.page/\x.page<count/\x.b.length=256) (hpt : ∀ (i:Nat) (x:Fm),Fs[i]? = some x->0<x.b.length -> ∃ g,x.p=some ⟨g,0,none⟩)
  (hun:(Fs.all λ x=>decide (0<x.pins))=false) (hw:WOk W D) (ho:D.Ok) (hsec:first+count<=D.secs.length) (i h':Nat) (A':List Fa) (x':Fa) (hc:clockA (2*n+1) (Fs.map Fm.a) hand=some (i,A',h')) (hx':A'[i]? = some x') :
  Fn Tryz.prog B 93 #[.pointer (some ⟨g,0,none⟩)] [Zw g b gf n first count hand (some ⟨gp,0,none⟩) 1 cl,fmR gf n Fs,lgR (some ⟨gp,0,none⟩) 1 cl [ifW gl],wlA gl b W,Zn b D,daA Fs]
   (λ u l => ∃ Fs',Fs'.map Fm.a=A'/\Fs'.length=n/\u = .pointer (some ⟨gf,0+i*6,none⟩)/\l=[Zw g b gf n first count h' (some ⟨gp,0,none⟩) 1 cl,fmR gf n Fs',lgR (some ⟨gp,0,none⟩) 1 cl [ifW gl],wlA gl b (giveP first W D x').1,Zn b (giveP first W D x').2,daA Fs']):=by
 have hn0:0<n:=by omega
 refine Wq 105 Tryz.func93 rfl rfl (nB rfl) (λ F=>?_)
 try simp only [cA,nA]
 refine TS (La rfl (Ld (TS (La rfl (Ld (Ts (TS ?_)))))))
 iterate 6 refine Lz ?_
 refine Ld (yH ?_)
 refine zG (λ mz fz lz => ∃ (f0:Fr) (k:Nat) (fb:Bool),(k<=n/\fb=(Fs.take k).all λ x=>decide (0<x.pins))/\mz=n-k/\fz=(upd (upd (upd (upd f0 0 (.pointer (some ⟨g,0,none⟩))) 3 (.bool fb)) 11 (.int .i64 n)) 12 (.int .i64 k))/\lz=Zw g b gf n first count hand (some ⟨gp,0,none⟩) 1 cl::fmR gf n Fs::lgR (some ⟨gp,0,none⟩) 1 cl [ifW gl]::wlA gl b W::Zn b D::daA Fs::F) ?_ ?_
 . refine ⟨_,_,⟨_,0,true,⟨Nat.zero_le _,rfl⟩,rfl,(Za rfl (Za rfl (Za rfl (Za rfl rfl)))),rfl⟩,Sa⟩
 rintro mz fz lz ⟨f0,k,fb,⟨hk,hfb⟩,hmz,rfl,rfl⟩
 subst mz
 refine TS (Lq (yM rfl rfl) (Ld (Ts ?_)))
 refine yN rfl (λ hlt=>?_) (λ hlt=>?_)
 .
  obtain ⟨y,hy⟩ : ∃ y,Fs[k]? = some y:=⟨_,List.getElem?_eq_getElem (by omega)⟩
  have hpos:=(hfr k y hy).1
  refine Tk (Ts (yH (TS (Lm rfl (La rfl (Ld (TS ?_)))))))
  iterate 7 refine Lz ?_
  refine Ld (Ts (TS ?_))
  iterate 3 refine Lz ?_
  refine Lq (Ql (v := .int .i64 y.page) rfl (fm_at hy 0 (by omega))) (Lq (yM rfl rfl) (Ld (yL rfl (Tk (TR (Lm rfl (Lm rfl ?_)))))))
  refine zZ (t:=28) rfl (λ hb=>?_) (λ hb=>?_)
  .
   try replace hb:=of_decide_eq_true hb
   iterate 3 refine Lz ?_
   refine Lq (Ql (v := .int .i64 y.pins) rfl (fm_at hy 3 (by omega))) ?_
   iterate 3 refine Lz ?_
   refine Ld (TR ?_)
   iterate 2 refine Lz ?_
   refine Ld ?_
   refine ⟨_,?_,_,⟨_,k+1,_,⟨by omega,by rw [List.take_add_one,hy,List.all_append,<-hfb,hb];simp⟩,rfl,(Za rfl (Za rfl (Za rfl (Za rfl rfl)))),rfl⟩,Sa⟩
   omega
  try replace hb:=of_decide_eq_false hb
  iterate 7 refine Lz ?_
  refine Ld (TR ?_)
  iterate 2 refine Lz ?_
  refine Ld ?_
  refine ⟨_,?_,_,⟨_,k+1,_,⟨by omega,by rw [List.take_add_one,hy,List.all_append,<-hfb,hb];simp⟩,rfl,(Za rfl (Za rfl (Za rfl (Za rfl rfl)))),rfl⟩,Sa⟩
  omega
 obtain rfl:n=k:=by omega
 rw [<-hn,List.take_length,hun] at hfb
 subst hfb
 refine zB (Ts (TS (Lm rfl (Ld (yQ rfl ?_)))))
 clear hlt hk
 refine Tk (yH ?_)
 refine zG (λ mz fz lz => ∃ (f0:Fr) (fu:Nat) (Fs2:List Fm) (h2:Nat),(Fs2.length=n/\h2<n/\clockA fu (Fs2.map Fm.a) h2=some (i,A',h')/\(∀ (j:Nat) (x:Fm),Fs2[j]? = some x->0<=x.page/\x.page<count/\x.b.length=256)/\(∀ (i:Nat) (x:Fm),Fs2[i]? = some x->0<x.b.length -> ∃ g,x.p=some ⟨g,0,none⟩))/\mz=fu/\fz=(upd f0 0 (.pointer (some ⟨g,0,none⟩)))/\lz=Zw g b gf n first count h2 (some ⟨gp,0,none⟩) 1 cl::fmR gf n Fs2::lgR (some ⟨gp,0,none⟩) 1 cl [ifW gl]::wlA gl b W::Zn b D::daA Fs2::F) ?_ ?_
 . refine ⟨_,_,⟨_,2*n+1,Fs,hand,⟨hn,hh,hc,hfr,hpt⟩,rfl,(Za rfl rfl),rfl⟩,Sa⟩
 rintro mz fz lz ⟨f0,fu,Fs2,h2,⟨hl2,hh2,hc2,hfr2,hpt2⟩,hmz,rfl,rfl⟩
 subst mz
 obtain ⟨y,hy⟩ : ∃ y,Fs2[h2]? = some y:=⟨_,List.getElem?_eq_getElem (by omega)⟩
 obtain ⟨y1,y2,y3⟩:=hfr2 h2 y hy
 obtain ⟨fu',rfl⟩:=clock_succ hc2
 have hstep:=hc2
 unfold clockA at hstep
 rw [map_a_at rfl hy] at hstep
 dsimp only at hstep
 rw [List.length_map,hl2] at hstep
 have hmod:(h2+1)%n<n:=Nat.mod_lt _ hn0
 refine yH (Ts (zU 9 (nB rfl) ?_))
 refine Rz 0 ?_;refine Rz 1 ?_;refine Rz 2 ?_;refine Rz 3 ?_;refine Rz 4 ?_;refine Rz 5 ?_;refine Rz 6 ?_;refine Rz 7 ?_;refine Rz 8 ?_
 refine Rd0 (by rfl) ?_
 simp only [dS,dZ,dN]
 refine La rfl (Ld (Ts (zU 12 (nB rfl) ?_)))
 refine Rz 0 ?_;refine Rz 1 ?_;refine Rz 2 ?_;refine Rz 3 ?_;refine Rz 4 ?_;refine Rz 5 ?_;refine Rz 6 ?_;refine Rz 7 ?_;refine Rz 8 ?_;refine Rz 9 ?_;refine Rz 10 ?_
 refine Rq 11 rfl (Sr _) (X0 rfl rfl (by omega) (show ((h2:Int)+1).tmod (n:Int)=(((h2+1)%n:Nat):Int) by rw [Int.tmod_eq_emod_of_nonneg (by omega)];norm_cast)) (Rd0 (by rfl) ?_)
 simp only [dS,dZ,dN]
 iterate 2 refine Lz ?_
 refine L0 (E1 (by kernel_rfl) rfl rfl rfl (by first | (simp;done) | (simp;omega)) ?_)
 try simp only [List.set_cons_zero,List.set_cons_succ]
 refine Ld (yH (TS ?_))
 iterate 3 refine Lz ?_
 refine Lq (Ql (v := .int .i64 y.pins) rfl (fm_at hy 3 (by omega))) (Lq (yZ rfl rfl) (La rfl (Ld ?_)))
 refine yN rfl (λ hpin=>?_) (λ hpin=>?_)
 .
  rw [if_pos (show 0<y.a.pins from hpin)] at hstep
  refine Tk ?_
  refine ⟨_,?_,_,⟨_,fu',Fs2,(h2+1)%n,⟨hl2,hmod,hstep,hfr2,hpt2⟩,rfl,(Za rfl rfl),rfl⟩,Sa⟩
  omega
 rw [if_neg (show ¬ 0<y.a.pins from hpin)] at hstep
 refine TS ?_
 iterate 3 refine Lz ?_
 refine Lq (Ql (v := .bool y.used) rfl (fm_at hy 5 (by omega))) (La rfl (Ld ?_))
 refine Y9 rfl (λ hu=>?_) (λ hu=>?_)
 .
  have hfl:=fm_len Fs2
  rw [if_pos (show y.a.used=true from hu)] at hstep
  have hmem:=λ j z=>fm_unuse (Fs:=Fs2) (j:=j) (z:=z) hy
  refine TR ?_
  iterate 3 refine Lz ?_
  refine L0 (E1 (by kernel_rfl) rfl rfl rfl (by omega) ?_)
  rw [fm_set (y:={y with used:=false}) hy 5 _ rfl,<-da_same (y:={y with used:=false}) hy rfl rfl rfl]
  refine Ld ?_
  refine ⟨_,?_,_,⟨_,fu',Fs2.set h2 {y with used:=false},(h2+1)%n,⟨by rw [List.length_set];exact hl2,hmod,by rw [List.map_set];exact hstep,λ j z hz=>by obtain ⟨z',q1,q2,q3,q4⟩:=hmem j z hz;rw [q2,q3];exact hfr2 j z' q1,λ j z hz=>by obtain ⟨z',q1,q2,q3,q4⟩:=hmem j z hz;rw [q3,q4];exact hpt2 j z' q1⟩,rfl,(Za rfl rfl),rfl⟩,Sa⟩
  omega
 rw [if_neg (show ¬ y.a.used=true by rw [show y.a.used=y.used from rfl,hu];simp)] at hstep
 simp only [Option.some.injEq,Prod.mk.injEq] at hstep
 obtain ⟨rfl,rfl,rfl⟩:=hstep
 obtain rfl:y.a=x':=by rw [map_a_at rfl hy] at hx';exact Option.some.inj hx'
 refine Ts (TS ?_)
 iterate 3 refine Lz ?_
 refine Lq (Ql (v := .bool y.dirty) rfl (fm_at hy 4 (by omega))) (Ld ?_)
 refine Y9 rfl (λ hd=>?_) (λ hd=>?_)
 .
  obtain ⟨gx,hgx⟩:=hpt2 h2 y hy (by omega)
  obtain ⟨f1,f2,f3,f4,f5,f6,f7⟩:=hw.force ho y.mark hw.room
  have hroom:=hw.room
  have hwmx:=hw.max
  refine TS ?_
  iterate 4 refine Lz ?_
  refine Lq (Ql (v := .int .i64 y.mark) rfl (fm_at hy 2 (by omega))) ?_
  refine Le (Ec (Bp.force B g b gf n first count ((h2+1)%n) gp cl gl W D y.mark hw) Tryz.func119 rfl rfl rfl ?_)
  rintro _ _ ⟨rfl,rfl⟩
  try simp only [cA,nA]
  refine Ld (T.draw 20 ([Zw g b gf n first count ((h2+1)%n) (some ⟨gp,0,none⟩) 1 cl,fmR gf n Fs2]) (nB rfl) ?_)
  refine Rz 0 ?_;refine Rz 1 ?_;refine Rz 2 ?_;refine Rz 3 ?_;refine Rz 4 ?_;refine Rz 5 ?_;refine Rz 6 ?_;refine Rz 7 ?_;refine Rz 8 ?_;refine Rz 9 ?_;refine Rz 10 ?_;refine Rz 11 ?_;refine Rz 12 ?_
  refine Rq 13 rfl Sa (Ql (v := .int .i64 y.page) rfl (fm_at hy 0 (by omega))) ?_
  refine Rz 14 ?_;refine Rz 15 ?_;refine Rz 16 ?_;refine Rz 17 ?_
  refine Rq 18 rfl Sa (Ql (v := .slice (some ⟨gx,0,none⟩) 256 y.c) rfl (by rw [fm_at hy 1 (by omega)];simp [hgx,y3])) (yK 19 ?_)
  refine zY rfl (Ec (Dk.writeF B b (Zv W D y.mark).2 (daA Fs2) gx 0 y.c (first+y.page.toNat) _ y.b (λ h H=>daA_cells hy hgx (by omega) h H) y3 (by omega)) Tryz.func120 rfl rfl rfl ?_)
  rintro _ _ ⟨rfl,rfl⟩
  try simp only [cA,nA]
  refine Rd0 (by rfl) ?_
  simp only [dS,dZ,dN]
  refine Ld (TS (Lm rfl (La rfl (Ld ?_))))
  rw [show giveP first W D y.a=((Zv W D y.mark).1,(Zv W D y.mark).2.write (first+y.page.toNat) y.b) by unfold giveP;rw [if_pos (show y.a.dirty=true from hd)];rfl]
  refine T.ret ?_
  exact ⟨.inl rfl,_,_,res [_] rfl ⟨rvT rfl,trivial⟩,⟨Fs2,rfl,hl2,rfl,rfl⟩,Sa⟩
 rw [show giveP first W D y.a=(W,D) by unfold giveP;rw [if_neg (show ¬ y.a.dirty=true by rw [show y.a.dirty=y.dirty from rfl,hd];simp)]]
 refine Tk (TS (Lm rfl (La rfl (Ld (T.ret ?_)))))
 exact ⟨.inl rfl,_,_,res [_] rfl ⟨rvT rfl,trivial⟩,⟨Fs2,rfl,hl2,rfl,rfl⟩,Sa⟩
open Go.RowKit
theorem Fn.wide {P:Program} {B:Wn} {g:FuncId} {args:Array Value} {pre l F:List Wp} {R R':Value->List Wp->Prop} (h:Fn P B g args pre R) [k:TakeL pre l F] (hr : ∀ v l',R v l' -> ∃ l2,Sub (l'++F) l2/\R' v l2):Fn P B g args l R':=⟨λ w F0 ho=>by
 have ho':Own B w (pre++(F++F0)):=ho.map λ hh H=>by
  obtain ⟨h1,h2,d,a,b,e1,e2⟩:=Has.split H
  rw [<-List.append_assoc]
  exact Has.join d a b (k.take _ e1) e2
 refine (h.run w (F++F0) ho').mono ?_
 rintro _ w' ⟨v,l',rfl,hR,ho2⟩
 obtain ⟨l2,hs,hR'⟩:=hr v l' hR
 refine ⟨v,l2,rfl,hR',ho2.map λ hh H=>?_⟩
 rw [<-List.append_assoc] at H
 obtain ⟨h1,h2,d,a,b,e1,e2⟩:=Has.split H
 exact Has.join d a b (hs _ e1) e2⟩
open Go.RowKit
theorem Bp.pages (B:Wn) (g b n first count hand gl:Nat) (A:List Fa):Fn Tryz.prog B 43 #[.pointer (some ⟨g,0,none⟩)] [plA g b n first count hand gl A] (λ u l=>u = .int .i64 count/\l=[plA g b n first count hand gl A]):=by
 refine Fn.openPl λ q hA hp ⟨gp,hgp⟩=>?_
 simp only [plC,List.append_nil]
 refine Fn.wide (Bf.pages B g b q.gf n first count hand q.pl 1 q.cl) ?_
 rintro v l' ⟨rfl,rfl⟩
 exact ⟨_,sub_pl (S:=[]) q hA,rfl,rfl⟩
theorem findA_some {A:List Fa} {page:Int} {i:Nat} (h:findA A page=some i):0<=page /\ ∃ x,A[i]? = some x/\x.page=page /\ ∀ (j:Nat),j<i -> ∀ y:Fa,A[j]? = some y->y.page≠page:=by
  unfold findA at h
  split at h
  . cases h
  . rename_i h0
    obtain ⟨hi,h1,h2⟩:=List.findIdx?_eq_some_iff_getElem.1 h
    refine ⟨by omega,A[i],List.getElem?_eq_getElem hi,of_decide_eq_true h1,λ j hj y hy=>?_⟩
    have hjl:=(List.getElem?_eq_some_iff.1 hy).1
    have:=h2 j hj
    rw [List.getElem?_eq_getElem hjl] at hy
    cases hy
    simpa using this
theorem findA_none {A:List Fa} {page:Int} (h:findA A page=none) (h0:0<=page) : ∀ (j:Nat) (y:Fa),A[j]? = some y->y.page≠page:=by
 unfold findA at h
 rw [if_neg (by omega)] at h
 intro j y hy
 have:=List.findIdx?_eq_none_iff.1 h y (List.mem_of_getElem? hy)
 simpa using this
theorem fd_of {Fs:List Fm} {A:List Fa} (hA:Fs.map Fm.a=A) {page:Int} {i:Nat} (h:findA A page=some i) : ∃ x,Fd Fs page i x:=by
 obtain ⟨h0,y,h1,h2,h3⟩:=findA_some h
 obtain ⟨x,e1,rfl⟩:=map_a_back hA h1
 exact ⟨x,e1,h2,h0,λ j hj z hz=>h3 j hj z.a (map_a_at hA hz)⟩
theorem nofd_of {Fs:List Fm} {A:List Fa} (hA:Fs.map Fm.a=A) {page:Int} (h:findA A page=none) (h0:0<=page) : ∀ (j:Nat) (y:Fm),Fs[j]? = some y->y.page≠page:=λ j y hy=>findA_none h h0 j y.a (map_a_at hA hy)
theorem mod_succ {h n:Nat} (hh:h<n):(h+1=n/\(h+1)%n=0)\/(h+1<n/\(h+1)%n=h+1):=by
 by_cases e:h+1=n
 . exact .inl ⟨e,by rw [e,Nat.mod_self]⟩
 . exact .inr ⟨by omega,Nat.mod_eq_of_lt (by omega)⟩
def far (n h i:Nat):Nat:=if h<=i then i-h else n+i-h
theorem far_succ {n h i:Nat} (hh:h<n) (hi:i<n) (hne:h≠i):far n ((h+1)%n) i+1=far n h i:=by
 unfold far
 rcases mod_succ hh with ⟨e1,e2⟩ | ⟨e1,e2⟩ <;> rw [e2] <;> split <;> split <;> omega
theorem far_self {n h:Nat} (hh:h<n):far n ((h+1)%n) h<n:=by
 unfold far
 rcases mod_succ hh with ⟨e1,e2⟩ | ⟨e1,e2⟩ <;> rw [e2] <;> split <;> omega
theorem clock_go : ∀ {f:Nat} {A:List Fa} {h i:Nat} {x:Fa},A[i]? = some x -> ¬ 0<x.pins->h<A.length ->
    far A.length h i+(if x.used=true then A.length else 0)<f -> ∃ r,clockA f A h=some r
  | 0,_,_,_,_,_,_,_,hf=>by omega
  | f+1,A,h,i,x,hi,hx,hh,hf=>by
    have hil:=(List.getElem?_eq_some_iff.1 hi).1
    unfold clockA
    rw [List.getElem?_eq_getElem hh]
    dsimp only
    split
    . rename_i hp
      have hne:h≠i:=λ e=>by subst e;rw [List.getElem?_eq_getElem hh] at hi;cases hi;exact hx hp
      refine clock_go hi hx (Nat.mod_lt _ (by omega)) ?_
      have:=far_succ hh hil hne
      omega
    . split
      . rename_i hp hu
        by_cases hne:h=i
        . subst hne
          rw [List.getElem?_eq_getElem hh] at hi
          cases hi
          refine clock_go (i:=h) (x:={A[h] with used:=false}) (by rw [List.getElem?_set_self (by omega)]) hp (by rw [List.length_set];exact Nat.mod_lt _ (by omega)) ?_
          rw [List.length_set]
          rw [if_pos hu] at hf
          have:=far_self hh
          simp
          omega
        . refine clock_go (i:=i) (x:=x) (by rw [List.getElem?_set_ne hne];exact hi) hx (by rw [List.length_set];exact Nat.mod_lt _ (by omega)) ?_
          rw [List.length_set]
          have:=far_succ hh hil hne
          omega
      . exact ⟨_,rfl⟩
theorem clock_some {A:List Fa} {h:Nat} (hh:h<A.length) (hun:(A.all λ x=>decide (0<x.pins))=false) : ∃ r,clockA (2*A.length+1) A h=some r:=by
  have : ∃ x∈A,¬ 0<x.pins:=by
    rcases Classical.em (∃ x∈A,¬ 0<x.pins) with h | h
    . exact h
    . exfalso
      have:(A.all λ x=>decide (0<x.pins))=true:=by
        rw [List.all_eq_true]
        intro x hx
        exact decide_eq_true (Classical.byContradiction λ hc=>h ⟨x,hx,hc⟩)
      rw [this] at hun;cases hun
  obtain ⟨x,hx,hp⟩:=this
  obtain ⟨i,hi,rfl⟩:=List.getElem_of_mem hx
  refine clock_go (List.getElem?_eq_getElem hi) hp hh ?_
  have:far A.length h i<=A.length:=by unfold far;split <;> omega
  split <;> omega
theorem clock_fr : ∀ {f:Nat} {A A':List Fa} {h i h':Nat},clockA f A h=some (i,A',h') -> ∀ (j:Nat) (y:Fa),A'[j]? = some y -> ∃ x,A[j]? = some x/\y.page=x.page/\y.mark=x.mark/\y.pins=x.pins/\y.dirty=x.dirty/\y.b=x.b
  | 0,_,_,_,_,_,e=>by cases e
  | f+1,A,A',h,i,h',e=>by
    intro j y hy
    unfold clockA at e
    split at e
    . cases e
    . rename_i x hx
      split at e
      . exact clock_fr e j y hy
      . split at e
        . obtain ⟨z,hz,q1,q2,q3,q4,q5⟩:=clock_fr e j y hy
          rw [List.getElem?_set] at hz
          split at hz
          . rename_i e2
            subst e2
            rw [if_pos (List.getElem?_eq_some_iff.1 hx).1] at hz
            cases hz
            exact ⟨x,hx,q1,q2,q3,q4,q5⟩
          . exact ⟨z,hz,q1,q2,q3,q4,q5⟩
        . simp only [Option.some.injEq,Prod.mk.injEq] at e
          obtain ⟨_,rfl,_⟩:=e
          exact ⟨y,hy,rfl,rfl,rfl,rfl,rfl⟩
theorem clock_at : ∀ {f:Nat} {A A':List Fa} {h i h':Nat},clockA f A h=some (i,A',h')->h<A.length->h'<A.length /\ ∃ x,A'[i]? = some x /\ ¬ 0<x.pins
  | 0,_,_,_,_,_,e,_=>by cases e
  | f+1,A,A',h,i,h',e,hh=>by
    unfold clockA at e
    have hm:(h+1)%A.length<A.length:=Nat.mod_lt _ (by omega)
    split at e
    . cases e
    . rename_i x hx
      split at e
      . exact clock_at e hm
      . split at e
        . have:=clock_at e (by rw [List.length_set];exact hm);rwa [List.length_set] at this
        . rename_i hp _
          simp only [Option.some.injEq,Prod.mk.injEq] at e
          obtain ⟨rfl,rfl,rfl⟩:=e
          exact ⟨hm,x,hx,hp⟩
open Go.RowKit
theorem Bf.pin_found (B:Wn) (g b gf n first count hand:Nat) (pl:Option Addr) (nl cl:Nat) (Fs:List Fm) (page:Int) (h0:0<=page) (hc:page<count) (i:Nat) (x:Fm) (hn:Fs.length=n) (hn2:n<=4096) (hx:Fd Fs page i x) (hpin:0<=x.pins) (hpin2:x.pins<2^62) :
  Fn Tryz.prog B 44 #[.pointer (some ⟨g,0,none⟩),.int .i64 page] [Zw g b gf n first count hand pl nl cl,fmR gf n Fs] (λ u l=>u = .int .i64 0/\l=[Zw g b gf n first count hand pl nl cl,fmR gf n (Fs.set i {x with pins:=x.pins+1,used:=true})]):=by
 have hi:i<Fs.length:=(List.getElem?_eq_some_iff.1 hx.at_).1
 have hfl:=fm_len Fs
 refine Wr 59 Tryz.func44 rfl rfl (nB rfl) (λ F=>?_)
 try simp only [cA,nA]
 refine TS (La rfl (Ld (Ts (TS ?_))))
 iterate 3 refine Lz ?_
 refine yT (t:=10) rfl (decide_eq_false (by omega)) ?_
 iterate 8 refine Lz ?_
 refine Ld (yL rfl (Tk (TS (Lm rfl (Lm rfl ?_)))))
 refine Le (Ec (Bf.find_some B g b gf n first count hand pl nl cl Fs page i x hn hn2 hx.at_ hx.pg hx.pos hx.first) Tryz.func92 rfl rfl rfl ?_)
 rintro _ _ ⟨rfl,rfl⟩
 try simp only [cA,nA]
 refine La rfl (Ld (Ts (TS ?_)))
 iterate 2 refine Lz ?_
 refine Ld (yQ rfl (Tk (TS ?_)))
 iterate 3 refine Lz ?_
 refine Lq (Ql (v := .int .i64 x.pins) rfl (fm_at hx.at_ 3 (by omega))) ?_
 iterate 3 refine Lz ?_
 refine L0 (E1 (by kernel_rfl) rfl rfl rfl (by omega) ?_)
 rw [fm_set (y:={x with pins:=x.pins+1}) hx.at_ 3 _ rfl]
 have h2:(Fs.set i {x with pins:=x.pins+1})[i]? = some {x with pins:=x.pins+1}:=by rw [List.getElem?_set_self hi]
 have hfl2:=fm_len (Fs.set i {x with pins:=x.pins+1})
 rw [List.length_set] at hfl2
 refine Ld (TS ?_)
 iterate 3 refine Lz ?_
 refine L0 (E1 (by kernel_rfl) rfl rfl rfl (by omega) ?_)
 rw [fm_set (y:={x with pins:=x.pins+1,used:=true}) h2 5 _ rfl,List.set_set]
 refine Ld (TS (La rfl (Ld (T.ret ?_))))
 exact ⟨.inl rfl,_,_,res [_] rfl ⟨rvT rfl,trivial⟩,⟨rfl,rfl⟩,Sa⟩
theorem da_row {B:Wn} {w:World} {L r r2:List Wp} {Fs:List Fm} {i m c:Nat} {y:Fm} {p:Option Addr} {b:List UInt8} (hi:i<Fs.length) (hp:y.p=p) (hc:y.c=c) (hb:y.b=b) (hm:b.length=m) [k1:TakeA (rB (.slice p m c) m b) L r] [k2:TakeA (daA Fs) r r2] (H:Own B w L):Own B w (daA (Fs.set i y)::r2):=by
 subst hp;subst hc;subst hb;subst hm
 exact H.map λ h K=>da_put hi _ (Wt k2.take (k1.take _ K))
theorem Bp.pin_clock (B:Wn) (g b gf n first count hand:Nat) (gp cl gl:Nat) (W:Wl) (D:DD) (Fs:List Fm) (page:Int) (j:Nat) (hj:page=j) (hjc:j<count) (hn:Fs.length=n) (hn2:n<=4096) (hh:hand<n)
  (hno : ∀ (k:Nat) (y:Fm),Fs[k]? = some y->y.page≠page)
  (hfr : ∀ (j:Nat) (x:Fm),Fs[j]? = some x->0<=x.page/\x.page<count/\x.b.length=256) (hpt : ∀ (i:Nat) (x:Fm),Fs[i]? = some x->0<x.b.length -> ∃ g,x.p=some ⟨g,0,none⟩)
  (hun:(Fs.all λ x=>decide (0<x.pins))=false) (hw:WOk W D) (ho:D.Ok) (hsec:first+count<=D.secs.length) (i h':Nat) (A':List Fa) (x':Fa) (hc:clockA (2*n+1) (Fs.map Fm.a) hand=some (i,A',h')) (hx':A'[i]? = some x')
  (W':Wl) (D':DD) (hW':W'=(giveP first W D x').1) (hD':D'=(giveP first W D x').2) (hl1:D'.secs.length=D.secs.length) (hroom:D'.pend.length<2^32) (dat:List UInt8) (hdat:D'.read (first+j)=dat) (hrl:dat.length=256) :
  Fn Tryz.prog B 44 #[.pointer (some ⟨g,0,none⟩),.int .i64 page] [Zw g b gf n first count hand (some ⟨gp,0,none⟩) 1 cl,fmR gf n Fs,lgR (some ⟨gp,0,none⟩) 1 cl [ifW gl],wlA gl b W,Zn b D,daA Fs]
   (λ u l => ∃ Fs',Fs'.map Fm.a=A'.set i (newA page dat)/\Fs'.length=n/\u = .int .i64 0/\l=[Zw g b gf n first count h' (some ⟨gp,0,none⟩) 1 cl,fmR gf n Fs',lgR (some ⟨gp,0,none⟩) 1 cl [ifW gl],wlA gl b W',Zn b D',daA Fs']):=by
 subst hW'
 obtain ⟨ha1,ha2⟩:=clock_len hc
 rw [List.length_map,hn] at ha1 ha2
 have hmax:=hw.max
 refine Wr 59 Tryz.func44 rfl rfl (nB rfl) (λ F=>?_)
 try simp only [cA,nA]
 refine TS (La rfl (Ld (Ts (TS ?_))))
 iterate 3 refine Lz ?_
 refine yT (t:=10) rfl (decide_eq_false (by omega)) ?_
 iterate 8 refine Lz ?_
 refine Ld (yL rfl (Tk (TS (Lm rfl (Lm rfl ?_)))))
 refine Le (Ec (Bf.find_none B g b gf n first count hand (some ⟨gp,0,none⟩) 1 cl Fs page hn hn2 (λ j y hj e=>absurd e (hno j y hj))) Tryz.func92 rfl rfl rfl ?_)
 rintro _ _ ⟨rfl,rfl⟩
 try simp only [cA,nA]
 refine La rfl (Ld (Ts (TS ?_)))
 iterate 2 refine Lz ?_
 refine Ld (zF rfl (TS (Lm rfl ?_)))
 refine Le (Ec (Bp.victim_clock B g b gf n first count hand gp cl gl W D Fs hn hn2 hh hfr hpt hun hw ho hsec i h' A' x' hc hx') Tryz.func93 rfl rfl rfl ?_)
 rintro _ _ ⟨Fs2,hA2,hl2,rfl,rfl⟩
 try simp only [cA,nA]
 rw [<-hD']
 refine La rfl (Ld (Ts (TS ?_)))
 iterate 2 refine Lz ?_
 refine Ld (yQ rfl (Tk (Ts (zW 17 none (nB rfl) ?_))))
 refine Rz 0 ?_;refine Rz 1 ?_;refine Rz 2 ?_;refine Rz 3 ?_;refine Rz 4 ?_;refine Rz 5 ?_;refine Rz 6 ?_;refine Rz 7 ?_;refine Rz 8 ?_;refine Rz 9 ?_;refine Rz 10 ?_;refine Rz 11 ?_
 refine yK 12 ?_
 refine zY rfl (Ec (Dk.readF B b D' (first+j) _ hroom) Tryz.func86 rfl rfl rfl ?_)
 rintro _ _ ⟨gx,cx,rfl,rfl⟩
 try simp only [cA,nA]
 rw [hdat]
 have hi:i<Fs2.length:=by omega
 have hfl:=fm_len Fs2
 refine Rz 13 ?_;refine Rz 14 ?_;refine Rz 15 ?_;refine Rz 16 ?_
 refine Rd0 (by rfl) ?_
 simp only [dS,dZ,dN]
 refine La rfl (Ld (TR ?_))
 iterate 3 refine Lz ?_
 refine Lq (z8 [(0,1),(1,1),(2,1),(3,1),(4,1),(5,1)] [.int .i64 0,.slice none 0 0,.int .i64 0,.int .i64 0,.bool false,.bool false] [_,_,_,_,_,_] [(0,_),(1,_)] (by unfold Zf;kernel_rfl) rfl rfl) (Lq (Qn rfl) ?_)
 refine L0 (Es (fmC ⟨page,0,0,false,false,some ⟨gx,0,none⟩,cx,dat⟩) rfl rfl (by simp only [fmC,hrl];rfl) rfl (by simp only [List.length_cons,List.length_nil];omega) ?_)
 rw [fm_splice hi]
 have h2:(Fs2.set i ⟨page,0,0,false,false,some ⟨gx,0,none⟩,cx,dat⟩)[i]? = some ⟨page,0,0,false,false,some ⟨gx,0,none⟩,cx,dat⟩:=by rw [List.getElem?_set_self hi]
 have hfl2:=fm_len (Fs2.set i ⟨page,0,0,false,false,some ⟨gx,0,none⟩,cx,dat⟩)
 rw [List.length_set] at hfl2
 refine Ld (TS ?_)
 iterate 3 refine Lz ?_
 refine Lq (Ql (v := .int .i64 0) rfl (fm_at h2 3 (by omega))) ?_
 iterate 3 refine Lz ?_
 refine L0 (E1 (by kernel_rfl) rfl rfl rfl (by omega) ?_)
 rw [fm_set (y:=⟨page,0,1,false,false,some ⟨gx,0,none⟩,cx,dat⟩) h2 3 (.int .i64 (0+1)) rfl,List.set_set]
 have h3:(Fs2.set i ⟨page,0,1,false,false,some ⟨gx,0,none⟩,cx,dat⟩)[i]? = some ⟨page,0,1,false,false,some ⟨gx,0,none⟩,cx,dat⟩:=by rw [List.getElem?_set_self hi]
 have hfl3:=fm_len (Fs2.set i ⟨page,0,1,false,false,some ⟨gx,0,none⟩,cx,dat⟩)
 rw [List.length_set] at hfl3
 refine Ld (TS ?_)
 iterate 3 refine Lz ?_
 refine L0 (E1 (by kernel_rfl) rfl rfl rfl (by omega) ?_)
 rw [fm_set (y:=fmNew page (some ⟨gx,0,none⟩) cx dat) h3 5 _ rfl,List.set_set]
 refine Ld (TS (La rfl (Ld (T.conv (λ w ho=>da_row (Fs:=Fs2) (y:=fmNew page (some ⟨gx,0,none⟩) cx dat) hi rfl rfl rfl hrl ho) (T.ret ?_)))))
 exact ⟨.inl rfl,_,_,res [_] rfl ⟨rvT rfl,trivial⟩,⟨Fs2.set i (fmNew page (some ⟨gx,0,none⟩) cx dat),by rw [List.map_set,hA2];rfl,by rw [List.length_set];exact hl2,rfl,rfl⟩,Sa⟩
section
variable {first count n:Nat} {s:Pl} {page:Int}
theorem pinP_range (h:page<0\/(count:Int)<=page):pinP first count s page=(s,1):=by unfold pinP;rw [if_pos h]
theorem pinP_found {i:Nat} {x:Fa} (h : ¬ (page<0\/(count:Int)<=page)) (hf:findA s.A page=some i) (hx:s.A[i]? = some x):pinP first count s page=({s with A:=s.A.set i (upA x)},0):=by unfold pinP;rw [if_neg h,hf];dsimp only;rw [hx]
theorem pinP_free {i:Nat} (h : ¬ (page<0\/(count:Int)<=page)) (hf:findA s.A page=none) (hx:s.A.findIdx? (λ x=>decide (x.page<0))=some i):pinP first count s page=({s with A:=s.A.set i (newA page (s.D.read (first+page.toNat)))},0):=by
 unfold pinP;rw [if_neg h,hf];dsimp only;unfold victimP;rw [hx]
theorem pinP_full (h : ¬ (page<0\/(count:Int)<=page)) (hf:findA s.A page=none) (hx:s.A.findIdx? (λ x=>decide (x.page<0))=none) (ha:(s.A.all λ x=>decide (0<x.pins))=true):pinP first count s page=(s,60):=by
 unfold pinP;rw [if_neg h,hf];dsimp only;unfold victimP;rw [hx];dsimp only;rw [if_pos ha]
theorem pinP_clock {i h':Nat} {A':List Fa} {x':Fa} (h : ¬ (page<0\/(count:Int)<=page)) (hf:findA s.A page=none) (hx:s.A.findIdx? (λ x=>decide (x.page<0))=none) (ha:(s.A.all λ x=>decide (0<x.pins))=false) (hc:clockA (2*s.A.length+1) s.A s.hand=some (i,A',h')) (hx':A'[i]? = some x') :
  pinP first count s page=(⟨A'.set i (newA page ((giveP first s.W s.D x').2.read (first+page.toNat))),h',(giveP first s.W s.D x').1,(giveP first s.W s.D x').2⟩,0):=by
 unfold pinP;rw [if_neg h,hf];dsimp only;unfold victimP;rw [hx];dsimp only;rw [if_neg (by rw [ha];simp),hc];dsimp only;rw [hx']
inductive PinC (first count:Nat) (s:Pl) (page:Int):Pl×Int->Prop
 | range (h:page<0\/(count:Int)<=page):PinC first count s page (s,1)
 | found (i:Nat) (x:Fa) (h : ¬ (page<0\/(count:Int)<=page)) (hf:findA s.A page=some i) (hx:s.A[i]? = some x):PinC first count s page ({s with A:=s.A.set i (upA x)},0)
 | free (i:Nat) (x:Fa) (h : ¬ (page<0\/(count:Int)<=page)) (hf:findA s.A page=none) (hi:s.A[i]? = some x) (hp:x.page<0) (hfirst : ∀ (k:Nat),k<i -> ∀ y:Fa,s.A[k]? = some y->0<=y.page):PinC first count s page ({s with A:=s.A.set i (newA page (s.D.read (first+page.toNat)))},0)
 | full (h : ¬ (page<0\/(count:Int)<=page)) (hf:findA s.A page=none) (hx : ∀ (j:Nat) (y:Fa),s.A[j]? = some y->0<=y.page/\0<y.pins):PinC first count s page (s,60)
 | clock (i h':Nat) (A':List Fa) (x':Fa) (h : ¬ (page<0\/(count:Int)<=page)) (hf:findA s.A page=none) (hx : ∀ (j:Nat) (y:Fa),s.A[j]? = some y->0<=y.page) (ha:(s.A.all λ x=>decide (0<x.pins))=false) (hc:clockA (2*s.A.length+1) s.A s.hand=some (i,A',h')) (hx':A'[i]? = some x') (hup : ¬ 0<x'.pins) :
   PinC first count s page (⟨A'.set i (newA page ((giveP first s.W s.D x').2.read (first+page.toNat))),h',(giveP first s.W s.D x').1,(giveP first s.W s.D x').2⟩,0)
theorem pin_cases (hh:s.hand<s.A.length):PinC first count s page (pinP first count s page):=by
  by_cases h:page<0\/(count:Int)<=page
  . rw [pinP_range h];exact .range h
  . cases hf:findA s.A page with
    | some i =>
      obtain ⟨_,x,hx,_⟩:=findA_some hf
      rw [pinP_found h hf hx]
      exact .found i x h hf hx
    | none =>
      cases hx:s.A.findIdx? (λ x=>decide (x.page<0)) with
      | some i =>
        rw [pinP_free h hf hx]
        obtain ⟨hi,h1,h2⟩:=List.findIdx?_eq_some_iff_getElem.1 hx
        refine .free i s.A[i] h hf (List.getElem?_eq_getElem hi) (of_decide_eq_true h1) λ k hk y hy=>?_
        have hkl:=(List.getElem?_eq_some_iff.1 hy).1
        have:=h2 k hk
        rw [List.getElem?_eq_getElem hkl] at hy
        cases hy
        have:=of_decide_eq_false (Bool.eq_false_iff.2 this)
        omega
      | none =>
        have hge : ∀ (j:Nat) (y:Fa),s.A[j]? = some y->0<=y.page:=λ j y hy=>by
          have:=List.findIdx?_eq_none_iff.1 hx y (List.mem_of_getElem? hy)
          have:=of_decide_eq_false this
          omega
        cases ha:s.A.all λ x=>decide (0<x.pins) with
        | true =>
          rw [pinP_full h hf hx ha]
          exact .full h hf λ j y hy=>⟨hge j y hy,of_decide_eq_true (List.all_eq_true.1 ha y (List.mem_of_getElem? hy))⟩
        | false =>
          obtain ⟨⟨i,A',h'⟩,hc⟩:=clock_some hh ha
          obtain ⟨_,x',hx',hup⟩:=clock_at hc hh
          rw [pinP_clock h hf hx ha hc hx']
          exact .clock i h' A' x' h hf hge ha hc hx' hup
end
theorem fr_ok {count n:Nat} {A:List Fa} (hF:FOk count n A) {j:Nat} {y:Fa} (hy:A[j]? = some y) (h0:0<=y.page):0<=y.page/\y.page<count/\y.b.length=256/\0<=y.pins:=by
 rcases hF.fr y (List.mem_of_getElem? hy) with rfl | h
 . exact absurd h0 (by decide)
 . exact h
theorem WOk.give {first:Nat} {W:Wl} {D:DD} (h:WOk W D) (ho:D.Ok) (hp:D.pend.length+16384+1<2^32) (x:Fa) (hx:first+x.page.toNat<D.secs.length) (hb:x.b.length=256):WOk (giveP first W D x).1 (giveP first W D x).2/\(giveP first W D x).2.Ok/\(giveP first W D x).2.secs.length=D.secs.length/\(giveP first W D x).2.pend.length<=D.pend.length+1/\(giveP first W D x).1.first=W.first/\(giveP first W D x).1.count=W.count/\(giveP first W D x).1.st=W.st:=by
  obtain ⟨f1,f2,f3,f4,f5,f6,f7⟩:=h.force ho x.mark h.room
  unfold giveP
  split
  . refine ⟨⟨f1.fit,f1.max,f1.st,f1.dur,?_⟩,f2.wr2 _ _ (by omega) hb,f3,?_,f5,f6,f7⟩
    . simp [DD.write];omega
    . simp [DD.write];omega
  . exact ⟨h,ho,rfl,Nat.le_succ _,rfl,rfl,rfl⟩
theorem Bp.pin (B:Wn) (g b n first count hand gl:Nat) (A:List Fa) (W:Wl) (D:DD) (page:Int) (hF:FOk count n A) (hpin : ∀ x∈A,x.pins<2^62) (hh:hand<n) (hw:WOk W D) (ho:D.Ok) (hp:D.pend.length+16384+1<2^32) (hsec:first+count<=D.secs.length) :
  Fn Tryz.prog B 44 #[.pointer (some ⟨g,0,none⟩),.int .i64 page] [plA g b n first count hand gl A,wlA gl b W,Zn b D]
   (λ u l=>u = .int .i64 (pinP first count ⟨A,hand,W,D⟩ page).2/\l=[plA g b n first count (pinP first count ⟨A,hand,W,D⟩ page).1.hand gl (pinP first count ⟨A,hand,W,D⟩ page).1.A,wlA gl b (pinP first count ⟨A,hand,W,D⟩ page).1.W,Zn b (pinP first count ⟨A,hand,W,D⟩ page).1.D]):=by
 refine Fn.openPl λ q hA hptr ⟨gp,hgp⟩=>?_
 obtain ⟨Fs,gf,pl,cl⟩:=q
 dsimp only at hA hptr hgp ⊢
 subst hgp
 simp only [plC,List.cons_append,List.nil_append]
 have hl:Fs.length=n:=by rw [<-hF.len,<-hA,List.length_map]
 have hn2:=hF.n2
 have hwm:=hw.max
 have hwr:=hw.room
 have hs : ∀ (A':List Fa) (h':Nat) (W':Wl) (D':DD) (Fs':List Fm),Fs'.map Fm.a=A'->Sub [Zw g b gf n first count h' (some ⟨gp,0,none⟩) 1 cl,fmR gf n Fs',lgR (some ⟨gp,0,none⟩) 1 cl [ifW gl],daA Fs',wlA gl b W',Zn b D'] [plA g b n first count h' gl A',wlA gl b W',Zn b D']:=λ A' h' W' D' Fs' e=>sub_pl ⟨Fs',gf,some ⟨gp,0,none⟩,cl⟩ e
 have hc:=pin_cases (first:=first) (count:=count) (page:=page) (s:=⟨A,hand,W,D⟩) (by rw [hF.len];exact hh)
 generalize hr:pinP first count ⟨A,hand,W,D⟩ page=res at hc ⊢
 cases hc with
 | range h =>
  refine Fn.wide (Bf.pin_range B g b gf n first count hand (some ⟨gp,0,none⟩) 1 cl page h) ?_
  rintro v l' ⟨rfl,rfl⟩
  simp only [List.cons_append,List.nil_append]
  exact ⟨_,hs A hand W D Fs hA,by simp,rfl⟩
 | found i x h hf hx =>
  obtain ⟨z,hz⟩:=fd_of hA hf
  obtain rfl:z.a=x:=by have:=map_a_at hA hz.at_;dsimp only at hx;rw [hx] at this;exact (Option.some.inj this).symm
  have hpz:0<=z.a.pins:=(fr_ok hF hx (by rw [show z.a.page=z.page from rfl,hz.pg];omega)).2.2.2
  refine Fn.wide (Bf.pin_found B g b gf n first count hand (some ⟨gp,0,none⟩) 1 cl Fs page (by omega) (by omega) i z hl hn2 hz hpz (hpin z.a (List.mem_of_getElem? hx))) ?_
  rintro v l' ⟨rfl,rfl⟩
  simp only [List.cons_append,List.nil_append]
  refine ⟨_,?_,by simp,rfl⟩
  have:=hs (A.set i (upA z.a)) hand W D (Fs.set i {z with pins:=z.pins+1,used:=true}) (by rw [List.map_set,hA];rfl)
  rw [da_same (y:={z with pins:=z.pins+1,used:=true}) hz.at_ rfl rfl rfl] at this
  exact λ k K=>this k (Sa k K)
 | free i x h hf hi hp2 hfirst =>
  obtain ⟨z,hz,rfl⟩:=map_a_back hA hi
  have hil:i<Fs.length:=(List.getElem?_eq_some_iff.1 hz).1
  have hrl:=ho.rd (first+page.toNat) (by omega)
  refine Fn.wide (Bf.pin_free B g b gf n first count hand (some ⟨gp,0,none⟩) 1 cl Fs D page page.toNat (by omega) (by omega) hl hn2 (nofd_of hA hf (by omega)) i z hz hp2 (λ k hk y hy=>hfirst k hk y.a (map_a_at hA hy)) (by omega) (by omega) (by omega) hrl) ?_
  rintro v l' ⟨gx,c,rfl,rfl⟩
  simp only [List.cons_append,List.nil_append]
  refine ⟨_,?_,by simp,rfl⟩
  have:=hs (A.set i (newA page (D.read (first+page.toNat)))) hand W D (Fs.set i (fmNew page (some ⟨gx,0,none⟩) c (D.read (first+page.toNat)))) (by rw [List.map_set,hA];rfl)
  refine λ k K=>this k ?_
  have K2:Has (rB (.slice (some ⟨gx,0,none⟩) 256 c) 256 (D.read (first+page.toNat))::daA Fs::[Zw g b gf n first count hand (some ⟨gp,0,none⟩) 1 cl,fmR gf n (Fs.set i (fmNew page (some ⟨gx,0,none⟩) c (D.read (first+page.toNat)))),lgR (some ⟨gp,0,none⟩) 1 cl [ifW gl],wlA gl b W,Zn b D]) k:=Sa k K
  have K3:Has (fmD (fmNew page (some ⟨gx,0,none⟩) c (D.read (first+page.toNat)))::daA Fs::[Zw g b gf n first count hand (some ⟨gp,0,none⟩) 1 cl,fmR gf n (Fs.set i (fmNew page (some ⟨gx,0,none⟩) c (D.read (first+page.toNat)))),lgR (some ⟨gp,0,none⟩) 1 cl [ifW gl],wlA gl b W,Zn b D]) k:=by
   rw [fmD]
   dsimp only
   rw [hrl]
   exact K2
  have K4:=da_put hil k K3
  exact Sa k K4
 | full h hf hx =>
  refine Fn.wide (Bf.pin_full B g b gf n first count hand (some ⟨gp,0,none⟩) 1 cl Fs page (by omega) (by omega) hl hn2 (nofd_of hA hf (by omega)) (λ j y hy=>hx j y.a (map_a_at hA hy))) ?_
  rintro v l' ⟨rfl,rfl⟩
  simp only [List.cons_append,List.nil_append]
  exact ⟨_,λ k K=>hs A hand W D Fs hA k (Sa k K),by simp,rfl⟩
 | clock i h' A' x' h hf hx ha hc hx' hup =>
  dsimp only at hc ha hx hf
  obtain ⟨y,hy,q1,q2,q3,q4,q5⟩:=clock_fr hc i x' hx'
  have hyo:=fr_ok hF hy (hx i y hy)
  obtain ⟨f1,f2,f3,f4,f5,f6,f7⟩:=hw.give (first:=first) ho hp x' (by rw [q1];omega) (by rw [q5];exact hyo.2.2.1)
  refine Fn.wide (Bp.pin_clock B g b gf n first count hand gp cl gl W D Fs page page.toNat (by omega) (by omega) hl hn2 hh (nofd_of hA hf (by omega)) (λ j z hz=>by have:=fr_ok hF (map_a_at hA hz) (hx j z.a (map_a_at hA hz));exact ⟨this.1,this.2.1,this.2.2.1⟩) hptr (by rw [<-hA,List.all_map] at ha;exact ha) hw ho hsec i h' A' x' (by rw [hA,<-hF.len];exact hc) hx' _ _ rfl rfl f3 (by omega) _ rfl (f2.rd _ (by rw [f3];omega))) ?_
  rintro v l' ⟨Fs',e1,e2,rfl,rfl⟩
  simp only [List.cons_append,List.nil_append]
  exact ⟨_,λ k K=>hs _ h' _ _ Fs' e1 k (Sa k K),by simp,rfl⟩
open Go.RowKit
open Go.RowKit
theorem pinnedA_some {A:List Fa} {page:Int} {i:Nat} {x:Fa} (h:pinnedA A page=some (i,x)):findA A page=some i/\A[i]? = some x/\0<x.pins:=by
  unfold pinnedA at h
  split at h
  . cases h
  . rename_i j hj
    split at h
    . cases h
    . rename_i y hy
      split at h
      . simp only [Option.some.injEq,Prod.mk.injEq] at h
        obtain ⟨rfl,rfl⟩:=h
        exact ⟨hj,hy,by assumption⟩
      . cases h
theorem pinnedA_none {A:List Fa} {page:Int} (h:pinnedA A page=none):findA A page=none \/ ∃ i x,findA A page=some i/\A[i]? = some x /\ ¬ 0<x.pins:=by
  unfold pinnedA at h
  split at h
  . rename_i hj;exact .inl hj
  . rename_i j hj
    obtain ⟨_,x,hx,_⟩:=findA_some hj
    rw [hx] at h
    dsimp only at h
    split at h
    . cases h
    . rename_i hp;exact .inr ⟨j,x,hj,hx,hp⟩
theorem Bf.pinned_low (B:Wn) (g b gf n first count hand:Nat) (pl:Option Addr) (nl cl:Nat) (Fs:List Fm) (page:Int) (i:Nat) (x:Fm) (hn:Fs.length=n) (hn2:n<=4096) (hx:Fd Fs page i x) (hpin : ¬ 0<x.pins) :
  Fn Tryz.prog B 94 #[.pointer (some ⟨g,0,none⟩),.int .i64 page] [Zw g b gf n first count hand pl nl cl,fmR gf n Fs] (λ u l=>u = .pointer none/\l=[Zw g b gf n first count hand pl nl cl,fmR gf n Fs]):=by
 refine Wr 19 Tryz.func94 rfl rfl (nB rfl) (λ F=>?_)
 try simp only [cA,nA]
 refine TS (La rfl (Ld (Ts (TS (Lm rfl (Lm rfl ?_))))))
 refine Le (Ec (Bf.find_some B g b gf n first count hand pl nl cl Fs page i x hn hn2 hx.at_ hx.pg hx.pos hx.first) Tryz.func92 rfl rfl rfl ?_)
 rintro _ _ ⟨rfl,rfl⟩
 try simp only [cA,nA]
 refine La rfl (Ld (TS (Lm rfl (Lq (YZ rfl rfl) (Lm rfl (zQ (t:=11) rfl rfl ?_))))))
 iterate 3 refine Lz ?_
 refine Lq (Ql (v := .int .i64 x.pins) rfl (fm_at hx.at_ 3 (by omega))) (Lq (yZ rfl rfl) (Lq (Qp rfl rfl) (Ld (yL rfl (Tk (TS (La rfl (Ld (T.ret ?_)))))))))
 exact ⟨.inl rfl,_,_,res [_] rfl ⟨rvT rfl,trivial⟩,⟨rfl,rfl⟩,Sa⟩
theorem Bf.pinned_miss (B:Wn) (g b gf n first count hand:Nat) (pl:Option Addr) (nl cl:Nat) (Fs:List Fm) (page:Int) (hn:Fs.length=n) (hn2:n<=4096) (hno : ∀ (j:Nat) (y:Fm),Fs[j]? = some y->y.page=page->page<0) :
  Fn Tryz.prog B 94 #[.pointer (some ⟨g,0,none⟩),.int .i64 page] [Zw g b gf n first count hand pl nl cl,fmR gf n Fs] (λ u l=>u = .pointer none/\l=[Zw g b gf n first count hand pl nl cl,fmR gf n Fs]):=by
 refine Wr 19 Tryz.func94 rfl rfl (nB rfl) (λ F=>?_)
 try simp only [cA,nA]
 refine TS (La rfl (Ld (Ts (TS (Lm rfl (Lm rfl ?_))))))
 refine Le (Ec (Bf.find_none B g b gf n first count hand pl nl cl Fs page hn hn2 hno) Tryz.func92 rfl rfl rfl ?_)
 rintro _ _ ⟨rfl,rfl⟩
 try simp only [cA,nA]
 refine La rfl (Ld (TS (Lm rfl (Lq (ZW (by kernel_rfl) rfl rfl) (Lm rfl (yT (t:=11) rfl rfl ?_))))))
 iterate 6 refine Lz ?_
 refine Ld (yQ rfl (Tk (TS (La rfl (Ld (T.ret ?_))))))
 exact ⟨.inl rfl,_,_,res [_] rfl ⟨rvT rfl,trivial⟩,⟨rfl,rfl⟩,Sa⟩
theorem Bf.pinned_no (B:Wn) (g b gf n first count hand:Nat) (pl:Option Addr) (nl cl:Nat) (Fs:List Fm) (page:Int) (hn:Fs.length=n) (hn2:n<=4096) (h:pinnedA (Fs.map Fm.a) page=none) :
    Fn Tryz.prog B 94 #[.pointer (some ⟨g,0,none⟩),.int .i64 page] [Zw g b gf n first count hand pl nl cl,fmR gf n Fs] (λ u l=>u = .pointer none/\l=[Zw g b gf n first count hand pl nl cl,fmR gf n Fs]):=by
  rcases pinnedA_none h with h | ⟨i,x,h1,h2,h3⟩
  . refine Bf.pinned_miss B g b gf n first count hand pl nl cl Fs page hn hn2 λ j y hy e=>?_
    by_cases h0:0<=page
    . exact absurd e (nofd_of rfl h h0 j y hy)
    . omega
  . obtain ⟨z,hz⟩:=fd_of rfl h1
    refine Bf.pinned_low B g b gf n first count hand pl nl cl Fs page i z hn hn2 hz ?_
    have:=map_a_at rfl hz.at_
    rw [h2] at this
    cases this
    exact h3
theorem Bf.unpin_no (B:Wn) (g b gf n first count hand:Nat) (pl:Option Addr) (nl cl:Nat) (Fs:List Fm) (page:Int) (hn:Fs.length=n) (hn2:n<=4096) (h:pinnedA (Fs.map Fm.a) page=none) :
  Fn Tryz.prog B 48 #[.pointer (some ⟨g,0,none⟩),.int .i64 page] [Zw g b gf n first count hand pl nl cl,fmR gf n Fs] (λ u l=>u = .int .i64 61/\l=[Zw g b gf n first count hand pl nl cl,fmR gf n Fs]):=by
 refine Wr 18 Tryz.func48 rfl rfl (nB rfl) (λ F=>?_)
 try simp only [cA,nA]
 refine TS (La rfl (Ld (TS (Lm rfl (Lm rfl ?_)))))
 refine Le (Ec (Bf.pinned_no B g b gf n first count hand pl nl cl Fs page hn hn2 h) Tryz.func94 rfl rfl rfl ?_)
 rintro _ _ ⟨rfl,rfl⟩
 try simp only [cA,nA]
 refine La rfl (Ld (Ts (TS ?_)))
 iterate 2 refine Lz ?_
 refine Ld (zF rfl (TS (La rfl (Ld (T.ret ?_)))))
 exact ⟨.inl rfl,_,_,res [_] rfl ⟨rvT rfl,trivial⟩,⟨rfl,rfl⟩,Sa⟩
theorem Has.under_back {A:Wp} : ∀ {m r:List Wp} {h:Piece},Has (m++A::r) h->Has (A::(m++r)) h
 | [],_,_,H=>H
 | _::_,_,_,H=>Has.swap (Wt (λ _ k=>Has.under_back k) H)
theorem fd_pinned {Fs:List Fm} {A:List Fa} (hA:Fs.map Fm.a=A) {page:Int} {i:Nat} {x:Fa} (h:pinnedA A page=some (i,x)) : ∃ z,Fd Fs page i z/\z.a=x/\0<z.pins:=by
 obtain ⟨h1,h2,h3⟩:=pinnedA_some h
 obtain ⟨z,hz⟩:=fd_of hA h1
 have:=map_a_at hA hz.at_
 rw [h2] at this
 cases this
 exact ⟨z,hz,rfl,h3⟩
theorem Bp.unpin (B:Wn) (g b n first count hand gl:Nat) (A:List Fa) (page:Int) (hl:A.length=n) (hn2:n<=4096) (hpin : ∀ x∈A,x.pins<2^62) :
  Fn Tryz.prog B 48 #[.pointer (some ⟨g,0,none⟩),.int .i64 page] [plA g b n first count hand gl A] (λ u l=>u = .int .i64 (unpinA A page).2/\l=[plA g b n first count hand gl (unpinA A page).1]):=by
 refine Fn.openPl λ q hA hptr ⟨gp,hgp⟩=>?_
 obtain ⟨Fs,gf,pl,cl⟩:=q
 dsimp only at hA hptr hgp ⊢
 subst hgp
 simp only [plC,List.cons_append,List.nil_append,List.append_nil]
 have hlf:Fs.length=n:=by rw [<-hl,<-hA,List.length_map]
 have hs : ∀ (A':List Fa) (Fs':List Fm),Fs'.map Fm.a=A'->Sub [Zw g b gf n first count hand (some ⟨gp,0,none⟩) 1 cl,fmR gf n Fs',lgR (some ⟨gp,0,none⟩) 1 cl [ifW gl],daA Fs'] [plA g b n first count hand gl A']:=λ A' Fs' e=>sub_pl (S:=[]) ⟨Fs',gf,some ⟨gp,0,none⟩,cl⟩ e
 cases h:pinnedA A page with
 | none =>
  refine Fn.wide (Bf.unpin_no B g b gf n first count hand (some ⟨gp,0,none⟩) 1 cl Fs page hlf hn2 (by rw [hA];exact h)) ?_
  rintro v l' ⟨rfl,rfl⟩
  simp only [List.cons_append,List.nil_append]
  exact ⟨_,hs A Fs hA,by simp [unpinA,h],by simp [unpinA,h]⟩
 | some r =>
  obtain ⟨i,x⟩:=r
  obtain ⟨z,hz,rfl,hp⟩:=fd_pinned hA h
  refine Fn.wide (Bf.unpin B g b gf n first count hand (some ⟨gp,0,none⟩) 1 cl Fs page i z hlf hn2 hz hp (hpin z.a (List.mem_of_getElem? (map_a_at hA hz.at_)))) ?_
  rintro v l' ⟨rfl,rfl⟩
  simp only [List.cons_append,List.nil_append]
  refine ⟨_,?_,by simp [unpinA,h],rfl⟩
  have:=hs (unpinA A page).1 (Fs.set i {z with pins:=z.pins-1}) (by rw [List.map_set,hA];simp only [unpinA,h];rfl)
  rwa [da_same (y:={z with pins:=z.pins-1}) hz.at_ rfl rfl rfl] at this
theorem Bp.bytes (B:Wn) (g b n first count hand gl:Nat) (A:List Fa) (page:Int) (hl:A.length=n) (hn2:n<=4096) (i:Nat) (x:Fa) (h:pinnedA A page=some (i,x)) (m:Nat) (hm:x.b.length=m) (hb:m<2^40) :
  Fn Tryz.prog B 106 #[.pointer (some ⟨g,0,none⟩),.int .i64 page] [plA g b n first count hand gl A] (λ u l => ∃ p c,u = .tuple #[.slice p m c,.int .i64 0]/\(0<m -> ∃ g,p=some ⟨g,0,none⟩)/\l=[rB (.slice p m c) m x.b,plA g b n first count hand gl A]):=by
 refine Fn.openPl λ q hA hptr ⟨gp,hgp⟩=>?_
 obtain ⟨Fs,gf,pl,cl⟩:=q
 dsimp only at hA hptr hgp ⊢
 subst hgp
 simp only [plC,List.cons_append,List.nil_append,List.append_nil]
 obtain ⟨z,hz,rfl,hp⟩:=fd_pinned hA h
 subst hm
 refine Fn.wide (Bf.bytes B [daA Fs] g b gf n first count hand (some ⟨gp,0,none⟩) 1 cl Fs page i z (by rw [<-hl,<-hA,List.length_map]) hn2 hz hp (RdV.da hz.at_ (hptr i z hz.at_)) hb) ?_
 rintro v l' ⟨p,c,rfl,hp2,rfl⟩
 simp only [List.cons_append,List.nil_append]
 refine ⟨_,λ k K=>?_,p,c,rfl,hp2,rfl⟩
 refine Wt (sub_pl (S:=[]) ⟨Fs,gf,some ⟨gp,0,none⟩,cl⟩ hA) ?_
 simp only [plC,List.append_nil]
 have K2:Has [rB (.slice p z.b.length c) z.b.length z.b,Zw g b gf n first count hand (some ⟨gp,0,none⟩) 1 cl,fmR gf n Fs,lgR (some ⟨gp,0,none⟩) 1 cl [ifW gl],daA Fs] k:=Sa k K
 exact K2
theorem Bp.put (B:Wn) (S:List Wp) (g b n first count hand gl:Nat) (A:List Fa) (page:Int) (hl:A.length=n) (hn2:n<=4096) (i:Nat) (x:Fa) (h:pinnedA A page=some (i,x)) (a:Option Addr) (ca:Nat) (d:List UInt8) (mark:Int) (hd:d.length=256) (hv:RdV B S (.slice a 256 ca) (Zb d)) :
  Fn Tryz.prog B 45 #[.pointer (some ⟨g,0,none⟩),.int .i64 page,.slice a 256 ca,.int .i64 mark] (plA g b n first count hand gl A::S) (λ u l=>u = .int .i64 (putA A page d mark).2/\l=plA g b n first count hand gl (putA A page d mark).1::S):=by
 refine Fn.openPl λ q hA hptr ⟨gp,hgp⟩=>?_
 obtain ⟨Fs,gf,pl,cl⟩:=q
 dsimp only at hA hptr hgp ⊢
 subst hgp
 simp only [plC,List.cons_append,List.nil_append,List.append_nil]
 have hlf:Fs.length=n:=by rw [<-hl,<-hA,List.length_map]
 obtain ⟨z,hz,rfl,hp⟩:=fd_pinned hA h
 have hil:i<Fs.length:=(List.getElem?_eq_some_iff.1 hz.at_).1
 have h0:=(Bf.put B (lgR (some ⟨gp,0,none⟩) 1 cl [ifW gl]::daA Fs::S) g b gf n first count hand (some ⟨gp,0,none⟩) 1 cl Fs page i z hlf hn2 hz hp a ca d mark hd (hv.mono λ w ho=>ho.tl.tl))
 refine h0.sub ?_
 rintro v l' ⟨p,c,rfl,hp2,rfl⟩
 refine ⟨_,λ k K=>?_,by simp [putA,h,hd],rfl⟩
 refine sub_pl ⟨Fs.set i {z with mark:=max z.mark mark,dirty:=true,p:=p,c:=c,b:=d},gf,some ⟨gp,0,none⟩,cl⟩ (by simp only [putA,h];rw [List.map_set,hA,if_neg (by simp [hd])];rfl) k ?_
 simp only [plC,List.cons_append,List.nil_append]
 have K2:Has (rB (.slice p 256 c) 256 d::daA Fs::([Zw g b gf n first count hand (some ⟨gp,0,none⟩) 1 cl,fmR gf n (Fs.set i {z with mark:=max z.mark mark,dirty:=true,p:=p,c:=c,b:=d}),lgR (some ⟨gp,0,none⟩) 1 cl [ifW gl]]++S)) k:=by
  refine Wt (λ k1 K1=>?_) K
  have:Has ([Zw g b gf n first count hand (some ⟨gp,0,none⟩) 1 cl,fmR gf n (Fs.set i {z with mark:=max z.mark mark,dirty:=true,p:=p,c:=c,b:=d}),lgR (some ⟨gp,0,none⟩) 1 cl [ifW gl]]++(daA Fs::S)) k1:=K1
  exact Has.under_back this
 have K3:=da_put (y:={z with mark:=max z.mark mark,dirty:=true,p:=p,c:=c,b:=d}) hil k (by rw [fmD];dsimp only;rw [hd];exact K2)
 have K4:Has ([Zw g b gf n first count hand (some ⟨gp,0,none⟩) 1 cl,fmR gf n (Fs.set i {z with mark:=max z.mark mark,dirty:=true,p:=p,c:=c,b:=d}),lgR (some ⟨gp,0,none⟩) 1 cl [ifW gl]]++(daA (Fs.set i {z with mark:=max z.mark mark,dirty:=true,p:=p,c:=c,b:=d})::S)) k:=Has.under K3
 exact K4
theorem da_none (n:Nat) (l:List Wp):Sub l (daA (List.replicate n fm1)::l):=λ h H=>by
 refine ⟨λ _=>none,h,⟨λ _ => .inl rfl⟩,⟨λ _ _ e=>(by cases e)⟩,Piece.le_refl h,?_,H⟩
 show Has ((List.replicate n fm1).map fmD) _
 induction n with
 | zero=>trivial
 | succ n ih=>exact ⟨λ _=>none,λ _=>none,⟨λ _ => .inl rfl⟩,Piece.le_refl _,Piece.le_refl _,⟨by simp,.inl ⟨rfl,rfl⟩⟩,ih⟩
theorem map_fm1 (n:Nat):(List.replicate n fm1).map Fm.a=List.replicate n fa1:=by simp [Fm.a]
theorem FOk.new (count n:Nat) (h1:1<=n) (h2:n<=4096):FOk count n (List.replicate n fa1):=by
 have hx : ∀ x∈List.replicate n fa1,x=fa1:=λ x hx=>(List.mem_replicate.1 hx).2
 refine ⟨by simp,h1,h2,λ x h => .inl (hx x h),λ x h=>by rw [hx x h];exact ⟨by decide,by decide⟩,λ i j x y hi hj e h0=>?_⟩
 rw [hx x (List.mem_of_getElem? hi)] at h0
 exact absurd h0 (by decide)
def wrongP (sectors first count frames:Int):Prop:=first<0\/count<1\/sectors<count\/sectors-count<first\/frames<1\/4096<frames
instance (a b c d:Int):Decidable (wrongP a b c d):=by unfold wrongP;infer_instance
open Go.RowKit
end Go.Proofs.YtkfmfoecplbclaaGreatDoor
