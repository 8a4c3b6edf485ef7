/- The law WholePortion of annalstop holds (its card): for all arguments of bulk at most 1048576 the call returns true and the arguments read as before. Condition: the bound of the second form. -/
import Derived.Test.YtnnfjemaeefbiaaGreatDoorZWholePortion1
import Derived.Test.YtnnfjemaeefbiaaGreatDoorCards
import Derived.Test.YtnnfjemaeefbiaaGreatDoorTie
import Derived.Deep.DeepHandedRow
import Derived.Deep.DeepWitnessRowRef
import Derived.Lib.LaidU8
import Derived.Lib.LaidCaseMet
set_option linter.unusedSimpArgs false
set_option linter.unusedVariables false
set_option maxRecDepth 100000
set_option maxHeartbeats 16000000
namespace Go.Proofs.YtnnfjemaeefbiaaGreatDoor
open Go.ChangeShapes Go.WideShapes Go.ChangeAt Go.RowKit
section
variable {H : Type} {enc:TypeId×Value->H} {W:World}
def FqR (W:World) (cs:List Value) (x:Fq):Prop:=cs=fqC x/\FlV (baseOf W) [] vaC x.s x.row /\ ∀ v∈x.row,-9223372036854775808<=v.int/\v.int<9223372036854775808
theorem read_fq (n:Nat) (cs:List Value) (y:DataW H×List MemPlace) (h:Tr enc Tryz.prog W n 35 cs=some y) : ∃ x:Fq,FqR W cs x/\x.row.length+1<=Rows.uptoBulk y.1:=by
  obtain ⟨xs,m,rfl,rfl,hl,hx,hf⟩:=DataW.trod_struct Tryz.underlying35 h
  rw [show Tryz.prog.cellsOf 35=3 by kernel_rfl] at hl
  obtain ⟨c0,c1,c2,rfl⟩:=three_of hl
  obtain ⟨x0,x1,rfl⟩:=two_of hx
  have f0:=field_of hf 0 31 0 1 rfl
  have f1:=field_of hf 1 33 1 2 rfl
  simp only [List.drop_zero,List.drop_succ_cons,List.take_succ_cons,List.take_zero,List.getElem?_cons_zero,List.getElem?_cons_succ] at f0 f1
  obtain ⟨v0,l0,e0,hs,hB,hL⟩:=open_slice_R (R:=VaR) (B:=λ v=>v.text.length+1) Tryz.underlying31 (show Tryz.prog.cellsOf 24=3 by kernel_rfl) (by omega) (λ n cs y=>read_va n cs y) f0
  obtain ⟨ys,m',q,rfl,hl2,hy,hg⟩:=DataW.trod_struct Tryz.underlying33 f1
  obtain ⟨y0,y1,rfl⟩:=two_of hy
  have g0:=field_of hg 0 2 0 1 rfl
  have g1:=field_of hg 1 2 1 1 rfl
  simp only [List.drop_zero,List.drop_succ_cons,List.take_succ_cons,List.take_zero,List.getElem?_cons_zero,List.getElem?_cons_succ] at g0 g1
  obtain ⟨i1,⟨e1,b1,b2⟩,_⟩:=read_i64 Tryz.underlying2 _ _ _ g0
  obtain ⟨i2,⟨e2,b3,b4⟩,_⟩:=read_i64 Tryz.underlying2 _ _ _ g1
  simp only [List.cons.injEq,and_true] at e0 e1 e2
  subst e0;subst e1;subst e2
  refine ⟨⟨c0,l0,i1,i2⟩,⟨rfl,hs.flV (g:=vaC) (λ cs a h=>h.1) (λ _=>rfl),hs.okRow⟩,?_⟩
  simp only [List.map_cons,List.map_nil,Rows.uptoBulk,Rows.uptoBulkAll]
  omega
end
theorem fq_le {l:List Fq} {x:Fq} (h:x∈l):x.row.length<=(l.map λ x=>x.row.length+1).sum:=by
  induction l with
  | nil=>cases h
  | cons a l ih =>
    simp only [List.map_cons,List.sum_cons]
    rcases List.mem_cons.1 h with rfl | h
    . omega
    . have:=ih h;omega
theorem SliceAt.fct {W:World} {v:Value} {l:List Fq} (h:SliceAt W 3 (FqR W) v l) (hl:(l.map λ x=>x.row.length+1).sum<=1048576):FctV (baseOf W) [] v l :=
  ⟨h.flV (g:=fqC) (λ _ _ h=>h.1) (λ _=>rfl),λ x hx=>by
    have hb:=fq_le hx
    obtain ⟨i,hi,rfl⟩:=List.getElem_of_mem hx
    rcases h with ⟨_,h⟩ | ⟨a,cap,_,_,_,h⟩
    . rw [h] at hi;simp at hi
    . obtain ⟨cells,b,o,_,_,_,_,hR⟩:=h i hi
      exact ⟨by omega,hR.2.1⟩⟩
theorem SliceAt.len {W:World} {l:List Fq} {p:Option Addr} {m c:Nat} (h:SliceAt W 3 (FqR W) (.slice p m c) l):l.length=m:=by
  rcases h with ⟨e,rfl⟩ | ⟨a,cap,e,hl,_⟩
  . cases e;rfl
  . injection e with _ e2 _
    omega
noncomputable def laidWorld (os:Os):World :=
  let N:=(World.settled Tryz.prog os).heap.size
  let w0:=World.holding Tryz.prog os ⟨#[.cells Lib.caseCells5 (Tryz.upperL_ren.t 208)],#[],[]⟩
  let put (h:Array Obj) (g:Nat) (cs:Array Value):Array Obj:=h.modify g fun
    | .cells _ t frozen => .cells cs t frozen
    | o=>o
  let h1:=put w0.heap 2 (Lib.firstTab.map λ z=>Value.int .u8 z).toArray
  let h2:=put h1 3 ((List.range 16).flatMap λ i=>[Value.int .u8 (Lib.accLo i),Value.int .u8 (Lib.accHi i)]).toArray
  let h3:=put h2 1 #[.slice (some ⟨N,0,none⟩) 336 336]
  {w0 with heap:=h3}
theorem laid_met0 (os:Os) (args:Array Value):laidMet Tryz.prog ([("unicode/utf8.acceptRanges",Lib.acceptData),("unicode/utf8.first",Lib.firstData)]++[("unicode.CaseRanges",Lib.caseData)]) ((laidWorld os).forCall (λ _ _=>0) ⟨#[],args,[]⟩).memory :=
  laidMet_with_case (ρ:=Tryz.upperL_ren) {Tryz.upperL with} Tryz.upperL.t206 ⟨by kernel_rfl,by kernel_rfl,by kernel_rfl,by kernel_rfl,by kernel_rfl,by kernel_rfl⟩
    (l:=[("unicode/utf8.acceptRanges",Lib.acceptData),("unicode/utf8.first",Lib.firstData)])
    10 (by kernel_rfl) (by kernel_rfl) (by kernel_rfl) ((World.settled Tryz.prog default).heap.size) (Tryz.upperL_ren.t 208) (of_decide_eq_true (by kernel_rfl)) (by kernel_rfl) (by kernel_rfl) (by kernel_rfl)
theorem laid_swap {P:Program} {w:World} {a b c:String×DataW Unit} (h:laidMet P [a,b,c] w):laidMet P [a,c,b] w:=by
  obtain ⟨a1,a2⟩:=a
  obtain ⟨b1,b2⟩:=b
  obtain ⟨c1,c2⟩:=c
  obtain ⟨ps,hv,hn,hr⟩:=h
  obtain ⟨g,t,cs,fuel,p,q,h1,h2,h3,h4,h5,rfl⟩:=hv
  obtain ⟨g',t',cs',fuel',p',q',h1',h2',h3',h4',h5',rfl⟩:=h5
  obtain ⟨g2,t2,cs2,fuel2,p2,q2,h12,h22,h32,h42,h52,rfl⟩:=h5'
  cases h52
  have hp:(MemPlace.row ⟨g,0,none⟩ cs.size++p++(MemPlace.row ⟨g',0,none⟩ cs'.size++p'++(MemPlace.row ⟨g2,0,none⟩ cs2.size++p2++[]))).Perm (MemPlace.row ⟨g,0,none⟩ cs.size++p++(MemPlace.row ⟨g2,0,none⟩ cs2.size++p2++(MemPlace.row ⟨g',0,none⟩ cs'.size++p'++[]))):=by
    refine List.Perm.append_left _ ?_
    rw [List.append_nil,List.append_nil]
    exact List.perm_append_comm
  refine ⟨_,⟨g,t,cs,fuel,p,_,h1,h2,h3,h4,⟨g2,t2,cs2,fuel2,p2,_,h12,h22,h32,h42,⟨g',t',cs',fuel',p',[],h1',h2',h3',h4',rfl,rfl⟩,rfl⟩,rfl⟩,(hp.nodup_iff).1 hn,λ b off hb=>hr b off (hp.mem_iff.2 hb)⟩
theorem laid_met (os:Os) (args:Array Value):laidMet Tryz.prog [("unicode/utf8.acceptRanges",Rows.laid_unicode_utf8_acceptRanges),("unicode.CaseRanges",Rows.laid_unicode_CaseRanges),("unicode/utf8.first",Rows.laid_unicode_utf8_first)] ((laidWorld os).forCall (λ _ _=>0) ⟨#[],args,[]⟩).memory:=by
  have h:=laid_swap (laid_met0 os args)
  rw [show (Rows.laid_unicode_utf8_acceptRanges:DataW Unit)=Lib.acceptData by kernel_rfl,show Rows.laid_unicode_CaseRanges=Lib.caseData by kernel_rfl,show Rows.laid_unicode_utf8_first=Lib.firstData by kernel_rfl]
  exact h
end Go.Proofs.YtnnfjemaeefbiaaGreatDoor
namespace Go.Proofs.YtnnfjemaeefbiaaGreatDoor
open Go.ChangeShapes Go.WideShapes Go.ChangeAt Go.RowKit
section
variable {H : Type} {enc:TypeId×Value->H} {W:World}
def ChR (cs:List Value) (x:Str×Int×Int):Prop:=cs=[tV x.1,iV x.2.1,iV x.2.2]
theorem read_ch (n:Nat) (cs:List Value) (y:DataW H×List MemPlace) (h:Tr enc Tryz.prog W n 50 cs=some y) : ∃ x,ChR cs x/\x.1.length+1<=Rows.uptoBulk y.1:=by
  obtain ⟨xs,m,rfl,rfl,hl,hx,hf⟩:=DataW.trod_struct Tryz.underlying50 h
  rw [show Tryz.prog.cellsOf 50=3 by kernel_rfl] at hl
  obtain ⟨c0,c1,c2,rfl⟩:=three_of hl
  obtain ⟨x0,x1,rfl⟩:=two_of hx
  have f0:=field_of hf 0 9 0 1 rfl
  have f1:=field_of hf 1 33 1 2 rfl
  simp only [List.drop_zero,List.drop_succ_cons,List.take_succ_cons,List.take_zero,List.getElem?_cons_zero,List.getElem?_cons_succ] at f0 f1
  obtain ⟨s0,e0,hb0⟩:=read_str Tryz.underlying9 _ _ _ f0
  obtain ⟨ys,m',q,rfl,hl2,hy,hg⟩:=DataW.trod_struct Tryz.underlying33 f1
  obtain ⟨y0,y1,rfl⟩:=two_of hy
  have g0:=field_of hg 0 2 0 1 rfl
  have g1:=field_of hg 1 2 1 1 rfl
  simp only [List.drop_zero,List.drop_succ_cons,List.take_succ_cons,List.take_zero,List.getElem?_cons_zero,List.getElem?_cons_succ] at g0 g1
  obtain ⟨i1,⟨e1,b1,b2⟩,_⟩:=read_i64 Tryz.underlying2 _ _ _ g0
  obtain ⟨i2,⟨e2,b3,b4⟩,_⟩:=read_i64 Tryz.underlying2 _ _ _ g1
  simp only [List.cons.injEq,and_true] at e0 e1 e2
  subst e0;subst e1;subst e2
  refine ⟨⟨s0,i1,i2⟩,rfl,?_⟩
  simp only [List.map_cons,List.map_nil,Rows.uptoBulk,Rows.uptoBulkAll]
  omega
end
theorem SliceAt.inI {W:World} {v:Value} {l:List Fq} (h:SliceAt W 3 (FqR W) v l) : ∀ x∈l,∀ v∈x.row,-9223372036854775808<=v.int:=λ x hx v hv=>by
  obtain ⟨i,hi,rfl⟩:=List.getElem_of_mem hx
  rcases h with ⟨_,h⟩ | ⟨a,cap,_,_,_,h⟩
  . rw [h] at hi;simp at hi
  . obtain ⟨cells,b,o,_,_,_,_,hR⟩:=h i hi
    exact (hR.2.2 v hv).1
end Go.Proofs.YtnnfjemaeefbiaaGreatDoor
namespace Go.Proofs.YtnnfjemaeefbiaaGreatDoor.wholePortion
open Go.ChangeShapes Go.WideShapes Go.ChangeAt Go.RowKit
theorem bulk_three {H:Type} (a b c:DataW H):Rows.uptoBulkAll [a,b,c]=Rows.uptoBulk a+Rows.uptoBulk b+Rows.uptoBulk c:=by simp [Rows.uptoBulkAll];omega
theorem contract (H:Type) (enc:TypeId×Value->H) (W:World) (base:Nat) (args:Array Value) (ds gs:List (DataW H)) (before:List MemPlace)
    (hval : ∀ (j:Nat) t v,Tryz.f4.params[j]? = some t->args[j]? = some v->Value.okWide Tryz.prog W .any base t v)
    (hW:DataW.Whole enc Tryz.prog Tryz.f4.params.toList Rows.wholePortionSpec.vars false W args.toList ds gs before) (hk:Rows.uptoSmall H (ds++gs)=true) :
    Calls Tryz.prog 4 args W λ e W' => ∃ v,e = .returned v/\Rows.wholePortionSpec.post enc Tryz.prog Tryz.f4 false true false false W args v W':=by
  have hW0:=hW
  obtain ⟨p,q,hA0,hV,rfl,hfz,hnd⟩:=hW
  have hA:DataW.TrodAll enc Tryz.prog W 0 (λ _=>true) true Tryz.f4.params.toList args.toList ds p:=hA0
  rw [Tryz.params4] at hA hval
  obtain ⟨v0,v1,v2,d0,d1,d2,p0,p1,p2,rfl,rfl,rfl,h0,h1,h2⟩:=trodAll_three hA
  obtain ⟨rfl,rfl⟩:=trodVars_none hV
  have hbulk:=Tryz.upto_bound hk
  rw [List.append_nil] at hbulk
  clear hA0 hV hk
  obtain ⟨sa0,sl0,sc0,rfl⟩:=okWide_slice Tryz.underlying22 (hval 0 22 v0 rfl rfl)
  obtain ⟨fu0,t0⟩:=h0
  obtain ⟨sv0,l0,hc0,hs0,hB0,hL0⟩:=open_slice_R (enc:=enc) (P:=Tryz.prog) (W:=W) (R:=FqR W) (B:=λ x=>x.row.length+1) Tryz.underlying22 (show Tryz.prog.cellsOf 35=3 by kernel_rfl) (by omega) (λ n cs y=>read_fq n cs y) t0
  simp only [Value.cells,List.cons.injEq,and_true] at hc0
  subst hc0
  dsimp only at hB0 hL0
  obtain ⟨oc1,rfl,_,_⟩:=(show ∃ cs,v1 = .agg cs/\cs.size=Tryz.prog.cellsOf 50/\Row.okWide Tryz.prog W .any base 50 cs by have:=hval 1 50 v1 rfl rfl;simpa only [Value.okWide,Tryz.underlying50] using this)
  obtain ⟨fu1,t1⟩:=h1
  obtain ⟨⟨cw1,cf1,ct1⟩,ho1,hL1⟩:=read_ch _ _ _ t1
  unfold ChR at ho1
  simp only [Value.cells] at ho1
  obtain rfl:oc1 = #[tV cw1,iV cf1,iV ct1]:=by apply Array.toList_inj.1;rw [ho1]
  dsimp only at hL1
  obtain ⟨a2,rfl,rfl,rfl,wf2⟩:=open_int Tryz.underlying2 (hval 2 2 v2 rfl rfl) h2
  rw [bulk_three] at hbulk
  refine (Fn.law (Rc.portion (baseOf W) rfl sa0 sl0 sc0 l0 (hs0.fct (by omega)) hs0.len (by have:=hs0.len;omega) cw1 (by omega) (cf1,ct1) a2 hs0.inI)).mono λ e W' ⟨he,hg⟩=>?_
  subst he
  exact ⟨_,rfl,post_law Tryz.laidOut hW0 rfl rfl 4 Tryz.underlying4 (by kernel_rfl) (by rw [Tryz.params4];decide +kernel) hg⟩
theorem reads (os:Os) {H:Type} (enc:TypeId×Value->H) : ∃ places,DataW.whole enc Tryz.prog ((laidWorld os).forCall (λ _ _=>0) ⟨#[],#[.slice none 0 0,.agg #[.string .empty,.int .i64 0,.int .i64 0],.int .i64 0],[]⟩).memory Tryz.f4.params.toList Rows.wholePortionSpec.vars false (#[.slice none 0 0,.agg #[.string .empty,.int .i64 0,.int .i64 0],.int .i64 0]:Array Value).toList 8=some ([.nil,.agg [.lit (.string []),.agg [.lit (.int .i64 0),.lit (.int .i64 0)]],.lit (.int .i64 0)],[],places) :=
  ⟨[],by kernel_rfl⟩
theorem lifted (os:Os) (started:os.Started) (H:Type) (enc:TypeId×Value->H) (F:Stop.Interp) :
    ReturnsInHanded {} Tryz.checked os 4 .any ((Rows.OpenSpec.upto Rows.wholePortionSpec).preRow enc Tryz.prog Tryz.f4 Rows.wholePortionUptoRow.domain false Rows.wholePortionUptoRow.laid) (((Rows.OpenSpec.upto Rows.wholePortionSpec).at F).post enc Tryz.prog Tryz.f4 false true false false):=by
  obtain ⟨places,hx⟩:=reads os enc
  refine returnsInHanded_of_row (C:=Tryz.checked) (s:=Rows.OpenSpec.upto Rows.wholePortionSpec) Tryz.own started (by kernel_rfl) Tryz.func4
    (witness_row_atRef (enc:=enc) (C:=Tryz.checked) false (laidWorld os) #[.slice none 0 0,.agg #[.string .empty,.int .i64 0,.int .i64 0],.int .i64 0] rfl (by kernel_rfl) (by kernel_rfl) (by kernel_rfl)
      (OpenSpec.preRow_of_cond 8 hx (by kernel_rfl) (λ k hk=>by cases hk;kernel_rfl) (by kernel_rfl) (laid_met os _))) ?_
  intro W base args ds gs before hval hW _ hcond _ _ _ _
  exact contract H enc W base args ds gs before hval hW (hcond _ rfl)
theorem jA : (Rows.wholePortionUptoRow.inPlace == Tryz.prog.inPlace 4)=true:=by kernel_rfl
theorem jB : (Rows.wholePortionUptoRow.unfollowed == Tryz.prog.unfollowed 4)=true:=by kernel_rfl
theorem jC : (Rows.wholePortionUptoRow.recurses == Tryz.prog.recurses 4)=true:=by kernel_rfl
theorem jD : (Rows.wholePortionUptoRow.named == Tryz.prog.varsNamed 4)=true:=by kernel_rfl
theorem jE : laidOutB Tryz.prog=true:=by kernel_rfl
theorem jF : mapsRowed Tryz.prog=true:=by kernel_rfl
theorem jG : joinedFacts Tryz.prog 4 Tryz.f4 (Rows.OpenSpec.upto Rows.wholePortionSpec).bare Rows.wholePortionUptoRow=true:=by
  unfold joinedFacts
  rw [jA,jB,jC,jD,jE,jF]
  kernel_rfl
theorem over : Rows.wholePortionUptoRow.holds Tryz.pinned (Rows.OpenSpec.upto Rows.wholePortionSpec) :=
  OpenClaim.holds_of_cond 4 Tryz.f4 rfl rfl rfl rfl rfl rfl rfl ⟨rfl,rfl,rfl,rfl,rfl⟩ rfl rfl rfl rfl rfl (by kernel_rfl) Tryz.func4 jG
    (of_decide_eq_true (by kernel_rfl)) (by unfold Func.isWrapper;first | (rw [if_pos (by decide +kernel)];kernel_rfl) | (rw [if_neg (by decide +kernel)];exact ⟨rfl,rfl⟩))
    (λ os started H enc _ F=>by rw [OpenClaim.pre_eq_preRow];exact lifted os started H enc F)
theorem plain (f:FuncId) (fn:Func) (hf:Tryz.pinned.checked.prog.funcNamed "annals/annalstop.WholePortion" = some f) (hfn:Tryz.pinned.checked.prog.funcs[f]? = some fn) :
    true=Tryz.pinned.checked.prog.looks [] /\ ∀ (j:Nat) t,fn.params[j]? = some t->Tryz.pinned.checked.prog.wantsStandIn t=false:=by
  obtain rfl:f=4:=Option.some.inj ((show Tryz.prog.funcNamed "annals/annalstop.WholePortion" = some 4 by kernel_rfl).symm.trans hf) |>.symm
  obtain rfl:fn=Tryz.f4:=(Option.some.inj (Tryz.func4.symm.trans hfn)).symm
  refine ⟨by kernel_rfl,λ j t ht=>?_⟩
  rw [Tryz.params4] at ht
  have hall:([22,50,2]:List TypeId).all (λ t => !Tryz.prog.wantsStandIn t)=true:=by kernel_rfl
  have:=List.all_eq_true.1 hall t (by simpa using Array.mem_of_getElem? ht)
  exact (show Tryz.prog.wantsStandIn t=false by simpa using this)
theorem proved : Rows.WholePortionUptoCardSaid :=
  Claim7.holds_tied_plain_at .later [] _ _ _ _ over (λ _ h=>by cases h) (by kernel_rfl) (λ _ h=>by cases h) wholePortionUpto_row_tie rfl ⟨rfl,rfl⟩ (by kernel_rfl) rfl plain (by kernel_rfl)
end Go.Proofs.YtnnfjemaeefbiaaGreatDoor.wholePortion
