/- The law StoreHistory of annalslaw21 holds (its card): for all arguments of bulk at most 1048576 the call returns true and the arguments read as before. Condition: the bound of the second form. -/
import Derived.Test.YtjmjjfefchnkaaaGreatDoorZHyBase15
set_option linter.unusedSimpArgs false
set_option linter.unusedVariables false
set_option maxRecDepth 100000
set_option maxHeartbeats 16000000
namespace Go.Proofs.YtjmjjfefchnkaaaGreatDoor
open Go.RowKit
structure OpM where
 kind:Int
 stamp:Int
 ended:List (Int×Int)
 added:List PtM
 table:Int
 keep:List Bool
 t0:Int
 t1:Int
 ea:Option Addr
 ec:Nat
 aa:Option Addr
 ac:Nat
 ka:Option Addr
 kc:Nat
abbrev opC (o:OpM):List Value:=[.int .i64 o.kind,.int .i64 o.stamp,.slice o.ea o.ended.length o.ec,.slice o.aa o.added.length o.ac,.int .i64 o.table,.slice o.ka o.keep.length o.kc,.int .i64 o.t0,.int .i64 o.t1]
structure OpOk (B:Wn) (o:OpM):Prop where
 e:FlV B [] ridC (.slice o.ea o.ended.length o.ec) o.ended
 a:FlV B [] ptC (.slice o.aa o.added.length o.ac) o.added
 p : ∀ p∈o.added,PtOk B [] p
 k:RoS B (.slice o.ka o.keep.length o.kc) (boolsV o.keep)
abbrev szO (o:OpM):Nat:=o.ended.length+o.added.length+1
def sumO (l:List OpM):Nat:=(l.map szO).sum
theorem sumO_len : ∀ l:List OpM,l.length≤sumO l
 | []=>Nat.zero_le _
 | a::l=>by have:=sumO_len l;have h1:1≤szO a:=Nat.le_add_left 1 _;unfold sumO at this ⊢;simp only [List.length_cons,List.map_cons,List.sum_cons];omega
theorem sumO_take {l:List OpM} {i:Nat} {x:OpM} (h:l[i]? = some x):sumO (l.take (i+1))=sumO (l.take i)+szO x:=by
 rw [take_snoc h];unfold sumO;simp
theorem sumO_le (l:List OpM) (i:Nat):sumO (l.take i)≤sumO l:=by
 conv=>rhs;rw [←List.take_append_drop i l]
 unfold sumO
 rw [List.map_append,List.sum_append]
 omega
theorem PtOk.mono {B:Wn} {S S':List Wp} {p:PtM} (h:PtOk B S p) (hs : ∀ w,Own B w S'→Own B w S):PtOk B S' p:=⟨h.v.mono hs,h.f,h.t⟩
theorem ptsP_fx {B:Wn} {S:List Wp} {l:List PtM} (h : ∀ p∈l,PtOk B S p) : ∀ p∈ptsP l,-(2^63)≤p.1∧p.1<2^63∧FxRd p.2:=by
 intro p hp
 obtain ⟨q,hq,rfl⟩:=List.mem_map.1 hp
 have:=h q hq
 exact ⟨this.t.1,this.t.2,this.f⟩
theorem Sx.writeG (B:Wn) (S:List Wp) (s b logs count n K:Nat) (h:HR) (si:SI h count (logs*256)) (hc1:1≤count) (hc:count≤4096) (hcl:h.cm.length<2^32) (hla:h.last+1<2^62) (stamp:Int)
  (ea:Option Addr) (en ec:Nat) (ended:List (Int×Int)) (hel:ended.length=en) (hen:en≤2^20) (hev:FlV B S ridC (.slice ea en ec) ended)
  (pa:Option Addr) (m pc:Nat) (PL:List PtM) (hpl:PL.length=m) (hm:m≤2^20) (hpv:FlV B S ptC (.slice pa m pc) PL) (hpo : ∀ p∈PL,PtOk B S p) (K2:Nat) (hK2:K+2*count+2+2*en+(count+1)*m≤K2) (hK:K2<2^28) (g:HR) (hg:(if codeS h stamp ended (ptsP PL)=0 then (writeS h stamp ended ((ptsP PL).map fun p=>recD p.1 p.2)).1 else h)=g) :
  Fn Tryz.prog B 13 #[pV s,.int .i64 stamp,.slice ea en ec,.slice pa m pc] (stoA s b logs count n K h::S) (fun u l=>u = .int .i64 (codeS h stamp ended (ptsP PL))∧l=stoA s b logs count n K2 g::S) :=
 Fn.post (Sx.writeA B S s b logs count n K h si hc1 hc hcl hla stamp ea en ec ended hel hen hev pa m pc PL hpl hm hpv hpo K2 hK2 hK _ rfl) (by rintro u l ⟨rfl,rfl⟩;exact ⟨_,Sr _,rfl,by rw [hg]⟩)
end Go.Proofs.YtjmjjfefchnkaaaGreatDoor
namespace Go.Proofs.YtjmjjfefchnkaaaGreatDoor
open Go.ChangeShapes Go.WideShapes Go.ChangeAt Go.RowKit
section
variable {H : Type} {enc:TypeId×Value→H} {W:World}
theorem len7 {α:Type} {l:List α} (h:l.length=7) : ∃ a b c d e f g,l=[a,b,c,d,e,f,g]:=by
 match l,h with
 | [a,b,c,d,e,f,g],_=>exact ⟨a,b,c,d,e,f,g,rfl⟩
theorem len8 {α:Type} {l:List α} (h:l.length=8) : ∃ a b c d e f g i,l=[a,b,c,d,e,f,g,i]:=by
 match l,h with
 | [a,b,c,d,e,f,g,i],_=>exact ⟨a,b,c,d,e,f,g,i,rfl⟩
theorem len4 {α:Type} {l:List α} (h:l.length=4) : ∃ a b c d,l=[a,b,c,d]:=by
 match l,h with
 | [a,b,c,d],_=>exact ⟨a,b,c,d,rfl⟩
theorem read_boolsS (n:Nat) (c:Value) (y:DataW H×List MemPlace) (h:Tr enc Tryz.prog W n 32 [c]=some y) : ∃ (l:List Bool) (fp:List Nat),Reads W c (boolsV l) fp∧l.length+1≤Rows.uptoBulk y.1:=by
 obtain ⟨v,l,hc,hs,_,hL⟩:=open_slice_R (R:=fun cs (a:Bool)=>cs=[.bool a]) (B:=fun _=>1) Tryz.underlying32 (show Tryz.prog.cellsOf 4=1 by kernel_rfl) (by omega) (fun n cs y=>read_bool Tryz.underlying4 n cs y) h
 simp only [List.cons.injEq,and_true] at hc
 subst hc
 obtain ⟨fp,hR,hfp⟩:=hs.reads (fun a:Bool=>Value.bool a) (fun cs a h=>h)
 exact ⟨l,fp,hR,hL⟩
theorem read_rid (n:Nat) (cs:List Value) (y:DataW H×List MemPlace) (h:Tr enc Tryz.prog W n 45 cs=some y) : ∃ p:Int×Int,cs=ridC p∧1≤Rows.uptoBulk y.1:=by
 obtain ⟨xs,m,rfl,rfl,hl,hx,hf⟩:=DataW.trod_struct Tryz.underlying45 h
 rw [show Tryz.prog.cellsOf 45=2 by kernel_rfl] at hl
 obtain ⟨c0,c1,rfl⟩:=len2 hl
 obtain ⟨x0,x1,rfl⟩:=len2 hx
 have f0:=field_of hf 0 3 0 1 rfl (by kernel_rfl)
 have f1:=field_of hf 1 3 1 1 rfl (by kernel_rfl)
 simp only [List.drop_zero,List.drop_succ_cons,List.take_succ_cons,List.take_zero,List.getElem?_cons_zero,List.getElem?_cons_succ] at f0 f1
 obtain ⟨i0,e0,_,_⟩:=DataW.trod_int Tryz.underlying3 f0
 obtain ⟨i1,e1,_,_⟩:=DataW.trod_int Tryz.underlying3 f1
 simp only [List.cons.injEq,and_true] at e0 e1
 subst e0;subst e1
 exact ⟨(i0,i1),rfl,by simp [Rows.uptoBulk]⟩
def PtR (W:World) (cs:List Value) (p:PtM):Prop:=cs=ptC p∧(szF p.f≤1048576→PtOk (baseOf W) [] p)
theorem read_part (n:Nat) (cs:List Value) (y:DataW H×List MemPlace) (h:Tr enc Tryz.prog W n 60 cs=some y) : ∃ p:PtM,PtR W cs p∧szF p.f+1≤Rows.uptoBulk y.1:=by
 obtain ⟨xs,m,rfl,rfl,hl,hx,hf⟩:=DataW.trod_struct Tryz.underlying60 h
 rw [show Tryz.prog.cellsOf 60=4 by kernel_rfl] at hl
 obtain ⟨c0,c1,c2,c3,rfl⟩:=len4 hl
 obtain ⟨x0,x1,rfl⟩:=len2 hx
 have f0:=field_of hf 0 3 0 1 rfl (by kernel_rfl)
 have f1:=field_of hf 1 50 1 3 rfl (by kernel_rfl)
 simp only [List.drop_zero,List.drop_succ_cons,List.take_succ_cons,List.take_zero,List.getElem?_cons_zero,List.getElem?_cons_succ] at f0 f1
 obtain ⟨i0,⟨e0,b1,b2⟩,_⟩:=read_i64 Tryz.underlying3 _ _ _ f0
 obtain ⟨f,hR,hB⟩:=read_fact _ _ _ f1
 have hrd:=hR.rd
 obtain ⟨a,c,e1,hfl,_⟩:=hR
 simp only [List.cons.injEq,and_true] at e0 e1
 obtain ⟨rfl,rfl,rfl⟩:=e1
 subst e0
 refine ⟨⟨i0,f,a,c⟩,⟨rfl,fun hs=>⟨hfl,hrd hs,by dsimp only;omega⟩⟩,?_⟩
 simp only [List.map_cons,List.map_nil,Rows.uptoBulk,Rows.uptoBulkAll]
 omega
def szT (o:OpM):Nat:=o.ended.length+(o.added.map fun p=>szF p.f+1).sum+1
theorem sumP_len : ∀ l:List PtM,l.length≤(l.map fun p=>szF p.f+1).sum
 | []=>Nat.zero_le _
 | a::l=>by have:=sumP_len l;simp only [List.length_cons,List.map_cons,List.sum_cons];omega
theorem sumP_mem : ∀ {l:List PtM} {p:PtM},p∈l→szF p.f≤(l.map fun p=>szF p.f+1).sum
 | a::l,p,h=>by
  simp only [List.map_cons,List.sum_cons]
  rcases List.mem_cons.1 h with rfl | h
  · omega
  · have:=sumP_mem h;omega
theorem szO_le (o:OpM):szO o≤szT o:=by have:=sumP_len o.added;unfold szO szT;omega
theorem sumO_le_T : ∀ l:List OpM,sumO l≤(l.map szT).sum
 | []=>Nat.le_refl _
 | a::l=>by have:=sumO_le_T l;have:=szO_le a;unfold sumO at *;simp only [List.map_cons,List.sum_cons];omega
theorem szT_mem : ∀ {l:List OpM} {o:OpM},o∈l→szT o≤(l.map szT).sum
 | a::l,o,h=>by
  simp only [List.map_cons,List.sum_cons]
  rcases List.mem_cons.1 h with rfl | h
  · omega
  · have:=szT_mem h;omega
def OpR (W:World) (cs:List Value) (o:OpM):Prop:=cs=opC o∧(szT o≤1048576→OpOk (baseOf W) o)
theorem read_opS (n:Nat) (cs:List Value) (y:DataW H×List MemPlace) (h:Tr enc Tryz.prog W n 35 cs=some y) : ∃ o:OpM,OpR W cs o∧szT o≤Rows.uptoBulk y.1:=by
  obtain ⟨xs,m,rfl,rfl,hl,hx,hf⟩:=DataW.trod_struct Tryz.underlying35 h
  rw [show Tryz.prog.cellsOf 35=8 by kernel_rfl] at hl
  obtain ⟨c0,c1,c2,c3,c4,c5,c6,c7,rfl⟩:=len8 hl
  obtain ⟨x0,x1,x2,x3,x4,x5,x6,rfl⟩:=len7 hx
  have k0:Tryz.prog.cellsOf 3=1:=by kernel_rfl
  have f0:=field_of hf 0 3 0 1 rfl k0
  have f1:=field_of hf 1 2 1 1 rfl (by kernel_rfl)
  have f2:=field_of hf 2 30 2 1 rfl (by kernel_rfl)
  have f3:=field_of hf 3 31 3 1 rfl (by kernel_rfl)
  have f4:=field_of hf 4 3 4 1 rfl k0
  have f5:=field_of hf 5 32 5 1 rfl (by kernel_rfl)
  have f6:=field_of hf 6 33 6 2 rfl (by kernel_rfl)
  simp only [List.drop_zero,List.drop_succ_cons,List.take_succ_cons,List.take_zero,List.getElem?_cons_zero,List.getElem?_cons_succ] at f0 f1 f2 f3 f4 f5 f6
  obtain ⟨i0,e0,_,_⟩:=DataW.trod_int Tryz.underlying3 f0
  obtain ⟨i1,e1,_,_⟩:=DataW.trod_int Tryz.underlying2 f1
  obtain ⟨v2,l2,e2,hs2,_,hL2⟩:=open_slice_R (R:=fun cs p=>cs=ridC p) (B:=fun _=>1) Tryz.underlying30 (show Tryz.prog.cellsOf 45=2 by kernel_rfl) (by omega) (fun n cs y=>read_rid n cs y) f2
  obtain ⟨v3,l3,e3,hs3,hB3,_⟩:=open_slice_R (R:=PtR W) (B:=fun p=>szF p.f+1) Tryz.underlying31 (show Tryz.prog.cellsOf 60=4 by kernel_rfl) (by omega) (fun n cs y=>read_part n cs y) f3
  obtain ⟨i4,e4,_,_⟩:=DataW.trod_int Tryz.underlying3 f4
  obtain ⟨lk,fk,hk,hkl⟩:=read_boolsS _ _ _ f5
  obtain ⟨ys,m',e',e6,hl4,hy,hg⟩:=DataW.trod_array Tryz.underlying33 f6
  obtain ⟨y0,y1,rfl⟩:=len2 hy
  have g0:=hg 0 (by omega)
  have g1:=hg 1 (by omega)
  simp only [k0,Nat.zero_mul,Nat.one_mul,Nat.mul_one,List.drop_zero,List.drop_succ_cons,List.take_succ_cons,List.take_zero,List.getElem?_cons_zero,List.getElem?_cons_succ] at g0 g1
  obtain ⟨j0,q0,_,_⟩:=DataW.trod_int Tryz.underlying3 g0
  obtain ⟨j1,q1,_,_⟩:=DataW.trod_int Tryz.underlying3 g1
  simp only [List.cons.injEq,and_true] at e0 e1 e2 e3 e4 q0 q1
  subst e0;subst e1;subst e2;subst e3;subst e4;subst q0;subst q1
  have hf2:=hs2.flV (g:=ridC) (fun cs a h=>h) (fun _=>rfl)
  have hf3:=hs3.flV (g:=ptC) (fun cs a h=>h.1) (fun _=>rfl)
  obtain ⟨ea,ec,rfl⟩:=hf2.form rfl
  obtain ⟨aa,ac,rfl⟩:=hf3.form rfl
  have hkr:=RoS.ofReads hk
  obtain ⟨ka,kc,e,hk5⟩:=hkr
  rw [show (boolsV lk).length=lk.length by simp [boolsV]] at e
  subst e
  refine ⟨⟨i0,i1,l2,l3,i4,lk,j0,j1,ea,ec,aa,ac,ka,kc⟩,⟨rfl,fun hs=>⟨hf2,hf3,fun p hp=>?_,⟨ka,kc,by simp [boolsV],hk5⟩⟩⟩,?_⟩
  · obtain ⟨_,hR⟩:=hs3.all p hp
    have hq:szF p.f≤(l3.map fun p=>szF p.f+1).sum:=sumP_mem hp
    unfold szT at hs
    dsimp only at hs
    exact hR.2 (by omega)
  · unfold szT
    simp only [List.map_cons,List.map_nil,Rows.uptoBulk,Rows.uptoBulkAll]
    omega
end
open Go.RowKit
theorem flat_lenX (l:List Vx):(l.flatMap vxC).length=l.length*3:=by
 induction l with
 | nil=>rfl
 | cons a l ih=>rw [List.flatMap_cons,List.length_append,ih,List.length_cons];simp;omega
theorem FlV.itA {B:Wn} {x:ItM} (hc:3+x.it.f.row.length≤x.c):FlV B [itA x] vxC (.slice (offA (some ⟨x.g,0,none⟩) x.c 3 3) x.it.f.row.length (x.c-3)) x.it.f.row:=by
  by_cases n0:x.it.f.row=[]
  · exact ⟨_,_,rfl,.inl n0⟩
  · have hp:=List.length_pos_iff.2 n0
    refine ⟨_,_,rfl,.inr ⟨x.g,0+3*3,offA_some (by omega),fun w ho=>?_⟩⟩
    have h0:FlV B [Go.Proofs.YtjmjjfefchnkaaaGreatDoor.itA x] vxC (.slice (some ⟨x.g,0,none⟩) (3+x.it.f.row.length) x.c) (valsF x.it.t x.it.f):=FlV.row (l:=[]) (fun _=>rfl) (by omega) vals_len (fun _=>⟨_,rfl⟩)
    obtain ⟨a',k,e,h | ⟨b,o,e1,hr⟩⟩:=h0
    · have:=congrArg List.length h;rw [vals_len] at this;simp at this
    · injection e with e2 _ _
      rw [e1] at e2
      injection e2 with e2
      injection e2 with e3 e4
      subst e3;subst e4
      refine rangeAt_part (3*3) (hr w ho) fun j v hv=>?_
      show ((headX x.it.t x.it.f.fr x.it.f.to++x.it.f.row).flatMap vxC)[3*3+j]? = some v
      rw [List.flatMap_append,List.getElem?_append_right (by rw [flat_lenX];simp [headX]),flat_lenX]
      rw [show 3*3+j-(headX x.it.t x.it.f.fr x.it.f.to).length*3=j by simp [headX]]
      exact hv
open Go.RowKit
theorem SI.es_len {h:HR} {c rm:Nat} (s:SI h c rm):h.es.length≤rm:=by
 have h1:=s.r.ok.used
 have h2:=s.r.ok.le
 rw [s.room] at h2
 have h3 : ∀ l:List En,l.length≤(l.map enSz).sum:=by
  intro l
  induction l with
  | nil=>exact Nat.zero_le _
  | cons a l ih =>
   have:1≤enSz a:=by unfold enSz;omega
   simp only [List.length_cons,List.map_cons,List.sum_cons];omega
 have:=h3 h.es
 omega
theorem hist_step {h:HR} (si:SI h 8 3072) (hl:h.last+1<2^62) (h0:0≤h.last) (stamp:Int) (ended:List (Int×Int)) {ps:List (Int×Fx1)} (hf : ∀ p∈ps,-(2^63)≤p.1∧p.1<2^63∧FxRd p.2) (table:Int) :
    ∃ g,(if codeS h stamp ended ps=0 then (writeS h stamp ended (ps.map fun p=>recD p.1 p.2)).1 else h)=g∧SI g 8 3072∧0≤g.last∧g.last≤h.last+1∧g.cm.length≤h.cm.length+1∧lastS h≤lastS g∧(codeS h stamp ended ps=0→lastS g=stamp∧lastS h<stamp)∧(codeS h stamp ended ps≠0→lastS g=lastS h) ∧ ∀ at_,at_≤lastS h→(seeR g table at_).map keyI=(seeR h table at_).map keyI:=by
  by_cases hc:codeS h stamp ended ps=0
  · rw [if_pos hc]
    obtain ⟨h1,_,h3,_,s1,w⟩:=code_write si (by omega) hl hf hc
    have hls:=w.lastS
    refine ⟨_,rfl,s1,by rw [w.last];omega,by rw [w.last];omega,by rw [w.cm];simp,by rw [hls];omega,fun _=>⟨hls,h1⟩,fun q=>absurd hc q,fun at_ ha=>see_keep si s1 w h1 (ends_open h3) table ha⟩
  · rw [if_neg hc]
    exact ⟨h,rfl,si,h0,by omega,by omega,Int.le_refl _,fun q=>absurd q hc,fun _=>rfl,fun _ _=>rfl⟩
structure SeM where
 L:List ItM
 p:Option Addr
 c:Nat
abbrev seV (x:SeM):Value := .slice x.p x.L.length x.c
abbrev seA (x:SeM):Wp:=sepL [itR x.p x.L.length x.c x.L,itsA x.L]
def sesA (L:List SeM):Wp:=sepL (L.map seA)
abbrev seRow (p:Option Addr) (n c:Nat) (L:List SeM):Wp:=row (.slice p n c) 42 1 n (L.map seV)
theorem ses_snoc {L:List SeM} {x:SeM} {l:List Wp} {k:Piece} (H:Has (seA x::sesA L::l) k):Has (sesA (L++[x])::l) k:=by
 unfold sesA
 rw [List.map_append]
 exact sep_pushS H
theorem se_step {L:List SeM} {x:SeM} {p:Option Addr} {n c:Nat} {vs:List Value} (hv:vs=[seV x]) {l:List Wp} {k:Piece} (H:Has (itR x.p x.L.length x.c x.L::itsA x.L::sesA L::row (.slice p n c) 42 1 n (L.map seV++vs)::l) k):Has (sesA (L++[x])::seRow p n c (L++[x])::l) k:=by
 have H1:=ses_snoc (Has.close_sepL (l:=[itR x.p x.L.length x.c x.L,itsA x.L]) H)
 subst hv
 unfold seRow
 rw [List.map_append]
 exact H1
theorem Has.se_pop {L:List SeM} {i:Nat} {x:SeM} (hx:L[i]? = some x) {l:List Wp} {k:Piece} (H:Has (sesA (L.drop i)::l) k):Has (itR x.p x.L.length x.c x.L::itsA x.L::sesA (L.drop (i+1))::l) k:=by
 unfold sesA at H
 rw [drop_one hx,List.map_cons] at H
 have H1:=Wt (fun _ q=>Has.close_sepL q) (Has.open_sepL H:Has (seA x::((L.drop (i+1)).map seA++l)) k)
 exact Has.open_sepL (l:=[itR x.p x.L.length x.c x.L,itsA x.L]) H1
theorem Own.seNil {B:Wn} {w:World} {l:List Wp} (H:Own B w l):Own B w (row (.slice none 0 0) 2 1 0 (([]:List Int).map zV)::seRow none 0 0 []::sesA []::l):=H.map fun _ K=>rowNilP (rowNilP (sep_nilS K))
theorem Sx.elemS : ElemOk Tryz.prog 29 42 1 24 := .mk' (.slice none 0 0) Tryz.underlying29 (by kernel_rfl) rfl (by omega)
theorem Sx.elemZ : ElemOk Tryz.prog 28 2 1 8 := .mk' (.int .i64 0) Tryz.underlying28 (by kernel_rfl) rfl (by omega)
def SeenOk (h:HR) (table:Int) (ST:List Int) (SE:List SeM):Prop:=ST.length=SE.length ∧ ∀ (i:Nat) (a:Int) (x:SeM),ST[i]? = some a→SE[i]? = some x→a≤lastS h∧(x.L.map (·.it)).map keyI=(seeR h table a).map keyI ∧ ∀ y∈x.L,y.it.til=0
theorem SeenOk.keep {h g:HR} {table:Int} {ST:List Int} {SE:List SeM} (s:SeenOk h table ST SE) (hl:lastS h≤lastS g) (hk : ∀ a,a≤lastS h→(seeR g table a).map keyI=(seeR h table a).map keyI):SeenOk g table ST SE :=
 ⟨s.1,fun i a x h1 h2=>by
  obtain ⟨k1,k2,k3⟩:=s.2 i a x h1 h2
  exact ⟨Int.le_trans k1 hl,by rw [hk a k1];exact k2,k3⟩⟩
theorem SeenOk.snoc {h:HR} {c rm:Nat} (si:SI h c rm) {table:Int} {ST:List Int} {SE:List SeM} (s:SeenOk h table ST SE) {x:SeM} (hx:x.L.map (·.it)=seeR h table (lastS h)):SeenOk h table (ST++[lastS h]) (SE++[x]):=by
  refine ⟨by simp [s.1],fun i a y h1 h2=>?_⟩
  by_cases q:i<ST.length
  · rw [List.getElem?_append_left q] at h1
    rw [List.getElem?_append_left (by rw [←s.1];exact q)] at h2
    exact s.2 i a y h1 h2
  · have hi:i=ST.length:=by have:=(List.getElem?_eq_some_iff.1 h1).1;simp at this;omega
    subst hi
    rw [List.getElem?_append_right (Nat.le_refl _)] at h1
    rw [s.1,List.getElem?_append_right (Nat.le_refl _)] at h2
    simp at h1 h2
    subst h1;subst h2
    refine ⟨Int.le_refl _,by rw [hx],fun z hz=>?_⟩
    exact si.seen (table:=table) (by rw [←hx];exact List.mem_map_of_mem hz)
open Go.RowKit
theorem row_len {h:HR} {c rm:Nat} (s:SI h c rm) {table:Int} {i:It} (hi:i∈histR h table):i.f.row.length≤184:=by
 obtain ⟨v,hv,rfl⟩:=hist_mem hi
 obtain ⟨t,f,hx,hd⟩:=s.rc v (s.mem.1 hv)
 rw [itemR_rec hx hd]
 have h1:=(encL_len hx.vals).1
 have h2:=hx.len
 have h3:=vals_len (t:=t) (f:=f)
 show f.row.length≤184
 omega
theorem see_hist {h:HR} {table at_:Int} {i:It} (hi:i∈seeR h table at_):i∈histR h table:=(List.mem_filter.1 hi).1
theorem see_len30 {h:HR} {c rm:Nat} (s:SI h c rm) (hc:c≤4096) (table at_:Int):(seeR h table at_).length<2^30:=Nat.lt_of_le_of_lt (List.length_filter_le _ _) (hist_len s hc table)
theorem it_cell {L:List ItM} {k:Nat} {y:ItM} (hy:L[k]? = some y) (f:Nat) {v:Value} (hv:(itC y)[f]? = some v):(L.flatMap itC)[0+k*7+f]? = some v:=by
 obtain ⟨h1,h2⟩:=List.getElem?_eq_some_iff.1 hy
 exact flat_cell itC 7 L (fun _ _=>rfl) k f h1 (by rw [h2];exact hv)
theorem keys_at {M X:List ItM} (h:(X.map (·.it)).map keyI=(M.map (·.it)).map keyI) {k:Nat} {y z:ItM} (hz:X[k]? = some z) (hy:M[k]? = some y):z.it.page=y.it.page∧z.it.slot=y.it.slot∧z.it.f=y.it.f∧z.it.since=y.it.since:=by
 have h1:=congrArg (·[k]?) h
 simp only [List.getElem?_map,hz,hy,Option.map_some] at h1
 injection h1 with h1
 unfold keyI at h1
 simp only [Prod.mk.injEq] at h1
 exact ⟨h1.1,h1.2.1,h1.2.2.2.1,h1.2.2.2.2⟩
theorem Sx.histLaw (B:Wn) (sa:Option Addr) (n sc:Nat) (L:List OpM) (hn:L.length=n) (hs:sumO L≤1048576) (hv:FlV B [] opC (.slice sa n sc) L) (ho : ∀ o∈L,OpOk B o) (tb:Int) (htb : -(2^63)≤tb∧tb<2^63) :
  Fn Tryz.prog B 3 #[.slice sa n sc,.int .i64 tb] [] (fun v l=>v = .bool true∧l=[]):=by
 have hnl:=sumO_len L
 refine Wr 217 Tryz.func3 rfl rfl (nB rfl) (fun F=>?_)
 try simp only [cA,nA]
 refine TS (La rfl rfl (Ld (Ts (TS ?_))))
 refine Le rfl (Ec (Sx.awake B) Tryz.func8 rfl rfl rfl ?_)
 rintro _ _ ⟨rfl,rfl⟩
 try simp only [cA,nA]
 refine Lq rfl (Y2 rfl) (Ld (yQ rfl (Tk (TS ?_))))
 refine Le rfl (Ec (Sx.opened B) Tryz.func9 rfl rfl rfl ?_)
 rintro _ _ ⟨b,s0,rfl,rfl⟩
 try simp only [cA,nA]
 refine Lm rfl rfl (Lq rfl (Qx rfl rfl) (Lq rfl (Qx rfl rfl) (La rfl rfl (La rfl rfl (Ld (Ts (Ts ?_)))))))
 refine TR (Lm rfl rfl (Lq rfl (Y1 (by kernel_rfl) rfl rfl) (Lm rfl rfl (yT (t:=29) rfl rfl (Lm rfl rfl (Lq rfl (yM rfl rfl) (Lq rfl (Qp rfl rfl) ?_)))))))
 refine Ld ?_
 refine yN rfl (fun z1=>?_) (fun z1=>?_)
 ·
  refine TS (Lm rfl rfl (Lq rfl (YZ (by kernel_rfl) rfl rfl) (La rfl rfl (Ld (T.ret ?_)))))
  exact ⟨.inl rfl,_,_,res [_] rfl ⟨rvT rfl,trivial⟩,⟨rfl,rfl⟩,Sa⟩
 refine T.conv (fun w ho=>ho.seNil) (Tk (TS (La rfl rfl (Ld (TS ?_)))))
 refine La rfl rfl (Ld (Ts (TS (Lm rfl rfl (Lq rfl (yI (e:=35) (sz:=8) (by kernel_rfl) rfl) (Lm rfl rfl ?_))))))
 refine Ld (yH ?_)
 refine zG (fun mz fz lz => ∃ (f0:Fr) (i K s nf:Nat) (h:HR) (ST:List Int) (SE:List SeM) (p1 p2:Option Addr) (c1 c2:Nat),(i≤n∧K≤4000+100*i+9*sumO (L.take i)∧SI h 8 3072∧0≤h.last∧h.last≤i∧h.cm.length≤i∧ST.length=i∧SeenOk h tb ST SE)∧mz=n-i∧fz=(upd (upd (upd (upd (upd (upd (upd (upd f0 1 (.int .i64 tb)) 5 (pV b)) 6 (pV s)) 7 (.slice p1 i c1)) 8 (.slice p2 i c2)) 35 (.slice sa n sc)) 36 (.int .i64 n)) 37 (.int .i64 i))∧lz=row (.slice p1 i c1) 2 1 i (ST.map zV)::seRow p2 i c2 SE::sesA SE::stoA s b 12 8 nf K h::F) ?_ ?_
 · refine ⟨_,_,⟨_,0,16,s0,3,newR 8 3072,[],[],none,none,0,0,⟨Nat.zero_le _,by omega,SI.new 8 3072,by simp [newR],by simp [newR],by simp [newR],rfl,rfl,fun i a x h1=>by simp at h1⟩,rfl,(Za rfl (Za rfl (Za rfl (Za rfl (Za rfl (Za rfl (Za rfl (Za rfl rfl)))))))),rfl⟩,Sa⟩
 rintro mz fz lz ⟨f0,i,K,s,nf,h,ST,SE,p1,p2,c1,c2,⟨hi,hK,si,hl0,hli,hcl,hSTl,hse⟩,hmz,rfl,rfl⟩
 subst mz
 have hsl:=sumO_le L i
 refine TS (Lq rfl (yM rfl rfl) (Ld (Ts ?_)))
 refine yN rfl (fun hlt=>?_) (fun hlt=>?_)
 ·
  obtain ⟨bo,oo,rfl,hrd⟩:=hv.at (sz:=8) (fun _=>rfl) (by omega)
  obtain ⟨y,hy⟩ : ∃ y,L[i]? = some y:=⟨_,List.getElem?_eq_getElem (by omega)⟩
  have hyo:=ho y (List.mem_of_getElem? hy)
  have hst:=sumO_take hy
  have hso:szO y=y.ended.length+y.added.length+1:=rfl
  have hsl2:=sumO_le L (i+1)
  refine Tk (Ts (yH (TS (Lq rfl (Qi _ (e:=35) (sz:=8) (by kernel_rfl) rfl rfl rfl (by omega)) (Lq rfl (Qt.loadAggW (opC y) (by kernel_rfl) rfl (fun w ho=>hrd i y hy w (ho.map Sa))) ?_)))))
  refine Le rfl (El [.int .i64 0,.int .i64 0,.slice none 0 0,.slice none 0 0,.int .i64 0,.slice none 0 0,.int .i64 0,.int .i64 0] (by unfold Zf;kernel_rfl) ?_)
  intro g10
  refine L0 rfl (Es [_,_,_,_,_,_,_,_] (by kernel_rfl) rfl rfl rfl rfl (by simp) ?_)
  try simp only [splice,lC,lN,dS,cA,tS,tZ,dZ,nA,aN]
  refine Ld (Ts (TS (Lq rfl (Q0 (by kernel_rfl) rfl) (Lq rfl (Ql (by kernel_rfl) rfl rfl) (Lq rfl (yU rfl rfl) (Ld ?_))))))
  refine yN rfl (fun hkc=>?_) (fun hkc=>?_)
  ·
   refine TS (Lm rfl rfl ?_)
   refine Le rfl (Ec (Sx.crash B s b 12 8 nf K h si (by omega) (.slice none 0 0) [] (-1) 0 (RoS.nil B)) Tryz.func10 rfl rfl rfl ?_)
   rintro _ _ ⟨D,rd,rfl,rfl⟩
   try simp only [cA,nA]
   refine Ld (TS (Lm rfl rfl ?_))
   have hel:=si.es_len
   refine Le rfl (Ec (Sx.again B b D 12 8 2 i 12 2 rfl rfl h si rd (by omega) (by omega) (by omega) (by omega) (by omega) hli (by omega)) Tryz.func11 rfl rfl rfl ?_)
   rintro _ _ ⟨s2,rfl,rfl⟩
   try simp only [cA,nA]
   refine Lm rfl rfl (Lq rfl (Qx rfl rfl) (Lq rfl (Qx rfl rfl) (La rfl rfl (La rfl rfl (Ld (Ts (Ts ?_)))))))
   refine TR (Lm rfl rfl (Lq rfl (Y1 (by kernel_rfl) rfl rfl) (Lm rfl rfl (yT (t:=53) rfl rfl (Lm rfl rfl (Lq rfl (yW rfl rfl) (Lq rfl (Qp rfl rfl) ?_)))))))
   refine Ld (yQ rfl ?_)
   obtain ⟨g,hg⟩ : ∃ g,reopen 8 (12*256) h.es=g:=⟨_,rfl⟩
   have hsi2:=si.re
   have hg0:=si.re_last
   have hgc:=congrArg List.length si.re_cm
   have hse2:=hse.keep (g:=reopen 8 3072 h.es) (by rw [si.re_lastS];exact Int.le_refl _) (fun a _=>by rw [si.re_see])
   rw [show reopen 8 3072 h.es=g from hg] at hsi2 hg0 hgc hse2
   rw [hg]
   obtain ⟨hg1,hg0⟩:=hg0
   refine Tk (TR (Lm rfl rfl (La rfl rfl (Ld (TS (Lm rfl rfl ?_))))))
   refine Lm rfl rfl ?_
   refine Le rfl (Ec (Sx.last B s2 b 12 8 2 (i+8+h.es.length+8) g) Tryz.func12 rfl rfl rfl ?_)
   rintro _ _ ⟨rfl,rfl⟩
   try simp only [cA,nA]
   refine Le rfl (zK [_] (e:=2) (sz:=1) (by kernel_rfl) ⟨.int .i64 0,by kernel_rfl,rfl⟩ rfl rfl rfl (by omega) (by omega) ?_)
   intro g96
   refine Le rfl (Ea Sx.elemZ rfl rfl (SrcOf.blk (by kernel_rfl) rfl (by simp [Value.oneCell'])) (by unfold maxLen;omega) (by omega) ?_)
   rintro q1 d1 hq1
   rw [show ST.map zV++[Value.int .i64 (lastS g)]=(ST++[lastS g]).map zV by simp]
   refine La rfl rfl (Ld (TR (Lm rfl rfl (Lm rfl rfl (Lm rfl rfl (Lm rfl rfl ?_))))))
   refine Le rfl (Ec (Sx.last B s2 b 12 8 2 (i+8+h.es.length+8) g) Tryz.func12 rfl rfl rfl ?_)
   rintro _ _ ⟨rfl,rfl⟩
   try simp only [cA,nA]
   refine Le rfl (Ec (Sx.see B s2 b 12 8 2 (i+8+h.es.length+8) g hsi2 (by omega) (by omega) tb (lastS g)) Tryz.func14 rfl rfl rfl ?_)
   rintro _ _ ⟨M,pm,cm,hM,rfl,rfl⟩
   try simp only [cA,nA]
   refine Le rfl (zK [_] (e:=42) (sz:=1) (by kernel_rfl) ⟨.slice none 0 0,by kernel_rfl,rfl⟩ rfl rfl rfl (by omega) (by omega) ?_)
   intro g104
   refine Le rfl (Ea Sx.elemS rfl rfl (SrcOf.blk (by kernel_rfl) rfl (by simp [Value.oneCell'])) (by unfold maxLen;omega) (by omega) ?_)
   rintro q2 d2 hq2
   refine La rfl rfl (Ld (TR (Lq rfl (Qd rfl rfl (Ze (by omega) (by omega))) (Lm rfl rfl (Ld ?_)))))
   have hse3:=hse2.snoc hsi2 (x:=⟨M,pm,cm⟩) hM
   have hstep:=fun k=>se_step (L:=SE) (x:=⟨M,pm,cm⟩) (p:=q2) (n:=i+1) (c:=d2) (vs:=[.slice pm M.length cm]) rfl (l:=row (.slice q1 (i+1) d1) 2 1 (i+1) ((ST++[lastS g]).map zV)::stoA s2 b 12 8 2 (i+8+h.es.length+8+8) g::F) (k:=k)
   refine ⟨_,?_,_,⟨_,i+1,i+8+h.es.length+8+8,s2,2,g,ST++[lastS g],SE++[⟨M,pm,cm⟩],q1,q2,d1,d2,⟨by omega,by omega,hsi2,hg0,by omega,by omega,by simp [hSTl],hse3⟩,rfl,(Za rfl (Za rfl (Za rfl (Za rfl (Za rfl (Za rfl (Za rfl (Za rfl rfl)))))))),rfl⟩,(fun k Q=>Sa k (hstep k (Sa k Q)))⟩
   omega
  refine TS (Lm rfl rfl ?_)
  refine Le rfl (Ec (Sx.last B s b 12 8 nf K h) Tryz.func12 rfl rfl rfl ?_)
  rintro _ _ ⟨rfl,rfl⟩
  try simp only [cA,nA]
  refine La rfl rfl (Ld (TS (Lm rfl rfl (Lq rfl (Qf (off:=1) (by kernel_rfl) rfl) (Lq rfl (Ql (by kernel_rfl) rfl rfl) (Lq rfl (Qf (off:=2) (by kernel_rfl) rfl) ?_))))))
  refine Lq rfl (Ql (by kernel_rfl) rfl rfl) (Lq rfl (Qf (off:=3) (by kernel_rfl) rfl) (Lq rfl (Ql (by kernel_rfl) rfl rfl) ?_))
  obtain ⟨g,hg,hsi2,hg0,hgl,hgc,hgm,hg1,hg2,hgk⟩:=hist_step si (by omega) hl0 y.stamp y.ended (ptsP_fx (fun q hq=>hyo.p q hq)) tb
  refine Le rfl (Ec (Sx.writeG B [] s b 12 8 nf K h si (by omega) (by omega) (by omega) (by omega) y.stamp y.ea y.ended.length y.ec y.ended rfl (by omega) hyo.e y.aa y.added.length y.ac y.added rfl (by omega) hyo.a hyo.p (K+80+9*(y.ended.length+y.added.length)) (by omega) (by omega) g hg) Tryz.func13 rfl rfl rfl ?_)
  rintro _ _ ⟨rfl,rfl⟩
  try simp only [cA,nA]
  refine La rfl rfl (Ld (Ts ?_))
  have hse2:=hse.keep hgm hgk
  by_cases hcode:codeS h y.stamp y.ended (ptsP y.added)=0
  ·
   obtain ⟨e1,e2⟩:=hg1 hcode
   refine T.draw 25 ([blk g10 (opC y) 35]) (by kernel_rfl) (nB rfl) (by kernel_rfl) (Rq 0 rfl rfl (by kernel_rfl) Sa (Qm rfl) (Rq 1 rfl rfl (by kernel_rfl) Sa (yU rfl rfl) (Rq 2 rfl rfl (by kernel_rfl) Sa (Qm rfl) (YY (t:=70) rfl (decide_eq_true (by omega)) (Rq 3 rfl rfl (by kernel_rfl) Sa (Qm rfl) (Rq 5 rfl rfl (by kernel_rfl) Sa (Qf (off:=1) (by kernel_rfl) rfl) (Rq 6 rfl rfl (by kernel_rfl) Sa (Ql (by kernel_rfl) rfl rfl) ?_)))))))
   refine yK 4 (by kernel_rfl) ?_
   refine z6 rfl rfl (Ec (Sx.last B s b 12 8 nf (K+80+9*(y.ended.length+y.added.length)) g) Tryz.func12 rfl rfl rfl ?_)
   rintro _ _ ⟨rfl,rfl⟩
   try simp only [cA,nA]
   rw [e1]
   refine ⟨Sa,?_⟩
   refine Rq 7 rfl rfl (by kernel_rfl) Sa (yW rfl rfl) (Rq 8 rfl rfl (by kernel_rfl) Sa (Qm rfl) (ZD (t:=76) rfl (decide_eq_false (by omega)) (Rq 9 rfl rfl (by kernel_rfl) Sa (Qf (off:=1) (by kernel_rfl) rfl) (Rq 10 rfl rfl (by kernel_rfl) Sa (Ql (by kernel_rfl) rfl rfl) (Rq 11 rfl rfl (by kernel_rfl) Sa (Qm rfl) (Rq 12 rfl rfl (by kernel_rfl) Sa (YF rfl rfl) (Rq 13 rfl rfl (by kernel_rfl) Sa (Qp rfl rfl) ?_)))))))
   refine Rq 14 rfl rfl (by kernel_rfl) Sa (Qp rfl rfl) (Rq 15 rfl rfl (by kernel_rfl) Sa (Qm rfl) (ZD (t:=83) rfl (decide_eq_false (by omega)) (Rq 16 rfl rfl (by kernel_rfl) Sa (Qm rfl) (Rq 17 rfl rfl (by kernel_rfl) Sa (yW rfl rfl) (Rq 18 rfl rfl (by kernel_rfl) Sa (Qm rfl) (ZD (t:=86) rfl (decide_eq_false (by omega)) (yY 19 rfl rfl (by kernel_rfl) Sa ?_)))))))
   refine yY 20 rfl rfl (by kernel_rfl) Sa (yY 21 rfl rfl (by kernel_rfl) Sa (yY 22 rfl rfl (by kernel_rfl) Sa (Rq 23 rfl rfl (by kernel_rfl) Sa (Qp rfl rfl) (Rq 24 rfl rfl (by kernel_rfl) Sa (Qp rfl rfl) (Rd0 (by rfl) ?_)))))
   simp only [dS,dZ,dN]
   refine Ld (yQ rfl (Tk (TS (Lm rfl rfl (Lm rfl rfl ?_)))))
   refine Le rfl (Ec (Sx.last B s b 12 8 nf (K+80+9*(y.ended.length+y.added.length)) g) Tryz.func12 rfl rfl rfl ?_)
   rintro _ _ ⟨rfl,rfl⟩
   try simp only [cA,nA]
   refine Le rfl (zK [_] (e:=2) (sz:=1) (by kernel_rfl) ⟨.int .i64 0,by kernel_rfl,rfl⟩ rfl rfl rfl (by omega) (by omega) ?_)
   intro g96
   refine Le rfl (Ea Sx.elemZ rfl rfl (SrcOf.blk (by kernel_rfl) rfl (by simp [Value.oneCell'])) (by unfold maxLen;omega) (by omega) ?_)
   rintro q1 d1 hq1
   rw [show ST.map zV++[Value.int .i64 (lastS g)]=(ST++[lastS g]).map zV by simp]
   refine La rfl rfl (Ld (TR (Lm rfl rfl (Lm rfl rfl (Lm rfl rfl (Lm rfl rfl ?_))))))
   refine Le rfl (Ec (Sx.last B s b 12 8 nf (K+80+9*(y.ended.length+y.added.length)) g) Tryz.func12 rfl rfl rfl ?_)
   rintro _ _ ⟨rfl,rfl⟩
   try simp only [cA,nA]
   refine Le rfl (Ec (Sx.see B s b 12 8 nf (K+80+9*(y.ended.length+y.added.length)) g hsi2 (by omega) (by omega) tb (lastS g)) Tryz.func14 rfl rfl rfl ?_)
   rintro _ _ ⟨M,pm,cm,hM,rfl,rfl⟩
   try simp only [cA,nA]
   refine Le rfl (zK [_] (e:=42) (sz:=1) (by kernel_rfl) ⟨.slice none 0 0,by kernel_rfl,rfl⟩ rfl rfl rfl (by omega) (by omega) ?_)
   intro g104
   refine Le rfl (Ea Sx.elemS rfl rfl (SrcOf.blk (by kernel_rfl) rfl (by simp [Value.oneCell'])) (by unfold maxLen;omega) (by omega) ?_)
   rintro q2 d2 hq2
   refine La rfl rfl (Ld (TR (Lq rfl (Qd rfl rfl (Ze (by omega) (by omega))) (Lm rfl rfl (Ld ?_)))))
   have hse3:=hse2.snoc hsi2 (x:=⟨M,pm,cm⟩) hM
   have hstep:=fun k=>se_step (L:=SE) (x:=⟨M,pm,cm⟩) (p:=q2) (n:=i+1) (c:=d2) (vs:=[.slice pm M.length cm]) rfl (l:=row (.slice q1 (i+1) d1) 2 1 (i+1) ((ST++[lastS g]).map zV)::stoA s b 12 8 nf (K+80+9*(y.ended.length+y.added.length)+8) g::F) (k:=k)
   refine ⟨_,?_,_,⟨_,i+1,K+80+9*(y.ended.length+y.added.length)+8,s,nf,g,ST++[lastS g],SE++[⟨M,pm,cm⟩],q1,q2,d1,d2,⟨by omega,by omega,hsi2,hg0,by omega,by omega,by simp [hSTl],hse3⟩,rfl,(Za rfl (Za rfl (Za rfl (Za rfl (Za rfl (Za rfl (Za rfl (Za rfl rfl)))))))),rfl⟩,(fun k Q=>Sa k (hstep k (Sa k Q)))⟩
   omega
  have e1:=hg2 hcode
  refine T.draw 25 ([blk g10 (opC y) 35]) (by kernel_rfl) (nB rfl) (by kernel_rfl) (Rq 0 rfl rfl (by kernel_rfl) Sa (Qm rfl) (Rq 1 rfl rfl (by kernel_rfl) Sa (yU rfl rfl) (Rq 2 rfl rfl (by kernel_rfl) Sa (Qm rfl) (ZD (t:=70) rfl (decide_eq_false (by omega)) (yY 3 rfl rfl (by kernel_rfl) Sa (yY 4 rfl rfl (by kernel_rfl) Sa (yY 5 rfl rfl (by kernel_rfl) Sa ?_)))))))
  refine yY 6 rfl rfl (by kernel_rfl) Sa (yY 7 rfl rfl (by kernel_rfl) Sa (yY 8 rfl rfl (by kernel_rfl) Sa (yY 9 rfl rfl (by kernel_rfl) Sa (yY 10 rfl rfl (by kernel_rfl) Sa (yY 11 rfl rfl (by kernel_rfl) Sa (yY 12 rfl rfl (by kernel_rfl) Sa (yY 13 rfl rfl (by kernel_rfl) Sa ?_)))))))
  refine Rq 14 rfl rfl (by kernel_rfl) Sa (Qp rfl rfl) (Rq 15 rfl rfl (by kernel_rfl) Sa (Qm rfl) (ZD (t:=83) rfl rfl (Rq 16 rfl rfl (by kernel_rfl) Sa (Qm rfl) (Rq 17 rfl rfl (by kernel_rfl) Sa (yW rfl rfl) (Rq 18 rfl rfl (by kernel_rfl) Sa (Qm rfl) (YY (t:=86) rfl (decide_eq_true (by omega)) (Rq 19 rfl rfl (by kernel_rfl) Sa (Qm rfl) ?_)))))))
  refine Rq 21 rfl rfl (by kernel_rfl) Sa (Qm rfl) (yK 20 (by kernel_rfl) ?_)
  refine zY rfl rfl (by kernel_rfl) (Ec (Sx.last B s b 12 8 nf (K+80+9*(y.ended.length+y.added.length)) g) Tryz.func12 rfl rfl rfl ?_)
  rintro _ _ ⟨rfl,rfl⟩
  try simp only [cA,nA]
  rw [e1]
  refine Rq 22 rfl rfl (by kernel_rfl) (Sr _) (yW rfl rfl) (Rq 23 rfl rfl (by kernel_rfl) (Sr _) (Qp rfl rfl) (Rq 24 rfl rfl (by kernel_rfl) (Sr _) (Qp rfl rfl) (Rd0 (by rfl) ?_)))
  simp only [dS,dZ,dN]
  refine Ld (yL rfl (by omega) (Tk (TS (Lm rfl rfl (Lm rfl rfl ?_)))))
  refine Le rfl (Ec (Sx.last B s b 12 8 nf (K+80+9*(y.ended.length+y.added.length)) g) Tryz.func12 rfl rfl rfl ?_)
  rintro _ _ ⟨rfl,rfl⟩
  try simp only [cA,nA]
  refine Le rfl (zK [_] (e:=2) (sz:=1) (by kernel_rfl) ⟨.int .i64 0,by kernel_rfl,rfl⟩ rfl rfl rfl (by omega) (by omega) ?_)
  intro g96
  refine Le rfl (Ea Sx.elemZ rfl rfl (SrcOf.blk (by kernel_rfl) rfl (by simp [Value.oneCell'])) (by unfold maxLen;omega) (by omega) ?_)
  rintro q1 d1 hq1
  rw [show ST.map zV++[Value.int .i64 (lastS g)]=(ST++[lastS g]).map zV by simp]
  refine La rfl rfl (Ld (TR (Lm rfl rfl (Lm rfl rfl (Lm rfl rfl (Lm rfl rfl ?_))))))
  refine Le rfl (Ec (Sx.last B s b 12 8 nf (K+80+9*(y.ended.length+y.added.length)) g) Tryz.func12 rfl rfl rfl ?_)
  rintro _ _ ⟨rfl,rfl⟩
  try simp only [cA,nA]
  refine Le rfl (Ec (Sx.see B s b 12 8 nf (K+80+9*(y.ended.length+y.added.length)) g hsi2 (by omega) (by omega) tb (lastS g)) Tryz.func14 rfl rfl rfl ?_)
  rintro _ _ ⟨M,pm,cm,hM,rfl,rfl⟩
  try simp only [cA,nA]
  refine Le rfl (zK [_] (e:=42) (sz:=1) (by kernel_rfl) ⟨.slice none 0 0,by kernel_rfl,rfl⟩ rfl rfl rfl (by omega) (by omega) ?_)
  intro g104
  refine Le rfl (Ea Sx.elemS rfl rfl (SrcOf.blk (by kernel_rfl) rfl (by simp [Value.oneCell'])) (by unfold maxLen;omega) (by omega) ?_)
  rintro q2 d2 hq2
  refine La rfl rfl (Ld (TR (Lq rfl (Qd rfl rfl (Ze (by omega) (by omega))) (Lm rfl rfl (Ld ?_)))))
  have hse3:=hse2.snoc hsi2 (x:=⟨M,pm,cm⟩) hM
  have hstep:=fun k=>se_step (L:=SE) (x:=⟨M,pm,cm⟩) (p:=q2) (n:=i+1) (c:=d2) (vs:=[.slice pm M.length cm]) rfl (l:=row (.slice q1 (i+1) d1) 2 1 (i+1) ((ST++[lastS g]).map zV)::stoA s b 12 8 nf (K+80+9*(y.ended.length+y.added.length)+8) g::F) (k:=k)
  refine ⟨_,?_,_,⟨_,i+1,K+80+9*(y.ended.length+y.added.length)+8,s,nf,g,ST++[lastS g],SE++[⟨M,pm,cm⟩],q1,q2,d1,d2,⟨by omega,by omega,hsi2,hg0,by omega,by omega,by simp [hSTl],hse3⟩,rfl,(Za rfl (Za rfl (Za rfl (Za rfl (Za rfl (Za rfl (Za rfl (Za rfl rfl)))))))),rfl⟩,(fun k Q=>Sa k (hstep k (Sa k Q)))⟩
  omega
 obtain rfl:i=n:=by omega
 refine zB (Ts (TS (Lm rfl rfl (Lq rfl (yI (e:=2) (sz:=1) (by kernel_rfl) rfl) (Lm rfl rfl (Ld ?_))))))
 refine yH ?_
 refine zG (fun mz fz lz => ∃ (f0:Fr) (j K2:Nat) (Z:List SeM),(j≤i∧K2=K+8*j∧Z=SE.drop j)∧mz=i-j∧fz=(upd (upd (upd (upd (upd (upd f0 1 (.int .i64 tb)) 6 (pV s)) 8 (.slice p2 i c2)) 107 (.slice p1 i c1)) 108 (.int .i64 i)) 109 (.int .i64 j))∧lz=row (.slice p1 i c1) 2 1 i (ST.map zV)::seRow p2 i c2 SE::sesA Z::stoA s b 12 8 nf K2 h::F) ?_ ?_
 · refine ⟨_,_,⟨_,0,K,SE,⟨Nat.zero_le _,rfl,rfl⟩,rfl,(Za rfl (Za rfl (Za rfl (Za rfl (Za rfl (Za rfl rfl)))))),rfl⟩,Sa⟩
 rintro mz fz lz ⟨f0,j,K2,Z,⟨hj,hK2,hZ⟩,hmz,rfl,rfl⟩
 subst mz
 refine TS (Lq rfl (yM rfl rfl) (Ld (Ts ?_)))
 refine yN rfl (fun hlt2=>?_) (fun hlt2=>?_)
 ·
  refine T.own fun w ho=>?_
  obtain ⟨r1,rfl⟩:=((ho.map Sa:Own B w [row (.slice p1 i c1) 2 1 i (ST.map zV)]).slice_at (p:=p1) (m:=i) (c:=c1)).2.1 (by omega)
  obtain ⟨r2,rfl⟩:=((ho.map Sa:Own B w [seRow p2 i c2 SE]).slice_at (p:=p2) (m:=i) (c:=c2)).2.1 (by omega)
  clear ho
  subst hZ
  have hsl3:=hse.1
  obtain ⟨a,ha⟩ : ∃ a,ST[j]? = some a:=⟨_,List.getElem?_eq_getElem (by omega)⟩
  obtain ⟨⟨xl,xp,xc⟩,hx⟩ : ∃ x,SE[j]? = some x:=⟨_,List.getElem?_eq_getElem (by omega)⟩
  obtain ⟨k1,k2,k3⟩:=hse.2 j a _ ha hx
  dsimp only at k2 k3
  obtain ⟨hil,hie⟩:=List.getElem?_eq_some_iff.1 ha
  obtain ⟨hil2,hie2⟩:=List.getElem?_eq_some_iff.1 hx
  refine Tk (Ts (yH (TS (Lm rfl rfl (Lq rfl (Qi _ (e:=2) (sz:=1) (by kernel_rfl) rfl rfl rfl (by omega)) (Lq rfl (Ql (v := .int .i64 a) (by kernel_rfl) rfl (by rw [←hie];exact map_at _ _ _ hil)) ?_))))))
  refine La rfl rfl (La rfl rfl (Ld (TS (Lm rfl rfl (Lm rfl rfl (Lm rfl rfl ?_))))))
  refine Le rfl (Ec (Sx.see B s b 12 8 nf K2 h si (by omega) (by omega) tb a) Tryz.func14 rfl rfl rfl ?_)
  rintro _ _ ⟨M,pm,cm,hM,rfl,rfl⟩
  try simp only [cA,nA]
  have hkk:(xl.map (·.it)).map keyI=(M.map (·.it)).map keyI:=by rw [k2,hM]
  have hml:xl.length=M.length:=by have:=congrArg List.length hkk;simpa using this
  have hMl:M.length<2^30:=by have:=congrArg List.length hM;rw [List.length_map] at this;rw [this];exact see_len30 si (by omega) tb a
  have hsv:seV SE[j] = .slice xp M.length xc:=by rw [hie2];show Value.slice xp xl.length xc=_;rw [hml]
  refine La rfl rfl (Ld (Ts (TS (Lm rfl rfl (Lq rfl (yI (e:=52) (sz:=7) (by kernel_rfl) rfl) (Lm rfl rfl ?_))))))
  refine Lm rfl rfl (Lq rfl (Qi _ (e:=42) (sz:=1) (by kernel_rfl) rfl rfl rfl (by omega)) (Lq rfl (Ql (v := .slice xp M.length xc) (by kernel_rfl) rfl (by rw [←hsv];exact map_at _ _ _ hil2)) (Lq rfl (yI (e:=52) (sz:=7) (by kernel_rfl) rfl) (Lq rfl (yW rfl rfl) (Ld (yL rfl (by omega) (T.conv (l':=itsA M::itR xp M.length xc xl::itsA xl::sesA (SE.drop (j+1))::itR pm M.length cm M::stoA s b 12 8 nf (K2+8) h::row (.slice (some ⟨r1,0,none⟩) i c1) 2 1 i (ST.map zV)::seRow (some ⟨r2,0,none⟩) i c2 SE::F) (fun w ho=>(((ho.map Sa:Own B w (sesA (SE.drop j)::itR pm M.length cm M::itsA M::stoA s b 12 8 nf (K2+8) h::row (.slice (some ⟨r1,0,none⟩) i c1) 2 1 i (ST.map zV)::seRow (some ⟨r2,0,none⟩) i c2 SE::F)).map fun _ q=>q.se_pop hx).map Sa:Own B w (itsA M::itR xp xl.length xc xl::itsA xl::sesA (SE.drop (j+1))::itR pm M.length cm M::stoA s b 12 8 nf (K2+8) h::row (.slice (some ⟨r1,0,none⟩) i c1) 2 1 i (ST.map zV)::seRow (some ⟨r2,0,none⟩) i c2 SE::F)).map fun _ q=>by rw [hml] at q;exact q) ?_)))))))
  refine Tk (TS (Lm rfl rfl (Lq rfl (yI (e:=52) (sz:=7) (by kernel_rfl) rfl) (Lm rfl rfl (Ld (yH ?_))))))
  refine zG (fun mz fz lz => ∃ (f0:Fr) (k:Nat) (Y1 Y2:List ItM),(k≤M.length∧Y1=M.drop k∧Y2=xl.drop k)∧mz=M.length-k∧fz=(upd (upd (upd (upd (upd (upd (upd (upd (upd (upd f0 1 (.int .i64 tb)) 6 (pV s)) 8 (.slice (some ⟨r2,0,none⟩) i c2)) 15 (.int .i64 j)) 17 (.slice pm M.length cm)) 107 (.slice (some ⟨r1,0,none⟩) i c1)) 108 (.int .i64 i)) 109 (.int .i64 j)) 127 (.int .i64 M.length)) 128 (.int .i64 k))∧lz=itsA Y1::itR xp M.length xc xl::itsA Y2::sesA (SE.drop (j+1))::itR pm M.length cm M::stoA s b 12 8 nf (K2+8) h::row (.slice (some ⟨r1,0,none⟩) i c1) 2 1 i (ST.map zV)::seRow (some ⟨r2,0,none⟩) i c2 SE::F) ?_ ?_
  · refine ⟨_,_,⟨_,0,M,xl,⟨Nat.zero_le _,rfl,rfl⟩,rfl,(Za rfl (Za rfl (Za rfl (Za rfl (Za rfl (Za rfl (Za rfl (Za rfl (Za rfl (Za rfl rfl)))))))))),rfl⟩,Sa⟩
  rintro mz fz lz ⟨f0,k,Y1,Y2,⟨hk,hY1,hY2⟩,hmz,rfl,rfl⟩
  subst mz
  refine TS (Lq rfl (yM rfl rfl) (Ld (Ts ?_)))
  refine yN rfl (fun hlt3=>?_) (fun hlt3=>?_)
  ·
   subst hY1
   subst hY2
   obtain ⟨y,hy⟩ : ∃ y,M[k]? = some y:=⟨_,List.getElem?_eq_getElem (by omega)⟩
   obtain ⟨z,hz⟩ : ∃ z,xl[k]? = some z:=⟨_,List.getElem?_eq_getElem (by omega)⟩
   have hyz:=keys_at hkk hz hy
   have hyr:=row_len si (see_hist (by rw [←hM];exact List.mem_map_of_mem (List.mem_of_getElem? hy):y.it∈seeR h tb a))
   have hzt:=k3 z (List.mem_of_getElem? hz)
   refine T.own fun w ho=>?_
   obtain ⟨g1,rfl⟩:=((ho.map Sa:Own B w [itR pm M.length cm M]).slice_at (p:=pm) (m:=M.length) (c:=cm)).2.1 (by omega)
   obtain ⟨g2,rfl⟩:=((ho.map Sa:Own B w [itR xp M.length xc xl]).slice_at (p:=xp) (m:=M.length) (c:=xc)).2.1 (by omega)
   clear ho
   refine T.conv (l':=itA y::itA z::itsA (M.drop (k+1))::itsA (xl.drop (k+1))::itR (some ⟨g2,0,none⟩) M.length xc xl::sesA (SE.drop (j+1))::itR (some ⟨g1,0,none⟩) M.length cm M::stoA s b 12 8 nf (K2+8) h::row (.slice (some ⟨r1,0,none⟩) i c1) 2 1 i (ST.map zV)::seRow (some ⟨r2,0,none⟩) i c2 SE::F) (fun w ho=>((((ho.map fun _ q=>q.its_pop hy).map Sa:Own B w (itsA (xl.drop k)::itA y::itsA (M.drop (k+1))::itR (some ⟨g2,0,none⟩) M.length xc xl::sesA (SE.drop (j+1))::itR (some ⟨g1,0,none⟩) M.length cm M::stoA s b 12 8 nf (K2+8) h::row (.slice (some ⟨r1,0,none⟩) i c1) 2 1 i (ST.map zV)::seRow (some ⟨r2,0,none⟩) i c2 SE::F)).map fun _ q=>q.its_pop hz).map Sa)) (T.own fun w ho=>?_)
   have hcy:=(ho.map Sa:Own B w [itA y]).cap_at (p:=some ⟨y.g,0,none⟩) (m:=3+y.it.f.row.length) (c:=y.c)
   have hcz:=(ho.map Sa:Own B w [itA z]).cap_at (p:=some ⟨z.g,0,none⟩) (m:=3+z.it.f.row.length) (c:=z.c)
   clear ho
   have hfy:=FlV.itA (B:=B) hcy
   have hfz:=FlV.itA (B:=B) hcz
   have hfr:z.it.f.row.length=y.it.f.row.length:=by rw [hyz.2.2.1]
   rw [hyz.2.2.1] at hfz
   refine Tk (Ts (yH (TS (Lm rfl rfl (La rfl rfl (Ld ?_))))))
   refine Ts (T.draw 60 ([itR (some ⟨g1,0,none⟩) M.length cm M,itR (some ⟨g2,0,none⟩) M.length xc xl,itA y,itA z,seRow (some ⟨r2,0,none⟩) i c2 SE]) (by kernel_rfl) (nB rfl) (by kernel_rfl) (Rq 0 rfl rfl (by kernel_rfl) Sa (Qm rfl) (Rq 1 rfl rfl (by kernel_rfl) Sa (Qm rfl) (Rq 2 rfl rfl (by kernel_rfl) Sa (Qi _ (e:=52) (sz:=7) (by kernel_rfl) rfl rfl rfl (by omega)) (Rq 3 rfl rfl (by kernel_rfl) Sa (Q0 (by kernel_rfl) rfl) (Rq 4 rfl rfl (by kernel_rfl) Sa (QL [.int .i64 y.it.page,.int .i64 y.it.slot] (by kernel_rfl) rfl ⟨it_cell hy 0 rfl,it_cell hy 1 rfl,trivial⟩) (Rq 5 rfl rfl (by kernel_rfl) Sa (Qm rfl) ?_)))))))
   refine Rq 6 rfl rfl (by kernel_rfl) Sa (Qm rfl) (Rq 7 rfl rfl (by kernel_rfl) Sa (Qi _ (e:=42) (sz:=1) (by kernel_rfl) rfl rfl rfl (by omega)) (Rq 8 rfl rfl (by kernel_rfl) Sa (Ql (v := .slice (some ⟨g2,0,none⟩) M.length xc) (by kernel_rfl) rfl (by rw [←hsv];exact map_at _ _ _ hil2)) (Rq 9 rfl rfl (by kernel_rfl) Sa (Qm rfl) (Rq 10 rfl rfl (by kernel_rfl) Sa (Qi _ (e:=52) (sz:=7) (by kernel_rfl) rfl rfl rfl (by omega)) (Rq 11 rfl rfl (by kernel_rfl) Sa (Q0 (by kernel_rfl) rfl) (Rq 12 rfl rfl (by kernel_rfl) Sa (QL [.int .i64 z.it.page,.int .i64 z.it.slot] (by kernel_rfl) rfl ⟨it_cell hz 0 rfl,it_cell hz 1 rfl,trivial⟩) (Rq 13 rfl rfl (by kernel_rfl) Sa (YV (eqRid y.it.page y.it.slot z.it.page z.it.slot) rfl rfl) ?_)))))))
   refine Rq 14 rfl rfl (by kernel_rfl) Sa (Qm rfl) (ZD (t:=145) rfl ((by rw [hyz.1,hyz.2.1];simp)) (Rq 15 rfl rfl (by kernel_rfl) Sa (Qm rfl) (Rq 16 rfl rfl (by kernel_rfl) Sa (Qm rfl) (Rq 17 rfl rfl (by kernel_rfl) Sa (Qi _ (e:=52) (sz:=7) (by kernel_rfl) rfl rfl rfl (by omega)) (Rq 18 rfl rfl (by kernel_rfl) Sa (Qf (off:=5) (by kernel_rfl) rfl) (Rq 19 rfl rfl (by kernel_rfl) Sa (Ql (v := .int .i64 y.it.since) (by kernel_rfl) rfl (it_cell hy 5 rfl)) (Rq 20 rfl rfl (by kernel_rfl) Sa (Qm rfl) ?_)))))))
   refine Rq 21 rfl rfl (by kernel_rfl) Sa (Qm rfl) (Rq 22 rfl rfl (by kernel_rfl) Sa (Qi _ (e:=42) (sz:=1) (by kernel_rfl) rfl rfl rfl (by omega)) (Rq 23 rfl rfl (by kernel_rfl) Sa (Ql (v := .slice (some ⟨g2,0,none⟩) M.length xc) (by kernel_rfl) rfl (by rw [←hsv];exact map_at _ _ _ hil2)) (Rq 24 rfl rfl (by kernel_rfl) Sa (Qm rfl) (Rq 25 rfl rfl (by kernel_rfl) Sa (Qi _ (e:=52) (sz:=7) (by kernel_rfl) rfl rfl rfl (by omega)) (Rq 26 rfl rfl (by kernel_rfl) Sa (Qf (off:=5) (by kernel_rfl) rfl) (Rq 27 rfl rfl (by kernel_rfl) Sa (Ql (v := .int .i64 z.it.since) (by kernel_rfl) rfl (it_cell hz 5 rfl)) (Rq 28 rfl rfl (by kernel_rfl) Sa (yW rfl rfl) ?_)))))))
   refine Rq 29 rfl rfl (by kernel_rfl) Sa (Qp rfl rfl) (Rq 30 rfl rfl (by kernel_rfl) Sa (Qm rfl) (ZD (t:=161) rfl (decide_eq_false (by omega)) (Rq 31 rfl rfl (by kernel_rfl) Sa (Qm rfl) (Rq 32 rfl rfl (by kernel_rfl) Sa (Qm rfl) (Rq 33 rfl rfl (by kernel_rfl) Sa (Qi _ (e:=52) (sz:=7) (by kernel_rfl) rfl rfl rfl (by omega)) (Rq 34 rfl rfl (by kernel_rfl) Sa (Qf (off:=2) (by kernel_rfl) rfl) (Rq 35 rfl rfl (by kernel_rfl) Sa (Q0 (by kernel_rfl) rfl) ?_)))))))
   refine Rq 36 rfl rfl (by kernel_rfl) Sa (Ql (v := .slice (offA (some ⟨y.g,0,none⟩) y.c 3 3) y.it.f.row.length (y.c-3)) (by kernel_rfl) rfl (it_cell hy 2 rfl)) (Rq 37 rfl rfl (by kernel_rfl) Sa (Qm rfl) (Rq 38 rfl rfl (by kernel_rfl) Sa (Qm rfl) (Rq 39 rfl rfl (by kernel_rfl) Sa (Qi _ (e:=42) (sz:=1) (by kernel_rfl) rfl rfl rfl (by omega)) (Rq 40 rfl rfl (by kernel_rfl) Sa (Ql (v := .slice (some ⟨g2,0,none⟩) M.length xc) (by kernel_rfl) rfl (by rw [←hsv];exact map_at _ _ _ hil2)) (Rq 41 rfl rfl (by kernel_rfl) Sa (Qm rfl) (Rq 42 rfl rfl (by kernel_rfl) Sa (Qi _ (e:=52) (sz:=7) (by kernel_rfl) rfl rfl rfl (by omega)) (Rq 43 rfl rfl (by kernel_rfl) Sa (Qf (off:=2) (by kernel_rfl) rfl) ?_)))))))
   refine Rq 44 rfl rfl (by kernel_rfl) Sa (Q0 (by kernel_rfl) rfl) (Rq 45 rfl rfl (by kernel_rfl) Sa (Ql (v := .slice (offA (some ⟨z.g,0,none⟩) z.c 3 3) y.it.f.row.length (z.c-3)) (by kernel_rfl) rfl (by rw [←hfr];exact it_cell hz 2 rfl)) (yK 46 (by kernel_rfl) ?_))
   refine zY rfl rfl (by kernel_rfl) (Ec (Rx.same B [itA y,itA z] y.it.f.row (offA (some ⟨y.g,0,none⟩) y.c 3 3) (offA (some ⟨z.g,0,none⟩) z.c 3 3) y.it.f.row.length (y.c-3) (z.c-3) rfl (by omega) (hfy.mono (fun w ho=>ho.map Sa)) (hfz.mono (fun w ho=>ho.map Sa))) Tryz.func15 rfl rfl rfl ?_)
   rintro _ _ ⟨rfl,rfl⟩
   try simp only [cA,nA]
   refine Rq 47 rfl rfl (by kernel_rfl) (Sr _) (Y2 rfl) (Rq 48 rfl rfl (by kernel_rfl) (Sr _) (Qp rfl rfl) (Rq 49 rfl rfl (by kernel_rfl) (Sr _) (Qm rfl) (ZD (t:=180) rfl rfl (Rq 50 rfl rfl (by kernel_rfl) (Sr _) (Qm rfl) (Rq 51 rfl rfl (by kernel_rfl) (Sr _) (Qm rfl) (Rq 52 rfl rfl (by kernel_rfl) (Sr _) (Qi _ (e:=42) (sz:=1) (by kernel_rfl) rfl rfl rfl (by omega)) (Rq 53 rfl rfl (by kernel_rfl) (Sr _) (Ql (v := .slice (some ⟨g2,0,none⟩) M.length xc) (by kernel_rfl) rfl (by rw [←hsv];exact map_at _ _ _ hil2)) ?_)))))))
   refine Rq 54 rfl rfl (by kernel_rfl) (Sr _) (Qm rfl) (Rq 55 rfl rfl (by kernel_rfl) (Sr _) (Qi _ (e:=52) (sz:=7) (by kernel_rfl) rfl rfl rfl (by omega)) (Rq 56 rfl rfl (by kernel_rfl) (Sr _) (Qf (off:=6) (by kernel_rfl) rfl) (Rq 57 rfl rfl (by kernel_rfl) (Sr _) (Ql (v := .int .i64 z.it.til) (by kernel_rfl) rfl (it_cell hz 6 rfl)) (Rq 58 rfl rfl (by kernel_rfl) (Sr _) (yW rfl rfl) (Rq 59 rfl rfl (by kernel_rfl) (Sr _) (Qp rfl rfl) (Rd0 (by rfl) ?_))))))
   simp only [dS,dZ,dN]
   refine Ld (yL rfl (by omega) (Tk (TR (Lq rfl (Qd rfl rfl (Ze (by omega) (by omega))) (Lm rfl rfl (Ld ?_))))))
   refine ⟨_,?_,_,⟨_,k+1,M.drop (k+1),xl.drop (k+1),⟨by omega,rfl,rfl⟩,rfl,(Za rfl (Za rfl (Za rfl (Za rfl (Za rfl (Za rfl (Za rfl (Za rfl (Za rfl (Za rfl rfl)))))))))),rfl⟩,Sa⟩
   omega
  refine zB (TR (Lq rfl (Qd rfl rfl (Ze (by omega) (by omega))) (Lm rfl rfl (Ld ?_))))
  refine ⟨_,?_,_,⟨_,j+1,K2+8,SE.drop (j+1),⟨by omega,by omega,rfl⟩,rfl,(Za rfl (Za rfl (Za rfl (Za rfl (Za rfl (Za rfl rfl)))))),rfl⟩,Sa⟩
  omega
 refine zB (Ts (TS (Lm rfl rfl (Lm rfl rfl ?_))))
 refine Le rfl (Ec (Sx.history B s b 12 8 nf K2 h si (by omega) (by omega) tb) Tryz.func16 rfl rfl rfl ?_)
 rintro _ _ ⟨M,pm,cm,hM,rfl,rfl⟩
 try simp only [cA,nA]
 have hMl:M.length<2^30:=by have:=congrArg List.length hM;rw [List.length_map] at this;rw [this];exact hist_len si (by omega) tb
 refine LW.own fun w ho=>?_
 have hpm:=((ho.map Sa:Own B w [itR pm M.length cm M]).slice_at (p:=pm) (m:=M.length) (c:=cm)).2.1
 clear ho
 refine Lq rfl (yI (e:=52) (sz:=7) (by kernel_rfl) rfl) (Lm rfl rfl (Ld (yH ?_)))
 refine zG (fun mz fz lz => ∃ (f0:Fr) (k:Nat),(k≤M.length)∧mz=M.length-k∧fz=(upd (upd (upd f0 195 (.slice pm M.length cm)) 196 (.int .i64 M.length)) 197 (.int .i64 k))∧lz=itR pm M.length cm M::F) ?_ ?_
 · refine ⟨_,_,⟨_,0,Nat.zero_le _,rfl,(Za rfl (Za rfl (Za rfl rfl))),rfl⟩,Sa⟩
 rintro mz fz lz ⟨f0,k,hk,hmz,rfl,rfl⟩
 subst mz
 refine TS (Lq rfl (yM rfl rfl) (Ld (Ts ?_)))
 refine yN rfl (fun hlt3=>?_) (fun hlt3=>?_)
 ·
  obtain ⟨g1,rfl⟩:=hpm (by omega)
  obtain ⟨y,hy⟩ : ∃ y,M[k]? = some y:=⟨_,List.getElem?_eq_getElem (by omega)⟩
  have hil:=(List.getElem?_eq_some_iff.1 hy).1
  obtain ⟨t1,t2,t3,t4⟩:=si.hist (table:=tb) (i:=y.it) (by rw [←hM];exact List.mem_map_of_mem (List.mem_of_getElem? hy))
  refine Tk (Ts (yH (TS (Lq rfl (Qi _ (e:=52) (sz:=7) (by kernel_rfl) rfl rfl rfl (by omega)) ?_))))
  refine Lq rfl (QL (itC y) (by kernel_rfl) rfl (by rw [show itC y=itC (M[k]'hil) by rw [(List.getElem?_eq_some_iff.1 hy).2]];exact rdl_flat _ _ _ (by intros;rfl) _ (by omega))) ?_
  refine Le rfl (El [.int .i64 0,.int .i64 0,.slice none 0 0,.int .i64 0,.int .i64 0,.int .i64 0,.int .i64 0] (by unfold Zf;kernel_rfl) ?_)
  intro g20
  refine L0 rfl (Es [_,_,_,_,_,_,_] (by kernel_rfl) rfl rfl rfl rfl (by simp) ?_)
  try simp only [splice,lC,lN,dS,cA,tS,tZ,dZ,nA,aN]
  refine Ld (TS (Lq rfl (Qf (off:=6) (by kernel_rfl) rfl) (Lq rfl (Ql (by kernel_rfl) rfl rfl) (Lq rfl (yW rfl rfl) (Lm rfl rfl ?_)))))
  refine zZ (t:=204) rfl (fun u1=>?_) (fun u1=>?_)
  ·
   try replace u1:=of_decide_eq_true u1
   refine Lq rfl (Qf (off:=6) (by kernel_rfl) rfl) (Lq rfl (Ql (by kernel_rfl) rfl rfl) (Lq rfl (Qf (off:=5) (by kernel_rfl) rfl) (Lq rfl (Ql (by kernel_rfl) rfl rfl) (Lq rfl (YF rfl rfl) (Lq rfl (Qp rfl rfl) (Lm rfl rfl (yT (t:=211) rfl (decide_eq_false (by omega)) ?_)))))))
   refine Lq rfl (Qf (off:=5) (by kernel_rfl) rfl) (Lq rfl (Ql (by kernel_rfl) rfl rfl) (Lq rfl (yM rfl rfl) (Lq rfl (Qp rfl rfl) (Ld (yL rfl (by omega) (Tk (TR ?_)))))))
   refine Lq rfl (Qd rfl rfl (Ze (by omega) (by omega))) (Lm rfl rfl (Ld ?_))
   refine ⟨_,?_,_,⟨_,k+1,by omega,rfl,(Za rfl (Za rfl (Za rfl rfl))),rfl⟩,Sa⟩
   omega
  try replace u1:=of_decide_eq_false u1
  refine Ls rfl (Ls rfl (Ls rfl (Ls rfl (Ls rfl (Lq rfl (Qp rfl rfl) (Lm rfl rfl (yT (t:=211) rfl rfl ?_)))))))
  refine Lq rfl (Qf (off:=5) (by kernel_rfl) rfl) (Lq rfl (Ql (by kernel_rfl) rfl rfl) (Lq rfl (yM rfl rfl) (Lq rfl (Qp rfl rfl) (Ld (yL rfl (by omega) (Tk (TR ?_)))))))
  refine Lq rfl (Qd rfl rfl (Ze (by omega) (by omega))) (Lm rfl rfl (Ld ?_))
  refine ⟨_,?_,_,⟨_,k+1,by omega,rfl,(Za rfl (Za rfl (Za rfl rfl))),rfl⟩,Sa⟩
  omega
 refine zB (TS (La rfl rfl (Ld (T.ret ?_))))
 exact ⟨.inl rfl,_,_,res [_] rfl ⟨rvT rfl,trivial⟩,⟨rfl,rfl⟩,Sa⟩
end Go.Proofs.YtjmjjfefchnkaaaGreatDoor
namespace Go.Proofs.YtjmjjfefchnkaaaGreatDoor.storeHistory
open Go.ChangeShapes Go.WideShapes Go.ChangeAt Go.RowKit
theorem contract (H:Type) (enc:TypeId×Value→H) (W:World) (base:Nat) (args:Array Value) (ds gs:List (DataW H)) (before:List MemPlace)
  (hval : ∀ (j:Nat) t v,Tryz.f3.params[j]? = some t→args[j]? = some v→Value.okWide Tryz.prog W .any base t v)
  (hW:DataW.Whole enc Tryz.prog Tryz.f3.params.toList Rows.storeHistorySpec.vars false W args.toList ds gs before) (hk:Rows.uptoSmall H (ds++gs)=true) :
  Calls Tryz.prog 3 args W fun e W' => ∃ v,e = .returned v∧Rows.storeHistorySpec.post enc Tryz.prog Tryz.f3 false true false false W args v W':=by
 have hW0:=hW
 obtain ⟨p,q,hA0,hV,rfl,hfz,hnd⟩:=hW
 have hA:DataW.TrodAll enc Tryz.prog W 0 (fun _=>true) true Tryz.f3.params.toList args.toList ds p:=hA0
 rw [Tryz.params3] at hA hval
 obtain ⟨v0,v1,d0,d1,p0,p1,rfl,rfl,rfl,h0,h1⟩:=trodAll_two hA
 obtain ⟨rfl,rfl⟩:=trodVars_none hV
 have hbulk:=Tryz.upto_bound hk
 rw [List.append_nil] at hbulk
 clear hA0 hV hk
 obtain ⟨sa0,sl0,sc0,rfl⟩:=okWide_slice Tryz.underlying22 (hval 0 22 v0 rfl rfl)
 obtain ⟨fu0,t0⟩:=h0
 obtain ⟨sv0,l0,hc0,hs0,hB0,hL0⟩:=open_slice_R (enc:=enc) (P:=Tryz.prog) (W:=W) (R:=OpR W) (B:=szT) Tryz.underlying22 (show Tryz.prog.cellsOf 35=8 by kernel_rfl) (by omega) (fun n cs y=>read_opS n cs y) t0
 simp only [Value.cells,List.cons.injEq,and_true] at hc0
 subst hc0
 dsimp only at hB0 hL0
 have hvl0:=hs0.flV (g:=opC) (fun cs a h=>h.1) (fun _=>rfl)
 have hok0 : ∀ o∈l0,szT o≤1048576→OpOk (baseOf W) o:=fun o ho=>by
  obtain ⟨_,h⟩:=hs0.all o ho
  exact h.2
 obtain ⟨va0,vc0,hve0⟩:=hvl0.form rfl
 injection hve0 with q10 q20 q30
 subst q10;subst q20;subst q30
 have hsu0:=sumO_le_T l0
 obtain ⟨n1,rfl⟩:=okWide_int Tryz.underlying3 (hval 1 3 v1 rfl rfl)
 obtain ⟨fu1,t1⟩:=h1
 obtain ⟨a1,⟨ha1,hb1,hc1⟩,_⟩:=read_i64 Tryz.underlying3 _ _ _ t1
 simp only [Value.cells,List.cons.injEq,and_true,Value.int.injEq,true_and] at ha1
 subst ha1
 rw [bulk_two] at hbulk
 refine (Fn.law (Sx.histLaw _ sa0 l0.length sc0 l0 rfl (by omega) hvl0 (fun o ho=>hok0 o ho (by have:=szT_mem ho;omega)) n1 (by omega))).mono fun e W' ⟨he,hg⟩=>?_
 subst he
 exact ⟨_,rfl,post_law Tryz.laidOut hW0 rfl rfl 4 Tryz.underlying4 (by kernel_rfl) (by rw [Tryz.params3];decide +kernel) hg.toBelow⟩
theorem reads (os:Os) {H:Type} (enc:TypeId×Value→H) : ∃ places,DataW.whole enc Tryz.prog ((laidWorld os).forCall (fun _ _=>0) ⟨#[],#[.slice none 0 0,.int .i64 0],[]⟩).memory Tryz.f3.params.toList Rows.storeHistorySpec.vars false (#[.slice none 0 0,.int .i64 0]:Array Value).toList 8=some ([.nil,.lit (.int .i64 0)],[],places) :=
 ⟨[],by kernel_rfl⟩
theorem lifted (os:Os) (started:os.Started) (H:Type) (enc:TypeId×Value→H) (F:Stop.Interp) :
  ReturnsInHanded {} Tryz.checked os 3 .any ((Rows.OpenSpec.upto Rows.storeHistorySpec).preRow enc Tryz.prog Tryz.f3 Rows.storeHistoryUptoRow.domain false Rows.storeHistoryUptoRow.laid) (((Rows.OpenSpec.upto Rows.storeHistorySpec).at F).post enc Tryz.prog Tryz.f3 false true false false):=by
 obtain ⟨places,hx⟩:=reads os enc
 refine returnsInHanded_of_row (C:=Tryz.checked) (s:=Rows.OpenSpec.upto Rows.storeHistorySpec) Tryz.own started (by kernel_rfl) Tryz.func3
  (witness_row_at (enc:=enc) (C:=Tryz.checked) false (laidWorld os) #[.slice none 0 0,.int .i64 0] rfl (by kernel_rfl) (by kernel_rfl) (by kernel_rfl)
   (OpenSpec.preRow_of_cond 8 hx (by kernel_rfl) (fun k hk=>by cases hk;kernel_rfl) (by kernel_rfl) (laid_met os _))) ?_
 intro W base args ds gs before hval hW _ hcond _ _ _ _
 exact contract H enc W base args ds gs before hval hW (hcond _ rfl)
theorem jA : (Rows.storeHistoryUptoRow.inPlace == Tryz.prog.inPlace 3)=true:=by kernel_rfl
theorem jB : (Rows.storeHistoryUptoRow.unfollowed == Tryz.prog.unfollowed 3)=true:=by kernel_rfl
theorem jC : (Rows.storeHistoryUptoRow.recurses == Tryz.prog.recurses 3)=true:=by kernel_rfl
theorem jD : (Rows.storeHistoryUptoRow.named == Tryz.prog.varsNamed 3)=true:=by kernel_rfl
theorem jE : laidOutB Tryz.prog=true:=by kernel_rfl
theorem jF : mapsRowed Tryz.prog=true:=by kernel_rfl
theorem jG : joinedFacts Tryz.prog 3 Tryz.f3 (Rows.OpenSpec.upto Rows.storeHistorySpec).bare Rows.storeHistoryUptoRow=true:=by
 unfold joinedFacts
 rw [jA,jB,jC,jD,jE,jF]
 kernel_rfl
theorem over : Rows.storeHistoryUptoRow.holds Tryz.pinned (Rows.OpenSpec.upto Rows.storeHistorySpec) :=
 OpenClaim.holds_of_cond 3 Tryz.f3 rfl rfl rfl rfl rfl rfl rfl ⟨rfl,rfl,rfl,rfl,rfl⟩ rfl rfl rfl rfl rfl (by kernel_rfl) Tryz.func3 jG
  (of_decide_eq_true (by kernel_rfl)) (by unfold Func.isWrapper;first | (rw [if_pos (by decide +kernel)];kernel_rfl) | (rw [if_neg (by decide +kernel)];exact ⟨rfl,rfl⟩))
  (fun os started H enc _ F=>by rw [OpenClaim.pre_eq_preRow];exact lifted os started H enc F)
theorem plain (f:FuncId) (fn:Func) (hf:Tryz.pinned.checked.prog.funcNamed "annals/annalslaw21.StoreHistory" = some f) (hfn:Tryz.pinned.checked.prog.funcs[f]? = some fn) :
  true=Tryz.pinned.checked.prog.looks [] ∧ ∀ (j:Nat) t,fn.params[j]? = some t→Tryz.pinned.checked.prog.wantsStandIn t=false:=by
 obtain rfl:f=3:=Option.some.inj ((show Tryz.prog.funcNamed "annals/annalslaw21.StoreHistory" = some 3 by kernel_rfl).symm.trans hf) |>.symm
 obtain rfl:fn=Tryz.f3:=(Option.some.inj (Tryz.func3.symm.trans hfn)).symm
 refine ⟨by kernel_rfl,fun j t ht=>?_⟩
 rw [Tryz.params3] at ht
 have hall:([22,3]:List TypeId).all (fun t => !Tryz.prog.wantsStandIn t)=true:=by kernel_rfl
 have:=List.all_eq_true.1 hall t (by simpa using Array.mem_of_getElem? ht)
 exact (show Tryz.prog.wantsStandIn t=false by simpa using this)
theorem proved : Rows.StoreHistoryUptoCardSaid :=
 Claim7.holds_tied_plain_at .later [] _ _ _ _ over (fun _ h=>by cases h) (by kernel_rfl) (fun _ h=>by cases h) storeHistoryUpto_row_tie rfl ⟨rfl,rfl⟩ (by kernel_rfl) rfl plain (by kernel_rfl)
end Go.Proofs.YtjmjjfefchnkaaaGreatDoor.storeHistory
