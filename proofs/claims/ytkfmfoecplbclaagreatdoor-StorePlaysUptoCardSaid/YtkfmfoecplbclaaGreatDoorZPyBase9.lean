/- The texts BgG BgH SlI RcA RcB WlL WlM WlN RlA RlB BhA BhB BhC BhD BhE BiA RlC RlD BhF BhG BiB RlE RlG WlRd RlH HpC HpD HeB HeC HeD, one behind the other: what the law leans on. Conditions: as each theorem says. -/
import Derived.Test.YtkfmfoecplbclaaGreatDoorZPyBase8
import Derived.Deep.QuietTactic
import Derived.BigQuiet
set_option linter.unusedSimpArgs false
set_option linter.unusedVariables false
set_option maxRecDepth 100000
set_option maxHeartbeats 16000000
namespace Go.Proofs.YtkfmfoecplbclaaGreatDoor
open Go.RowKit
theorem writes_ok : ∀ {L:List (Nat×List UInt8)} {D:DD},D.Ok->(∀ p∈L,p.1<D.secs.length/\p.2.length=256)->(Zz D L).Ok/\(Zz D L).secs.length=D.secs.length/\(Zz D L).pend.length=D.pend.length+L.length
 | [],D,h,_=>⟨h,rfl,rfl⟩
 | p::L,D,h,hL=>by
  obtain ⟨h1,h2⟩:=hL p (List.mem_cons_self ..)
  obtain ⟨a,b,c⟩:=writes_ok (L:=L) (h.wr2 p.1 p.2 h1 h2) (λ q hq=>hL q (List.mem_cons_of_mem _ hq))
  exact ⟨a,b,by rw [Zz,c];simp [DD.write];omega⟩
theorem writes_out {n:Nat} : ∀ {L:List (Nat×List UInt8)} {D:DD},(∀ p∈L,p.1≠n)->(Zz D L).read n=D.read n
 | [],_,_=>rfl
 | p::L,D,h=>by
  rw [Zz,writes_out (λ q hq=>h q (List.mem_cons_of_mem _ hq)),DD.rdW,if_neg (h p (List.mem_cons_self ..))]
theorem writes_in {n:Nat} {b:List UInt8} : ∀ {L:List (Nat×List UInt8)} {D:DD},(L.map Prod.fst).Nodup->(n,b)∈L->(Zz D L).read n=b
 | [],_,_,h=>by cases h
 | p::L,D,hd,h=>by
  simp only [List.map_cons,List.nodup_cons] at hd
  rcases List.mem_cons.1 h with rfl | h
  . rw [Zz,writes_out (λ q hq e=>hd.1 (List.mem_map.2 ⟨q,hq,e⟩)),DD.rdW,if_pos rfl]
  . rw [Zz];exact writes_in hd.2 h
theorem DD.ext_read {D E:DD} (hD:D.pend=[]) (hE:E.pend=[]) (hl:D.secs.length=E.secs.length) (h : ∀ n,n<D.secs.length->D.read n=E.read n):D=E:=by
 have:D.secs=E.secs:=by
  apply List.ext_getElem hl
  intro i h1 h2
  have:=h i h1
  rw [DD.rdN _ hD,DD.rdN _ hE,List.getD_eq_getElem?_getD,List.getD_eq_getElem?_getD,List.getElem?_eq_getElem h1,List.getElem?_eq_getElem h2] at this
  exact this
 cases D;cases E;simp_all
theorem writes_sync {L L':List (Nat×List UInt8)} {D:DD} (ho:D.Ok) (hL : ∀ p∈L,p.1<D.secs.length/\p.2.length=256) (h1:(L.map Prod.fst).Nodup) (h2:(L'.map Prod.fst).Nodup) (he : ∀ p,p∈L↔p∈L'):(Zz D L).sync=(Zz D L').sync:=by
  have a:=writes_ok ho hL
  have b:=writes_ok ho (λ p hp=>hL p ((he p).2 hp))
  refine DD.ext_read rfl rfl ((DD.sync_len a.1).trans (a.2.1.trans ((DD.sync_len b.1).trans b.2.1).symm)) λ n hn=>?_
  rw [DD.sync_len a.1] at hn
  rw [DD.rdS a.1 n hn,DD.rdS b.1 n (by rw [b.2.1,<-a.2.1];exact hn)]
  by_cases hx : ∃ d,(n,d)∈L
  . obtain ⟨d,hd⟩:=hx
    rw [writes_in h1 hd,writes_in h2 ((he _).1 hd)]
  . rw [writes_out (λ p hp e=>hx ⟨p.2,by rw [<-e];exact hp⟩),writes_out (λ p hp e=>hx ⟨p.2,by rw [<-e];exact (he _).2 hp⟩)]
theorem dirty_mem {first:Nat} {A:List Fa} {p:Nat×List UInt8}:p∈dirtyL first A ↔ ∃ (i:Nat) (x:Fa),A[i]? = some x/\x.dirty=true/\p=(first+x.page.toNat,x.b):=by
  unfold dirtyL
  rw [List.mem_filterMap]
  constructor
  . rintro ⟨x,hx,e⟩
    split at e
    . obtain ⟨i,hi,rfl⟩:=List.getElem_of_mem hx
      exact ⟨i,A[i],List.getElem?_eq_getElem hi,by assumption,(Option.some.inj e).symm⟩
    . cases e
  . rintro ⟨i,x,hi,hd,rfl⟩
    exact ⟨x,List.mem_of_getElem? hi,by rw [if_pos hd]⟩
theorem dirty_nodup {count n first:Nat} {A:List Fa} (hF:FOk count n A) (hdp : ∀ x∈A,x.dirty=true->0<=x.page):((dirtyL first A).map Prod.fst).Nodup:=by
  have key : ∀ (A:List Fa),(∀ x∈A,x.dirty=true->0<=x.page)->(∀ (i j:Nat) (x y:Fa),A[i]? = some x->A[j]? = some y->x.page=y.page->0<=x.page->i=j)->((dirtyL first A).map Prod.fst).Nodup:=by
    intro A
    induction A with
    | nil=>intro _ _;exact List.nodup_nil
    | cons a A ih =>
      intro h1 h2
      have ih':=ih (λ x hx=>h1 x (List.mem_cons_of_mem _ hx)) (λ i j x y hi hj e h0=>by have:=h2 (i+1) (j+1) x y (by simpa using hi) (by simpa using hj) e h0;omega)
      by_cases hd:a.dirty=true
      . have e:dirtyL first (a::A)=(first+a.page.toNat,a.b)::dirtyL first A:=by simp [dirtyL,hd]
        rw [e,List.map_cons,List.nodup_cons]
        refine ⟨λ hm=>?_,ih'⟩
        obtain ⟨p,hp,e2⟩:=List.mem_map.1 hm
        obtain ⟨i,x,hi,hxd,rfl⟩:=dirty_mem.1 hp
        have h0:=h1 a (List.mem_cons_self ..) hd
        have h3:=h1 x (List.mem_cons_of_mem _ (List.mem_of_getElem? hi)) hxd
        have:=h2 0 (i+1) a x rfl (by simpa using hi) (by dsimp only at e2;omega) h0
        omega
      . have e:dirtyL first (a::A)=dirtyL first A:=by simp [dirtyL,hd]
        rw [e];exact ih'
  exact key A hdp hF.one
theorem dirtyMark_bound {A:List Fa} (h : ∀ x∈A,x.mark<2^63):0<=Zm A/\Zm A<2^63:=by
 unfold Zm
 have : ∀ (A:List Fa) (m:Int),(∀ x∈A,x.mark<2^63)->0<=m->m<2^63->0<=A.foldl (λ m x=>if x.dirty=true then max m x.mark else m) m/\A.foldl (λ m x=>if x.dirty=true then max m x.mark else m) m<2^63:=by
  intro A
  induction A with
  | nil=>intro m _ h1 h2;exact ⟨h1,h2⟩
  | cons a A ih =>
   intro m h h1 h2
   have ha:=h a (List.mem_cons_self ..)
   rw [List.foldl_cons]
   refine ih _ (λ x hx=>h x (List.mem_cons_of_mem _ hx)) ?_ ?_ <;> split <;> omega
 exact this A 0 h (by omega) (by omega)
instance finInh {n:Nat} [h:NeZero n]:Inhabited (Fin n):=⟨⟨0,Nat.pos_of_ne_zero h.out⟩⟩
abbrev fpV (gf n:Nat) (i:Fin n):Value := .pointer (some ⟨gf,0+i.1*6,none⟩)
theorem Bf.elemP : ElemOk Tryz.prog 257 221 1 8 := .mk' (.pointer none) Tryz.underlying257 (by kernel_rfl) rfl (by omega)
def isDirty (Fs:List Fm) (i:Nat):Bool:=match Fs[i]? with
 | some x=>x.dirty
 | none=>false
def dirN (n:Nat) (Fs:List Fm) (k:Nat):List (Fin n):=(List.finRange n).filter λ i=>decide (i.1<k) && isDirty Fs i.1
theorem dirN_zero (n:Nat) (Fs:List Fm):dirN n Fs 0=[]:=by unfold dirN;rw [List.filter_eq_nil_iff];intro i _;simp
theorem fin_filter_succ (n:Nat) (p:Nat->Bool) (k:Nat) (hk:k<n):(List.finRange n).filter (λ i=>decide (i.1<k+1) && p i.1)=(List.finRange n).filter (λ i=>decide (i.1<k) && p i.1)++(if p k=true then [⟨k,hk⟩] else []):=by
  induction n with
  | zero=>omega
  | succ n ih =>
    rw [List.finRange_succ_last]
    simp only [List.filter_append,List.filter_map,Function.comp_def,Fin.val_castSucc,List.filter_cons,List.filter_nil,Fin.val_last]
    by_cases hkn:k<n
    . rw [ih hkn]
      have h1:(decide (n<k+1) && p n)=false:=by simp;omega
      have h2:(decide (n<k) && p n)=false:=by simp;omega
      simp only [h1,h2,Bool.false_eq_true,if_false,List.append_nil,List.map_append]
      congr 1
      split <;> rfl
    . obtain rfl:k=n:=by omega
      have e:(List.finRange k).filter (λ i=>decide (i.1<k+1) && p i.1)=(List.finRange k).filter (λ i=>decide (i.1<k) && p i.1):=by
        apply List.filter_congr
        intro i _
        have:=i.2
        simp [this];omega
      rw [e]
      have h1:(decide (k<k+1) && p k)=p k:=by simp
      have h2:(decide (k<k) && p k)=false:=by simp
      simp only [h1,h2]
      cases p k <;> simp [Fin.last]
theorem dirN_succ {n:Nat} {Fs:List Fm} {k:Nat} (hk:k<n) {x:Fm} (hx:Fs[k]? = some x):dirN n Fs (k+1)=dirN n Fs k++(if x.dirty=true then [⟨k,hk⟩] else []):=by
 unfold dirN
 rw [fin_filter_succ n (isDirty Fs) k hk]
 simp [isDirty,hx]
theorem dirN_mem {n:Nat} {Fs:List Fm} {i:Fin n} (hn:Fs.length=n):i∈dirN n Fs n ↔ ∃ x,Fs[i.1]? = some x/\x.dirty=true:=by
 unfold dirN
 rw [List.mem_filter]
 have hi:=i.2
 obtain ⟨x,hx⟩ : ∃ x,Fs[i.1]? = some x:=⟨_,List.getElem?_eq_getElem (by omega)⟩
 simp [isDirty,hx,hi]
theorem dirN_le (n:Nat) (Fs:List Fm) (k:Nat):(dirN n Fs k).length<=n:=by
 have:=List.length_filter_le (λ i:Fin n=>decide (i.1<k) && isDirty Fs i.1) (List.finRange n)
 rwa [List.length_finRange] at this
def cleanF {n:Nat} (Fs:List Fm) (L:List (Fin n)):List Fm:=Fs.mapIdx λ j x=>if L.any (λ i=>decide (i.1=j))=true then {x with dirty:=false} else x
theorem cleanF_at {n:Nat} {Fs:List Fm} (L:List (Fin n)) (j:Nat):(cleanF Fs L)[j]? = (Fs[j]?).map λ x=>if L.any (λ i=>decide (i.1=j))=true then {x with dirty:=false} else x:=by
 unfold cleanF;rw [List.getElem?_mapIdx]
theorem cleanF_len {n:Nat} (Fs:List Fm) (L:List (Fin n)):(cleanF Fs L).length=Fs.length:=by unfold cleanF;simp
theorem cleanF_nil {n:Nat} (Fs:List Fm):cleanF Fs ([]:List (Fin n))=Fs:=by
 apply List.ext_getElem?;intro j;rw [cleanF_at];simp
theorem cleanF_snoc {n:Nat} {Fs:List Fm} (L:List (Fin n)) (i:Fin n) {x:Fm} (hx:(cleanF Fs L)[i.1]? = some x):(cleanF Fs L).set i.1 {x with dirty:=false}=cleanF Fs (L++[i]):=by
  apply List.ext_getElem?
  intro j
  have hlt:=(List.getElem?_eq_some_iff.1 hx).1
  by_cases e:i.1=j
  . subst e
    rw [List.getElem?_set_self hlt,cleanF_at]
    rw [cleanF_at] at hx
    cases hf:Fs[i.1]? with
    | none=>rw [hf] at hx;cases hx
    | some y =>
      rw [hf] at hx
      simp only [Option.map_some,Option.some.injEq] at hx
      subst hx
      simp
      split <;> simp
  . rw [List.getElem?_set_ne e,cleanF_at,cleanF_at]
    cases Fs[j]? with
    | none=>rfl
    | some y=>simp [e]
theorem cleanF_da {n:Nat} (Fs:List Fm) (L:List (Fin n)):daA (cleanF Fs L)=daA Fs:=by
 unfold daA
 congr 1
 apply List.ext_getElem?
 intro j
 rw [List.getElem?_map,cleanF_at,List.getElem?_map,Option.map_map]
 cases Fs[j]? with
 | none=>rfl
 | some y=>simp only [Option.map_some,Function.comp_def];split <;> rfl
theorem cleanF_all {n:Nat} {Fs:List Fm} (hn:Fs.length=n) (L:List (Fin n)) (hL : ∀ i:Fin n,(∃ x,Fs[i.1]? = some x/\x.dirty=true)->i∈L):(cleanF Fs L).map Fm.a=cleanA (Fs.map Fm.a):=by
  apply List.ext_getElem?
  intro j
  unfold cleanA
  rw [List.getElem?_map,cleanF_at,List.getElem?_map,List.getElem?_map]
  cases h:Fs[j]? with
  | none=>rfl
  | some y =>
    have hj:j<n:=by rw [<-hn];exact (List.getElem?_eq_some_iff.1 h).1
    simp only [Option.map_some,Option.some.injEq]
    by_cases hd:y.dirty=true
    . have:=hL ⟨j,hj⟩ ⟨y,h,hd⟩
      rw [if_pos (List.any_eq_true.2 ⟨_,this,by simp⟩)]
      rfl
    . split
      . rfl
      . simp only [Fm.a,Fa.mk.injEq,true_and,and_true]
        simpa using hd
theorem Bf.cmp (gf i j:Nat) (a b:Int) (W:World) (h1:W.cell? ⟨gf,i,none⟩=some (.int .i64 a)) (h2:W.cell? ⟨gf,j,none⟩=some (.int .i64 b)) (ha : -(2^62)<=a/\a<2^62) (hb : -(2^62)<=b/\b<2^62) :
  Calls Tryz.prog 118 #[.pointer (some ⟨gf,i,none⟩),.pointer (some ⟨gf,j,none⟩)] W λ e w'=>e = .returned (.int .i64 (a-b)) /\ ∃ q,w'=W.drewN q:=by
 have hw:IntKind.i64.wrap (a-b)=a-b:=Ze
 go_enter Tryz.func118,Tryz.ntmps118
 go_wp2
 go_quiet (fail)
 go_wp2
 go_ret
 exact ⟨rfl,_,rfl⟩
theorem cell_of_cells {B:Wn} {w:World} {g o:Nat} {l:List Wp} {C:List Value} {v:Value} (H:Own B w l) [k:CellsAt g l C] (hv:C[o]? = some v):w.cell? ⟨g,o,none⟩=some v:=by
 obtain ⟨X,t,fr,h⟩:=H.cells (g:=g)
 unfold World.cell?
 rw [h]
 have:=(List.getElem?_eq_some_iff.1 hv).1
 simp [List.getElem?_append_left this,hv]
def pageF (n:Nat) (Fs:List Fm) (i:Fin n):Int:=match Fs[i.1]? with
 | some x=>x.page
 | none=>0
theorem pageF_swo (n:Nat) (Fs:List Fm):Go.Sort.SWO (ltOf λ i j:Fin n=>pageF n Fs i-pageF n Fs j) where
 irrefl x:=by simp [ltOf]
 trans x y z h1 h2:=by simp only [ltOf,decide_eq_true_eq] at *;omega
 ntrans x y z h1 h2:=by simp only [ltOf,decide_eq_false_iff_not] at *;omega
theorem Bf.sort (B:Wn) (gf n:Nat) (Fs:List Fm) (hn:Fs.length=n) (h1:1<=n) (hpg : ∀ (j:Nat) (x:Fm),Fs[j]? = some x -> -(2^62)<=x.page/\x.page<2^62) (v:Value) (ds:List (Fin n)) (m:Nat) (hm:ds.length=m) (hb:m<2^61) :
  Fn Tryz.prog B 117 #[v,.func (.func 118) #[] #[]] [row v 221 1 m (ds.map (fpV gf n)),fmR gf n Fs] (λ u l=>u = .tuple #[] /\ ∃ ds':List (Fin n),ds'.Perm ds/\l=[row v 221 1 m (ds'.map (fpV gf n)),fmR gf n Fs]):=by
 haveI:NeZero n:=⟨by omega⟩
 refine Fn.sort Tryz.sortF (fpV gf n) (λ _=>rfl) (λ i j:Fin n=>pageF n Fs i-pageF n Fs j) (pageF_swo n Fs) 118 221 (enters_of Tryz.func118 (by kernel_rfl) rfl) v m ds hm hb [fmR gf n Fs] ?_ _ rfl
 intro i j W ho
 obtain ⟨x,hx⟩ : ∃ x,Fs[i.1]? = some x:=⟨_,List.getElem?_eq_getElem (by have:=i.2;omega)⟩
 obtain ⟨y,hy⟩ : ∃ y,Fs[j.1]? = some y:=⟨_,List.getElem?_eq_getElem (by have:=j.2;omega)⟩
 have e1:pageF n Fs i=x.page:=by simp [pageF,hx]
 have e2:pageF n Fs j=y.page:=by simp [pageF,hy]
 rw [e1,e2]
 exact Bf.cmp gf _ _ _ _ W (cell_of_cells ho (fm_at hx 0 (by omega))) (cell_of_cells ho (fm_at hy 0 (by omega))) (hpg _ _ hx) (hpg _ _ hy)
open Go.RowKit
def wrL {n:Nat} (first:Nat) (Fs:List Fm) (L:List (Fin n)):List (Nat×List UInt8):=L.filterMap λ i=>(Fs[i.1]?).map λ x=>(first+x.page.toNat,x.b)
theorem wrL_snoc {n first:Nat} {Fs:List Fm} (L:List (Fin n)) (i:Fin n) {x:Fm} (hx:Fs[i.1]? = some x):wrL first Fs (L++[i])=wrL first Fs L++[(first+x.page.toNat,x.b)]:=by
 simp [wrL,List.filterMap_append,hx]
theorem writesP_snoc : ∀ (L:List (Nat×List UInt8)) (D:DD) (p:Nat×List UInt8),Zz D (L++[p])=(Zz D L).write p.1 p.2
 | [],_,_=>rfl
 | q::L,D,p=>by rw [List.cons_append,Zz,Zz,writesP_snoc L]
theorem mark_snoc {A:List Fa} {k:Nat} {x:Fa} (hx:A[k]? = some x):Zm (A.take (k+1))=if x.dirty=true then max (Zm (A.take k)) x.mark else Zm (A.take k):=by
 unfold Zm
 rw [List.take_add_one,hx,List.foldl_append]
 rfl
theorem fr_or {count n:Nat} {A:List Fa} (hF:FOk count n A) {j:Nat} {y:Fa} (hy:A[j]? = some y) : -1<=y.page/\y.page<=count:=by
 rcases hF.fr y (List.mem_of_getElem? hy) with rfl | h
 . exact ⟨by decide,by show (-1:Int)<=count;omega⟩
 . omega
theorem wr_len {n:Nat} (first:Nat) (Fs:List Fm) (L:List (Fin n)):(wrL first Fs L).length<=L.length:=List.length_filterMap_le _ _
theorem wr_at {n first:Nat} {Fs:List Fm} {L:List (Fin n)} {q:Nat×List UInt8}:q∈wrL first Fs L ↔ ∃ i∈L,∃ x,Fs[i.1]? = some x/\q=(first+x.page.toNat,x.b):=by
  unfold wrL
  rw [List.mem_filterMap]
  constructor
  . rintro ⟨i,hi,e⟩
    cases h:Fs[i.1]? with
    | none=>rw [h] at e;cases e
    | some x=>rw [h] at e;exact ⟨i,hi,x,h,(Option.some.inj e).symm⟩
  . rintro ⟨i,hi,x,h,rfl⟩
    exact ⟨i,hi,by rw [h];rfl⟩
theorem wr_ok {n first count N:Nat} {Fs:List Fm} {ds:List (Fin n)} {k:Nat} {q:Nat×List UInt8} (hmem : ∀ i:Fin n,i∈ds -> ∃ x,Fs[i.1]? = some x/\x.dirty=true) (hfr : ∀ (j:Nat) (x:Fm),Fs[j]? = some x->x.dirty=true->0<=x.page/\x.page<count/\x.b.length=256) (hN:first+count<=N) (hq:q∈wrL first Fs (ds.take k)):q.1<N/\q.2.length=256:=by
 obtain ⟨i,hi,x,hx,rfl⟩:=wr_at.1 hq
 obtain ⟨y,hy,hd⟩:=hmem i (List.mem_of_mem_take hi)
 rw [hx] at hy
 cases hy
 have:=hfr _ _ hx hd
 exact ⟨by dsimp only;omega,this.2.2⟩
theorem dirN_nodup (n:Nat) (Fs:List Fm) (k:Nat):(dirN n Fs k).Nodup:=(List.nodup_finRange n).filter _
theorem wr_nodup {n first count:Nat} {Fs:List Fm} {A:List Fa} {ds:List (Fin n)} (hA:Fs.map Fm.a=A) (hF:FOk count n A) (hfr : ∀ (j:Nat) (x:Fm),Fs[j]? = some x->x.dirty=true->0<=x.page/\x.page<count/\x.b.length=256) (hmem : ∀ i:Fin n,i∈ds -> ∃ x,Fs[i.1]? = some x/\x.dirty=true) (hd:ds.Nodup):((wrL first Fs ds).map Prod.fst).Nodup:=by
 induction ds with
 | nil=>exact List.nodup_nil
 | cons i ds ih =>
  have ih':=ih (λ j hj=>hmem j (List.mem_cons_of_mem _ hj)) (List.nodup_cons.1 hd).2
  obtain ⟨x,hx,hxd⟩:=hmem i (List.mem_cons_self ..)
  have e:wrL first Fs (i::ds)=(first+x.page.toNat,x.b)::wrL first Fs ds:=by simp [wrL,hx]
  rw [e,List.map_cons,List.nodup_cons]
  refine ⟨λ hm=>?_,ih'⟩
  obtain ⟨q,hq,e2⟩:=List.mem_map.1 hm
  obtain ⟨j,hj,y,hy,rfl⟩:=wr_at.1 hq
  obtain ⟨y',hy',hyd⟩:=hmem j (List.mem_cons_of_mem _ hj)
  rw [hy] at hy'
  cases hy'
  have h1:=hfr _ _ hx hxd
  have h2:=hfr _ _ hy hyd
  have:=hF.one i.1 j.1 x.a y.a (map_a_at hA hx) (map_a_at hA hy) (by show x.page=y.page;dsimp only at e2;omega) h1.1
  exact (List.nodup_cons.1 hd).1 (by rw [Fin.ext this];exact hj)
theorem wr_mem {n first:Nat} {Fs:List Fm} {A:List Fa} {ds:List (Fin n)} (hA:Fs.map Fm.a=A) (hn:Fs.length=n) (hds:ds.Perm (dirN n Fs n)) (q:Nat×List UInt8):q∈wrL first Fs ds↔q∈dirtyL first A:=by
  rw [wr_at,dirty_mem]
  constructor
  . rintro ⟨i,hi,x,hx,rfl⟩
    obtain ⟨y,hy,hd⟩:=(dirN_mem hn).1 (hds.mem_iff.1 hi)
    rw [hx] at hy
    cases hy
    exact ⟨i.1,x.a,map_a_at hA hx,hd,rfl⟩
  . rintro ⟨i,x,hx,hd,rfl⟩
    obtain ⟨z,hz,rfl⟩:=map_a_back hA hx
    have hi:i<n:=by rw [<-hn];exact (List.getElem?_eq_some_iff.1 hz).1
    exact ⟨⟨i,hi⟩,hds.mem_iff.2 ((dirN_mem hn).2 ⟨z,hz,hd⟩),z,hz,rfl⟩
theorem cleanF_same {n:Nat} {Fs:List Fm} (L:List (Fin n)) {j:Nat} {x:Fm} (hx:Fs[j]? = some x) : ∃ y,(cleanF Fs L)[j]? = some y/\y.page=x.page/\y.p=x.p/\y.c=x.c/\y.b=x.b:=by
 rw [cleanF_at,hx]
 exact ⟨_,rfl,by split <;> rfl,by split <;> rfl,by split <;> rfl,by split <;> rfl⟩
theorem Bf.flush (B:Wn) (g b gf n first count hand:Nat) (gp cl gl:Nat) (W:Wl) (D:DD) (Fs:List Fm) (A:List Fa) (hA:Fs.map Fm.a=A) (hF:FOk count n A) (hdp : ∀ x∈A,x.dirty=true->0<=x.page)
  (hpt : ∀ (i:Nat) (x:Fm),Fs[i]? = some x->0<x.b.length -> ∃ g,x.p=some ⟨g,0,none⟩) (hw:WOk W D) (ho:D.Ok) (hsec:first+count<=D.secs.length) :
  Fn Tryz.prog B 69 #[.pointer (some ⟨g,0,none⟩)] [Zw g b gf n first count hand (some ⟨gp,0,none⟩) 1 cl,fmR gf n Fs,lgR (some ⟨gp,0,none⟩) 1 cl [ifW gl],wlA gl b W,Zn b D,daA Fs]
   (λ u l => ∃ (Fs':List Fm) (W':Wl) (D':DD),Fs'.map Fm.a=cleanA A/\u = .tuple #[]/\W'=(Zv W D (Zm A)).1/\D'=(Zz (Zv W D (Zm A)).2 (dirtyL first A)).sync/\l=[Zw g b gf n first count hand (some ⟨gp,0,none⟩) 1 cl,fmR gf n Fs',lgR (some ⟨gp,0,none⟩) 1 cl [ifW gl],wlA gl b W',Zn b D',daA Fs']):=by
 have hn:Fs.length=n:=by rw [<-hF.len,<-hA,List.length_map]
 have hn1:=hF.n1
 have hn2:=hF.n2
 have hmb:=dirtyMark_bound (A:=A) λ x hx=>(hF.mrk x hx).2
 have hfr : ∀ (j:Nat) (x:Fm),Fs[j]? = some x->x.dirty=true->0<=x.page/\x.page<count/\x.b.length=256:=λ j x hx hd=>by
  have h1:=map_a_at hA hx
  have:=fr_ok hF h1 (hdp _ (List.mem_of_getElem? h1) hd)
  exact ⟨this.1,this.2.1,this.2.2.1⟩
 refine Wq 78 Tryz.func69 rfl rfl (nB rfl) (λ F=>?_)
 try simp only [cA,nA]
 refine TS (La rfl (Ld (TS (La rfl (Ld (Ts (TS ?_)))))))
 iterate 6 refine Lz ?_
 refine Ld (yH (T.conv (l':=row (.slice none 0 0) 221 1 0 ((dirN n Fs 0).map (fpV gf n))::Zw g b gf n first count hand (some ⟨gp,0,none⟩) 1 cl::fmR gf n Fs::lgR (some ⟨gp,0,none⟩) 1 cl [ifW gl]::wlA gl b W::Zn b D::daA Fs::F) (λ w ho=>by rw [dirN_zero];exact ho.row_nil _ _) ?_))
 refine zG (λ mz fz lz => ∃ (f0:Fr) (k:Nat) (p:Option Addr) (m c:Nat) (mk:Int),(k<=n/\m=(dirN n Fs k).length/\mk=Zm (A.take k))/\mz=n-k/\fz=(upd (upd (upd (upd (upd f0 0 (.pointer (some ⟨g,0,none⟩))) 2 (.slice p m c)) 3 (.int .i64 mk)) 12 (.int .i64 n)) 13 (.int .i64 k))/\lz=row (.slice p m c) 221 1 m ((dirN n Fs k).map (fpV gf n))::Zw g b gf n first count hand (some ⟨gp,0,none⟩) 1 cl::fmR gf n Fs::lgR (some ⟨gp,0,none⟩) 1 cl [ifW gl]::wlA gl b W::Zn b D::daA Fs::F) ?_ ?_
 . refine ⟨_,_,⟨_,0,none,0,0,0,⟨Nat.zero_le _,by rw [dirN_zero];rfl,rfl⟩,rfl,U5,rfl⟩,Sa⟩
 rintro mz fz lz ⟨f0,k,p,m,c,mk,⟨hk,hm,hmk⟩,hmz,rfl,rfl⟩
 subst mz
 refine TS (Lq (yM rfl rfl) (Ld (Ts ?_)))
 refine yN rfl (λ hlt=>?_) (λ hlt=>?_)
 .
  have hlt':k<n:=by omega
  obtain ⟨y,hy⟩ : ∃ y,Fs[k]? = some y:=⟨_,List.getElem?_eq_getElem (by omega)⟩
  have hyA:=map_a_at hA hy
  have hym:=hF.mrk _ (List.mem_of_getElem? hyA)
  have hmb2:=dirtyMark_bound (A:=A.take k) λ x hx=>(hF.mrk x (List.mem_of_mem_take hx)).2
  have hdl:=dirN_le n Fs k
  refine Tk (Ts (yH (TS (Lm rfl (La rfl (Ld (TS ?_)))))))
  iterate 7 refine Lz ?_
  refine Ld (TS ?_)
  iterate 3 refine Lz ?_
  refine Lq (Ql (v := .bool y.dirty) rfl (fm_at hy 4 (by omega))) (Ld ?_)
  refine Y9 rfl (λ hd=>?_) (λ hd=>?_)
  .
   refine TS (Lm rfl (Lm rfl ?_))
   refine Le (zK [_] (e:=221) (sz:=1) ⟨.pointer none,by kernel_rfl,rfl⟩ rfl rfl rfl ?_)
   intro g28
   refine Le (Ea Bf.elemP rfl rfl (SrcOf.blk (by kernel_rfl) rfl (by simp [Value.oneCell'])) (by unfold maxLen;omega) ?_)
   rintro p2 c2 hp2
   rw [show (dirN n Fs k).map (fpV gf n)++[Value.pointer (some ⟨gf,0+k*6,none⟩)]=(dirN n Fs (k+1)).map (fpV gf n) by rw [dirN_succ hlt' hy,if_pos hd,List.map_append];rfl]
   refine La rfl (Ld (TR ?_))
   iterate 4 refine Lz ?_
   refine Lq (Ql (v := .int .i64 y.mark) rfl (fm_at hy 2 (by omega))) (Lq (YP rfl rfl) (La rfl (Ld (TR ?_))))
   iterate 2 refine Lz ?_
   refine Ld ?_
   refine ⟨_,?_,_,⟨_,k+1,p2,m+1,c2,max mk y.mark,⟨by omega,by rw [dirN_succ hlt' hy,if_pos hd,List.length_append,hm];rfl,by rw [mark_snoc hyA,if_pos (show y.a.dirty=true from hd),hmk];rfl⟩,rfl,U5,rfl⟩,Sa⟩
   omega
  have hd2 : ¬ y.dirty=true:=by rw [hd];simp
  refine Tk (TR ?_)
  iterate 2 refine Lz ?_
  refine Ld ?_
  refine ⟨_,?_,_,⟨_,k+1,p,m,c,mk,⟨by omega,by rw [dirN_succ hlt' hy,if_neg hd2,List.append_nil];exact hm,by rw [mark_snoc hyA,if_neg (show ¬ y.a.dirty=true from hd2)];exact hmk⟩,rfl,U5,rfl⟩,(by rw [dirN_succ hlt' hy,if_neg hd2,List.append_nil];exact Sa)⟩
  omega
 obtain rfl:n=k:=by omega
 have hAt:A.take n=A:=by rw [<-hF.len,List.take_length]
 rw [hAt] at hmk
 subst hmk
 have hdl:=dirN_le n Fs n
 refine zB (TS (Lm rfl ?_))
 refine Le (Ec (Bf.sort B gf n Fs hn hn1 (λ j x hx=>by have h:=fr_or hF (map_a_at hA hx);exact ⟨by have:=h.1;show -(2^62)<=x.a.page;omega,by have:=h.2;show x.a.page<2^62;have:=ho.max;omega⟩) (.slice p m c) (dirN n Fs n) m hm.symm (by omega)) Tryz.func117 rfl rfl rfl ?_)
 rintro _ _ ⟨rfl,ds,hds,rfl⟩
 try simp only [cA,nA]
 refine Ld (TS (Lm rfl (Lm rfl ?_)))
 have hdn:ds.length=m:=by rw [hds.length_eq,hm]
 obtain ⟨f1,f2,f3,f4,f5,f6,f7⟩:=hw.force ho (Zm A) hw.room
 refine Le (Ec (Bp.force B g b gf n first count hand gp cl gl W D (Zm A) hw) Tryz.func119 rfl rfl rfl ?_)
 rintro _ _ ⟨rfl,rfl⟩
 try simp only [cA,nA]
 refine Ld (Ts (TS ?_))
 iterate 3 refine Lz ?_
 refine Ld (yH ?_)
 obtain ⟨W2,hW2⟩ : ∃ W2,(Zv W D (Zm A)).1=W2:=⟨_,rfl⟩
 obtain ⟨D2,hD2⟩ : ∃ D2,(Zv W D (Zm A)).2=D2:=⟨_,rfl⟩
 rw [hW2,hD2] at f1
 rw [hD2] at f2 f3 f4
 rw [hW2,hD2]
 have hmem : ∀ i:Fin n,i∈ds -> ∃ x,Fs[i.1]? = some x/\x.dirty=true:=λ i hi=>(dirN_mem hn).1 (hds.mem_iff.1 hi)
 have hwr : ∀ (k:Nat) (q:Nat×List UInt8),q∈wrL first Fs (ds.take k)->q.1<D2.secs.length/\q.2.length=256:=λ k q hq=>wr_ok hmem hfr (by omega) hq
 rw [show fmR gf n Fs=fmR gf n (cleanF Fs (ds.take 0)) by rw [List.take_zero,cleanF_nil],show Zn b D2=Zn b (Zz D2 (wrL first Fs (ds.take 0))) from rfl]
 refine zG (λ mz fz lz => ∃ (f0:Fr) (k:Nat),(k<=m)/\mz=m-k/\fz=(upd (upd (upd (upd f0 0 (.pointer (some ⟨g,0,none⟩))) 42 (.slice p m c)) 43 (.int .i64 m)) 44 (.int .i64 k))/\lz=row (.slice p m c) 221 1 m (ds.map (fpV gf n))::Zw g b gf n first count hand (some ⟨gp,0,none⟩) 1 cl::fmR gf n (cleanF Fs (ds.take k))::lgR (some ⟨gp,0,none⟩) 1 cl [ifW gl]::wlA gl b W2::Zn b (Zz D2 (wrL first Fs (ds.take k)))::daA Fs::F) ?_ ?_
 . refine ⟨_,_,⟨_,0,Nat.zero_le _,rfl,U4,rfl⟩,Sa⟩
 rintro mz fz lz ⟨f0,k,hk2,hmz,rfl,rfl⟩
 subst mz
 refine TS (Lq (yM rfl rfl) (Ld (Ts ?_)))
 refine yN rfl (λ hlt2=>?_) (λ hlt2=>?_)
 .
  refine T.own (λ w ho=>?_)
  obtain ⟨gd,rfl⟩ : ∃ gd,p=some ⟨gd,0,none⟩:=(ho.slice_at (p:=p) (m:=m) (c:=c)).2.1 (by omega)
  clear ho
  obtain ⟨i,hi⟩ : ∃ i,ds[k]? = some i:=⟨_,List.getElem?_eq_getElem (by omega)⟩
  obtain ⟨x,hx,hxd⟩:=hmem i (List.mem_of_getElem? hi)
  obtain ⟨x1,x2,x3⟩:=hfr _ _ hx hxd
  obtain ⟨gx,hgx⟩:=hpt _ _ hx (by omega)
  obtain ⟨y,hy,y1,y2,y3,y4⟩:=cleanF_same (ds.take k) hx
  obtain ⟨w1,w2,w3⟩:=writes_ok f2 (hwr k)
  have hcl:(cleanF Fs (ds.take k)).length=n:=by rw [cleanF_len];exact hn
  have hil:=i.2
  have hfl:=fm_len (cleanF Fs (ds.take k))
  have hwk:=wr_len first Fs (ds.take k)
  have htk:(ds.take k).length<=4096:=by rw [List.length_take];omega
  have hwroom:=f1.room
  have hwmx:=f1.max
  refine Tk (Ts (yH (TS ?_)))
  refine Lz ?_
  refine Lq (Ql (v:=fpV gf n i) rfl (by rw [List.getElem?_map,show 0+k*1=k by omega,hi];rfl)) ?_
  refine La rfl (Ld (Ts (T.draw 20 ([Zw g b gf n first count hand (some ⟨gp,0,none⟩) 1 cl,fmR gf n (cleanF Fs (ds.take k))]) (nB rfl) ?_)))
  refine Rz 0 ?_;refine Rz 1 ?_;refine Rz 2 ?_;refine Rz 3 ?_;refine Rz 4 ?_;refine Rz 5 ?_;refine Rz 6 ?_;refine Rz 7 ?_;refine Rz 8 ?_;refine Rz 9 ?_;refine Rz 10 ?_;refine Rz 11 ?_;refine Rz 12 ?_
  refine Rq 13 rfl Sa (Ql (v := .int .i64 x.page) rfl (by have:=fm_at hy 0 (by omega);rw [Nat.add_zero] at this;rw [this];simp [y1])) ?_
  refine Rz 14 ?_;refine Rz 15 ?_;refine Rz 16 ?_;refine Rz 17 ?_
  refine Rq 18 rfl Sa (Ql (v := .slice (some ⟨gx,0,none⟩) 256 x.c) rfl (by rw [fm_at hy 1 (by omega)];simp [y2,y3,y4,hgx,x3])) (yK 19 ?_)
  refine zY rfl (Ec (Dk.writeF B b (Zz D2 (wrL first Fs (ds.take k))) (daA Fs) gx 0 x.c (first+x.page.toNat) _ x.b (λ h H=>daA_cells hx hgx (by omega) h H) x3 (by omega)) Tryz.func120 rfl rfl rfl ?_)
  rintro _ _ ⟨rfl,rfl⟩
  try simp only [cA,nA]
  refine Rd0 (by rfl) ?_
  simp only [dS,dZ,dN]
  refine Ld (TR ?_)
  iterate 3 refine Lz ?_
  refine L0 (E1 (by kernel_rfl) rfl rfl rfl (by omega) ?_)
  rw [fm_set (y:={y with dirty:=false}) hy 4 _ rfl,cleanF_snoc (ds.take k) i hy,<-writesP_snoc (wrL first Fs (ds.take k)) D2 (first+x.page.toNat,x.b),<-wrL_snoc (ds.take k) i hx,<-show ds.take (k+1)=ds.take k++[i] by rw [List.take_add_one,hi];rfl]
  refine Ld (TR ?_)
  iterate 2 refine Lz ?_
  refine Ld ?_
  refine ⟨_,?_,_,⟨_,k+1,by omega,rfl,U4,rfl⟩,Sa⟩
  omega
 obtain rfl:m=k:=by omega
 have htk:ds.take m=ds:=by rw [<-hdn,List.take_length]
 rw [htk]
 have hww:=hwr m
 rw [htk] at hww
 obtain ⟨w1,w2,w3⟩:=writes_ok f2 hww
 have hwroom:=f1.room
 have hwk:=wr_len first Fs ds
 refine zB (TR ?_)
 iterate 5 refine Lz ?_
 refine Le (Ec (Dk.syncF B b (Zz D2 (wrL first Fs ds))) Tryz.func121 rfl rfl rfl ?_)
 rintro _ _ ⟨rfl,rfl⟩
 try simp only [cA,nA]
 refine Ld ?_
 exact ⟨.inr rfl,_,_,res [] rfl trivial,⟨cleanF Fs ds,_,_,by rw [cleanF_all hn ds (λ i hi=>hds.mem_iff.2 ((dirN_mem hn).2 hi)),hA],rfl,rfl,writes_sync f2 hww (wr_nodup hA hF hfr hmem (hds.nodup_iff.2 (dirN_nodup n Fs n))) (dirty_nodup hF hdp) (wr_mem hA hn hds),by rw [cleanF_da]⟩,Sa⟩
open Go.RowKit
section
variable {P : Program} {B:Wn} {n:Nat} {S l r:List Wp} {f:Fr} {K:Value->List Wp->Prop} {Φ:Post}
variable {d : Option Tmp} {ty:TypeId} {pos:String} {af:Array Edge} {gd:Option (Nat×Bool)}
theorem Qt.sliceS {t:TypeId} {x y z:Operand} {a:List UInt8} {k k2:IntKind} {i i2:Int} (lo hi:Nat) (r:List UInt8) (hx:ev n f x=some (.string (Zq a))) (hy:ev n f y=some (.int k i)) (hz:ev n f z=some (.int k2 i2)) (h1:i=(lo:Int)) (hr:(a.take hi).drop lo=r) (ht:isStr P t=true:=by kernel_rfl) (h2:i2=(hi:Int):=by omega) (hl:lo<=hi:=by omega) (hh:hi<=a.length:=by omega) :
    Qt P B n S ⟨d,.slice t x (some y) (some z) none,ty,pos,af,gd⟩ f (.string (Zq r)):=⟨λ w _=>by
  subst hr
  unfold isStr at ht
  split at ht
  . rename_i hu
    subst h1;subst h2
    have hs:=strOf_extract a lo hi
    simp [execOp,Instr.sliceAt,run_underlying hu,Zc hx,Zc hy,Zc hz,Instr.slice,Instr.sliceBounds,Instr.sliceBound,asIntOf,size_strOf,hl,hh,hs]
  . cases ht⟩
end
open Go.RowKit
def tb (x:UInt32) (k:Nat):Bool:=x.toNat.testBit k
theorem quo256 (m:Nat) (h:m<2^64):IntKind.u64.wrap ((m:Int).tdiv 256)=((m/256:Nat):Int):=by
 have:(m:Int).tdiv 256=((m/256:Nat):Int):=rfl
 rw [this];exact wru64
theorem rem_nat (j m:Nat):(j:Int).tmod (m:Int)=((j%m:Nat):Int):=rfl
theorem Rc.get (B:Wn) (a:List UInt8) (ha:a.length<=8):Fn Tryz.prog B 73 #[.string (Zq a)] [] (λ v l=>v = .int .u64 (Wg a).toNat/\l=[]):=by
 refine Wq 19 Tryz.func73 rfl rfl (nB rfl) (λ F=>?_)
 try simp only [cA,nA]
 refine TS (La rfl (Ld (TS (La rfl (Ld (Ts (TS (La rfl (Ld (yH ?_))))))))))
 refine zG (λ mz fz lz => ∃ (f0:Fr) (k m:Nat),(k<=a.length/\m=natOf (a.take k))/\mz=a.length-k/\fz=(upd (upd (upd f0 0 (.string (Zq a))) 3 (.int .u64 m)) 4 (.int .i64 k))/\lz=F) ?_ ?_
 . refine ⟨_,_,⟨_,0,0,⟨Nat.zero_le _,rfl⟩,rfl,U3,rfl⟩,Sa⟩
 rintro mz fz lz ⟨f0,k,m,⟨hk,hm⟩,hmz,rfl,rfl⟩
 subst mz
 refine Ts (TS ?_)
 iterate 4 refine Lz ?_
 refine Ld ?_
 refine yN rfl (λ hlt=>?_) (λ hlt=>?_)
 .
  have hx:=(a[k]'(by omega)).toNat_lt
  have hb:m<256^7:=by rw [hm];exact Nat.lt_of_lt_of_le (natOf_lt _) (Nat.pow_le_pow_right (by omega) (by simp;omega))
  refine Tk (Ts (yH (TR (Lm rfl (Lq (YG rfl rfl (wru64)) (Lm rfl (Lm rfl (Lq (YR k rfl rfl rfl (by omega)) (Lq (yX rfl (wru64)) (Lq (Qd rfl rfl (wru64)) (La rfl (Ld (TR ?_)))))))))))))
  iterate 3 refine Lz ?_
  refine Ld ?_
  refine ⟨_,?_,_,⟨_,k+1,m*256+(a[k]'(by omega)).toNat,⟨by omega,by rw [List.take_succ_eq_append_getElem (by omega),natOf_snoc,hm]⟩,rfl,U3,rfl⟩,Sa⟩
  omega
 have e:k=a.length:=by omega
 rw [e,List.take_length] at hm
 refine zB (TS (Lm rfl (La rfl (Ld (T.ret ?_)))))
 exact ⟨.inl rfl,_,_,res [_] rfl ⟨rvT rfl,trivial⟩,⟨by rw [hm,get64_nat a ha];rfl,rfl⟩,Sa⟩
theorem Rc.number (B:Wn) (N:UInt64) (i:Int) (k:Nat) (hi:i=k) (hk:k<=8):Fn Tryz.prog B 116 #[.int .u64 N.toNat,.int .i64 i] [] (λ v l=>v = .string (Zq (be N k))/\l=[]):=by
 subst hi
 have hN:=N.toNat_lt
 refine Wr 26 Tryz.func116 rfl rfl (nB rfl) (λ F=>?_)
 try simp only [cA,nA]
 refine TS (La rfl (Ld (TS (La rfl (Ld (Ts (TS (La rfl (Ld (yH ?_))))))))))
 refine zG (λ mz fz lz => ∃ (f0:Fr) (j m:Nat) (acc:List UInt8),(j<=k/\m=N.toNat/2^(8*j)/\acc=be N j)/\mz=k-j/\fz=(upd (upd (upd (upd f0 0 (.int .u64 m)) 1 (.int .i64 k)) 5 (.string (Zq acc))) 6 (.int .i64 j))/\lz=F) ?_ ?_
 . refine ⟨_,_,⟨_,0,N.toNat,[],⟨Nat.zero_le _,by simp,rfl⟩,rfl,U4,rfl⟩,Sa⟩
 rintro mz fz lz ⟨f0,j,m,acc,⟨hj,hm,hacc⟩,hmz,rfl,rfl⟩
 subst mz
 have hml:m<2^64:=by rw [hm];exact Nat.lt_of_le_of_lt (Nat.div_le_self _ _) hN
 have hal:acc.length=j:=by rw [hacc,Zd]
 refine Ts (TS ?_)
 iterate 4 refine Lz ?_
 refine zZ (t:=10) rfl (λ hlt=>?_) (λ hlt=>?_)
 .
  try replace hlt:=of_decide_eq_true hlt
  iterate 3 refine Lz ?_
  refine Ld (zM rfl ?_)
  have hmm:m%256=(UInt8.ofNat m).toNat:=by simp
  refine Tk (Ts (yH (TS (Lm rfl (Lq (X0 rfl rfl (by omega) (rem_nat m 256)) (Lq (yX rfl (wr8)) ?_))))))
  refine Le (zK [_] (e:=5) (sz:=1) ⟨.int .u8 0,by kernel_rfl,rfl⟩ rfl rfl rfl ?_)
  intro g19
  rw [hmm]
  refine Lq (Z2 [UInt8.ofNat m] rfl (λ w ho=>(rdv_blk (g:=g19) (n:=1) (c:=1) rfl rfl).reads w ho)) (Lm rfl (Lq (Qt.addS rfl rfl (by simp [hal];omega)) (La rfl (Ld (TR (Lm rfl (Lq (ZR rfl rfl (quo256 m hml)) (La rfl (Ld (TR ?_))))))))))
  iterate 3 refine Lz ?_
  refine Ld ?_
  refine ⟨_,?_,_,⟨_,j+1,m/256,UInt8.ofNat m::acc,⟨by omega,by rw [hm,Nat.div_div_eq_div_mul,show 2^(8*(j+1))=2^(8*j)*256 by rw [Nat.mul_add,Nat.pow_add]],by rw [hacc,hm];rfl⟩,rfl,U4,rfl⟩,Sa⟩
  omega
 try replace hlt:=of_decide_eq_false hlt
 iterate 3 refine Lz ?_
 refine Ld (yQ rfl ?_)
 obtain rfl:j=k:=by omega
 refine zB (TS (Lm rfl (La rfl (Ld (T.ret ?_)))))
 exact ⟨.inl rfl,_,_,res [_] rfl ⟨rvT rfl,trivial⟩,⟨by rw [hacc];rfl,rfl⟩,Sa⟩
open Go.RowKit
open Go.RowKit
section
variable {P : Program} {B:Wn} {n:Nat} {l r:List Wp} {f:Fr} {Φ:Post} {c:Code}
end
open Go.RowKit
def RoLB (B:Wn) (v:Value) (l:List (List UInt8)):Prop := ∃ a cap,v = .slice a l.length cap/\l.length<=cap/\(l=[] \/ ∃ b o C,a=some ⟨b,o,none⟩/\ROc B b C /\
 ∀ i (hi:i<l.length),∃ da dc,rdl C (o+i*1) [.slice da l[i].length dc]/\RoS B (.slice da l[i].length dc) (Zb l[i]))
theorem RoLB.parts {B:Wn} {v:Value} {l:List (List UInt8)} (h:RoLB B v l) (S:List Wp):PartsV B S v l:=by
  obtain ⟨a,cap,rfl,_,h | ⟨b,o,C,rfl,k,h⟩⟩:=h
  . subst h
    exact ⟨[],⟨a,cap,rfl,.inl rfl⟩,rfl,λ i h=>by simp at h⟩
  . obtain ⟨vs,hl,hvs⟩:=choose_list (n:=l.length) (Q:=λ i v=>C[o+i]? = some v /\ ∀ h:i<l.length,RdV B S v (Zb l[i])) (λ i hi=>by
      obtain ⟨da,dc,e1,e2⟩:=h i hi
      have e1:=e1.1
      rw [Nat.mul_one] at e1
      exact ⟨_,e1,λ _=>e2.rd S⟩)
    refine ⟨vs,⟨_,cap,by rw [hl],.inr ⟨b,o,rfl,λ w ho=>ho.range (g:=b) (C:=C) (λ j u hj=>?_)⟩⟩,hl,λ i h1 h2=>(hvs i h1).2 h2⟩
    obtain ⟨hj1,rfl⟩:=List.getElem?_eq_some_iff.1 hj
    exact (hvs j hj1).1
open Go.RowKit
open Go.RowKit
open Go.RowKit
open Go.RowKit
theorem findA_eq {A:List Fa} {page:Int} {i:Nat} {x:Fa} (h0:0<=page) (hx:A[i]? = some x) (hp:x.page=page) (hf : ∀ (j:Nat),j<i -> ∀ y:Fa,A[j]? = some y->y.page≠page):findA A page=some i:=by
 unfold findA
 rw [if_neg (by omega),List.findIdx?_eq_some_iff_getElem]
 obtain ⟨hi,e⟩:=List.getElem?_eq_some_iff.1 hx
 refine ⟨hi,by rw [e];exact decide_eq_true hp,λ j hj=>?_⟩
 simpa using hf j hj _ (List.getElem?_eq_getElem (by omega))
open Go.RowKit
open Go.RowKit
open Go.RowKit
open Go.RowKit
theorem Bp.flush (B:Wn) (g b n first count hand gl:Nat) (A:List Fa) (W:Wl) (D:DD) (hF:FOk count n A) (hdp : ∀ x∈A,x.dirty=true->0<=x.page) (hw:WOk W D) (ho:D.Ok) (hsec:first+count<=D.secs.length) :
  Fn Tryz.prog B 69 #[.pointer (some ⟨g,0,none⟩)] [plA g b n first count hand gl A,wlA gl b W,Zn b D]
   (λ u l=>u = .tuple #[]/\l=[plA g b n first count hand gl (cleanA A),wlA gl b (Zv W D (Zm A)).1,Zn b (Zz (Zv W D (Zm A)).2 (dirtyL first A)).sync]):=by
 refine Fn.openPl λ q hA hptr ⟨gp,hgp⟩=>?_
 obtain ⟨Fs,gf,pl,cl⟩:=q
 dsimp only at hA hptr hgp ⊢
 subst hgp
 simp only [plC,List.cons_append,List.nil_append]
 refine Fn.wide (Bf.flush B g b gf n first count hand gp cl gl W D Fs A hA hF hdp hptr hw ho hsec) ?_
 rintro v l' ⟨Fs',W',D',e1,rfl,e2,e3,rfl⟩
 subst e2
 subst e3
 simp only [List.cons_append,List.nil_append]
 have hs:Sub [Zw g b gf n first count hand (some ⟨gp,0,none⟩) 1 cl,fmR gf n Fs',lgR (some ⟨gp,0,none⟩) 1 cl [ifW gl],daA Fs',wlA gl b (Zv W D (Zm A)).1,Zn b (Zz (Zv W D (Zm A)).2 (dirtyL first A)).sync] [plA g b n first count hand gl (cleanA A),wlA gl b (Zv W D (Zm A)).1,Zn b (Zz (Zv W D (Zm A)).2 (dirtyL first A)).sync]:=sub_pl ⟨Fs',gf,some ⟨gp,0,none⟩,cl⟩ e1
 exact ⟨_,λ k K=>hs k (Sa k K),by simp,rfl⟩
structure PInv (first count n K:Nat) (s:Pl):Prop where
 F:FOk count n s.A
 dp : ∀ x∈s.A,x.dirty=true->0<=x.page
 pins : ∀ x∈s.A,x.pins<=K
 hand:s.hand<n
 fit:s.W.first+s.W.count<=s.D.secs.length
 wst:s.W.st.length<=s.W.count*256
 wdur:s.W.dur<=s.W.st.length
 pend:s.D.pend.length<=K
 ok:s.D.Ok
 sec:first+count<=s.D.secs.length
theorem PInv.w {first count n K:Nat} {s:Pl} (h:PInv first count n K s) (hK:K<2^31):WOk s.W s.D:=⟨h.fit,h.ok.max,h.wst,h.wdur,by have:=h.pend;omega⟩
theorem PInv.mono {first count n K K':Nat} {s:Pl} (h:PInv first count n K s) (hK:K<=K'):PInv first count n K' s:=⟨h.F,h.dp,λ x hx=>by have:=h.pins x hx;omega,h.hand,h.fit,h.wst,h.wdur,by have:=h.pend;omega,h.ok,h.sec⟩
theorem mem_set_of {α:Type} {l:List α} {i:Nat} {a x:α} (h:x∈l.set i a):x=a\/x∈l:=by
 rcases List.mem_or_eq_of_mem_set h with h | h
 . exact .inr h
 . exact .inl h
theorem FOk.set {count n:Nat} {A:List Fa} (h:FOk count n A) {i:Nat} {x y:Fa} (hx:A[i]? = some x) (hp:y.page=x.page) (hb:y=fa1\/(0<=y.page/\y.page<count/\y.b.length=256/\0<=y.pins)) (hm : -(2^63)<=y.mark/\y.mark<2^63):FOk count n (A.set i y):=by
  have hil:=(List.getElem?_eq_some_iff.1 hx).1
  have key : ∀ (j:Nat) (z:Fa),(A.set i y)[j]? = some z -> ∃ z',A[j]? = some z'/\z.page=z'.page:=λ j z hz=>by
    rw [List.getElem?_set] at hz
    split at hz
    . rename_i e;subst e;cases hz;exact ⟨x,hx,hp⟩
    . exact ⟨z,hz,rfl⟩
  refine ⟨by rw [List.length_set];exact h.len,h.n1,h.n2,λ z hz=>?_,λ z hz=>?_,λ j k z u hz hu e h0=>?_⟩
  . rcases mem_set_of hz with rfl | hz
    . exact hb
    . exact h.fr z hz
  . rcases mem_set_of hz with rfl | hz
    . exact hm
    . exact h.mrk z hz
  . obtain ⟨z',a1,a2⟩:=key j z hz
    obtain ⟨u',b1,b2⟩:=key k u hu
    exact h.one j k z' u' a1 b1 (by rw [<-a2,<-b2];exact e) (by rw [<-a2];exact h0)
theorem FOk.put {count n:Nat} {A:List Fa} (h:FOk count n A) {i:Nat} {page:Int} {b:List UInt8} (h0:0<=page) (hc:page<count) (hb:b.length=256) (hno : ∀ (j:Nat) (y:Fa),A[j]? = some y->y.page≠page):FOk count n (A.set i (newA page b)):=by
  have key : ∀ (j:Nat) (z:Fa),(A.set i (newA page b))[j]? = some z->(j=i/\z=newA page b)\/(j≠i/\A[j]? = some z):=λ j z hz=>by
    rw [List.getElem?_set] at hz
    split at hz
    . rename_i e;subst e
      split at hz
      . cases hz;exact .inl ⟨rfl,rfl⟩
      . cases hz
    . rename_i e;exact .inr ⟨λ e2=>e e2.symm,hz⟩
  refine ⟨by rw [List.length_set];exact h.len,h.n1,h.n2,λ z hz=>?_,λ z hz=>?_,λ j k z u hz hu e h1=>?_⟩
  . rcases mem_set_of hz with rfl | hz
    . exact .inr ⟨h0,hc,hb,by show (0:Int)<=1;omega⟩
    . exact h.fr z hz
  . rcases mem_set_of hz with rfl | hz
    . exact ⟨by show -(2^63)<=(0:Int);omega,by show (0:Int)<_;omega⟩
    . exact h.mrk z hz
  . rcases key j z hz with ⟨rfl,rfl⟩ | ⟨a1,a2⟩ <;> rcases key k u hu with ⟨rfl,rfl⟩ | ⟨b1,b2⟩
    . rfl
    . exact absurd e.symm (hno k u b2)
    . exact absurd e (hno j z a2)
    . exact h.one j k z u a2 b2 e h1
theorem FOk.clock {count n f:Nat} {A A':List Fa} {h i h':Nat} (hF:FOk count n A) (hc:clockA f A h=some (i,A',h')) (hge : ∀ (j:Nat) (y:Fa),A[j]? = some y->0<=y.page):FOk count n A':=by
  have hl:=(clock_len hc).1
  refine ⟨by rw [hl];exact hF.len,hF.n1,hF.n2,λ z hz=>?_,λ z hz=>?_,λ j k z u hz hu e h1=>?_⟩
  . obtain ⟨j,hj,rfl⟩:=List.getElem_of_mem hz
    obtain ⟨x,hx,q1,q2,q3,q4,q5⟩:=clock_fr hc j _ (List.getElem?_eq_getElem hj)
    have:=fr_ok hF hx (hge j x hx)
    exact .inr ⟨by rw [q1];exact this.1,by rw [q1];exact this.2.1,by rw [q5];exact this.2.2.1,by rw [q3];exact this.2.2.2⟩
  . obtain ⟨j,hj,rfl⟩:=List.getElem_of_mem hz
    obtain ⟨x,hx,q1,q2,q3,q4,q5⟩:=clock_fr hc j _ (List.getElem?_eq_getElem hj)
    rw [q2]
    exact hF.mrk x (List.mem_of_getElem? hx)
  . obtain ⟨x,hx,q1,_⟩:=clock_fr hc j z hz
    obtain ⟨y,hy,r1,_⟩:=clock_fr hc k u hu
    exact hF.one j k x y hx hy (by rw [<-q1,<-r1];exact e) (by rw [<-q1];exact h1)
theorem PInv.pin {first count n K:Nat} {s:Pl} (h:PInv first count n K s) (hK:K<2^31) (page:Int):PInv first count n (K+1) (pinP first count s page).1:=by
  have hc:=pin_cases (first:=first) (count:=count) (page:=page) (s:=s) (by rw [h.F.len];exact h.hand)
  generalize pinP first count s page=res at hc ⊢
  cases hc with
  | range _=>exact h.mono (Nat.le_succ _)
  | full _ _ _=>exact h.mono (Nat.le_succ _)
  | found i x hr hf hx =>
    obtain ⟨h0,x2,hx2,hp,_⟩:=findA_some hf
    rw [hx] at hx2
    cases hx2
    have hxm:=List.mem_of_getElem? hx
    have hxo:=fr_ok h.F hx (by omega)
    refine ⟨h.F.set (y:=upA x) hx rfl (.inr ⟨hxo.1,hxo.2.1,hxo.2.2.1,by show 0<=x.pins+1;omega⟩) (h.F.mrk x hxm),λ z hz hd=>?_,λ z hz=>?_,h.hand,h.fit,h.wst,h.wdur,by have:=h.pend;dsimp only;omega,h.ok,h.sec⟩
    . rcases mem_set_of hz with rfl | hz
      . exact h.dp x hxm hd
      . exact h.dp z hz hd
    . rcases mem_set_of hz with rfl | hz
      . have:=h.pins x hxm;show x.pins+1<=_;omega
      . have:=h.pins z hz;omega
  | free i x hr hf hi hp hfirst =>
    have hrl:=h.ok.rd (first+page.toNat) (by have:=h.sec;omega)
    refine ⟨h.F.put (by omega) (by omega) hrl (findA_none hf (by omega)),λ z hz hd=>?_,λ z hz=>?_,h.hand,h.fit,h.wst,h.wdur,by have:=h.pend;dsimp only;omega,h.ok,h.sec⟩
    . rcases mem_set_of hz with rfl | hz
      . cases hd
      . exact h.dp z hz hd
    . rcases mem_set_of hz with rfl | hz
      . show (1:Int)<=_;omega
      . have:=h.pins z hz;omega
  | clock i h' A' x' hr hf hx ha hc hx' hup =>
    obtain ⟨y,hy,q1,q2,q3,q4,q5⟩:=clock_fr hc i x' hx'
    have hyo:=fr_ok h.F hy (hx i y hy)
    have hsec:=h.sec
    have hpe:=h.pend
    obtain ⟨f1,f2,f3,f4,f5,f6,f7⟩:=(h.w hK).give (first:=first) h.ok (by omega) x' (by rw [q1];omega) (by rw [q5];exact hyo.2.2.1)
    have hrl:=f2.rd (first+page.toNat) (by rw [f3];omega)
    have hF':=h.F.clock hc hx
    have hno : ∀ (j:Nat) (z:Fa),A'[j]? = some z->z.page≠page:=λ j z hz=>by
      obtain ⟨w,hw,r1,_⟩:=clock_fr hc j z hz
      rw [r1];exact findA_none hf (by omega) j w hw
    refine ⟨hF'.put (by omega) (by omega) hrl hno,λ z hz hd=>?_,λ z hz=>?_,?_,f1.fit,f1.st,f1.dur,by dsimp only;omega,f2,by rw [f3];exact hsec⟩
    . rcases mem_set_of hz with rfl | hz
      . cases hd
      . obtain ⟨j,hj,rfl⟩:=List.getElem_of_mem hz
        obtain ⟨w,hw,r1,r2,r3,r4,r5⟩:=clock_fr hc j _ (List.getElem?_eq_getElem hj)
        rw [r1];exact hx j w hw
    . rcases mem_set_of hz with rfl | hz
      . show (1:Int)<=_;omega
      . obtain ⟨j,hj,rfl⟩:=List.getElem_of_mem hz
        obtain ⟨w,hw,r1,r2,r3,r4,r5⟩:=clock_fr hc j _ (List.getElem?_eq_getElem hj)
        have:=h.pins w (List.mem_of_getElem? hw)
        rw [r3];omega
    . have:=(clock_at hc (by rw [h.F.len];exact h.hand)).1
      rwa [h.F.len] at this
theorem PInv.setA {first count n K:Nat} {s:Pl} (h:PInv first count n K s) {A:List Fa} (hF:FOk count n A) (hd : ∀ x∈A,x.dirty=true->0<=x.page) (hp : ∀ x∈A,x.pins<=K):PInv first count n K {s with A:=A}:=⟨hF,hd,hp,h.hand,h.fit,h.wst,h.wdur,h.pend,h.ok,h.sec⟩
theorem PInv.unpin {first count n K:Nat} {s:Pl} (h:PInv first count n K s) (page:Int):PInv first count n K {s with A:=(unpinA s.A page).1}:=by
  unfold unpinA
  cases hp:pinnedA s.A page with
  | none=>exact h
  | some r =>
    obtain ⟨i,x⟩:=r
    obtain ⟨hf,hx,hpos⟩:=pinnedA_some hp
    obtain ⟨h0,x2,hx2,hpg,_⟩:=findA_some hf
    rw [hx] at hx2
    cases hx2
    have hxm:=List.mem_of_getElem? hx
    have hxo:=fr_ok h.F hx (by omega)
    have hxk:=h.pins x hxm
    refine h.setA (h.F.set (y:={x with pins:=x.pins-1}) hx rfl (.inr ⟨hxo.1,hxo.2.1,hxo.2.2.1,by show 0<=x.pins-1;omega⟩) (h.F.mrk x hxm)) (λ z hz hd=>?_) (λ z hz=>?_)
    . rcases mem_set_of hz with rfl | hz
      . exact h.dp x hxm hd
      . exact h.dp z hz hd
    . rcases mem_set_of hz with rfl | hz
      . show x.pins-1<=_;omega
      . exact h.pins z hz
theorem PInv.put {first count n K:Nat} {s:Pl} (h:PInv first count n K s) (page:Int) (d:List UInt8) (mark:Int) (hm : -(2^63)<=mark/\mark<2^63):PInv first count n K {s with A:=(putA s.A page d mark).1}:=by
  unfold putA
  cases hp:pinnedA s.A page with
  | none=>exact h
  | some r =>
    obtain ⟨i,x⟩:=r
    dsimp only
    by_cases hd:d.length≠256
    . rw [if_pos hd];exact h
    . rw [if_neg hd]
      obtain ⟨hf,hx,hpos⟩:=pinnedA_some hp
      obtain ⟨h0,x2,hx2,hpg,_⟩:=findA_some hf
      rw [hx] at hx2
      cases hx2
      have hxm:=List.mem_of_getElem? hx
      have hxo:=fr_ok h.F hx (by omega)
      have hxk:=h.F.mrk x hxm
      refine h.setA (h.F.set (y:={x with mark:=max x.mark mark,dirty:=true,b:=d}) hx rfl (.inr ⟨hxo.1,hxo.2.1,by show d.length=256;omega,hxo.2.2.2⟩) (by show _<=max x.mark mark/\max x.mark mark<_;omega)) (λ z hz hd=>?_) (λ z hz=>?_)
      . rcases mem_set_of hz with rfl | hz
        . exact hxo.1
        . exact h.dp z hz hd
      . rcases mem_set_of hz with rfl | hz
        . exact h.pins x hxm
        . exact h.pins z hz
theorem PInv.flush {first count n K:Nat} {s:Pl} (h:PInv first count n K s) (hK:K<2^31):PInv first count n K (flushP first s):=by
  have hsec:=h.sec
  obtain ⟨f1,f2,f3,f4,f5,f6,f7⟩:=(h.w hK).force h.ok (Zm s.A) (h.w hK).room
  have hL : ∀ p∈dirtyL first s.A,p.1<(Zv s.W s.D (Zm s.A)).2.secs.length/\p.2.length=256:=λ p hp=>by
    obtain ⟨i,x,hx,hd,rfl⟩:=dirty_mem.1 hp
    have:=fr_ok h.F hx (h.dp x (List.mem_of_getElem? hx) hd)
    exact ⟨by rw [f3];dsimp only;omega,this.2.2.1⟩
  obtain ⟨w1,w2,w3⟩:=writes_ok f2 hL
  have hcm : ∀ x∈cleanA s.A,∃ y∈s.A,x={y with dirty:=false}:=λ x hx=>by
    obtain ⟨y,hy,rfl⟩:=List.mem_map.1 hx
    exact ⟨y,hy,rfl⟩
  have hca : ∀ (j:Nat) (x:Fa),(cleanA s.A)[j]? = some x -> ∃ y,s.A[j]? = some y/\x.page=y.page:=λ j x hx=>by
    unfold cleanA at hx
    rw [List.getElem?_map] at hx
    cases hy:s.A[j]? with
    | none=>rw [hy] at hx;cases hx
    | some y=>rw [hy] at hx;cases hx;exact ⟨y,rfl,rfl⟩
  refine ⟨⟨by simp only [flushP,cleanA,List.length_map];exact h.F.len,h.F.n1,h.F.n2,λ x hx=>?_,λ x hx=>?_,λ i j x y hx hy e h0=>?_⟩,λ x hx hd=>?_,λ x hx=>?_,h.hand,?_,?_,?_,?_,w1.sy,?_⟩
  . obtain ⟨y,hy,rfl⟩:=hcm x hx
    rcases h.F.fr y hy with rfl | h
    . exact .inl rfl
    . exact .inr h
  . obtain ⟨y,hy,rfl⟩:=hcm x hx
    exact h.F.mrk y hy
  . obtain ⟨x',a1,a2⟩:=hca i x hx
    obtain ⟨y',b1,b2⟩:=hca j y hy
    exact h.F.one i j x' y' a1 b1 (by rw [<-a2,<-b2];exact e) (by rw [<-a2];exact h0)
  . obtain ⟨y,hy,rfl⟩:=hcm x hx
    cases hd
  . obtain ⟨y,hy,rfl⟩:=hcm x hx
    exact h.pins y hy
  . show (Zv s.W s.D (Zm s.A)).1.first+(Zv s.W s.D (Zm s.A)).1.count<=(Zz _ _).sync.secs.length
    rw [DD.sync_len w1,w2];exact f1.fit
  . exact f1.st
  . exact f1.dur
  . exact Nat.zero_le _
  . show first+count<=(Zz _ _).sync.secs.length
    rw [DD.sync_len w1,w2,f3];exact hsec
theorem addW_fit {W:Wl} {d:List UInt8} (hst:W.st.length<=W.count*256) (hd:W.dur<=W.st.length):(addW W d).1.first=W.first/\(addW W d).1.count=W.count/\(addW W d).1.st.length<=W.count*256/\(addW W d).1.dur<=(addW W d).1.st.length:=by
  unfold addW
  split
  . exact ⟨rfl,rfl,hst,hd⟩
  . split
    . exact ⟨rfl,rfl,hst,hd⟩
    . split
      . exact ⟨rfl,rfl,hst,hd⟩
      . refine ⟨rfl,rfl,?_,?_⟩ <;> simp [Zd] <;> omega
theorem PInv.append {first count n K:Nat} {s:Pl} (h:PInv first count n K s) (d:List UInt8):PInv first count n K {s with W:=(addW s.W d).1}:=by
 obtain ⟨a1,a2,a3,a4⟩:=addW_fit (d:=d) h.wst h.wdur
 exact ⟨h.F,h.dp,h.pins,h.hand,by rw [a1,a2];exact h.fit,by rw [a2];exact a3,a4,h.pend,h.ok,h.sec⟩
open Go.RowKit
def HasP (first:Nat) (A:List Fa) (D:DD) (q:Nat) (d:List UInt8):Prop:=(∃ (i:Nat) (x:Fa),A[i]? = some x/\x.page=q/\x.b=d)\/((∀ (i:Nat) (x:Fa),A[i]? = some x->x.page≠q)/\D.read (first+q)=d)
def Coh (first:Nat) (A:List Fa) (D:DD):Prop := ∀ (i:Nat) (x:Fa),A[i]? = some x->0<=x.page->x.dirty=false->x.b=D.read (first+x.page.toNat)
theorem HasP.uniq {first count n:Nat} {A:List Fa} {D:DD} (hF:FOk count n A) {q:Nat} {d:List UInt8} (h:HasP first A D q d) {i:Nat} {x:Fa} (hx:A[i]? = some x) (hp:x.page=q):x.b=d:=by
  rcases h with ⟨j,y,h1,h2,h3⟩ | ⟨h1,_⟩
  . have e:=hF.one i j x y hx h1 (by omega) (by omega)
    subst e
    rw [hx] at h1;cases h1;exact h3
  . exact absurd hp (h1 i x hx)
theorem force_read {W:Wl} {D:DD} (ho:D.Ok) (hw:WOk W D) (m:Int) {x:Nat} (hx:x<D.secs.length) (h:W.first+W.count<=x):(Zv W D m).2.read x=D.read x:=by
 unfold Zv
 split
 . rfl
 . exact flushE_out ho hw.fit hw.dur hw.st hx (.inr h)
theorem give_read {first:Nat} {W:Wl} {D:DD} (ho:D.Ok) (hw:WOk W D) (x:Fa) {q:Nat} (hx:q<D.secs.length) (h:W.first+W.count<=q):(giveP first W D x).2.read q=if x.dirty=true/\first+x.page.toNat=q then x.b else D.read q:=by
  unfold giveP
  by_cases hd:x.dirty=true
  . rw [if_pos hd,DD.rdW]
    rw [force_read ho hw x.mark hx h]
    by_cases e:first+x.page.toNat=q
    . rw [if_pos e,if_pos ⟨hd,e⟩]
    . rw [if_neg e,if_neg (λ k=>e k.2)]
  . rw [if_neg hd,if_neg (λ k=>hd k.1)]
theorem HasP.set {first:Nat} {A:List Fa} {D:DD} {i:Nat} {x y:Fa} (hx:A[i]? = some x) (hp:y.page=x.page) (hb:y.b=x.b) {q:Nat} {d:List UInt8} (h:HasP first A D q d):HasP first (A.set i y) D q d:=by
  have hil:=(List.getElem?_eq_some_iff.1 hx).1
  rcases h with ⟨j,z,h1,h2,h3⟩ | ⟨h1,h2⟩
  . by_cases e:i=j
    . subst e
      rw [hx] at h1;cases h1
      exact .inl ⟨i,y,by rw [List.getElem?_set_self hil],by rw [hp,h2],by rw [hb,h3]⟩
    . exact .inl ⟨j,z,by rw [List.getElem?_set_ne e];exact h1,h2,h3⟩
  . refine .inr ⟨λ j z hz=>?_,h2⟩
    rw [List.getElem?_set] at hz
    split at hz
    . cases hz;rw [hp];exact h1 i x hx
    . exact h1 j z hz
theorem Coh.set {first:Nat} {A:List Fa} {D:DD} {i:Nat} {x y:Fa} (hx:A[i]? = some x) (hp:y.page=x.page) (hb:y.dirty=false->y.b=x.b/\x.dirty=false) (h:Coh first A D):Coh first (A.set i y) D:=by
  have hil:=(List.getElem?_eq_some_iff.1 hx).1
  intro j z hz h0 hd
  rw [List.getElem?_set] at hz
  split at hz
  . cases hz
    obtain ⟨e1,e2⟩:=hb hd
    rw [e1,hp]
    exact h i x hx (by rw [<-hp];exact h0) e2
  . exact h j z hz h0 hd
theorem findA_of {count n:Nat} {A:List Fa} (hF:FOk count n A) {i:Nat} {x:Fa} (hx:A[i]? = some x) {page:Int} (hp:x.page=page) (h0:0<=page):findA A page=some i :=
 findA_eq h0 hx hp λ j hj y hy e=>by
  have:=hF.one j i y x hy hx (by rw [e,hp]) (by rw [e];exact h0)
  omega
theorem pinnedA_of {count n:Nat} {A:List Fa} (hF:FOk count n A) {i:Nat} {x:Fa} (hx:A[i]? = some x) {page:Int} (hp:x.page=page) (h0:0<=page) (hq:0<x.pins):pinnedA A page=some (i,x):=by
 unfold pinnedA
 rw [findA_of hF hx hp h0]
 dsimp only
 rw [hx]
 dsimp only
 rw [if_pos hq]
theorem pin_ok {first count n K:Nat} {s:Pl} (h:PInv first count n K s) (hK:K<2^31) (page:Int) (hlog:s.W.first+s.W.count<=first) (hc:Coh first s.A s.D):(∀ (q:Nat) (d:List UInt8),q<count->HasP first s.A s.D q d->HasP first (pinP first count s page).1.A (pinP first count s page).1.D q d)/\Coh first (pinP first count s page).1.A (pinP first count s page).1.D:=by
  have hw:=h.w hK
  have ho:=h.ok
  have hF:=h.F
  have hsec:=h.sec
  have hcs:=pin_cases (first:=first) (count:=count) (page:=page) (s:=s) (by rw [h.F.len];exact h.hand)
  generalize pinP first count s page=res at hcs ⊢
  cases hcs with
  | range hr=>exact ⟨λ q d _ h=>h,hc⟩
  | full hr hf hx=>exact ⟨λ q d _ h=>h,hc⟩
  | found i x hr hf hx=>exact ⟨λ q d _ h=>HasP.set (y:=upA x) hx rfl rfl h,Coh.set (y:=upA x) hx rfl (λ e=>⟨rfl,e⟩) hc⟩
  | free i x hr hf hi hp hfirst =>
    have hil:=(List.getElem?_eq_some_iff.1 hi).1
    have hno:=findA_none hf (by omega)
    dsimp only
    refine ⟨λ q d hq h=>?_,λ j z hz h0 hd=>?_⟩
    . rcases h with ⟨j,z,h1,h2,h3⟩ | ⟨h1,h2⟩
      . by_cases e:i=j
        . subst e;rw [hi] at h1;cases h1;omega
        . exact .inl ⟨j,z,by rw [List.getElem?_set_ne e];exact h1,h2,h3⟩
      . by_cases e:page=q
        . refine .inl ⟨i,_,List.getElem?_set_self hil,e,?_⟩
          rw [<-h2,e];rfl
        . refine .inr ⟨λ j z hz=>?_,h2⟩
          rw [List.getElem?_set] at hz
          split at hz
          . cases hz;exact e
          . exact h1 j z hz
    . rw [List.getElem?_set] at hz
      split at hz
      . cases hz;rfl
      . exact hc j z hz h0 hd
  | clock i h' A' x' hr hf hx ha hc' hx' hup =>
    obtain ⟨hl,hi⟩:=clock_len hc'
    have hil:i<A'.length:=by omega
    have hfr:=clock_fr hc'
    have hno:=findA_none hf (by omega)
    obtain ⟨x,hxx,e1,e2,e3,e4,e5⟩:=hfr i x' hx'
    have hxo:=fr_ok hF hxx (hx i x hxx)
    have hx0:0<=x'.page:=by rw [e1];exact hxo.1
    have fwd : ∀ (j:Nat) (z:Fa),s.A[j]? = some z -> ∃ z',A'[j]? = some z'/\z'.page=z.page/\z'.b=z.b/\z'.dirty=z.dirty:=λ j z hz=>by
      have hj:=(List.getElem?_eq_some_iff.1 hz).1
      obtain ⟨y,hy,q1,q2,q3,q4,q5⟩:=hfr j A'[j] (List.getElem?_eq_getElem (by omega))
      rw [hz] at hy;cases hy
      exact ⟨_,List.getElem?_eq_getElem (by omega),q1,q5,q4⟩
    have rd : ∀ q,q<count->(giveP first s.W s.D x').2.read (first+q)=if x'.dirty=true/\first+x'.page.toNat=first+q then x'.b else s.D.read (first+q):=λ q hq=>give_read ho hw x' (by omega) (by omega)
    dsimp only
    refine ⟨λ q d hq h=>?_,λ j z hz h0 hd=>?_⟩
    . rcases h with ⟨j,z,h1,h2,h3⟩ | ⟨h1,h2⟩
      . by_cases e:i=j
        . subst e
          rw [hxx] at h1;cases h1
          refine .inr ⟨λ j z hz=>?_,?_⟩
          . rw [List.getElem?_set] at hz
            split at hz
            . cases hz
              intro e;exact hno i x hxx (by rw [h2];exact e.symm)
            . rename_i hne
              obtain ⟨y,hy,q1,_⟩:=hfr j z hz
              intro e
              exact hne (hF.one i j x y hxx hy (by rw [<-q1,e,h2]) hxo.1)
          . rw [rd q hq]
            by_cases hd:x'.dirty=true
            . rw [if_pos ⟨hd,by rw [e1,h2];simp⟩,e5,h3]
            . rw [if_neg (λ k=>hd k.1)]
              have:=hc i x hxx hxo.1 (by rw [<-e4];simpa using hd)
              rw [h2] at this
              rw [<-h3,this];simp
        . obtain ⟨z',a1,a2,a3,_⟩:=fwd j z h1
          exact .inl ⟨j,z',by rw [List.getElem?_set_ne e];exact a1,by rw [a2,h2],by rw [a3,h3]⟩
      . have hrq:(giveP first s.W s.D x').2.read (first+q)=d:=by
          rw [rd q hq,if_neg (λ k=>h1 i x hxx (by rw [<-e1];omega)),h2]
        by_cases e:page=q
        . refine .inl ⟨i,_,List.getElem?_set_self hil,e,?_⟩
          rw [<-hrq,e];rfl
        . refine .inr ⟨λ j z hz=>?_,hrq⟩
          rw [List.getElem?_set] at hz
          split at hz
          . cases hz;exact e
          . obtain ⟨y,hy,q1,_⟩:=hfr j z hz
            rw [q1];exact h1 j y hy
    . rw [List.getElem?_set] at hz
      split at hz
      . cases hz;rfl
      . rename_i hne
        obtain ⟨y,hy,q1,q2,q3,q4,q5⟩:=hfr j z hz
        have hyo:=fr_ok hF hy (by rw [<-q1];exact h0)
        rw [q5,hc j y hy hyo.1 (by rw [<-q4];exact hd),q1,rd _ (by omega),if_neg]
        rintro ⟨_,k⟩
        exact hne (hF.one i j x y hxx hy (by rw [<-e1];omega) hxo.1)
theorem pin_frame {first count n K:Nat} {s:Pl} (h:PInv first count n K s) (page:Int) (hr : ¬ (page<0\/(count:Int)<=page)) (hz : ∀ x∈s.A,x.pins=0):(pinP first count s page).2=0 /\ ∃ (i:Nat) (x:Fa),(pinP first count s page).1.A[i]? = some x/\x.page=page/\x.pins=1 /\ ∀ (j:Nat) (y:Fa),(pinP first count s page).1.A[j]? = some y->j≠i->y.pins=0:=by
 have hF:=h.F
 have hcs:=pin_cases (first:=first) (count:=count) (page:=page) (s:=s) (by rw [h.F.len];exact h.hand)
 generalize pinP first count s page=res at hcs ⊢
 cases hcs with
 | range hr'=>exact absurd hr' hr
 | full hr' hf hx =>
  have h0:0<s.A.length:=by rw [hF.len];exact hF.n1
  have:=hx 0 _ (List.getElem?_eq_getElem h0)
  have:=hz s.A[0] (List.getElem_mem _)
  omega
 | found i x hr' hf hx =>
  obtain ⟨_,x2,hx2,hp,_⟩:=findA_some hf
  rw [hx] at hx2;cases hx2
  have hil:=(List.getElem?_eq_some_iff.1 hx).1
  refine ⟨rfl,i,upA x,List.getElem?_set_self hil,hp,by simp [upA,hz x (List.mem_of_getElem? hx)],λ j y hy hne=>?_⟩
  rw [List.getElem?_set_ne (λ e=>hne e.symm)] at hy
  exact hz y (List.mem_of_getElem? hy)
 | free i x hr' hf hi hp hfirst =>
  have hil:=(List.getElem?_eq_some_iff.1 hi).1
  refine ⟨rfl,i,_,List.getElem?_set_self hil,rfl,rfl,λ j y hy hne=>?_⟩
  dsimp only at hy
  rw [List.getElem?_set_ne (λ e=>hne e.symm)] at hy
  exact hz y (List.mem_of_getElem? hy)
 | clock i h' A' x' hr' hf hx ha hc' hx' hup =>
  have hil:=(List.getElem?_eq_some_iff.1 hx').1
  refine ⟨rfl,i,_,List.getElem?_set_self hil,rfl,rfl,λ j y hy hne=>?_⟩
  dsimp only at hy
  rw [List.getElem?_set_ne (λ e=>hne e.symm)] at hy
  obtain ⟨z,hz1,_,_,q3,_⟩:=clock_fr hc' j y hy
  rw [q3];exact hz z (List.mem_of_getElem? hz1)
theorem flush_has {first count n K:Nat} {s:Pl} (h:PInv first count n K s) (hK:K<2^31) (hlog:s.W.first+s.W.count<=first) (hc:Coh first s.A s.D) {q:Nat} (hq:q<count) {d:List UInt8} (hh:HasP first s.A s.D q d) :
    (Zz (Zv s.W s.D (Zm s.A)).2 (dirtyL first s.A)).sync.read (first+q)=d:=by
  have hw:=h.w hK
  have hF:=h.F
  have hsec:=h.sec
  obtain ⟨f1,f2,f3,f4,f5,f6,f7⟩:=hw.force h.ok (Zm s.A) hw.room
  have hL : ∀ p∈dirtyL first s.A,p.1<(Zv s.W s.D (Zm s.A)).2.secs.length/\p.2.length=256:=λ p hp=>by
    obtain ⟨i,x,hx,hd,rfl⟩:=dirty_mem.1 hp
    have:=fr_ok hF hx (h.dp x (List.mem_of_getElem? hx) hd)
    exact ⟨by rw [f3];dsimp only;omega,this.2.2.1⟩
  obtain ⟨w1,w2,w3⟩:=writes_ok f2 hL
  rw [DD.rdS w1 _ (by rw [w2,f3];omega)]
  have hrd:=force_read h.ok hw (Zm s.A) (x:=first+q) (by omega) (by omega)
  rcases hh with ⟨i,x,h1,h2,h3⟩ | ⟨h1,h2⟩
  . by_cases hd:x.dirty=true
    . exact writes_in (dirty_nodup hF h.dp) (dirty_mem.2 ⟨i,x,h1,hd,by rw [h2,h3];simp⟩)
    . rw [writes_out,hrd]
      . have:=hc i x h1 (by omega) (by simpa using hd)
        rw [h2] at this
        rw [<-h3,this];simp
      . intro p hp
        obtain ⟨j,y,hy,hyd,rfl⟩:=dirty_mem.1 hp
        have hy0:=h.dp y (List.mem_of_getElem? hy) hyd
        intro e
        dsimp only at e
        have:=hF.one i j x y h1 hy (by omega) (by omega)
        subst this
        rw [h1] at hy;cases hy
        exact hd hyd
  . rw [writes_out,hrd,h2]
    intro p hp
    obtain ⟨j,y,hy,hyd,rfl⟩:=dirty_mem.1 hp
    have hy0:=h.dp y (List.mem_of_getElem? hy) hyd
    intro e
    dsimp only at e
    exact h1 j y hy (by omega)
open Go.RowKit
def ScanG (al:List UInt8) (m k:Nat) (s:UInt32) (R:List (Nat×List UInt8)):Prop := ∃ f,m<f+k/\Wj al (m+1) 0 0=((Wj al f k s).1,(Wj al f k s).2.1,R++(Wj al f k s).2.2)
theorem ScanG.stop {al:List UInt8} {m k:Nat} {s:UInt32} {R:List (Nat×List UInt8)} (h:ScanG al m k s R) (ht:takeRec al k s=none):Wj al (m+1) 0 0=(k,s,R):=by
 obtain ⟨f,_,e⟩:=h
 rw [e,scan_none ht,List.append_nil]
theorem ScanG.next {al:List UInt8} {m k nn:Nat} {s s':UInt32} {R:List (Nat×List UInt8)} (h:ScanG al m k s R) (hk:k<=m) (ht:takeRec al k s=some (nn,s')):ScanG al m (k+(8+nn)) s' (R++[(k+(8+nn),((al.drop k).take (8+nn)).drop 8)]):=by
 obtain ⟨f,hf,e⟩:=h
 cases f with
 | zero=>omega
 | succ f =>
  refine ⟨f,by omega,?_⟩
  rw [e,Wj,ht]
  simp
open Go.RowKit
open Go.RowKit
structure OpB where
 kind:Int
 page:Int
 data:List UInt8
 mark:Int
def stepPl (s:Pl) (o:OpB):Pl :=
 if o.kind=0 then (pinP 4 8 s o.page).1 else if o.kind=1 then {s with A:=(unpinA s.A o.page).1} else if o.kind=2 then {s with A:=(putA s.A o.page o.data o.mark).1}
 else if o.kind=3 then s else if o.kind=4 then flushP 4 s else if o.kind=5 then {s with W:=(addW s.W o.data).1} else s
theorem PInv.step {n K:Nat} {s:Pl} (h:PInv 4 8 n K s) (hK:K<2^31) (o:OpB) (hm : -(2^63)<=o.mark/\o.mark<2^63):PInv 4 8 n (K+1) (stepPl s o):=by
  unfold stepPl
  split
  . exact h.pin hK _
  . split
    . exact (h.unpin _).mono (Nat.le_succ _)
    . split
      . exact (h.put _ _ _ hm).mono (Nat.le_succ _)
      . split
        . exact h.mono (Nat.le_succ _)
        . split
          . exact (h.flush hK).mono (Nat.le_succ _)
          . split
            . exact (h.append _).mono (Nat.le_succ _)
            . exact h.mono (Nat.le_succ _)
open Go.RowKit
theorem give_len {first:Nat} {W:Wl} {D:DD} (h:WOk W D) (ho:D.Ok) (x:Fa):(giveP first W D x).2.secs.length=D.secs.length:=by
 have:=(h.force ho x.mark h.room).2.2.1
 unfold giveP
 split
 . exact this
 . rfl
theorem step_len {n K:Nat} {s:Pl} (h:PInv 4 8 n K s) (hK:K<2^31) (o:OpB):(stepPl s o).D.secs.length=s.D.secs.length:=by
  unfold stepPl
  split
  . have hc:=pin_cases (first:=4) (count:=8) (page:=o.page) (s:=s) (by rw [h.F.len];exact h.hand)
    generalize pinP 4 8 s o.page=res at hc ⊢
    cases hc with
    | clock i h' A' x' hr hf hx ha hc hx' hup=>exact give_len (h.w hK) h.ok x'
    | _=>rfl
  . split
    . rfl
    . split
      . rfl
      . split
        . rfl
        . split
          . obtain ⟨f1,f2,f3,f4,f5,f6,f7⟩:=(h.w hK).force h.ok (Zm s.A) (h.w hK).room
            have hsec:=h.sec
            have hL : ∀ p∈dirtyL 4 s.A,p.1<(Zv s.W s.D (Zm s.A)).2.secs.length/\p.2.length=256:=λ p hp=>by
              obtain ⟨i,x,hx,hd,rfl⟩:=dirty_mem.1 hp
              have:=fr_ok h.F hx (h.dp x (List.mem_of_getElem? hx) hd)
              exact ⟨by rw [f3];dsimp only;omega,this.2.2.1⟩
            obtain ⟨w1,w2,w3⟩:=writes_ok f2 hL
            show (Zz _ _).sync.secs.length=_
            rw [DD.sync_len w1,w2,f3]
          . split <;> rfl
open Go.RowKit
theorem force_log {W:Wl} {D:DD} (h:WOk W D) (ho:D.Ok) (m:Int):(Zv W D m).1.first=W.first/\(Zv W D m).1.count=W.count:=by
 obtain ⟨f1,f2,f3,f4,f5,f6,f7⟩:=h.force ho m h.room
 exact ⟨f5,f6⟩
theorem give_log {first:Nat} {W:Wl} {D:DD} (h:WOk W D) (ho:D.Ok) (x:Fa):(giveP first W D x).1.first=W.first/\(giveP first W D x).1.count=W.count:=by
 unfold giveP
 split
 . exact force_log h ho x.mark
 . exact ⟨rfl,rfl⟩
theorem pin_log {first count n K:Nat} {s:Pl} (h:PInv first count n K s) (hK:K<2^31) (page:Int):(pinP first count s page).1.W.first=s.W.first/\(pinP first count s page).1.W.count=s.W.count:=by
 have hc:=pin_cases (first:=first) (count:=count) (page:=page) (s:=s) (by rw [h.F.len];exact h.hand)
 generalize pinP first count s page=res at hc ⊢
 cases hc with
 | clock i h' A' x' hr hf hx ha hc hx' hup=>exact give_log (h.w hK) h.ok x'
 | _=>exact ⟨rfl,rfl⟩
theorem pin_len {n K:Nat} {s:Pl} (h:PInv 4 8 n K s) (hK:K<2^31) (page:Int):(pinP 4 8 s page).1.D.secs.length=s.D.secs.length:=by
 have:=step_len h hK ⟨0,page,[],0⟩
 unfold stepPl at this
 rwa [if_pos rfl] at this
structure ThInv (n K:Nat) (s:Pl) (last:List (List UInt8)):Prop where
 inv:PInv 4 8 n K s
 len:s.D.secs.length=12
 log:s.W.first+s.W.count<=4
 zero : ∀ x∈s.A,x.pins=0
 coh:Coh 4 s.A s.D
 ll:last.length=8
 has : ∀ (q:Nat) (d:List UInt8),last[q]? = some d->HasP 4 s.A s.D q d
structure OneP (page:Int) (A:List Fa) (i:Nat) (x:Fa):Prop where
 at_:A[i]? = some x
 pg:x.page=page
 one:x.pins=1
 rest : ∀ (j:Nat) (y:Fa),A[j]? = some y->j≠i->y.pins=0
theorem OneP.set {page:Int} {A:List Fa} {i:Nat} {x y:Fa} (h:OneP page A i x) (hp:y.page=page) (h1:y.pins=1):OneP page (A.set i y) i y:=by
 have hil:=(List.getElem?_eq_some_iff.1 h.at_).1
 exact ⟨List.getElem?_set_self hil,hp,h1,λ j z hz hne=>by rw [List.getElem?_set_ne (λ e=>hne e.symm)] at hz;exact h.rest j z hz hne⟩
theorem OneP.unpin {count n:Nat} {page:Int} {A:List Fa} {i:Nat} {x:Fa} (h:OneP page A i x) (hF:FOk count n A) (h0:0<=page):unpinA A page=(A.set i {x with pins:=0},0)/\unpinA (A.set i {x with pins:=0}) page=(A.set i {x with pins:=0},61) /\ ∀ y∈A.set i {x with pins:=0},y.pins=0:=by
  have hil:=(List.getElem?_eq_some_iff.1 h.at_).1
  have h1:=pinnedA_of hF h.at_ h.pg h0 (by rw [h.one];omega)
  have hz : ∀ (j:Nat) (y:Fa),(A.set i {x with pins:=0})[j]? = some y->y.pins=0:=λ j y hy=>by
    by_cases e:i=j
    . subst e;rw [List.getElem?_set_self hil] at hy;cases hy;rfl
    . rw [List.getElem?_set_ne e] at hy;exact h.rest j y hy (λ q=>e q.symm)
  refine ⟨?_,?_,λ y hy=>by obtain ⟨j,hj,rfl⟩:=List.getElem_of_mem hy;exact hz j _ (List.getElem?_eq_getElem hj)⟩
  . unfold unpinA
    rw [h1]
    dsimp only
    rw [h.one];rfl
  . unfold unpinA
    cases hp:pinnedA (A.set i {x with pins:=0}) page with
    | none=>rfl
    | some r =>
      obtain ⟨_,hr,h2⟩:=pinnedA_some hp
      have:=hz _ _ hr
      omega
theorem ThInv.round {n K:Nat} {s:Pl} {last:List (List UInt8)} (h:ThInv n K s last) (hK:K<2^31) {page:Int} (h0:0<=page) (h8:page<8) :
    ∃ s1 i x,pinP 4 8 s page=(s1,0)/\PInv 4 8 n (K+1) s1/\OneP page s1.A i x/\last[page.toNat]? = some x.b/\x.b.length=256/\pinnedA s1.A page=some (i,x) /\
      ∀ (d:List UInt8) (mark:Int),-(2^63)<=mark/\mark<2^63 -> ∃ c A3,(putA s1.A page d mark).2=c/\(c=0\/c=10)/\unpinA (putA s1.A page d mark).1 page=(A3,0)/\unpinA A3 page=(A3,61)/\ThInv n (K+1) {s1 with A:=A3} (if c=0 then last.set page.toNat d else last)/\PInv 4 8 n (K+1) {s1 with A:=(putA s1.A page d mark).1}:=by
  have hr : ¬ (page<0\/((8:Nat):Int)<=page):=by omega
  obtain ⟨hcode,i,x,hi,hp,hone,hrest⟩:=pin_frame h.inv page hr h.zero
  have hpi:=h.inv.pin hK page
  obtain ⟨hhas,hcoh⟩:=pin_ok h.inv hK page h.log h.coh
  have hlen:=pin_len h.inv hK page
  obtain ⟨hl1,hl2⟩:=pin_log h.inv hK page
  have hs1:pinP 4 8 s page=((pinP 4 8 s page).1,0):=by rw [<-hcode]
  generalize (pinP 4 8 s page).1=s1 at *
  have hO:OneP page s1.A i x:=⟨hi,hp,hone,hrest⟩
  have hpin:=pinnedA_of hpi.F hi hp h0 (by rw [hone];omega)
  have hxo:=fr_ok hpi.F hi (by omega)
  have hq8:page.toNat<last.length:=by rw [h.ll];omega
  have hlast:last[page.toNat]? = some x.b:=by
    have:=(hhas page.toNat _ (by omega) (h.has page.toNat _ (List.getElem?_eq_getElem hq8))).uniq hpi.F hi (by omega)
    rw [this];exact List.getElem?_eq_getElem hq8
  refine ⟨s1,i,x,hs1,hpi,hO,hlast,hxo.2.2.1,hpin,λ d mark hm=>?_⟩
  have hput:=hpi.put page d mark hm
  by_cases hd:d.length=256
  . have e:putA s1.A page d mark=(s1.A.set i {x with mark:=max x.mark mark,dirty:=true,b:=d},0):=by
      unfold putA;rw [hpin];dsimp only;rw [if_neg (by simp [hd])]
    rw [e] at hput ⊢
    dsimp only at hput ⊢
    have hO2:OneP page (s1.A.set i {x with mark:=max x.mark mark,dirty:=true,b:=d}) i {x with mark:=max x.mark mark,dirty:=true,b:=d}:=hO.set hp hone
    obtain ⟨u1,u2,u3⟩:=hO2.unpin hput.F h0
    have hun:=hput.unpin page
    rw [u1] at hun
    dsimp only at hun
    have hil:=(List.getElem?_eq_some_iff.1 hi).1
    refine ⟨0,_,rfl,.inl rfl,u1,u2,?_,hput⟩
    rw [if_pos rfl]
    refine ⟨hun,hlen.trans h.len,by rw [hl1,hl2];exact h.log,u3,?_,by rw [List.length_set];exact h.ll,λ q dd hq=>?_⟩
    . dsimp only
      rw [List.set_set]
      exact Coh.set (x:=x) hi rfl (λ e=>by cases e) (hcoh)
    . dsimp only
      rw [List.set_set]
      rw [List.getElem?_set] at hq
      split at hq
      . rename_i eq
        cases hq
        exact .inl ⟨i,_,List.getElem?_set_self hil,by show x.page=_;omega,rfl⟩
      . rename_i ne
        have hqq:q<8:=by have:=(List.getElem?_eq_some_iff.1 hq).1;rw [h.ll] at this;exact this
        rcases hhas q dd hqq (h.has q dd hq) with ⟨j,z,a1,a2,a3⟩ | ⟨a1,a2⟩
        . refine .inl ⟨j,z,?_,a2,a3⟩
          rw [List.getElem?_set_ne]
          . exact a1
          . intro e;subst e;rw [hi] at a1;cases a1;omega
        . refine .inr ⟨λ j z hz=>?_,a2⟩
          rw [List.getElem?_set] at hz
          split at hz
          . cases hz;show x.page≠_;omega
          . exact a1 j z hz
  . have e:putA s1.A page d mark=(s1.A,10):=by
      unfold putA;rw [hpin];dsimp only;rw [if_pos hd]
    rw [e] at hput ⊢
    dsimp only at hput ⊢
    obtain ⟨u1,u2,u3⟩:=hO.unpin hpi.F h0
    have hun:=hpi.unpin page
    rw [u1] at hun
    dsimp only at hun
    refine ⟨10,_,rfl,.inr rfl,u1,u2,?_,hput⟩
    rw [if_neg (by decide)]
    refine ⟨hun,hlen.trans h.len,by rw [hl1,hl2];exact h.log,u3,Coh.set (x:=x) hi rfl (λ e=>⟨rfl,e⟩) hcoh,h.ll,λ q dd hq=>?_⟩
    have hqq:q<8:=by have:=(List.getElem?_eq_some_iff.1 hq).1;rw [h.ll] at this;exact this
    exact HasP.set (y:={x with pins:=0}) hi rfl rfl (hhas q dd hqq (h.has q dd hq))
open Go.RowKit
open Go.RowKit
theorem DD.Ok.map {D:DD} (h:D.Ok) {N:Nat} (hN:D.secs.length=N):DD.Ok ⟨(List.range N).map D.read,[]⟩:=by
 have h1:=h.pos
 have h2:=h.max
 refine ⟨by simp;omega,by simp;omega,?_,by simp,by simp⟩
 intro s hs
 obtain ⟨j,hj,rfl⟩:=List.mem_map.1 hs
 exact h.rd j (by have:=List.mem_range.1 hj;omega)
end Go.Proofs.YtkfmfoecplbclaaGreatDoor
namespace Go.Proofs.YtkfmfoecplbclaaGreatDoor
open Go.ChangeShapes Go.WideShapes Go.ChangeAt Go.RowKit
section
variable {H : Type} {enc:TypeId×Value->H} {W:World}
end
open Go.RowKit
open Go.RowKit
structure LogI (logs:Nat) (W:Wl) (D:DD) (es:List En):Prop where
 w:W=mkW 0 logs (es.map Zj) W.dur
 dur : ∃ k,k<=es.length/\W.dur=(Zr 0 0 ((es.take k).map Zj)).length /\ ∀ (i:Nat) (e:En),k<=i->es[i]? = some e->e.kind≠3
 secs:Secs D 0 logs (W.st.take W.dur)
 pend : ∀ p∈D.pend,logs<=p.1
theorem LogI.first {logs:Nat} {W:Wl} {D:DD} {es:List En} (h:LogI logs W D es):W.first=0/\W.count=logs/\W.st=Zr 0 0 (es.map Zj):=by
 have:=h.w
 generalize W.dur=d at this
 subst this
 exact ⟨rfl,rfl,rfl⟩
theorem LogI.force {logs:Nat} {W:Wl} {D:DD} {es:List En} (h:LogI logs W D es) (hw:WOk W D) (ho:D.Ok) (m:Int):LogI logs (Zv W D m).1 (Zv W D m).2 es:=by
  obtain ⟨a,b,c⟩:=h.first
  unfold Zv
  split
  . exact h
  . have hf:=flushE_secs (W:=W) (D:=D) ho hw.fit (by rw [a,b];exact h.secs) hw.dur hw.st
    refine ⟨?_,⟨es.length,Nat.le_refl _,?_,λ i e hi he=>?_⟩,?_,?_⟩
    . show W.flushed=mkW 0 logs (es.map Zj) W.st.length
      have:=h.w
      generalize W.dur=d at this
      subst this
      rfl
    . show W.st.length=_
      rw [c,List.take_length]
    . rw [List.getElem?_eq_none hi] at he;cases he
    . show Secs (Wh W D) 0 logs (W.st.take W.st.length)
      rw [List.take_length,<-a,<-b];exact hf
    . show ∀ p∈(Wh W D).pend,_
      unfold Wh
      split
      . exact h.pend
      . intro p hp;simp [flushD,DD.sync] at hp
theorem LogI.put {logs:Nat} {W:Wl} {D:DD} {es:List En} (h:LogI logs W D es) (n:Nat) (b:List UInt8) (hn:logs<=n):LogI logs W (D.write n b) es:=by
  refine ⟨h.w,h.dur,λ j hj=>?_,λ p hp=>?_⟩
  . rw [DD.rdW,if_neg (by omega)];exact h.secs j hj
  . simp only [DD.write] at hp
    rcases List.mem_append.1 hp with hp | hp
    . exact h.pend p hp
    . simp at hp;subst hp;exact hn
theorem LogI.give {logs:Nat} {W:Wl} {D:DD} {es:List En} (h:LogI logs W D es) (hw:WOk W D) (ho:D.Ok) (x:Fa):LogI logs (giveP logs W D x).1 (giveP logs W D x).2 es:=by
 unfold giveP
 split
 . exact (h.force hw ho x.mark).put _ _ (by omega)
 . exact h
theorem LogI.pin {logs count n K:Nat} {s:Pl} {es:List En} (h:LogI logs s.W s.D es) (p:PInv logs count n K s) (hK:K<2^31) (page:Int):LogI logs (pinP logs count s page).1.W (pinP logs count s page).1.D es:=by
 have hc:=pin_cases (first:=logs) (count:=count) (page:=page) (s:=s) (by rw [p.F.len];exact p.hand)
 generalize pinP logs count s page=res at hc ⊢
 cases hc with
 | clock i h' A' x' hr hf hx ha hc hx' hup=>exact h.give (p.w hK) p.ok x'
 | _=>exact h
theorem LogI.writesL {logs:Nat} {W:Wl} {es:List En} : ∀ (L:List (Nat×List UInt8)) (D:DD),LogI logs W D es->(∀ p∈L,logs<=p.1)->LogI logs W (Zz D L) es
 | [],_,h,_=>h
 | p::L,D,h,hL=>LogI.writesL L (D.write p.1 p.2) (h.put p.1 p.2 (hL p (by simp))) (λ q hq=>hL q (by simp [hq]))
theorem LogI.writes {logs:Nat} {W:Wl} {es:List En} {L:List (Nat×List UInt8)} {D:DD} (h:LogI logs W D es) (hL : ∀ p∈L,logs<=p.1):LogI logs W (Zz D L) es:=LogI.writesL L D h hL
theorem LogI.sync {logs:Nat} {W:Wl} {D:DD} {es:List En} (h:LogI logs W D es) (ho:D.Ok) (hl:logs<=D.secs.length):LogI logs W D.sync es :=
 ⟨h.w,h.dur,h.secs.sync ho (by omega),λ p hp=>by simp [DD.sync] at hp⟩
theorem LogI.flush {logs count n K:Nat} {s:Pl} {es:List En} (h:LogI logs s.W s.D es) (p:PInv logs count n K s) (hK:K<2^31):LogI logs (flushP logs s).W (flushP logs s).D es:=by
 unfold flushP
 dsimp only
 have hsec:=p.sec
 obtain ⟨f1,f2,f3,f4,f5,f6,f7⟩:=(p.w hK).force p.ok (Zm s.A) (p.w hK).room
 have hL : ∀ q∈dirtyL logs s.A,q.1<(Zv s.W s.D (Zm s.A)).2.secs.length/\q.2.length=256:=λ q hq=>by
  obtain ⟨i,x,hx,hd,rfl⟩:=dirty_mem.1 hq
  have:=fr_ok p.F hx (p.dp x (List.mem_of_getElem? hx) hd)
  exact ⟨by rw [f3];dsimp only;omega,this.2.2.1⟩
 have hL2 : ∀ q∈dirtyL logs s.A,logs<=q.1:=λ q hq=>by
  obtain ⟨i,x,hx,hd,rfl⟩:=dirty_mem.1 hq
  dsimp only;omega
 obtain ⟨w1,w2,w3⟩:=writes_ok f2 hL
 exact ((h.force (p.w hK) p.ok _).writes hL2).sync w1 (by rw [w2,f3];omega)
theorem encE_ok {e:En} (h:EnOk e):OkD (Zj e):=by
 have:=h.long
 constructor
 . rw [encE_len];split <;> omega
 . rw [encE_len];split <;> omega
theorem logB_sz (es:List En):(Zr 0 0 (es.map Zj)).length=(es.map enSz).sum:=by
 have key : ∀ (es:List En) (s:UInt32) (k:Nat),(Zr s k (es.map Zj)).length=(es.map enSz).sum:=by
  intro es
  induction es with
  | nil=>intro s k;rfl
  | cons e es ih =>
   intro s k
   simp only [List.map_cons,Zr,List.length_append,Wf,ih,List.sum_cons]
   rfl
 exact key es 0 0
theorem logB_pre (es:List En) (e:En):Zr 0 0 ((es++[e]).map Zj)=Zr 0 0 (es.map Zj)++recB (logS 0 0 (es.map Zj)) (0+(Zr 0 0 (es.map Zj)).length) (Zj e):=by
 rw [List.map_append,List.map_cons,List.map_nil,logB_snoc]
theorem LogI.wdur {logs:Nat} {W:Wl} {D:DD} {es:List En} (h:LogI logs W D es):W.dur<=W.st.length:=by
 obtain ⟨k,_,k2,_⟩:=h.dur
 rw [h.first.2.2,k2]
 have:Zr 0 0 (es.map Zj)=Zr 0 0 ((es.take k).map Zj)++Zr (logS 0 0 ((es.take k).map Zj)) (0+(Zr 0 0 ((es.take k).map Zj)).length) ((es.drop k).map Zj):=by
  rw [<-logB_app,<-List.map_append,List.take_append_drop]
 rw [this,List.length_append];omega
theorem LogI.append {logs:Nat} {W:Wl} {D:DD} {es:List En} {e:En} (h:LogI logs W D es) (hk:e.kind≠3):LogI logs (mkW 0 logs ((es++[e]).map Zj) W.dur) D (es++[e]):=by
  obtain ⟨k,k1,k2,k3⟩:=h.dur
  refine ⟨rfl,⟨k,by simp;omega,?_,λ i x hi hx=>?_⟩,?_,h.pend⟩
  . rw [List.take_append_of_le_length k1];exact k2
  . rw [List.getElem?_append] at hx
    split at hx
    . exact k3 i x hi hx
    . have:=List.mem_of_getElem? hx
      simp at this;subst this;exact hk
  . have hd:=h.wdur
    have hs:=h.secs
    rw [h.first.2.2] at hs hd
    show Secs D 0 logs ((Zr 0 0 ((es++[e]).map Zj)).take W.dur)
    rw [logB_pre,List.take_append_of_le_length hd];exact hs
theorem LogI.commit {logs:Nat} {W:Wl} {D:DD} {es:List En} {e:En} (h:LogI logs W D es) (hw:WOk (mkW 0 logs ((es++[e]).map Zj) W.dur) D) (ho:D.Ok):LogI logs (mkW 0 logs ((es++[e]).map Zj) W.dur).flushed (Wh (mkW 0 logs ((es++[e]).map Zj) W.dur) D) (es++[e]):=by
  have hd:=h.wdur
  have hs:=h.secs
  rw [h.first.2.2] at hs hd
  have hs2:Secs D 0 logs ((Zr 0 0 ((es++[e]).map Zj)).take W.dur):=by
    rw [logB_pre,List.take_append_of_le_length hd];exact hs
  have hf:=flushE_secs (W:=mkW 0 logs ((es++[e]).map Zj) W.dur) (D:=D) ho hw.fit hs2 hw.dur hw.st
  refine ⟨rfl,⟨(es++[e]).length,Nat.le_refl _,by rw [List.take_length];rfl,λ i x hi hx=>?_⟩,?_,?_⟩
  . rw [List.getElem?_eq_none hi] at hx;cases hx
  . show Secs _ 0 logs ((Zr 0 0 ((es++[e]).map Zj)).take (Zr 0 0 ((es++[e]).map Zj)).length)
    rw [List.take_length];exact hf
  . unfold Wh
    split
    . exact h.pend
    . intro p hp;simp [flushD,DD.sync] at hp
theorem pin_secs {first count n K:Nat} {s:Pl} (h:PInv first count n K s) (hK:K<2^31) (page:Int):(pinP first count s page).1.D.secs.length=s.D.secs.length:=by
 have hpe:=h.pend
 have hc:=pin_cases (first:=first) (count:=count) (page:=page) (s:=s) (by rw [h.F.len];exact h.hand)
 generalize pinP first count s page=res at hc ⊢
 cases hc with
 | clock i h' A' x' hr hf hx ha hc hx' hup =>
  obtain ⟨y,hy,q1,q2,q3,q4,q5⟩:=clock_fr hc i x' hx'
  have hyo:=fr_ok h.F hy (hx i y hy)
  have hsec:=h.sec
  obtain ⟨f1,f2,f3,_⟩:=(h.w hK).give (first:=first) h.ok (by omega) x' (by rw [q1];omega) (by rw [q5];exact hyo.2.2.1)
  exact f3
 | _=>rfl
structure SInv (logs count n K:Nat) (s:Pl) (es:List En) (rc:Nat->List (List UInt8)):Prop where
 inv:PInv logs count n K s
 len:s.D.secs.length=logs+count
 l1:1<=logs
 zero : ∀ x∈s.A,x.pins=0
 coh:Coh logs s.A s.D
 log:LogI logs s.W s.D es
 has : ∀ q,q<count -> ∃ m:Nat,m<2^40/\HasP logs s.A s.D q (Zx (rc q) m)
 rok : ∀ q,q<count->PgOk (rc q)/\(rc q).length<256
theorem SInv.mono {logs count n K K':Nat} {s:Pl} {es:List En} {rc:Nat->List (List UInt8)} (h:SInv logs count n K s es rc) (hK:K<=K'):SInv logs count n K' s es rc:=⟨h.inv.mono hK,h.len,h.l1,h.zero,h.coh,h.log,h.has,h.rok⟩
structure Pinned (logs count n K:Nat) (s s1:Pl) (es:List En) (rc:Nat->List (List UInt8)) (q i:Nat) (x:Fa) (m:Nat):Prop where
 pin:pinP logs count s q=(s1,0)
 inv:PInv logs count n (K+1) s1
 one:OneP q s1.A i x
 pnd:pinnedA s1.A q=some (i,x)
 m1:m<2^40
 b:x.b=Zx (rc q) m
 opn:openR x.b = .ok (rc q,m)
 bl:x.b.length=256
 keep : ∃ A3,unpinA s1.A q=(A3,0)/\SInv logs count n (K+1) {s1 with A:=A3} es rc
 put : ∀ (r':List (List UInt8)) (m':Nat),PgOk r'->r'.length<256->m'<2^40 -> ∃ A2 A3,putA s1.A q (Zx r' m') m'=(A2,0)/\PInv logs count n (K+1) {s1 with A:=A2}/\unpinA A2 q=(A3,0)/\SInv logs count n (K+1) {s1 with A:=A3} es (λ p=>if p=q then r' else rc p)
theorem SInv.round {logs count n K:Nat} {s:Pl} {es:List En} {rc:Nat->List (List UInt8)} (h:SInv logs count n K s es rc) (hK:K<2^31) {q:Nat} (hq:q<count) : ∃ s1 i x m,Pinned logs count n K s s1 es rc q i x m:=by
  have hr : ¬ ((q:Int)<0\/(count:Int)<=(q:Int)):=by omega
  obtain ⟨hcode,i,x,hi,hp,hone,hrest⟩:=pin_frame h.inv q hr h.zero
  have hpi:=h.inv.pin hK q
  obtain ⟨l1,l2,l3⟩:=h.log.first
  obtain ⟨hhas,hcoh⟩:=pin_ok h.inv hK q (by omega) h.coh
  have hlen:=pin_secs h.inv hK q
  have hlog:=h.log.pin h.inv hK q
  have hs1:pinP logs count s q=((pinP logs count s q).1,0):=by rw [<-hcode]
  generalize (pinP logs count s q).1=s1 at *
  have hO:OneP q s1.A i x:=⟨hi,hp,hone,hrest⟩
  have hpin:=pinnedA_of hpi.F hi hp (by omega) (by rw [hone];omega)
  have hxo:=fr_ok hpi.F hi (by omega)
  obtain ⟨m,hm,hh⟩:=h.has q hq
  have hb:=(hhas q _ hq hh).uniq hpi.F hi hp
  obtain ⟨ro1,ro2⟩:=h.rok q hq
  have hil:=(List.getElem?_eq_some_iff.1 hi).1
  refine ⟨s1,i,x,m,⟨hs1,hpi,hO,hpin,hm,hb,?_,hxo.2.2.1,?_,?_⟩⟩
  . rw [hb];exact openR_pgBytes ro1 ro2 (by omega)
  . obtain ⟨u1,u2,u3⟩:=hO.unpin hpi.F (by omega)
    have hun:=hpi.unpin q
    rw [u1] at hun
    dsimp only at hun
    refine ⟨_,u1,hun,hlen.trans h.len,h.l1,u3,Coh.set (x:=x) hi rfl (λ e=>⟨rfl,e⟩) hcoh,hlog,λ p hp=>?_,h.rok⟩
    obtain ⟨m2,hm2,hh2⟩:=h.has p hp
    exact ⟨m2,hm2,HasP.set (x:=x) (y:={x with pins:=0}) hi rfl rfl (hhas p _ hp hh2)⟩
  . intro r' m' hr' hrl hm'
    have hbl:=length_pgBytes (recs:=r') (mark:=m') hr'.used
    have hput:=hpi.put q (Zx r' m') m' (by omega)
    have e:putA s1.A q (Zx r' m') m'=(s1.A.set i {x with mark:=max x.mark m',dirty:=true,b:=Zx r' m'},0):=by
      unfold putA;rw [hpin];dsimp only;rw [if_neg (by simp [hbl])]
    rw [e] at hput ⊢
    dsimp only at hput ⊢
    have hO2:OneP q (s1.A.set i {x with mark:=max x.mark m',dirty:=true,b:=Zx r' m'}) i {x with mark:=max x.mark m',dirty:=true,b:=Zx r' m'}:=hO.set hp hone
    obtain ⟨u1,u2,u3⟩:=hO2.unpin hput.F (by omega)
    have hun:=hput.unpin q
    rw [u1] at hun
    dsimp only at hun
    refine ⟨_,_,rfl,hput,u1,hun,hlen.trans h.len,h.l1,u3,?_,hlog,λ p hp2=>?_,λ p hp2=>?_⟩
    . dsimp only
      rw [List.set_set]
      exact Coh.set (x:=x) hi rfl (λ e=>by cases e) hcoh
    . dsimp only
      rw [List.set_set]
      by_cases e2:p=q
      . rw [if_pos e2]
        exact ⟨m',hm',.inl ⟨i,_,List.getElem?_set_self hil,by rw [e2];exact hp,rfl⟩⟩
      . rw [if_neg e2]
        obtain ⟨m2,hm2,hh2⟩:=h.has p hp2
        refine ⟨m2,hm2,?_⟩
        rcases hhas p _ hp2 hh2 with ⟨j,z,h1,h2,h3⟩ | ⟨h1,h2⟩
        . by_cases e3:i=j
          . subst e3;rw [hi] at h1;cases h1;omega
          . exact .inl ⟨j,z,by rw [List.getElem?_set_ne e3];exact h1,h2,h3⟩
        . refine .inr ⟨λ j z hz=>?_,h2⟩
          rw [List.getElem?_set] at hz
          split at hz
          . cases hz;dsimp only;omega
          . exact h1 j z hz
    . by_cases e2:p=q
      . rw [if_pos e2];exact ⟨hr',hrl⟩
      . rw [if_neg e2];exact h.rok p hp2
theorem SInv.append {logs count n K:Nat} {s:Pl} {es:List En} {rc:Nat->List (List UInt8)} (h:SInv logs count n K s es rc) {e:En} (he:EnOk e) (hk:e.kind≠3) (hf:s.W.st.length+enSz e<=logs*256) :
  addW s.W (Zj e)=(mkW 0 logs ((es++[e]).map Zj) s.W.dur,((s.W.st.length+enSz e:Nat):Int),0)/\SInv logs count n K {s with W:=mkW 0 logs ((es++[e]).map Zj) s.W.dur} (es++[e]) rc:=by
 obtain ⟨l1,l2,l3⟩:=h.log.first
 have hadd:addW s.W (Zj e)=(mkW 0 logs ((es++[e]).map Zj) s.W.dur,((s.W.st.length+enSz e:Nat):Int),0):=by
  have hw:=h.log.w
  have hf2:(Zr 0 0 (es.map Zj)).length+8+(Zj e).length<=logs*256:=by rw [<-l3];unfold enSz at hf;omega
  conv=>lhs;rw [hw]
  rw [addW_mk (encE_ok he) hf2]
  rw [show es.map Zj++[Zj e]=(es++[e]).map Zj by simp]
  rw [logB_sz,l3,logB_sz]
  simp
 have hpa:=h.inv.append (Zj e)
 rw [hadd] at hpa
 exact ⟨hadd,hpa,h.len,h.l1,h.zero,h.coh,h.log.append hk,h.has,h.rok⟩
theorem SInv.commit {logs count n K:Nat} {s:Pl} {es:List En} {rc:Nat->List (List UInt8)} (h:SInv logs count n K s es rc) (hK:K<2^31) {e:En} (he:EnOk e) (hf:s.W.st.length+enSz e<=logs*256) :
    addW s.W (Zj e)=(mkW 0 logs ((es++[e]).map Zj) s.W.dur,((s.W.st.length+enSz e:Nat):Int),0)/\WOk (mkW 0 logs ((es++[e]).map Zj) s.W.dur) s.D/\SInv logs count n K {s with W:=(mkW 0 logs ((es++[e]).map Zj) s.W.dur).flushed,D:=Wh (mkW 0 logs ((es++[e]).map Zj) s.W.dur) s.D} (es++[e]) rc:=by
  obtain ⟨l1,l2,l3⟩:=h.log.first
  have hadd:addW s.W (Zj e)=(mkW 0 logs ((es++[e]).map Zj) s.W.dur,((s.W.st.length+enSz e:Nat):Int),0):=by
    have hw:=h.log.w
    have hf2:(Zr 0 0 (es.map Zj)).length+8+(Zj e).length<=logs*256:=by rw [<-l3];unfold enSz at hf;omega
    conv=>lhs;rw [hw]
    rw [addW_mk (encE_ok he) hf2]
    rw [show es.map Zj++[Zj e]=(es++[e]).map Zj by simp]
    rw [logB_sz,l3,logB_sz]
    simp
  have hpa:=h.inv.append (Zj e)
  rw [hadd] at hpa
  dsimp only at hpa
  have hw2:=hpa.w hK
  dsimp only at hw2
  have hlog:=h.log.commit (e:=e) hw2 h.inv.ok
  have hrd : ∀ x,x<s.D.secs.length->logs<=x->(Wh (mkW 0 logs ((es++[e]).map Zj) s.W.dur) s.D).read x=s.D.read x:=λ x hx hlx=>flushE_out (W:=mkW 0 logs ((es++[e]).map Zj) s.W.dur) h.inv.ok hw2.fit hw2.dur hw2.st hx (.inr (by show 0+logs<=x;omega))
  have hsl:(Wh (mkW 0 logs ((es++[e]).map Zj) s.W.dur) s.D).secs.length=s.D.secs.length/\(Wh (mkW 0 logs ((es++[e]).map Zj) s.W.dur) s.D).Ok/\(Wh (mkW 0 logs ((es++[e]).map Zj) s.W.dur) s.D).pend.length<=s.D.pend.length:=by
    have hf:=hw2.force h.inv.ok (2^62) hw2.room
    have e1:Zv (mkW 0 logs ((es++[e]).map Zj) s.W.dur) s.D (2^62)=((mkW 0 logs ((es++[e]).map Zj) s.W.dur).flushed,Wh (mkW 0 logs ((es++[e]).map Zj) s.W.dur) s.D):=by
      unfold Zv
      rw [if_neg]
      have:=hw2.dur;have:=hw2.st;have:=hw2.fit;have:=hw2.max
      have:(mkW 0 logs ((es++[e]).map Zj) s.W.dur).count=logs:=rfl
      omega
    rw [e1] at hf
    exact ⟨hf.2.2.1,hf.2.1,hf.2.2.2.1⟩
  have hmax:=h.inv.ok.max
  have hlen:=h.len
  refine ⟨hadd,hw2,⟨hpa.F,hpa.dp,hpa.pins,hpa.hand,?_,?_,Nat.le_refl _,?_,hsl.2.1,?_⟩,hsl.1.trans h.len,h.l1,h.zero,?_,hlog,?_,h.rok⟩
  . show 0+logs<=_;rw [hsl.1];omega
  . exact hw2.st
  . have:=hpa.pend;dsimp only at this ⊢;omega
  . rw [hsl.1];omega
  . intro i x hx h0 hd
    have:=h.coh i x hx h0 hd
    dsimp only
    rw [hrd _ (by have:=fr_ok h.inv.F hx h0;omega) (by omega)];exact this
  . intro q hq
    obtain ⟨m,hm,hh⟩:=h.has q hq
    refine ⟨m,hm,?_⟩
    rcases hh with hh | ⟨h1,h2⟩
    . exact .inl hh
    . refine .inr ⟨h1,?_⟩
      dsimp only
      rw [hrd _ (by omega) (by omega)];exact h2
theorem clean_at {A:List Fa} {i:Nat} {x:Fa} (h:(cleanA A)[i]? = some x) : ∃ y,A[i]? = some y/\x={y with dirty:=false}:=by
 unfold cleanA at h
 rw [List.getElem?_map] at h
 cases hy:A[i]? with
 | none=>rw [hy] at h;cases h
 | some y=>rw [hy] at h;exact ⟨y,rfl,by simpa using h.symm⟩
theorem SInv.flush {logs count n K:Nat} {s:Pl} {es:List En} {rc:Nat->List (List UInt8)} (h:SInv logs count n K s es rc) (hK:K<2^31):SInv logs count n K (flushP logs s) es rc:=by
  obtain ⟨l1,l2,l3⟩:=h.log.first
  have hfi:=h.inv.flush hK
  have hfh : ∀ q,q<count -> ∀ d,HasP logs s.A s.D q d->(flushP logs s).D.read (logs+q)=d:=λ q hq d hd=>flush_has h.inv hK (by omega) h.coh hq hd
  have hlen:(flushP logs s).D.secs.length=s.D.secs.length:=by
    have hsec:=h.inv.sec
    obtain ⟨f1,f2,f3,f4,f5,f6,f7⟩:=(h.inv.w hK).force h.inv.ok (Zm s.A) (h.inv.w hK).room
    have hL : ∀ q∈dirtyL logs s.A,q.1<(Zv s.W s.D (Zm s.A)).2.secs.length/\q.2.length=256:=λ q hq=>by
      obtain ⟨i,x,hx,hd,rfl⟩:=dirty_mem.1 hq
      have:=fr_ok h.inv.F hx (h.inv.dp x (List.mem_of_getElem? hx) hd)
      exact ⟨by rw [f3];dsimp only;omega,this.2.2.1⟩
    obtain ⟨w1,w2,w3⟩:=writes_ok f2 hL
    exact ((DD.sync_len w1).trans w2).trans f3
  refine ⟨hfi,hlen.trans h.len,h.l1,λ x hx=>?_,λ i x hx h0 hd=>?_,h.log.flush h.inv hK,λ q hq=>?_,h.rok⟩
  . obtain ⟨i,hi,rfl⟩:=List.getElem_of_mem hx
    obtain ⟨y,hy,e⟩:=clean_at (List.getElem?_eq_getElem hi)
    have:=h.zero y (List.mem_of_getElem? hy)
    rw [e];exact this
  . obtain ⟨y,hy,rfl⟩:=clean_at hx
    have hyo:=fr_ok h.inv.F hy h0
    have hq:y.page.toNat<count:=by have:=hyo.2.1;omega
    have:=hfh y.page.toNat hq y.b (.inl ⟨i,y,hy,by omega,rfl⟩)
    exact this.symm
  . obtain ⟨m,hm,hh⟩:=h.has q hq
    refine ⟨m,hm,?_⟩
    rcases hh with ⟨i,x,h1,h2,h3⟩ | ⟨h1,h2⟩
    . refine .inl ⟨i,{x with dirty:=false},?_,h2,h3⟩
      show (cleanA s.A)[i]? = _
      unfold cleanA
      rw [List.getElem?_map,h1];rfl
    . refine .inr ⟨λ i x hx=>?_,hfh q hq _ (.inr ⟨h1,h2⟩)⟩
      obtain ⟨y,hy,rfl⟩:=clean_at hx
      exact h1 i y hy
open Go.RowKit
def stN (h:HR) (t:Int):Int:=if Zp h t=true then 1 else if Wa h t=true then 2 else 0
abbrev lookS (st:List (Int×Int)) (t:Int):Int:=(Zy st t).getD 0
def StI (st:List (Int×Int)) (h:HR):Prop := ∀ t,lookS st t=stN h t
structure HInv (logs count n K:Nat) (s:Pl) (st:List (Int×Int)) (h:HR):Prop where
 s:SInv logs count n K s h.es (Zi h.vs)
 r:RInv h
 st:StI st h
 pages:h.pages=count
 room:h.room=logs*256
 lastK:h.last<=K
theorem HInv.used {logs count n K:Nat} {s:Pl} {st:List (Int×Int)} {h:HR} (i:HInv logs count n K s st h):h.used=s.W.st.length:=by
 rw [i.s.log.first.2.2,logB_sz,i.r.ok.used]
theorem HInv.cnt {logs count n K:Nat} {s:Pl} {st:List (Int×Int)} {h:HR} (i:HInv logs count n K s st h):logs+count<=4096:=by
 have:=i.s.len;have:=i.s.inv.ok.max;omega
theorem HInv.mono {logs count n K K':Nat} {s:Pl} {st:List (Int×Int)} {h:HR} (i:HInv logs count n K s st h) (hK:K<=K'):HInv logs count n K' s st h:=⟨i.s.mono hK,i.r,i.st,i.pages,i.room,by have:=i.lastK;omega⟩
theorem stN_iff {h:HR} {t:Int}:(stN h t=1↔Zp h t=true):=by
 unfold stN
 split
 . simp_all
 . split <;> simp_all
theorem StI.act {st:List (Int×Int)} {h:HR} (i:StI st h) (t:Int):lookS st t=1↔Zp h t=true:=by rw [i t];exact stN_iff
theorem stN_cm {h:HR} (r:RInv h) {t:Int}:stN h t=2↔Wa h t=true:=by
  unfold stN
  split
  . rename_i ha
    have:=r.actcm t (isAct_iff.1 ha)
    simp [this]
  . split <;> simp_all
theorem stN_lost {h:HR} {t:Int}:stN h t=0↔(Zp h t=false/\Wa h t=false):=by
 unfold stN
 split
 . simp_all
 . split <;> simp_all
theorem stN_begin {h:HR} (t:Int):stN (beginR h) t=if t=h.last+1 then 1 else stN h t:=by
 unfold stN
 have e1:Zp (beginR h) t=(Zp h t || decide (t=h.last+1)):=by
  unfold Zp beginR
  rw [Bool.eq_iff_iff]
  simp [List.contains_iff_mem]
 have e2:Wa (beginR h) t=Wa h t:=rfl
 rw [e1,e2]
 by_cases e:t=h.last+1 <;> simp [e]
theorem isAct_without {h:HR} {t u:Int}:Zp (Zo h u) t=(Zp h t && decide (t≠u)):=by
 unfold Zp Zo
 rw [Bool.eq_iff_iff]
 simp [List.contains_iff_mem]
theorem stN_without {h:HR} (r:RInv h) {u:Int} (hu:Zp h u=true) (t:Int):stN (Zo h u) t=if t=u then 0 else stN h t:=by
  unfold stN
  rw [isAct_without]
  have e2:Wa (Zo h u) t=Wa h t:=rfl
  rw [e2]
  by_cases e:t=u
  . subst e
    have:=r.actcm t (isAct_iff.1 hu)
    simp [this]
  . simp [e]
theorem StI.begin {st:List (Int×Int)} {h:HR} (i:StI st h):StI (putL st (h.last+1) 1) (beginR h):=λ t=>by
 rw [stN_begin]
 by_cases e:t=h.last+1
 . subst e;rw [if_pos rfl,lookS,look_put_same];rfl
 . rw [if_neg e,lookS,look_put_ne 1 (λ q=>e q.symm)];exact i t
theorem StI.without {st:List (Int×Int)} {h:HR} (i:StI st h) (r:RInv h) {u:Int} (hu:Zp h u=true):StI (putL st u 0) (Zo h u):=λ t=>by
 rw [stN_without r hu]
 by_cases e:t=u
 . subst e;rw [if_pos rfl,lookS,look_put_same];rfl
 . rw [if_neg e,lookS,look_put_ne 0 (λ q=>e q.symm)];exact i t
theorem isCm_write {h:HR} {e:En} {t:Int}:Wa (Zg h e) t=(Wa h t || (decide (e.kind=3) && decide (t=e.txn))):=by
 unfold Wa Zg
 rw [Bool.eq_iff_iff]
 by_cases k:e.kind=3 <;> simp [List.contains_iff_mem,k]
theorem StI.write {st:List (Int×Int)} {h:HR} (i:StI st h) {e:En} (hk:e.kind≠3):StI st (Zg h e):=λ t=>by
 rw [i t]
 unfold stN
 rw [isCm_write]
 simp [hk,show Zp (Zg h e) t=Zp h t from rfl]
theorem StI.commit {st:List (Int×Int)} {h:HR} (i:StI st h) (r:RInv h) {u s:Int} (hu:Zp h u=true):StI (putL st u 2) (Zg (Zo h u) (cmE u s)):=λ t=>by
  have h1:=i.without r hu t
  by_cases e:t=u
  . subst e
    rw [lookS,look_put_same]
    unfold stN
    rw [isCm_write,show Zp (Zg (Zo h t) (cmE t s)) t=Zp (Zo h t) t from rfl,isAct_without]
    simp
  . rw [lookS,look_put_ne 2 (λ q=>e q.symm)]
    rw [lookS,look_put_ne 0 (λ q=>e q.symm)] at h1
    show lookS st t=_
    rw [lookS,h1]
    unfold stN
    rw [isCm_write,show Zp (Zg (Zo h u) (cmE u s)) t=Zp (Zo h u) t from rfl]
    simp [e]
theorem modify_mid {α:Type} (f:α->α) (x:α) (b:List α) : ∀ a:List α,(a++x::b).modify a.length f=a++f x::b
 | []=>by simp
 | y::a=>by simp [modify_mid f x b a]
theorem pageV_fin {vs:List Ver} (h:Slots vs) {i:Nat} {v:Ver} (hv:vs[i]? = some v) (t:Int) (q:Nat):Zh (vs.modify i (finV t)) q=if v.page=q then (Zh vs q).modify v.slot (finV t) else Zh vs q:=by
  have hi:=(List.getElem?_eq_some_iff.1 hv).1
  have e3:vs[i]=v:=by rw [List.getElem?_eq_getElem hi] at hv;exact Option.some.inj hv
  have hs:=h i v hv
  have h1:vs.modify i (finV t)=vs.take i++finV t v::vs.drop (i+1):=by rw [List.modify_eq_take_cons_drop hi,e3]
  have h2:vs=vs.take i++v::vs.drop (i+1):=by
    have:=List.take_append_drop i vs
    rw [List.drop_eq_getElem_cons hi,e3] at this
    exact this.symm
  rw [h1,Wc]
  by_cases e:v.page=q
  . rw [if_pos e]
    have e1:Zh (finV t v::vs.drop (i+1)) q=finV t v::Zh (vs.drop (i+1)) q:=by simp [Zh,finV,e]
    have e2:Zh vs q=Zh (vs.take i) q++v::Zh (vs.drop (i+1)) q:=by
      conv=>lhs;rw [h2,Wc]
      congr 1
      simp [Zh,e]
    rw [e1,e2,hs,e,modify_mid]
  . rw [if_neg e]
    have e1:Zh (finV t v::vs.drop (i+1)) q=Zh (vs.drop (i+1)) q:=by simp [Zh,finV,e]
    have e2:Zh vs q=Zh (vs.take i) q++Zh (vs.drop (i+1)) q:=by
      conv=>lhs;rw [h2,Wc]
      congr 1
      simp [Zh,e]
    rw [e1,e2]
def setB (off:Nat) (d b:List UInt8):List UInt8:=b.take off++d++b.drop (off+d.length)
theorem verB_fin (t:Int) (v:Ver):verB (finV t v)=setB 8 (be (UInt64.ofInt t) 8) (verB v):=by
 have e1:(be (UInt64.ofInt v.beg) 8++be (UInt64.ofInt v.fin) 8++v.data).take 8=be (UInt64.ofInt v.beg) 8:=by rw [List.append_assoc,List.take_left' (Zd _ _)]
 have e2:(be (UInt64.ofInt v.beg) 8++be (UInt64.ofInt v.fin) 8++v.data).drop (8+8)=v.data:=by rw [List.drop_left' (by simp [Zd])]
 unfold setB verB finV
 dsimp only
 rw [Zd,e1,e2]
theorem modify_map {α β:Type} (g:α->β) (f:α->α) (f':β->β) (hf : ∀ a,g (f a)=f' (g a)) : ∀ (l:List α) (i:Nat),(l.modify i f).map g=(l.map g).modify i f'
 | [],i=>by simp
 | a::l,0=>by simp [hf]
 | a::l,i+1=>by simp [modify_map g f f' hf l i]
theorem recs_add {h:HR} {e:En} (k:e.kind=1) (q:Nat):Zi (Zg h e).vs q=if q=e.page.toNat then Zi h.vs q++[verB ⟨e.page.toNat,e.slot.toNat,e.txn,0,e.data⟩] else Zi h.vs q:=by
 have:(Zg h e).vs=h.vs++[⟨e.page.toNat,e.slot.toNat,e.txn,0,e.data⟩]:=by simp [Zg,k]
 unfold Zi
 rw [this,Wc,List.map_append]
 by_cases e1:q=e.page.toNat
 . rw [if_pos e1];simp [Zh,e1]
 . rw [if_neg e1];simp [Zh,Ne.symm e1]
theorem recs_end {h:HR} (r:RepOk h) {e:En} (k:e.kind=2) {i:Nat} {v:Ver} (hi:We h.vs e.page e.slot=some i) (hv:h.vs[i]? = some v) (q:Nat):Zi (Zg h e).vs q=if q=e.page.toNat then (Zi h.vs q).modify e.slot.toNat (setB 8 (be (UInt64.ofInt e.txn) 8)) else Zi h.vs q:=by
  have:(Zg h e).vs=h.vs.modify i (finV e.txn):=by simp [Zg,k,hi]
  obtain ⟨u,hu,e1,e2⟩:=findV_some hi
  rw [hv] at hu;cases hu
  unfold Zi
  rw [this,pageV_fin r.slots hv]
  have e3:v.page=e.page.toNat:=by omega
  have e4:v.slot=e.slot.toNat:=by omega
  by_cases e5:q=e.page.toNat
  . rw [if_pos (by omega),if_pos e5,e4]
    exact modify_map _ _ _ (verB_fin e.txn) _ _
  . rw [if_neg (by omega),if_neg e5]
theorem recs_commit {h:HR} {e:En} (k:e.kind=3) (q:Nat):Zi (Zg h e).vs q=Zi h.vs q:=by
 have:(Zg h e).vs=h.vs:=by simp [Zg,k]
 rw [this]
theorem recs_ok {h:HR} (r:RepOk h) (q:Nat):PgOk (Zi h.vs q)/\(Zi h.vs q).length<256:=by
  have h1:=r.room q
  refine ⟨⟨?_,λ b hb=>?_⟩,?_⟩
  . rw [used_recs];unfold Wi at h1;omega
  . unfold Zi at hb
    obtain ⟨v,hv,rfl⟩:=List.mem_map.1 hb
    have:=(r.vok v (mem_of_filt hv)).2.1
    rw [length_verB];omega
  . unfold Zi
    rw [List.length_map]
    have:=pages_len r q;omega
open Go.RowKit
abbrev enV (e:En) (p:Option Addr) (c:Nat):Value := .agg #[.int .i64 e.kind,.int .i64 e.txn,.int .i64 e.page,.int .i64 e.slot,.int .i64 e.stamp,.slice p e.data.length c]
theorem Tl.check (B:Wn) (e:En) (p:Option Addr) (c:Nat) (h:EnOk e):Fn Tryz.prog B 98 #[enV e p c] [] (λ u l=>u = .int .i64 0/\l=[]):=by
 obtain ⟨k1,k2⟩:=h.kind
 obtain ⟨t1,t2⟩:=h.txn
 obtain ⟨q1,q2,q3,q4⟩:=h.place
 obtain ⟨s1,s2⟩:=h.stamp
 have hl:=h.long
 refine Wq 85 Tryz.func98 rfl rfl (nB rfl) (λ F=>?_)
 try simp only [cA,nA]
 refine TS ?_
 refine Le (zL [_,_,_,_,_,_] rfl rfl ?_)
 intro g1
 refine La rfl (Ld (TS ?_))
 iterate 4 refine Lz ?_
 refine zQ (t:=7) rfl (decide_eq_true (by omega)) ?_
 iterate 5 refine Lz ?_
 refine zQ (t:=12) rfl (decide_eq_true (by omega)) ?_
 iterate 5 refine Lz ?_
 refine zQ (t:=17) rfl (decide_eq_true (by omega)) ?_
 iterate 5 refine Lz ?_
 refine Ld (Ts (yH (TS ?_)))
 iterate 4 refine Lz ?_
 refine yT (t:=26) rfl (decide_eq_false (by omega)) ?_
 iterate 5 refine Lz ?_
 refine Ld (yL rfl (TS ?_))
 iterate 4 refine Lz ?_
 refine yT (t:=35) rfl (decide_eq_false (by omega)) ?_
 iterate 4 refine Lz ?_
 refine yT (t:=39) rfl (decide_eq_false (by omega)) ?_
 iterate 5 refine Lz ?_
 refine yT (t:=44) rfl (decide_eq_false (by omega)) ?_
 iterate 5 refine Lz ?_
 refine Ld (yL rfl ?_)
 by_cases hk3:e.kind=3
 .
  obtain ⟨z1,z2⟩:=h.three hk3
  have hd:e.data.length=0:=by rw [h.none (by omega)];rfl
  refine Ts (TS ?_)
  iterate 4 refine Lz ?_
  refine zQ (t:=53) rfl (decide_eq_true (by omega)) ?_
  iterate 4 refine Lz ?_
  refine yT (t:=57) rfl (decide_eq_false (by omega)) ?_
  iterate 6 refine Lz ?_
  refine Ld (yL rfl (TS ?_))
  iterate 4 refine Lz ?_
  refine yT (t:=66) rfl (decide_eq_false (by omega)) ?_
  iterate 5 refine Lz ?_
  refine Ld (yQ rfl (TR ?_))
  iterate 4 refine Lz ?_
  refine zQ (t:=74) rfl (decide_eq_true (by omega)) ?_
  iterate 6 refine Lz ?_
  refine Ld (yL rfl (TS ?_))
  iterate 5 refine Lz ?_
  refine Ld (yL rfl (Tk (TS (La rfl (Ld (T.ret ?_))))))
  exact ⟨.inl rfl,_,_,res [_] rfl ⟨rvT rfl,trivial⟩,⟨rfl,rfl⟩,Sa⟩
 have hs:=h.other hk3
 refine Ts (TS ?_)
 iterate 4 refine Lz ?_
 refine yT (t:=53) rfl (decide_eq_false (by omega)) ?_
 iterate 10 refine Lz ?_
 refine Ld (yQ rfl (TS ?_))
 iterate 4 refine Lz ?_
 refine zQ (t:=66) rfl (decide_eq_true (by omega)) ?_
 iterate 5 refine Lz ?_
 refine Ld (yL rfl ?_)
 by_cases hk1:e.kind=1
 .
  refine TR ?_
  iterate 4 refine Lz ?_
  refine yT (t:=74) rfl (decide_eq_false (by omega)) ?_
  iterate 6 refine Lz ?_
  refine Ld (yQ rfl (TS ?_))
  iterate 5 refine Lz ?_
  refine Ld (yL rfl (Tk (TS (La rfl (Ld (T.ret ?_))))))
  exact ⟨.inl rfl,_,_,res [_] rfl ⟨rvT rfl,trivial⟩,⟨rfl,rfl⟩,Sa⟩
 have hd:e.data.length=0:=by rw [h.none hk1];rfl
 refine TR ?_
 iterate 4 refine Lz ?_
 refine zQ (t:=74) rfl (decide_eq_true (by omega)) ?_
 iterate 6 refine Lz ?_
 refine Ld (yL rfl (TS ?_))
 iterate 5 refine Lz ?_
 refine Ld (yL rfl (Tk (TS (La rfl (Ld (T.ret ?_))))))
 exact ⟨.inl rfl,_,_,res [_] rfl ⟨rvT rfl,trivial⟩,⟨rfl,rfl⟩,Sa⟩
open Go.RowKit
theorem encE3 {e:En} (h:e.kind=3):Zj e=UInt8.ofInt e.kind::(be (UInt64.ofInt e.txn) 8++be (UInt64.ofInt e.stamp) 8):=by unfold Zj;rw [if_pos h]
theorem encEn {e:En} (h:e.kind≠3):Zj e=UInt8.ofInt e.kind::(be (UInt64.ofInt e.txn) 8++(be (UInt64.ofInt e.page) 2++(UInt8.ofInt e.slot::e.data))):=by unfold Zj;rw [if_neg h]
theorem Tl.encode (B:Wn) (S:List Wp) (e:En) (p:Option Addr) (c:Nat) (h:EnOk e) (hv:RdV B S (.slice p e.data.length c) (Zb e.data)):Fn Tryz.prog B 126 #[enV e p c] S (λ u l => ∃ q cq,u = .tuple #[.slice q (Zj e).length cq,.int .i64 0]/\(0<(Zj e).length -> ∃ g,q=some ⟨g,0,none⟩)/\l=rB (.slice q (Zj e).length cq) (Zj e).length (Zj e)::S):=by
  refine Fn.mono (R:=λ u l=>(∃ q cq,u = .tuple #[.slice q (Zj e).length cq,.int .i64 0]/\l=rB (.slice q (Zj e).length cq) (Zj e).length (Zj e)::S) /\ ∃ w F,Own B w (l++F)) (Fn.own ?_) ?_
  . obtain ⟨k1,k2⟩:=h.kind
    obtain ⟨t1,t2⟩:=h.txn
    obtain ⟨q1,q2,q3,q4⟩:=h.place
    obtain ⟨s1,s2⟩:=h.stamp
    have hl:=h.long
    have hk8:Value.int .u8 e.kind = .int .u8 (UInt8.ofInt e.kind).toNat:=by rw [u8_int]
    have hs8:Value.int .u8 e.slot = .int .u8 (UInt8.ofInt e.slot).toNat:=by rw [u8_int]
    refine Wq 41 Tryz.func126 rfl rfl (nB rfl) (λ F=>?_)
    refine TS ?_
    refine Le (zL [_,_,_,_,_,_] rfl rfl ?_)
    intro g1
    refine La rfl (La rfl (Ld (Ts (TS ?_))))
    refine Lz ?_
    refine Le (Ec (Tl.check B e p c h) Tryz.func98 rfl rfl rfl ?_)
    rintro _ _ ⟨rfl,rfl⟩
    try simp only [cA,nA]
    refine La rfl (Ld (TS (Lm rfl (Lq (yW rfl rfl) (Ld (yQ rfl (Tk (TS ?_))))))))
    iterate 2 refine Lz ?_
    refine Lq (yX rfl (wr8)) ?_
    refine Le (zK [_] (e:=5) (sz:=1) ⟨.int .u8 0,by kernel_rfl,rfl⟩ rfl rfl rfl ?_)
    intro g14
    iterate 2 refine Lz ?_
    refine Lq (yX rfl (wru64_i64 e.txn)) ?_
    refine Le (Ec (Cd.put B [blk g14 [.int .u8 e.kind] 5] (.slice (some ⟨g14,0,none⟩) 1 1) [UInt8.ofInt e.kind] 1 rfl (UInt64.ofInt e.txn) 8 8 rfl (by omega) (rdv_blk (C:=[.int .u8 e.kind]) (by rw [hk8];rfl) rfl) (by omega)) Tryz.func95 rfl rfl rfl ?_)
    rintro _ _ ⟨p1,c1,rfl,rfl⟩
    try simp only [cA,nA]
    obtain ⟨b1,hb1⟩ : ∃ b1,UInt8.ofInt e.kind::be (UInt64.ofInt e.txn) 8=b1:=⟨_,rfl⟩
    have hb1l:b1.length=9:=by rw [<-hb1];simp [Zd]
    rw [hb1]
    refine La rfl (Ld (Ts (TS ?_)))
    iterate 3 refine Lz ?_
    refine Ld ?_
    by_cases hk3:e.kind=3
    . skip
      refine zM rfl (hp:=(hk3)) (T.own λ w ho=>?_)
      have hp1:0<1+8 -> ∃ g,p1=some ⟨g,0,none⟩:=(ho.slice_at (p:=p1) (m:=1+8) (c:=c1)).2.1
      clear ho
      refine TS ?_
      iterate 3 refine Lz ?_
      refine Lq (yX rfl (wru64_i64 e.stamp)) ?_
      refine Le (Ec (Cd.put B [rB (.slice p1 (1+8) c1) (1+8) b1] (.slice p1 (1+8) c1) b1 (1+8) hb1l (UInt64.ofInt e.stamp) 8 8 rfl (by omega) (RdV.rB hb1l hp1) (by omega)) Tryz.func95 rfl rfl rfl ?_)
      rintro _ _ ⟨p2,c2,rfl,rfl⟩
      try simp only [cA,nA]
      refine La rfl (La rfl (Ld ?_))
      have hL:(Zj e).length=1+8+8:=by rw [encE3 hk3];simp [Zd]
      have hE:Zj e=b1++be (UInt64.ofInt e.stamp) 8:=by rw [encE3 hk3,<-hb1];simp
      refine T.ret ?_
      exact ⟨.inl rfl,_,_,res [_,_] rfl ⟨rvT rfl,rvT rfl,trivial⟩,⟨p2,c2,by rw [hL];rfl,by rw [hL,hE]⟩,Sa⟩
    refine yL rfl (hp:=(hk3)) (T.own λ w ho=>?_)
    have hp1:0<1+8 -> ∃ g,p1=some ⟨g,0,none⟩:=(ho.slice_at (p:=p1) (m:=1+8) (c:=c1)).2.1
    clear ho
    refine Tk (Ts (T.draw 10 ([blk g1 [.int .i64 e.kind,.int .i64 e.txn,.int .i64 e.page,.int .i64 e.slot,.int .i64 e.stamp,.slice p e.data.length c] 166]) (nB rfl) ?_))
    refine Rz 0 ?_;refine Rz 1 ?_;refine Rz 2 ?_
    refine Rq 3 rfl Sa (yX rfl (wru64_i64 e.page)) ?_
    refine Rz 5 ?_;refine Rz 6 ?_
    refine Rq 7 rfl Sa (yX rfl (wr8)) ?_
    refine YC [4,8] (List.forall_mem_cons.2 ⟨?_,List.forall_mem_cons.2 ⟨?_,List.forall_mem_nil _⟩⟩)
    . skip
      refine z6 rfl (Ec (Cd.putP B [rB (.slice p1 (1+8) c1) (1+8) b1] (.slice p1 (1+8) c1) b1 (1+8) hb1l (UInt64.ofInt e.page) 2 2 rfl (RdV.rB hb1l hp1)) Tryz.func95 rfl rfl rfl ?_)
      rintro _ _ ⟨p2,c2,rfl,hp2,rfl⟩
      try simp only [cA,nA]
      refine ⟨Sa,?_⟩
      refine yK 8 ?_
      refine z6 rfl (zK [_] (e:=5) (sz:=1) ⟨.int .u8 0,by kernel_rfl,rfl⟩ rfl rfl rfl ?_)
      intro g35
      refine ⟨Sa,?_⟩
      refine yK 9 ?_
      refine zY rfl (Ea Cd.elemB rfl rfl (SrcOf.blk (by kernel_rfl) rfl (by simp [Value.oneCell'])) (by unfold maxLen;omega) ?_)
      rintro p3 c3 hp3
      rw [hs8,bytesV_one,<-Zt]
      refine Rd0 (by rfl) ?_
      simp only [dS,dZ,dN]
      refine La rfl (Ld (TS ?_))
      iterate 3 refine Lz ?_
      refine Le (Ea Cd.elemB rfl rfl (SrcOf.rd (m:=e.data.length) (hv.mono (λ w ho=>ho.map Sa)) (by kernel_rfl) (by simp) Zu) (by unfold maxLen;omega) ?_)
      rintro p4 c4 hp4
      rw [<-Zt]
      refine La rfl (La rfl (Ld ?_))
      have hL:(Zj e).length=1+8+2+1+e.data.length:=by rw [encEn hk3];simp [Zd];omega
      have hE:Zj e=(b1++be (UInt64.ofInt e.page) 2++[UInt8.ofInt e.slot])++e.data:=by rw [encEn hk3,<-hb1];simp
      refine T.ret ?_
      exact ⟨.inl rfl,_,_,res [_,_] rfl ⟨rvT rfl,rvT rfl,trivial⟩,⟨p4,c4,by rw [hL];rfl,by rw [hL,hE]⟩,Sa⟩
    refine z6 rfl (zK [_] (e:=5) (sz:=1) ⟨.int .u8 0,by kernel_rfl,rfl⟩ rfl rfl rfl ?_)
    intro g35
    refine ⟨Sa,?_⟩
    refine yK 4 ?_
    refine z6 rfl (Ec (Cd.putP B [rB (.slice p1 (1+8) c1) (1+8) b1] (.slice p1 (1+8) c1) b1 (1+8) hb1l (UInt64.ofInt e.page) 2 2 rfl (RdV.rB hb1l hp1)) Tryz.func95 rfl rfl rfl ?_)
    rintro _ _ ⟨p2,c2,rfl,hp2,rfl⟩
    try simp only [cA,nA]
    refine ⟨Sa,?_⟩
    refine yK 9 ?_
    refine zY rfl (Ea Cd.elemB rfl rfl (SrcOf.blk (by kernel_rfl) rfl (by simp [Value.oneCell'])) (by unfold maxLen;omega) ?_)
    rintro p3 c3 hp3
    rw [hs8,bytesV_one,<-Zt]
    refine Rd0 (by rfl) ?_
    simp only [dS,dZ,dN]
    refine La rfl (Ld (TS ?_))
    iterate 3 refine Lz ?_
    refine Le (Ea Cd.elemB rfl rfl (SrcOf.rd (m:=e.data.length) (hv.mono (λ w ho=>ho.map Sa)) (by kernel_rfl) (by simp) Zu) (by unfold maxLen;omega) ?_)
    rintro p4 c4 hp4
    rw [<-Zt]
    refine La rfl (La rfl (Ld ?_))
    have hL:(Zj e).length=1+8+2+1+e.data.length:=by rw [encEn hk3];simp [Zd];omega
    have hE:Zj e=(b1++be (UInt64.ofInt e.page) 2++[UInt8.ofInt e.slot])++e.data:=by rw [encEn hk3,<-hb1];simp
    refine T.ret ?_
    exact ⟨.inl rfl,_,_,res [_,_] rfl ⟨rvT rfl,rvT rfl,trivial⟩,⟨p4,c4,by rw [hL];rfl,by rw [hL,hE]⟩,Sa⟩
  . rintro u l ⟨⟨q,cq,rfl,rfl⟩,w,F,ho⟩
    have ho2:Own B w (rB (.slice q (Zj e).length cq) (Zj e).length (Zj e)::(S++F)):=ho
    exact ⟨q,cq,rfl,(ho2.slice_at (p:=q) (m:=(Zj e).length) (c:=cq)).2.1,rfl⟩
open Go.RowKit
theorem encE_get {e:En} {lo hi:Nat} {x:List UInt8} (h : ∃ a b,Zj e=a++x++b/\a.length=lo/\(a++x).length=hi):((Zj e).take hi).drop lo=x:=by
 obtain ⟨a,b,h1,h2,h3⟩:=h
 rw [h1,List.take_left' h3,List.drop_left' h2]
abbrev enC (e:En) (p:Option Addr) (c:Nat):List Value:=[.int .i64 e.kind,.int .i64 e.txn,.int .i64 e.page,.int .i64 e.slot,.int .i64 e.stamp,.slice p e.data.length c]
theorem get_at {n:Int} {k:Nat} (h0:0<=n:=by omega) (h1:n<9223372036854775808:=by omega) (hk:k<=8:=by omega) (h2:n<((256^k:Nat):Int):=by omega):IntKind.i64.wrap ((Wg (be (UInt64.ofInt n) k)).toNat:Int)=n:=by
 rw [get_be h0 h1 hk h2];exact Ze (h1:=h1)
theorem rowNilP {e sz:Nat} {l:List Wp} {k:Piece} (H:Has l k):Has (row (.slice none 0 0) e sz 0 []::l) k:=⟨λ _=>none,_,⟨λ _ => .inl rfl⟩,⟨λ _ _ h=>(by cases h)⟩,Piece.le_refl _,⟨by simp,.inl ⟨rfl,rfl⟩⟩,H⟩
theorem enc_head {e:En} {B:Wn} {S:List Wp} {b0 o0 m ca:Nat} (h:EnOk e) (hm:(Zj e).length=m) (hv:RdV B S (.slice (some ⟨b0,o0,none⟩) m ca) (Zb (Zj e))) (hcell : ∀ (j:Nat) (hj:j<(Zb (Zj e)).length) (w:World),Own B w S->w.cell? ⟨b0,o0+j*1,none⟩=some (Zb (Zj e))[j]) : ∀ w,Own B w S->w.cell? ⟨b0,o0,none⟩=some (.int .u8 e.kind):=by
 obtain ⟨k1,k2⟩:=h.kind
 have h0:0<(Zb (Zj e)).length:=by simp [Zb];unfold Zj;simp
 intro w ho
 have:=hcell 0 h0 w ho
 have e0:(Zb (Zj e))[0] = .int .u8 e.kind:=by
  have:(Zb (Zj e))[0]? = some (.int .u8 e.kind):=by
   unfold Zj;simp [Zb,u8_int (n:=e.kind)]
  rw [List.getElem?_eq_getElem h0] at this
  exact Option.some.inj this
 rw [e0] at this
 simpa using this
theorem enc_txn (e:En):((Zj e).take 9).drop 1=be (UInt64.ofInt e.txn) 8:=encE_get (by unfold Zj;exact ⟨[UInt8.ofInt e.kind],_,by rw [List.singleton_append,List.cons_append],rfl,by simp [Zd]⟩)
theorem Tl.decode3 (B:Wn) (S:List Wp) (t s:Int) (e:En) (he:e=⟨3,t,0,0,s,[]⟩) (a:Option Addr) (m ca:Nat) (h:EnOk e) (hm:(Zj e).length=m) (hmc:m<=ca) (hv:RdV B S (.slice a m ca) (Zb (Zj e))):Fn Tryz.prog B 49 #[.slice a m ca] S (λ u l=>u = .tuple #[enV e none 0,.int .i64 0]/\l=S):=by
 obtain ⟨t1,t2⟩:=h.txn
 obtain ⟨s1,s2⟩:=h.stamp
 have hk3:e.kind=3:=by rw [he]
 have hm17:m=17:=by rw [<-hm,encE_len,if_pos hk3]
 obtain ⟨b0,o0,rfl,hcell⟩:=hv.at (by omega)
 have hc0:=enc_head h hm hv hcell
 have htx:=enc_txn e
 have hst:((Zj e).take 17).drop 9=be (UInt64.ofInt e.stamp) 8:=encE_get (by rw [encE3 hk3];exact ⟨UInt8.ofInt e.kind::be (UInt64.ofInt e.txn) 8,[],by simp,by simp [Zd],by simp [Zd]⟩)
 have hbt:=RdV.part hv 1 9 (by omega) hm (by omega) (by omega) (z:=8) rfl
 have hbs:=RdV.part hv 9 17 (by omega) hm (by omega) (by omega) (z:=8) rfl
 rw [htx] at hbt
 rw [hst] at hbs
 have gg1:=get_at (n:=e.txn) (k:=8)
 have gg2:=get_at (n:=e.stamp) (k:=8)
 have hck:=λ (p:Option Addr) (c:Nat)=>Tl.check B e p c h
 subst he
 dsimp only at hc0 hbt hbs gg1 gg2 t1 t2 s1 s2
 refine Wq 81 Tryz.func49 rfl rfl (nB rfl) (λ F=>?_)
 refine TS ?_
 refine Le (El [.int .i64 0,.int .i64 0,.int .i64 0,.int .i64 0,.int .i64 0,.slice none 0 0] (by unfold Zf;kernel_rfl) ?_)
 intro g2
 refine La rfl (Ld (Ts (TS ?_)))
 iterate 3 refine Lz ?_
 refine Ld (yL rfl (Tk (TS (Lm rfl (Lq (Qi 0 (e:=5) (sz:=1) rfl rfl rfl) (Lq (zN (v := .int .u8 3) rfl (λ w ho=>hc0 w (ho.map Sa))) ?_))))))
 refine Lz ?_
 refine Lq (z8 [(0,1),(1,1),(2,1),(3,1),(4,1),(5,1)] [.int .i64 0,.int .i64 0,.int .i64 0,.int .i64 0,.int .i64 0,.slice none 0 0] [_,_,_,_,_,_] [(0,_)] (by unfold Zf;kernel_rfl) rfl rfl) ?_
 refine Le (El [.int .i64 0,.int .i64 0,.int .i64 0,.int .i64 0,.int .i64 0,.slice none 0 0] (by unfold Zf;kernel_rfl) ?_)
 intro g4
 refine L0 (Es [_,_,_,_,_,_] rfl rfl rfl rfl (by simp) ?_)
 try simp only [splice,lC,lN,dS,cA,tS,tZ,dZ,nA,aN]
 refine Ld (TS (La rfl (Ld (Ts (yH (TS ?_))))))
 iterate 4 refine Lz ?_
 refine yT (t:=20) rfl rfl ?_
 iterate 5 refine Lz ?_
 refine Ld (yQ rfl (TS ?_))
 iterate 4 refine Lz ?_
 refine Ld (zF rfl (TR (La rfl (Ld (Ts (yH (TS ?_)))))))
 iterate 5 refine Lz ?_
 refine Ld (yL rfl (TS ?_))
 iterate 4 refine Lz ?_
 refine zQ (t:=40) rfl rfl ?_
 iterate 6 refine Lz ?_
 refine Ld (yL rfl (Tk (TS (Lm rfl (Lq (zS 1 9 (e:=5) (sz:=1) rfl rfl rfl rfl rfl) ?_)))))
 refine Le (Ec (Cd.get B _ _ (be (UInt64.ofInt t) 8) hbt (by simp [Zd])) Tryz.func87 rfl rfl rfl ?_)
 rintro _ _ ⟨rfl,rfl⟩
 try simp only [cA,nA]
 refine Lq (yX rfl gg1) (Lq (Qf (off:=1) rfl) ?_)
 refine L0 (E1 (by kernel_rfl) rfl rfl rfl (by first | (simp;done) | (simp;omega)) ?_)
 try simp only [List.set_cons_zero,List.set_cons_succ]
 refine Ld (Ts (TS ?_))
 iterate 3 refine Lz ?_
 refine Ld (zF rfl (TR (Lm rfl (Lq (zS 9 17 (e:=5) (sz:=1) rfl rfl rfl rfl rfl) ?_))))
 refine Le (Ec (Cd.get B _ _ (be (UInt64.ofInt s) 8) hbs (by simp [Zd])) Tryz.func87 rfl rfl rfl ?_)
 rintro _ _ ⟨rfl,rfl⟩
 try simp only [cA,nA]
 refine Lq (yX rfl gg2) (Lq (Qf (off:=4) rfl) ?_)
 refine L0 (E1 (by kernel_rfl) rfl rfl rfl (by first | (simp;done) | (simp;omega)) ?_)
 try simp only [List.set_cons_zero,List.set_cons_succ]
 refine Ld (Ts (TS ?_))
 refine Lz ?_
 refine Le (Ec (hck none 0) Tryz.func98 rfl rfl rfl ?_)
 rintro _ _ ⟨rfl,rfl⟩
 try simp only [cA,nA]
 refine La rfl (Ld (TS (Lm rfl (Lq (yW rfl rfl) (Ld (yQ rfl (Tk (TS ?_))))))))
 refine Lz ?_
 refine L0 (Es [_,_,_,_,_,_] rfl rfl rfl rfl (by simp) ?_)
 try simp only [splice,lC,lN,dS,cA,tS,tZ,dZ,nA,aN]
 refine La rfl (Ld (T.ret ?_))
 exact ⟨.inl rfl,_,_,res [_,_] rfl ⟨rvA [_,_,_,_,_,_] rfl ⟨rfl,rfl,rfl,rfl,rfl,rfl,trivial⟩,rvT rfl,trivial⟩,⟨rfl,rfl⟩,Sa⟩
theorem Tl.decodeN (B:Wn) (S:List Wp) (k t pg sl:Int) (dat:List UInt8) (hk3:k≠3) (e:En) (he:e=⟨k,t,pg,sl,0,dat⟩) (a:Option Addr) (m ca:Nat) (h:EnOk e) (hm:(Zj e).length=m) (hmc:m<=ca) (hv:RdV B S (.slice a m ca) (Zb (Zj e))):Fn Tryz.prog B 49 #[.slice a m ca] S (λ u l => ∃ p c,u = .tuple #[enV e p c,.int .i64 0]/\l=rB (.slice p e.data.length c) e.data.length e.data::S):=by
 obtain ⟨k1,k2⟩:=h.kind
 obtain ⟨t1,t2⟩:=h.txn
 obtain ⟨q1,q2,q3,q4⟩:=h.place
 have hl:=h.long
 have hkn:e.kind≠3:=by rw [he];exact hk3
 have hmd:m=12+e.data.length:=by rw [<-hm,encE_len,if_neg hkn]
 obtain ⟨b0,o0,rfl,hcell⟩:=hv.at (by omega)
 have hc0:=enc_head h hm hv hcell
 have htx:=enc_txn e
 have hpg:((Zj e).take 11).drop 9=be (UInt64.ofInt e.page) 2:=encE_get (by rw [encEn hkn];exact ⟨UInt8.ofInt e.kind::be (UInt64.ofInt e.txn) 8,UInt8.ofInt e.slot::e.data,by simp,by simp [Zd],by simp [Zd]⟩)
 have hdt:(Zj e).drop 12=e.data:=by
  rw [encEn hkn,show UInt8.ofInt e.kind::(be (UInt64.ofInt e.txn) 8++(be (UInt64.ofInt e.page) 2++(UInt8.ofInt e.slot::e.data)))=(UInt8.ofInt e.kind::(be (UInt64.ofInt e.txn) 8++be (UInt64.ofInt e.page) 2++[UInt8.ofInt e.slot]))++e.data by simp,List.drop_left' (by simp [Zd])]
 have hsl : ∀ w,Own B w S->w.cell? ⟨b0,o0+11*1,none⟩=some (.int .u8 e.slot):=λ w ho=>by
  have h11:11<(Zb (Zj e)).length:=by simp [hm];omega
  have:=hcell 11 h11 w ho
  rw [this]
  have:(Zb (Zj e))[11]? = some (.int .u8 e.slot):=by
   rw [encEn hkn,show UInt8.ofInt e.kind::(be (UInt64.ofInt e.txn) 8++(be (UInt64.ofInt e.page) 2++(UInt8.ofInt e.slot::e.data)))=(UInt8.ofInt e.kind::(be (UInt64.ofInt e.txn) 8++be (UInt64.ofInt e.page) 2))++UInt8.ofInt e.slot::e.data by simp]
   unfold Zb
   rw [List.map_append,List.getElem?_append_right (by simp [Zd])]
   simp [Zd,u8_int (n:=e.slot) (h0:=q3)]
  rw [List.getElem?_eq_getElem h11] at this
  exact this
 have hbt:=RdV.part hv 1 9 (by omega) hm (by omega) (by omega) (z:=8) rfl
 have hbp:=RdV.part hv 9 11 (by omega) hm (by omega) (by omega) (z:=2) rfl
 have hbd:=RdV.dropB hv 12 (by omega) hm hmc
 rw [htx] at hbt
 rw [hpg] at hbp
 rw [hdt] at hbd
 have hbl:m-12=e.data.length:=by omega
 rw [hbl] at hbd
 have gg1:=get_at (n:=e.txn) (k:=8)
 have gg2:=get_at (n:=e.page) (k:=2)
 have hck:=λ (p:Option Addr) (c:Nat)=>Tl.check B e p c h
 have hn1:k≠1->dat.length=0:=λ hk=>by have:=h.none (by rw [he];exact hk);rw [he] at this;simp at this;simp [this]
 subst he
 dsimp only at hc0 hbt hbp hbd gg1 gg2 t1 t2 q1 q2 q3 q4 hsl hmd hl hbl k1 k2
 refine Wq 81 Tryz.func49 rfl rfl (nB rfl) (λ F=>?_)
 try simp only [cA,nA]
 refine TS ?_
 refine Le (El [.int .i64 0,.int .i64 0,.int .i64 0,.int .i64 0,.int .i64 0,.slice none 0 0] (by unfold Zf;kernel_rfl) ?_)
 intro g2
 refine La rfl (Ld (Ts (TS ?_)))
 iterate 3 refine Lz ?_
 refine Ld (yL rfl (Tk (TS (Lm rfl (Lq (Qi 0 (e:=5) (sz:=1) rfl rfl rfl) (Lq (zN (v := .int .u8 k) rfl (λ w ho=>hc0 w (ho.map Sa))) ?_))))))
 refine Lz ?_
 refine Lq (z8 [(0,1),(1,1),(2,1),(3,1),(4,1),(5,1)] [.int .i64 0,.int .i64 0,.int .i64 0,.int .i64 0,.int .i64 0,.slice none 0 0] [_,_,_,_,_,_] [(0,_)] (by unfold Zf;kernel_rfl) rfl rfl) ?_
 refine Le (El [.int .i64 0,.int .i64 0,.int .i64 0,.int .i64 0,.int .i64 0,.slice none 0 0] (by unfold Zf;kernel_rfl) ?_)
 intro g4
 refine L0 (Es [_,_,_,_,_,_] rfl rfl rfl rfl (by simp) ?_)
 try simp only [splice,lC,lN,dS,cA,tS,tZ,dZ,nA,aN]
 refine Ld (TS (La rfl (Ld (Ts (yH (TS ?_))))))
 iterate 4 refine Lz ?_
 refine yT (t:=20) rfl (decide_eq_false (by omega)) ?_
 iterate 5 refine Lz ?_
 refine Ld (yL rfl (TS ?_))
 iterate 4 refine Lz ?_
 refine Ld (yL rfl (hp:=(hk3)) (Tk (Ts (yH (TS ?_)))))
 iterate 5 refine Lz ?_
 refine Ld (yL rfl ?_)
 by_cases hk1:k=1
 .
  refine TS ?_
  iterate 4 refine Lz ?_
  refine yT (t:=40) rfl (decide_eq_false (by omega)) ?_
  iterate 6 refine Lz ?_
  refine Ld (yQ rfl (Tk (TS (Lm rfl (Lq (zS 1 9 (e:=5) (sz:=1) rfl rfl rfl rfl rfl) ?_)))))
  refine Le (Ec (Cd.get B _ _ (be (UInt64.ofInt t) 8) hbt (by simp [Zd])) Tryz.func87 rfl rfl rfl ?_)
  rintro _ l2 ⟨rfl,hl2⟩
  rw [hl2]
  clear hl2
  refine Lq (yX rfl gg1) (Lq (Qf (off:=1) rfl) ?_)
  refine L0 (E1 (by kernel_rfl) rfl rfl rfl (by first | (simp;done) | (simp;omega)) ?_)
  try simp only [List.set_cons_zero,List.set_cons_succ]
  refine Ld (Ts (TS ?_))
  iterate 3 refine Lz ?_
  refine Ld (yL rfl (hp:=(hk3)) (Ts (T.draw 10 (S) (nB rfl) ?_)))
  refine Rz 0 ?_
  refine Rq 1 rfl Sa (zS 9 11 (e:=5) (sz:=1) rfl rfl rfl rfl rfl) ?_
  refine Rz 4 ?_
  refine Rq 5 rfl Sa (Qi 11 (e:=5) (sz:=1) rfl rfl rfl) (Rq 6 rfl Sa (zN (v := .int .u8 sl) rfl (λ w ho=>hsl w (ho.map Sa))) ?_)
  refine Rz 7 ?_
  refine yK 2 ?_
  refine z6 rfl (Ec (Cd.get B _ _ (be (UInt64.ofInt pg) 2) hbp (by simp [Zd])) Tryz.func87 rfl rfl rfl ?_)
  rintro _ l2 ⟨rfl,hl2⟩
  rw [hl2]
  clear hl2
  refine ⟨Sa,?_⟩
  refine Rq 3 rfl Sa (yX rfl gg2) ?_
  refine Rz 8 ?_
  refine yK 9 ?_
  refine YH rfl (E1 (by kernel_rfl) rfl rfl rfl (by first | (simp;done) | (simp;omega)) ?_)
  try simp only [List.set_cons_zero,List.set_cons_succ]
  refine ⟨Sa,?_⟩
  refine Rd0 (by rfl) ?_
  simp only [dS,dZ,dN]
  refine Lq (Qf (off:=3) rfl) ?_
  refine L0 (E1 (by kernel_rfl) rfl rfl rfl (by first | (simp;done) | (simp;omega)) ?_)
  try simp only [List.set_cons_zero,List.set_cons_succ]
  refine Ld (TR (Lm rfl (Lq (zP 12 (e:=5) (sz:=1) rfl rfl rfl) ?_)))
  refine Le (Ec (Cd.clone B _ _ dat dat.length rfl (hbl ▸ hbd) (by omega)) Tryz.func97 rfl rfl rfl ?_)
  rintro _ _ ⟨p1,c1,rfl,rfl⟩
  try simp only [cA,nA]
  refine Lq (Qf (off:=5) rfl) ?_
  refine L0 (E1 (by kernel_rfl) rfl rfl rfl (by first | (simp;done) | (simp;omega)) ?_)
  try simp only [List.set_cons_zero,List.set_cons_succ]
  refine Ld (Ts (TS ?_))
  refine Lz ?_
  refine Le (Ec (hck p1 c1) Tryz.func98 rfl rfl rfl ?_)
  rintro _ _ ⟨rfl,rfl⟩
  try simp only [cA,nA]
  refine La rfl (Ld (TS (Lm rfl (Lq (yW rfl rfl) (Ld (yQ rfl (Tk (TS ?_))))))))
  refine Lz ?_
  refine L0 (Es [_,_,_,_,_,_] rfl rfl rfl rfl (by simp) ?_)
  try simp only [splice,lC,lN,dS,cA,tS,tZ,dZ,nA,aN]
  refine La rfl (Ld (T.ret ?_))
  exact ⟨.inl rfl,_,_,res [_,_] rfl ⟨rvA [_,_,_,_,_,_] rfl ⟨rfl,rfl,rfl,rfl,rfl,rfl,trivial⟩,rvT rfl,trivial⟩,⟨p1,c1,rfl,rfl⟩,Sa⟩
 have:=hn1 hk1
 refine TS ?_
 iterate 4 refine Lz ?_
 refine zQ (t:=40) rfl (decide_eq_true (by omega)) ?_
 iterate 6 refine Lz ?_
 refine Ld (yL rfl (Tk (TS (Lm rfl (Lq (zS 1 9 (e:=5) (sz:=1) rfl rfl rfl rfl rfl) ?_)))))
 refine Le (Ec (Cd.get B _ _ (be (UInt64.ofInt t) 8) hbt (by simp [Zd])) Tryz.func87 rfl rfl rfl ?_)
 rintro _ l2 ⟨rfl,hl2⟩
 rw [hl2]
 clear hl2
 refine Lq (yX rfl gg1) (Lq (Qf (off:=1) rfl) ?_)
 refine L0 (E1 (by kernel_rfl) rfl rfl rfl (by first | (simp;done) | (simp;omega)) ?_)
 try simp only [List.set_cons_zero,List.set_cons_succ]
 refine Ld (Ts (TS ?_))
 iterate 3 refine Lz ?_
 refine Ld (yL rfl (hp:=(hk3)) (Ts (T.draw 10 (S) (nB rfl) ?_)))
 refine Rz 0 ?_
 refine Rq 1 rfl Sa (zS 9 11 (e:=5) (sz:=1) rfl rfl rfl rfl rfl) ?_
 refine Rz 4 ?_
 refine Rq 5 rfl Sa (Qi 11 (e:=5) (sz:=1) rfl rfl rfl) (Rq 6 rfl Sa (zN (v := .int .u8 sl) rfl (λ w ho=>hsl w (ho.map Sa))) ?_)
 refine Rz 7 ?_
 refine yK 2 ?_
 refine z6 rfl (Ec (Cd.get B _ _ (be (UInt64.ofInt pg) 2) hbp (by simp [Zd])) Tryz.func87 rfl rfl rfl ?_)
 rintro _ l2 ⟨rfl,hl2⟩
 rw [hl2]
 clear hl2
 refine ⟨Sa,?_⟩
 refine Rq 3 rfl Sa (yX rfl gg2) ?_
 refine Rz 8 ?_
 refine yK 9 ?_
 refine YH rfl (E1 (by kernel_rfl) rfl rfl rfl (by first | (simp;done) | (simp;omega)) ?_)
 try simp only [List.set_cons_zero,List.set_cons_succ]
 refine ⟨Sa,?_⟩
 refine Rd0 (by rfl) ?_
 simp only [dS,dZ,dN]
 refine Lq (Qf (off:=3) rfl) ?_
 refine L0 (E1 (by kernel_rfl) rfl rfl rfl (by first | (simp;done) | (simp;omega)) ?_)
 try simp only [List.set_cons_zero,List.set_cons_succ]
 refine Ld (TR (Lm rfl (Lq (zP 12 (e:=5) (sz:=1) rfl rfl rfl) ?_)))
 refine Le (Ec (Cd.clone B _ _ dat dat.length rfl (hbl ▸ hbd) (by omega)) Tryz.func97 rfl rfl rfl ?_)
 rintro _ _ ⟨p1,c1,rfl,rfl⟩
 try simp only [cA,nA]
 refine Lq (Qf (off:=5) rfl) ?_
 refine L0 (E1 (by kernel_rfl) rfl rfl rfl (by first | (simp;done) | (simp;omega)) ?_)
 try simp only [List.set_cons_zero,List.set_cons_succ]
 refine Ld (Ts (TS ?_))
 refine Lz ?_
 refine Le (Ec (hck p1 c1) Tryz.func98 rfl rfl rfl ?_)
 rintro _ _ ⟨rfl,rfl⟩
 try simp only [cA,nA]
 refine La rfl (Ld (TS (Lm rfl (Lq (yW rfl rfl) (Ld (yQ rfl (Tk (TS ?_))))))))
 refine Lz ?_
 refine L0 (Es [_,_,_,_,_,_] rfl rfl rfl rfl (by simp) ?_)
 try simp only [splice,lC,lN,dS,cA,tS,tZ,dZ,nA,aN]
 refine La rfl (Ld (T.ret ?_))
 exact ⟨.inl rfl,_,_,res [_,_] rfl ⟨rvA [_,_,_,_,_,_] rfl ⟨rfl,rfl,rfl,rfl,rfl,rfl,trivial⟩,rvT rfl,trivial⟩,⟨p1,c1,rfl,rfl⟩,Sa⟩
theorem Tl.decode (B:Wn) (S:List Wp) (e:En) (a:Option Addr) (m ca:Nat) (h:EnOk e) (hm:(Zj e).length=m) (hmc:m<=ca) (hv:RdV B S (.slice a m ca) (Zb (Zj e))):Fn Tryz.prog B 49 #[.slice a m ca] S (λ u l => ∃ p c,u = .tuple #[enV e p c,.int .i64 0]/\l=rB (.slice p e.data.length c) e.data.length e.data::S):=by
  by_cases hk:e.kind=3
  . have h1:=h.three hk
    have h2:=h.none (by omega)
    have he:e=⟨3,e.txn,0,0,e.stamp,[]⟩:=by
      obtain ⟨k,t,p,s,st,d⟩:=e
      dsimp only at *
      simp [hk,h1,h2]
    refine Fn.sub (Tl.decode3 B S e.txn e.stamp e he a m ca h hm hmc hv) ?_
    rintro v l' ⟨rfl,rfl⟩
    refine ⟨_,λ k K=>?_,none,0,rfl,rfl⟩
    rw [h2]
    exact rowNilP K
  . have h1:=h.other hk
    have he:e=⟨e.kind,e.txn,e.page,e.slot,0,e.data⟩:=by
      obtain ⟨k,t,p,s,st,d⟩:=e
      dsimp only at *
      simp [h1]
    exact Tl.decodeN B S e.kind e.txn e.page e.slot e.data hk e he a m ca h hm hmc hv
end Go.Proofs.YtkfmfoecplbclaaGreatDoor
