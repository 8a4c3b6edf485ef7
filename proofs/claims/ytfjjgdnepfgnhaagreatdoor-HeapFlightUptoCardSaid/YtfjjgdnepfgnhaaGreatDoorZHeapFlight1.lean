/- The law HeapFlight of annalslaw08 holds (its card): for all arguments of bulk at most 1048576 the call returns true and the arguments read as before. Condition: the bound of the second form. -/
import Derived.Test.YtfjjgdnepfgnhaaGreatDoorZHfBase17
import Derived.Lib.ConvBytes
set_option linter.unusedSimpArgs false
set_option linter.unusedVariables false
set_option maxRecDepth 100000
set_option maxHeartbeats 16000000
namespace Go.Proofs.YtfjjgdnepfgnhaaGreatDoor
open Go.ChangeShapes Go.WideShapes Go.ChangeAt Go.RowKit
def OpHR (W:World) (cs:List Value) (o:OpH):Prop := ∃ dv kv fd fk,cs=[.int .i64 o.kind,.int .i64 o.txn,.int .i64 o.page,.int .i64 o.slot,dv,.int .i64 o.stamp,kv,.int .i64 o.t0,.int .i64 o.t1]∧Reads W dv (Zb o.data) fd∧Reads W kv (boolsV o.keep) fk∧o.Ok
section
variable {H : Type} {enc:TypeId×Value→H} {W:World}
theorem read_boolsH (n:Nat) (c:Value) (y:DataW H×List MemPlace) (h:Tr enc Tryz.prog W n 83 [c]=some y) : ∃ (l:List Bool) (fp:List Nat),Reads W c (boolsV l) fp∧l.length+1≤Rows.uptoBulk y.1:=by
 obtain ⟨v,l,hc,hs,_,hL⟩:=open_slice_R (R:=fun cs (a:Bool)=>cs=[.bool a]) (B:=fun _=>1) Tryz.underlying83 (show Tryz.prog.cellsOf 4=1 by kernel_rfl) (by omega) (fun n cs y=>read_bool Tryz.underlying4 n cs y) h
 simp only [List.cons.injEq,and_true] at hc
 subst hc
 obtain ⟨fp,hR,hfp⟩:=hs.reads (fun a:Bool=>Value.bool a) (fun cs a h=>h)
 exact ⟨l,fp,hR,hL⟩
theorem two_of_lenH {α:Type} {l:List α} (h:l.length=2) : ∃ a b,l=[a,b]:=by
 match l,h with
 | [a,b],_=>exact ⟨a,b,rfl⟩
theorem eight_of_lenH {α:Type} {l:List α} (h:l.length=8) : ∃ a b c d e f g i,l=[a,b,c,d,e,f,g,i]:=by
 match l,h with
 | [a,b,c,d,e,f,g,i],_=>exact ⟨a,b,c,d,e,f,g,i,rfl⟩
theorem nine_of_lenH {α:Type} {l:List α} (h:l.length=9) : ∃ a b c d e f g i j,l=[a,b,c,d,e,f,g,i,j]:=by
 match l,h with
 | [a,b,c,d,e,f,g,i,j],_=>exact ⟨a,b,c,d,e,f,g,i,j,rfl⟩
theorem read_opH (n:Nat) (cs:List Value) (y:DataW H×List MemPlace) (h:Tr enc Tryz.prog W n 85 cs=some y) : ∃ o:OpH,OpHR W cs o∧o.data.length+o.keep.length+2≤Rows.uptoBulk y.1:=by
 obtain ⟨xs,m,rfl,rfl,hl,hx,hf⟩:=DataW.trod_struct Tryz.underlying85 h
 rw [show Tryz.prog.cellsOf 85=9 by kernel_rfl] at hl
 obtain ⟨c0,c1,c2,c3,c4,c5,c6,c7,c8,rfl⟩:=nine_of_lenH hl
 obtain ⟨x0,x1,x2,x3,x4,x5,x6,x7,rfl⟩:=eight_of_lenH hx
 have k0:Tryz.prog.cellsOf 3=1:=by kernel_rfl
 have k1:Tryz.prog.cellsOf 35=1:=by kernel_rfl
 have k2:Tryz.prog.cellsOf 2=1:=by kernel_rfl
 have k3:Tryz.prog.cellsOf 83=1:=by kernel_rfl
 have k4:Tryz.prog.cellsOf 36=2:=by kernel_rfl
 have f0:=field_of hf 0 3 0 1 rfl k0
 have f1:=field_of hf 1 2 1 1 rfl k2
 have f2:=field_of hf 2 3 2 1 rfl k0
 have f3:=field_of hf 3 3 3 1 rfl k0
 have f4:=field_of hf 4 35 4 1 rfl k1
 have f5:=field_of hf 5 2 5 1 rfl k2
 have f6:=field_of hf 6 83 6 1 rfl k3
 have f7:=field_of hf 7 36 7 2 rfl k4
 simp only [List.drop_zero,List.drop_succ_cons,List.take_succ_cons,List.take_zero,List.getElem?_cons_zero,List.getElem?_cons_succ] at f0 f1 f2 f3 f4 f5 f6 f7
 obtain ⟨i0,e0,_,_⟩:=DataW.trod_int Tryz.underlying3 f0
 obtain ⟨i1,e1,_,_⟩:=DataW.trod_int Tryz.underlying2 f1
 obtain ⟨i2,⟨e2,b1,b2⟩,_⟩:=read_i64 Tryz.underlying3 _ _ _ f2
 obtain ⟨i3,⟨e3,b3,b4⟩,_⟩:=read_i64 Tryz.underlying3 _ _ _ f3
 obtain ⟨ld,fd,hd,hfd,hdl⟩:=read_bytes _ _ _ f4
 obtain ⟨i5,e5,_,_⟩:=DataW.trod_int Tryz.underlying2 f5
 obtain ⟨lk,fk,hk,hkl⟩:=read_boolsH _ _ _ f6
 obtain ⟨ys,m',e',e4,hl4,hy,hg⟩:=DataW.trod_array Tryz.underlying36 f7
 obtain ⟨y0,y1,rfl⟩:=two_of_lenH hy
 have g0:=hg 0 (by omega)
 have g1:=hg 1 (by omega)
 simp only [k0,Nat.zero_mul,Nat.one_mul,Nat.mul_one,List.drop_zero,List.drop_succ_cons,List.take_succ_cons,List.take_zero,List.getElem?_cons_zero,List.getElem?_cons_succ] at g0 g1
 obtain ⟨j0,q0,_,_⟩:=DataW.trod_int Tryz.underlying3 g0
 obtain ⟨j1,q1,_,_⟩:=DataW.trod_int Tryz.underlying3 g1
 simp only [List.cons.injEq,and_true] at e0 e1 e2 e3 e5 q0 q1
 subst e0;subst e1;subst e2;subst e3;subst e5;subst q0;subst q1
 refine ⟨⟨i0,i1,i2,i3,ld,i5,lk,j0,j1⟩,⟨c4,c6,fd,fk,rfl,hd,hk,⟨by dsimp only;omega,by dsimp only;omega⟩,by dsimp only;omega,by dsimp only;omega⟩,?_⟩
 simp only [List.map_cons,List.map_nil,Rows.uptoBulk,Rows.uptoBulkAll]
 omega
end
theorem SliceAt.roLH {W:World} {v:Value} {l:List OpH} (h:SliceAt W 9 (OpHR W) v l):RoLH (baseOf W) v l:=by
 obtain ⟨sa,sc,e,h⟩:=h.ro (by omega)
 refine ⟨sa,sc,e,h.imp id ?_⟩
 rintro ⟨b,o,C,e1,e2,h⟩
 refine ⟨b,o,C,e1,e2,fun i hi=>?_⟩
 obtain ⟨cells,h1,dv,kv,fd,fk,rfl,hd,hk,_⟩:=h i hi
 obtain ⟨da,dc,e,hx⟩:=RoS.ofReads hd
 obtain ⟨ka,kc,e2,hy⟩:=RoS.ofReads hk
 rw [Wd] at e
 rw [show (boolsV l[i].keep).length=l[i].keep.length by simp [boolsV]] at e2
 subst e
 subst e2
 exact ⟨da,dc,ka,kc,h1,⟨da,dc,by rw [Wd],hx⟩,ka,kc,by simp [boolsV],hy⟩
theorem SliceAt.okH {W:World} {v:Value} {l:List OpH} (h:SliceAt W 9 (OpHR W) v l) : ∀ x∈l,x.Ok:=by
  intro x hx
  obtain ⟨sa,sc,e,h⟩:=h.ro (by omega)
  rcases h with rfl | ⟨b,o,C,e1,e2,h⟩
  · cases hx
  · obtain ⟨i,hi,rfl⟩:=List.getElem_of_mem hx
    obtain ⟨cells,h1,dv,kv,fd,fk,rfl,hd,hk,h2⟩:=h i hi
    exact h2
theorem opH_le : ∀ {l:List OpH} {x:OpH},x∈l→x.data.length+x.keep.length≤(l.map fun o=>o.data.length+o.keep.length+2).sum
 | a::l,x,h=>by
  simp only [List.map_cons,List.sum_cons]
  rcases List.mem_cons.1 h with rfl | h
  · omega
  · have:=opH_le h;omega
open Go.RowKit
theorem lays_in (D:DD) (n:Nat) (N:Nat→List UInt8) (f:Nat→Option Nat) (hD:D.Ok) (hf : ∀ i k,f i=some k→k≤256) (hp : ∀ x∈D.pend,x.1<n→x.2=N x.1) : ∀ (i j r:Nat),j<n→((D.lays f i).getD j [])[r]? = (D.secs.getD j [])[r]? ∨ ((D.lays f i).getD j [])[r]? = (N j)[r]?
  | 0,j,r,_ => .inl rfl
  | i+1,j,r,hj=>by
    have ih:=lays_in D n N f hD hf hp i j r hj
    by_cases hi:i<D.pend.length
    · cases hk:f i with
      | none=>rw [DD.lays_none D f i hi hk];exact ih
      | some k =>
        rw [DD.lays_some D f i k hi hk]
        obtain ⟨h1,h2⟩:=DD.lays_ok hD f hf i
        have ha:=hD.at_ _ (List.getElem_mem hi)
        have hd:=hD.data _ (List.getElem_mem hi)
        have he:=hp _ (List.getElem_mem hi)
        generalize D.pend[i]=x at *
        unfold layW
        by_cases e:x.1=j
        · subst e
          have he:=he hj
          rw [List.getD_eq_getElem?_getD,List.getElem?_set_self (by omega),Option.getD_some]
          by_cases hr:r<k
          · right
            rw [List.getElem?_append_left (by rw [List.length_take];have:=hf i k hk;omega),List.getElem?_take,if_pos hr,he]
          · rw [List.getElem?_append_right (by rw [List.length_take];omega),List.length_take,List.getElem?_drop,show k+(r-min k x.2.length)=r by have:=hf i k hk;omega]
            exact ih
        · rw [List.getD_eq_getElem?_getD,List.getElem?_set_ne e,←List.getD_eq_getElem?_getD]
          exact ih
    · have:D.lays f (i+1)=D.lays f i:=by
        simp [DD.lays,List.getElem?_eq_none (show D.pend.length≤i by omega)]
      rw [this];exact ih
theorem crash_in {D D1:DD} {n:Nat} {st0 st:List UInt8} (ho:D.Ok) (hn:n≤D.secs.length) (hs0 : ∀ j,j<n→D.secs.getD j []=secW st0 j) (hs1:Secs D1 0 n st) (hpre:st.take st0.length=st0) (hl0:st0.length≤n*256)
    (hP : ∀ x∈D.pend,x.1<n→x.2=D1.read x.1) (keep:List Bool) (t a:Int):(allD (D.crash keep t a) 0 n).take st0.length=st0:=by
  have oc:=ho.cr keep t a
  have ocl:(D.crash keep t a).secs.length=D.secs.length:=DD.crash_len ho keep t a
  apply List.ext_getElem?
  intro i
  rw [List.getElem?_take]
  by_cases hi:i<st0.length
  · rw [if_pos hi]
    obtain ⟨j,r,rfl,hr⟩ : ∃ j r,i=j*256+r∧r<256:=⟨i/256,i%256,by omega,Nat.mod_lt _ (by omega)⟩
    have hj:j<n:=by omega
    rw [allD_get oc (by omega) hj hr,Nat.zero_add,DD.rdN _ rfl]
    have hb:=lays_in D n D1.read (amount keep t a) ho (amount_le _ _ _) hP D.pend.length j r hj
    have h0:(D.secs.getD j [])[r]? = st0[j*256+r]? := by
      rw [←secW_get hr hi,hs0 j hj]
    have hst:st0.length≤st.length:=by rw [←hpre,List.length_take];omega
    have h1:(D1.read j)[r]? = st0[j*256+r]? := by
      have:=hs1 j hj
      rw [Nat.zero_add] at this
      rw [this,secW_get hr (by omega),←hpre,List.getElem?_take,if_pos hi]
    rcases hb with hb | hb
    · exact hb.trans h0
    · exact hb.trans h1
  · rw [if_neg hi,List.getElem?_eq_none (by omega)]
theorem logB_begin {ds es:List (List UInt8)} (hd : ∀ d∈ds,OkD d) (he : ∀ d∈es,OkD d) (h:(Zr 0 0 ds).take (Zr 0 0 es).length=Zr 0 0 es):es=ds.take es.length:=by
 have h1:=scan_at es 0 0 ds.length (Zr 0 0 ds) ((Zr 0 0 ds).drop (Zr 0 0 es).length) (by rw [List.drop_zero];conv=>lhs;rw [←List.take_append_drop (Zr 0 0 es).length (Zr 0 0 ds)];rw [h]) he
 have h2:=scan_text ds 0 (ds.length+es.length) (by omega) hd
 rw [List.replicate_zero,List.append_nil,h1] at h2
 have h3:=congrArg (fun x=>x.2.2.map Prod.snd) h2
 simp only [List.map_append,logR_snd] at h3
 rw [←h3,List.take_left' rfl]
theorem HInv.flight {logs count n K n' K':Nat} {s s':Pl} {st st':List (Int×Int)} {h h1:HR} (i:HInv logs count n K s st h) (i':HInv logs count n' K' s' st' h1) (he:h1=h∧s'.D=s.D ∨ ∃ e,e.kind=3∧h1.es=h.es++[e])
    (P:List (Nat×List UInt8)) (hP : ∀ x∈P,x.2=s'.D.read x.1) (hok:DD.Ok ⟨s.D.secs,s.D.pend++P⟩) (keep:List Bool) (t a:Int) :
    ∃ s1 R1 k2 s2 R2 kc,Wj (allD (DD.crash ⟨s.D.secs,s.D.pend++P⟩ keep t a) 0 logs) (logs*256+1) 0 0=(kc,s1,R1)∧Wj (allD s'.D 0 logs) (logs*256+1) 0 0=(k2,s2,R2) ∧
      (kc≤k2→(allD (DD.crash ⟨s.D.secs,s.D.pend++P⟩ keep t a) 0 logs).take kc=((allD s'.D 0 logs).take k2).take kc →
        ∃ j,R1=logR 0 ((h1.es.take j).map Zj)∧j≤h1.es.length∧(allR (Zs h1 j)=sureR h∨allR (Zs h1 j)=sureR h1)):=by
  obtain ⟨k,c1,c2,c3⟩:=i.s.log.durB
  have ho:=i.s.inv.ok
  have hlen:=i.s.len
  have hsec:=i.s.log.secs
  rw [c2] at hsec
  have hpe:=i.s.log.pend
  -- what the new disk's log reads
  obtain ⟨k1,d1,d2,d3,d4,d5⟩ : ∃ k1,k≤k1∧k1≤h1.es.length∧Secs s'.D 0 logs (Zr 0 0 ((h1.es.take k1).map Zj))∧(∀ (j:Nat) (e:En),k1≤j→h1.es[j]? = some e→e.kind≠3)∧(k1≤h.es.length→h1=h):=by
    rcases he with ⟨rfl,e2⟩ | ⟨e,e1,e2⟩
    · exact ⟨k,Nat.le_refl _,c1,by rw [e2];exact hsec,c3,fun _=>rfl⟩
    · obtain ⟨k1,d1,d2,d3⟩:=i'.s.log.durB
      have hk1:k1=h1.es.length:=by
        rcases Nat.lt_or_ge k1 h1.es.length with q | q
        · exact absurd e1 (d3 h.es.length e (by rw [e2] at q;simp at q;omega) (by rw [e2];simp))
        · omega
      have hs:=i'.s.log.secs
      rw [d2] at hs
      exact ⟨k1,by rw [hk1,e2];simp;omega,d1,hs,d3,fun q=>by rw [hk1,e2] at q;simp at q;omega⟩
  have hpre:h1.es.take k=h.es.take k:=by
    rcases he with ⟨rfl,_⟩ | ⟨e,_,e2⟩
    · rfl
    · rw [e2,List.take_append_of_le_length c1]
  have hokD : ∀ j,∀ d∈(h1.es.take j).map Zj,OkD d:=fun j d hd=>by
    obtain ⟨e,he,rfl⟩:=List.mem_map.1 hd
    exact encE_ok (i'.r.ok.eok e (List.mem_of_mem_take he))
  have hfit : ∀ j,(Zr 0 0 ((h1.es.take j).map Zj)).length≤logs*256:=fun j=>by
    have h1:=logB_le_take (es:=h1.es) j
    have h2:=i'.s.inv.wst
    rw [i'.s.log.first.2.1,i'.s.log.first.2.2] at h2
    omega
  have htk:(Zr 0 0 ((h1.es.take k1).map Zj)).take (Zr 0 0 ((h.es.take k).map Zj)).length=Zr 0 0 ((h.es.take k).map Zj):=by
    have:=logB_take (s:=0) (k:=0) (nd:=k) (ds:=(h1.es.take k1).map Zj)
    rwa [←List.map_take,List.take_take,Nat.min_eq_left d1,hpre] at this
  have hcr:=crash_in (D:=⟨s.D.secs,s.D.pend++P⟩) (D1:=s'.D) (n:=logs) (st0:=Zr 0 0 ((h.es.take k).map Zj)) hok (by show logs≤s.D.secs.length;omega) (fun j hj=>by
    have h1:=hsec j hj
    rw [Nat.zero_add,read_at (fun p hp=>by have:=hpe p hp;omega)] at h1
    exact h1) d3 htk (by rw [←hpre];exact hfit k) (fun x hx hxn=>by
    rcases List.mem_append.1 hx with hx | hx
    · have:=hpe x hx;omega
    · exact hP x hx) keep t a
  have hocl:(DD.crash ⟨s.D.secs,s.D.pend++P⟩ keep t a).secs.length=logs+count:=(DD.crash_len hok keep t a).trans hlen
  have hal:=allD_length (hok.cr keep t a) (first:=0) logs (by omega)
  generalize hDc:DD.crash ⟨s.D.secs,s.D.pend++P⟩ keep t a=Dc at *
  obtain ⟨ds,e1,e2,e3,e4⟩:=scan_back (logs*256+1) 0 0 (allD Dc 0 logs) (Nat.zero_le _)
  rw [List.drop_zero] at e3
  rw [Nat.zero_add] at e2 e4
  have hall:=all_text d3 (hfit k1)
  have hsc:=scan_text ((h1.es.take k1).map Zj) (logs*256-(Zr 0 0 ((h1.es.take k1).map Zj)).length) (logs*256+1) (by have:=hfit k1;have:=length_logB_le 0 0 ((h1.es.take k1).map Zj);omega) (hokD k1)
  rw [←hall] at hsc
  refine ⟨_,_,_,_,_,_,e2,hsc,fun q1 q2=>?_⟩
  rw [e3,hall,List.take_left' rfl] at q2
  have hds:=logB_begin (hokD k1) e1 q2.symm
  have hdl:ds.length≤k1:=by
    have:=congrArg List.length hds
    rw [List.length_take,List.length_map,List.length_take] at this
    omega
  rw [←List.map_take,List.take_take,Nat.min_eq_left hdl] at hds
  have hkd:=scan_least (ds:=(h.es.take k).map Zj) (es:=ds) hcr (by rw [←hpre];exact hokD k) (by rw [List.length_map,List.length_take];have:=hfit k;rw [hpre] at this;have:=length_logB_le 0 0 ((h.es.take k).map Zj);rw [List.length_map,List.length_take] at this;omega) (f:=logs*256+1) e2.symm
  rw [List.length_map,List.length_take] at hkd
  refine ⟨ds.length,by conv=>lhs;rw [hds],by omega,?_⟩
  rcases Nat.lt_or_ge h.es.length ds.length with q | q
  · right
    have hk1:ds.length=h1.es.length∧k1=h1.es.length:=by
      rcases he with ⟨rfl,_⟩ | ⟨e,_,e2⟩
      · omega
      · have:h1.es.length=h.es.length+1:=by rw [e2];simp
        omega
    exact restart_sure i'.r (by omega) (fun j e hj hx=>d4 j e (by omega) hx)
  · left
    rcases he with ⟨rfl,_⟩ | ⟨e,_,e2⟩
    · exact restart_sure i.r q (fun j e hj hx=>c3 j e (by omega) hx)
    · have e5:Zs h1 ds.length=Zs h ds.length:=by
        have hp1:=i.pages
        have hp2:=i'.pages
        have hr1:=i.room
        have hr2:=i'.room
        unfold Zs
        rw [hp1,hp2,hr1,hr2,e2,List.take_append_of_le_length q]
      rw [e5]
      exact restart_sure i.r q (fun j e hj hx=>c3 j e (by omega) hx)
open Go.RowKit
section
variable {P : Program} {B:Wn} {n:Nat} {S l r:List Wp} {f:Fr} {K:Value→List Wp→Prop} {Φ:Post}
variable {d : Option Tmp} {ty:TypeId} {pos:String} {af:Array Edge} {gd:Option (Nat×Bool)}
def byteE (P:Program) (t e:TypeId):Bool:=(match P.underlying t with | some (.slice e')=>e' == e | _=>false) && isInt P e .u8
theorem byteE_spec {t e:TypeId} (h:byteE P t e=true):P.underlying t=some (.slice e)∧P.underlying e=some (.int .u8):=by
  unfold byteE at h
  rw [Bool.and_eq_true] at h
  obtain ⟨h1,h2⟩:=h
  constructor
  · split at h1
    · rename_i e' he;rw [he,beq_iff_eq.1 h1]
    · cases h1
  · unfold isInt at h2
    split at h2
    · rename_i k hk;simp at h2;subst h2;exact hk
    · cases h2
theorem Ef.bytes {s t e:TypeId} {x:Operand} {a:List UInt8} (hs:isStr P s=true) (ht:byteE P t e=true) (hx:ev n f x=some (.string (Zq a)))
    (h : ∀ g Z,K (.slice (some ⟨g,0,none⟩) a.length (a.length+Z.length)) (fblk g (Zb a++Z) e ((Zb a++Z).length,(Zb a++Z).length+1)::l)):Ef P B n ⟨d,.convert s t x,ty,pos,af,gd⟩ f l K:=⟨fun w next Q ho hk=>by
  obtain ⟨h1,h2⟩:=byteE_spec ht
  have hr:=Go.Lib.run_convert_string_bytes w s t e (Zq a) (isStr_spec hs) h1 h2
  have hsz:(Zq a).size=a.length:=size_strOf a
  have hge:=grownCap_ge w (Zq a).size 0 e
  obtain ⟨Z,hZ⟩ : ∃ Z:List Value,List.replicate (grownCap w (Zq a).size 0 e-(Zq a).size) (.int .u8 0)=Z:=⟨_,rfl⟩
  have hZl:Z.length=grownCap w (Zq a).size 0 e-(Zq a).size:=by rw [←hZ];simp
  have hc:Go.Lib.bytesCells w e (Zq a)=(Zb a++Z).toArray:=by
    unfold Go.Lib.bytesCells
    apply Array.ext'
    rw [Array.toList_append,Array.toList_replicate,hZ]
    simp [Zb,Zq]
  have hcs:(Go.Lib.bytesCells w e (Zq a)).size=(Zb a++Z).length:=by rw [hc];simp
  unfold Oper.wp execOp
  simp only [Wk,Zc hx,Sem.run_bind,hr,Sem.run_pure,Result.andThen_ok]
  have hcap:grownCap w (Zq a).size 0 e=a.length+Z.length:=by omega
  rw [hcap,hsz]
  have hn:=Go.Lib.bytesWorld_at_new w e (Zq a)
  have ho':=Go.Lib.bytesWorld_at_old w e (Zq a)
  have hsize:=Go.Lib.bytesWorld_size w e (Zq a)
  refine hk _ _ _ (h w.heap.size Z) (ho.fresh ⟨?_,?_,?_,by omega,fun k hk' _=>ho' k hk'⟩ (fun p hp=>?_))
  · rfl
  · rfl
  · rfl
  · unfold fblk
    rw [hp _ (Nat.le_refl _),hn,hcs,hc]⟩
end
open Go.RowKit
theorem T.openHp {P:Program} {B:Wn} {m:Nat} {c:Code} {Φ:Post} {f:Fr} {g b logs count n K:Nat} {h:HR} {l:List Wp}
  (hh : ∀ x:HpX,HInv logs count n K x.s x.st h→(0<h.cm.length → ∃ g,x.pc=some ⟨g,0,none⟩)→T P B m c Φ f (hpC g b logs count n x h++l)):T P B m c Φ f (hpA g b logs count n K h::l):=⟨fun Q w hf ho=>by
 obtain ⟨x,hi,ho'⟩:=Own.openHp (l:=l) ho
 have ho2:=ho'
 simp only [List.cons_append,List.nil_append] at ho2
 exact (hh x hi (ho2.slice_at (p:=x.pc) (m:=h.cm.length) (c:=x.cc)).2.1).run Q w hf ho'⟩
theorem cm_two (h:HR) (t s:Int):((Zl h t s).2≠0∧(Zl h t s).1=h)∨((Zl h t s).2=0∧(Zl h t s).1=Zg (Zo h t) (cmE t s)):=by
  unfold Zl
  split
  · split
    · exact .inl ⟨by simp,rfl⟩
    · split
      · exact .inl ⟨by simp,rfl⟩
      · exact .inr ⟨rfl,rfl⟩
  · exact .inl ⟨by simp,rfl⟩
theorem cm_flight (h:HR) (logs:Nat) (s:Pl) (D':DD) (t st:Int) (hD:D'=cmDisk logs h s t st):(Zl h t st).1=h∧D'=s.D ∨ ∃ e,e.kind=3∧(Zl h t st).1.es=h.es++[e]:=by
  rcases cm_two h t st with ⟨e1,e2⟩ | ⟨e1,e2⟩
  · left
    refine ⟨e2,?_⟩
    rw [hD]
    unfold cmDisk
    rw [if_neg e1]
  · right
    exact ⟨cmE t st,rfl,by rw [e2];rfl⟩
theorem PlayI.commit {h:HR} {c rm m:Nat} (p:PlayI h c rm m) (hm:m<2^31) (hc:c≤4096) (t s:Int):PlayI (Zl h t s).1 c rm (m+1):=by
 have:=p.step hm hc ⟨3,t,0,0,[],s,[],0,0⟩
 unfold stepR at this
 simpa using this
theorem sure_len {h:HR} {m:Nat} (k:HrK h m):(sureR h).length≤14*h.pages:=all_len (sureK k).r.ok
theorem fblk_bytes {d:List UInt8} {g:Nat} {Z:List Value} {t:TypeId} {fr:Nat×Nat} : ∀ h,fblk g (Zb d++Z) t fr h → ∃ C t fr,h g=some (.cells C t fr) ∧ ∀ j v,(Zb d)[j]? = some v→C[0+j]? = some v:=fun h H=>⟨_,_,_,H,fun j v hj=>by
 rw [Nat.zero_add,List.getElem?_toArray,List.getElem?_append_left (List.getElem?_eq_some_iff.1 hj).1];exact hj⟩
abbrev opA (o:OpH) (da:Option Addr) (dc:Nat) (ka:Option Addr) (kc:Nat):Value := .agg #[.int .i64 o.kind,.int .i64 o.txn,.int .i64 o.page,.int .i64 o.slot,.slice da o.data.length dc,.int .i64 o.stamp,.slice ka o.keep.length kc,.int .i64 o.t0,.int .i64 o.t1]
theorem Hl.flight (B:Wn) (sv:Value) (sc:List OpH) (hsv:RoLH B sv sc) (hsl:sc.length≤1048576) (hdl : ∀ x∈sc,x.data.length≤1048576) (hok : ∀ x∈sc,x.Ok) (o:OpH) (oa:Option Addr) (oc:Nat) (pa:Option Addr) (pc:Nat) (hpv:RoS B (.slice pa o.keep.length pc) (boolsV o.keep)) :
  Fn Tryz.prog B 5 #[sv,opA o oa oc pa pc] [] (fun v l=>v = .bool true∧l=[]):=by
 obtain ⟨sa,scap,rfl,hsc⟩:=hsv
 refine Wr 147 Tryz.func5 rfl rfl (nB rfl) (fun F=>?_)
 try simp only [cA,nA]
 refine TS ?_
 refine Le rfl (zL [_,_,_,_,_,_,_,_,_] rfl rfl ?_)
 intro g3
 refine La rfl rfl (Ld (Ts (TS ?_)))
 refine Le rfl (Ec (Hp.awake B) Tryz.func19 rfl rfl rfl ?_)
 rintro _ _ ⟨rfl,rfl⟩
 try simp only [cA,nA]
 refine Lq rfl (Y2 rfl) (Ld (yQ rfl (Tk (TS ?_))))
 refine Le rfl (Ec (Hp.opened B 16 9 7 2 16 9 2 rfl rfl rfl (by omega) (by omega) rfl (by omega) (by omega) (by omega)) Tryz.func20 rfl rfl rfl ?_)
 rintro _ _ ⟨b,g,rfl,rfl⟩
 try simp only [cA,nA]
 refine Lm rfl rfl (Lq rfl (Qx rfl rfl) (Lq rfl (Qx rfl rfl) (Lq rfl (Qx rfl rfl) (La rfl rfl (La rfl rfl (La rfl rfl (Ld ?_)))))))
 refine Ts (TS (Lm rfl rfl (Lq rfl (Y1 (by kernel_rfl) rfl rfl) (Lm rfl rfl (yT (t:=33) rfl rfl (Lm rfl rfl ?_))))))
 refine Lq rfl (Y1 (by kernel_rfl) rfl rfl) (Lq rfl (Qp rfl rfl) (Lm rfl rfl (yT (t:=37) rfl rfl (Lm rfl rfl (Lq rfl (yW rfl rfl) (Lq rfl (Qp rfl rfl) (Ld ?_)))))))
 refine yQ rfl (Tk (TS ?_))
 refine Le rfl (Ec (Hr.new B 16 9 16 9 rfl rfl (by omega) (by omega)) Tryz.func21 rfl rfl rfl ?_)
 rintro _ _ ⟨q0,rfl,rfl⟩
 try simp only [cA,nA]
 rw [show 16-9=7 from rfl]
 refine Le rfl (El [.int .i64 0,.int .i64 0,.int .i64 0,.slice none 0 0,.slice none 0 0,.slice none 0 0,.int .i64 0,.slice none 0 0] (by unfold Zf;kernel_rfl) ?_)
 intro g8
 refine L0 rfl (Es [_,_,_,_,_,_,_,_] (by kernel_rfl) rfl rfl rfl rfl (by simp) ?_)
 try simp only [splice,lC,lN,dS,cA,tS,tZ,dZ,nA,aN]
 refine Ld (TS (La rfl rfl (Ld (Ts (TS ?_)))))
 refine Lm rfl rfl (Lq rfl (yI (e:=85) (sz:=9) (by kernel_rfl) rfl) (Lm rfl rfl (Ld (yH ?_))))
 have hP0:PlayI (newR 7 (9*256)) 7 (9*256) 0:=⟨RInv.newR 7 (9*256),⟨Nat.le_refl _,Nat.le_refl _,Nat.le_refl _,Nat.le_refl _⟩,rfl,rfl,Int.le_refl _⟩
 refine zG (fun mz fz lz => ∃ (f0:Fr) (k K:Nat) (h:HR) (q:HrQ),(k≤sc.length∧K≤7+9*k∧PlayI h 7 (9*256) k)∧mz=sc.length-k∧fz=(upd (upd (upd (upd (upd (upd (upd (upd (upd f0 3 (.pointer (some ⟨g3,0,none⟩))) 5 (pV b)) 6 (pV g)) 7 (.int .i64 0)) 8 (.pointer (some ⟨g8,0,none⟩))) 9 (.bool true)) 42 (.slice sa sc.length scap)) 43 (.int .i64 sc.length)) 44 (.int .i64 k))∧lz=hpA g b 9 7 2 K h::blk g8 (hrC q h) 81::hrL q h++(blk g3 (opC o oa oc pa pc) 85::F)) ?_ ?_
 · refine ⟨_,_,⟨_,0,7,newR 7 (9*256),q0,⟨Nat.zero_le _,Nat.le_refl _,hP0⟩,rfl,(Za rfl (Za rfl (Za rfl (Za rfl (Za rfl (Za rfl (Za rfl (Za rfl (Za rfl rfl))))))))),rfl⟩,Sa⟩
 rintro mz fz lz ⟨f0,k,K,h,q,⟨hk,hK,hP⟩,hmz,rfl,rfl⟩
 subst mz
 try simp only [cA,nA]
 have hHk:=hP.k (by omega) (by omega) (by omega)
 have hcm:=hP.s.c
 refine TS (Lq rfl (yM rfl rfl) (Ld (Ts ?_)))
 refine yN rfl (fun hlt=>?_) (fun hlt=>?_)
 ·
  obtain ⟨kb,ko,C,rfl,hro,hC⟩:=hsc.resolve_left (by intro e;rw [e] at hlt;simp at hlt;omega)
  obtain ⟨da,dc,ka,kc,hrd,hdv,hkv⟩:=hC k (by omega)
  have hxl:=hdl sc[k] (List.getElem_mem _)
  have hxo:=hok sc[k] (List.getElem_mem _)
  have hP2:=hP.step (by omega) (by omega) sc[k]
  refine Tk (Ts (yH (TS (Lq rfl (Qi _ (e:=85) (sz:=9) (by kernel_rfl) rfl rfl rfl (by omega)) (Lq rfl (QL [_,_,_,_,_,_,_,_,_] (by kernel_rfl) rfl hrd) ?_)))))
  refine Le rfl (El [.int .i64 0,.int .i64 0,.int .i64 0,.int .i64 0,.slice none 0 0,.int .i64 0,.slice none 0 0,.int .i64 0,.int .i64 0] (by unfold Zf;kernel_rfl) ?_)
  intro g11
  refine L0 rfl (Es [_,_,_,_,_,_,_,_,_] (by kernel_rfl) rfl rfl rfl rfl (by simp) ?_)
  try simp only [splice,lC,lN,dS,cA,tS,tZ,dZ,nA,aN]
  refine Ld (Ts (TS (Lq rfl (Q0 (by kernel_rfl) rfl) (Lq rfl (Ql (by kernel_rfl) rfl rfl) (Lq rfl (yU rfl rfl) (Ld ?_))))))
  refine yN rfl (fun hne=>?_) (fun hne=>?_)
  ·
   refine zB (TR (Lq rfl (Qd rfl rfl (Ze (by omega) (by omega))) (Lm rfl rfl (Ld ?_))))
   refine ⟨_,?_,_,⟨_,k+1,K,h,q,⟨by omega,by omega,⟨hP.r,hP.s.mono (by omega),hP.pages,hP.room,by have:=hP.last;omega⟩⟩,rfl,(Za rfl (Za rfl (Za rfl (Za rfl (Za rfl (Za rfl (Za rfl (Za rfl (Za rfl rfl))))))))),rfl⟩,Sa⟩
   omega
  refine Tk (TS (Lm rfl rfl (Lq rfl (QL [_,_,_,_,_,_,_,_] (by kernel_rfl) rfl ⟨rfl,rfl,rfl,rfl,rfl,rfl,rfl,rfl,trivial⟩) (Lq rfl (QL [_,_,_,_,_,_,_,_,_] (by kernel_rfl) rfl ⟨rfl,rfl,rfl,rfl,rfl,rfl,rfl,rfl,rfl,trivial⟩) ?_))))
  refine Le rfl (Ec (Hp.step B g b 9 7 2 K q h k (9*256) hP (by omega) (by omega) (by omega) (by omega) sc[k] hxo da dc ka kc hdv hxl) Tryz.func22 rfl rfl rfl ?_)
  rintro _ _ ⟨q1,K1,hK1,rfl,rfl⟩
  try simp only [cA,nA]
  refine Lm rfl rfl (Lq rfl (Qx rfl rfl) (Lq rfl (Qx rfl rfl) ?_))
  refine L0 rfl (Es [_,_,_,_,_,_,_,_] (by kernel_rfl) rfl rfl rfl rfl (by simp) ?_)
  try simp only [splice,lC,lN,dS,cA,tS,tZ,dZ,nA,aN]
  refine La rfl rfl (Ld (TS (Lm rfl rfl (Lq rfl (Y2 rfl) (Ld (yQ rfl ?_))))))
  refine Tk (TR (Lq rfl (Qd rfl rfl (Ze (by omega) (by omega))) (Lm rfl rfl (Ld ?_))))
  refine ⟨_,?_,_,⟨_,k+1,K1,stepR h sc[k],q1,⟨by omega,by omega,hP2⟩,rfl,(Za rfl (Za rfl (Za rfl (Za rfl (Za rfl (Za rfl (Za rfl (Za rfl (Za rfl rfl))))))))),rfl⟩,Sa⟩
  omega
 clear hlt
 refine T.openHp fun x hi hp=>?_
 simp only [hpC,List.cons_append,List.nil_append]
 have hP1:=hP.commit (by omega) (by omega) o.txn o.stamp
 have hH1:=hP1.k (by omega) (by omega) (by omega)
 have hso:=hi.s.inv.ok
 have hsl:=hi.s.len
 have hspe:=hi.s.inv.pend
 have hsb:=sure_len hHk
 have hpg:=hP.pages
 have hpg1:=hP1.pages
 have hsb1:=sure_len hH1
 refine zB (TS (Lq rfl (QL [_,_,_,_,_,_,_,_] (by kernel_rfl) rfl ⟨rfl,rfl,rfl,rfl,rfl,rfl,rfl,rfl,trivial⟩) ?_))
 refine Le rfl (Ec (Hr.sure B q h k hHk) Tryz.func26 rfl rfl rfl ?_)
 rintro _ _ ⟨ps,cs,rfl,rfl⟩
 try simp only [cA,nA]
 refine La rfl rfl (Ld (TS (Lq rfl (QL [_,_,_,_,_,_,_,_] (by kernel_rfl) rfl ⟨rfl,rfl,rfl,rfl,rfl,rfl,rfl,rfl,trivial⟩) (Lq rfl (Qf (off:=1) (by kernel_rfl) rfl) (Lq rfl (Ql (by kernel_rfl) rfl rfl) (Lq rfl (Qf (off:=5) (by kernel_rfl) rfl) ?_))))))
 refine Lq rfl (Ql (by kernel_rfl) rfl rfl) ?_
 refine Le rfl (Ec (Hr.commit B q h k hHk o.txn o.stamp) Tryz.func31 rfl rfl rfl ?_)
 rintro _ _ ⟨q1,rfl,rfl⟩
 try simp only [cA,nA]
 refine Lm rfl rfl (Lq rfl (Qx rfl rfl) (Lq rfl (Qx rfl rfl) ?_))
 refine Le rfl (El [.int .i64 0,.int .i64 0,.int .i64 0,.slice none 0 0,.slice none 0 0,.slice none 0 0,.int .i64 0,.slice none 0 0] (by unfold Zf;kernel_rfl) ?_)
 intro g13
 refine L0 rfl (Es [_,_,_,_,_,_,_,_] (by kernel_rfl) rfl rfl rfl rfl (by simp) ?_)
 try simp only [splice,lC,lN,dS,cA,tS,tZ,dZ,nA,aN]
 refine La rfl rfl (Ld (TS (Lq rfl (QL [_,_,_,_,_,_,_,_] (by kernel_rfl) rfl ⟨rfl,rfl,rfl,rfl,rfl,rfl,rfl,rfl,trivial⟩) ?_)))
 refine Le rfl (Ec (Hr.sure B q1 (Zl h o.txn o.stamp).1 (k+1) hH1) Tryz.func26 rfl rfl rfl ?_)
 rintro _ _ ⟨pb,cb,rfl,rfl⟩
 try simp only [cA,nA]
 refine La rfl rfl (Ld (TS (Lm rfl rfl ?_)))
 refine Le rfl (Ec (Dk.forkF B b x.s.D (by omega)) Tryz.func14 rfl rfl rfl ?_)
 rintro _ _ ⟨bf,rfl,rfl⟩
 try simp only [cA,nA]
 refine La rfl rfl (Ld (Ts (TS (Lm rfl rfl (Lq rfl (Y1 (by kernel_rfl) rfl rfl) (Ld ?_))))))
 refine yQ rfl (Tk (TS (Lm rfl rfl (Lq rfl (Qf (off:=1) (by kernel_rfl) rfl) (Lq rfl (Ql (by kernel_rfl) rfl rfl) (Lq rfl (Qf (off:=5) (by kernel_rfl) rfl) ?_))))))
 refine Lq rfl (Ql (by kernel_rfl) rfl rfl) ?_
 refine Le rfl (Ec (Hp.commitX B g b 9 7 2 K h (by omega) o.txn o.stamp x hi hp (by omega)) Tryz.func11 rfl rfl rfl ?_)
 rintro _ _ ⟨x1,hi1,hD1,rfl,rfl⟩
 try simp only [cA,nA]
 have hfl:=cm_flight h 9 x.s x1.s.D o.txn o.stamp hD1
 have h1o:=hi1.s.inv.ok
 have h1l:=hi1.s.len
 have h1p:=hi1.s.inv.pend
 obtain ⟨D1,hDe⟩ : ∃ D1,x1.s.D=D1:=⟨_,rfl⟩
 rw [hDe] at hfl h1o h1l h1p
 rw [hDe]
 obtain ⟨h1,hh1⟩ : ∃ h1,(Zl h o.txn o.stamp).1=h1:=⟨_,rfl⟩
 rw [hh1] at hfl hi1 hP1 hH1 hpg1 hsb1
 rw [hh1]
 refine Ld (TS (Lm rfl rfl ?_))
 refine Le rfl (Ec (Hl.image B b D1 16 (by omega) h1o (by omega)) Tryz.func23 rfl rfl rfl ?_)
 rintro _ _ ⟨pw,aw,rfl,rfl⟩
 try simp only [cA,nA]
 refine LW.own fun w ho=>?_
 obtain ⟨gw,rfl⟩ : ∃ g,pw=some ⟨g,0,none⟩:=(ho.slice_at (p:=pw) (m:=16) (c:=aw)).2.1 (by omega)
 clear ho
 refine La rfl rfl (Ld (Ts (TS (La rfl rfl (Ld (yH ?_))))))
 refine zG (fun mz fz lz => ∃ (f0:Fr) (i m:Nat) (P Q:List (Nat×List UInt8)),(i≤16∧m=P.length∧m≤i∧DD.Ok ⟨x.s.D.secs,Q⟩∧(∀ y∈P,y.2=D1.read y.1)∧Q=x.s.D.pend++P)∧mz=16-i∧fz=(upd (upd (upd (upd (upd (upd f0 3 (.pointer (some ⟨g3,0,none⟩))) 12 (.slice ps (sureR h).length cs)) 15 (.slice pb (sureR h1).length cb)) 16 (pV bf)) 17 (.slice (some ⟨gw,0,none⟩) 16 aw)) 18 (.int .i64 i))∧lz=Zn bf ⟨x.s.D.secs,Q⟩::rS (.slice (some ⟨gw,0,none⟩) 16 aw) 16 (secsD D1 16)::verR ps (sureR h).length cs (sureR h)::verR pb (sureR h1).length cb (sureR h1)::blk g3 (opC o oa oc pa pc) 85::F) ?_ ?_
 · refine ⟨_,_,⟨_,0,0,[],x.s.D.pend,⟨Nat.zero_le _,rfl,Nat.le_refl _,hso,by simp,by simp⟩,rfl,(Za rfl (Za rfl (Za rfl (Za rfl (Za rfl (Za rfl rfl)))))),rfl⟩,Sa⟩
 rintro mz fz lz ⟨f0,i,m,P,Q,⟨hi0,hm,hmi,ho2,hP3,hQ⟩,hmz,rfl,rfl⟩
 subst mz
 have hpl:Q.length<2^32:=by rw [hQ,List.length_append];omega
 have hsl16:x.s.D.secs.length=16:=by omega
 refine Ts (TS (Lm rfl rfl (Lq rfl (yM rfl rfl) (Ld ?_))))
 refine yN rfl (fun hlt=>?_) (fun hlt=>?_)
 ·
  have hra:(DD.read ⟨x.s.D.secs,Q⟩ i).length=256:=ho2.rd i (by show i<x.s.D.secs.length;omega)
  have hrb:(D1.read i).length=256:=h1o.rd i (by omega)
  have hwi:=secsD_at (D:=D1) (N:=16) (k:=i) (by omega)
  refine Tk (Ts (yH (TS (Lm rfl rfl (Lm rfl rfl ?_)))))
  refine Le rfl (Ec (Dk.readF B bf ⟨x.s.D.secs,Q⟩ i i rfl (by show i<x.s.D.secs.length;omega) (by show Q.length<_;omega)) Tryz.func32 rfl rfl rfl ?_)
  rintro _ _ ⟨g5,c5,rfl,rfl⟩
  try simp only [cA,nA]
  refine Lm rfl rfl (Lq rfl (Qx rfl rfl) (Lq rfl (Qx rfl rfl) (La rfl rfl (La rfl rfl (Ld (Ts (zU 7 (by kernel_rfl) (nB rfl) (by kernel_rfl) ?_)))))))
  refine Rq 0 rfl rfl (by kernel_rfl) (Sr _) (Qm rfl) (Rq 1 rfl rfl (by kernel_rfl) (Sr _) (Z2 (DD.read ⟨x.s.D.secs,Q⟩ i) (by kernel_rfl) (by kernel_rfl) rfl (fun w ho=>(RdV.rB (p:=some ⟨g5,0,none⟩) (c:=c5) hra (fun _=>⟨_,rfl⟩)).reads w (ho.map Sa))) (Rq 2 rfl rfl (by kernel_rfl) (Sr _) (Qm rfl) (Rq 3 rfl rfl (by kernel_rfl) (Sr _) (Qm rfl) (Rq 4 rfl rfl (by kernel_rfl) (Sr _) (Qi _ (e:=9) (sz:=1) (by kernel_rfl) rfl rfl rfl (by omega)) (Rq 5 rfl rfl (by kernel_rfl) (Sr _) (Ql (v:=strW (D1.read i)) (by kernel_rfl) rfl (by simp [hwi])) (Rq 6 rfl rfl (by kernel_rfl) (Sr _) (Qt.neqS rfl rfl) (Rd0 (by rfl) ?_)))))))
  simp only [dS,dZ,dN]
  refine Ld ?_
  refine yN rfl (fun hne=>?_) (fun hne=>?_)
  ·
   refine TR (Lm rfl rfl (Lm rfl rfl (Lm rfl rfl (Lm rfl rfl (Lq rfl (Qi _ (e:=9) (sz:=1) (by kernel_rfl) rfl rfl rfl (by omega)) (Lq rfl (Ql (v:=strW (D1.read i)) (by kernel_rfl) rfl (by simp [hwi])) ?_))))))
   refine Le rfl (Ef.bytes (e:=5) (a:=D1.read i) (by kernel_rfl) (by kernel_rfl) rfl ?_)
   rintro gz Z
   rw [hrb]
   refine Le rfl (Ec (Dk.writeF B bf ⟨x.s.D.secs,Q⟩ (fblk gz (Zb (D1.read i)++Z) 5 ((Zb (D1.read i)++Z).length,(Zb (D1.read i)++Z).length+1)) gz 0 (256+Z.length) i i rfl (D1.read i) fblk_bytes (by show i<x.s.D.secs.length;omega) hrb (by show Q.length<_;omega)) Tryz.func33 rfl rfl rfl ?_)
   rintro _ _ ⟨rfl,rfl⟩
   try simp only [cA,nA]
   rw [show DD.write ⟨x.s.D.secs,Q⟩ i (D1.read i)=⟨x.s.D.secs,Q++[(i,D1.read i)]⟩ from rfl]
   refine Ld (TR (Lm rfl rfl (Lq rfl (Qd rfl rfl (Ze (by omega) (by omega))) (La rfl rfl (Ld ?_)))))
   refine ⟨_,?_,_,⟨_,i+1,m+1,P++[(i,D1.read i)],Q++[(i,D1.read i)],⟨by omega,by simp;omega,by omega,ho2.wr2 i (D1.read i) (by show i<x.s.D.secs.length;omega) hrb,(by intro x hx;rcases List.mem_append.1 hx with hx | hx;exact hP3 x hx;simp at hx;subst hx;rfl),by rw [hQ,List.append_assoc]⟩,rfl,(Za rfl (Za rfl (Za rfl (Za rfl (Za rfl (Za rfl rfl)))))),rfl⟩,Sa⟩
   omega
  refine Tk (TR (Lm rfl rfl (Lq rfl (Qd rfl rfl (Ze (by omega) (by omega))) (La rfl rfl (Ld ?_)))))
  refine ⟨_,?_,_,⟨_,i+1,m,P,Q,⟨by omega,hm,by omega,ho2,hP3,hQ⟩,rfl,(Za rfl (Za rfl (Za rfl (Za rfl (Za rfl (Za rfl rfl)))))),rfl⟩,Sa⟩
  omega
 clear hlt
 subst hQ
 obtain ⟨s1,R1,k2,s2,R2,kc,f1,f2,f3⟩:=hi.flight hi1 (by rw [hDe];exact hfl) P (by rw [hDe];exact hP3) ho2 o.keep o.t0 o.t1
 rw [hDe] at f2 f3
 have hco:=ho2.cr o.keep o.t0 o.t1
 have hcl:=(DD.crash_len ho2 o.keep o.t0 o.t1).trans hsl16
 have hcp:(DD.crash ⟨x.s.D.secs,x.s.D.pend++P⟩ o.keep o.t0 o.t1).pend=[]:=rfl
 refine zB (TS (Lm rfl rfl (Lq rfl (Qf (off:=6) (by kernel_rfl) rfl) (Lq rfl (Ql (by kernel_rfl) rfl rfl) (Lq rfl (Qf (off:=7) (by kernel_rfl) rfl) (Lq rfl (YA 0 (len:=2) (e:=3) (sz:=1) (by kernel_rfl) rfl rfl rfl (by omega)) ?_))))))
 refine Lq rfl (Ql (by kernel_rfl) rfl rfl) (Lq rfl (Qf (off:=7) (by kernel_rfl) rfl) (Lq rfl (YA 1 (len:=2) (e:=3) (sz:=1) (by kernel_rfl) rfl rfl rfl (by omega)) (Lq rfl (Ql (by kernel_rfl) rfl rfl) ?_)))
 refine Le rfl (Ec (Dk.crashF B bf ⟨x.s.D.secs,x.s.D.pend++P⟩ (.slice pa o.keep.length pc) o.keep o.t0 o.t1 hpv (by show (x.s.D.pend++P).length<_;omega)) Tryz.func13 rfl rfl rfl ?_)
 rintro _ _ ⟨rfl,rfl⟩
 try simp only [cA,nA]
 obtain ⟨Dc,hDc⟩ : ∃ Dc,DD.crash ⟨x.s.D.secs,x.s.D.pend++P⟩ o.keep o.t0 o.t1=Dc:=⟨_,rfl⟩
 rw [hDc] at f1 f3 hco hcl hcp
 rw [hDc]
 refine Ld (Ts (TS (Lm rfl rfl (Lm rfl rfl ?_))))
 refine Le rfl (Ec (Hl.image B bf Dc 16 hcl hco (by rw [hcp];simp)) Tryz.func23 rfl rfl rfl ?_)
 rintro _ _ ⟨pn,an,rfl,rfl⟩
 try simp only [cA,nA]
 refine Le rfl (Ec (Hl.mixed B Dc D1 16 9 hcl (by omega) hco h1o (by omega) (by omega) 9 rfl pn (some ⟨gw,0,none⟩) an aw) Tryz.func24 rfl rfl rfl ?_)
 rintro _ _ ⟨⟨bb,_,_,_,_,_,_,rfl,m1,m2,m3⟩,rfl⟩
 try simp only [cA,nA]
 by_cases hbb:bb=true
 ·
  subst hbb
  refine Ld (zF rfl (TS (La rfl rfl (Ld (T.ret ?_)))))
  exact ⟨.inl rfl,_,_,res [_] rfl ⟨rvT rfl,trivial⟩,⟨rfl,rfl⟩,Sa⟩
 obtain rfl:bb=false:=by simpa using hbb
 refine Ld (yQ rfl ?_)
 rw [f1] at m1
 rw [f2] at m2
 injection m1 with e1 e2
 injection m2 with e3 e4
 subst e1 e3
 obtain ⟨m4,m5⟩:=m3 rfl
 obtain ⟨j,j1,j2,j3⟩:=f3 m4 m5
 have hlE:=lastE_mono hP1.r j
 have hla:=hP1.last
 have hPr:=hP1.restart j
 have hcm1:=hP1.s.c
 have hes1:=hP1.s.e
 have htl:(h1.es.take j).length≤k+1:=by rw [List.length_take];omega
 have hlr:=all_len hPr.r.ok
 have hpr:=hPr.pages
 have hhist:HistOk 7 (9*256) (h1.es.take j):=by have:=hP1.r.hist;rw [hpg1,hP1.room] at this;exact this.take j
 refine Tk (TS (Lm rfl rfl ?_))
 refine Le rfl (Ec (Hp.open B bf Dc 9 7 2 (k+1) 9 2 rfl rfl (h1.es.take j) (by omega) (by omega) hcl (by omega) (by omega) (by rw [hcp];simp) hhist ⟨_,_,by rw [f1,j1]⟩ (by omega) (by omega)) Tryz.func7 rfl rfl rfl ?_)
 rintro _ _ ⟨g2,p1,p2,p3,c1,c2,c3,rfl,rfl⟩
 try simp only [cA,nA]
 rw [reopen_restart hP1 j]
 refine Lm rfl rfl (Lq rfl (Qx rfl rfl) (Lq rfl (Qx rfl rfl) (Lq rfl (Qx rfl rfl) ?_)))
 refine Le rfl (El [.slice none 0 0,.slice none 0 0,.slice none 0 0,.int .i64 0] (by unfold Zf;kernel_rfl) ?_)
 intro g22
 refine La rfl rfl ?_
 refine L0 rfl (Es [_,_,_,_] (by kernel_rfl) rfl rfl rfl rfl (by simp) ?_)
 try simp only [splice,lC,lN,dS,cA,tS,tZ,dZ,nA,aN]
 refine La rfl rfl (Ld (Ts (TS (Lm rfl rfl (Lq rfl (Y1 (by kernel_rfl) rfl rfl) (Lm rfl rfl ?_))))))
 refine yT (t:=133) rfl rfl (Lm rfl rfl (Lq rfl (yW rfl rfl) (Lq rfl (Qp rfl rfl) (Ld (yQ rfl (Tk (Ts ?_)))))))
 refine TR (Lm rfl rfl ?_)
 refine Le rfl (Ec (Hp.all B g2 bf 9 7 2 (k+1+7+(h1.es.take j).length) (Zs h1 j) (by omega)) Tryz.func18 rfl rfl rfl ?_)
 rintro _ _ ⟨L,pl,cl,hL1,hL2,rfl,rfl⟩
 try simp only [cA,nA]
 have hLl:L.length=(allR (Zs h1 j)).length:=by rw [←hL2,List.length_map]
 have hLd : ∀ x∈L,x.v.data.length<2^32:=fun x hx=>by have:=all_data hPr.r (x:=x.v) (by rw [←hL2];exact List.mem_map_of_mem hx);omega
 have hL3:L.length<2^32:=by rw [hLl];omega
 refine La rfl rfl (Ld (TS (Lm rfl rfl (Lm rfl rfl ?_))))
 refine Le rfl (Ec (Hp.versions B L (sureR h) pl ps cl cs hL1 hL3 hLd) Tryz.func28 rfl rfl rfl ?_)
 rintro _ _ ⟨rfl,rfl⟩
 try simp only [cA,nA]
 rw [hL2]
 refine Lm rfl rfl ?_
 by_cases heq:allR (Zs h1 j)=sureR h
 ·
  refine zQ (t:=142) rfl (decide_eq_true (by omega)) (Ls rfl (Ls rfl (Ls rfl (Lq rfl (Qp rfl rfl) (La rfl rfl (Ld (T.ret ?_)))))))
  exact ⟨.inl rfl,_,_,res [_] rfl ⟨rvT rfl,trivial⟩,⟨rfl,rfl⟩,Sa⟩
 refine yT (t:=142) rfl (decide_eq_false (by omega)) (Lm rfl rfl (Lm rfl rfl ?_))
 refine Le rfl (Ec (Hp.versions B L (sureR h1) pl pb cl cb hL1 hL3 hLd) Tryz.func28 rfl rfl rfl ?_)
 rintro _ _ ⟨rfl,rfl⟩
 try simp only [cA,nA]
 rw [hL2,decide_eq_true (j3.resolve_left heq)]
 refine Lq rfl (Qp rfl rfl) (La rfl rfl (Ld (T.ret ?_)))
 exact ⟨.inl rfl,_,_,res [_] rfl ⟨rvT rfl,trivial⟩,⟨rfl,rfl⟩,Sa⟩
end Go.Proofs.YtfjjgdnepfgnhaaGreatDoor
namespace Go.Proofs.YtfjjgdnepfgnhaaGreatDoor.heapFlight
open Go.ChangeShapes Go.WideShapes Go.ChangeAt Go.RowKit
theorem contract (H:Type) (enc:TypeId×Value→H) (W:World) (base:Nat) (args:Array Value) (ds gs:List (DataW H)) (before:List MemPlace)
  (hval : ∀ (j:Nat) t v,Tryz.f5.params[j]? = some t→args[j]? = some v→Value.okWide Tryz.prog W .any base t v)
  (hW:DataW.Whole enc Tryz.prog Tryz.f5.params.toList Rows.heapFlightSpec.vars false W args.toList ds gs before) (hk:Rows.uptoSmall H (ds++gs)=true) :
  Calls Tryz.prog 5 args W fun e W' => ∃ v,e = .returned v∧Rows.heapFlightSpec.post enc Tryz.prog Tryz.f5 false true false false W args v W':=by
 have hW0:=hW
 obtain ⟨p,q,hA0,hV,rfl,hfz,hnd⟩:=hW
 have hA:DataW.TrodAll enc Tryz.prog W 0 (fun _=>true) true Tryz.f5.params.toList args.toList ds p:=hA0
 rw [Tryz.params5] at hA hval
 obtain ⟨v0,v1,d0,d1,p0,p1,rfl,rfl,rfl,h0,h1⟩:=trodAll_two hA
 obtain ⟨rfl,rfl⟩:=trodVars_none hV
 have hbulk:=Tryz.upto_bound hk
 rw [List.append_nil] at hbulk
 clear hA0 hV hk
 obtain ⟨sa0,sl0,sc0,rfl⟩:=okWide_slice Tryz.underlying73 (hval 0 73 v0 rfl rfl)
 obtain ⟨fu0,t0⟩:=h0
 obtain ⟨sv0,l0,hc0,hs0,hB0,hL0⟩:=open_slice_R (enc:=enc) (P:=Tryz.prog) (W:=W) (R:=OpHR W) (B:=fun o=>o.data.length+o.keep.length+2) Tryz.underlying73 (show Tryz.prog.cellsOf 85=9 by kernel_rfl) (by omega) (fun n cs y=>read_opH n cs y) t0
 simp only [Value.cells,List.cons.injEq,and_true] at hc0
 subst hc0
 dsimp only at hB0 hL0
 obtain ⟨oc1,rfl,_,_⟩:=(show ∃ cs,v1 = .agg cs∧cs.size=Tryz.prog.cellsOf 85∧Row.okWide Tryz.prog W .any base 85 cs by have:=hval 1 85 v1 rfl rfl;simpa only [Value.okWide,Tryz.underlying85] using this)
 obtain ⟨fu1,t1⟩:=h1
 obtain ⟨o1,⟨dv1,kv1,fd1,fk1,ho1,hRd1,hRk1,hoo1⟩,hol1⟩:=read_opH _ _ _ t1
 simp only [Value.cells] at ho1
 obtain rfl:oc1 = #[.int .i64 o1.kind,.int .i64 o1.txn,.int .i64 o1.page,.int .i64 o1.slot,dv1,.int .i64 o1.stamp,kv1,.int .i64 o1.t0,.int .i64 o1.t1]:=by apply Array.toList_inj.1;rw [ho1]
 obtain ⟨da1,dc1,ed1,_⟩:=RoS.ofReads hRd1
 obtain ⟨ka1,kc1,ek1,hk1⟩:=RoS.ofReads hRk1
 rw [Wd] at ed1
 rw [show (boolsV o1.keep).length=o1.keep.length by simp [boolsV]] at ek1
 subst ed1
 subst ek1
 rw [bulk_two] at hbulk
 have hok0:=hs0.okH
 refine (Fn.law (Hl.flight _ _ l0 hs0.roLH (by omega) (fun x hx=>by have:=opH_le hx;omega) hok0 o1 da1 dc1 ka1 kc1 ⟨ka1,kc1,by simp [boolsV],hk1⟩)).mono fun e W' ⟨he,hg⟩=>?_
 subst he
 exact ⟨_,rfl,post_law Tryz.laidOut hW0 rfl rfl 4 Tryz.underlying4 (by kernel_rfl) (by rw [Tryz.params5];decide +kernel) hg.toBelow⟩
theorem reads (os:Os) {H:Type} (enc:TypeId×Value→H) : ∃ places,DataW.whole enc Tryz.prog ((laidWorld os).forCall (fun _ _=>0) ⟨#[],#[.slice none 0 0,.agg #[.int .i64 0,.int .i64 0,.int .i64 0,.int .i64 0,.slice none 0 0,.int .i64 0,.slice none 0 0,.int .i64 0,.int .i64 0]],[]⟩).memory Tryz.f5.params.toList Rows.heapFlightSpec.vars false (#[.slice none 0 0,.agg #[.int .i64 0,.int .i64 0,.int .i64 0,.int .i64 0,.slice none 0 0,.int .i64 0,.slice none 0 0,.int .i64 0,.int .i64 0]]:Array Value).toList 8=some ([.nil,.agg [.lit (.int .i64 0),.lit (.int .i64 0),.lit (.int .i64 0),.lit (.int .i64 0),.nil,.lit (.int .i64 0),.nil,.agg [.lit (.int .i64 0),.lit (.int .i64 0)]]],[],places) :=
 ⟨[],by kernel_rfl⟩
theorem lifted (os:Os) (started:os.Started) (H:Type) (enc:TypeId×Value→H) (F:Stop.Interp) :
  ReturnsInHanded {} Tryz.checked os 5 .any ((Rows.OpenSpec.upto Rows.heapFlightSpec).preRow enc Tryz.prog Tryz.f5 Rows.heapFlightUptoRow.domain false Rows.heapFlightUptoRow.laid) (((Rows.OpenSpec.upto Rows.heapFlightSpec).at F).post enc Tryz.prog Tryz.f5 false true false false):=by
 obtain ⟨places,hx⟩:=reads os enc
 refine returnsInHanded_of_row (C:=Tryz.checked) (s:=Rows.OpenSpec.upto Rows.heapFlightSpec) Tryz.own started (by kernel_rfl) Tryz.func5
  (witness_row_at (enc:=enc) (C:=Tryz.checked) false (laidWorld os) #[.slice none 0 0,.agg #[.int .i64 0,.int .i64 0,.int .i64 0,.int .i64 0,.slice none 0 0,.int .i64 0,.slice none 0 0,.int .i64 0,.int .i64 0]] rfl (by kernel_rfl) (by kernel_rfl) (by kernel_rfl)
   (OpenSpec.preRow_of_cond 8 hx (by kernel_rfl) (fun k hk=>by cases hk;kernel_rfl) (by kernel_rfl) (laid_met os _))) ?_
 intro W base args ds gs before hval hW _ hcond _ _ _ _
 exact contract H enc W base args ds gs before hval hW (hcond _ rfl)
theorem jA : (Rows.heapFlightUptoRow.inPlace == Tryz.prog.inPlace 5)=true:=by kernel_rfl
theorem jB : (Rows.heapFlightUptoRow.unfollowed == Tryz.prog.unfollowed 5)=true:=by kernel_rfl
theorem jC : (Rows.heapFlightUptoRow.recurses == Tryz.prog.recurses 5)=true:=by kernel_rfl
theorem jD : (Rows.heapFlightUptoRow.named == Tryz.prog.varsNamed 5)=true:=by kernel_rfl
theorem jE : laidOutB Tryz.prog=true:=by kernel_rfl
theorem jF : mapsRowed Tryz.prog=true:=by kernel_rfl
theorem jG : joinedFacts Tryz.prog 5 Tryz.f5 (Rows.OpenSpec.upto Rows.heapFlightSpec).bare Rows.heapFlightUptoRow=true:=by
 unfold joinedFacts
 rw [jA,jB,jC,jD,jE,jF]
 kernel_rfl
theorem over : Rows.heapFlightUptoRow.holds Tryz.pinned (Rows.OpenSpec.upto Rows.heapFlightSpec) :=
 OpenClaim.holds_of_cond 5 Tryz.f5 rfl rfl rfl rfl rfl rfl rfl ⟨rfl,rfl,rfl,rfl,rfl⟩ rfl rfl rfl rfl rfl (by kernel_rfl) Tryz.func5 jG
  (of_decide_eq_true (by kernel_rfl)) (by unfold Func.isWrapper;first | (rw [if_pos (by decide +kernel)];kernel_rfl) | (rw [if_neg (by decide +kernel)];exact ⟨rfl,rfl⟩))
  (fun os started H enc _ F=>by rw [OpenClaim.pre_eq_preRow];exact lifted os started H enc F)
theorem plain (f:FuncId) (fn:Func) (hf:Tryz.pinned.checked.prog.funcNamed "annals/annalslaw08.HeapFlight" = some f) (hfn:Tryz.pinned.checked.prog.funcs[f]? = some fn) :
  false=Tryz.pinned.checked.prog.looks [] ∧ ∀ (j:Nat) t,fn.params[j]? = some t→Tryz.pinned.checked.prog.wantsStandIn t=false:=by
 obtain rfl:f=5:=Option.some.inj ((show Tryz.prog.funcNamed "annals/annalslaw08.HeapFlight" = some 5 by kernel_rfl).symm.trans hf) |>.symm
 obtain rfl:fn=Tryz.f5:=(Option.some.inj (Tryz.func5.symm.trans hfn)).symm
 refine ⟨by kernel_rfl,fun j t ht=>?_⟩
 rw [Tryz.params5] at ht
 have hall:([73,85]:List TypeId).all (fun t => !Tryz.prog.wantsStandIn t)=true:=by kernel_rfl
 have:=List.all_eq_true.1 hall t (by simpa using Array.mem_of_getElem? ht)
 exact (show Tryz.prog.wantsStandIn t=false by simpa using this)
theorem proved : Rows.HeapFlightUptoCardSaid :=
 Claim7.holds_tied_plain_at .later [] _ _ _ _ over (fun _ h=>by cases h) (by kernel_rfl) (fun _ h=>by cases h) heapFlightUpto_row_tie rfl ⟨rfl,rfl⟩ (by kernel_rfl) rfl plain (by kernel_rfl)
end Go.Proofs.YtfjjgdnepfgnhaaGreatDoor.heapFlight
