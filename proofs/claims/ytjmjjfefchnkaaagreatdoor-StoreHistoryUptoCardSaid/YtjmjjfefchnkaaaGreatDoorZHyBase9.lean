/- The texts PgRd WlRd RlH HpC HpD HeB HeC HeD SpA HeE HeF SxF, one behind the other: what the law leans on. Conditions: as each theorem says. -/
import Derived.Test.YtjmjjfefchnkaaaGreatDoorZHyBase8
import Derived.Test.YtjmjjfefchnkaaaGreatDoorCards
import Derived.Test.YtjmjjfefchnkaaaGreatDoorTie
import Derived.Deep.DeepHandedRow
import Derived.Lib.LaidU8
set_option linter.unusedSimpArgs false
set_option linter.unusedVariables false
set_option maxRecDepth 100000
set_option maxHeartbeats 16000000
namespace Go.Proofs.YtjmjjfefchnkaaaGreatDoor
open Go.ChangeShapes Go.WideShapes Go.ChangeAt Go.RowKit
section
variable {H : Type} {enc:TypeId×Value→H} {W:World}
end
noncomputable def laidWorld (os:Os):World :=
 let w0:=World.holding Tryz.prog os ⟨#[],#[],[]⟩
 let put (h:Array Obj) (g:Nat) (cs:Array Value):Array Obj:=h.modify g fun
  | .cells _ t frozen => .cells cs t frozen
  | o=>o
 let h1:=put w0.heap 1 (Lib.firstTab.map fun z=>Value.int .u8 z).toArray
 let h2:=put h1 2 ((List.range 16).flatMap fun i=>[Value.int .u8 (Lib.accLo i),Value.int .u8 (Lib.accHi i)]).toArray
 {w0 with heap:=h2}
theorem laid_met (os:Os) (args:Array Value):laidMet Tryz.prog [("unicode/utf8.acceptRanges",Rows.laid_unicode_utf8_acceptRanges),("unicode/utf8.first",Rows.laid_unicode_utf8_first)] ((laidWorld os).forCall (fun _ _=>0) ⟨#[],args,[]⟩).memory :=
 laidMet_of_run' 8 (by kernel_rfl) (by kernel_rfl)
end Go.Proofs.YtjmjjfefchnkaaaGreatDoor
namespace Go.Proofs.YtjmjjfefchnkaaaGreatDoor
open Go.ChangeShapes Go.WideShapes Go.ChangeAt Go.RowKit
section
variable {H : Type} {enc:TypeId×Value→H} {W:World}
end
open Go.RowKit
open Go.RowKit
structure LogI (logs:Nat) (W:Wl) (D:DD) (es:List En):Prop where
 w:W=mkW 0 logs (es.map Zj) W.dur
 dur : ∃ k,k≤es.length∧W.dur=(Zr 0 0 ((es.take k).map Zj)).length ∧ ∀ (i:Nat) (e:En),k≤i→es[i]? = some e→e.kind≠3
 secs:Secs D 0 logs (W.st.take W.dur)
 pend : ∀ p∈D.pend,logs≤p.1
theorem LogI.first {logs:Nat} {W:Wl} {D:DD} {es:List En} (h:LogI logs W D es):W.first=0∧W.count=logs∧W.st=Zr 0 0 (es.map Zj):=by
 have:=h.w
 generalize W.dur=d at this
 subst this
 exact ⟨rfl,rfl,rfl⟩
theorem LogI.force {logs:Nat} {W:Wl} {D:DD} {es:List En} (h:LogI logs W D es) (hw:WOk W D) (ho:D.Ok) (m:Int):LogI logs (Zv W D m).1 (Zv W D m).2 es:=by
  obtain ⟨a,b,c⟩:=h.first
  unfold Zv
  split
  · exact h
  · have hf:=flushE_secs (W:=W) (D:=D) ho hw.fit (by rw [a,b];exact h.secs) hw.dur hw.st
    refine ⟨?_,⟨es.length,Nat.le_refl _,?_,fun i e hi he=>?_⟩,?_,?_⟩
    · show W.flushed=mkW 0 logs (es.map Zj) W.st.length
      have:=h.w
      generalize W.dur=d at this
      subst this
      rfl
    · show W.st.length=_
      rw [c,List.take_length]
    · rw [List.getElem?_eq_none hi] at he;cases he
    · show Secs (Wh W D) 0 logs (W.st.take W.st.length)
      rw [List.take_length,←a,←b];exact hf
    · show ∀ p∈(Wh W D).pend,_
      unfold Wh
      split
      · exact h.pend
      · intro p hp;simp [flushD,DD.sync] at hp
theorem LogI.put {logs:Nat} {W:Wl} {D:DD} {es:List En} (h:LogI logs W D es) (n:Nat) (b:List UInt8) (hn:logs≤n):LogI logs W (D.write n b) es:=by
  refine ⟨h.w,h.dur,fun j hj=>?_,fun p hp=>?_⟩
  · rw [DD.rdW,if_neg (by omega)];exact h.secs j hj
  · simp only [DD.write] at hp
    rcases List.mem_append.1 hp with hp | hp
    · exact h.pend p hp
    · simp at hp;subst hp;exact hn
theorem LogI.give {logs:Nat} {W:Wl} {D:DD} {es:List En} (h:LogI logs W D es) (hw:WOk W D) (ho:D.Ok) (x:Fa):LogI logs (giveP logs W D x).1 (giveP logs W D x).2 es:=by
 unfold giveP
 split
 · exact (h.force hw ho x.mark).put _ _ (by omega)
 · exact h
theorem LogI.pin {logs count n K:Nat} {s:Pl} {es:List En} (h:LogI logs s.W s.D es) (p:PInv logs count n K s) (hK:K<2^31) (page:Int):LogI logs (pinP logs count s page).1.W (pinP logs count s page).1.D es:=by
 have hc:=pin_cases (first:=logs) (count:=count) (page:=page) (s:=s) (by rw [p.F.len];exact p.hand)
 generalize pinP logs count s page=res at hc ⊢
 cases hc with
 | clock i h' A' x' hr hf hx ha hc hx' hup=>exact h.give (p.w hK) p.ok x'
 | _=>exact h
theorem LogI.writesL {logs:Nat} {W:Wl} {es:List En} : ∀ (L:List (Nat×List UInt8)) (D:DD),LogI logs W D es→(∀ p∈L,logs≤p.1)→LogI logs W (Zz D L) es
 | [],_,h,_=>h
 | p::L,D,h,hL=>LogI.writesL L (D.write p.1 p.2) (h.put p.1 p.2 (hL p (by simp))) (fun q hq=>hL q (by simp [hq]))
theorem LogI.writes {logs:Nat} {W:Wl} {es:List En} {L:List (Nat×List UInt8)} {D:DD} (h:LogI logs W D es) (hL : ∀ p∈L,logs≤p.1):LogI logs W (Zz D L) es:=LogI.writesL L D h hL
theorem LogI.sync {logs:Nat} {W:Wl} {D:DD} {es:List En} (h:LogI logs W D es) (ho:D.Ok) (hl:logs≤D.secs.length):LogI logs W D.sync es :=
 ⟨h.w,h.dur,h.secs.sync ho (by omega),fun p hp=>by simp [DD.sync] at hp⟩
theorem LogI.flush {logs count n K:Nat} {s:Pl} {es:List En} (h:LogI logs s.W s.D es) (p:PInv logs count n K s) (hK:K<2^31):LogI logs (flushP logs s).W (flushP logs s).D es:=by
 unfold flushP
 dsimp only
 have hsec:=p.sec
 obtain ⟨f1,f2,f3,f4,f5,f6,f7⟩:=(p.w hK).force p.ok (Zm s.A) (p.w hK).room
 have hL : ∀ q∈dirtyL logs s.A,q.1<(Zv s.W s.D (Zm s.A)).2.secs.length∧q.2.length=256:=fun q hq=>by
  obtain ⟨i,x,hx,hd,rfl⟩:=dirty_mem.1 hq
  have:=fr_ok p.F hx (p.dp x (List.mem_of_getElem? hx) hd)
  exact ⟨by rw [f3];dsimp only;omega,this.2.2.1⟩
 have hL2 : ∀ q∈dirtyL logs s.A,logs≤q.1:=fun q hq=>by
  obtain ⟨i,x,hx,hd,rfl⟩:=dirty_mem.1 hq
  dsimp only;omega
 obtain ⟨w1,w2,w3⟩:=writes_ok f2 hL
 exact ((h.force (p.w hK) p.ok _).writes hL2).sync w1 (by rw [w2,f3];omega)
theorem encE_ok {e:En} (h:EnOk e):OkD (Zj e):=by
 have:=h.long
 constructor
 · rw [encE_len];split <;> omega
 · rw [encE_len];split <;> omega
theorem logB_sz (es:List En):(Zr 0 0 (es.map Zj)).length=(es.map enSz).sum:=by
 have key : ∀ (es:List En) (s:UInt32) (k:Nat),(Zr s k (es.map Zj)).length=(es.map enSz).sum:=by
  intro es
  induction es with
  | nil=>intro s k;rfl
  | cons e es ih =>
   intro s k
   simp only [List.map_cons,Zr,List.length_append,Wf,ih,List.sum_cons]
   rfl
 exact key es 0 0
theorem logB_pre (es:List En) (e:En):Zr 0 0 ((es++[e]).map Zj)=Zr 0 0 (es.map Zj)++recB (logS 0 0 (es.map Zj)) (0+(Zr 0 0 (es.map Zj)).length) (Zj e):=by
 rw [List.map_append,List.map_cons,List.map_nil,logB_snoc]
theorem LogI.wdur {logs:Nat} {W:Wl} {D:DD} {es:List En} (h:LogI logs W D es):W.dur≤W.st.length:=by
 obtain ⟨k,_,k2,_⟩:=h.dur
 rw [h.first.2.2,k2]
 have:Zr 0 0 (es.map Zj)=Zr 0 0 ((es.take k).map Zj)++Zr (logS 0 0 ((es.take k).map Zj)) (0+(Zr 0 0 ((es.take k).map Zj)).length) ((es.drop k).map Zj):=by
  rw [←logB_app,←List.map_append,List.take_append_drop]
 rw [this,List.length_append];omega
theorem LogI.append {logs:Nat} {W:Wl} {D:DD} {es:List En} {e:En} (h:LogI logs W D es) (hk:e.kind≠3):LogI logs (mkW 0 logs ((es++[e]).map Zj) W.dur) D (es++[e]):=by
  obtain ⟨k,k1,k2,k3⟩:=h.dur
  refine ⟨rfl,⟨k,by simp;omega,?_,fun i x hi hx=>?_⟩,?_,h.pend⟩
  · rw [List.take_append_of_le_length k1];exact k2
  · rw [List.getElem?_append] at hx
    split at hx
    · exact k3 i x hi hx
    · have:=List.mem_of_getElem? hx
      simp at this;subst this;exact hk
  · have hd:=h.wdur
    have hs:=h.secs
    rw [h.first.2.2] at hs hd
    show Secs D 0 logs ((Zr 0 0 ((es++[e]).map Zj)).take W.dur)
    rw [logB_pre,List.take_append_of_le_length hd];exact hs
theorem LogI.commit {logs:Nat} {W:Wl} {D:DD} {es:List En} {e:En} (h:LogI logs W D es) (hw:WOk (mkW 0 logs ((es++[e]).map Zj) W.dur) D) (ho:D.Ok):LogI logs (mkW 0 logs ((es++[e]).map Zj) W.dur).flushed (Wh (mkW 0 logs ((es++[e]).map Zj) W.dur) D) (es++[e]):=by
  have hd:=h.wdur
  have hs:=h.secs
  rw [h.first.2.2] at hs hd
  have hs2:Secs D 0 logs ((Zr 0 0 ((es++[e]).map Zj)).take W.dur):=by
    rw [logB_pre,List.take_append_of_le_length hd];exact hs
  have hf:=flushE_secs (W:=mkW 0 logs ((es++[e]).map Zj) W.dur) (D:=D) ho hw.fit hs2 hw.dur hw.st
  refine ⟨rfl,⟨(es++[e]).length,Nat.le_refl _,by rw [List.take_length];rfl,fun i x hi hx=>?_⟩,?_,?_⟩
  · rw [List.getElem?_eq_none hi] at hx;cases hx
  · show Secs _ 0 logs ((Zr 0 0 ((es++[e]).map Zj)).take (Zr 0 0 ((es++[e]).map Zj)).length)
    rw [List.take_length];exact hf
  · unfold Wh
    split
    · exact h.pend
    · intro p hp;simp [flushD,DD.sync] at hp
theorem pin_secs {first count n K:Nat} {s:Pl} (h:PInv first count n K s) (hK:K<2^31) (page:Int):(pinP first count s page).1.D.secs.length=s.D.secs.length:=by
 have hpe:=h.pend
 have hc:=pin_cases (first:=first) (count:=count) (page:=page) (s:=s) (by rw [h.F.len];exact h.hand)
 generalize pinP first count s page=res at hc ⊢
 cases hc with
 | clock i h' A' x' hr hf hx ha hc hx' hup =>
  obtain ⟨y,hy,q1,q2,q3,q4,q5⟩:=clock_fr hc i x' hx'
  have hyo:=fr_ok h.F hy (hx i y hy)
  have hsec:=h.sec
  obtain ⟨f1,f2,f3,_⟩:=(h.w hK).give (first:=first) h.ok (by omega) x' (by rw [q1];omega) (by rw [q5];exact hyo.2.2.1)
  exact f3
 | _=>rfl
structure SInv (logs count n K:Nat) (s:Pl) (es:List En) (rc:Nat→List (List UInt8)):Prop where
 inv:PInv logs count n K s
 len:s.D.secs.length=logs+count
 l1:1≤logs
 zero : ∀ x∈s.A,x.pins=0
 coh:Coh logs s.A s.D
 log:LogI logs s.W s.D es
 has : ∀ q,q<count → ∃ m:Nat,m<2^40∧HasP logs s.A s.D q (Zx (rc q) m)
 rok : ∀ q,q<count→PgOk (rc q)∧(rc q).length<256
theorem SInv.mono {logs count n K K':Nat} {s:Pl} {es:List En} {rc:Nat→List (List UInt8)} (h:SInv logs count n K s es rc) (hK:K≤K'):SInv logs count n K' s es rc:=⟨h.inv.mono hK,h.len,h.l1,h.zero,h.coh,h.log,h.has,h.rok⟩
structure Pinned (logs count n K:Nat) (s s1:Pl) (es:List En) (rc:Nat→List (List UInt8)) (q i:Nat) (x:Fa) (m:Nat):Prop where
 pin:pinP logs count s q=(s1,0)
 inv:PInv logs count n (K+1) s1
 one:OneP q s1.A i x
 pnd:pinnedA s1.A q=some (i,x)
 m1:m<2^40
 b:x.b=Zx (rc q) m
 opn:openR x.b = .ok (rc q,m)
 bl:x.b.length=256
 keep : ∃ A3,unpinA s1.A q=(A3,0)∧SInv logs count n (K+1) {s1 with A:=A3} es rc
 put : ∀ (r':List (List UInt8)) (m':Nat),PgOk r'→r'.length<256→m'<2^40 → ∃ A2 A3,putA s1.A q (Zx r' m') m'=(A2,0)∧PInv logs count n (K+1) {s1 with A:=A2}∧unpinA A2 q=(A3,0)∧SInv logs count n (K+1) {s1 with A:=A3} es (fun p=>if p=q then r' else rc p)
theorem SInv.round {logs count n K:Nat} {s:Pl} {es:List En} {rc:Nat→List (List UInt8)} (h:SInv logs count n K s es rc) (hK:K<2^31) {q:Nat} (hq:q<count) : ∃ s1 i x m,Pinned logs count n K s s1 es rc q i x m:=by
  have hr : ¬ ((q:Int)<0∨(count:Int)≤(q:Int)):=by omega
  obtain ⟨hcode,i,x,hi,hp,hone,hrest⟩:=pin_frame h.inv q hr h.zero
  have hpi:=h.inv.pin hK q
  obtain ⟨l1,l2,l3⟩:=h.log.first
  obtain ⟨hhas,hcoh⟩:=pin_ok h.inv hK q (by omega) h.coh
  have hlen:=pin_secs h.inv hK q
  have hlog:=h.log.pin h.inv hK q
  have hs1:pinP logs count s q=((pinP logs count s q).1,0):=by rw [←hcode]
  generalize (pinP logs count s q).1=s1 at *
  have hO:OneP q s1.A i x:=⟨hi,hp,hone,hrest⟩
  have hpin:=pinnedA_of hpi.F hi hp (by omega) (by rw [hone];omega)
  have hxo:=fr_ok hpi.F hi (by omega)
  obtain ⟨m,hm,hh⟩:=h.has q hq
  have hb:=(hhas q _ hq hh).uniq hpi.F hi hp
  obtain ⟨ro1,ro2⟩:=h.rok q hq
  have hil:=(List.getElem?_eq_some_iff.1 hi).1
  refine ⟨s1,i,x,m,⟨hs1,hpi,hO,hpin,hm,hb,?_,hxo.2.2.1,?_,?_⟩⟩
  · rw [hb];exact openR_pgBytes ro1 ro2 (by omega)
  · obtain ⟨u1,u2,u3⟩:=hO.unpin hpi.F (by omega)
    have hun:=hpi.unpin q
    rw [u1] at hun
    dsimp only at hun
    refine ⟨_,u1,hun,hlen.trans h.len,h.l1,u3,Coh.set (x:=x) hi rfl (fun e=>⟨rfl,e⟩) hcoh,hlog,fun p hp=>?_,h.rok⟩
    obtain ⟨m2,hm2,hh2⟩:=h.has p hp
    exact ⟨m2,hm2,HasP.set (x:=x) (y:={x with pins:=0}) hi rfl rfl (hhas p _ hp hh2)⟩
  · intro r' m' hr' hrl hm'
    have hbl:=length_pgBytes (recs:=r') (mark:=m') hr'.used
    have hput:=hpi.put q (Zx r' m') m' (by omega)
    have e:putA s1.A q (Zx r' m') m'=(s1.A.set i {x with mark:=max x.mark m',dirty:=true,b:=Zx r' m'},0):=by
      unfold putA;rw [hpin];dsimp only;rw [if_neg (by simp [hbl])]
    rw [e] at hput ⊢
    dsimp only at hput ⊢
    have hO2:OneP q (s1.A.set i {x with mark:=max x.mark m',dirty:=true,b:=Zx r' m'}) i {x with mark:=max x.mark m',dirty:=true,b:=Zx r' m'}:=hO.set hp hone
    obtain ⟨u1,u2,u3⟩:=hO2.unpin hput.F (by omega)
    have hun:=hput.unpin q
    rw [u1] at hun
    dsimp only at hun
    refine ⟨_,_,rfl,hput,u1,hun,hlen.trans h.len,h.l1,u3,?_,hlog,fun p hp2=>?_,fun p hp2=>?_⟩
    · dsimp only
      rw [List.set_set]
      exact Coh.set (x:=x) hi rfl (fun e=>by cases e) hcoh
    · dsimp only
      rw [List.set_set]
      by_cases e2:p=q
      · rw [if_pos e2]
        exact ⟨m',hm',.inl ⟨i,_,List.getElem?_set_self hil,by rw [e2];exact hp,rfl⟩⟩
      · rw [if_neg e2]
        obtain ⟨m2,hm2,hh2⟩:=h.has p hp2
        refine ⟨m2,hm2,?_⟩
        rcases hhas p _ hp2 hh2 with ⟨j,z,h1,h2,h3⟩ | ⟨h1,h2⟩
        · by_cases e3:i=j
          · subst e3;rw [hi] at h1;cases h1;omega
          · exact .inl ⟨j,z,by rw [List.getElem?_set_ne e3];exact h1,h2,h3⟩
        · refine .inr ⟨fun j z hz=>?_,h2⟩
          rw [List.getElem?_set] at hz
          split at hz
          · cases hz;dsimp only;omega
          · exact h1 j z hz
    · by_cases e2:p=q
      · rw [if_pos e2];exact ⟨hr',hrl⟩
      · rw [if_neg e2];exact h.rok p hp2
theorem SInv.append {logs count n K:Nat} {s:Pl} {es:List En} {rc:Nat→List (List UInt8)} (h:SInv logs count n K s es rc) {e:En} (he:EnOk e) (hk:e.kind≠3) (hf:s.W.st.length+enSz e≤logs*256) :
  addW s.W (Zj e)=(mkW 0 logs ((es++[e]).map Zj) s.W.dur,((s.W.st.length+enSz e:Nat):Int),0)∧SInv logs count n K {s with W:=mkW 0 logs ((es++[e]).map Zj) s.W.dur} (es++[e]) rc:=by
 obtain ⟨l1,l2,l3⟩:=h.log.first
 have hadd:addW s.W (Zj e)=(mkW 0 logs ((es++[e]).map Zj) s.W.dur,((s.W.st.length+enSz e:Nat):Int),0):=by
  have hw:=h.log.w
  have hf2:(Zr 0 0 (es.map Zj)).length+8+(Zj e).length≤logs*256:=by rw [←l3];unfold enSz at hf;omega
  conv=>lhs;rw [hw]
  rw [addW_mk (encE_ok he) hf2]
  rw [show es.map Zj++[Zj e]=(es++[e]).map Zj by simp]
  rw [logB_sz,l3,logB_sz]
  simp
 have hpa:=h.inv.append (Zj e)
 rw [hadd] at hpa
 exact ⟨hadd,hpa,h.len,h.l1,h.zero,h.coh,h.log.append hk,h.has,h.rok⟩
theorem SInv.commit {logs count n K:Nat} {s:Pl} {es:List En} {rc:Nat→List (List UInt8)} (h:SInv logs count n K s es rc) (hK:K<2^31) {e:En} (he:EnOk e) (hf:s.W.st.length+enSz e≤logs*256) :
    addW s.W (Zj e)=(mkW 0 logs ((es++[e]).map Zj) s.W.dur,((s.W.st.length+enSz e:Nat):Int),0)∧WOk (mkW 0 logs ((es++[e]).map Zj) s.W.dur) s.D∧SInv logs count n K {s with W:=(mkW 0 logs ((es++[e]).map Zj) s.W.dur).flushed,D:=Wh (mkW 0 logs ((es++[e]).map Zj) s.W.dur) s.D} (es++[e]) rc:=by
  obtain ⟨l1,l2,l3⟩:=h.log.first
  have hadd:addW s.W (Zj e)=(mkW 0 logs ((es++[e]).map Zj) s.W.dur,((s.W.st.length+enSz e:Nat):Int),0):=by
    have hw:=h.log.w
    have hf2:(Zr 0 0 (es.map Zj)).length+8+(Zj e).length≤logs*256:=by rw [←l3];unfold enSz at hf;omega
    conv=>lhs;rw [hw]
    rw [addW_mk (encE_ok he) hf2]
    rw [show es.map Zj++[Zj e]=(es++[e]).map Zj by simp]
    rw [logB_sz,l3,logB_sz]
    simp
  have hpa:=h.inv.append (Zj e)
  rw [hadd] at hpa
  dsimp only at hpa
  have hw2:=hpa.w hK
  dsimp only at hw2
  have hlog:=h.log.commit (e:=e) hw2 h.inv.ok
  have hrd : ∀ x,x<s.D.secs.length→logs≤x→(Wh (mkW 0 logs ((es++[e]).map Zj) s.W.dur) s.D).read x=s.D.read x:=fun x hx hlx=>flushE_out (W:=mkW 0 logs ((es++[e]).map Zj) s.W.dur) h.inv.ok hw2.fit hw2.dur hw2.st hx (.inr (by show 0+logs≤x;omega))
  have hsl:(Wh (mkW 0 logs ((es++[e]).map Zj) s.W.dur) s.D).secs.length=s.D.secs.length∧(Wh (mkW 0 logs ((es++[e]).map Zj) s.W.dur) s.D).Ok∧(Wh (mkW 0 logs ((es++[e]).map Zj) s.W.dur) s.D).pend.length≤s.D.pend.length:=by
    have hf:=hw2.force h.inv.ok (2^62) hw2.room
    have e1:Zv (mkW 0 logs ((es++[e]).map Zj) s.W.dur) s.D (2^62)=((mkW 0 logs ((es++[e]).map Zj) s.W.dur).flushed,Wh (mkW 0 logs ((es++[e]).map Zj) s.W.dur) s.D):=by
      unfold Zv
      rw [if_neg]
      have:=hw2.dur;have:=hw2.st;have:=hw2.fit;have:=hw2.max
      have:(mkW 0 logs ((es++[e]).map Zj) s.W.dur).count=logs:=rfl
      omega
    rw [e1] at hf
    exact ⟨hf.2.2.1,hf.2.1,hf.2.2.2.1⟩
  have hmax:=h.inv.ok.max
  have hlen:=h.len
  refine ⟨hadd,hw2,⟨hpa.F,hpa.dp,hpa.pins,hpa.hand,?_,?_,Nat.le_refl _,?_,hsl.2.1,?_⟩,hsl.1.trans h.len,h.l1,h.zero,?_,hlog,?_,h.rok⟩
  · show 0+logs≤_;rw [hsl.1];omega
  · exact hw2.st
  · have:=hpa.pend;dsimp only at this ⊢;omega
  · rw [hsl.1];omega
  · intro i x hx h0 hd
    have:=h.coh i x hx h0 hd
    dsimp only
    rw [hrd _ (by have:=fr_ok h.inv.F hx h0;omega) (by omega)];exact this
  · intro q hq
    obtain ⟨m,hm,hh⟩:=h.has q hq
    refine ⟨m,hm,?_⟩
    rcases hh with hh | ⟨h1,h2⟩
    · exact .inl hh
    · refine .inr ⟨h1,?_⟩
      dsimp only
      rw [hrd _ (by omega) (by omega)];exact h2
theorem clean_at {A:List Fa} {i:Nat} {x:Fa} (h:(cleanA A)[i]? = some x) : ∃ y,A[i]? = some y∧x={y with dirty:=false}:=by
 unfold cleanA at h
 rw [List.getElem?_map] at h
 cases hy:A[i]? with
 | none=>rw [hy] at h;cases h
 | some y=>rw [hy] at h;exact ⟨y,rfl,by simpa using h.symm⟩
theorem SInv.flush {logs count n K:Nat} {s:Pl} {es:List En} {rc:Nat→List (List UInt8)} (h:SInv logs count n K s es rc) (hK:K<2^31):SInv logs count n K (flushP logs s) es rc:=by
  obtain ⟨l1,l2,l3⟩:=h.log.first
  have hfi:=h.inv.flush hK
  have hfh : ∀ q,q<count → ∀ d,HasP logs s.A s.D q d→(flushP logs s).D.read (logs+q)=d:=fun q hq d hd=>flush_has h.inv hK (by omega) h.coh hq hd
  have hlen:(flushP logs s).D.secs.length=s.D.secs.length:=by
    have hsec:=h.inv.sec
    obtain ⟨f1,f2,f3,f4,f5,f6,f7⟩:=(h.inv.w hK).force h.inv.ok (Zm s.A) (h.inv.w hK).room
    have hL : ∀ q∈dirtyL logs s.A,q.1<(Zv s.W s.D (Zm s.A)).2.secs.length∧q.2.length=256:=fun q hq=>by
      obtain ⟨i,x,hx,hd,rfl⟩:=dirty_mem.1 hq
      have:=fr_ok h.inv.F hx (h.inv.dp x (List.mem_of_getElem? hx) hd)
      exact ⟨by rw [f3];dsimp only;omega,this.2.2.1⟩
    obtain ⟨w1,w2,w3⟩:=writes_ok f2 hL
    exact ((DD.sync_len w1).trans w2).trans f3
  refine ⟨hfi,hlen.trans h.len,h.l1,fun x hx=>?_,fun i x hx h0 hd=>?_,h.log.flush h.inv hK,fun q hq=>?_,h.rok⟩
  · obtain ⟨i,hi,rfl⟩:=List.getElem_of_mem hx
    obtain ⟨y,hy,e⟩:=clean_at (List.getElem?_eq_getElem hi)
    have:=h.zero y (List.mem_of_getElem? hy)
    rw [e];exact this
  · obtain ⟨y,hy,rfl⟩:=clean_at hx
    have hyo:=fr_ok h.inv.F hy h0
    have hq:y.page.toNat<count:=by have:=hyo.2.1;omega
    have:=hfh y.page.toNat hq y.b (.inl ⟨i,y,hy,by omega,rfl⟩)
    exact this.symm
  · obtain ⟨m,hm,hh⟩:=h.has q hq
    refine ⟨m,hm,?_⟩
    rcases hh with ⟨i,x,h1,h2,h3⟩ | ⟨h1,h2⟩
    · refine .inl ⟨i,{x with dirty:=false},?_,h2,h3⟩
      show (cleanA s.A)[i]? = _
      unfold cleanA
      rw [List.getElem?_map,h1];rfl
    · refine .inr ⟨fun i x hx=>?_,hfh q hq _ (.inr ⟨h1,h2⟩)⟩
      obtain ⟨y,hy,rfl⟩:=clean_at hx
      exact h1 i y hy
open Go.RowKit
def stN (h:HR) (t:Int):Int:=if Zp h t=true then 1 else if Wa h t=true then 2 else 0
abbrev lookS (st:List (Int×Int)) (t:Int):Int:=(Zy st t).getD 0
def StI (st:List (Int×Int)) (h:HR):Prop := ∀ t,lookS st t=stN h t
structure HInv (logs count n K:Nat) (s:Pl) (st:List (Int×Int)) (h:HR):Prop where
 s:SInv logs count n K s h.es (Zi h.vs)
 r:RInv h
 st:StI st h
 pages:h.pages=count
 room:h.room=logs*256
 lastK:h.last≤K
theorem HInv.used {logs count n K:Nat} {s:Pl} {st:List (Int×Int)} {h:HR} (i:HInv logs count n K s st h):h.used=s.W.st.length:=by
 rw [i.s.log.first.2.2,logB_sz,i.r.ok.used]
theorem HInv.cnt {logs count n K:Nat} {s:Pl} {st:List (Int×Int)} {h:HR} (i:HInv logs count n K s st h):logs+count≤4096:=by
 have:=i.s.len;have:=i.s.inv.ok.max;omega
theorem HInv.mono {logs count n K K':Nat} {s:Pl} {st:List (Int×Int)} {h:HR} (i:HInv logs count n K s st h) (hK:K≤K'):HInv logs count n K' s st h:=⟨i.s.mono hK,i.r,i.st,i.pages,i.room,by have:=i.lastK;omega⟩
theorem stN_iff {h:HR} {t:Int}:(stN h t=1↔Zp h t=true):=by
 unfold stN
 split
 · simp_all
 · split <;> simp_all
theorem StI.act {st:List (Int×Int)} {h:HR} (i:StI st h) (t:Int):lookS st t=1↔Zp h t=true:=by rw [i t];exact stN_iff
theorem stN_cm {h:HR} (r:RInv h) {t:Int}:stN h t=2↔Wa h t=true:=by
  unfold stN
  split
  · rename_i ha
    have:=r.actcm t (isAct_iff.1 ha)
    simp [this]
  · split <;> simp_all
theorem stN_lost {h:HR} {t:Int}:stN h t=0↔(Zp h t=false∧Wa h t=false):=by
 unfold stN
 split
 · simp_all
 · split <;> simp_all
theorem stN_begin {h:HR} (t:Int):stN (beginR h) t=if t=h.last+1 then 1 else stN h t:=by
 unfold stN
 have e1:Zp (beginR h) t=(Zp h t || decide (t=h.last+1)):=by
  unfold Zp beginR
  rw [Bool.eq_iff_iff]
  simp [List.contains_iff_mem]
 have e2:Wa (beginR h) t=Wa h t:=rfl
 rw [e1,e2]
 by_cases e:t=h.last+1 <;> simp [e]
theorem isAct_without {h:HR} {t u:Int}:Zp (Zo h u) t=(Zp h t && decide (t≠u)):=by
 unfold Zp Zo
 rw [Bool.eq_iff_iff]
 simp [List.contains_iff_mem]
theorem stN_without {h:HR} (r:RInv h) {u:Int} (hu:Zp h u=true) (t:Int):stN (Zo h u) t=if t=u then 0 else stN h t:=by
  unfold stN
  rw [isAct_without]
  have e2:Wa (Zo h u) t=Wa h t:=rfl
  rw [e2]
  by_cases e:t=u
  · subst e
    have:=r.actcm t (isAct_iff.1 hu)
    simp [this]
  · simp [e]
theorem StI.begin {st:List (Int×Int)} {h:HR} (i:StI st h):StI (putL st (h.last+1) 1) (beginR h):=fun t=>by
 rw [stN_begin]
 by_cases e:t=h.last+1
 · subst e;rw [if_pos rfl,lookS,look_put_same];rfl
 · rw [if_neg e,lookS,look_put_ne 1 (fun q=>e q.symm)];exact i t
theorem StI.without {st:List (Int×Int)} {h:HR} (i:StI st h) (r:RInv h) {u:Int} (hu:Zp h u=true):StI (putL st u 0) (Zo h u):=fun t=>by
 rw [stN_without r hu]
 by_cases e:t=u
 · subst e;rw [if_pos rfl,lookS,look_put_same];rfl
 · rw [if_neg e,lookS,look_put_ne 0 (fun q=>e q.symm)];exact i t
theorem isCm_write {h:HR} {e:En} {t:Int}:Wa (Zg h e) t=(Wa h t || (decide (e.kind=3) && decide (t=e.txn))):=by
 unfold Wa Zg
 rw [Bool.eq_iff_iff]
 by_cases k:e.kind=3 <;> simp [List.contains_iff_mem,k]
theorem StI.write {st:List (Int×Int)} {h:HR} (i:StI st h) {e:En} (hk:e.kind≠3):StI st (Zg h e):=fun t=>by
 rw [i t]
 unfold stN
 rw [isCm_write]
 simp [hk,show Zp (Zg h e) t=Zp h t from rfl]
theorem StI.commit {st:List (Int×Int)} {h:HR} (i:StI st h) (r:RInv h) {u s:Int} (hu:Zp h u=true):StI (putL st u 2) (Zg (Zo h u) (cmE u s)):=fun t=>by
  have h1:=i.without r hu t
  by_cases e:t=u
  · subst e
    rw [lookS,look_put_same]
    unfold stN
    rw [isCm_write,show Zp (Zg (Zo h t) (cmE t s)) t=Zp (Zo h t) t from rfl,isAct_without]
    simp
  · rw [lookS,look_put_ne 2 (fun q=>e q.symm)]
    rw [lookS,look_put_ne 0 (fun q=>e q.symm)] at h1
    show lookS st t=_
    rw [lookS,h1]
    unfold stN
    rw [isCm_write,show Zp (Zg (Zo h u) (cmE u s)) t=Zp (Zo h u) t from rfl]
    simp [e]
theorem modify_mid {α:Type} (f:α→α) (x:α) (b:List α) : ∀ a:List α,(a++x::b).modify a.length f=a++f x::b
 | []=>by simp
 | y::a=>by simp [modify_mid f x b a]
theorem pageV_fin {vs:List Ver} (h:Slots vs) {i:Nat} {v:Ver} (hv:vs[i]? = some v) (t:Int) (q:Nat):Zh (vs.modify i (finV t)) q=if v.page=q then (Zh vs q).modify v.slot (finV t) else Zh vs q:=by
  have hi:=(List.getElem?_eq_some_iff.1 hv).1
  have e3:vs[i]=v:=by rw [List.getElem?_eq_getElem hi] at hv;exact Option.some.inj hv
  have hs:=h i v hv
  have h1:vs.modify i (finV t)=vs.take i++finV t v::vs.drop (i+1):=by rw [List.modify_eq_take_cons_drop hi,e3]
  have h2:vs=vs.take i++v::vs.drop (i+1):=by
    have:=List.take_append_drop i vs
    rw [List.drop_eq_getElem_cons hi,e3] at this
    exact this.symm
  rw [h1,Wc]
  by_cases e:v.page=q
  · rw [if_pos e]
    have e1:Zh (finV t v::vs.drop (i+1)) q=finV t v::Zh (vs.drop (i+1)) q:=by simp [Zh,finV,e]
    have e2:Zh vs q=Zh (vs.take i) q++v::Zh (vs.drop (i+1)) q:=by
      conv=>lhs;rw [h2,Wc]
      congr 1
      simp [Zh,e]
    rw [e1,e2,hs,e,modify_mid]
  · rw [if_neg e]
    have e1:Zh (finV t v::vs.drop (i+1)) q=Zh (vs.drop (i+1)) q:=by simp [Zh,finV,e]
    have e2:Zh vs q=Zh (vs.take i) q++Zh (vs.drop (i+1)) q:=by
      conv=>lhs;rw [h2,Wc]
      congr 1
      simp [Zh,e]
    rw [e1,e2]
def setB (off:Nat) (d b:List UInt8):List UInt8:=b.take off++d++b.drop (off+d.length)
theorem verB_fin (t:Int) (v:Ver):verB (finV t v)=setB 8 (be (UInt64.ofInt t) 8) (verB v):=by
 have e1:(be (UInt64.ofInt v.beg) 8++be (UInt64.ofInt v.fin) 8++v.data).take 8=be (UInt64.ofInt v.beg) 8:=by rw [List.append_assoc,List.take_left' (Zd _ _)]
 have e2:(be (UInt64.ofInt v.beg) 8++be (UInt64.ofInt v.fin) 8++v.data).drop (8+8)=v.data:=by rw [List.drop_left' (by simp [Zd])]
 unfold setB verB finV
 dsimp only
 rw [Zd,e1,e2]
theorem modify_map {α β:Type} (g:α→β) (f:α→α) (f':β→β) (hf : ∀ a,g (f a)=f' (g a)) : ∀ (l:List α) (i:Nat),(l.modify i f).map g=(l.map g).modify i f'
 | [],i=>by simp
 | a::l,0=>by simp [hf]
 | a::l,i+1=>by simp [modify_map g f f' hf l i]
theorem recs_add {h:HR} {e:En} (k:e.kind=1) (q:Nat):Zi (Zg h e).vs q=if q=e.page.toNat then Zi h.vs q++[verB ⟨e.page.toNat,e.slot.toNat,e.txn,0,e.data⟩] else Zi h.vs q:=by
 have:(Zg h e).vs=h.vs++[⟨e.page.toNat,e.slot.toNat,e.txn,0,e.data⟩]:=by simp [Zg,k]
 unfold Zi
 rw [this,Wc,List.map_append]
 by_cases e1:q=e.page.toNat
 · rw [if_pos e1];simp [Zh,e1]
 · rw [if_neg e1];simp [Zh,Ne.symm e1]
theorem recs_end {h:HR} (r:RepOk h) {e:En} (k:e.kind=2) {i:Nat} {v:Ver} (hi:We h.vs e.page e.slot=some i) (hv:h.vs[i]? = some v) (q:Nat):Zi (Zg h e).vs q=if q=e.page.toNat then (Zi h.vs q).modify e.slot.toNat (setB 8 (be (UInt64.ofInt e.txn) 8)) else Zi h.vs q:=by
  have:(Zg h e).vs=h.vs.modify i (finV e.txn):=by simp [Zg,k,hi]
  obtain ⟨u,hu,e1,e2⟩:=findV_some hi
  rw [hv] at hu;cases hu
  unfold Zi
  rw [this,pageV_fin r.slots hv]
  have e3:v.page=e.page.toNat:=by omega
  have e4:v.slot=e.slot.toNat:=by omega
  by_cases e5:q=e.page.toNat
  · rw [if_pos (by omega),if_pos e5,e4]
    exact modify_map _ _ _ (verB_fin e.txn) _ _
  · rw [if_neg (by omega),if_neg e5]
theorem recs_commit {h:HR} {e:En} (k:e.kind=3) (q:Nat):Zi (Zg h e).vs q=Zi h.vs q:=by
 have:(Zg h e).vs=h.vs:=by simp [Zg,k]
 rw [this]
theorem recs_ok {h:HR} (r:RepOk h) (q:Nat):PgOk (Zi h.vs q)∧(Zi h.vs q).length<256:=by
  have h1:=r.room q
  refine ⟨⟨?_,fun b hb=>?_⟩,?_⟩
  · rw [used_recs];unfold Wi at h1;omega
  · unfold Zi at hb
    obtain ⟨v,hv,rfl⟩:=List.mem_map.1 hb
    have:=(r.vok v (mem_of_filt hv)).2.1
    rw [length_verB];omega
  · unfold Zi
    rw [List.length_map]
    have:=pages_len r q;omega
open Go.RowKit
abbrev enV (e:En) (p:Option Addr) (c:Nat):Value := .agg #[.int .i64 e.kind,.int .i64 e.txn,.int .i64 e.page,.int .i64 e.slot,.int .i64 e.stamp,.slice p e.data.length c]
theorem Tl.check (B:Wn) (e:En) (p:Option Addr) (c:Nat) (h:EnOk e):Fn Tryz.prog B 104 #[enV e p c] [] (fun u l=>u = .int .i64 0∧l=[]):=by
 obtain ⟨k1,k2⟩:=h.kind
 obtain ⟨t1,t2⟩:=h.txn
 obtain ⟨q1,q2,q3,q4⟩:=h.place
 obtain ⟨s1,s2⟩:=h.stamp
 have hl:=h.long
 refine Wq 85 Tryz.func104 rfl rfl (nB rfl) (fun F=>?_)
 try simp only [cA,nA]
 refine TS ?_
 refine Le rfl (zL [_,_,_,_,_,_] rfl rfl ?_)
 intro g1
 refine La rfl rfl (Ld (TS (Lq rfl (Qf (off:=2) (by kernel_rfl) rfl) (Lq rfl (Ql (by kernel_rfl) rfl rfl) (Lq rfl (zX rfl rfl) (Lm rfl rfl ?_))))))
 refine zQ (t:=7) rfl (decide_eq_true (by omega)) (Lq rfl (Qf (off:=2) (by kernel_rfl) rfl) (Lq rfl (Ql (by kernel_rfl) rfl rfl) (Lq rfl (YF rfl rfl) (Lq rfl (Qp rfl rfl) (Lm rfl rfl (zQ (t:=12) rfl (decide_eq_true (by omega)) (Lq rfl (Qf (off:=3) (by kernel_rfl) rfl) ?_)))))))
 refine Lq rfl (Ql (by kernel_rfl) rfl rfl) (Lq rfl (zX rfl rfl) (Lq rfl (Qp rfl rfl) (Lm rfl rfl (zQ (t:=17) rfl (decide_eq_true (by omega)) (Lq rfl (Qf (off:=3) (by kernel_rfl) rfl) (Lq rfl (Ql (by kernel_rfl) rfl rfl) (Lq rfl (YF rfl rfl) ?_)))))))
 refine Lq rfl (Qp rfl rfl) (La rfl rfl (Ld (Ts (yH (TS (Lq rfl (Q0 (by kernel_rfl) rfl) ?_))))))
 refine Lq rfl (Ql (by kernel_rfl) rfl rfl) (Lq rfl (yM rfl rfl) (Lm rfl rfl (yT (t:=26) rfl (decide_eq_false (by omega)) (Lq rfl (Q0 (by kernel_rfl) rfl) (Lq rfl (Ql (by kernel_rfl) rfl rfl) (Lq rfl (yZ rfl rfl) (Lq rfl (Qp rfl rfl) ?_)))))))
 refine La rfl rfl (Ld (yL rfl (by omega) (TS (Lq rfl (Qf (off:=1) (by kernel_rfl) rfl) (Lq rfl (Ql (by kernel_rfl) rfl rfl) (Lq rfl (yM rfl rfl) ?_))))))
 refine Lm rfl rfl (yT (t:=35) rfl (decide_eq_false (by omega)) (Lm rfl rfl (Lq rfl (YS rfl) (Lq rfl (Qp rfl rfl) (Lm rfl rfl (yT (t:=39) rfl (decide_eq_false (by omega)) (Lq rfl (Qf (off:=4) (by kernel_rfl) rfl) ?_)))))))
 refine Lq rfl (Ql (by kernel_rfl) rfl rfl) (Lq rfl (yM rfl rfl) (Lq rfl (Qp rfl rfl) (Lm rfl rfl (yT (t:=44) rfl (decide_eq_false (by omega)) (Lq rfl (Qf (off:=4) (by kernel_rfl) rfl) (Lq rfl (Ql (by kernel_rfl) rfl rfl) (Lq rfl (yZ rfl rfl) ?_)))))))
 refine Lq rfl (Qp rfl rfl) (La rfl rfl (Ld (yL rfl (by omega) ?_)))
 by_cases hk3:e.kind=3
 ·
  obtain ⟨z1,z2⟩:=h.three hk3
  have hd:e.data.length=0:=by rw [h.none (by omega)];rfl
  refine Ts (TS (Lq rfl (Q0 (by kernel_rfl) rfl) (Lq rfl (Ql (by kernel_rfl) rfl rfl) (Lq rfl (yU rfl rfl) (Lm rfl rfl (zQ (t:=53) rfl (decide_eq_true (by omega)) ?_))))))
  refine Lq rfl (Qf (off:=2) (by kernel_rfl) rfl) (Lq rfl (Ql (by kernel_rfl) rfl rfl) (Lq rfl (yW rfl rfl) (Lm rfl rfl (yT (t:=57) rfl (decide_eq_false (by omega)) (Lq rfl (Qf (off:=3) (by kernel_rfl) rfl) (Lq rfl (Ql (by kernel_rfl) rfl rfl) (Lq rfl (yW rfl rfl) ?_)))))))
  refine Lq rfl (Qp rfl rfl) (Lq rfl (Qp rfl rfl) (La rfl rfl (Ld (yL rfl (by omega) (TS (Lq rfl (Q0 (by kernel_rfl) rfl) ?_))))))
  refine Lq rfl (Ql (by kernel_rfl) rfl rfl) (Lq rfl (yW rfl rfl) (Lm rfl rfl (yT (t:=66) rfl (decide_eq_false (by omega)) (Ls rfl (Ls rfl (Ls rfl (Lq rfl (Qp rfl rfl) ?_)))))))
  refine La rfl rfl (Ld (yQ rfl (TR (Lq rfl (Q0 (by kernel_rfl) rfl) (Lq rfl (Ql (by kernel_rfl) rfl rfl) (Lq rfl (yW rfl rfl) (Lm rfl rfl ?_)))))))
  refine zQ (t:=74) rfl (decide_eq_true (by omega)) (Lq rfl (Qf (off:=5) (by kernel_rfl) rfl) (Lq rfl (Ql (by kernel_rfl) rfl rfl) (Lq rfl (yI (e:=5) (sz:=1) (by kernel_rfl) rfl) (Lq rfl (yZ rfl rfl) (Lq rfl (Qp rfl rfl) (La rfl rfl (Ld ?_)))))))
  refine yL rfl (by omega) (TS (Lq rfl (Qf (off:=5) (by kernel_rfl) rfl) (Lq rfl (Ql (by kernel_rfl) rfl rfl) (Lq rfl (yI (e:=5) (sz:=1) (by kernel_rfl) rfl) (Lq rfl (yZ rfl rfl) (La rfl rfl ?_))))))
  refine Ld (yL rfl (by omega) (Tk (TS (La rfl rfl (Ld (T.ret ?_))))))
  exact ⟨.inl rfl,_,_,res [_] rfl ⟨rvT rfl,trivial⟩,⟨rfl,rfl⟩,Sa⟩
 have hs:=h.other hk3
 refine Ts (TS (Lq rfl (Q0 (by kernel_rfl) rfl) (Lq rfl (Ql (by kernel_rfl) rfl rfl) (Lq rfl (yU rfl rfl) (Lm rfl rfl (yT (t:=53) rfl (decide_eq_false (by omega)) ?_))))))
 refine Ls rfl (Ls rfl (Ls rfl (Ls rfl (Ls rfl (Ls rfl (Ls rfl (Ls rfl ?_)))))))
 refine Lq rfl (Qp rfl rfl) (La rfl rfl (Ld (yQ rfl (TS (Lq rfl (Q0 (by kernel_rfl) rfl) (Lq rfl (Ql (by kernel_rfl) rfl rfl) ?_))))))
 refine Lq rfl (yW rfl rfl) (Lm rfl rfl (zQ (t:=66) rfl (decide_eq_true (by omega)) (Lq rfl (Qf (off:=4) (by kernel_rfl) rfl) (Lq rfl (Ql (by kernel_rfl) rfl rfl) (Lq rfl (yW rfl rfl) (Lq rfl (Qp rfl rfl) (La rfl rfl ?_)))))))
 refine Ld (yL rfl (by omega) ?_)
 by_cases hk1:e.kind=1
 ·
  refine TR (Lq rfl (Q0 (by kernel_rfl) rfl) (Lq rfl (Ql (by kernel_rfl) rfl rfl) (Lq rfl (yW rfl rfl) (Lm rfl rfl (yT (t:=74) rfl (decide_eq_false (by omega)) (Ls rfl (Ls rfl ?_)))))))
  refine Ls rfl (Ls rfl (Lq rfl (Qp rfl rfl) (La rfl rfl (Ld (yQ rfl (TS ?_))))))
  refine Lq rfl (Qf (off:=5) (by kernel_rfl) rfl) (Lq rfl (Ql (by kernel_rfl) rfl rfl) (Lq rfl (yI (e:=5) (sz:=1) (by kernel_rfl) rfl) (Lq rfl (yZ rfl rfl) (La rfl rfl (Ld (yL rfl (by omega) (Tk ?_)))))))
  refine TS (La rfl rfl (Ld (T.ret ?_)))
  exact ⟨.inl rfl,_,_,res [_] rfl ⟨rvT rfl,trivial⟩,⟨rfl,rfl⟩,Sa⟩
 have hd:e.data.length=0:=by rw [h.none hk1];rfl
 refine TR (Lq rfl (Q0 (by kernel_rfl) rfl) (Lq rfl (Ql (by kernel_rfl) rfl rfl) (Lq rfl (yW rfl rfl) (Lm rfl rfl (zQ (t:=74) rfl (decide_eq_true (by omega)) (Lq rfl (Qf (off:=5) (by kernel_rfl) rfl) (Lq rfl (Ql (by kernel_rfl) rfl rfl) ?_)))))))
 refine Lq rfl (yI (e:=5) (sz:=1) (by kernel_rfl) rfl) (Lq rfl (yZ rfl rfl) (Lq rfl (Qp rfl rfl) (La rfl rfl (Ld (yL rfl (by omega) (TS ?_))))))
 refine Lq rfl (Qf (off:=5) (by kernel_rfl) rfl) (Lq rfl (Ql (by kernel_rfl) rfl rfl) (Lq rfl (yI (e:=5) (sz:=1) (by kernel_rfl) rfl) (Lq rfl (yZ rfl rfl) (La rfl rfl (Ld (yL rfl (by omega) (Tk ?_)))))))
 refine TS (La rfl rfl (Ld (T.ret ?_)))
 exact ⟨.inl rfl,_,_,res [_] rfl ⟨rvT rfl,trivial⟩,⟨rfl,rfl⟩,Sa⟩
open Go.RowKit
theorem encE3 {e:En} (h:e.kind=3):Zj e=UInt8.ofInt e.kind::(be (UInt64.ofInt e.txn) 8++be (UInt64.ofInt e.stamp) 8):=by unfold Zj;rw [if_pos h]
theorem encEn {e:En} (h:e.kind≠3):Zj e=UInt8.ofInt e.kind::(be (UInt64.ofInt e.txn) 8++(be (UInt64.ofInt e.page) 2++(UInt8.ofInt e.slot::e.data))):=by unfold Zj;rw [if_neg h]
theorem Tl.encode (B:Wn) (S:List Wp) (e:En) (p:Option Addr) (c:Nat) (h:EnOk e) (hv:RdV B S (.slice p e.data.length c) (Zb e.data)):Fn Tryz.prog B 122 #[enV e p c] S (fun u l => ∃ q cq,u = .tuple #[.slice q (Zj e).length cq,.int .i64 0]∧(0<(Zj e).length → ∃ g,q=some ⟨g,0,none⟩)∧l=rB (.slice q (Zj e).length cq) (Zj e).length (Zj e)::S):=by
  refine Fn.mono (R:=fun u l=>(∃ q cq,u = .tuple #[.slice q (Zj e).length cq,.int .i64 0]∧l=rB (.slice q (Zj e).length cq) (Zj e).length (Zj e)::S) ∧ ∃ w F,Own B w (l++F)) (Fn.own ?_) ?_
  · obtain ⟨k1,k2⟩:=h.kind
    obtain ⟨t1,t2⟩:=h.txn
    obtain ⟨q1,q2,q3,q4⟩:=h.place
    obtain ⟨s1,s2⟩:=h.stamp
    have hl:=h.long
    have hk8:Value.int .u8 e.kind = .int .u8 (UInt8.ofInt e.kind).toNat:=by rw [u8_int (by omega) (by omega)]
    have hs8:Value.int .u8 e.slot = .int .u8 (UInt8.ofInt e.slot).toNat:=by rw [u8_int (by omega) (by omega)]
    refine Wq 41 Tryz.func122 rfl rfl (nB rfl) (fun F=>?_)
    refine TS ?_
    refine Le rfl (zL [_,_,_,_,_,_] rfl rfl ?_)
    intro g1
    refine La rfl rfl (La rfl rfl (Ld (Ts (TS (Lq rfl (QL [_,_,_,_,_,_] (by kernel_rfl) rfl ⟨rfl,rfl,rfl,rfl,rfl,rfl,trivial⟩) ?_)))))
    refine Le rfl (Ec (Tl.check B e p c h) Tryz.func104 rfl rfl rfl ?_)
    rintro _ _ ⟨rfl,rfl⟩
    try simp only [cA,nA]
    refine La rfl rfl (Ld (TS (Lm rfl rfl (Lq rfl (yW rfl rfl) (Ld (yQ rfl ?_))))))
    refine Tk (TS (Lq rfl (Q0 (by kernel_rfl) rfl) (Lq rfl (Ql (by kernel_rfl) rfl rfl) (Lq rfl (yX (by kernel_rfl) (by kernel_rfl) rfl (wr8 (by omega) (by omega))) ?_))))
    refine Le rfl (zK [_] (e:=5) (sz:=1) (by kernel_rfl) ⟨.int .u8 0,by kernel_rfl,rfl⟩ rfl rfl rfl (by omega) (by omega) ?_)
    intro g14
    refine Lq rfl (Qf (off:=1) (by kernel_rfl) rfl) (Lq rfl (Ql (by kernel_rfl) rfl rfl) (Lq rfl (yX (by kernel_rfl) (by kernel_rfl) rfl (wru64_i64 e.txn)) ?_))
    refine Le rfl (Ec (Cd.put B [blk g14 [.int .u8 e.kind] 5] (.slice (some ⟨g14,0,none⟩) 1 1) [UInt8.ofInt e.kind] 1 rfl (UInt64.ofInt e.txn) 8 8 rfl (by omega) (rdv_blk (C:=[.int .u8 e.kind]) (by rw [hk8];rfl) rfl) (by omega)) Tryz.func101 rfl rfl rfl ?_)
    rintro _ _ ⟨p1,c1,rfl,rfl⟩
    try simp only [cA,nA]
    obtain ⟨b1,hb1⟩ : ∃ b1,UInt8.ofInt e.kind::be (UInt64.ofInt e.txn) 8=b1:=⟨_,rfl⟩
    have hb1l:b1.length=9:=by rw [←hb1];simp [Zd]
    rw [hb1]
    refine La rfl rfl (Ld (Ts (TS (Lq rfl (Q0 (by kernel_rfl) rfl) (Lq rfl (Ql (by kernel_rfl) rfl rfl) (Lq rfl (yU rfl rfl) ?_))))))
    refine Ld ?_
    by_cases hk3:e.kind=3
    · skip
      refine zM rfl (hk3) (T.own fun w ho=>?_)
      have hp1:0<1+8 → ∃ g,p1=some ⟨g,0,none⟩:=(ho.slice_at (p:=p1) (m:=1+8) (c:=c1)).2.1
      clear ho
      refine TS (Lm rfl rfl (Lq rfl (Qf (off:=4) (by kernel_rfl) rfl) (Lq rfl (Ql (by kernel_rfl) rfl rfl) (Lq rfl (yX (by kernel_rfl) (by kernel_rfl) rfl (wru64_i64 e.stamp)) ?_))))
      refine Le rfl (Ec (Cd.put B [rB (.slice p1 (1+8) c1) (1+8) b1] (.slice p1 (1+8) c1) b1 (1+8) hb1l (UInt64.ofInt e.stamp) 8 8 rfl (by omega) (RdV.rB hb1l hp1) (by omega)) Tryz.func101 rfl rfl rfl ?_)
      rintro _ _ ⟨p2,c2,rfl,rfl⟩
      try simp only [cA,nA]
      refine La rfl rfl (La rfl rfl (Ld ?_))
      have hL:(Zj e).length=1+8+8:=by rw [encE3 hk3];simp [Zd]
      have hE:Zj e=b1++be (UInt64.ofInt e.stamp) 8:=by rw [encE3 hk3,←hb1];simp
      refine T.ret ?_
      exact ⟨.inl rfl,_,_,res [_,_] rfl ⟨rvT rfl,rvT rfl,trivial⟩,⟨p2,c2,by rw [hL];rfl,by rw [hL,hE]⟩,Sa⟩
    refine yL rfl (hk3) (T.own fun w ho=>?_)
    have hp1:0<1+8 → ∃ g,p1=some ⟨g,0,none⟩:=(ho.slice_at (p:=p1) (m:=1+8) (c:=c1)).2.1
    clear ho
    refine Tk (Ts (T.draw 10 ([blk g1 [.int .i64 e.kind,.int .i64 e.txn,.int .i64 e.page,.int .i64 e.slot,.int .i64 e.stamp,.slice p e.data.length c] 174]) (by kernel_rfl) (nB rfl) (by kernel_rfl) (Rq 0 rfl rfl (by kernel_rfl) Sa (Qm rfl) (Rq 1 rfl rfl (by kernel_rfl) Sa (Qf (off:=2) (by kernel_rfl) rfl) (Rq 2 rfl rfl (by kernel_rfl) Sa (Ql (by kernel_rfl) rfl rfl) (Rq 3 rfl rfl (by kernel_rfl) Sa (yX (by kernel_rfl) (by kernel_rfl) rfl (wru64_i64 e.page)) (Rq 5 rfl rfl (by kernel_rfl) Sa (Qf (off:=3) (by kernel_rfl) rfl) ?_)))))))
    refine Rq 6 rfl rfl (by kernel_rfl) Sa (Ql (by kernel_rfl) rfl rfl) (Rq 7 rfl rfl (by kernel_rfl) Sa (yX (by kernel_rfl) (by kernel_rfl) rfl (wr8 (by omega) (by omega))) ?_)
    refine YC [4,8] (by kernel_rfl) (List.forall_mem_cons.2 ⟨?_,List.forall_mem_cons.2 ⟨?_,List.forall_mem_nil _⟩⟩)
    · skip
      refine z6 rfl rfl (Ec (Cd.putP B [rB (.slice p1 (1+8) c1) (1+8) b1] (.slice p1 (1+8) c1) b1 (1+8) hb1l (UInt64.ofInt e.page) 2 2 rfl (by omega) (RdV.rB hb1l hp1) (by omega)) Tryz.func101 rfl rfl rfl ?_)
      rintro _ _ ⟨p2,c2,rfl,hp2,rfl⟩
      try simp only [cA,nA]
      refine ⟨Sa,?_⟩
      refine yK 8 (by kernel_rfl) ?_
      refine z6 rfl rfl (zK [_] (e:=5) (sz:=1) (by kernel_rfl) ⟨.int .u8 0,by kernel_rfl,rfl⟩ rfl rfl rfl (by omega) (by omega) ?_)
      intro g35
      refine ⟨Sa,?_⟩
      refine yK 9 (by kernel_rfl) ?_
      refine zY rfl rfl (by kernel_rfl) (Ea Cd.elemB rfl rfl (SrcOf.blk (by kernel_rfl) rfl (by simp [Value.oneCell'])) (by unfold maxLen;omega) (by omega) ?_)
      rintro p3 c3 hp3
      rw [hs8,bytesV_one,←Zt]
      refine Rd0 (by rfl) ?_
      simp only [dS,dZ,dN]
      refine La rfl rfl (Ld (TS (Lm rfl rfl (Lq rfl (Qf (off:=5) (by kernel_rfl) rfl) (Lq rfl (Ql (by kernel_rfl) rfl rfl) ?_)))))
      refine Le rfl (Ea Cd.elemB rfl rfl (SrcOf.rd (m:=e.data.length) (hv.mono (fun w ho=>ho.map Sa)) (by kernel_rfl) (by simp) Zu) (by unfold maxLen;omega) (by omega) ?_)
      rintro p4 c4 hp4
      rw [←Zt]
      refine La rfl rfl (La rfl rfl (Ld ?_))
      have hL:(Zj e).length=1+8+2+1+e.data.length:=by rw [encEn hk3];simp [Zd];omega
      have hE:Zj e=(b1++be (UInt64.ofInt e.page) 2++[UInt8.ofInt e.slot])++e.data:=by rw [encEn hk3,←hb1];simp
      refine T.ret ?_
      exact ⟨.inl rfl,_,_,res [_,_] rfl ⟨rvT rfl,rvT rfl,trivial⟩,⟨p4,c4,by rw [hL];rfl,by rw [hL,hE]⟩,Sa⟩
    refine z6 rfl rfl (zK [_] (e:=5) (sz:=1) (by kernel_rfl) ⟨.int .u8 0,by kernel_rfl,rfl⟩ rfl rfl rfl (by omega) (by omega) ?_)
    intro g35
    refine ⟨Sa,?_⟩
    refine yK 4 (by kernel_rfl) ?_
    refine z6 rfl rfl (Ec (Cd.putP B [rB (.slice p1 (1+8) c1) (1+8) b1] (.slice p1 (1+8) c1) b1 (1+8) hb1l (UInt64.ofInt e.page) 2 2 rfl (by omega) (RdV.rB hb1l hp1) (by omega)) Tryz.func101 rfl rfl rfl ?_)
    rintro _ _ ⟨p2,c2,rfl,hp2,rfl⟩
    try simp only [cA,nA]
    refine ⟨Sa,?_⟩
    refine yK 9 (by kernel_rfl) ?_
    refine zY rfl rfl (by kernel_rfl) (Ea Cd.elemB rfl rfl (SrcOf.blk (by kernel_rfl) rfl (by simp [Value.oneCell'])) (by unfold maxLen;omega) (by omega) ?_)
    rintro p3 c3 hp3
    rw [hs8,bytesV_one,←Zt]
    refine Rd0 (by rfl) ?_
    simp only [dS,dZ,dN]
    refine La rfl rfl (Ld (TS (Lm rfl rfl (Lq rfl (Qf (off:=5) (by kernel_rfl) rfl) (Lq rfl (Ql (by kernel_rfl) rfl rfl) ?_)))))
    refine Le rfl (Ea Cd.elemB rfl rfl (SrcOf.rd (m:=e.data.length) (hv.mono (fun w ho=>ho.map Sa)) (by kernel_rfl) (by simp) Zu) (by unfold maxLen;omega) (by omega) ?_)
    rintro p4 c4 hp4
    rw [←Zt]
    refine La rfl rfl (La rfl rfl (Ld ?_))
    have hL:(Zj e).length=1+8+2+1+e.data.length:=by rw [encEn hk3];simp [Zd];omega
    have hE:Zj e=(b1++be (UInt64.ofInt e.page) 2++[UInt8.ofInt e.slot])++e.data:=by rw [encEn hk3,←hb1];simp
    refine T.ret ?_
    exact ⟨.inl rfl,_,_,res [_,_] rfl ⟨rvT rfl,rvT rfl,trivial⟩,⟨p4,c4,by rw [hL];rfl,by rw [hL,hE]⟩,Sa⟩
  · rintro u l ⟨⟨q,cq,rfl,rfl⟩,w,F,ho⟩
    have ho2:Own B w (rB (.slice q (Zj e).length cq) (Zj e).length (Zj e)::(S++F)):=ho
    exact ⟨q,cq,rfl,(ho2.slice_at (p:=q) (m:=(Zj e).length) (c:=cq)).2.1,rfl⟩
open Go.RowKit
theorem encE_get {e:En} {lo hi:Nat} {x:List UInt8} (h : ∃ a b,Zj e=a++x++b∧a.length=lo∧(a++x).length=hi):((Zj e).take hi).drop lo=x:=by
 obtain ⟨a,b,h1,h2,h3⟩:=h
 rw [h1,List.take_left' h3,List.drop_left' h2]
abbrev enC (e:En) (p:Option Addr) (c:Nat):List Value:=[.int .i64 e.kind,.int .i64 e.txn,.int .i64 e.page,.int .i64 e.slot,.int .i64 e.stamp,.slice p e.data.length c]
theorem get_at {n:Int} {k:Nat} (h0:0≤n) (h1:n<9223372036854775808) (hk:k≤8) (h2:n<((256^k:Nat):Int)):IntKind.i64.wrap ((Wg (be (UInt64.ofInt n) k)).toNat:Int)=n:=by
 rw [get_be h0 h1 hk h2];exact Ze (by omega) h1
theorem rowNilP {e sz:Nat} {l:List Wp} {k:Piece} (H:Has l k):Has (row (.slice none 0 0) e sz 0 []::l) k:=⟨fun _=>none,_,⟨fun _ => .inl rfl⟩,⟨fun _ _ h=>(by cases h)⟩,Piece.le_refl _,⟨by simp,.inl ⟨rfl,rfl⟩⟩,H⟩
theorem enc_head {e:En} {B:Wn} {S:List Wp} {b0 o0 m ca:Nat} (h:EnOk e) (hm:(Zj e).length=m) (hv:RdV B S (.slice (some ⟨b0,o0,none⟩) m ca) (Zb (Zj e))) (hcell : ∀ (j:Nat) (hj:j<(Zb (Zj e)).length) (w:World),Own B w S→w.cell? ⟨b0,o0+j*1,none⟩=some (Zb (Zj e))[j]) : ∀ w,Own B w S→w.cell? ⟨b0,o0,none⟩=some (.int .u8 e.kind):=by
 obtain ⟨k1,k2⟩:=h.kind
 have h0:0<(Zb (Zj e)).length:=by simp [Zb];unfold Zj;simp
 intro w ho
 have:=hcell 0 h0 w ho
 have e0:(Zb (Zj e))[0] = .int .u8 e.kind:=by
  have:(Zb (Zj e))[0]? = some (.int .u8 e.kind):=by
   unfold Zj;simp [Zb,u8_int (n:=e.kind) (by omega) (by omega)]
  rw [List.getElem?_eq_getElem h0] at this
  exact Option.some.inj this
 rw [e0] at this
 simpa using this
theorem enc_txn (e:En):((Zj e).take 9).drop 1=be (UInt64.ofInt e.txn) 8:=encE_get (by unfold Zj;exact ⟨[UInt8.ofInt e.kind],_,by rw [List.singleton_append,List.cons_append],rfl,by simp [Zd]⟩)
theorem Tl.decode3 (B:Wn) (S:List Wp) (t s:Int) (e:En) (he:e=⟨3,t,0,0,s,[]⟩) (a:Option Addr) (m ca:Nat) (h:EnOk e) (hm:(Zj e).length=m) (hmc:m≤ca) (hv:RdV B S (.slice a m ca) (Zb (Zj e))):Fn Tryz.prog B 55 #[.slice a m ca] S (fun u l=>u = .tuple #[enV e none 0,.int .i64 0]∧l=S):=by
 obtain ⟨t1,t2⟩:=h.txn
 obtain ⟨s1,s2⟩:=h.stamp
 have hk3:e.kind=3:=by rw [he]
 have hm17:m=17:=by rw [←hm,encE_len,if_pos hk3]
 obtain ⟨b0,o0,rfl,hcell⟩:=hv.at (by omega)
 have hc0:=enc_head h hm hv hcell
 have htx:=enc_txn e
 have hst:((Zj e).take 17).drop 9=be (UInt64.ofInt e.stamp) 8:=encE_get (by rw [encE3 hk3];exact ⟨UInt8.ofInt e.kind::be (UInt64.ofInt e.txn) 8,[],by simp,by simp [Zd],by simp [Zd]⟩)
 have hbt:=RdV.part hv 1 9 (by omega) hm (by omega) (by omega) (z:=8) rfl
 have hbs:=RdV.part hv 9 17 (by omega) hm (by omega) (by omega) (z:=8) rfl
 rw [htx] at hbt
 rw [hst] at hbs
 have gg1:=get_at (n:=e.txn) (k:=8) (by omega) (by omega) (by omega) (by omega)
 have gg2:=get_at (n:=e.stamp) (k:=8) (by omega) (by omega) (by omega) (by omega)
 have hck:=fun (p:Option Addr) (c:Nat)=>Tl.check B e p c h
 subst he
 dsimp only at hc0 hbt hbs gg1 gg2 t1 t2 s1 s2
 refine Wq 81 Tryz.func55 rfl rfl (nB rfl) (fun F=>?_)
 refine TS ?_
 refine Le rfl (El [.int .i64 0,.int .i64 0,.int .i64 0,.int .i64 0,.int .i64 0,.slice none 0 0] (by unfold Zf;kernel_rfl) ?_)
 intro g2
 refine La rfl rfl (Ld (Ts (TS (Lm rfl rfl (Lq rfl (yI (e:=5) (sz:=1) (by kernel_rfl) rfl) (Lq rfl (yU rfl rfl) ?_))))))
 refine Ld (yL rfl (by omega) (Tk (TS (Lm rfl rfl (Lq rfl (Qi 0 (e:=5) (sz:=1) (by kernel_rfl) rfl rfl rfl (by omega)) (Lq rfl (zN (v := .int .u8 3) (by kernel_rfl) rfl (fun w ho=>hc0 w (ho.map Sa))) ?_))))))
 refine Lq rfl (yX (by kernel_rfl) (by kernel_rfl) rfl (Ze (by omega) (by omega))) (Lq rfl (z8 [(0,1),(1,1),(2,1),(3,1),(4,1),(5,1)] [.int .i64 0,.int .i64 0,.int .i64 0,.int .i64 0,.int .i64 0,.slice none 0 0] [_,_,_,_,_,_] [(0,_)] (by kernel_rfl) (by unfold Zf;kernel_rfl) rfl rfl) ?_)
 refine Le rfl (El [.int .i64 0,.int .i64 0,.int .i64 0,.int .i64 0,.int .i64 0,.slice none 0 0] (by unfold Zf;kernel_rfl) ?_)
 intro g4
 refine L0 rfl (Es [_,_,_,_,_,_] (by kernel_rfl) rfl rfl rfl rfl (by simp) ?_)
 try simp only [splice,lC,lN,dS,cA,tS,tZ,dZ,nA,aN]
 refine Ld (TS (La rfl rfl (Ld (Ts (yH (Ts ?_))))))
 refine TR (Lq rfl (Q0 (by kernel_rfl) rfl) (Lq rfl (Ql (by kernel_rfl) rfl rfl) (Lq rfl (yM rfl rfl) (Lm rfl rfl (yT (t:=20) rfl rfl (Lq rfl (Q0 (by kernel_rfl) rfl) (Lq rfl (Ql (by kernel_rfl) rfl rfl) ?_)))))))
 refine Lq rfl (yZ rfl rfl) (Lq rfl (Qp rfl rfl) (La rfl rfl (Ld (yQ rfl (TS (Lq rfl (Q0 (by kernel_rfl) rfl) ?_))))))
 refine Lq rfl (Ql (by kernel_rfl) rfl rfl) (Lq rfl (yU rfl rfl) (La rfl rfl (Ld (zF rfl (TR (La rfl rfl (Ld ?_)))))))
 refine Ts (yH (TS (Lm rfl rfl (Lq rfl (yI (e:=5) (sz:=1) (by kernel_rfl) rfl) (Lm rfl rfl (Lq rfl (yM rfl rfl) ?_))))))
 refine La rfl rfl (Ld (yL rfl (by omega) (TS (Lq rfl (Q0 (by kernel_rfl) rfl) (Lq rfl (Ql (by kernel_rfl) rfl rfl) (Lq rfl (yW rfl rfl) ?_))))))
 refine Lm rfl rfl (zQ (t:=40) rfl rfl (Lm rfl rfl (Lq rfl (yI (e:=5) (sz:=1) (by kernel_rfl) rfl) (Lm rfl rfl (Lq rfl (yZ rfl rfl) (Lq rfl (Qp rfl rfl) (La rfl rfl ?_)))))))
 refine Ld (yL rfl (by omega) (Tk (TS (Lm rfl rfl (Lq rfl (zS 1 9 (e:=5) (sz:=1) (by kernel_rfl) rfl rfl rfl rfl rfl (by omega) (by omega)) ?_)))))
 refine Le rfl (Ec (Cd.get B _ _ (be (UInt64.ofInt t) 8) hbt (by simp [Zd])) Tryz.func93 rfl rfl rfl ?_)
 rintro _ _ ⟨rfl,rfl⟩
 try simp only [cA,nA]
 refine Lq rfl (yX (by kernel_rfl) (by kernel_rfl) rfl gg1) (Lq rfl (Qf (off:=1) (by kernel_rfl) rfl) ?_)
 refine L0 rfl (E1 (by kernel_rfl) rfl rfl rfl (by first | (simp;done) | (simp;omega)) ?_)
 try simp only [List.set_cons_zero,List.set_cons_succ]
 refine Ld (Ts (TS (Lq rfl (Q0 (by kernel_rfl) rfl) (Lq rfl (Ql (by kernel_rfl) rfl rfl) (Lq rfl (yU rfl rfl) (Ld ?_))))))
 refine zF rfl (TR (Lm rfl rfl (Lq rfl (zS 9 17 (e:=5) (sz:=1) (by kernel_rfl) rfl rfl rfl rfl rfl (by omega) (by omega)) ?_)))
 refine Le rfl (Ec (Cd.get B _ _ (be (UInt64.ofInt s) 8) hbs (by simp [Zd])) Tryz.func93 rfl rfl rfl ?_)
 rintro _ _ ⟨rfl,rfl⟩
 try simp only [cA,nA]
 refine Lq rfl (yX (by kernel_rfl) (by kernel_rfl) rfl gg2) (Lq rfl (Qf (off:=4) (by kernel_rfl) rfl) ?_)
 refine L0 rfl (E1 (by kernel_rfl) rfl rfl rfl (by first | (simp;done) | (simp;omega)) ?_)
 try simp only [List.set_cons_zero,List.set_cons_succ]
 refine Ld (Ts (TS (Lq rfl (QL [_,_,_,_,_,_] (by kernel_rfl) rfl ⟨rfl,rfl,rfl,rfl,rfl,rfl,trivial⟩) ?_)))
 refine Le rfl (Ec (hck none 0) Tryz.func104 rfl rfl rfl ?_)
 rintro _ _ ⟨rfl,rfl⟩
 try simp only [cA,nA]
 refine La rfl rfl (Ld (TS (Lm rfl rfl (Lq rfl (yW rfl rfl) (Ld (yQ rfl ?_))))))
 refine Tk (TS (Lq rfl (QL [_,_,_,_,_,_] (by kernel_rfl) rfl ⟨rfl,rfl,rfl,rfl,rfl,rfl,trivial⟩) ?_))
 refine L0 rfl (Es [_,_,_,_,_,_] (by kernel_rfl) rfl rfl rfl rfl (by simp) ?_)
 try simp only [splice,lC,lN,dS,cA,tS,tZ,dZ,nA,aN]
 refine La rfl rfl (Ld (T.ret ?_))
 exact ⟨.inl rfl,_,_,res [_,_] rfl ⟨rvA [_,_,_,_,_,_] (by kernel_rfl) rfl ⟨rfl,rfl,rfl,rfl,rfl,rfl,trivial⟩,rvT rfl,trivial⟩,⟨rfl,rfl⟩,Sa⟩
theorem Tl.decodeN (B:Wn) (S:List Wp) (k t pg sl:Int) (dat:List UInt8) (hk3:k≠3) (e:En) (he:e=⟨k,t,pg,sl,0,dat⟩) (a:Option Addr) (m ca:Nat) (h:EnOk e) (hm:(Zj e).length=m) (hmc:m≤ca) (hv:RdV B S (.slice a m ca) (Zb (Zj e))):Fn Tryz.prog B 55 #[.slice a m ca] S (fun u l => ∃ p c,u = .tuple #[enV e p c,.int .i64 0]∧l=rB (.slice p e.data.length c) e.data.length e.data::S):=by
 obtain ⟨k1,k2⟩:=h.kind
 obtain ⟨t1,t2⟩:=h.txn
 obtain ⟨q1,q2,q3,q4⟩:=h.place
 have hl:=h.long
 have hkn:e.kind≠3:=by rw [he];exact hk3
 have hmd:m=12+e.data.length:=by rw [←hm,encE_len,if_neg hkn]
 obtain ⟨b0,o0,rfl,hcell⟩:=hv.at (by omega)
 have hc0:=enc_head h hm hv hcell
 have htx:=enc_txn e
 have hpg:((Zj e).take 11).drop 9=be (UInt64.ofInt e.page) 2:=encE_get (by rw [encEn hkn];exact ⟨UInt8.ofInt e.kind::be (UInt64.ofInt e.txn) 8,UInt8.ofInt e.slot::e.data,by simp,by simp [Zd],by simp [Zd]⟩)
 have hdt:(Zj e).drop 12=e.data:=by
  rw [encEn hkn,show UInt8.ofInt e.kind::(be (UInt64.ofInt e.txn) 8++(be (UInt64.ofInt e.page) 2++(UInt8.ofInt e.slot::e.data)))=(UInt8.ofInt e.kind::(be (UInt64.ofInt e.txn) 8++be (UInt64.ofInt e.page) 2++[UInt8.ofInt e.slot]))++e.data by simp,List.drop_left' (by simp [Zd])]
 have hsl : ∀ w,Own B w S→w.cell? ⟨b0,o0+11*1,none⟩=some (.int .u8 e.slot):=fun w ho=>by
  have h11:11<(Zb (Zj e)).length:=by simp [hm];omega
  have:=hcell 11 h11 w ho
  rw [this]
  have:(Zb (Zj e))[11]? = some (.int .u8 e.slot):=by
   rw [encEn hkn,show UInt8.ofInt e.kind::(be (UInt64.ofInt e.txn) 8++(be (UInt64.ofInt e.page) 2++(UInt8.ofInt e.slot::e.data)))=(UInt8.ofInt e.kind::(be (UInt64.ofInt e.txn) 8++be (UInt64.ofInt e.page) 2))++UInt8.ofInt e.slot::e.data by simp]
   unfold Zb
   rw [List.map_append,List.getElem?_append_right (by simp [Zd])]
   simp [Zd,u8_int (n:=e.slot) q3 (by omega)]
  rw [List.getElem?_eq_getElem h11] at this
  exact this
 have hbt:=RdV.part hv 1 9 (by omega) hm (by omega) (by omega) (z:=8) rfl
 have hbp:=RdV.part hv 9 11 (by omega) hm (by omega) (by omega) (z:=2) rfl
 have hbd:=RdV.dropB hv 12 (by omega) hm hmc
 rw [htx] at hbt
 rw [hpg] at hbp
 rw [hdt] at hbd
 have hbl:m-12=e.data.length:=by omega
 rw [hbl] at hbd
 have gg1:=get_at (n:=e.txn) (k:=8) (by omega) (by omega) (by omega) (by omega)
 have gg2:=get_at (n:=e.page) (k:=2) (by omega) (by omega) (by omega) (by omega)
 have hck:=fun (p:Option Addr) (c:Nat)=>Tl.check B e p c h
 have hn1:k≠1→dat.length=0:=fun hk=>by have:=h.none (by rw [he];exact hk);rw [he] at this;simp at this;simp [this]
 subst he
 dsimp only at hc0 hbt hbp hbd gg1 gg2 t1 t2 q1 q2 q3 q4 hsl hmd hl hbl k1 k2
 refine Wq 81 Tryz.func55 rfl rfl (nB rfl) (fun F=>?_)
 try simp only [cA,nA]
 refine TS ?_
 refine Le rfl (El [.int .i64 0,.int .i64 0,.int .i64 0,.int .i64 0,.int .i64 0,.slice none 0 0] (by unfold Zf;kernel_rfl) ?_)
 intro g2
 refine La rfl rfl (Ld (Ts (TS (Lm rfl rfl (Lq rfl (yI (e:=5) (sz:=1) (by kernel_rfl) rfl) (Lq rfl (yU rfl rfl) ?_))))))
 refine Ld (yL rfl (by omega) (Tk (TS (Lm rfl rfl (Lq rfl (Qi 0 (e:=5) (sz:=1) (by kernel_rfl) rfl rfl rfl (by omega)) (Lq rfl (zN (v := .int .u8 k) (by kernel_rfl) rfl (fun w ho=>hc0 w (ho.map Sa))) ?_))))))
 refine Lq rfl (yX (by kernel_rfl) (by kernel_rfl) rfl (Ze (by omega) (by omega))) (Lq rfl (z8 [(0,1),(1,1),(2,1),(3,1),(4,1),(5,1)] [.int .i64 0,.int .i64 0,.int .i64 0,.int .i64 0,.int .i64 0,.slice none 0 0] [_,_,_,_,_,_] [(0,_)] (by kernel_rfl) (by unfold Zf;kernel_rfl) rfl rfl) ?_)
 refine Le rfl (El [.int .i64 0,.int .i64 0,.int .i64 0,.int .i64 0,.int .i64 0,.slice none 0 0] (by unfold Zf;kernel_rfl) ?_)
 intro g4
 refine L0 rfl (Es [_,_,_,_,_,_] (by kernel_rfl) rfl rfl rfl rfl (by simp) ?_)
 try simp only [splice,lC,lN,dS,cA,tS,tZ,dZ,nA,aN]
 refine Ld (TS (La rfl rfl (Ld (Ts (yH (Ts ?_))))))
 refine TR (Lq rfl (Q0 (by kernel_rfl) rfl) (Lq rfl (Ql (by kernel_rfl) rfl rfl) (Lq rfl (yM rfl rfl) (Lm rfl rfl (yT (t:=20) rfl (decide_eq_false (by omega)) (Lq rfl (Q0 (by kernel_rfl) rfl) (Lq rfl (Ql (by kernel_rfl) rfl rfl) ?_)))))))
 refine Lq rfl (yZ rfl rfl) (Lq rfl (Qp rfl rfl) (La rfl rfl (Ld (yL rfl (by omega) (TS (Lq rfl (Q0 (by kernel_rfl) rfl) ?_))))))
 refine Lq rfl (Ql (by kernel_rfl) rfl rfl) (Lq rfl (yU rfl rfl) (La rfl rfl (Ld (yL rfl (hk3) (Tk (Ts (yH ?_)))))))
 refine TS (Lm rfl rfl (Lq rfl (yI (e:=5) (sz:=1) (by kernel_rfl) rfl) (Lm rfl rfl (Lq rfl (yM rfl rfl) (La rfl rfl (Ld ?_))))))
 refine yL rfl (by omega) ?_
 by_cases hk1:k=1
 ·
  refine TS (Lq rfl (Q0 (by kernel_rfl) rfl) (Lq rfl (Ql (by kernel_rfl) rfl rfl) (Lq rfl (yW rfl rfl) (Lm rfl rfl (yT (t:=40) rfl (decide_eq_false (by omega)) (Ls rfl ?_))))))
  refine Ls rfl (Ls rfl (Ls rfl (Lq rfl (Qp rfl rfl) (La rfl rfl (Ld (yQ rfl (Tk ?_)))))))
  refine TS (Lm rfl rfl (Lq rfl (zS 1 9 (e:=5) (sz:=1) (by kernel_rfl) rfl rfl rfl rfl rfl (by omega) (by omega)) ?_))
  refine Le rfl (Ec (Cd.get B _ _ (be (UInt64.ofInt t) 8) hbt (by simp [Zd])) Tryz.func93 rfl rfl rfl ?_)
  rintro _ l2 ⟨rfl,hl2⟩
  rw [hl2]
  clear hl2
  refine Lq rfl (yX (by kernel_rfl) (by kernel_rfl) rfl gg1) (Lq rfl (Qf (off:=1) (by kernel_rfl) rfl) ?_)
  refine L0 rfl (E1 (by kernel_rfl) rfl rfl rfl (by first | (simp;done) | (simp;omega)) ?_)
  try simp only [List.set_cons_zero,List.set_cons_succ]
  refine Ld (Ts (TS (Lq rfl (Q0 (by kernel_rfl) rfl) (Lq rfl (Ql (by kernel_rfl) rfl rfl) (Lq rfl (yU rfl rfl) (Ld ?_))))))
  refine yL rfl (hk3) (Ts (T.draw 10 (S) (by kernel_rfl) (nB rfl) (by kernel_rfl) (Rq 0 rfl rfl (by kernel_rfl) Sa (Qm rfl) (Rq 1 rfl rfl (by kernel_rfl) Sa (zS 9 11 (e:=5) (sz:=1) (by kernel_rfl) rfl rfl rfl rfl rfl (by omega) (by omega)) (Rq 4 rfl rfl (by kernel_rfl) Sa (Qm rfl) (Rq 5 rfl rfl (by kernel_rfl) Sa (Qi 11 (e:=5) (sz:=1) (by kernel_rfl) rfl rfl rfl (by omega)) (Rq 6 rfl rfl (by kernel_rfl) Sa (zN (v := .int .u8 sl) (by kernel_rfl) rfl (fun w ho=>hsl w (ho.map Sa))) ?_)))))))
  refine Rq 7 rfl rfl (by kernel_rfl) Sa (yX (by kernel_rfl) (by kernel_rfl) rfl (Ze (by omega) (by omega))) (yK 2 (by kernel_rfl) ?_)
  refine z6 rfl rfl (Ec (Cd.get B _ _ (be (UInt64.ofInt pg) 2) hbp (by simp [Zd])) Tryz.func93 rfl rfl rfl ?_)
  rintro _ l2 ⟨rfl,hl2⟩
  rw [hl2]
  clear hl2
  refine ⟨Sa,?_⟩
  refine Rq 3 rfl rfl (by kernel_rfl) Sa (yX (by kernel_rfl) (by kernel_rfl) rfl gg2) (Rq 8 rfl rfl (by kernel_rfl) Sa (Qf (off:=2) (by kernel_rfl) rfl) (yK 9 (by kernel_rfl) ?_))
  refine YH rfl rfl (E1 (by kernel_rfl) rfl rfl rfl (by first | (simp;done) | (simp;omega)) ?_)
  try simp only [List.set_cons_zero,List.set_cons_succ]
  refine ⟨Sa,?_⟩
  refine Rd0 (by rfl) ?_
  simp only [dS,dZ,dN]
  refine Lq rfl (Qf (off:=3) (by kernel_rfl) rfl) ?_
  refine L0 rfl (E1 (by kernel_rfl) rfl rfl rfl (by first | (simp;done) | (simp;omega)) ?_)
  try simp only [List.set_cons_zero,List.set_cons_succ]
  refine Ld (TR (Lm rfl rfl (Lq rfl (zP 12 (e:=5) (sz:=1) (by kernel_rfl) rfl rfl rfl (by omega)) ?_)))
  refine Le rfl (Ec (Cd.clone B _ _ dat dat.length rfl (hbl ▸ hbd) (by omega)) Tryz.func103 rfl rfl rfl ?_)
  rintro _ _ ⟨p1,c1,rfl,rfl⟩
  try simp only [cA,nA]
  refine Lq rfl (Qf (off:=5) (by kernel_rfl) rfl) ?_
  refine L0 rfl (E1 (by kernel_rfl) rfl rfl rfl (by first | (simp;done) | (simp;omega)) ?_)
  try simp only [List.set_cons_zero,List.set_cons_succ]
  refine Ld (Ts (TS (Lq rfl (QL [_,_,_,_,_,_] (by kernel_rfl) rfl ⟨rfl,rfl,rfl,rfl,rfl,rfl,trivial⟩) ?_)))
  refine Le rfl (Ec (hck p1 c1) Tryz.func104 rfl rfl rfl ?_)
  rintro _ _ ⟨rfl,rfl⟩
  try simp only [cA,nA]
  refine La rfl rfl (Ld (TS (Lm rfl rfl (Lq rfl (yW rfl rfl) (Ld (yQ rfl ?_))))))
  refine Tk (TS (Lq rfl (QL [_,_,_,_,_,_] (by kernel_rfl) rfl ⟨rfl,rfl,rfl,rfl,rfl,rfl,trivial⟩) ?_))
  refine L0 rfl (Es [_,_,_,_,_,_] (by kernel_rfl) rfl rfl rfl rfl (by simp) ?_)
  try simp only [splice,lC,lN,dS,cA,tS,tZ,dZ,nA,aN]
  refine La rfl rfl (Ld (T.ret ?_))
  exact ⟨.inl rfl,_,_,res [_,_] rfl ⟨rvA [_,_,_,_,_,_] (by kernel_rfl) rfl ⟨rfl,rfl,rfl,rfl,rfl,rfl,trivial⟩,rvT rfl,trivial⟩,⟨p1,c1,rfl,rfl⟩,Sa⟩
 have:=hn1 hk1
 refine TS (Lq rfl (Q0 (by kernel_rfl) rfl) (Lq rfl (Ql (by kernel_rfl) rfl rfl) (Lq rfl (yW rfl rfl) (Lm rfl rfl (zQ (t:=40) rfl (decide_eq_true (by omega)) (Lm rfl rfl ?_))))))
 refine Lq rfl (yI (e:=5) (sz:=1) (by kernel_rfl) rfl) (Lm rfl rfl (Lq rfl (yZ rfl rfl) (Lq rfl (Qp rfl rfl) (La rfl rfl (Ld (yL rfl (by omega) (Tk ?_)))))))
 refine TS (Lm rfl rfl (Lq rfl (zS 1 9 (e:=5) (sz:=1) (by kernel_rfl) rfl rfl rfl rfl rfl (by omega) (by omega)) ?_))
 refine Le rfl (Ec (Cd.get B _ _ (be (UInt64.ofInt t) 8) hbt (by simp [Zd])) Tryz.func93 rfl rfl rfl ?_)
 rintro _ l2 ⟨rfl,hl2⟩
 rw [hl2]
 clear hl2
 refine Lq rfl (yX (by kernel_rfl) (by kernel_rfl) rfl gg1) (Lq rfl (Qf (off:=1) (by kernel_rfl) rfl) ?_)
 refine L0 rfl (E1 (by kernel_rfl) rfl rfl rfl (by first | (simp;done) | (simp;omega)) ?_)
 try simp only [List.set_cons_zero,List.set_cons_succ]
 refine Ld (Ts (TS (Lq rfl (Q0 (by kernel_rfl) rfl) (Lq rfl (Ql (by kernel_rfl) rfl rfl) (Lq rfl (yU rfl rfl) (Ld ?_))))))
 refine yL rfl (hk3) (Ts (T.draw 10 (S) (by kernel_rfl) (nB rfl) (by kernel_rfl) (Rq 0 rfl rfl (by kernel_rfl) Sa (Qm rfl) (Rq 1 rfl rfl (by kernel_rfl) Sa (zS 9 11 (e:=5) (sz:=1) (by kernel_rfl) rfl rfl rfl rfl rfl (by omega) (by omega)) (Rq 4 rfl rfl (by kernel_rfl) Sa (Qm rfl) (Rq 5 rfl rfl (by kernel_rfl) Sa (Qi 11 (e:=5) (sz:=1) (by kernel_rfl) rfl rfl rfl (by omega)) (Rq 6 rfl rfl (by kernel_rfl) Sa (zN (v := .int .u8 sl) (by kernel_rfl) rfl (fun w ho=>hsl w (ho.map Sa))) ?_)))))))
 refine Rq 7 rfl rfl (by kernel_rfl) Sa (yX (by kernel_rfl) (by kernel_rfl) rfl (Ze (by omega) (by omega))) (yK 2 (by kernel_rfl) ?_)
 refine z6 rfl rfl (Ec (Cd.get B _ _ (be (UInt64.ofInt pg) 2) hbp (by simp [Zd])) Tryz.func93 rfl rfl rfl ?_)
 rintro _ l2 ⟨rfl,hl2⟩
 rw [hl2]
 clear hl2
 refine ⟨Sa,?_⟩
 refine Rq 3 rfl rfl (by kernel_rfl) Sa (yX (by kernel_rfl) (by kernel_rfl) rfl gg2) (Rq 8 rfl rfl (by kernel_rfl) Sa (Qf (off:=2) (by kernel_rfl) rfl) (yK 9 (by kernel_rfl) ?_))
 refine YH rfl rfl (E1 (by kernel_rfl) rfl rfl rfl (by first | (simp;done) | (simp;omega)) ?_)
 try simp only [List.set_cons_zero,List.set_cons_succ]
 refine ⟨Sa,?_⟩
 refine Rd0 (by rfl) ?_
 simp only [dS,dZ,dN]
 refine Lq rfl (Qf (off:=3) (by kernel_rfl) rfl) ?_
 refine L0 rfl (E1 (by kernel_rfl) rfl rfl rfl (by first | (simp;done) | (simp;omega)) ?_)
 try simp only [List.set_cons_zero,List.set_cons_succ]
 refine Ld (TR (Lm rfl rfl (Lq rfl (zP 12 (e:=5) (sz:=1) (by kernel_rfl) rfl rfl rfl (by omega)) ?_)))
 refine Le rfl (Ec (Cd.clone B _ _ dat dat.length rfl (hbl ▸ hbd) (by omega)) Tryz.func103 rfl rfl rfl ?_)
 rintro _ _ ⟨p1,c1,rfl,rfl⟩
 try simp only [cA,nA]
 refine Lq rfl (Qf (off:=5) (by kernel_rfl) rfl) ?_
 refine L0 rfl (E1 (by kernel_rfl) rfl rfl rfl (by first | (simp;done) | (simp;omega)) ?_)
 try simp only [List.set_cons_zero,List.set_cons_succ]
 refine Ld (Ts (TS (Lq rfl (QL [_,_,_,_,_,_] (by kernel_rfl) rfl ⟨rfl,rfl,rfl,rfl,rfl,rfl,trivial⟩) ?_)))
 refine Le rfl (Ec (hck p1 c1) Tryz.func104 rfl rfl rfl ?_)
 rintro _ _ ⟨rfl,rfl⟩
 try simp only [cA,nA]
 refine La rfl rfl (Ld (TS (Lm rfl rfl (Lq rfl (yW rfl rfl) (Ld (yQ rfl ?_))))))
 refine Tk (TS (Lq rfl (QL [_,_,_,_,_,_] (by kernel_rfl) rfl ⟨rfl,rfl,rfl,rfl,rfl,rfl,trivial⟩) ?_))
 refine L0 rfl (Es [_,_,_,_,_,_] (by kernel_rfl) rfl rfl rfl rfl (by simp) ?_)
 try simp only [splice,lC,lN,dS,cA,tS,tZ,dZ,nA,aN]
 refine La rfl rfl (Ld (T.ret ?_))
 exact ⟨.inl rfl,_,_,res [_,_] rfl ⟨rvA [_,_,_,_,_,_] (by kernel_rfl) rfl ⟨rfl,rfl,rfl,rfl,rfl,rfl,trivial⟩,rvT rfl,trivial⟩,⟨p1,c1,rfl,rfl⟩,Sa⟩
theorem Tl.decode (B:Wn) (S:List Wp) (e:En) (a:Option Addr) (m ca:Nat) (h:EnOk e) (hm:(Zj e).length=m) (hmc:m≤ca) (hv:RdV B S (.slice a m ca) (Zb (Zj e))):Fn Tryz.prog B 55 #[.slice a m ca] S (fun u l => ∃ p c,u = .tuple #[enV e p c,.int .i64 0]∧l=rB (.slice p e.data.length c) e.data.length e.data::S):=by
  by_cases hk:e.kind=3
  · have h1:=h.three hk
    have h2:=h.none (by omega)
    have he:e=⟨3,e.txn,0,0,e.stamp,[]⟩:=by
      obtain ⟨k,t,p,s,st,d⟩:=e
      dsimp only at *
      simp [hk,h1,h2]
    refine Fn.sub (Tl.decode3 B S e.txn e.stamp e he a m ca h hm hmc hv) ?_
    rintro v l' ⟨rfl,rfl⟩
    refine ⟨_,fun k K=>?_,none,0,rfl,rfl⟩
    rw [h2]
    exact rowNilP K
  · have h1:=h.other hk
    have he:e=⟨e.kind,e.txn,e.page,e.slot,0,e.data⟩:=by
      obtain ⟨k,t,p,s,st,d⟩:=e
      dsimp only at *
      simp [h1]
    exact Tl.decodeN B S e.kind e.txn e.page e.slot e.data hk e he a m ca h hm hmc hv
open Go.RowKit
theorem Has.permS {L M:List Wp} (hp:L.Perm M) : ∀ {h:Piece},Has L h→Has M h:=by
 induction hp with
 | nil=>exact fun H=>H
 | cons A _ ih=>exact fun H=>Wt (fun _=>ih) H
 | swap A A' l=>exact fun H=>Has.swap H
 | trans _ _ ih1 ih2=>exact fun H=>ih2 (ih1 H)
theorem perm_eraseS {α:Type} : ∀ {L:List α} {i:Nat} {A:α},L[i]? = some A→L.Perm (A::L.eraseIdx i)
 | [],_,_,h=>by simp at h
 | B::L,0,A,h=>by simp at h;subst h;exact List.Perm.refl _
 | B::L,i+1,A,h=>((perm_eraseS (L:=L) (i:=i) (by simpa using h)).cons B).trans (List.Perm.swap ..)
theorem set_eraseS {α:Type} : ∀ {L:List α} {i:Nat} (A:α),i<L.length→(L.set i A).eraseIdx i=L.eraseIdx i
 | [],_,_,h=>by simp at h
 | B::L,0,A,_=>rfl
 | B::L,i+1,A,h=>by simp [set_eraseS (L:=L) (i:=i) A (by simpa using h)]
theorem sep_takeS {L l:List Wp} {i:Nat} {A:Wp} (hi:L[i]? = some A) {h:Piece} (H:Has (sepL L::l) h):Has (A::sepL (L.eraseIdx i)::l) h:=by
 obtain ⟨h1,h2,d,a,b,e1,e2⟩:=H
 obtain ⟨k1,k2,d2,a1,a2,hA,f2⟩:=Has.permS (perm_eraseS hi) e1
 have d1:=d.disj_symm.disj_le a1
 have d3:=d.disj_symm.disj_le a2
 exact ⟨k1,Piece.add k2 h2,(Piece.add_disj d2.disj_symm d1).disj_symm,a1.le_trans a,Piece.add_le (a2.le_trans a) b,hA,k2,h2,d3.disj_symm,Piece.le_add_left _ _,Piece.le_add_right d3.disj_symm,f2,e2⟩
theorem sep_putS {L l:List Wp} {i:Nat} {A:Wp} (hi:i<L.length) {h:Piece} (H:Has (A::sepL (L.eraseIdx i)::l) h):Has (sepL (L.set i A)::l) h:=by
 obtain ⟨k1,k0,d0,a1,a0,hA,k2,h2,d3,b1,b2,f2,e2⟩:=H
 have d12:=d0.disj_le b1
 have d1h:=d0.disj_le b2
 refine ⟨Piece.add k1 k2,h2,Piece.add_disj d1h d3,Piece.add_le a1 (b1.le_trans a0),b2.le_trans a0,?_,e2⟩
 refine Has.permS (perm_eraseS (L:=L.set i A) (i:=i) (by rw [List.getElem?_set_self hi])).symm ?_
 rw [set_eraseS A hi]
 exact ⟨k1,k2,d12,Piece.le_add_left _ _,Piece.le_add_right d12,hA,f2⟩
theorem sep_nilS {l:List Wp} {h:Piece} (H:Has l h):Has (sepL []::l) h:=⟨fun _=>none,h,⟨fun _ => .inl rfl⟩,⟨fun _ _ e=>(by cases e)⟩,Piece.le_refl h,trivial,H⟩
theorem sep_pushS {L l:List Wp} {A:Wp} {h:Piece} (H:Has (A::sepL L::l) h):Has (sepL (L++[A])::l) h:=by
 obtain ⟨k1,k0,d0,a1,a0,hA,k2,h2,d3,b1,b2,f2,e2⟩:=H
 have d12:=d0.disj_le b1
 have d1h:=d0.disj_le b2
 refine ⟨Piece.add k1 k2,h2,Piece.add_disj d1h d3,Piece.add_le a1 (b1.le_trans a0),b2.le_trans a0,?_,e2⟩
 exact Has.permS (List.perm_append_singleton A L).symm ⟨k1,k2,d12,Piece.le_add_left _ _,Piece.le_add_right d12,hA,f2⟩
section
variable {P : Program} {B:Wn} {n:Nat} {S l r:List Wp} {f:Fr}
variable {ty : TypeId} {pos:String} {af:Array Edge} {gd:Option (Nat×Bool)}
variable {d : Option Tmp}
theorem Y4 {g:FuncId} {bs:Array Operand} (vs:List Value) (hb:bs.toList.map (ev n f)=vs.map some):Qt P B n S ⟨d,.makeFunc (.func g) #[] bs,ty,pos,af,gd⟩ f (.func (.func g) #[] vs.toArray):=⟨fun w _=>by
 have hav:bs.map (evu n f)=vs.toArray:=by
  have:bs.toList.map (evu n f)=vs:=by
   have e:=congrArg (List.map (fun o:Option Value=>o.getD undef)) hb
   have e2:(fun x=>evu n f x)=evu n f:=rfl
   simp only [List.map_map,Function.comp_def,Option.getD_some,List.map_id'] at e
   exact e
  rw [←Array.toList_inj,Array.toList_map]
  simpa using this
 simp [execOp,hav,Instr.makeFunc]⟩
theorem ZE {d:Option Tmp} {x:Operand} {g:FuncId} {fn:Func} {args:Array Operand} {ats:Array TypeId} {pre F:List Wp} {R:Value→List Wp→Prop} {K:Value→List Wp→Prop} (vs cap:List Value) (hc:Fn P B g (vs++cap).toArray pre R) (hf:P.funcs[g]? = some fn) (hn:(fn.name == "runtime.NumGoroutine")=false) (hb:fn.body.isNone=false)
  (hx:ev n f x=some (.func (.func g) #[] cap.toArray)) (ha:args.toList.map (ev n f)=vs.map some) (hne:(match x with | .func _=>false | _=>true)=true) [k:TakeL pre l F] (h : ∀ v l',R v l'→K v (l'++F)):Ef P B n ⟨d,.call ⟨.value x,args,ats⟩,ty,pos,af,gd⟩ f l K:=⟨fun w next Q ho hk=>by
 have hav:args.map (evu n f)=vs.toArray:=by
  have:args.toList.map (evu n f)=vs:=by
   have e:=congrArg (List.map (fun o:Option Value=>o.getD undef)) ha
   have e2:(fun x=>evu n f x)=evu n f:=rfl
   simp only [List.map_map,Function.comp_def,Option.getD_some,List.map_id'] at e
   exact e
  rw [←Array.toList_inj,Array.toList_map]
  simpa using this
 have h0:=hc.run w F ho.takeL
 unfold Oper.wp execOp
 rw [Wk]
 have he:((do let c ←resolve (evu n f) ⟨.value x,args,ats⟩ ty;invoke c.target c.args):Sem Next).run P w = .ok (.enter g (vs++cap).toArray) w:=by
  simp only [resolve,hav]
  have hn' : ¬ fn.name = "runtime.NumGoroutine" := by simpa using hn
  have hb' : ¬ fn.body=none:=fun e=>by rw [e] at hb;cases hb
  simp [Zc hx,Deferred.ofValue,invoke,callFunc,hf,hn',hb']
 rw [he]
 show Calls P g (vs++cap).toArray w _
 refine Calls.mono h0 ?_
 rintro e w' ⟨v,l',rfl,hR,ho'⟩
 exact hk v w' _ (h v l' hR) ho'⟩
end
open Go.RowKit
theorem splice_setB (off:Nat) (d b:List UInt8) (h:off+d.length≤b.length):splice (Zb b) off (Zb d)=Zb (setB off d b):=by
 unfold splice setB
 simp [Zb,List.map_take,List.map_drop]
theorem length_setB {off:Nat} {d b:List UInt8} (h:off+d.length≤b.length):(setB off d b).length=b.length:=by
 unfold setB;simp;omega
theorem used_set {recs:List (List UInt8)} {j:Nat} {b:List UInt8} (hj:j<recs.length) (h:b.length=recs[j].length):ZO (recs.set j b)=ZO recs:=by
 unfold ZO
 congr 1
 rw [List.map_set]
 apply List.ext_getElem?
 intro i
 rw [List.getElem?_set]
 split
 · rename_i e;subst e;simp [hj,h]
 · rfl
theorem pgok_set {recs:List (List UInt8)} (h:PgOk recs) {j:Nat} {b:List UInt8} (hj:j<recs.length) (hb:b.length=recs[j].length):PgOk (recs.set j b):=by
 refine ⟨by rw [used_set hj hb];exact h.used,fun x hx=>?_⟩
 rcases List.mem_or_eq_of_mem_set hx with hx | rfl
 · exact h.len x hx
 · rw [hb];exact h.len _ (List.getElem_mem _)
theorem rec_set {R:List Rec} {j:Nat} (hj:j<R.length) (b:List UInt8):(R.set j {R[j] with b:=b}).map Rec.b=(R.map Rec.b).set j b:=by rw [List.map_set]
theorem pg_set {g:Nat} {p:Option Addr} {c:Nat} {R:List Rec} {j:Nat} {mark:Int} (hj:j<R.length) {b:List UInt8} (hb:b.length=R[j].b.length) (hok:PgOk (R.map Rec.b)) {l:List Wp} {h:Piece}
    (H:Has (rB (.slice R[j].p R[j].b.length R[j].c) R[j].b.length b::sepL ((R.map recA).eraseIdx j)::pgB g p R.length c mark::pgR p R.length c R::l) h):Has (pgA g ((R.map Rec.b).set j b) mark::l) h:=by
  have hjm:j<(R.map recA).length:=by simpa using hj
  have e1:(R.map recA).set j (rB (.slice R[j].p R[j].b.length R[j].c) R[j].b.length b)=(R.set j {R[j] with b:=b}).map recA:=by
    rw [List.map_set];congr 1;unfold recA;dsimp only;rw [hb]
  have H1:=sep_putS (L:=R.map recA) hjm H
  rw [e1] at H1
  have e2:R.map recV=(R.set j {R[j] with b:=b}).map recV:=by
    rw [List.map_set]
    apply List.ext_getElem?
    intro i
    rw [List.getElem?_set]
    split
    · rename_i e;subst e;simp [hj,hb]
    · rfl
  have H0:Has (recsA (R.set j {R[j] with b:=b})::pgB g p R.length c mark::pgR p R.length c R::l) h:=H1
  have H2:Has (pgB g p R.length c mark::pgR p R.length c R::recsA (R.set j {R[j] with b:=b})::l) h:=Sa h H0
  have e3:(R.set j {R[j] with b:=b}).length=R.length:=by simp
  obtain ⟨h1,h2,d,a1,a2,k1,k2⟩:=Has.split (l:=[pgB g p R.length c mark,pgR p R.length c R,recsA (R.set j {R[j] with b:=b})]) H2
  refine ⟨h1,h2,d,a1,a2,⟨p,c,R.set j {R[j] with b:=b},rec_set hj b,?_,?_⟩,k2⟩
  · exact pgok_set hok (by simpa using hj) (by simpa using hb)
  · rw [e3]
    unfold pgR
    rw [←e2]
    exact k1
theorem Pg.set (B:Wn) (S:List Wp) (g:Nat) (recs:List (List UInt8)) (mark i:Int) (j:Nat) (hi:i=j) (b:List UInt8) (hb:recs[j]? = some b) (off:Nat) (oi:Int) (ho:oi=off) (a:Option Addr) (m c:Nat) (d:List UInt8) (hv:RdV B S (.slice a m c) (Zb d)) (hm:d.length=m) (h0:0<m) (hf:off+m≤b.length) :
  Fn Tryz.prog B 138 #[.pointer (some ⟨g,0,none⟩),.int .i64 i,.int .i64 oi,.slice a m c] (pgA g recs mark::S) (fun v l=>v = .int .i64 0∧l=pgA g (recs.set j (setB off d b)) mark::S):=by
 subst hi;subst ho
 have hjl:=(List.getElem?_eq_some_iff.1 hb).1
 refine Fn.enter4 55 Tryz.func138 rfl rfl (nB rfl) (fun F=>?_)
 try simp only [cA,nA]
 refine TS (La rfl rfl ?_)
 refine Ld (Ts (yH ?_))
 refine TS (Lm rfl rfl ?_)
 refine Lm rfl rfl ?_
 refine Le rfl (Ec (Pg.has B g recs mark j) Tryz.func115 rfl rfl rfl ?_)
 rintro _ _ ⟨rfl,rfl⟩
 try simp only [cA,nA]
 refine Lq rfl (YS rfl) (La rfl rfl (Ld ?_))
 refine yL rfl ((by omega)) ?_
 refine Y3 g recs mark (fun p c2 R hR hok hro hlen hp=>?_)
 subst hR
 have hj2:j<R.length:=by simpa using hjl
 obtain ⟨gp,rfl⟩:=hp (by omega)
 have hl:=hok.len (R[j]).b (List.mem_map_of_mem (List.getElem_mem _))
 have e:R[j].b=b:=by rw [List.getElem?_map,List.getElem?_eq_getElem hj2] at hb;exact Option.some.inj hb
 have el:R[j].b.length=b.length:=by rw [e]
 have hml:(R.map Rec.b).length=R.length:=by simp
 obtain ⟨gr,hgr⟩:=hro j hj2 (by omega)
 refine TS (Lm rfl rfl ?_)
 refine Lq rfl (yM rfl rfl) (Lm rfl rfl (yT (t:=17) rfl rfl ?_))
 refine Lm rfl rfl (Lm rfl rfl (Lq rfl (Qn rfl) ?_))
 refine Lq rfl (Q0 (by kernel_rfl) rfl) (Lq rfl (Ql (by kernel_rfl) rfl rfl) (Lm rfl rfl ?_))
 refine Lq rfl (Qi _ (e:=108) (sz:=1) (by kernel_rfl) rfl rfl rfl (by omega)) (Lq rfl (Ql (by kernel_rfl) rfl (map_at _ _ _ (by omega))) (Lq rfl (yI (e:=5) (sz:=1) (by kernel_rfl) rfl) ?_))
 refine Lq rfl (yZ rfl rfl) (Lq rfl (Qp rfl rfl) (Lm rfl rfl ?_))
 refine yT (t:=29) rfl (decide_eq_false (by omega)) (Lm rfl rfl (Lq rfl (yI (e:=5) (sz:=1) (by kernel_rfl) rfl) ?_))
 refine Lm rfl rfl (Lq rfl (Qn rfl) (Lq rfl (Q0 (by kernel_rfl) rfl) ?_))
 refine Lq rfl (Ql (by kernel_rfl) rfl rfl) (Lm rfl rfl (Lq rfl (Qi _ (e:=108) (sz:=1) (by kernel_rfl) rfl rfl rfl (by omega)) ?_))
 refine Lq rfl (Ql (by kernel_rfl) rfl (map_at _ _ _ (by omega))) (Lq rfl (yI (e:=5) (sz:=1) (by kernel_rfl) rfl) (Lm rfl rfl ?_))
 refine Lq rfl (Qt.sub rfl rfl (Ze (by omega) (by omega))) (Lq rfl (yZ rfl rfl) (Lq rfl (Qp rfl rfl) ?_))
 refine La rfl rfl (Ld (yL rfl (by omega) ?_))
 have htk : ∀ k,Has (recsA R::pgB g (some ⟨gp,0,none⟩) R.length c2 mark::pgR (some ⟨gp,0,none⟩) R.length c2 R::(S++F)) k→Has (rB (.slice (some ⟨gr,0,none⟩) b.length R[j].c) b.length b::sepL ((R.map recA).eraseIdx j)::pgB g (some ⟨gp,0,none⟩) R.length c2 mark::pgR (some ⟨gp,0,none⟩) R.length c2 R::(S++F)) k:=fun k K=>by have:=sep_takeS (L:=R.map recA) (i:=j) (A:=recA R[j]) (by rw [List.getElem?_map,List.getElem?_eq_getElem hj2];rfl) K;unfold recA at this;rw [hgr,e] at this;exact this
 refine T.conv (l':=rB (.slice (some ⟨gr,0,none⟩) b.length R[j].c) b.length b::sepL ((R.map recA).eraseIdx j)::pgB g (some ⟨gp,0,none⟩) R.length c2 mark::pgR (some ⟨gp,0,none⟩) R.length c2 R::(S++F)) (fun w ho=>ho.map fun k K=>htk k (Sa k K)) (T.own fun w ho=>?_)
 have hcap:=ho.cap_at (p:=some ⟨gr,0,none⟩) (m:=b.length) (c:=R[j].c)
 clear ho
 have hrv:recV R[j] = .slice (some ⟨gr,0,none⟩) b.length R[j].c:=by rw [show recV R[j] = .slice R[j].p R[j].b.length R[j].c from rfl,hgr,e]
 refine Tk (TS ?_)
 refine Lm rfl rfl (Lq rfl (Qn rfl) (Lq rfl (Q0 (by kernel_rfl) rfl) ?_))
 refine Lq rfl (Ql (by kernel_rfl) rfl rfl) (Lm rfl rfl (Lq rfl (Qi _ (e:=108) (sz:=1) (by kernel_rfl) rfl rfl rfl (by omega)) ?_))
 refine Lq rfl (Ql (v := .slice (some ⟨gr,0,none⟩) b.length R[j].c) (by kernel_rfl) rfl (by rw [map_at _ _ _ (by omega),hrv])) (Lm rfl rfl (Lq rfl (YB off (some ⟨gr,off,none⟩) (b.length-off) (R[j].c-off) (e:=5) (sz:=1) (by kernel_rfl) rfl rfl rfl (by omega) (by rw [offA_some (by omega)];simp) rfl rfl) ?_))
 refine Lm rfl rfl ?_
 refine Le rfl (YI (e:=5) (cs:=Zb d) (src:=Zb d) (by kernel_rfl) rfl rfl (hv.mono (fun w ho=>ho.map Sa)) m (by exact (Nat.min_eq_left (by omega)).symm) h0 (by rw [List.take_of_length_le (by simp [hm])]) (by simp [hm]) Zu (by simp;omega) ?_)
 rw [splice_setB off d b (by omega)]
 refine Ld (TS ?_)
 refine La rfl rfl (Ld ?_)
 have hlb:=length_setB (off:=off) (d:=d) (b:=b) (by omega)
 have hpgs:=fun h:Piece=>pg_set (h:=h) (g:=g) (p:=some ⟨gp,0,none⟩) (c:=c2) (R:=R) (mark:=mark) hj2 (b:=setB off d b) (by rw [hlb,e]) hok (l:=S++F)
 rw [hgr,e] at hpgs
 refine T.ret ?_
 exact ⟨.inl rfl,_,_,res [_] rfl ⟨rvT rfl,trivial⟩,⟨rfl,rfl⟩,(fun h H=>hpgs h (Sa h H))⟩
open Go.RowKit
abbrev pV (g:Nat):Value := .pointer (some ⟨g,0,none⟩)
abbrev enB (g:Nat) (e:En) (p:Option Addr) (c:Nat):Wp:=blk g (enC e p c) 174
abbrev newB (t:Int) (d:List UInt8):List UInt8:=be (UInt64.ofInt t) 8++be (UInt64.ofInt 0) 8++d
theorem Hp.applyAdd (B:Wn) (S:List Wp) (v:Value) (g:Nat) (recs:List (List UInt8)) (m:Int) (e:En) (p:Option Addr) (c:Nat) (he:EnOk e) (hk:e.kind=1) (hv:RdV B S (.slice p e.data.length c) (Zb e.data)) (hs:e.slot=recs.length) (hd:e.data.length≤184) (hu:ZO recs+17+e.data.length≤243) :
  Fn Tryz.prog B 106 #[v,pV g,enV e p c] (pgA g recs m::S) (fun u l=>u = .int .i64 0∧l=pgA g (recs++[newB e.txn e.data]) m::S):=by
 obtain ⟨t1,t2⟩:=he.txn
 refine Ws 39 Tryz.func106 rfl rfl (nB rfl) (fun F=>?_)
 try simp only [cA,nA]
 refine TS ?_
 refine Le rfl (zL [_,_,_,_,_,_] rfl rfl ?_)
 intro g5
 refine La rfl rfl (Ld (Ts (TS (Lq rfl (Q0 (by kernel_rfl) rfl) (Lq rfl (Ql (by kernel_rfl) rfl rfl) (Lq rfl (yU rfl rfl) ?_))))))
 refine Ld (yL rfl (by omega) (Tk (Ts (Ts (zW 5 none (by kernel_rfl) (nB rfl) (by kernel_rfl) (Rq 0 rfl rfl (by kernel_rfl) Sa (Qf (off:=3) (by kernel_rfl) rfl) (Rq 1 rfl rfl (by kernel_rfl) Sa (Ql (by kernel_rfl) rfl rfl) ?_)))))))
 refine Rq 2 rfl rfl (by kernel_rfl) Sa (Qm rfl) (yK 3 (by kernel_rfl) ?_)
 refine z6 rfl rfl (Ec (Pg.count B g recs m) Tryz.func60 rfl rfl rfl ?_)
 rintro _ _ ⟨rfl,rfl⟩
 try simp only [cA,nA]
 refine ⟨Sa,?_⟩
 refine Rq 4 rfl rfl (by kernel_rfl) Sa (yW rfl rfl) (Rd0 (by rfl) ?_)
 simp only [dS,dZ,dN]
 refine Ld (yL rfl (by omega) (Tk (Ts (T.draw 14 ([enB g5 e p c]) (by kernel_rfl) (nB rfl) (by kernel_rfl) (Rq 0 rfl rfl (by kernel_rfl) Sa (Qm rfl) (Rq 1 rfl rfl (by kernel_rfl) Sa (Qf (off:=1) (by kernel_rfl) rfl) (Rq 2 rfl rfl (by kernel_rfl) Sa (Ql (by kernel_rfl) rfl rfl) ?_)))))))
 refine Rq 3 rfl rfl (by kernel_rfl) Sa (yX (by kernel_rfl) (by kernel_rfl) rfl (wru64_i64 e.txn)) (Rq 6 rfl rfl (by kernel_rfl) Sa (Qf (off:=5) (by kernel_rfl) rfl) (Rq 7 rfl rfl (by kernel_rfl) Sa (Ql (by kernel_rfl) rfl rfl) (yK 4 (by kernel_rfl) ?_)))
 refine z6 rfl rfl (Ec (Cd.putP B [] (.slice none 0 0) [] 0 rfl (UInt64.ofInt e.txn) 8 8 rfl (by omega) (RdV.nil _ 0) (by omega)) Tryz.func101 rfl rfl rfl ?_)
 rintro _ _ ⟨p1,c1,rfl,hp1,rfl⟩
 try simp only [cA,nA]
 simp only [Nat.zero_add,List.nil_append]
 simp only [Nat.zero_add] at hp1
 refine ⟨Sa,?_⟩
 refine yK 5 (by kernel_rfl) ?_
 refine z6 rfl rfl (Ec (Cd.putP B [rB (.slice p1 8 c1) 8 (be (UInt64.ofInt e.txn) 8)] (.slice p1 8 c1) (be (UInt64.ofInt e.txn) 8) 8 (Zd _ _) (UInt64.ofInt 0) 8 8 rfl (by omega) (RdV.rB (Zd _ _) hp1) (by omega)) Tryz.func101 rfl rfl rfl ?_)
 rintro _ _ ⟨p2,c2,rfl,hp2,rfl⟩
 try simp only [cA,nA]
 simp only [Nat.reduceAdd] at hp2
 simp only [Nat.reduceAdd]
 refine ⟨Sa,?_⟩
 refine yK 8 (by kernel_rfl) ?_
 refine zY rfl rfl (by kernel_rfl) (Ea Cd.elemB rfl rfl (SrcOf.rd (m:=e.data.length) (hv.mono (fun w ho=>ho.map Sa)) (by kernel_rfl) (by simp) Zu) (by unfold maxLen;omega) (by omega) ?_)
 rintro p3 c3 hp3
 rw [←Zt]
 have hL:(newB e.txn e.data).length=16+e.data.length:=by simp [Zd];omega
 refine yK 9 (by kernel_rfl) ?_
 refine zY rfl rfl (by kernel_rfl) (Ec (Pg.add B [rB (.slice p3 (16+e.data.length) c3) (16+e.data.length) (newB e.txn e.data)] g recs m p3 (16+e.data.length) c3 (newB e.txn e.data) (RdV.rB hL hp3) hL (by omega) (by omega)) Tryz.func139 rfl rfl rfl ?_)
 rintro _ _ ⟨rfl,rfl⟩
 try simp only [cA,nA]
 refine Rq 10 rfl rfl (by kernel_rfl) (Sr _) (Qm rfl) (Rq 11 rfl rfl (by kernel_rfl) (Sr _) (Qx rfl rfl) (Rq 12 rfl rfl (by kernel_rfl) (Sr _) (Qx rfl rfl) (Rq 13 rfl rfl (by kernel_rfl) (Sr _) (Qa rfl) (Rd0 (by rfl) ?_))))
 simp only [dS,dZ,dN]
 refine La rfl rfl (Ld (TS (Lm rfl rfl (La rfl rfl (Ld (T.ret ?_))))))
 exact ⟨.inl rfl,_,_,res [_] rfl ⟨rvT rfl,trivial⟩,⟨rfl,rfl⟩,Sa⟩
theorem Hp.applyEnd (B:Wn) (S:List Wp) (v:Value) (g:Nat) (recs:List (List UInt8)) (m:Int) (e:En) (p:Option Addr) (c:Nat) (he:EnOk e) (hk:e.kind=2) (j:Nat) (hs:e.slot=j) (b:List UInt8) (hb:recs[j]? = some b) (hl:16≤b.length) :
  Fn Tryz.prog B 106 #[v,pV g,enV e p c] (pgA g recs m::S) (fun u l=>u = .int .i64 0∧l=pgA g (recs.set j (setB 8 (be (UInt64.ofInt e.txn) 8) b)) m::S):=by
 obtain ⟨t1,t2⟩:=he.txn
 refine Ws 39 Tryz.func106 rfl rfl (nB rfl) (fun F=>?_)
 try simp only [cA,nA]
 refine TS ?_
 refine Le rfl (zL [_,_,_,_,_,_] rfl rfl ?_)
 intro g5
 refine La rfl rfl (Ld (Ts (TS (Lq rfl (Q0 (by kernel_rfl) rfl) (Lq rfl (Ql (by kernel_rfl) rfl rfl) (Lq rfl (yU rfl rfl) ?_))))))
 refine Ld (zM rfl (by omega) (Ts (T.draw 8 ([enB g5 e p c]) (by kernel_rfl) (nB rfl) (by kernel_rfl) (Rq 0 rfl rfl (by kernel_rfl) Sa (Qm rfl) (Rq 1 rfl rfl (by kernel_rfl) Sa (Qf (off:=3) (by kernel_rfl) rfl) (Rq 2 rfl rfl (by kernel_rfl) Sa (Ql (by kernel_rfl) rfl rfl) (Rq 3 rfl rfl (by kernel_rfl) Sa (Qf (off:=1) (by kernel_rfl) rfl) ?_)))))))
 refine Rq 4 rfl rfl (by kernel_rfl) Sa (Ql (by kernel_rfl) rfl rfl) (Rq 5 rfl rfl (by kernel_rfl) Sa (yX (by kernel_rfl) (by kernel_rfl) rfl (wru64_i64 e.txn)) (yK 6 (by kernel_rfl) ?_))
 refine z6 rfl rfl (Ec (Cd.putP B [] (.slice none 0 0) [] 0 rfl (UInt64.ofInt e.txn) 8 8 rfl (by omega) (RdV.nil _ 0) (by omega)) Tryz.func101 rfl rfl rfl ?_)
 rintro _ _ ⟨p1,c1,rfl,hp1,rfl⟩
 try simp only [cA,nA]
 simp only [Nat.zero_add,List.nil_append]
 simp only [Nat.zero_add] at hp1
 refine ⟨Sa,?_⟩
 refine yK 7 (by kernel_rfl) ?_
 refine zY rfl rfl (by kernel_rfl) (Ec (Pg.set B [rB (.slice p1 8 c1) 8 (be (UInt64.ofInt e.txn) 8)] g recs m e.slot j hs b hb 8 8 rfl p1 8 c1 (be (UInt64.ofInt e.txn) 8) (RdV.rB (Zd _ _) hp1) (Zd _ _) (by omega) (by omega)) Tryz.func138 rfl rfl rfl ?_)
 rintro _ _ ⟨rfl,rfl⟩
 try simp only [cA,nA]
 refine Rd0 (by rfl) ?_
 simp only [dS,dZ,dN]
 refine La rfl rfl (Ld (T.ret ?_))
 exact ⟨.inl rfl,_,_,res [_] rfl ⟨rvT rfl,trivial⟩,⟨rfl,rfl⟩,Sa⟩
open Go.RowKit
abbrev srcB (g:Nat) (pb:Option Addr) (m cb at_:Nat):Wp:=blk g [.slice pb m cb,.int .i64 at_] 256
theorem Cx.next (B:Wn) (S:List Wp) (g:Nat) (pb:Option Addr) (m cb at_:Nat) (bs:List UInt8) (x:UInt8) (hm:bs.length=m) (hx:bs[at_]? = some x) (hv:RdV B S (.slice pb m cb) (Zb bs)) (hmx:m<2^40) :
  Fn Tryz.prog B 117 #[pV g] (srcB g pb m cb at_::S) (fun u l=>u = .int .u8 x.toNat∧l=srcB g pb m cb (at_+1)::S):=by
 obtain ⟨hat,hxe⟩:=List.getElem?_eq_some_iff.1 hx
 obtain ⟨gb,o,rfl,hr⟩:=hv.at (by omega)
 refine Wq 38 Tryz.func117 rfl rfl (nB rfl) (fun F=>?_)
 try simp only [cA,nA]
 refine TS (La rfl rfl (Ld (Ts (Ts (T.draw 10 ([srcB g (some ⟨gb,o,none⟩) m cb at_]) (by kernel_rfl) (nB rfl) (by kernel_rfl) (Rq 0 rfl rfl (by kernel_rfl) Sa (Qm rfl) ?_))))))
 refine Rq 1 rfl rfl (by kernel_rfl) Sa (Qn rfl) (Rq 2 rfl rfl (by kernel_rfl) Sa (Qf (off:=1) (by kernel_rfl) rfl) (Rq 3 rfl rfl (by kernel_rfl) Sa (Ql (by kernel_rfl) rfl rfl) (Rq 4 rfl rfl (by kernel_rfl) Sa (Qm rfl) (Rq 5 rfl rfl (by kernel_rfl) Sa (Qn rfl) (Rq 6 rfl rfl (by kernel_rfl) Sa (Q0 (by kernel_rfl) rfl) (Rq 7 rfl rfl (by kernel_rfl) Sa (Ql (by kernel_rfl) rfl rfl) (Rq 8 rfl rfl (by kernel_rfl) Sa (yI (e:=5) (sz:=1) (by kernel_rfl) rfl) ?_)))))))
 refine Rq 9 rfl rfl (by kernel_rfl) Sa (yU rfl rfl) (Rd0 (by rfl) ?_)
 simp only [dS,dZ,dN]
 refine Ld (yL rfl (by omega) (Tk (TS (Lm rfl rfl (Lq rfl (Qn rfl) (Lq rfl (Qf (off:=1) (by kernel_rfl) rfl) ?_))))))
 refine Lq rfl (Ql (by kernel_rfl) rfl rfl) (Lq rfl (Qd rfl rfl (Ze (by omega) (by omega))) (Lq rfl (Qn rfl) (Lq rfl (Qf (off:=1) (by kernel_rfl) rfl) ?_)))
 refine L0 rfl (E1 (by kernel_rfl) rfl rfl rfl (by first | (simp;done) | (simp;omega)) ?_)
 try simp only [List.set_cons_zero,List.set_cons_succ]
 rw [show ((at_:Int)+1)=((at_+1:Nat):Int) from rfl]
 refine Ld (Ts (zU 11 (by kernel_rfl) (nB rfl) (by kernel_rfl) (Rq 0 rfl rfl (by kernel_rfl) (Sr _) (Qm rfl) (Rq 1 rfl rfl (by kernel_rfl) (Sr _) (Qn rfl) (Rq 2 rfl rfl (by kernel_rfl) (Sr _) (Q0 (by kernel_rfl) rfl) (Rq 3 rfl rfl (by kernel_rfl) (Sr _) (Ql (by kernel_rfl) rfl rfl) (Rq 4 rfl rfl (by kernel_rfl) (Sr _) (Qm rfl) ?_)))))))
 refine Rq 5 rfl rfl (by kernel_rfl) (Sr _) (Qn rfl) (Rq 6 rfl rfl (by kernel_rfl) (Sr _) (Qf (off:=1) (by kernel_rfl) rfl) (Rq 7 rfl rfl (by kernel_rfl) (Sr _) (Ql (by kernel_rfl) rfl rfl) (Rq 8 rfl rfl (by kernel_rfl) (Sr _) (Qt.sub rfl rfl (Ze (by omega) (by omega))) (Rq 9 rfl rfl (by kernel_rfl) (Sr _) (Qi at_ (e:=5) (sz:=1) (by kernel_rfl) rfl rfl (by omega) (by omega)) (Rq 10 rfl rfl (by kernel_rfl) (Sr _) (zN (v := .int .u8 x.toNat) (by kernel_rfl) rfl (fun w ho=>(hr at_ (by simp;omega) w (ho.map Sa)).trans (by simp [Zb,hxe]))) (Rd0 (by rfl) ?_))))))
 simp only [dS,dZ,dN]
 refine La rfl rfl (Ld (T.ret ?_))
 exact ⟨.inl rfl,_,_,res [_] rfl ⟨rvT rfl,trivial⟩,⟨rfl,rfl⟩,Sa⟩
theorem drop_get {bs:List UInt8} {p:Nat} {y:UInt8} {r:List UInt8} (h:bs.drop p=y::r):bs[p]? = some y:=by
 have:=congrArg (fun l=>l[0]?) h
 simpa using this
theorem drop_more {bs a r:List UInt8} {p:Nat} (h:bs.drop p=a++r):bs.drop (p+a.length)=r:=by
 rw [←List.drop_drop,h,List.drop_left' rfl]
theorem Cx.text (B:Wn) (S:List Wp) (g:Nat) (pb:Option Addr) (m cb at_:Nat) (bs s rest:List UInt8) (hm:bs.length=m) (hd:bs.drop at_=escB s++0::0::rest) (hs:s.length≤64) (hv:RdV B S (.slice pb m cb) (Zb bs)) (hmx:m<2^40) :
  Fn Tryz.prog B 118 #[pV g] (srcB g pb m cb at_::S) (fun u l=>u=strW s∧l=srcB g pb m cb (at_+(escB s).length+2)::S):=by
 have hlen:=congrArg List.length hd
 simp only [List.length_drop,List.length_append,List.length_cons] at hlen
 refine Wq 50 Tryz.func118 rfl rfl (nB rfl) (fun F=>?_)
 try simp only [cA,nA]
 refine TS (La rfl rfl (Ld (TS (La rfl rfl (Ld ?_)))))
 refine TS (Lm rfl rfl (Lq rfl (Qn rfl) (Lq rfl (Qf (off:=1) (by kernel_rfl) rfl) (Lq rfl (Ql (by kernel_rfl) rfl rfl) (Lq rfl (Qt.sub rfl rfl (Ze (by omega) (by omega))) (La rfl rfl ?_))))))
 refine Ld (yH (T.conv (l':=rB (.slice none 0 0) 0 (s.take 0)::_) (fun w ho=>ho.row_nil _ _) ?_))
 refine zG (fun mz fz lz => ∃ (f0:Fr) (j q:Nat) (p:Option Addr) (c:Nat),(j≤s.length∧q=at_+(escB (s.take j)).length∧(0<j → ∃ g,p=some ⟨g,0,none⟩))∧mz=s.length+1-j∧fz=(upd (upd f0 0 (pV g)) 3 (.slice p j c))∧lz=rB (.slice p j c) j (s.take j)::srcB g pb m cb q::S++F) ?_ ?_
 · refine ⟨_,_,⟨_,0,at_,none,0,⟨Nat.zero_le _,rfl,fun h=>by omega⟩,rfl,(Za rfl (Za rfl rfl)),rfl⟩,Sa⟩
 rintro mz fz lz ⟨f0,j,q,p,c,⟨hj,hq,hp⟩,hmz,rfl,rfl⟩
 subst mz
 try simp only [cA,nA]
 have hsplit:escB s=escB (s.take j)++escB (s.drop j):=by rw [←escB_app,List.take_append_drop]
 have hdq:bs.drop q=escB (s.drop j)++0::0::rest:=by rw [hq];exact drop_more (a:=escB (s.take j)) (by rw [hd,hsplit,List.append_assoc])
 by_cases hlt:j<s.length
 ·
  have hdj:s.drop j=s[j]::s.drop (j+1):=List.drop_eq_getElem_cons hlt
  obtain ⟨x,hx⟩ : ∃ x,s[j]=x:=⟨_,rfl⟩
  have hen:=esc_next hlt
  have htk:s.take (j+1)=s.take j++[x]:=by rw [List.take_succ_eq_append_getElem hlt,hx]
  rw [hx] at hdj hen
  rw [hdj,escB_cons] at hdq
  by_cases hx0:x=0
  ·
   subst hx0
   rw [if_pos rfl] at hdq hen
   refine yH (TS (Lm rfl rfl ?_))
   refine Le rfl (Ec (Cx.next B S g pb m cb q bs 0 hm (drop_get hdq) hv hmx) Tryz.func117 rfl rfl rfl ?_)
   rintro _ _ ⟨rfl,rfl⟩
   try simp only [cA,nA]
   refine La rfl rfl (Ld (Ts (TS (Lm rfl rfl (Lq rfl (yU rfl rfl) (Ld ?_))))))
   refine zF rfl (TS (Lm rfl rfl ?_))
   refine Le rfl (Ec (Cx.next B S g pb m cb (q+1) bs 255 hm (drop_get (drop_more (a:=[0]) hdq)) hv hmx) Tryz.func117 rfl rfl rfl ?_)
   rintro _ _ ⟨rfl,rfl⟩
   try simp only [cA,nA]
   refine La rfl rfl (Ld (yH (TS (Lm rfl rfl (Lq rfl (yU rfl rfl) (Lm rfl rfl ?_))))))
   refine yT (t:=21) rfl rfl (Ls rfl (Ls rfl (Ls rfl (Lq rfl (Qp rfl rfl) (La rfl rfl (Ld (yQ rfl ?_)))))))
   refine TS (Lm rfl rfl (Lq rfl (yU rfl rfl) (La rfl rfl (Ld (yQ rfl (Ts ?_))))))
   refine TR (Lm rfl rfl (Lq rfl (yW rfl rfl) (La rfl rfl (Ld (yQ rfl (Tk (TR ?_)))))))
   refine Lm rfl rfl (Lm rfl rfl ?_)
   refine Le rfl (zK [_] (e:=5) (sz:=1) (by kernel_rfl) ⟨.int .u8 0,by kernel_rfl,rfl⟩ rfl rfl rfl (by omega) (by omega) ?_)
   intro g48
   refine Le rfl (Ea Cd.elemB rfl rfl (SrcOf.blk (by kernel_rfl) rfl (by simp [Value.oneCell'])) (by unfold maxLen;omega) (by omega) ?_)
   rintro p1 c1 hp1
   rw [show Zb (s.take j)++[Value.int .u8 (0:UInt8).toNat]=Zb (s.take (j+1)) by rw [htk];exact bytes_app (s.take j) [0]]
   refine La rfl rfl (Ld ?_)
   refine ⟨_,?_,_,⟨_,j+1,q+1+1,p1,c1,⟨by omega,by rw [hen,hq,List.length_append];simp;omega,hp1⟩,rfl,(Za rfl (Za rfl rfl)),rfl⟩,Sa⟩
   omega
  have hxn : ¬ ((x.toNat:Nat):Int)=0:=fun e=>hx0 (by apply UInt8.toNat_inj.1;show x.toNat=0;omega)
  rw [if_neg hx0] at hdq hen
  refine yH (TS (Lm rfl rfl ?_))
  refine Le rfl (Ec (Cx.next B S g pb m cb q bs x hm (drop_get hdq) hv hmx) Tryz.func117 rfl rfl rfl ?_)
  rintro _ _ ⟨rfl,rfl⟩
  try simp only [cA,nA]
  refine La rfl rfl (Ld (Ts (TS (Lm rfl rfl (Lq rfl (yU rfl rfl) (Ld ?_))))))
  refine yL rfl (by omega) (Tk (TR (Lm rfl rfl (Lm rfl rfl ?_))))
  refine Le rfl (zK [_] (e:=5) (sz:=1) (by kernel_rfl) ⟨.int .u8 0,by kernel_rfl,rfl⟩ rfl rfl rfl (by omega) (by omega) ?_)
  intro g48
  refine Le rfl (Ea Cd.elemB rfl rfl (SrcOf.blk (by kernel_rfl) rfl (by simp [Value.oneCell'])) (by unfold maxLen;omega) (by omega) ?_)
  rintro p1 c1 hp1
  rw [show Zb (s.take j)++[Value.int .u8 x.toNat]=Zb (s.take (j+1)) by rw [htk];exact bytes_app (s.take j) [x]]
  refine La rfl rfl (Ld ?_)
  refine ⟨_,?_,_,⟨_,j+1,q+1,p1,c1,⟨by omega,by rw [hen,hq,List.length_append];simp;omega,hp1⟩,rfl,(Za rfl (Za rfl rfl)),rfl⟩,Sa⟩
  omega
 obtain rfl:j=s.length:=by omega
 rw [List.drop_length] at hdq
 rw [List.take_length] at hq
 rw [List.take_length]
 refine yH (TS (Lm rfl rfl ?_))
 refine Le rfl (Ec (Cx.next B S g pb m cb q bs 0 hm (drop_get hdq) hv hmx) Tryz.func117 rfl rfl rfl ?_)
 rintro _ _ ⟨rfl,rfl⟩
 try simp only [cA,nA]
 refine La rfl rfl (Ld (Ts (TS (Lm rfl rfl (Lq rfl (yU rfl rfl) (Ld ?_))))))
 refine zF rfl (TS (Lm rfl rfl ?_))
 refine Le rfl (Ec (Cx.next B S g pb m cb (q+1) bs 0 hm (drop_get (drop_more (a:=[0]) hdq)) hv hmx) Tryz.func117 rfl rfl rfl ?_)
 rintro _ _ ⟨rfl,rfl⟩
 try simp only [cA,nA]
 refine La rfl rfl (Ld (yH (TS (Lm rfl rfl (Lq rfl (yU rfl rfl) (Lm rfl rfl ?_))))))
 refine zQ (t:=21) rfl rfl (Lm rfl rfl (Lq rfl (yI (e:=5) (sz:=1) (by kernel_rfl) rfl) (Lq rfl (yZ rfl rfl) (Lq rfl (Qp rfl rfl) (La rfl rfl (Ld (yL rfl (by omega) ?_)))))))
 refine TS (Lm rfl rfl (Lq rfl (yU rfl rfl) (La rfl rfl (Ld (zF rfl ?_)))))
 subst hq
 refine TS (Lm rfl rfl (Lq rfl (Z2 s (by kernel_rfl) (by kernel_rfl) rfl (fun _ ho=>(RdV.rB rfl hp).reads _ (ho.map Sa))) (La rfl rfl (Ld (T.ret ?_)))))
 exact ⟨.inl rfl,_,_,res [_] rfl ⟨rvT rfl,trivial⟩,⟨rfl,rfl⟩,Sa⟩
end Go.Proofs.YtjmjjfefchnkaaaGreatDoor
