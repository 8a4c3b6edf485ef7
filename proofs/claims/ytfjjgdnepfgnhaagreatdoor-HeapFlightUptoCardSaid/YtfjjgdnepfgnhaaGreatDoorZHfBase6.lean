/- The texts WlI WlJ WlK, one behind the other: what the law leans on. Conditions: as each theorem says. -/
import Derived.Test.YtfjjgdnepfgnhaaGreatDoorZHfBase5
set_option linter.unusedSimpArgs false
set_option linter.unusedVariables false
set_option maxRecDepth 100000
set_option maxHeartbeats 16000000
namespace Go.Proofs.YtfjjgdnepfgnhaaGreatDoor
open Go.RowKit
def OkD (d:List UInt8):Prop:=d.length≠0∧d.length≤1024
instance (d : List UInt8):Decidable (OkD d):=inferInstanceAs (Decidable (_∧_))
def recB (s:UInt32) (k:Nat) (d:List UInt8):List UInt8:=be (UInt64.ofInt d.length) 4++be (sealW s k d).toUInt64 4++d
theorem Wf (s:UInt32) (k:Nat) (d:List UInt8):(recB s k d).length=8+d.length:=by simp [recB,Zd];omega
def logS : UInt32→Nat→List (List UInt8)→UInt32
 | s,_,[]=>s
 | s,k,d::ds=>logS (sealW s k d) (k+(8+d.length)) ds
def Zr : UInt32→Nat→List (List UInt8)→List UInt8
 | _,_,[]=>[]
 | s,k,d::ds=>recB s k d++Zr (sealW s k d) (k+(8+d.length)) ds
def logR : Nat→List (List UInt8)→List (Nat×List UInt8)
 | _,[]=>[]
 | k,d::ds=>(k+(8+d.length),d)::logR (k+(8+d.length)) ds
theorem length_logR : ∀ (k:Nat) (ds:List (List UInt8)),(logR k ds).length=ds.length
 | _,[]=>rfl
 | k,d::ds=>by simp [logR,length_logR _ ds]
theorem logR_snd : ∀ (k:Nat) (ds:List (List UInt8)),(logR k ds).map Prod.snd=ds
 | _,[]=>rfl
 | k,d::ds=>by simp [logR,logR_snd _ ds]
theorem length_logB_le : ∀ (s:UInt32) (k:Nat) (ds:List (List UInt8)),ds.length≤(Zr s k ds).length
 | _,_,[]=>Nat.le_refl _
 | s,k,d::ds=>by
  have:=length_logB_le (sealW s k d) (k+(8+d.length)) ds
  simp [Zr,Wf];omega
theorem logB_snoc : ∀ (s:UInt32) (k:Nat) (ds:List (List UInt8)) (d:List UInt8),Zr s k (ds++[d])=Zr s k ds++recB (logS s k ds) (k+(Zr s k ds).length) d
 | _,_,[],_=>by simp [Zr,logS]
 | s,k,e::ds,d=>by
  simp only [List.cons_append,Zr,logS,List.append_assoc,logB_snoc _ _ ds d,List.length_append,Wf]
  rw [Nat.add_assoc]
theorem logS_snoc : ∀ (s:UInt32) (k:Nat) (ds:List (List UInt8)) (d:List UInt8),logS s k (ds++[d])=sealW (logS s k ds) (k+(Zr s k ds).length) d
 | _,_,[],_=>by simp [Zr,logS]
 | s,k,e::ds,d=>by
  simp only [List.cons_append,Zr,logS,logS_snoc _ _ ds d,List.length_append,Wf]
  congr 1
  omega
theorem logB_app : ∀ (s:UInt32) (k:Nat) (ds es:List (List UInt8)),Zr s k (ds++es)=Zr s k ds++Zr (logS s k ds) (k+(Zr s k ds).length) es
 | _,_,[],_=>by simp [Zr,logS]
 | s,k,e::ds,es=>by
  simp only [List.cons_append,Zr,logS,List.append_assoc,logB_app _ _ ds es,List.length_append,Wf]
  rw [Nat.add_assoc]
theorem be_u32 (x:UInt32):x.toUInt64.toNat<256^4:=by rw [UInt32.toNat_toUInt64];exact x.toNat_lt
theorem u32_back (x:UInt32):(Wg (be x.toUInt64 4)).toUInt32=x:=by
 rw [get64_be _ (by omega) (be_u32 x)]
 apply UInt32.toNat_inj.1
 have:=x.toNat_lt
 rw [UInt64.toNat_toUInt32,UInt32.toNat_toUInt64]
 omega
theorem u32_fwd {b:List UInt8} (h:b.length=4):be ((Wg b).toUInt32).toUInt64 4=b:=by
 have h1:=be_get64 (l:=b) (by omega)
 rw [h] at h1
 have h2:(Wg b).toNat<256^4:=by rw [get64_nat _ (by omega)];have:=natOf_lt b;rwa [h] at this
 have:((Wg b).toUInt32).toUInt64=Wg b:=by
  apply UInt64.toNat_inj.1
  rw [UInt32.toNat_toUInt64,UInt64.toNat_toUInt32]
  omega
 rw [this,h1]
theorem len_u64 (n:Nat) (h:n≤1024):(UInt64.ofInt n).toNat=n:=by
 have:=wru64_i64 (n:Int)
 rw [wru64 (by omega) (by omega)] at this
 omega
theorem takeRec_at {al rest:List UInt8} {k:Nat} {s:UInt32} {d:List UInt8} (h:al.drop k=recB s k d++rest) (hd:OkD d):takeRec al k s=some (d.length,sealW s k d)∧((al.drop k).take (8+d.length)).drop 8=d:=by
 obtain ⟨h0,h1⟩:=hd
 have e1:(al.drop k).take 4=be (UInt64.ofInt d.length) 4:=by rw [h,recB,List.append_assoc,List.append_assoc,List.take_left' (Zd _ _)]
 have e2:((al.drop k).take 8).drop 4=be (sealW s k d).toUInt64 4:=by
  rw [h,recB,List.append_assoc,List.take_left' (l₁:=be (UInt64.ofInt d.length) 4++be (sealW s k d).toUInt64 4) (by simp [Zd]),List.drop_left' (Zd _ _)]
 have e3:((al.drop k).take (8+d.length)).drop 8=d:=by
  rw [h,List.take_left' (by rw [Wf]),recB,List.drop_left' (by simp [Zd])]
 have hl:(al.drop k).length=8+d.length+rest.length:=by rw [h,List.length_append,Wf]
 have e4:(Wg ((al.drop k).take 4)).toNat=d.length:=by
  rw [e1,get64_be _ (by omega) (by rw [len_u64 _ h1];omega),len_u64 _ h1]
 refine ⟨?_,e3⟩
 rw [List.length_drop] at hl
 rw [takeRec_yes e4 (by omega) h0 h1 (by omega) (by rw [e3,e2,u32_back]),e2,u32_back]
theorem scan_at : ∀ (ds:List (List UInt8)) (k:Nat) (s:UInt32) (f:Nat) (al rest:List UInt8),al.drop k=Zr s k ds++rest→(∀ d∈ds,OkD d) →
  Wj al (f+ds.length) k s=((Wj al f (k+(Zr s k ds).length) (logS s k ds)).1,(Wj al f (k+(Zr s k ds).length) (logS s k ds)).2.1,logR k ds++(Wj al f (k+(Zr s k ds).length) (logS s k ds)).2.2)
 | [],k,s,f,al,rest,_,_=>by simp [Zr,logS,logR]
 | d::ds,k,s,f,al,rest,h,hok=>by
  rw [Zr,List.append_assoc] at h
  obtain ⟨e1,e2⟩:=takeRec_at h (hok d (by simp))
  have h':al.drop (k+(8+d.length))=Zr (sealW s k d) (k+(8+d.length)) ds++rest:=by
   rw [←List.drop_drop,h,List.drop_left' (Wf _ _ _)]
  have ih:=scan_at ds (k+(8+d.length)) (sealW s k d) f al rest h' (fun x hx=>hok x (by simp [hx]))
  rw [List.length_cons,←Nat.add_assoc,Wj,e1]
  simp only [e2]
  rw [ih]
  simp only [Zr,logS,logR,List.length_append,Wf,List.cons_append,Nat.add_assoc]
theorem take_zeros {al:List UInt8} {k n:Nat} {s:UInt32} (h:al.drop k=List.replicate n 0):takeRec al k s=none:=by
  have hl:al.length-k=n:=by rw [←List.length_drop,h,List.length_replicate]
  by_cases h8:al.length-k<8
  · exact takeRec_short h8
  · refine takeRec_no rfl (.inl ?_)
    rw [h,List.take_replicate,Nat.min_eq_left (by omega)]
    rfl
theorem scan_none {al:List UInt8} {k:Nat} {s:UInt32} (h:takeRec al k s=none) : ∀ f,Wj al f k s=(k,s,[])
 | 0=>rfl
 | f+1=>by rw [Wj,h]
theorem scan_text (ds:List (List UInt8)) (n f:Nat) (hf:ds.length≤f) (hok : ∀ d∈ds,OkD d):Wj (Zr 0 0 ds++List.replicate n 0) f 0 0=((Zr 0 0 ds).length,logS 0 0 ds,logR 0 ds):=by
 have:=scan_at ds 0 0 (f-ds.length) (Zr 0 0 ds++List.replicate n 0) (List.replicate n 0) rfl hok
 have h2:=scan_none (al:=Zr 0 0 ds++List.replicate n 0) (k:=0+(Zr 0 0 ds).length) (s:=logS 0 0 ds) (take_zeros (n:=n) (by rw [Nat.zero_add,List.drop_left' rfl])) (f-ds.length)
 rw [Nat.sub_add_cancel hf,h2] at this
 rw [this]
 simp
theorem take_back {al:List UInt8} {k nn:Nat} {s s':UInt32} (h:takeRec al k s=some (nn,s')) : ∃ d,d=((al.drop k).take (8+nn)).drop 8∧d.length=nn∧OkD d∧s'=sealW s k d∧(al.drop k).take (8+nn)=recB s k d∧k+(8+nn)≤al.length:=by
  unfold takeRec at h
  split at h
  · cases h
  · next h8 =>
    split at h
    · cases h
    · next hn =>
      injection h with h
      injection h with e1 e2
      rw [e1,e2] at hn
      have hn1:nn≠0∧nn≤1024∧nn≤(al.drop k).length-8:=by omega
      have hn2:sealW s k (((al.drop k).take (8+nn)).drop 8)=s':=by
        apply Decidable.not_not.1
        intro hne
        exact hn (.inr (.inr (.inr hne)))
      have hl:(((al.drop k).take (8+nn)).drop 8).length=nn:=by simp at hn1 h8 ⊢;omega
      refine ⟨_,rfl,hl,⟨by omega,by omega⟩,hn2.symm,?_,by simp at hn1 h8;omega⟩
      have f1:be (UInt64.ofInt nn) 4=(al.drop k).take 4:=by
        have h4:((al.drop k).take 4).length=4:=by simp at h8 ⊢;omega
        have:=be_get64 (l:=(al.drop k).take 4) (by omega)
        rw [h4] at this
        rw [←this]
        congr 1
        apply UInt64.toNat_inj.1
        rw [len_u64 _ (by omega),e1]
      have f2:be s'.toUInt64 4=((al.drop k).take 8).drop 4:=by
        rw [←e2]
        exact u32_fwd (by simp at h8 ⊢;omega)
      unfold recB
      rw [hl,hn2,f1,f2]
      have g1:((al.drop k).take 8).drop 4=((al.drop k).drop 4).take 4:=by rw [List.drop_take]
      have g2:((al.drop k).take (8+nn)).drop 8=((al.drop k).drop 8).take nn:=by rw [List.drop_take];congr 1;omega
      rw [g1,g2,List.append_assoc,show 8+nn=4+(4+nn) by omega,List.take_add,List.take_add,List.drop_drop,List.drop_drop,List.drop_drop]
theorem scan_back : ∀ (f k:Nat) (s:UInt32) (al:List UInt8),k≤al.length → ∃ ds,(∀ d∈ds,OkD d)∧Wj al f k s=(k+(Zr s k ds).length,logS s k ds,logR k ds)∧(al.drop k).take (Zr s k ds).length=Zr s k ds∧k+(Zr s k ds).length≤al.length
  | 0,k,s,al,hk=>⟨[],by simp,rfl,rfl,hk⟩
  | f+1,k,s,al,hk=>by
    rw [Wj]
    cases ht:takeRec al k s with
    | none=>exact ⟨[],by simp,rfl,rfl,hk⟩
    | some p =>
      obtain ⟨nn,s'⟩:=p
      obtain ⟨d,e0,e1,e2,e3,e4,e5⟩:=take_back ht
      subst e1
      subst e3
      obtain ⟨ds,h1,h2,h3,h4⟩:=scan_back f (k+(8+d.length)) (sealW s k d) al e5
      refine ⟨d::ds,?_,?_,?_,?_⟩
      · intro x hx
        rcases List.mem_cons.1 hx with rfl | hx
        · exact e2
        · exact h1 x hx
      · simp only [h2,←e0,Zr,logS,logR,List.length_append,Wf,Nat.add_assoc]
      · rw [Zr,List.length_append,Wf,List.take_add,e4,List.drop_drop,h3]
      · rw [Zr,List.length_append,Wf];omega
def mkW (first count:Nat) (ds:List (List UInt8)) (dur:Nat):Wl:=⟨first,count,Zr 0 0 ds,logS 0 0 ds,dur⟩
theorem addW_mk {first count dur:Nat} {ds:List (List UInt8)} {d:List UInt8} (hd:OkD d) (hr:(Zr 0 0 ds).length+8+d.length≤count*256):addW (mkW first count ds dur) d=(mkW first count (ds++[d]) dur,((Zr 0 0 (ds++[d])).length:Int),0):=by
 have hl:(Zr 0 0 (ds++[d])).length=(Zr 0 0 ds).length+(8+d.length):=by rw [logB_snoc,List.length_append,Wf]
 unfold addW
 rw [if_neg hd.1,if_neg (by have:=hd.2;omega),if_neg (by show ¬ count*256<(Zr 0 0 ds).length+8+d.length;omega),hl]
 unfold mkW
 rw [logB_snoc,logS_snoc]
 simp only [recB,Nat.zero_add,List.append_assoc,Int.natCast_zero,Int.zero_add]
 congr 2
 omega
open Go.RowKit
theorem Own.dskOk {B:Wn} {w:World} {b:Nat} {D:DD} {l:List Wp} (H:Own B w (Zn b D::l)):D.Ok:=by
 obtain ⟨_,_,_,_,_,h⟩:=H.disk
 exact h.ok
theorem Fn.diskOk {P:Program} {B:Wn} {f:FuncId} {args:Array Value} {b:Nat} {D:DD} {S:List Wp} {R:Value→List Wp→Prop} (h:D.Ok→Fn P B f args (Zn b D::S) R):Fn P B f args (Zn b D::S) R:=⟨fun w F ho=>(h ho.dskOk).run w F ho⟩
section
variable {P : Program} {B:Wn} {n:Nat} {l r:List Wp} {f:Fr} {Φ:Post} {c:Code}
end
theorem Fn.openWl {P:Program} {B:Wn} {f:FuncId} {args:Array Value} {g b:Nat} {W:Wl} {S:List Wp} {R:Value→List Wp→Prop} (h : ∀ p c,(0<W.st.length → ∃ g,p=some ⟨g,0,none⟩)→W.st.length≤c→Fn P B f args (wlB g b W p c::rB (.slice p W.st.length c) W.st.length W.st::S) R):Fn P B f args (wlA g b W::S) R:=⟨fun w F ho=>by
 obtain ⟨p,c,e⟩:=Own.openWl (l:=S++F) ho
 exact (h p c (e.tl.slice_at (p:=p) (m:=W.st.length) (c:=c)).2.1 (e.tl.cap_at (p:=p) (m:=W.st.length) (c:=c))).run w F e⟩
theorem sub_wlA {g b:Nat} {W:Wl} {p:Option Addr} {c:Nat} {S:List Wp}:Sub (wlB g b W p c::rB (.slice p W.st.length c) W.st.length W.st::S) (wlA g b W::S):=fun h H=>by
 obtain ⟨h1,h2,d,a1,a2,k1,k2⟩:=Has.split (l:=[_,_]) H
 exact ⟨h1,h2,d,a1,a2,⟨p,c,k1⟩,k2⟩
theorem PartsV.mono {B:Wn} {S S':List Wp} {v:Value} {bs:List (List UInt8)} (h:PartsV B S v bs) (hm : ∀ w,Own B w S'→Own B w S):PartsV B S' v bs:=by
 obtain ⟨vs,h1,h2,h3⟩:=h
 exact ⟨vs,h1.mono hm,h2,fun i a b=>(h3 i a b).mono hm⟩
theorem addW_cases (W:Wl) (d:List UInt8):((d.length=0∧addW W d=(W,0,5))∨(d.length≠0∧1024<d.length∧addW W d=(W,0,2))∨(d.length≠0∧d.length≤1024∧W.count*256<W.st.length+8+d.length∧addW W d=(W,0,3)))∨(OkD d∧W.st.length+8+d.length≤W.count*256∧(addW W d).2.2=0):=by
  by_cases h0:d.length=0
  · exact .inl (.inl ⟨h0,by unfold addW;rw [if_pos h0]⟩)
  · by_cases h1:1024<d.length
    · exact .inl (.inr (.inl ⟨h0,h1,by unfold addW;rw [if_neg h0,if_pos h1]⟩))
    · by_cases h2:W.count*256<W.st.length+8+d.length
      · exact .inl (.inr (.inr ⟨h0,by omega,h2,by unfold addW;rw [if_neg h0,if_neg h1,if_pos h2]⟩))
      · exact .inr ⟨⟨h0,by omega⟩,by omega,by unfold addW;rw [if_neg h0,if_neg h1,if_neg h2]⟩
theorem Wl.add (B:Wn) (S:List Wp) (g b:Nat) (W:Wl) (a:Option Addr) (c:Nat) (bs:List (List UInt8)) (n:Nat) (hbn:bs.length=n) (hv:PartsV B S (.slice a bs.length c) bs) (hc:bs.length≤c) (hn:bs.length<2^32) (d:List UInt8) (hdd:bs.flatten=d) (hN2:d.length≤2^40) (hcnt:W.count≤4096) (hst:W.st.length≤W.count*256) :
    Fn Tryz.prog B 100 #[.pointer (some ⟨g,0,none⟩),.slice a n c] (wlA g b W::S) (fun u l=>u = .tuple #[.int .i64 (addW W d).2.1,.int .i64 (addW W d).2.2]∧l=wlA g b (addW W d).1::S):=by
  subst hdd
  subst hbn
  refine Fn.openWl fun p cc hp hcc=>?_
  rcases addW_cases W bs.flatten with h | ⟨h1,h2,h3⟩
  · have key : ∀ code,((bs.flatten.length=0∧code=5)∨(bs.flatten.length≠0∧1024<bs.flatten.length∧code=2)∨(bs.flatten.length≠0∧bs.flatten.length≤1024∧W.count*256<W.st.length+8+bs.flatten.length∧code=3))→addW W bs.flatten=(W,0,code) →
        Fn Tryz.prog B 100 #[.pointer (some ⟨g,0,none⟩),.slice a bs.length c] (wlB g b W p cc::rB (.slice p W.st.length cc) W.st.length W.st::S) (fun u l=>u = .tuple #[.int .i64 (addW W bs.flatten).2.1,.int .i64 (addW W bs.flatten).2.2]∧l=wlA g b (addW W bs.flatten).1::S):=by
      intro code hcode e
      rw [e]
      have h0:=Wl.append_no B (rB (.slice p W.st.length cc) W.st.length W.st::S) g b W p cc a c bs (PartsV.mono hv (fun w ho=>ho.tl)) hc hn hN2 hcnt hst code hcode
      exact h0.sub fun v l ⟨e1,e2⟩=>⟨_,e2 ▸ sub_wlA,e1,rfl⟩
    rcases h with ⟨h0,e⟩ | ⟨h0,h1,e⟩ | ⟨h0,h1,h2,e⟩
    · exact key 5 (.inl ⟨h0,rfl⟩) e
    · exact key 2 (.inr (.inl ⟨h0,h1,rfl⟩)) e
    · exact key 3 (.inr (.inr ⟨h0,h1,h2,rfl⟩)) e
  · have h0:=Wl.append B S g b W p cc hp a c bs hv hc hn hcnt bs.flatten rfl h1.1 h1.2 h2
    exact h0.sub fun v l ⟨p',c',e1,e2,e3⟩=>⟨_,e3 ▸ sub_wlA,by rw [h3];exact e1,rfl⟩
def Wh (W:Wl) (D:DD):DD:=if W.dur=W.st.length then D else flushD W D
theorem Wl.forceYes (B:Wn) (g b:Nat) (W:Wl) (D:DD) (mark:Int) (hD:W.first+W.count≤D.secs.length) (hs:D.secs.length≤4096) (hst:W.st.length≤W.count*256) (hdur:W.dur≤W.st.length) (hroom:D.pend.length+4096<2^32) (hm:W.dur<mark∨W.dur=W.st.length) :
    Fn Tryz.prog B 102 #[.pointer (some ⟨g,0,none⟩),.int .i64 mark] [wlA g b W,Zn b D] (fun u l=>u = .tuple #[]∧l=[wlA g b W.flushed,Zn b (Wh W D)]):=by
  refine Fn.openWl fun p cc hp hcc=>?_
  unfold Wh
  by_cases h:W.dur=W.st.length
  · rw [if_pos h]
    have h0:=(Wl.force_no B g b W p cc mark (by omega) (.inr h)).frame [rB (.slice p W.st.length cc) W.st.length W.st,Zn b D]
    refine h0.sub fun v l ⟨l',⟨e1,e2⟩,e3⟩=>⟨_,?_,e1,rfl⟩
    subst e2;subst e3
    rw [show W.flushed=W by cases W;simp_all [Wl.flushed]]
    exact sub_wlA
  · rw [if_neg h]
    have h0:=Wl.force B g b W p cc hp hcc D mark hD hs hst hdur hroom (by omega) h
    exact h0.sub fun v l ⟨e1,e2⟩=>⟨_,e2 ▸ sub_wlA (W:=W.flushed),e1,rfl⟩
theorem Wl.forceNo (B:Wn) (g b:Nat) (W:Wl) (mark:Int) (hdur:W.dur<2^40) (hm:mark≤W.dur) :
  Fn Tryz.prog B 102 #[.pointer (some ⟨g,0,none⟩),.int .i64 mark] [wlA g b W] (fun u l=>u = .tuple #[]∧l=[wlA g b W]):=by
 refine Fn.openWl fun p cc hp hcc=>?_
 have h0:=(Wl.force_no B g b W p cc mark hdur (.inl hm)).frame [rB (.slice p W.st.length cc) W.st.length W.st]
 refine h0.sub fun v l ⟨l',⟨e1,e2⟩,e3⟩=>⟨_,?_,e1,rfl⟩
 subst e2;subst e3
 exact sub_wlA
theorem Wl.flush (B:Wn) (g b:Nat) (W:Wl) (D:DD) (hD:W.first+W.count≤D.secs.length) (hs:D.secs.length≤4096) (hst:W.st.length≤W.count*256) (hdur:W.dur≤W.st.length) (hroom:D.pend.length+4096<2^32) :
  Fn Tryz.prog B 49 #[.pointer (some ⟨g,0,none⟩)] [wlA g b W,Zn b D] (fun u l=>u = .tuple #[]∧l=[wlA g b W.flushed,Zn b (Wh W D)]):=by
 refine Wq 6 Tryz.func49 rfl rfl (nB rfl) (fun F=>?_)
 try simp only [cA,nA]
 refine TR (Lm rfl rfl (Lm rfl rfl ?_))
 refine Le rfl (Ec (Wl.endOf B g b W (by omega)) Tryz.func103 rfl rfl rfl ?_)
 rintro _ _ ⟨rfl,rfl⟩
 try simp only [cA,nA]
 refine Le rfl (Ec (Wl.forceYes B g b W D W.st.length hD hs hst hdur hroom (by omega)) Tryz.func102 rfl rfl rfl ?_)
 rintro _ _ ⟨rfl,rfl⟩
 try simp only [cA,nA]
 refine Ld ?_
 exact ⟨.inr rfl,_,_,res [] rfl trivial,⟨rfl,rfl⟩,Sa⟩
theorem flushE_secs {W:Wl} {D:DD} (ho:D.Ok) (hD:W.first+W.count≤D.secs.length) (h:Secs D W.first W.count (W.st.take W.dur)) (hdur:W.dur≤W.st.length) (hst:W.st.length≤W.count*256):Secs (Wh W D) W.first W.count W.st:=by
  unfold Wh
  split
  · next e=>rwa [e,List.take_length] at h
  · obtain ⟨h1,h2⟩:=lays_ok (W:=W) (k:=flushN W) (n:=W.dur/256) ho (by unfold flushN;omega)
    exact (h.flushed hdur hst).sync h1 (by omega)
theorem flushE_out {W:Wl} {D:DD} (ho:D.Ok) (hD:W.first+W.count≤D.secs.length) (hdur:W.dur≤W.st.length) (hst:W.st.length≤W.count*256) {x:Nat} (hx:x<D.secs.length) (h:x<W.first∨W.first+W.count≤x):(Wh W D).read x=D.read x:=by
  unfold Wh
  split
  · rfl
  · obtain ⟨h1,h2⟩:=lays_ok (W:=W) (k:=flushN W) (n:=W.dur/256) ho (by unfold flushN;omega)
    rw [flushD,DD.rdS h1 _ (by omega),lays_out (by unfold flushN;omega)]
def OpenAny (b first count:Nat) (D:DD) (u:Value) (l:List Wp):Prop := ∃ g q cq R ds D',(∀ d∈ds,OkD d)∧R.map (fun x:WRec=>(x.mark,x.r.b))=logR 0 ds∧D'.Ok∧D'.secs.length=D.secs.length∧D'.pend=[]∧Secs D' first count (Zr 0 0 ds)∧(Zr 0 0 ds).length≤count*256 ∧
 (∀ x,x<D.secs.length→(x<first∨first+count≤x)→D'.read x=D.read x)∧((Zr 0 0 ds).length,logS 0 0 ds,logR 0 ds)=Wj (allD D first count) (count*256+1) 0 0 ∧
 u = .tuple #[.pointer (some ⟨g,0,none⟩),.slice q ds.length cq,.int .i64 0]∧l=[wrecR q ds.length cq R,recsA (R.map WRec.r),wlA g b (mkW first count ds (Zr 0 0 ds).length),Zn b D']
theorem Wl.openAny (B:Wn) (b:Nat) (D:DD) (first count:Nat) (i j:Int) (hi:i=first) (hj:j=count) (h1:1≤count) (hD:first+count≤D.secs.length) (hroom:D.pend.length+4096<2^32) :
    Fn Tryz.prog B 15 #[.pointer (some ⟨b,0,none⟩),.int .i64 i,.int .i64 j] [Zn b D] (OpenAny b first count D):=by
  subst hi;subst hj
  refine Fn.diskOk fun ho=>?_
  refine (Wl.open B b D first count h1 hD ho.max hroom (fun n hn=>ho.rd n hn)).sub fun u l h=>?_
  obtain ⟨g,p,c,q,cq,R,k,s,e1,e2,e3,e4,e5,e6,e7⟩:=h
  have hal:=allD_length ho count hD
  obtain ⟨ds,k1,k2,k3,k4⟩:=scan_back (count*256+1) 0 0 (allD D first count) (Nat.zero_le _)
  rw [k2] at e1
  injection e1 with f1 f2
  injection f2 with f2 f3
  rw [Nat.zero_add] at f1 k4 k2
  rw [List.drop_zero] at k3
  subst f1
  subst f2
  have hw:=Secs.wiped (s:=logS 0 0 ds) ho hD (show (Zr 0 0 ds).length≤count*256 by omega)
  obtain ⟨w1,w2⟩:=wipe_ok (W:=⟨first,count,(allD D first count).take (Zr 0 0 ds).length,logS 0 0 ds,(Zr 0 0 ds).length⟩) (al:=allD D first count) (k:=count-(Zr 0 0 ds).length/256) (n:=(Zr 0 0 ds).length/256) ho (by show first+_≤_;omega)
  have hR:R.length=ds.length:=by rw [←length_logR 0 ds,f3,List.length_map]
  rw [hR] at e6 e7
  rw [k3] at e7 hw w1 w2
  refine ⟨_,?_,g,q,cq,R,ds,_,k1,f3.symm,w1.sy,(DD.sync_len w1).trans w2,rfl,hw.sync w1 (by rw [w2];exact hD),e2,?_,k2.symm,e6,rfl⟩
  · rw [e7]
    intro h H
    refine Wt (fun _ H=>Wt (fun _ H=>?_) H) H
    obtain ⟨h1,h2,d,a1,a2,k1,k2⟩:=Has.split (l:=[_,_]) H
    refine ⟨h1,h2,d,a1,a2,⟨p,c,?_⟩,k2⟩
    exact Has.swap k1
  · intro x hx hxo
    rw [DD.rdS w1 _ (by omega),wipe_out (by show x<first+_∨first+(_+_)≤x;omega)]
open Go.RowKit
end Go.Proofs.YtfjjgdnepfgnhaaGreatDoor
