/- The texts RpC RpD RpE RpF, one behind the other: what the law leans on. Conditions: as each theorem says. -/
import Derived.Test.YtnnfjemaeefbiaaGreatDoorZWpBase16
set_option linter.unusedSimpArgs false
set_option linter.unusedVariables false
set_option maxRecDepth 100000
set_option maxHeartbeats 16000000
namespace Go.Proofs.YtnnfjemaeefbiaaGreatDoor
open Go.RowKit
def raisZ : List Va->List Va
  | []=>[]
  | v::vs=>⟨v.kind,v.int+1,v.text⟩::vs
def lowZ : List Va->List Va
  | []=>[]
  | v::vs=>⟨v.kind,v.int-1,v.text⟩::vs
theorem rais_iff (a b:List Va):raisZ a=b↔a=lowZ b:=by
  cases a with
  | nil=>cases b <;> simp [raisZ,lowZ]
  | cons v vs =>
    cases b with
    | nil=>simp [raisZ,lowZ]
    | cons u us =>
      obtain ⟨k,i,x⟩:=v
      obtain ⟨k2,i2,x2⟩:=u
      simp only [raisZ,lowZ,List.cons.injEq,Va.mk.injEq]
      constructor
      . rintro ⟨⟨h1,h2,h3⟩,h4⟩;exact ⟨⟨h1,by omega,h3⟩,h4⟩
      . rintro ⟨⟨h1,h2,h3⟩,h4⟩;exact ⟨⟨h1,by omega,h3⟩,h4⟩
abbrev upF (f:Fz):Fz:=⟨raisZ f.row,f.fr,f.to⟩
theorem up_cnt (r:List Va) (t:Int) : ∀ L:List Fz,cnt (L.map upF) r t=cnt L (lowZ r) t
  | []=>rfl
  | f::L=>by
    rw [List.map_cons,cnt_cons,cnt_cons f L,up_cnt r t L,show [upF f]=[⟨raisZ f.row,f.fr,f.to⟩] from rfl,cnt_mk]
    obtain ⟨row,a,b⟩:=f
    rw [cnt_mk]
    congr 1
    simp only [rais_iff]
theorem flat_none {α:Type} : ∀ l:List α,(l.flatMap λ _=>([]:List Fz))=[]
  | []=>rfl
  | _::l=>by rw [List.flatMap_cons,flat_none l];rfl
theorem flat_sing {α:Type} (g:α->Fz) : ∀ l:List α,(l.flatMap λ q=>[g q])=l.map g
  | []=>rfl
  | a::l=>by rw [List.flatMap_cons,List.map_cons,flat_sing g l];rfl
theorem left_cnt {y:Int×Int} {h:List Va->Bool} {L:List Fz} {W:Fz->List Fz} {E:List Nat} (hE:E=(hitN y h L L.length).map (·.1)) (r:List Va) (t:Int):cnt (keepN E L L.length++updW y W (hitN y h L L.length)) r t=cnt L r t-(if inY y t/\h r=true then cnt L r t else 0)+cnt ((hitN y h L L.length).flatMap λ q=>W q.2) r t:=by
  have h1:=upd_cnt (y:=y) (h:=h) (L:=L) (W:=W) r t hE L.length (Nat.le_refl _) (Nat.le_refl _)
  have h2:=clH_cnt (y:=y) (h:=h) (L:=L) r t L.length (Nat.le_refl _)
  rw [List.take_of_length_le (Nat.le_refl _)] at h1 h2
  rw [cnt_append,h1,h2]
section
variable {y : Int×Int} {h:List Va->Bool} {L K P:List Fz} {E:List Nat}
theorem part_cnt (hK:NF K (cnt (L.filter λ f=>h f.row))) (hP:NF P (cnt (clpZ y K))) (r:List Va) (t:Int):cnt P r t=if inY y t/\h r=true then cnt L r t else 0:=by
  rw [nf_self hP,cnt_clp,nf_self hK,cnt_filter]
  by_cases a:inY y t
  . by_cases b:h r=true
    . rw [if_pos a,if_pos b,if_pos ⟨a,b⟩]
    . rw [if_pos a,if_neg b,if_neg (λ z=>b z.2)]
  . rw [if_neg a,if_neg (λ z=>a z.1)]
theorem del_same {a b:List Fz} (hE:E=(hitN y h L L.length).map (·.1)) (hK:NF K (cnt (L.filter λ f=>h f.row))) (hP:NF P (cnt (clpZ y K))) (ha:NF a (cnt (keepN E L L.length++delZ y (hitN y h L L.length)))) (hb:NF b (λ r t=>cnt L r t-cnt P r t)):a=b:=by
  refine nf_eq ha hb λ r t=>?_
  have e:delZ y (hitN y h L L.length)=updW y (λ _=>[]) (hitN y h L L.length):=by
    unfold delZ updW
    congr 1
    funext q
    rw [List.append_nil]
  rw [e,left_cnt hE,part_cnt hK hP]
  rw [flat_none,cnt_nil]
  omega
theorem upd_same {a b:List Fz} (hE:E=(hitN y h L L.length).map (·.1)) (ha:NF a (cnt (keepN E L L.length++updZ y [] (hitN y h L L.length)))) (hb:NF b (cnt L)):a=b:=by
  refine nf_eq ha hb λ r t=>?_
  have e:updZ y [] (hitN y h L L.length)=updW y (λ f=>[clF y f]) (hitN y h L L.length):=rfl
  rw [e,left_cnt hE]
  have h1:((hitN y h L L.length).flatMap λ q=>[clF y q.2])=clH y (hitN y h L L.length):=by
    exact flat_sing _ _
  have h2:=clH_cnt (y:=y) (h:=h) (L:=L) r t L.length (Nat.le_refl _)
  rw [List.take_of_length_le (Nat.le_refl _)] at h2
  rw [h1,h2]
  omega
theorem rais_same {SL:List St} {a b X:List Fz} (hE:E=(hitN y h L L.length).map (·.1)) (hset : ∀ f∈L,setZ f.row SL=raisZ f.row) (hK:NF K (cnt (L.filter λ f=>h f.row))) (hP:NF P (cnt (clpZ y K))) (hX:NF X (λ r t=>cnt L r t-cnt P r t)) (ha:NF a (cnt (keepN E L L.length++updZ y SL (hitN y h L L.length)))) (hb:NF b (cnt (X++P.map upF))):a=b:=by
  refine nf_eq ha hb λ r t=>?_
  have e:updZ y SL (hitN y h L L.length)=updW y (λ f=>[upF (clF y f)]) (hitN y h L L.length):=by
    unfold updZ updW
    have key : ∀ l:List (Nat×Fz),(∀ q∈l,setZ q.2.row SL=raisZ q.2.row)->(l.flatMap λ q=>rstF y q.2++[(⟨setZ q.2.row SL,(ovX (pdF q.2) y).1,(ovX (pdF q.2) y).2⟩:Fz)])=l.flatMap λ q=>rstF y q.2++[upF (clF y q.2)]:=λ l hl=>by
      induction l with
      | nil=>rfl
      | cons q l ih =>
        rw [List.flatMap_cons,List.flatMap_cons,ih λ q hq=>hl q (List.mem_cons_of_mem _ hq),hl q (List.mem_cons_self ..)]
    exact key _ λ q hq=>hset q.2 (List.mem_of_getElem? (hit_mem (i:=q.1) (f:=q.2) hq).1)
  have h1:((hitN y h L L.length).flatMap λ q=>[upF (clF y q.2)])=(clH y (hitN y h L L.length)).map upF:=by
    rw [flat_sing λ q:Nat×Fz=>upF (clF y q.2)]
    unfold clH
    rw [List.map_map]
    rfl
  have h2:=clH_cnt (y:=y) (h:=h) (L:=L) (lowZ r) t L.length (Nat.le_refl _)
  rw [List.take_of_length_le (Nat.le_refl _)] at h2
  have hp:=part_cnt hK hP r t
  have hn:=cnt_nonneg L r t
  rw [e,left_cnt hE,h1,up_cnt,h2,cnt_append,up_cnt,part_cnt hK hP (lowZ r) t,nf_less hX,hp]
  split <;> omega
end
open Go.RowKit
theorem slc_append (t:Int) (A B:List Fz):slcN t (A++B)=slcN t A+slcN t B:=by
  unfold slcN
  rw [List.filter_append,List.filter_append,List.length_append]
theorem slc_nil (t:Int):slcN t []=0:=rfl
theorem slc_one (t:Int) (row:List Va) (a b:Int):slcN t [⟨row,a,b⟩]=if 0<=a/\b<=1099511627776/\a<=t/\t<b then 1 else 0:=by
  unfold slcN
  rw [List.filter_filter]
  by_cases h:0<=a/\b<=1099511627776/\a<=t/\t<b
  . obtain ⟨h1,h2,h3,h4⟩:=h
    rw [if_pos ⟨h1,h2,h3,h4⟩,List.filter_cons,if_pos (by simp only [okF,okX,okP,hasX,pdF,Bool.and_eq_true,decide_eq_true_eq];omega)]
    rfl
  . rw [if_neg h,List.filter_cons,if_neg (by simp only [okF,okX,okP,hasX,pdF,Bool.and_eq_true,decide_eq_true_eq];omega)]
    rfl
theorem slc_hit {y:Int×Int} {f:Fz} (h:ovB (pdF f) y=true) (row:List Va) (t:Int):slcN t (rstF y f++[⟨row,(ovX (pdF f) y).1,(ovX (pdF f) y).2⟩])=slcN t [f]:=by
  obtain ⟨h1,h2,h3⟩:=(ovB_iff _ _).1 h
  obtain ⟨hx,hy,h12,h21,hxx,hyy⟩:=ov_in h
  obtain ⟨rw0,fr,to⟩:=f
  obtain ⟨y1,y2⟩:=y
  have m1:=max_cases fr y1
  have m2:=min_cases to y2
  unfold rstF rstZ lefZ rigZ
  dsimp only [pdF,okP,ovX] at h1 h2 h3 h12 h21 hxx hyy ⊢
  generalize max fr y1=M at *
  generalize min to y2=N at *
  rw [List.map_append,slc_append,slc_append,slc_one,slc_one]
  split <;> split <;> simp only [List.map_cons,List.map_nil,slc_one,slc_nil] <;> (repeat' split) <;> omega
theorem slc_left {y:Int×Int} {h:List Va->Bool} {L:List Fz} {SL:List St} (t:Int) {n:Nat} {E:List Nat} (hE:E=(hitN y h L n).map (·.1)) : ∀ k,k<=L.length->k<=n->slcN t (keepN E L k)+slcN t (updZ y SL (hitN y h L k))=slcN t (L.take k)
  | 0,_,_=>by simp [hitN,keepN,updZ,slc_nil]
  | k+1,hk,hn=>by
    obtain ⟨f,e⟩ : ∃ f,L[k]? = some f:=⟨_,List.getElem?_eq_getElem (by omega)⟩
    have ih:=slc_left (y:=y) (h:=h) (L:=L) (SL:=SL) t hE k (by omega) (by omega)
    have hi:=hit_iff (y:=y) (h:=h) e (by omega:k<n)
    rw [<-hE] at hi
    rw [keep_snoc e,hit_snoc e,take_snoc e,slc_append,slc_append]
    unfold updZ at ih ⊢
    by_cases p:hitP y h f=true
    . rw [if_pos (hi.2 p),if_pos p]
      rw [List.flatMap_append,slc_append,List.flatMap_cons,List.flatMap_nil,List.append_nil]
      simp only [hitP,Bool.and_eq_true] at p
      have:=slc_hit p.1 (setZ f.row SL) t
      rw [slc_nil]
      dsimp only at this ⊢
      omega
    . rw [if_neg (λ z=>p (hi.1 z)),if_neg p,List.append_nil]
      omega
theorem slc_same {y:Int×Int} {h:List Va->Bool} {L:List Fz} {SL:List St} (t:Int) {E:List Nat} (hE:E=(hitN y h L L.length).map (·.1)):slcN t (keepN E L L.length++updZ y SL (hitN y h L L.length))=slcN t L:=by
  have:=slc_left (y:=y) (h:=h) (L:=L) (SL:=SL) t hE L.length (Nat.le_refl _) (Nat.le_refl _)
  rw [List.take_of_length_le (Nat.le_refl _)] at this
  rw [slc_append,this]
open Go.RowKit
theorem hitN_lt {y:Int×Int} {h:List Va->Bool} {L:List Fz} : ∀ k,∀ q∈hitN y h L k,q.1<k:=λ k q hq=>by
  unfold hitN at hq
  obtain ⟨j,hj,hq⟩:=List.mem_flatMap.1 hq
  have:=List.mem_range.1 hj
  split at hq
  . split at hq
    . rw [List.mem_singleton] at hq;subst hq;exact this
    . cases hq
  . cases hq
theorem hitN_nodup {y:Int×Int} {h:List Va->Bool} {L:List Fz} : ∀ k,k<=L.length->((hitN y h L k).map (·.1)).Nodup
  | 0,_=>by simp [hitN]
  | k+1,hk=>by
    obtain ⟨f,e⟩ : ∃ f,L[k]? = some f:=⟨_,List.getElem?_eq_getElem (by omega)⟩
    rw [hit_snoc e,List.map_append]
    refine List.nodup_append.2 ⟨hitN_nodup k (by omega),by split <;> simp,?_⟩
    intro a ha b hb
    obtain ⟨q,hq,rfl⟩:=List.mem_map.1 ha
    have h1:=hitN_lt k q hq
    have h2:b=k:=by
      split at hb
      . simpa using hb
      . simp at hb
    omega
theorem FctV.cut {B:Wn} {S:List Wp} (a:Option Addr) (c:Nat):FctV B S (.slice a 0 c) []:=⟨⟨a,c,rfl,.inl rfl⟩,λ x hx=>by cases hx⟩
theorem FlV.stn {B:Wn} {S:List Wp}:FlV B S stSC (.slice none 0 0) ([]:List St):=⟨none,0,rfl,.inl rfl⟩
theorem fit_plus {row:List Va} {c:C7} (h:RowP row):FitS row [⟨0,plusT,c⟩]/\setZ row [⟨0,plusT,c⟩]=raisZ row:=by
  obtain ⟨a,s,rfl,h1⟩:=h
  refine ⟨λ k q hk=>?_,?_⟩
  . match k,hk with
    | 0,hk =>
      cases hk
      rw [plus_val h1]
      exact ⟨rfl,_,rfl,rfl⟩
    | k+1,hk=>simp at hk
  . show ([⟨1,a,[]⟩,⟨2,0,s⟩]:List Va).set 0 (evalR _ plusT).1=_
    rw [plus_val h1]
    rfl
theorem fit_nil (row:List Va):FitS row []:=λ k s h=>by simp at h
theorem hit_len {y:Int×Int} {h:List Va->Bool} {L:List Fz} : ∀ k,k<=L.length->(hitN y h L k).length<=k
  | 0,_=>by simp [hitN]
  | k+1,hk=>by
    obtain ⟨f,e⟩ : ∃ f,L[k]? = some f:=⟨_,List.getElem?_eq_getElem (by omega)⟩
    have ih:=hit_len (y:=y) (h:=h) (L:=L) k (by omega)
    rw [hit_snoc e,List.length_append]
    split <;> simp <;> omega
theorem del_len (y:Int×Int) : ∀ H:List (Nat×Fz),(delZ y H).length<=2*H.length
  | []=>by simp [delZ]
  | q::H=>by
    have ih:=del_len y H
    have h2:=rst_len (pdF q.2) y
    unfold delZ at ih ⊢
    rw [List.flatMap_cons,List.length_append,List.length_cons]
    unfold rstF at ih ⊢
    rw [List.length_map]
    omega
theorem upd_len (y:Int×Int) (SL:List St) : ∀ H:List (Nat×Fz),(updZ y SL H).length<=3*H.length
  | []=>by simp [updZ]
  | q::H=>by
    have ih:=upd_len y SL H
    have h2:=rst_len (pdF q.2) y
    unfold updZ at ih ⊢
    rw [List.flatMap_cons,List.length_append,List.length_append,List.length_cons,List.length_cons,List.length_nil]
    unfold rstF at ih ⊢
    rw [List.length_map]
    omega
theorem NF.row_pos {out:List Fz} {c:List Va->Int->Int} (h:NF out c) {f:Fz} (hf:f∈out) : ∃ t,0<c f.row t:=by
  obtain ⟨-,R,G,-,hL,-,hp⟩:=h
  obtain ⟨r,hr,hm⟩:=List.mem_flatMap.1 (hp.mem_iff.1 hf)
  unfold fzs at hm
  obtain ⟨x,hx,rfl⟩:=List.mem_map.1 hm
  obtain ⟨ls,e,hls,-⟩:=hL r hr
  rw [e] at hx
  obtain ⟨l,hl,hxl⟩:=List.mem_flatten.1 hx
  obtain ⟨j,hj,rfl⟩:=List.getElem_of_mem hl
  obtain ⟨-,hc⟩:=hls j _ (List.getElem?_eq_getElem hj)
  have:=(hc.mem x.1).2 ⟨x,hxl,Int.le_refl _,hc.ok x hxl⟩
  exact ⟨x.1,by dsimp only at this ⊢;omega⟩
theorem cnt_row {L:List Fz} {r:List Va} {t:Int} (h:0<cnt L r t) : ∃ g∈L,g.row=r:=by
  unfold Go.Proofs.YtnnfjemaeefbiaaGreatDoor.cnt at h
  cases e:L.filter (hitF r t) with
  | nil=>rw [e] at h;simp at h
  | cons g l =>
    have hg:g∈L.filter (hitF r t):=by rw [e];exact List.mem_cons_self ..
    obtain ⟨h1,h2⟩:=List.mem_filter.1 hg
    simp only [hitF,Bool.and_eq_true,decide_eq_true_eq] at h2
    exact ⟨g,h1,by first | exact h2.1.2 | exact h2.2.1 | exact h2.1.1.2 | exact h2.1.1 | exact h2.1⟩
theorem part_row {y:Int×Int} {p:Fz->Bool} {L K P:List Fz} (hK:NF K (cnt (L.filter p))) (hP:NF P (cnt (clpZ y K))) {f:Fz} (hf:f∈P) : ∃ g∈L,g.row=f.row:=by
  obtain ⟨t,ht⟩:=hP.row_pos hf
  rw [cnt_clp] at ht
  split at ht
  . obtain ⟨g,hg,e⟩:=cnt_row ht
    obtain ⟨t2,ht2⟩:=hK.row_pos hg
    obtain ⟨g2,hg2,e2⟩:=cnt_row ht2
    exact ⟨g2,(List.mem_filter.1 hg2).1,e2.trans e⟩
  . omega
end Go.Proofs.YtnnfjemaeefbiaaGreatDoor
namespace Go.Proofs.YtnnfjemaeefbiaaGreatDoor
open Go.RowKit Go.Shelf Go.Lib Go.Sort
theorem allQ_one (a:Value) (Q:List Fq):allQ [(a,Q)]=Q:=by simp [allQ]
theorem niR_fl {B:Wn} {l:List Wp} {p:Option Addr} {c:Nat} {E:List Nat} (hp:0<E.length -> ∃ g,p=some ⟨g,0,none⟩):FlV B (niR p E.length c E::l) nC (.slice p E.length c) E:=by
  have e : ∀ E:List Nat,E.flatMap nC=E.map λ (i:Nat)=>iV i:=λ E=>by
    induction E with
    | nil=>rfl
    | cons a E ih=>rw [List.flatMap_cons,List.map_cons,ih];rfl
  have:=FlV.row (B:=B) (l:=l) (p:=p) (m:=E.length) (c:=c) (e:=3) (sz:=1) (x:=E) (g:=nC) (λ _=>rfl) (by omega) rfl hp
  rwa [e] at this
theorem two_row {l:List Va} (h:l.length=2) : ∃ a b,l=[a,b]:=by
  match l,h with
  | [a,b],_=>exact ⟨a,b,rfl⟩
theorem rowP_all {Q:List Fq} (h : ∀ x∈Q,RowP x.row) : ∀ f∈Q.map Fq.fz,RowP f.row:=λ f hf=>by
  obtain ⟨x,hx,rfl⟩:=List.mem_map.1 hf
  exact h x hx
set_option synthInstance.maxHeartbeats 2000000 in
set_option synthInstance.maxSize 2000 in
theorem Rc.portion (B:Wn) (h0:B.low=0) (a:Option Addr) (m c:Nat) (Q:List Fq) (h:FctV B [] (.slice a m c) Q) (hm:Q.length=m) (hmb:m<2^30) (sw:Str) (hsw:sw.length<2^30) (y:Int×Int) (t:Int) (hin : ∀ x∈Q,∀ v∈x.row,-(2^63)<=v.int):Fn Tryz.prog B 4 #[.slice a m c,.agg #[tV sw,iV y.1,iV y.2],iV t] [] (λ u l=>u = .bool true/\l=[]):=by
  refine Ws 263 Tryz.func4 rfl rfl (nB rfl) (λ F=>?_)
  try simp only [cA,nA]
  refine Ts ?_
  refine TR ?_
  refine Le (zL [_,_,_] rfl rfl ?_)
  intro g4
  refine La rfl ?_
  refine Ld ?_
  refine Ts ?_
  refine Ts ?_
  refine TR ?_
  refine Le (Ec (Qg.term B h0 oneS (by decide)) Tryz.func5 rfl rfl rfl ?_)
  rintro _ _ ⟨c1,p1,A1,rfl,hF1,rfl,hG1,hV1⟩
  try simp only [cA,nA]
  obtain rfl:=hG1 one_good
  refine Lm rfl ?_
  refine Lq (Qx rfl rfl) ?_
  refine Lq (Qx rfl rfl) ?_
  refine Le (El [.string .empty,.int .i64 0,.int .i64 0,.int .i64 0,.string .empty,.int .i64 0,.slice none 0 0] (by unfold Zf;kernel_rfl) ?_)
  intro g7
  refine L0 (Es (c7 c1) rfl rfl rfl hF1.one (by simp) ?_)
  rw [splT c1 rfl]
  refine La rfl ?_
  refine Ld ?_
  refine Ts ?_
  refine TR ?_
  refine Lm rfl ?_
  refine Lq (Y2 rfl) ?_
  refine Lm rfl ?_
  refine yT (t:=35) rfl rfl ?_
  refine Lm rfl ?_
  refine Lq (Y6 0 (e:=35) (sz:=3) rfl rfl rfl (h2:=(Nat.zero_le _))) ?_
  refine Le (zK [_] (e:=22) (sz:=1) ⟨.slice none 0 0,by kernel_rfl,rfl⟩ rfl rfl rfl ?_)
  intro g38
  refine Le (Ec (Qe.normal B [blk g38 [.slice a 0 c] 22] (some ⟨g38,0,none⟩) 1 1 [(.slice a 0 c,[])] (LsV.one (FctV.cut a c)) rfl (by decide) (by simp [allQ])) Tryz.func10 rfl rfl rfl ?_)
  rintro _ _ ⟨Q1,B1,q1,d1,rfl,hq1,hB1,hn1,hl1,rfl⟩
  try simp only [cA,nA]
  refine Lq (yI (e:=35) (sz:=3) rfl) ?_
  refine Lq (yW rfl rfl) ?_
  refine Lq (Qp rfl rfl) ?_
  refine Ld ?_
  refine yL rfl ((by simp [allQ] at hl1;simp [hl1])) ?_
  refine Tk ?_
  refine Ts ?_
  refine Ts ?_
  refine TR ?_
  refine Lm rfl ?_
  refine Lq (yI (e:=35) (sz:=3) rfl) ?_
  refine Lm rfl ?_
  refine Ld ?_
  refine yH ?_
  refine zG (λ mz fz lz => ∃ (f0:Fr) (i:Nat),(i<=m /\ ∀ x∈Q.take i,RowP x.row)/\mz=m-i/\fz=(upd (upd (upd (upd (upd (upd f0 0 (.slice a m c)) 2 (iV t)) 4 (.pointer (some ⟨g4,0,none⟩))) 43 (.slice a m c)) 44 (iV m)) 45 (iV i))/\lz=blk g4 [tV sw,iV y.1,iV y.2] 50::F) ?_ ?_
  . refine ⟨_,_,⟨_,0,⟨Nat.zero_le _,by simp⟩,rfl,(Za rfl (Za rfl (Za rfl (Za rfl (Za rfl (Za rfl rfl)))))),rfl⟩,Sa⟩
  rintro mz fz lz ⟨f0,i,⟨hi,hrow⟩,hmz,rfl,rfl⟩
  subst mz
  refine Ts ?_
  refine TR ?_
  refine Lq (yM rfl rfl) ?_
  refine Ld ?_
  refine Ts ?_
  refine yN rfl (λ hlt=>?_) (λ hlt=>?_)
  . skip
    obtain ⟨b,o,rfl,hr⟩:=h.l.at (sz:=3) (λ _=>rfl) (by omega)
    obtain ⟨x,hx⟩ : ∃ x,Q[i]? = some x:=⟨_,List.getElem?_eq_getElem (by omega)⟩
    have hx1:=hr i x hx
    have hxv:=h.r x (List.mem_of_getElem? hx)
    have hxi:=hin x (List.mem_of_getElem? hx)
    have htk:Q.take (i+1)=Q.take i++[x]:=by rw [List.take_add_one,hx];rfl
    obtain ⟨pa,ca,ex⟩:=hxv.form
    obtain ⟨xs,xr,xf,xt⟩:=x
    dsimp only at ex hxi
    subst ex
    by_cases hl2:xr.length=2
    . skip
      obtain ⟨v0,v1,rfl⟩:=two_row hl2
      obtain ⟨rb,ro,rfl,hrr⟩:=hxv.2.at (sz:=3) (λ _=>rfl) (by simp)
      have r0:=hrr 0 v0 rfl
      have r1:=hrr 1 v1 rfl
      have hv0:=hxi v0 (by simp)
      refine Tk ?_
      refine Ts ?_
      refine yH ?_
      refine Ts ?_
      refine TR ?_
      refine Lq (Qi _ (e:=35) (sz:=3) rfl rfl rfl) ?_
      refine Lq (Qt.loadAggW (fqC ⟨.slice (some ⟨rb,ro,none⟩) [v0,v1].length ca,[v0,v1],xf,xt⟩) rfl (λ w ho=>hx1 w (ho.map Sa))) ?_
      refine Le (El [.slice none 0 0,.int .i64 0,.int .i64 0] (by unfold Zf;kernel_rfl) ?_)
      intro g10
      refine L0 (Es [_,_,_] rfl rfl rfl rfl (by simp) ?_)
      try simp only [splice,lC,lN,dS,cA,tS,tZ,dZ,nA,aN]
      refine Ld ?_
      refine Ts ?_
      refine TR ?_
      refine Lq (Q0 rfl) ?_
      refine Lq (Ql rfl rfl) ?_
      refine Lq (yI (e:=24) (sz:=3) rfl) ?_
      refine Lq (yW rfl rfl) ?_
      refine Lm rfl ?_
      refine yT (t:=53) rfl rfl ?_
      refine Lq (Q0 rfl) ?_
      refine Lq (Ql rfl rfl) ?_
      refine Lq (Qi 0 (e:=24) (sz:=3) rfl rfl rfl) ?_
      refine Lq (Q0 rfl) ?_
      refine Lq (zN (v:=iV v0.kind) rfl (λ w ho=>r0 w (ho.map Sa) 0 _ rfl)) ?_
      refine Lq (yW rfl rfl) ?_
      refine Lq (Qp rfl rfl) ?_
      refine Lm rfl ?_
      by_cases q0:v0.kind=1
      . skip
        refine yT (t:=61) rfl (decide_eq_false ((by simp [q0]))) ?_
        refine Lq (Q0 rfl) ?_
        refine Lq (Ql rfl rfl) ?_
        refine Lq (Qi 0 (e:=24) (sz:=3) rfl rfl rfl) ?_
        refine Lq (Qf (off:=2) rfl) ?_
        refine Lq (zN (v:=tV v0.text) rfl (λ w ho=>r0 w (ho.map Sa) 2 _ rfl)) ?_
        refine Lq (Qt.neqS rfl rfl) ?_
        refine Lq (Qp rfl rfl) ?_
        refine Lm rfl ?_
        by_cases q1:v0.text=[]
        . skip
          refine yT (t:=69) rfl (decide_eq_false ((by simp [q1]))) ?_
          refine Lq (Q0 rfl) ?_
          refine Lq (Ql rfl rfl) ?_
          refine Lq (Qi 1 (e:=24) (sz:=3) rfl rfl rfl) ?_
          refine Lq (Q0 rfl) ?_
          refine Lq (zN (v:=iV v1.kind) rfl (λ w ho=>r1 w (ho.map Sa) 0 _ rfl)) ?_
          refine Lq (yW rfl rfl) ?_
          refine Lq (Qp rfl rfl) ?_
          refine Lm rfl ?_
          by_cases q2:v1.kind=2
          . skip
            refine yT (t:=77) rfl (decide_eq_false ((by simp [q2]))) ?_
            refine Lq (Q0 rfl) ?_
            refine Lq (Ql rfl rfl) ?_
            refine Lq (Qi 1 (e:=24) (sz:=3) rfl rfl rfl) ?_
            refine Lq (Qf (off:=1) rfl) ?_
            refine Lq (zN (v:=iV v1.int) rfl (λ w ho=>r1 w (ho.map Sa) 1 _ rfl)) ?_
            refine Lq (yW rfl rfl) ?_
            refine Lq (Qp rfl rfl) ?_
            refine Lm rfl ?_
            by_cases q3:v1.int=0
            . skip
              refine yT (t:=85) rfl (decide_eq_false ((by simp [q3]))) ?_
              refine Lq (Q0 rfl) ?_
              refine Lq (Ql rfl rfl) ?_
              refine Lq (Qi 0 (e:=24) (sz:=3) rfl rfl rfl) ?_
              refine Lq (Qf (off:=1) rfl) ?_
              refine Lq (zN (v:=iV v0.int) rfl (λ w ho=>r0 w (ho.map Sa) 1 _ rfl)) ?_
              refine Lq (yZ rfl rfl) ?_
              refine Lq (Qp rfl rfl) ?_
              refine Ld ?_
              refine yN rfl (λ q4=>?_) (λ q4=>?_)
              . skip
                refine Ts ?_
                refine TR ?_
                refine La rfl ?_
                refine Ld ?_
                refine T.ret ?_
                exact ⟨.inl rfl,_,_,res [_] rfl ⟨rvT rfl,trivial⟩,⟨rfl,rfl⟩,Sa⟩
              refine Tk ?_
              refine TR ?_
              refine Lq (Qd rfl rfl (Ze)) ?_
              refine Lm rfl ?_
              refine Ld ?_
              refine ⟨_,?_,_,⟨_,i+1,⟨by omega,by rw [htk];intro z hz;rcases List.mem_append.1 hz with hz | hz;exact hrow z hz;rw [List.mem_singleton] at hz;subst hz;obtain ⟨k0,i0,x0⟩:=v0;obtain ⟨k1,i1,x1⟩:=v1;dsimp only at q0 q1 q2 q3 q4 hv0;subst q0;subst q1;subst q2;subst q3;exact ⟨i0,x1,rfl,hv0,by omega⟩⟩,rfl,(Za rfl (Za rfl (Za rfl (Za rfl (Za rfl (Za rfl rfl)))))),rfl⟩,Sa⟩
              omega
            refine zQ (t:=85) rfl (decide_eq_true ((by simpa using q3))) ?_
            refine Ls rfl ?_
            refine Ls rfl ?_
            refine Ls rfl ?_
            refine Ls rfl ?_
            refine Ls rfl ?_
            refine Ls rfl ?_
            refine Lq (Qp rfl rfl) ?_
            refine Ld ?_
            refine zF rfl ?_
            refine Ts ?_
            refine TR ?_
            refine La rfl ?_
            refine Ld ?_
            refine T.ret ?_
            exact ⟨.inl rfl,_,_,res [_] rfl ⟨rvT rfl,trivial⟩,⟨rfl,rfl⟩,Sa⟩
          refine zQ (t:=77) rfl (decide_eq_true ((by simpa using q2))) ?_
          refine Ls rfl ?_
          refine Ls rfl ?_
          refine Ls rfl ?_
          refine Ls rfl ?_
          refine Ls rfl ?_
          refine Ls rfl ?_
          refine Lq (Qp rfl rfl) ?_
          refine Lm rfl ?_
          refine zQ (t:=85) rfl rfl ?_
          refine Ls rfl ?_
          refine Ls rfl ?_
          refine Ls rfl ?_
          refine Ls rfl ?_
          refine Ls rfl ?_
          refine Ls rfl ?_
          refine Lq (Qp rfl rfl) ?_
          refine Ld ?_
          refine zF rfl ?_
          refine Ts ?_
          refine TR ?_
          refine La rfl ?_
          refine Ld ?_
          refine T.ret ?_
          exact ⟨.inl rfl,_,_,res [_] rfl ⟨rvT rfl,trivial⟩,⟨rfl,rfl⟩,Sa⟩
        refine zQ (t:=69) rfl (decide_eq_true ((by simpa using q1))) ?_
        refine Ls rfl ?_
        refine Ls rfl ?_
        refine Ls rfl ?_
        refine Ls rfl ?_
        refine Ls rfl ?_
        refine Ls rfl ?_
        refine Lq (Qp rfl rfl) ?_
        refine Lm rfl ?_
        refine zQ (t:=77) rfl rfl ?_
        refine Ls rfl ?_
        refine Ls rfl ?_
        refine Ls rfl ?_
        refine Ls rfl ?_
        refine Ls rfl ?_
        refine Ls rfl ?_
        refine Lq (Qp rfl rfl) ?_
        refine Lm rfl ?_
        refine zQ (t:=85) rfl rfl ?_
        refine Ls rfl ?_
        refine Ls rfl ?_
        refine Ls rfl ?_
        refine Ls rfl ?_
        refine Ls rfl ?_
        refine Ls rfl ?_
        refine Lq (Qp rfl rfl) ?_
        refine Ld ?_
        refine zF rfl ?_
        refine Ts ?_
        refine TR ?_
        refine La rfl ?_
        refine Ld ?_
        refine T.ret ?_
        exact ⟨.inl rfl,_,_,res [_] rfl ⟨rvT rfl,trivial⟩,⟨rfl,rfl⟩,Sa⟩
      refine zQ (t:=61) rfl (decide_eq_true ((by simpa using q0))) ?_
      refine Ls rfl ?_
      refine Ls rfl ?_
      refine Ls rfl ?_
      refine Ls rfl ?_
      refine Ls rfl ?_
      refine Ls rfl ?_
      refine Lq (Qp rfl rfl) ?_
      refine Lm rfl ?_
      refine zQ (t:=69) rfl rfl ?_
      refine Ls rfl ?_
      refine Ls rfl ?_
      refine Ls rfl ?_
      refine Ls rfl ?_
      refine Ls rfl ?_
      refine Ls rfl ?_
      refine Lq (Qp rfl rfl) ?_
      refine Lm rfl ?_
      refine zQ (t:=77) rfl rfl ?_
      refine Ls rfl ?_
      refine Ls rfl ?_
      refine Ls rfl ?_
      refine Ls rfl ?_
      refine Ls rfl ?_
      refine Ls rfl ?_
      refine Lq (Qp rfl rfl) ?_
      refine Lm rfl ?_
      refine zQ (t:=85) rfl rfl ?_
      refine Ls rfl ?_
      refine Ls rfl ?_
      refine Ls rfl ?_
      refine Ls rfl ?_
      refine Ls rfl ?_
      refine Ls rfl ?_
      refine Lq (Qp rfl rfl) ?_
      refine Ld ?_
      refine zF rfl ?_
      refine Ts ?_
      refine TR ?_
      refine La rfl ?_
      refine Ld ?_
      refine T.ret ?_
      exact ⟨.inl rfl,_,_,res [_] rfl ⟨rvT rfl,trivial⟩,⟨rfl,rfl⟩,Sa⟩
    refine Tk ?_
    refine Ts ?_
    refine yH ?_
    refine Ts ?_
    refine TR ?_
    refine Lq (Qi _ (e:=35) (sz:=3) rfl rfl rfl) ?_
    refine Lq (Qt.loadAggW (fqC ⟨.slice pa xr.length ca,xr,xf,xt⟩) rfl (λ w ho=>hx1 w (ho.map Sa))) ?_
    refine Le (El [.slice none 0 0,.int .i64 0,.int .i64 0] (by unfold Zf;kernel_rfl) ?_)
    intro g10
    refine L0 (Es [_,_,_] rfl rfl rfl rfl (by simp) ?_)
    try simp only [splice,lC,lN,dS,cA,tS,tZ,dZ,nA,aN]
    refine Ld ?_
    refine Ts ?_
    refine TR ?_
    refine Lq (Q0 rfl) ?_
    refine Lq (Ql rfl rfl) ?_
    refine Lq (yI (e:=24) (sz:=3) rfl) ?_
    refine Lq (yW rfl rfl) ?_
    refine Lm rfl ?_
    refine zQ (t:=53) rfl (decide_eq_true ((by omega))) ?_
    refine Ls rfl ?_
    refine Ls rfl ?_
    refine Ls rfl ?_
    refine Ls rfl ?_
    refine Ls rfl ?_
    refine Ls rfl ?_
    refine Lq (Qp rfl rfl) ?_
    refine Lm rfl ?_
    refine zQ (t:=61) rfl rfl ?_
    refine Ls rfl ?_
    refine Ls rfl ?_
    refine Ls rfl ?_
    refine Ls rfl ?_
    refine Ls rfl ?_
    refine Ls rfl ?_
    refine Lq (Qp rfl rfl) ?_
    refine Lm rfl ?_
    refine zQ (t:=69) rfl rfl ?_
    refine Ls rfl ?_
    refine Ls rfl ?_
    refine Ls rfl ?_
    refine Ls rfl ?_
    refine Ls rfl ?_
    refine Ls rfl ?_
    refine Lq (Qp rfl rfl) ?_
    refine Lm rfl ?_
    refine zQ (t:=77) rfl rfl ?_
    refine Ls rfl ?_
    refine Ls rfl ?_
    refine Ls rfl ?_
    refine Ls rfl ?_
    refine Ls rfl ?_
    refine Ls rfl ?_
    refine Lq (Qp rfl rfl) ?_
    refine Lm rfl ?_
    refine zQ (t:=85) rfl rfl ?_
    refine Ls rfl ?_
    refine Ls rfl ?_
    refine Ls rfl ?_
    refine Ls rfl ?_
    refine Ls rfl ?_
    refine Ls rfl ?_
    refine Lq (Qp rfl rfl) ?_
    refine Ld ?_
    refine zF rfl ?_
    refine Ts ?_
    refine TR ?_
    refine La rfl ?_
    refine Ld ?_
    refine T.ret ?_
    exact ⟨.inl rfl,_,_,res [_] rfl ⟨rvT rfl,trivial⟩,⟨rfl,rfl⟩,Sa⟩
  have ez:Q.take i=Q:=List.take_of_length_le (by omega)
  rw [ez] at hrow
  refine zB ?_
  refine Ts ?_
  refine TR ?_
  refine Lq (Q0 rfl) ?_
  refine Lq (Ql rfl rfl) ?_
  refine Le (Ec (Qg.term B h0 sw (by omega)) Tryz.func5 rfl rfl rfl ?_)
  rintro _ _ ⟨c2,p2,A2,rfl,hF2,rfl,-,hV2⟩
  try simp only [cA,nA]
  refine Lm rfl ?_
  refine Lq (Qx rfl rfl) ?_
  refine Lq (Qx rfl rfl) ?_
  refine Le (El [.string .empty,.int .i64 0,.int .i64 0,.int .i64 0,.string .empty,.int .i64 0,.slice none 0 0] (by unfold Zf;kernel_rfl) ?_)
  intro g11
  refine L0 (Es (c7 c2) rfl rfl rfl hF2.one (by simp) ?_)
  rw [splT c2 rfl]
  refine La rfl ?_
  refine Ld ?_
  refine Ts ?_
  refine Ts ?_
  refine TR ?_
  refine Lm rfl ?_
  refine Lq (Y2 rfl) ?_
  refine Ld ?_
  by_cases hp2:p2=true
  . skip
    subst hp2
    obtain ⟨ex,tx,ok2,cd2,vx⟩:=hV2 rfl
    refine yQ rfl ?_
    refine Tk ?_
    refine Ts ?_
    refine T.draw 6 ([blk g11 (c7 c2) 27,blk g4 [tV sw,iV y.1,iV y.2] 50]) (nB rfl) ?_
    refine Rq 0 rfl Sa (Qm rfl) ?_
    refine Rq 1 rfl Sa (QL [_,_,_,_,_,_,_] rfl ⟨rfl,rfl,rfl,rfl,rfl,rfl,rfl,trivial⟩) ?_
    refine Rq 3 rfl Sa (Qf (off:=1) rfl) ?_
    refine Rq 4 rfl Sa (QL [_,_] rfl ⟨rfl,rfl,trivial⟩) ?_
    refine yK 2 ?_
    refine z6 rfl (Ec (Qf.kept B [A2] a m c Q (h.mono λ w ho=>ho.tl) hm (by omega) tx c2 vx cd2.ok) Tryz.func8 rfl rfl rfl ?_)
    rintro _ _ ⟨K,B2,k2,e2,rfl,hk2,hB2,hnK,hlK,rfl⟩
    try simp only [cA,nA]
    refine ⟨Sa,?_⟩
    refine yK 5 ?_
    refine zY rfl (Ec (Ra.clip B [fqR k2 K.length e2 K,B2] k2 K.length e2 K (NormPost.fct hB2 hk2) rfl (by omega) y) Tryz.func15 rfl rfl rfl ?_)
    rintro _ _ ⟨P,B3,k3,e3,rfl,hk3,hB3,hnP,hlP,rfl⟩
    try simp only [cA,nA]
    refine Rd0 (by rfl) ?_
    simp only [dS,dZ,dN]
    refine La rfl ?_
    refine Ld ?_
    refine Ts ?_
    refine TR ?_
    refine Lm rfl ?_
    refine Lm rfl ?_
    refine Lq (Qf (off:=1) rfl) ?_
    refine Lq (QL [_,_] rfl ⟨rfl,rfl,trivial⟩) ?_
    refine Lq (QL [_,_,_,_,_,_,_] rfl ⟨rfl,rfl,rfl,rfl,rfl,rfl,rfl,trivial⟩) ?_
    refine Le (zK (c7 c2) (e:=27) (sz:=7) ⟨.agg #[.string .empty,.int .i64 0,.int .i64 0,.int .i64 0,.string .empty,.int .i64 0,.slice none 0 0],by kernel_rfl,rfl⟩ rfl rfl rfl ?_)
    intro g114
    refine Le (Ec (Ra.delete B [blk g114 (c7 c2) 27,A2] a m c Q (h.mono λ w ho=>ho.tl.tl) hm (by omega) y (some ⟨g114,0,none⟩) 1 1 [tx] [c2] (FlV.blk (l:=[A2]) (x:=[c2]) (g:=c7) rfl) (TmsS.one (vx.mono λ w ho=>ho.tl)) rfl (by decide) (λ t' h'=>by simp at h';subst h';exact cd2.ok)) Tryz.func17 rfl rfl rfl ?_)
    rintro _ _ ⟨E,H,hH,hE,O1,A5,pe,ce,pa,ca1,rfl,hpe,hpa,hO1,hO1z,rfl⟩
    try simp only [cA,nA]
    have hHl:H.length<=m:=by rw [hH,<-hm];exact hit_len _ (by rw [List.length_map];exact Nat.le_refl _)
    have hEl:E.length<=m:=by rw [hE,List.length_map];exact hHl
    have hO1l:O1.length<=2*m:=by have h1:=del_len y H;rw [<-hO1z,List.length_map] at h1;omega
    have hElt : ∀ e∈E,e<m:=λ e he=>by rw [hE] at he;obtain ⟨q,hq,rfl⟩:=List.mem_map.1 he;rw [hH] at hq;rw [<-hm];exact hitN_lt _ q hq
    have hEnd:E.Nodup:=by rw [hE,hH];exact hitN_nodup _ (by rw [List.length_map];exact Nat.le_refl _)
    refine Le (Ec (Ra.apply B [niR pe E.length ce E,fqR pa O1.length ca1 O1,A5] a m c Q (h.mono λ w ho=>ho.tl.tl.tl) hm pe E.length ce E (niR_fl hpe) rfl pa O1.length ca1 O1 ((NormPost.fct hO1 hpa).mono λ w ho=>ho.tl) rfl hElt hEnd) Tryz.func16 rfl rfl rfl ?_)
    rintro _ _ ⟨D,A6,pd,ed,rfl,hpd,hD,hDz,hDl,rfl⟩
    try simp only [cA,nA]
    refine Lm rfl ?_
    refine Lq (Qx rfl rfl) ?_
    refine Lq (Qx rfl rfl) ?_
    refine La rfl ?_
    refine La rfl ?_
    refine Ld ?_
    refine Ts ?_
    refine TR ?_
    refine Lm rfl ?_
    refine Lq (Qf (off:=1) rfl) ?_
    refine Lq (QL [_,_] rfl ⟨rfl,rfl,trivial⟩) ?_
    refine Lq (QL [_,_,_,_,_,_,_] rfl ⟨rfl,rfl,rfl,rfl,rfl,rfl,rfl,trivial⟩) ?_
    refine Le (zK (c7 c2) (e:=27) (sz:=7) ⟨.agg #[.string .empty,.int .i64 0,.int .i64 0,.int .i64 0,.string .empty,.int .i64 0,.slice none 0 0],by kernel_rfl,rfl⟩ rfl rfl rfl ?_)
    intro g124
    refine Le (Ec (Ra.update B [blk g124 (c7 c2) 27,A2] a m c Q (h.mono λ w ho=>ho.tl.tl) hm (by omega) y none 0 0 [] FlV.stn (λ s hs=>by cases hs) rfl (by decide) (some ⟨g124,0,none⟩) 1 1 [tx] [c2] (FlV.blk (l:=[A2]) (x:=[c2]) (g:=c7) rfl) (TmsS.one (vx.mono λ w ho=>ho.tl)) rfl (by decide) (λ t' h'=>by simp at h';subst h';exact cd2.ok) (λ f _ _=>fit_nil f.row)) Tryz.func18 rfl rfl rfl ?_)
    rintro _ _ ⟨E2,v2,rfl,hE2,O2,A7,pe2,ce2,pa2,ca2,rfl,hpe2,hpa2,hO2,hO2z,rfl⟩
    try simp only [cA,nA]
    rw [<-hH] at hE2 hO2z
    obtain rfl:E2=E:=hE2.trans hE.symm
    have hO2l:O2.length<=3*m:=by have h1:=upd_len y [] H;rw [<-hO2z,List.length_map] at h1;omega
    refine Lm rfl ?_
    refine Lq (Qx rfl rfl) ?_
    refine Lq (Qx rfl rfl) ?_
    refine Le (El [.slice none 0 0,.slice none 0 0] (by unfold Zf;kernel_rfl) ?_)
    intro g16
    refine L0 (Es [_,_] rfl rfl rfl rfl (by simp) ?_)
    try simp only [splice,lC,lN,dS,cA,tS,tZ,dZ,nA,aN]
    refine La rfl ?_
    refine Ld ?_
    refine Ts ?_
    refine TR ?_
    refine Lm rfl ?_
    refine Lq (QL [_,_] rfl ⟨rfl,rfl,trivial⟩) ?_
    refine Le (Ec (Ra.apply B [niR pe2 E2.length ce2 E2,fqR pa2 O2.length ca2 O2,A7] a m c Q (h.mono λ w ho=>ho.tl.tl.tl) hm pe2 E2.length ce2 E2 (niR_fl hpe2) rfl pa2 O2.length ca2 O2 ((NormPost.fct hO2 hpa2).mono λ w ho=>ho.tl) rfl hElt hEnd) Tryz.func16 rfl rfl rfl ?_)
    rintro _ _ ⟨D2,A8,pd2,ed2,rfl,hpd2,hD2,hD2z,hD2l,rfl⟩
    try simp only [cA,nA]
    refine Lm rfl ?_
    refine Lq (Qx rfl rfl) ?_
    refine Lq (Qx rfl rfl) ?_
    refine La rfl ?_
    refine La rfl ?_
    refine Ld ?_
    refine Ts ?_
    refine Ts ?_
    refine TR ?_
    refine Lm rfl ?_
    refine Lq (yW rfl rfl) ?_
    refine Lm rfl ?_
    refine yT (t:=136) rfl rfl ?_
    refine Lm rfl ?_
    refine Lq (yW rfl rfl) ?_
    refine Lq (Qp rfl rfl) ?_
    refine Lm rfl ?_
    refine yT (t:=140) rfl rfl ?_
    refine Lm rfl ?_
    refine Lq (yW rfl rfl) ?_
    refine Lq (Qp rfl rfl) ?_
    refine Lm rfl ?_
    refine yT (t:=144) rfl rfl ?_
    refine Lm rfl ?_
    refine Le (zK [_] (e:=22) (sz:=1) ⟨.slice none 0 0,by kernel_rfl,rfl⟩ rfl rfl rfl ?_)
    intro g146
    refine Le (Ec (Qe.normal B [blk g146 [.slice pd D.length ed] 22,fqR pd D.length ed D,A6] (some ⟨g146,0,none⟩) 1 1 [(.slice pd D.length ed,D)] (LsV.one (NormPost.fct hD hpd)) rfl (by decide) (by simp [allQ];omega)) Tryz.func10 rfl rfl rfl ?_)
    rintro _ _ ⟨N1,C1,n1,f1,rfl,hn1',hC1,hnN1,hlN1,rfl⟩
    try simp only [cA,nA]
    refine Lm rfl ?_
    refine Lm rfl ?_
    refine Le (Ec (Qe.except B [fqR k3 P.length e3 P,B3] a m c Q (h.mono λ w ho=>ho.tl.tl) hm (by omega) k3 P.length e3 P (NormPost.fct hB3 hk3) rfl (by omega)) Tryz.func9 rfl rfl rfl ?_)
    rintro _ _ ⟨N2,C2,n2,f2,rfl,hn2',hC2,hnN2,hlN2,rfl⟩
    try simp only [cA,nA]
    have hLn:m=(Q.map Fq.fz).length:=by rw [List.length_map];exact hm.symm
    have hHE:E2=(hitN y (λ r=>holdsL r [tx]) (Q.map Fq.fz) (Q.map Fq.fz).length).map (·.1):=by rw [hE,hH,List.length_map]
    have hH2:H=hitN y (λ r=>holdsL r [tx]) (Q.map Fq.fz) (Q.map Fq.fz).length:=by rw [hH,List.length_map]
    have hnK2:NF (K.map Fq.fz) (cnt ((Q.map Fq.fz).filter λ f=>holdsL f.row [tx])):=by simp only [holdsL_one];exact hnK
    rw [allQ_one,hDz,hO1z,hH2,hLn] at hnN1
    rw [allQ_one] at hlN1
    refine Le (Ec (Qf.same B [fqR n1 N1.length f1 N1,C1,fqR n2 N2.length f2 N2,C2] n1 N1.length f1 N1 ((NormPost.fct hC1 hn1').mono λ w ho=>ho.map Sa) rfl n2 N2.length f2 N2 ((NormPost.fct hC2 hn2').mono λ w ho=>ho.tl.tl) rfl (del_same (h:=λ r=>holdsL r [tx]) hHE hnK2 hnP hnN1 hnN2)) Tryz.func14 rfl rfl rfl ?_)
    rintro _ _ ⟨rfl,rfl⟩
    try simp only [cA,nA]
    refine Lq (Y2 rfl) ?_
    refine Lq (Qp rfl rfl) ?_
    refine Lm rfl ?_
    refine yT (t:=154) rfl rfl ?_
    refine Lm rfl ?_
    refine Le (zK [_] (e:=22) (sz:=1) ⟨.slice none 0 0,by kernel_rfl,rfl⟩ rfl rfl rfl ?_)
    intro g156
    refine Le (Ec (Qe.normal B [blk g156 [.slice pd2 D2.length ed2] 22,fqR pd2 D2.length ed2 D2,A8] (some ⟨g156,0,none⟩) 1 1 [(.slice pd2 D2.length ed2,D2)] (LsV.one (NormPost.fct hD2 hpd2)) rfl (by decide) (by simp [allQ];omega)) Tryz.func10 rfl rfl rfl ?_)
    rintro _ _ ⟨N3,C3,n3,f3,rfl,hn3',hC3,hnN3,hlN3,rfl⟩
    try simp only [cA,nA]
    rw [allQ_one] at hlN3
    rw [allQ_one,hD2z,hO2z,hH2,hLn] at hnN3
    refine Lm rfl ?_
    refine Le (zK [_] (e:=22) (sz:=1) ⟨.slice none 0 0,by kernel_rfl,rfl⟩ rfl rfl rfl ?_)
    intro g159
    refine Le (Ec (Qe.normal B [blk g159 [.slice a m c] 22] (some ⟨g159,0,none⟩) 1 1 [(.slice a m c,Q)] (LsV.one h) rfl (by decide) (by simp [allQ];omega)) Tryz.func10 rfl rfl rfl ?_)
    rintro _ _ ⟨N4,C4,n4,f4,rfl,hn4',hC4,hnN4,hlN4,rfl⟩
    try simp only [cA,nA]
    rw [allQ_one] at hnN4 hlN4
    refine Le (Ec (Qf.same B [fqR n3 N3.length f3 N3,C3,fqR n4 N4.length f4 N4,C4] n3 N3.length f3 N3 ((NormPost.fct hC3 hn3').mono λ w ho=>ho.map Sa) rfl n4 N4.length f4 N4 ((NormPost.fct hC4 hn4').mono λ w ho=>ho.tl.tl) rfl (upd_same (h:=λ r=>holdsL r [tx]) hHE hnN3 hnN4)) Tryz.func14 rfl rfl rfl ?_)
    rintro _ _ ⟨rfl,rfl⟩
    try simp only [cA,nA]
    refine Lq (Y2 rfl) ?_
    refine Lq (Qp rfl rfl) ?_
    refine Ld ?_
    refine yQ rfl ?_
    refine T.conv (l':=fqR k3 P.length e3 P::B3::blk g16 [.slice pe2 E2.length ce2,.slice pa2 O2.length ca2] 56::A2::blk g11 (c7 c2) 27::blk g4 [tV sw,iV y.1,iV y.2] 50::F) (λ w ho=>ho.map Sa) ?_
    refine Tk ?_
    refine Ts ?_
    refine TR ?_
    refine Le (Ec (Ps.plus B h0) Tryz.func19 rfl rfl rfl ?_)
    rintro _ _ ⟨gp,AE,ee,pw,cw,rfl,hve,rfl⟩
    try simp only [cA,nA]
    obtain ⟨eo1,en1,ex1,ef1,ea1,em1,ek1,rfl⟩:=hve.form
    refine Lm rfl ?_
    refine Lq (Qx rfl rfl) ?_
    refine Lq (Qx rfl rfl) ?_
    refine Le (El [.string .empty,.string .empty,.slice none 0 0,.slice none 0 0,.slice none 0 0,.slice none 0 0,.int .i64 0,.int .i64 0,.slice none 0 0,.slice none 0 0,.slice none 0 0,.slice none 0 0,.slice none 0 0,.slice none 0 0] (by unfold Zf;kernel_rfl) ?_)
    intro g20
    refine Le (El [.int .i64 0,.int .i64 0] (by unfold Zf;kernel_rfl) ?_)
    intro g21
    refine L0 (Es [_,_,_,_,_,_,_,_,_,_,_,_,_,_] rfl rfl rfl rfl (by simp) ?_)
    try simp only [splice,lC,lN,dS,cA,tS,tZ,dZ,nA,aN]
    refine L0 (Es [_,_] rfl rfl rfl rfl (by simp) ?_)
    try simp only [splice,lC,lN,dS,cA,tS,tZ,dZ,nA,aN]
    refine Ld ?_
    refine Ts ?_
    refine Ts ?_
    refine TR ?_
    refine Lq (Q0 rfl) ?_
    refine Lq (Ql rfl rfl) ?_
    refine Lq (yW rfl rfl) ?_
    refine Lm rfl ?_
    refine yT (t:=171) rfl rfl ?_
    refine Lq (Qf (off:=5) rfl) ?_
    refine Lq (Ql rfl rfl) ?_
    refine Lq (yI (e:=78) (sz:=6) rfl) ?_
    refine Lq (yW rfl rfl) ?_
    refine Lq (Qp rfl rfl) ?_
    refine Ld ?_
    refine yQ rfl ?_
    refine Tk ?_
    refine T.cut (λ fz lz => ∃ (f0:Fr) (g22:Nat) (ta:Str) (tb td te:Int) (tf:Str) (tg:Int) (tp:Option Addr) (tn tk:Nat) (AT:Wp),(TmV B [AT] plusT ⟨tV ta,iV tb,iV td,iV te,tV tf,iV tg,.slice tp tn tk⟩)/\fz=(upd (upd (upd (upd (upd (upd (upd (upd f0 0 (.slice a m c)) 2 (iV t)) 4 (.pointer (some ⟨g4,0,none⟩))) 11 (.pointer (some ⟨g11,0,none⟩))) 13 (.slice k3 P.length e3)) 16 (.pointer (some ⟨g16,0,none⟩))) 22 (.pointer (some ⟨g22,0,none⟩))) 23 (iV 0))/\lz=blk g22 [tV ta,iV tb,iV td,iV te,tV tf,iV tg,.slice tp tn tk] 27::AT::fqR k3 P.length e3 P::B3::blk g16 [.slice pe2 E2.length ce2,.slice pa2 O2.length ca2] 56::A2::blk g11 (c7 c2) 27::blk g4 [tV sw,iV y.1,iV y.2] 50::F) ?_ ?_
    . skip
      refine T.draw 14 ([blk g20 (stU (.slice (some ⟨gp,0,none⟩) 1 1) (.slice pw 0 cw)) 68,blk gp [tV [65],tV eo1,iV en1,tV ex1,tV ef1,.slice ea1 em1 ek1] 78]) (nB rfl) ?_
      refine Rq 0 rfl Sa (Qf (off:=5) rfl) ?_
      refine Rq 1 rfl Sa (Ql rfl rfl) ?_
      refine Rq 2 rfl Sa (Qi 0 (e:=78) (sz:=6) rfl rfl rfl) ?_
      refine Rq 3 rfl Sa (Qf (off:=1) rfl) ?_
      refine Rq 4 rfl Sa (QL [_,_,_,_,_] rfl ⟨rfl,rfl,rfl,rfl,rfl,trivial⟩) ?_
      refine YC [5,12] (List.forall_mem_cons.2 ⟨?_,List.forall_mem_cons.2 ⟨?_,List.forall_mem_nil _⟩⟩)
      . skip
        refine z6 rfl (Ec (Qg.table B) Tryz.func22 rfl rfl rfl ?_)
        rintro _ _ ⟨gc,rfl,rfl⟩
        try simp only [cA,nA]
        refine ⟨Sa,?_⟩
        refine YC [6,12] (List.forall_mem_cons.2 ⟨?_,List.forall_mem_cons.2 ⟨?_,List.forall_mem_nil _⟩⟩)
        . skip
          refine z6 rfl (zK [_,_,_,_,_] (e:=82) (sz:=5) ⟨.agg #[.int .i64 0,.string .empty,.slice none 0 0,.slice none 0 0,.bool false],by kernel_rfl,rfl⟩ rfl rfl rfl ?_)
          intro g184
          refine ⟨Sa,?_⟩
          refine YC [7,12] (List.forall_mem_cons.2 ⟨?_,List.forall_mem_cons.2 ⟨?_,List.forall_mem_nil _⟩⟩)
          . skip
            refine z6 rfl (Ec (Bd.scope B [blk g184 (tb0C gc) 82,blk gc colsC 140] _ [tb0T] (Qg.tbV B g184 gc []) (by decide) (by decide)) Tryz.func21 rfl rfl rfl ?_)
            rintro _ _ ⟨ps,ks,rfl,hps,rfl⟩
            try simp only [cA,nA]
            obtain ⟨gs,rfl⟩:=hps (by decide)
            rw [show scopeP [tb0T]=tblSc from rfl,show tblSc.length=2 from rfl]
            have hsc:FlV B [row (.slice (some ⟨gs,0,none⟩) 2 ks) 142 3 2 (tblSc.flatMap coC)] coC (.slice (some ⟨gs,0,none⟩) 2 ks) tblSc:=FlV.row (sz:=3) coC_len (by omega) rfl (λ _=>⟨gs,rfl⟩)
            refine ⟨Sa,?_⟩
            refine YC [8,12] (List.forall_mem_cons.2 ⟨?_,List.forall_mem_cons.2 ⟨?_,List.forall_mem_nil _⟩⟩)
            . skip
              refine z6 rfl (Ec (Qg.bind B [AE,row (.slice (some ⟨gs,0,none⟩) 2 ks) 142 3 2 (tblSc.flatMap coC)] plusE _ _ 2 ks tblSc (hve.mono λ w ho=>ho.map Sa) (hsc.mono λ w ho=>ho.map Sa) rfl (by decide)) Tryz.func20 rfl rfl rfl ?_)
              rintro _ _ ⟨ct,kk,AT,rfl,⟨ta,tb,td,te,tf,tg,tp,tn,tk,rfl⟩,rfl,hk0,hk9⟩
              try simp only [cA,nA]
              obtain rfl:kk=0:=by
                by_cases z:kk=0
                . exact z
                . obtain ⟨code,hcd⟩:=hk9 z
                  rw [plus_bind] at hcd;cases hcd
              obtain ⟨tt,hbt,htv⟩:=hk0 rfl
              rw [plus_bind] at hbt
              cases hbt
              refine ⟨Sa,?_⟩
              refine Rq 9 rfl Sa (Qm rfl) ?_
              refine Rq 10 rfl Sa (Qx rfl rfl) ?_
              refine Rq 11 rfl Sa (Qx rfl rfl) ?_
              refine yK 12 ?_
              refine z6 rfl (El [.string .empty,.int .i64 0,.int .i64 0,.int .i64 0,.string .empty,.int .i64 0,.slice none 0 0] (by unfold Zf;kernel_rfl) ?_)
              intro g22
              refine ⟨Sa,?_⟩
              refine yK 13 ?_
              refine YH rfl (Es [_,_,_,_,_,_,_] rfl rfl rfl rfl (by simp) ?_)
              try simp only [splice,lC,lN,dS,cA,tS,tZ,dZ,nA,aN]
              refine ⟨Sa,?_⟩
              refine Rd0 (by rfl) ?_
              simp only [dS,dZ,dN]
              refine La rfl ?_
              refine Ld ?_
              exact ⟨_,⟨_,g22,ta,tb,td,te,tf,tg,tp,tn,tk,AT,htv,(Za rfl (Za rfl (Za rfl (Za rfl (Za rfl (Za rfl (Za rfl (Za rfl rfl)))))))),rfl⟩,Sa⟩
            refine z6 rfl (El [.string .empty,.int .i64 0,.int .i64 0,.int .i64 0,.string .empty,.int .i64 0,.slice none 0 0] (by unfold Zf;kernel_rfl) ?_)
            intro g22
            refine ⟨Sa,?_⟩
            refine yK 8 ?_
            refine z6 rfl (Ec (Qg.bind B [AE,row (.slice (some ⟨gs,0,none⟩) 2 ks) 142 3 2 (tblSc.flatMap coC)] plusE _ _ 2 ks tblSc (hve.mono λ w ho=>ho.map Sa) (hsc.mono λ w ho=>ho.map Sa) rfl (by decide)) Tryz.func20 rfl rfl rfl ?_)
            rintro _ _ ⟨ct,kk,AT,rfl,⟨ta,tb,td,te,tf,tg,tp,tn,tk,rfl⟩,rfl,hk0,hk9⟩
            try simp only [cA,nA]
            obtain rfl:kk=0:=by
              by_cases z:kk=0
              . exact z
              . obtain ⟨code,hcd⟩:=hk9 z
                rw [plus_bind] at hcd;cases hcd
            obtain ⟨tt,hbt,htv⟩:=hk0 rfl
            rw [plus_bind] at hbt
            cases hbt
            refine ⟨Sa,?_⟩
            refine Rq 9 rfl Sa (Qm rfl) ?_
            refine Rq 10 rfl Sa (Qx rfl rfl) ?_
            refine Rq 11 rfl Sa (Qx rfl rfl) ?_
            refine yK 13 ?_
            refine YH rfl (Es [_,_,_,_,_,_,_] rfl rfl rfl rfl (by simp) ?_)
            try simp only [splice,lC,lN,dS,cA,tS,tZ,dZ,nA,aN]
            refine ⟨Sa,?_⟩
            refine Rd0 (by rfl) ?_
            simp only [dS,dZ,dN]
            refine La rfl ?_
            refine Ld ?_
            exact ⟨_,⟨_,g22,ta,tb,td,te,tf,tg,tp,tn,tk,AT,htv,(Za rfl (Za rfl (Za rfl (Za rfl (Za rfl (Za rfl (Za rfl (Za rfl rfl)))))))),rfl⟩,Sa⟩
          refine z6 rfl (El [.string .empty,.int .i64 0,.int .i64 0,.int .i64 0,.string .empty,.int .i64 0,.slice none 0 0] (by unfold Zf;kernel_rfl) ?_)
          intro g22
          refine ⟨Sa,?_⟩
          refine yK 7 ?_
          refine z6 rfl (Ec (Bd.scope B [blk g184 (tb0C gc) 82,blk gc colsC 140] _ [tb0T] (Qg.tbV B g184 gc []) (by decide) (by decide)) Tryz.func21 rfl rfl rfl ?_)
          rintro _ _ ⟨ps,ks,rfl,hps,rfl⟩
          try simp only [cA,nA]
          obtain ⟨gs,rfl⟩:=hps (by decide)
          rw [show scopeP [tb0T]=tblSc from rfl,show tblSc.length=2 from rfl]
          have hsc:FlV B [row (.slice (some ⟨gs,0,none⟩) 2 ks) 142 3 2 (tblSc.flatMap coC)] coC (.slice (some ⟨gs,0,none⟩) 2 ks) tblSc:=FlV.row (sz:=3) coC_len (by omega) rfl (λ _=>⟨gs,rfl⟩)
          refine ⟨Sa,?_⟩
          refine yK 8 ?_
          refine z6 rfl (Ec (Qg.bind B [AE,row (.slice (some ⟨gs,0,none⟩) 2 ks) 142 3 2 (tblSc.flatMap coC)] plusE _ _ 2 ks tblSc (hve.mono λ w ho=>ho.map Sa) (hsc.mono λ w ho=>ho.map Sa) rfl (by decide)) Tryz.func20 rfl rfl rfl ?_)
          rintro _ _ ⟨ct,kk,AT,rfl,⟨ta,tb,td,te,tf,tg,tp,tn,tk,rfl⟩,rfl,hk0,hk9⟩
          try simp only [cA,nA]
          obtain rfl:kk=0:=by
            by_cases z:kk=0
            . exact z
            . obtain ⟨code,hcd⟩:=hk9 z
              rw [plus_bind] at hcd;cases hcd
          obtain ⟨tt,hbt,htv⟩:=hk0 rfl
          rw [plus_bind] at hbt
          cases hbt
          refine ⟨Sa,?_⟩
          refine Rq 9 rfl Sa (Qm rfl) ?_
          refine Rq 10 rfl Sa (Qx rfl rfl) ?_
          refine Rq 11 rfl Sa (Qx rfl rfl) ?_
          refine yK 13 ?_
          refine YH rfl (Es [_,_,_,_,_,_,_] rfl rfl rfl rfl (by simp) ?_)
          try simp only [splice,lC,lN,dS,cA,tS,tZ,dZ,nA,aN]
          refine ⟨Sa,?_⟩
          refine Rd0 (by rfl) ?_
          simp only [dS,dZ,dN]
          refine La rfl ?_
          refine Ld ?_
          exact ⟨_,⟨_,g22,ta,tb,td,te,tf,tg,tp,tn,tk,AT,htv,(Za rfl (Za rfl (Za rfl (Za rfl (Za rfl (Za rfl (Za rfl (Za rfl rfl)))))))),rfl⟩,Sa⟩
        refine z6 rfl (El [.string .empty,.int .i64 0,.int .i64 0,.int .i64 0,.string .empty,.int .i64 0,.slice none 0 0] (by unfold Zf;kernel_rfl) ?_)
        intro g22
        refine ⟨Sa,?_⟩
        refine yK 6 ?_
        refine z6 rfl (zK [_,_,_,_,_] (e:=82) (sz:=5) ⟨.agg #[.int .i64 0,.string .empty,.slice none 0 0,.slice none 0 0,.bool false],by kernel_rfl,rfl⟩ rfl rfl rfl ?_)
        intro g184
        refine ⟨Sa,?_⟩
        refine yK 7 ?_
        refine z6 rfl (Ec (Bd.scope B [blk g184 (tb0C gc) 82,blk gc colsC 140] _ [tb0T] (Qg.tbV B g184 gc []) (by decide) (by decide)) Tryz.func21 rfl rfl rfl ?_)
        rintro _ _ ⟨ps,ks,rfl,hps,rfl⟩
        try simp only [cA,nA]
        obtain ⟨gs,rfl⟩:=hps (by decide)
        rw [show scopeP [tb0T]=tblSc from rfl,show tblSc.length=2 from rfl]
        have hsc:FlV B [row (.slice (some ⟨gs,0,none⟩) 2 ks) 142 3 2 (tblSc.flatMap coC)] coC (.slice (some ⟨gs,0,none⟩) 2 ks) tblSc:=FlV.row (sz:=3) coC_len (by omega) rfl (λ _=>⟨gs,rfl⟩)
        refine ⟨Sa,?_⟩
        refine yK 8 ?_
        refine z6 rfl (Ec (Qg.bind B [AE,row (.slice (some ⟨gs,0,none⟩) 2 ks) 142 3 2 (tblSc.flatMap coC)] plusE _ _ 2 ks tblSc (hve.mono λ w ho=>ho.map Sa) (hsc.mono λ w ho=>ho.map Sa) rfl (by decide)) Tryz.func20 rfl rfl rfl ?_)
        rintro _ _ ⟨ct,kk,AT,rfl,⟨ta,tb,td,te,tf,tg,tp,tn,tk,rfl⟩,rfl,hk0,hk9⟩
        try simp only [cA,nA]
        obtain rfl:kk=0:=by
          by_cases z:kk=0
          . exact z
          . obtain ⟨code,hcd⟩:=hk9 z
            rw [plus_bind] at hcd;cases hcd
        obtain ⟨tt,hbt,htv⟩:=hk0 rfl
        rw [plus_bind] at hbt
        cases hbt
        refine ⟨Sa,?_⟩
        refine Rq 9 rfl Sa (Qm rfl) ?_
        refine Rq 10 rfl Sa (Qx rfl rfl) ?_
        refine Rq 11 rfl Sa (Qx rfl rfl) ?_
        refine yK 13 ?_
        refine YH rfl (Es [_,_,_,_,_,_,_] rfl rfl rfl rfl (by simp) ?_)
        try simp only [splice,lC,lN,dS,cA,tS,tZ,dZ,nA,aN]
        refine ⟨Sa,?_⟩
        refine Rd0 (by rfl) ?_
        simp only [dS,dZ,dN]
        refine La rfl ?_
        refine Ld ?_
        exact ⟨_,⟨_,g22,ta,tb,td,te,tf,tg,tp,tn,tk,AT,htv,(Za rfl (Za rfl (Za rfl (Za rfl (Za rfl (Za rfl (Za rfl (Za rfl rfl)))))))),rfl⟩,Sa⟩
      refine z6 rfl (El [.string .empty,.int .i64 0,.int .i64 0,.int .i64 0,.string .empty,.int .i64 0,.slice none 0 0] (by unfold Zf;kernel_rfl) ?_)
      intro g22
      refine ⟨Sa,?_⟩
      refine yK 5 ?_
      refine z6 rfl (Ec (Qg.table B) Tryz.func22 rfl rfl rfl ?_)
      rintro _ _ ⟨gc,rfl,rfl⟩
      try simp only [cA,nA]
      refine ⟨Sa,?_⟩
      refine yK 6 ?_
      refine z6 rfl (zK [_,_,_,_,_] (e:=82) (sz:=5) ⟨.agg #[.int .i64 0,.string .empty,.slice none 0 0,.slice none 0 0,.bool false],by kernel_rfl,rfl⟩ rfl rfl rfl ?_)
      intro g184
      refine ⟨Sa,?_⟩
      refine yK 7 ?_
      refine z6 rfl (Ec (Bd.scope B [blk g184 (tb0C gc) 82,blk gc colsC 140] _ [tb0T] (Qg.tbV B g184 gc []) (by decide) (by decide)) Tryz.func21 rfl rfl rfl ?_)
      rintro _ _ ⟨ps,ks,rfl,hps,rfl⟩
      try simp only [cA,nA]
      obtain ⟨gs,rfl⟩:=hps (by decide)
      rw [show scopeP [tb0T]=tblSc from rfl,show tblSc.length=2 from rfl]
      have hsc:FlV B [row (.slice (some ⟨gs,0,none⟩) 2 ks) 142 3 2 (tblSc.flatMap coC)] coC (.slice (some ⟨gs,0,none⟩) 2 ks) tblSc:=FlV.row (sz:=3) coC_len (by omega) rfl (λ _=>⟨gs,rfl⟩)
      refine ⟨Sa,?_⟩
      refine yK 8 ?_
      refine z6 rfl (Ec (Qg.bind B [AE,row (.slice (some ⟨gs,0,none⟩) 2 ks) 142 3 2 (tblSc.flatMap coC)] plusE _ _ 2 ks tblSc (hve.mono λ w ho=>ho.map Sa) (hsc.mono λ w ho=>ho.map Sa) rfl (by decide)) Tryz.func20 rfl rfl rfl ?_)
      rintro _ _ ⟨ct,kk,AT,rfl,⟨ta,tb,td,te,tf,tg,tp,tn,tk,rfl⟩,rfl,hk0,hk9⟩
      try simp only [cA,nA]
      obtain rfl:kk=0:=by
        by_cases z:kk=0
        . exact z
        . obtain ⟨code,hcd⟩:=hk9 z
          rw [plus_bind] at hcd;cases hcd
      obtain ⟨tt,hbt,htv⟩:=hk0 rfl
      rw [plus_bind] at hbt
      cases hbt
      refine ⟨Sa,?_⟩
      refine Rq 9 rfl Sa (Qm rfl) ?_
      refine Rq 10 rfl Sa (Qx rfl rfl) ?_
      refine Rq 11 rfl Sa (Qx rfl rfl) ?_
      refine yK 13 ?_
      refine YH rfl (Es [_,_,_,_,_,_,_] rfl rfl rfl rfl (by simp) ?_)
      try simp only [splice,lC,lN,dS,cA,tS,tZ,dZ,nA,aN]
      refine ⟨Sa,?_⟩
      refine Rd0 (by rfl) ?_
      simp only [dS,dZ,dN]
      refine La rfl ?_
      refine Ld ?_
      exact ⟨_,⟨_,g22,ta,tb,td,te,tf,tg,tp,tn,tk,AT,htv,(Za rfl (Za rfl (Za rfl (Za rfl (Za rfl (Za rfl (Za rfl (Za rfl rfl)))))))),rfl⟩,Sa⟩
    rintro fz lz ⟨f0,g22,ta,tb,td,te,tf,tg,tp,tn,tk,AT,htp,rfl,rfl⟩
    refine Ts ?_
    refine TR ?_
    refine Lm rfl ?_
    refine Lq (Qf (off:=1) rfl) ?_
    refine Lq (QL [_,_] rfl ⟨rfl,rfl,trivial⟩) ?_
    refine Lq (QL [_,_,_,_,_,_,_] rfl ⟨rfl,rfl,rfl,rfl,rfl,rfl,rfl,trivial⟩) ?_
    refine Lq (z8 [(0,1),(1,7)] [.int .i64 0,.string .empty,.int .i64 0,.int .i64 0,.int .i64 0,.string .empty,.int .i64 0,.slice none 0 0] [_,_,_,_,_,_,_,_] [(0,_),(1,_)] (by unfold Zf;kernel_rfl) rfl rfl) ?_
    refine Le (zK (stSC ⟨0,plusT,⟨tV ta,iV tb,iV td,iV te,tV tf,iV tg,.slice tp tn tk⟩⟩) (e:=85) (sz:=8) ⟨.agg #[.int .i64 0,.string .empty,.int .i64 0,.int .i64 0,.int .i64 0,.string .empty,.int .i64 0,.slice none 0 0],by kernel_rfl,rfl⟩ rfl rfl rfl ?_)
    intro gS
    refine Lq (QL [_,_,_,_,_,_,_] rfl ⟨rfl,rfl,rfl,rfl,rfl,rfl,rfl,trivial⟩) ?_
    refine Le (zK (c7 c2) (e:=27) (sz:=7) ⟨.agg #[.string .empty,.int .i64 0,.int .i64 0,.int .i64 0,.string .empty,.int .i64 0,.slice none 0 0],by kernel_rfl,rfl⟩ rfl rfl rfl ?_)
    intro gT
    refine Le (Ec (Ra.update B [blk gS (stSC ⟨0,plusT,⟨tV ta,iV tb,iV td,iV te,tV tf,iV tg,.slice tp tn tk⟩⟩) 85,AT,blk gT (c7 c2) 27,A2] a m c Q (h.mono λ w ho=>ho.map Sa) hm (by omega) y (some ⟨gS,0,none⟩) 1 1 [⟨0,plusT,⟨tV ta,iV tb,iV td,iV te,tV tf,iV tg,.slice tp tn tk⟩⟩] (FlV.blk (x:=[⟨0,plusT,⟨tV ta,iV tb,iV td,iV te,tV tf,iV tg,.slice tp tn tk⟩⟩]) (g:=stSC) rfl) (λ s hs=>by simp at hs;subst hs;exact ⟨htp.mono λ w ho=>ho.map Sa,plus_ok⟩) rfl (by decide) (some ⟨gT,0,none⟩) 1 1 [tx] [c2] ((FlV.blk (t:=27) (l:=[A2]) (x:=[c2]) (g:=c7) rfl).mono λ w ho=>(ho.map Sa:Own B w [blk gT (c7 c2) 27,A2])) (TmsS.one (vx.mono λ w ho=>ho.map Sa)) rfl (by decide) (λ t' h'=>by simp at h';subst h';exact cd2.ok) (λ f hf _=>(fit_plus (rowP_all hrow f hf)).1)) Tryz.func18 rfl rfl rfl ?_)
    rintro _ _ ⟨E3,v3,rfl,hE3,O3,A9,pe3,ce3,pa3,ca3,rfl,hpe3,hpa3,hO3,hO3z,rfl⟩
    try simp only [cA,nA]
    rw [<-hH] at hE3 hO3z
    obtain rfl:E3=E2:=hE3.trans hE.symm
    have hO3l:O3.length<=3*m:=by have h1:=upd_len y [⟨0,plusT,⟨tV ta,iV tb,iV td,iV te,tV tf,iV tg,.slice tp tn tk⟩⟩] H;rw [<-hO3z,List.length_map] at h1;omega
    refine Lm rfl ?_
    refine Lq (Qx rfl rfl) ?_
    refine Lq (Qx rfl rfl) ?_
    refine L0 (Es [_,_] rfl rfl rfl rfl (by simp) ?_)
    try simp only [splice,lC,lN,dS,cA,tS,tZ,dZ,nA,aN]
    refine La rfl ?_
    refine Ld ?_
    refine Ts ?_
    refine TR ?_
    refine Lm rfl ?_
    refine Lq (QL [_,_] rfl ⟨rfl,rfl,trivial⟩) ?_
    refine Le (Ec (Ra.apply B [niR pe3 E3.length ce3 E3,fqR pa3 O3.length ca3 O3,A9] a m c Q (h.mono λ w ho=>ho.map Sa) hm pe3 E3.length ce3 E3 (niR_fl hpe3) rfl pa3 O3.length ca3 O3 ((NormPost.fct hO3 hpa3).mono λ w ho=>ho.tl) rfl hElt hEnd) Tryz.func16 rfl rfl rfl ?_)
    rintro _ _ ⟨D3,A10,pd3,ed3,rfl,hpd3,hD3,hD3z,hD3l,rfl⟩
    try simp only [cA,nA]
    refine Lm rfl ?_
    refine Lq (Qx rfl rfl) ?_
    refine Lq (Qx rfl rfl) ?_
    refine La rfl ?_
    refine La rfl ?_
    refine Ld ?_
    refine Ts ?_
    refine Ts ?_
    refine TR ?_
    refine Lm rfl ?_
    refine Lq (yW rfl rfl) ?_
    refine Lm rfl ?_
    refine yT (t:=209) rfl rfl ?_
    refine Lm rfl ?_
    refine Lq (yW rfl rfl) ?_
    refine Lq (Qp rfl rfl) ?_
    refine Lm rfl ?_
    refine yT (t:=213) rfl rfl ?_
    refine Lm rfl ?_
    refine Lq (yW rfl rfl) ?_
    refine Lq (Qp rfl rfl) ?_
    refine Ld ?_
    refine yQ rfl ?_
    refine Tk ?_
    refine Ts ?_
    refine TR ?_
    refine Lm rfl ?_
    refine Lm rfl ?_
    refine Le (Ec (Qe.except B [fqR k3 P.length e3 P,B3] a m c Q (h.mono λ w ho=>ho.map Sa) hm (by omega) k3 P.length e3 P (NormPost.fct hB3 hk3) rfl (by omega)) Tryz.func9 rfl rfl rfl ?_)
    rintro _ _ ⟨W0,C5,w0,d5,rfl,hw0,hC5,hnW,hlW,rfl⟩
    try simp only [cA,nA]
    refine La rfl ?_
    refine Ld ?_
    refine Ts ?_
    refine Ts ?_
    refine TR ?_
    refine Lm rfl ?_
    refine Lq (yI (e:=35) (sz:=3) rfl) ?_
    refine Lm rfl ?_
    refine Ld ?_
    refine yH ?_
    have hPr : ∀ x∈P,RowP x.row:=λ x hx=>by obtain ⟨g0,hg0,e0⟩:=part_row hnK2 hnP (List.mem_map_of_mem hx);have e1:g0.row=x.row:=e0;rw [<-e1];exact rowP_all hrow g0 hg0
    refine T.conv (l':=pu True::_) (λ w ho=>ho.map λ _ H=>Has.close_pu trivial H) ?_
    refine zG (λ mz fz lz => ∃ (f0:Fr) (i:Nat) (O:List Fq) (AW:Wp) (p:Option Addr) (n0 c0:Nat),(i<=P.length/\O.map Fq.fz=W0.map Fq.fz++((P.map Fq.fz).take i).map upF/\O.length=n0/\n0<=W0.length+i/\(∀ x∈O,FqV B [C5,AW] x)/\(0<n0 -> ∃ g,p=some ⟨g,0,none⟩))/\mz=P.length-i/\fz=(upd (upd (upd (upd (upd (upd (upd f0 0 (.slice a m c)) 2 (iV t)) 24 (.slice pd3 D3.length ed3)) 25 (.slice p n0 c0)) 220 (.slice k3 P.length e3)) 221 (iV P.length)) 222 (iV i))/\lz=fqR p n0 c0 O::AW::C5::fqR k3 P.length e3 P::B3::fqR pd3 D3.length ed3 D3::A10::F) ?_ ?_
    . refine ⟨_,_,⟨_,0,W0,pu True,w0,W0.length,d5,⟨Nat.zero_le _,by simp,rfl,Nat.le_refl _,λ x hx=>(hC5 x hx).mono λ w ho=>ho.map Sa,hw0⟩,rfl,(Za rfl (Za rfl (Za rfl (Za rfl (Za rfl (Za rfl (Za rfl rfl))))))),rfl⟩,Sa⟩
    rintro mz fz lz ⟨f0,i,O,AW,p,n0,c0,⟨hi,hO,hOn,hni,hOA,hp⟩,hmz,rfl,rfl⟩
    subst mz
    refine Ts ?_
    refine TR ?_
    refine Lq (yM rfl rfl) ?_
    refine Ld ?_
    refine Ts ?_
    refine yN rfl (λ hlt=>?_) (λ hlt=>?_)
    . skip
      obtain ⟨gk,rfl⟩:=hk3 (by omega)
      obtain ⟨x,hx⟩ : ∃ x,P[i]? = some x:=⟨_,List.getElem?_eq_getElem (by omega)⟩
      have hxm:=List.mem_of_getElem? hx
      have hxv:=hB3 x hxm
      have hsn:((P.map Fq.fz).take (i+1)).map upF=((P.map Fq.fz).take i).map upF++[upF x.fz]:=by rw [List.take_add_one,List.getElem?_map,hx];simp
      obtain ⟨va,vs,er,hva⟩:=hPr x hxm
      obtain ⟨pa,ca,ex⟩:=hxv.form
      obtain ⟨xs,xr,xf,xt⟩:=x
      dsimp only [Fq.fz] at ex hsn er
      subst er
      subst ex
      have hc:=λ j v hv=>flat_part (g:=fqC) (sz:=3) (λ _=>rfl) hx j v hv
      refine Tk ?_
      refine Ts ?_
      refine yH ?_
      refine Ts ?_
      refine TR ?_
      refine Lq (Qi i (e:=35) (sz:=3) rfl rfl rfl) ?_
      refine Lq (QL (fqC ⟨.slice pa 2 ca,[⟨1,va,[]⟩,⟨2,0,vs⟩],xf,xt⟩) rfl ⟨by rw [Nat.zero_add];exact hc 0 _ rfl,by rw [Nat.zero_add];exact hc 1 _ rfl,by rw [Nat.zero_add];exact hc 2 _ rfl,trivial⟩) ?_
      refine Le (El [.slice none 0 0,.int .i64 0,.int .i64 0] (by unfold Zf;kernel_rfl) ?_)
      intro g27
      refine L0 (Es [_,_,_] rfl rfl rfl rfl (by simp) ?_)
      try simp only [splice,lC,lN,dS,cA,tS,tZ,dZ,nA,aN]
      refine Ld ?_
      refine Ts ?_
      refine TR ?_
      refine Le (Y8 Qe.elemV ?_)
      rintro g3
      refine Lq (Q0 rfl) ?_
      refine Lq (Ql rfl rfl) ?_
      refine Le (Ea Qe.elemV rfl rfl (SrcOf.fq (m:=2) (x:=[(⟨1,va,[]⟩:Va),⟨2,0,vs⟩]) (hxv.2.mono λ w ho=>ho.map Sa) (λ _=>rfl) rfl (vaC_one _)) (by unfold maxLen;omega) ?_)
      rintro p4 c4 hp4
      try simp only [cA,nA]
      simp only [Nat.zero_add,List.nil_append,List.flatMap_nil]
      obtain ⟨g4w,rfl⟩:=hp4 (by omega)
      refine La rfl ?_
      refine Ld ?_
      refine Ts ?_
      refine TR ?_
      refine Lm rfl ?_
      refine Lq (Qi 0 (e:=24) (sz:=3) rfl rfl rfl) ?_
      refine Lq (Qf (off:=1) rfl) ?_
      refine Lq (Ql (v:=iV va) rfl rfl) ?_
      refine Lq (Qd rfl rfl (Ze)) ?_
      refine Lq (Qi 0 (e:=24) (sz:=3) rfl rfl rfl) ?_
      refine Lq (Qf (off:=1) rfl) ?_
      refine L0 (E1 rfl rfl rfl (by simp) ?_)
      rw [show ([(⟨1,va,[]⟩:Va),⟨2,0,vs⟩].flatMap vaC).set (0+0*3+1) (.int .i64 (va+1))=[(⟨1,va+1,[]⟩:Va),⟨2,0,vs⟩].flatMap vaC from rfl]
      refine Ld ?_
      refine TR ?_
      refine Lm rfl ?_
      refine Lm rfl ?_
      refine Lq (Qf (off:=1) rfl) ?_
      refine Lq (QL [_,_] rfl ⟨rfl,rfl,trivial⟩) ?_
      refine Lq (z8 [(0,1),(1,2)] [.slice none 0 0,.int .i64 0,.int .i64 0] [_,_,_] [(0,_),(1,_)] (by unfold Zf;kernel_rfl) rfl rfl) ?_
      refine Le (zK [_,_,_] (e:=35) (sz:=3) ⟨.agg #[.slice none 0 0,.int .i64 0,.int .i64 0],by kernel_rfl,rfl⟩ rfl rfl rfl ?_)
      intro g242
      refine Le (Ea Qe.elemF rfl rfl (SrcOf.blk (by kernel_rfl) rfl (by simp [Value.oneCell'])) (by unfold maxLen;omega) ?_)
      rintro p5 c5 hp5
      try simp only [cA,nA]
      rw [show O.flatMap fqC++[.slice (some ⟨g4w,0,none⟩) 2 c4,iV xf,iV xt]=(O++[]++[(⟨.slice (some ⟨g4w,0,none⟩) 2 c4,[⟨1,va+1,[]⟩,⟨2,0,vs⟩],xf,xt⟩:Fq)]).flatMap fqC by simp]
      have hfx:FqV B [vaR (some ⟨g4w,0,none⟩) 2 c4 [⟨1,va+1,[]⟩,⟨2,0,vs⟩]] ⟨.slice (some ⟨g4w,0,none⟩) 2 c4,[⟨1,va+1,[]⟩,⟨2,0,vs⟩],xf,xt⟩:=⟨by simp,FlV.row (l:=[]) (sz:=3) (λ _=>rfl) (by omega) rfl (λ _=>⟨g4w,rfl⟩)⟩
      have hsn2:=upd_own (R:=[]) hOA (λ z hz=>by cases hz) hfx
      refine La rfl ?_
      refine Ld ?_
      refine TR ?_
      refine Lq (Qd rfl rfl (Ze)) ?_
      refine Lm rfl ?_
      refine Ld ?_
      refine ⟨_,?_,_,⟨_,i+1,O++[]++[⟨.slice (some ⟨g4w,0,none⟩) 2 c4,[⟨1,va+1,[]⟩,⟨2,0,vs⟩],xf,xt⟩],sepL [AW,vaR (some ⟨g4w,0,none⟩) 2 c4 [⟨1,va+1,[]⟩,⟨2,0,vs⟩]],p5,n0+1,c5,⟨by omega,by rw [hsn,List.append_nil,List.map_append,hO,List.append_assoc];rfl,by simp [hOn],by omega,hsn2,hp5⟩,rfl,(Za rfl (Za rfl (Za rfl (Za rfl (Za rfl (Za rfl (Za rfl rfl))))))),rfl⟩,Sa⟩
      omega
    obtain rfl:i=P.length:=by omega
    have ez:(P.map Fq.fz).take P.length=P.map Fq.fz:=List.take_of_length_le (by simp)
    rw [ez] at hO
    subst hOn
    have hsl:slcN t (D3.map Fq.fz)=slcN t (Q.map Fq.fz):=by rw [hD3z,hO3z,hH2,hLn];exact slc_same t hHE
    have hOF:FctV B [fqR p O.length c0 O,C5,AW] (.slice p O.length c0) O:=⟨FlV.row (sz:=3) (λ _=>rfl) (by omega) rfl hp,λ x hx=>(hOA x hx).mono λ w ho=>ho.tl⟩
    refine zB ?_
    refine Ts ?_
    refine TR ?_
    refine Lm rfl ?_
    refine Le (zK [_] (e:=22) (sz:=1) ⟨.slice none 0 0,by kernel_rfl,rfl⟩ rfl rfl rfl ?_)
    intro g246
    refine Le (Ec (Qe.normal B [blk g246 [.slice pd3 D3.length ed3] 22,fqR pd3 D3.length ed3 D3,A10] (some ⟨g246,0,none⟩) 1 1 [(.slice pd3 D3.length ed3,D3)] (LsV.one (NormPost.fct hD3 hpd3)) rfl (by decide) (by simp [allQ];omega)) Tryz.func10 rfl rfl rfl ?_)
    rintro _ _ ⟨N5,C6,n5,f5,rfl,hn5,hC6,hnN5,hlN5,rfl⟩
    try simp only [cA,nA]
    rw [allQ_one] at hlN5
    rw [allQ_one,hD3z,hO3z,hH2,hLn] at hnN5
    refine Lm rfl ?_
    refine Le (zK [_] (e:=22) (sz:=1) ⟨.slice none 0 0,by kernel_rfl,rfl⟩ rfl rfl rfl ?_)
    intro g249
    refine Le (Ec (Qe.normal B [blk g249 [.slice p O.length c0] 22,fqR p O.length c0 O,C5,AW] (some ⟨g249,0,none⟩) 1 1 [(.slice p O.length c0,O)] (LsV.one hOF) rfl (by decide) (by simp [allQ];omega)) Tryz.func10 rfl rfl rfl ?_)
    rintro _ _ ⟨N6,C7,n6,f6,rfl,hn6,hC7,hnN6,hlN6,rfl⟩
    try simp only [cA,nA]
    rw [allQ_one] at hlN6
    rw [allQ_one,hO] at hnN6
    refine Le (Ec (Qf.same B [fqR n5 N5.length f5 N5,C6,fqR n6 N6.length f6 N6,C7] n5 N5.length f5 N5 ((NormPost.fct hC6 hn5).mono λ w ho=>ho.map Sa) rfl n6 N6.length f6 N6 ((NormPost.fct hC7 hn6).mono λ w ho=>ho.tl.tl) rfl (rais_same (h:=λ r=>holdsL r [tx]) hHE (λ f hf=>(fit_plus (rowP_all hrow f hf)).2) hnK2 hnP hnW hnN5 hnN6)) Tryz.func14 rfl rfl rfl ?_)
    rintro _ _ ⟨rfl,rfl⟩
    try simp only [cA,nA]
    refine Lm rfl ?_
    refine zQ (t:=252) rfl rfl ?_
    refine Lm rfl ?_
    refine Lm rfl ?_
    refine Le (Ec (Ra.slice B [fqR pd3 D3.length ed3 D3,A10] pd3 D3.length ed3 D3 (NormPost.fct hD3 hpd3) rfl (by omega) t) Tryz.func23 rfl rfl rfl ?_)
    rintro _ _ ⟨ps1,es1,rfl,rfl⟩
    try simp only [cA,nA]
    refine Lq (yI (e:=31) (sz:=1) rfl) ?_
    refine Lm rfl ?_
    refine Lm rfl ?_
    refine Le (Ec (Ra.slice B [] a m c Q h hm (by omega) t) Tryz.func23 rfl rfl rfl ?_)
    rintro _ _ ⟨ps2,es2,rfl,rfl⟩
    try simp only [cA,nA]
    refine Lq (yI (e:=31) (sz:=1) rfl) ?_
    refine Lq (yU rfl rfl) ?_
    refine Lq (Qp rfl rfl) ?_
    refine La rfl ?_
    refine Ld ?_
    refine T.ret ?_
    exact ⟨.inl rfl,_,_,res [_] rfl ⟨rvT rfl,trivial⟩,⟨(by simp [hsl];rfl),rfl⟩,Sa⟩
  have hp2:p2=false:=by simpa using hp2
  subst hp2
  refine zF rfl ?_
  refine Ts ?_
  refine TR ?_
  refine La rfl ?_
  refine Ld ?_
  refine T.ret ?_
  exact ⟨.inl rfl,_,_,res [_] rfl ⟨rvT rfl,trivial⟩,⟨rfl,rfl⟩,Sa⟩
end Go.Proofs.YtnnfjemaeefbiaaGreatDoor
