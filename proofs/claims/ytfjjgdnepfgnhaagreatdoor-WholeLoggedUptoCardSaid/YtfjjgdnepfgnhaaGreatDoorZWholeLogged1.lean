/- The law WholeLogged of annalstop holds (its card): for all arguments of bulk at most 1048576 the call returns true and the arguments read as before. Condition: the bound of the second form. -/
import Derived.Test.YtfjjgdnepfgnhaaGreatDoorZWlBase14
set_option linter.unusedSimpArgs false
set_option linter.unusedVariables false
set_option maxRecDepth 100000
set_option maxHeartbeats 16000000
namespace Go.Proofs.YtfjjgdnepfgnhaaGreatDoor
open Go.RowKit
theorem mod_id {α:Type} : ∀ (l:List α) (i:Nat),l.modify i id=l
 | [],i=>by simp
 | a::l,0=>by simp
 | a::l,i+1=>by simp [mod_id l i]
theorem sum_zero : ∀ (l:List Nat),(∀ x∈l,x=0)→l.sum=0
 | [],_=>rfl
 | a::l,h=>by rw [List.sum_cons,h a (by simp),sum_zero l (fun x hx=>h x (by simp [hx]))]
theorem vs_begs (p r:Nat) (es:List En):(replay p r es).vs.map (·.beg)=(es.filter fun e=>decide (e.kind=1)).map (·.txn):=by
  induction es using snocI with
  | nil=>rfl
  | snoc es e ih =>
    rw [replay_snoc,List.filter_append,List.map_append,←ih]
    unfold writeR
    dsimp only
    split
    · rename_i k;simp [k]
    · rename_i k
      rw [List.filter_cons_of_neg (by simpa using k),List.filter_nil,List.map_nil,List.append_nil]
      split
      · split
        · rw [modify_map (·.beg) (finV e.txn) id (fun _=>rfl),mod_id]
        · rfl
      · rfl
theorem sum_one (n p c:Nat) (h:p<n):((List.range n).map fun q=>if p=q then c else 0).sum=c:=by
  induction n with
  | zero=>omega
  | succ n ih =>
    rw [List.range_succ,List.map_append,List.sum_append]
    by_cases e:p=n
    · subst e
      have:((List.range p).map fun q=>if p=q then c else 0).sum=0:=by
        refine sum_zero _ fun x hx=>?_
        obtain ⟨q,hq,rfl⟩:=List.mem_map.1 hx
        rw [if_neg (by have:=List.mem_range.1 hq;omega)]
      rw [this];simp
    · rw [ih (by omega)];simp [e]
theorem sum_add (f g:Nat→Nat) (l:List Nat):(l.map fun q=>f q+g q).sum=(l.map f).sum+(l.map g).sum:=by
 induction l with
 | nil=>rfl
 | cons a l ih=>simp only [List.map_cons,List.sum_cons,ih];omega
theorem pages_len2 {β:Type} (f:Ver→Option β) (n:Nat) : ∀ (vs:List Ver),(∀ v∈vs,v.page<n)→((List.range n).flatMap fun q=>(pageV vs q).filterMap f).length=(vs.filterMap f).length
  | [],_=>by
    rw [List.length_flatMap]
    exact sum_zero _ fun x hx=>by obtain ⟨q,_,rfl⟩:=List.mem_map.1 hx;rfl
  | v::vs,h=>by
    have ih:=pages_len2 f n vs (fun u hu=>h u (by simp [hu]))
    have hv:=h v (by simp)
    rw [List.length_flatMap] at ih ⊢
    have e:(fun q=>((pageV (v::vs) q).filterMap f).length)=fun q=>(if v.page=q then ([v].filterMap f).length else 0)+((pageV vs q).filterMap f).length:=by
      funext q
      by_cases e:v.page=q
      · have:pageV (v::vs) q=[v]++pageV vs q:=by simp [pageV,e]
        rw [this,List.filterMap_append,List.length_append,if_pos e]
      · have:pageV (v::vs) q=pageV vs q:=by simp [pageV,e]
        rw [this,if_neg e,Nat.zero_add]
    rw [e,sum_add,ih,sum_one n _ _ hv,show v::vs=[v]++vs from rfl,List.filterMap_append,List.length_append]
theorem fmO_len {α β:Type} (f:α→Option β) (p:α→Bool) (h : ∀ a,(f a).isSome=p a) : ∀ l:List α,(l.filterMap f).length=(l.filter p).length
 | []=>rfl
 | a::l=>by
  have ih:=fmO_len f p h l
  have ha:=h a
  cases hf:f a with
  | none=>rw [hf] at ha;rw [List.filterMap_cons_none hf,List.filter_cons_of_neg (by simpa using ha.symm),ih]
  | some b=>rw [hf] at ha;rw [List.filterMap_cons_some hf,List.filter_cons_of_pos (by simpa using ha.symm),List.length_cons,List.length_cons,ih]
theorem filt_len {α β:Type} (g:α→β) (p:β→Bool) (l:List α):(l.filter fun a=>p (g a)).length=((l.map g).filter p).length:=by
 rw [List.filter_map,List.length_map];rfl
theorem isSome_vis (h:HR) (v:Ver):(visV h v).isSome = !(decide (isAct h v.beg=false∧isCm h v.beg=false)):=by
 unfold visV
 split
 · rename_i k;rw [decide_eq_true k];rfl
 · rename_i k;rw [decide_eq_false k];rfl
def addsN (lost:Int→Bool) (es:List En):Nat:=(es.filter fun e=>decide (e.kind=1) && !lost e.txn).length
theorem reopen_count {pages room:Nat} {es:List En} (hh:HistOk pages room es) (lost:Int→Bool) (hl : ∀ e∈es,lost e.txn = !isCm (replay pages room es) e.txn):(allR (reopen pages room es)).length=addsN lost es:=by
 have r:=RepOk.replay hh
 obtain ⟨q1,q2,q3,q4,q5⟩:=replay_es pages room es
 unfold allR addsN
 show ((List.range (replay pages room es).pages).flatMap _).length=_
 rw [pages_len2 _ _ _ (fun v hv=>(r.vok v hv).1),fmO_len _ _ (isSome_vis _)]
 have hc : ∀ t,(!(decide (isAct (reopen pages room es) t=false∧isCm (reopen pages room es) t=false)))=isCm (replay pages room es) t:=by
  intro t
  have h1:isAct (reopen pages room es) t=false:=by unfold isAct;rw [show (reopen pages room es).act=[] from q4];rfl
  have h2:isCm (reopen pages room es) t=isCm (replay pages room es) t:=rfl
  rw [h1,h2]
  cases isCm (replay pages room es) t <;> simp
 have e1:((reopen pages room es).vs.filter fun v => !(decide (isAct (reopen pages room es) v.beg=false∧isCm (reopen pages room es) v.beg=false)))=(replay pages room es).vs.filter fun v=>isCm (replay pages room es) v.beg:=by
  show (replay pages room es).vs.filter _=_
  congr 1
  funext v
  exact hc v.beg
 rw [e1]
 refine (filt_len (fun v:Ver=>v.beg) (isCm (replay pages room es)) _).trans ?_
 rw [vs_begs]
 refine (filt_len (fun e:En=>e.txn) (isCm (replay pages room es)) _).symm.trans ?_
 rw [List.filter_filter]
 congr 1
 apply List.filter_congr
 intro e he
 rw [hl e he,Bool.not_not,Bool.and_comm]
theorem adds_next (lost:Int→Bool) {es:List En} {i:Nat} {e:En} (h:es[i]? = some e):addsN lost (es.take (i+1))=addsN lost (es.take i)+if e.kind=1∧lost e.txn=false then 1 else 0:=by
 obtain ⟨hi,he⟩:=List.getElem?_eq_some_iff.1 h
 unfold addsN
 rw [List.take_succ_eq_append_getElem hi,he,List.filter_append,List.length_append]
 by_cases k:e.kind=1
 · cases hl:lost e.txn <;> simp [k,hl]
 · simp [k]
theorem losers_mem {pages room:Nat} {es:List En} (hh:HistOk pages room es) {e:En} (he:e∈es):(e.txn∈losersA (anRun (es.zip (mksOf es))))↔isCm (replay pages room es) e.txn=false:=by
  have hz:(es.zip (mksOf es)).map (·.1)=es:=zip_map_fst (mks_len es).symm
  have hrep:=RepOk.replay hh
  have h3:=hrep.cm
  rw [(replay_es pages room es).1] at h3
  have h4:=hrep.nd
  rw [h3] at h4
  have ok:=an_ok (es.zip (mksOf es)) (by rw [hz];exact h4)
  unfold losersA
  have hcm:(anRun (es.zip (mksOf es))).cm=(replay pages room es).cm:=by rw [ok.cm,hz,h3]
  have hseen:e.txn∈(anRun (es.zip (mksOf es))).seen.map (·.1):=by
    rw [ok.seen]
    rw [←hz] at he
    obtain ⟨x,hx,rfl⟩:=List.mem_map.1 he
    exact ⟨x,hx,rfl⟩
  unfold sortZ
  rw [List.mem_mergeSort,List.mem_filter]
  simp only [decide_eq_true_eq,ok.done,hcm]
  unfold isCm
  constructor
  · rintro ⟨_,h⟩
    by_cases q:e.txn∈(replay pages room es).cm.map (·.1)
    · rw [if_pos q] at h;omega
    · simpa [List.contains_iff_mem] using q
  · intro h
    refine ⟨hseen,?_⟩
    rw [if_neg]
    intro q
    rw [←List.contains_iff_mem] at q
    rw [q] at h;cases h
theorem put_len {α β:Type} [DecidableEq α] (k:α) (v:β) : ∀ L:List (α×β),(putL L k v).length≤L.length+1
 | []=>by simp [putL]
 | q::L=>by
  unfold putL
  split
  · simp
  · have:=put_len k v L;simp;omega
theorem an_lens (l:List (En×Int)):(anRun l).seen.length≤l.length∧(anRun l).pages.length≤l.length:=by
 induction l using snocI with
 | nil=>exact ⟨Nat.le_refl _,Nat.le_refl _⟩
 | snoc l x ih =>
  have hrun:anRun (l++[x])=anStep (anRun l) x:=by unfold anRun;rw [List.foldl_append];rfl
  rw [hrun,List.length_append,List.length_singleton]
  have h1:(bumpI (anRun l).seen x.1.txn).length≤(anRun l).seen.length+1:=put_len _ _ _
  unfold anStep
  split
  · dsimp only;omega
  · exact ⟨by dsimp only;omega,Nat.le_trans (put_len _ _ _) (by omega)⟩
theorem losers_len (l:List (En×Int)):(losersA (anRun l)).length≤l.length:=by
 unfold losersA sortZ
 rw [List.length_mergeSort]
 refine Nat.le_trans (List.length_filter_le _ _) ?_
 rw [List.length_map]
 exact (an_lens l).1
theorem pages_len3 (l:List (En×Int)):(pagesT (anRun l)).length≤l.length:=by
 unfold pagesT sortT
 rw [List.length_mergeSort,List.length_map]
 exact (an_lens l).2
open Go.RowKit
open Go.RowKit
theorem RdV.one {B:Base} {g:Nat} {t:TypeId} {z:Nat×Nat} (x:UInt8):RdV B [fblk g [.int .u8 x.toNat] t z] (.slice (some ⟨g,0,none⟩) 1 1) (bytesV [x]) :=
 ⟨_,1,rfl,.inr ⟨g,0,rfl,fun w ho=>ho.range (g:=g) (C:=[.int .u8 x.toNat]) (fun j u hj=>by rw [Nat.zero_add];exact hj)⟩⟩
open Go.RowKit
section
variable (d : List UInt8)
abbrev fE1 : En:=⟨1,1,0,0,0,d⟩
abbrev fU : Int:=0+((20+d.length:Nat):Int)
abbrev fS1 : HR:=⟨7,2304,0,[],[1],[],1,[]⟩
abbrev fS2 : HR:=⟨7,2304,fU d,[⟨0,0,1,0,d⟩],[1],[],1,[fE1 d]⟩
abbrev fS4 : HR:=⟨7,2304,fU d,[⟨0,0,1,0,d⟩],[1,2,3],[],3,[fE1 d]⟩
theorem sz3 (t s:Int):enSz ⟨3,t,0,0,s,[]⟩=25:=by rw [enSz_eq];rfl
theorem hAdd_ok {h:HR} {t:Int} {q:Nat} (ha:isAct h t=true) (hl:d.length≤184) (hr:roomyP h d.length=some q) (hu:h.used+20+d.length≤h.room):addR' h t d=(writeR h (addE h t d q),(q:Int),((pageV h.vs q).length:Int),0):=by
 unfold addR'
 rw [if_pos ha,if_neg (by omega),hr]
 dsimp only
 rw [if_neg (by omega)]
theorem hAdd_long {h:HR} {t:Int} (ha:isAct h t=true) (hl:184<d.length):addR' h t d=(h,0,0,2):=by
 unfold addR'
 rw [if_pos ha,if_pos hl]
theorem hCm_ok {h:HR} {t s:Int} (ha:isAct h t=true) (hb:badStamp h s=false) (hu:h.used+25≤h.room):commitR h t s=(writeR (withoutR h t) (cmE t s),0):=by
 unfold commitR
 rw [if_pos ha,if_neg (by rw [hb];simp),if_neg (by omega)]
theorem hEnd_ok {h:HR} {t p s:Int} {v:Ver} (ha:isAct h t=true) (hv:(findV h.vs p s).bind (h.vs[·]?)=some v) (h1 : ¬ ((v.beg≠t∧isCm h v.beg=false)∨v.fin=t∨isCm h v.fin=true)) (h2:isAct h v.fin=false) (hu:h.used+20≤h.room):endR h t p s=(writeR h (endE t p s),0):=by
 unfold endR
 rw [if_pos ha,hv]
 dsimp only
 rw [if_neg h1,if_neg (by rw [h2];simp),if_neg (by omega)]
theorem hEnd_busy {h:HR} {t p s:Int} {v:Ver} (ha:isAct h t=true) (hv:(findV h.vs p s).bind (h.vs[·]?)=some v) (h1 : ¬ ((v.beg≠t∧isCm h v.beg=false)∨v.fin=t∨isCm h v.fin=true)) (h2:isAct h v.fin=true):endR h t p s=(h,71):=by
 unfold endR
 rw [if_pos ha,hv]
 dsimp only
 rw [if_neg h1,if_pos h2]
theorem hEnd_no {h:HR} {t p s:Int} {v:Ver} (ha:isAct h t=true) (hv:(findV h.vs p s).bind (h.vs[·]?)=some v) (h1:((v.beg≠t∧isCm h v.beg=false)∨v.fin=t∨isCm h v.fin=true)):endR h t p s=(h,4):=by
 unfold endR
 rw [if_pos ha,hv]
 dsimp only
 rw [if_pos h1]
theorem f1 : beginR (newR 7 (9*256))=fS1:=rfl
theorem f2 (h:d.length≤184):addR' fS1 1 d=(fS2 d,0,0,0):=by
 have h1:roomyP fS1 d.length=some 0:=by
  unfold roomyP
  rw [show List.range fS1.pages=[0,1,2,3,4,5,6] from rfl]
  rw [List.find?_cons_of_pos (by have:usedP [] 0=13:=rfl;simp only [decide_eq_true_eq];omega)]
 rw [hAdd_ok d rfl h h1 (by show (0:Int)+20+d.length≤(2304:Nat);omega)]
 simp only [writeR,enSz_eq,addE]
 rfl
theorem f3 : beginR (beginR (fS2 d))=fS4 d:=rfl
theorem f4 : endR (fS4 d) 2 0 0=(fS4 d,4):=hEnd_no rfl (v:=⟨0,0,1,0,d⟩) rfl (.inl ⟨(by show (1:Int)≠2;decide),rfl⟩)
end
open Go.RowKit
theorem add_cases (h:HR) (t:Int) (d:List UInt8):((addR' h t d).2.2.2≠0∧(addR' h t d).1=h) ∨ ∃ q,isAct h t=true∧d.length≤184∧roomyP h d.length=some q∧h.used+20+d.length≤h.room∧addR' h t d=(writeR h (addE h t d q),(q:Int),((pageV h.vs q).length:Int),0):=by
  by_cases ha:isAct h t=true
  · by_cases hl:184<d.length
    · exact .inl (by rw [hAdd_long d ha hl];simp)
    · cases hr:roomyP h d.length with
      | none=>exact .inl (by unfold addR';rw [if_pos ha,if_neg hl,hr];simp)
      | some q =>
        by_cases hu:(h.room:Int)<h.used+20+d.length
        · exact .inl (by unfold addR';rw [if_pos ha,if_neg hl,hr];dsimp only;rw [if_pos hu];simp)
        · exact .inr ⟨q,ha,by omega,rfl,by omega,hAdd_ok d ha (by omega) hr (by omega)⟩
  · exact .inl (by unfold addR';rw [if_neg ha];simp)
theorem end_cases (h:HR) (t p s:Int):((endR h t p s).2≠0∧(endR h t p s).1=h) ∨ ∃ (i:Nat) (v:Ver),isAct h t=true∧findV h.vs p s=some i∧h.vs[i]? = some v∧isCm h v.fin=false∧h.used+20≤h.room∧endR h t p s=(writeR h (endE t p s),0):=by
  by_cases ha:isAct h t=true
  · cases hv:(findV h.vs p s).bind (h.vs[·]?) with
    | none=>exact .inl (by unfold endR;rw [if_pos ha,hv];simp)
    | some v =>
      by_cases h1:((v.beg≠t∧isCm h v.beg=false)∨v.fin=t∨isCm h v.fin=true)
      · exact .inl (by rw [hEnd_no ha hv h1];simp)
      · by_cases h2:isAct h v.fin=true
        · exact .inl (by rw [hEnd_busy ha hv h1 h2];simp)
        · by_cases hu:(h.room:Int)<h.used+20
          · exact .inl (by unfold endR;rw [if_pos ha,hv];dsimp only;rw [if_neg h1,if_neg h2,if_pos hu];simp)
          · obtain ⟨i,hi,hiv⟩:=Option.bind_eq_some_iff.1 hv
            refine .inr ⟨i,v,ha,hi,hiv,?_,by omega,hEnd_ok ha hv h1 (by simpa using h2) (by omega)⟩
            have : ¬ isCm h v.fin=true:=fun h=>h1 (.inr (.inr h))
            simpa using this
  · exact .inl (by unfold endR;rw [if_neg ha];simp)
theorem write_add_vs {h:HR} {t:Int} {d:List UInt8} {q:Nat}:(writeR h (addE h t d q)).vs=h.vs++[⟨q,(pageV h.vs q).length,t,0,d⟩]:=by simp [writeR,addE]
theorem write_end_vs {h:HR} {t p s:Int} {i:Nat} (hi:findV h.vs p s=some i):(writeR h (endE t p s)).vs=h.vs.modify i (finV t):=by simp [writeR,endE,hi]
theorem write_add_used {h:HR} {t:Int} {d:List UInt8} {q:Nat}:(writeR h (addE h t d q)).used=h.used+(20+d.length):=by simp [writeR,enSz_eq]
def AtL (h:HR) (ok:Int→Prop) (L:List (Int×Int)):Prop:=L.Nodup ∧ ∀ p∈L,∃ (i:Nat) (v:Ver),findV h.vs p.1 p.2=some i∧h.vs[i]? = some v∧v.beg=1∧ok v.fin
theorem find_app {vs l:List Ver} {p s:Int} {i:Nat} (h:findV vs p s=some i):findV (vs++l) p s=some i:=by
 unfold findV at h ⊢
 rw [List.findIdx?_append,h];rfl
theorem AtL.app {h g:HR} {ok:Int→Prop} {L:List (Int×Int)} (a:AtL h ok L) {l:List Ver} (e:g.vs=h.vs++l):AtL g ok L:=by
 refine ⟨a.1,fun p hp=>?_⟩
 obtain ⟨i,v,h1,h2,h3⟩:=a.2 p hp
 exact ⟨i,v,by rw [e];exact find_app h1,by rw [e,List.getElem?_append_left (List.getElem?_eq_some_iff.1 h2).1];exact h2,h3⟩
theorem AtL.snoc {h:HR} {ok:Int→Prop} {L:List (Int×Int)} (r:RInv h) (a:AtL h ok L) (h0:ok 0) {t:Int} {d:List UInt8} {q:Nat} (r2:RInv (writeR h (addE h t d q))) (ht:t=1):AtL (writeR h (addE h t d q)) ok (L++[((q:Int),((pageV h.vs q).length:Int))]):=by
  subst ht
  have hvs:=write_add_vs (h:=h) (t:=1) (d:=d) (q:=q)
  have ha:=a.app hvs
  have hat:(writeR h (addE h 1 d q)).vs[h.vs.length]? = some ⟨q,(pageV h.vs q).length,1,0,d⟩:=by rw [hvs];simp
  have hf:=findV_of r2.ok.slots hat
  dsimp only at hf
  refine ⟨?_,fun p hp=>?_⟩
  · rw [List.nodup_append]
    refine ⟨a.1,by simp,fun p hp z hz e=>?_⟩
    simp at hz
    subst hz;subst e
    obtain ⟨i,v,h1,h2,_⟩:=a.2 _ hp
    have:=find_app (l:=[⟨q,(pageV h.vs q).length,1,0,d⟩]) h1
    rw [←hvs] at this
    dsimp only at this
    rw [this] at hf
    injection hf with hf
    have:=(List.getElem?_eq_some_iff.1 h2).1
    omega
  · rcases List.mem_append.1 hp with hp | hp
    · exact ha.2 p hp
    · simp at hp
      subst hp
      exact ⟨_,_,hf,hat,rfl,h0⟩
theorem find_mod {vs:List Ver} {i:Nat} {t p s:Int}:findV (vs.modify i (finV t)) p s=findV vs p s:=by
 unfold findV
 induction vs generalizing i with
 | nil=>simp
 | cons v vs ih =>
  cases i with
  | zero=>simp only [List.modify_zero_cons,List.findIdx?_cons];rfl
  | succ i=>simp only [List.modify_succ_cons,List.findIdx?_cons,ih]
theorem AtL.ended {h:HR} {ok:Int→Prop} {x:Int×Int} {L:List (Int×Int)} (a:AtL h ok (x::L)) {t:Int}:AtL (writeR h (endE t x.1 x.2)) ok L:=by
 obtain ⟨i,v,h1,h2,h3,h4⟩:=a.2 x (by simp)
 have hvs:=write_end_vs (t:=t) h1
 refine ⟨(List.nodup_cons.1 a.1).2,fun p hp=>?_⟩
 obtain ⟨j,u,k1,k2,k3⟩:=a.2 p (List.mem_cons_of_mem _ hp)
 refine ⟨j,u,by rw [hvs,find_mod];exact k1,?_,k3⟩
 rw [hvs,List.getElem?_modify]
 have hne:i≠j:=fun e=>by
  subst e
  obtain ⟨v1,e1,e2,e3⟩:=findV_some h1
  obtain ⟨v2,f1,f2,f3⟩:=findV_some k1
  rw [e1] at f1;cases f1
  have:p=x:=by obtain ⟨_,_⟩:=p;obtain ⟨_,_⟩:=x;simp_all
  exact (List.nodup_cons.1 a.1).1 (this ▸ hp)
 rw [k2]
 simp [hne]
open Go.RowKit
structure OpH where
 kind:Int
 txn:Int
 page:Int
 slot:Int
 data:List UInt8
 stamp:Int
 keep:List Bool
 t0:Int
 t1:Int
open Go.RowKit
structure Adding (h:HR) (c rm:Nat) (L:List (Int×Int)):Prop where
 r:RInv h
 pages:h.pages=c
 room:h.room=rm
 act:h.act=[1]
 cm:h.cm=[]
 last:h.last=1
 at_:AtL h (fun x=>x=0) L
theorem Adding.add {h:HR} {c rm:Nat} {L:List (Int×Int)} (a:Adding h c rm L) (hc:c≤4096) (d:List UInt8):Adding (addR' h 1 d).1 c rm L∧((addR' h 1 d).2.2.2=0→Adding (addR' h 1 d).1 c rm (L++[((addR' h 1 d).2.1,(addR' h 1 d).2.2.1)])):=by
  have hr:=a.r.add (by rw [a.pages];exact hc) (by rw [a.last];decide) 1 d
  rcases add_cases h 1 d with ⟨h1,h2⟩ | ⟨q,h1,h2,h3,h4,h5⟩
  · exact ⟨by rw [h2];exact a,fun e=>absurd e h1⟩
  · rw [h5] at hr ⊢
    exact ⟨⟨hr,a.pages,a.room,a.act,by show (if (1:Int)=3 then h.cm++[((1:Int),(0:Int))] else h.cm)=[];rw [if_neg (by decide)];exact a.cm,a.last,a.at_.app write_add_vs⟩,fun _=>⟨hr,a.pages,a.room,a.act,by show (if (1:Int)=3 then h.cm++[((1:Int),(0:Int))] else h.cm)=[];rw [if_neg (by decide)];exact a.cm,a.last,a.at_.snoc a.r rfl hr rfl⟩⟩
structure Ending (h:HR) (c rm:Nat) (t:Int) (ok:Int→Prop) (L:List (Int×Int)):Prop where
 r:RInv h
 pages:h.pages=c
 room:h.room=rm
 act:h.act=[t]
 cm:h.cm=[(1,1)]
 last:h.last=t
 at_:AtL h ok L
theorem Ending.end_ {h:HR} {c rm:Nat} {t:Int} {ok:Int→Prop} {x:Int×Int} {L:List (Int×Int)} (a:Ending h c rm t ok (x::L)) (hc:c≤4096) (ht:1<t∧t<2^62) (ho : ∀ z,ok z→z≠t∧z≠1) (hu:h.used+20≤rm) : ∃ i,findV h.vs x.1 x.2=some i∧endR h t x.1 x.2=(writeR h (endE t x.1 x.2),0)∧Ending (writeR h (endE t x.1 x.2)) c rm t ok L:=by
 obtain ⟨i,v,h1,h2,h3,h4⟩:=a.at_.2 x (by simp)
 obtain ⟨o1,o2⟩:=ho _ h4
 have hac:isAct h t=true:=by rw [isAct_iff,a.act];simp
 have hcm : ∀ z,isCm h z=true↔z=1:=fun z=>by unfold isCm;rw [a.cm];simp
 have he:=hEnd_ok (h:=h) (t:=t) (p:=x.1) (s:=x.2) hac (v:=v) (by rw [h1];exact h2) (by
   rw [h3]
   rintro (⟨_,e⟩ | e | e)
   · have:=(hcm 1).2 rfl;rw [this] at e;cases e
   · exact o1 e
   · exact o2 ((hcm _).1 e)) (by
   unfold isAct;rw [a.act];simpa using o1) (by rw [a.room];exact hu)
 have hr:=a.r.end_ (by rw [a.pages];exact hc) (by rw [a.last];exact ht.2) t x.1 x.2
 rw [he] at hr
 refine ⟨i,h1,he,hr,a.pages,a.room,a.act,?_,a.last,a.at_.ended⟩
 show (if (2:Int)=3 then h.cm++[(t,(0:Int))] else h.cm)=_
 rw [if_neg (by decide)];exact a.cm
theorem Adding.commit {h:HR} {c rm:Nat} {L:List (Int×Int)} (a:Adding h c rm L) (ok:Int→Prop) (h0:ok 0):(commitR h 1 1=(h,3)∧(rm:Int)<h.used+25)∨((commitR h 1 1).2=0∧h.used+25≤rm∧(commitR h 1 1).1.used=h.used+25∧(commitR h 1 1).1.vs=h.vs∧(commitR h 1 1).1.act=[]∧(commitR h 1 1).1.cm=[(1,1)]∧Ending (beginR (commitR h 1 1).1) c rm 2 ok L):=by
  have hac:isAct h 1=true:=by rw [isAct_iff,a.act];simp
  have hb:badStamp h 1=false:=by unfold badStamp;rw [a.cm];rfl
  by_cases hu:(rm:Int)<h.used+25
  · refine .inl ⟨?_,hu⟩
    unfold commitR
    rw [if_pos hac,if_neg (by rw [hb];simp),if_pos (by rw [a.room];exact hu)]
  · right
    have he:=hCm_ok (h:=h) (t:=1) (s:=1) hac hb (by rw [a.room];omega)
    have hr:=a.r.commit (by rw [a.last];decide) 1 1
    rw [he] at hr ⊢
    have hc:(writeR (withoutR h 1) (cmE 1 1)).cm=[(1,1)]:=by show (if (3:Int)=3 then h.cm++[((1:Int),(1:Int))] else h.cm)=_;rw [if_pos rfl,a.cm];rfl
    have hA:(writeR (withoutR h 1) (cmE 1 1)).act=[]:=by show h.act.filter _=[];rw [a.act];rfl
    refine ⟨rfl,by omega,?_,rfl,hA,hc,⟨hr.begin,a.pages,a.room,?_,hc,?_,?_⟩⟩
    · show h.used+(enSz (cmE 1 1):Int)=h.used+25
      rw [sz3];rfl
    · show (writeR (withoutR h 1) (cmE 1 1)).act++[h.last+1]=[2]
      rw [hA,a.last];rfl
    · show h.last+1=2;rw [a.last];rfl
    · refine ⟨a.at_.1,fun p hp=>?_⟩
      obtain ⟨i,v,h1,h2,h3,h4⟩:=a.at_.2 p hp
      exact ⟨i,v,h1,h2,h3,by rw [h4];exact h0⟩
open Go.RowKit
theorem sure_write {h:HR} {e:En} (s:OkStep h e) (hk:e.kind≠3):sureR (writeR h e)=sureR h:=by
 have s2:OkStep {h with act:=[]} e:=s.congr rfl rfl rfl rfl rfl
 exact all_write s2 rfl hk
theorem sure_add {h:HR} (r:RInv h) (hp:h.pages≤4096) (hl:h.last<2^62) (t:Int) (d:List UInt8):sureR (addR' h t d).1=sureR h:=by
  rcases add_cases h t d with ⟨_,e⟩ | ⟨q,h1,h2,h3,h4,h5⟩
  · rw [e]
  · rw [h5]
    obtain ⟨a,b,_⟩:=roomy_some h3
    exact sure_write (r.addStep hp hl h1 h2 a b h4) (show (1:Int)≠3 by decide)
theorem sure_end {h:HR} (r:RInv h) (hp:h.pages≤4096) (hl:h.last<2^62) (t p s:Int):sureR (endR h t p s).1=sureR h:=by
  rcases end_cases h t p s with ⟨_,e⟩ | ⟨i,v,h1,h2,h3,h4,h5,h6⟩
  · rw [e]
  · rw [h6]
    exact sure_write (r.endStep hp hl h1 h2 h3 h4 h5) (show (2:Int)≠3 by decide)
structure Losing (h:HR) (c rm:Nat) (A:List Ver) (act:List Int):Prop where
 r:RInv h
 pages:h.pages=c
 room:h.room=rm
 act:h.act=act
 cm:h.cm=[(1,1)]
 last:h.last=2
 sure:sureR h=A
 vs : ∀ v∈h.vs,(v.beg=1∧(v.fin=0∨v.fin=2))∨v.beg=2
theorem Losing.add {h:HR} {c rm:Nat} {A:List Ver} (a:Losing h c rm A [2]) (hc:c≤4096) (d:List UInt8):Losing (addR' h 2 d).1 c rm A [2]:=by
  have hp:h.pages≤4096:=by rw [a.pages];exact hc
  have hl:h.last<2^62:=by rw [a.last];decide
  have hr:=a.r.add hp hl 2 d
  have hs:=sure_add a.r hp hl 2 d
  rcases add_cases h 2 d with ⟨_,e⟩ | ⟨q,h1,h2,h3,h4,h5⟩
  · rw [e];exact a
  · rw [h5] at hr hs ⊢
    refine ⟨hr,a.pages,a.room,a.act,?_,a.last,hs.trans a.sure,fun v hv=>?_⟩
    · show (if (1:Int)=3 then h.cm++[((2:Int),(0:Int))] else h.cm)=_;rw [if_neg (by decide)];exact a.cm
    · rw [write_add_vs] at hv
      rcases List.mem_append.1 hv with hv | hv
      · exact a.vs v hv
      · simp at hv;subst hv;exact .inr rfl
theorem Losing.end_ {h:HR} {c rm:Nat} {A:List Ver} (a:Losing h c rm A [2]) (hc:c≤4096) (p s:Int):Losing (endR h 2 p s).1 c rm A [2]:=by
  have hp:h.pages≤4096:=by rw [a.pages];exact hc
  have hl:h.last<2^62:=by rw [a.last];decide
  have hr:=a.r.end_ hp hl 2 p s
  have hs:=sure_end a.r hp hl 2 p s
  rcases end_cases h 2 p s with ⟨_,e⟩ | ⟨i,v,h1,h2,h3,h4,h5,h6⟩
  · rw [e];exact a
  · rw [h6] at hr hs ⊢
    refine ⟨hr,a.pages,a.room,a.act,?_,a.last,hs.trans a.sure,fun u hu=>?_⟩
    · show (if (2:Int)=3 then h.cm++[((2:Int),(0:Int))] else h.cm)=_;rw [if_neg (by decide)];exact a.cm
    · rw [write_end_vs h2] at hu
      rcases mem_modify hu with hu | ⟨w,hw,rfl⟩
      · exact a.vs u hu
      · rcases a.vs w hw with ⟨e,_⟩ | e
        · exact .inl ⟨e,.inr rfl⟩
        · exact .inr e
theorem Losing.all {h:HR} {c rm:Nat} {A:List Ver} {act:List Int} (a:Losing h c rm A act) (ha:act=[]):allR h=A:=by
 rw [←a.sure]
 unfold sureR
 rw [show ({h with act:=[]}:HR)=h by have:=a.act;rw [ha] at this;cases h;simp_all]
open Go.RowKit
def AllOne (h:HR):Prop := ∀ v∈h.vs,v.beg=1∧v.fin=0
theorem AllOne.add {h:HR} (a:AllOne h) (d:List UInt8):AllOne (addR' h 1 d).1:=by
  rcases add_cases h 1 d with ⟨_,e⟩ | ⟨q,_,_,_,_,h5⟩
  · rw [e];exact a
  · rw [h5]
    intro v hv
    rw [write_add_vs] at hv
    rcases List.mem_append.1 hv with hv | hv
    · exact a v hv
    · simp at hv;subst hv;exact ⟨rfl,rfl⟩
theorem all_len {h:HR} (r:RepOk h):(allR h).length≤14*h.pages:=by
 unfold allR
 have key : ∀ l:List Nat,(l.flatMap fun q=>(pageV h.vs q).filterMap (visV h)).length≤14*l.length:=by
  intro l
  induction l with
  | nil=>simp
  | cons q l ih =>
   rw [List.flatMap_cons,List.length_append,List.length_cons]
   have h1:=pages_len r q
   have h2:=List.length_filterMap_le (visV h) (pageV h.vs q)
   omega
 have:=key (List.range h.pages)
 rwa [List.length_range] at this
open Go.RowKit
structure HrS (h:HR) (m:Nat):Prop where
 v:h.vs.length≤m
 a:h.act.length≤m
 c:h.cm.length≤m
 e:h.es.length≤m
open Go.RowKit
open Go.RowKit
open Go.RowKit
structure HrK (h:HR) (m:Nat):Prop where
 s:HrS h m
 m:m<2^32
 r:RInv h
 pages:h.pages≤4096
 room:h.room<2^30
 last:h.last<2^61
theorem HrK.used {h:HR} {m:Nat} (k:HrK h m):0≤h.used∧h.used≤h.room:=⟨by have:=k.r.ok.used;omega,k.r.ok.le⟩
structure HrW (h:HR) (m:Nat):Prop where
 s:HrS h m
 m:m<2^32
 pages:h.pages≤4096
 room:h.room<2^30
 u:0≤h.used∧h.used<2^40
 pg : ∀ q,usedP h.vs q≤256
theorem HrK.w {h:HR} {m:Nat} (k:HrK h m):HrW h m:=⟨k.s,k.m,k.pages,k.room,by have:=k.used;have:=k.room;omega,k.r.ok.room⟩
open Go.RowKit
open Go.RowKit
open Go.RowKit
open Go.RowKit
theorem HrW.add {g:HR} {m:Nat} (k:HrW g m) (hm:m+1<2^32) (t:Int) (d:List UInt8):HrW (addR' g t d).1 (m+1):=by
  have s:=k.s
  rcases add_cases g t d with ⟨_,e⟩ | ⟨q,h1,h2,h3,h4,h5⟩
  · rw [e];exact ⟨⟨by have:=s.v;omega,by have:=s.a;omega,by have:=s.c;omega,by have:=s.e;omega⟩,hm,k.pages,k.room,k.u,k.pg⟩
  · rw [h5]
    obtain ⟨a,b,_⟩:=roomy_some h3
    have hv:=write_add_vs (h:=g) (t:=t) (d:=d) (q:=q)
    have hus:=write_add_used (h:=g) (t:=t) (d:=d) (q:=q)
    have hrm:=k.room
    have hu:=k.u
    refine ⟨⟨by rw [hv];have:=s.v;simp;omega,by have:=s.a;show g.act.length≤_;omega,?_,by have:=s.e;show (g.es++[_]).length≤_;simp;omega⟩,hm,k.pages,k.room,by rw [hus];omega,fun p=>?_⟩
    · show (if (1:Int)=3 then g.cm++[(t,(0:Int))] else g.cm).length≤_
      rw [if_neg (by decide)];have:=s.c;omega
    · have hp:=k.pg p
      rw [hv]
      unfold usedP
      rw [pageV_append,usedV_append]
      by_cases e:q=p
      · subst e
        simp [pageV,usedV]
        unfold usedP usedV pageV at b
        omega
      · simp [pageV,usedV,e]
        unfold usedP usedV pageV at hp
        omega
open Go.RowKit
open Go.RowKit
def stepR (h:HR) (o:OpH):HR:=if o.kind=0 then beginR h else if o.kind=1 then (addR' h o.txn o.data).1 else if o.kind=2 then (endR h o.txn o.page o.slot).1 else if o.kind=3 then (commitR h o.txn o.stamp).1 else if o.kind=4 then (abortR h o.txn).1 else h
structure PlayI (h:HR) (c rm m:Nat):Prop where
 r:RInv h
 s:HrS h m
 pages:h.pages=c
 room:h.room=rm
 last:h.last≤m
theorem PlayI.k {h:HR} {c rm m:Nat} (p:PlayI h c rm m) (hm:m<2^31) (hc:c≤4096) (hr:rm<2^30):HrK h m:=⟨p.s,by omega,p.r,by rw [p.pages];exact hc,by rw [p.room];exact hr,by have:=p.last;omega⟩
theorem HrS.mono {h:HR} {m m':Nat} (s:HrS h m) (hm:m≤m'):HrS h m':=⟨Nat.le_trans s.v hm,Nat.le_trans s.a hm,Nat.le_trans s.c hm,Nat.le_trans s.e hm⟩
theorem HrS.write {h:HR} {m:Nat} (s:HrS h m) (e:En):HrS (writeR h e) (m+1):=by
  refine ⟨?_,Nat.le_trans s.a (Nat.le_succ _),?_,?_⟩
  · show (if e.kind=1 then _ else if e.kind=2 then _ else _:List Ver).length≤_
    have:=s.v
    split
    · simp;omega
    · split
      · split
        · simp;omega
        · omega
      · omega
  · show (if e.kind=3 then _ else _:List (Int×Int)).length≤_
    have:=s.c
    split
    · simp;omega
    · omega
  · have:=s.e
    show (h.es++[e]).length≤_
    simp;omega
theorem cm_cases (h:HR) (t s:Int):(commitR h t s).1=h∨(commitR h t s).1=writeR (withoutR h t) (cmE t s):=by
  unfold commitR
  split
  · split
    · exact .inl rfl
    · split
      · exact .inl rfl
      · exact .inr rfl
  · exact .inl rfl
theorem ab_cases (h:HR) (t:Int):(abortR h t).1=h∨(abortR h t).1=withoutR h t:=by
 unfold abortR
 split
 · exact .inr rfl
 · exact .inl rfl
theorem PlayI.step {h:HR} {c rm m:Nat} (p:PlayI h c rm m) (hm:m<2^31) (hc:c≤4096) (o:OpH):PlayI (stepR h o) c rm (m+1):=by
  have hp:h.pages≤4096:=by rw [p.pages];exact hc
  have hl:h.last<2^62:=by have:=p.last;omega
  have hl2:=p.last
  have h0:PlayI h c rm (m+1):=⟨p.r,p.s.mono (Nat.le_succ _),p.pages,p.room,by omega⟩
  unfold stepR
  split
  · exact ⟨p.r.begin,⟨by have:=p.s.v;show h.vs.length≤_;omega,by have:=p.s.a;show (h.act++[h.last+1]).length≤_;simp;omega,by have:=p.s.c;show h.cm.length≤_;omega,by have:=p.s.e;show h.es.length≤_;omega⟩,p.pages,p.room,by show h.last+1≤_;omega⟩
  · split
    · have hr:=p.r.add hp hl o.txn o.data
      rcases add_cases h o.txn o.data with ⟨_,e⟩ | ⟨q,_,_,_,_,e⟩
      · rw [e];exact h0
      · rw [e] at hr ⊢
        exact ⟨hr,p.s.write _,p.pages,p.room,by show h.last≤_;omega⟩
    · split
      · have hr:=p.r.end_ hp hl o.txn o.page o.slot
        rcases end_cases h o.txn o.page o.slot with ⟨_,e⟩ | ⟨i,v,_,_,_,_,_,e⟩
        · rw [e];exact h0
        · rw [e] at hr ⊢
          exact ⟨hr,p.s.write _,p.pages,p.room,by show h.last≤_;omega⟩
      · split
        · have hr:=p.r.commit hl o.txn o.stamp
          rcases cm_cases h o.txn o.stamp with e | e
          · rw [e];exact h0
          · rw [e] at hr ⊢
            exact ⟨hr,(show HrS (withoutR h o.txn) m from ⟨p.s.v,Nat.le_trans (List.length_filter_le _ _) p.s.a,p.s.c,p.s.e⟩).write _,p.pages,p.room,by show h.last≤_;omega⟩
        · split
          · have hr:=p.r.abort o.txn
            rcases ab_cases h o.txn with e | e
            · rw [e];exact h0
            · rw [e] at hr ⊢
              exact ⟨hr,⟨by have:=p.s.v;show h.vs.length≤_;omega,Nat.le_trans (List.length_filter_le _ _) (by have:=p.s.a;omega),by have:=p.s.c;show h.cm.length≤_;omega,by have:=p.s.e;show h.es.length≤_;omega⟩,p.pages,p.room,by show h.last≤_;omega⟩
          · exact h0
open Go.RowKit
theorem lastE_mono {h:HR} (r:RInv h) (n:Nat):0≤lastE (h.es.take n)∧lastE (h.es.take n)≤h.last:=by
 refine ⟨(lastE_le _ _).1,?_⟩
 have key : ∀ (es:List En) (m x:Int),m≤x→(∀ e∈es,e.txn≤x)→es.foldl (fun m e=>max m e.txn) m≤x:=by
  intro es
  induction es with
  | nil=>intro m x h _;exact h
  | cons e es ih=>intro m x h1 h2;exact ih _ _ (by have:=h2 e (by simp);dsimp only;omega) (fun e he=>h2 e (by simp [he]))
 exact key _ _ _ r.last0 (fun e he=>r.lst e (List.mem_of_mem_take he))
open Go.RowKit
abbrev bV (b:Bool):Value := .bool b
theorem Wh.okL : MapOk Tryz.prog 60 kI (bV false):=MapOk.mk3 2 4 (.int .i64) Tryz.underlying60 Tryz.underlying2 (fun _=>rfl) (by kernel_rfl) i64_inj
theorem eqTch (x y:Tch):EqSt Tryz.prog 71 #[.int .i64 x.page,.int .i64 x.first,.int .i64 x.last] #[.int .i64 y.page,.int .i64 y.first,.int .i64 y.last] (decide (x.page=y.page∧x.first=y.first∧x.last=y.last)):=by
  obtain ⟨a1,a2,a3⟩:=x
  obtain ⟨b1,b2,b3⟩:=y
  refine EqSt.mk' (by kernel_rfl) Tryz.underlying71 (by kernel_rfl) fun d0 w=>?_
  refine Eq.trans (eqF_int w (a:=a1) (b:=b1) rfl Tryz.underlying3 rfl rfl) ?_
  by_cases h1:a1=b1
  · rw [if_pos h1]
    refine Eq.trans (eqF_int w (a:=a2) (b:=b2) rfl Tryz.underlying2 rfl rfl) ?_
    by_cases h2:a2=b2
    · rw [if_pos h2]
      refine Eq.trans (eqF_int w (a:=a3) (b:=b3) rfl Tryz.underlying2 rfl rfl) ?_
      by_cases h3:a3=b3
      · rw [if_pos h3,eqF_nil];simp [h1,h2,h3]
      · rw [if_neg h3];simp [h3]
    · rw [if_neg h2];simp [h2]
  · rw [if_neg h1];simp [h1]
def RoLW (B:Base) (v:Value) (l:List OpH):Prop := ∃ a cap,v = .slice a l.length cap∧(l=[] ∨ ∃ b o C,a=some ⟨b,o,none⟩∧ROc B b C ∧
 ∀ i (hi:i<l.length),∃ da dc,rdl C (o+i*6) [.int .i64 l[i].kind,.int .i64 l[i].txn,.slice da l[i].data.length dc,.int .i64 l[i].page,.int .i64 l[i].slot,.int .i64 l[i].stamp]∧RoS B (.slice da l[i].data.length dc) (bytesV l[i].data))
theorem Wh.logged (B:Base) (sv:Value) (sc:List OpH) (hsv:RoLW B sv sc) (hsl:sc.length≤1048576) (hdl : ∀ x∈sc,x.data.length≤1048576) :
  Fn Tryz.prog B 3 #[sv] [] (fun v l=>v = .bool true∧l=[]):=by
 obtain ⟨sa,scap,rfl,hsc⟩:=hsv
 refine Fn.enter1 239 Tryz.func3 rfl rfl (nB rfl) (fun F=>?_)
 try simp only [cA,nA]
 refine TS (La rfl rfl (Ld (TS ?_)))
 refine Le rfl (Ec (Dk.newF B 20 20 rfl (by omega) (by omega)) Tryz.func6 rfl rfl rfl ?_)
 rintro _ _ ⟨b,rfl,rfl⟩
 try simp only [cA,nA]
 refine Lm rfl rfl (Lq rfl (Qx rfl rfl) (Lq rfl (Qx rfl rfl) (La rfl rfl (La rfl rfl (Ld (Ts (Ts ?_)))))))
 refine TR (Lm rfl rfl (Lq rfl (Y1 (by kernel_rfl) rfl rfl) (Ld (yQ rfl (Tk (TS ?_))))))
 refine Lm rfl rfl ?_
 refine Le rfl (Ec (Hp.open B b ⟨List.replicate 20 zs,[]⟩ 10 10 2 0 10 2 rfl rfl [] (by omega) (by omega) (by simp) (by omega) (by omega) (by simp) (fun k e h=>by simp at h) (scan_secs (ds:=[]) (Secs.new (by omega)) (by simp) (by simp [logB])) (by simp [lastE]) (by simp)) Tryz.func7 rfl rfl rfl ?_)
 rintro _ _ ⟨g,p1,p2,p3,c1,c2,c3,rfl,rfl⟩
 try simp only [cA,nA]
 rw [show (0:Nat)+10+([]:List En).length=10 by simp,show reopen 10 (10*256) []=newR 10 (10*256) from rfl]
 refine Lm rfl rfl (Lq rfl (Qx rfl rfl) (Lq rfl (Qx rfl rfl) (Lq rfl (Qx rfl rfl) ?_)))
 refine Le rfl (El [.slice none 0 0,.slice none 0 0,.slice none 0 0,.int .i64 0] (by unfold zeroB;kernel_rfl) ?_)
 intro g6
 refine La rfl rfl ?_
 refine L0 rfl (Es [_,_,_,_] (by kernel_rfl) rfl rfl rfl rfl (by simp) ?_)
 try simp only [splice,lC,lN,dS,cA,tS,tZ,dZ,nA,aN]
 refine La rfl rfl (Ld (Ts (TS (Lm rfl rfl (Lq rfl (Y1 (by kernel_rfl) rfl rfl) (Lm rfl rfl ?_))))))
 refine yT (t:=42) rfl rfl (Lm rfl rfl (Lq rfl (yW rfl rfl) (Lq rfl (Qp rfl rfl) (Ld (yQ rfl ?_)))))
 have hP0:PlayI (newR 10 (10*256)) 10 (10*256) 0:=⟨RInv.newR 10 (10*256),⟨Nat.le_refl _,Nat.le_refl _,Nat.le_refl _,Nat.le_refl _⟩,rfl,rfl,Int.le_refl _⟩
 refine Tk (Ts (TS (Lm rfl rfl (Lq rfl (yI (e:=38) (sz:=6) (by kernel_rfl) rfl) (Lm rfl rfl (Ld ?_))))))
 refine yH ?_
 refine zG (fun mz fz lz => ∃ (f0:Fr) (k K:Nat) (h:HR),(k≤sc.length∧K≤10+12*k∧PlayI h 10 (10*256) k)∧mz=sc.length-k∧fz=(upd (upd (upd (upd (upd f0 3 (pV b)) 5 (pV g)) 46 (.slice sa sc.length scap)) 47 (.int .i64 sc.length)) 48 (.int .i64 k))∧lz=hpA g b 10 10 2 K h::F) ?_ ?_
 · refine ⟨_,_,⟨_,0,10,newR 10 (10*256),⟨Nat.zero_le _,Nat.le_refl _,hP0⟩,rfl,(updS rfl (updS rfl (updS rfl (updS rfl (updS rfl rfl))))),rfl⟩,Sa⟩
 rintro mz fz lz ⟨f0,k,K,h,⟨hk,hK,hP⟩,hmz,rfl,rfl⟩
 subst mz
 have hcm:=hP.s.c
 have hel:=hP.s.e
 refine TS (Lq rfl (yM rfl rfl) (Ld (Ts ?_)))
 refine yN rfl (fun hlt=>?_) (fun hlt=>?_)
 ·
  obtain ⟨kb,ko,C,rfl,hro,hC⟩:=hsc.resolve_left (by intro e;rw [e] at hlt;simp at hlt;omega)
  obtain ⟨da,dc,hrd,hdv⟩:=hC k (by omega)
  have hxl:=hdl sc[k] (List.getElem_mem _)
  have hP2:=hP.step (by omega) (by omega) sc[k]
  obtain ⟨o,ho⟩ : ∃ o,sc[k]=o:=⟨_,rfl⟩
  rw [ho] at hrd hdv hxl hP2
  refine Tk (Ts (yH (TS (Lq rfl (Qi _ (e:=38) (sz:=6) (by kernel_rfl) rfl rfl rfl (by omega)) (Lq rfl (QL [.int .i64 o.kind,.int .i64 o.txn,.slice da o.data.length dc,.int .i64 o.page,.int .i64 o.slot,.int .i64 o.stamp] (by kernel_rfl) rfl hrd) ?_)))))
  refine Le rfl (El [.int .i64 0,.int .i64 0,.slice none 0 0,.int .i64 0,.int .i64 0,.int .i64 0] (by unfold zeroB;kernel_rfl) ?_)
  intro g9
  refine L0 rfl (Es [_,_,_,_,_,_] (by kernel_rfl) rfl rfl rfl rfl (by simp) ?_)
  try simp only [splice,lC,lN,dS,cA,tS,tZ,dZ,nA,aN]
  refine Ld (TS (Lq rfl (Q0 (by kernel_rfl) rfl) (Lq rfl (Ql (by kernel_rfl) rfl rfl) (Ld (yH (Ts ?_))))))
  refine TR (Lq rfl (yU rfl rfl) (La rfl rfl (Ld ?_)))
  refine yN rfl (fun k0=>?_) (fun k0=>?_)
  ·
   rw [show stepR h o=beginR h by unfold stepR;rw [if_pos k0]] at hP2
   refine TR (Lm rfl rfl (Lq rfl (Qn rfl) (Lq rfl (Q0 (by kernel_rfl) rfl) ?_)))
   refine Le rfl (Ec (Hp.begin B g b 10 10 2 K h (by omega)) Tryz.func8 rfl rfl rfl ?_)
   rintro _ _ ⟨rfl,rfl⟩
   try simp only [cA,nA]
   refine Ld (TR (Lq rfl (Qd rfl rfl (wr64 (by omega) (by omega))) (Lm rfl rfl (Ld ?_))))
   refine ⟨_,?_,_,⟨_,k+1,K+1,beginR h,⟨by omega,by omega,hP2⟩,rfl,(updS rfl (updS rfl (updS rfl (updS rfl (updS rfl rfl))))),rfl⟩,Sa⟩
   omega
  refine TS (Lq rfl (yU rfl rfl) (La rfl rfl (Ld ?_)))
  refine yN rfl (fun k1=>?_) (fun k1=>?_)
  ·
   rw [show stepR h o=(addR' h o.txn o.data).1 by unfold stepR;rw [if_neg k0,if_pos k1]] at hP2
   refine TR (Lm rfl rfl (Lq rfl (Qf (off:=1) (by kernel_rfl) rfl) (Lq rfl (Ql (by kernel_rfl) rfl rfl) (Lq rfl (Qf (off:=2) (by kernel_rfl) rfl) (Lq rfl (Ql (by kernel_rfl) rfl rfl) ?_)))))
   refine Le rfl (Ec (Hp.add B [] g b 10 10 2 K h (by omega) o.txn da dc o.data (hdv.rd _) (by omega)) Tryz.func9 rfl rfl rfl ?_)
   rintro _ _ ⟨rfl,rfl⟩
   try simp only [cA,nA]
   refine Ld (TR (Lq rfl (Qd rfl rfl (wr64 (by omega) (by omega))) (Lm rfl rfl (Ld ?_))))
   refine ⟨_,?_,_,⟨_,k+1,K+10+1,(addR' h o.txn o.data).1,⟨by omega,by omega,hP2⟩,rfl,(updS rfl (updS rfl (updS rfl (updS rfl (updS rfl rfl))))),rfl⟩,Sa⟩
   omega
  refine TS (Lq rfl (yU rfl rfl) (La rfl rfl (Ld ?_)))
  refine yN rfl (fun k2=>?_) (fun k2=>?_)
  ·
   rw [show stepR h o=(endR h o.txn o.page o.slot).1 by unfold stepR;rw [if_neg k0,if_neg k1,if_pos k2]] at hP2
   refine TR (Lm rfl rfl (Lq rfl (Qf (off:=1) (by kernel_rfl) rfl) (Lq rfl (Ql (by kernel_rfl) rfl rfl) (Lq rfl (Qf (off:=3) (by kernel_rfl) rfl) (Lq rfl (YA 0 (len:=2) (e:=3) (sz:=1) (by kernel_rfl) rfl rfl rfl (by omega)) (Lq rfl (Ql (by kernel_rfl) rfl rfl) (Lq rfl (Qf (off:=3) (by kernel_rfl) rfl) ?_)))))))
   refine Lq rfl (YA 1 (len:=2) (e:=3) (sz:=1) (by kernel_rfl) rfl rfl rfl (by omega)) (Lq rfl (Ql (by kernel_rfl) rfl rfl) (Lq rfl (z8 [(0,1),(1,1)] [.int .i64 0,.int .i64 0] [_,_] [(0,_),(1,_)] (by kernel_rfl) (by unfold zeroB;kernel_rfl) rfl rfl) ?_))
   refine Le rfl (Ec (Hp.end_ B g b 10 10 2 K h (by omega) o.txn o.page o.slot) Tryz.func10 rfl rfl rfl ?_)
   rintro _ _ ⟨rfl,rfl⟩
   try simp only [cA,nA]
   refine Ld (TR (Lq rfl (Qd rfl rfl (wr64 (by omega) (by omega))) (Lm rfl rfl (Ld ?_))))
   refine ⟨_,?_,_,⟨_,k+1,K+2,(endR h o.txn o.page o.slot).1,⟨by omega,by omega,hP2⟩,rfl,(updS rfl (updS rfl (updS rfl (updS rfl (updS rfl rfl))))),rfl⟩,Sa⟩
   omega
  refine TS (Lq rfl (yU rfl rfl) (La rfl rfl (Ld ?_)))
  refine yN rfl (fun k3=>?_) (fun k3=>?_)
  ·
   rw [show stepR h o=(commitR h o.txn o.stamp).1 by unfold stepR;rw [if_neg k0,if_neg k1,if_neg k2,if_pos k3]] at hP2
   refine TR (Lm rfl rfl (Lq rfl (Qf (off:=1) (by kernel_rfl) rfl) (Lq rfl (Ql (by kernel_rfl) rfl rfl) (Lq rfl (Qf (off:=5) (by kernel_rfl) rfl) (Lq rfl (Ql (by kernel_rfl) rfl rfl) ?_)))))
   refine Le rfl (Ec (Hp.commit B g b 10 10 2 K h (by omega) o.txn o.stamp (by omega)) Tryz.func11 rfl rfl rfl ?_)
   rintro _ _ ⟨rfl,rfl⟩
   try simp only [cA,nA]
   refine Ld (TR (Lq rfl (Qd rfl rfl (wr64 (by omega) (by omega))) (Lm rfl rfl (Ld ?_))))
   refine ⟨_,?_,_,⟨_,k+1,K,(commitR h o.txn o.stamp).1,⟨by omega,by omega,hP2⟩,rfl,(updS rfl (updS rfl (updS rfl (updS rfl (updS rfl rfl))))),rfl⟩,Sa⟩
   omega
  refine TS (Lq rfl (yU rfl rfl) (La rfl rfl (Ld ?_)))
  refine yN rfl (fun k4=>?_) (fun k4=>?_)
  ·
   rw [show stepR h o=(abortR h o.txn).1 by unfold stepR;rw [if_neg k0,if_neg k1,if_neg k2,if_neg k3,if_pos k4]] at hP2
   refine zW 6 none (by kernel_rfl) (nB rfl) (by kernel_rfl) (Rq 0 rfl rfl (by kernel_rfl) Sa (Qm rfl) (Rq 1 rfl rfl (by kernel_rfl) Sa (Qn rfl) (Rq 2 rfl rfl (by kernel_rfl) Sa (Q0 (by kernel_rfl) rfl) (Rq 3 rfl rfl (by kernel_rfl) Sa (Qf (off:=1) (by kernel_rfl) rfl) (Rq 4 rfl rfl (by kernel_rfl) Sa (Ql (by kernel_rfl) rfl rfl) (yK 5 (by kernel_rfl) ?_))))))
   refine zY rfl rfl (by kernel_rfl) (Ec (Hp.abort B g b 10 10 2 K h o.txn) Tryz.func12 rfl rfl rfl ?_)
   rintro _ _ ⟨rfl,rfl⟩
   try simp only [cA,nA]
   refine Rd0 (by rfl) ?_
   simp only [dS,dZ,dN]
   refine Ld (TR (Lq rfl (Qd rfl rfl (wr64 (by omega) (by omega))) (Lm rfl rfl (Ld ?_))))
   refine ⟨_,?_,_,⟨_,k+1,K,(abortR h o.txn).1,⟨by omega,by omega,hP2⟩,rfl,(updS rfl (updS rfl (updS rfl (updS rfl (updS rfl rfl))))),rfl⟩,Sa⟩
   omega
  rw [show stepR h o=h by unfold stepR;rw [if_neg k0,if_neg k1,if_neg k2,if_neg k3,if_neg k4]] at hP2
  refine Tk (TR (Lq rfl (Qd rfl rfl (wr64 (by omega) (by omega))) (Lm rfl rfl (Ld ?_))))
  refine ⟨_,?_,_,⟨_,k+1,K,h,⟨by omega,by omega,hP2⟩,rfl,(updS rfl (updS rfl (updS rfl (updS rfl (updS rfl rfl))))),rfl⟩,Sa⟩
  omega
 clear hlt
 refine zB (TS (Lm rfl rfl ?_))
 refine Le rfl (Ec (Hp.crash B g b 10 10 2 K h (by omega) (.slice none 0 0) [] (-1) 0 ⟨none,0,rfl,.inl rfl⟩) Tryz.func13 rfl rfl rfl ?_)
 rintro _ _ ⟨D,kk,⟨hh,k1,k2,⟨xx,yy,hscan⟩,hd,ho,hp⟩,rfl,rfl⟩
 try simp only [cA,nA]
 refine Ld (TS (Lm rfl rfl ?_))
 have hlE:=lastE_mono hP.r kk
 have hla:=hP.last
 obtain ⟨es,hes⟩ : ∃ es,h.es.take kk=es:=⟨_,rfl⟩
 have hesl:es.length≤k:=by rw [←hes,List.length_take];omega
 rw [hes] at hh hscan hlE
 clear k1 k2 hes
 refine Le rfl (Ec (Dk.forkF B b D (by rw [hp];simp)) Tryz.func14 rfl rfl rfl ?_)
 rintro _ _ ⟨bf,rfl,rfl⟩
 try simp only [cA,nA]
 refine La rfl rfl (Ld (Ts (TS (Lm rfl rfl (Lq rfl (Y1 (by kernel_rfl) rfl rfl) (Ld ?_))))))
 refine yQ rfl (Tk (TS (Lm rfl rfl ?_)))
 refine Le rfl (Ec (Hp.open B b D 10 10 3 k 10 3 rfl rfl es (by omega) (by omega) hd (by omega) (by omega) (by rw [hp];simp) hh ⟨xx,yy,hscan⟩ (by omega) (by omega)) Tryz.func7 rfl rfl rfl ?_)
 rintro _ _ ⟨g2,p1,p2,p3,c1,c2,c3,rfl,rfl⟩
 try simp only [cA,nA]
 refine Lm rfl rfl (Lq rfl (Qx rfl rfl) (Lq rfl (Qx rfl rfl) (Lq rfl (Qx rfl rfl) ?_)))
 refine Le rfl (El [.slice none 0 0,.slice none 0 0,.slice none 0 0,.int .i64 0] (by unfold zeroB;kernel_rfl) ?_)
 intro g11
 refine La rfl rfl ?_
 refine L0 rfl (Es [_,_,_,_] (by kernel_rfl) rfl rfl rfl rfl (by simp) ?_)
 try simp only [splice,lC,lN,dS,cA,tS,tZ,dZ,nA,aN]
 refine La rfl rfl (Ld (TS (Lm rfl rfl ?_)))
 refine Le rfl (Ec (Wl.openAny B bf D 0 10 0 10 rfl rfl (by omega) (by omega) (by rw [hp];simp)) Tryz.func15 rfl rfl rfl ?_)
 rintro _ _ ⟨gl,q,cq,R,ds,D1,e1,e2,e3,e4,e5,e6,e7,e8,e9,rfl,rfl⟩
 try simp only [cA,nA]
 rw [hscan] at e9
 injection e9 with f1 f2
 injection f2 with f2 f3
 obtain rfl:ds=es.map encE:=by have:=congrArg (List.map (·.2)) f3;rwa [logR_snd,logR_snd] at this
 clear f1 f2 f3 hscan xx yy
 obtain ⟨N,hN⟩ : ∃ N,es.length=N:=⟨_,rfl⟩
 rw [List.length_map,hN]
 refine Lm rfl rfl (Lq rfl (Qx rfl rfl) (Lq rfl (Qx rfl rfl) (Lq rfl (Qx rfl rfl) (La rfl rfl (La rfl rfl (La rfl rfl (Ld ?_)))))))
 refine Ts (TS (Lm rfl rfl (Lq rfl (Y1 (by kernel_rfl) rfl rfl) (Lm rfl rfl (yT (t:=118) rfl rfl (Lm rfl rfl ?_))))))
 refine Lq rfl (yW rfl rfl) (Lq rfl (Qp rfl rfl) (Lm rfl rfl (yT (t:=122) rfl rfl (Lm rfl rfl (Lq rfl (yW rfl rfl) (Lq rfl (Qp rfl rfl) (Ld ?_)))))))
 refine yQ rfl ?_
 obtain ⟨a,ha⟩ : ∃ a,anRun (es.zip (mksOf es))=a:=⟨_,rfl⟩
 have hml:=mks_len es
 have hz:(es.zip (mksOf es)).map (·.1)=es:=zip_map_fst hml.symm
 have hal:a.last=lastE es:=by rw [←ha,an_last,hz]
 have hlm : ∀ e∈es,(e.txn∈losersA a)↔isCm (replay 10 (10*256) es) e.txn=false:=fun e he=>by rw [←ha];exact losers_mem hh he
 have hml2:=losers_len (es.zip (mksOf es))
 have hpl2:=pages_len3 (es.zip (mksOf es))
 rw [ha,List.length_zip,hml,Nat.min_self] at hml2 hpl2
 rw [ha]
 have hcount:=reopen_count hh (fun t=>decide (t∈losersA a)) (fun e he=>by have:=hlm e he;cases hc:isCm (replay 10 (10*256) es) e.txn <;> simp_all)
 obtain ⟨m,hm⟩ : ∃ m,(losersA a).length=m:=⟨_,rfl⟩
 rw [hm] at hml2
 rw [hm]
 refine Tk (TS (La rfl rfl (Ld (TS (La rfl rfl ?_)))))
 refine Ld (TS (La rfl rfl (Ld (TS ?_))))
 refine Le rfl (YD Int Bool kI bV ?_)
 rintro gm
 refine La rfl rfl (Ld (Ts (TS (Lq rfl (Qf (off:=1) (by kernel_rfl) rfl) (Lq rfl (Ql (by kernel_rfl) rfl rfl) (Lq rfl (yI (e:=2) (sz:=1) (by kernel_rfl) rfl) ?_))))))
 refine Lm rfl rfl (Ld (yH (T.own fun w ho=>?_)))
 have hp2:0<m → ∃ g,p2=some ⟨g,0,none⟩:=((ho.map Sa:Own B w [mkR p2 m c2 (losersA a)]).slice_at (p:=p2) (m:=m) (c:=c2)).2.1
 have hp3:0<(pagesT a).length → ∃ g,p3=some ⟨g,0,none⟩:=((ho.map Sa:Own B w [toR p3 (pagesT a).length c3 (pagesT a)]).slice_at (p:=p3) (m:=(pagesT a).length) (c:=c3)).2.1
 clear ho
 refine zG (fun mz fz lz => ∃ (f0:Fr) (j:Nat) (L:List (Int×Bool)),(j≤m ∧ ∀ t,(lookL L t).getD false=decide (t∈(losersA a).take j))∧mz=m-j∧fz=(upd (upd (upd (upd (upd (upd (upd (upd (upd (upd f0 5 (pV g2)) 11 (.pointer (some ⟨g11,0,none⟩))) 13 (.slice q N cq)) 15 (.slice none 0 0)) 16 (.slice none 0 0)) 17 (.int .i64 0)) 18 (.map (some gm))) 128 (.slice p2 m c2)) 129 (.int .i64 m)) 130 (.int .i64 j))∧lz=mpA kI bV gm L::wrecR q N cq R::recsA (R.map WRec.r)::blk g11 [.slice p1 a.cm.length c1,.slice p2 m c2,.slice p3 (pagesT a).length c3,.int .i64 (lastE es)] 32::hpA g2 b 10 10 3 (k+10+N) (reopen 10 (10*256) es)::mkR p2 m c2 (losersA a)::toR p3 (pagesT a).length c3 (pagesT a)::F) ?_ ?_
 · refine ⟨_,_,⟨_,0,[],⟨Nat.zero_le _,fun t=>by simp [lookL]⟩,rfl,(updS rfl (updS rfl (updS rfl (updS rfl (updS rfl (updS rfl (updS rfl (updS rfl (updS rfl (updS rfl rfl)))))))))),rfl⟩,Sa⟩
 rintro mz fz lz ⟨f0,j,L,⟨hj,hL⟩,hmz,rfl,rfl⟩
 subst mz
 refine TS (Lq rfl (yM rfl rfl) (Ld (Ts ?_)))
 refine yN rfl (fun hlt=>?_) (fun hlt=>?_)
 ·
  obtain ⟨gp2,rfl⟩:=hp2 (by omega)
  obtain ⟨t0,ht0⟩ : ∃ t0,(losersA a)[j]? = some t0:=⟨_,List.getElem?_eq_getElem (by omega)⟩
  refine Tk (Ts (yH (TS (Lq rfl (Qi _ (e:=2) (sz:=1) (by kernel_rfl) rfl rfl rfl (by omega)) ?_))))
  refine Lq rfl (Ql (v:=kI t0) (by kernel_rfl) rfl (by rw [map_at _ _ _ (by omega),(List.getElem?_eq_some_iff.1 ht0).2])) ?_
  refine La rfl rfl (Ld (TR (Lm rfl rfl (Lm rfl rfl ?_))))
  refine L0 rfl (Y0 Wh.okL rfl t0 rfl true rfl ?_)
  refine Ld (TR (Lq rfl (Qd rfl rfl (wr64 (by omega) (by omega))) (Lm rfl rfl (Ld ?_))))
  refine ⟨_,?_,_,⟨_,j+1,putL L t0 true,⟨by omega,fun t=>by rw [List.take_succ_eq_append_getElem (by omega),(List.getElem?_eq_some_iff.1 ht0).2];by_cases e:t0=t;subst e;rw [look_put_same];simp;rw [look_put_ne _ e,hL t];simp [Ne.symm e]⟩,rfl,(updS rfl (updS rfl (updS rfl (updS rfl (updS rfl (updS rfl (updS rfl (updS rfl (updS rfl (updS rfl rfl)))))))))),rfl⟩,Sa⟩
  omega
 obtain rfl:j=m:=by omega
 clear hlt hj
 rw [List.take_of_length_le (by omega)] at hL
 have hRl:R.length=N:=by have:=congrArg List.length e2;rw [List.length_map,length_logR,List.length_map] at this;omega
 refine T.conv (l':=emR none 0 0 []::mkR none 0 0 []::_) (fun w ho=>(ho.row_nil _ _).row_nil _ _) (zB (Ts (TS (Lm rfl rfl (Lq rfl (yI (e:=62) (sz:=2) (by kernel_rfl) rfl) (Lm rfl rfl ?_))))))
 refine Ld (yH ?_)
 refine zG (fun mz fz lz => ∃ (f0:Fr) (i ad:Nat) (pe pm:Option Addr) (ce cm:Nat) (ems:List EnM) (mss:List Int),(i≤N∧ad=addsN (fun t=>decide (t∈losersA a)) (es.take i)∧ems.map (·.e)=es.take i∧mss=(mksOf es).take i)∧mz=N-i∧fz=(upd (upd (upd (upd (upd (upd (upd (upd (upd f0 5 (pV g2)) 11 (.pointer (some ⟨g11,0,none⟩))) 15 (.slice pe i ce)) 16 (.slice pm i cm)) 17 (.int .i64 ad)) 18 (.map (some gm))) 137 (.slice q N cq)) 138 (.int .i64 N)) 139 (.int .i64 i))∧lz=emR pe i ce ems::mkR pm i cm mss::mpA kI bV gm L::wrecR q N cq R::recsA (R.map WRec.r)::blk g11 [.slice p1 a.cm.length c1,.slice p2 j c2,.slice p3 (pagesT a).length c3,.int .i64 (lastE es)] 32::hpA g2 b 10 10 3 (k+10+N) (reopen 10 (10*256) es)::toR p3 (pagesT a).length c3 (pagesT a)::F) ?_ ?_
 · refine ⟨_,_,⟨_,0,0,none,none,0,0,[],[],⟨Nat.zero_le _,rfl,rfl,rfl⟩,rfl,(updS rfl (updS rfl (updS rfl (updS rfl (updS rfl (updS rfl (updS rfl (updS rfl (updS rfl rfl))))))))),rfl⟩,Sa⟩
 rintro mz fz lz ⟨f0,i,ad,pe,pm,ce,cm,ems,mss,⟨hi,had,hem,hms⟩,hmz,rfl,rfl⟩
 subst mz
 have heml:ems.length=i:=by have:=congrArg List.length hem;simpa [hN,Nat.min_eq_left hi] using this
 have hmsl:mss.length=i:=by rw [hms,List.length_take,hml];omega
 refine TS (Lq rfl (yM rfl rfl) (Ld (Ts ?_)))
 refine yN rfl (fun hlt2=>?_) (fun hlt2=>?_)
 ·
  have hi2:i<N:=by omega
  obtain ⟨x,hx⟩ : ∃ x,R[i]? = some x:=⟨_,List.getElem?_eq_getElem (by omega)⟩
  obtain ⟨e,he,hxe,hmk⟩:=rec_of e2 hx
  have hok2:=hh i e he
  have hnx:=adds_next (fun t=>decide (t∈losersA a)) he
  rw [←had] at hnx
  have hal2:ad≤i:=had ▸ Nat.le_trans (List.length_filter_le _ _) (by rw [List.length_take];omega)
  refine T.own fun w ho=>?_
  have hRok:RecOk (R.map WRec.r):=(ho.map Sa:Own B w [recsA (R.map WRec.r)]).recOk
  have hxc:x.r.b.length≤x.r.c:=by have:=(ho.map Sa:Own B w [recsA (R.map WRec.r)]).recCap i (by simp;omega);simpa [(List.getElem?_eq_some_iff.1 hx).2] using this
  have hqp : ∃ g,q=some ⟨g,0,none⟩:=((ho.map Sa:Own B w [wrecR q N cq R]).slice_at (p:=q) (m:=N) (c:=cq)).2.1 (by omega)
  clear ho
  obtain ⟨gq,rfl⟩:=hqp
  have rx:RdV B [recsA (R.map WRec.r)] (recV x.r) (bytesV x.r.b):=by have:=RdV.rec (B:=B) hRok (j:=i) (by simp;omega);simpa [(List.getElem?_eq_some_iff.1 hx).2] using this
  rw [hxe] at rx hxc
  have hxl:(encE e).length=x.r.b.length:=by rw [hxe]
  refine Tk (Ts (yH (TS (Lq rfl (Qi _ (e:=62) (sz:=2) (by kernel_rfl) rfl rfl rfl (by omega)) ?_))))
  refine Lq rfl (QL [.int .i64 x.mark,recV x.r] (by kernel_rfl) rfl (by rw [show [Value.int .i64 x.mark,recV x.r]=wrecC (R[i]'(by omega)) by rw [(List.getElem?_eq_some_iff.1 hx).2]];exact rdl_flat _ _ _ (by intros;rfl) _ (by omega))) ?_
  refine Le rfl (El [.int .i64 0,.slice none 0 0] (by unfold zeroB;kernel_rfl) ?_)
  intro g22
  refine L0 rfl (Es [_,_] (by kernel_rfl) rfl rfl rfl rfl (by simp) ?_)
  try simp only [splice,lC,lN,dS,cA,tS,tZ,dZ,nA,aN]
  refine Ld (TS (Lq rfl (Qf (off:=1) (by kernel_rfl) rfl) (Lq rfl (Ql (by kernel_rfl) rfl rfl) ?_)))
  refine Le rfl (Ec (Tl.decode B [recsA (R.map WRec.r)] e x.r.p x.r.b.length x.r.c hok2.ok hxl (by rw [←hxl];exact hxc) (by simpa [recV,hxl] using rx)) Tryz.func16 rfl rfl rfl ?_)
  rintro _ _ ⟨p5,c5,rfl,rfl⟩
  try simp only [cA,nA]
  refine Lm rfl rfl (Lq rfl (Qx rfl rfl) (Lq rfl (Qx rfl rfl) ?_))
  refine Le rfl (El [.int .i64 0,.int .i64 0,.int .i64 0,.int .i64 0,.int .i64 0,.slice none 0 0] (by unfold zeroB;kernel_rfl) ?_)
  intro g23
  refine L0 rfl (Es [_,_,_,_,_,_] (by kernel_rfl) rfl rfl rfl rfl (by simp) ?_)
  try simp only [splice,lC,lN,dS,cA,tS,tZ,dZ,nA,aN]
  refine La rfl rfl (Ld (Ts (TS (Lm rfl rfl (Lq rfl (yW rfl rfl) (Ld ?_))))))
  refine yQ rfl (Tk (TS (Lm rfl rfl (Lq rfl (QL [_,_,_,_,_,_] (by kernel_rfl) rfl ⟨rfl,rfl,rfl,rfl,rfl,rfl,trivial⟩) ?_))))
  refine Le rfl (zK [_,_,_,_,_,_] (e:=64) (sz:=6) (by kernel_rfl) ⟨.agg #[.int .i64 0,.int .i64 0,.int .i64 0,.int .i64 0,.int .i64 0,.slice none 0 0],by kernel_rfl,rfl⟩ rfl rfl rfl (by omega) (by omega) ?_)
  intro g153
  refine Le rfl (Ea Hp.elemEn rfl rfl (SrcOf.blk (by kernel_rfl) rfl (by simp [Value.oneCell'])) (by unfold maxLen;omega) (by omega) ?_)
  rintro p6 c6 hp6
  rw [flat_snoc emC ems ⟨e,p5,c5⟩]
  refine La rfl rfl (Ld (TS (Lm rfl rfl (Lq rfl (Q0 (by kernel_rfl) rfl) (Lq rfl (Ql (by kernel_rfl) rfl rfl) ?_)))))
  refine Le rfl (zK [_] (e:=2) (sz:=1) (by kernel_rfl) ⟨.int .i64 0,by kernel_rfl,rfl⟩ rfl rfl rfl (by omega) (by omega) ?_)
  intro g158
  refine Le rfl (Ea Ta.elemL rfl rfl (SrcOf.blk (by kernel_rfl) rfl (by simp [Value.oneCell'])) (by unfold maxLen;omega) (by omega) ?_)
  rintro p7 c7 hp7
  rw [map_snoc kI mss (x.mark:Int)]
  refine La rfl rfl (Ld (TS (Lq rfl (Q0 (by kernel_rfl) rfl) (Lq rfl (Ql (by kernel_rfl) rfl rfl) (Lq rfl (yU rfl rfl) (Lm rfl rfl ?_))))))
  refine zZ (t:=163) rfl (fun hk1=>?_) (fun hk1=>?_)
  ·
   try replace hk1:=of_decide_eq_true hk1
   by_cases hlo:e.txn∈losersA a
   ·
    rw [if_neg (by simp [hlo]),Nat.add_zero] at hnx
    refine Lm rfl rfl (Lq rfl (Qf (off:=1) (by kernel_rfl) rfl) (Lq rfl (Ql (by kernel_rfl) rfl rfl) (Lq rfl (zT Wh.okL rfl e.txn rfl false rfl) (Lq rfl (Y2 rfl) (Lq rfl (Qp rfl rfl) (Ld (YQ rfl ((by simp [hL,hlo])) ?_)))))))
    refine Tk (TR (Lq rfl (Qd rfl rfl (wr64 (by omega) (by omega))) (Lm rfl rfl (Ld ?_))))
    refine ⟨_,?_,_,⟨_,i+1,ad,p6,p7,c6,c7,ems++[⟨e,p5,c5⟩],mss++[(x.mark:Int)],⟨by omega,hnx.symm,by rw [List.map_append,hem,List.take_succ_eq_append_getElem (by omega),show es[i]'(by omega)=e from (List.getElem?_eq_some_iff.1 he).2];rfl,by rw [hms,List.take_succ_eq_append_getElem (by omega),show (mksOf es)[i]'(by omega)=(x.mark:Int) from (List.getElem?_eq_some_iff.1 hmk).2]⟩,rfl,(updS rfl (updS rfl (updS rfl (updS rfl (updS rfl (updS rfl (updS rfl (updS rfl (updS rfl rfl))))))))),rfl⟩,Sa⟩
    omega
   rw [if_pos ⟨hk1,by simp [hlo]⟩] at hnx
   refine Lm rfl rfl (Lq rfl (Qf (off:=1) (by kernel_rfl) rfl) (Lq rfl (Ql (by kernel_rfl) rfl rfl) (Lq rfl (zT Wh.okL rfl e.txn rfl false rfl) (Lq rfl (Y2 rfl) (Lq rfl (Qp rfl rfl) (Ld (T.condBT rfl ((by simp [hL,hlo])) ?_)))))))
   refine TR (Lm rfl rfl (Lq rfl (Qd rfl rfl (wr64 (by omega) (by omega))) (La rfl rfl (Ld (TR (Lq rfl (Qd rfl rfl (wr64 (by omega) (by omega))) (Lm rfl rfl ?_)))))))
   refine Ld ?_
   refine ⟨_,?_,_,⟨_,i+1,ad+1,p6,p7,c6,c7,ems++[⟨e,p5,c5⟩],mss++[(x.mark:Int)],⟨by omega,hnx.symm,by rw [List.map_append,hem,List.take_succ_eq_append_getElem (by omega),show es[i]'(by omega)=e from (List.getElem?_eq_some_iff.1 he).2];rfl,by rw [hms,List.take_succ_eq_append_getElem (by omega),show (mksOf es)[i]'(by omega)=(x.mark:Int) from (List.getElem?_eq_some_iff.1 hmk).2]⟩,rfl,(updS rfl (updS rfl (updS rfl (updS rfl (updS rfl (updS rfl (updS rfl (updS rfl (updS rfl rfl))))))))),rfl⟩,Sa⟩
   omega
  try replace hk1:=of_decide_eq_false hk1
  rw [if_neg (by simp [hk1]),Nat.add_zero] at hnx
  refine Ls rfl (Ls rfl (Ls rfl (Ls rfl (Ls rfl (Lq rfl (Qp rfl rfl) (Ld (yQ rfl ?_)))))))
  refine Tk (TR (Lq rfl (Qd rfl rfl (wr64 (by omega) (by omega))) (Lm rfl rfl (Ld ?_))))
  refine ⟨_,?_,_,⟨_,i+1,ad,p6,p7,c6,c7,ems++[⟨e,p5,c5⟩],mss++[(x.mark:Int)],⟨by omega,hnx.symm,by rw [List.map_append,hem,List.take_succ_eq_append_getElem (by omega),show es[i]'(by omega)=e from (List.getElem?_eq_some_iff.1 he).2];rfl,by rw [hms,List.take_succ_eq_append_getElem (by omega),show (mksOf es)[i]'(by omega)=(x.mark:Int) from (List.getElem?_eq_some_iff.1 hmk).2]⟩,rfl,(updS rfl (updS rfl (updS rfl (updS rfl (updS rfl (updS rfl (updS rfl (updS rfl (updS rfl rfl))))))))),rfl⟩,Sa⟩
  omega
 obtain rfl:i=N:=by omega
 rw [List.take_of_length_le (by omega)] at hem hms had
 subst hms
 refine zB (TS (Lm rfl rfl (Lm rfl rfl ?_)))
 refine Le rfl (Ec (Ta.analyse B ems (mksOf es) pe pm i ce cm heml hmsl (by omega)) Tryz.func17 rfl rfl rfl ?_)
 rintro _ _ ⟨p4,p5,p6,c4,c5,c6,rfl,rfl⟩
 try simp only [cA,nA]
 rw [hem,ha,hal,hm]
 refine Le rfl (El [.slice none 0 0,.slice none 0 0,.slice none 0 0,.int .i64 0] (by unfold zeroB;kernel_rfl) ?_)
 intro g25
 refine L0 rfl (Es [_,_,_,_] (by kernel_rfl) rfl rfl rfl rfl (by simp) ?_)
 try simp only [splice,lC,lN,dS,cA,tS,tZ,dZ,nA,aN]
 refine Ld (Ts (TS (Lq rfl (Q0 (by kernel_rfl) rfl) (Lq rfl (Ql (by kernel_rfl) rfl rfl) (Lq rfl (yI (e:=133) (sz:=2) (by kernel_rfl) rfl) (Lq rfl (Q0 (by kernel_rfl) rfl) ?_))))))
 refine Lq rfl (Ql (by kernel_rfl) rfl rfl) (Lq rfl (yI (e:=133) (sz:=2) (by kernel_rfl) rfl) (Lq rfl (yW rfl rfl) (Lm rfl rfl (yT (t:=183) rfl (decide_eq_false (by omega)) (Lq rfl (Qf (off:=1) (by kernel_rfl) rfl) (Lq rfl (Ql (by kernel_rfl) rfl rfl) (Lq rfl (yI (e:=2) (sz:=1) (by kernel_rfl) rfl) ?_)))))))
 refine Lq rfl (Qf (off:=1) (by kernel_rfl) rfl) (Lq rfl (Ql (by kernel_rfl) rfl rfl) (Lq rfl (yI (e:=2) (sz:=1) (by kernel_rfl) rfl) (Lq rfl (yW rfl rfl) (Lq rfl (Qp rfl rfl) (Lm rfl rfl (yT (t:=192) rfl (decide_eq_false (by omega)) (Lq rfl (Qf (off:=2) (by kernel_rfl) rfl) ?_)))))))
 refine Lq rfl (Ql (by kernel_rfl) rfl rfl) (Lq rfl (yI (e:=71) (sz:=3) (by kernel_rfl) rfl) (Lq rfl (Qf (off:=2) (by kernel_rfl) rfl) (Lq rfl (Ql (by kernel_rfl) rfl rfl) (Lq rfl (yI (e:=71) (sz:=3) (by kernel_rfl) rfl) (Lq rfl (yW rfl rfl) (Lq rfl (Qp rfl rfl) (Lm rfl rfl ?_)))))))
 refine yT (t:=201) rfl (decide_eq_false (by omega)) (Lq rfl (Qf (off:=3) (by kernel_rfl) rfl) (Lq rfl (Ql (by kernel_rfl) rfl rfl) (Lq rfl (Qf (off:=3) (by kernel_rfl) rfl) (Lq rfl (Ql (by kernel_rfl) rfl rfl) (Lq rfl (yW rfl rfl) (Lq rfl (Qp rfl rfl) (Lm rfl rfl ?_)))))))
 refine yT (t:=208) rfl (decide_eq_false (by omega)) (Lm rfl rfl ?_)
 have hlr:=all_len (reopen_inv hh).ok
 have hpg:(reopen 10 (10*256) es).pages=10:=(replay_es _ _ _).2.1
 refine Le rfl (Ec (Hp.all B g2 b 10 10 3 (k+10+i) (reopen 10 (10*256) es) (by omega)) Tryz.func18 rfl rfl rfl ?_)
 rintro _ _ ⟨X,pl,cl,hX1,hX2,rfl,rfl⟩
 try simp only [cA,nA]
 have hXl:X.length=addsN (fun t=>decide (t∈losersA a)) es:=by rw [←hcount,←hX2,List.length_map]
 rw [hXl,←had]
 refine Lq rfl (yI (e:=139) (sz:=5) (by kernel_rfl) rfl) (Lm rfl rfl (Lq rfl (yW rfl rfl) (Lq rfl (Qp rfl rfl) (Ld (yL rfl (by omega) ?_)))))
 obtain ⟨n3,hn3⟩ : ∃ n3,(pagesT a).length=n3:=⟨_,rfl⟩
 rw [hn3] at hp3 hpl2
 rw [hn3]
 refine T.own fun w ho=>?_
 have hp6:0<n3 → ∃ g,p6=some ⟨g,0,none⟩:=((ho.map Sa:Own B w [toR p6 n3 c6 (pagesT a)]).slice_at (p:=p6) (m:=n3) (c:=c6)).2.1
 clear ho
 refine Tk (Ts (TS (Lq rfl (Qf (off:=2) (by kernel_rfl) rfl) (Lq rfl (Ql (by kernel_rfl) rfl rfl) (Lq rfl (yI (e:=71) (sz:=3) (by kernel_rfl) rfl) (Lm rfl rfl ?_))))))
 refine Ld (yH ?_)
 refine zG (fun mz fz lz => ∃ (f0:Fr) (v:Nat),(v≤n3)∧mz=n3-v∧fz=(upd (upd (upd (upd (upd (upd f0 5 (pV g2)) 11 (.pointer (some ⟨g11,0,none⟩))) 25 (.pointer (some ⟨g25,0,none⟩))) 216 (.slice p6 n3 c6)) 217 (.int .i64 n3)) 218 (.int .i64 v))∧lz=blk g25 [.slice p4 a.cm.length c4,.slice p5 j c5,.slice p6 n3 c6,.int .i64 (lastE es)] 32::blk g11 [.slice p1 a.cm.length c1,.slice p2 j c2,.slice p3 n3 c3,.int .i64 (lastE es)] 32::hpA g2 b 10 10 3 (k+10+i+10) (reopen 10 (10*256) es)::toR p6 n3 c6 (pagesT a)::toR p3 n3 c3 (pagesT a)::F) ?_ ?_
 · refine ⟨_,_,⟨_,0,Nat.zero_le _,rfl,(updS rfl (updS rfl (updS rfl (updS rfl (updS rfl (updS rfl rfl)))))),rfl⟩,Sa⟩
 rintro mz fz lz ⟨f0,v,hv,hmz,rfl,rfl⟩
 subst mz
 refine TS (Lq rfl (yM rfl rfl) (Ld (Ts ?_)))
 refine yN rfl (fun hlt3=>?_) (fun hlt3=>?_)
 ·
  obtain ⟨ga,rfl⟩:=hp3 (by omega)
  obtain ⟨gb,rfl⟩:=hp6 (by omega)
  obtain ⟨y,hy⟩ : ∃ y,(pagesT a)[v]'(by omega)=y:=⟨_,rfl⟩
  refine Tk (Ts (yH (TS (Lm rfl rfl (Lq rfl (Qi _ (e:=71) (sz:=3) (by kernel_rfl) rfl rfl rfl (by omega)) (Lq rfl (QL [.int .i64 y.page,.int .i64 y.first,.int .i64 y.last] (by kernel_rfl) rfl (by rw [show [Value.int .i64 y.page,.int .i64 y.first,.int .i64 y.last]=tchC ((pagesT a)[v]'(by omega)) by rw [hy]];exact rdl_flat _ _ _ (by intros;rfl) _ (by omega))) ?_))))))
  refine Le rfl (El [.int .i64 0,.int .i64 0,.int .i64 0] (by unfold zeroB;kernel_rfl) ?_)
  intro g27
  refine La rfl rfl ?_
  refine L0 rfl (Es [_,_,_] (by kernel_rfl) rfl rfl rfl rfl (by simp) ?_)
  try simp only [splice,lC,lN,dS,cA,tS,tZ,dZ,nA,aN]
  refine Ld (Ts (zU 7 (by kernel_rfl) (nB rfl) (by kernel_rfl) (Rq 0 rfl rfl (by kernel_rfl) (Sr _) (QL [_,_,_] (by kernel_rfl) rfl ⟨rfl,rfl,rfl,trivial⟩) (Rq 1 rfl rfl (by kernel_rfl) (Sr _) (Qf (off:=2) (by kernel_rfl) rfl) (Rq 2 rfl rfl (by kernel_rfl) (Sr _) (Ql (by kernel_rfl) rfl rfl) (Rq 3 rfl rfl (by kernel_rfl) (Sr _) (Qm rfl) (Rq 4 rfl rfl (by kernel_rfl) (Sr _) (Qi _ (e:=71) (sz:=3) (by kernel_rfl) rfl rfl rfl (by omega)) ?_)))))))
  refine Rq 5 rfl rfl (by kernel_rfl) (Sr _) (QL [.int .i64 y.page,.int .i64 y.first,.int .i64 y.last] (by kernel_rfl) rfl (by rw [show [Value.int .i64 y.page,.int .i64 y.first,.int .i64 y.last]=tchC ((pagesT a)[v]'(by omega)) by rw [hy]];exact rdl_flat _ _ _ (by intros;rfl) _ (by omega))) (Rq 6 rfl rfl (by kernel_rfl) (Sr _) (YV (eqTch y y) rfl rfl) (Rd0 (by rfl) ?_))
  simp only [dS,dZ,dN]
  refine Ld (yQ rfl (Tk (TR (Lq rfl (Qd rfl rfl (wr64 (by omega) (by omega))) (Lm rfl rfl (Ld ?_))))))
  refine ⟨_,?_,_,⟨_,v+1,by omega,rfl,(updS rfl (updS rfl (updS rfl (updS rfl (updS rfl (updS rfl rfl)))))),rfl⟩,Sa⟩
  omega
 refine zB (Ts (T.draw 8 ([blk g25 [.slice p4 a.cm.length c4,.slice p5 j c5,.slice p6 n3 c6,.int .i64 (lastE es)] 32]) (by kernel_rfl) (nB rfl) (by kernel_rfl) (Rq 0 rfl rfl (by kernel_rfl) Sa (Qm rfl) (Rq 1 rfl rfl (by kernel_rfl) Sa (Qn rfl) (Rq 2 rfl rfl (by kernel_rfl) Sa (Q0 (by kernel_rfl) rfl) (Rq 4 rfl rfl (by kernel_rfl) Sa (Qf (off:=3) (by kernel_rfl) rfl) (Rq 5 rfl rfl (by kernel_rfl) Sa (Ql (by kernel_rfl) rfl rfl) ?_)))))))
 refine Rq 6 rfl rfl (by kernel_rfl) Sa (Qd rfl rfl (wr64 (by omega) (by omega))) (yK 3 (by kernel_rfl) ?_)
 refine z6 rfl rfl (Ec (Hp.begin B g2 b 10 10 3 (k+10+i+10) (reopen 10 (10*256) es) (by omega)) Tryz.func8 rfl rfl rfl ?_)
 rintro _ _ ⟨rfl,rfl⟩
 try simp only [cA,nA]
 refine ⟨Sa,?_⟩
 refine Rq 7 rfl rfl (by kernel_rfl) Sa (yU rfl rfl) (Rd0 (by rfl) ?_)
 simp only [dS,dZ,dN]
 refine La rfl rfl (Ld (T.ret ?_))
 exact ⟨.inl rfl,_,_,res [_] rfl ⟨rvT rfl,trivial⟩,⟨rfl,rfl⟩,Sa⟩
end Go.Proofs.YtfjjgdnepfgnhaaGreatDoor
namespace Go.Proofs.YtfjjgdnepfgnhaaGreatDoor
open Go.ChangeShapes Go.WideShapes Go.ChangeAt Go.RowKit
def OpWR (W:World) (cs:List Value) (o:OpH):Prop := ∃ dv fd,cs=[.int .i64 o.kind,.int .i64 o.txn,dv,.int .i64 o.page,.int .i64 o.slot,.int .i64 o.stamp]∧Reads W dv (bytesV o.data) fd
section
variable {H : Type} {enc:TypeId×Value→H} {W:World}
theorem two_of_lenW {α:Type} {l:List α} (h:l.length=2) : ∃ a b,l=[a,b]:=by
 match l,h with
 | [a,b],_=>exact ⟨a,b,rfl⟩
theorem five_of_lenW {α:Type} {l:List α} (h:l.length=5) : ∃ a b c d e,l=[a,b,c,d,e]:=by
 match l,h with
 | [a,b,c,d,e],_=>exact ⟨a,b,c,d,e,rfl⟩
theorem six_of_lenW {α:Type} {l:List α} (h:l.length=6) : ∃ a b c d e f,l=[a,b,c,d,e,f]:=by
 match l,h with
 | [a,b,c,d,e,f],_=>exact ⟨a,b,c,d,e,f,rfl⟩
theorem read_actW (n:Nat) (cs:List Value) (y:DataW H×List MemPlace) (h:Tr enc Tryz.prog W n 38 cs=some y) : ∃ o:OpH,OpWR W cs o∧o.data.length+1≤Rows.uptoBulk y.1:=by
 obtain ⟨xs,m,rfl,rfl,hl,hx,hf⟩:=DataW.trod_struct Tryz.underlying38 h
 rw [show Tryz.prog.cellsOf 38=6 by kernel_rfl] at hl
 obtain ⟨c0,c1,c2,c3,c4,c5,rfl⟩:=six_of_lenW hl
 obtain ⟨x0,x1,x2,x3,x4,rfl⟩:=five_of_lenW hx
 have k0:Tryz.prog.cellsOf 3=1:=by kernel_rfl
 have k1:Tryz.prog.cellsOf 35=1:=by kernel_rfl
 have k2:Tryz.prog.cellsOf 2=1:=by kernel_rfl
 have k4:Tryz.prog.cellsOf 36=2:=by kernel_rfl
 have f0:=field_of hf 0 3 0 1 rfl k0
 have f1:=field_of hf 1 2 1 1 rfl k2
 have f2:=field_of hf 2 35 2 1 rfl k1
 have f3:=field_of hf 3 36 3 2 rfl k4
 have f4:=field_of hf 4 2 5 1 rfl k2
 simp only [List.drop_zero,List.drop_succ_cons,List.take_succ_cons,List.take_zero,List.getElem?_cons_zero,List.getElem?_cons_succ] at f0 f1 f2 f3 f4
 obtain ⟨i0,e0,_,_⟩:=DataW.trod_int Tryz.underlying3 f0
 obtain ⟨i1,e1,_,_⟩:=DataW.trod_int Tryz.underlying2 f1
 obtain ⟨ld,fd,hd,hfd,hdl⟩:=read_bytes _ _ _ f2
 obtain ⟨i5,e5,_,_⟩:=DataW.trod_int Tryz.underlying2 f4
 obtain ⟨ys,m',e',e4,hl4,hy,hg⟩:=DataW.trod_array Tryz.underlying36 f3
 obtain ⟨y0,y1,rfl⟩:=two_of_lenW hy
 have g0:=hg 0 (by omega)
 have g1:=hg 1 (by omega)
 simp only [k0,Nat.zero_mul,Nat.one_mul,Nat.mul_one,List.drop_zero,List.drop_succ_cons,List.take_succ_cons,List.take_zero,List.getElem?_cons_zero,List.getElem?_cons_succ] at g0 g1
 obtain ⟨j0,q0,_,_⟩:=DataW.trod_int Tryz.underlying3 g0
 obtain ⟨j1,q1,_,_⟩:=DataW.trod_int Tryz.underlying3 g1
 simp only [List.cons.injEq,and_true] at e0 e1 e5 q0 q1
 subst e0;subst e1;subst e5;subst q0;subst q1
 refine ⟨⟨i0,i1,j0,j1,ld,i5,[],0,0⟩,⟨c2,fd,rfl,hd⟩,?_⟩
 simp only [List.map_cons,List.map_nil,Rows.uptoBulk,Rows.uptoBulkAll]
 omega
end
theorem SliceAt.roLW {W:World} {v:Value} {l:List OpH} (h:SliceAt W 6 (OpWR W) v l):RoLW (baseOf W) v l:=by
 obtain ⟨sa,sc,e,h⟩:=h.ro (by omega)
 refine ⟨sa,sc,e,h.imp id ?_⟩
 rintro ⟨b,o,C,e1,e2,h⟩
 refine ⟨b,o,C,e1,e2,fun i hi=>?_⟩
 obtain ⟨cells,h1,dv,fd,rfl,hd⟩:=h i hi
 obtain ⟨da,dc,e,hx⟩:=RoS.ofReads hd
 rw [length_bytesV] at e
 subst e
 exact ⟨da,dc,h1,⟨da,dc,by rw [length_bytesV],hx⟩⟩
theorem actW_le : ∀ {l:List OpH} {x:OpH},x∈l→x.data.length≤(l.map fun o=>o.data.length+1).sum
 | a::l,x,h=>by
  simp only [List.map_cons,List.sum_cons]
  rcases List.mem_cons.1 h with rfl | h
  · omega
  · have:=actW_le h;omega
end Go.Proofs.YtfjjgdnepfgnhaaGreatDoor
namespace Go.Proofs.YtfjjgdnepfgnhaaGreatDoor.wholeLogged
open Go.ChangeShapes Go.WideShapes Go.ChangeAt Go.RowKit
theorem bulk_one {H:Type} (a:DataW H):Rows.uptoBulkAll [a]=Rows.uptoBulk a:=by simp [Rows.uptoBulkAll]
theorem contract (H:Type) (enc:TypeId×Value→H) (W:World) (base:Nat) (args:Array Value) (ds gs:List (DataW H)) (before:List MemPlace)
  (hval : ∀ (j:Nat) t v,Tryz.f3.params[j]? = some t→args[j]? = some v→Value.okWide Tryz.prog W .any base t v)
  (hW:DataW.Whole enc Tryz.prog Tryz.f3.params.toList Rows.wholeLoggedSpec.vars false W args.toList ds gs before) (hk:Rows.uptoSmall H (ds++gs)=true) :
  Calls Tryz.prog 3 args W fun e W' => ∃ v,e = .returned v∧Rows.wholeLoggedSpec.post enc Tryz.prog Tryz.f3 false true false false W args v W':=by
 have hW0:=hW
 obtain ⟨p,q,hA0,hV,rfl,hfz,hnd⟩:=hW
 have hA:DataW.TrodAll enc Tryz.prog W 0 (fun _=>true) true Tryz.f3.params.toList args.toList ds p:=hA0
 rw [Tryz.params3] at hA hval
 obtain ⟨v0,d0,rfl,rfl,h0⟩:=trodAll_one hA
 obtain ⟨rfl,rfl⟩:=trodVars_none hV
 have hbulk:=Tryz.upto_bound hk
 rw [List.append_nil] at hbulk
 clear hA0 hV hk
 obtain ⟨sa0,sl0,sc0,rfl⟩:=okWide_slice Tryz.underlying22 (hval 0 22 v0 rfl rfl)
 obtain ⟨fu0,t0⟩:=h0
 obtain ⟨sv0,l0,hc0,hs0,hB0,hL0⟩:=open_slice_R (enc:=enc) (P:=Tryz.prog) (W:=W) (R:=OpWR W) (B:=fun o=>o.data.length+1) Tryz.underlying22 (show Tryz.prog.cellsOf 38=6 by kernel_rfl) (by omega) (fun n cs y=>read_actW n cs y) t0
 simp only [Value.cells,List.cons.injEq,and_true] at hc0
 subst hc0
 dsimp only at hB0 hL0
 rw [bulk_one] at hbulk
 refine (Fn.law (Wh.logged _ _ l0 hs0.roLW (by omega) (fun x hx=>by have:=actW_le hx;omega))).mono fun e W' ⟨he,hg⟩=>?_
 subst he
 exact ⟨_,rfl,post_law Tryz.laidOut hW0 rfl rfl 4 Tryz.underlying4 (by kernel_rfl) (by rw [Tryz.params3];decide +kernel) hg.toBelow⟩
theorem reads (os:Os) {H:Type} (enc:TypeId×Value→H) : ∃ places,DataW.whole enc Tryz.prog ((laidWorld os).forCall (fun _ _=>0) ⟨#[],#[.slice none 0 0],[]⟩).memory Tryz.f3.params.toList Rows.wholeLoggedSpec.vars false (#[.slice none 0 0]:Array Value).toList 8=some ([.nil],[],places) :=
 ⟨[],by kernel_rfl⟩
theorem lifted (os:Os) (started:os.Started) (H:Type) (enc:TypeId×Value→H) (F:Stop.Interp) :
  ReturnsInHanded {} Tryz.checked os 3 .any ((Rows.OpenSpec.upto Rows.wholeLoggedSpec).preRow enc Tryz.prog Tryz.f3 Rows.wholeLoggedUptoRow.domain false Rows.wholeLoggedUptoRow.laid) (((Rows.OpenSpec.upto Rows.wholeLoggedSpec).at F).post enc Tryz.prog Tryz.f3 false true false false):=by
 obtain ⟨places,hx⟩:=reads os enc
 refine returnsInHanded_of_row (C:=Tryz.checked) (s:=Rows.OpenSpec.upto Rows.wholeLoggedSpec) Tryz.own started (by kernel_rfl) Tryz.func3
  (witness_row_at (enc:=enc) (C:=Tryz.checked) false (laidWorld os) #[.slice none 0 0] rfl (by kernel_rfl) (by kernel_rfl) (by kernel_rfl)
   (OpenSpec.preRow_of_cond 8 hx (by kernel_rfl) (fun k hk=>by cases hk;kernel_rfl) (by kernel_rfl) (laid_met os _))) ?_
 intro W base args ds gs before hval hW _ hcond _ _ _ _
 exact contract H enc W base args ds gs before hval hW (hcond _ rfl)
theorem jA : (Rows.wholeLoggedUptoRow.inPlace == Tryz.prog.inPlace 3)=true:=by kernel_rfl
theorem jB : (Rows.wholeLoggedUptoRow.unfollowed == Tryz.prog.unfollowed 3)=true:=by kernel_rfl
theorem jC : (Rows.wholeLoggedUptoRow.recurses == Tryz.prog.recurses 3)=true:=by kernel_rfl
theorem jD : (Rows.wholeLoggedUptoRow.named == Tryz.prog.varsNamed 3)=true:=by kernel_rfl
theorem jE : laidOutB Tryz.prog=true:=by kernel_rfl
theorem jF : mapsRowed Tryz.prog=true:=by kernel_rfl
theorem jG : joinedFacts Tryz.prog 3 Tryz.f3 (Rows.OpenSpec.upto Rows.wholeLoggedSpec).bare Rows.wholeLoggedUptoRow=true:=by
 unfold joinedFacts
 rw [jA,jB,jC,jD,jE,jF]
 kernel_rfl
theorem over : Rows.wholeLoggedUptoRow.holds Tryz.pinned (Rows.OpenSpec.upto Rows.wholeLoggedSpec) :=
 OpenClaim.holds_of_cond 3 Tryz.f3 rfl rfl rfl rfl rfl rfl rfl ⟨rfl,rfl,rfl,rfl,rfl⟩ rfl rfl rfl rfl rfl (by kernel_rfl) Tryz.func3 jG
  (of_decide_eq_true (by kernel_rfl)) (by unfold Func.isWrapper;first | (rw [if_pos (by decide +kernel)];kernel_rfl) | (rw [if_neg (by decide +kernel)];exact ⟨rfl,rfl⟩))
  (fun os started H enc _ F=>by rw [OpenClaim.pre_eq_preRow];exact lifted os started H enc F)
theorem plain (f:FuncId) (fn:Func) (hf:Tryz.pinned.checked.prog.funcNamed "annals/annalstop.WholeLogged" = some f) (hfn:Tryz.pinned.checked.prog.funcs[f]? = some fn) :
  false=Tryz.pinned.checked.prog.looks [] ∧ ∀ (j:Nat) t,fn.params[j]? = some t→Tryz.pinned.checked.prog.wantsStandIn t=false:=by
 obtain rfl:f=3:=Option.some.inj ((show Tryz.prog.funcNamed "annals/annalstop.WholeLogged" = some 3 by kernel_rfl).symm.trans hf) |>.symm
 obtain rfl:fn=Tryz.f3:=(Option.some.inj (Tryz.func3.symm.trans hfn)).symm
 refine ⟨by kernel_rfl,fun j t ht=>?_⟩
 rw [Tryz.params3] at ht
 have hall:([22]:List TypeId).all (fun t => !Tryz.prog.wantsStandIn t)=true:=by kernel_rfl
 have:=List.all_eq_true.1 hall t (by simpa using Array.mem_of_getElem? ht)
 exact (show Tryz.prog.wantsStandIn t=false by simpa using this)
theorem proved : Rows.WholeLoggedUptoCardSaid :=
 Claim7.holds_tied_plain_at .later [] _ _ _ _ over (fun _ h=>by cases h) (by kernel_rfl) (fun _ h=>by cases h) wholeLoggedUpto_row_tie rfl ⟨rfl,rfl⟩ (by kernel_rfl) rfl plain (by kernel_rfl)
end Go.Proofs.YtfjjgdnepfgnhaaGreatDoor.wholeLogged
