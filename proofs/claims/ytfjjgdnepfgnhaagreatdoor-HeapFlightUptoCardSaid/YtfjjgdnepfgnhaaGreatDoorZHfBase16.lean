/- The texts SpE HgB HgA HgC HgE HgRo HgF HgH HgI HdA HdB HdC HdD HdE, one behind the other: what the law leans on. Conditions: as each theorem says. -/
import Derived.Test.YtfjjgdnepfgnhaaGreatDoorZHfBase15
import Derived.Laws.StructEq
set_option linter.unusedSimpArgs false
set_option linter.unusedVariables false
set_option maxRecDepth 100000
set_option maxHeartbeats 16000000
namespace Go.Proofs.YtfjjgdnepfgnhaaGreatDoor
open Go.RowKit
section
variable {P : Program} {B:Wn} {n:Nat} {S:List Wp} {f:Fr} {d:Option Tmp} {ty:TypeId} {pos:String} {af:Array Edge} {gd:Option (Nat×Bool)}
def EqSt (P:Program) (t:TypeId) (xs ys:Array Value) (r:Bool):Prop:=(P.eqGuardType P.depth t=false) ∧ ∀ w,(Op.equalIn 10000 t (.agg xs) (.agg ys)).run P w = .ok r w
theorem YV {t t2:TypeId} {x y:Operand} {xs ys:Array Value} {r:Bool} (h:EqSt P t xs ys r) (hx:ev n f x=some (.agg xs)) (hy:ev n f y=some (.agg ys)):Qt P B n S ⟨d,.binOp .neq t x y t2,ty,pos,af,gd⟩ f (.bool (!r)):=⟨fun w _=>by
 simp [execOp,Zc hx,Zc hy,run_eqGuard_agg w _ t x y xs ys h.1,run_neq_struct,h.2 w]⟩
theorem part_int {t:TypeId} {k:IntKind} (hu:P.underlying t=some (.int k)) {cs:Array Value} {off:Nat} {v:Value} (h:cs[off]? = some v) (w:World):(part t cs off).run P w = .ok v w:=by
 simp [part,isAgg,run_underlying hu,h]
theorem part_str {t:TypeId} (hu:P.underlying t=some .string) {cs:Array Value} {off:Nat} {v:Value} (h:cs[off]? = some v) (w:World):(part t cs off).run P w = .ok v w:=by
 simp [part,isAgg,run_underlying hu,h]
theorem eqF_int {d:Nat} {g:Field} {fs:List Field} {k:IntKind} {xs ys:Array Value} {a b:Int} (w:World) (hn:(decide (g.name ≠ "_"))=true) (hu:P.underlying g.type=some (.int k)) (hx:xs[g.offset]? = some (.int k a)) (hy:ys[g.offset]? = some (.int k b)) :
  (Op.eqFields (d+1) xs ys (g::fs)).run P w=if a=b then (Op.eqFields (d+1) xs ys fs).run P w else .ok false w:=by
 rw [Op.eqFields,if_pos (of_decide_eq_true hn)]
 simp only [Sem.run_bind,part_int hu hx,part_int hu hy,Result.andThen_ok,run_equalIn_int w d _ k k a b hu,Sem.run_ite]
 by_cases e:a=b
 · subst e;simp
 · simp [e]
theorem eqF_str {d:Nat} {g:Field} {fs:List Field} {xs ys:Array Value} {a b:List UInt8} (w:World) (hn:(decide (g.name ≠ "_"))=true) (hu:P.underlying g.type=some .string) (hx:xs[g.offset]? = some (.string (Zq a))) (hy:ys[g.offset]? = some (.string (Zq b))) :
  (Op.eqFields (d+1) xs ys (g::fs)).run P w=if a=b then (Op.eqFields (d+1) xs ys fs).run P w else .ok false w:=by
 rw [Op.eqFields,if_pos (of_decide_eq_true hn)]
 have e : ∀ l:List UInt8,(Zq l).toList=l:=fun l=>ByteArray.toList_mk l
 simp only [Sem.run_bind,part_str hu hx,part_str hu hy,Result.andThen_ok,run_equalIn_string w d _ _ _ hu,Sem.run_ite,e]
 by_cases e2:a=b
 · subst e2;simp
 · simp [e2]
theorem eqF_nil {d:Nat} {xs ys:Array Value} (w:World):(Op.eqFields d xs ys []).run P w = .ok true w:=by simp [Op.eqFields]
theorem fieldsOf_eq {t:TypeId} {fs:Array Field} (h:P.underlying t=some (.struct fs)):P.fieldsOf t=fs:=by unfold Program.fieldsOf;rw [h]
end
theorem EqSt.mk' {P:Program} {t:TypeId} {fs:List Field} {xs ys:Array Value} {r:Bool} (hg:(P.eqGuardType P.depth t=false)) (hu:P.underlying t=some (.struct fs.toArray)) (hp:P.stoodInHeld t=false) (h : ∀ d w,(Op.eqFields (d+1) xs ys fs).run P w = .ok r w):EqSt P t xs ys r:=by
 refine ⟨hg,fun w=>?_⟩
 have hf:=fieldsOf_eq hu
 obtain ⟨d,hd⟩ : ∃ d:Nat,10000=d+1+1:=⟨9998,rfl⟩
 rw [hd,run_equalIn_struct w (d+1) t xs ys (by rw [hf];exact hu) hp,hf]
 exact h d w
theorem eqRid (a b c d:Int):EqSt Tryz.prog 48 #[.int .i64 a,.int .i64 b] #[.int .i64 c,.int .i64 d] (decide (a=c∧b=d)):=by
  refine EqSt.mk' (by kernel_rfl) Tryz.underlying48 (by kernel_rfl) fun d0 w=>?_
  refine Eq.trans (eqF_int w (a:=a) (b:=c) rfl Tryz.underlying3 rfl rfl) ?_
  by_cases h:a=c
  · rw [if_pos h]
    refine Eq.trans (eqF_int w (a:=b) (b:=d) rfl Tryz.underlying3 rfl rfl) ?_
    by_cases h2:b=d
    · rw [if_pos h2,eqF_nil];simp [h,h2]
    · rw [if_neg h2];simp [h2]
  · rw [if_neg h];simp [h]
open Go.RowKit
theorem Own.vm_owns {B:Wn} {w:World} {l:List Wp} {L:List VerM} (ho:Own B w (vmsA L::l)) {j:Nat} {x:VerM} (hx:L[j]? = some x):w.ownsRow 0 5 1 (.slice x.p (16+x.v.data.length) x.c) (16+x.v.data.length) (Zb x.raw):=by
 obtain ⟨h,_,hl,h1,_,_,a1,_,hA,_⟩:=ho.has
 obtain ⟨k,hk,e⟩:=Has.getL (l:=L.map vmA) (j:=j) (A:=vmA x) (by simp [hx]) hA
 have le : ∀ g o,k g=some o→w.heap[g]? = some o:=fun g o e=>hl.p _ _ (a1.p _ _ (hk.p _ _ e))
 exact ⟨e.1,e.2.imp id fun ⟨g,cap,cur,e1,e2,e3⟩=>⟨g,cap,cur,e1,Nat.zero_le _,le _ _ e2,e3⟩⟩
def VmsOk (L:List VerM):Prop := ∀ (j:Nat) (x:VerM),L[j]? = some x→x.Ok∧(∃ g,x.p=some ⟨g,0,none⟩)∧16+x.v.data.length≤x.c
theorem Own.vmsOk {B:Wn} {w:World} {l:List Wp} {L:List VerM} (ho:Own B w (vmsA L::l)) (hL : ∀ x∈L,x.Ok):VmsOk L:=fun j x hx=>by
 have h:=ho.vm_owns hx
 refine ⟨hL x (List.mem_of_getElem? hx),?_,owns_cap h⟩
 rcases h.2 with ⟨_,h2⟩ | ⟨g,cap,cur,h2,_⟩
 · omega
 · injection h2 with h2;exact ⟨g,h2⟩
theorem RdV.ver {B:Wn} {L:List VerM} (h:VmsOk L) {j:Nat} {x:VerM} (hx:L[j]? = some x):RdV B [vmsA L] (.slice (offA x.p x.c 16 1) x.v.data.length (x.c-16)) (Zb x.v.data):=by
 obtain ⟨h1,h2,h3⟩:=h j x hx
 have h0:RdV B [vmsA L] (.slice x.p (16+x.v.data.length) x.c) (Zb x.raw):=RdV.ofRow (e:=5) (fun w ho=>ho.vm_owns hx) (by simp [h1.1]) (fun _=>h2)
 have:=h0.dropB 16 (by omega) h1.1 h3
 rw [h1.2,show 16+x.v.data.length-16=x.v.data.length by omega] at this
 exact this
theorem ver_at {L:List VerM} {j:Nat} {x:VerM} (hx:L[j]? = some x) (k:Nat) (hk:k<5) {v:Value} (hv:(vmC x)[k]? = some v):(L.flatMap vmC)[0+j*5+k]? = some v:=by
 obtain ⟨hj,hc⟩:=List.getElem?_eq_some_iff.1 hx
 exact flat_cell vmC 5 L (fun _ _=>rfl) j k hj (by rw [hc];exact hv)
open Go.RowKit
theorem histNil (p r:Nat):HistOk p r []:=fun k e h=>by simp at h
theorem Hp.opened (B:Wn) (N logs count n:Nat) (i j k:Int) (hi:i=N) (hj:j=logs) (hk:k=n) (h1:1≤logs) (hc:1≤count) (hN:N=logs+count) (hN2:N≤4096) (hn1:1≤n) (hn2:n≤4096) :
  Fn Tryz.prog B 20 #[.int .i64 i,.int .i64 j,.int .i64 k] [] (fun u l => ∃ b g,u = .tuple #[pV b,pV g,.int .i64 0]∧l=[hpA g b logs count n count (newR count (logs*256))]):=by
 subst hi;subst hj;subst hk
 refine Ws 32 Tryz.func20 rfl rfl (nB rfl) (fun F=>?_)
 try simp only [cA,nA]
 refine TS (La rfl rfl (La rfl rfl (La rfl rfl (Ld (TS ?_)))))
 refine Lm rfl rfl ?_
 refine Le rfl (Ec (Dk.newF B N N rfl (by omega) (by omega)) Tryz.func6 rfl rfl rfl ?_)
 rintro _ _ ⟨b,rfl,rfl⟩
 try simp only [cA,nA]
 refine Lm rfl rfl (Lq rfl (Qx rfl rfl) (Lq rfl (Qx rfl rfl) (La rfl rfl (La rfl rfl (Ld (Ts (Ts ?_)))))))
 refine TR (Lm rfl rfl (Lq rfl (Y1 (by kernel_rfl) rfl rfl) (Ld (yQ rfl (Tk (TS ?_))))))
 refine Lm rfl rfl (Lm rfl rfl (Lm rfl rfl ?_))
 refine Le rfl (Ec (Hp.open B b ⟨List.replicate N zs,[]⟩ logs count n 0 logs n rfl rfl [] h1 hc (by simp;omega) hn1 hn2 (by simp) (histNil _ _) (scan_secs (ds:=[]) (Secs.new (by omega)) (by simp) (by simp [Zr])) (by simp [lastE]) (by simp;omega)) Tryz.func7 rfl rfl rfl ?_)
 rintro _ _ ⟨g,p1,p2,p3,c1,c2,c3,rfl,rfl⟩
 try simp only [cA,nA]
 rw [show (0:Nat)+count+([]:List En).length=count by simp,show reopen count (logs*256) []=newR count (logs*256) from rfl]
 refine Lm rfl rfl (Lq rfl (Qx rfl rfl) (Lq rfl (Qx rfl rfl) (Lq rfl (Qx rfl rfl) ?_)))
 refine Le rfl (El [.slice none 0 0,.slice none 0 0,.slice none 0 0,.int .i64 0] (by unfold Zf;kernel_rfl) ?_)
 intro g12
 refine La rfl rfl ?_
 refine L0 rfl (Es [_,_,_,_] (by kernel_rfl) rfl rfl rfl rfl (by simp) ?_)
 try simp only [splice,lC,lN,dS,cA,tS,tZ,dZ,nA,aN]
 refine La rfl rfl (Ld (TS (Lm rfl rfl (Lm rfl rfl (Lm rfl rfl (La rfl rfl ?_))))))
 refine La rfl rfl (La rfl rfl (Ld (T.ret ?_)))
 exact ⟨.inl rfl,_,_,res [_,_,_] rfl ⟨rvT rfl,rvT rfl,rvT rfl,trivial⟩,⟨b,g,rfl,rfl⟩,Sa⟩
abbrev awS1 : HR:=⟨4,1024,0,[],[1],[],1,[]⟩
abbrev awE1 : En:=⟨1,1,0,0,0,[97]⟩
abbrev awE2 : En:=⟨3,1,0,0,5,[]⟩
abbrev awE3 : En:=⟨1,2,0,1,0,[98]⟩
abbrev awS2 : HR:=⟨4,1024,21,[⟨0,0,1,0,[97]⟩],[1],[],1,[awE1]⟩
abbrev awS3 : HR:=⟨4,1024,46,[⟨0,0,1,0,[97]⟩],[],[(1,5)],1,[awE1,awE2]⟩
abbrev awS4 : HR:=⟨4,1024,46,[⟨0,0,1,0,[97]⟩],[2],[(1,5)],2,[awE1,awE2]⟩
abbrev awS5 : HR:=⟨4,1024,67,[⟨0,0,1,0,[97]⟩,⟨0,1,2,0,[98]⟩],[2],[(1,5)],2,[awE1,awE2,awE3]⟩
theorem aw1 : beginR (newR 4 (4*256))=awS1:=rfl
theorem aw2 : Wm awS1 1 [97]=(awS2,0,0,0):=by kernel_rfl
theorem aw3 : Zl awS2 1 5=(awS3,0):=by kernel_rfl
theorem aw4 : beginR awS3=awS4:=rfl
theorem aw5 : Wm awS4 2 [98]=(awS5,0,1,0):=by kernel_rfl
theorem aw6 : allR awS5=[⟨0,0,1,0,[97]⟩,⟨0,1,2,0,[98]⟩]:=by kernel_rfl
theorem RdV.one {B:Wn} {g:Nat} {t:TypeId} {z:Nat×Nat} (x:UInt8):RdV B [fblk g [.int .u8 x.toNat] t z] (.slice (some ⟨g,0,none⟩) 1 1) (Zb [x]) :=
 ⟨_,1,rfl,.inr ⟨g,0,rfl,fun w ho=>ho.range (g:=g) (C:=[.int .u8 x.toNat]) (fun j u hj=>by rw [Nat.zero_add];exact hj)⟩⟩
theorem one_map {L:List VerM} {v:Ver} (h:L.map (·.v)=[v]) : ∃ x,L=[x]∧x.v=v:=by
 match L,h with
 | [x],h=>exact ⟨x,rfl,by simpa using h⟩
theorem Hp.awake (B:Wn):Fn Tryz.prog B 19 #[] [] (fun v l=>v = .bool true∧l=[]):=by
 refine Fn.enter0 109 Tryz.func19 rfl rfl (nB rfl) (fun F=>?_)
 try simp only [cA,nA]
 refine TS (La rfl rfl (Ld (TS ?_)))
 refine Le rfl (Ec (Hp.opened B 8 4 4 2 8 4 2 rfl rfl rfl (by omega) (by omega) rfl (by omega) (by omega) (by omega)) Tryz.func20 rfl rfl rfl ?_)
 rintro _ _ ⟨b,g,rfl,rfl⟩
 try simp only [cA,nA]
 refine Lm rfl rfl (Lq rfl (Qx rfl rfl) (Lq rfl (Qx rfl rfl) (Lq rfl (Qx rfl rfl) (La rfl rfl (La rfl rfl (La rfl rfl (Ld ?_)))))))
 refine Ts (TS (Lm rfl rfl (Lq rfl (Y1 (by kernel_rfl) rfl rfl) (Lm rfl rfl (yT (t:=18) rfl rfl (Lm rfl rfl ?_))))))
 refine Lq rfl (Y1 (by kernel_rfl) rfl rfl) (Lq rfl (Qp rfl rfl) (Lm rfl rfl (yT (t:=22) rfl rfl (Lm rfl rfl (Lq rfl (yW rfl rfl) (Lq rfl (Qp rfl rfl) (Ld ?_)))))))
 refine yQ rfl (Tk (TS (Lm rfl rfl (Lq rfl (Qn rfl) (Lq rfl (Q0 (by kernel_rfl) rfl) ?_)))))
 refine Le rfl (Ec (Hp.begin B g b 4 4 2 4 (newR 4 (4*256)) (by omega)) Tryz.func8 rfl rfl rfl ?_)
 rintro _ _ ⟨rfl,rfl⟩
 try simp only [cA,nA]
 rw [aw1,show (newR 4 (4*256)).last+1=1 from rfl]
 refine La rfl rfl (Ld (TS (Lm rfl rfl (Lm rfl rfl ?_))))
 refine Le rfl (zK [_] (e:=5) (sz:=1) (by kernel_rfl) ⟨.int .u8 0,by kernel_rfl,rfl⟩ rfl rfl rfl (by omega) (by omega) ?_)
 intro g33
 refine Le rfl (YX (by kernel_rfl) rfl ?_)
 refine Le rfl (Ec (Hp.add B [fblk g33 [.int .u8 97] 5 (1,2)] g b 4 4 2 5 awS1 (by omega) 1 (some ⟨g33,0,none⟩) 1 [97] (RdV.one 97) (by simp)) Tryz.func9 rfl rfl rfl ?_)
 rintro _ _ ⟨rfl,rfl⟩
 try simp only [cA,nA]
 rw [aw2]
 refine Lm rfl rfl (Lq rfl (Qx rfl rfl) (Lq rfl (Qx rfl rfl) ?_))
 refine Le rfl (El [.int .i64 0,.int .i64 0] (by unfold Zf;kernel_rfl) ?_)
 intro g5
 refine L0 rfl (Es [_,_] (by kernel_rfl) rfl rfl rfl rfl (by simp) ?_)
 try simp only [splice,lC,lN,dS,cA,tS,tZ,dZ,nA,aN]
 refine La rfl rfl (Ld (TS (Lm rfl rfl (Lm rfl rfl ?_))))
 refine Le rfl (Ec (Hp.commit B g b 4 4 2 10 awS2 (by omega) 1 5 (by simp)) Tryz.func11 rfl rfl rfl ?_)
 rintro _ _ ⟨rfl,rfl⟩
 try simp only [cA,nA]
 rw [aw3]
 refine La rfl rfl (Ld (TS (Lm rfl rfl (Lq rfl (Qn rfl) (Lq rfl (Q0 (by kernel_rfl) rfl) ?_)))))
 refine Le rfl (Ec (Hp.begin B g b 4 4 2 10 awS3 (by omega)) Tryz.func8 rfl rfl rfl ?_)
 rintro _ _ ⟨rfl,rfl⟩
 try simp only [cA,nA]
 rw [aw4,show awS3.last+1=2 from rfl]
 refine La rfl rfl (Ld (TS (Lm rfl rfl (Lm rfl rfl ?_))))
 refine Le rfl (zK [_] (e:=5) (sz:=1) (by kernel_rfl) ⟨.int .u8 0,by kernel_rfl,rfl⟩ rfl rfl rfl (by omega) (by omega) ?_)
 intro g47
 refine Le rfl (YX (by kernel_rfl) rfl ?_)
 refine Le rfl (Ec (Hp.add B [fblk g47 [.int .u8 98] 5 (1,2)] g b 4 4 2 11 awS4 (by omega) 2 (some ⟨g47,0,none⟩) 1 [98] (RdV.one 98) (by simp)) Tryz.func9 rfl rfl rfl ?_)
 rintro _ _ ⟨rfl,rfl⟩
 try simp only [cA,nA]
 rw [aw5]
 refine Ld (Ts (TS (Lm rfl rfl (Lq rfl (yW rfl rfl) (Lm rfl rfl (yT (t:=52) rfl rfl ?_))))))
 refine Lm rfl rfl (Lq rfl (yW rfl rfl) (Lq rfl (Qp rfl rfl) (Lm rfl rfl (yT (t:=56) rfl rfl (Lq rfl (QL [_,_] (by kernel_rfl) rfl ⟨rfl,rfl,trivial⟩) (Lq rfl (z8 [(0,1),(1,1)] [.int .i64 0,.int .i64 0] [_,_] [] (by kernel_rfl) (by unfold Zf;kernel_rfl) rfl rfl) (Lq rfl (YV (eqRid 0 0 0 0) rfl rfl) ?_)))))))
 refine Lq rfl (Qp rfl rfl) (Lm rfl rfl (yT (t:=61) rfl rfl (Lm rfl rfl ?_)))
 refine Le rfl (Ec (Hp.all B g b 4 4 2 16 awS5 (by omega)) Tryz.func18 rfl rfl rfl ?_)
 rintro _ _ ⟨L,p,c,hL1,hL2,rfl,rfl⟩
 try simp only [cA,nA]
 rw [aw6] at hL2
 have hLl:L.length=2:=by simpa using congrArg List.length hL2
 rw [hLl]
 refine Lq rfl (yI (e:=139) (sz:=5) (by kernel_rfl) rfl) (Lq rfl (yW rfl rfl) (Lq rfl (Qp rfl rfl) (Ld (yQ rfl (Tk (TS ?_))))))
 refine Lm rfl rfl ?_
 refine Le rfl (Ec (Hp.crash B g b 4 4 2 20 awS5 (by omega) (.slice none 0 0) [] (-1) 0 (RoS.nil B)) Tryz.func13 rfl rfl rfl ?_)
 rintro _ _ ⟨D,k,⟨hh,hk,hc,hs,hd,ho,hp⟩,rfl,rfl⟩
 try simp only [cA,nA]
 refine Ld (TS (Lm rfl rfl ?_))
 have hk2:k=2∨k=3:=by
  have h1:k≤3:=hk
  have h2 : ¬ k≤1:=fun h=>hc 1 awE2 h rfl rfl
  omega
 have hlast:lastE (awS5.es.take k)≤2:=by rcases hk2 with rfl | rfl <;> decide
 have hlen:(awS5.es.take k).length≤3:=by rw [List.length_take];exact Nat.min_le_right ..
 have hall:allR (reopen 4 (4*256) (awS5.es.take k))=[⟨0,0,1,0,[97]⟩]:=by rcases hk2 with rfl | rfl <;> kernel_rfl
 have hcm:(anRun ((awS5.es.take k).zip (mksOf (awS5.es.take k)))).cm=[(1,5)]:=by rw [an_cm hh];rcases hk2 with rfl | rfl <;> kernel_rfl
 refine Le rfl (Ec (Hp.open B b D 4 4 2 2 4 2 rfl rfl (awS5.es.take k) (by omega) (by omega) hd (by omega) (by omega) (by rw [hp];simp) hh hs hlast (by omega)) Tryz.func7 rfl rfl rfl ?_)
 rintro _ _ ⟨g2,p1,p2,p3,c1,c2,c3,rfl,rfl⟩
 try simp only [cA,nA]
 rw [hcm]
 refine Lm rfl rfl (Lq rfl (Qx rfl rfl) (Lq rfl (Qx rfl rfl) (Lq rfl (Qx rfl rfl) ?_)))
 refine Le rfl (El [.slice none 0 0,.slice none 0 0,.slice none 0 0,.int .i64 0] (by unfold Zf;kernel_rfl) ?_)
 intro g9
 refine La rfl rfl ?_
 refine L0 rfl (Es [_,_,_,_] (by kernel_rfl) rfl rfl rfl rfl (by simp) ?_)
 try simp only [splice,lC,lN,dS,cA,tS,tZ,dZ,nA,aN]
 refine La rfl rfl (Ld (Ts (TS (Lm rfl rfl (Lq rfl (Y1 (by kernel_rfl) rfl rfl) (Lm rfl rfl ?_))))))
 refine yT (t:=77) rfl rfl (Lm rfl rfl (Lq rfl (yW rfl rfl) (Lq rfl (Qp rfl rfl) (Lm rfl rfl (yT (t:=81) rfl rfl (Lq rfl (Q0 (by kernel_rfl) rfl) (Lq rfl (Ql (by kernel_rfl) rfl rfl) ?_)))))))
 refine Lq rfl (yI (e:=133) (sz:=2) (by kernel_rfl) rfl) (Lq rfl (yW rfl rfl) (Lq rfl (Qp rfl rfl) (Ld (yQ rfl (Tk (TS ?_))))))
 refine Lm rfl rfl ?_
 refine Le rfl (Ec (Hp.all B g2 b 4 4 2 (2+4+(awS5.es.take k).length) (reopen 4 (4*256) (awS5.es.take k)) (by omega)) Tryz.func18 rfl rfl rfl ?_)
 rintro _ _ ⟨L2,p4,c4,hL3,hL4,rfl,rfl⟩
 try simp only [cA,nA]
 rw [hall] at hL4
 obtain ⟨x,rfl,hxv⟩:=one_map hL4
 refine LW.own fun w ho=>?_
 have hvo:VmsOk [x]:=(ho.map Sa:Own B w [vmsA [x]]).vmsOk hL3
 obtain ⟨g4,rfl⟩ : ∃ g,p4=some ⟨g,0,none⟩:=((ho.map Sa:Own B w [vmR p4 1 c4 [x]]).slice_at (p:=p4) (m:=1) (c:=c4)).2.1 (by omega)
 clear ho
 have hrd:=RdV.ver (B:=B) hvo (j:=0) rfl
 rw [hxv] at hrd
 rw [show [x].length=1 from rfl]
 refine La rfl rfl (Ld (TS (Lm rfl rfl (Lq rfl (yI (e:=139) (sz:=5) (by kernel_rfl) rfl) (Lq rfl (yU rfl rfl) (Lm rfl rfl ?_))))))
 refine zQ (t:=92) rfl rfl (Lm rfl rfl (Lq rfl (Qi 0 (e:=139) (sz:=5) (by kernel_rfl) rfl rfl rfl (by omega)) (Lq rfl (Qf (off:=4) (by kernel_rfl) rfl) (Lq rfl (Ql (v := .slice (offA x.p x.c 16 1) 1 (x.c-16)) (by kernel_rfl) rfl (by have:=ver_at (L:=[x]) (j:=0) rfl 4 (by omega) rfl;rw [hxv] at this;simpa using this)) (Lq rfl (Z2 [97] (by kernel_rfl) (by kernel_rfl) rfl (fun w ho=>hrd.reads w (ho.map Sa))) (Lq rfl (Z3 rfl rfl) (Lq rfl (Qp rfl rfl) ?_)))))))
 refine Lm rfl rfl (zQ (t:=100) rfl rfl (Lm rfl rfl (Lq rfl (Qi 0 (e:=139) (sz:=5) (by kernel_rfl) rfl rfl rfl (by omega)) (Lq rfl (Qf (off:=2) (by kernel_rfl) rfl) (Lq rfl (Ql (v := .int .i64 1) (by kernel_rfl) rfl (by have:=ver_at (L:=[x]) (j:=0) rfl 2 (by omega) rfl;rw [hxv] at this;simpa using this)) (Lq rfl (yU rfl rfl) (Lq rfl (Qp rfl rfl) ?_)))))))
 refine Lm rfl rfl (Lq rfl (Qp rfl rfl) (La rfl rfl (Ld (T.ret ?_))))
 exact ⟨.inl rfl,_,_,res [_] rfl ⟨rvT rfl,trivial⟩,⟨rfl,rfl⟩,Sa⟩
open Go.RowKit
section
variable (d : List UInt8)
abbrev fE1 : En:=⟨1,1,0,0,0,d⟩
abbrev fE2 : En:=⟨3,1,0,0,1,[]⟩
abbrev fE3 (t:Int):En:=⟨2,t,0,0,0,[]⟩
abbrev fU : Int:=0+((20+d.length:Nat):Int)
abbrev fS1 : HR:=⟨7,2304,0,[],[1],[],1,[]⟩
abbrev fS2 : HR:=⟨7,2304,fU d,[⟨0,0,1,0,d⟩],[1],[],1,[fE1 d]⟩
abbrev fS4 : HR:=⟨7,2304,fU d,[⟨0,0,1,0,d⟩],[1,2,3],[],3,[fE1 d]⟩
abbrev fS5 : HR:=⟨7,2304,fU d+25,[⟨0,0,1,0,d⟩],[2,3],[(1,1)],3,[fE1 d,fE2]⟩
abbrev fS6 : HR:=⟨7,2304,fU d+25+20,[⟨0,0,1,2,d⟩],[2,3],[(1,1)],3,[fE1 d,fE2,fE3 2]⟩
theorem sz3 (t s:Int):enSz ⟨3,t,0,0,s,[]⟩=25:=by rw [enSz_eq];rfl
theorem sz2 (t p s:Int):enSz ⟨2,t,p,s,0,[]⟩=20:=by rw [enSz_eq];rfl
theorem hAdd_ok {h:HR} {t:Int} {q:Nat} (ha:Zp h t=true) (hl:d.length≤184) (hr:roomyP h d.length=some q) (hu:h.used+20+d.length≤h.room):Wm h t d=(Zg h (addE h t d q),(q:Int),((Zh h.vs q).length:Int),0):=by
 unfold Wm
 rw [if_pos ha,if_neg (by omega),hr]
 dsimp only
 rw [if_neg (by omega)]
theorem hAdd_long {h:HR} {t:Int} (ha:Zp h t=true) (hl:184<d.length):Wm h t d=(h,0,0,2):=by
 unfold Wm
 rw [if_pos ha,if_pos hl]
theorem hCm_ok {h:HR} {t s:Int} (ha:Zp h t=true) (hb:badStamp h s=false) (hu:h.used+25≤h.room):Zl h t s=(Zg (Zo h t) (cmE t s),0):=by
 unfold Zl
 rw [if_pos ha,if_neg (by rw [hb];simp),if_neg (by omega)]
theorem hEnd_ok {h:HR} {t p s:Int} {v:Ver} (ha:Zp h t=true) (hv:(We h.vs p s).bind (h.vs[·]?)=some v) (h1 : ¬ ((v.beg≠t∧Wa h v.beg=false)∨v.fin=t∨Wa h v.fin=true)) (h2:Zp h v.fin=false) (hu:h.used+20≤h.room):endR h t p s=(Zg h (endE t p s),0):=by
 unfold endR
 rw [if_pos ha,hv]
 dsimp only
 rw [if_neg h1,if_neg (by rw [h2];simp),if_neg (by omega)]
theorem hEnd_busy {h:HR} {t p s:Int} {v:Ver} (ha:Zp h t=true) (hv:(We h.vs p s).bind (h.vs[·]?)=some v) (h1 : ¬ ((v.beg≠t∧Wa h v.beg=false)∨v.fin=t∨Wa h v.fin=true)) (h2:Zp h v.fin=true):endR h t p s=(h,71):=by
 unfold endR
 rw [if_pos ha,hv]
 dsimp only
 rw [if_neg h1,if_pos h2]
theorem hEnd_no {h:HR} {t p s:Int} {v:Ver} (ha:Zp h t=true) (hv:(We h.vs p s).bind (h.vs[·]?)=some v) (h1:((v.beg≠t∧Wa h v.beg=false)∨v.fin=t∨Wa h v.fin=true)):endR h t p s=(h,4):=by
 unfold endR
 rw [if_pos ha,hv]
 dsimp only
 rw [if_pos h1]
theorem f1 : beginR (newR 7 (9*256))=fS1:=rfl
theorem f2 (h:d.length≤184):Wm fS1 1 d=(fS2 d,0,0,0):=by
 have h1:roomyP fS1 d.length=some 0:=by
  unfold roomyP
  rw [show List.range fS1.pages=[0,1,2,3,4,5,6] from rfl]
  rw [List.find?_cons_of_pos (by have:Wi [] 0=13:=rfl;simp only [decide_eq_true_eq];omega)]
 rw [hAdd_ok d rfl h h1 (by show (0:Int)+20+d.length≤(2304:Nat);omega)]
 simp only [Zg,enSz_eq,addE]
 rfl
theorem f3 : beginR (beginR (fS2 d))=fS4 d:=rfl
theorem f4 : endR (fS4 d) 2 0 0=(fS4 d,4):=hEnd_no rfl (v:=⟨0,0,1,0,d⟩) rfl (.inl ⟨(by show (1:Int)≠2;decide),rfl⟩)
theorem f5 (h:d.length≤184):Zl (fS4 d) 1 1=(fS5 d,0):=by
 rw [hCm_ok rfl rfl (by show fU d+25≤(2304:Nat);unfold fU;omega)]
 simp only [Zg,sz3]
 rfl
theorem f6 (h:d.length≤184):endR (fS5 d) 2 0 0=(fS6 d,0):=by
 rw [hEnd_ok rfl (v:=⟨0,0,1,0,d⟩) rfl (fun h=>by simp [Wa] at h) rfl (by show fU d+25+20≤(2304:Nat);unfold fU;omega)]
 simp only [Zg,sz2]
 rfl
theorem f7 : endR (fS6 d) 3 0 0=(fS6 d,71):=hEnd_busy rfl (v:=⟨0,0,1,2,d⟩) rfl (fun h=>by simp [Wa] at h) rfl
end
open Go.RowKit
theorem add_cases (h:HR) (t:Int) (d:List UInt8):((Wm h t d).2.2.2≠0∧(Wm h t d).1=h) ∨ ∃ q,Zp h t=true∧d.length≤184∧roomyP h d.length=some q∧h.used+20+d.length≤h.room∧Wm h t d=(Zg h (addE h t d q),(q:Int),((Zh h.vs q).length:Int),0):=by
  by_cases ha:Zp h t=true
  · by_cases hl:184<d.length
    · exact .inl (by rw [hAdd_long d ha hl];simp)
    · cases hr:roomyP h d.length with
      | none=>exact .inl (by unfold Wm;rw [if_pos ha,if_neg hl,hr];simp)
      | some q =>
        by_cases hu:(h.room:Int)<h.used+20+d.length
        · exact .inl (by unfold Wm;rw [if_pos ha,if_neg hl,hr];dsimp only;rw [if_pos hu];simp)
        · exact .inr ⟨q,ha,by omega,rfl,by omega,hAdd_ok d ha (by omega) hr (by omega)⟩
  · exact .inl (by unfold Wm;rw [if_neg ha];simp)
theorem end_cases (h:HR) (t p s:Int):((endR h t p s).2≠0∧(endR h t p s).1=h) ∨ ∃ (i:Nat) (v:Ver),Zp h t=true∧We h.vs p s=some i∧h.vs[i]? = some v∧Wa h v.fin=false∧h.used+20≤h.room∧endR h t p s=(Zg h (endE t p s),0):=by
  by_cases ha:Zp h t=true
  · cases hv:(We h.vs p s).bind (h.vs[·]?) with
    | none=>exact .inl (by unfold endR;rw [if_pos ha,hv];simp)
    | some v =>
      by_cases h1:((v.beg≠t∧Wa h v.beg=false)∨v.fin=t∨Wa h v.fin=true)
      · exact .inl (by rw [hEnd_no ha hv h1];simp)
      · by_cases h2:Zp h v.fin=true
        · exact .inl (by rw [hEnd_busy ha hv h1 h2];simp)
        · by_cases hu:(h.room:Int)<h.used+20
          · exact .inl (by unfold endR;rw [if_pos ha,hv];dsimp only;rw [if_neg h1,if_neg h2,if_pos hu];simp)
          · obtain ⟨i,hi,hiv⟩:=Option.bind_eq_some_iff.1 hv
            refine .inr ⟨i,v,ha,hi,hiv,?_,by omega,hEnd_ok ha hv h1 (by simpa using h2) (by omega)⟩
            have : ¬ Wa h v.fin=true:=fun h=>h1 (.inr (.inr h))
            simpa using this
  · exact .inl (by unfold endR;rw [if_neg ha];simp)
theorem write_add_vs {h:HR} {t:Int} {d:List UInt8} {q:Nat}:(Zg h (addE h t d q)).vs=h.vs++[⟨q,(Zh h.vs q).length,t,0,d⟩]:=by simp [Zg,addE]
theorem write_end_vs {h:HR} {t p s:Int} {i:Nat} (hi:We h.vs p s=some i):(Zg h (endE t p s)).vs=h.vs.modify i (finV t):=by simp [Zg,endE,hi]
theorem write_add_used {h:HR} {t:Int} {d:List UInt8} {q:Nat}:(Zg h (addE h t d q)).used=h.used+(20+d.length):=by simp [Zg,enSz_eq]
def AtL (h:HR) (ok:Int→Prop) (L:List (Int×Int)):Prop:=L.Nodup ∧ ∀ p∈L,∃ (i:Nat) (v:Ver),We h.vs p.1 p.2=some i∧h.vs[i]? = some v∧v.beg=1∧ok v.fin
theorem find_app {vs l:List Ver} {p s:Int} {i:Nat} (h:We vs p s=some i):We (vs++l) p s=some i:=by
 unfold We at h ⊢
 rw [List.findIdx?_append,h];rfl
theorem AtL.app {h g:HR} {ok:Int→Prop} {L:List (Int×Int)} (a:AtL h ok L) {l:List Ver} (e:g.vs=h.vs++l):AtL g ok L:=by
 refine ⟨a.1,fun p hp=>?_⟩
 obtain ⟨i,v,h1,h2,h3⟩:=a.2 p hp
 exact ⟨i,v,by rw [e];exact find_app h1,by rw [e,List.getElem?_append_left (List.getElem?_eq_some_iff.1 h2).1];exact h2,h3⟩
theorem AtL.same {h g:HR} {ok:Int→Prop} {L:List (Int×Int)} (a:AtL h ok L) (e:g.vs=h.vs):AtL g ok L:=a.app (l:=[]) (by rw [e,List.append_nil])
theorem AtL.snoc {h:HR} {ok:Int→Prop} {L:List (Int×Int)} (r:RInv h) (a:AtL h ok L) (h0:ok 0) {t:Int} {d:List UInt8} {q:Nat} (r2:RInv (Zg h (addE h t d q))) (ht:t=1):AtL (Zg h (addE h t d q)) ok (L++[((q:Int),((Zh h.vs q).length:Int))]):=by
  subst ht
  have hvs:=write_add_vs (h:=h) (t:=1) (d:=d) (q:=q)
  have ha:=a.app hvs
  have hat:(Zg h (addE h 1 d q)).vs[h.vs.length]? = some ⟨q,(Zh h.vs q).length,1,0,d⟩:=by rw [hvs];simp
  have hf:=findV_of r2.ok.slots hat
  dsimp only at hf
  refine ⟨?_,fun p hp=>?_⟩
  · rw [List.nodup_append]
    refine ⟨a.1,by simp,fun p hp z hz e=>?_⟩
    simp at hz
    subst hz;subst e
    obtain ⟨i,v,h1,h2,_⟩:=a.2 _ hp
    have:=find_app (l:=[⟨q,(Zh h.vs q).length,1,0,d⟩]) h1
    rw [←hvs] at this
    dsimp only at this
    rw [this] at hf
    injection hf with hf
    have:=(List.getElem?_eq_some_iff.1 h2).1
    omega
  · rcases List.mem_append.1 hp with hp | hp
    · exact ha.2 p hp
    · simp at hp
      subst hp
      exact ⟨_,_,hf,hat,rfl,h0⟩
theorem find_mod {vs:List Ver} {i:Nat} {t p s:Int}:We (vs.modify i (finV t)) p s=We vs p s:=by
 unfold We
 induction vs generalizing i with
 | nil=>simp
 | cons v vs ih =>
  cases i with
  | zero=>simp only [List.modify_zero_cons,List.findIdx?_cons];rfl
  | succ i=>simp only [List.modify_succ_cons,List.findIdx?_cons,ih]
theorem AtL.ended {h:HR} {ok:Int→Prop} {x:Int×Int} {L:List (Int×Int)} (a:AtL h ok (x::L)) {t:Int}:AtL (Zg h (endE t x.1 x.2)) ok L:=by
 obtain ⟨i,v,h1,h2,h3,h4⟩:=a.2 x (by simp)
 have hvs:=write_end_vs (t:=t) h1
 refine ⟨(List.nodup_cons.1 a.1).2,fun p hp=>?_⟩
 obtain ⟨j,u,k1,k2,k3⟩:=a.2 p (List.mem_cons_of_mem _ hp)
 refine ⟨j,u,by rw [hvs,find_mod];exact k1,?_,k3⟩
 rw [hvs,List.getElem?_modify]
 have hne:i≠j:=fun e=>by
  subst e
  obtain ⟨v1,e1,e2,e3⟩:=findV_some h1
  obtain ⟨v2,f1,f2,f3⟩:=findV_some k1
  rw [e1] at f1;cases f1
  have:p=x:=by obtain ⟨_,_⟩:=p;obtain ⟨_,_⟩:=x;simp_all
  exact (List.nodup_cons.1 a.1).1 (this ▸ hp)
 rw [k2]
 simp [hne]
open Go.RowKit
structure OpH where
 kind:Int
 txn:Int
 page:Int
 slot:Int
 data:List UInt8
 stamp:Int
 keep:List Bool
 t0:Int
 t1:Int
def OpH.Ok (o:OpH):Prop:=(-(2^63)≤o.page∧o.page<2^63)∧(-(2^63)≤o.slot∧o.slot<2^63)
def RoLH (B:Wn) (v:Value) (l:List OpH):Prop := ∃ a cap,v = .slice a l.length cap∧(l=[] ∨ ∃ b o C,a=some ⟨b,o,none⟩∧ROc B b C ∧
 ∀ i (hi:i<l.length),∃ da dc ka kc,rdl C (o+i*9) [.int .i64 l[i].kind,.int .i64 l[i].txn,.int .i64 l[i].page,.int .i64 l[i].slot,.slice da l[i].data.length dc,.int .i64 l[i].stamp,.slice ka l[i].keep.length kc,.int .i64 l[i].t0,.int .i64 l[i].t1]∧RoS B (.slice da l[i].data.length dc) (Zb l[i].data)∧RoS B (.slice ka l[i].keep.length kc) (boolsV l[i].keep))
open Go.RowKit
structure Adding (h:HR) (c rm:Nat) (L:List (Int×Int)):Prop where
 r:RInv h
 pages:h.pages=c
 room:h.room=rm
 act:h.act=[1]
 cm:h.cm=[]
 last:h.last=1
 at_:AtL h (fun x=>x=0) L
theorem Adding.add {h:HR} {c rm:Nat} {L:List (Int×Int)} (a:Adding h c rm L) (hc:c≤4096) (d:List UInt8):Adding (Wm h 1 d).1 c rm L∧((Wm h 1 d).2.2.2=0→Adding (Wm h 1 d).1 c rm (L++[((Wm h 1 d).2.1,(Wm h 1 d).2.2.1)])):=by
  have hr:=a.r.add (by rw [a.pages];exact hc) (by rw [a.last];decide) 1 d
  rcases add_cases h 1 d with ⟨h1,h2⟩ | ⟨q,h1,h2,h3,h4,h5⟩
  · exact ⟨by rw [h2];exact a,fun e=>absurd e h1⟩
  · rw [h5] at hr ⊢
    exact ⟨⟨hr,a.pages,a.room,a.act,by show (if (1:Int)=3 then h.cm++[((1:Int),(0:Int))] else h.cm)=[];rw [if_neg (by decide)];exact a.cm,a.last,a.at_.app write_add_vs⟩,fun _=>⟨hr,a.pages,a.room,a.act,by show (if (1:Int)=3 then h.cm++[((1:Int),(0:Int))] else h.cm)=[];rw [if_neg (by decide)];exact a.cm,a.last,a.at_.snoc a.r rfl hr rfl⟩⟩
structure Ending (h:HR) (c rm:Nat) (t:Int) (ok:Int→Prop) (L:List (Int×Int)):Prop where
 r:RInv h
 pages:h.pages=c
 room:h.room=rm
 act:h.act=[t]
 cm:h.cm=[(1,1)]
 last:h.last=t
 at_:AtL h ok L
theorem Ending.end_ {h:HR} {c rm:Nat} {t:Int} {ok:Int→Prop} {x:Int×Int} {L:List (Int×Int)} (a:Ending h c rm t ok (x::L)) (hc:c≤4096) (ht:1<t∧t<2^62) (ho : ∀ z,ok z→z≠t∧z≠1) (hu:h.used+20≤rm) : ∃ i,We h.vs x.1 x.2=some i∧endR h t x.1 x.2=(Zg h (endE t x.1 x.2),0)∧Ending (Zg h (endE t x.1 x.2)) c rm t ok L:=by
 obtain ⟨i,v,h1,h2,h3,h4⟩:=a.at_.2 x (by simp)
 obtain ⟨o1,o2⟩:=ho _ h4
 have hac:Zp h t=true:=by rw [isAct_iff,a.act];simp
 have hcm : ∀ z,Wa h z=true↔z=1:=fun z=>by unfold Wa;rw [a.cm];simp
 have he:=hEnd_ok (h:=h) (t:=t) (p:=x.1) (s:=x.2) hac (v:=v) (by rw [h1];exact h2) (by
   rw [h3]
   rintro (⟨_,e⟩ | e | e)
   · have:=(hcm 1).2 rfl;rw [this] at e;cases e
   · exact o1 e
   · exact o2 ((hcm _).1 e)) (by
   unfold Zp;rw [a.act];simpa using o1) (by rw [a.room];exact hu)
 have hr:=a.r.end_ (by rw [a.pages];exact hc) (by rw [a.last];exact ht.2) t x.1 x.2
 rw [he] at hr
 refine ⟨i,h1,he,hr,a.pages,a.room,a.act,?_,a.last,a.at_.ended⟩
 show (if (2:Int)=3 then h.cm++[(t,(0:Int))] else h.cm)=_
 rw [if_neg (by decide)];exact a.cm
theorem Adding.commit {h:HR} {c rm:Nat} {L:List (Int×Int)} (a:Adding h c rm L) (ok:Int→Prop) (h0:ok 0):(Zl h 1 1=(h,3)∧(rm:Int)<h.used+25)∨((Zl h 1 1).2=0∧h.used+25≤rm∧(Zl h 1 1).1.used=h.used+25∧(Zl h 1 1).1.vs=h.vs∧(Zl h 1 1).1.act=[]∧(Zl h 1 1).1.cm=[(1,1)]∧Ending (beginR (Zl h 1 1).1) c rm 2 ok L):=by
  have hac:Zp h 1=true:=by rw [isAct_iff,a.act];simp
  have hb:badStamp h 1=false:=by unfold badStamp;rw [a.cm];rfl
  by_cases hu:(rm:Int)<h.used+25
  · refine .inl ⟨?_,hu⟩
    unfold Zl
    rw [if_pos hac,if_neg (by rw [hb];simp),if_pos (by rw [a.room];exact hu)]
  · right
    have he:=hCm_ok (h:=h) (t:=1) (s:=1) hac hb (by rw [a.room];omega)
    have hr:=a.r.commit (by rw [a.last];decide) 1 1
    rw [he] at hr ⊢
    have hc:(Zg (Zo h 1) (cmE 1 1)).cm=[(1,1)]:=by show (if (3:Int)=3 then h.cm++[((1:Int),(1:Int))] else h.cm)=_;rw [if_pos rfl,a.cm];rfl
    have hA:(Zg (Zo h 1) (cmE 1 1)).act=[]:=by show h.act.filter _=[];rw [a.act];rfl
    refine ⟨rfl,by omega,?_,rfl,hA,hc,⟨hr.begin,a.pages,a.room,?_,hc,?_,?_⟩⟩
    · show h.used+(enSz (cmE 1 1):Int)=h.used+25
      rw [sz3];rfl
    · show (Zg (Zo h 1) (cmE 1 1)).act++[h.last+1]=[2]
      rw [hA,a.last];rfl
    · show h.last+1=2;rw [a.last];rfl
    · refine ⟨a.at_.1,fun p hp=>?_⟩
      obtain ⟨i,v,h1,h2,h3,h4⟩:=a.at_.2 p hp
      exact ⟨i,v,h1,h2,h3,by rw [h4];exact h0⟩
open Go.RowKit
theorem sure_write {h:HR} {e:En} (s:OkStep h e) (hk:e.kind≠3):sureR (Zg h e)=sureR h:=by
 have s2:OkStep {h with act:=[]} e:=s.congr rfl rfl rfl rfl rfl
 exact all_write s2 rfl hk
theorem sure_add {h:HR} (r:RInv h) (hp:h.pages≤4096) (hl:h.last<2^62) (t:Int) (d:List UInt8):sureR (Wm h t d).1=sureR h:=by
  rcases add_cases h t d with ⟨_,e⟩ | ⟨q,h1,h2,h3,h4,h5⟩
  · rw [e]
  · rw [h5]
    obtain ⟨a,b,_⟩:=roomy_some h3
    exact sure_write (r.addStep hp hl h1 h2 a b h4) (show (1:Int)≠3 by decide)
theorem sure_end {h:HR} (r:RInv h) (hp:h.pages≤4096) (hl:h.last<2^62) (t p s:Int):sureR (endR h t p s).1=sureR h:=by
  rcases end_cases h t p s with ⟨_,e⟩ | ⟨i,v,h1,h2,h3,h4,h5,h6⟩
  · rw [e]
  · rw [h6]
    exact sure_write (r.endStep hp hl h1 h2 h3 h4 h5) (show (2:Int)≠3 by decide)
structure Losing (h:HR) (c rm:Nat) (A:List Ver) (act:List Int):Prop where
 r:RInv h
 pages:h.pages=c
 room:h.room=rm
 act:h.act=act
 cm:h.cm=[(1,1)]
 last:h.last=2
 sure:sureR h=A
 vs : ∀ v∈h.vs,(v.beg=1∧(v.fin=0∨v.fin=2))∨v.beg=2
theorem Losing.add {h:HR} {c rm:Nat} {A:List Ver} (a:Losing h c rm A [2]) (hc:c≤4096) (d:List UInt8):Losing (Wm h 2 d).1 c rm A [2]:=by
  have hp:h.pages≤4096:=by rw [a.pages];exact hc
  have hl:h.last<2^62:=by rw [a.last];decide
  have hr:=a.r.add hp hl 2 d
  have hs:=sure_add a.r hp hl 2 d
  rcases add_cases h 2 d with ⟨_,e⟩ | ⟨q,h1,h2,h3,h4,h5⟩
  · rw [e];exact a
  · rw [h5] at hr hs ⊢
    refine ⟨hr,a.pages,a.room,a.act,?_,a.last,hs.trans a.sure,fun v hv=>?_⟩
    · show (if (1:Int)=3 then h.cm++[((2:Int),(0:Int))] else h.cm)=_;rw [if_neg (by decide)];exact a.cm
    · rw [write_add_vs] at hv
      rcases List.mem_append.1 hv with hv | hv
      · exact a.vs v hv
      · simp at hv;subst hv;exact .inr rfl
theorem Losing.end_ {h:HR} {c rm:Nat} {A:List Ver} (a:Losing h c rm A [2]) (hc:c≤4096) (p s:Int):Losing (endR h 2 p s).1 c rm A [2]:=by
  have hp:h.pages≤4096:=by rw [a.pages];exact hc
  have hl:h.last<2^62:=by rw [a.last];decide
  have hr:=a.r.end_ hp hl 2 p s
  have hs:=sure_end a.r hp hl 2 p s
  rcases end_cases h 2 p s with ⟨_,e⟩ | ⟨i,v,h1,h2,h3,h4,h5,h6⟩
  · rw [e];exact a
  · rw [h6] at hr hs ⊢
    refine ⟨hr,a.pages,a.room,a.act,?_,a.last,hs.trans a.sure,fun u hu=>?_⟩
    · show (if (2:Int)=3 then h.cm++[((2:Int),(0:Int))] else h.cm)=_;rw [if_neg (by decide)];exact a.cm
    · rw [write_end_vs h2] at hu
      rcases mem_modify hu with hu | ⟨w,hw,rfl⟩
      · exact a.vs u hu
      · rcases a.vs w hw with ⟨e,_⟩ | e
        · exact .inl ⟨e,.inr rfl⟩
        · exact .inr e
theorem Losing.all {h:HR} {c rm:Nat} {A:List Ver} {act:List Int} (a:Losing h c rm A act) (ha:act=[]):allR h=A:=by
 rw [←a.sure]
 unfold sureR
 rw [show ({h with act:=[]}:HR)=h by have:=a.act;rw [ha] at this;cases h;simp_all]
theorem all_mem {h:HR} (r:RInv h) {x:Ver} (hx:x∈allR h) : ∃ (i:Nat) (v:Ver),We h.vs x.page x.slot=some i∧h.vs[i]? = some v∧visV h v=some x∧v.page=x.page∧v.slot=x.slot∧v.beg=x.beg:=by
 unfold allR at hx
 obtain ⟨q,hq,hx⟩:=List.mem_flatMap.1 hx
 obtain ⟨v,hv,hvx⟩:=List.mem_filterMap.1 hx
 have hv1:=mem_of_filt hv
 obtain ⟨i,hi⟩:=List.getElem?_of_mem hv1
 have hxe:v.page=x.page∧v.slot=x.slot∧v.beg=x.beg:=by
  unfold visV at hvx
  split at hvx
  · cases hvx
  · split at hvx <;> (cases hvx;exact ⟨rfl,rfl,rfl⟩)
 obtain ⟨e1,e2,e3⟩:=hxe
 exact ⟨i,v,by rw [←e1,←e2];exact findV_of r.ok.slots hi,hi,hvx,e1,e2,e3⟩
theorem all_nodup {h:HR} (r:RInv h):((allR h).map fun x=>((x.page:Int),(x.slot:Int))).Nodup:=by
  have key : ∀ q,List.Sublist (((Zh h.vs q).filterMap (visV h)).map fun x=>((x.page:Int),(x.slot:Int))) ((Zh h.vs q).map fun x=>((x.page:Int),(x.slot:Int))):=by
    intro q
    induction Zh h.vs q with
    | nil=>simp
    | cons v l ih =>
      rw [List.filterMap_cons]
      cases hv:visV h v with
      | none=>exact ih.trans (List.sublist_cons_self _ _)
      | some x =>
        have:x.page=v.page∧x.slot=v.slot:=by
          unfold visV at hv
          split at hv
          · cases hv
          · split at hv <;> (cases hv;exact ⟨rfl,rfl⟩)
        simp only [List.map_cons,this.1,this.2]
        exact ih.cons_cons _
  have hpg : ∀ q,((Zh h.vs q).map fun x=>((x.page:Int),(x.slot:Int)))=(List.range (Zh h.vs q).length).map fun (s:Nat)=>((q:Int),(s:Int)):=by
    intro q
    apply List.ext_getElem?
    intro j
    simp only [List.getElem?_map]
    by_cases hj:j<(Zh h.vs q).length
    · have h1:=slots_page r.ok.slots q j _ (List.getElem?_eq_getElem hj)
      rw [List.getElem?_eq_getElem hj,List.getElem?_range hj]
      simp [h1.1,h1.2]
    · rw [List.getElem?_eq_none (by omega),List.getElem?_eq_none (by simp;omega)]
      rfl
  unfold allR
  rw [List.map_flatMap]
  unfold List.flatMap
  rw [List.Nodup,List.pairwise_flatten]
  refine ⟨fun l hl=>?_,?_⟩
  · obtain ⟨q,_,rfl⟩:=List.mem_map.1 hl
    refine List.Nodup.sublist (key q) ?_
    rw [hpg]
    rw [List.Nodup,List.pairwise_map]
    exact List.Pairwise.imp (fun {a b} hab e=>hab (by injection e with _ e;omega)) List.nodup_range
  · rw [List.pairwise_map]
    refine List.Pairwise.imp ?_ (List.nodup_range (n:=h.pages))
    intro a b hab x hx y hy e
    subst e
    have h1:=(key a).subset hx
    have h2:=(key b).subset hy
    rw [hpg] at h1 h2
    obtain ⟨_,_,e1⟩:=List.mem_map.1 h1
    obtain ⟨_,_,e2⟩:=List.mem_map.1 h2
    rw [←e1] at e2
    simp at e2
    exact hab (by omega)
open Go.RowKit
abbrev plc (x:Ver):Int×Int:=((x.page:Int),(x.slot:Int))
def AllOne (h:HR):Prop := ∀ v∈h.vs,v.beg=1∧v.fin=0
theorem AllOne.add {h:HR} (a:AllOne h) (d:List UInt8):AllOne (Wm h 1 d).1:=by
  rcases add_cases h 1 d with ⟨_,e⟩ | ⟨q,_,_,_,_,h5⟩
  · rw [e];exact a
  · rw [h5]
    intro v hv
    rw [write_add_vs] at hv
    rcases List.mem_append.1 hv with hv | hv
    · exact a v hv
    · simp at hv;subst hv;exact ⟨rfl,rfl⟩
theorem all_len {h:HR} (r:RepOk h):(allR h).length≤14*h.pages:=by
 unfold allR
 have key : ∀ l:List Nat,(l.flatMap fun q=>(Zh h.vs q).filterMap (visV h)).length≤14*l.length:=by
  intro l
  induction l with
  | nil=>simp
  | cons q l ih =>
   rw [List.flatMap_cons,List.length_append,List.length_cons]
   have h1:=pages_len r q
   have h2:=List.length_filterMap_le (visV h) (Zh h.vs q)
   omega
 have:=key (List.range h.pages)
 rwa [List.length_range] at this
theorem Losing.told {h:HR} {c rm:Nat} {A:List Ver} (a:Losing h c rm A []):(∀ x∈A,x.fin=0)∧Ending (beginR h) c rm 3 (fun z=>z=0∨z=2) (A.map plc):=by
  have hA:=a.all rfl
  have hac : ∀ z,Zp h z=false:=fun z=>by unfold Zp;rw [a.act];rfl
  have hcm : ∀ z,Wa h z=decide (z=1):=fun z=>by unfold Wa;rw [a.cm];rw [Bool.eq_iff_iff];simp
  have key : ∀ (v x:Ver),v∈h.vs→visV h v=some x→v.beg=1∧(v.fin=0∨v.fin=2)∧x.fin=0:=by
    intro v x hv hx
    unfold visV at hx
    simp only [hac,hcm,true_and] at hx
    rcases a.vs v hv with ⟨e1,e2⟩ | e
    · rw [e1] at hx
      rw [if_neg (by simp)] at hx
      rw [if_pos (by rcases e2 with e | e <;> simp [e])] at hx
      cases hx
      exact ⟨e1,e2,rfl⟩
    · rw [e] at hx
      rw [if_pos (by simp)] at hx
      cases hx
  have hmem : ∀ x∈A,∃ (i:Nat) (v:Ver),We h.vs x.page x.slot=some i∧h.vs[i]? = some v∧v.beg=1∧(v.fin=0∨v.fin=2)∧x.fin=0:=by
    intro x hx
    rw [←hA] at hx
    obtain ⟨i,v,h1,h2,h3,_⟩:=all_mem a.r hx
    exact ⟨i,v,h1,h2,key v x (List.mem_of_getElem? h2) h3⟩
  refine ⟨fun x hx=>by obtain ⟨_,_,_,_,_,_,e⟩:=hmem x hx;exact e,a.r.begin,a.pages,a.room,?_,a.cm,?_,?_,fun p hp=>?_⟩
  · show h.act++[h.last+1]=[3];rw [a.act,a.last];rfl
  · show h.last+1=3;rw [a.last];rfl
  · rw [←hA];exact all_nodup a.r
  · obtain ⟨x,hx,rfl⟩:=List.mem_map.1 hp
    obtain ⟨i,v,h1,h2,h3,h4,_⟩:=hmem x hx
    exact ⟨i,v,h1,h2,h3,h4⟩
open Go.RowKit
structure HrQ where
 pv:Option Addr
 cv:Nat
 pa:Option Addr
 ca:Nat
 pc:Option Addr
 cc:Nat
 pe:Option Addr
 ce:Nat
abbrev vrC (v:Ver):List Value:=[.int .i64 v.page,.int .i64 v.slot,.int .i64 v.beg,.int .i64 v.fin,strW v.data]
abbrev verR (p:Option Addr) (n c:Nat) (l:List Ver):Wp:=row (.slice p n c) 191 5 n (l.flatMap vrC)
abbrev acR (p:Option Addr) (n c:Nat) (l:List Int):Wp:=row (.slice p n c) 2 1 n (l.map zV)
abbrev c8R (p:Option Addr) (n c:Nat) (l:List (Int×Int)):Wp:=row (.slice p n c) 196 2 n (l.flatMap stC)
abbrev e8C (e:En):List Value:=[.int .i64 e.kind,.int .i64 e.txn,.int .i64 e.page,.int .i64 e.slot,.int .i64 e.stamp,strW e.data]
abbrev e8R (p:Option Addr) (n c:Nat) (l:List En):Wp:=row (.slice p n c) 189 6 n (l.flatMap e8C)
abbrev hrC (q:HrQ) (h:HR):List Value:=[.int .i64 h.pages,.int .i64 h.room,.int .i64 h.used,.slice q.pv h.vs.length q.cv,.slice q.pa h.act.length q.ca,.slice q.pc h.cm.length q.cc,.int .i64 h.last,.slice q.pe h.es.length q.ce]
abbrev hrV (q:HrQ) (h:HR):Value := .agg #[.int .i64 h.pages,.int .i64 h.room,.int .i64 h.used,.slice q.pv h.vs.length q.cv,.slice q.pa h.act.length q.ca,.slice q.pc h.cm.length q.cc,.int .i64 h.last,.slice q.pe h.es.length q.ce]
abbrev hrL (q:HrQ) (h:HR):List Wp:=[verR q.pv h.vs.length q.cv h.vs,acR q.pa h.act.length q.ca h.act,c8R q.pc h.cm.length q.cc h.cm,e8R q.pe h.es.length q.ce h.es]
theorem Hr.elemV : ElemOk Tryz.prog 77 191 5 48 := .mk' (.agg #[.int .i64 0,.int .i64 0,.int .i64 0,.int .i64 0,.string ⟨#[]⟩]) Tryz.underlying77 (by kernel_rfl) rfl (by omega)
theorem Hr.elemA : ElemOk Tryz.prog 29 2 1 8 := .mk' (.int .i64 0) Tryz.underlying29 (by kernel_rfl) rfl (by omega)
theorem Hr.elemC : ElemOk Tryz.prog 78 196 2 16 := .mk' (.agg #[.int .i64 0,.int .i64 0]) Tryz.underlying78 (by kernel_rfl) rfl (by omega)
theorem Hr.elemE : ElemOk Tryz.prog 79 189 6 56 := .mk' (.agg #[.int .i64 0,.int .i64 0,.int .i64 0,.int .i64 0,.int .i64 0,.string ⟨#[]⟩]) Tryz.underlying79 (by kernel_rfl) rfl (by omega)
theorem one_vrC {l:List Ver} : ∀ v∈l.flatMap vrC,v.oneCell'=true:=by
 intro v hv
 obtain ⟨x,_,h⟩:=List.mem_flatMap.1 hv
 simp at h
 rcases h with rfl | rfl | rfl | rfl | rfl <;> rfl
theorem one_e8C {l:List En} : ∀ v∈l.flatMap e8C,v.oneCell'=true:=by
 intro v hv
 obtain ⟨x,_,h⟩:=List.mem_flatMap.1 hv
 simp at h
 rcases h with rfl | rfl | rfl | rfl | rfl | rfl <;> rfl
theorem one_zV {l:List Int} : ∀ v∈l.map zV,v.oneCell'=true:=by
 intro v hv
 obtain ⟨x,_,rfl⟩:=List.mem_map.1 hv
 rfl
structure HrS (h:HR) (m:Nat):Prop where
 v:h.vs.length≤m
 a:h.act.length≤m
 c:h.cm.length≤m
 e:h.es.length≤m
theorem Hr.copied (B:Wn) (q:HrQ) (h:HR) (m:Nat) (hs:HrS h m) (hm:m<2^32):Fn Tryz.prog B 78 #[hrV q h] (hrL q h) (fun u l => ∃ q',u=hrV q' h∧l=hrL q' h++hrL q h):=by
 obtain ⟨s1,s2,s3,s4⟩:=hs
 refine Wq 24 Tryz.func78 rfl rfl (nB rfl) (fun F=>?_)
 try simp only [cA,nA]
 refine TS ?_
 refine Le rfl (zL [_,_,_,_,_,_,_,_] rfl rfl ?_)
 intro g1
 refine Le rfl (El [.int .i64 0,.int .i64 0,.int .i64 0,.slice none 0 0,.slice none 0 0,.slice none 0 0,.int .i64 0,.slice none 0 0] (by unfold Zf;kernel_rfl) ?_)
 intro g2
 refine Ld (TS ?_)
 refine Le rfl (Y8 Hr.elemV ?_)
 rintro g3
 refine Lq rfl (Qf (off:=3) (by kernel_rfl) rfl) (Lq rfl (Ql (by kernel_rfl) rfl rfl) ?_)
 refine Le rfl (Ea Hr.elemV rfl rfl (SrcOf.row (by kernel_rfl) one_vrC) (by unfold maxLen;omega) (by omega) ?_)
 rintro p1 c1 hp1
 try simp only [cA,nA]
 simp only [Nat.zero_add,List.nil_append]
 refine Lq rfl (Qf (off:=3) (by kernel_rfl) rfl) ?_
 refine L0 rfl (E1 (by kernel_rfl) rfl rfl rfl (by first | (simp;done) | (simp;omega)) ?_)
 try simp only [List.set_cons_zero,List.set_cons_succ]
 refine Ld (TS ?_)
 refine Le rfl (Y8 Hr.elemA ?_)
 rintro g8
 refine Lq rfl (Qf (off:=4) (by kernel_rfl) rfl) (Lq rfl (Ql (by kernel_rfl) rfl rfl) ?_)
 refine Le rfl (Ea Hr.elemA rfl rfl (SrcOf.row (by kernel_rfl) one_zV) (by unfold maxLen;omega) (by omega) ?_)
 rintro p2 c2 hp2
 try simp only [cA,nA]
 simp only [Nat.zero_add,List.nil_append]
 refine Lq rfl (Qf (off:=4) (by kernel_rfl) rfl) ?_
 refine L0 rfl (E1 (by kernel_rfl) rfl rfl rfl (by first | (simp;done) | (simp;omega)) ?_)
 try simp only [List.set_cons_zero,List.set_cons_succ]
 refine Ld (TS ?_)
 refine Le rfl (Y8 Hr.elemC ?_)
 rintro g13
 refine Lq rfl (Qf (off:=5) (by kernel_rfl) rfl) (Lq rfl (Ql (by kernel_rfl) rfl rfl) ?_)
 refine Le rfl (Ea Hr.elemC rfl rfl (SrcOf.row (by kernel_rfl) one_stC) (by unfold maxLen;omega) (by omega) ?_)
 rintro p3 c3 hp3
 try simp only [cA,nA]
 simp only [Nat.zero_add,List.nil_append]
 refine Lq rfl (Qf (off:=5) (by kernel_rfl) rfl) ?_
 refine L0 rfl (E1 (by kernel_rfl) rfl rfl rfl (by first | (simp;done) | (simp;omega)) ?_)
 try simp only [List.set_cons_zero,List.set_cons_succ]
 refine Ld (TS ?_)
 refine Le rfl (Y8 Hr.elemE ?_)
 rintro g18
 refine Lq rfl (Qf (off:=7) (by kernel_rfl) rfl) (Lq rfl (Ql (by kernel_rfl) rfl rfl) ?_)
 refine Le rfl (Ea Hr.elemE rfl rfl (SrcOf.row (by kernel_rfl) one_e8C) (by unfold maxLen;omega) (by omega) ?_)
 rintro p4 c4 hp4
 try simp only [cA,nA]
 simp only [Nat.zero_add,List.nil_append]
 refine Lq rfl (Qf (off:=7) (by kernel_rfl) rfl) ?_
 refine L0 rfl (E1 (by kernel_rfl) rfl rfl rfl (by first | (simp;done) | (simp;omega)) ?_)
 try simp only [List.set_cons_zero,List.set_cons_succ]
 refine Ld (TS (Lq rfl (QL [_,_,_,_,_,_,_,_] (by kernel_rfl) rfl ⟨rfl,rfl,rfl,rfl,rfl,rfl,rfl,rfl,trivial⟩) ?_))
 refine L0 rfl (Es [_,_,_,_,_,_,_,_] (by kernel_rfl) rfl rfl rfl rfl (by simp) ?_)
 try simp only [splice,lC,lN,dS,cA,tS,tZ,dZ,nA,aN]
 refine Ld (T.ret ?_)
 exact ⟨.inl rfl,_,_,res [_] rfl ⟨rvA [_,_,_,_,_,_,_,_] (by kernel_rfl) rfl ⟨rfl,rfl,rfl,rfl,rfl,rfl,rfl,rfl,trivial⟩,trivial⟩,⟨⟨p1,c1,p2,c2,p3,c3,p4,c4⟩,rfl,rfl⟩,Sa⟩
theorem act_no {h:HR} {t:Int} (hno : ∀ x∈h.act,x≠t):Zp h t=false:=by
 rw [Bool.eq_false_iff]
 intro e
 exact hno t (isAct_iff.1 e) rfl
theorem take_step {α:Type} {l:List α} {i:Nat} {x:α} (hi:i<l.length) (hx:l[i]=x) {p:α→Prop} (h : ∀ y∈l.take i,p y) (hp:p x) : ∀ y∈l.take (i+1),p y:=by
 rw [List.take_succ_eq_append_getElem hi,hx]
 intro y hy
 rcases List.mem_append.1 hy with hy | hy
 · exact h y hy
 · simp at hy;rw [hy];exact hp
theorem Hr.isActive (B:Wn) (q:HrQ) (h:HR) (t:Int) (hb:h.act.length<2^40):Fn Tryz.prog B 82 #[hrV q h,.int .i64 t] (hrL q h) (fun u l=>u = .bool (Zp h t)∧l=hrL q h):=by
 obtain ⟨pv,cv,pa,ca,pc,cc,pe,ce⟩:=q
 dsimp only [hrV,hrL]
 refine Wr 20 Tryz.func82 rfl rfl (nB rfl) (fun F=>?_)
 try simp only [cA,nA]
 refine T.own fun w ho=>?_
 have hp:0<h.act.length → ∃ g,pa=some ⟨g,0,none⟩:=((ho.map Sa:Own B w [acR pa h.act.length ca h.act]).slice_at (p:=pa) (m:=h.act.length) (c:=ca)).2.1
 clear ho
 refine TS ?_
 refine Le rfl (zL [_,_,_,_,_,_,_,_] rfl rfl ?_)
 intro g2
 refine La rfl rfl (Ld (Ts (TS (La rfl rfl (Ld (yH ?_))))))
 refine zG (fun mz fz lz => ∃ (f0:Fr) (i:Nat),(i≤h.act.length ∧ ∀ x∈h.act.take i,x≠t)∧mz=h.act.length-i∧fz=(upd (upd (upd f0 1 (.int .i64 t)) 2 (.pointer (some ⟨g2,0,none⟩))) 5 (.int .i64 i))∧lz=blk g2 (hrC ⟨pv,cv,pa,ca,pc,cc,pe,ce⟩ h) 81::hrL ⟨pv,cv,pa,ca,pc,cc,pe,ce⟩ h++F) ?_ ?_
 · refine ⟨_,_,⟨_,0,⟨Nat.zero_le _,by simp⟩,rfl,(Za rfl (Za rfl (Za rfl rfl))),rfl⟩,Sa⟩
 rintro mz fz lz ⟨f0,i,⟨hi,hno⟩,hmz,rfl,rfl⟩
 subst mz
 try simp only [cA,nA]
 refine Ts (TS (Lm rfl rfl (Lq rfl (Qf (off:=4) (by kernel_rfl) rfl) (Lq rfl (Ql (by kernel_rfl) rfl rfl) (Lq rfl (yI (e:=2) (sz:=1) (by kernel_rfl) rfl) (Lq rfl (yM rfl rfl) ?_))))))
 refine Ld ?_
 refine yN rfl (fun hlt=>?_) (fun hlt=>?_)
 ·
  obtain ⟨g,rfl⟩:=hp (by omega)
  obtain ⟨x,hx⟩ : ∃ x,h.act[i]'(by omega)=x:=⟨_,rfl⟩
  refine Tk (Ts (yH (TS (Lq rfl (Qf (off:=4) (by kernel_rfl) rfl) (Lq rfl (Ql (by kernel_rfl) rfl rfl) (Lm rfl rfl ?_))))))
  refine Lq rfl (Qi _ (e:=2) (sz:=1) (by kernel_rfl) rfl rfl rfl (by omega)) (Lq rfl (Ql (v:=zV x) (by kernel_rfl) rfl (by rw [map_at _ _ _ (by omega),hx])) (Lm rfl rfl (Lq rfl (yU rfl rfl) (Ld ?_))))
  refine yN rfl (fun he=>?_) (fun he=>?_)
  ·
   refine TS (La rfl rfl (Ld (T.ret ?_)))
   exact ⟨.inl rfl,_,_,res [_] rfl ⟨rvT rfl,trivial⟩,⟨by rw [isAct_iff.2 (by rw [←he,←hx];exact List.getElem_mem _)];rfl,rfl⟩,Sa⟩
  refine Tk (TR (Lm rfl rfl (Lq rfl (Qd rfl rfl (Ze (by omega) (by omega))) (La rfl rfl (Ld ?_)))))
  refine ⟨_,?_,_,⟨_,i+1,⟨by omega,take_step (by omega) hx hno he⟩,rfl,(Za rfl (Za rfl (Za rfl rfl))),rfl⟩,Sa⟩
  omega
 rw [List.take_of_length_le (by omega)] at hno
 refine zB (TS (La rfl rfl (Ld (T.ret ?_))))
 exact ⟨.inl rfl,_,_,res [_] rfl ⟨rvT rfl,trivial⟩,⟨by rw [act_no hno];rfl,rfl⟩,Sa⟩
theorem Hr.isCommitted (B:Wn) (q:HrQ) (h:HR) (t:Int) (hb:h.cm.length<2^40):Fn Tryz.prog B 83 #[hrV q h,.int .i64 t] (hrL q h) (fun u l=>u = .bool (Wa h t)∧l=hrL q h):=by
 obtain ⟨pv,cv,pa,ca,pc,cc,pe,ce⟩:=q
 dsimp only [hrV,hrL]
 refine Wr 21 Tryz.func83 rfl rfl (nB rfl) (fun F=>?_)
 try simp only [cA,nA]
 refine T.own fun w ho=>?_
 have hp:0<h.cm.length → ∃ g,pc=some ⟨g,0,none⟩:=((ho.map Sa:Own B w [c8R pc h.cm.length cc h.cm]).slice_at (p:=pc) (m:=h.cm.length) (c:=cc)).2.1
 clear ho
 refine TS ?_
 refine Le rfl (zL [_,_,_,_,_,_,_,_] rfl rfl ?_)
 intro g2
 refine La rfl rfl (Ld (Ts (TS (La rfl rfl (Ld (yH ?_))))))
 refine zG (fun mz fz lz => ∃ (f0:Fr) (i:Nat),(i≤h.cm.length ∧ ∀ x∈h.cm.take i,x.1≠t)∧mz=h.cm.length-i∧fz=(upd (upd (upd f0 1 (.int .i64 t)) 2 (.pointer (some ⟨g2,0,none⟩))) 5 (.int .i64 i))∧lz=blk g2 (hrC ⟨pv,cv,pa,ca,pc,cc,pe,ce⟩ h) 81::hrL ⟨pv,cv,pa,ca,pc,cc,pe,ce⟩ h++F) ?_ ?_
 · refine ⟨_,_,⟨_,0,⟨Nat.zero_le _,by simp⟩,rfl,(Za rfl (Za rfl (Za rfl rfl))),rfl⟩,Sa⟩
 rintro mz fz lz ⟨f0,i,⟨hi,hno⟩,hmz,rfl,rfl⟩
 subst mz
 try simp only [cA,nA]
 refine Ts (TS (Lm rfl rfl (Lq rfl (Qf (off:=5) (by kernel_rfl) rfl) (Lq rfl (Ql (by kernel_rfl) rfl rfl) (Lq rfl (yI (e:=196) (sz:=2) (by kernel_rfl) rfl) (Lq rfl (yM rfl rfl) ?_))))))
 refine Ld ?_
 refine yN rfl (fun hlt=>?_) (fun hlt=>?_)
 ·
  obtain ⟨g,rfl⟩:=hp (by omega)
  obtain ⟨x,hx⟩ : ∃ x,h.cm[i]'(by omega)=x:=⟨_,rfl⟩
  refine Tk (Ts (yH (TS (Lq rfl (Qf (off:=5) (by kernel_rfl) rfl) (Lq rfl (Ql (by kernel_rfl) rfl rfl) (Lm rfl rfl ?_))))))
  refine Lq rfl (Qi _ (e:=196) (sz:=2) (by kernel_rfl) rfl rfl rfl (by omega)) (Lq rfl (Q0 (by kernel_rfl) rfl) (Lq rfl (Ql (v:=zV x.1) (by kernel_rfl) rfl (flat_cell0 stC 2 h.cm (fun _ _=>rfl) i (by omega) (by rw [hx];rfl))) (Lm rfl rfl (Lq rfl (yU rfl rfl) (Ld ?_)))))
  refine yN rfl (fun he=>?_) (fun he=>?_)
  ·
   refine TS (La rfl rfl (Ld (T.ret ?_)))
   exact ⟨.inl rfl,_,_,res [_] rfl ⟨rvT rfl,trivial⟩,⟨by rw [isCm_iff.2 ⟨x.2,by rw [←he,←hx];exact List.getElem_mem _⟩];rfl,rfl⟩,Sa⟩
  refine Tk (TR (Lm rfl rfl (Lq rfl (Qd rfl rfl (Ze (by omega) (by omega))) (La rfl rfl (Ld ?_)))))
  refine ⟨_,?_,_,⟨_,i+1,⟨by omega,take_step (by omega) hx hno he⟩,rfl,(Za rfl (Za rfl (Za rfl rfl))),rfl⟩,Sa⟩
  omega
 rw [List.take_of_length_le (by omega)] at hno
 refine zB (TS (La rfl rfl (Ld (T.ret ?_))))
 exact ⟨.inl rfl,_,_,res [_] rfl ⟨rvT rfl,trivial⟩,⟨by rw [isCm_no.2 (fun s hs=>hno _ hs rfl)];rfl,rfl⟩,Sa⟩
theorem find_at {vs:List Ver} {i:Nat} {p s:Int} (hi:i<vs.length) (h : ∀ y∈vs.take i,atP p s y=false) (hx:atP p s vs[i]=true):We vs p s=some i:=by
 unfold We
 rw [List.findIdx?_eq_some_iff_getElem]
 refine ⟨hi,hx,fun j hj=>?_⟩
 have:=h vs[j] (by rw [List.mem_take_iff_getElem];exact ⟨j,by omega,rfl⟩)
 simpa using this
theorem find_no {vs:List Ver} {p s:Int} (h : ∀ y∈vs,atP p s y=false):We vs p s=none:=by
 unfold We
 rw [List.findIdx?_eq_none_iff]
 exact h
abbrev idxN (o:Option Nat):Int:=match o with | some i=>i | none => -1
theorem Hr.find (B:Wn) (q:HrQ) (h:HR) (p s:Int) (hb:h.vs.length<2^40):Fn Tryz.prog B 81 #[hrV q h,.int .i64 p,.int .i64 s] (hrL q h) (fun u l=>u = .int .i64 (idxN (We h.vs p s))∧l=hrL q h):=by
 obtain ⟨pv,cv,pa,ca,pc,cc,pe,ce⟩:=q
 dsimp only [hrV,hrL]
 refine Ws 34 Tryz.func81 rfl rfl (nB rfl) (fun F=>?_)
 try simp only [cA,nA]
 refine T.own fun w ho=>?_
 have hp:0<h.vs.length → ∃ g,pv=some ⟨g,0,none⟩:=((ho.map Sa:Own B w [verR pv h.vs.length cv h.vs]).slice_at (p:=pv) (m:=h.vs.length) (c:=cv)).2.1
 clear ho
 refine TS ?_
 refine Le rfl (zL [_,_,_,_,_,_,_,_] rfl rfl ?_)
 intro g3
 refine La rfl rfl (Ld (Ts (TS (La rfl rfl (Ld (yH ?_))))))
 refine zG (fun mz fz lz => ∃ (f0:Fr) (i:Nat),(i≤h.vs.length ∧ ∀ x∈h.vs.take i,atP p s x=false)∧mz=h.vs.length-i∧fz=(upd (upd (upd (upd f0 1 (.int .i64 p)) 2 (.int .i64 s)) 3 (.pointer (some ⟨g3,0,none⟩))) 7 (.int .i64 i))∧lz=blk g3 (hrC ⟨pv,cv,pa,ca,pc,cc,pe,ce⟩ h) 81::hrL ⟨pv,cv,pa,ca,pc,cc,pe,ce⟩ h++F) ?_ ?_
 · refine ⟨_,_,⟨_,0,⟨Nat.zero_le _,by simp⟩,rfl,(Za rfl (Za rfl (Za rfl (Za rfl rfl)))),rfl⟩,Sa⟩
 rintro mz fz lz ⟨f0,i,⟨hi,hno⟩,hmz,rfl,rfl⟩
 subst mz
 try simp only [cA,nA]
 refine Ts (TS (Lm rfl rfl (Lq rfl (Qf (off:=3) (by kernel_rfl) rfl) (Lq rfl (Ql (by kernel_rfl) rfl rfl) (Lq rfl (yI (e:=191) (sz:=5) (by kernel_rfl) rfl) (Lq rfl (yM rfl rfl) ?_))))))
 refine Ld ?_
 refine yN rfl (fun hlt=>?_) (fun hlt=>?_)
 ·
  obtain ⟨g,rfl⟩:=hp (by omega)
  obtain ⟨x,hx⟩ : ∃ x,h.vs[i]'(by omega)=x:=⟨_,rfl⟩
  refine Tk (Ts (yH (TS (Lq rfl (Qf (off:=3) (by kernel_rfl) rfl) (Lq rfl (Ql (by kernel_rfl) rfl rfl) (Lm rfl rfl ?_))))))
  refine Lq rfl (Qi _ (e:=191) (sz:=5) (by kernel_rfl) rfl rfl rfl (by omega)) (Lq rfl (Q0 (by kernel_rfl) rfl) (Lq rfl (Ql (v := .int .i64 x.page) (by kernel_rfl) rfl (flat_cell0 vrC 5 h.vs (fun _ _=>rfl) i (by omega) (by rw [hx];rfl))) (Lm rfl rfl (Lq rfl (yU rfl rfl) (Lm rfl rfl ?_)))))
  refine zZ (t:=23) rfl (fun h1=>?_) (fun h1=>?_)
  ·
   try replace h1:=of_decide_eq_true h1
   refine Lq rfl (Qf (off:=3) (by kernel_rfl) rfl) (Lq rfl (Ql (by kernel_rfl) rfl rfl) (Lm rfl rfl (Lq rfl (Qi _ (e:=191) (sz:=5) (by kernel_rfl) rfl rfl rfl (by omega)) (Lq rfl (Qf (off:=1) (by kernel_rfl) rfl) (Lq rfl (Ql (v := .int .i64 x.slot) (by kernel_rfl) rfl (flat_cell vrC 5 h.vs (fun _ _=>rfl) i 1 (by omega) (by rw [hx];rfl))) (Lm rfl rfl (Lq rfl (yU rfl rfl) ?_)))))))
   refine Lq rfl (Qp rfl rfl) (Ld ?_)
   refine yN rfl (fun h2=>?_) (fun h2=>?_)
   ·
    refine TS (Lm rfl rfl (La rfl rfl (Ld (T.ret ?_))))
    exact ⟨.inl rfl,_,_,res [_] rfl ⟨rvT rfl,trivial⟩,⟨by rw [find_at (by omega) hno (by rw [hx];simp [atP,h1,h2])];rfl,rfl⟩,Sa⟩
   refine Tk (TR (Lm rfl rfl (Lq rfl (Qd rfl rfl (Ze (by omega) (by omega))) (La rfl rfl (Ld ?_)))))
   refine ⟨_,?_,_,⟨_,i+1,⟨by omega,take_step (by omega) hx hno (by simp [atP,h1,h2])⟩,rfl,(Za rfl (Za rfl (Za rfl (Za rfl rfl)))),rfl⟩,Sa⟩
   omega
  try replace h1:=of_decide_eq_false h1
  refine Ls rfl (Ls rfl (Ls rfl (Ls rfl (Ls rfl (Ls rfl (Ls rfl (Ls rfl ?_)))))))
  refine Lq rfl (Qp rfl rfl) (Ld (yQ rfl (Tk (TR (Lm rfl rfl (Lq rfl (Qd rfl rfl (Ze (by omega) (by omega))) (La rfl rfl ?_)))))))
  refine Ld ?_
  refine ⟨_,?_,_,⟨_,i+1,⟨by omega,take_step (by omega) hx hno (by simp [atP,h1])⟩,rfl,(Za rfl (Za rfl (Za rfl (Za rfl rfl)))),rfl⟩,Sa⟩
  omega
 rw [List.take_of_length_le (by omega)] at hno
 refine zB (TS (La rfl rfl (Ld (T.ret ?_))))
 exact ⟨.inl rfl,_,_,res [_] rfl ⟨rvT rfl,trivial⟩,⟨by rw [find_no hno];rfl,rfl⟩,Sa⟩
open Go.RowKit
theorem vr_set (t:Int) : ∀ (vs:List Ver) (i:Nat),(vs.flatMap vrC).set (0+i*5+3) (.int .i64 t)=(vs.modify i (finV t)).flatMap vrC
 | [],i=>by simp
 | v::vs,0=>by
  simp only [List.flatMap_cons,List.modify_zero_cons]
  rw [List.set_append_left _ _ (by simp)]
  rfl
 | v::vs,i+1=>by
  simp only [List.flatMap_cons,List.modify_succ_cons]
  rw [List.set_append_right _ _ (by simp;omega),←vr_set t vs i]
  congr 2
  simp;omega
theorem Hr.write (B:Wn) (q:HrQ) (h:HR) (e:En) (m:Nat) (hs:HrS h m) (hm:m<2^32) (hu:0≤h.used∧h.used<2^40) (hk:e.kind=1∨e.kind=2∨e.kind=3) (h0:0≤e.page∧0≤e.slot) (hd:e.kind≠1→e.data=[]) (hdl:e.data.length<2^30) (hf:e.kind=2 → ∃ i,We h.vs e.page e.slot=some i) :
    Fn Tryz.prog B 79 #[hrV q h,.agg #[.int .i64 e.kind,.int .i64 e.txn,.int .i64 e.page,.int .i64 e.slot,.int .i64 e.stamp,strW e.data]] (hrL q h) (fun u l => ∃ q',u=hrV q' (Zg h e)∧l=hrL q' (Zg h e)):=by
  obtain ⟨s1,s2,s3,s4⟩:=id hs
  obtain ⟨kind,txn,page,slot,stamp,data⟩:=e
  dsimp only at hk h0 hd hdl hf ⊢
  obtain ⟨P,rfl⟩ : ∃ P:Nat,page=P:=⟨page.toNat,by omega⟩
  obtain ⟨Z,rfl⟩ : ∃ Z:Nat,slot=Z:=⟨slot.toNat,by omega⟩
  rcases hk with rfl | rfl | rfl
  · rw [show Zg h ⟨1,txn,P,Z,stamp,data⟩={h with es:=h.es++[⟨1,txn,P,Z,stamp,data⟩],used:=h.used+(20+data.length),vs:=h.vs++[⟨P,Z,txn,0,data⟩]} by simp [Zg,enSz_eq]]
    refine Wr 75 Tryz.func79 rfl rfl (nB rfl) (fun F=>?_)
    try simp only [cA,nA]
    refine TS ?_
    refine Le rfl (zL [_,_,_,_,_,_,_,_] rfl rfl ?_)
    intro g2
    refine Le rfl (zL [_,_,_,_,_,_] rfl rfl ?_)
    intro g3
    refine Le rfl (El [.int .i64 0,.int .i64 0,.int .i64 0,.slice none 0 0,.slice none 0 0,.slice none 0 0,.int .i64 0,.slice none 0 0] (by unfold Zf;kernel_rfl) ?_)
    intro g4
    refine Ld (TS (Lq rfl (QL [_,_,_,_,_,_,_,_] (by kernel_rfl) rfl ⟨rfl,rfl,rfl,rfl,rfl,rfl,rfl,rfl,trivial⟩) ?_))
    refine Le rfl (Ec (Hr.copied B q h m hs hm) Tryz.func78 rfl rfl rfl ?_)
    rintro _ _ ⟨q1,rfl,rfl⟩
    try simp only [cA,nA]
    refine L0 rfl (Es [_,_,_,_,_,_,_,_] (by kernel_rfl) rfl rfl rfl rfl (by simp) ?_)
    try simp only [splice,lC,lN,dS,cA,tS,tZ,dZ,nA,aN]
    refine Ld (TS (Lq rfl (Qf (off:=7) (by kernel_rfl) rfl) (Lq rfl (Ql (by kernel_rfl) rfl rfl) (Lq rfl (QL [_,_,_,_,_,_] (by kernel_rfl) rfl ⟨rfl,rfl,rfl,rfl,rfl,rfl,trivial⟩) ?_))))
    refine Le rfl (zK [_,_,_,_,_,_] (e:=189) (sz:=6) (by kernel_rfl) ⟨.agg #[.int .i64 0,.int .i64 0,.int .i64 0,.int .i64 0,.int .i64 0,.string .empty],by kernel_rfl,rfl⟩ rfl rfl rfl (by omega) (by omega) ?_)
    intro g10
    refine Le rfl (Ea Hr.elemE rfl rfl (SrcOf.blk (by kernel_rfl) rfl (by simp [Value.oneCell'])) (by unfold maxLen;omega) (by omega) ?_)
    rintro p2 c2 hp2
    rw [flat_snoc e8C h.es ⟨1,txn,P,Z,stamp,data⟩,show h.es.length+1=(h.es++[(⟨1,txn,P,Z,stamp,data⟩:En)]).length by simp]
    refine Lq rfl (Qf (off:=7) (by kernel_rfl) rfl) ?_
    refine L0 rfl (E1 (by kernel_rfl) rfl rfl rfl (by first | (simp;done) | (simp;omega)) ?_)
    try simp only [List.set_cons_zero,List.set_cons_succ]
    refine Ld (Ts (TS (Lq rfl (Q0 (by kernel_rfl) rfl) (Lq rfl (Ql (by kernel_rfl) rfl rfl) (Lq rfl (yU rfl rfl) (Ld ?_))))))
    refine zF rfl (TS (Lq rfl (Qf (off:=2) (by kernel_rfl) rfl) (Lq rfl (Ql (by kernel_rfl) rfl rfl) (Lq rfl (Qf (off:=5) (by kernel_rfl) rfl) (Lq rfl (Ql (by kernel_rfl) rfl rfl) (Lq rfl (YU (by kernel_rfl) rfl) ?_))))))
    refine Lq rfl (Qd rfl rfl (Ze (by omega) (by omega))) (Lq rfl (Qd rfl rfl (Ze (by omega) (by omega))) (Lq rfl (Qf (off:=2) (by kernel_rfl) rfl) ?_))
    refine L0 rfl (E1 (by kernel_rfl) rfl rfl rfl (by first | (simp;done) | (simp;omega)) ?_)
    try simp only [List.set_cons_zero,List.set_cons_succ]
    refine Ld (TR (Lq rfl (Qf (off:=3) (by kernel_rfl) rfl) (Lq rfl (Ql (by kernel_rfl) rfl rfl) (Lq rfl (Qf (off:=2) (by kernel_rfl) rfl) (Lq rfl (Ql (by kernel_rfl) rfl rfl) (Lq rfl (Qf (off:=3) (by kernel_rfl) rfl) (Lq rfl (Ql (by kernel_rfl) rfl rfl) ?_)))))))
    refine Lq rfl (Qf (off:=1) (by kernel_rfl) rfl) (Lq rfl (Ql (by kernel_rfl) rfl rfl) (Lq rfl (Qf (off:=5) (by kernel_rfl) rfl) (Lq rfl (Ql (by kernel_rfl) rfl rfl) (Lq rfl (z8 [(0,1),(1,1),(2,1),(3,1),(4,1)] [.int .i64 0,.int .i64 0,.int .i64 0,.int .i64 0,.string .empty] [_,_,_,_,_] [(0,_),(1,_),(2,_),(4,_)] (by kernel_rfl) (by unfold Zf;kernel_rfl) rfl rfl) ?_))))
    refine Le rfl (zK [_,_,_,_,_] (e:=191) (sz:=5) (by kernel_rfl) ⟨.agg #[.int .i64 0,.int .i64 0,.int .i64 0,.int .i64 0,.string .empty],by kernel_rfl,rfl⟩ rfl rfl rfl (by omega) (by omega) ?_)
    intro g35
    refine Le rfl (Ea Hr.elemV rfl rfl (SrcOf.blk (by kernel_rfl) rfl (by simp [Value.oneCell'])) (by unfold maxLen;omega) (by omega) ?_)
    rintro p3 c3 hp3
    try simp only [cA,nA]
    rw [flat_snoc vrC h.vs ⟨P,Z,txn,0,data⟩,show h.vs.length+1=(h.vs++[(⟨P,Z,txn,0,data⟩:Ver)]).length by simp]
    refine Lq rfl (Qf (off:=3) (by kernel_rfl) rfl) ?_
    refine L0 rfl (E1 (by kernel_rfl) rfl rfl rfl (by first | (simp;done) | (simp;omega)) ?_)
    try simp only [List.set_cons_zero,List.set_cons_succ]
    refine Ld (Ts (TS (Lq rfl (Q0 (by kernel_rfl) rfl) (Lq rfl (Ql (by kernel_rfl) rfl rfl) (Lq rfl (yU rfl rfl) (Ld ?_))))))
    refine yQ rfl (Tk (Ts (TS (Lq rfl (Q0 (by kernel_rfl) rfl) (Lq rfl (Ql (by kernel_rfl) rfl rfl) (Lq rfl (yU rfl rfl) ?_))))))
    refine Ld (yQ rfl (Tk (TS (Lq rfl (QL [_,_,_,_,_,_,_,_] (by kernel_rfl) rfl ⟨rfl,rfl,rfl,rfl,rfl,rfl,rfl,rfl,trivial⟩) ?_))))
    refine L0 rfl (Es [_,_,_,_,_,_,_,_] (by kernel_rfl) rfl rfl rfl rfl (by simp) ?_)
    try simp only [splice,lC,lN,dS,cA,tS,tZ,dZ,nA,aN]
    refine Ld (T.ret ?_)
    exact ⟨.inl rfl,_,_,res [_] rfl ⟨rvA [_,_,_,_,_,_,_,_] (by kernel_rfl) rfl ⟨rfl,rfl,rfl,rfl,rfl,rfl,rfl,rfl,trivial⟩,trivial⟩,⟨⟨p3,c3,q1.pa,q1.ca,q1.pc,q1.cc,p2,c2⟩,rfl,rfl⟩,Sa⟩
  · have hd:=hd (by decide)
    subst hd
    obtain ⟨i0,hi0⟩:=hf rfl
    obtain ⟨v0,hv0,hvp,hvs⟩:=findV_some hi0
    have hi0l:=(List.getElem?_eq_some_iff.1 hv0).1
    rw [show Zg h ⟨2,txn,P,Z,stamp,[]⟩={h with es:=h.es++[⟨2,txn,P,Z,stamp,[]⟩],used:=h.used+20,vs:=h.vs.modify i0 (finV txn)} by simp [Zg,enSz_eq,hi0]]
    have hsum:(List.map (fun _:Ver=>5) h.vs).sum=h.vs.length*5:=by generalize h.vs=l;induction l with | nil=>rfl | cons a l ih=>simp only [List.map_cons,List.sum_cons,List.length_cons,ih];omega
    refine Wr 75 Tryz.func79 rfl rfl (nB rfl) (fun F=>?_)
    try simp only [cA,nA]
    refine TS ?_
    refine Le rfl (zL [_,_,_,_,_,_,_,_] rfl rfl ?_)
    intro g2
    refine Le rfl (zL [_,_,_,_,_,_] rfl rfl ?_)
    intro g3
    refine Le rfl (El [.int .i64 0,.int .i64 0,.int .i64 0,.slice none 0 0,.slice none 0 0,.slice none 0 0,.int .i64 0,.slice none 0 0] (by unfold Zf;kernel_rfl) ?_)
    intro g4
    refine Ld (TS (Lq rfl (QL [_,_,_,_,_,_,_,_] (by kernel_rfl) rfl ⟨rfl,rfl,rfl,rfl,rfl,rfl,rfl,rfl,trivial⟩) ?_))
    refine Le rfl (Ec (Hr.copied B q h m hs hm) Tryz.func78 rfl rfl rfl ?_)
    rintro _ _ ⟨q1,rfl,rfl⟩
    try simp only [cA,nA]
    refine L0 rfl (Es [_,_,_,_,_,_,_,_] (by kernel_rfl) rfl rfl rfl rfl (by simp) ?_)
    try simp only [splice,lC,lN,dS,cA,tS,tZ,dZ,nA,aN]
    refine Ld (TS (Lq rfl (Qf (off:=7) (by kernel_rfl) rfl) (Lq rfl (Ql (by kernel_rfl) rfl rfl) (Lq rfl (QL [_,_,_,_,_,_] (by kernel_rfl) rfl ⟨rfl,rfl,rfl,rfl,rfl,rfl,trivial⟩) ?_))))
    refine Le rfl (zK [_,_,_,_,_,_] (e:=189) (sz:=6) (by kernel_rfl) ⟨.agg #[.int .i64 0,.int .i64 0,.int .i64 0,.int .i64 0,.int .i64 0,.string .empty],by kernel_rfl,rfl⟩ rfl rfl rfl (by omega) (by omega) ?_)
    intro g10
    obtain ⟨pv,cv,pa,ca,pc,cc,pe,ce⟩:=q1
    refine Le rfl (Ea Hr.elemE rfl rfl (SrcOf.blk (by kernel_rfl) rfl (by simp [Value.oneCell'])) (by unfold maxLen;omega) (by omega) ?_)
    rintro p2 c2 hp2
    try simp only [cA,nA]
    rw [flat_snoc e8C h.es ⟨2,txn,P,Z,stamp,[]⟩,show h.es.length+1=(h.es++[(⟨2,txn,P,Z,stamp,[]⟩:En)]).length by simp]
    refine LW.own fun w ho=>?_
    obtain ⟨gv,rfl⟩ : ∃ g,pv=some ⟨g,0,none⟩:=((ho.map Sa:Own B w [verR pv h.vs.length cv h.vs]).slice_at (p:=pv) (m:=h.vs.length) (c:=cv)).2.1 (by omega)
    clear ho
    refine Lq rfl (Qf (off:=7) (by kernel_rfl) rfl) ?_
    refine L0 rfl (E1 (by kernel_rfl) rfl rfl rfl (by first | (simp;done) | (simp;omega)) ?_)
    try simp only [List.set_cons_zero,List.set_cons_succ]
    refine Ld (Ts (TS (Lq rfl (Q0 (by kernel_rfl) rfl) (Lq rfl (Ql (by kernel_rfl) rfl rfl) (Lq rfl (yU rfl rfl) (Ld ?_))))))
    refine yQ rfl (Tk (Ts (TS (Lq rfl (Q0 (by kernel_rfl) rfl) (Lq rfl (Ql (by kernel_rfl) rfl rfl) (Lq rfl (yU rfl rfl) ?_))))))
    refine Ld (zF rfl (TS (Lq rfl (Qf (off:=2) (by kernel_rfl) rfl) (Lq rfl (Ql (by kernel_rfl) rfl rfl) (Lq rfl (Qd rfl rfl (Ze (by omega) (by omega))) (Lq rfl (Qf (off:=2) (by kernel_rfl) rfl) ?_))))))
    refine L0 rfl (E1 (by kernel_rfl) rfl rfl rfl (by first | (simp;done) | (simp;omega)) ?_)
    try simp only [List.set_cons_zero,List.set_cons_succ]
    refine Ld (zW 10 none (by kernel_rfl) (nB rfl) (by kernel_rfl) (Rq 0 rfl rfl (by kernel_rfl) Sa (Qf (off:=3) (by kernel_rfl) rfl) (Rq 1 rfl rfl (by kernel_rfl) Sa (Ql (by kernel_rfl) rfl rfl) (Rq 2 rfl rfl (by kernel_rfl) Sa (QL [_,_,_,_,_,_,_,_] (by kernel_rfl) rfl ⟨rfl,rfl,rfl,rfl,rfl,rfl,rfl,rfl,trivial⟩) (Rq 3 rfl rfl (by kernel_rfl) Sa (Qf (off:=2) (by kernel_rfl) rfl) (Rq 4 rfl rfl (by kernel_rfl) Sa (Ql (by kernel_rfl) rfl rfl) (Rq 5 rfl rfl (by kernel_rfl) Sa (Qf (off:=3) (by kernel_rfl) rfl) ?_)))))))
    refine Rq 6 rfl rfl (by kernel_rfl) Sa (Ql (by kernel_rfl) rfl rfl) (Rq 8 rfl rfl (by kernel_rfl) Sa (Qf (off:=1) (by kernel_rfl) rfl) (Rq 9 rfl rfl (by kernel_rfl) Sa (Ql (by kernel_rfl) rfl rfl) (yK 7 (by kernel_rfl) ?_)))
    refine z6 rfl rfl (Ec (Hr.find B ⟨some ⟨gv,0,none⟩,cv,pa,ca,pc,cc,p2,c2⟩ {h with es:=h.es++[⟨2,txn,P,Z,stamp,[]⟩],used:=h.used+20} P Z (by show h.vs.length<_;omega)) Tryz.func81 rfl rfl rfl ?_)
    rintro _ _ ⟨rfl,rfl⟩
    try simp only [cA,nA]
    rw [hi0]
    refine ⟨Sa,?_⟩
    refine Rd0 (by rfl) ?_
    simp only [dS,dZ,dN]
    refine Lq rfl (Qi _ (e:=191) (sz:=5) (by kernel_rfl) rfl rfl rfl (by omega)) (Lq rfl (Qf (off:=3) (by kernel_rfl) rfl) ?_)
    refine L0 rfl (E1 (by kernel_rfl) rfl rfl rfl (by first | (simp;done) | (simp;omega)) ?_)
    rw [vr_set]
    refine Ld (Ts (TS (Lq rfl (Q0 (by kernel_rfl) rfl) (Lq rfl (Ql (by kernel_rfl) rfl rfl) (Lq rfl (yU rfl rfl) (Ld ?_))))))
    rw [show h.vs.length=(h.vs.modify i0 (finV txn)).length by simp]
    refine yQ rfl (Tk (TS (Lq rfl (QL [_,_,_,_,_,_,_,_] (by kernel_rfl) rfl ⟨rfl,rfl,rfl,rfl,rfl,rfl,rfl,rfl,trivial⟩) ?_)))
    refine L0 rfl (Es [_,_,_,_,_,_,_,_] (by kernel_rfl) rfl rfl rfl rfl (by simp) ?_)
    try simp only [splice,lC,lN,dS,cA,tS,tZ,dZ,nA,aN]
    refine Ld (T.ret ?_)
    exact ⟨.inl rfl,_,_,res [_] rfl ⟨rvA [_,_,_,_,_,_,_,_] (by kernel_rfl) rfl ⟨rfl,rfl,rfl,rfl,rfl,rfl,rfl,rfl,trivial⟩,trivial⟩,⟨⟨some ⟨gv,0,none⟩,cv,pa,ca,pc,cc,p2,c2⟩,rfl,rfl⟩,Sa⟩
  · have hd:=hd (by decide)
    subst hd
    rw [show Zg h ⟨3,txn,P,Z,stamp,[]⟩={h with es:=h.es++[⟨3,txn,P,Z,stamp,[]⟩],used:=h.used+25,cm:=h.cm++[(txn,stamp)]} by simp [Zg,enSz_eq]]
    refine Wr 75 Tryz.func79 rfl rfl (nB rfl) (fun F=>?_)
    try simp only [cA,nA]
    refine TS ?_
    refine Le rfl (zL [_,_,_,_,_,_,_,_] rfl rfl ?_)
    intro g2
    refine Le rfl (zL [_,_,_,_,_,_] rfl rfl ?_)
    intro g3
    refine Le rfl (El [.int .i64 0,.int .i64 0,.int .i64 0,.slice none 0 0,.slice none 0 0,.slice none 0 0,.int .i64 0,.slice none 0 0] (by unfold Zf;kernel_rfl) ?_)
    intro g4
    refine Ld (TS (Lq rfl (QL [_,_,_,_,_,_,_,_] (by kernel_rfl) rfl ⟨rfl,rfl,rfl,rfl,rfl,rfl,rfl,rfl,trivial⟩) ?_))
    refine Le rfl (Ec (Hr.copied B q h m hs hm) Tryz.func78 rfl rfl rfl ?_)
    rintro _ _ ⟨q1,rfl,rfl⟩
    try simp only [cA,nA]
    refine L0 rfl (Es [_,_,_,_,_,_,_,_] (by kernel_rfl) rfl rfl rfl rfl (by simp) ?_)
    try simp only [splice,lC,lN,dS,cA,tS,tZ,dZ,nA,aN]
    refine Ld (TS (Lq rfl (Qf (off:=7) (by kernel_rfl) rfl) (Lq rfl (Ql (by kernel_rfl) rfl rfl) (Lq rfl (QL [_,_,_,_,_,_] (by kernel_rfl) rfl ⟨rfl,rfl,rfl,rfl,rfl,rfl,trivial⟩) ?_))))
    refine Le rfl (zK [_,_,_,_,_,_] (e:=189) (sz:=6) (by kernel_rfl) ⟨.agg #[.int .i64 0,.int .i64 0,.int .i64 0,.int .i64 0,.int .i64 0,.string .empty],by kernel_rfl,rfl⟩ rfl rfl rfl (by omega) (by omega) ?_)
    intro g10
    refine Le rfl (Ea Hr.elemE rfl rfl (SrcOf.blk (by kernel_rfl) rfl (by simp [Value.oneCell'])) (by unfold maxLen;omega) (by omega) ?_)
    rintro p2 c2 hp2
    rw [flat_snoc e8C h.es ⟨3,txn,P,Z,stamp,[]⟩,show h.es.length+1=(h.es++[(⟨3,txn,P,Z,stamp,[]⟩:En)]).length by simp]
    refine Lq rfl (Qf (off:=7) (by kernel_rfl) rfl) ?_
    refine L0 rfl (E1 (by kernel_rfl) rfl rfl rfl (by first | (simp;done) | (simp;omega)) ?_)
    try simp only [List.set_cons_zero,List.set_cons_succ]
    refine Ld (Ts (TS (Lq rfl (Q0 (by kernel_rfl) rfl) (Lq rfl (Ql (by kernel_rfl) rfl rfl) (Lq rfl (yU rfl rfl) (Ld ?_))))))
    refine yQ rfl (Tk (Ts (TS (Lq rfl (Q0 (by kernel_rfl) rfl) (Lq rfl (Ql (by kernel_rfl) rfl rfl) (Lq rfl (yU rfl rfl) ?_))))))
    refine Ld (yQ rfl (Tk (Ts (TS (Lq rfl (Q0 (by kernel_rfl) rfl) (Lq rfl (Ql (by kernel_rfl) rfl rfl) ?_))))))
    refine Lq rfl (yU rfl rfl) (Ld (zF rfl (TS (Lq rfl (Qf (off:=2) (by kernel_rfl) rfl) (Lq rfl (Ql (by kernel_rfl) rfl rfl) (Lq rfl (Qd rfl rfl (Ze (by omega) (by omega))) ?_))))))
    refine Lq rfl (Qf (off:=2) (by kernel_rfl) rfl) ?_
    refine L0 rfl (E1 (by kernel_rfl) rfl rfl rfl (by first | (simp;done) | (simp;omega)) ?_)
    try simp only [List.set_cons_zero,List.set_cons_succ]
    refine Ld (TR (Lq rfl (Qf (off:=5) (by kernel_rfl) rfl) (Lq rfl (Ql (by kernel_rfl) rfl rfl) (Lq rfl (Qf (off:=1) (by kernel_rfl) rfl) (Lq rfl (Ql (by kernel_rfl) rfl rfl) (Lq rfl (Qf (off:=4) (by kernel_rfl) rfl) (Lq rfl (Ql (by kernel_rfl) rfl rfl) ?_)))))))
    refine Lq rfl (z8 [(0,1),(1,1)] [.int .i64 0,.int .i64 0] [_,_] [(0,_),(1,_)] (by kernel_rfl) (by unfold Zf;kernel_rfl) rfl rfl) ?_
    refine Le rfl (zK [_,_] (e:=196) (sz:=2) (by kernel_rfl) ⟨.agg #[.int .i64 0,.int .i64 0],by kernel_rfl,rfl⟩ rfl rfl rfl (by omega) (by omega) ?_)
    intro g71
    refine Le rfl (Ea Hr.elemC rfl rfl (SrcOf.blk (by kernel_rfl) rfl (by simp [Value.oneCell'])) (by unfold maxLen;omega) (by omega) ?_)
    rintro p3 c3 hp3
    try simp only [cA,nA]
    rw [flat_snoc stC h.cm (txn,stamp),show h.cm.length+1=(h.cm++[(txn,stamp)]).length by simp]
    refine Lq rfl (Qf (off:=5) (by kernel_rfl) rfl) ?_
    refine L0 rfl (E1 (by kernel_rfl) rfl rfl rfl (by first | (simp;done) | (simp;omega)) ?_)
    try simp only [List.set_cons_zero,List.set_cons_succ]
    refine Ld (TS (Lq rfl (QL [_,_,_,_,_,_,_,_] (by kernel_rfl) rfl ⟨rfl,rfl,rfl,rfl,rfl,rfl,rfl,rfl,trivial⟩) ?_))
    refine L0 rfl (Es [_,_,_,_,_,_,_,_] (by kernel_rfl) rfl rfl rfl rfl (by simp) ?_)
    try simp only [splice,lC,lN,dS,cA,tS,tZ,dZ,nA,aN]
    refine Ld (T.ret ?_)
    exact ⟨.inl rfl,_,_,res [_] rfl ⟨rvA [_,_,_,_,_,_,_,_] (by kernel_rfl) rfl ⟨rfl,rfl,rfl,rfl,rfl,rfl,rfl,rfl,trivial⟩,trivial⟩,⟨⟨q1.pv,q1.cv,q1.pa,q1.ca,p3,c3,p2,c2⟩,rfl,rfl⟩,Sa⟩
open Go.RowKit
abbrev hr0 : List Value:=[.int .i64 0,.int .i64 0,.int .i64 0,.slice none 0 0,.slice none 0 0,.slice none 0 0,.int .i64 0,.slice none 0 0]
theorem Hr.begin (B:Wn) (q:HrQ) (h:HR) (m:Nat) (hs:HrS h m) (hm:m<2^32) (hl:0≤h.last∧h.last<2^62):Fn Tryz.prog B 65 #[hrV q h] (hrL q h) (fun u l => ∃ q',u = .tuple #[hrV q' (beginR h),.int .i64 (h.last+1)]∧l=hrL q' (beginR h)++hrL q h):=by
 obtain ⟨s1,s2,s3,s4⟩:=id hs
 rw [show beginR h={h with last:=h.last+1,act:=h.act++[h.last+1]} from rfl]
 refine Wq 20 Tryz.func65 rfl rfl (nB rfl) (fun F=>?_)
 try simp only [cA,nA]
 refine TS ?_
 refine Le rfl (zL [_,_,_,_,_,_,_,_] rfl rfl ?_)
 intro g1
 refine Le rfl (El [.int .i64 0,.int .i64 0,.int .i64 0,.slice none 0 0,.slice none 0 0,.slice none 0 0,.int .i64 0,.slice none 0 0] (by unfold Zf;kernel_rfl) ?_)
 intro g2
 refine La rfl rfl (Ld (TS (Lq rfl (QL [_,_,_,_,_,_,_,_] (by kernel_rfl) rfl ⟨rfl,rfl,rfl,rfl,rfl,rfl,rfl,rfl,trivial⟩) ?_)))
 refine Le rfl (Ec (Hr.copied B q h m hs hm) Tryz.func78 rfl rfl rfl ?_)
 rintro _ _ ⟨q1,rfl,rfl⟩
 try simp only [cA,nA]
 refine L0 rfl (Es [_,_,_,_,_,_,_,_] (by kernel_rfl) rfl rfl rfl rfl (by simp) ?_)
 try simp only [splice,lC,lN,dS,cA,tS,tZ,dZ,nA,aN]
 refine Ld (TS (Lq rfl (Qf (off:=6) (by kernel_rfl) rfl) (Lq rfl (Ql (by kernel_rfl) rfl rfl) (Lq rfl (Qd rfl rfl (Ze (by omega) (by omega))) (Lq rfl (Qf (off:=6) (by kernel_rfl) rfl) ?_)))))
 refine L0 rfl (E1 (by kernel_rfl) rfl rfl rfl (by first | (simp;done) | (simp;omega)) ?_)
 try simp only [List.set_cons_zero,List.set_cons_succ]
 refine Ld (TS (Lq rfl (Qf (off:=4) (by kernel_rfl) rfl) (Lq rfl (Ql (by kernel_rfl) rfl rfl) (Lq rfl (Qf (off:=6) (by kernel_rfl) rfl) (Lq rfl (Ql (by kernel_rfl) rfl rfl) ?_)))))
 refine Le rfl (zK [_] (e:=2) (sz:=1) (by kernel_rfl) ⟨.int .i64 0,by kernel_rfl,rfl⟩ rfl rfl rfl (by omega) (by omega) ?_)
 intro g14
 refine Le rfl (Ea Hr.elemA rfl rfl (SrcOf.blk (by kernel_rfl) rfl (by simp [Value.oneCell'])) (by unfold maxLen;omega) (by omega) ?_)
 rintro p2 c2 hp2
 rw [map_snoc zV h.act (h.last+1),show h.act.length+1=(h.act++[h.last+1]).length by simp]
 refine Lq rfl (Qf (off:=4) (by kernel_rfl) rfl) ?_
 refine L0 rfl (E1 (by kernel_rfl) rfl rfl rfl (by first | (simp;done) | (simp;omega)) ?_)
 try simp only [List.set_cons_zero,List.set_cons_succ]
 refine Ld (Ts (T.drawEx 4 g2 (by kernel_rfl) (nB rfl) (by kernel_rfl) (Rq 0 rfl rfl (by kernel_rfl) Sa (QL [_,_,_,_,_,_,_,_] (by kernel_rfl) rfl ⟨rfl,rfl,rfl,rfl,rfl,rfl,rfl,rfl,trivial⟩) (Rq 1 rfl rfl (by kernel_rfl) Sa (Qf (off:=6) (by kernel_rfl) rfl) (Rq 2 rfl rfl (by kernel_rfl) Sa (Ql (by kernel_rfl) rfl rfl) (yK 3 (by kernel_rfl) ?_))))))
 refine YH rfl rfl (Es [_,_,_,_,_,_,_,_] (by kernel_rfl) rfl rfl rfl rfl (by simp) ?_)
 try simp only [splice,lC,lN,dS,cA,tS,tZ,dZ,nA,aN]
 refine ⟨Sa,?_⟩
 refine Rd0 (by rfl) ?_
 simp only [dS,dZ,dN]
 refine La rfl rfl (Ld (T.ret ?_))
 exact ⟨.inl rfl,_,_,res [_,_] rfl ⟨rvA [_,_,_,_,_,_,_,_] (by kernel_rfl) rfl ⟨rfl,rfl,rfl,rfl,rfl,rfl,rfl,rfl,trivial⟩,rvT rfl,trivial⟩,⟨⟨q1.pv,q1.cv,p2,c2,q1.pc,q1.cc,q1.pe,q1.ce⟩,rfl,rfl⟩,Sa⟩
theorem Hr.without (B:Wn) (q:HrQ) (h:HR) (t:Int) (m:Nat) (hs:HrS h m) (hm:m<2^32):Fn Tryz.prog B 85 #[hrV q h,.int .i64 t] (hrL q h) (fun u l => ∃ q',u=hrV q' (Zo h t)∧l=hrL q' (Zo h t)):=by
 obtain ⟨s1,s2,s3,s4⟩:=id hs
 rw [show Zo h t={h with act:=h.act.filter fun x=>decide (x≠t)} from rfl]
 refine Wr 34 Tryz.func85 rfl rfl (nB rfl) (fun F=>?_)
 try simp only [cA,nA]
 refine TS ?_
 refine Le rfl (zL [_,_,_,_,_,_,_,_] rfl rfl ?_)
 intro g2
 refine Le rfl (El [.int .i64 0,.int .i64 0,.int .i64 0,.slice none 0 0,.slice none 0 0,.slice none 0 0,.int .i64 0,.slice none 0 0] (by unfold Zf;kernel_rfl) ?_)
 intro g4
 refine Ld (TS (Lq rfl (QL [_,_,_,_,_,_,_,_] (by kernel_rfl) rfl ⟨rfl,rfl,rfl,rfl,rfl,rfl,rfl,rfl,trivial⟩) ?_))
 refine Le rfl (Ec (Hr.copied B q h m hs hm) Tryz.func78 rfl rfl rfl ?_)
 rintro _ _ ⟨q1,rfl,rfl⟩
 try simp only [cA,nA]
 refine L0 rfl (Es [_,_,_,_,_,_,_,_] (by kernel_rfl) rfl rfl rfl rfl (by simp) ?_)
 try simp only [splice,lC,lN,dS,cA,tS,tZ,dZ,nA,aN]
 refine Ld (TS (La rfl rfl (Ld (Ts (TS ?_)))))
 refine La rfl rfl (Ld (yH ?_))
 obtain ⟨pv,cv,pa,ca,pc,cc,pe,ce⟩:=q1
 refine T.own fun w ho=>?_
 have hp:0<h.act.length → ∃ g,pa=some ⟨g,0,none⟩:=((ho.map Sa:Own B w [acR pa h.act.length ca h.act]).slice_at (p:=pa) (m:=h.act.length) (c:=ca)).2.1
 clear ho
 refine T.conv (l':=acR none 0 0 []::_) (fun w ho=>ho.row_nil _ _) ?_
 refine zG (fun mz fz lz => ∃ (f0:Fr) (i:Nat) (acc:List Int) (p:Option Addr) (c n:Nat),(i≤h.act.length∧acc=(h.act.take i).filter (fun x=>decide (x≠t))∧acc.length=n∧n≤i)∧mz=h.act.length-i∧fz=(upd (upd (upd (upd (upd f0 1 (.int .i64 t)) 2 (.pointer (some ⟨g2,0,none⟩))) 4 (.pointer (some ⟨g4,0,none⟩))) 5 (.slice p n c)) 6 (.int .i64 i))∧lz=acR p n c acc::blk g4 hr0 81::blk g2 (hrC ⟨pv,cv,pa,ca,pc,cc,pe,ce⟩ h) 81::hrL ⟨pv,cv,pa,ca,pc,cc,pe,ce⟩ h++F) ?_ ?_
 · refine ⟨_,_,⟨_,0,[],none,0,0,⟨Nat.zero_le _,rfl,rfl,Nat.le_refl _⟩,rfl,(Za rfl (Za rfl (Za rfl (Za rfl (Za rfl rfl))))),rfl⟩,Sa⟩
 rintro mz fz lz ⟨f0,i,acc,p,c,n,⟨hi,hacc,hn,hni⟩,hmz,rfl,rfl⟩
 subst mz
 try simp only [cA,nA]
 refine Ts (TS (Lm rfl rfl (Lq rfl (Qf (off:=4) (by kernel_rfl) rfl) (Lq rfl (Ql (by kernel_rfl) rfl rfl) (Lq rfl (yI (e:=2) (sz:=1) (by kernel_rfl) rfl) (Lq rfl (yM rfl rfl) ?_))))))
 refine Ld ?_
 refine yN rfl (fun hlt=>?_) (fun hlt=>?_)
 ·
  obtain ⟨g,rfl⟩:=hp (by omega)
  obtain ⟨x,hx⟩ : ∃ x,h.act[i]'(by omega)=x:=⟨_,rfl⟩
  have htk:h.act.take (i+1)=h.act.take i++[x]:=by rw [List.take_succ_eq_append_getElem (by omega),hx]
  refine Tk (Ts (yH (TS (Lq rfl (Qf (off:=4) (by kernel_rfl) rfl) (Lq rfl (Ql (by kernel_rfl) rfl rfl) (Lm rfl rfl ?_))))))
  refine Lq rfl (Qi _ (e:=2) (sz:=1) (by kernel_rfl) rfl rfl rfl (by omega)) (Lq rfl (Ql (v:=zV x) (by kernel_rfl) rfl (by rw [map_at _ _ _ (by omega),hx])) (Lm rfl rfl (Lq rfl (yW rfl rfl) (Ld ?_))))
  refine yN rfl (fun he=>?_) (fun he=>?_)
  ·
   refine TR (Lm rfl rfl (Lq rfl (Qf (off:=4) (by kernel_rfl) rfl) (Lq rfl (Ql (by kernel_rfl) rfl rfl) (Lm rfl rfl (Lq rfl (Qi _ (e:=2) (sz:=1) (by kernel_rfl) rfl rfl rfl (by omega)) (Lq rfl (Ql (v:=zV x) (by kernel_rfl) rfl (by rw [map_at _ _ _ (by omega),hx])) ?_))))))
   refine Le rfl (zK [_] (e:=2) (sz:=1) (by kernel_rfl) ⟨.int .i64 0,by kernel_rfl,rfl⟩ rfl rfl rfl (by omega) (by omega) ?_)
   intro g29
   refine Le rfl (Ea Hr.elemA rfl rfl (SrcOf.blk (by kernel_rfl) rfl (by simp [Value.oneCell'])) (by unfold maxLen;omega) (by omega) ?_)
   rintro p2 c2 hp2
   try simp only [cA,nA]
   rw [map_snoc zV acc x]
   refine La rfl rfl (Ld (TR (Lm rfl rfl (Lq rfl (Qd rfl rfl (Ze (by omega) (by omega))) (La rfl rfl (Ld ?_))))))
   refine ⟨_,?_,_,⟨_,i+1,acc++[x],p2,c2,n+1,⟨by omega,by rw [htk,List.filter_append,hacc];simp [he],by simp [hn],by omega⟩,rfl,(Za rfl (Za rfl (Za rfl (Za rfl (Za rfl rfl))))),rfl⟩,Sa⟩
   omega
  refine Tk (TR (Lm rfl rfl (Lq rfl (Qd rfl rfl (Ze (by omega) (by omega))) (La rfl rfl (Ld ?_)))))
  refine ⟨_,?_,_,⟨_,i+1,acc,p,c,n,⟨by omega,by rw [htk,List.filter_append,hacc];simp at he;simp [he],hn,by omega⟩,rfl,(Za rfl (Za rfl (Za rfl (Za rfl (Za rfl rfl))))),rfl⟩,Sa⟩
  omega
 rw [List.take_of_length_le (by omega)] at hacc
 rw [←hacc]
 subst hn
 refine zB (TS (Lm rfl rfl (Lq rfl (Qf (off:=4) (by kernel_rfl) rfl) ?_)))
 refine L0 rfl (E1 (by kernel_rfl) rfl rfl rfl (by first | (simp;done) | (simp;omega)) ?_)
 try simp only [List.set_cons_zero,List.set_cons_succ]
 refine Ld (TS (Lq rfl (QL [_,_,_,_,_,_,_,_] (by kernel_rfl) rfl ⟨rfl,rfl,rfl,rfl,rfl,rfl,rfl,rfl,trivial⟩) ?_))
 refine L0 rfl (Es [_,_,_,_,_,_,_,_] (by kernel_rfl) rfl rfl rfl rfl (by simp) ?_)
 try simp only [splice,lC,lN,dS,cA,tS,tZ,dZ,nA,aN]
 refine Ld (T.ret ?_)
 exact ⟨.inl rfl,_,_,res [_] rfl ⟨rvA [_,_,_,_,_,_,_,_] (by kernel_rfl) rfl ⟨rfl,rfl,rfl,rfl,rfl,rfl,rfl,rfl,trivial⟩,trivial⟩,⟨⟨pv,cv,p,c,pc,cc,pe,ce⟩,rfl,rfl⟩,Sa⟩
theorem Hr.abort (B:Wn) (q:HrQ) (h:HR) (t:Int) (m:Nat) (hs:HrS h m) (hm:m<2^32):Fn Tryz.prog B 68 #[hrV q h,.int .i64 t] (hrL q h) (fun u l => ∃ q',u = .tuple #[hrV q' (abortR h t).1,.int .i64 (abortR h t).2]∧l=hrL q' (abortR h t).1):=by
  have s2:=hs.a
  by_cases ha:Zp h t=true
  · rw [show abortR h t=(Zo h t,0) by unfold abortR;rw [if_pos ha]]
    refine Wr 14 Tryz.func68 rfl rfl (nB rfl) (fun F=>?_)
    try simp only [cA,nA]
    refine TS ?_
    refine Le rfl (zL [_,_,_,_,_,_,_,_] rfl rfl ?_)
    intro g2
    refine Le rfl (El [.int .i64 0,.int .i64 0,.int .i64 0,.slice none 0 0,.slice none 0 0,.slice none 0 0,.int .i64 0,.slice none 0 0] (by unfold Zf;kernel_rfl) ?_)
    intro g4
    refine La rfl rfl (Ld (Ts (TS (Lq rfl (QL [_,_,_,_,_,_,_,_] (by kernel_rfl) rfl ⟨rfl,rfl,rfl,rfl,rfl,rfl,rfl,rfl,trivial⟩) (Lm rfl rfl ?_)))))
    refine Le rfl (Ec (Hr.isActive B q h t (by omega)) Tryz.func82 rfl rfl rfl ?_)
    rintro _ _ ⟨rfl,rfl⟩
    try simp only [cA,nA]
    rw [ha]
    refine Lq rfl (Y2 rfl) (Ld (yQ rfl (Tk (TS (Lq rfl (QL [_,_,_,_,_,_,_,_] (by kernel_rfl) rfl ⟨rfl,rfl,rfl,rfl,rfl,rfl,rfl,rfl,trivial⟩) (Lm rfl rfl ?_))))))
    refine Le rfl (Ec (Hr.without B q h t m hs hm) Tryz.func85 rfl rfl rfl ?_)
    rintro _ _ ⟨q1,rfl,rfl⟩
    try simp only [cA,nA]
    refine L0 rfl (Es [_,_,_,_,_,_,_,_] (by kernel_rfl) rfl rfl rfl rfl (by simp) ?_)
    try simp only [splice,lC,lN,dS,cA,tS,tZ,dZ,nA,aN]
    refine La rfl rfl (Ld (T.ret ?_))
    exact ⟨.inl rfl,_,_,res [_,_] rfl ⟨rvA [_,_,_,_,_,_,_,_] (by kernel_rfl) rfl ⟨rfl,rfl,rfl,rfl,rfl,rfl,rfl,rfl,trivial⟩,rvT rfl,trivial⟩,⟨q1,rfl,rfl⟩,Sa⟩
  · rw [show abortR h t=(h,70) by unfold abortR;rw [if_neg ha]]
    rw [Bool.not_eq_true] at ha
    refine Wr 14 Tryz.func68 rfl rfl (nB rfl) (fun F=>?_)
    try simp only [cA,nA]
    refine TS ?_
    refine Le rfl (zL [_,_,_,_,_,_,_,_] rfl rfl ?_)
    intro g2
    refine Le rfl (El [.int .i64 0,.int .i64 0,.int .i64 0,.slice none 0 0,.slice none 0 0,.slice none 0 0,.int .i64 0,.slice none 0 0] (by unfold Zf;kernel_rfl) ?_)
    intro g4
    refine La rfl rfl (Ld (Ts (TS (Lq rfl (QL [_,_,_,_,_,_,_,_] (by kernel_rfl) rfl ⟨rfl,rfl,rfl,rfl,rfl,rfl,rfl,rfl,trivial⟩) (Lm rfl rfl ?_)))))
    refine Le rfl (Ec (Hr.isActive B q h t (by omega)) Tryz.func82 rfl rfl rfl ?_)
    rintro _ _ ⟨rfl,rfl⟩
    try simp only [cA,nA]
    rw [ha]
    refine Lq rfl (Y2 rfl) (Ld (zF rfl (TS (Lq rfl (QL [_,_,_,_,_,_,_,_] (by kernel_rfl) rfl ⟨rfl,rfl,rfl,rfl,rfl,rfl,rfl,rfl,trivial⟩) ?_))))
    refine L0 rfl (Es [_,_,_,_,_,_,_,_] (by kernel_rfl) rfl rfl rfl rfl (by simp) ?_)
    try simp only [splice,lC,lN,dS,cA,tS,tZ,dZ,nA,aN]
    refine La rfl rfl (Ld (T.ret ?_))
    exact ⟨.inl rfl,_,_,res [_,_] rfl ⟨rvA [_,_,_,_,_,_,_,_] (by kernel_rfl) rfl ⟨rfl,rfl,rfl,rfl,rfl,rfl,rfl,rfl,trivial⟩,rvT rfl,trivial⟩,⟨q,rfl,rfl⟩,Sa⟩
open Go.RowKit
structure HrK (h:HR) (m:Nat):Prop where
 s:HrS h m
 m:m<2^32
 r:RInv h
 pages:h.pages≤4096
 room:h.room<2^30
 last:h.last<2^61
theorem HrK.used {h:HR} {m:Nat} (k:HrK h m):0≤h.used∧h.used≤h.room:=⟨by have:=k.r.ok.used;omega,k.r.ok.le⟩
structure HrW (h:HR) (m:Nat):Prop where
 s:HrS h m
 m:m<2^32
 pages:h.pages≤4096
 room:h.room<2^30
 u:0≤h.used∧h.used<2^40
 pg : ∀ q,Wi h.vs q≤256
theorem HrK.w {h:HR} {m:Nat} (k:HrK h m):HrW h m:=⟨k.s,k.m,k.pages,k.room,by have:=k.used;have:=k.room;omega,k.r.ok.room⟩
theorem usedP_take (vs:List Ver) (q i:Nat):Wi (vs.take i) q≤Wi vs q:=by
 have:vs=vs.take i++vs.drop i:=(List.take_append_drop i vs).symm
 conv=>rhs;rw [this]
 unfold Wi
 rw [Wc,usedV_append]
 omega
theorem pageV_take (vs:List Ver) (q i:Nat):(Zh (vs.take i) q).length≤i:=by
 unfold Zh
 refine Nat.le_trans (List.length_filter_le _ _) ?_
 simp;omega
theorem Hr.used (B:Wn) (q:HrQ) (h:HR) (m:Nat) (k:HrW h m) (p:Nat) (pi:Int) (hpi:pi=p):Fn Tryz.prog B 114 #[hrV q h,.int .i64 pi] (hrL q h) (fun u l=>u = .tuple #[.int .i64 (Wi h.vs p),.int .i64 (Zh h.vs p).length]∧l=hrL q h):=by
 subst hpi
 have hlen:=k.s.v
 have hm:=k.m
 have hrm:=k.pg p
 obtain ⟨pv,cv,pa,ca,pc,cc,pe,ce⟩:=q
 dsimp only [hrV,hrL]
 refine Wr 38 Tryz.func114 rfl rfl (nB rfl) (fun F=>?_)
 try simp only [cA,nA]
 refine T.own fun w ho=>?_
 have hp:0<h.vs.length → ∃ g,pv=some ⟨g,0,none⟩:=((ho.map Sa:Own B w [verR pv h.vs.length cv h.vs]).slice_at (p:=pv) (m:=h.vs.length) (c:=cv)).2.1
 clear ho
 refine TS ?_
 refine Le rfl (zL [_,_,_,_,_,_,_,_] rfl rfl ?_)
 intro g2
 refine La rfl rfl (La rfl rfl (Ld (TS (La rfl rfl (Ld (Ts ?_))))))
 refine TR (La rfl rfl (Ld (Ts (TS (La rfl rfl (Ld ?_))))))
 refine yH ?_
 refine zG (fun mz fz lz => ∃ (f0:Fr) (i n c:Nat),(i≤h.vs.length∧n=Wi (h.vs.take i) p∧c=(Zh (h.vs.take i) p).length)∧mz=h.vs.length-i∧fz=(upd (upd (upd (upd (upd f0 1 (.int .i64 p)) 2 (.pointer (some ⟨g2,0,none⟩))) 6 (.int .i64 n)) 7 (.int .i64 c)) 8 (.int .i64 i))∧lz=blk g2 (hrC ⟨pv,cv,pa,ca,pc,cc,pe,ce⟩ h) 81::hrL ⟨pv,cv,pa,ca,pc,cc,pe,ce⟩ h++F) ?_ ?_
 · refine ⟨_,_,⟨_,0,13,0,⟨Nat.zero_le _,rfl,rfl⟩,rfl,(Za rfl (Za rfl (Za rfl (Za rfl (Za rfl rfl))))),rfl⟩,Sa⟩
 rintro mz fz lz ⟨f0,i,n,c,⟨hi,hn,hc⟩,hmz,rfl,rfl⟩
 subst mz
 try simp only [cA,nA]
 refine Ts (TS (Lm rfl rfl (Lq rfl (Qf (off:=3) (by kernel_rfl) rfl) (Lq rfl (Ql (by kernel_rfl) rfl rfl) (Lq rfl (yI (e:=191) (sz:=5) (by kernel_rfl) rfl) (Lq rfl (yM rfl rfl) ?_))))))
 refine Ld ?_
 refine yN rfl (fun hlt=>?_) (fun hlt=>?_)
 ·
  obtain ⟨g,rfl⟩:=hp (by omega)
  obtain ⟨x,hx⟩ : ∃ x,h.vs[i]'(by omega)=x:=⟨_,rfl⟩
  have htk:h.vs.take (i+1)=h.vs.take i++[x]:=by rw [List.take_succ_eq_append_getElem (by omega),hx]
  have hu1:=usedP_take h.vs p (i+1)
  have hc1:=pageV_take h.vs p i
  refine Tk (Ts (yH (TS (Lq rfl (Qf (off:=3) (by kernel_rfl) rfl) (Lq rfl (Ql (by kernel_rfl) rfl rfl) (Lm rfl rfl ?_))))))
  refine Lq rfl (Qi _ (e:=191) (sz:=5) (by kernel_rfl) rfl rfl rfl (by omega)) (Lq rfl (Q0 (by kernel_rfl) rfl) (Lq rfl (Ql (v := .int .i64 x.page) (by kernel_rfl) rfl (flat_cell0 vrC 5 h.vs (fun _ _=>rfl) i (by omega) (by rw [hx];rfl))) (Lm rfl rfl (Lq rfl (yU rfl rfl) (Ld ?_)))))
  refine yN rfl (fun he=>?_) (fun he=>?_)
  ·
   have hxp:x.page=p:=by omega
   have hu2:Wi (h.vs.take (i+1)) p=n+(17+x.data.length):=by rw [htk,hn];unfold Wi;rw [Wc,usedV_append];simp [Zh,usedV,hxp];omega
   have hc2:(Zh (h.vs.take (i+1)) p).length=c+1:=by rw [htk,hc,Wc];simp [Zh,hxp]
   refine TS (Lm rfl rfl (Lq rfl (Qf (off:=3) (by kernel_rfl) rfl) (Lq rfl (Ql (by kernel_rfl) rfl rfl) (Lm rfl rfl (Lq rfl (Qi _ (e:=191) (sz:=5) (by kernel_rfl) rfl rfl rfl (by omega)) (Lq rfl (Qf (off:=4) (by kernel_rfl) rfl) ?_))))))
   refine Lq rfl (Ql (v:=strW x.data) (by kernel_rfl) rfl (flat_cell vrC 5 h.vs (fun _ _=>rfl) i 4 (by omega) (by rw [hx];rfl))) (Lq rfl (YU (by kernel_rfl) rfl) (Lq rfl (Qd rfl rfl (Ze (by omega) (by omega))) (Lq rfl (Qd rfl rfl (Ze (by omega) (by omega))) (La rfl rfl (Ld (TR (Lm rfl rfl ?_)))))))
   refine Lq rfl (Qd rfl rfl (Ze (by omega) (by omega))) (La rfl rfl (Ld (TR (Lm rfl rfl (Lq rfl (Qd rfl rfl (Ze (by omega) (by omega))) (La rfl rfl (Ld ?_)))))))
   refine ⟨_,?_,_,⟨_,i+1,n+(17+x.data.length),c+1,⟨by omega,hu2.symm,hc2.symm⟩,rfl,(Za rfl (Za rfl (Za rfl (Za rfl (Za rfl rfl))))),rfl⟩,Sa⟩
   omega
  have hxp:x.page≠p:=by omega
  refine Tk (TR (Lm rfl rfl (Lq rfl (Qd rfl rfl (Ze (by omega) (by omega))) (La rfl rfl (Ld ?_)))))
  refine ⟨_,?_,_,⟨_,i+1,n,c,⟨by omega,by rw [htk,hn];unfold Wi;rw [Wc,usedV_append];simp [Zh,usedV,hxp],by rw [htk,hc,Wc];simp [Zh,hxp]⟩,rfl,(Za rfl (Za rfl (Za rfl (Za rfl (Za rfl rfl))))),rfl⟩,Sa⟩
  omega
 rw [List.take_of_length_le (by omega)] at hn hc
 subst hn
 subst hc
 refine zB (TS (Lm rfl rfl (Lm rfl rfl (La rfl rfl (La rfl rfl (Ld ?_))))))
 refine T.ret ?_
 exact ⟨.inl rfl,_,_,res [_,_] rfl ⟨rvT rfl,rvT rfl,trivial⟩,⟨rfl,rfl⟩,Sa⟩
theorem roomy_step {h:HR} {n p:Nat} (hno : ∀ j,j<p → ¬ Wi h.vs j+17+n≤256) (hp : ¬ Wi h.vs p+17+n≤256) : ∀ j,j<p+1 → ¬ Wi h.vs j+17+n≤256:=by
 intro j hj
 by_cases e:j=p
 · subst e;exact hp
 · exact hno j (by omega)
theorem Hr.add (B:Wn) (q:HrQ) (h:HR) (m:Nat) (k:HrW h m) (t:Int) (d:List UInt8) (hdl:d.length<2^30):Fn Tryz.prog B 66 #[hrV q h,.int .i64 t,strW d] (hrL q h) (fun u l => ∃ q',u = .tuple #[hrV q' (Wm h t d).1,.int .i64 (Wm h t d).2.1,.int .i64 (Wm h t d).2.2.1,.int .i64 (Wm h t d).2.2.2]∧l=hrL q' (Wm h t d).1):=by
  have s2:=k.s.a
  have hm:=k.m
  have hpg:=k.pages
  have hrmb:=k.room
  obtain ⟨hu0,hu1⟩:=k.u
  by_cases ha:Zp h t=true
  · by_cases hl:184<d.length
    · rw [hAdd_long d ha hl]
      refine Ws 61 Tryz.func66 rfl rfl (nB rfl) (fun F=>?_)
      try simp only [cA,nA]
      refine TS ?_
      refine Le rfl (zL [_,_,_,_,_,_,_,_] rfl rfl ?_)
      intro g3
      refine Le rfl (El [.int .i64 0,.int .i64 0,.int .i64 0,.slice none 0 0,.slice none 0 0,.slice none 0 0,.int .i64 0,.slice none 0 0] (by unfold Zf;kernel_rfl) ?_)
      intro g6
      refine La rfl rfl (La rfl rfl (La rfl rfl (Ld (Ts (TS (Lq rfl (QL [_,_,_,_,_,_,_,_] (by kernel_rfl) rfl ⟨rfl,rfl,rfl,rfl,rfl,rfl,rfl,rfl,trivial⟩) ?_))))))
      refine Lm rfl rfl ?_
      refine Le rfl (Ec (Hr.isActive B q h t (by omega)) Tryz.func82 rfl rfl rfl ?_)
      rintro _ _ ⟨rfl,rfl⟩
      try simp only [cA,nA]
      rw [ha]
      refine Lq rfl (Y2 rfl) (Ld (yQ rfl (Tk (Ts (TS (Lm rfl rfl ?_))))))
      refine Lq rfl (YU (by kernel_rfl) rfl) (Lq rfl (yZ rfl rfl) (Ld (zM rfl (by omega) (TS (Lq rfl (QL [_,_,_,_,_,_,_,_] (by kernel_rfl) rfl ⟨rfl,rfl,rfl,rfl,rfl,rfl,rfl,rfl,trivial⟩) ?_)))))
      refine L0 rfl (Es [_,_,_,_,_,_,_,_] (by kernel_rfl) rfl rfl rfl rfl (by simp) ?_)
      try simp only [splice,lC,lN,dS,cA,tS,tZ,dZ,nA,aN]
      refine La rfl rfl (La rfl rfl (La rfl rfl (Ld (T.ret ?_))))
      exact ⟨.inl rfl,_,_,res [_,_,_,_] rfl ⟨rvA [_,_,_,_,_,_,_,_] (by kernel_rfl) rfl ⟨rfl,rfl,rfl,rfl,rfl,rfl,rfl,rfl,trivial⟩,rvT rfl,rvT rfl,rvT rfl,trivial⟩,⟨q,rfl,rfl⟩,Sa⟩
    refine Ws 61 Tryz.func66 rfl rfl (nB rfl) (fun F=>?_)
    try simp only [cA,nA]
    refine TS ?_
    refine Le rfl (zL [_,_,_,_,_,_,_,_] rfl rfl ?_)
    intro g3
    refine Le rfl (El [.int .i64 0,.int .i64 0,.int .i64 0,.slice none 0 0,.slice none 0 0,.slice none 0 0,.int .i64 0,.slice none 0 0] (by unfold Zf;kernel_rfl) ?_)
    intro g6
    refine La rfl rfl (La rfl rfl (La rfl rfl (Ld (Ts (TS (Lq rfl (QL [_,_,_,_,_,_,_,_] (by kernel_rfl) rfl ⟨rfl,rfl,rfl,rfl,rfl,rfl,rfl,rfl,trivial⟩) ?_))))))
    refine Lm rfl rfl ?_
    refine Le rfl (Ec (Hr.isActive B q h t (by omega)) Tryz.func82 rfl rfl rfl ?_)
    rintro _ _ ⟨rfl,rfl⟩
    try simp only [cA,nA]
    rw [ha]
    refine Lq rfl (Y2 rfl) (Ld (yQ rfl (Tk (Ts (TS (Lm rfl rfl ?_))))))
    refine Lq rfl (YU (by kernel_rfl) rfl) (Lq rfl (yZ rfl rfl) (Ld (yL rfl (by omega) (Tk (Ts (TS ?_))))))
    refine La rfl rfl (Ld (yH ?_))
    refine zG (fun mz fz lz => ∃ (f0:Fr) (p:Nat),(p≤h.pages ∧ ∀ j,j<p → ¬ Wi h.vs j+17+d.length≤256)∧mz=h.pages-p∧fz=(upd (upd (upd (upd (upd f0 1 (.int .i64 t)) 2 (strW d)) 3 (.pointer (some ⟨g3,0,none⟩))) 6 (.pointer (some ⟨g6,0,none⟩))) 10 (.int .i64 p))∧lz=blk g6 hr0 81::blk g3 (hrC q h) 81::hrL q h++F) ?_ ?_
    · refine ⟨_,_,⟨_,0,⟨Nat.zero_le _,fun j hj=>by omega⟩,rfl,(Za rfl (Za rfl (Za rfl (Za rfl (Za rfl rfl))))),rfl⟩,Sa⟩
    rintro mz fz lz ⟨f0,p,⟨hp,hno⟩,hmz,rfl,rfl⟩
    subst mz
    try simp only [cA,nA]
    refine Ts (TS (Lm rfl rfl (Lq rfl (Q0 (by kernel_rfl) rfl) (Lq rfl (Ql (by kernel_rfl) rfl rfl) (Lq rfl (yM rfl rfl) (Ld ?_))))))
    refine yN rfl (fun hlt=>?_) (fun hlt=>?_)
    · skip
      have hup:=k.pg p
      refine Tk (Ts (yH (TS (Lq rfl (QL [_,_,_,_,_,_,_,_] (by kernel_rfl) rfl ⟨rfl,rfl,rfl,rfl,rfl,rfl,rfl,rfl,trivial⟩) (Lm rfl rfl ?_)))))
      refine Le rfl (Ec (Hr.used B q h m k p p rfl) Tryz.func114 rfl rfl rfl ?_)
      rintro _ _ ⟨rfl,rfl⟩
      try simp only [cA,nA]
      refine Lm rfl rfl (Lq rfl (Qx rfl rfl) (Lq rfl (Qx rfl rfl) (La rfl rfl (La rfl rfl (Ld (Ts (Ts ?_)))))))
      refine TR (Lm rfl rfl (Lq rfl (Qd rfl rfl (Ze (by omega) (by omega))) (Lm rfl rfl (Lq rfl (YU (by kernel_rfl) rfl) (Lq rfl (Qd rfl rfl (Ze (by omega) (by omega))) (Lq rfl (yZ rfl rfl) (Ld ?_)))))))
      refine yN rfl (fun hfit=>?_) (fun hfit=>?_)
      · skip
        refine zB (TR (Lm rfl rfl (Lq rfl (Qd rfl rfl (Ze (by omega) (by omega))) (La rfl rfl (Ld ?_)))))
        refine ⟨_,?_,_,⟨_,p+1,⟨by omega,roomy_step hno (by omega)⟩,rfl,(Za rfl (Za rfl (Za rfl (Za rfl (Za rfl rfl))))),rfl⟩,Sa⟩
        omega
      have hr:roomyP h d.length=some p:=roomy_of (by omega) (by omega) hno
      refine Tk (Ts (TS (Lq rfl (Qf (off:=2) (by kernel_rfl) rfl) (Lq rfl (Ql (by kernel_rfl) rfl rfl) (Lq rfl (Qd rfl rfl (Ze (by omega) (by omega))) (Lq rfl (Qd rfl rfl (Ze (by omega) (by omega))) ?_))))))
      refine Lm rfl rfl (Lq rfl (YU (by kernel_rfl) rfl) (Lq rfl (Qd rfl rfl (Ze (by omega) (by omega))) (Lq rfl (Qf (off:=1) (by kernel_rfl) rfl) (Lq rfl (Ql (by kernel_rfl) rfl rfl) (Lq rfl (yZ rfl rfl) (Ld ?_))))))
      refine yN rfl (fun hfull=>?_) (fun hfull=>?_)
      · skip
        rw [show Wm h t d=(h,0,0,3) by unfold Wm;rw [if_pos ha,if_neg hl,hr];dsimp only;rw [if_pos (by omega)]]
        refine TS (Lq rfl (QL [_,_,_,_,_,_,_,_] (by kernel_rfl) rfl ⟨rfl,rfl,rfl,rfl,rfl,rfl,rfl,rfl,trivial⟩) ?_)
        refine L0 rfl (Es [_,_,_,_,_,_,_,_] (by kernel_rfl) rfl rfl rfl rfl (by simp) ?_)
        try simp only [splice,lC,lN,dS,cA,tS,tZ,dZ,nA,aN]
        refine La rfl rfl (La rfl rfl (La rfl rfl (Ld (T.ret ?_))))
        exact ⟨.inl rfl,_,_,res [_,_,_,_] rfl ⟨rvA [_,_,_,_,_,_,_,_] (by kernel_rfl) rfl ⟨rfl,rfl,rfl,rfl,rfl,rfl,rfl,rfl,trivial⟩,rvT rfl,rvT rfl,rvT rfl,trivial⟩,⟨q,rfl,rfl⟩,Sa⟩
      rw [hAdd_ok d ha (by omega) hr (by omega)]
      refine Tk (TS (Lq rfl (QL [_,_,_,_,_,_,_,_] (by kernel_rfl) rfl ⟨rfl,rfl,rfl,rfl,rfl,rfl,rfl,rfl,trivial⟩) (Lm rfl rfl (Lm rfl rfl (Lm rfl rfl (Lm rfl rfl ?_))))))
      refine Lq rfl (z8 [(0,1),(1,1),(2,1),(3,1),(4,1),(5,1)] [.int .i64 0,.int .i64 0,.int .i64 0,.int .i64 0,.int .i64 0,.string .empty] [_,_,_,_,_,_] [(0,_),(1,_),(2,_),(3,_),(5,_)] (by kernel_rfl) (by unfold Zf;kernel_rfl) rfl rfl) ?_
      refine Le rfl (Ec (Hr.write B q h ⟨1,t,p,(Zh h.vs p).length,0,d⟩ m k.s k.m (by omega) (.inl rfl) (by dsimp only;omega) (fun e=>absurd rfl e) hdl (fun e=>by cases e)) Tryz.func79 rfl rfl rfl ?_)
      rintro _ _ ⟨q1,rfl,rfl⟩
      try simp only [cA,nA]
      refine Lm rfl rfl (Lm rfl rfl ?_)
      refine L0 rfl (Es [_,_,_,_,_,_,_,_] (by kernel_rfl) rfl rfl rfl rfl (by simp) ?_)
      try simp only [splice,lC,lN,dS,cA,tS,tZ,dZ,nA,aN]
      refine La rfl rfl (La rfl rfl (La rfl rfl (Ld (T.ret ?_))))
      exact ⟨.inl rfl,_,_,res [_,_,_,_] rfl ⟨rvA [_,_,_,_,_,_,_,_] (by kernel_rfl) rfl ⟨rfl,rfl,rfl,rfl,rfl,rfl,rfl,rfl,trivial⟩,rvT rfl,rvT rfl,rvT rfl,trivial⟩,⟨q1,rfl,rfl⟩,Sa⟩
    have hr:roomyP h d.length=none:=roomy_no (fun j hj=>hno j (by omega))
    rw [show Wm h t d=(h,0,0,3) by unfold Wm;rw [if_pos ha,if_neg hl,hr]]
    refine zB (TS (Lq rfl (QL [_,_,_,_,_,_,_,_] (by kernel_rfl) rfl ⟨rfl,rfl,rfl,rfl,rfl,rfl,rfl,rfl,trivial⟩) ?_))
    refine L0 rfl (Es [_,_,_,_,_,_,_,_] (by kernel_rfl) rfl rfl rfl rfl (by simp) ?_)
    try simp only [splice,lC,lN,dS,cA,tS,tZ,dZ,nA,aN]
    refine La rfl rfl (La rfl rfl (La rfl rfl (Ld (T.ret ?_))))
    exact ⟨.inl rfl,_,_,res [_,_,_,_] rfl ⟨rvA [_,_,_,_,_,_,_,_] (by kernel_rfl) rfl ⟨rfl,rfl,rfl,rfl,rfl,rfl,rfl,rfl,trivial⟩,rvT rfl,rvT rfl,rvT rfl,trivial⟩,⟨q,rfl,rfl⟩,Sa⟩
  · rw [show Wm h t d=(h,0,0,70) by unfold Wm;rw [if_neg ha]]
    rw [Bool.not_eq_true] at ha
    refine Ws 61 Tryz.func66 rfl rfl (nB rfl) (fun F=>?_)
    try simp only [cA,nA]
    refine TS ?_
    refine Le rfl (zL [_,_,_,_,_,_,_,_] rfl rfl ?_)
    intro g3
    refine Le rfl (El [.int .i64 0,.int .i64 0,.int .i64 0,.slice none 0 0,.slice none 0 0,.slice none 0 0,.int .i64 0,.slice none 0 0] (by unfold Zf;kernel_rfl) ?_)
    intro g6
    refine La rfl rfl (La rfl rfl (La rfl rfl (Ld (Ts (TS (Lq rfl (QL [_,_,_,_,_,_,_,_] (by kernel_rfl) rfl ⟨rfl,rfl,rfl,rfl,rfl,rfl,rfl,rfl,trivial⟩) ?_))))))
    refine Lm rfl rfl ?_
    refine Le rfl (Ec (Hr.isActive B q h t (by omega)) Tryz.func82 rfl rfl rfl ?_)
    rintro _ _ ⟨rfl,rfl⟩
    try simp only [cA,nA]
    rw [ha]
    refine Lq rfl (Y2 rfl) (Ld (zF rfl (TS (Lq rfl (QL [_,_,_,_,_,_,_,_] (by kernel_rfl) rfl ⟨rfl,rfl,rfl,rfl,rfl,rfl,rfl,rfl,trivial⟩) ?_))))
    refine L0 rfl (Es [_,_,_,_,_,_,_,_] (by kernel_rfl) rfl rfl rfl rfl (by simp) ?_)
    try simp only [splice,lC,lN,dS,cA,tS,tZ,dZ,nA,aN]
    refine La rfl rfl (La rfl rfl (La rfl rfl (Ld (T.ret ?_))))
    exact ⟨.inl rfl,_,_,res [_,_,_,_] rfl ⟨rvA [_,_,_,_,_,_,_,_] (by kernel_rfl) rfl ⟨rfl,rfl,rfl,rfl,rfl,rfl,rfl,rfl,trivial⟩,rvT rfl,rvT rfl,rvT rfl,trivial⟩,⟨q,rfl,rfl⟩,Sa⟩
open Go.RowKit
theorem Hr.end_ (B:Wn) (q:HrQ) (h:HR) (m:Nat) (k:HrK h m) (t p s:Int):Fn Tryz.prog B 67 #[hrV q h,.int .i64 t,.int .i64 p,.int .i64 s] (hrL q h) (fun u l => ∃ q',u = .tuple #[hrV q' (endR h t p s).1,.int .i64 (endR h t p s).2]∧l=hrL q' (endR h t p s).1):=by
  have s1:=k.s.v
  have s2:=k.s.a
  have s3:=k.s.c
  have hm:=k.m
  have hrmb:=k.room
  obtain ⟨hu0,hu1⟩:=k.used
  by_cases ha:Zp h t=true
  · cases hi:We h.vs p s with
    | none =>
      rw [show endR h t p s=(h,4) by unfold endR;rw [if_pos ha,hi];rfl]
      refine Fn.enter4 71 Tryz.func67 rfl rfl (nB rfl) (fun F=>?_)
      try simp only [cA,nA]
      refine TS ?_
      refine Le rfl (zL [_,_,_,_,_,_,_,_] rfl rfl ?_)
      intro g4
      refine Le rfl (El [.int .i64 0,.int .i64 0,.int .i64 0,.slice none 0 0,.slice none 0 0,.slice none 0 0,.int .i64 0,.slice none 0 0] (by unfold Zf;kernel_rfl) ?_)
      intro g8
      refine La rfl rfl (Ld (Ts (TS (Lq rfl (QL [_,_,_,_,_,_,_,_] (by kernel_rfl) rfl ⟨rfl,rfl,rfl,rfl,rfl,rfl,rfl,rfl,trivial⟩) (Lm rfl rfl ?_)))))
      refine Le rfl (Ec (Hr.isActive B q h t (by omega)) Tryz.func82 rfl rfl rfl ?_)
      rintro _ _ ⟨rfl,rfl⟩
      try simp only [cA,nA]
      rw [ha]
      refine Lq rfl (Y2 rfl) (Ld (yQ rfl (Tk (TS (Lq rfl (QL [_,_,_,_,_,_,_,_] (by kernel_rfl) rfl ⟨rfl,rfl,rfl,rfl,rfl,rfl,rfl,rfl,trivial⟩) (Lm rfl rfl ?_))))))
      refine Lm rfl rfl ?_
      refine Le rfl (Ec (Hr.find B q h p s (by omega)) Tryz.func81 rfl rfl rfl ?_)
      rintro _ _ ⟨rfl,rfl⟩
      try simp only [cA,nA]
      rw [hi]
      refine La rfl rfl (Ld (Ts (TS (Lm rfl rfl (Lq rfl (yM rfl rfl) (Ld ?_))))))
      refine zF rfl (TS (Lq rfl (QL [_,_,_,_,_,_,_,_] (by kernel_rfl) rfl ⟨rfl,rfl,rfl,rfl,rfl,rfl,rfl,rfl,trivial⟩) ?_))
      refine L0 rfl (Es [_,_,_,_,_,_,_,_] (by kernel_rfl) rfl rfl rfl rfl (by simp) ?_)
      try simp only [splice,lC,lN,dS,cA,tS,tZ,dZ,nA,aN]
      refine La rfl rfl (Ld (T.ret ?_))
      exact ⟨.inl rfl,_,_,res [_,_] rfl ⟨rvA [_,_,_,_,_,_,_,_] (by kernel_rfl) rfl ⟨rfl,rfl,rfl,rfl,rfl,rfl,rfl,rfl,trivial⟩,rvT rfl,trivial⟩,⟨q,rfl,rfl⟩,Sa⟩
    | some i =>
      obtain ⟨v,hvi,hvp,hvs⟩:=findV_some hi
      have hil:=(List.getElem?_eq_some_iff.1 hvi).1
      have hv:(We h.vs p s).bind (h.vs[·]?)=some v:=by rw [hi];exact hvi
      refine Fn.enter4 71 Tryz.func67 rfl rfl (nB rfl) (fun F=>?_)
      try simp only [cA,nA]
      refine TS ?_
      refine Le rfl (zL [_,_,_,_,_,_,_,_] rfl rfl ?_)
      intro g4
      refine Le rfl (El [.int .i64 0,.int .i64 0,.int .i64 0,.slice none 0 0,.slice none 0 0,.slice none 0 0,.int .i64 0,.slice none 0 0] (by unfold Zf;kernel_rfl) ?_)
      intro g8
      refine La rfl rfl (Ld (Ts (TS (Lq rfl (QL [_,_,_,_,_,_,_,_] (by kernel_rfl) rfl ⟨rfl,rfl,rfl,rfl,rfl,rfl,rfl,rfl,trivial⟩) (Lm rfl rfl ?_)))))
      refine Le rfl (Ec (Hr.isActive B q h t (by omega)) Tryz.func82 rfl rfl rfl ?_)
      rintro _ _ ⟨rfl,rfl⟩
      try simp only [cA,nA]
      rw [ha]
      refine Lq rfl (Y2 rfl) (Ld (yQ rfl (Tk (TS (Lq rfl (QL [_,_,_,_,_,_,_,_] (by kernel_rfl) rfl ⟨rfl,rfl,rfl,rfl,rfl,rfl,rfl,rfl,trivial⟩) (Lm rfl rfl ?_))))))
      refine Lm rfl rfl ?_
      refine Le rfl (Ec (Hr.find B q h p s (by omega)) Tryz.func81 rfl rfl rfl ?_)
      rintro _ _ ⟨rfl,rfl⟩
      try simp only [cA,nA]
      rw [hi]
      refine La rfl rfl (Ld (Ts (TS (Lm rfl rfl (Lq rfl (yM rfl rfl) (Ld ?_))))))
      refine yQ rfl ?_
      obtain ⟨pv,cv,pa,ca,pc,cc,pe,ce⟩:=q
      refine T.own fun w ho=>?_
      obtain ⟨gv,rfl⟩ : ∃ g,pv=some ⟨g,0,none⟩:=((ho.map Sa:Own B w [verR pv h.vs.length cv h.vs]).slice_at (p:=pv) (m:=h.vs.length) (c:=cv)).2.1 (by omega)
      clear ho
      refine Tk (TS (Lq rfl (Qf (off:=3) (by kernel_rfl) rfl) (Lq rfl (Ql (by kernel_rfl) rfl rfl) (Lm rfl rfl (Lq rfl (Qi _ (e:=191) (sz:=5) (by kernel_rfl) rfl rfl rfl (by omega)) ?_)))))
      refine Lq rfl (QL [.int .i64 v.page,.int .i64 v.slot,.int .i64 v.beg,.int .i64 v.fin,strW v.data] (by kernel_rfl) rfl (by rw [show [Value.int .i64 v.page,.int .i64 v.slot,.int .i64 v.beg,.int .i64 v.fin,strW v.data]=vrC (h.vs[i]'hil) by rw [(List.getElem?_eq_some_iff.1 hvi).2]];exact rdl_flat _ _ _ (by intros;rfl) _ (by omega))) ?_
      refine Le rfl (El [.int .i64 0,.int .i64 0,.int .i64 0,.int .i64 0,.string .empty] (by unfold Zf;kernel_rfl) ?_)
      intro g11
      refine L0 rfl (Es [_,_,_,_,_] (by kernel_rfl) rfl rfl rfl rfl (by simp) ?_)
      try simp only [splice,lC,lN,dS,cA,tS,tZ,dZ,nA,aN]
      refine Ld ?_
      refine T.cut (fun fz lz => ∃ (f0:Fr) (z:Nat),(¬ ((v.beg≠t∧Wa h v.beg=false)∨v.fin=t∨Wa h v.fin=true))∧fz=(upd (upd (upd (upd (upd (upd f0 1 (.int .i64 t)) 2 (.int .i64 p)) 3 (.int .i64 s)) 4 (.pointer (some ⟨g4,0,none⟩))) 8 (.pointer (some ⟨g8,0,none⟩))) 11 (.pointer (some ⟨g11,0,none⟩)))∧lz=blk g11 (vrC v) 191::blk g8 hr0 81::blk g4 (hrC ⟨some ⟨gv,0,none⟩,cv,pa,ca,pc,cc,pe,ce⟩ h) 81::hrL ⟨some ⟨gv,0,none⟩,cv,pa,ca,pc,cc,pe,ce⟩ h++F) ?_ ?_
      · skip
        refine TS (Lq rfl (Qf (off:=2) (by kernel_rfl) rfl) (Lq rfl (Ql (by kernel_rfl) rfl rfl) (Lm rfl rfl (Lq rfl (yW rfl rfl) (Lm rfl rfl ?_)))))
        refine zZ (t:=33) rfl (fun h1=>?_) (fun h1=>?_)
        · skip
          try replace h1:=of_decide_eq_true h1
          refine Lq rfl (QL [_,_,_,_,_,_,_,_] (by kernel_rfl) rfl ⟨rfl,rfl,rfl,rfl,rfl,rfl,rfl,rfl,trivial⟩) (Lq rfl (Qf (off:=2) (by kernel_rfl) rfl) (Lq rfl (Ql (by kernel_rfl) rfl rfl) ?_))
          refine Le rfl (Ec (Hr.isCommitted B ⟨some ⟨gv,0,none⟩,cv,pa,ca,pc,cc,pe,ce⟩ h v.beg (by omega)) Tryz.func83 rfl rfl rfl ?_)
          rintro _ _ ⟨rfl,rfl⟩
          try simp only [cA,nA]
          by_cases hc1:Wa h v.beg=true
          · skip
            rw [hc1]
            refine Lq rfl (Y2 rfl) (Lq rfl (Qp rfl rfl) (Lm rfl rfl (yT (t:=40) rfl rfl (Lq rfl (Qf (off:=3) (by kernel_rfl) rfl) (Lq rfl (Ql (by kernel_rfl) rfl rfl) (Lm rfl rfl (Lq rfl (yU rfl rfl) ?_)))))))
            refine Lq rfl (Qp rfl rfl) (Lm rfl rfl ?_)
            refine zZ (t:=46) rfl (fun h2=>?_) (fun h2=>?_)
            · skip
              try replace h2:=of_decide_eq_true h2
              refine Ls rfl (Ls rfl (Ls rfl (Ls rfl (Lq rfl (Qp rfl rfl) (Ld (zF rfl ?_))))))
              rw [hEnd_no ha hv (.inr (.inl h2))]
              refine TS (Lq rfl (QL [_,_,_,_,_,_,_,_] (by kernel_rfl) rfl ⟨rfl,rfl,rfl,rfl,rfl,rfl,rfl,rfl,trivial⟩) ?_)
              refine L0 rfl (Es [_,_,_,_,_,_,_,_] (by kernel_rfl) rfl rfl rfl rfl (by simp) ?_)
              try simp only [splice,lC,lN,dS,cA,tS,tZ,dZ,nA,aN]
              refine La rfl rfl (Ld (T.ret ?_))
              exact ⟨.inl rfl,_,_,res [_,_] rfl ⟨rvA [_,_,_,_,_,_,_,_] (by kernel_rfl) rfl ⟨rfl,rfl,rfl,rfl,rfl,rfl,rfl,rfl,trivial⟩,rvT rfl,trivial⟩,⟨⟨some ⟨gv,0,none⟩,cv,pa,ca,pc,cc,pe,ce⟩,rfl,rfl⟩,Sa⟩
            try replace h2:=of_decide_eq_false h2
            refine Lq rfl (QL [_,_,_,_,_,_,_,_] (by kernel_rfl) rfl ⟨rfl,rfl,rfl,rfl,rfl,rfl,rfl,rfl,trivial⟩) (Lq rfl (Qf (off:=3) (by kernel_rfl) rfl) (Lq rfl (Ql (by kernel_rfl) rfl rfl) ?_))
            refine Le rfl (Ec (Hr.isCommitted B ⟨some ⟨gv,0,none⟩,cv,pa,ca,pc,cc,pe,ce⟩ h v.fin (by omega)) Tryz.func83 rfl rfl rfl ?_)
            rintro _ _ ⟨rfl,rfl⟩
            try simp only [cA,nA]
            by_cases hc2:Wa h v.fin=true
            · skip
              rw [hc2]
              refine Lq rfl (Qp rfl rfl) (Ld (zF rfl ?_))
              rw [hEnd_no ha hv (.inr (.inr hc2))]
              refine TS (Lq rfl (QL [_,_,_,_,_,_,_,_] (by kernel_rfl) rfl ⟨rfl,rfl,rfl,rfl,rfl,rfl,rfl,rfl,trivial⟩) ?_)
              refine L0 rfl (Es [_,_,_,_,_,_,_,_] (by kernel_rfl) rfl rfl rfl rfl (by simp) ?_)
              try simp only [splice,lC,lN,dS,cA,tS,tZ,dZ,nA,aN]
              refine La rfl rfl (Ld (T.ret ?_))
              exact ⟨.inl rfl,_,_,res [_,_] rfl ⟨rvA [_,_,_,_,_,_,_,_] (by kernel_rfl) rfl ⟨rfl,rfl,rfl,rfl,rfl,rfl,rfl,rfl,trivial⟩,rvT rfl,trivial⟩,⟨⟨some ⟨gv,0,none⟩,cv,pa,ca,pc,cc,pe,ce⟩,rfl,rfl⟩,Sa⟩
            rw [Bool.not_eq_true] at hc2
            rw [hc2]
            refine Lq rfl (Qp rfl rfl) (Ld (yQ rfl (Tk ?_)))
            exact ⟨_,⟨_,0,(by rintro (⟨_,e⟩ | e | e);(cases e);(exact h2 e);(cases e)),(Za rfl (Za rfl (Za rfl (Za rfl (Za rfl (Za rfl rfl)))))),rfl⟩,Sa⟩
          rw [Bool.not_eq_true] at hc1
          rw [hc1]
          refine Lq rfl (Y2 rfl) (Lq rfl (Qp rfl rfl) (Lm rfl rfl (zQ (t:=40) rfl rfl (Ls rfl (Ls rfl (Ls rfl (Ls rfl ?_)))))))
          refine Lq rfl (Qp rfl rfl) (Lm rfl rfl (zQ (t:=46) rfl rfl (Ls rfl (Ls rfl (Ls rfl (Ls rfl (Lq rfl (Qp rfl rfl) ?_)))))))
          refine Ld (zF rfl ?_)
          rw [hEnd_no ha hv (.inl ⟨h1,hc1⟩)]
          refine TS (Lq rfl (QL [_,_,_,_,_,_,_,_] (by kernel_rfl) rfl ⟨rfl,rfl,rfl,rfl,rfl,rfl,rfl,rfl,trivial⟩) ?_)
          refine L0 rfl (Es [_,_,_,_,_,_,_,_] (by kernel_rfl) rfl rfl rfl rfl (by simp) ?_)
          try simp only [splice,lC,lN,dS,cA,tS,tZ,dZ,nA,aN]
          refine La rfl rfl (Ld (T.ret ?_))
          exact ⟨.inl rfl,_,_,res [_,_] rfl ⟨rvA [_,_,_,_,_,_,_,_] (by kernel_rfl) rfl ⟨rfl,rfl,rfl,rfl,rfl,rfl,rfl,rfl,trivial⟩,rvT rfl,trivial⟩,⟨⟨some ⟨gv,0,none⟩,cv,pa,ca,pc,cc,pe,ce⟩,rfl,rfl⟩,Sa⟩
        try replace h1:=of_decide_eq_false h1
        have h1:v.beg=t:=by omega
        refine Ls rfl (Ls rfl (Ls rfl (Ls rfl (Ls rfl (Lq rfl (Qp rfl rfl) (Lm rfl rfl (yT (t:=40) rfl rfl ?_)))))))
        refine Lq rfl (Qf (off:=3) (by kernel_rfl) rfl) (Lq rfl (Ql (by kernel_rfl) rfl rfl) (Lm rfl rfl (Lq rfl (yU rfl rfl) (Lq rfl (Qp rfl rfl) (Lm rfl rfl ?_)))))
        refine zZ (t:=46) rfl (fun h2=>?_) (fun h2=>?_)
        · skip
          try replace h2:=of_decide_eq_true h2
          refine Ls rfl (Ls rfl (Ls rfl (Ls rfl (Lq rfl (Qp rfl rfl) (Ld (zF rfl ?_))))))
          rw [hEnd_no ha hv (.inr (.inl h2))]
          refine TS (Lq rfl (QL [_,_,_,_,_,_,_,_] (by kernel_rfl) rfl ⟨rfl,rfl,rfl,rfl,rfl,rfl,rfl,rfl,trivial⟩) ?_)
          refine L0 rfl (Es [_,_,_,_,_,_,_,_] (by kernel_rfl) rfl rfl rfl rfl (by simp) ?_)
          try simp only [splice,lC,lN,dS,cA,tS,tZ,dZ,nA,aN]
          refine La rfl rfl (Ld (T.ret ?_))
          exact ⟨.inl rfl,_,_,res [_,_] rfl ⟨rvA [_,_,_,_,_,_,_,_] (by kernel_rfl) rfl ⟨rfl,rfl,rfl,rfl,rfl,rfl,rfl,rfl,trivial⟩,rvT rfl,trivial⟩,⟨⟨some ⟨gv,0,none⟩,cv,pa,ca,pc,cc,pe,ce⟩,rfl,rfl⟩,Sa⟩
        try replace h2:=of_decide_eq_false h2
        refine Lq rfl (QL [_,_,_,_,_,_,_,_] (by kernel_rfl) rfl ⟨rfl,rfl,rfl,rfl,rfl,rfl,rfl,rfl,trivial⟩) (Lq rfl (Qf (off:=3) (by kernel_rfl) rfl) (Lq rfl (Ql (by kernel_rfl) rfl rfl) ?_))
        refine Le rfl (Ec (Hr.isCommitted B ⟨some ⟨gv,0,none⟩,cv,pa,ca,pc,cc,pe,ce⟩ h v.fin (by omega)) Tryz.func83 rfl rfl rfl ?_)
        rintro _ _ ⟨rfl,rfl⟩
        try simp only [cA,nA]
        by_cases hc2:Wa h v.fin=true
        · skip
          rw [hc2]
          refine Lq rfl (Qp rfl rfl) (Ld (zF rfl ?_))
          rw [hEnd_no ha hv (.inr (.inr hc2))]
          refine TS (Lq rfl (QL [_,_,_,_,_,_,_,_] (by kernel_rfl) rfl ⟨rfl,rfl,rfl,rfl,rfl,rfl,rfl,rfl,trivial⟩) ?_)
          refine L0 rfl (Es [_,_,_,_,_,_,_,_] (by kernel_rfl) rfl rfl rfl rfl (by simp) ?_)
          try simp only [splice,lC,lN,dS,cA,tS,tZ,dZ,nA,aN]
          refine La rfl rfl (Ld (T.ret ?_))
          exact ⟨.inl rfl,_,_,res [_,_] rfl ⟨rvA [_,_,_,_,_,_,_,_] (by kernel_rfl) rfl ⟨rfl,rfl,rfl,rfl,rfl,rfl,rfl,rfl,trivial⟩,rvT rfl,trivial⟩,⟨⟨some ⟨gv,0,none⟩,cv,pa,ca,pc,cc,pe,ce⟩,rfl,rfl⟩,Sa⟩
        rw [Bool.not_eq_true] at hc2
        rw [hc2]
        refine Lq rfl (Qp rfl rfl) (Ld (yQ rfl (Tk ?_)))
        exact ⟨_,⟨_,0,(by rintro (⟨e,_⟩ | e | e);(exact e h1);(exact h2 e);(cases e)),(Za rfl (Za rfl (Za rfl (Za rfl (Za rfl (Za rfl rfl)))))),rfl⟩,Sa⟩
      rintro fz lz ⟨f0,z,hNC,rfl,rfl⟩
      try simp only [cA,nA]
      refine Ts (TS (Lq rfl (QL [_,_,_,_,_,_,_,_] (by kernel_rfl) rfl ⟨rfl,rfl,rfl,rfl,rfl,rfl,rfl,rfl,trivial⟩) (Lq rfl (Qf (off:=3) (by kernel_rfl) rfl) (Lq rfl (Ql (by kernel_rfl) rfl rfl) ?_))))
      refine Le rfl (Ec (Hr.isActive B ⟨some ⟨gv,0,none⟩,cv,pa,ca,pc,cc,pe,ce⟩ h v.fin (by omega)) Tryz.func82 rfl rfl rfl ?_)
      rintro _ _ ⟨rfl,rfl⟩
      try simp only [cA,nA]
      by_cases hc3:Zp h v.fin=true
      · skip
        rw [hc3]
        refine Ld (zF rfl ?_)
        rw [hEnd_busy ha hv hNC hc3]
        refine TS (Lq rfl (QL [_,_,_,_,_,_,_,_] (by kernel_rfl) rfl ⟨rfl,rfl,rfl,rfl,rfl,rfl,rfl,rfl,trivial⟩) ?_)
        refine L0 rfl (Es [_,_,_,_,_,_,_,_] (by kernel_rfl) rfl rfl rfl rfl (by simp) ?_)
        try simp only [splice,lC,lN,dS,cA,tS,tZ,dZ,nA,aN]
        refine La rfl rfl (Ld (T.ret ?_))
        exact ⟨.inl rfl,_,_,res [_,_] rfl ⟨rvA [_,_,_,_,_,_,_,_] (by kernel_rfl) rfl ⟨rfl,rfl,rfl,rfl,rfl,rfl,rfl,rfl,trivial⟩,rvT rfl,trivial⟩,⟨⟨some ⟨gv,0,none⟩,cv,pa,ca,pc,cc,pe,ce⟩,rfl,rfl⟩,Sa⟩
      rw [Bool.not_eq_true] at hc3
      rw [hc3]
      refine Ld (yQ rfl (Tk (Ts (TS (Lq rfl (Qf (off:=2) (by kernel_rfl) rfl) (Lq rfl (Ql (by kernel_rfl) rfl rfl) ?_))))))
      refine Lq rfl (Qd rfl rfl (Ze (by omega) (by omega))) (Lq rfl (Qf (off:=1) (by kernel_rfl) rfl) (Lq rfl (Ql (by kernel_rfl) rfl rfl) (Lq rfl (yZ rfl rfl) (Ld ?_))))
      refine yN rfl (fun hfull=>?_) (fun hfull=>?_)
      · skip
        rw [show endR h t p s=(h,3) by unfold endR;rw [if_pos ha,hv];dsimp only;rw [if_neg hNC,if_neg (by rw [hc3];simp),if_pos (by omega)]]
        refine TS (Lq rfl (QL [_,_,_,_,_,_,_,_] (by kernel_rfl) rfl ⟨rfl,rfl,rfl,rfl,rfl,rfl,rfl,rfl,trivial⟩) ?_)
        refine L0 rfl (Es [_,_,_,_,_,_,_,_] (by kernel_rfl) rfl rfl rfl rfl (by simp) ?_)
        try simp only [splice,lC,lN,dS,cA,tS,tZ,dZ,nA,aN]
        refine La rfl rfl (Ld (T.ret ?_))
        exact ⟨.inl rfl,_,_,res [_,_] rfl ⟨rvA [_,_,_,_,_,_,_,_] (by kernel_rfl) rfl ⟨rfl,rfl,rfl,rfl,rfl,rfl,rfl,rfl,trivial⟩,rvT rfl,trivial⟩,⟨⟨some ⟨gv,0,none⟩,cv,pa,ca,pc,cc,pe,ce⟩,rfl,rfl⟩,Sa⟩
      rw [hEnd_ok ha hv hNC hc3 (by omega)]
      refine Tk (TS (Lq rfl (QL [_,_,_,_,_,_,_,_] (by kernel_rfl) rfl ⟨rfl,rfl,rfl,rfl,rfl,rfl,rfl,rfl,trivial⟩) (Lm rfl rfl (Lm rfl rfl (Lm rfl rfl (Lq rfl (z8 [(0,1),(1,1),(2,1),(3,1),(4,1),(5,1)] [.int .i64 0,.int .i64 0,.int .i64 0,.int .i64 0,.int .i64 0,.string .empty] [_,_,_,_,_,_] [(0,_),(1,_),(2,_),(3,_)] (by kernel_rfl) (by unfold Zf;kernel_rfl) rfl rfl) ?_))))))
      refine Le rfl (Ec (Hr.write B ⟨some ⟨gv,0,none⟩,cv,pa,ca,pc,cc,pe,ce⟩ h ⟨2,t,p,s,0,[]⟩ m k.s k.m (by omega) (.inr (.inl rfl)) (by dsimp only;omega) (fun _=>rfl) (by simp) (fun _=>⟨i,hi⟩)) Tryz.func79 rfl rfl rfl ?_)
      rintro _ _ ⟨q1,rfl,rfl⟩
      try simp only [cA,nA]
      refine L0 rfl (Es [_,_,_,_,_,_,_,_] (by kernel_rfl) rfl rfl rfl rfl (by simp) ?_)
      try simp only [splice,lC,lN,dS,cA,tS,tZ,dZ,nA,aN]
      refine La rfl rfl (Ld (T.ret ?_))
      exact ⟨.inl rfl,_,_,res [_,_] rfl ⟨rvA [_,_,_,_,_,_,_,_] (by kernel_rfl) rfl ⟨rfl,rfl,rfl,rfl,rfl,rfl,rfl,rfl,trivial⟩,rvT rfl,trivial⟩,⟨q1,rfl,rfl⟩,Sa⟩
  · rw [show endR h t p s=(h,70) by unfold endR;rw [if_neg ha]]
    rw [Bool.not_eq_true] at ha
    refine Fn.enter4 71 Tryz.func67 rfl rfl (nB rfl) (fun F=>?_)
    try simp only [cA,nA]
    refine TS ?_
    refine Le rfl (zL [_,_,_,_,_,_,_,_] rfl rfl ?_)
    intro g4
    refine Le rfl (El [.int .i64 0,.int .i64 0,.int .i64 0,.slice none 0 0,.slice none 0 0,.slice none 0 0,.int .i64 0,.slice none 0 0] (by unfold Zf;kernel_rfl) ?_)
    intro g8
    refine La rfl rfl (Ld (Ts (TS (Lq rfl (QL [_,_,_,_,_,_,_,_] (by kernel_rfl) rfl ⟨rfl,rfl,rfl,rfl,rfl,rfl,rfl,rfl,trivial⟩) (Lm rfl rfl ?_)))))
    refine Le rfl (Ec (Hr.isActive B q h t (by omega)) Tryz.func82 rfl rfl rfl ?_)
    rintro _ _ ⟨rfl,rfl⟩
    try simp only [cA,nA]
    rw [ha]
    refine Lq rfl (Y2 rfl) (Ld (zF rfl (TS (Lq rfl (QL [_,_,_,_,_,_,_,_] (by kernel_rfl) rfl ⟨rfl,rfl,rfl,rfl,rfl,rfl,rfl,rfl,trivial⟩) ?_))))
    refine L0 rfl (Es [_,_,_,_,_,_,_,_] (by kernel_rfl) rfl rfl rfl rfl (by simp) ?_)
    try simp only [splice,lC,lN,dS,cA,tS,tZ,dZ,nA,aN]
    refine La rfl rfl (Ld (T.ret ?_))
    exact ⟨.inl rfl,_,_,res [_,_] rfl ⟨rvA [_,_,_,_,_,_,_,_] (by kernel_rfl) rfl ⟨rfl,rfl,rfl,rfl,rfl,rfl,rfl,rfl,trivial⟩,rvT rfl,trivial⟩,⟨q,rfl,rfl⟩,Sa⟩
end Go.Proofs.YtfjjgdnepfgnhaaGreatDoor
