/- The texts BgE BgF BgG BgH RfZ SlI RcA RcB WlL, one behind the other: what the law leans on. Conditions: as each theorem says. -/
import Derived.Test.YtfjjgdnepfgnhaaGreatDoorZHfBase8
import Derived.Deep.QuietTactic
import Derived.BigQuiet
set_option linter.unusedSimpArgs false
set_option linter.unusedVariables false
set_option maxRecDepth 100000
set_option maxHeartbeats 16000000
namespace Go.Proofs.YtfjjgdnepfgnhaaGreatDoor
open Go.RowKit
theorem pinnedA_some {A:List Fa} {page:Int} {i:Nat} {x:Fa} (h:pinnedA A page=some (i,x)):findA A page=some i∧A[i]? = some x∧0<x.pins:=by
  unfold pinnedA at h
  split at h
  · cases h
  · rename_i j hj
    split at h
    · cases h
    · rename_i y hy
      split at h
      · simp only [Option.some.injEq,Prod.mk.injEq] at h
        obtain ⟨rfl,rfl⟩:=h
        exact ⟨hj,hy,by assumption⟩
      · cases h
theorem pinnedA_none {A:List Fa} {page:Int} (h:pinnedA A page=none):findA A page=none ∨ ∃ i x,findA A page=some i∧A[i]? = some x ∧ ¬ 0<x.pins:=by
  unfold pinnedA at h
  split at h
  · rename_i hj;exact .inl hj
  · rename_i j hj
    obtain ⟨_,x,hx,_⟩:=findA_some hj
    rw [hx] at h
    dsimp only at h
    split at h
    · cases h
    · rename_i hp;exact .inr ⟨j,x,hj,hx,hp⟩
theorem Bf.pinned_low (B:Wn) (g b gf n first count hand:Nat) (pl:Option Addr) (nl cl:Nat) (Fs:List Fm) (page:Int) (i:Nat) (x:Fm) (hn:Fs.length=n) (hn2:n≤4096) (hx:Fd Fs page i x) (hpin : ¬ 0<x.pins) :
  Fn Tryz.prog B 90 #[.pointer (some ⟨g,0,none⟩),.int .i64 page] [Zw g b gf n first count hand pl nl cl,fmR gf n Fs] (fun u l=>u = .pointer none∧l=[Zw g b gf n first count hand pl nl cl,fmR gf n Fs]):=by
 refine Wr 19 Tryz.func90 rfl rfl (nB rfl) (fun F=>?_)
 try simp only [cA,nA]
 refine TS (La rfl rfl (Ld (Ts (TS (Lm rfl rfl ?_)))))
 refine Lm rfl rfl ?_
 refine Le rfl (Ec (Bf.find_some B g b gf n first count hand pl nl cl Fs page i x hn hn2 hx.at_ hx.pg hx.pos hx.first) Tryz.func88 rfl rfl rfl ?_)
 rintro _ _ ⟨rfl,rfl⟩
 try simp only [cA,nA]
 refine La rfl rfl (Ld (TS (Lm rfl rfl (Lq rfl (YZ (by kernel_rfl) rfl rfl) (Lm rfl rfl (zQ (t:=11) rfl rfl ?_))))))
 refine Lm rfl rfl (Lq rfl (Qn rfl) (Lq rfl (Qf (off:=3) (by kernel_rfl) rfl) (Lq rfl (Ql (v := .int .i64 x.pins) (by kernel_rfl) rfl (fm_at hx.at_ 3 (by omega))) (Lq rfl (yZ rfl rfl) (Lq rfl (Qp rfl rfl) (Ld (yL rfl (by omega) ?_)))))))
 refine Tk (TS (La rfl rfl (Ld (T.ret ?_))))
 exact ⟨.inl rfl,_,_,res [_] rfl ⟨rvT rfl,trivial⟩,⟨rfl,rfl⟩,Sa⟩
theorem Bf.pinned_miss (B:Wn) (g b gf n first count hand:Nat) (pl:Option Addr) (nl cl:Nat) (Fs:List Fm) (page:Int) (hn:Fs.length=n) (hn2:n≤4096) (hno : ∀ (j:Nat) (y:Fm),Fs[j]? = some y→y.page=page→page<0) :
  Fn Tryz.prog B 90 #[.pointer (some ⟨g,0,none⟩),.int .i64 page] [Zw g b gf n first count hand pl nl cl,fmR gf n Fs] (fun u l=>u = .pointer none∧l=[Zw g b gf n first count hand pl nl cl,fmR gf n Fs]):=by
 refine Wr 19 Tryz.func90 rfl rfl (nB rfl) (fun F=>?_)
 try simp only [cA,nA]
 refine TS (La rfl rfl (Ld (Ts (TS (Lm rfl rfl ?_)))))
 refine Lm rfl rfl ?_
 refine Le rfl (Ec (Bf.find_none B g b gf n first count hand pl nl cl Fs page hn hn2 hno) Tryz.func88 rfl rfl rfl ?_)
 rintro _ _ ⟨rfl,rfl⟩
 try simp only [cA,nA]
 refine La rfl rfl (Ld (TS (Lm rfl rfl (Lq rfl (ZW (by kernel_rfl) rfl rfl) (Lm rfl rfl (yT (t:=11) rfl rfl ?_))))))
 refine Ls rfl (Ls rfl (Ls rfl (Ls rfl (Ls rfl (Lq rfl (Qp rfl rfl) (Ld (yQ rfl ?_)))))))
 refine Tk (TS (La rfl rfl (Ld (T.ret ?_))))
 exact ⟨.inl rfl,_,_,res [_] rfl ⟨rvT rfl,trivial⟩,⟨rfl,rfl⟩,Sa⟩
theorem Bf.pinned_no (B:Wn) (g b gf n first count hand:Nat) (pl:Option Addr) (nl cl:Nat) (Fs:List Fm) (page:Int) (hn:Fs.length=n) (hn2:n≤4096) (h:pinnedA (Fs.map Fm.a) page=none) :
    Fn Tryz.prog B 90 #[.pointer (some ⟨g,0,none⟩),.int .i64 page] [Zw g b gf n first count hand pl nl cl,fmR gf n Fs] (fun u l=>u = .pointer none∧l=[Zw g b gf n first count hand pl nl cl,fmR gf n Fs]):=by
  rcases pinnedA_none h with h | ⟨i,x,h1,h2,h3⟩
  · refine Bf.pinned_miss B g b gf n first count hand pl nl cl Fs page hn hn2 fun j y hy e=>?_
    by_cases h0:0≤page
    · exact absurd e (nofd_of rfl h h0 j y hy)
    · omega
  · obtain ⟨z,hz⟩:=fd_of rfl h1
    refine Bf.pinned_low B g b gf n first count hand pl nl cl Fs page i z hn hn2 hz ?_
    have:=map_a_at rfl hz.at_
    rw [h2] at this
    cases this
    exact h3
theorem Bf.unpin_no (B:Wn) (g b gf n first count hand:Nat) (pl:Option Addr) (nl cl:Nat) (Fs:List Fm) (page:Int) (hn:Fs.length=n) (hn2:n≤4096) (h:pinnedA (Fs.map Fm.a) page=none) :
  Fn Tryz.prog B 41 #[.pointer (some ⟨g,0,none⟩),.int .i64 page] [Zw g b gf n first count hand pl nl cl,fmR gf n Fs] (fun u l=>u = .int .i64 61∧l=[Zw g b gf n first count hand pl nl cl,fmR gf n Fs]):=by
 refine Wr 18 Tryz.func41 rfl rfl (nB rfl) (fun F=>?_)
 try simp only [cA,nA]
 refine TS (La rfl rfl (Ld (TS (Lm rfl rfl (Lm rfl rfl ?_)))))
 refine Le rfl (Ec (Bf.pinned_no B g b gf n first count hand pl nl cl Fs page hn hn2 h) Tryz.func90 rfl rfl rfl ?_)
 rintro _ _ ⟨rfl,rfl⟩
 try simp only [cA,nA]
 refine La rfl rfl (Ld (Ts (TS (Lm rfl rfl (Lq rfl (Y5 (by kernel_rfl) rfl rfl) (Ld ?_))))))
 refine zF rfl (TS (La rfl rfl (Ld (T.ret ?_))))
 exact ⟨.inl rfl,_,_,res [_] rfl ⟨rvT rfl,trivial⟩,⟨rfl,rfl⟩,Sa⟩
theorem Has.under_back {A:Wp} : ∀ {m r:List Wp} {h:Piece},Has (m++A::r) h→Has (A::(m++r)) h
 | [],_,_,H=>H
 | _::_,_,_,H=>Has.swap (Wt (fun _ k=>Has.under_back k) H)
theorem fd_pinned {Fs:List Fm} {A:List Fa} (hA:Fs.map Fm.a=A) {page:Int} {i:Nat} {x:Fa} (h:pinnedA A page=some (i,x)) : ∃ z,Fd Fs page i z∧z.a=x∧0<z.pins:=by
 obtain ⟨h1,h2,h3⟩:=pinnedA_some h
 obtain ⟨z,hz⟩:=fd_of hA h1
 have:=map_a_at hA hz.at_
 rw [h2] at this
 cases this
 exact ⟨z,hz,rfl,h3⟩
theorem Bp.unpin (B:Wn) (g b n first count hand gl:Nat) (A:List Fa) (page:Int) (hl:A.length=n) (hn2:n≤4096) (hpin : ∀ x∈A,x.pins<2^62) :
  Fn Tryz.prog B 41 #[.pointer (some ⟨g,0,none⟩),.int .i64 page] [plA g b n first count hand gl A] (fun u l=>u = .int .i64 (unpinA A page).2∧l=[plA g b n first count hand gl (unpinA A page).1]):=by
 refine Fn.openPl fun q hA hptr ⟨gp,hgp⟩=>?_
 obtain ⟨Fs,gf,pl,cl⟩:=q
 dsimp only at hA hptr hgp ⊢
 subst hgp
 simp only [plC,List.cons_append,List.nil_append,List.append_nil]
 have hlf:Fs.length=n:=by rw [←hl,←hA,List.length_map]
 have hs : ∀ (A':List Fa) (Fs':List Fm),Fs'.map Fm.a=A'→Sub [Zw g b gf n first count hand (some ⟨gp,0,none⟩) 1 cl,fmR gf n Fs',lgR (some ⟨gp,0,none⟩) 1 cl [ifW gl],daA Fs'] [plA g b n first count hand gl A']:=fun A' Fs' e=>sub_pl (S:=[]) ⟨Fs',gf,some ⟨gp,0,none⟩,cl⟩ e
 cases h:pinnedA A page with
 | none =>
  refine Fn.wide (Bf.unpin_no B g b gf n first count hand (some ⟨gp,0,none⟩) 1 cl Fs page hlf hn2 (by rw [hA];exact h)) ?_
  rintro v l' ⟨rfl,rfl⟩
  simp only [List.cons_append,List.nil_append]
  exact ⟨_,hs A Fs hA,by simp [unpinA,h],by simp [unpinA,h]⟩
 | some r =>
  obtain ⟨i,x⟩:=r
  obtain ⟨z,hz,rfl,hp⟩:=fd_pinned hA h
  refine Fn.wide (Bf.unpin B g b gf n first count hand (some ⟨gp,0,none⟩) 1 cl Fs page i z hlf hn2 hz hp (hpin z.a (List.mem_of_getElem? (map_a_at hA hz.at_)))) ?_
  rintro v l' ⟨rfl,rfl⟩
  simp only [List.cons_append,List.nil_append]
  refine ⟨_,?_,by simp [unpinA,h],rfl⟩
  have:=hs (unpinA A page).1 (Fs.set i {z with pins:=z.pins-1}) (by rw [List.map_set,hA];simp only [unpinA,h];rfl)
  rwa [da_same (y:={z with pins:=z.pins-1}) hz.at_ rfl rfl rfl] at this
theorem Bp.bytes (B:Wn) (g b n first count hand gl:Nat) (A:List Fa) (page:Int) (hl:A.length=n) (hn2:n≤4096) (i:Nat) (x:Fa) (h:pinnedA A page=some (i,x)) (m:Nat) (hm:x.b.length=m) (hb:m<2^40) :
  Fn Tryz.prog B 95 #[.pointer (some ⟨g,0,none⟩),.int .i64 page] [plA g b n first count hand gl A] (fun u l => ∃ p c,u = .tuple #[.slice p m c,.int .i64 0]∧(0<m → ∃ g,p=some ⟨g,0,none⟩)∧l=[rB (.slice p m c) m x.b,plA g b n first count hand gl A]):=by
 refine Fn.openPl fun q hA hptr ⟨gp,hgp⟩=>?_
 obtain ⟨Fs,gf,pl,cl⟩:=q
 dsimp only at hA hptr hgp ⊢
 subst hgp
 simp only [plC,List.cons_append,List.nil_append,List.append_nil]
 obtain ⟨z,hz,rfl,hp⟩:=fd_pinned hA h
 subst hm
 refine Fn.wide (Bf.bytes B [daA Fs] g b gf n first count hand (some ⟨gp,0,none⟩) 1 cl Fs page i z (by rw [←hl,←hA,List.length_map]) hn2 hz hp (RdV.da hz.at_ (hptr i z hz.at_)) hb) ?_
 rintro v l' ⟨p,c,rfl,hp2,rfl⟩
 simp only [List.cons_append,List.nil_append]
 refine ⟨_,fun k K=>?_,p,c,rfl,hp2,rfl⟩
 refine Wt (sub_pl (S:=[]) ⟨Fs,gf,some ⟨gp,0,none⟩,cl⟩ hA) ?_
 simp only [plC,List.append_nil]
 have K2:Has [rB (.slice p z.b.length c) z.b.length z.b,Zw g b gf n first count hand (some ⟨gp,0,none⟩) 1 cl,fmR gf n Fs,lgR (some ⟨gp,0,none⟩) 1 cl [ifW gl],daA Fs] k:=Sa k K
 exact K2
theorem Bp.put (B:Wn) (S:List Wp) (g b n first count hand gl:Nat) (A:List Fa) (page:Int) (hl:A.length=n) (hn2:n≤4096) (i:Nat) (x:Fa) (h:pinnedA A page=some (i,x)) (a:Option Addr) (ca:Nat) (d:List UInt8) (mark:Int) (hd:d.length=256) (hv:RdV B S (.slice a 256 ca) (Zb d)) :
  Fn Tryz.prog B 38 #[.pointer (some ⟨g,0,none⟩),.int .i64 page,.slice a 256 ca,.int .i64 mark] (plA g b n first count hand gl A::S) (fun u l=>u = .int .i64 (putA A page d mark).2∧l=plA g b n first count hand gl (putA A page d mark).1::S):=by
 refine Fn.openPl fun q hA hptr ⟨gp,hgp⟩=>?_
 obtain ⟨Fs,gf,pl,cl⟩:=q
 dsimp only at hA hptr hgp ⊢
 subst hgp
 simp only [plC,List.cons_append,List.nil_append,List.append_nil]
 have hlf:Fs.length=n:=by rw [←hl,←hA,List.length_map]
 obtain ⟨z,hz,rfl,hp⟩:=fd_pinned hA h
 have hil:i<Fs.length:=(List.getElem?_eq_some_iff.1 hz.at_).1
 have h0:=(Bf.put B (lgR (some ⟨gp,0,none⟩) 1 cl [ifW gl]::daA Fs::S) g b gf n first count hand (some ⟨gp,0,none⟩) 1 cl Fs page i z hlf hn2 hz hp a ca d mark hd (hv.mono fun w ho=>ho.tl.tl))
 refine h0.sub ?_
 rintro v l' ⟨p,c,rfl,hp2,rfl⟩
 refine ⟨_,fun k K=>?_,by simp [putA,h,hd],rfl⟩
 refine sub_pl ⟨Fs.set i {z with mark:=max z.mark mark,dirty:=true,p:=p,c:=c,b:=d},gf,some ⟨gp,0,none⟩,cl⟩ (by simp only [putA,h];rw [List.map_set,hA,if_neg (by simp [hd])];rfl) k ?_
 simp only [plC,List.cons_append,List.nil_append]
 have K2:Has (rB (.slice p 256 c) 256 d::daA Fs::([Zw g b gf n first count hand (some ⟨gp,0,none⟩) 1 cl,fmR gf n (Fs.set i {z with mark:=max z.mark mark,dirty:=true,p:=p,c:=c,b:=d}),lgR (some ⟨gp,0,none⟩) 1 cl [ifW gl]]++S)) k:=by
  refine Wt (fun k1 K1=>?_) K
  have:Has ([Zw g b gf n first count hand (some ⟨gp,0,none⟩) 1 cl,fmR gf n (Fs.set i {z with mark:=max z.mark mark,dirty:=true,p:=p,c:=c,b:=d}),lgR (some ⟨gp,0,none⟩) 1 cl [ifW gl]]++(daA Fs::S)) k1:=K1
  exact Has.under_back this
 have K3:=da_put (y:={z with mark:=max z.mark mark,dirty:=true,p:=p,c:=c,b:=d}) hil k (by rw [fmD];dsimp only;rw [hd];exact K2)
 have K4:Has ([Zw g b gf n first count hand (some ⟨gp,0,none⟩) 1 cl,fmR gf n (Fs.set i {z with mark:=max z.mark mark,dirty:=true,p:=p,c:=c,b:=d}),lgR (some ⟨gp,0,none⟩) 1 cl [ifW gl]]++(daA (Fs.set i {z with mark:=max z.mark mark,dirty:=true,p:=p,c:=c,b:=d})::S)) k:=Has.under K3
 exact K4
theorem da_none (n:Nat) (l:List Wp):Sub l (daA (List.replicate n fm1)::l):=fun h H=>by
 refine ⟨fun _=>none,h,⟨fun _ => .inl rfl⟩,⟨fun _ _ e=>(by cases e)⟩,Piece.le_refl h,?_,H⟩
 show Has ((List.replicate n fm1).map fmD) _
 induction n with
 | zero=>trivial
 | succ n ih=>exact ⟨fun _=>none,fun _=>none,⟨fun _ => .inl rfl⟩,Piece.le_refl _,Piece.le_refl _,⟨by simp,.inl ⟨rfl,rfl⟩⟩,ih⟩
theorem map_fm1 (n:Nat):(List.replicate n fm1).map Fm.a=List.replicate n fa1:=by simp [Fm.a]
theorem FOk.new (count n:Nat) (h1:1≤n) (h2:n≤4096):FOk count n (List.replicate n fa1):=by
 have hx : ∀ x∈List.replicate n fa1,x=fa1:=fun x hx=>(List.mem_replicate.1 hx).2
 refine ⟨by simp,h1,h2,fun x h => .inl (hx x h),fun x h=>by rw [hx x h];exact ⟨by decide,by decide⟩,fun i j x y hi hj e h0=>?_⟩
 rw [hx x (List.mem_of_getElem? hi)] at h0
 exact absurd h0 (by decide)
def wrongP (sectors first count frames:Int):Prop:=first<0∨count<1∨sectors<count∨sectors-count<first∨frames<1∨4096<frames
instance (a b c d:Int):Decidable (wrongP a b c d):=by unfold wrongP;infer_instance
open Go.RowKit
open Go.RowKit
theorem writes_ok : ∀ {L:List (Nat×List UInt8)} {D:DD},D.Ok→(∀ p∈L,p.1<D.secs.length∧p.2.length=256)→(Zz D L).Ok∧(Zz D L).secs.length=D.secs.length∧(Zz D L).pend.length=D.pend.length+L.length
 | [],D,h,_=>⟨h,rfl,rfl⟩
 | p::L,D,h,hL=>by
  obtain ⟨h1,h2⟩:=hL p (List.mem_cons_self ..)
  obtain ⟨a,b,c⟩:=writes_ok (L:=L) (h.wr2 p.1 p.2 h1 h2) (fun q hq=>hL q (List.mem_cons_of_mem _ hq))
  exact ⟨a,b,by rw [Zz,c];simp [DD.write];omega⟩
theorem writes_out {n:Nat} : ∀ {L:List (Nat×List UInt8)} {D:DD},(∀ p∈L,p.1≠n)→(Zz D L).read n=D.read n
 | [],_,_=>rfl
 | p::L,D,h=>by
  rw [Zz,writes_out (fun q hq=>h q (List.mem_cons_of_mem _ hq)),DD.rdW,if_neg (h p (List.mem_cons_self ..))]
theorem writes_in {n:Nat} {b:List UInt8} : ∀ {L:List (Nat×List UInt8)} {D:DD},(L.map Prod.fst).Nodup→(n,b)∈L→(Zz D L).read n=b
 | [],_,_,h=>by cases h
 | p::L,D,hd,h=>by
  simp only [List.map_cons,List.nodup_cons] at hd
  rcases List.mem_cons.1 h with rfl | h
  · rw [Zz,writes_out (fun q hq e=>hd.1 (List.mem_map.2 ⟨q,hq,e⟩)),DD.rdW,if_pos rfl]
  · rw [Zz];exact writes_in hd.2 h
theorem DD.ext_read {D E:DD} (hD:D.pend=[]) (hE:E.pend=[]) (hl:D.secs.length=E.secs.length) (h : ∀ n,n<D.secs.length→D.read n=E.read n):D=E:=by
 have:D.secs=E.secs:=by
  apply List.ext_getElem hl
  intro i h1 h2
  have:=h i h1
  rw [DD.rdN _ hD,DD.rdN _ hE,List.getD_eq_getElem?_getD,List.getD_eq_getElem?_getD,List.getElem?_eq_getElem h1,List.getElem?_eq_getElem h2] at this
  exact this
 cases D;cases E;simp_all
theorem writes_sync {L L':List (Nat×List UInt8)} {D:DD} (ho:D.Ok) (hL : ∀ p∈L,p.1<D.secs.length∧p.2.length=256) (h1:(L.map Prod.fst).Nodup) (h2:(L'.map Prod.fst).Nodup) (he : ∀ p,p∈L↔p∈L'):(Zz D L).sync=(Zz D L').sync:=by
  have a:=writes_ok ho hL
  have b:=writes_ok ho (fun p hp=>hL p ((he p).2 hp))
  refine DD.ext_read rfl rfl ((DD.sync_len a.1).trans (a.2.1.trans ((DD.sync_len b.1).trans b.2.1).symm)) fun n hn=>?_
  rw [DD.sync_len a.1] at hn
  rw [DD.rdS a.1 n hn,DD.rdS b.1 n (by rw [b.2.1,←a.2.1];exact hn)]
  by_cases hx : ∃ d,(n,d)∈L
  · obtain ⟨d,hd⟩:=hx
    rw [writes_in h1 hd,writes_in h2 ((he _).1 hd)]
  · rw [writes_out (fun p hp e=>hx ⟨p.2,by rw [←e];exact hp⟩),writes_out (fun p hp e=>hx ⟨p.2,by rw [←e];exact (he _).2 hp⟩)]
theorem dirty_mem {first:Nat} {A:List Fa} {p:Nat×List UInt8}:p∈dirtyL first A ↔ ∃ (i:Nat) (x:Fa),A[i]? = some x∧x.dirty=true∧p=(first+x.page.toNat,x.b):=by
  unfold dirtyL
  rw [List.mem_filterMap]
  constructor
  · rintro ⟨x,hx,e⟩
    split at e
    · obtain ⟨i,hi,rfl⟩:=List.getElem_of_mem hx
      exact ⟨i,A[i],List.getElem?_eq_getElem hi,by assumption,(Option.some.inj e).symm⟩
    · cases e
  · rintro ⟨i,x,hi,hd,rfl⟩
    exact ⟨x,List.mem_of_getElem? hi,by rw [if_pos hd]⟩
theorem dirty_nodup {count n first:Nat} {A:List Fa} (hF:FOk count n A) (hdp : ∀ x∈A,x.dirty=true→0≤x.page):((dirtyL first A).map Prod.fst).Nodup:=by
  have key : ∀ (A:List Fa),(∀ x∈A,x.dirty=true→0≤x.page)→(∀ (i j:Nat) (x y:Fa),A[i]? = some x→A[j]? = some y→x.page=y.page→0≤x.page→i=j)→((dirtyL first A).map Prod.fst).Nodup:=by
    intro A
    induction A with
    | nil=>intro _ _;exact List.nodup_nil
    | cons a A ih =>
      intro h1 h2
      have ih':=ih (fun x hx=>h1 x (List.mem_cons_of_mem _ hx)) (fun i j x y hi hj e h0=>by have:=h2 (i+1) (j+1) x y (by simpa using hi) (by simpa using hj) e h0;omega)
      by_cases hd:a.dirty=true
      · have e:dirtyL first (a::A)=(first+a.page.toNat,a.b)::dirtyL first A:=by simp [dirtyL,hd]
        rw [e,List.map_cons,List.nodup_cons]
        refine ⟨fun hm=>?_,ih'⟩
        obtain ⟨p,hp,e2⟩:=List.mem_map.1 hm
        obtain ⟨i,x,hi,hxd,rfl⟩:=dirty_mem.1 hp
        have h0:=h1 a (List.mem_cons_self ..) hd
        have h3:=h1 x (List.mem_cons_of_mem _ (List.mem_of_getElem? hi)) hxd
        have:=h2 0 (i+1) a x rfl (by simpa using hi) (by dsimp only at e2;omega) h0
        omega
      · have e:dirtyL first (a::A)=dirtyL first A:=by simp [dirtyL,hd]
        rw [e];exact ih'
  exact key A hdp hF.one
theorem dirtyMark_bound {A:List Fa} (h : ∀ x∈A,x.mark<2^63):0≤Zm A∧Zm A<2^63:=by
 unfold Zm
 have : ∀ (A:List Fa) (m:Int),(∀ x∈A,x.mark<2^63)→0≤m→m<2^63→0≤A.foldl (fun m x=>if x.dirty=true then max m x.mark else m) m∧A.foldl (fun m x=>if x.dirty=true then max m x.mark else m) m<2^63:=by
  intro A
  induction A with
  | nil=>intro m _ h1 h2;exact ⟨h1,h2⟩
  | cons a A ih =>
   intro m h h1 h2
   have ha:=h a (List.mem_cons_self ..)
   rw [List.foldl_cons]
   refine ih _ (fun x hx=>h x (List.mem_cons_of_mem _ hx)) ?_ ?_ <;> split <;> omega
 exact this A 0 h (by omega) (by omega)
instance finInh {n:Nat} [h:NeZero n]:Inhabited (Fin n):=⟨⟨0,Nat.pos_of_ne_zero h.out⟩⟩
abbrev fpV (gf n:Nat) (i:Fin n):Value := .pointer (some ⟨gf,0+i.1*6,none⟩)
theorem Bf.elemP : ElemOk Tryz.prog 261 206 1 8 := .mk' (.pointer none) Tryz.underlying261 (by kernel_rfl) rfl (by omega)
def isDirty (Fs:List Fm) (i:Nat):Bool:=match Fs[i]? with
 | some x=>x.dirty
 | none=>false
def dirN (n:Nat) (Fs:List Fm) (k:Nat):List (Fin n):=(List.finRange n).filter fun i=>decide (i.1<k) && isDirty Fs i.1
theorem dirN_zero (n:Nat) (Fs:List Fm):dirN n Fs 0=[]:=by unfold dirN;rw [List.filter_eq_nil_iff];intro i _;simp
theorem fin_filter_succ (n:Nat) (p:Nat→Bool) (k:Nat) (hk:k<n):(List.finRange n).filter (fun i=>decide (i.1<k+1) && p i.1)=(List.finRange n).filter (fun i=>decide (i.1<k) && p i.1)++(if p k=true then [⟨k,hk⟩] else []):=by
  induction n with
  | zero=>omega
  | succ n ih =>
    rw [List.finRange_succ_last]
    simp only [List.filter_append,List.filter_map,Function.comp_def,Fin.val_castSucc,List.filter_cons,List.filter_nil,Fin.val_last]
    by_cases hkn:k<n
    · rw [ih hkn]
      have h1:(decide (n<k+1) && p n)=false:=by simp;omega
      have h2:(decide (n<k) && p n)=false:=by simp;omega
      simp only [h1,h2,Bool.false_eq_true,if_false,List.append_nil,List.map_append]
      congr 1
      split <;> rfl
    · obtain rfl:k=n:=by omega
      have e:(List.finRange k).filter (fun i=>decide (i.1<k+1) && p i.1)=(List.finRange k).filter (fun i=>decide (i.1<k) && p i.1):=by
        apply List.filter_congr
        intro i _
        have:=i.2
        simp [this];omega
      rw [e]
      have h1:(decide (k<k+1) && p k)=p k:=by simp
      have h2:(decide (k<k) && p k)=false:=by simp
      simp only [h1,h2]
      cases p k <;> simp [Fin.last]
theorem dirN_succ {n:Nat} {Fs:List Fm} {k:Nat} (hk:k<n) {x:Fm} (hx:Fs[k]? = some x):dirN n Fs (k+1)=dirN n Fs k++(if x.dirty=true then [⟨k,hk⟩] else []):=by
 unfold dirN
 rw [fin_filter_succ n (isDirty Fs) k hk]
 simp [isDirty,hx]
theorem dirN_mem {n:Nat} {Fs:List Fm} {i:Fin n} (hn:Fs.length=n):i∈dirN n Fs n ↔ ∃ x,Fs[i.1]? = some x∧x.dirty=true:=by
 unfold dirN
 rw [List.mem_filter]
 have hi:=i.2
 obtain ⟨x,hx⟩ : ∃ x,Fs[i.1]? = some x:=⟨_,List.getElem?_eq_getElem (by omega)⟩
 simp [isDirty,hx,hi]
theorem dirN_le (n:Nat) (Fs:List Fm) (k:Nat):(dirN n Fs k).length≤n:=by
 have:=List.length_filter_le (fun i:Fin n=>decide (i.1<k) && isDirty Fs i.1) (List.finRange n)
 rwa [List.length_finRange] at this
def cleanF {n:Nat} (Fs:List Fm) (L:List (Fin n)):List Fm:=Fs.mapIdx fun j x=>if L.any (fun i=>decide (i.1=j))=true then {x with dirty:=false} else x
theorem cleanF_at {n:Nat} {Fs:List Fm} (L:List (Fin n)) (j:Nat):(cleanF Fs L)[j]? = (Fs[j]?).map fun x=>if L.any (fun i=>decide (i.1=j))=true then {x with dirty:=false} else x:=by
 unfold cleanF;rw [List.getElem?_mapIdx]
theorem cleanF_len {n:Nat} (Fs:List Fm) (L:List (Fin n)):(cleanF Fs L).length=Fs.length:=by unfold cleanF;simp
theorem cleanF_nil {n:Nat} (Fs:List Fm):cleanF Fs ([]:List (Fin n))=Fs:=by
 apply List.ext_getElem?;intro j;rw [cleanF_at];simp
theorem cleanF_snoc {n:Nat} {Fs:List Fm} (L:List (Fin n)) (i:Fin n) {x:Fm} (hx:(cleanF Fs L)[i.1]? = some x):(cleanF Fs L).set i.1 {x with dirty:=false}=cleanF Fs (L++[i]):=by
  apply List.ext_getElem?
  intro j
  have hlt:=(List.getElem?_eq_some_iff.1 hx).1
  by_cases e:i.1=j
  · subst e
    rw [List.getElem?_set_self hlt,cleanF_at]
    rw [cleanF_at] at hx
    cases hf:Fs[i.1]? with
    | none=>rw [hf] at hx;cases hx
    | some y =>
      rw [hf] at hx
      simp only [Option.map_some,Option.some.injEq] at hx
      subst hx
      simp
      split <;> simp
  · rw [List.getElem?_set_ne e,cleanF_at,cleanF_at]
    cases Fs[j]? with
    | none=>rfl
    | some y=>simp [e]
theorem cleanF_da {n:Nat} (Fs:List Fm) (L:List (Fin n)):daA (cleanF Fs L)=daA Fs:=by
 unfold daA
 congr 1
 apply List.ext_getElem?
 intro j
 rw [List.getElem?_map,cleanF_at,List.getElem?_map,Option.map_map]
 cases Fs[j]? with
 | none=>rfl
 | some y=>simp only [Option.map_some,Function.comp_def];split <;> rfl
theorem cleanF_all {n:Nat} {Fs:List Fm} (hn:Fs.length=n) (L:List (Fin n)) (hL : ∀ i:Fin n,(∃ x,Fs[i.1]? = some x∧x.dirty=true)→i∈L):(cleanF Fs L).map Fm.a=cleanA (Fs.map Fm.a):=by
  apply List.ext_getElem?
  intro j
  unfold cleanA
  rw [List.getElem?_map,cleanF_at,List.getElem?_map,List.getElem?_map]
  cases h:Fs[j]? with
  | none=>rfl
  | some y =>
    have hj:j<n:=by rw [←hn];exact (List.getElem?_eq_some_iff.1 h).1
    simp only [Option.map_some,Option.some.injEq]
    by_cases hd:y.dirty=true
    · have:=hL ⟨j,hj⟩ ⟨y,h,hd⟩
      rw [if_pos (List.any_eq_true.2 ⟨_,this,by simp⟩)]
      rfl
    · split
      · rfl
      · simp only [Fm.a,Fa.mk.injEq,true_and,and_true]
        simpa using hd
theorem Bf.cmp (gf i j:Nat) (a b:Int) (W:World) (h1:W.cell? ⟨gf,i,none⟩=some (.int .i64 a)) (h2:W.cell? ⟨gf,j,none⟩=some (.int .i64 b)) (ha : -(2^62)≤a∧a<2^62) (hb : -(2^62)≤b∧b<2^62) :
  Calls Tryz.prog 150 #[.pointer (some ⟨gf,i,none⟩),.pointer (some ⟨gf,j,none⟩)] W fun e w'=>e = .returned (.int .i64 (a-b)) ∧ ∃ q,w'=W.drewN q:=by
 have hw:IntKind.i64.wrap (a-b)=a-b:=Ze (by omega) (by omega)
 go_enter Tryz.func150,Tryz.ntmps150
 go_wp2
 go_quiet (fail)
 go_wp2
 go_ret
 exact ⟨rfl,_,rfl⟩
theorem cell_of_cells {B:Wn} {w:World} {g o:Nat} {l:List Wp} {C:List Value} {v:Value} (H:Own B w l) [k:CellsAt g l C] (hv:C[o]? = some v):w.cell? ⟨g,o,none⟩=some v:=by
 obtain ⟨X,t,fr,h⟩:=H.cells (g:=g)
 unfold World.cell?
 rw [h]
 have:=(List.getElem?_eq_some_iff.1 hv).1
 simp [List.getElem?_append_left this,hv]
def pageF (n:Nat) (Fs:List Fm) (i:Fin n):Int:=match Fs[i.1]? with
 | some x=>x.page
 | none=>0
theorem pageF_swo (n:Nat) (Fs:List Fm):Go.Sort.SWO (ltOf fun i j:Fin n=>pageF n Fs i-pageF n Fs j) where
 irrefl x:=by simp [ltOf]
 trans x y z h1 h2:=by simp only [ltOf,decide_eq_true_eq] at *;omega
 ntrans x y z h1 h2:=by simp only [ltOf,decide_eq_false_iff_not] at *;omega
theorem Bf.sort (B:Wn) (gf n:Nat) (Fs:List Fm) (hn:Fs.length=n) (h1:1≤n) (hpg : ∀ (j:Nat) (x:Fm),Fs[j]? = some x → -(2^62)≤x.page∧x.page<2^62) (v:Value) (ds:List (Fin n)) (m:Nat) (hm:ds.length=m) (hb:m<2^61) :
  Fn Tryz.prog B 149 #[v,.func (.func 150) #[] #[]] [row v 206 1 m (ds.map (fpV gf n)),fmR gf n Fs] (fun u l=>u = .tuple #[] ∧ ∃ ds':List (Fin n),ds'.Perm ds∧l=[row v 206 1 m (ds'.map (fpV gf n)),fmR gf n Fs]):=by
 haveI:NeZero n:=⟨by omega⟩
 refine Fn.sort Tryz.sortF (fpV gf n) (fun _=>rfl) (fun i j:Fin n=>pageF n Fs i-pageF n Fs j) (pageF_swo n Fs) 150 206 (enters_of Tryz.func150 (by kernel_rfl) rfl) v m ds hm hb [fmR gf n Fs] ?_ _ rfl
 intro i j W ho
 obtain ⟨x,hx⟩ : ∃ x,Fs[i.1]? = some x:=⟨_,List.getElem?_eq_getElem (by have:=i.2;omega)⟩
 obtain ⟨y,hy⟩ : ∃ y,Fs[j.1]? = some y:=⟨_,List.getElem?_eq_getElem (by have:=j.2;omega)⟩
 have e1:pageF n Fs i=x.page:=by simp [pageF,hx]
 have e2:pageF n Fs j=y.page:=by simp [pageF,hy]
 rw [e1,e2]
 exact Bf.cmp gf _ _ _ _ W (cell_of_cells ho (fm_at hx 0 (by omega))) (cell_of_cells ho (fm_at hy 0 (by omega))) (hpg _ _ hx) (hpg _ _ hy)
open Go.RowKit
def wrL {n:Nat} (first:Nat) (Fs:List Fm) (L:List (Fin n)):List (Nat×List UInt8):=L.filterMap fun i=>(Fs[i.1]?).map fun x=>(first+x.page.toNat,x.b)
theorem wrL_snoc {n first:Nat} {Fs:List Fm} (L:List (Fin n)) (i:Fin n) {x:Fm} (hx:Fs[i.1]? = some x):wrL first Fs (L++[i])=wrL first Fs L++[(first+x.page.toNat,x.b)]:=by
 simp [wrL,List.filterMap_append,hx]
theorem writesP_snoc : ∀ (L:List (Nat×List UInt8)) (D:DD) (p:Nat×List UInt8),Zz D (L++[p])=(Zz D L).write p.1 p.2
 | [],_,_=>rfl
 | q::L,D,p=>by rw [List.cons_append,Zz,Zz,writesP_snoc L]
theorem mark_snoc {A:List Fa} {k:Nat} {x:Fa} (hx:A[k]? = some x):Zm (A.take (k+1))=if x.dirty=true then max (Zm (A.take k)) x.mark else Zm (A.take k):=by
 unfold Zm
 rw [List.take_add_one,hx,List.foldl_append]
 rfl
theorem fr_or {count n:Nat} {A:List Fa} (hF:FOk count n A) {j:Nat} {y:Fa} (hy:A[j]? = some y) : -1≤y.page∧y.page≤count:=by
 rcases hF.fr y (List.mem_of_getElem? hy) with rfl | h
 · exact ⟨by decide,by show (-1:Int)≤count;omega⟩
 · omega
theorem wr_len {n:Nat} (first:Nat) (Fs:List Fm) (L:List (Fin n)):(wrL first Fs L).length≤L.length:=List.length_filterMap_le _ _
theorem wr_at {n first:Nat} {Fs:List Fm} {L:List (Fin n)} {q:Nat×List UInt8}:q∈wrL first Fs L ↔ ∃ i∈L,∃ x,Fs[i.1]? = some x∧q=(first+x.page.toNat,x.b):=by
  unfold wrL
  rw [List.mem_filterMap]
  constructor
  · rintro ⟨i,hi,e⟩
    cases h:Fs[i.1]? with
    | none=>rw [h] at e;cases e
    | some x=>rw [h] at e;exact ⟨i,hi,x,h,(Option.some.inj e).symm⟩
  · rintro ⟨i,hi,x,h,rfl⟩
    exact ⟨i,hi,by rw [h];rfl⟩
theorem wr_ok {n first count N:Nat} {Fs:List Fm} {ds:List (Fin n)} {k:Nat} {q:Nat×List UInt8} (hmem : ∀ i:Fin n,i∈ds → ∃ x,Fs[i.1]? = some x∧x.dirty=true) (hfr : ∀ (j:Nat) (x:Fm),Fs[j]? = some x→x.dirty=true→0≤x.page∧x.page<count∧x.b.length=256) (hN:first+count≤N) (hq:q∈wrL first Fs (ds.take k)):q.1<N∧q.2.length=256:=by
 obtain ⟨i,hi,x,hx,rfl⟩:=wr_at.1 hq
 obtain ⟨y,hy,hd⟩:=hmem i (List.mem_of_mem_take hi)
 rw [hx] at hy
 cases hy
 have:=hfr _ _ hx hd
 exact ⟨by dsimp only;omega,this.2.2⟩
theorem dirN_nodup (n:Nat) (Fs:List Fm) (k:Nat):(dirN n Fs k).Nodup:=(List.nodup_finRange n).filter _
theorem wr_nodup {n first count:Nat} {Fs:List Fm} {A:List Fa} {ds:List (Fin n)} (hA:Fs.map Fm.a=A) (hF:FOk count n A) (hfr : ∀ (j:Nat) (x:Fm),Fs[j]? = some x→x.dirty=true→0≤x.page∧x.page<count∧x.b.length=256) (hmem : ∀ i:Fin n,i∈ds → ∃ x,Fs[i.1]? = some x∧x.dirty=true) (hd:ds.Nodup):((wrL first Fs ds).map Prod.fst).Nodup:=by
 induction ds with
 | nil=>exact List.nodup_nil
 | cons i ds ih =>
  have ih':=ih (fun j hj=>hmem j (List.mem_cons_of_mem _ hj)) (List.nodup_cons.1 hd).2
  obtain ⟨x,hx,hxd⟩:=hmem i (List.mem_cons_self ..)
  have e:wrL first Fs (i::ds)=(first+x.page.toNat,x.b)::wrL first Fs ds:=by simp [wrL,hx]
  rw [e,List.map_cons,List.nodup_cons]
  refine ⟨fun hm=>?_,ih'⟩
  obtain ⟨q,hq,e2⟩:=List.mem_map.1 hm
  obtain ⟨j,hj,y,hy,rfl⟩:=wr_at.1 hq
  obtain ⟨y',hy',hyd⟩:=hmem j (List.mem_cons_of_mem _ hj)
  rw [hy] at hy'
  cases hy'
  have h1:=hfr _ _ hx hxd
  have h2:=hfr _ _ hy hyd
  have:=hF.one i.1 j.1 x.a y.a (map_a_at hA hx) (map_a_at hA hy) (by show x.page=y.page;dsimp only at e2;omega) h1.1
  exact (List.nodup_cons.1 hd).1 (by rw [Fin.ext this];exact hj)
theorem wr_mem {n first:Nat} {Fs:List Fm} {A:List Fa} {ds:List (Fin n)} (hA:Fs.map Fm.a=A) (hn:Fs.length=n) (hds:ds.Perm (dirN n Fs n)) (q:Nat×List UInt8):q∈wrL first Fs ds↔q∈dirtyL first A:=by
  rw [wr_at,dirty_mem]
  constructor
  · rintro ⟨i,hi,x,hx,rfl⟩
    obtain ⟨y,hy,hd⟩:=(dirN_mem hn).1 (hds.mem_iff.1 hi)
    rw [hx] at hy
    cases hy
    exact ⟨i.1,x.a,map_a_at hA hx,hd,rfl⟩
  · rintro ⟨i,x,hx,hd,rfl⟩
    obtain ⟨z,hz,rfl⟩:=map_a_back hA hx
    have hi:i<n:=by rw [←hn];exact (List.getElem?_eq_some_iff.1 hz).1
    exact ⟨⟨i,hi⟩,hds.mem_iff.2 ((dirN_mem hn).2 ⟨z,hz,hd⟩),z,hz,rfl⟩
theorem cleanF_same {n:Nat} {Fs:List Fm} (L:List (Fin n)) {j:Nat} {x:Fm} (hx:Fs[j]? = some x) : ∃ y,(cleanF Fs L)[j]? = some y∧y.page=x.page∧y.p=x.p∧y.c=x.c∧y.b=x.b:=by
 rw [cleanF_at,hx]
 exact ⟨_,rfl,by split <;> rfl,by split <;> rfl,by split <;> rfl,by split <;> rfl⟩
theorem Bf.flush (B:Wn) (g b gf n first count hand:Nat) (gp cl gl:Nat) (W:Wl) (D:DD) (Fs:List Fm) (A:List Fa) (hA:Fs.map Fm.a=A) (hF:FOk count n A) (hdp : ∀ x∈A,x.dirty=true→0≤x.page)
  (hpt : ∀ (i:Nat) (x:Fm),Fs[i]? = some x→0<x.b.length → ∃ g,x.p=some ⟨g,0,none⟩) (hw:WOk W D) (ho:D.Ok) (hsec:first+count≤D.secs.length) :
  Fn Tryz.prog B 115 #[.pointer (some ⟨g,0,none⟩)] [Zw g b gf n first count hand (some ⟨gp,0,none⟩) 1 cl,fmR gf n Fs,lgR (some ⟨gp,0,none⟩) 1 cl [ifW gl],wlA gl b W,Zn b D,daA Fs]
   (fun u l => ∃ (Fs':List Fm) (W':Wl) (D':DD),Fs'.map Fm.a=cleanA A∧u = .tuple #[]∧W'=(Zv W D (Zm A)).1∧D'=(Zz (Zv W D (Zm A)).2 (dirtyL first A)).sync∧l=[Zw g b gf n first count hand (some ⟨gp,0,none⟩) 1 cl,fmR gf n Fs',lgR (some ⟨gp,0,none⟩) 1 cl [ifW gl],wlA gl b W',Zn b D',daA Fs']):=by
 have hn:Fs.length=n:=by rw [←hF.len,←hA,List.length_map]
 have hn1:=hF.n1
 have hn2:=hF.n2
 have hmb:=dirtyMark_bound (A:=A) fun x hx=>(hF.mrk x hx).2
 have hfr : ∀ (j:Nat) (x:Fm),Fs[j]? = some x→x.dirty=true→0≤x.page∧x.page<count∧x.b.length=256:=fun j x hx hd=>by
  have h1:=map_a_at hA hx
  have:=fr_ok hF h1 (hdp _ (List.mem_of_getElem? h1) hd)
  exact ⟨this.1,this.2.1,this.2.2.1⟩
 refine Wq 78 Tryz.func115 rfl rfl (nB rfl) (fun F=>?_)
 try simp only [cA,nA]
 refine TS (La rfl rfl (Ld (TS (La rfl rfl (Ld ?_)))))
 refine Ts (TS (Lm rfl rfl (Lq rfl (Qn rfl) (Lq rfl (Qf (off:=3) (by kernel_rfl) rfl) (Lq rfl (Ql (by kernel_rfl) rfl rfl) (Lq rfl (yI (e:=204) (sz:=6) (by kernel_rfl) rfl) ?_))))))
 refine Lm rfl rfl (Ld (yH (T.conv (l':=row (.slice none 0 0) 206 1 0 ((dirN n Fs 0).map (fpV gf n))::Zw g b gf n first count hand (some ⟨gp,0,none⟩) 1 cl::fmR gf n Fs::lgR (some ⟨gp,0,none⟩) 1 cl [ifW gl]::wlA gl b W::Zn b D::daA Fs::F) (fun w ho=>by rw [dirN_zero];exact ho.row_nil _ _) ?_)))
 refine zG (fun mz fz lz => ∃ (f0:Fr) (k:Nat) (p:Option Addr) (m c:Nat) (mk:Int),(k≤n∧m=(dirN n Fs k).length∧mk=Zm (A.take k))∧mz=n-k∧fz=(upd (upd (upd (upd (upd f0 0 (.pointer (some ⟨g,0,none⟩))) 2 (.slice p m c)) 3 (.int .i64 mk)) 12 (.int .i64 n)) 13 (.int .i64 k))∧lz=row (.slice p m c) 206 1 m ((dirN n Fs k).map (fpV gf n))::Zw g b gf n first count hand (some ⟨gp,0,none⟩) 1 cl::fmR gf n Fs::lgR (some ⟨gp,0,none⟩) 1 cl [ifW gl]::wlA gl b W::Zn b D::daA Fs::F) ?_ ?_
 · refine ⟨_,_,⟨_,0,none,0,0,0,⟨Nat.zero_le _,by rw [dirN_zero];rfl,rfl⟩,rfl,(Za rfl (Za rfl (Za rfl (Za rfl (Za rfl rfl))))),rfl⟩,Sa⟩
 rintro mz fz lz ⟨f0,k,p,m,c,mk,⟨hk,hm,hmk⟩,hmz,rfl,rfl⟩
 subst mz
 refine TS (Lq rfl (yM rfl rfl) (Ld (Ts ?_)))
 refine yN rfl (fun hlt=>?_) (fun hlt=>?_)
 ·
  have hlt':k<n:=by omega
  obtain ⟨y,hy⟩ : ∃ y,Fs[k]? = some y:=⟨_,List.getElem?_eq_getElem (by omega)⟩
  have hyA:=map_a_at hA hy
  have hym:=hF.mrk _ (List.mem_of_getElem? hyA)
  have hmb2:=dirtyMark_bound (A:=A.take k) fun x hx=>(hF.mrk x (List.mem_of_mem_take hx)).2
  have hdl:=dirN_le n Fs k
  refine Tk (Ts (yH (TS (Lm rfl rfl (La rfl rfl (Ld ?_))))))
  refine TS (Lm rfl rfl (Lq rfl (Qn rfl) (Lq rfl (Qf (off:=3) (by kernel_rfl) rfl) (Lq rfl (Ql (by kernel_rfl) rfl rfl) (Lm rfl rfl (Lq rfl (Qi _ (e:=204) (sz:=6) (by kernel_rfl) rfl rfl rfl (by omega)) ?_))))))
  refine La rfl rfl (Ld (TS (Lm rfl rfl (Lq rfl (Qn rfl) (Lq rfl (Qf (off:=4) (by kernel_rfl) rfl) (Lq rfl (Ql (v := .bool y.dirty) (by kernel_rfl) rfl (fm_at hy 4 (by omega))) ?_))))))
  refine Ld ?_
  refine Y9 rfl (fun hd=>?_) (fun hd=>?_)
  ·
   refine TS (Lm rfl rfl (Lm rfl rfl ?_))
   refine Le rfl (zK [_] (e:=206) (sz:=1) (by kernel_rfl) ⟨.pointer none,by kernel_rfl,rfl⟩ rfl rfl rfl (by omega) (by omega) ?_)
   intro g28
   refine Le rfl (Ea Bf.elemP rfl rfl (SrcOf.blk (by kernel_rfl) rfl (by simp [Value.oneCell'])) (by unfold maxLen;omega) (by omega) ?_)
   rintro p2 c2 hp2
   rw [show (dirN n Fs k).map (fpV gf n)++[Value.pointer (some ⟨gf,0+k*6,none⟩)]=(dirN n Fs (k+1)).map (fpV gf n) by rw [dirN_succ hlt' hy,if_pos hd,List.map_append];rfl]
   refine La rfl rfl (Ld (TR (Lm rfl rfl (Lm rfl rfl (Lq rfl (Qn rfl) (Lq rfl (Qf (off:=2) (by kernel_rfl) rfl) (Lq rfl (Ql (v := .int .i64 y.mark) (by kernel_rfl) rfl (fm_at hy 2 (by omega))) ?_)))))))
   refine Lq rfl (YP rfl rfl) (La rfl rfl (Ld (TR (Lq rfl (Qd rfl rfl (Ze (by omega) (by omega))) (Lm rfl rfl (Ld ?_))))))
   refine ⟨_,?_,_,⟨_,k+1,p2,m+1,c2,max mk y.mark,⟨by omega,by rw [dirN_succ hlt' hy,if_pos hd,List.length_append,hm];rfl,by rw [mark_snoc hyA,if_pos (show y.a.dirty=true from hd),hmk];rfl⟩,rfl,(Za rfl (Za rfl (Za rfl (Za rfl (Za rfl rfl))))),rfl⟩,Sa⟩
   omega
  have hd2 : ¬ y.dirty=true:=by rw [hd];simp
  refine Tk (TR (Lq rfl (Qd rfl rfl (Ze (by omega) (by omega))) (Lm rfl rfl (Ld ?_))))
  refine ⟨_,?_,_,⟨_,k+1,p,m,c,mk,⟨by omega,by rw [dirN_succ hlt' hy,if_neg hd2,List.append_nil];exact hm,by rw [mark_snoc hyA,if_neg (show ¬ y.a.dirty=true from hd2)];exact hmk⟩,rfl,(Za rfl (Za rfl (Za rfl (Za rfl (Za rfl rfl))))),rfl⟩,(by rw [dirN_succ hlt' hy,if_neg hd2,List.append_nil];exact Sa)⟩
  omega
 obtain rfl:n=k:=by omega
 have hAt:A.take n=A:=by rw [←hF.len,List.take_length]
 rw [hAt] at hmk
 subst hmk
 have hdl:=dirN_le n Fs n
 refine zB (TS (Lm rfl rfl ?_))
 refine Le rfl (Ec (Bf.sort B gf n Fs hn hn1 (fun j x hx=>by have h:=fr_or hF (map_a_at hA hx);exact ⟨by have:=h.1;show -(2^62)≤x.a.page;omega,by have:=h.2;show x.a.page<2^62;have:=ho.max;omega⟩) (.slice p m c) (dirN n Fs n) m hm.symm (by omega)) Tryz.func149 rfl rfl rfl ?_)
 rintro _ _ ⟨rfl,ds,hds,rfl⟩
 try simp only [cA,nA]
 refine Ld (TS (Lm rfl rfl (Lm rfl rfl ?_)))
 have hdn:ds.length=m:=by rw [hds.length_eq,hm]
 obtain ⟨f1,f2,f3,f4,f5,f6,f7⟩:=hw.force ho (Zm A) hw.room
 refine Le rfl (Ec (Bp.force B g b gf n first count hand gp cl gl W D (Zm A) hw) Tryz.func123 rfl rfl rfl ?_)
 rintro _ _ ⟨rfl,rfl⟩
 try simp only [cA,nA]
 refine Ld (Ts (TS (Lm rfl rfl (Lq rfl (yI (e:=206) (sz:=1) (by kernel_rfl) rfl) (Lm rfl rfl (Ld ?_))))))
 refine yH ?_
 obtain ⟨W2,hW2⟩ : ∃ W2,(Zv W D (Zm A)).1=W2:=⟨_,rfl⟩
 obtain ⟨D2,hD2⟩ : ∃ D2,(Zv W D (Zm A)).2=D2:=⟨_,rfl⟩
 rw [hW2,hD2] at f1
 rw [hD2] at f2 f3 f4
 rw [hW2,hD2]
 have hmem : ∀ i:Fin n,i∈ds → ∃ x,Fs[i.1]? = some x∧x.dirty=true:=fun i hi=>(dirN_mem hn).1 (hds.mem_iff.1 hi)
 have hwr : ∀ (k:Nat) (q:Nat×List UInt8),q∈wrL first Fs (ds.take k)→q.1<D2.secs.length∧q.2.length=256:=fun k q hq=>wr_ok hmem hfr (by omega) hq
 rw [show fmR gf n Fs=fmR gf n (cleanF Fs (ds.take 0)) by rw [List.take_zero,cleanF_nil],show Zn b D2=Zn b (Zz D2 (wrL first Fs (ds.take 0))) from rfl]
 refine zG (fun mz fz lz => ∃ (f0:Fr) (k:Nat),(k≤m)∧mz=m-k∧fz=(upd (upd (upd (upd f0 0 (.pointer (some ⟨g,0,none⟩))) 42 (.slice p m c)) 43 (.int .i64 m)) 44 (.int .i64 k))∧lz=row (.slice p m c) 206 1 m (ds.map (fpV gf n))::Zw g b gf n first count hand (some ⟨gp,0,none⟩) 1 cl::fmR gf n (cleanF Fs (ds.take k))::lgR (some ⟨gp,0,none⟩) 1 cl [ifW gl]::wlA gl b W2::Zn b (Zz D2 (wrL first Fs (ds.take k)))::daA Fs::F) ?_ ?_
 · refine ⟨_,_,⟨_,0,Nat.zero_le _,rfl,(Za rfl (Za rfl (Za rfl (Za rfl rfl)))),rfl⟩,Sa⟩
 rintro mz fz lz ⟨f0,k,hk2,hmz,rfl,rfl⟩
 subst mz
 refine TS (Lq rfl (yM rfl rfl) (Ld (Ts ?_)))
 refine yN rfl (fun hlt2=>?_) (fun hlt2=>?_)
 ·
  refine T.own (fun w ho=>?_)
  obtain ⟨gd,rfl⟩ : ∃ gd,p=some ⟨gd,0,none⟩:=(ho.slice_at (p:=p) (m:=m) (c:=c)).2.1 (by omega)
  clear ho
  obtain ⟨i,hi⟩ : ∃ i,ds[k]? = some i:=⟨_,List.getElem?_eq_getElem (by omega)⟩
  obtain ⟨x,hx,hxd⟩:=hmem i (List.mem_of_getElem? hi)
  obtain ⟨x1,x2,x3⟩:=hfr _ _ hx hxd
  obtain ⟨gx,hgx⟩:=hpt _ _ hx (by omega)
  obtain ⟨y,hy,y1,y2,y3,y4⟩:=cleanF_same (ds.take k) hx
  obtain ⟨w1,w2,w3⟩:=writes_ok f2 (hwr k)
  have hcl:(cleanF Fs (ds.take k)).length=n:=by rw [cleanF_len];exact hn
  have hil:=i.2
  have hfl:=fm_len (cleanF Fs (ds.take k))
  have hwk:=wr_len first Fs (ds.take k)
  have htk:(ds.take k).length≤4096:=by rw [List.length_take];omega
  have hwroom:=f1.room
  have hwmx:=f1.max
  refine Tk (Ts (yH (TS (Lq rfl (Qi _ (e:=206) (sz:=1) (by kernel_rfl) rfl rfl rfl (by omega)) ?_))))
  refine Lq rfl (Ql (v:=fpV gf n i) (by kernel_rfl) rfl (by rw [List.getElem?_map,show 0+k*1=k by omega,hi];rfl)) ?_
  refine La rfl rfl (Ld (Ts (T.draw 20 ([Zw g b gf n first count hand (some ⟨gp,0,none⟩) 1 cl,fmR gf n (cleanF Fs (ds.take k))]) (by kernel_rfl) (nB rfl) (by kernel_rfl) (Rq 0 rfl rfl (by kernel_rfl) Sa (Qm rfl) (Rq 1 rfl rfl (by kernel_rfl) Sa (Qn rfl) (Rq 2 rfl rfl (by kernel_rfl) Sa (Q0 (by kernel_rfl) rfl) (Rq 3 rfl rfl (by kernel_rfl) Sa (Q0 (by kernel_rfl) rfl) ?_)))))))
  refine Rq 4 rfl rfl (by kernel_rfl) Sa (Ql (by kernel_rfl) rfl rfl) (Rq 5 rfl rfl (by kernel_rfl) Sa (Qm rfl) (Rq 6 rfl rfl (by kernel_rfl) Sa (Qn rfl) (Rq 7 rfl rfl (by kernel_rfl) Sa (Q0 (by kernel_rfl) rfl) (Rq 8 rfl rfl (by kernel_rfl) Sa (Qf (off:=1) (by kernel_rfl) rfl) (Rq 9 rfl rfl (by kernel_rfl) Sa (Ql (by kernel_rfl) rfl rfl) (Rq 10 rfl rfl (by kernel_rfl) Sa (Qm rfl) (Rq 11 rfl rfl (by kernel_rfl) Sa (Qn rfl) ?_)))))))
  refine Rq 12 rfl rfl (by kernel_rfl) Sa (Q0 (by kernel_rfl) rfl) (Rq 13 rfl rfl (by kernel_rfl) Sa (Ql (v := .int .i64 x.page) (by kernel_rfl) rfl (by have:=fm_at hy 0 (by omega);rw [Nat.add_zero] at this;rw [this];simp [y1])) (Rq 14 rfl rfl (by kernel_rfl) Sa (Qd rfl rfl (Ze (by omega) (by omega))) (Rq 15 rfl rfl (by kernel_rfl) Sa (Qm rfl) (Rq 16 rfl rfl (by kernel_rfl) Sa (Qn rfl) (Rq 17 rfl rfl (by kernel_rfl) Sa (Qf (off:=1) (by kernel_rfl) rfl) (Rq 18 rfl rfl (by kernel_rfl) Sa (Ql (v := .slice (some ⟨gx,0,none⟩) 256 x.c) (by kernel_rfl) rfl (by rw [fm_at hy 1 (by omega)];simp [y2,y3,y4,hgx,x3])) (yK 19 (by kernel_rfl) ?_)))))))
  refine zY rfl rfl (by kernel_rfl) (Ec (Dk.writeF B b (Zz D2 (wrL first Fs (ds.take k))) (daA Fs) gx 0 x.c (first+x.page.toNat) _ (by omega) x.b (fun h H=>daA_cells hx hgx (by omega) h H) (by omega) x3 (by omega)) Tryz.func33 rfl rfl rfl ?_)
  rintro _ _ ⟨rfl,rfl⟩
  try simp only [cA,nA]
  refine Rd0 (by rfl) ?_
  simp only [dS,dZ,dN]
  refine Ld (TR (Lm rfl rfl (Lq rfl (Qn rfl) (Lq rfl (Qf (off:=4) (by kernel_rfl) rfl) ?_))))
  refine L0 rfl (E1 (by kernel_rfl) rfl rfl rfl (by omega) ?_)
  rw [fm_set (y:={y with dirty:=false}) hy 4 (by omega) _ rfl,cleanF_snoc (ds.take k) i hy,←writesP_snoc (wrL first Fs (ds.take k)) D2 (first+x.page.toNat,x.b),←wrL_snoc (ds.take k) i hx,←show ds.take (k+1)=ds.take k++[i] by rw [List.take_add_one,hi];rfl]
  refine Ld (TR (Lq rfl (Qd rfl rfl (Ze (by omega) (by omega))) (Lm rfl rfl (Ld ?_))))
  refine ⟨_,?_,_,⟨_,k+1,by omega,rfl,(Za rfl (Za rfl (Za rfl (Za rfl rfl)))),rfl⟩,Sa⟩
  omega
 obtain rfl:m=k:=by omega
 have htk:ds.take m=ds:=by rw [←hdn,List.take_length]
 rw [htk]
 have hww:=hwr m
 rw [htk] at hww
 obtain ⟨w1,w2,w3⟩:=writes_ok f2 hww
 have hwroom:=f1.room
 have hwk:=wr_len first Fs ds
 refine zB (TR (Lm rfl rfl (Lq rfl (Qn rfl) (Lq rfl (Q0 (by kernel_rfl) rfl) (Lq rfl (Q0 (by kernel_rfl) rfl) (Lq rfl (Ql (by kernel_rfl) rfl rfl) ?_))))))
 refine Le rfl (Ec (Dk.syncF B b (Zz D2 (wrL first Fs ds)) (by omega)) Tryz.func106 rfl rfl rfl ?_)
 rintro _ _ ⟨rfl,rfl⟩
 try simp only [cA,nA]
 refine Ld ?_
 exact ⟨.inr rfl,_,_,res [] rfl trivial,⟨cleanF Fs ds,_,_,by rw [cleanF_all hn ds (fun i hi=>hds.mem_iff.2 ((dirN_mem hn).2 hi)),hA],rfl,rfl,writes_sync f2 hww (wr_nodup hA hF hfr hmem (hds.nodup_iff.2 (dirN_nodup n Fs n))) (dirty_nodup hF hdp) (wr_mem hA hn hds),by rw [cleanF_da]⟩,Sa⟩
open Go.RowKit
abbrev strW (d:List UInt8):Value := .string (Zq d)
def rpV (p:Nat×List UInt8):List Value:=[.int .i64 p.1,strW p.2]
theorem one_strW {l:List (List UInt8)} : ∀ v∈l.map strW,v.oneCell'=true:=by
 intro v hv;obtain ⟨d,_,rfl⟩:=List.mem_map.1 hv;rfl
theorem one_rpV {l:List (Nat×List UInt8)} : ∀ v∈l.flatMap rpV,v.oneCell'=true:=by
 intro v hv
 obtain ⟨p,_,hp⟩:=List.mem_flatMap.1 hv
 simp only [rpV,List.mem_cons,List.not_mem_nil,or_false] at hp
 rcases hp with rfl | rfl <;> rfl
theorem Rf.elemS : ElemOk Tryz.prog 88 9 1 16 := .mk' (.string ⟨#[]⟩) Tryz.underlying88 (by kernel_rfl) rfl (by omega)
theorem Rf.elemW : ElemOk Tryz.prog 91 233 2 24 := .mk' (.agg #[.int .i64 0,.string ⟨#[]⟩]) Tryz.underlying91 (by kernel_rfl) rfl (by omega)
abbrev rS (v:Value) (n:Nat) (secs:List (List UInt8)):Wp:=row v 9 1 n (secs.map strW)
abbrev rW (v:Value) (n:Nat) (pend:List (Nat×List UInt8)):Wp:=row v 233 2 n (pend.flatMap rpV)
theorem Rf.nilS {B:Wn} {w:World} {l:List Wp} (h:Own B w l):Own B w (rS (.slice none 0 0) 0 []::l):=h.row_nil _ _
theorem Rf.nilW {B:Wn} {w:World} {l:List Wp} (h:Own B w l):Own B w (rW (.slice none 0 0) 0 []::l):=h.row_nil _ _
abbrev sl (p:Option Addr) (n c:Nat):Value := .slice p n c
theorem Rf.copy (B:Wn) (p q:Option Addr) (a b n m:Nat) (secs:List (List UInt8)) (pend:List (Nat×List UInt8)) (hs:n≤4096) (hp:m<2^32) :
  Fn Tryz.prog B 122 #[.agg #[.slice p n a,.slice q m b]] [rS (.slice p n a) n secs,rW (.slice q m b) m pend] (fun v l => ∃ p' a' q' b',v = .agg #[.slice p' n a',.slice q' m b']∧l=[rS (.slice p' n a') n secs,rW (.slice q' m b') m pend,rS (.slice p n a) n secs,rW (.slice q m b) m pend]):=by
 refine Wq 18 Tryz.func122 rfl rfl (nB rfl) (fun F=>?_)
 try simp only [cA,nA]
 refine TS ?_
 refine Le rfl (zL [_,_] rfl rfl ?_)
 intro g1
 refine Le rfl (El [.slice none 0 0,.slice none 0 0] (by unfold Zf;kernel_rfl) ?_)
 intro g2
 refine Ld (TS (Lq rfl (z8 [(0,1),(1,1)] [.slice none 0 0,.slice none 0 0] [_,_] [] (by kernel_rfl) (by unfold Zf;kernel_rfl) rfl rfl) ?_))
 refine Le rfl (El [.slice none 0 0,.slice none 0 0] (by unfold Zf;kernel_rfl) ?_)
 intro g3
 refine L0 rfl (Es [_,_] (by kernel_rfl) rfl rfl rfl rfl (by simp) ?_)
 try simp only [splice,lC,lN,dS,cA,tS,tZ,dZ,nA,aN]
 refine Ld (TS (Lq rfl (Q0 (by kernel_rfl) rfl) (Lq rfl (Ql (by kernel_rfl) rfl rfl) (Lq rfl (Q0 (by kernel_rfl) rfl) (Lq rfl (Ql (by kernel_rfl) rfl rfl) ?_)))))
 refine Le rfl (ZA Rf.elemS rfl rfl (SrcOf.row (by kernel_rfl) one_strW) (by unfold maxLen;omega) (by omega) ?_)
 rintro p1 c1 hp1
 refine Lq rfl (Q0 (by kernel_rfl) rfl) ?_
 refine L0 rfl (E1 (by kernel_rfl) rfl rfl rfl (by first | (simp;done) | (simp;omega)) ?_)
 try simp only [List.set_cons_zero,List.set_cons_succ]
 refine Ld (TS (Lq rfl (Qf (off:=1) (by kernel_rfl) rfl) (Lq rfl (Ql (by kernel_rfl) rfl rfl) (Lq rfl (Qf (off:=1) (by kernel_rfl) rfl) (Lq rfl (Ql (by kernel_rfl) rfl rfl) ?_)))))
 refine Le rfl (ZA Rf.elemW rfl rfl (SrcOf.row (by kernel_rfl) one_rpV) (by unfold maxLen;omega) (by omega) ?_)
 rintro p2 c2 hp2
 refine Lq rfl (Qf (off:=1) (by kernel_rfl) rfl) ?_
 refine L0 rfl (E1 (by kernel_rfl) rfl rfl rfl (by first | (simp;done) | (simp;omega)) ?_)
 try simp only [List.set_cons_zero,List.set_cons_succ]
 refine Ld (TS (Lq rfl (QL [_,_] (by kernel_rfl) rfl ⟨rfl,rfl,trivial⟩) ?_))
 refine L0 rfl (Es [_,_] (by kernel_rfl) rfl rfl rfl rfl (by simp) ?_)
 try simp only [splice,lC,lN,dS,cA,tS,tZ,dZ,nA,aN]
 refine Ld (T.ret ?_)
 exact ⟨.inl rfl,_,_,res [_] rfl ⟨rvA [_,_] (by kernel_rfl) rfl ⟨rfl,rfl,trivial⟩,trivial⟩,⟨_,_,_,_,rfl,rfl⟩,Sa⟩
open Go.RowKit
theorem made_zs : (madeCells (Value.int .u8 0).cells (256*1)).toList=Zb zs:=by
 rw [show (Value.int .u8 0).cells=(List.replicate 1 (Value.int .u8 0)).toArray from rfl,made_replicate _ 1 _ (by omega)]
 unfold zs Zb
 rw [List.map_replicate]
 rfl
open Go.RowKit
theorem Rf.put (B:Wn) (p q:Option Addr) (a b n m:Nat) (i:Int) (j:Nat) (hi:i=j) (dat:List UInt8) (secs:List (List UInt8)) (pend:List (Nat×List UInt8)) (hs:n≤4096) (hp:m+1<2^32) (hn:j<n) (hd:dat.length=256) :
  Fn Tryz.prog B 76 #[.agg #[.slice p n a,.slice q m b],.int .i64 i,.string (Zq dat)] [rS (.slice p n a) n secs,rW (.slice q m b) m pend]
   (fun v l => ∃ p' a' q' b',v = .tuple #[.agg #[.slice p' n a',.slice q' (m+1) b'],.int .i64 0]∧l=[rS (.slice p' n a') n secs,rW (.slice q' (m+1) b') (m+1) (pend++[(j,dat)])]):=by
 subst hi
 refine Ws 34 Tryz.func76 rfl rfl (nB rfl) (fun F=>?_)
 try simp only [cA,nA]
 refine TS ?_
 refine Le rfl (zL [_,_] rfl rfl ?_)
 intro g3
 refine Le rfl (El [.slice none 0 0,.slice none 0 0] (by unfold Zf;kernel_rfl) ?_)
 intro g6
 refine La rfl rfl (Ld (Ts (TS (Lm rfl rfl (Lq rfl (yM rfl rfl) (Lm rfl rfl ?_))))))
 refine yT (t:=11) rfl rfl (Lm rfl rfl (Lq rfl (Q0 (by kernel_rfl) rfl) (Lq rfl (Ql (by kernel_rfl) rfl rfl) (Lq rfl (yI (e:=9) (sz:=1) (by kernel_rfl) rfl) (Lq rfl (zX rfl rfl) (Lq rfl (Qp rfl rfl) (Ld ?_)))))))
 refine yL rfl (by omega) (Tk (Ts (TS (Lm rfl rfl (Lq rfl (YU (by kernel_rfl) rfl) (Lq rfl (yW rfl rfl) ?_))))))
 refine Ld (yL rfl (by omega) (Tk (TS (Lq rfl (QL [_,_] (by kernel_rfl) rfl ⟨rfl,rfl,trivial⟩) ?_))))
 refine Le rfl (Ec (Rf.copy B p q a b n m secs pend hs (by omega)) Tryz.func122 rfl rfl rfl ?_)
 rintro _ _ ⟨p1,a1,q1,b1,rfl,rfl⟩
 try simp only [cA,nA]
 refine Le rfl (El [.slice none 0 0,.slice none 0 0] (by unfold Zf;kernel_rfl) ?_)
 intro g8
 refine L0 rfl (Es [_,_] (by kernel_rfl) rfl rfl rfl rfl (by simp) ?_)
 try simp only [splice,lC,lN,dS,cA,tS,tZ,dZ,nA,aN]
 refine Ld (TS (Lq rfl (Qf (off:=1) (by kernel_rfl) rfl) (Lq rfl (Ql (by kernel_rfl) rfl rfl) (Lm rfl rfl (Lm rfl rfl (Lq rfl (z8 [(0,1),(1,1)] [.int .i64 0,.string .empty] [_,_] [(0,_),(1,_)] (by kernel_rfl) (by unfold Zf;kernel_rfl) rfl rfl) ?_))))))
 refine Le rfl (zK [_,_] (e:=233) (sz:=2) (by kernel_rfl) ⟨.agg #[.int .i64 0,.string .empty],by kernel_rfl,rfl⟩ rfl rfl rfl (by omega) (by omega) ?_)
 intro g30
 refine Le rfl (Ea Rf.elemW rfl rfl (SrcOf.blk (by kernel_rfl) rfl (by simp [Value.oneCell'])) (by unfold maxLen;omega) (by omega) ?_)
 rintro p2 c2 hp2
 try simp only [cA,nA]
 rw [show [Value.int .i64 (j:Int),.string (Zq dat)]=rpV (j,dat) from rfl,flat_snoc]
 refine Lq rfl (Qf (off:=1) (by kernel_rfl) rfl) ?_
 refine L0 rfl (E1 (by kernel_rfl) rfl rfl rfl (by first | (simp;done) | (simp;omega)) ?_)
 try simp only [List.set_cons_zero,List.set_cons_succ]
 refine Ld (TS (Lq rfl (QL [_,_] (by kernel_rfl) rfl ⟨rfl,rfl,trivial⟩) ?_))
 refine L0 rfl (Es [_,_] (by kernel_rfl) rfl rfl rfl rfl (by simp) ?_)
 try simp only [splice,lC,lN,dS,cA,tS,tZ,dZ,nA,aN]
 refine La rfl rfl (Ld (T.ret ?_))
 exact ⟨.inl rfl,_,_,res [_,_] rfl ⟨rvA [_,_] (by kernel_rfl) rfl ⟨rfl,rfl,trivial⟩,rvT rfl,trivial⟩,⟨_,_,_,_,rfl,rfl⟩,Sa⟩
theorem Rf.read (B:Wn) (p q:Option Addr) (a b n m:Nat) (i:Int) (j:Nat) (hi:i=j) (secs:List (List UInt8)) (pend:List (Nat×List UInt8)) (hn:j<n) (hs:n≤4096) (hp:m<2^32) :
  Fn Tryz.prog B 72 #[.agg #[.slice p n a,.slice q m b],.int .i64 i] [rS (.slice p n a) n secs,rW (.slice q m b) m pend]
   (fun v l=>v = .tuple #[strW (DD.read ⟨secs,pend⟩ j),.int .i64 0]∧l=[rS (.slice p n a) n secs,rW (.slice q m b) m pend]):=by
 subst hi
 refine Wr 44 Tryz.func72 rfl rfl (nB rfl) (fun F=>?_)
 try simp only [cA,nA]
 refine T.own (fun w ho=>?_)
 obtain ⟨-,hg,hsl⟩:=ho.slice_at (p:=p) (m:=n) (c:=a)
 obtain ⟨-,hq,hpl⟩:=ho.slice_at (p:=q) (m:=m) (c:=b)
 obtain ⟨g,rfl⟩:=hg (by omega)
 replace hsl:secs.length=n:=by simpa using hsl
 replace hpl:pend.length=m:=by rw [flat_length rpV 2 _ (fun _ _=>rfl)] at hpl;omega
 clear ho
 refine TS ?_
 refine Le rfl (zL [_,_] rfl rfl ?_)
 intro g2
 refine La rfl rfl (La rfl rfl (Ld (Ts (TS (Lm rfl rfl (Lq rfl (yM rfl rfl) ?_))))))
 refine Lm rfl rfl (yT (t:=10) rfl rfl (Lm rfl rfl (Lq rfl (Q0 (by kernel_rfl) rfl) (Lq rfl (Ql (by kernel_rfl) rfl rfl) (Lq rfl (yI (e:=9) (sz:=1) (by kernel_rfl) rfl) (Lq rfl (zX rfl rfl) (Lq rfl (Qp rfl rfl) ?_)))))))
 refine Ld (yL rfl (by omega) (Tk (TS (Lq rfl (Q0 (by kernel_rfl) rfl) (Lq rfl (Ql (by kernel_rfl) rfl rfl) (Lm rfl rfl ?_))))))
 refine Lq rfl (Qi _ (e:=9) (sz:=1) (by kernel_rfl) rfl rfl rfl (by omega)) (Lq rfl (Ql (by kernel_rfl) rfl (map_at _ _ _ (by omega))) (La rfl rfl (Ld (Ts (TS (La rfl rfl ?_))))))
 refine Ld (yH ?_)
 refine zG (fun mz fz lz => ∃ (f0:Fr) (k:Nat) (x:List UInt8),(k≤m∧x=DD.readK ⟨secs,pend⟩ j k)∧mz=m-k∧fz=(upd (upd (upd (upd f0 1 (.int .i64 j)) 2 (.pointer (some ⟨g2,0,none⟩))) 6 (strW x)) 7 (.int .i64 k))∧lz=[blk g2 [.slice (some ⟨g,0,none⟩) n a,.slice q m b] 93,rS (.slice (some ⟨g,0,none⟩) n a) n secs,rW (.slice q m b) m pend]++F) ?_ ?_
 · refine ⟨_,_,⟨_,0,_,⟨Nat.zero_le _,by rw [DD.readK_zero];simp [hsl,hn]⟩,rfl,(Za rfl (Za rfl (Za rfl (Za rfl rfl)))),rfl⟩,Sa⟩
 rintro mz fz lz ⟨f0,k,x,⟨hk,hx⟩,hmz,rfl,rfl⟩
 subst mz
 try simp only [cA,nA]
 refine Ts (TS (Lm rfl rfl (Lq rfl (Qf (off:=1) (by kernel_rfl) rfl) (Lq rfl (Ql (by kernel_rfl) rfl rfl) (Lq rfl (yI (e:=233) (sz:=2) (by kernel_rfl) rfl) (Lq rfl (yM rfl rfl) ?_))))))
 refine Ld ?_
 refine yN rfl (fun hlt=>?_) (fun hlt=>?_)
 ·
  obtain ⟨gq,rfl⟩:=hq (by omega)
  refine Tk (Ts (yH (TS (Lq rfl (Qf (off:=1) (by kernel_rfl) rfl) (Lq rfl (Ql (by kernel_rfl) rfl rfl) (Lm rfl rfl ?_))))))
  refine Lq rfl (Qi _ (e:=233) (sz:=2) (by kernel_rfl) rfl rfl rfl (by omega)) (Lq rfl (Q0 (by kernel_rfl) rfl) (Lq rfl (Ql (by kernel_rfl) rfl (flat_cell0 _ _ _ (by intros;rfl) _ (by omega) (by rfl))) (Lm rfl rfl (Lq rfl (yU rfl rfl) (Ld ?_)))))
  refine yN rfl (fun he=>?_) (fun he=>?_)
  ·
   refine TR (Lq rfl (Qf (off:=1) (by kernel_rfl) rfl) (Lq rfl (Ql (by kernel_rfl) rfl rfl) (Lm rfl rfl (Lq rfl (Qi _ (e:=233) (sz:=2) (by kernel_rfl) rfl rfl rfl (by omega)) (Lq rfl (Qf (off:=1) (by kernel_rfl) rfl) (Lq rfl (Ql (by kernel_rfl) rfl (flat_cell _ _ _ (by intros;rfl) _ _ (by omega) (by rfl))) (La rfl rfl ?_)))))))
   refine Ld (TR (Lm rfl rfl (Lq rfl (Qd rfl rfl (Ze (by omega) (by omega))) (La rfl rfl (Ld ?_)))))
   refine ⟨_,?_,_,⟨_,k+1,_,⟨by omega,by rw [DD.readK_succ _ _ _ (by simp only;omega),if_pos (by simp only;omega)]⟩,rfl,(Za rfl (Za rfl (Za rfl (Za rfl rfl)))),rfl⟩,Sa⟩
   omega
  refine Tk (TR (Lm rfl rfl (Lq rfl (Qd rfl rfl (Ze (by omega) (by omega))) (La rfl rfl (Ld ?_)))))
  refine ⟨_,?_,_,⟨_,k+1,_,⟨by omega,by rw [DD.readK_succ _ _ _ (by simp only;omega),if_neg (by simp only;omega),hx]⟩,rfl,(Za rfl (Za rfl (Za rfl (Za rfl rfl)))),rfl⟩,Sa⟩
  omega
 have e:k=m:=by omega
 subst e
 subst hx
 refine zB (TS (Lm rfl rfl (La rfl rfl (La rfl rfl (Ld (T.ret ?_))))))
 exact ⟨.inl rfl,_,_,res [_,_] rfl ⟨rvT rfl,rvT rfl,trivial⟩,⟨by rw [DD.read,hpl];rfl,rfl⟩,Sa⟩
open Go.RowKit
def rAmt (al:Bool) (keep:List Bool) (tear at_:Int) (i:Nat):Nat:=if al=true then 256 else if (i:Int)=tear then clampN at_ else if keep.getD i false=true then 256 else 0
theorem rAmt_le (al:Bool) (keep:List Bool) (tear at_:Int) (i:Nat):rAmt al keep tear at_ i≤256:=by
  unfold rAmt
  have:=clampN_le at_
  split
  · omega
  · split
    · exact this
    · split <;> omega
theorem Rf.crash (B:Wn) (p q:Option Addr) (a b n m:Nat) (al:Bool) (vk:Value) (keep:List Bool) (tear at_:Int) (secs:List (List UInt8)) (pend:List (Nat×List UInt8)) (hD:DD.Ok ⟨secs,pend⟩) (hp:m<2^32) (hk:RoS B vk (boolsV keep)) :
  Fn Tryz.prog B 77 #[.agg #[.slice p n a,.slice q m b],.bool al,vk,.int .i64 tear,.int .i64 at_] [rS (.slice p n a) n secs,rW (.slice q m b) m pend]
   (fun v l => ∃ p' a',v = .agg #[.slice p' n a',.slice none 0 0]∧l=[rS (.slice p' n a') n (DD.lays ⟨secs,pend⟩ (fun i=>some (rAmt al keep tear at_ i)) m),rW (.slice none 0 0) 0 []]):=by
 obtain ⟨ka,kc,rfl,hkc⟩:=hk
 rw [show (boolsV keep).length=keep.length by simp [boolsV]]
 refine Fn.enter5 74 Tryz.func77 rfl rfl (nB rfl) (fun F=>?_)
 try simp only [cA,nA]
 refine T.own (fun w ho=>?_)
 obtain ⟨-,hg,hsl⟩:=ho.slice_at (p:=p) (m:=n) (c:=a)
 obtain ⟨-,hq,hpl⟩:=ho.slice_at (p:=q) (m:=m) (c:=b)
 replace hsl:secs.length=n:=by simpa using hsl
 replace hpl:pend.length=m:=by rw [flat_length rpV 2 _ (fun _ _=>rfl)] at hpl;omega
 clear ho hg
 have hn1:n≤4096:=by rw [←hsl];exact hD.max
 have hn0:0<n:=by rw [←hsl];exact hD.pos
 refine TS ?_
 refine Le rfl (zL [_,_] rfl rfl ?_)
 intro g5
 refine Le rfl (El [.slice none 0 0,.slice none 0 0] (by unfold Zf;kernel_rfl) ?_)
 intro g10
 refine Ld (TS (Lq rfl (QL [_,_] (by kernel_rfl) rfl ⟨rfl,rfl,trivial⟩) ?_))
 refine Le rfl (Ec (Rf.copy B p q a b n m secs pend hn1 hp) Tryz.func122 rfl rfl rfl ?_)
 rintro _ _ ⟨p1,a1,q1,b1,rfl,rfl⟩
 try simp only [cA,nA]
 refine Le rfl (El [.slice none 0 0,.slice none 0 0] (by unfold Zf;kernel_rfl) ?_)
 intro g11
 refine L0 rfl (Es [_,_] (by kernel_rfl) rfl rfl rfl rfl (by simp) ?_)
 try simp only [splice,lC,lN,dS,cA,tS,tZ,dZ,nA,aN]
 refine Ld (TS (Lq rfl (Qf (off:=1) (by kernel_rfl) rfl) ?_))
 refine L0 rfl (E1 (by kernel_rfl) rfl rfl rfl (by first | (simp;done) | (simp;omega)) ?_)
 try simp only [List.set_cons_zero,List.set_cons_succ]
 refine Ld (Ts (TS (La rfl rfl (Ld (yH ?_)))))
 refine T.own (fun w ho=>?_)
 obtain ⟨-,hg1,-⟩:=ho.slice_at (p:=p1) (m:=n) (c:=a1)
 obtain ⟨gs,rfl⟩:=hg1 hn0
 clear ho hg1
 refine zG (fun mz fz lz => ∃ (f0:Fr) (k:Nat) (S:List (List UInt8)),(k≤m∧S=DD.lays ⟨secs,pend⟩ (fun i=>some (rAmt al keep tear at_ i)) k)∧mz=m-k∧fz=(upd (upd (upd (upd (upd (upd (upd (upd f0 1 (.bool al)) 2 (.slice ka keep.length kc)) 3 (.int .i64 tear)) 4 (.int .i64 at_)) 5 (.pointer (some ⟨g5,0,none⟩))) 10 (.pointer (some ⟨g10,0,none⟩))) 11 (.pointer (some ⟨g11,0,none⟩))) 12 (.int .i64 k))∧lz=[blk g11 [.slice (some ⟨gs,0,none⟩) n a1,.slice none 0 0] 93,rS (.slice (some ⟨gs,0,none⟩) n a1) n S,blk g5 [.slice p n a,.slice q m b] 93,rW (.slice q m b) m pend,blk g10 [.slice none 0 0,.slice none 0 0] 93]++F) ?_ ?_
 · refine ⟨_,_,⟨_,0,secs,⟨Nat.zero_le _,rfl⟩,rfl,(Za rfl (Za rfl (Za rfl (Za rfl (Za rfl (Za rfl (Za rfl (Za rfl rfl)))))))),rfl⟩,Sa⟩
 rintro mz fz lz ⟨f0,k,S,⟨hkm,hS⟩,hmz,rfl,rfl⟩
 subst mz
 try simp only [cA,nA]
 refine Ts (TS (Lm rfl rfl (Lq rfl (Qf (off:=1) (by kernel_rfl) rfl) (Lq rfl (Ql (by kernel_rfl) rfl rfl) (Lq rfl (yI (e:=233) (sz:=2) (by kernel_rfl) rfl) (Lq rfl (yM rfl rfl) ?_))))))
 refine Ld ?_
 refine yN rfl (fun hlt=>?_) (fun hlt=>?_)
 ·
  obtain ⟨gq,rfl⟩:=hq (by omega)
  obtain ⟨hSl,hSn⟩:=DD.lays_ok hD (fun i=>some (rAmt al keep tear at_ i)) (fun i k e=>by cases e;exact rAmt_le ..) k
  rw [←hS] at hSl hSn
  simp only [hsl] at hSn
  refine Tk (Ts (yH (TS (Lq rfl (Qf (off:=1) (by kernel_rfl) rfl) (Lq rfl (Ql (by kernel_rfl) rfl rfl) (Lm rfl rfl ?_))))))
  refine Lq rfl (Qi _ (e:=233) (sz:=2) (by kernel_rfl) rfl rfl rfl (by omega)) (Lq rfl (QL [_,_] (by kernel_rfl) rfl (by exact rdl_flat _ _ _ (by intros;rfl) _ (by omega))) ?_)
  refine Le rfl (El [.int .i64 0,.string .empty] (by unfold Zf;kernel_rfl) ?_)
  intro g13
  refine L0 rfl (Es [_,_] (by kernel_rfl) rfl rfl rfl rfl (by simp) ?_)
  try simp only [splice,lC,lN,dS,cA,tS,tZ,dZ,nA,aN]
  refine Ld (TS (La rfl rfl (Ld ?_)))
  refine T.cut (fun fz lz => ∃ (f0:Fr) (n1:Nat),(n1=if al=true∨keep.getD k false=true then 256 else 0)∧fz=(upd (upd (upd (upd (upd (upd (upd (upd (upd (upd f0 1 (.bool al)) 2 (.slice ka keep.length kc)) 3 (.int .i64 tear)) 4 (.int .i64 at_)) 5 (.pointer (some ⟨g5,0,none⟩))) 10 (.pointer (some ⟨g10,0,none⟩))) 11 (.pointer (some ⟨g11,0,none⟩))) 12 (.int .i64 k)) 13 (.pointer (some ⟨g13,0,none⟩))) 14 (.int .i64 n1))∧lz=[blk g13 [.int .i64 pend[k].1,strW pend[k].2] 233,blk g11 [.slice (some ⟨gs,0,none⟩) n a1,.slice none 0 0] 93,rS (.slice (some ⟨gs,0,none⟩) n a1) n S,blk g5 [.slice p n a,.slice (some ⟨gq,0,none⟩) m b] 93,rW (.slice (some ⟨gq,0,none⟩) m b) m pend,blk g10 [.slice none 0 0,.slice none 0 0] 93]++F) ?_ ?_
  ·
   refine TS (Lm rfl rfl (Lm rfl rfl ?_))
   refine zZ (t:=31) rfl (fun hal=>?_) (fun hal=>?_)
   ·
    try replace hal:=of_decide_eq_true hal
    refine Ls rfl (Ls rfl (Ls rfl (Ls rfl (Ls rfl (Ls rfl (Ls rfl (Ls rfl ?_)))))))
    refine Ls rfl (Ls rfl (Lq rfl (Qp rfl rfl) (Ld (zF rfl (TR (La rfl rfl (Ld ?_)))))))
    exact ⟨_,⟨_,256,by simp [hal],(Za rfl (Za rfl (Za rfl (Za rfl (Za rfl (Za rfl (Za rfl (Za rfl (Za rfl (Za rfl rfl)))))))))),rfl⟩,Sa⟩
   try replace hal:=of_decide_eq_false hal
   refine Lm rfl rfl (Lm rfl rfl (Lq rfl (yI (e:=4) (sz:=1) (by kernel_rfl) rfl) (Lq rfl (yM rfl rfl) (Lm rfl rfl ?_))))
   refine zZ (t:=36) rfl (fun hkl=>?_) (fun hkl=>?_)
   ·
    try replace hkl:=of_decide_eq_true hkl
    obtain ⟨kb,ko,C,rfl,hro,hC⟩ : ∃ kb ko C,ka=some ⟨kb,ko,none⟩∧ROc B kb C ∧ ∀ j u,(boolsV keep)[j]? = some u→C[ko+j*1]? = some u:=by rcases hkc with h | h;(have:keep.length=0:=by simpa [boolsV] using congrArg List.length h);omega;exact h
    refine Lm rfl rfl (Lm rfl rfl (Lq rfl (Qi _ (e:=4) (sz:=1) (by kernel_rfl) rfl rfl rfl (by omega)) (Lq rfl (Ql (v := .bool (keep[k]'(by omega))) (by kernel_rfl) rfl (hC k _ (by simp [boolsV]))) (Lq rfl (Qp rfl rfl) (Lq rfl (Qp rfl rfl) (Ld ?_))))))
    refine Y9 rfl (fun hkk=>?_) (fun hkk=>?_)
    ·
     refine TR (La rfl rfl (Ld ?_))
     exact ⟨_,⟨_,256,by simp [hal,List.getD,List.getElem?_eq_getElem (show k<keep.length by omega),hkk],(Za rfl (Za rfl (Za rfl (Za rfl (Za rfl (Za rfl (Za rfl (Za rfl (Za rfl (Za rfl rfl)))))))))),rfl⟩,Sa⟩
    refine Tk ?_
    exact ⟨_,⟨_,0,by simp [hal,List.getD,List.getElem?_eq_getElem (show k<keep.length by omega),hkk],(Za rfl (Za rfl (Za rfl (Za rfl (Za rfl (Za rfl (Za rfl (Za rfl (Za rfl (Za rfl rfl)))))))))),rfl⟩,Sa⟩
   try replace hkl:=of_decide_eq_false hkl
   refine Ls rfl (Ls rfl (Ls rfl (Ls rfl (Lq rfl (Qp rfl rfl) (Lq rfl (Qp rfl rfl) (Ld (yQ rfl ?_)))))))
   refine Tk ?_
   exact ⟨_,⟨_,0,by simp [hal,List.getD,List.getElem?_eq_none (show keep.length≤k by omega)],(Za rfl (Za rfl (Za rfl (Za rfl (Za rfl (Za rfl (Za rfl (Za rfl (Za rfl (Za rfl rfl)))))))))),rfl⟩,Sa⟩
  rintro fz lz ⟨f0,n1,hn1,rfl,rfl⟩
  try simp only [cA,nA]
  refine T.cut (fun fz lz => ∃ (f0:Fr) (n2:Nat),(n2=rAmt al keep tear at_ k)∧fz=(upd (upd (upd (upd (upd (upd (upd (upd (upd (upd f0 1 (.bool al)) 2 (.slice ka keep.length kc)) 3 (.int .i64 tear)) 4 (.int .i64 at_)) 5 (.pointer (some ⟨g5,0,none⟩))) 10 (.pointer (some ⟨g10,0,none⟩))) 11 (.pointer (some ⟨g11,0,none⟩))) 12 (.int .i64 k)) 13 (.pointer (some ⟨g13,0,none⟩))) 14 (.int .i64 n2))∧lz=[blk g13 [.int .i64 pend[k].1,strW pend[k].2] 233,blk g11 [.slice (some ⟨gs,0,none⟩) n a1,.slice none 0 0] 93,rS (.slice (some ⟨gs,0,none⟩) n a1) n S,blk g5 [.slice p n a,.slice (some ⟨gq,0,none⟩) m b] 93,rW (.slice (some ⟨gq,0,none⟩) m b) m pend,blk g10 [.slice none 0 0,.slice none 0 0] 93]++F) ?_ ?_
  ·
   refine TS (Lm rfl rfl (Lq rfl (Y2 rfl) (Lm rfl rfl ?_)))
   refine zZ (t:=45) rfl (fun hal=>?_) (fun hal=>?_)
   ·
    try replace hal:=of_decide_eq_true hal
    refine Lm rfl rfl (Lm rfl rfl (Lq rfl (yU rfl rfl) (Lq rfl (Qp rfl rfl) (Ld ?_))))
    refine yN rfl (fun hkt=>?_) (fun hkt=>?_)
    ·
     refine TS (Lm rfl rfl (La rfl rfl (Ld (Ts (TS ?_)))))
     refine Lm rfl rfl (Lq rfl (yM rfl rfl) (Ld ?_))
     refine yN rfl (fun h0=>?_) (fun h0=>?_)
     ·
      refine TR (La rfl rfl (Ld (TS (Lm rfl rfl (Lq rfl (yZ rfl rfl) (Ld ?_))))))
      refine yL rfl (by omega) (Tk ?_)
      exact ⟨_,⟨_,0,by simp at hal;simp [rAmt,hal,hkt,clampN] <;> omega,(Za rfl (Za rfl (Za rfl (Za rfl (Za rfl (Za rfl (Za rfl (Za rfl (Za rfl (Za rfl rfl)))))))))),rfl⟩,Sa⟩
     refine Tk (TS (Lm rfl rfl (Lq rfl (yZ rfl rfl) (Ld ?_))))
     refine yN rfl (fun h1=>?_) (fun h1=>?_)
     ·
      refine TR (La rfl rfl (Ld ?_))
      exact ⟨_,⟨_,256,by simp at hal;simp [rAmt,hal,hkt,clampN] <;> omega,(Za rfl (Za rfl (Za rfl (Za rfl (Za rfl (Za rfl (Za rfl (Za rfl (Za rfl (Za rfl rfl)))))))))),rfl⟩,Sa⟩
     obtain ⟨an,rfl⟩ : ∃ an:Nat,at_=an:=⟨at_.toNat,by omega⟩
     refine Tk ?_
     exact ⟨_,⟨_,an,by simp at hal;simp [rAmt,hal,hkt,clampN] <;> omega,(Za rfl (Za rfl (Za rfl (Za rfl (Za rfl (Za rfl (Za rfl (Za rfl (Za rfl (Za rfl rfl)))))))))),rfl⟩,Sa⟩
    refine Tk ?_
    exact ⟨_,⟨_,n1,by simp at hal;rw [hn1];simp [rAmt,hal,hkt],(Za rfl (Za rfl (Za rfl (Za rfl (Za rfl (Za rfl (Za rfl (Za rfl (Za rfl (Za rfl rfl)))))))))),rfl⟩,Sa⟩
   try replace hal:=of_decide_eq_false hal
   refine Ls rfl (Ls rfl (Ls rfl (Lq rfl (Qp rfl rfl) (Ld (yQ rfl (Tk ?_))))))
   exact ⟨_,⟨_,n1,by simp at hal;rw [hn1];simp [rAmt,hal],(Za rfl (Za rfl (Za rfl (Za rfl (Za rfl (Za rfl (Za rfl (Za rfl (Za rfl (Za rfl rfl)))))))))),rfl⟩,Sa⟩
  rintro fz lz ⟨f0,n2,hn2,rfl,rfl⟩
  try simp only [cA,nA]
  have hd1:=hD.data pend[k] (List.getElem_mem _)
  have ha1:=hD.at_ pend[k] (List.getElem_mem _)
  simp only [hsl] at ha1
  have hn2':=rAmt_le al keep tear at_ k
  rw [←hn2] at hn2'
  have hs1:(S[pend[k].1]'(by omega)).length=256:=hSl _ (List.getElem_mem _)
  refine zU 17 (by kernel_rfl) (nB rfl) (by kernel_rfl) (Rq 0 rfl rfl (by kernel_rfl) (Sr _) (Q0 (by kernel_rfl) rfl) (Rq 1 rfl rfl (by kernel_rfl) (Sr _) (Ql (by kernel_rfl) rfl rfl) (Rq 2 rfl rfl (by kernel_rfl) (Sr _) (Q0 (by kernel_rfl) rfl) (Rq 3 rfl rfl (by kernel_rfl) (Sr _) (Ql (by kernel_rfl) rfl rfl) (Rq 4 rfl rfl (by kernel_rfl) (Sr _) (Qf (off:=1) (by kernel_rfl) rfl) (Rq 5 rfl rfl (by kernel_rfl) (Sr _) (Ql (by kernel_rfl) rfl rfl) (Rq 6 rfl rfl (by kernel_rfl) (Sr _) (Qm rfl) ?_)))))))
  refine Rq 7 rfl rfl (by kernel_rfl) (Sr _) (Qt.sliceS_ns _ (by kernel_rfl) rfl rfl rfl (by omega)) (Rq 8 rfl rfl (by kernel_rfl) (Sr _) (Q0 (by kernel_rfl) rfl) (Rq 9 rfl rfl (by kernel_rfl) (Sr _) (Ql (by kernel_rfl) rfl rfl) (Rq 10 rfl rfl (by kernel_rfl) (Sr _) (Q0 (by kernel_rfl) rfl) (Rq 11 rfl rfl (by kernel_rfl) (Sr _) (Ql (by kernel_rfl) rfl rfl) (Rq 12 rfl rfl (by kernel_rfl) (Sr _) (Qi _ (e:=9) (sz:=1) (by kernel_rfl) rfl rfl rfl (by omega)) (Rq 13 rfl rfl (by kernel_rfl) (Sr _) (Ql (by kernel_rfl) rfl (map_at _ _ _ (by omega))) (Rq 14 rfl rfl (by kernel_rfl) (Sr _) (Qm rfl) ?_)))))))
  refine Rq 15 rfl rfl (by kernel_rfl) (Sr _) (Qt.sliceS_sn _ (by kernel_rfl) rfl rfl rfl (by omega)) (Rq 16 rfl rfl (by kernel_rfl) (Sr _) (Qt.addS rfl rfl (by simp only [List.length_take,List.length_drop];omega)) (Rd0 (by rfl) ?_))
  simp only [dS,dZ,dN]
  refine Lq rfl (Qi _ (e:=9) (sz:=1) (by kernel_rfl) rfl rfl rfl (by omega)) ?_
  refine L0 rfl (E1 (by kernel_rfl) rfl rfl rfl (by first | (simp;done) | (simp;omega)) ?_)
  rw [set_map strW]
  refine Ld (TR (Lm rfl rfl (Lq rfl (Qd rfl rfl (Ze (by omega) (by omega))) (La rfl rfl (Ld ?_)))))
  refine ⟨_,?_,_,⟨_,k+1,S.set pend[k].1 (pend[k].2.take n2++(S[pend[k].1]'(by omega)).drop n2),⟨by omega,by rw [DD.lays_some ⟨secs,pend⟩ (fun i=>some (rAmt al keep tear at_ i)) k n2 (by simp only;omega) (by rw [hn2]),←hS];simp [layW,List.getD,List.getElem?_eq_getElem (show pend[k].1<S.length by omega)]⟩,rfl,(Za rfl (Za rfl (Za rfl (Za rfl (Za rfl (Za rfl (Za rfl (Za rfl rfl)))))))),rfl⟩,Sa⟩
  omega
 have e:k=m:=by omega
 subst e
 subst hS
 refine T.conv (fun w ho=>Rf.nilW ho) (zB (TS (Lq rfl (QL [_,_] (by kernel_rfl) rfl ⟨rfl,rfl,trivial⟩) ?_)))
 refine L0 rfl (Es [_,_] (by kernel_rfl) rfl rfl rfl rfl (by simp) ?_)
 try simp only [splice,lC,lN,dS,cA,tS,tZ,dZ,nA,aN]
 refine Ld (T.ret ?_)
 exact ⟨.inl rfl,_,_,res [_] rfl ⟨rvA [_,_] (by kernel_rfl) rfl ⟨rfl,rfl,trivial⟩,trivial⟩,⟨_,_,rfl,rfl⟩,Sa⟩
open Go.RowKit
theorem lays_all (D:DD) (keep:List Bool) (tear at_:Int) (k:Nat):D.lays (fun i=>some (rAmt true keep tear at_ i)) k=D.lays (fun _=>some 256) k:=by
 have:(fun i=>some (rAmt true keep tear at_ i))=fun _=>some 256:=by funext i;simp [rAmt]
 rw [this]
theorem RoS.form {B:Wn} {v:Value} {cs:List Value} {n:Nat} (h:RoS B v cs) (hn:cs.length=n) : ∃ a cap,v = .slice a n cap:=by
 obtain ⟨a,cap,rfl,_⟩:=h
 exact ⟨a,cap,by rw [hn]⟩
theorem RoS.str {B:Wn} {S:List Wp} {v:Value} {cs:List Value} (h:RoS B v cs) : ∀ w,Own B w S → ∃ fp,Reads w v cs fp:=fun _ ho=>let ⟨fp,h1,_⟩:=h.reads ho;⟨fp,h1⟩
open Go.RowKit
section
variable {P : Program} {B:Wn} {n:Nat} {S l r:List Wp} {f:Fr} {K:Value→List Wp→Prop} {Φ:Post}
variable {d : Option Tmp} {ty:TypeId} {pos:String} {af:Array Edge} {gd:Option (Nat×Bool)}
theorem Qt.shr8 {t t2:TypeId} {x y:Operand} {a:Nat} {k:IntKind} {i:Int} (j r:Nat) (hx:ev n f x=some (.int .u8 a)) (hy:ev n f y=some (.int k i)) (hi:i=(j:Int)) (hj:j<8) (hr:a/2^j=r):Qt P B n S ⟨d,.binOp .shr t x y t2,ty,pos,af,gd⟩ f (.int .u8 r):=⟨fun w _=>by
 subst hr
 subst hi
 have e:(a:Int).fdiv (2^j)=((a/2^j:Nat):Int):=by
  rw [Int.fdiv_eq_ediv_of_nonneg _ (by exact_mod_cast Nat.zero_le _)]
  push_cast;rfl
 have h:(Op.shift .shr .u8 (a:Int) k (j:Int)).run P w = .ok (.int .u8 (a/2^j:Nat)) w:=by
  have:Min.min j 8=j:=by omega
  simp [Op.shift,IntKind.bits,this,e]
 simp [execOp,Zc hx,Zc hy,eqGuard,Go.binOp,h]⟩
theorem Qt.shl1 {t t2:TypeId} {x y:Operand} {k:IntKind} {i:Int} (j:Nat) (hx:ev n f x=some (.int .u32 1)) (hy:ev n f y=some (.int k i)) (hi:i=(j:Int)) (hj:j<32):Qt P B n S ⟨d,.binOp .shl t x y t2,ty,pos,af,gd⟩ f (.int .u32 (2^j:Nat)):=⟨fun w _=>by
 subst hi
 have e:IntKind.u32.wrap (1*2^j)=((2^j:Nat):Int):=by
  have:(2:Nat)^j<4294967296:=Nat.lt_of_lt_of_eq (Nat.pow_lt_pow_right (by omega) hj) (by decide)
  have e2:(1:Int)*2^j=((2^j:Nat):Int):=by rw [Int.one_mul];push_cast;rfl
  rw [e2]
  exact wru32 (Int.natCast_nonneg _) (Int.ofNat_lt.2 this)
 have h:(Op.shift .shl .u32 1 k (j:Int)).run P w = .ok (.int .u32 (2^j:Nat)) w:=by
  rw [←e]
  have:Min.min j 32=j:=by omega
  simp [Op.shift,IntKind.bits,this]
 have h2:Sem.run P (Op.shift BinOp.shl IntKind.u32 1 k ↑j) w=Result.ok (Value.int IntKind.u32 ↑(2^j)) w:=h
 simp only [execOp,Zc hx,Zc hy]
 simp [eqGuard,Go.binOp,h2]
 try simpa using e⟩
theorem Qt.sliceS {t:TypeId} {x y z:Operand} {a:List UInt8} {k k2:IntKind} {i i2:Int} (lo hi:Nat) (r:List UInt8) (ht:isStr P t=true) (hx:ev n f x=some (.string (Zq a))) (hy:ev n f y=some (.int k i)) (hz:ev n f z=some (.int k2 i2)) (h1:i=(lo:Int)) (h2:i2=(hi:Int)) (hl:lo≤hi) (hh:hi≤a.length) (hr:(a.take hi).drop lo=r) :
    Qt P B n S ⟨d,.slice t x (some y) (some z) none,ty,pos,af,gd⟩ f (.string (Zq r)):=⟨fun w _=>by
  subst hr
  unfold isStr at ht
  split at ht
  · rename_i hu
    subst h1;subst h2
    have hs:=strOf_extract a lo hi
    simp [execOp,Instr.sliceAt,run_underlying hu,Zc hx,Zc hy,Zc hz,Instr.slice,Instr.sliceBounds,Instr.sliceBound,asIntOf,size_strOf,hl,hh,hs]
  · cases ht⟩
theorem Qt.buildA {t len e:Nat} {parts:Array (Nat×Operand)} (vs:List Value) (ht:arrB P t len e 1=true) (hz:(P.info? t).bind (fun i=>i.zero.map (·.cells.size))=some len) (hp:parts.toList.map (fun p=>(p.1,ev n f p.2))=(vs.zipIdx 0).map fun x=>(x.2,some x.1)) (h1 : ∀ v∈vs,v.cells = #[v]) (hl:vs.length=len):Qt P B n S ⟨d,.build t parts,ty,pos,af,gd⟩ f (.agg vs.toArray):=⟨fun w _=>by
  unfold arrB at ht
  simp only [Bool.and_eq_true,decide_eq_true_eq] at ht
  obtain ⟨q1,q2⟩:=ht
  split at q1
  · rename_i m e' hu
    simp at q1
    obtain ⟨rfl,rfl⟩:=q1
    obtain ⟨i',hi,hs⟩:=info_of_size q2
    cases hit:P.info? t with
    | none=>rw [hit] at hz;cases hz
    | some it =>
      rw [hit] at hz
      simp only [Option.bind_some] at hz
      cases hzz:it.zero with
      | none=>rw [hzz] at hz;cases hz
      | some z =>
        rw [hzz] at hz
        simp only [Option.map_some,Option.some.injEq] at hz
        have hpe:(parts.map fun p=>(p.1,evu n f p.2)).toList=(vs.zipIdx 0).map fun x=>(x.2,x.1):=by
          rw [Array.toList_map]
          have e:=congrArg (List.map (fun p:Nat×Option Value=>(p.1,p.2.getD undef))) hp
          simp only [List.map_map,Function.comp_def,Option.getD_some] at e
          exact e
        have hfl:=Great.fill_flat vs z.cells h1 (by omega)
        show ((do pure (.value (←Instr.build t (parts.map fun p=>(p.1,evu n f p.2)))):Sem Next)).run P w=_
        simp only [Nat.mul_one] at hfl
        simp [Instr.build,zeroValue,sizeOf,typeInfo,hit,hzz,hi,hs,run_underlying hu,hpe,hfl,-Array.toList_map]
  · cases q1⟩
end
open Go.RowKit
def tb (x:UInt32) (k:Nat):Bool:=x.toNat.testBit k
theorem tb_ext {a b:UInt32} (h : ∀ k,tb a k=tb b k):a=b:=UInt32.toNat_inj.1 (Nat.eq_of_testBit_eq h)
theorem tb_xor (a b:UInt32) (k:Nat):tb (a ^^^ b) k=(tb a k ^^ tb b k):=by simp [tb,UInt32.toNat_xor,Nat.testBit_xor]
theorem tb_shr (a:UInt32) (k:Nat):tb (a >>> 1) k=tb a (k+1):=by
 unfold tb
 rw [UInt32.toNat_shiftRight,Nat.testBit_shiftRight]
 rw [show (1:UInt32).toNat%32=1 from rfl,Nat.add_comm]
theorem tb_low (a:UInt32):(a &&& 1=1)↔tb a 0=true:=by
 unfold tb
 rw [←UInt32.toNat_inj,UInt32.toNat_and,Nat.testBit_zero,show (1:UInt32).toNat=1 from rfl,Nat.and_one_is_mod]
 simp
def crcP : UInt32:=3988292384
theorem tb_crcBit (t:UInt32) (k:Nat):tb (crcBit t) k=(tb t (k+1) ^^ (tb t 0 && tb crcP k)):=by
  unfold crcBit
  by_cases h:t &&& 1=1
  · rw [if_pos h,tb_xor,tb_shr,(tb_low t).1 h,Bool.true_and];rfl
  · rw [if_neg h,tb_shr]
    have:tb t 0=false:=by
      cases e:tb t 0 with
      | false=>rfl
      | true=>exact absurd ((tb_low t).2 e) h
    rw [this];simp
def stepB (s:UInt32) (b:Bool):UInt32:=crcBit (if b then s ^^^ 1 else s)
theorem tb_one (k:Nat):tb 1 k=decide (k=0):=by
 unfold tb
 rw [show (1:UInt32).toNat=1 from rfl]
 cases k with
 | zero=>rfl
 | succ k=>simp [Nat.testBit_succ]
theorem tb_stepB (s:UInt32) (b:Bool) (k:Nat):tb (stepB s b) k=(tb s (k+1) ^^ ((tb s 0 ^^ b) && tb crcP k)):=by
 unfold stepB
 rw [tb_crcBit]
 cases b with
 | false=>simp
 | true=>simp [tb_xor,tb_one]
theorem crcBits_comm (k:Nat) (s:UInt32):crcBits (k+1) s=crcBits k (crcBit s):=by
 induction k with
 | zero=>rfl
 | succ k ih=>rw [crcBits,ih];rfl
theorem tb_ofNat {x:Nat} (h:x<2^32) (k:Nat):tb (UInt32.ofNat x) k=x.testBit k:=by
 unfold tb;rw [UInt32.toNat_ofNat',Nat.mod_eq_of_lt h]
def bitsB : Nat→Nat→UInt32→UInt32
 | 0,_,s=>s
 | k+1,x,s=>bitsB k (x/2) (stepB s (x.testBit 0))
theorem crcBits_bitsB : ∀ (k x:Nat) (s:UInt32),x<2^k→k≤32→crcBits k (s ^^^ UInt32.ofNat x)=bitsB k x s
 | 0,x,s,h,_=>by
  obtain rfl:x=0:=by simpa using h
  rw [crcBits,bitsB];exact UInt32.xor_zero
 | k+1,x,s,h,hk=>by
  have hx:x<2^32:=Nat.lt_of_lt_of_le h (Nat.pow_le_pow_right (by omega) hk)
  have hx2:x/2<2^k:=by rw [Nat.pow_succ] at h;omega
  have e:crcBit (s ^^^ UInt32.ofNat x)=stepB s (x.testBit 0) ^^^ UInt32.ofNat (x/2):=tb_ext fun j=>by
   rw [tb_crcBit,tb_xor,tb_xor,tb_xor,tb_stepB,tb_ofNat hx,tb_ofNat hx,tb_ofNat (by omega),Nat.testBit_succ]
   cases tb s (j+1) <;> cases (x/2).testBit j <;> cases tb s 0 <;> cases x.testBit 0 <;> cases tb crcP j <;> rfl
  rw [crcBits_comm,e,crcBits_bitsB k (x/2) _ hx2 (by omega),bitsB]
def bitsF (j x:Nat) (s:UInt32):UInt32:=(List.range j).foldl (fun s t=>stepB s (x.testBit t)) s
theorem bitsF_succ (j x:Nat) (s:UInt32):bitsF (j+1) x s=stepB (bitsF j x s) (x.testBit j):=by simp [bitsF,List.range_succ]
theorem bitsF_front : ∀ (j x:Nat) (s:UInt32),bitsF (j+1) x s=bitsF j (x/2) (stepB s (x.testBit 0))
 | 0,x,s=>by simp [bitsF,List.range_succ]
 | j+1,x,s=>by rw [bitsF_succ,bitsF_front j x s,bitsF_succ,Nat.testBit_succ]
theorem bitsB_F : ∀ (k x:Nat) (s:UInt32),bitsB k x s=bitsF k x s
 | 0,_,_=>rfl
 | k+1,x,s=>by rw [bitsB,bitsB_F,bitsF_front]
theorem crcByte_bits (s:UInt32) (x:UInt8):crcByte s x=bitsF 8 x.toNat s:=by
 unfold crcByte
 rw [show x.toUInt32=UInt32.ofNat x.toNat by apply UInt32.toNat_inj.1;simp,crcBits_bitsB 8 _ _ x.toNat_lt (by omega),bitsB_F]
def regI (a:List UInt8) (i:Nat):UInt32:=bitsF (i%8) (a.getD (i/8) 0).toNat (crcS (a.take (i/8)))
theorem regI_zero (a:List UInt8):regI a 0=4294967295:=rfl
theorem regI_succ (a:List UInt8) (i:Nat) (h:i/8<a.length):regI a (i+1)=stepB (regI a i) ((a.getD (i/8) 0).toNat.testBit (i%8)):=by
  unfold regI
  rw [←bitsF_succ]
  by_cases h7:i%8=7
  · have e1:(i+1)/8=i/8+1:=by omega
    have e2:(i+1)%8=0:=by omega
    rw [e1,e2,h7,List.take_succ_eq_append_getElem h,crcS_snoc,crcByte_bits]
    simp [bitsF,List.getD,h]
  · have e1:(i+1)/8=i/8:=by omega
    have e2:(i+1)%8=i%8+1:=by omega
    rw [e1,e2]
theorem regI_all (a:List UInt8):regI a (8*a.length)=crcS a:=by
 unfold regI
 rw [show 8*a.length%8=0 by omega,show 8*a.length/8=a.length by omega,List.take_length]
 rfl
def bitN (s:UInt32) (k:Nat):Nat:=(tb s k).toNat
theorem bitN_le (s:UInt32) (k:Nat):bitN s k≤1:=by unfold bitN;cases tb s k <;> simp
theorem bitN_step (s:UInt32) (b k:Nat) (hb:b≤1) (B:Bool) (hB:B=decide (b=1)):bitN (stepB s B) k=(bitN s (k+1)+((bitN s 0+b)%2)*bitN crcP k)%2:=by
 subst hB
 unfold bitN
 rw [tb_stepB]
 have:b=0∨b=1:=by omega
 rcases this with rfl | rfl <;> cases tb s (k+1) <;> cases tb s 0 <;> cases tb crcP k <;> rfl
theorem bitN_top (s:UInt32):bitN s 32=0:=by
 unfold bitN tb
 rw [Nat.testBit_lt_two_pow (by have:=s.toNat_lt;omega)]
 rfl
theorem not_low (s:UInt32) (k:Nat) (hk:k<32):(~~~ s).toNat%2^(k+1)=(~~~ s).toNat%2^k+(if bitN s k=0 then 2^k else 0):=by
 rw [Nat.mod_pow_succ]
 have h1:(~~~ s).toNat/2^k%2=((~~~ s).toNat.testBit k).toNat:=(Nat.toNat_testBit _ _).symm
 have h2:(~~~ s).toNat.testBit k = ! tb s k:=by
  rw [UInt32.toNat_not]
  have:UInt32.size-1-s.toNat=2^32-(s.toNat+1):=by have:UInt32.size=2^32:=rfl;omega
  rw [this,Nat.testBit_two_pow_sub_succ s.toNat_lt]
  simp [hk,tb]
 rw [h1,h2]
 unfold bitN
 cases tb s k <;> simp
theorem quo8 (j:Nat) (h:j<2^40):IntKind.i64.wrap ((j:Int).tdiv 8)=((j/8:Nat):Int):=by
 have:(j:Int).tdiv 8=((j/8:Nat):Int):=rfl
 rw [this];exact Ze (by omega) (by omega)
theorem quo256 (m:Nat) (h:m<2^64):IntKind.u64.wrap ((m:Int).tdiv 256)=((m/256:Nat):Int):=by
 have:(m:Int).tdiv 256=((m/256:Nat):Int):=rfl
 rw [this];exact wru64 (by omega) (by omega)
theorem rem_nat (j m:Nat):(j:Int).tmod (m:Int)=((j%m:Nat):Int):=rfl
theorem Rc.bit (B:Wn) (a:List UInt8) (i:Int) (j:Nat) (hi:i=j) (hj:j/8<a.length) (hl:a.length<2^36):Fn Tryz.prog B 172 #[.string (Zq a),.int .i64 i] [] (fun v l=>v = .int .i64 ((a.getD (j/8) 0).toNat.testBit (j%8)).toNat∧l=[]):=by
 subst hi
 have hg:a.getD (j/8) 0=a[j/8]:=by simp [List.getD,hj]
 have hx:=(a[j/8]).toNat_lt
 have hb:((a.getD (j/8) 0).toNat.testBit (j%8)).toNat=a[j/8].toNat/2^(j%8)%2:=by rw [hg,Nat.toNat_testBit]
 have hq:a[j/8].toNat/2^(j%8)<256:=Nat.lt_of_le_of_lt (Nat.div_le_self _ _) hx
 obtain ⟨q,hqq⟩ : ∃ q,a[j/8].toNat/2^(j%8)=q:=⟨_,rfl⟩
 rw [hqq] at hq hb
 refine Wr 14 Tryz.func172 rfl rfl (nB rfl) (fun F=>?_)
 try simp only [cA,nA]
 refine TS (La rfl rfl (Ld (TS (Lm rfl rfl (Lm rfl rfl ?_)))))
 refine Lq rfl (ZR rfl rfl (by omega) (quo8 j (by omega))) (Lq rfl (YR (j/8) (by kernel_rfl) rfl rfl rfl hj) (Lm rfl rfl (Lq rfl (X0 rfl rfl (by omega) (rem_nat j 8)) (Lq rfl (Qt.shr8 (j%8) q rfl rfl rfl (by omega) hqq) (Lq rfl (yX (by kernel_rfl) (by kernel_rfl) rfl (Ze (by omega) (by omega))) (Lq rfl (X0 rfl rfl (by omega) (rem_nat _ 2)) (La rfl rfl ?_)))))))
 refine Ld (T.ret ?_)
 exact ⟨.inl rfl,_,_,res [_] rfl ⟨rvT rfl,trivial⟩,⟨by rw [hb];rfl,rfl⟩,Sa⟩
theorem Rc.get (B:Wn) (a:List UInt8) (ha:a.length≤8):Fn Tryz.prog B 73 #[.string (Zq a)] [] (fun v l=>v = .int .u64 (Wg a).toNat∧l=[]):=by
 refine Wq 19 Tryz.func73 rfl rfl (nB rfl) (fun F=>?_)
 try simp only [cA,nA]
 refine TS (La rfl rfl (Ld (TS (La rfl rfl (Ld ?_)))))
 refine Ts (TS (La rfl rfl (Ld (yH ?_))))
 refine zG (fun mz fz lz => ∃ (f0:Fr) (k m:Nat),(k≤a.length∧m=natOf (a.take k))∧mz=a.length-k∧fz=(upd (upd (upd f0 0 (.string (Zq a))) 3 (.int .u64 m)) 4 (.int .i64 k))∧lz=F) ?_ ?_
 · refine ⟨_,_,⟨_,0,0,⟨Nat.zero_le _,rfl⟩,rfl,(Za rfl (Za rfl (Za rfl rfl))),rfl⟩,Sa⟩
 rintro mz fz lz ⟨f0,k,m,⟨hk,hm⟩,hmz,rfl,rfl⟩
 subst mz
 refine Ts (TS (Lm rfl rfl (Lm rfl rfl (Lq rfl (YU (by kernel_rfl) rfl) (Lq rfl (yM rfl rfl) (Ld ?_))))))
 refine yN rfl (fun hlt=>?_) (fun hlt=>?_)
 ·
  have hx:=(a[k]'(by omega)).toNat_lt
  have hb:m<256^7:=by rw [hm];exact Nat.lt_of_lt_of_le (natOf_lt _) (Nat.pow_le_pow_right (by omega) (by simp;omega))
  refine Tk (Ts (yH (TR (Lm rfl rfl (Lq rfl (YG rfl rfl (wru64 (by omega) (by omega))) (Lm rfl rfl (Lm rfl rfl ?_)))))))
  refine Lq rfl (YR k (by kernel_rfl) rfl rfl rfl (by omega)) (Lq rfl (yX (by kernel_rfl) (by kernel_rfl) rfl (wru64 (by omega) (by omega))) (Lq rfl (Qd rfl rfl (wru64 (by omega) (by omega))) (La rfl rfl (Ld (TR (Lm rfl rfl (Lq rfl (Qd rfl rfl (Ze (by omega) (by omega))) ?_)))))))
  refine La rfl rfl (Ld ?_)
  refine ⟨_,?_,_,⟨_,k+1,m*256+(a[k]'(by omega)).toNat,⟨by omega,by rw [List.take_succ_eq_append_getElem (by omega),natOf_snoc,hm]⟩,rfl,(Za rfl (Za rfl (Za rfl rfl))),rfl⟩,Sa⟩
  omega
 have e:k=a.length:=by omega
 rw [e,List.take_length] at hm
 refine zB (TS (Lm rfl rfl (La rfl rfl (Ld (T.ret ?_)))))
 exact ⟨.inl rfl,_,_,res [_] rfl ⟨rvT rfl,trivial⟩,⟨by rw [hm,get64_nat a ha];rfl,rfl⟩,Sa⟩
theorem Rc.number (B:Wn) (N:UInt64) (i:Int) (k:Nat) (hi:i=k) (hk:k≤8):Fn Tryz.prog B 121 #[.int .u64 N.toNat,.int .i64 i] [] (fun v l=>v = .string (Zq (be N k))∧l=[]):=by
 subst hi
 have hN:=N.toNat_lt
 refine Wr 26 Tryz.func121 rfl rfl (nB rfl) (fun F=>?_)
 try simp only [cA,nA]
 refine TS (La rfl rfl (Ld (TS (La rfl rfl (Ld ?_)))))
 refine Ts (TS (La rfl rfl (Ld (yH ?_))))
 refine zG (fun mz fz lz => ∃ (f0:Fr) (j m:Nat) (acc:List UInt8),(j≤k∧m=N.toNat/2^(8*j)∧acc=be N j)∧mz=k-j∧fz=(upd (upd (upd (upd f0 0 (.int .u64 m)) 1 (.int .i64 k)) 5 (.string (Zq acc))) 6 (.int .i64 j))∧lz=F) ?_ ?_
 · refine ⟨_,_,⟨_,0,N.toNat,[],⟨Nat.zero_le _,by simp,rfl⟩,rfl,(Za rfl (Za rfl (Za rfl (Za rfl rfl)))),rfl⟩,Sa⟩
 rintro mz fz lz ⟨f0,j,m,acc,⟨hj,hm,hacc⟩,hmz,rfl,rfl⟩
 subst mz
 have hml:m<2^64:=by rw [hm];exact Nat.lt_of_le_of_lt (Nat.div_le_self _ _) hN
 have hal:acc.length=j:=by rw [hacc,Zd]
 refine Ts (TS (Lm rfl rfl (Lm rfl rfl (Lq rfl (yM rfl rfl) (Lm rfl rfl ?_)))))
 refine zZ (t:=10) rfl (fun hlt=>?_) (fun hlt=>?_)
 ·
  try replace hlt:=of_decide_eq_true hlt
  refine Lm rfl rfl (Lq rfl (yM rfl rfl) (Lq rfl (Qp rfl rfl) (Ld (zM rfl (by omega) ?_))))
  have hmm:m%256=(UInt8.ofNat m).toNat:=by simp
  refine Tk (Ts (yH (TS (Lm rfl rfl (Lq rfl (X0 rfl rfl (by omega) (rem_nat m 256)) (Lq rfl (yX (by kernel_rfl) (by kernel_rfl) rfl (wr8 (by omega) (by omega))) ?_))))))
  refine Le rfl (zK [_] (e:=5) (sz:=1) (by kernel_rfl) ⟨.int .u8 0,by kernel_rfl,rfl⟩ rfl rfl rfl (by omega) (by omega) ?_)
  intro g19
  rw [hmm]
  refine Lq rfl (Z2 [UInt8.ofNat m] (by kernel_rfl) (by kernel_rfl) rfl (fun w ho=>(rdv_blk (g:=g19) (n:=1) (c:=1) rfl rfl).reads w ho)) (Lm rfl rfl (Lq rfl (Qt.addS rfl rfl (by simp [hal];omega)) (La rfl rfl (Ld (TR (Lm rfl rfl (Lq rfl (ZR rfl rfl (by omega) (quo256 m hml)) ?_)))))))
  refine La rfl rfl (Ld (TR (Lm rfl rfl (Lq rfl (Qd rfl rfl (Ze (by omega) (by omega))) (La rfl rfl (Ld ?_))))))
  refine ⟨_,?_,_,⟨_,j+1,m/256,UInt8.ofNat m::acc,⟨by omega,by rw [hm,Nat.div_div_eq_div_mul,show 2^(8*(j+1))=2^(8*j)*256 by rw [Nat.mul_add,Nat.pow_add]],by rw [hacc,hm];rfl⟩,rfl,(Za rfl (Za rfl (Za rfl (Za rfl rfl)))),rfl⟩,Sa⟩
  omega
 try replace hlt:=of_decide_eq_false hlt
 refine Ls rfl (Ls rfl (Lq rfl (Qp rfl rfl) (Ld (yQ rfl ?_))))
 obtain rfl:j=k:=by omega
 refine zB (TS (Lm rfl rfl (La rfl rfl (Ld (T.ret ?_)))))
 exact ⟨.inl rfl,_,_,res [_] rfl ⟨rvT rfl,trivial⟩,⟨by rw [hacc];rfl,rfl⟩,Sa⟩
open Go.RowKit
abbrev iV (n:Nat):Value := .int .i64 n
def restV (s:UInt32):List Value:=(List.range 32).map fun k=>iV (bitN s k)
abbrev intR (g:Nat) (L:List Value):Wp:=row (.slice (some ⟨g,0,none⟩) 32 32) 3 1 32 L
theorem rest_at (s:UInt32) (k:Nat) (h:k<32):(restV s)[0+k*1]? = some (iV (bitN s k)):=by simp [restV,h]
theorem restV_of {L:List Value} {s:UInt32} (hl:L.length=32) (h : ∀ j,j<32→L[j]? = some (iV (bitN s j))):L=restV s:=by
 refine List.ext_getElem? fun j=>?_
 by_cases hj:j<32
 · rw [h j hj];simp [restV,hj]
 · rw [List.getElem?_eq_none (by omega),List.getElem?_eq_none (by simp [restV];omega)]
theorem bitN_ones : ∀ j,j<32→bitN 4294967295 j=1:=by decide +kernel
abbrev powV : List Value:=[iV 0,iV 0,iV 0,iV 0,iV 0,iV 1,iV 0,iV 0,iV 1,iV 1,iV 0,iV 0,iV 0,iV 0,iV 0,iV 1,iV 0,iV 0,iV 0,iV 1,iV 1,iV 1,iV 0,iV 1,iV 1,iV 0,iV 1,iV 1,iV 0,iV 1,iV 1,iV 1]
theorem pow_at (k:Nat) (h:k<32):powV[0+k*1]? = some (iV (bitN crcP k)):=by
 have e:powV=(List.range 32).map fun k=>iV (bitN crcP k):=by kernel_rfl
 rw [e];simp [h]
theorem Cd.elemI : ElemOk Tryz.prog 174 3 1 8 := .mk' (.int .i64 0) Tryz.underlying174 (by kernel_rfl) rfl (by omega)
theorem made_ints (n:Nat):(madeCells (Value.int .i64 0).cells (n*1)).toList=List.replicate n (iV 0):=by
 rw [show (Value.int .i64 0).cells=(List.replicate 1 (Value.int .i64 0)).toArray from rfl,made_replicate _ 1 _ (by omega),Nat.mul_one]
 rfl
theorem rem_add (x y:Nat):((x:Int)+(y:Int)).tmod 2=(((x+y)%2:Nat):Int):=rfl
theorem mul_bits {x y:Nat} (hx:x≤1) (hy:y≤1):IntKind.i64.wrap ((x:Int)*(y:Int))=((x*y:Nat):Int):=by
 have:x*y≤1:=Nat.mul_le_mul hx hy
 rw [←Int.natCast_mul];exact Ze (by omega) (by omega)
theorem set_pre {L:List Value} {k:Nat} {u:Value} {P:Nat→Value} (hl:L.length=32) (hk:k<32) (h : ∀ j,j<k→L[j]? = some (P j)) (hu:u=P k) : ∀ j,j<k+1→(L.set (0+k*1) u)[j]? = some (P j):=by
  intro j hj
  rw [Nat.zero_add,Nat.mul_one]
  rcases Nat.lt_or_ge j k with h1 | h1
  · rw [List.getElem?_set_ne (by omega)];exact h j h1
  · obtain rfl:j=k:=by omega
    rw [List.getElem?_set_self (by omega),hu]
theorem Rc.sum (B:Wn) (a:List UInt8) (hl:a.length<2^32):Fn Tryz.prog B 151 #[.string (Zq a)] [] (fun v l=>v = .int .u32 (crc a).toNat∧l=[]):=by
 refine Wq 77 Tryz.func151 rfl rfl (nB rfl) (fun F=>?_)
 try simp only [cA,nA]
 refine TS (La rfl rfl (Ld (TS (Lm rfl rfl (Lq rfl (YU (by kernel_rfl) rfl) ?_)))))
 refine Lq rfl (YG rfl rfl (Ze (by omega) (by omega))) (La rfl rfl (Ld (TS ?_)))
 refine Le rfl (YK 32 (.int .i64 0) 8 Cd.elemI (by kernel_rfl) rfl rfl rfl rfl (by omega) (by unfold maxLen;omega) ?_)
 rintro g17
 rw [made_ints]
 refine La rfl rfl (Ld (Ts (TS (La rfl rfl (Ld (yH ?_))))))
 refine zG (fun mz fz lz => ∃ (f0:Fr) (i:Nat) (L:List Value),(i≤32∧L.length=32 ∧ ∀ j,j<i→L[j]? = some ((fun _=>iV 1) j))∧mz=32-i∧fz=(upd (upd (upd (upd f0 0 (.string (Zq a))) 3 (.int .i64 ((a.length:Int)*8))) 4 (.slice (some ⟨g17,0,none⟩) 32 32)) 5 (.int .i64 i))∧lz=intR g17 L::F) ?_ ?_
 · refine ⟨_,_,⟨_,0,List.replicate 32 (iV 0),⟨Nat.zero_le _,by simp,by intro j hj;omega⟩,rfl,(Za rfl (Za rfl (Za rfl (Za rfl rfl)))),rfl⟩,Sa⟩
 rintro mz fz lz ⟨f0,i,L,⟨hi,hL,hones⟩,hmz,rfl,rfl⟩
 subst mz
 try simp only [cA,nA]
 refine Ts (TS (Lm rfl rfl (Lq rfl (yM rfl rfl) (Ld ?_))))
 refine yN rfl (fun hlt=>?_) (fun hlt=>?_)
 ·
  refine Tk (Ts (yH (TR (Lm rfl rfl (Lm rfl rfl (Lq rfl (Qi _ (e:=3) (sz:=1) (by kernel_rfl) rfl rfl rfl (by omega)) ?_))))))
  refine L0 rfl (E1 (by kernel_rfl) rfl rfl rfl (by first | (simp;done) | (simp;omega)) ?_)
  refine Ld (TR (Lm rfl rfl (Lq rfl (Qd rfl rfl (Ze (by omega) (by omega))) (La rfl rfl (Ld ?_)))))
  refine ⟨_,?_,_,⟨_,i+1,L.set (0+i*1) (iV 1),⟨by omega,by simp [hL],set_pre hL (by omega) hones rfl⟩,rfl,(Za rfl (Za rfl (Za rfl (Za rfl rfl)))),rfl⟩,Sa⟩
  omega
 obtain rfl:i=32:=by omega
 obtain rfl:L=restV (regI a 0):=restV_of hL (fun j hj=>by rw [hones j hj,regI_zero,bitN_ones j hj])
 refine zB (TS (Lq rfl (Qt.buildA powV (len:=32) (e:=3) (by kernel_rfl) (by kernel_rfl) rfl (by simp [powV,Value.cells]) rfl) ?_))
 refine Le rfl (El [.int .i64 0,.int .i64 0,.int .i64 0,.int .i64 0,.int .i64 0,.int .i64 0,.int .i64 0,.int .i64 0,.int .i64 0,.int .i64 0,.int .i64 0,.int .i64 0,.int .i64 0,.int .i64 0,.int .i64 0,.int .i64 0,.int .i64 0,.int .i64 0,.int .i64 0,.int .i64 0,.int .i64 0,.int .i64 0,.int .i64 0,.int .i64 0,.int .i64 0,.int .i64 0,.int .i64 0,.int .i64 0,.int .i64 0,.int .i64 0,.int .i64 0,.int .i64 0] (by unfold Zf;kernel_rfl) ?_)
 intro g6
 refine L0 rfl (Es [_,_,_,_,_,_,_,_,_,_,_,_,_,_,_,_,_,_,_,_,_,_,_,_,_,_,_,_,_,_,_,_] (by kernel_rfl) rfl rfl rfl rfl (by simp) ?_)
 try simp only [splice,lC,lN,dS,cA,tS,tZ,dZ,nA,aN]
 refine Ld (Ts (TS (La rfl rfl (Ld (yH ?_)))))
 refine zG (fun mz fz lz => ∃ (f0:Fr) (i g:Nat),(i≤8*a.length)∧mz=8*a.length-i∧fz=(upd (upd (upd (upd (upd f0 0 (.string (Zq a))) 3 (.int .i64 ((a.length:Int)*8))) 4 (.slice (some ⟨g,0,none⟩) 32 32)) 6 (.pointer (some ⟨g6,0,none⟩))) 7 (.int .i64 i))∧lz=intR g (restV (regI a i))::blk g6 powV 283::F) ?_ ?_
 · refine ⟨_,_,⟨_,0,g17,Nat.zero_le _,rfl,(Za rfl (Za rfl (Za rfl (Za rfl (Za rfl rfl))))),rfl⟩,Sa⟩
 rintro mz fz lz ⟨f0,i,g,hi,hmz,rfl,rfl⟩
 subst mz
 obtain ⟨s,hs⟩ : ∃ s,regI a i=s:=⟨_,rfl⟩
 rw [hs]
 refine Ts (TS (Lm rfl rfl (Lm rfl rfl (Lq rfl (yM rfl rfl) (Ld ?_)))))
 refine yN rfl (fun hlt=>?_) (fun hlt=>?_)
 ·
  obtain ⟨b,hb⟩ : ∃ b,((a.getD (i/8) 0).toNat.testBit (i%8)).toNat=b:=⟨_,rfl⟩
  have hb1:b≤1:=by rw [←hb];cases (a.getD (i/8) 0).toNat.testBit (i%8) <;> simp
  have hb2:(a.getD (i/8) 0).toNat.testBit (i%8)=decide (b=1):=by rw [←hb];cases (a.getD (i/8) 0).toNat.testBit (i%8) <;> rfl
  have hst:regI a (i+1)=stepB s (decide (b=1)):=by rw [regI_succ a i (by omega),hs,hb2]
  have hs0:=bitN_le s 0
  refine Tk (Ts (yH (Ts (T.draw 8 ([intR g (restV s)]) (by kernel_rfl) (nB rfl) (by kernel_rfl) (Rq 0 rfl rfl (by kernel_rfl) Sa (Qm rfl) (Rq 1 rfl rfl (by kernel_rfl) Sa (Qi 0 (e:=3) (sz:=1) (by kernel_rfl) rfl rfl rfl (by omega)) (Rq 2 rfl rfl (by kernel_rfl) Sa (Ql (v:=iV (bitN s 0)) (by kernel_rfl) rfl (rest_at s 0 (by omega))) ?_)))))))
  refine Rq 3 rfl rfl (by kernel_rfl) Sa (Qm rfl) (Rq 4 rfl rfl (by kernel_rfl) Sa (Qm rfl) (yK 5 (by kernel_rfl) ?_))
  refine z6 rfl rfl (Ec (Rc.bit B a i i rfl (by omega) (by omega)) Tryz.func172 rfl rfl rfl ?_)
  rintro _ _ ⟨rfl,rfl⟩
  try simp only [cA,nA]
  rw [hb]
  refine ⟨Sa,?_⟩
  refine Rq 6 rfl rfl (by kernel_rfl) Sa (Qd rfl rfl (Ze (by omega) (by omega))) (Rq 7 rfl rfl (by kernel_rfl) Sa (X0 rfl rfl (by omega) (rem_add _ _)) (Rd0 (by rfl) ?_))
  simp only [dS,dZ,dN]
  refine La rfl rfl (Ld (TS ?_))
  obtain ⟨top,htop⟩ : ∃ top,(bitN s 0+b)%2=top:=⟨_,rfl⟩
  have ht1:top≤1:=by omega
  rw [htop]
  refine Le rfl (YK 32 (.int .i64 0) 8 Cd.elemI (by kernel_rfl) rfl rfl rfl rfl (by omega) (by unfold maxLen;omega) ?_)
  rintro g39
  rw [made_ints]
  refine La rfl rfl (Ld (Ts (TS (La rfl rfl (Ld (yH ?_))))))
  refine zG (fun mz fz lz => ∃ (f0:Fr) (k:Nat) (L:List Value),(k≤32∧L.length=32 ∧ ∀ j,j<k→L[j]? = some ((fun j=>iV (bitN (regI a (i+1)) j)) j))∧mz=32-k∧fz=(upd (upd (upd (upd (upd (upd (upd (upd f0 0 (.string (Zq a))) 3 (.int .i64 ((a.length:Int)*8))) 4 (.slice (some ⟨g,0,none⟩) 32 32)) 6 (.pointer (some ⟨g6,0,none⟩))) 7 (.int .i64 i)) 8 (iV top)) 9 (.slice (some ⟨g39,0,none⟩) 32 32)) 10 (.int .i64 k))∧lz=intR g39 L::intR g (restV s)::blk g6 powV 283::F) ?_ ?_
  · refine ⟨_,_,⟨_,0,List.replicate 32 (iV 0),⟨Nat.zero_le _,by simp,by intro j hj;omega⟩,rfl,(Za rfl (Za rfl (Za rfl (Za rfl (Za rfl (Za rfl (Za rfl (Za rfl rfl)))))))),rfl⟩,Sa⟩
  rintro mz fz lz ⟨f0,k,L,⟨hk,hL,hpre⟩,hmz,rfl,rfl⟩
  subst mz
  try simp only [cA,nA]
  refine Ts (TS (Lm rfl rfl (Lq rfl (yM rfl rfl) (Ld ?_))))
  refine yN rfl (fun hkl=>?_) (fun hkl=>?_)
  ·
   have hp1:=bitN_le crcP k
   have hx1:=bitN_le s (k+1)
   have htp:top*bitN crcP k≤1:=Nat.mul_le_mul ht1 hp1
   have hnew:bitN (regI a (i+1)) k=(bitN s (k+1)+top*bitN crcP k)%2:=by rw [hst,bitN_step s b k hb1 _ rfl,htop]
   refine Tk (Ts (yH (TS (La rfl rfl (Ld (Ts ?_))))))
   refine TS (Lm rfl rfl (Lq rfl (yM rfl rfl) (Ld ?_)))
   refine yN rfl (fun h31=>?_) (fun h31=>?_)
   ·
    refine TR (Lm rfl rfl (Lm rfl rfl (Lq rfl (Qd rfl rfl (Ze (by omega) (by omega))) (Lq rfl (Qi (k+1) (e:=3) (sz:=1) (by kernel_rfl) rfl rfl (by omega) (by omega)) (Lq rfl (Ql (v:=iV (bitN s (k+1))) (by kernel_rfl) rfl (rest_at s (k+1) (by omega))) (La rfl rfl (Ld ?_)))))))
    refine TR (Lm rfl rfl (Lm rfl rfl (Lm rfl rfl (Lm rfl rfl (Lm rfl rfl (Lq rfl (YA _ (len:=32) (e:=3) (sz:=1) (by kernel_rfl) rfl rfl rfl (by omega)) (Lq rfl (Ql (v:=iV (bitN crcP k)) (by kernel_rfl) rfl (pow_at k (by omega))) ?_)))))))
    refine Lq rfl (YG rfl rfl (mul_bits ht1 hp1)) (Lq rfl (Qd rfl rfl (Ze (by omega) (by omega))) (Lq rfl (X0 rfl rfl (by omega) (rem_add _ _)) (Lq rfl (Qi _ (e:=3) (sz:=1) (by kernel_rfl) rfl rfl rfl (by omega)) ?_)))
    refine L0 rfl (E1 (by kernel_rfl) rfl rfl rfl (by first | (simp;done) | (simp;omega)) ?_)
    refine Ld (TR (Lm rfl rfl (Lq rfl (Qd rfl rfl (Ze (by omega) (by omega))) (La rfl rfl (Ld ?_)))))
    refine ⟨_,?_,_,⟨_,k+1,L.set (0+k*1) (iV ((bitN s (k+1)+top*bitN crcP k)%2)),⟨by omega,by simp [hL],set_pre hL (by omega) hpre (by rw [hnew])⟩,rfl,(Za rfl (Za rfl (Za rfl (Za rfl (Za rfl (Za rfl (Za rfl (Za rfl rfl)))))))),rfl⟩,Sa⟩
    omega
   obtain rfl:k=31:=by omega
   rw [bitN_top] at hnew
   refine Tk (TR (Lm rfl rfl (Lm rfl rfl (Lm rfl rfl (Lm rfl rfl (Lm rfl rfl (Lq rfl (YA _ (len:=32) (e:=3) (sz:=1) (by kernel_rfl) rfl rfl rfl (by omega)) ?_)))))))
   refine Lq rfl (Ql (v:=iV (bitN crcP 31)) (by kernel_rfl) rfl (pow_at 31 (by omega))) (Lq rfl (YG rfl rfl (mul_bits ht1 hp1)) (Lq rfl (Qd rfl rfl (Ze (by omega) (by omega))) (Lq rfl (X0 rfl rfl (by omega) (rem_add 0 _)) (Lq rfl (Qi _ (e:=3) (sz:=1) (by kernel_rfl) rfl rfl rfl (by omega)) ?_))))
   refine L0 rfl (E1 (by kernel_rfl) rfl rfl rfl (by first | (simp;done) | (simp;omega)) ?_)
   refine Ld (TR (Lm rfl rfl (Lq rfl (Qd rfl rfl (Ze (by omega) (by omega))) (La rfl rfl (Ld ?_)))))
   refine ⟨_,?_,_,⟨_,32,L.set (0+31*1) (iV ((0+top*bitN crcP 31)%2)),⟨by omega,by simp [hL],set_pre hL (by omega) hpre (by rw [hnew])⟩,rfl,(Za rfl (Za rfl (Za rfl (Za rfl (Za rfl (Za rfl (Za rfl (Za rfl rfl)))))))),rfl⟩,Sa⟩
   omega
  obtain rfl:k=32:=by omega
  obtain rfl:L=restV (regI a (i+1)):=restV_of hL hpre
  refine zB (TR (Lm rfl rfl (La rfl rfl (Ld (TR (Lm rfl rfl (Lq rfl (Qd rfl rfl (Ze (by omega) (by omega))) ?_)))))))
  refine La rfl rfl (Ld ?_)
  refine ⟨_,?_,_,⟨_,i+1,g39,by omega,rfl,(Za rfl (Za rfl (Za rfl (Za rfl (Za rfl rfl))))),rfl⟩,Sa⟩
  omega
 obtain rfl:i=8*a.length:=by omega
 obtain rfl:crcS a=s:=by rw [←hs,regI_all]
 refine zB (TS (La rfl rfl (Ld (Ts (TS ?_)))))
 refine La rfl rfl (Ld (yH ?_))
 refine zG (fun mz fz lz => ∃ (f0:Fr) (k m:Nat),(k≤32∧m=(~~~ crcS a).toNat%2^k)∧mz=32-k∧fz=(upd (upd (upd f0 4 (.slice (some ⟨g,0,none⟩) 32 32)) 12 (.int .u32 m)) 13 (.int .i64 k))∧lz=intR g (restV (crcS a))::F) ?_ ?_
 · refine ⟨_,_,⟨_,0,0,⟨Nat.zero_le _,by simp [Nat.mod_one]⟩,rfl,(Za rfl (Za rfl (Za rfl rfl))),rfl⟩,Sa⟩
 rintro mz fz lz ⟨f0,k,m,⟨hk,hm⟩,hmz,rfl,rfl⟩
 subst mz
 refine Ts (TS (Lm rfl rfl (Lq rfl (yM rfl rfl) (Ld ?_))))
 refine yN rfl (fun hkl=>?_) (fun hkl=>?_)
 ·
  have hlow:=not_low (crcS a) k (by omega)
  rw [←hm] at hlow
  have hlt3:(~~~ crcS a).toNat%2^(k+1)<2^32:=Nat.lt_of_le_of_lt (Nat.mod_le _ _) (~~~ crcS a).toNat_lt
  refine Tk (Ts (yH (TS (Lm rfl rfl (Lm rfl rfl (Lq rfl (Qi _ (e:=3) (sz:=1) (by kernel_rfl) rfl rfl rfl (by omega)) ?_))))))
  refine Lq rfl (Ql (v:=iV (bitN (crcS a) k)) (by kernel_rfl) rfl (rest_at _ k (by omega))) (Lq rfl (yU rfl rfl) (Ld ?_))
  refine yN rfl (fun h0=>?_) (fun h0=>?_)
  ·
   rw [if_pos (by omega)] at hlow
   refine TR (Lm rfl rfl (Lm rfl rfl (Lq rfl (Qt.shl1 k rfl rfl rfl (by omega)) (Lq rfl (Qd rfl rfl (wru32 (by omega) (by omega))) (La rfl rfl (Ld (TR ?_)))))))
   refine Lm rfl rfl (Lq rfl (Qd rfl rfl (Ze (by omega) (by omega))) (La rfl rfl (Ld ?_)))
   refine ⟨_,?_,_,⟨_,k+1,m+2^k,⟨by omega,by rw [hlow]⟩,rfl,(Za rfl (Za rfl (Za rfl rfl))),rfl⟩,Sa⟩
   omega
  rw [if_neg (by omega)] at hlow
  refine Tk (TR (Lm rfl rfl (Lq rfl (Qd rfl rfl (Ze (by omega) (by omega))) (La rfl rfl (Ld ?_)))))
  refine ⟨_,?_,_,⟨_,k+1,m,⟨by omega,by rw [hlow];rfl⟩,rfl,(Za rfl (Za rfl (Za rfl rfl))),rfl⟩,Sa⟩
  omega
 obtain rfl:k=32:=by omega
 rw [Nat.mod_eq_of_lt (~~~ crcS a).toNat_lt] at hm
 refine zB (TS (Lm rfl rfl (La rfl rfl (Ld (T.ret ?_)))))
 exact ⟨.inl rfl,_,_,res [_] rfl ⟨rvT rfl,trivial⟩,⟨by rw [hm];rfl,rfl⟩,Sa⟩
open Go.RowKit
section
variable {P : Program} {B:Wn} {n:Nat} {l r:List Wp} {f:Fr} {Φ:Post} {c:Code}
end
end Go.Proofs.YtfjjgdnepfgnhaaGreatDoor
