/- The texts PgZ, one behind the other: what the law leans on. Conditions: as each theorem says. -/
import Derived.Test.YtkfmfoecplbclaaGreatDoorZPyBase3
set_option linter.unusedSimpArgs false
set_option linter.unusedVariables false
set_option maxRecDepth 100000
set_option maxHeartbeats 16000000
namespace Go.Proofs.YtkfmfoecplbclaaGreatDoor
open Go.RowKit
def crcBit (s:UInt32):UInt32:=if s &&& 1=1 then (s >>> 1) ^^^ 3988292384 else s >>> 1
def crcBits : Nat->UInt32->UInt32
 | 0,s=>s
 | k+1,s=>crcBit (crcBits k s)
def crcByte (s:UInt32) (x:UInt8):UInt32:=crcBits 8 (s ^^^ x.toUInt32)
def crcS (l:List UInt8):UInt32:=l.foldl crcByte 4294967295
def crc (l:List UInt8):UInt32 := ~~~ crcS l
theorem crcS_snoc (l:List UInt8) (x:UInt8):crcS (l++[x])=crcByte (crcS l) x:=by simp [crcS]
def PartsV (B:Wn) (S:List Wp) (v:Value) (bs:List (List UInt8)):Prop := ∃ vs,RdV B S v vs/\vs.length=bs.length /\ ∀ i (h1:i<vs.length) (h2:i<bs.length),RdV B S vs[i] (Zb bs[i])
theorem Cd.sum (B:Wn) (S:List Wp) (v:Value) (bs:List (List UInt8)) (hv:PartsV B S v bs) (hb:bs.length<2^32) (hbl : ∀ b∈bs,b.length<2^48):Fn Tryz.prog B 96 #[v] S (λ u l=>u = .int .u32 (crc bs.flatten).toNat/\l=S):=by
 obtain ⟨vs,h1,h2,h3⟩:=hv
 obtain ⟨a,c,rfl⟩:=h1.form h2
 refine Wq 41 Tryz.func96 rfl rfl (nB rfl) (λ F=>?_)
 refine TS (La rfl (Ld (TS (La rfl (Ld (Ts (TS ?_)))))))
 iterate 3 refine Lz ?_
 refine Ld (yH ?_)
 refine zG (λ mz fz lz => ∃ (f0:Fr) (k:Nat) (s:UInt32),(k<=bs.length/\s=crcS (bs.take k).flatten)/\mz=bs.length-k/\fz=(upd (upd (upd (upd f0 3 (.int .u32 s.toNat)) 9 (.slice a bs.length c)) 10 (.int .i64 bs.length)) 11 (.int .i64 k))/\lz=S++F) ?_ ?_
 . refine ⟨_,_,⟨_,0,4294967295,⟨Nat.zero_le _,by simp [crcS]⟩,rfl,(Za rfl (Za rfl (Za rfl (Za rfl rfl)))),rfl⟩,Sa⟩
 rintro mz fz lz ⟨f0,k,s,⟨hk,hs⟩,hmz,rfl,rfl⟩
 subst mz
 refine TS (Lq (yM rfl rfl) (Ld (Ts ?_)))
 refine yN rfl (λ hlt=>?_) (λ hlt=>?_)
 .
  obtain ⟨b,o,rfl,hc⟩:=h1.at (by omega)
  have h3k:=h3 k (by omega) (by omega)
  obtain ⟨pa,pc,hpv⟩:=h3k.form (m:=bs[k].length) (by simp)
  rw [hpv] at h3k
  have hbk:=hbl bs[k] (List.getElem_mem _)
  refine Tk (Ts (yH (TS ?_)))
  refine Lz ?_
  refine Lq (zN (v := .slice pa bs[k].length pc) rfl (λ w ho=>by rw [hc k (by omega) w ho.drop,hpv])) (La rfl (Ld (TS ?_)))
  iterate 3 refine Lz ?_
  refine Ld (yH ?_)
  refine zG (λ mz fz lz => ∃ (f0:Fr) (j:Nat) (s2:UInt32),(j<=bs[k].length/\s2=crcS ((bs.take k).flatten++bs[k].take j))/\mz=bs[k].length-j/\fz=(upd (upd (upd (upd (upd (upd (upd f0 3 (.int .u32 s2.toNat)) 9 (.slice (some ⟨b,o,none⟩) bs.length c)) 10 (.int .i64 bs.length)) 11 (.int .i64 k)) 15 (.slice pa bs[k].length pc)) 16 (.int .i64 bs[k].length)) 17 (.int .i64 j))/\lz=S++F) ?_ ?_
  . refine ⟨_,_,⟨_,0,s,⟨Nat.zero_le _,by rw [hs];simp⟩,rfl,(Za rfl (Za rfl (Za rfl (Za rfl (Za rfl (Za rfl (Za rfl rfl))))))),rfl⟩,Sa⟩
  rintro mz fz lz ⟨f0,j,s2,⟨hj,hs2⟩,hmz,rfl,rfl⟩
  subst mz
  refine TS (Lq (yM rfl rfl) (Ld (Ts ?_)))
  refine yN rfl (λ hjl=>?_) (λ hjl=>?_)
  .
   obtain ⟨b2,o2,rfl,hc2⟩:=h3k.at (by omega)
   have hx:=(bs[k][j]'(by omega)).toNat_lt
   refine Tk (Ts (yH (TS ?_)))
   refine Lz ?_
   refine Lq (zN (v := .int .u8 (bs[k][j]'(by omega)).toNat) rfl (λ w ho=>by rw [hc2 j (by simp;omega) w ho.drop];simp [Zb])) (La rfl (Ld (TS (Lm rfl (Lm rfl (Lq (yX rfl (wru32 (by omega))) (Lq (Z8 (bs[k][j]'(by omega)).toUInt32 rfl rfl (by simp)) (La rfl (Ld (TS (Lm rfl (Ld (yH ?_)))))))))))))
   refine zG (λ mz fz lz => ∃ (f0:Fr) (q:Nat) (s3:UInt32),(q<=8/\s3=crcBits q (s2 ^^^ (bs[k][j]'(by omega)).toUInt32))/\mz=8-q/\fz=(upd (upd (upd (upd (upd (upd (upd (upd f0 3 (.int .u32 s3.toNat)) 9 (.slice (some ⟨b,o,none⟩) bs.length c)) 10 (.int .i64 bs.length)) 11 (.int .i64 k)) 15 (.slice (some ⟨b2,o2,none⟩) bs[k].length pc)) 16 (.int .i64 bs[k].length)) 17 (.int .i64 j)) 25 (.int .i64 q))/\lz=S++F) ?_ ?_
   . refine ⟨_,_,⟨_,0,_,⟨by omega,rfl⟩,rfl,(Za rfl (Za rfl (Za rfl (Za rfl (Za rfl (Za rfl (Za rfl (Za rfl rfl)))))))),rfl⟩,Sa⟩
   rintro mz fz lz ⟨f0,q,s3,⟨hq,hs3⟩,hmz,rfl,rfl⟩
   subst mz
   refine TS (Lq (yM rfl rfl) (Ld (Ts ?_)))
   refine yN rfl (λ hql=>?_) (λ hql=>?_)
   .
    refine Tk (Ts (yH (TS (Lm rfl (Lq (ZS 1 rfl rfl rfl) (La rfl (Ld (TS (Lm rfl (Lq (yU rfl rfl) (Ld ?_)))))))))))
    refine yN rfl (λ hbit=>?_) (λ hbit=>?_)
    .
     refine TR (Lm rfl (Lq (Z9 rfl rfl) (Lq (Z8 3988292384 rfl rfl rfl) (La rfl (Ld (TR ?_))))))
     iterate 2 refine Lz ?_
     refine Ld ?_
     refine ⟨_,?_,_,⟨_,q+1,_,⟨by omega,by rw [crcBits,<-hs3,crcBit,if_pos (by apply UInt32.toNat_inj.1;show _=1;omega)]⟩,rfl,(Za rfl (Za rfl (Za rfl (Za rfl (Za rfl (Za rfl (Za rfl (Za rfl rfl)))))))),rfl⟩,Sa⟩
     omega
    refine TR (Lm rfl (Lq (Z9 rfl rfl) (La rfl (Ld (TR ?_)))))
    iterate 2 refine Lz ?_
    refine Ld ?_
    refine ⟨_,?_,_,⟨_,q+1,_,⟨by omega,by rw [crcBits,<-hs3,crcBit,if_neg (by intro e;rw [e] at hbit;exact hbit rfl)]⟩,rfl,(Za rfl (Za rfl (Za rfl (Za rfl (Za rfl (Za rfl (Za rfl (Za rfl rfl)))))))),rfl⟩,Sa⟩
    omega
   have e:q=8:=by omega
   subst e
   refine zB (TR ?_)
   iterate 2 refine Lz ?_
   refine Ld ?_
   refine ⟨_,?_,_,⟨_,j+1,s3,⟨by omega,by rw [List.take_succ_eq_append_getElem (by omega),<-List.append_assoc,crcS_snoc,<-hs2,hs3];rfl⟩,rfl,(Za rfl (Za rfl (Za rfl (Za rfl (Za rfl (Za rfl (Za rfl rfl))))))),rfl⟩,Sa⟩
   omega
  have e:j=bs[k].length:=by omega
  rw [e,List.take_length] at hs2
  refine zB (TR ?_)
  iterate 2 refine Lz ?_
  refine Ld ?_
  refine ⟨_,?_,_,⟨_,k+1,s2,⟨by omega,by rw [List.take_succ_eq_append_getElem (by omega),List.flatten_append,hs2];simp⟩,rfl,(Za rfl (Za rfl (Za rfl (Za rfl rfl)))),rfl⟩,Sa⟩
  omega
 have e:k=bs.length:=by omega
 rw [e,List.take_length] at hs
 refine zB (TS (Lm rfl (Lq (ZT rfl) (La rfl (Ld (T.ret ?_))))))
 exact ⟨.inl rfl,_,_,res [_] rfl ⟨rvT rfl,trivial⟩,⟨by rw [hs];rfl,rfl⟩,Sa⟩
open Go.RowKit
section
variable {P : Program} {B:Wn} {n:Nat} {S l r:List Wp} {f:Fr} {K:Value->List Wp->Prop}
variable {d : Option Tmp} {ty:TypeId} {pos:String} {af:Array Edge} {gd:Option (Nat×Bool)}
theorem Own.tl {w:World} {A:Wp} (H:Own B w (A::l)):Own B w l:=H.map λ _ k=>k.tail
theorem ZY {t t2:TypeId} {x y:Operand} {a:UInt64} {b':Int} (b:UInt64) (hx:ev n f x=some (.int .u64 a.toNat)) (hy:ev n f y=some (.int .u64 b')) (hb:b'=b.toNat):Qt P B n S ⟨d,.binOp .or t x y t2,ty,pos,af,gd⟩ f (.int .u64 (a ||| b).toNat):=⟨λ w _=>by
 subst hb
 have ha:BitVec.ofInt 64 (a.toNat:Int)=a.toBitVec:=by rw [ofInt_nat];simp
 have hb:BitVec.ofInt 64 (b.toNat:Int)=b.toBitVec:=by rw [ofInt_nat];simp
 have wr : ∀ r:UInt64,IntKind.u64.wrap (r.toBitVec.toNat:Int)=(r.toNat:Int):=λ r=>wru64 (h1:=(by have:=r.toNat_lt;have e:r.toBitVec.toNat=r.toNat:=rfl;omega))
 have h:(Op.intBits .or .u64 (a.toNat:Int) (b.toNat:Int)).run P w = .ok (.int .u64 (a ||| b).toNat) w:=by
  show Sem.run P (pure (Value.int .u64 (IntKind.u64.wrap ((BitVec.ofInt 64 (a.toNat:Int) ||| BitVec.ofInt 64 (b.toNat:Int)).toNat:Int)))) w=_
  rw [ha,hb,<-UInt64.toBitVec_or,wr];rfl
 simp [execOp,Zc hx,Zc hy,eqGuard,Go.binOp,h]⟩
theorem ZU {t t2:TypeId} {x y:Operand} {a:UInt64} {k:IntKind} (hx:ev n f x=some (.int .u64 a.toNat)) (hy:ev n f y=some (.int k 8)):Qt P B n S ⟨d,.binOp .shl t x y t2,ty,pos,af,gd⟩ f (.int .u64 (a <<< 8).toNat):=⟨λ w _=>by
 have e:IntKind.u64.wrap ((a.toNat:Int)*2^8)=((a <<< 8).toNat:Int):=by
  rw [UInt64.toNat_shiftLeft]
  simp [IntKind.wrap,IntKind.bits,IntKind.signed,Nat.shiftLeft_eq]
 have h:(Op.shift .shl .u64 (a.toNat:Int) k 8).run P w = .ok (.int .u64 (a <<< 8).toNat) w:=by
  rw [<-e]
  simp [Op.shift,IntKind.bits]
 simp [execOp,Zc hx,Zc hy,eqGuard,Go.binOp,h]⟩
theorem ZV {t t2:TypeId} {x y:Operand} {a:UInt64} {k:IntKind} {i:Int} (j:Nat) (hx:ev n f x=some (.int .u64 a.toNat)) (hy:ev n f y=some (.int k i)) (hi:i=(j:Int)) (hj:j<64):Qt P B n S ⟨d,.binOp .shr t x y t2,ty,pos,af,gd⟩ f (.int .u64 (a.toNat/2^j:Nat)):=⟨λ w _=>by
 subst hi
 have e:(a.toNat:Int).fdiv (2^j)=((a.toNat/2^j:Nat):Int):=by
  rw [Int.fdiv_eq_ediv_of_nonneg _ (by exact_mod_cast Nat.zero_le _)]
  push_cast;rfl
 have h:(Op.shift .shr .u64 (a.toNat:Int) k (j:Int)).run P w = .ok (.int .u64 (a.toNat/2^j:Nat)) w:=by
  have:min j 64=j:=by omega
  simp [Op.shift,IntKind.bits,this]
 simp [execOp,Zc hx,Zc hy,eqGuard,Go.binOp,h]⟩
theorem wr8_nat (m:Nat):IntKind.u8.wrap (m:Int)=((UInt8.ofNat m).toNat:Int):=by
 simp [IntKind.wrap,IntKind.bits,IntKind.signed]
theorem wru64_i64 (m:Int):IntKind.u64.wrap m=((UInt64.ofInt m).toNat:Int):=by
 simp [IntKind.wrap,IntKind.bits,IntKind.signed,UInt64.ofInt]
 omega
theorem wr64_u64 (m:Int) (h0 : -9223372036854775808<=m) (h1:m<9223372036854775808):IntKind.i64.wrap ((UInt64.ofInt m).toNat:Int)=m:=by
 rw [<-wru64_i64]
 simp [IntKind.wrap,IntKind.bits,IntKind.signed]
 omega
theorem YP {x y:Operand} {k:IntKind} {a b:Int} (hx:ev n f x=some (.int k a)) (hy:ev n f y=some (.int k b)) {ts:Array TypeId}:Qt P B n S ⟨d,.call ⟨.builtin .max,#[x,y],ts⟩,ty,pos,af,gd⟩ f (.int k (Max.max a b)):=⟨λ w _=>by
 have h:(if a<b then b else a)=Max.max a b:=by split <;> omega
 have h':(if b>a then b else a)=Max.max a b:=by split <;> omega
 simp [execOp,resolve,invoke,builtin,Builtin.max_,Builtin.max2,Zc hx,Zc hy,h,h']⟩
theorem ZQ {x y:Operand} {k:IntKind} {a b:Int} (hx:ev n f x=some (.int k a)) (hy:ev n f y=some (.int k b)) {ts:Array TypeId}:Qt P B n S ⟨d,.call ⟨.builtin .min,#[x,y],ts⟩,ty,pos,af,gd⟩ f (.int k (Min.min a b)):=⟨λ w _=>by
 have h:(if b<a then b else a)=Min.min a b:=by split <;> omega
 simp [execOp,resolve,invoke,builtin,Builtin.min_,Builtin.min2,Zc hx,Zc hy,h]⟩
theorem YR {t:TypeId} {x y:Operand} {a:List UInt8} {k:IntKind} {i:Int} (j:Nat) (hx:ev n f x=some (.string (Zq a))) (hy:ev n f y=some (.int k i)) (hj:i=(j:Int)) (hl:j<a.length) (ht:isStr P t=true:=by kernel_rfl) :
  Qt P B n S ⟨d,.index t x y,ty,pos,af,gd⟩ f (.int .u8 (a[j]).toNat):=⟨λ w _=>by
 subst hj
 have hu:=isStr_spec ht
 have hg:(Zq a)[j]? = some a[j]:=by
  rw [getElem?_pos _ _ (by rw [size_strOf];exact hl)]
  rfl
 simp [execOp,Instr.index,Zc hx,Zc hy,asIntOf,run_underlying hu,hg]⟩
theorem zeroCells_one {z:Value} {zv:Value} (hz:z.cells = #[zv]) (m:Nat):Builtin.zeroCells z.cells m=(List.replicate m zv).toArray:=by
  rw [hz]
  unfold Builtin.zeroCells
  apply Array.ext'
  apply List.ext_getElem
  . simp
  . intro i h1 h2
    simp at h1
    simp [Nat.mod_one]
section
variable (w : World)
theorem run_append_room_z (t tx ty e:TypeId) (i:TypeInfo) (z zv:Value) (ki k:IntKind) (ht:P.underlying t=some (.slice e)) (hk:P.underlying tx=some (.int ki)) (hi:P.info? e=some i) (hz:i.zero=some z) (hzc:z.cells = #[zv]) (h1:zv.oneCell'=true) (hsz:i.size=1) (b off sLen sCap m:Nat)
    (hm:m*i.bytes<=281474976710656) (hm2:m<9223372036854775808) (hroom:sLen+m<=sCap) (hc : ∀ j,j<m->(w.cell? ⟨b,off+sLen+j,none⟩).isSome=true) (hf : ∀ j,j<m->w.frozen? ⟨b,off+sLen+j,none⟩=false) :
    (Builtin.append_ #[t,tx] ty #[.slice (some ⟨b,off,none⟩) sLen sCap,.int k m]).run P w = .ok (.slice (some ⟨b,off,none⟩) (sLen+m) sCap) (w.setCells b (off+sLen) (List.replicate m zv)):=by
  have hst:=run_storeCells_cells (P:=P) b (off+sLen) (List.replicate m zv) 0 w (by simpa using hc) (by simpa using hf) (by simp [h1])
  simp only [Nat.add_zero] at hst
  have hw:IntKind.i64.wrap (m:Int)=m:=Ze
  have hb : ¬ (281474976710656<(m:Int)*(i.bytes:Int)):=by
    have:((m*i.bytes:Nat):Int)<=((281474976710656:Nat):Int):=Int.ofNat_le.2 hm
    rw [Int.natCast_mul] at this;omega
  have hn : ¬ ((m:Int)<0):=by omega
  have hw0:IntKind.i64.wrap 0=0:=by decide
  by_cases h0:m=0
  . subst h0
    simp [Builtin.append_,run_underlying ht,run_underlying hk,sizeOf,typeInfo,hi,hsz,hw0,asInt,asIntOf,Addr.add_lit] at hst hroom ⊢
    simp [hroom,storeCells,setCells_nil]
  . simp [Builtin.append_,run_underlying ht,run_underlying hk,sizeOf,typeInfo,zeroValue,hi,hz,hsz,hw,asInt,asIntOf,hb,hn,hroom,h0,zeroCells_one hzc,Addr.add_lit,hst]
theorem run_append_grow_z (t tx ty e:TypeId) (i:TypeInfo) (z zv:Value) (ki k:IntKind) (ht:P.underlying t=some (.slice e)) (hk:P.underlying tx=some (.int ki)) (hi:P.info? e=some i) (hz:i.zero=some z) (hzc:z.cells = #[zv]) (hsz:i.size=1) (base:Option Addr) (sLen sCap m:Nat) (olds:List Value)
  (hold:(Builtin.firstCells 1 sLen (.slice base sLen sCap)).run P w.drew = .ok olds.toArray w.drew) (hm:m*i.bytes<=281474976710656)
  (hlc:sLen<=sCap) (hg:sCap<sLen+m) (h63:((sLen+m:Nat):Int)<=9223372036854775807) (hfit:Builtin.nextslicecap (sLen+m) sCap*i.bytes<=281474976710656) :
  (Builtin.append_ #[t,tx] ty #[.slice base sLen sCap,.int k m]).run P w =
   .ok (.slice (some ⟨w.heap.size,0,none⟩) (sLen+m) (grownCap w (sLen+m) sCap e))
    (w.drew.alloc (.cells ((olds++List.replicate m zv).toArray++Builtin.zeroCells z.cells (grownCap w (sLen+m) sCap e-(sLen+m))) e)):=by
 have hn : ¬ (sLen+m<=sCap):=by omega
 have h63' : ¬ (9223372036854775807<((sLen:Int)+(m:Int))):=by omega
 have hmx : ¬ (IntKind.i64.max<((sLen:Int)+(m:Int))):=by simpa [IntKind.max,IntKind.bits,IntKind.signed] using h63'
 have h48' : ¬ (281474976710656<Builtin.nextslicecap (sLen+m) sCap*i.bytes):=by omega
 have hw:IntKind.i64.wrap (m:Int)=m:=Ze
 have hb : ¬ (281474976710656<(m:Int)*(i.bytes:Int)):=by
  have:((m*i.bytes:Nat):Int)<=((281474976710656:Nat):Int):=Int.ofNat_le.2 hm
  rw [Int.natCast_mul] at this;omega
 have hn0 : ¬ ((m:Int)<0):=by omega
 have hw0:IntKind.i64.wrap 0=0:=by decide
 have h0 : ¬ m=0:=by omega
 simp [Builtin.append_,run_underlying ht,run_underlying hk,sizeOf,typeInfo,zeroValue,hi,hz,hsz,hw,asInt,asIntOf,hb,hn0,h0,hn,hmx,h63',h48',Question.forced,hold,newRow,grownCap,zeroCells_one hzc]
 congr 2
 apply Array.ext'
 simp [List.append_assoc,<-List.replicate_append_replicate]
theorem run_append_z_k {t tx ty e:TypeId} {bytes:Nat} (E:ElemOk P t e 1 bytes) (z zv:Value) (ki k:IntKind) (hk:P.underlying tx=some (.int ki)) (hzz:(P.info? e).bind (·.zero)=some z) (hzc:z.cells = #[zv]) (h1:zv.oneCell'=true)
    {g n cap:Nat} {xs:List Value} (hown:w.ownsRow 0 e 1 (.slice (some ⟨g,0,none⟩) n cap) n xs) (m:Nat) (h63:n+m<=maxLen) (hbytes:(n+m)*bytes<=140737488355328) :
    ∃ v' w',(Builtin.append_ #[t,tx] ty #[.slice (some ⟨g,0,none⟩) n cap,.int k m]).run P w = .ok v' w'/\AppPost 0 e 1 (.slice (some ⟨g,0,none⟩) n cap) n xs m (List.replicate m zv) w v' w':=by
  obtain ⟨i,z',hi,hz,hsz,hby,hzs⟩:=E.ex
  rw [hi] at hzz
  simp only [Option.bind_some] at hzz
  rw [hz] at hzz
  cases hzz
  subst hby
  have hsmall:n+m<=9223372036854775807:=by simp only [maxLen] at h63;omega
  have hlen:(xs++List.replicate m zv).length=(n+m)*1:=by rw [List.length_append,hown.1,List.length_replicate];omega
  have hmb:m*i.bytes<=281474976710656:=by
    have:m*i.bytes<=(n+m)*i.bytes:=Nat.mul_le_mul_right _ (by omega)
    omega
  have hm63:m<9223372036854775808:=by omega
  rcases hown.2 with ⟨hn,_⟩ | ⟨g',cap',cur,he,hbg,hg,hnc,hcm,hcs,htake⟩
  . cases hn
  . injection he with e1 _ e2
    injection e1 with e1
    injection e1 with e1
    subst e1;subst e2
    by_cases hroom:n+m<=cap
    . have hfit:n*1+(List.replicate m zv).length<=cur.size:=by rw [List.length_replicate,hcs];omega
      have hr:=run_append_room_z (P:=P) w t tx ty e i z zv ki k E.ht hk hi hz hzc h1 hsz g 0 n cap m hmb hm63 hroom
        (λ j hj=>by rw [cell_of_row w g _ cur e (0,0) hg];simp;omega) (λ j hj=>frozen_of_row w g _ cur e hg)
      rw [Nat.zero_add] at hr
      have hr2:=setCells_row P w g e (List.replicate m zv) n cur hg (by simpa using hfit) (by simp [h1])
      rw [hr2] at hr
      refine ⟨_,_,hr,⟨⟨hlen,.inr ⟨g,cap,_,rfl,hbg,setRow_heap w g cur _ e _ hg,hroom,hcm,?_,?_⟩⟩,(Kept.refl _ _).setRow (by simp [Value.ownBlock]) _,λ q hq => .inl hq,by simp,?_⟩⟩
      . rw [List.size_toArray,length_splice _ _ _ (by simpa using hfit)];simpa using hcs
      . rw [Nat.mul_one] at htake
        unfold splice
        simp only [htake]
        rw [<-List.append_assoc,<-hlen]
        exact List.take_left
      . intro hm
        subst hm
        refine ⟨rfl,?_⟩
        rw [<-hr2];rfl
    . have holds : ∀ j u,xs[j]? = some u->w.cell? ((⟨g,0,none⟩:Addr).add j)=some u:=hown.cells (g:=g) rfl
      have hf:=run_firstCells_some (P:=P) w.drew 1 n ⟨g,0,none⟩ n cap xs hown.1 (by simpa using holds)
      have hr:=run_append_grow_z (P:=P) (ty:=ty) (tx:=tx) w t e i z zv ki k E.ht hk hi hz hzc hsz (some ⟨g,0,none⟩) n cap m xs hf hmb hnc (by omega) (by omega) (growslice_fits (by omega) hbytes)
      refine ⟨_,_,hr,⟨?_,(Kept.refl _ _).drew.alloc _,λ q hq => .inr (by simpa [Value.ownBlock] using hq.symm),by simp,λ hm=>by omega⟩⟩
      have hge:=grownCap_ge w (n+m) cap e
      have hcm2:grownCap w (n+m) cap e<=maxLen:=grownCap_le_maxLen w (n+m) cap e h63
      refine ⟨hlen,.inr ⟨w.heap.size,_,_,rfl,Nat.zero_le _,heap_alloc_new w.drew _,hge,hcm2,?_,?_⟩⟩
      . rw [Array.size_append,List.size_toArray,size_zeroCells,hzs,hlen,<-Nat.add_mul]
        congr 1
        omega
      . rw [Array.toList_append,<-hlen]
        exact List.take_left
end
theorem ZJ {t tx e bytes:Nat} {x y:Operand} {g k m c:Nat} {xs:List Value} {ki kk:IntKind} {im:Int} {ty2:TypeId} (z zv:Value) (E:ElemOk P t e 1 bytes) (hk:P.underlying tx=some (.int ki)) (hzz:(P.info? e).bind (·.zero)=some z) (hzc:z.cells = #[zv]) (h1:zv.oneCell'=true)
  (hx:ev n f x=some (.slice (some ⟨g,0,none⟩) k c)) (hy:ev n f y=some (.int kk im)) (him:im=(m:Int))
  [hT:TakeR (.slice (some ⟨g,0,none⟩) k c) l e 1 k xs r] (h63:k+m<=maxLen) (hbytes:(k+m)*bytes<=140737488355328)
  (h : ∀ p c,(0<k+m -> ∃ g,p=some ⟨g,0,none⟩)->K (.slice p (k+m) c) (row (.slice p (k+m) c) e 1 (k+m) (xs++List.replicate m zv)::r)):Ef P B n ⟨d,.call ⟨.builtin .append,#[x,y],#[t,tx]⟩,ty2,pos,af,gd⟩ f l K:=⟨λ w next Q ho hk2=>by
 subst him
 have ho2:=ho.takeR (k:=hT)
 obtain ⟨v',w',hr,hp⟩:=run_append_z_k (P:=P) (tx:=tx) (ty:=ty2) w E z zv ki kk hk hzz hzc h1 ho2.row_owns m h63 hbytes
 have ho3:=ho2.row_kept hp.kept hp.own hp.blk
 obtain ⟨p,c',rfl,hpg,_⟩:=ho3.row_slice
 unfold Oper.wp execOp
 simp only [Wk,resolve,invoke,builtin,Sem.run_bind,Sem.run_pure,Result.andThen_ok,List.map_toArray,List.map_cons,List.map_nil,Zc hx,Zc hy,hr]
 exact hk2 _ w' _ (h p c' hpg) ho3⟩
theorem YI {dT sT e g o dLen dCap sLen sCap:Nat} {x y:Operand} {a:Option Addr} {C cs:List Value} {src:List Value} {ty2:TypeId} (hx:ev n f x=some (.slice (some ⟨g,o,none⟩) dLen dCap)) (hy:ev n f y=some (.slice a sLen sCap))
    (hS:RdV B l (.slice a sLen sCap) src) (m:Nat) (hm:m=Nat.min sLen dLen) (hpos:0<m) (hcs:cs=src.take m) (hl:sLen=src.length) (h1 : ∀ v∈src,v.oneCell'=true)
    [k:StoreAt g l C (splice C o cs) r] (hfit:o+m<=C.length) (h:K (.int .i64 m) r) (hk:sliceB P dT e 1=true:=by kernel_rfl):Ef P B n ⟨d,.call ⟨.builtin .copy,#[x,y],#[dT,sT]⟩,ty2,pos,af,gd⟩ f l K:=⟨λ w next Q ho hk2=>by
  have hml:m<=src.length:=by rw [hm,hl];exact Nat.min_le_left _ _
  have hcl:cs.length=m:=by rw [hcs,List.length_take];omega
  obtain ⟨X,t',hg,ho'⟩:=ho.store (g:=g) (C:=C) (D:=splice C o cs) (length_splice _ _ _ (by omega))
  obtain ⟨hu,hs⟩:=sliceB_spec hk
  obtain ⟨a2,c2,e2,h3 | ⟨b,o2,e3,h4⟩⟩:=hS
  . rw [h3] at hml;simp at hml;omega
  . injection e2 with e2 _ _
    subst e2;subst e3
    have hr:=run_copy_row (P:=P) w dT sT ty2 e g o dLen dCap ⟨b,o2,none⟩ sLen sCap _ t' cs hu hs hg (by rw [hcl,hm]) (λ j v hv=>by
      rw [Addr.add_mid]
      refine h4 w ho j v ?_
      rw [hcs,List.getElem?_take] at hv
      split at hv
      . exact hv
      . cases hv) (by simp;omega) (λ v hv=>h1 v (by rw [hcs] at hv;exact List.mem_of_mem_take hv))
    have hsp:=splice_append C X o cs (by omega)
    unfold splice at hsp
    simp only [List.append_assoc] at hr hsp
    rw [hsp] at hr
    unfold Oper.wp execOp
    simp only [Wk,resolve,invoke,builtin,Sem.run_bind,Sem.run_pure,Result.andThen_ok,List.map_toArray,List.map_cons,List.map_nil,Zc hx,Zc hy,hr]
    refine hk2 _ _ _ (by rw [hcl];exact h) ?_
    unfold splice at ho'
    simp only [List.append_assoc] at ho'
    exact ho'⟩
end
open Go.RowKit
theorem Cd.elemB : ElemOk Tryz.prog 97 5 1 1 := .mk' (.int .u8 0) Tryz.underlying97 (by kernel_rfl) rfl (by omega)
abbrev rB (v:Value) (n:Nat) (b:List UInt8):Wp:=row v 5 1 n (Zb b)
def Wg (l:List UInt8):UInt64:=l.foldl (λ n x=>(n <<< 8) ||| x.toUInt64) 0
theorem get64_snoc (l:List UInt8) (x:UInt8):Wg (l++[x])=(Wg l <<< 8) ||| x.toUInt64:=by simp [Wg]
def be (n:UInt64):Nat->List UInt8
 | 0=>[]
 | k+1=>UInt8.ofNat (n.toNat/2^(8*k))::be n k
theorem Zd (n:UInt64) : ∀ k,(be n k).length=k
 | 0=>rfl
 | k+1=>by simp [be,Zd n k]
theorem Cd.get (B:Wn) (S:List Wp) (v:Value) (b:List UInt8) (hv:RdV B S v (Zb b)) (hb:b.length<2^48):Fn Tryz.prog B 87 #[v] S (λ u l=>u = .int .u64 (Wg b).toNat/\l=S):=by
 obtain ⟨a,c,rfl⟩:=hv.form (m:=b.length) (by simp)
 refine Wq 19 Tryz.func87 rfl rfl (nB rfl) (λ F=>?_)
 refine TS (La rfl (Ld (TS (La rfl (Ld (Ts (TS ?_)))))))
 iterate 3 refine Lz ?_
 refine Ld (yH ?_)
 refine zG (λ mz fz lz => ∃ (f0:Fr) (k:Nat) (s:UInt64),(k<=b.length/\s=Wg (b.take k))/\mz=b.length-k/\fz=(upd (upd (upd (upd f0 3 (.int .u64 s.toNat)) 6 (.slice a b.length c)) 7 (.int .i64 b.length)) 8 (.int .i64 k))/\lz=S++F) ?_ ?_
 . refine ⟨_,_,⟨_,0,0,⟨Nat.zero_le _,rfl⟩,rfl,(Za rfl (Za rfl (Za rfl (Za rfl rfl)))),rfl⟩,Sa⟩
 rintro mz fz lz ⟨f0,k,s,⟨hk,hs⟩,hmz,rfl,rfl⟩
 subst mz
 refine TS (Lq (yM rfl rfl) (Ld (Ts ?_)))
 refine yN rfl (λ hlt=>?_) (λ hlt=>?_)
 .
  obtain ⟨g,o,rfl,hc⟩:=hv.at (by omega)
  have hx:=(b[k]'(by omega)).toNat_lt
  refine Tk (Ts (yH (TS ?_)))
  refine Lz ?_
  refine Lq (zN (v := .int .u8 (b[k]'(by omega)).toNat) rfl (λ w ho=>by rw [hc k (by simp;omega) w ho.drop];simp [Zb])) (La rfl (Ld (TR (Lm rfl (Lq (ZU rfl rfl) (Lm rfl (Lq (yX rfl (wru64)) (Lq (ZY (b[k]'(by omega)).toUInt64 rfl rfl (by simp)) (La rfl (Ld (TR ?_)))))))))))
  iterate 2 refine Lz ?_
  refine Ld ?_
  refine ⟨_,?_,_,⟨_,k+1,_,⟨by omega,by rw [List.take_succ_eq_append_getElem (by omega),get64_snoc,<-hs]⟩,rfl,(Za rfl (Za rfl (Za rfl (Za rfl rfl)))),rfl⟩,Sa⟩
  omega
 have e:k=b.length:=by omega
 rw [e,List.take_length] at hs
 refine zB (TS (Lm rfl (La rfl (Ld (T.ret ?_)))))
 exact ⟨.inl rfl,_,_,res [_] rfl ⟨rvT rfl,trivial⟩,⟨by rw [hs];rfl,rfl⟩,Sa⟩
theorem Cd.put (B:Wn) (S:List Wp) (v:Value) (b:List UInt8) (m:Nat) (hm:b.length=m) (n:UInt64) (i:Int) (k:Nat) (hi:i=k) (hk:k<=8) (hv:RdV B S v (Zb b)) (hb:m<2^40):Fn Tryz.prog B 95 #[v,.int .u64 n.toNat,.int .i64 i] S (λ u l => ∃ p c,u = .slice p (m+k) c/\l=rB (.slice p (m+k) c) (m+k) (b++be n k)::S):=by
 subst hi
 subst hm
 obtain ⟨a,c,rfl⟩:=hv.form (m:=b.length) (by simp)
 refine Ws 29 Tryz.func95 rfl rfl (nB rfl) (λ F=>?_)
 refine TS (La rfl (Ld (TS ?_)))
 refine Le (Y8 Cd.elemB ?_)
 rintro g9
 refine Lm rfl ?_
 refine Le (Ea Cd.elemB rfl rfl (SrcOf.rd (m:=b.length) (hv.mono (λ w ho=>ho.tl.drop)) (by kernel_rfl) (by simp) Zu) (by unfold maxLen;omega) ?_)
 rintro p1 c1 hp1
 try simp only [cA,nA]
 simp only [Nat.zero_add,List.nil_append]
 refine La rfl (Ld (Ts (TS (Lm rfl (Lq (YP rfl rfl) (Lq (ZQ rfl rfl) ?_))))))
 iterate 2 refine Lz ?_
 refine Ld (yH ?_)
 refine zG (λ mz fz lz => ∃ (f0:Fr) (j:Nat) (z:Int) (acc:List UInt8) (m:Nat) (p:Option Addr) (c:Nat),(j<=k/\z=(j:Int)-1/\acc++be n j=b++be n k/\m+j=b.length+k)/\mz=j/\fz=(upd (upd (upd f0 1 (.int .u64 n.toNat)) 7 (.slice p m c)) 8 (.int .i64 z))/\lz=[rB (.slice p m c) m acc]++(S++F)) ?_ ?_
 . refine ⟨_,_,⟨_,k,_,b,b.length,p1,c1,⟨Nat.le_refl _,by omega,rfl,rfl⟩,rfl,(Za rfl (Za rfl (Za rfl rfl))),rfl⟩,Sa⟩
 rintro mz fz lz ⟨f0,j,z,acc,m,p,c,⟨hj,hz,hacc,hm⟩,hmz,rfl,rfl⟩
 subst mz
 try simp only [cA,nA]
 refine Ts (TS (Lm rfl (Lq (zX rfl rfl) (Ld ?_))))
 refine yN rfl (λ hlt=>?_) (λ hlt=>?_)
 .
  obtain ⟨q,rfl⟩ : ∃ q,j=q+1:=⟨j-1,by omega⟩
  refine Tk (Ts (yH (TR ?_)))
  iterate 4 refine Lz ?_
  refine Lq (ZV (8*q) rfl rfl (by omega) (by omega)) (Lq (yX rfl (wr8_nat _)) ?_)
  refine Le (zK [_] (e:=5) (sz:=1) ⟨.int .u8 0,by kernel_rfl,rfl⟩ rfl rfl rfl ?_)
  intro g26
  refine Le (Ea Cd.elemB rfl rfl (SrcOf.blk (by kernel_rfl) rfl (by simp [Value.oneCell'])) (by unfold maxLen;omega) ?_)
  rintro p2 c2 hp2
  rw [show Zb acc++[Value.int .u8 (UInt8.ofNat (n.toNat/2^(8*q))).toNat]=Zb (acc++[UInt8.ofNat (n.toNat/2^(8*q))]) by simp [Zb]]
  refine La rfl (Ld (TR ?_))
  iterate 3 refine Lz ?_
  refine Ld ?_
  refine ⟨_,?_,_,⟨_,q,_,acc++[UInt8.ofNat (n.toNat/2^(8*q))],m+1,p2,c2,⟨by omega,by omega,by rw [<-hacc];simp [be],by omega⟩,rfl,(Za rfl (Za rfl (Za rfl rfl))),rfl⟩,Sa⟩
  omega
 obtain rfl:j=0:=by omega
 obtain rfl:acc=b++be n k:=by simpa [be] using hacc
 obtain rfl:m=b.length+k:=by omega
 refine zB (TS (Lm rfl (La rfl (Ld (T.ret ?_)))))
 exact ⟨.inl rfl,_,_,res [_] rfl ⟨rvT rfl,trivial⟩,⟨_,_,rfl,rfl⟩,Sa⟩
theorem Cd.clone (B:Wn) (S:List Wp) (v:Value) (b:List UInt8) (m:Nat) (hm:b.length=m) (hv:RdV B S v (Zb b)) (hb:m<2^40):Fn Tryz.prog B 97 #[v] S (λ u l => ∃ p c,u = .slice p m c/\l=rB (.slice p m c) m b::S):=by
 subst hm
 obtain ⟨a,c,rfl⟩:=hv.form (m:=b.length) (by simp)
 refine Wq 8 Tryz.func97 rfl rfl (nB rfl) (λ F=>?_)
 refine TS (La rfl (Ld (Ts (TS (Lm rfl (Lq (YT rfl rfl) (Ld ?_)))))))
 refine Y9 rfl (λ h=>?_) (λ h=>?_)
 .
  have hb0:b=[]:=by rcases Nat.eq_zero_or_pos b.length with h0 | h0;exact List.eq_nil_of_length_eq_zero h0;obtain ⟨g,o,rfl,_⟩:=hv.at h0;cases h
  subst hb0
  refine T.conv (l':=rB (.slice none ([]:List UInt8).length 0) ([]:List UInt8).length []::(S++F)) (λ w ho=>ho.row_nil _ _) (TS (La rfl (Ld (T.ret ?_))))
  exact ⟨.inl rfl,_,_,res [_] rfl ⟨rvT rfl,trivial⟩,⟨none,0,rfl,rfl⟩,Sa⟩
 refine Tk (TS ?_)
 refine Le (Y8 Cd.elemB ?_)
 rintro g5
 refine Lm rfl ?_
 refine Le (Ea Cd.elemB rfl rfl (SrcOf.rd (m:=b.length) (hv.mono (λ w ho=>ho.tl.drop)) (by kernel_rfl) (by simp) Zu) (by unfold maxLen;omega) ?_)
 rintro p1 c1 hp1
 try simp only [cA,nA]
 simp only [Nat.zero_add,List.nil_append]
 refine La rfl (Ld (T.ret ?_))
 exact ⟨.inl rfl,_,_,res [_] rfl ⟨rvT rfl,trivial⟩,⟨_,_,rfl,rfl⟩,Sa⟩
theorem RdV.rB {B:Wn} {p:Option Addr} {m c:Nat} {b:List UInt8} (hm:b.length=m) (hp:0<m -> ∃ g,p=some ⟨g,0,none⟩):RdV B [rB (.slice p m c) m b] (.slice p m c) (Zb b) :=
 RdV.ofRow (e:=5) (λ _ ho=>ho.row_owns) (by simp [hm]) hp
theorem made_bytes (n:Nat):(madeCells (Value.int .u8 0).cells (n*1)).toList=Zb (List.replicate n 0):=by
 rw [show (Value.int .u8 0).cells=(List.replicate 1 (Value.int .u8 0)).toArray from rfl,made_replicate _ 1 _]
 unfold Zb
 rw [List.map_replicate,Nat.mul_one]
 rfl
open Go.RowKit
theorem RdV.take {B:Wn} {S:List Wp} {a:Option Addr} {m c:Nat} {cs:List Value} (h:RdV B S (.slice a m c) cs) (hi c':Nat) (hh:hi<=cs.length):RdV B S (.slice a hi c') (cs.take hi):=by
 have:=h.sub 0 hi c' (Nat.zero_le _) hh a (λ _ b o e=>by rw [e];rfl)
 simpa using this
theorem Tr.right (B:Wn) (S:List Wp) (a:Option Addr) (m c:Nat) (b:List UInt8) (hv:RdV B S (.slice a m c) (Zb b)) (hm:b.length=m) (hc:m<=c) (hb:m<2^48):Fn Tryz.prog B 145 #[.slice a m c,.int .u8 0] S (λ u l => ∃ m',u = .slice a m' c/\m'<=m/\(∀ i (h:i<b.length),m'<=i->b[i]=0)/\l=S):=by
 refine Wr 24 Tryz.func145 rfl rfl (nB rfl) (λ F=>?_)
 refine TS (La rfl (Ld (Ts (yH ?_))))
 refine zG (λ mz fz lz => ∃ (f0:Fr) (j:Nat),(j<=m /\ ∀ i (h:i<b.length),j<=i->b[i]=0)/\mz=j/\fz=(upd (upd f0 0 (.slice a j c)) 1 (.int .u8 0))/\lz=S++F) ?_ ?_
 . refine ⟨_,_,⟨_,m,⟨Nat.le_refl _,λ i h1 h2=>by omega⟩,rfl,(Za rfl (Za rfl rfl)),rfl⟩,Sa⟩
 rintro mz fz lz ⟨f0,j,⟨hj,hz⟩,hmz,rfl,rfl⟩
 subst mz
 refine Ts (TS ?_)
 iterate 4 refine Lz ?_
 refine zZ (t:=8) rfl (λ hlt=>?_) (λ hlt=>?_)
 .
  try replace hlt:=of_decide_eq_true hlt
  obtain ⟨g,o,rfl,hcell⟩:=hv.at (by omega)
  obtain ⟨q,rfl⟩ : ∃ q,j=q+1:=⟨j-1,by omega⟩
  iterate 4 refine Lz ?_
  refine Lq (Qi q (e:=5) (sz:=1) rfl rfl (by omega)) (Lq (zN (v := .int .u8 (b[q]'(by omega)).toNat) rfl (λ w ho=>by rw [hcell q (by simp;omega) w ho.drop];simp [Zb])) ?_)
  iterate 3 refine Lz ?_
  refine Ld ?_
  refine yN rfl (λ he=>?_) (λ he=>?_)
  .
   refine Tk (yH (TR ?_))
   iterate 4 refine Lz ?_
   refine Lq (Y6 q (e:=5) (sz:=1) rfl rfl (by omega)) (La rfl (Ld ?_))
   refine ⟨_,?_,_,⟨_,q,⟨by omega,λ i h1 h2=>by rcases Nat.eq_or_lt_of_le h2 with h3 | h3;subst h3;apply UInt8.toNat_inj.1;show _=0;omega;exact hz i h1 (by omega)⟩,rfl,(Za rfl (Za rfl rfl)),rfl⟩,Sa⟩
   omega
  refine zB (TS (Lm rfl (La rfl (Ld (T.ret ?_)))))
  exact ⟨.inl rfl,_,_,res [_] rfl ⟨rvT rfl,trivial⟩,⟨_,rfl,hj,hz,rfl⟩,Sa⟩
 try replace hlt:=of_decide_eq_false hlt
 iterate 9 refine Lz ?_
 refine Ld (yQ rfl (zB (TS (Lm rfl (La rfl (Ld (T.ret ?_)))))))
 exact ⟨.inl rfl,_,_,res [_] rfl ⟨rvT rfl,trivial⟩,⟨_,rfl,hj,hz,rfl⟩,Sa⟩
theorem Tr.left (B:Wn) (S:List Wp) (a:Option Addr) (m c:Nat) (b:List UInt8) (hv:RdV B S (.slice a m c) (Zb b)) (hm:b.length=m) (hc:m<=c) (hb:m<2^48):Fn Tryz.prog B 144 #[.slice a m c,.int .u8 0] S (λ u l => ∃ p' m' c',u = .slice p' m' c'/\(m'=0 ↔ ∀ x∈b,x=0)/\l=S):=by
 refine Wr 21 Tryz.func144 rfl rfl (nB rfl) (λ F=>?_)
 refine TS (La rfl (Ld (Ts (yH ?_))))
 refine zG (λ mz fz lz => ∃ (f0:Fr) (j k d:Nat) (p:Option Addr),(j<=m/\k=m-j/\d=c-j/\(∀ i (h:i<b.length),i<j->b[i]=0)/\(j<m -> ∀ g o,a=some ⟨g,o,none⟩->p=some ⟨g,o+j*1,none⟩))/\mz=k/\fz=(upd (upd f0 0 (.slice p k d)) 1 (.int .u8 0))/\lz=S++F) ?_ ?_
 . refine ⟨_,_,⟨_,0,m,c,a,⟨Nat.zero_le _,rfl,rfl,λ i h1 h2=>by omega,λ _ g o e=>by rw [e];simp⟩,rfl,(Za rfl (Za rfl rfl)),rfl⟩,Sa⟩
 rintro mz fz lz ⟨f0,j,k,d,p,⟨hj,hk,hd,hz,hp⟩,hmz,rfl,rfl⟩
 subst mz
 refine Ts (TS ?_)
 iterate 4 refine Lz ?_
 refine zZ (t:=8) rfl (λ hlt=>?_) (λ hlt=>?_)
 .
  try replace hlt:=of_decide_eq_true hlt
  obtain ⟨g,o,rfl,hcell⟩:=hv.at (by omega)
  obtain rfl:=hp (by omega) g o rfl
  refine Lm rfl (Lq (Qi 0 (e:=5) (sz:=1) rfl rfl rfl) (Lq (zN (v := .int .u8 (b[j]'(by omega)).toNat) rfl (λ w ho=>by simp only [Nat.zero_mul,Nat.add_zero];rw [hcell j (by simp;omega) w ho.drop];simp [Zb])) ?_))
  iterate 3 refine Lz ?_
  refine Ld ?_
  refine yN rfl (λ he=>?_) (λ he=>?_)
  .
   refine Tk (yH (TR (Lm rfl (Lq (zP 1 (e:=5) (sz:=1) rfl rfl rfl) (La rfl (Ld ?_))))))
   refine ⟨_,?_,_,⟨_,j+1,k-1,d-1,_,⟨by omega,by omega,by omega,λ i h1 h2=>by rcases Nat.eq_or_lt_of_le (Nat.le_of_lt_succ h2) with h3 | h3;subst h3;apply UInt8.toNat_inj.1;show _=0;omega;exact hz i h1 (by omega),λ h g' o' e=>by cases e;rw [offA_some];first | (simp;done) | (simp;omega)⟩,rfl,(Za rfl (Za rfl rfl)),rfl⟩,Sa⟩
   omega
  refine zB (Ts (TS ?_))
  iterate 3 refine Lz ?_
  refine Ld (yL rfl (Tk (TS (Lm rfl (La rfl (Ld (T.ret ?_)))))))
  exact ⟨.inl rfl,_,_,res [_] rfl ⟨rvT rfl,trivial⟩,⟨_,_,_,rfl,⟨λ h=>by omega,λ h=>by have:=h b[j] (List.getElem_mem _);rw [this] at he;exact absurd rfl he⟩,rfl⟩,Sa⟩
 try replace hlt:=of_decide_eq_false hlt
 iterate 6 refine Lz ?_
 refine Ld (yQ rfl (zB (Ts (TS ?_))))
 iterate 3 refine Lz ?_
 refine Ld (zM rfl (TS (La rfl (Ld (T.ret ?_)))))
 exact ⟨.inl rfl,_,_,res [_] rfl ⟨rvT rfl,trivial⟩,⟨_,_,_,rfl,⟨λ _ x hx=>by obtain ⟨i,hi,rfl⟩:=List.mem_iff_getElem.1 hx;exact hz i hi (by omega),λ _=>rfl⟩,rfl⟩,Sa⟩
theorem Tr.trim (B:Wn) (S:List Wp) (a:Option Addr) (m c:Nat) (b:List UInt8) (hv:RdV B S (.slice a m c) (Zb b)) (hm:b.length=m) (hc:m<=c) (hb:m<2^48):Fn Tryz.prog B 131 #[.slice a m c,.string (Zq [0])] S (λ u l => ∃ p' m' c',u = .slice p' m' c'/\(m'=0 ↔ ∀ x∈b,x=0)/\l=S):=by
 refine Wr 42 Tryz.func131 rfl rfl (nB rfl) (λ F=>?_)
 refine TS (La rfl (Ld (Ts (TS ?_))))
 iterate 3 refine Lz ?_
 refine Ld ?_
 refine yN rfl (λ h0=>?_) (λ h0=>?_)
 .
  refine TS (La rfl (Ld (T.ret ?_)))
  exact ⟨.inl rfl,_,_,res [_] rfl ⟨rvT rfl,trivial⟩,⟨_,_,_,rfl,⟨λ _ x hx=>(by obtain rfl:b=[]:=List.eq_nil_of_length_eq_zero (by omega);cases hx),λ _=>rfl⟩,rfl⟩,Sa⟩
 refine Tk (Ts (TS (Lm rfl (Lq (Z3 (b:=[]) rfl rfl) (Ld (yQ rfl (Tk (Ts (TS ?_)))))))))
 iterate 4 refine Lz ?_
 refine zQ (t:=16) rfl rfl (Lm rfl (Lq (YR 0 rfl rfl rfl (by first | omega | decide)) (Lq (yM rfl rfl) (Lq (Qp rfl rfl) (Ld (zF rfl (Ts (T.draw 7 ([]) (nB rfl) ?_))))))))
 refine Rz 0 ?_;refine Rz 1 ?_
 refine Rq 2 rfl Sa (YR 0 rfl rfl rfl (by first | omega | decide)) ?_
 refine Rz 4 ?_
 refine Rq 5 rfl Sa (YR 0 rfl rfl rfl (by first | omega | decide)) (yK 3 ?_)
 refine z6 rfl (Ec (Tr.right B S a m c b hv hm hc hb) Tryz.func145 rfl rfl rfl ?_)
 rintro _ S ⟨m1,rfl,hm1,hz1,rfl⟩
 refine ⟨Sa,?_⟩
 refine yK 6 ?_
 refine zY rfl (Ec (Tr.left B S a m1 c (b.take m1) (by have:=hv.take m1 c (by simp;omega);rwa [show (Zb b).take m1=Zb (b.take m1) by simp [Zb]] at this) (by simp;omega) (by omega) (by omega)) Tryz.func144 rfl rfl rfl ?_)
 rintro _ S ⟨p2,m2,c2,rfl,hz2,rfl⟩
 refine Rd0 (by rfl) ?_
 simp only [dS,dZ,dN]
 refine La rfl (Ld (T.ret ?_))
 exact ⟨.inl rfl,_,_,res [_] rfl ⟨rvT rfl,trivial⟩,⟨_,_,_,rfl,hz2.trans ⟨λ h x hx=>by obtain ⟨i,hi,rfl⟩:=List.mem_iff_getElem.1 hx;by_cases hi2:i<m1;exact h _ (List.mem_iff_getElem.2 ⟨i,by simp;omega,by simp⟩);exact hz1 i hi (by omega),λ h x hx=>h x (List.mem_of_mem_take hx)⟩,rfl⟩,Sa⟩
open Go.RowKit
structure Rec where
 p:Option Addr
 c:Nat
 b:List UInt8
abbrev recV (r:Rec):Value := .slice r.p r.b.length r.c
def recA (r:Rec):Wp:=rB (.slice r.p r.b.length r.c) r.b.length r.b
def recsA (R:List Rec):Wp:=sepL (R.map recA)
def ZO (recs:List (List UInt8)):Nat:=(recs.map λ b=>b.length+1).sum
structure PgOk (recs:List (List UInt8)):Prop where
 used:ZO recs<=243
 len : ∀ b∈recs,b.length<=200
abbrev pgB (g:Nat) (p:Option Addr) (n c:Nat) (mark:Int):Wp:=blk g [.slice p n c,.int .i64 mark] 225
abbrev pgR (p:Option Addr) (n c:Nat) (R:List Rec):Wp:=row (.slice p n c) 97 1 n (R.map recV)
def pgA (g:Nat) (recs:List (List UInt8)) (mark:Int):Wp:=λ h => ∃ p c R,R.map Rec.b=recs/\PgOk recs/\Has [pgB g p R.length c mark,pgR p R.length c R,recsA R] h
section
variable {P : Program} {B:Wn} {n:Nat} {l r F:List Wp} {f:Fr} {Φ:Post} {c:Code} {w:World}
theorem Own.openPg {g:Nat} {recs:List (List UInt8)} {mark:Int} (H:Own B w (pgA g recs mark::l)) : ∃ p c R,R.map Rec.b=recs/\PgOk recs/\Own B w (pgB g p R.length c mark::pgR p R.length c R::recsA R::l):=by
 obtain ⟨h,hd,hl,h1,h2,d,a1,a2,⟨p,c,R,e1,e2,e3⟩,H2⟩:=H.has
 exact ⟨p,c,R,e1,e2,H.os,H.tape,H.output,H.ro,h,hd,hl,Has.join d a1 a2 e3 H2⟩
theorem Own.pgNew {g:Nat} {mark:Int} (H:Own B w (blk g [.slice none 0 0,.int .i64 mark] 225::l)):Own B w (pgA g [] mark::l):=H.map λ h ⟨h1,h2,d,a1,a2,k1,k2⟩=>by
 refine ⟨h1,h2,d,a1,a2,⟨none,0,[],rfl,⟨by simp [ZO],by simp⟩,h1,λ _=>none,⟨λ _ => .inr rfl⟩,Piece.le_refl _,⟨λ _ _ e=>by cases e⟩,k1,?_⟩,k2⟩
 exact ⟨λ _=>none,λ _=>none,⟨λ _ => .inl rfl⟩,Piece.le_refl _,Piece.le_refl _,⟨by simp,.inl ⟨rfl,rfl⟩⟩,λ _=>none,λ _=>none,⟨λ _ => .inl rfl⟩,Piece.le_refl _,Piece.le_refl _,trivial,trivial⟩
theorem Has.getL : ∀ {l:List Wp} {j:Nat} {A:Wp} {h:Piece},l[j]? = some A->Has l h -> ∃ k:Piece,Piece.le k h/\A k
 | [],_,_,_,e,_=>by cases e
 | A::l,0,A',h,e,⟨h1,_,_,a,_,hA,_⟩=>by simp at e;subst e;exact ⟨h1,a,hA⟩
 | A::l,j+1,A',h,e,⟨_,h2,_,_,b,_,hl⟩=>by
  obtain ⟨k,hk,hA⟩:=Has.getL (by simpa using e) hl
  exact ⟨k,hk.le_trans b,hA⟩
def RecOk (R:List Rec):Prop := ∀ j (h:j<R.length),0<R[j].b.length -> ∃ g,R[j].p=some ⟨g,0,none⟩
theorem Own.rec_owns {R:List Rec} (ho:Own B w (recsA R::l)) (j:Nat) (hj:j<R.length):w.ownsRow 0 5 1 (.slice R[j].p R[j].b.length R[j].c) R[j].b.length (Zb R[j].b):=by
 obtain ⟨h,_,hl,h1,_,_,a1,_,hA,_⟩:=ho.has
 obtain ⟨k,hk,e⟩:=Has.getL (l:=R.map recA) (j:=j) (A:=recA R[j]) (by simp [hj]) hA
 have le : ∀ g o,k g=some o->w.heap[g]? = some o:=λ g o e=>hl.p _ _ (a1.p _ _ (hk.p _ _ e))
 exact ⟨e.1,e.2.imp id λ ⟨g,cap,cur,e1,e2,e3⟩=>⟨g,cap,cur,e1,Nat.zero_le _,le _ _ e2,e3⟩⟩
theorem Own.recOk {R:List Rec} (ho:Own B w (recsA R::l)):RecOk R:=λ j hj h0=>by
 rcases (ho.rec_owns j hj).2 with ⟨_,h2⟩ | ⟨g,cap,cur,h2,_⟩
 . omega
 . injection h2 with h2;exact ⟨g,h2⟩
theorem RdV.rec {R:List Rec} (hR:RecOk R) {j:Nat} (hj:j<R.length):RdV B [recsA R] (recV R[j]) (Zb R[j].b) :=
 RdV.ofRow (e:=5) (λ _ ho=>ho.rec_owns j hj) (by simp) (hR j hj)
theorem Y3 (g:Nat) (recs:List (List UInt8)) (mark:Int) [k:TakeA (pgA g recs mark) l r] (h : ∀ p cc R,R.map Rec.b=recs->PgOk recs->RecOk R->R.length<=243->(0<R.length -> ∃ g,p=some ⟨g,0,none⟩)->T P B n c Φ f (pgB g p R.length cc mark::pgR p R.length cc R::recsA R::r)):T P B n c Φ f l:=⟨λ Q w hf ho=>by
 obtain ⟨p,cc,R,e1,e2,e3⟩:=(ho.take (k:=k)).openPg
 refine (h p cc R e1 e2 (e3.tl.tl.recOk) ?_ (e3.tl.slice_at (p:=p) (m:=R.length) (c:=cc)).2.1).run Q w hf e3
 have h1:=e2.used
 have h2 : ∀ l:List (List UInt8),l.length<=ZO l:=λ l=>by
  induction l with
  | nil=>simp [ZO]
  | cons a l ih=>simp [ZO] at ih ⊢;omega
 have:=h2 recs
 rw [<-e1] at this h1
 simp at this
 rw [e1] at h1 this
 omega⟩
theorem Sub.pg (g:Nat) (p:Option Addr) (cc:Nat) (R:List Rec) (mark:Int) (hR:PgOk (R.map Rec.b)) {m:List Wp} [k:TakeL [pgB g p R.length cc mark,pgR p R.length cc R,recsA R] l r] [t:SubC (pgA g (R.map Rec.b) mark::r) m]:Sub l m:=λ h H=>by
 obtain ⟨h1,h2,d,a1,a2,k1,k2⟩:=Has.split (k.take h H)
 exact t.sub h ⟨h1,h2,d,a1,a2,⟨p,cc,R,rfl,hR,k1⟩,k2⟩
theorem Has.two {A1 A2:Wp} {h:Piece} (H:Has (A1::A2::l) h):Has (sepL [A1,A2]::l) h:=Has.close_sepL (l:=[A1,A2]) H
theorem recsA_snoc {R:List Rec} {r:Rec} {h:Piece} (H:Has (recsA R::recA r::l) h):Has (recsA (R++[r])::l) h:=by
 have h1:Has ((R.map recA++[recA r])++l) h:=by
  rw [List.append_assoc]
  exact Has.open_sepL H
 have h2:=Has.close_sepL h1
 unfold recsA
 rw [List.map_append]
 exact h2
theorem Sub.pgAdd (g:Nat) (p:Option Addr) (n cc:Nat) (R:List Rec) (rp:Option Addr) (rc:Nat) (rb:List UInt8) (mark:Int) (hn:n=R.length+1) (recs:List (List UInt8)) (he:(R++[Rec.mk rp rc rb]).map Rec.b=recs) (hR:PgOk recs) {m:List Wp} [k:TakeL [pgB g p n cc mark,pgR p n cc (R++[Rec.mk rp rc rb]),recsA R,rB (.slice rp rb.length rc) rb.length rb] l r] [t:SubC (pgA g recs mark::r) m]:Sub l m:=λ h H=>by
 subst hn
 have e:R.length+1=(R++[(⟨rp,rc,rb⟩:Rec)]).length:=by simp
 have H1:=k.take h H
 obtain ⟨h1,h2,d,a1,a2,k1,k2⟩:=Has.split H1
 rw [e] at k1
 refine t.sub h ⟨h1,h2,d,a1,a2,⟨p,cc,R++[⟨rp,rc,rb⟩],he,hR,?_⟩,k2⟩
 exact Wt (λ _ k=>Wt (λ _ k=>recsA_snoc (l:=[]) k) k) k1
end
theorem Pg.new (B:Wn):Fn Tryz.prog B 46 #[] [] (λ v l => ∃ g,v = .pointer (some ⟨g,0,none⟩)/\l=[pgA g [] 0]):=by
 refine Fn.enter0 3 Tryz.func46 rfl rfl (nB rfl) (λ F=>?_)
 try simp only [cA,nA]
 refine TS (La rfl (Ld (TS (Lq (z8 [(0,1),(1,1)] [.slice none 0 0,.int .i64 0] [_,_] [] (by unfold Zf;kernel_rfl) rfl rfl) ?_))))
 refine Le (zL [_,_] rfl rfl ?_)
 intro g2
 refine La rfl (Ld (T.conv (λ w ho=>ho.pgNew) (T.ret ?_)))
 exact ⟨.inl rfl,_,_,res [_] rfl ⟨rvT rfl,trivial⟩,⟨_,rfl,rfl⟩,Sa⟩
theorem Pg.count (B:Wn) (g:Nat) (recs:List (List UInt8)) (mark:Int):Fn Tryz.prog B 54 #[.pointer (some ⟨g,0,none⟩)] [pgA g recs mark] (λ v l=>v = .int .i64 recs.length/\l=[pgA g recs mark]):=by
 refine Wq 8 Tryz.func54 rfl rfl (nB rfl) (λ F=>?_)
 try simp only [cA,nA]
 refine Y3 g recs mark (λ p c R hR hok hro hlen hp=>?_)
 subst hR
 refine TS (La rfl (Ld (TS ?_)))
 iterate 6 refine Lz ?_
 refine Ld (T.ret ?_)
 exact ⟨.inl rfl,_,_,res [_] rfl ⟨rvT rfl,trivial⟩,⟨by simp;rfl,rfl⟩,Sub.pg g p c R mark hok⟩
theorem Pg.setMark (B:Wn) (g:Nat) (recs:List (List UInt8)) (mark m:Int):Fn Tryz.prog B 108 #[.pointer (some ⟨g,0,none⟩),.int .i64 m] [pgA g recs mark] (λ v l=>v = .tuple #[]/\l=[pgA g recs m]):=by
 refine Wr 8 Tryz.func108 rfl rfl (nB rfl) (λ F=>?_)
 try simp only [cA,nA]
 refine Y3 g recs mark (λ p c R hR hok hro hlen hp=>?_)
 subst hR
 refine TR ?_
 iterate 4 refine Lz ?_
 refine L0 (E1 (by kernel_rfl) rfl rfl rfl (by first | (simp;done) | (simp;omega)) ?_)
 try simp only [List.set_cons_zero,List.set_cons_succ]
 refine Ld ?_
 exact ⟨.inr rfl,_,_,res [] rfl trivial,⟨rfl,rfl⟩,Sub.pg g p c R m hok⟩
theorem Pg.has (B:Wn) (g:Nat) (recs:List (List UInt8)) (mark i:Int):Fn Tryz.prog B 109 #[.pointer (some ⟨g,0,none⟩),.int .i64 i] [pgA g recs mark] (λ v l=>v = .bool (decide (0<=i/\i<(recs.length:Int)))/\l=[pgA g recs mark]):=by
 refine Wr 16 Tryz.func109 rfl rfl (nB rfl) (λ F=>?_)
 try simp only [cA,nA]
 refine Y3 g recs mark (λ p c R hR hok hro hlen hp=>?_)
 subst hR
 refine TS (La rfl (Ld (TS ?_)))
 iterate 3 refine Lz ?_
 refine zZ (t:=7) rfl (λ h=>?_) (λ h=>?_)
 .
  try replace h:=of_decide_eq_true h
  iterate 9 refine Lz ?_
  refine Ld (T.ret ?_)
  exact ⟨.inl rfl,_,_,res [_] rfl ⟨rvT rfl,trivial⟩,⟨by simp [h,outV],rfl⟩,Sub.pg g p c R mark hok⟩
 try replace h:=of_decide_eq_false h
 iterate 9 refine Lz ?_
 refine Ld (T.ret ?_)
 exact ⟨.inl rfl,_,_,res [_] rfl ⟨rvT rfl,trivial⟩,⟨by simp [h,outV],rfl⟩,Sub.pg g p c R mark hok⟩
theorem usedR_append (a b:List (List UInt8)):ZO (a++b)=ZO a+ZO b:=by simp [ZO]
theorem usedR_take (l:List (List UInt8)) (k:Nat):ZO (l.take k)<=ZO l:=by
 have:=usedR_append (l.take k) (l.drop k)
 rw [List.take_append_drop] at this
 omega
theorem Pg.left (B:Wn) (g:Nat) (recs:List (List UInt8)) (mark:Int):Fn Tryz.prog B 78 #[.pointer (some ⟨g,0,none⟩)] [pgA g recs mark] (λ v l=>v = .int .i64 (243-(ZO recs:Int))/\l=[pgA g recs mark]):=by
 refine Wq 22 Tryz.func78 rfl rfl (nB rfl) (λ F=>?_)
 try simp only [cA,nA]
 refine Y3 g recs mark (λ p c R hR hok hro hlen hp=>?_)
 subst hR
 have hu : ∀ k,ZO ((R.map Rec.b).take k)<=243:=λ k=>Nat.le_trans (usedR_take _ k) hok.used
 refine TS (La rfl (Ld (TS (La rfl (Ld (Ts (TS ?_)))))))
 iterate 6 refine Lz ?_
 refine Ld (yH ?_)
 refine zG (λ mz fz lz => ∃ (f0:Fr) (k:Nat) (z:Int),(k<=R.length/\z=243-(ZO ((R.map Rec.b).take k):Int))/\mz=R.length-k/\fz=(upd (upd (upd (upd f0 3 (.int .i64 z)) 9 (.slice p R.length c)) 10 (.int .i64 R.length)) 11 (.int .i64 k))/\lz=[pgB g p R.length c mark,pgR p R.length c R,recsA R]++F) ?_ ?_
 . refine ⟨_,_,⟨_,0,_,⟨Nat.zero_le _,by simp [ZO]⟩,rfl,(Za rfl (Za rfl (Za rfl (Za rfl rfl)))),rfl⟩,Sa⟩
 rintro mz fz lz ⟨f0,k,z,⟨hk,hz⟩,hmz,rfl,rfl⟩
 subst mz
 try simp only [cA,nA]
 refine TS (Lq (yM rfl rfl) (Ld (Ts ?_)))
 refine yN rfl (λ hlt=>?_) (λ hlt=>?_)
 .
  obtain ⟨gp,rfl⟩:=hp (by omega)
  have hrec:=hok.len (R[k]'(by omega)).b (List.mem_map_of_mem (List.getElem_mem _))
  have huk:=hu k
  refine Tk (Ts (yH (TS ?_)))
  refine Lz ?_
  refine Lq (Ql rfl (map_at _ _ _ (by omega))) (La rfl (Ld (TR ?_)))
  iterate 6 refine Lz ?_
  refine Ld (TR ?_)
  iterate 2 refine Lz ?_
  refine Ld ?_
  refine ⟨_,?_,_,⟨_,k+1,_,⟨by omega,by rw [hz,List.take_succ_eq_append_getElem (by simp;omega)];simp [ZO];omega⟩,rfl,(Za rfl (Za rfl (Za rfl (Za rfl rfl)))),rfl⟩,Sa⟩
  omega
 have e:k=R.length:=by omega
 subst e
 rw [List.take_of_length_le (by simp)] at hz
 refine zB (TS (Lm rfl (La rfl (Ld (T.ret ?_)))))
 exact ⟨.inl rfl,_,_,res [_] rfl ⟨rvT rfl,trivial⟩,⟨by rw [hz];rfl,rfl⟩,Sub.pg g p c R mark hok⟩
open Go.RowKit
theorem Pg.elemP : ElemOk Tryz.prog 127 97 1 24 := .mk' (.slice none 0 0) Tryz.underlying127 (by kernel_rfl) rfl (by omega)
def roomR (recs:List (List UInt8)):Nat:=min (242-ZO recs) 200
theorem Pg.room (B:Wn) (g:Nat) (recs:List (List UInt8)) (mark:Int) (hu:ZO recs<=243):Fn Tryz.prog B 84 #[.pointer (some ⟨g,0,none⟩)] [pgA g recs mark] (λ v l=>v = .int .i64 (roomR recs)/\l=[pgA g recs mark]):=by
 refine Wq 8 Tryz.func84 rfl rfl (nB rfl) (λ F=>?_)
 try simp only [cA,nA]
 refine TS (La rfl (Ld (TS (Lm rfl ?_))))
 refine Le (Ec (Pg.left B g recs mark) Tryz.func78 rfl rfl rfl ?_)
 rintro _ _ ⟨rfl,rfl⟩
 try simp only [cA,nA]
 refine Lq (Qt.sub rfl rfl (Ze)) (Lq (YP rfl rfl) (Lq (ZQ rfl rfl) (La rfl (Ld (T.ret ?_)))))
 exact ⟨.inl rfl,_,_,res [_] rfl ⟨rvT rfl,trivial⟩,⟨by show Value.int _ _=_;congr 1;unfold roomR;omega,rfl⟩,Sa⟩
theorem Pg.get_no (B:Wn) (g:Nat) (recs:List (List UInt8)) (mark i:Int) (h : ¬ (0<=i/\i<(recs.length:Int))):Fn Tryz.prog B 55 #[.pointer (some ⟨g,0,none⟩),.int .i64 i] [pgA g recs mark] (λ v l=>v = .tuple #[.slice none 0 0,.int .i64 4]/\l=[pgA g recs mark]):=by
 refine Wr 18 Tryz.func55 rfl rfl (nB rfl) (λ F=>?_)
 try simp only [cA,nA]
 refine TS (La rfl (La rfl (Ld (Ts (TS (Lm rfl (Lm rfl ?_)))))))
 refine Le (Ec (Pg.has B g recs mark i) Tryz.func109 rfl rfl rfl ?_)
 rintro _ _ ⟨rfl,rfl⟩
 try simp only [cA,nA]
 refine Lq (YS rfl) (Ld (zM rfl (hp:=(h)) (TS (La rfl (La rfl (Ld (T.ret ?_)))))))
 exact ⟨.inl rfl,_,_,res [_,_] rfl ⟨rvT rfl,rvT rfl,trivial⟩,⟨rfl,rfl⟩,Sa⟩
theorem Pg.get (B:Wn) (g:Nat) (recs:List (List UInt8)) (mark i:Int) (j:Nat) (hi:i=j) (hj:j<recs.length):Fn Tryz.prog B 55 #[.pointer (some ⟨g,0,none⟩),.int .i64 i] [pgA g recs mark] (λ v l => ∃ p c,v = .tuple #[.slice p recs[j].length c,.int .i64 0]/\l=[rB (.slice p recs[j].length c) recs[j].length recs[j],pgA g recs mark]):=by
 subst hi
 refine Wr 18 Tryz.func55 rfl rfl (nB rfl) (λ F=>?_)
 try simp only [cA,nA]
 refine TS (La rfl (La rfl (Ld (Ts (TS (Lm rfl (Lm rfl ?_)))))))
 refine Le (Ec (Pg.has B g recs mark j) Tryz.func109 rfl rfl rfl ?_)
 rintro _ _ ⟨rfl,rfl⟩
 try simp only [cA,nA]
 refine Lq (YS rfl) (Ld (yL rfl (hp:=((by omega))) ?_))
 refine Y3 g recs mark (λ p c R hR hok hro hlen hp=>?_)
 subst hR
 have hj2:j<R.length:=by simpa using hj
 obtain ⟨gp,rfl⟩:=hp (by omega)
 have hl:=hok.len (R[j]).b (List.mem_map_of_mem (List.getElem_mem _))
 refine Tk (TS ?_)
 iterate 6 refine Lz ?_
 refine Lq (Ql rfl (map_at _ _ _ (by omega))) ?_
 refine Le (Ec (Cd.clone B [recsA R] (recV R[j]) R[j].b R[j].b.length rfl (RdV.rec hro hj2) (by omega)) Tryz.func97 rfl rfl rfl ?_)
 rintro _ _ ⟨p1,c1,rfl,rfl⟩
 try simp only [cA,nA]
 refine La rfl (La rfl (Ld ?_))
 have e:(R.map Rec.b)[j]=R[j].b:=by simp
 refine T.ret ?_
 exact ⟨.inl rfl,_,_,res [_,_] rfl ⟨rvT rfl,rvT rfl,trivial⟩,⟨p1,c1,by rw [e];rfl,by rw [e]⟩,Sub.pg g (some ⟨gp,0,none⟩) c R mark hok⟩
theorem Pg.add (B:Wn) (S:List Wp) (g:Nat) (recs:List (List UInt8)) (mark:Int) (a:Option Addr) (m c:Nat) (b:List UInt8) (hv:RdV B S (.slice a m c) (Zb b)) (hm:b.length=m) (h:m<=200) (hf:ZO recs+m+1<=243):Fn Tryz.prog B 134 #[.pointer (some ⟨g,0,none⟩),.slice a m c] (pgA g recs mark::S) (λ v l=>v = .tuple #[.int .i64 recs.length,.int .i64 0]/\l=pgA g (recs++[b]) mark::S):=by
 refine Wr 34 Tryz.func134 rfl rfl (nB rfl) (λ F=>?_)
 try simp only [cA,nA]
 refine TS (La rfl (La rfl (Ld (Ts (yH (TS ?_))))))
 iterate 4 refine Lz ?_
 refine Ld (yL rfl (TS ?_))
 iterate 4 refine Lz ?_
 refine Le (Ec (Pg.left B g recs mark) Tryz.func78 rfl rfl rfl ?_)
 rintro _ _ ⟨rfl,rfl⟩
 try simp only [cA,nA]
 refine Lq (yZ rfl rfl) (La rfl (Ld (yL rfl ?_)))
 refine Y3 g recs mark (λ p c R hR hok hro hlen hp=>?_)
 subst hR
 refine Tk (Ts (zW 9 none (nB rfl) ?_))
 refine Rz 0 ?_;refine Rz 1 ?_;refine Rz 2 ?_;refine Rz 3 ?_;refine Rz 4 ?_;refine Rz 5 ?_
 refine yK 6 ?_
 refine z6 rfl (Y7 (Cd.clone B _ _ b m hm (hv.mono (λ w ho=>ho.map Sa)) (by omega)) Tryz.func97 rfl rfl rfl ?_)
 rintro _ _ ⟨p1,c1,rfl,rfl⟩
 refine ⟨Sa,?_⟩
 refine yK 7 ?_
 refine z6 rfl (zK [_] (e:=97) (sz:=1) ⟨.slice none 0 0,by kernel_rfl,rfl⟩ rfl rfl rfl ?_)
 intro g24
 refine ⟨Sa,?_⟩
 refine yK 8 ?_
 refine zY rfl (Ea Pg.elemP rfl rfl (SrcOf.blk (by kernel_rfl) rfl (by simp [Value.oneCell'])) (by unfold maxLen;omega) ?_)
 rintro p2 c2 hp2
 subst hm
 rw [show [Value.slice p1 b.length c1]=[recV ⟨p1,c1,b⟩] from rfl,map_snoc recV]
 refine Rd0 (by rfl) ?_
 simp only [dS,dZ,dN]
 iterate 2 refine Lz ?_
 refine L0 (E1 (by kernel_rfl) rfl rfl rfl (by first | (simp;done) | (simp;omega)) ?_)
 try simp only [List.set_cons_zero,List.set_cons_succ]
 refine Ld (TS ?_)
 iterate 8 refine Lz ?_
 refine Ld (T.ret ?_)
 exact ⟨.inl rfl,_,_,res [_,_] rfl ⟨rvT rfl,rvT rfl,trivial⟩,⟨by simp [outV],rfl⟩,Sub.pgAdd g p2 (R.length+1) c2 R p1 c1 b mark rfl (R.map Rec.b++[b]) (by simp) ⟨(by rw [usedR_append];have:ZO [b]=b.length+1:=(by simp [ZO]);omega),(by intro x hx;rcases List.mem_append.1 hx with h | h;exact hok.len x h;simp at h;subst h;omega)⟩⟩
open Go.RowKit
def recBytes (recs:List (List UInt8)):List UInt8:=recs.flatMap λ b=>UInt8.ofNat b.length::b
theorem length_recBytes (recs:List (List UInt8)):(recBytes recs).length=ZO recs:=by
 induction recs with
 | nil=>rfl
 | cons b l ih=>simp [recBytes,ZO] at ih ⊢;omega
theorem recBytes_snoc (l:List (List UInt8)) (b:List UInt8):recBytes (l++[b])=recBytes l++(UInt8.ofNat b.length::b):=by simp [recBytes]
def pgHead (n:Nat) (mark:Int):List UInt8:=be (UInt64.ofInt mark) 8++[UInt8.ofNat n]
def pgBody (recs:List (List UInt8)) (mark:Int):List UInt8:=pgHead recs.length mark++recBytes recs++List.replicate (243-ZO recs) 0
def sumN (l:List UInt8):UInt64:=(crc l).toUInt64
def Zx (recs:List (List UInt8)) (mark:Int):List UInt8:=be (sumN (pgBody recs mark)) 4++pgBody recs mark
theorem length_pgHead (n:Nat) (mark:Int):(pgHead n mark).length=9:=by simp [pgHead,Zd]
theorem length_pgBody {recs:List (List UInt8)} {mark:Int} (h:ZO recs<=243):(pgBody recs mark).length=252:=by
 simp [pgBody,length_pgHead,length_recBytes];omega
theorem length_pgBytes {recs:List (List UInt8)} {mark:Int} (h:ZO recs<=243):(Zx recs mark).length=256:=by
 simp [Zx,Zd,length_pgBody h]
theorem sumN_nat (l:List UInt8):IntKind.u64.wrap ((crc l).toNat:Int)=((sumN l).toNat:Int):=by
 rw [wru64 (h1:=(by have:=(crc l).toNat_lt;omega)),sumN,UInt32.toNat_toUInt64]
theorem Zt (a b:List UInt8):Zb (a++b)=Zb a++Zb b:=by simp [Zb]
theorem bytesV_one (x:UInt8):[Value.int .u8 (x.toNat:Int)]=Zb [x]:=rfl
theorem bytesV_zero (n:Nat):List.replicate n (Value.int .u8 0)=Zb (List.replicate n 0):=by simp [Zb]
theorem PartsV.one {B:Wn} {L:List Wp} {g:Nat} {v:Value} {b:List UInt8} (h:RdV B L v (Zb b)) [k:Rd B g L [v]]:PartsV B L (.slice (some ⟨g,0,none⟩) 1 1) [b]:=by
 refine ⟨[v],⟨_,1,rfl,.inr ⟨g,0,rfl,λ w ho=>ho.range (g:=g) (C:=[v]) (λ j u hj=>by rw [Nat.zero_add];exact hj)⟩⟩,rfl,λ i h1 h2=>?_⟩
 obtain rfl:i=0:=by simp at h1;omega
 exact h
theorem rdv_tail4 {B:Wn} {L:List Wp} {g5 c5:Nat} {body:List UInt8} (hb:body.length=252) (hc:256<=c5) (hs:Sub L [rB (.slice (some ⟨g5,0,none⟩) 256 c5) 256 (List.replicate 4 0++body)]):RdV B L (.slice (offA (some ⟨g5,0,none⟩) c5 4 1) (256-4) (c5-4)) (Zb body):=by
 have h1:RdV B L (.slice (some ⟨g5,0,none⟩) 256 c5) (Zb (List.replicate 4 0++body)):=(RdV.rB (by simp [hb]) (λ _=>⟨_,rfl⟩)).mono (λ w ho=>ho.map hs)
 have h2:=h1.sub 4 256 (c5-4) (by omega) (by simp [hb]) (offA (some ⟨g5,0,none⟩) c5 4 1) (λ _ b o e=>by cases e;rw [offA_some])
 have e:((Zb (List.replicate 4 0++body)).take 256).drop 4=Zb body:=by
  rw [List.take_of_length_le (by simp [hb]),Zt,List.drop_append_of_le_length (by simp),List.drop_of_length_le (by simp)]
  simp
 rwa [e] at h2
theorem splice_head (body:List UInt8) (x:List UInt8) (hx:x.length=4):splice (Zb (List.replicate 4 0++body)) 0 (Zb x)=Zb (x++body):=by
 unfold splice
 rw [Zt,Zt,Nat.zero_add,Wd,hx,List.drop_append_of_le_length (by simp),List.drop_of_length_le (by simp)]
 simp
theorem Pg.bytes (B:Wn) (g:Nat) (recs:List (List UInt8)) (mark:Int):Fn Tryz.prog B 47 #[.pointer (some ⟨g,0,none⟩)] [pgA g recs mark] (λ v l => ∃ p c,v = .slice p 256 c/\l=[rB (.slice p 256 c) 256 (Zx recs mark),pgA g recs mark]):=by
 refine Wq 54 Tryz.func47 rfl rfl (nB rfl) (λ F=>?_)
 try simp only [cA,nA]
 refine Y3 g recs mark (λ p c R hR hok hro hlen hp=>?_)
 subst hR
 refine TS (La rfl (Ld (Ts (zW 7 none (nB rfl) ?_))))
 refine Rz 1 ?_;refine Rz 2 ?_;refine Rz 3 ?_;refine Rz 4 ?_
 refine Rq 5 rfl Sa (yX rfl (wru64_i64 _)) (yK 0 ?_)
 refine z6 rfl (YK 4 (.int .u8 0) 1 Cd.elemB rfl rfl rfl rfl (by unfold maxLen;omega) ?_)
 rintro g6
 rw [made_bytes]
 refine ⟨Sa,?_⟩
 refine yK 6 ?_
 refine zY rfl (Ec (Cd.put B [rB (.slice (some ⟨g6,0,none⟩) 4 4) 4 (List.replicate 4 0)] _ (List.replicate 4 0) 4 rfl (UInt64.ofInt mark) _ 8 rfl (by omega) (RdV.rB rfl (λ _=>⟨_,rfl⟩)) (by omega)) Tryz.func95 rfl rfl rfl ?_)
 rintro _ _ ⟨p1,c1,rfl,rfl⟩
 try simp only [cA,nA]
 refine Rd0 (by rfl) ?_
 simp only [dS,dZ,dN]
 refine La rfl (Ld (TS ?_))
 iterate 6 refine Lz ?_
 refine Lq (yX rfl (wr8_nat _)) ?_
 refine Le (zK [_] (e:=5) (sz:=1) ⟨.int .u8 0,by kernel_rfl,rfl⟩ rfl rfl rfl ?_)
 intro g20
 refine Le (Ea Cd.elemB rfl rfl (SrcOf.blk (by kernel_rfl) rfl (by simp [Value.oneCell'])) (by unfold maxLen;omega) ?_)
 rintro p2 c2 hp2
 rw [bytesV_one,<-Zt,List.append_assoc]
 rw [show be (UInt64.ofInt mark) 8++[UInt8.ofNat R.length]=pgHead R.length mark from rfl]
 refine La rfl (Ld (Ts (TS ?_)))
 iterate 6 refine Lz ?_
 refine Ld (yH ?_)
 refine zG (λ mz fz lz => ∃ (f0:Fr) (k m:Nat) (acc:List UInt8) (q:Option Addr) (d:Nat),(k<=R.length/\acc=List.replicate 4 0++pgHead R.length mark++recBytes ((R.map Rec.b).take k)/\m=acc.length/\13<=m)/\mz=R.length-k/\fz=(upd (upd (upd (upd f0 3 (.slice q m d)) 25 (.slice p R.length c)) 26 (.int .i64 R.length)) 27 (.int .i64 k))/\lz=[rB (.slice q m d) m acc,pgB g p R.length c mark,pgR p R.length c R,recsA R]++F) ?_ ?_
 . refine ⟨_,_,⟨_,0,13,List.replicate 4 0++pgHead R.length mark,p2,c2,⟨Nat.zero_le _,by simp [recBytes],by simp [length_pgHead],by omega⟩,rfl,(Za rfl (Za rfl (Za rfl (Za rfl rfl)))),rfl⟩,Sa⟩
 rintro mz fz lz ⟨f0,k,m,acc,q,d,⟨hk,hacc,hm,hm13⟩,hmz,rfl,rfl⟩
 subst mz
 try simp only [cA,nA]
 have hml:m=13+ZO ((R.map Rec.b).take k):=by rw [hm,hacc];simp [length_pgHead,length_recBytes];omega
 have hut:=usedR_take (R.map Rec.b) k
 have hus:=hok.used
 refine TS (Lq (yM rfl rfl) (Ld (Ts ?_)))
 refine yN rfl (λ hlt=>?_) (λ hlt=>?_)
 .
  obtain ⟨gp,rfl⟩:=hp (by omega)
  have hrl:=hok.len (R[k]'(by omega)).b (List.mem_map_of_mem (List.getElem_mem _))
  refine Tk (Ts (yH (TS ?_)))
  refine Lz ?_
  refine Lq (Ql rfl (map_at _ _ _ (by omega))) (La rfl (Ld (TR ?_)))
  iterate 3 refine Lz ?_
  refine Lq (yX rfl (wr8_nat _)) ?_
  refine Le (zK [_] (e:=5) (sz:=1) ⟨.int .u8 0,by kernel_rfl,rfl⟩ rfl rfl rfl ?_)
  intro g35
  refine Le (Ea Cd.elemB rfl rfl (SrcOf.blk (by kernel_rfl) rfl (by simp [Value.oneCell'])) (by unfold maxLen;omega) ?_)
  rintro p3 c3 hp3
  rw [bytesV_one,<-Zt]
  refine Lm rfl ?_
  refine Le (Ea Cd.elemB rfl rfl (SrcOf.rd (m:=(R[k]'(by omega)).b.length) ((RdV.rec hro (by omega)).mono (λ w ho=>ho.map Sa)) (by kernel_rfl) (by simp) Zu) (by unfold maxLen;omega) ?_)
  rintro p4 c4 hp4
  rw [<-Zt]
  refine La rfl (Ld (TR ?_))
  iterate 2 refine Lz ?_
  refine Ld ?_
  refine ⟨_,?_,_,⟨_,k+1,m+1+(R[k]'(by omega)).b.length,(acc++[UInt8.ofNat (R[k]'(by omega)).b.length])++(R[k]'(by omega)).b,p4,c4,⟨by omega,by rw [hacc,List.take_succ_eq_append_getElem (by simp;omega),recBytes_snoc];simp,by simp;omega,by omega⟩,rfl,(Za rfl (Za rfl (Za rfl (Za rfl rfl)))),rfl⟩,Sa⟩
  omega
 have e:k=R.length:=by omega
 rw [List.take_of_length_le (by simp;omega)] at hacc hml
 refine T.own (λ w ho=>?_)
 obtain ⟨gq,rfl⟩:=(ho.slice_at (p:=q) (m:=m) (c:=d)).2.1 (by omega)
 clear ho
 refine zB (TS ?_)
 iterate 4 refine Lz ?_
 refine Le (ZJ (m:=256-m) (ki := .i64) (.int .u8 0) (.int .u8 0) Cd.elemB (by kernel_rfl) (by kernel_rfl) rfl rfl rfl rfl (by omega) (by unfold maxLen;omega) (by omega) ?_)
 rintro p5 c5 hp5
 rw [bytesV_zero,<-Zt,show m+(256-m)=256 by omega]
 rw [show acc++List.replicate (256-m) 0=List.replicate 4 0++pgBody (R.map Rec.b) mark by rw [hacc,pgBody,show 256-m=243-ZO (R.map Rec.b) by omega];simp]
 obtain ⟨g5,rfl⟩:=hp5 (by omega)
 refine LW.own (λ w ho=>?_)
 have hc5:=ho.cap_at (p:=some ⟨g5,0,none⟩) (m:=256) (c:=c5)
 clear ho hp5
 have hbl:=length_pgBody (recs:=R.map Rec.b) (mark:=mark) hus
 refine La rfl (Ld (TS (Lm rfl (Lm rfl (Lq (zP 4 (e:=5) (sz:=1) rfl rfl rfl) ?_)))))
 refine Le (zK [_] (e:=97) (sz:=1) ⟨.slice none 0 0,by kernel_rfl,rfl⟩ rfl rfl rfl ?_)
 intro g48
 refine Le (Y7 (Cd.sum B _ _ [pgBody (R.map Rec.b) mark] (PartsV.one (rdv_tail4 (g5:=g5) (c5:=c5) hbl hc5 Sa)) (by simp) (by simp [hbl])) Tryz.func96 rfl rfl rfl ?_)
 rintro _ _ ⟨rfl,rfl⟩
 rw [show [pgBody (R.map Rec.b) mark].flatten=pgBody (R.map Rec.b) mark by simp]
 refine Lq (yX rfl (sumN_nat _)) ?_
 refine Le (Y7 (Cd.put B _ (.slice none 0 0) [] 0 rfl (sumN (pgBody (R.map Rec.b) mark)) _ 4 rfl (by omega) (RdV.nil _ 0) (by omega)) Tryz.func95 rfl rfl rfl ?_)
 rintro _ _ ⟨p6,c6,rfl,rfl⟩
 try simp only [cA,nA]
 refine LW.own (λ w ho=>?_)
 have hp6:0<4 -> ∃ g,p6=some ⟨g,0,none⟩:=(ho.slice_at (p:=p6) (m:=0+4) (c:=c6)).2.1
 clear ho
 simp only [Nat.zero_add,List.nil_append]
 refine Le (YI (e:=5) (cs:=Zb (be (sumN (pgBody (R.map Rec.b) mark)) 4)) (src:=Zb (be (sumN (pgBody (R.map Rec.b) mark)) 4)) rfl rfl (RdV.mono (RdV.rB (Zd _ _) hp6) (λ w ho=>ho.map Sa)) 4 rfl (by omega) (by rw [List.take_of_length_le (by simp [Zd])]) (by simp [Zd]) Zu (by simp [hbl]) ?_)
 rw [splice_head _ _ (Zd _ _)]
 rw [show be (sumN (pgBody (R.map Rec.b) mark)) 4++pgBody (R.map Rec.b) mark=Zx (R.map Rec.b) mark from rfl]
 refine Ld (TS (Lm rfl (La rfl (Ld (T.ret ?_)))))
 exact ⟨.inl rfl,_,_,res [_] rfl ⟨rvT rfl,trivial⟩,⟨_,_,rfl,rfl⟩,Sub.pg g p c R mark hok⟩
open Go.RowKit
def parseR : Nat->List UInt8->Option (List (List UInt8))
 | 0,l=>if l.all (· == 0) then some [] else none
 | _+1,[]=>none
 | k+1,x::l=>if 200<x.toNat\/l.length<x.toNat then none else (parseR k (l.drop x.toNat)).map (l.take x.toNat :: ·)
def openR (b:List UInt8):Except Int (List (List UInt8)×Int) :=
 if b.length≠256 then .error 10
 else if Wg (b.take 4)≠sumN (b.drop 4) then .error 30
 else match parseR (b.getD 12 0).toNat (b.drop 13) with
  | none => .error 31
  | some recs => .ok (recs,IntKind.i64.wrap (Wg ((b.take 12).drop 4)).toNat)
def OpenPost (S:List Wp) (b:List UInt8) (v:Value) (l:List Wp):Prop:=match openR b with
 | .error e=>v = .tuple #[.pointer none,.int .i64 e]/\l=S
 | .ok (recs,mark) => ∃ g,v = .tuple #[.pointer (some ⟨g,0,none⟩),.int .i64 0]/\l=pgA g recs mark::S
theorem OpenPost.err {S:List Wp} {b:List UInt8} {e:Int} {v:Value} {l:List Wp} (h:openR b = .error e) (hv:v = .tuple #[.pointer none,.int .i64 e]) (hl:l=S):OpenPost S b v l:=by
 unfold OpenPost;rw [h];exact ⟨hv,hl⟩
theorem OpenPost.ok {S:List Wp} {b:List UInt8} {recs:List (List UInt8)} {mark:Int} {g:Nat} {v:Value} {l:List Wp} (h:openR b = .ok (recs,mark)) (hv:v = .tuple #[.pointer (some ⟨g,0,none⟩),.int .i64 0]) (hl:l=pgA g recs mark::S):OpenPost S b v l:=by
 unfold OpenPost;rw [h];exact ⟨g,hv,hl⟩
theorem openR_31 {b:List UInt8} (h1:b.length=256) (h2:Wg (b.take 4)=sumN (b.drop 4)) (h3:parseR (b.getD 12 0).toNat (b.drop 13)=none):openR b = .error 31:=by
 unfold openR;rw [if_neg (by omega),if_neg (by simp [h2]),h3]
theorem openR_ok {b:List UInt8} {recs:List (List UInt8)} (h1:b.length=256) (h2:Wg (b.take 4)=sumN (b.drop 4)) (h3:parseR (b.getD 12 0).toNat (b.drop 13)=some recs):openR b = .ok (recs,IntKind.i64.wrap (Wg ((b.take 12).drop 4)).toNat):=by
 unfold openR;rw [if_neg (by omega),if_neg (by simp [h2]),h3]
theorem RdV.part {B:Wn} {S:List Wp} {a:Option Addr} {m c:Nat} {b:List UInt8} (hv:RdV B S (.slice a m c) (Zb b)) (lo hi:Nat) (hl:lo<=hi) (hm:b.length=m) (hh:hi<=m) (hc:hi<=c) {z:Nat} (hz:hi-lo=z):RdV B S (.slice (offA a c lo 1) z (c-lo)) (Zb ((b.take hi).drop lo)):=by
 subst hz
 have:=hv.sub lo hi (c-lo) hl (by simp;omega) (offA a c lo 1) (λ h g o e=>by rw [e,offA_some,Nat.mul_one])
 rwa [show ((Zb b).take hi).drop lo=Zb ((b.take hi).drop lo) by simp [Zb]] at this
theorem RdV.dropB {B:Wn} {S:List Wp} {a:Option Addr} {m c:Nat} {b:List UInt8} (hv:RdV B S (.slice a m c) (Zb b)) (lo:Nat) (hl:lo<=m) (hm:b.length=m) (hc:m<=c):RdV B S (.slice (offA a c lo 1) (m-lo) (c-lo)) (Zb (b.drop lo)):=by
 have:=hv.part lo m hl hm (Nat.le_refl _) hc rfl
 rwa [List.take_of_length_le (by omega)] at this
instance (priority := low) (B:Wn) (g:Nat) (S l:List Wp) (C:List Value) [k:Rd B g l C]:Rd B g (S++l) C:=⟨λ w H=>k.rd w (H.map λ _ k=>by
 obtain ⟨_,_,_,_,a,_,hm⟩:=Has.split k
 exact hm.mono a)⟩
theorem Has.app_imp {S l m:List Wp} {h:Piece} (f : ∀ k,Has l k->Has m k) (H:Has (S++l) h):Has (S++m) h:=by
 obtain ⟨_,_,d,a,b,e1,e2⟩:=Has.split H
 exact Has.join d a b e1 (f _ e2)
theorem Has.over {A:Wp} : ∀ {m r:List Wp} {h:Piece},Has (m++A::r) h->Has (A::(m++r)) h
 | [],_,_,H=>H
 | _::_,_,_,H=>Has.swap (Wt (λ _ k=>Has.over k) H)
instance (priority := low) (A:Wp) (S l r:List Wp) [k:TakeA A l r]:TakeA A (S++l) (S++r):=⟨λ _ H=>Has.over (Has.app_imp k.take H)⟩
theorem parseR_cons {k:Nat} {x:UInt8} {l:List UInt8} (h2:x.toNat<=l.length) (h1:x.toNat<=200:=by omega):parseR (k+1) (x::l)=(parseR k (l.drop x.toNat)).map (l.take x.toNat :: ·):=by
 rw [parseR,if_neg (by omega)]
theorem parseR_no {k:Nat} {x:UInt8} {l:List UInt8} (h:200<x.toNat\/l.length<x.toNat):parseR (k+1) (x::l)=none:=by
 rw [parseR,if_pos h]
theorem Pg.open (B:Wn) (S:List Wp) (a:Option Addr) (m c:Nat) (b:List UInt8) (hv:RdV B S (.slice a m c) (Zb b)) (hm:b.length=m) (hc:m<=c) (hb:m<2^48):Fn Tryz.prog B 107 #[.slice a m c] S (OpenPost S b):=by
 refine Wq 79 Tryz.func107 rfl rfl (nB rfl) (λ F=>?_)
 refine TS (La rfl (La rfl (Ld (Ts (TS ?_)))))
 iterate 3 refine Lz ?_
 refine Ld ?_
 refine yN rfl (λ hlen=>?_) (λ hlen=>?_)
 .
  refine TS (La rfl (La rfl (Ld (T.ret ?_))))
  exact ⟨.inl rfl,_,_,res [_,_] rfl ⟨rvT rfl,rvT rfl,trivial⟩,OpenPost.err (e:=10) (by unfold openR;rw [if_pos (by omega)]) rfl rfl,Sa⟩
 obtain rfl:m=256:=by omega
 refine Tk (Ts (Ts (T.draw 9 ([]) (nB rfl) ?_)))
 refine Rz 0 ?_
 refine Rq 1 rfl Sa (Y6 4 (e:=5) (sz:=1) rfl rfl rfl) ?_
 refine Rz 3 ?_
 refine Rq 4 rfl Sa (zP 4 (e:=5) (sz:=1) rfl rfl rfl) ?_
 refine YC [2,5] (List.forall_mem_cons.2 ⟨?_,List.forall_mem_cons.2 ⟨?_,List.forall_mem_nil _⟩⟩)
 .
  refine z6 rfl (Ec (Cd.get B S (.slice a 4 c) (b.take 4) (by have:=hv.take 4 c (by simp;omega);rwa [show (Zb b).take 4=Zb (b.take 4) by simp [Zb]] at this) (by simp;omega)) Tryz.func87 rfl rfl rfl ?_)
  rintro _ S ⟨rfl,rfl⟩
  refine ⟨Sa,?_⟩
  refine yK 5 ?_
  refine z6 rfl (zK [_] (e:=97) (sz:=1) ⟨.slice none 0 0,by kernel_rfl,rfl⟩ rfl rfl rfl ?_)
  intro g15
  refine ⟨Sa,?_⟩
  refine yK 6 ?_
  refine zY rfl (Y7 (Cd.sum B _ _ [b.drop 4] (PartsV.one ((hv.dropB 4 (by omega) hm (by omega)).mono (λ w ho=>ho.map Sa))) (by simp) (by simp;omega)) Tryz.func96 rfl rfl rfl ?_)
  rintro _ _ ⟨rfl,rfl⟩
  refine Rq 7 rfl (Sr _) (yX rfl (sumN_nat _)) ?_
  refine Rz 8 ?_
  refine Rd0 (by rfl) ?_
  simp only [dS,dZ,dN]
  refine Ld ?_
  refine yN rfl (λ hsum=>?_) (λ hsum=>?_)
  .
   refine TS (La rfl (La rfl (Ld (T.ret ?_))))
   exact ⟨.inl rfl,_,_,res [_,_] rfl ⟨rvT rfl,rvT rfl,trivial⟩,OpenPost.err (e:=30) (by unfold openR;rw [if_neg (by omega),if_pos (by intro h;exact hsum (by rw [h];simp))]) rfl rfl,Sa⟩
  have hs2:Wg (b.take 4)=sumN (b.drop 4):=by apply UInt64.toNat_inj.1;simp at hsum;omega
  obtain ⟨mark,hmark⟩ : ∃ mark,IntKind.i64.wrap ((Wg ((b.take 12).drop 4)).toNat:Int)=mark:=⟨_,rfl⟩
  obtain ⟨K,hK⟩ : ∃ K,(b[12]'(by omega)).toNat=K:=⟨_,rfl⟩
  have hK2:K<256:=by rw [<-hK];exact (b[12]'(by omega)).toNat_lt
  have hgd:b.getD 12 0=b[12]'(by omega):=by simp [List.getD,show (12<b.length) by omega]
  obtain ⟨ga,oa,rfl,hca⟩:=hv.at (by omega)
  refine Tk (TS (Lm rfl (Lq (zS 4 12 (e:=5) (sz:=1) rfl rfl rfl rfl rfl) ?_)))
  refine Le (Ec (Cd.get B S (.slice (offA (some ⟨ga,oa,none⟩) c 4 1) 8 (c-4)) ((b.take 12).drop 4) (hv.part 4 12 (by omega) hm (by omega) (by omega) rfl) (by simp;omega)) Tryz.func87 rfl rfl rfl ?_)
  rintro _ S ⟨rfl,rfl⟩
  refine Lq (yX rfl hmark) (Lq (z8 [(0,1),(1,1)] [.slice none 0 0,.int .i64 0] [_,_] [(1,_)] (by unfold Zf;kernel_rfl) rfl rfl) ?_)
  refine Le (zL [_,_] rfl rfl ?_)
  intro g24
  refine LW.conv (λ w ho=>ho.pgNew) (La rfl (Ld (TS (Lm rfl (Lq (zP 13 (e:=5) (sz:=1) rfl rfl rfl) (La rfl (Ld (Ts (TS (Lm rfl (Lq (Qi 12 (e:=5) (sz:=1) rfl rfl rfl) (Lq (zN (v := .int .u8 K) rfl (λ w ho=>by rw [hca 12 (by simp;omega) w ho.tl.drop,<-hK];simp [Zb])) ?_))))))))))))
  iterate 2 refine Lz ?_
  refine Ld (yH ?_)
  refine zG (λ mz fz lz => ∃ (f0:Fr) (k:Nat) (recs:List (List UInt8)) (m:Nat) (rest:List UInt8) (pr:Option Addr) (d:Nat),(k<=K/\rest.length=m/\m<=d/\ZO recs+m=243/\(∀ x∈recs,x.length<=200)/\RdV B S (.slice pr m d) (Zb rest)/\parseR K (b.drop 13)=(parseR (K-k) rest).map (recs ++ ·))/\mz=K-k/\fz=(upd (upd (upd (upd f0 4 (.pointer (some ⟨g24,0,none⟩))) 5 (.slice pr m d)) 30 (.int .i64 K)) 31 (.int .i64 k))/\lz=pgA g24 recs mark::(S++F)) ?_ ?_
  . refine ⟨_,_,⟨_,0,[],243,b.drop 13,offA (some ⟨ga,oa,none⟩) c 13 1,c-13,⟨Nat.zero_le _,by simp;omega,by omega,rfl,by simp,hv.dropB 13 (by omega) hm (by omega),by simp⟩,rfl,(Za rfl (Za rfl (Za rfl (Za rfl rfl)))),rfl⟩,Sa⟩
  rintro mz fz lz ⟨f0,k,recs,m,rest,pr,d,⟨hk,hrl,hmd,hus,hlen2,hrd,hpar⟩,hmz,rfl,rfl⟩
  subst mz
  refine TS (Lq (yM rfl rfl) (Ld (Ts ?_)))
  refine yN rfl (λ hlt=>?_) (λ hlt=>?_)
  .
   refine Tk (Ts (yH (Ts (TS ?_))))
   iterate 4 refine Lz ?_
   refine zZ (t:=36) rfl (λ h0=>?_) (λ h0=>?_)
   .
    try replace h0:=of_decide_eq_true h0
    obtain rfl:rest=[]:=List.eq_nil_of_length_eq_zero (by omega)
    iterate 7 refine Lz ?_
    refine zQ (t:=43) rfl rfl ?_
    iterate 8 refine Lz ?_
    refine Ld (zF rfl (TS (La rfl (La rfl (Ld (T.ret ?_))))))
    exact ⟨.inl rfl,_,_,res [_,_] rfl ⟨rvT rfl,rvT rfl,trivial⟩,OpenPost.err (e:=31) (openR_31 hm hs2 (by rw [hgd,hK,hpar,show K-k=(K-(k+1))+1 by omega];rfl)) rfl rfl,Sa⟩
   try replace h0:=of_decide_eq_false h0
   obtain ⟨gr,orr,rfl,hcr⟩:=hrd.at (by omega)
   obtain ⟨x,rest,rfl⟩ : ∃ x r,rest=x::r:=by cases rest with | nil=>simp at hrl;omega | cons x r=>exact ⟨x,r,rfl⟩
   obtain ⟨xn,hxn⟩ : ∃ xn,x.toNat=xn:=⟨_,rfl⟩
   have hx2:xn<256:=by rw [<-hxn];exact x.toNat_lt
   have hrl2:rest.length+1=m:=by simpa using hrl
   have hcx : ∀ w,Own B w S->w.cell? ⟨gr,orr+0*1,none⟩=some (.int .u8 xn):=λ w ho=>by rw [hcr 0 (by simp) w ho,<-hxn];rfl
   refine Lm rfl (Lq (Qi 0 (e:=5) (sz:=1) rfl rfl rfl) (Lq (zN (v := .int .u8 xn) rfl (λ w ho=>hcx w ho.tl.drop)) ?_))
   iterate 4 refine Lz ?_
   refine zZ (t:=43) rfl (λ h1=>?_) (λ h1=>?_)
   .
    try replace h1:=of_decide_eq_true h1
    iterate 8 refine Lz ?_
    refine Ld (zF rfl (TS (La rfl (La rfl (Ld (T.ret ?_))))))
    exact ⟨.inl rfl,_,_,res [_,_] rfl ⟨rvT rfl,rvT rfl,trivial⟩,OpenPost.err (e:=31) (openR_31 hm hs2 (by rw [hgd,hK,hpar,show K-k=(K-(k+1))+1 by omega,parseR_no (.inl (by omega))];rfl)) rfl rfl,Sa⟩
   try replace h1:=of_decide_eq_false h1
   refine Lm rfl (Lq (Qi 0 (e:=5) (sz:=1) rfl rfl rfl) (Lq (zN (v := .int .u8 xn) rfl (λ w ho=>hcx w ho.tl.drop)) ?_))
   iterate 5 refine Lz ?_
   refine Ld ?_
   refine yN rfl (λ h2=>?_) (λ h2=>?_)
   .
    refine TS (La rfl (La rfl (Ld (T.ret ?_))))
    exact ⟨.inl rfl,_,_,res [_,_] rfl ⟨rvT rfl,rvT rfl,trivial⟩,OpenPost.err (e:=31) (openR_31 hm hs2 (by rw [hgd,hK,hpar,show K-k=(K-(k+1))+1 by omega,parseR_no (.inr (by omega))];rfl)) rfl rfl,Sa⟩
   obtain ⟨rb,r2,rfl,rfl⟩ : ∃ rb r2,rest=rb++r2/\xn=rb.length:=⟨rest.take xn,rest.drop xn,by simp,by simp;omega⟩
   have hrec:RdV B S (.slice (offA (some ⟨gr,orr,none⟩) d 1 1) (rb.length+1-1) (d-1)) (Zb rb):=by have:=hrd.part 1 (rb.length+1) (by omega) hrl (by omega) (by omega) rfl;rwa [show ((x::(rb++r2)).take (rb.length+1)).drop 1=rb by simp] at this
   refine Y3 g24 recs mark (λ p cc R hR hok hro hlen hp=>?_)
   subst hR
   have hub:ZO (R.map Rec.b++[rb])=ZO (R.map Rec.b)+rb.length+1:=by rw [usedR_append];simp [ZO];omega
   refine Tk (TS (Lm rfl (Lq (Qi 0 (e:=5) (sz:=1) rfl rfl rfl) (Lq (zN (v := .int .u8 rb.length) rfl (λ w ho=>hcx w ho.tl.tl.tl.drop)) ?_))))
   iterate 3 refine Lz ?_
   refine Ld (Ts (zW 11 none (nB rfl) ?_))
   refine Rz 0 ?_;refine Rz 1 ?_;refine Rz 2 ?_;refine Rz 3 ?_;refine Rz 4 ?_;refine Rz 5 ?_;refine Rz 6 ?_
   refine Rq 7 rfl Sa (zS 1 (rb.length+1) (e:=5) (sz:=1) rfl rfl rfl rfl rfl) (yK 8 ?_)
   refine z6 rfl (Y7 (Cd.clone B _ _ rb rb.length rfl (hrec.mono (λ w ho=>ho.map Sa)) (by omega)) Tryz.func97 rfl rfl rfl ?_)
   rintro _ _ ⟨p1,c1,rfl,rfl⟩
   refine ⟨Sa,?_⟩
   refine yK 9 ?_
   refine z6 rfl (zK [_] (e:=97) (sz:=1) ⟨.slice none 0 0,by kernel_rfl,rfl⟩ rfl rfl rfl ?_)
   intro g66
   refine ⟨Sa,?_⟩
   refine yK 10 ?_
   refine zY rfl (Ea Pg.elemP rfl rfl (SrcOf.blk (by kernel_rfl) rfl (by simp [Value.oneCell'])) (by unfold maxLen;omega) ?_)
   rintro p2 c2 hp2
   rw [show [Value.slice p1 rb.length c1]=[recV ⟨p1,c1,rb⟩] from rfl,map_snoc recV]
   refine Rd0 (by rfl) ?_
   simp only [dS,dZ,dN]
   iterate 2 refine Lz ?_
   refine L0 (E1 (by kernel_rfl) rfl rfl rfl (by first | (simp;done) | (simp;omega)) ?_)
   try simp only [List.set_cons_zero,List.set_cons_succ]
   refine Ld (TR (Lm rfl (Lm rfl (Lq (zP (rb.length+1) (e:=5) (sz:=1) rfl rfl rfl) (La rfl (Ld (TR ?_)))))))
   iterate 2 refine Lz ?_
   refine Ld ?_
   refine ⟨_,?_,_,⟨_,k+1,R.map Rec.b++[rb],m-(rb.length+1),r2,_,_,⟨by omega,by simp at hrl2;omega,by omega,by omega,by intro y hy;rcases List.mem_append.1 hy with h | h;exact hok.len y h;simp at h;subst h;omega,by have:=hrd.dropB (rb.length+1) (by omega) hrl (by omega);rwa [show (x::(rb++r2)).drop (rb.length+1)=r2 by simp] at this,by rw [hpar,show K-k=(K-(k+1))+1 by omega,parseR_cons (by simp;omega),hxn];simp [Option.map_map,Function.comp_def]⟩,rfl,(Za rfl (Za rfl (Za rfl (Za rfl rfl)))),rfl⟩,Sub.pgAdd g24 p2 (R.length+1) c2 R p1 c1 rb mark rfl (R.map Rec.b++[rb]) (by simp) ⟨by omega,by intro y hy;rcases List.mem_append.1 hy with h | h;exact hok.len y h;simp at h;subst h;omega⟩⟩
   omega
  obtain rfl:k=K:=by omega
  refine zB (Ts (TS (Lm rfl ?_)))
  refine Le (Ec (Tr.trim B S pr m d rest hrd hrl hmd (by omega)) Tryz.func131 rfl rfl rfl ?_)
  rintro _ S ⟨p3,m3,c3,rfl,hz,rfl⟩
  iterate 2 refine Lz ?_
  refine Ld ?_
  refine yN rfl (λ hz2=>?_) (λ hz2=>?_)
  .
   refine TS (La rfl (La rfl (Ld (T.ret ?_))))
   exact ⟨.inl rfl,_,_,res [_,_] rfl ⟨rvT rfl,rvT rfl,trivial⟩,OpenPost.err (e:=31) (openR_31 hm hs2 (by rw [hgd,hK,hpar,Nat.sub_self,parseR,if_neg (by intro h;have:=hz.2 (by simpa using h);omega)];rfl)) rfl rfl,Sa⟩
  refine Tk (TS ?_)
  iterate 3 refine Lz ?_
  refine Ld (T.ret ?_)
  exact ⟨.inl rfl,_,_,res [_,_] rfl ⟨rvT rfl,rvT rfl,trivial⟩,OpenPost.ok (recs:=recs) (mark:=mark) (by rw [openR_ok (recs:=recs) hm hs2 (by rw [hgd,hK,hpar,Nat.sub_self,parseR,if_pos (by simpa using hz.1 (by omega))];simp),hmark]) rfl rfl,Sa⟩
 refine z6 rfl (zK [_] (e:=97) (sz:=1) ⟨.slice none 0 0,by kernel_rfl,rfl⟩ rfl rfl rfl ?_)
 intro g15
 refine ⟨Sa,?_⟩
 refine yK 2 ?_
 refine z6 rfl (Ec (Cd.get B S (.slice a 4 c) (b.take 4) (by have:=hv.take 4 c (by simp;omega);rwa [show (Zb b).take 4=Zb (b.take 4) by simp [Zb]] at this) (by simp;omega)) Tryz.func87 rfl rfl rfl ?_)
 rintro _ S ⟨rfl,rfl⟩
 refine ⟨Sa,?_⟩
 refine yK 6 ?_
 refine zY rfl (Y7 (Cd.sum B _ _ [b.drop 4] (PartsV.one ((hv.dropB 4 (by omega) hm (by omega)).mono (λ w ho=>ho.map Sa))) (by simp) (by simp;omega)) Tryz.func96 rfl rfl rfl ?_)
 rintro _ _ ⟨rfl,rfl⟩
 refine Rq 7 rfl (Sr _) (yX rfl (sumN_nat _)) ?_
 refine Rz 8 ?_
 refine Rd0 (by rfl) ?_
 simp only [dS,dZ,dN]
 refine Ld ?_
 refine yN rfl (λ hsum=>?_) (λ hsum=>?_)
 .
  refine TS (La rfl (La rfl (Ld (T.ret ?_))))
  exact ⟨.inl rfl,_,_,res [_,_] rfl ⟨rvT rfl,rvT rfl,trivial⟩,OpenPost.err (e:=30) (by unfold openR;rw [if_neg (by omega),if_pos (by intro h;exact hsum (by rw [h];simp))]) rfl rfl,Sa⟩
 have hs2:Wg (b.take 4)=sumN (b.drop 4):=by apply UInt64.toNat_inj.1;simp at hsum;omega
 obtain ⟨mark,hmark⟩ : ∃ mark,IntKind.i64.wrap ((Wg ((b.take 12).drop 4)).toNat:Int)=mark:=⟨_,rfl⟩
 obtain ⟨K,hK⟩ : ∃ K,(b[12]'(by omega)).toNat=K:=⟨_,rfl⟩
 have hK2:K<256:=by rw [<-hK];exact (b[12]'(by omega)).toNat_lt
 have hgd:b.getD 12 0=b[12]'(by omega):=by simp [List.getD,show (12<b.length) by omega]
 obtain ⟨ga,oa,rfl,hca⟩:=hv.at (by omega)
 refine Tk (TS (Lm rfl (Lq (zS 4 12 (e:=5) (sz:=1) rfl rfl rfl rfl rfl) ?_)))
 refine Le (Ec (Cd.get B S (.slice (offA (some ⟨ga,oa,none⟩) c 4 1) 8 (c-4)) ((b.take 12).drop 4) (hv.part 4 12 (by omega) hm (by omega) (by omega) rfl) (by simp;omega)) Tryz.func87 rfl rfl rfl ?_)
 rintro _ S ⟨rfl,rfl⟩
 refine Lq (yX rfl hmark) (Lq (z8 [(0,1),(1,1)] [.slice none 0 0,.int .i64 0] [_,_] [(1,_)] (by unfold Zf;kernel_rfl) rfl rfl) ?_)
 refine Le (zL [_,_] rfl rfl ?_)
 intro g24
 refine LW.conv (λ w ho=>ho.pgNew) (La rfl (Ld (TS (Lm rfl (Lq (zP 13 (e:=5) (sz:=1) rfl rfl rfl) (La rfl (Ld (Ts (TS (Lm rfl (Lq (Qi 12 (e:=5) (sz:=1) rfl rfl rfl) (Lq (zN (v := .int .u8 K) rfl (λ w ho=>by rw [hca 12 (by simp;omega) w ho.tl.drop,<-hK];simp [Zb])) ?_))))))))))))
 iterate 2 refine Lz ?_
 refine Ld (yH ?_)
 refine zG (λ mz fz lz => ∃ (f0:Fr) (k:Nat) (recs:List (List UInt8)) (m:Nat) (rest:List UInt8) (pr:Option Addr) (d:Nat),(k<=K/\rest.length=m/\m<=d/\ZO recs+m=243/\(∀ x∈recs,x.length<=200)/\RdV B S (.slice pr m d) (Zb rest)/\parseR K (b.drop 13)=(parseR (K-k) rest).map (recs ++ ·))/\mz=K-k/\fz=(upd (upd (upd (upd f0 4 (.pointer (some ⟨g24,0,none⟩))) 5 (.slice pr m d)) 30 (.int .i64 K)) 31 (.int .i64 k))/\lz=pgA g24 recs mark::(S++F)) ?_ ?_
 . refine ⟨_,_,⟨_,0,[],243,b.drop 13,offA (some ⟨ga,oa,none⟩) c 13 1,c-13,⟨Nat.zero_le _,by simp;omega,by omega,rfl,by simp,hv.dropB 13 (by omega) hm (by omega),by simp⟩,rfl,(Za rfl (Za rfl (Za rfl (Za rfl rfl)))),rfl⟩,Sa⟩
 rintro mz fz lz ⟨f0,k,recs,m,rest,pr,d,⟨hk,hrl,hmd,hus,hlen2,hrd,hpar⟩,hmz,rfl,rfl⟩
 subst mz
 refine TS (Lq (yM rfl rfl) (Ld (Ts ?_)))
 refine yN rfl (λ hlt=>?_) (λ hlt=>?_)
 .
  refine Tk (Ts (yH (Ts (TS ?_))))
  iterate 4 refine Lz ?_
  refine zZ (t:=36) rfl (λ h0=>?_) (λ h0=>?_)
  .
   try replace h0:=of_decide_eq_true h0
   obtain rfl:rest=[]:=List.eq_nil_of_length_eq_zero (by omega)
   iterate 7 refine Lz ?_
   refine zQ (t:=43) rfl rfl ?_
   iterate 8 refine Lz ?_
   refine Ld (zF rfl (TS (La rfl (La rfl (Ld (T.ret ?_))))))
   exact ⟨.inl rfl,_,_,res [_,_] rfl ⟨rvT rfl,rvT rfl,trivial⟩,OpenPost.err (e:=31) (openR_31 hm hs2 (by rw [hgd,hK,hpar,show K-k=(K-(k+1))+1 by omega];rfl)) rfl rfl,Sa⟩
  try replace h0:=of_decide_eq_false h0
  obtain ⟨gr,orr,rfl,hcr⟩:=hrd.at (by omega)
  obtain ⟨x,rest,rfl⟩ : ∃ x r,rest=x::r:=by cases rest with | nil=>simp at hrl;omega | cons x r=>exact ⟨x,r,rfl⟩
  obtain ⟨xn,hxn⟩ : ∃ xn,x.toNat=xn:=⟨_,rfl⟩
  have hx2:xn<256:=by rw [<-hxn];exact x.toNat_lt
  have hrl2:rest.length+1=m:=by simpa using hrl
  have hcx : ∀ w,Own B w S->w.cell? ⟨gr,orr+0*1,none⟩=some (.int .u8 xn):=λ w ho=>by rw [hcr 0 (by simp) w ho,<-hxn];rfl
  refine Lm rfl (Lq (Qi 0 (e:=5) (sz:=1) rfl rfl rfl) (Lq (zN (v := .int .u8 xn) rfl (λ w ho=>hcx w ho.tl.drop)) ?_))
  iterate 4 refine Lz ?_
  refine zZ (t:=43) rfl (λ h1=>?_) (λ h1=>?_)
  .
   try replace h1:=of_decide_eq_true h1
   iterate 8 refine Lz ?_
   refine Ld (zF rfl (TS (La rfl (La rfl (Ld (T.ret ?_))))))
   exact ⟨.inl rfl,_,_,res [_,_] rfl ⟨rvT rfl,rvT rfl,trivial⟩,OpenPost.err (e:=31) (openR_31 hm hs2 (by rw [hgd,hK,hpar,show K-k=(K-(k+1))+1 by omega,parseR_no (.inl (by omega))];rfl)) rfl rfl,Sa⟩
  try replace h1:=of_decide_eq_false h1
  refine Lm rfl (Lq (Qi 0 (e:=5) (sz:=1) rfl rfl rfl) (Lq (zN (v := .int .u8 xn) rfl (λ w ho=>hcx w ho.tl.drop)) ?_))
  iterate 5 refine Lz ?_
  refine Ld ?_
  refine yN rfl (λ h2=>?_) (λ h2=>?_)
  .
   refine TS (La rfl (La rfl (Ld (T.ret ?_))))
   exact ⟨.inl rfl,_,_,res [_,_] rfl ⟨rvT rfl,rvT rfl,trivial⟩,OpenPost.err (e:=31) (openR_31 hm hs2 (by rw [hgd,hK,hpar,show K-k=(K-(k+1))+1 by omega,parseR_no (.inr (by omega))];rfl)) rfl rfl,Sa⟩
  obtain ⟨rb,r2,rfl,rfl⟩ : ∃ rb r2,rest=rb++r2/\xn=rb.length:=⟨rest.take xn,rest.drop xn,by simp,by simp;omega⟩
  have hrec:RdV B S (.slice (offA (some ⟨gr,orr,none⟩) d 1 1) (rb.length+1-1) (d-1)) (Zb rb):=by have:=hrd.part 1 (rb.length+1) (by omega) hrl (by omega) (by omega) rfl;rwa [show ((x::(rb++r2)).take (rb.length+1)).drop 1=rb by simp] at this
  refine Y3 g24 recs mark (λ p cc R hR hok hro hlen hp=>?_)
  subst hR
  have hub:ZO (R.map Rec.b++[rb])=ZO (R.map Rec.b)+rb.length+1:=by rw [usedR_append];simp [ZO];omega
  refine Tk (TS (Lm rfl (Lq (Qi 0 (e:=5) (sz:=1) rfl rfl rfl) (Lq (zN (v := .int .u8 rb.length) rfl (λ w ho=>hcx w ho.tl.tl.tl.drop)) ?_))))
  iterate 3 refine Lz ?_
  refine Ld (Ts (zW 11 none (nB rfl) ?_))
  refine Rz 0 ?_;refine Rz 1 ?_;refine Rz 2 ?_;refine Rz 3 ?_;refine Rz 4 ?_;refine Rz 5 ?_;refine Rz 6 ?_
  refine Rq 7 rfl Sa (zS 1 (rb.length+1) (e:=5) (sz:=1) rfl rfl rfl rfl rfl) (yK 8 ?_)
  refine z6 rfl (Y7 (Cd.clone B _ _ rb rb.length rfl (hrec.mono (λ w ho=>ho.map Sa)) (by omega)) Tryz.func97 rfl rfl rfl ?_)
  rintro _ _ ⟨p1,c1,rfl,rfl⟩
  refine ⟨Sa,?_⟩
  refine yK 9 ?_
  refine z6 rfl (zK [_] (e:=97) (sz:=1) ⟨.slice none 0 0,by kernel_rfl,rfl⟩ rfl rfl rfl ?_)
  intro g66
  refine ⟨Sa,?_⟩
  refine yK 10 ?_
  refine zY rfl (Ea Pg.elemP rfl rfl (SrcOf.blk (by kernel_rfl) rfl (by simp [Value.oneCell'])) (by unfold maxLen;omega) ?_)
  rintro p2 c2 hp2
  rw [show [Value.slice p1 rb.length c1]=[recV ⟨p1,c1,rb⟩] from rfl,map_snoc recV]
  refine Rd0 (by rfl) ?_
  simp only [dS,dZ,dN]
  iterate 2 refine Lz ?_
  refine L0 (E1 (by kernel_rfl) rfl rfl rfl (by first | (simp;done) | (simp;omega)) ?_)
  try simp only [List.set_cons_zero,List.set_cons_succ]
  refine Ld (TR (Lm rfl (Lm rfl (Lq (zP (rb.length+1) (e:=5) (sz:=1) rfl rfl rfl) (La rfl (Ld (TR ?_)))))))
  iterate 2 refine Lz ?_
  refine Ld ?_
  refine ⟨_,?_,_,⟨_,k+1,R.map Rec.b++[rb],m-(rb.length+1),r2,_,_,⟨by omega,by simp at hrl2;omega,by omega,by omega,by intro y hy;rcases List.mem_append.1 hy with h | h;exact hok.len y h;simp at h;subst h;omega,by have:=hrd.dropB (rb.length+1) (by omega) hrl (by omega);rwa [show (x::(rb++r2)).drop (rb.length+1)=r2 by simp] at this,by rw [hpar,show K-k=(K-(k+1))+1 by omega,parseR_cons (by simp;omega),hxn];simp [Option.map_map,Function.comp_def]⟩,rfl,(Za rfl (Za rfl (Za rfl (Za rfl rfl)))),rfl⟩,Sub.pgAdd g24 p2 (R.length+1) c2 R p1 c1 rb mark rfl (R.map Rec.b++[rb]) (by simp) ⟨by omega,by intro y hy;rcases List.mem_append.1 hy with h | h;exact hok.len y h;simp at h;subst h;omega⟩⟩
  omega
 obtain rfl:k=K:=by omega
 refine zB (Ts (TS (Lm rfl ?_)))
 refine Le (Ec (Tr.trim B S pr m d rest hrd hrl hmd (by omega)) Tryz.func131 rfl rfl rfl ?_)
 rintro _ S ⟨p3,m3,c3,rfl,hz,rfl⟩
 iterate 2 refine Lz ?_
 refine Ld ?_
 refine yN rfl (λ hz2=>?_) (λ hz2=>?_)
 .
  refine TS (La rfl (La rfl (Ld (T.ret ?_))))
  exact ⟨.inl rfl,_,_,res [_,_] rfl ⟨rvT rfl,rvT rfl,trivial⟩,OpenPost.err (e:=31) (openR_31 hm hs2 (by rw [hgd,hK,hpar,Nat.sub_self,parseR,if_neg (by intro h;have:=hz.2 (by simpa using h);omega)];rfl)) rfl rfl,Sa⟩
 refine Tk (TS ?_)
 iterate 3 refine Lz ?_
 refine Ld (T.ret ?_)
 exact ⟨.inl rfl,_,_,res [_,_] rfl ⟨rvT rfl,rvT rfl,trivial⟩,OpenPost.ok (recs:=recs) (mark:=mark) (by rw [openR_ok (recs:=recs) hm hs2 (by rw [hgd,hK,hpar,Nat.sub_self,parseR,if_pos (by simpa using hz.1 (by omega))];simp),hmark]) rfl rfl,Sa⟩
open Go.RowKit
def natOf (l:List UInt8):Nat:=l.foldl (λ n x=>n*256+x.toNat) 0
theorem natOf_snoc (l:List UInt8) (x:UInt8):natOf (l++[x])=natOf l*256+x.toNat:=by simp [natOf]
theorem foldl_nat (l:List UInt8) (a:Nat):l.foldl (λ n x=>n*256+x.toNat) a=a*256^l.length+natOf l:=by
 induction l generalizing a with
 | nil=>simp [natOf]
 | cons x l ih =>
  have h0:=ih (a*256+x.toNat)
  have h1:natOf (x::l)=x.toNat*256^l.length+natOf l:=by
   have:=ih x.toNat
   simp only [natOf,List.foldl_cons,Nat.zero_mul,Nat.zero_add]
   exact this
  rw [List.foldl_cons,h0,h1,List.length_cons,Nat.add_mul,Nat.pow_succ,Nat.mul_assoc,Nat.mul_comm 256]
  omega
theorem natOf_cons (x:UInt8) (l:List UInt8):natOf (x::l)=x.toNat*256^l.length+natOf l:=by
 have:=foldl_nat l x.toNat
 simp only [natOf,List.foldl_cons,Nat.zero_mul,Nat.zero_add]
 exact this
theorem natOf_lt : ∀ l:List UInt8,natOf l<256^l.length
 | []=>by simp [natOf]
 | x::l=>by
  rw [natOf_cons,List.length_cons,Nat.pow_succ]
  have h1:=natOf_lt l
  have h2:=x.toNat_lt
  have h3:x.toNat*256^l.length<=255*256^l.length:=Nat.mul_le_mul_right _ (by omega)
  omega
theorem natOf_inj : ∀ {l l':List UInt8},l.length=l'.length->natOf l=natOf l'->l=l'
 | [],[],_,_=>rfl
 | [],_::_,h,_=>by simp at h
 | _::_,[],h,_=>by simp at h
 | x::l,y::l',h,e=>by
  have hl:l.length=l'.length:=by simpa using h
  rw [natOf_cons,natOf_cons,<-hl] at e
  have h1:=natOf_lt l
  have h2:=natOf_lt l'
  rw [<-hl] at h2
  have hp:0<256^l.length:=Nat.pow_pos (by omega)
  have e1:x.toNat=y.toNat:=by
   have:=congrArg (· / 256^l.length) e
   simp only [Nat.mul_comm _ (256^l.length),Nat.mul_add_div hp,Nat.div_eq_of_lt h1,Nat.div_eq_of_lt h2] at this
   omega
  have e2:natOf l=natOf l':=by rw [e1] at e;omega
  rw [UInt8.toNat_inj.1 e1,natOf_inj hl e2]
theorem get64_nat (l:List UInt8):l.length<=8->(Wg l).toNat=natOf l:=by
 intro h
 have key : ∀ k,k<=l.length->(Wg (l.take k)).toNat=natOf (l.take k):=by
  intro k
  induction k with
  | zero=>intro _;rfl
  | succ k ih =>
   intro hk
   have ih:=ih (by omega)
   rw [List.take_succ_eq_append_getElem (by omega),get64_snoc,natOf_snoc]
   have hlt:natOf (l.take k)<256^7:=Nat.lt_of_lt_of_le (natOf_lt _) (Nat.pow_le_pow_right (by omega) (by simp;omega))
   have hx:=(l[k]'(by omega)).toNat_lt
   have e1:(Wg (l.take k) <<< 8).toNat=natOf (l.take k)*256:=by
    rw [UInt64.toNat_shiftLeft,ih,show ((8:UInt64).toNat%64)=8 from rfl,Nat.shiftLeft_eq]
    exact Nat.mod_eq_of_lt (by omega)
   rw [UInt64.toNat_or,e1,UInt8.toNat_toUInt64,show (256:Nat)=2^8 from rfl,Nat.mul_comm,<-Nat.two_pow_add_eq_or_of_lt (by omega)]
 have:=key l.length (Nat.le_refl _)
 rwa [List.take_length] at this
theorem natOf_be (n:UInt64) : ∀ k,natOf (be n k)=n.toNat%256^k
 | 0=>by simp [be,natOf,Nat.mod_one]
 | k+1=>by
  rw [be,natOf_cons,Zd,natOf_be n k,Nat.mod_pow_succ,show (2:Nat)^(8*k)=256^k by rw [Nat.pow_mul],UInt8.toNat_ofNat',Nat.mul_comm]
  rw [show (2:Nat)^8=256 from rfl]
  omega
theorem be_get64 {l:List UInt8} (h:l.length<=8):be (Wg l) l.length=l :=
 natOf_inj (Zd _ _) (by rw [natOf_be,get64_nat l h];exact Nat.mod_eq_of_lt (natOf_lt l))
theorem get64_be (n:UInt64) {k:Nat} (hn:n.toNat<256^k) (h:k<=8:=by omega):Wg (be n k)=n:=by
 apply UInt64.toNat_inj.1
 rw [get64_nat _ (by rw [Zd];exact h),natOf_be,Nat.mod_eq_of_lt hn]
theorem sumN_lt (l:List UInt8):(sumN l).toNat<256^4:=by
 unfold sumN;rw [UInt32.toNat_toUInt64];exact (crc l).toNat_lt
theorem mark_back {mark:Int} (h : -(2^63)<=mark/\mark<2^63):IntKind.i64.wrap ((UInt64.ofInt mark).toNat:Int)=mark:=wr64_u64 mark (by omega) (by omega)
theorem parseR_recBytes : ∀ (recs:List (List UInt8)) (z:Nat),(∀ b∈recs,b.length<=200)->parseR recs.length (recBytes recs++List.replicate z 0)=some recs
 | [],z,_=>by
  rw [List.length_nil,parseR,if_pos (by simp [recBytes])]
 | b::recs,z,h=>by
  have hb:=h b (List.mem_cons_self ..)
  have hx:(UInt8.ofNat b.length).toNat=b.length:=by rw [UInt8.toNat_ofNat'];omega
  have e:recBytes (b::recs)++List.replicate z 0=UInt8.ofNat b.length::(b++(recBytes recs++List.replicate z 0)):=by simp [recBytes]
  rw [e,List.length_cons,parseR_cons (by simp;omega),hx,List.drop_left,List.take_left,parseR_recBytes recs z (λ x hx=>h x (List.mem_cons_of_mem _ hx))]
  rfl
theorem openR_pgBytes {recs:List (List UInt8)} {mark:Int} (h:PgOk recs) (hl:recs.length<256) (hm : -(2^63)<=mark/\mark<2^63):openR (Zx recs mark) = .ok (recs,mark):=by
 have e4:(Zx recs mark).take 4=be (sumN (pgBody recs mark)) 4:=by
  unfold Zx;rw [List.take_left' (Zd _ _)]
 have e5:(Zx recs mark).drop 4=pgBody recs mark:=by
  unfold Zx;rw [List.drop_left' (Zd _ _)]
 have e13:(Zx recs mark).drop 13=recBytes recs++List.replicate (243-ZO recs) 0:=by
  rw [show (13:Nat)=4+9 from rfl,<-List.drop_drop,e5]
  unfold pgBody;rw [List.append_assoc,List.drop_left' (length_pgHead _ _)]
 have hb:Zx recs mark=be (sumN (pgBody recs mark)) 4++(be (UInt64.ofInt mark) 8++(UInt8.ofNat recs.length::(recBytes recs++List.replicate (243-ZO recs) 0))):=by
  simp [Zx,pgBody,pgHead]
 have e12:(Zx recs mark).getD 12 0=UInt8.ofNat recs.length:=by
  rw [hb,List.getD_eq_getElem?_getD,List.getElem?_append_right (by simp [Zd]),List.getElem?_append_right (by simp [Zd])]
  simp [Zd]
 have em:((Zx recs mark).take 12).drop 4=be (UInt64.ofInt mark) 8:=by
  rw [List.drop_take,e5]
  unfold pgBody pgHead;rw [List.append_assoc,List.append_assoc,List.take_left' (Zd _ _)]
 have:=openR_ok (b:=Zx recs mark) (recs:=recs) (length_pgBytes h.used) (by rw [e4,e5,get64_be _ (sumN_lt _)]) (by rw [e12,e13,UInt8.toNat_ofNat',Nat.mod_eq_of_lt (by omega)];exact parseR_recBytes recs _ h.len)
 rw [this,em,get64_be _ (by have:=(UInt64.ofInt mark).toNat_lt;omega),mark_back hm]
end Go.Proofs.YtkfmfoecplbclaaGreatDoor
