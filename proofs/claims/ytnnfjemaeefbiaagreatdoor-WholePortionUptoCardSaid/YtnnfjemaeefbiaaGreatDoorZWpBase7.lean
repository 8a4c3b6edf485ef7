/- The texts SfU LxB LxC LxD LxE LxF PsA PsB, one behind the other: what the law leans on. Conditions: as each theorem says. -/
import Derived.Test.YtnnfjemaeefbiaaGreatDoorZWpBase6
import Derived.Shelf.Strings.OnBuilder
import Derived.Test.YtnnfjemaeefbiaaGreatDoorProg
import Derived.Lib.UnsafeStr
set_option linter.unusedSimpArgs false
set_option linter.unusedVariables false
set_option maxRecDepth 100000
set_option maxHeartbeats 16000000
namespace Go.Proofs
open Go.Shelf
def Tryz.upperL_ren : Go.Shelf.Ren:=⟨fun | 158=>72 | 165=>120 | 166=>121 | 167=>122 | 169=>123 | 230=>124 | 203=>125 | 240=>144 | 241=>145 | 197=>146 | 118=>147 | 168=>148 | 270=>149 | 262=>150 | 276=>171 | 277=>172 | 260=>173 | 242=>174 | 313=>175 | 278=>184 | 274=>185 | 275=>186 | n=>n,fun | 9=>9 | 4=>4 | 3=>3 | 5=>5 | 72=>218 | 0=>0 | 76=>222 | 75=>221 | 107=>226 | 70=>215 | 20=>20 | 37=>216 | 127=>242 | 21=>21 | 105=>243 | 164=>262 | 162=>268 | 203=>266 | 119=>274 | 46=>162 | 139=>277 | 138=>276 | 51=>212 | 160=>278 | 208=>286 | 206=>284 | 80=>179 | n=>n,fun | 13=>1 | 3=>2 | 4=>3 | n=>n⟩
theorem Tryz.upperL : Go.Proofs.Lays.n158 Tryz.prog Tryz.upperL_ren:={
  mixed:=by kernel_rfl
  f118:=Tryz.func147.trans (congrArg some (by kernel_rfl))
  f158:=Tryz.func72.trans (congrArg some (by kernel_rfl))
  f165:=Tryz.func120.trans (congrArg some (by kernel_rfl))
  f166:=Tryz.func121.trans (congrArg some (by kernel_rfl))
  f167:=Tryz.func122.trans (congrArg some (by kernel_rfl))
  f168:=Tryz.func148.trans (congrArg some (by kernel_rfl))
  f169:=Tryz.func123.trans (congrArg some (by kernel_rfl))
  f197:=Tryz.func146.trans (congrArg some (by kernel_rfl))
  f203:=Tryz.func125.trans (congrArg some (by kernel_rfl))
  f230:=Tryz.func124.trans (congrArg some (by kernel_rfl))
  f240:=Tryz.func144.trans (congrArg some (by kernel_rfl))
  f241:=Tryz.func145.trans (congrArg some (by kernel_rfl))
  f242:=Tryz.func174.trans (congrArg some (by kernel_rfl))
  f260:=Tryz.func173.trans (congrArg some (by kernel_rfl))
  f262:=Tryz.func150.trans (congrArg some (by kernel_rfl))
  f270:=Tryz.func149.trans (congrArg some (by kernel_rfl))
  f274:=Tryz.func185.trans (congrArg some (by kernel_rfl))
  f275:=Tryz.func186.trans (congrArg some (by kernel_rfl))
  f276:=Tryz.func171.trans (congrArg some (by kernel_rfl))
  f277:=Tryz.func172.trans (congrArg some (by kernel_rfl))
  f278:=Tryz.func184.trans (congrArg some (by kernel_rfl))
  f313:=Tryz.func175.trans (congrArg some (by kernel_rfl))
  t0:=Tryz.underlying0
  a0:=Tryz.isAgg0
  z0:=Tryz.sizeOf0
  v0:=Tryz.zeroValue0
  t3:=Tryz.underlying3
  a3:=Tryz.isAgg3
  z3:=Tryz.sizeOf3
  v3:=Tryz.zeroValue3
  t4:=Tryz.underlying4
  a4:=Tryz.isAgg4
  z4:=Tryz.sizeOf4
  v4:=Tryz.zeroValue4
  t5:=Tryz.underlying5
  a5:=Tryz.isAgg5
  z5:=Tryz.sizeOf5
  v5:=Tryz.zeroValue5
  t9:=Tryz.underlying9
  a9:=Tryz.isAgg9
  z9:=Tryz.sizeOf9
  v9:=Tryz.zeroValue9
  t20:=Tryz.underlying20
  a20:=Tryz.isAgg20
  z20:=Tryz.sizeOf20
  v20:=Tryz.zeroValue20
  t21:=Tryz.underlying21
  a21:=Tryz.isAgg21
  z21:=Tryz.sizeOf21
  v21:=Tryz.zeroValue21
  t37:=Tryz.underlying216
  a37:=Tryz.isAgg216
  z37:=Tryz.sizeOf216
  v37:=Tryz.zeroValue216
  t46:=Tryz.underlying162
  a46:=Tryz.isAgg162
  z46:=Tryz.sizeOf162
  v46:=Tryz.zeroValue162
  t51:=Tryz.underlying212
  a51:=Tryz.isAgg212
  z51:=Tryz.sizeOf212
  v51:=Tryz.zeroValue212
  t70:=Tryz.underlying215
  a70:=Tryz.isAgg215
  z70:=Tryz.sizeOf215
  v70:=Tryz.zeroValue215
  t72:=Tryz.underlying218
  a72:=Tryz.isAgg218
  z72:=Tryz.sizeOf218
  v72:=Tryz.zeroValue218
  t75:=Tryz.underlying221
  a75:=Tryz.isAgg221
  z75:=Tryz.sizeOf221
  v75:=Tryz.zeroValue221
  t76:=Tryz.underlying222
  a76:=Tryz.isAgg222
  z76:=Tryz.sizeOf222
  v76:=Tryz.zeroValue222
  t105:=Tryz.underlying243
  a105:=Tryz.isAgg243
  z105:=Tryz.sizeOf243
  v105:=Tryz.zeroValue243
  t107:=Tryz.underlying226
  a107:=Tryz.isAgg226
  z107:=Tryz.sizeOf226
  v107:=Tryz.zeroValue226
  t119:=Tryz.underlying274
  a119:=Tryz.isAgg274
  z119:=Tryz.sizeOf274
  t127:=Tryz.underlying242
  a127:=Tryz.isAgg242
  z127:=Tryz.sizeOf242
  v127:=Tryz.zeroValue242
  t138:=Tryz.underlying276
  a138:=Tryz.isAgg276
  z138:=Tryz.sizeOf276
  v138:=Tryz.zeroValue276
  t139:=Tryz.underlying277
  a139:=Tryz.isAgg277
  z139:=Tryz.sizeOf277
  v139:=Tryz.zeroValue277
  t160:=Tryz.underlying278
  a160:=Tryz.isAgg278
  z160:=Tryz.sizeOf278
  v160:=Tryz.zeroValue278
  t162:=Tryz.underlying268
  a162:=Tryz.isAgg268
  z162:=Tryz.sizeOf268
  v162:=Tryz.zeroValue268
  t164:=Tryz.underlying262
  a164:=Tryz.isAgg262
  z164:=Tryz.sizeOf262
  v164:=Tryz.zeroValue262
  t203:=Tryz.underlying266
  a203:=Tryz.isAgg266
  z203:=Tryz.sizeOf266
  v203:=Tryz.zeroValue266
  t206:=Tryz.underlying284
  a206:=Tryz.isAgg284
  z206:=Tryz.sizeOf284
  v206:=Tryz.zeroValue284
  t208:=Tryz.underlying286
  a208:=Tryz.isAgg286
  z208:=Tryz.sizeOf286
  v208:=Tryz.zeroValue286
  g3:=by kernel_rfl
  g4:=by kernel_rfl
  g13:=by kernel_rfl}
end Go.Proofs
namespace Go.Proofs.YtnnfjemaeefbiaaGreatDoor
open Go.RowKit
theorem upX : Builder.Extra Tryz.prog Tryz.upperL_ren where
  sizeBuilder:=by kernel_rfl
  liesBuilder:=by kernel_rfl
  t5:=Tryz.underlying5
  a5:=Tryz.isAgg5
  z5:=Tryz.sizeOf5
  v5:=Tryz.zeroValue5
  infoByte:=by kernel_rfl
  cellsByte:=by kernel_rfl
  sizeByte:=by kernel_rfl
  neB5:=by decide
abbrev upS (s:Str):Str:=Lib.toUpperA s
theorem Own.quietB {B:Wn} {w w':World} {l:List Wp} (H:Own B w l) (h0:B.low=0) (hb:Below w.heap.size w w'):Own B w' l:=by
  have k:Own B {w' with drawn:=w.drawn} l:=H.quiet ⟨hb.os,hb.tape,hb.output,hb.size,λ k hk _=>hb.block k hk,Nat.le_refl _⟩
  exact ⟨k.os,k.tape,k.output,by rw [h0];exact Nat.zero_le _,k.ro,k.has⟩
theorem Lx.upper (B:Wn) (h0:B.low=0) (s:Str) (hs:s.length<2^40) (ha : ∀ x∈s,x.toNat<128):Fn Tryz.prog B 72 #[tV s] [] (λ u l=>u=tV (upS s)/\l=[]):=⟨λ w F ho=>by
  have e:(Zq s).data.toList=s:=by simp [Zq]
  have e2 : ∀ (j:Nat) (b:UInt8),(Zq s).data.toList[j]? = some b->b.toNat<128:=λ j b hb=>by
    rw [e] at hb
    exact ha b (List.mem_of_getElem? hb)
  refine (Any.strings_ToUpper_ascii Tryz.upperL upX (Zq s) w (by rw [size_strOf];omega) e2).mono ?_
  rintro _ w' ⟨rfl,hb⟩
  refine ⟨_,_,rfl,⟨rfl,rfl⟩,ho.quietB h0 hb⟩⟩
abbrev bdB (b:Nat) (p:Value) (q:Option Addr) (m c:Nat):Wp:=blk b [p,.slice q m c] 218
abbrev byR (q:Option Addr) (m c:Nat) (bs:Str):Wp:=row (.slice q m c) 5 1 m (Zb bs)
theorem Lx.copyCheck (B:Wn) (b:Nat) (p:Value) (q:Option Addr) (m c:Nat) (hp:p = .pointer none\/p=pV b):Fn Tryz.prog B 144 #[pV b] [bdB b p q m c] (λ u l=>u = .tuple #[]/\l=[bdB b (pV b) q m c]):=⟨λ w F ho=>by
  have hg:=ho.get
  rcases hp with rfl | rfl
  . refine (Any.Builder_copyCheck_fresh {Tryz.upperL with} upX.toX72 b w (by simp [World.cell?,hg]) (by simp [World.shape?,hg];rfl) (by simp [World.frozen?,hg])).mono ?_
    rintro _ w' ⟨rfl,rfl⟩
    refine ⟨_,_,rfl,⟨rfl,rfl⟩,?_⟩
    exact Own.kept (fp:=[b]) ho ((Kept.refl _ _).setCell (by simp) _) (λ h e g' hg=>by simp at hg;subst hg;exact ⟨_,e⟩) (λ h1 h _ _ e _=>by
      have:=e b (.inl (by simp))
      unfold bdB blk
      rw [this,heap_setCell_same w b 0 _ _ _ hg];rfl)
  . refine (Any.Builder_copyCheck_used {Tryz.upperL with} upX.toX72 b w (by simp [World.cell?,hg])).mono ?_
    rintro _ w' ⟨rfl,rfl⟩
    exact ⟨_,_,rfl,⟨rfl,rfl⟩,ho⟩⟩
theorem by_snoc (bs:Str) (x:UInt8):Zb bs++[.int .u8 x.toNat]=Zb (bs++[x]):=by simp [Zb]
theorem Lx.elemB : ElemOk Tryz.prog 216 5 1 1 := .mk' (.int .u8 0) Tryz.underlying216 (by kernel_rfl) rfl (by omega)
theorem Lx.writeByte (B:Wn) (b:Nat) (p:Value) (q:Option Addr) (m c:Nat) (bs:Str) (hm:bs.length=m) (hb:m<2^40) (x:UInt8) (hp:p = .pointer none\/p=pV b) :
    Fn Tryz.prog B 122 #[pV b,.int .u8 x.toNat] [bdB b p q m c,byR q m c bs] (λ u l=>u = .nilIface /\ ∃ q' c',l=[bdB b (pV b) q' (m+1) c',byR q' (m+1) c' (bs++[x])]):=by
  refine Wr 17 Tryz.func122 rfl rfl (nB rfl) (λ F=>?_)
  try simp only [cA,nA]
  refine Ts ?_
  refine TR ?_
  refine La rfl ?_
  refine Ld ?_
  refine Ts ?_
  refine TR ?_
  refine Lm rfl ?_
  refine Le (Ec (Lx.copyCheck B b p q m c hp) Tryz.func144 rfl rfl rfl ?_)
  rintro _ _ ⟨rfl,rfl⟩
  try simp only [cA,nA]
  refine Ld ?_
  refine Ts ?_
  refine TR ?_
  refine Lm rfl ?_
  refine Lm rfl ?_
  refine Lq (Qn rfl) ?_
  refine Lq (Qf (off:=1) rfl) ?_
  refine Lq (Ql rfl rfl) ?_
  refine Lm rfl ?_
  refine Le (zK [_] (e:=5) (sz:=1) ⟨.int .u8 0,by kernel_rfl,rfl⟩ rfl rfl rfl ?_)
  intro g13
  refine Le (Ea Lx.elemB rfl rfl (SrcOf.blk (by kernel_rfl) rfl (by simp [Value.oneCell'])) (by unfold maxLen;omega) ?_)
  rintro p4 c4 hp4
  rw [by_snoc]
  refine Lq (Qn rfl) ?_
  refine Lq (Qf (off:=1) rfl) ?_
  refine L0 (E1 rfl rfl rfl (by first | (simp;done) | (simp;omega)) ?_)
  try simp only [List.set_cons_zero,List.set_cons_succ]
  refine Ld ?_
  refine Ts ?_
  refine TR ?_
  refine La rfl ?_
  refine Ld ?_
  refine T.ret ?_
  exact ⟨.inl rfl,_,_,res [_] rfl ⟨rvT rfl,trivial⟩,⟨rfl,p4,c4,rfl⟩,Sa⟩
section
variable {P : Program} {B:Wn} {n:Nat} {S l:List Wp} {f:Fr} {K:Value->List Wp->Prop} {d:Option Tmp} {ty:TypeId} {pos:String} {af:Array Edge} {gd:Option (Nat×Bool)}
theorem Qt.sliceData {x:Operand} {t:TypeId} {g m c:Nat} (hc:c≠0) (hx:ev n f x=some (.slice (some ⟨g,0,none⟩) m c)):Qt P B n S ⟨d,.call ⟨.builtin .unsafeSliceData,#[x],#[t]⟩,ty,pos,af,gd⟩ f (.pointer (some ⟨g,0,none⟩)):=⟨λ w _=>by
  have h:=Lib.run_unsafeSliceData_row (P:=P) (w:=w) #[t] ty ⟨g,0,none⟩ m c hc
  simp [execOp,resolve,invoke,builtin,Zc hx,h]⟩
theorem Qt.sliceDataN {x:Operand} {t:TypeId} {m c:Nat} (hx:ev n f x=some (.slice none m c)):Qt P B n S ⟨d,.call ⟨.builtin .unsafeSliceData,#[x],#[t]⟩,ty,pos,af,gd⟩ f (.pointer none):=⟨λ w _=>by
  have h:=Lib.run_unsafeSliceData_nil (P:=P) (w:=w) #[t] ty m c
  simp [execOp,resolve,invoke,builtin,Zc hx,h]⟩
theorem Qt.unsafeStrN {x y:Operand} {pt it:TypeId} (hx:ev n f x=some (.pointer none)) (hy:ev n f y=some (.int .i64 0)):Qt P B n S ⟨d,.call ⟨.builtin .unsafeString,#[x,y],#[pt,it]⟩,ty,pos,af,gd⟩ f (.string .empty):=⟨λ w _=>by
  have h:(Builtin.unsafeString_ #[pt,it] ty #[.pointer none,.int .i64 0]).run P w = .ok (.string .empty) w:=rfl
  simp [execOp,resolve,invoke,builtin,Zc hx,Zc hy,h]⟩
theorem Ef.unsafeStr {x y:Operand} {pt it:TypeId} {g m c:Nat} {bs:Str} {r:List Wp} (hp:P.underlying pt=some (.pointer 5)) (hc:P.cellsOf 5=1) (hm:bs.length=m) (h0:0<m) (hx:ev n f x=some (.pointer (some ⟨g,0,none⟩))) (hy:ev n f y=some (.int .i64 m)) [k:TakeA (row (.slice (some ⟨g,0,none⟩) m c) 5 1 m (Zb bs)) l r] (h:K (tV bs) r):Ef P B n ⟨d,.call ⟨.builtin .unsafeString,#[x,y],#[pt,it]⟩,ty,pos,af,gd⟩ f l K:=⟨λ w next Q ho hk=>by
  subst hm
  have ho1:=ho.take (k:=k)
  have hne:bs≠[]:=λ e=>by rw [e] at h0;simp at h0
  obtain ⟨_,e2⟩:=ho1.row_owns
  rcases e2 with ⟨e2,_⟩ | ⟨g',cap',cur,e2,_,e3,e4,e5,e6,e7⟩
  . cases e2
  . injection e2 with e2 _ e8
    injection e2 with e2
    injection e2 with e2
    subst e2
    have hcell : ∀ (j:Nat) (x:UInt8),bs[j]? = some x->w.cell? ((⟨g,0,none⟩:Addr).add j)=some (.int .u8 x.toNat):=λ j x hx=>by
      have hjl:j<bs.length:=(List.getElem?_eq_some_iff.1 hx).1
      have h1:(cur.toList.take (bs.length*1))[j]? = (Zb bs)[j]? := by rw [e7]
      rw [List.getElem?_take,if_pos (by omega)] at h1
      have h2:cur[j]? = some (.int .u8 x.toNat):=by
        rw [<-Array.getElem?_toList,h1]
        simp [Zb,hx]
      have ha:(⟨g,0,none⟩:Addr).add j=⟨g,j,none⟩:=by unfold Addr.add;split <;> simp_all
      rw [ha]
      unfold World.cell?
      rw [e3]
      simp [h2]
    have hr:=Lib.run_unsafeString_row (P:=P) w pt it ty 5 hp hc g cur.size (by simp [World.shape?,e3]) bs hne (by omega) (by unfold maxLen at e5;omega) hcell
    have hex:(execOp (evu n f) ⟨d,.call ⟨.builtin .unsafeString,#[x,y],#[pt,it]⟩,ty,pos,af,gd⟩).run P w = .ok (.value (tV bs)) (w.freeze ⟨g,0,none⟩ bs.length):=by
      simp [execOp,resolve,invoke,builtin,Zc hx,Zc hy,hr]
      rfl
    unfold Oper.wp
    simp only [Wk]
    rw [hex]
    refine hk (tV bs) _ _ h ?_
    have hkp:Kept [g] w (w.freeze ⟨g,0,none⟩ bs.length):=by
      unfold World.freeze
      rw [if_neg (by omega)]
      refine ⟨rfl,rfl,rfl,by simp,λ j _ hn=>?_,Nat.le_refl _⟩
      simp only [List.mem_singleton] at hn
      simp [Array.getElem?_modify,Ne.symm hn]
    exact (Own.kept (A':=pu True) (fp:=[g]) ho1 hkp (λ q hq g' hg=>by
      simp at hg;subst hg
      rcases hq with ⟨_,⟨e,_⟩ | ⟨g2,_,cur2,e,e9,_⟩⟩
      . cases e
      . injection e with e _ _
        injection e with e
        injection e with e
        subst e
        exact ⟨_,e9⟩) (λ _ _ _ _ _ _=>trivial)).map λ _ q=>q.tail⟩
end
theorem Lx.string (B:Wn) (b:Nat) (p:Value) (q:Option Addr) (m c:Nat) (bs:Str) (hm:bs.length=m) (hb:m<2^40) (hq:m=0->q=none) :
    Fn Tryz.prog B 123 #[pV b] [bdB b p q m c,byR q m c bs] (λ u l=>u=tV bs/\l=[]):=by
  by_cases h0:m=0
  . obtain rfl:=hq h0
    subst h0
    obtain rfl:bs=[]:=List.eq_nil_of_length_eq_zero hm
    refine Wq 14 Tryz.func123 rfl rfl (nB rfl) (λ F=>?_)
    try simp only [cA,nA]
    refine Ts ?_
    refine TR ?_
    refine La rfl ?_
    refine Ld ?_
    refine Ts ?_
    refine zU 11 (nB rfl) ?_
    refine Rq 0 rfl (Sr _) (Qm rfl) ?_
    refine Rq 1 rfl (Sr _) (Qn rfl) ?_
    refine Rq 2 rfl (Sr _) (Qf (off:=1) rfl) ?_
    refine Rq 3 rfl (Sr _) (Ql rfl rfl) ?_
    refine Rq 5 rfl (Sr _) (Qm rfl) ?_
    refine Rq 6 rfl (Sr _) (Qn rfl) ?_
    refine Rq 7 rfl (Sr _) (Qf (off:=1) rfl) ?_
    refine Rq 8 rfl (Sr _) (Ql rfl rfl) ?_
    refine Rq 9 rfl (Sr _) (yI (e:=5) (sz:=1) rfl) ?_
    refine yK 4 ?_
    refine ZK rfl rfl (YL (Qt.sliceDataN rfl) ?_)
    refine ⟨Sa,?_⟩
    refine yK 10 ?_
    refine zY rfl (YL (Qt.unsafeStrN rfl rfl) ?_)
    refine Rd0 (by rfl) ?_
    simp only [dS,dZ,dN]
    refine La rfl ?_
    refine Ld ?_
    refine T.ret ?_
    exact ⟨.inl rfl,_,_,res [_] rfl ⟨rvT rfl,trivial⟩,⟨rfl,rfl⟩,Sa⟩
  refine Wq 14 Tryz.func123 rfl rfl (nB rfl) (λ F=>?_)
  try simp only [cA,nA]
  refine T.own λ w ho=>?_
  obtain ⟨g,rfl⟩:=((ho.map Sa:Own B w [byR q m c bs]).slice_at (p:=q) (m:=m) (c:=c)).2.1 (by omega)
  have hcap:=(ho.map Sa:Own B w [byR (some ⟨g,0,none⟩) m c bs]).cap_at (p:=some ⟨g,0,none⟩) (m:=m) (c:=c)
  clear ho
  refine Ts ?_
  refine TR ?_
  refine La rfl ?_
  refine Ld ?_
  refine Ts ?_
  refine zU 11 (nB rfl) ?_
  refine Rq 0 rfl (Sr _) (Qm rfl) ?_
  refine Rq 1 rfl (Sr _) (Qn rfl) ?_
  refine Rq 2 rfl (Sr _) (Qf (off:=1) rfl) ?_
  refine Rq 3 rfl (Sr _) (Ql rfl rfl) ?_
  refine Rq 5 rfl (Sr _) (Qm rfl) ?_
  refine Rq 6 rfl (Sr _) (Qn rfl) ?_
  refine Rq 7 rfl (Sr _) (Qf (off:=1) rfl) ?_
  refine Rq 8 rfl (Sr _) (Ql rfl rfl) ?_
  refine Rq 9 rfl (Sr _) (yI (e:=5) (sz:=1) rfl) ?_
  refine yK 4 ?_
  refine ZK rfl rfl (YL (Qt.sliceData (by omega) rfl) ?_)
  refine ⟨Sa,?_⟩
  refine yK 10 ?_
  refine zY rfl (Ef.unsafeStr (bs:=bs) (c:=c) Tryz.underlying242 (by kernel_rfl) hm (by omega) rfl rfl ?_)
  refine Rd0 (by rfl) ?_
  simp only [dS,dZ,dN]
  refine La rfl ?_
  refine Ld ?_
  refine T.ret ?_
  exact ⟨.inl rfl,_,_,res [_] rfl ⟨rvT rfl,trivial⟩,⟨rfl,rfl⟩,Sa⟩
open Go.RowKit
def quoR : Str->Option (Str×Nat)
  | []=>none
  | 39::39::r=>(quoR r).map λ x=>(39::x.1,x.2+2)
  | 39::_=>some ([],1)
  | x::r=>(quoR r).map λ y=>(x::y.1,y.2+1)
theorem quo_other {s:Str} {j:Nat} (h:j<s.length) (hx:s[j]≠39):quoR (s.drop j)=(quoR (s.drop (j+1))).map λ y=>(s[j]::y.1,y.2+1):=by
  rw [List.drop_eq_getElem_cons h]
  conv=>lhs;unfold quoR
  split
  . rename_i e;cases e
  . rename_i e;injection e with e _;exact absurd e hx
  . rename_i e;injection e with e _;exact absurd e hx
  . rename_i e;injection e with e1 e2;subst e1;subst e2;rfl
theorem quo_two {s:Str} {j:Nat} (h:j+1<s.length) (hx:s[j]=39) (hy:s[j+1]=39):quoR (s.drop j)=(quoR (s.drop (j+2))).map λ x=>(39::x.1,x.2+2):=by
  rw [List.drop_eq_getElem_cons (by omega),List.drop_eq_getElem_cons h,hx,hy]
  conv=>lhs;unfold quoR
  rfl
theorem quo_end {s:Str} {j:Nat} (h:j<s.length) (hx:s[j]=39) (hy : ∀ (q:j+1<s.length),s[j+1]≠39):quoR (s.drop j)=some ([],1):=by
  rw [List.drop_eq_getElem_cons h,hx]
  cases hd:s.drop (j+1) with
  | nil=>rfl
  | cons y r =>
    have hl:j+1<s.length:=by
      rcases Nat.lt_or_ge (j+1) s.length with q | q
      . exact q
      . rw [List.drop_of_length_le q] at hd;cases hd
    have hy:=hy hl
    rw [List.drop_eq_getElem_cons hl] at hd
    injection hd with e1 _
    rw [e1] at hy
    conv=>lhs;unfold quoR
    split
    . rename_i e;cases e
    . rename_i e;injection e with _ e;injection e with e _;exact absurd e hy
    . rfl
    . rename_i a b c d e;injection e with e1 e2;first | exact absurd e1.symm (by simpa using c) | exact absurd e1.symm (by simpa using d)
abbrev quoV (s:Str) (a:Nat):Str×Bool:=match quoR (s.drop (a+1)) with | some x=>(x.1,true) | none=>([],false)
def quoA (s:Str) (a:Nat):Nat:=match quoR (s.drop (a+1)) with | some x=>a+1+x.2 | none=>s.length
theorem Lx.quoted (B:Wn) (gc:Nat) (s:Str) (a:Nat) (hs:s.length<2^39) (ha:a<s.length) :
  Fn Tryz.prog B 76 #[pV gc] [scA gc s a] (λ u l=>u = .tuple #[tV (quoV s a).1,.bool (quoV s a).2] /\ ∃ k,((quoV s a).2=true->k=quoA s a)/\l=[scA gc s k]):=by
 refine Wq 80 Tryz.func76 rfl rfl (nB rfl) (λ F=>?_)
 try simp only [cA,nA]
 refine T.conv (l':=byR none 0 0 []::_) (λ w ho=>ho.row_nil 5 1) ?_
 refine Ts ?_
 refine TR ?_
 refine La rfl ?_
 refine La rfl ?_
 refine Ld ?_
 refine Ts ?_
 refine TR ?_
 refine Le (El [.pointer none,.slice none 0 0] (by unfold Zf;kernel_rfl) ?_)
 intro g4
 refine Ld ?_
 refine Ts ?_
 refine Ts ?_
 refine TR ?_
 refine Lm rfl ?_
 refine Lq (Qn rfl) ?_
 refine Lq (Qf (off:=1) rfl) ?_
 refine Lq (Ql rfl rfl) ?_
 refine Lq (Qd (r:=((a+1:Nat):Int)) rfl rfl (by rw [Ze];omega)) ?_
 refine Lq (Qn rfl) ?_
 refine Lq (Qf (off:=1) rfl) ?_
 refine L0 (E1 rfl rfl rfl (by first | (simp;done) | (simp;omega)) ?_)
 try simp only [List.set_cons_zero,List.set_cons_succ]
 refine Ld ?_
 refine yH ?_
 refine zG (λ mz fz lz => ∃ (f0:Fr) (j:Nat) (p:Value) (q:Option Addr) (m c:Nat) (bs:Str),(a+1<=j/\j<=s.length/\bs.length=m/\m<=j/\(p = .pointer none\/p=pV g4)/\(m=0->q=none)/\quoR (s.drop (a+1))=(quoR (s.drop j)).map (λ x=>(bs++x.1,x.2+(j-(a+1)))))/\mz=s.length-j/\fz=(upd (upd f0 0 (pV gc)) 4 (pV g4))/\lz=byR q m c bs::bdB g4 p q m c::scA gc s j::F) ?_ ?_
 . refine ⟨_,_,⟨_,a+1,.pointer none,none,0,0,[],⟨by omega,by omega,rfl,Nat.zero_le _,.inl rfl,λ _=>rfl,by cases quoR (s.drop (a+1)) <;> simp⟩,rfl,(Za rfl (Za rfl rfl)),rfl⟩,Sa⟩
 rintro mz fz lz ⟨f0,j,p,q,m,c,bs,⟨h1,h2,hm,hmj,hp,hq,hqr⟩,hmz,rfl,rfl⟩
 subst mz
 refine Ts ?_
 refine Ts ?_
 refine zU 10 (nB rfl) ?_
 refine Rq 0 rfl (Sr _) (Qm rfl) ?_
 refine Rq 1 rfl (Sr _) (Qn rfl) ?_
 refine Rq 2 rfl (Sr _) (Qf (off:=1) rfl) ?_
 refine Rq 3 rfl (Sr _) (Ql rfl rfl) ?_
 refine Rq 4 rfl (Sr _) (Qm rfl) ?_
 refine Rq 5 rfl (Sr _) (Qn rfl) ?_
 refine Rq 6 rfl (Sr _) (Q0 rfl) ?_
 refine Rq 7 rfl (Sr _) (Ql rfl rfl) ?_
 refine Rq 8 rfl (Sr _) (YU rfl) ?_
 refine Rq 9 rfl (Sr _) (yM rfl rfl) ?_
 refine Rd0 (by rfl) ?_
 simp only [dS,dZ,dN]
 refine Ld ?_
 refine yN rfl (λ hlt=>?_) (λ hlt=>?_)
 .
  refine Tk ?_
  refine Ts ?_
  refine yH ?_
  refine Ts ?_
  refine Ts ?_
  refine zU 10 (nB rfl) ?_
  refine Rq 0 rfl (Sr _) (Qm rfl) ?_
  refine Rq 1 rfl (Sr _) (Qn rfl) ?_
  refine Rq 2 rfl (Sr _) (Q0 rfl) ?_
  refine Rq 3 rfl (Sr _) (Ql rfl rfl) ?_
  refine Rq 4 rfl (Sr _) (Qm rfl) ?_
  refine Rq 5 rfl (Sr _) (Qn rfl) ?_
  refine Rq 6 rfl (Sr _) (Qf (off:=1) rfl) ?_
  refine Rq 7 rfl (Sr _) (Ql rfl rfl) ?_
  refine Rq 8 rfl (Sr _) (YR j rfl rfl rfl (by omega)) ?_
  refine Rq 9 rfl (Sr _) (yW rfl rfl) ?_
  refine Rd0 (by rfl) ?_
  simp only [dS,dZ,dN]
  refine Ld ?_
  refine yN rfl (λ hx=>?_) (λ hx=>?_)
  .
   have hx:s[j]'(by omega)≠39:=λ e=>hx (by rw [e];rfl)
   rw [quo_other (by omega) hx] at hqr
   refine Ts ?_
   refine zW 10 none (nB rfl) ?_
   refine Rq 0 rfl Sa (Qm rfl) ?_
   refine Rq 1 rfl Sa (Qn rfl) ?_
   refine Rq 2 rfl Sa (Q0 rfl) ?_
   refine Rq 3 rfl Sa (Ql rfl rfl) ?_
   refine Rq 4 rfl Sa (Qm rfl) ?_
   refine Rq 5 rfl Sa (Qn rfl) ?_
   refine Rq 6 rfl Sa (Qf (off:=1) rfl) ?_
   refine Rq 7 rfl Sa (Ql rfl rfl) ?_
   refine Rq 8 rfl Sa (YR j rfl rfl rfl (by omega)) ?_
   refine yK 9 ?_
   refine zY rfl (Ec (Lx.writeByte B g4 p q m c bs hm (by omega) (s[j]'(by omega)) hp) Tryz.func122 rfl rfl rfl ?_)
   rintro _ _ ⟨rfl,q2,c2,rfl⟩
   try simp only [cA,nA]
   refine Rd0 (by rfl) ?_
   simp only [dS,dZ,dN]
   refine Ld ?_
   refine zB ?_
   refine TR ?_
   refine Lm rfl ?_
   refine Lq (Qn rfl) ?_
   refine Lq (Qf (off:=1) rfl) ?_
   refine Lq (Ql rfl rfl) ?_
   refine Lq (Qd (r:=((j+1:Nat):Int)) rfl rfl (by rw [Ze];omega)) ?_
   refine Lq (Qn rfl) ?_
   refine Lq (Qf (off:=1) rfl) ?_
   refine L0 (E1 rfl rfl rfl (by first | (simp;done) | (simp;omega)) ?_)
   try simp only [List.set_cons_zero,List.set_cons_succ]
   refine Ld ?_
   refine ⟨_,?_,_,⟨_,j+1,pV g4,q2,m+1,c2,bs++[s[j]'(by omega)],⟨by omega,by omega,by simp [hm],by omega,.inr rfl,by omega,by rw [hqr,Option.map_map];congr 1;funext x;simp;omega⟩,rfl,(Za rfl (Za rfl rfl)),rfl⟩,Sa⟩
   omega
  have hx:s[j]'(by omega)=39:=UInt8.toNat_inj.1 (by have h9:(39:UInt8).toNat=39:=rfl;omega)
  refine Tk ?_
  refine Ts ?_
  refine TR ?_
  refine Lm rfl ?_
  refine Lq (Qn rfl) ?_
  refine Lq (Qf (off:=1) rfl) ?_
  refine Lq (Ql rfl rfl) ?_
  refine Lq (Qd (r:=((j+1:Nat):Int)) rfl rfl (by rw [Ze];omega)) ?_
  refine Lq (Qn rfl) ?_
  refine Lq (Qf (off:=1) rfl) ?_
  refine L0 (E1 rfl rfl rfl (by first | (simp;done) | (simp;omega)) ?_)
  try simp only [List.set_cons_zero,List.set_cons_succ]
  refine Ld ?_
  refine Ts ?_
  refine Ts ?_
  refine zU 22 (nB rfl) ?_
  refine Rq 0 rfl (Sr _) (Qm rfl) ?_
  refine Rq 1 rfl (Sr _) (Qn rfl) ?_
  refine Rq 2 rfl (Sr _) (Qf (off:=1) rfl) ?_
  refine Rq 3 rfl (Sr _) (Ql rfl rfl) ?_
  refine Rq 4 rfl (Sr _) (Qm rfl) ?_
  refine Rq 5 rfl (Sr _) (Qn rfl) ?_
  refine Rq 6 rfl (Sr _) (Q0 rfl) ?_
  refine Rq 7 rfl (Sr _) (Ql rfl rfl) ?_
  refine Rq 8 rfl (Sr _) (YU rfl) ?_
  refine Rq 9 rfl (Sr _) (yU rfl rfl) ?_
  refine Rq 10 rfl (Sr _) (Qm rfl) ?_
  refine YE (t:=66) rfl (λ hend=>?_) (λ hend=>?_)
  .
   try replace hend:=of_decide_eq_true hend
   rw [quo_end (by omega) hx (λ q=>by omega)] at hqr
   refine yY 11 rfl (Sr _) ?_
   refine yY 12 rfl (Sr _) ?_
   refine yY 13 rfl (Sr _) ?_
   refine yY 14 rfl (Sr _) ?_
   refine yY 15 rfl (Sr _) ?_
   refine yY 16 rfl (Sr _) ?_
   refine yY 17 rfl (Sr _) ?_
   refine yY 18 rfl (Sr _) ?_
   refine yY 19 rfl (Sr _) ?_
   refine yY 20 rfl (Sr _) ?_
   refine Rq 21 rfl (Sr _) (Qp rfl rfl) ?_
   refine Rd0 (by rfl) ?_
   simp only [dS,dZ,dN]
   refine Ld ?_
   refine zF rfl ?_
   refine Ts ?_
   refine TR ?_
   refine Le (Ec (Lx.string B g4 p q m c bs hm (by omega) hq) Tryz.func123 rfl rfl rfl ?_)
   rintro _ _ ⟨rfl,rfl⟩
   try simp only [cA,nA]
   refine La rfl ?_
   refine La rfl ?_
   refine Ld ?_
   refine T.ret ?_
   exact ⟨.inl rfl,_,_,res [_,_] rfl ⟨rvT rfl,rvT rfl,trivial⟩,⟨by unfold quoV;rw [hqr];simp;rfl,j+1,λ _=>by unfold quoA;rw [hqr];simp;omega,rfl⟩,Sa⟩
  try replace hend:=of_decide_eq_false hend
  refine Rq 11 rfl (Sr _) (Qm rfl) ?_
  refine Rq 12 rfl (Sr _) (Qn rfl) ?_
  refine Rq 13 rfl (Sr _) (Q0 rfl) ?_
  refine Rq 14 rfl (Sr _) (Ql rfl rfl) ?_
  refine Rq 15 rfl (Sr _) (Qm rfl) ?_
  refine Rq 16 rfl (Sr _) (Qn rfl) ?_
  refine Rq 17 rfl (Sr _) (Qf (off:=1) rfl) ?_
  refine Rq 18 rfl (Sr _) (Ql rfl rfl) ?_
  refine Rq 19 rfl (Sr _) (YR (j+1) rfl rfl rfl (by omega)) ?_
  refine Rq 20 rfl (Sr _) (yW rfl rfl) ?_
  refine Rq 21 rfl (Sr _) (Qp rfl rfl) ?_
  refine Rd0 (by rfl) ?_
  simp only [dS,dZ,dN]
  refine Ld ?_
  refine yN rfl (λ hy=>?_) (λ hy=>?_)
  .
   rw [quo_end (by omega) hx (λ q e=>hy (by rw [e];rfl))] at hqr
   refine Ts ?_
   refine TR ?_
   refine Le (Ec (Lx.string B g4 p q m c bs hm (by omega) hq) Tryz.func123 rfl rfl rfl ?_)
   rintro _ _ ⟨rfl,rfl⟩
   try simp only [cA,nA]
   refine La rfl ?_
   refine La rfl ?_
   refine Ld ?_
   refine T.ret ?_
   exact ⟨.inl rfl,_,_,res [_,_] rfl ⟨rvT rfl,rvT rfl,trivial⟩,⟨by unfold quoV;rw [hqr];simp;rfl,j+1,λ _=>by unfold quoA;rw [hqr];simp;omega,rfl⟩,Sa⟩
  have hy:s[j+1]'(by omega)=39:=UInt8.toNat_inj.1 (by have h9:(39:UInt8).toNat=39:=rfl;omega)
  rw [quo_two (by omega) hx hy] at hqr
  refine Tk ?_
  refine TR ?_
  refine Le (Ec (Lx.writeByte B g4 p q m c bs hm (by omega) 39 hp) Tryz.func122 rfl rfl rfl ?_)
  rintro _ _ ⟨rfl,q2,c2,rfl⟩
  try simp only [cA,nA]
  refine Ld ?_
  refine TR ?_
  refine Lm rfl ?_
  refine Lq (Qn rfl) ?_
  refine Lq (Qf (off:=1) rfl) ?_
  refine Lq (Ql rfl rfl) ?_
  refine Lq (Qd (r:=((j+2:Nat):Int)) rfl rfl (by rw [Ze];omega)) ?_
  refine Lq (Qn rfl) ?_
  refine Lq (Qf (off:=1) rfl) ?_
  refine L0 (E1 rfl rfl rfl (by first | (simp;done) | (simp;omega)) ?_)
  try simp only [List.set_cons_zero,List.set_cons_succ]
  refine Ld ?_
  refine ⟨_,?_,_,⟨_,j+2,pV g4,q2,m+1,c2,bs++[39],⟨by omega,by omega,by simp [hm],by omega,.inr rfl,by omega,by rw [hqr,Option.map_map];congr 1;funext x;simp;omega⟩,rfl,(Za rfl (Za rfl rfl)),rfl⟩,Sa⟩
  omega
 obtain rfl:j=s.length:=by omega
 rw [List.drop_length] at hqr
 have hqr:quoR (s.drop (a+1))=none:=hqr
 refine zB ?_
 refine Ts ?_
 refine TR ?_
 refine La rfl ?_
 refine La rfl ?_
 refine Ld ?_
 refine T.ret ?_
 exact ⟨.inl rfl,_,_,res [_,_] rfl ⟨rvT rfl,rvT rfl,trivial⟩,⟨by unfold quoV;rw [hqr];rfl,s.length,λ _=>by unfold quoA;rw [hqr],rfl⟩,Sa⟩
open Go.RowKit
def numN (s:Str):Int:=s.foldl (λ n d=>n*10+(d.toNat-48:Int)) 0
theorem numN_take {s:Str} {j:Nat} (h:j<s.length):numN (s.take (j+1))=numN (s.take j)*10+(s[j].toNat-48:Int):=by
  unfold numN
  rw [List.take_succ_eq_append_getElem h,List.foldl_append];rfl
theorem Lx.number (B:Wn) (s:Str) (hs:s.length<2^39) (hd : ∀ x∈s,digB x=true) :
  Fn Tryz.prog B 75 #[tV s] [] (λ u l => ∃ n,u = .tuple #[iV n,.bool (decide (s.length<=18))]/\(s.length<=18->n=numN s)/\l=[]):=by
 refine Wq 27 Tryz.func75 rfl rfl (nB rfl) (λ F=>?_)
 try simp only [cA,nA]
 refine Ts ?_
 refine TR ?_
 refine La rfl ?_
 refine La rfl ?_
 refine Ld ?_
 refine Ts ?_
 refine TR ?_
 refine La rfl ?_
 refine Ld ?_
 refine Ts ?_
 refine Ts ?_
 refine TR ?_
 refine Lm rfl ?_
 refine Le (Ef.bytes (e:=5) (a:=s) (by kernel_rfl) (by kernel_rfl) rfl ?_)
 rintro gb Z
 refine Lq (yI (e:=5) (sz:=1) rfl) ?_
 refine Lm rfl ?_
 refine Ld ?_
 refine yH ?_
 refine zG (λ mz fz lz => ∃ (f0:Fr) (j:Nat) (n:Int),(j<=s.length/\(j<=18->0<=n/\n<((10^j:Nat):Int)/\n=numN (s.take j)))/\mz=s.length-j/\fz=(upd (upd (upd (upd (upd f0 0 (tV s)) 4 (iV n)) 8 (.slice (some ⟨gb,0,none⟩) s.length (s.length+Z.length))) 9 (.int .i64 s.length)) 10 (.int .i64 j))/\lz=fblk gb (Zb s++Z) 5 ((Zb s++Z).length,(Zb s++Z).length+1)::F) ?_ ?_
 . refine ⟨_,_,⟨_,0,0,⟨Nat.zero_le _,λ _=>⟨by omega,by simp,rfl⟩⟩,rfl,(Za rfl (Za rfl (Za rfl (Za rfl (Za rfl rfl))))),rfl⟩,Sa⟩
 rintro mz fz lz ⟨f0,j,n,⟨hj,hn⟩,hmz,rfl,rfl⟩
 subst mz
 refine Ts ?_
 refine TR ?_
 refine Lq (yM rfl rfl) ?_
 refine Ld ?_
 refine Ts ?_
 refine yN rfl (λ hlt=>?_) (λ hlt=>?_)
 .
  obtain ⟨x,hx⟩ : ∃ x,s[j]'(by omega)=x:=⟨_,rfl⟩
  have hxd:=hd x (by rw [<-hx];exact List.getElem_mem _)
  have hnt:=numN_take (s:=s) (j:=j) (by omega)
  rw [hx] at hnt
  simp only [digB,decide_eq_true_eq] at hxd
  have hp1:(10:Nat)^(j+1)=10^j*10:=Nat.pow_succ _ _
  have hp2:j<=17->(10:Nat)^j<=10^17:=λ h=>Nat.pow_le_pow_right (by omega) h
  have hw:j+1<=18->IntKind.i64.wrap (IntKind.i64.wrap (n*10)+(x.toNat-48:Int))=n*10+(x.toNat-48:Int):=λ q=>by
   obtain ⟨a1,a2,_⟩:=hn (by omega)
   have a3:=hp2 (by omega)
   rw [Ze (x:=n*10),Ze]
  refine Tk ?_
  refine Ts ?_
  refine yH ?_
  refine Ts ?_
  refine TR ?_
  refine Lq (Qi _ (e:=5) (sz:=1) rfl rfl rfl) ?_
  refine Lq (Ql (v := .int .u8 x.toNat) rfl (by rw [Nat.zero_add,Nat.mul_one,List.getElem?_append_left (by simp [Zb];omega),<-hx];simp only [Zb,List.getElem?_map];rw [List.getElem?_eq_getElem (by omega)];rfl)) ?_
  refine La rfl ?_
  refine Ld ?_
  refine Ts ?_
  refine TR ?_
  refine Lm rfl ?_
  refine Lq (YG (r:=IntKind.i64.wrap (n*10)) rfl rfl rfl) ?_
  refine Lm rfl ?_
  refine Lq (Qt.sub rfl rfl (wr8 (by omega) (by omega))) ?_
  refine Lq (yX rfl (Ze)) ?_
  refine Lq (Qd (r:=IntKind.i64.wrap (IntKind.i64.wrap (n*10)+(x.toNat-48:Int))) rfl rfl rfl) ?_
  refine La rfl ?_
  refine Ld ?_
  refine Ts ?_
  refine TR ?_
  refine Lm rfl ?_
  refine Lq (zX rfl rfl) ?_
  refine Ld ?_
  refine yN rfl (λ hbig=>?_) (λ hbig=>?_)
  .
   have hl18 : ¬ s.length<=18:=λ q=>by
    have h1:=hw (by omega)
    obtain ⟨a1,a2,_⟩:=hn (by omega)
    have a3:=hp2 (by omega)
    omega
   refine Ts ?_
   refine TR ?_
   refine La rfl ?_
   refine La rfl ?_
   refine Ld ?_
   refine T.ret ?_
   exact ⟨.inl rfl,_,_,res [_,_] rfl ⟨rvT rfl,rvT rfl,trivial⟩,⟨0,by rw [decide_eq_false hl18];rfl,λ q=>absurd q hl18,rfl⟩,Sa⟩
  refine Tk ?_
  refine TR ?_
  refine Lq (Qd rfl rfl (Ze)) ?_
  refine Lm rfl ?_
  refine Ld ?_
  refine ⟨_,?_,_,⟨_,j+1,IntKind.i64.wrap (IntKind.i64.wrap (n*10)+(x.toNat-48:Int)),⟨by omega,λ q=>by obtain ⟨a1,a2,a4⟩:=hn (by omega);have a3:=hp2 (by omega);rw [hw q,hnt,<-a4];exact ⟨by omega,by omega,rfl⟩⟩,rfl,(Za rfl (Za rfl (Za rfl (Za rfl (Za rfl rfl))))),rfl⟩,Sa⟩
  omega
 obtain rfl:j=s.length:=by omega
 rw [List.take_length] at hn
 refine zB ?_
 refine Ts ?_
 refine TR ?_
 refine Lm rfl ?_
 refine Lm rfl ?_
 refine Lq (YU rfl) ?_
 refine Lq (YF rfl rfl) ?_
 refine La rfl ?_
 refine La rfl ?_
 refine Ld ?_
 refine T.ret ?_
 exact ⟨.inl rfl,_,_,res [_,_] rfl ⟨rvT rfl,rvT rfl,trivial⟩,⟨n,congrArg (λ b=>Value.tuple #[iV n,.bool b]) (decide_eq_decide.2 (by omega)),λ q=>(hn q).2.2,rfl⟩,Sa⟩
def hasP (s p:Str):Bool:=decide (p.length<=s.length/\s.take p.length=p)
theorem Lx.hasPre0 (B:Wn) (s p:Str):Fn Tryz.prog B 126 #[tV s,tV p] [] (λ u l=>u = .bool (hasP s p)/\l=[]):=by
 unfold hasP
 refine Wr 18 Tryz.func126 rfl rfl (nB rfl) (λ F=>?_)
 try simp only [cA,nA]
 refine Ts ?_
 refine TR ?_
 refine La rfl ?_
 refine Ld ?_
 refine Ts ?_
 refine TR ?_
 refine Lm rfl ?_
 refine Lq (YU rfl) ?_
 refine Lm rfl ?_
 refine Lq (YU rfl) ?_
 refine Lq (zX rfl rfl) ?_
 refine Lm rfl ?_
 refine zZ (t:=10) rfl (λ h1=>?_) (λ h1=>?_)
 .
  try replace h1:=of_decide_eq_true h1
  refine Lm rfl ?_
  refine Lm rfl ?_
  refine Lq (YU rfl) ?_
  refine Lq (Qt.sliceS_ns p.length (by kernel_rfl) rfl rfl rfl (by omega)) ?_
  refine Lm rfl ?_
  refine Lq (Z3 rfl rfl) ?_
  refine Lq (Qp rfl rfl) ?_
  refine La rfl ?_
  refine Ld ?_
  refine T.ret ?_
  exact ⟨.inl rfl,_,_,res [_] rfl ⟨rvT rfl,trivial⟩,⟨congrArg Value.bool (decide_eq_decide.2 ⟨λ q=>⟨by omega,q⟩,λ q=>q.2⟩),rfl⟩,Sa⟩
 try replace h1:=of_decide_eq_false h1
 refine Ls rfl ?_
 refine Ls rfl ?_
 refine Ls rfl ?_
 refine Ls rfl ?_
 refine Ls rfl ?_
 refine Ls rfl ?_
 refine Lq (Qp rfl rfl) ?_
 refine La rfl ?_
 refine Ld ?_
 refine T.ret ?_
 exact ⟨.inl rfl,_,_,res [_] rfl ⟨rvT rfl,trivial⟩,⟨congrArg Value.bool (decide_eq_false (λ q=>by omega)).symm,rfl⟩,Sa⟩
theorem Lx.hasPre (B:Wn) (s p:Str):Fn Tryz.prog B 78 #[tV s,tV p] [] (λ u l=>u = .bool (hasP s p)/\l=[]):=by
  refine Wr 8 Tryz.func78 rfl rfl (nB rfl) (λ F=>?_)
  try simp only [cA,nA]
  refine Ts ?_
  refine TR ?_
  refine La rfl ?_
  refine Ld ?_
  refine Ts ?_
  refine TR ?_
  refine Lm rfl ?_
  refine Lm rfl ?_
  refine Le (Ec (Lx.hasPre0 B s p) Tryz.func126 rfl rfl rfl ?_)
  rintro _ _ ⟨rfl,rfl⟩
  try simp only [cA,nA]
  refine La rfl ?_
  refine Ld ?_
  refine T.ret ?_
  exact ⟨.inl rfl,_,_,res [_] rfl ⟨rvT rfl,trivial⟩,⟨rfl,rfl⟩,Sa⟩
def sgnL : List Str:=[[60,62],[60,61],[62,61],[40],[41],[44],[59],[46],[61],[60],[62],[43],[45],[42]]
theorem Lx.signs (B:Wn):Fn Tryz.prog B 77 #[] [] (λ u l => ∃ g,u = .slice (some ⟨g,0,none⟩) 14 14/\l=[row (.slice (some ⟨g,0,none⟩) 14 14) 9 1 14 (sgnL.map tV)]):=by
  refine Fn.enter0 2 Tryz.func77 rfl rfl (nB rfl) (λ F=>?_)
  try simp only [cA,nA]
  refine Ts ?_
  refine TR ?_
  refine La rfl ?_
  refine Ld ?_
  refine Ts ?_
  refine TR ?_
  refine Le (Ef.lits (e:=9) (sz:=1) [_,_,_,_,_,_,_,_,_,_,_,_,_,_] (sgnL.map tV) rfl (by simp [Value.cells,sgnL]) rfl rfl ?_)
  intro gh
  refine LW.conv (l':=row (.slice (some ⟨gh,0,none⟩) 14 14) 9 1 14 (sgnL.map tV)::_) (λ w ho=>ho.blk_row (sz:=1) (n:=14) rfl (by unfold maxLen;omega)) ?_
  refine La rfl ?_
  refine Ld ?_
  refine T.ret ?_
  exact ⟨.inl rfl,_,_,res [_] rfl ⟨rvT rfl,trivial⟩,⟨gh,rfl,rfl⟩,Sa⟩
open Go.RowKit
structure Tok where
  kind:Int
  text:Str
  int:Int
  at_:Nat
abbrev tokC (x:Tok):List Value:=[iV x.kind,tV x.text,iV x.int,iV x.at_]
abbrev tkR (p:Option Addr) (n c:Nat) (l:List Tok):Wp:=row (.slice p n c) 171 4 n (l.flatMap tokC)
def endB (l:Str):Bool:=match l with | []=>true | y::_ => !letB y
def oneC (s:Str) (x:UInt8) (r:Str):Option (Int×Str×Int×Nat) :=
  if letB x=true then some (1,upS (s.takeWhile worB),0,(s.takeWhile worB).length)
  else if digB x=true then (if (s.takeWhile digB).length<=18/\endB (s.drop (s.takeWhile digB).length)=true then some (2,[],numN (s.takeWhile digB),(s.takeWhile digB).length) else none)
  else if x=39 then (quoR r).map λ y=>(3,y.1,0,y.2+1)
  else (sgnL.find? (hasP s)).map λ g=>(4,g,0,g.length)
def oneR : Str->Option (Int×Str×Int×Nat)
  | []=>none
  | x::r=>oneC (x::r) x r
def toksR : Nat->Str->Nat->Except Nat (List Tok)
  | 0,_,a => .error a
  | f+1,s,a =>
    let b:=a+((s.drop a).takeWhile spaB).length
    if b=s.length then .ok [] else match oneR (s.drop b) with
      | none => .error b
      | some (k,t,n,w)=>(toksR f s (b+w)).map (⟨k,t,n,b⟩ :: ·)
def lexR (s:Str):Except (Int×Nat) (List Tok):=if 4096<s.length then .error (2,4096) else match toksR (s.length+1) s 0 with
  | .ok l => .ok l
  | .error a => .error (140,a)
theorem quo_len : ∀ {s:Str} {y:Str×Nat},quoR s=some y->y.2<=s.length/\1<=y.2:=by
  intro s
  induction h:s.length using Nat.strongRecOn generalizing s with
  | ind n ih =>
    intro y hy
    unfold quoR at hy
    split at hy
    . cases hy
    . rename_i r
      cases hq:quoR r with
      | none=>rw [hq] at hy;cases hy
      | some z =>
        rw [hq] at hy
        injection hy with hy
        have:=ih r.length (by simp at h;omega) rfl hq
        simp at h
        rw [<-hy];dsimp only;omega
    . injection hy with hy;rw [<-hy];simp at h ⊢;omega
    . rename_i r _ _
      cases hq:quoR r with
      | none=>rw [hq] at hy;cases hy
      | some z =>
        rw [hq] at hy
        injection hy with hy
        have:=ih r.length (by simp at h;omega) rfl hq
        simp at h
        rw [<-hy];dsimp only;omega
theorem one_len {s:Str} {k:Int} {t:Str} {n:Int} {w:Nat} (h:oneR s=some (k,t,n,w)):1<=w/\w<=s.length:=by
  cases s with
  | nil=>cases h
  | cons x r =>
    have h:oneC (x::r) x r=some (k,t,n,w):=h
    unfold oneC at h
    split at h
    . rename_i hl
      injection h with h
      simp only [Prod.mk.injEq] at h
      rw [<-h.2.2.2]
      refine ⟨?_,(List.takeWhile_prefix _).length_le⟩
      rw [List.takeWhile_cons,if_pos (by simp [worB,hl])];simp
    . split at h
      . rename_i hd
        split at h
        . injection h with h
          simp only [Prod.mk.injEq] at h
          rw [<-h.2.2.2]
          refine ⟨?_,(List.takeWhile_prefix _).length_le⟩
          rw [List.takeWhile_cons,if_pos hd];simp
        . cases h
      . split at h
        . cases hq:quoR r with
          | none=>rw [hq] at h;cases h
          | some y =>
            rw [hq] at h
            injection h with h
            simp only [Prod.mk.injEq] at h
            have:=quo_len hq
            rw [<-h.2.2.2];simp;omega
        . cases hf:sgnL.find? (hasP (x::r)) with
          | none=>rw [hf] at h;cases h
          | some g =>
            rw [hf] at h
            injection h with h
            simp only [Prod.mk.injEq] at h
            have h1:=List.find?_some hf
            have h2:=List.mem_of_find?_eq_some hf
            simp only [hasP,decide_eq_true_eq] at h1
            rw [<-h.2.2.2]
            refine ⟨?_,h1.1⟩
            simp only [sgnL,List.mem_cons,List.not_mem_nil,or_false] at h2
            rcases h2 with e | e | e | e | e | e | e | e | e | e | e | e | e | e <;> rw [e] <;> simp
open Go.RowKit
theorem Lx.elemT : ElemOk Tryz.prog 125 171 4 40 := .mk' (.agg #[.int .i64 0,.string .empty,.int .i64 0,.int .i64 0]) Tryz.underlying125 (by kernel_rfl) rfl (by omega)
theorem tk_snoc (l:List Tok) (x:Tok) {cs:List Value} (h:cs=tokC x):l.flatMap tokC++cs=(l++[x]).flatMap tokC:=by subst h;simp
theorem toks_step {f:Nat} {s:Str} {a b:Nat} (hb:a+((s.drop a).takeWhile spaB).length=b):toksR (f+1) s a=if b=s.length then .ok [] else match oneR (s.drop b) with
      | none => .error b
      | some (k,t,n,w)=>(toksR f s (b+w)).map (⟨k,t,n,b⟩ :: ·):=by
  subst hb;rfl
theorem one_at {s:Str} {b:Nat} (h:b<s.length):oneR (s.drop b)=oneC (s.drop b) s[b] (s.drop (b+1)):=by
  rw [List.drop_eq_getElem_cons h];rfl
theorem map_app {e:Except Nat (List Tok)} {out:List Tok} {x:Tok}:(e.map (x :: ·)).map (out ++ ·)=e.map ((out++[x]) ++ ·):=by
  cases e <;> simp [Except.map]
theorem Own.tkNil {B:Wn} {w:World} {l:List Wp} (H:Own B w l):Own B w (tkR none 0 0 []::l):=H.row_nil _ _
theorem tw_mem {p:UInt8->Bool} {x:UInt8} : ∀ {l:Str},x∈l.takeWhile p->p x=true
  | [],h=>by simp at h
  | y::l,h=>by
    rw [List.takeWhile_cons] at h
    split at h
    . rcases List.mem_cons.1 h with rfl | h
      . assumption
      . exact tw_mem h
    . cases h
def TokPost (s:Str) (u:Value) (l:List Wp):Prop:=match lexR s with
  | .ok L => ∃ p c,u = .tuple #[.slice p L.length c,.agg #[iV 0,iV 0]]/\l=[tkR p L.length c L]
  | .error (k,a)=>u = .tuple #[.slice none 0 0,.agg #[iV k,iV a]]/\l=[]
theorem run_le {s:Str} {a:Nat} (h:a<=s.length) (p:UInt8->Bool):a+((s.drop a).takeWhile p).length<=s.length:=by
  have:=(List.takeWhile_prefix p (l:=s.drop a)).length_le
  rw [List.length_drop] at this
  omega
theorem Lx.tokens (B:Wn) (h0:B.low=0) (s:Str) (hs:s.length<2^39):Fn Tryz.prog B 44 #[tV s] [] (TokPost s):=by
 refine Wq 129 Tryz.func44 rfl rfl (nB rfl) (λ F=>?_)
 try simp only [cA,nA]
 refine Ts ?_
 refine TR ?_
 refine La rfl ?_
 refine Le (El [.int .i64 0,.int .i64 0] (by unfold Zf;kernel_rfl) ?_)
 intro g3
 refine Ld ?_
 refine T.scope ?_
 refine Ts ?_
 refine Ts ?_
 refine TR ?_
 refine Lm rfl ?_
 refine Lq (YU rfl) ?_
 refine Lq (yZ rfl rfl) ?_
 refine Ld ?_
 refine yN rfl (λ hbig=>?_) (λ hbig=>?_)
 .
  refine Ts ?_
  refine TR ?_
  refine Lq (z8 [(0,1),(1,1)] [.int .i64 0,.int .i64 0] [_,_] [(0,_),(1,_)] (by unfold Zf;kernel_rfl) rfl rfl) ?_
  refine La rfl ?_
  refine L0 (Es [_,_] rfl rfl rfl rfl (by simp) ?_)
  try simp only [splice,lC,lN,dS,cA,tS,tZ,dZ,nA,aN]
  refine Ld ?_
  refine T.ret ?_
  exact ⟨.inl rfl,_,_,res [_,_] rfl ⟨rvT rfl,rvA [_,_] rfl ⟨rfl,rfl,trivial⟩,trivial⟩,(by unfold TokPost lexR;rw [if_pos (by omega)];exact ⟨rfl,rfl⟩),Sa⟩
 refine T.conv (λ w ho=>ho.tkNil) ?_
 refine Tk ?_
 refine Ts ?_
 refine TR ?_
 refine Lm rfl ?_
 refine Lq (z8 [(0,1),(1,1)] [.string .empty,.int .i64 0] [_,_] [(0,_)] (by unfold Zf;kernel_rfl) rfl rfl) ?_
 refine Le (zL [_,_] rfl rfl ?_)
 intro g17
 refine La rfl ?_
 refine Ld ?_
 refine Ts ?_
 refine TR ?_
 refine La rfl ?_
 refine Ld ?_
 refine Ts ?_
 refine T.label ?_
 refine yH ?_
 refine zG (λ mz fz lz => ∃ (f0:Fr) (fu a n:Nat) (out:List Tok) (po:Option Addr) (co:Nat),(a<=s.length/\s.length<a+fu/\toksR (s.length+1) s 0=(toksR fu s a).map (out ++ ·)/\n<=a/\out.length=n)/\mz=s.length-a/\fz=(upd (upd (upd (upd f0 0 (tV s)) 3 (pV g3)) 4 (pV g17)) 5 (.slice po n co))/\lz=tkR po n co out::scA g17 s a::blk g3 [iV 0,iV 0] 70::F) ?_ ?_
 . refine ⟨_,_,⟨_,s.length+1,0,0,[],none,0,⟨Nat.zero_le _,by omega,by cases toksR (s.length+1) s 0 <;> rfl,Nat.le_refl _,rfl⟩,rfl,(Za rfl (Za rfl (Za rfl (Za rfl rfl)))),rfl⟩,Sa⟩
 rintro mz fz lz ⟨f0,fu,a,n,out,po,co,⟨ha,hfu,htk,hol,hon⟩,hmz,rfl,rfl⟩
 subst mz
 refine yH ?_
 refine Ts ?_
 refine TR ?_
 refine Lm rfl ?_
 refine Le (Ec (Lx.while B g17 s a spaB 70 Tryz.f70 Tryz.func70 rfl rfl (Lx.space B) ha) Tryz.func69 rfl rfl rfl ?_)
 rintro _ _ ⟨rfl,rfl⟩
 try simp only [cA,nA]
 refine Ld ?_
 refine Ts ?_
 refine Ts ?_
 refine TR ?_
 refine Lm rfl ?_
 refine Lq (Qn rfl) ?_
 refine Lq (Qf (off:=1) rfl) ?_
 refine Lq (Ql rfl rfl) ?_
 refine Lm rfl ?_
 refine Lq (YU rfl) ?_
 refine Lq (yU rfl rfl) ?_
 refine Ld ?_
 obtain ⟨b,hb⟩ : ∃ b,a+((s.drop a).takeWhile spaB).length=b:=⟨_,rfl⟩
 have hbl:=run_le ha spaB
 rw [hb] at hbl
 rw [hb]
 obtain ⟨fu,rfl⟩ : ∃ g,fu=g+1:=⟨fu-1,by omega⟩
 rw [toks_step hb] at htk
 refine yN rfl (λ hend=>?_) (λ hend=>?_)
 .
  obtain rfl:b=s.length:=by omega
  have htk:toksR (s.length+1) s 0 = .ok out:=by rw [htk,if_pos rfl];simp [Except.map]
  subst hon
  refine Ts ?_
  refine TR ?_
  refine Lm rfl ?_
  refine Lq (z8 [(0,1),(1,1)] [.int .i64 0,.int .i64 0] [_,_] [] (by unfold Zf;kernel_rfl) rfl rfl) ?_
  refine La rfl ?_
  refine L0 (Es [_,_] rfl rfl rfl rfl (by simp) ?_)
  try simp only [splice,lC,lN,dS,cA,tS,tZ,dZ,nA,aN]
  refine Ld ?_
  refine T.ret ?_
  exact ⟨.inl rfl,_,_,res [_,_] rfl ⟨rvT rfl,rvA [_,_] rfl ⟨rfl,rfl,trivial⟩,trivial⟩,(by unfold TokPost lexR;rw [if_neg (by omega),htk];exact ⟨po,co,rfl,rfl⟩),Sa⟩
 have hbs:b<s.length:=by omega
 rw [if_neg (by omega),one_at hbs] at htk
 refine Tk ?_
 refine Ts ?_
 refine TR ?_
 refine Lm rfl ?_
 refine Lq (Qn rfl) ?_
 refine Lq (Qf (off:=1) rfl) ?_
 refine Lq (Ql rfl rfl) ?_
 refine Lq (z8 [(0,1),(1,1),(2,1),(3,1)] [.int .i64 0,.string .empty,.int .i64 0,.int .i64 0] [_,_,_,_] [(3,_)] (by unfold Zf;kernel_rfl) rfl rfl) ?_
 refine Le (El [.int .i64 0,.string .empty,.int .i64 0,.int .i64 0] (by unfold Zf;kernel_rfl) ?_)
 intro g6
 refine L0 (Es [_,_,_,_] rfl rfl rfl rfl (by simp) ?_)
 try simp only [splice,lC,lN,dS,cA,tS,tZ,dZ,nA,aN]
 refine Ld ?_
 refine Ts ?_
 refine TR ?_
 refine La rfl ?_
 refine Ld ?_
 refine Ts ?_
 refine Ts ?_
 refine TR ?_
 refine Lm rfl ?_
 refine Lm rfl ?_
 refine Lq (Qn rfl) ?_
 refine Lq (Qf (off:=1) rfl) ?_
 refine Lq (Ql rfl rfl) ?_
 refine Lq (YR b rfl rfl rfl (by omega)) ?_
 refine La rfl ?_
 refine Ld ?_
 refine yH ?_
 refine Ts ?_
 refine TR ?_
 refine Lm rfl ?_
 refine Le (Ec (Lx.letter B (s[b]'(by omega))) Tryz.func71 rfl rfl rfl ?_)
 rintro _ _ ⟨rfl,rfl⟩
 try simp only [cA,nA]
 refine La rfl ?_
 refine Ld ?_
 refine Y9 rfl (λ hl=>?_) (λ hl=>?_)
 .
  have hone:oneC (s.drop b) s[b] (s.drop (b+1))=some (1,upS ((s.drop b).takeWhile worB),0,((s.drop b).takeWhile worB).length):=by unfold oneC;rw [if_pos hl]
  have hol2:=one_len ((one_at hbs).trans hone)
  rw [hone] at htk
  have hrl:=run_le (s:=s) (a:=b) (by omega) worB
  refine TR ?_
  refine Lm rfl ?_
  refine Le (Ec (Lx.while B g17 s b worB 73 Tryz.f73 Tryz.func73 rfl rfl (Lx.word B) (by omega)) Tryz.func69 rfl rfl rfl ?_)
  rintro _ _ ⟨rfl,rfl⟩
  try simp only [cA,nA]
  refine Le (Ec (Lx.upper B h0 ((s.drop b).takeWhile worB) (by omega) (λ y hy=>by have:=(tw_mem hy:worB y=true);simp [worB] at this;omega)) Tryz.func72 rfl rfl rfl ?_)
  rintro _ _ ⟨rfl,rfl⟩
  try simp only [cA,nA]
  refine Lq (Q0 rfl) ?_
  refine L0 (E1 rfl rfl rfl (by first | (simp;done) | (simp;omega)) ?_)
  try simp only [List.set_cons_zero,List.set_cons_succ]
  refine Lq (Qf (off:=1) rfl) ?_
  refine L0 (E1 rfl rfl rfl (by first | (simp;done) | (simp;omega)) ?_)
  try simp only [List.set_cons_zero,List.set_cons_succ]
  refine Ld ?_
  refine Ts ?_
  refine Ts ?_
  refine TR ?_
  refine Lm rfl ?_
  refine Lq (Y2 rfl) ?_
  refine Ld ?_
  refine yQ rfl ?_
  refine Tk ?_
  refine TR ?_
  refine Lm rfl ?_
  refine Lq (QL [_,_,_,_] rfl ⟨rfl,rfl,rfl,rfl,trivial⟩) ?_
  refine Le (zK [_,_,_,_] (e:=171) (sz:=4) ⟨.agg #[.int .i64 0,.string .empty,.int .i64 0,.int .i64 0],by kernel_rfl,rfl⟩ rfl rfl rfl ?_)
  intro g127
  refine Le (Ea Lx.elemT rfl rfl (SrcOf.blk (by kernel_rfl) rfl (by simp [Value.oneCell'])) (by unfold maxLen;omega) ?_)
  rintro p4 c4 hp4
  rw [tk_snoc out ⟨1,upS ((s.drop b).takeWhile worB),0,b⟩ rfl]
  refine La rfl ?_
  refine Ld ?_
  refine ⟨_,?_,_,⟨_,fu,b+((s.drop b).takeWhile worB).length,n+1,out++[⟨1,upS ((s.drop b).takeWhile worB),0,b⟩],p4,c4,⟨hrl,by omega,by rw [htk];exact map_app,by omega,by simp [hon]⟩,rfl,(Za rfl (Za rfl (Za rfl (Za rfl rfl)))),rfl⟩,Sa⟩
  omega
 have hl:letB (s[b]'(by omega))=false:=by simpa using hl
 refine Ts ?_
 refine TR ?_
 refine Lm rfl ?_
 refine Le (Ec (Lx.digit B (s[b]'(by omega))) Tryz.func74 rfl rfl rfl ?_)
 rintro _ _ ⟨rfl,rfl⟩
 try simp only [cA,nA]
 refine La rfl ?_
 refine Ld ?_
 refine Y9 rfl (λ hd=>?_) (λ hd=>?_)
 .
  have hrl:=run_le (s:=s) (a:=b) (by omega) digB
  refine Ts ?_
  refine TR ?_
  refine Lq (Q0 rfl) ?_
  refine L0 (E1 rfl rfl rfl (by first | (simp;done) | (simp;omega)) ?_)
  try simp only [List.set_cons_zero,List.set_cons_succ]
  refine Ld ?_
  refine Ts ?_
  refine TR ?_
  refine Lm rfl ?_
  refine Le (Ec (Lx.while B g17 s b digB 74 Tryz.f74 Tryz.func74 rfl rfl (Lx.digit B) (by omega)) Tryz.func69 rfl rfl rfl ?_)
  rintro _ _ ⟨rfl,rfl⟩
  try simp only [cA,nA]
  obtain ⟨d,hdd⟩ : ∃ d,(s.drop b).takeWhile digB=d:=⟨_,rfl⟩
  have hdl:=run_cons (s:=s) (j:=b) (by omega) digB
  rw [if_pos hd,hdd] at hdl
  rw [hdd] at hrl
  rw [hdd]
  have hone:oneC (s.drop b) s[b] (s.drop (b+1))=if d.length<=18/\endB (s.drop (b+d.length))=true then some (2,[],numN d,d.length) else none:=by unfold oneC;rw [if_neg (by simp [hl]),if_pos hd,hdd,List.drop_drop]
  have hd1:1<=d.length:=by rw [hdl];simp
  rw [hone] at htk
  refine Le (Ec (Lx.number B d (by omega) (λ y hy=>by rw [<-hdd] at hy;exact tw_mem hy)) Tryz.func75 rfl rfl rfl ?_)
  rintro _ _ ⟨nn,rfl,hnn,rfl⟩
  try simp only [cA,nA]
  by_cases h18:d.length<=18
  .
   rw [decide_eq_true h18]
   rw [hnn h18]
   refine Lm rfl ?_
   refine Lq (Qx rfl rfl) ?_
   refine Lq (Qx rfl rfl) ?_
   refine Lq (Qf (off:=2) rfl) ?_
   refine L0 (E1 rfl rfl rfl (by first | (simp;done) | (simp;omega)) ?_)
   try simp only [List.set_cons_zero,List.set_cons_succ]
   refine La rfl ?_
   refine Ld ?_
   refine TR ?_
   refine Lm rfl ?_
   refine Lm rfl ?_
   refine zQ (t:=91) rfl rfl ?_
   refine Lm rfl ?_
   refine Lq (Qn rfl) ?_
   refine Lq (Qf (off:=1) rfl) ?_
   refine Lq (Ql rfl rfl) ?_
   refine Lm rfl ?_
   refine Lq (YU rfl) ?_
   refine Lq (yU rfl rfl) ?_
   refine Lm rfl ?_
   refine zZ (t:=99) rfl (λ he=>?_) (λ he=>?_)
   .
    try replace he:=of_decide_eq_true he
    have hE:endB (s.drop (b+d.length))=true:=by rw [List.drop_of_length_le (by omega)];rfl
    rw [if_pos ⟨h18,hE⟩] at htk
    refine Ls rfl ?_
    refine Ls rfl ?_
    refine Ls rfl ?_
    refine Ls rfl ?_
    refine Ls rfl ?_
    refine Ls rfl ?_
    refine Ls rfl ?_
    refine Ls rfl ?_
    refine Lq (Qp rfl rfl) ?_
    refine Lq (Qp rfl rfl) ?_
    refine La rfl ?_
    refine Ld ?_
    refine Ts ?_
    refine Ts ?_
    refine TR ?_
    refine Lm rfl ?_
    refine Lq (Y2 rfl) ?_
    refine Ld ?_
    refine yQ rfl ?_
    refine Tk ?_
    refine TR ?_
    refine Lm rfl ?_
    refine Lq (QL [_,_,_,_] rfl ⟨rfl,rfl,rfl,rfl,trivial⟩) ?_
    refine Le (zK [_,_,_,_] (e:=171) (sz:=4) ⟨.agg #[.int .i64 0,.string .empty,.int .i64 0,.int .i64 0],by kernel_rfl,rfl⟩ rfl rfl rfl ?_)
    intro g127
    refine Le (Ea Lx.elemT rfl rfl (SrcOf.blk (by kernel_rfl) rfl (by simp [Value.oneCell'])) (by unfold maxLen;omega) ?_)
    rintro p4 c4 hp4
    rw [tk_snoc out ⟨2,[],numN d,b⟩ (cs:=[iV 2,.string .empty,iV (numN d),iV b]) rfl]
    refine La rfl ?_
    refine Ld ?_
    refine ⟨_,?_,_,⟨_,fu,b+d.length,n+1,out++[⟨2,[],numN d,b⟩],p4,c4,⟨hrl,by omega,by rw [htk];exact map_app,by omega,by simp [hon]⟩,rfl,(Za rfl (Za rfl (Za rfl (Za rfl rfl)))),rfl⟩,Sa⟩
    omega
   try replace he:=of_decide_eq_false he
   have hE:endB (s.drop (b+d.length)) = !(letB (s[b+d.length]'(by omega))):=by rw [List.drop_eq_getElem_cons (show b+d.length<s.length by omega)];rfl
   refine Lm rfl ?_
   refine Lm rfl ?_
   refine Lq (Qn rfl) ?_
   refine Lq (Qf (off:=1) rfl) ?_
   refine Lq (Ql rfl rfl) ?_
   refine Lq (YR (b+d.length) rfl rfl rfl (by omega)) ?_
   refine Le (Ec (Lx.letter B (s[b+d.length]'(by omega))) Tryz.func71 rfl rfl rfl ?_)
   rintro _ _ ⟨rfl,rfl⟩
   try simp only [cA,nA]
   by_cases hl2:letB (s[b+d.length]'(by omega))=true
   .
    rw [hl2] at hE
    rw [if_neg (λ q=>by rw [hE] at q;cases q.2)] at htk
    have htk:toksR (s.length+1) s 0 = .error b:=htk
    rw [hl2]
    refine Lq (Y2 rfl) ?_
    refine Lq (Qp rfl rfl) ?_
    refine Lq (Qp rfl rfl) ?_
    refine La rfl ?_
    refine Ld ?_
    refine Ts ?_
    refine Ts ?_
    refine TR ?_
    refine Lm rfl ?_
    refine Lq (Y2 rfl) ?_
    refine Ld ?_
    refine zF rfl ?_
    refine Ts ?_
    refine zU 4 (nB rfl) ?_
    refine Rq 0 rfl (Sr _) (Qf (off:=3) rfl) ?_
    refine Rq 1 rfl (Sr _) (Ql rfl rfl) ?_
    refine Rq 2 rfl (Sr _) (z8 [(0,1),(1,1)] [.int .i64 0,.int .i64 0] [_,_] [(0,_),(1,_)] (by unfold Zf;kernel_rfl) rfl rfl) ?_
    refine Rq 3 rfl (Sr _) (Qa rfl) ?_
    refine Rd0 (by rfl) ?_
    simp only [dS,dZ,dN]
    refine L0 (Es [_,_] rfl rfl rfl rfl (by simp) ?_)
    try simp only [splice,lC,lN,dS,cA,tS,tZ,dZ,nA,aN]
    refine Ld ?_
    refine T.ret ?_
    exact ⟨.inl rfl,_,_,res [_,_] rfl ⟨rvT rfl,rvA [_,_] rfl ⟨rfl,rfl,trivial⟩,trivial⟩,(by unfold TokPost lexR;rw [if_neg (by omega),htk];exact ⟨rfl,rfl⟩),Sa⟩
   rw [Bool.not_eq_true] at hl2
   rw [hl2] at hE
   rw [if_pos ⟨h18,hE⟩] at htk
   rw [hl2]
   refine Lq (Y2 rfl) ?_
   refine Lq (Qp rfl rfl) ?_
   refine Lq (Qp rfl rfl) ?_
   refine La rfl ?_
   refine Ld ?_
   refine Ts ?_
   refine Ts ?_
   refine TR ?_
   refine Lm rfl ?_
   refine Lq (Y2 rfl) ?_
   refine Ld ?_
   refine yQ rfl ?_
   refine Tk ?_
   refine TR ?_
   refine Lm rfl ?_
   refine Lq (QL [_,_,_,_] rfl ⟨rfl,rfl,rfl,rfl,trivial⟩) ?_
   refine Le (zK [_,_,_,_] (e:=171) (sz:=4) ⟨.agg #[.int .i64 0,.string .empty,.int .i64 0,.int .i64 0],by kernel_rfl,rfl⟩ rfl rfl rfl ?_)
   intro g127
   refine Le (Ea Lx.elemT rfl rfl (SrcOf.blk (by kernel_rfl) rfl (by simp [Value.oneCell'])) (by unfold maxLen;omega) ?_)
   rintro p4 c4 hp4
   rw [tk_snoc out ⟨2,[],numN d,b⟩ (cs:=[iV 2,.string .empty,iV (numN d),iV b]) rfl]
   refine La rfl ?_
   refine Ld ?_
   refine ⟨_,?_,_,⟨_,fu,b+d.length,n+1,out++[⟨2,[],numN d,b⟩],p4,c4,⟨hrl,by omega,by rw [htk];exact map_app,by omega,by simp [hon]⟩,rfl,(Za rfl (Za rfl (Za rfl (Za rfl rfl)))),rfl⟩,Sa⟩
   omega
  rw [decide_eq_false h18]
  rw [if_neg (λ q=>h18 q.1)] at htk
  have htk:toksR (s.length+1) s 0 = .error b:=htk
  refine Lm rfl ?_
  refine Lq (Qx rfl rfl) ?_
  refine Lq (Qx rfl rfl) ?_
  refine Lq (Qf (off:=2) rfl) ?_
  refine L0 (E1 rfl rfl rfl (by first | (simp;done) | (simp;omega)) ?_)
  try simp only [List.set_cons_zero,List.set_cons_succ]
  refine La rfl ?_
  refine Ld ?_
  refine TR ?_
  refine Lm rfl ?_
  refine Lm rfl ?_
  refine yT (t:=91) rfl rfl ?_
  refine Ls rfl ?_
  refine Ls rfl ?_
  refine Ls rfl ?_
  refine Ls rfl ?_
  refine Ls rfl ?_
  refine Ls rfl ?_
  refine Ls rfl ?_
  refine Ls rfl ?_
  refine Ls rfl ?_
  refine Ls rfl ?_
  refine Ls rfl ?_
  refine Ls rfl ?_
  refine Ls rfl ?_
  refine Ls rfl ?_
  refine Ls rfl ?_
  refine Ls rfl ?_
  refine Ls rfl ?_
  refine Lq (Qp rfl rfl) ?_
  refine La rfl ?_
  refine Ld ?_
  refine Ts ?_
  refine Ts ?_
  refine TR ?_
  refine Lm rfl ?_
  refine Lq (Y2 rfl) ?_
  refine Ld ?_
  refine zF rfl ?_
  refine Ts ?_
  refine zU 4 (nB rfl) ?_
  refine Rq 0 rfl (Sr _) (Qf (off:=3) rfl) ?_
  refine Rq 1 rfl (Sr _) (Ql rfl rfl) ?_
  refine Rq 2 rfl (Sr _) (z8 [(0,1),(1,1)] [.int .i64 0,.int .i64 0] [_,_] [(0,_),(1,_)] (by unfold Zf;kernel_rfl) rfl rfl) ?_
  refine Rq 3 rfl (Sr _) (Qa rfl) ?_
  refine Rd0 (by rfl) ?_
  simp only [dS,dZ,dN]
  refine L0 (Es [_,_] rfl rfl rfl rfl (by simp) ?_)
  try simp only [splice,lC,lN,dS,cA,tS,tZ,dZ,nA,aN]
  refine Ld ?_
  refine T.ret ?_
  exact ⟨.inl rfl,_,_,res [_,_] rfl ⟨rvT rfl,rvA [_,_] rfl ⟨rfl,rfl,trivial⟩,trivial⟩,(by unfold TokPost lexR;rw [if_neg (by omega),htk];exact ⟨rfl,rfl⟩),Sa⟩
 have hd:digB (s[b]'(by omega))=false:=by simpa using hd
 refine Ts ?_
 refine TR ?_
 refine Lm rfl ?_
 refine Lq (yU rfl rfl) ?_
 refine La rfl ?_
 refine Ld ?_
 refine yN rfl (λ hq=>?_) (λ hq=>?_)
 .
  have hq:s[b]'(by omega)=39:=UInt8.toNat_inj.1 (by have h9:(39:UInt8).toNat=39:=rfl;omega)
  have hone:oneC (s.drop b) s[b] (s.drop (b+1))=(quoR (s.drop (b+1))).map λ y=>(3,y.1,0,y.2+1):=by unfold oneC;rw [if_neg (by simp [hl]),if_neg (by simp [hd]),if_pos hq]
  rw [hone] at htk
  refine Ts ?_
  refine TR ?_
  refine Lq (Q0 rfl) ?_
  refine L0 (E1 rfl rfl rfl (by first | (simp;done) | (simp;omega)) ?_)
  try simp only [List.set_cons_zero,List.set_cons_succ]
  refine Ld ?_
  refine TR ?_
  refine Lm rfl ?_
  refine Le (Ec (Lx.quoted B g17 s b (by omega) hbs) Tryz.func76 rfl rfl rfl ?_)
  rintro _ _ ⟨rfl,k,hk,rfl⟩
  try simp only [cA,nA]
  by_cases hok : ∃ y,quoR (s.drop (b+1))=some y
  .
   obtain ⟨y,hy⟩:=hok
   have hqv:quoV s b=(y.1,true):=by unfold quoV;rw [hy]
   have hqa:quoA s b=b+1+y.2:=by unfold quoA;rw [hy]
   have hql:=quo_len hy
   rw [hqv,hqa] at hk
   obtain rfl:=hk rfl
   rw [hqv]
   rw [hy] at htk
   rw [List.length_drop] at hql
   refine Lm rfl ?_
   refine Lq (Qx rfl rfl) ?_
   refine Lq (Qx rfl rfl) ?_
   refine Lq (Qf (off:=1) rfl) ?_
   refine L0 (E1 rfl rfl rfl (by first | (simp;done) | (simp;omega)) ?_)
   try simp only [List.set_cons_zero,List.set_cons_succ]
   refine La rfl ?_
   refine Ld ?_
   refine Ts ?_
   refine Ts ?_
   refine TR ?_
   refine Lm rfl ?_
   refine Lq (Y2 rfl) ?_
   refine Ld ?_
   refine yQ rfl ?_
   refine Tk ?_
   refine TR ?_
   refine Lm rfl ?_
   refine Lq (QL [_,_,_,_] rfl ⟨rfl,rfl,rfl,rfl,trivial⟩) ?_
   refine Le (zK [_,_,_,_] (e:=171) (sz:=4) ⟨.agg #[.int .i64 0,.string .empty,.int .i64 0,.int .i64 0],by kernel_rfl,rfl⟩ rfl rfl rfl ?_)
   intro g127
   refine Le (Ea Lx.elemT rfl rfl (SrcOf.blk (by kernel_rfl) rfl (by simp [Value.oneCell'])) (by unfold maxLen;omega) ?_)
   rintro p4 c4 hp4
   rw [tk_snoc out ⟨3,y.1,0,b⟩ rfl]
   refine La rfl ?_
   refine Ld ?_
   refine ⟨_,?_,_,⟨_,fu,b+1+y.2,n+1,out++[⟨3,y.1,0,b⟩],p4,c4,⟨by omega,by omega,by rw [htk,show b+1+y.2=b+(y.2+1) by omega];exact map_app,by omega,by simp [hon]⟩,rfl,(Za rfl (Za rfl (Za rfl (Za rfl rfl)))),rfl⟩,Sa⟩
   omega
  have hy:quoR (s.drop (b+1))=none:=by cases hz:quoR (s.drop (b+1)) with
   | none=>rfl
   | some y=>exact absurd ⟨y,hz⟩ hok
  have hqv:quoV s b=([],false):=by unfold quoV;rw [hy]
  rw [hqv]
  rw [hy] at htk
  have htk:toksR (s.length+1) s 0 = .error b:=htk
  refine Lm rfl ?_
  refine Lq (Qx rfl rfl) ?_
  refine Lq (Qx rfl rfl) ?_
  refine Lq (Qf (off:=1) rfl) ?_
  refine L0 (E1 rfl rfl rfl (by first | (simp;done) | (simp;omega)) ?_)
  try simp only [List.set_cons_zero,List.set_cons_succ]
  refine La rfl ?_
  refine Ld ?_
  refine Ts ?_
  refine Ts ?_
  refine TR ?_
  refine Lm rfl ?_
  refine Lq (Y2 rfl) ?_
  refine Ld ?_
  refine zF rfl ?_
  refine Ts ?_
  refine zU 4 (nB rfl) ?_
  refine Rq 0 rfl (Sr _) (Qf (off:=3) rfl) ?_
  refine Rq 1 rfl (Sr _) (Ql rfl rfl) ?_
  refine Rq 2 rfl (Sr _) (z8 [(0,1),(1,1)] [.int .i64 0,.int .i64 0] [_,_] [(0,_),(1,_)] (by unfold Zf;kernel_rfl) rfl rfl) ?_
  refine Rq 3 rfl (Sr _) (Qa rfl) ?_
  refine Rd0 (by rfl) ?_
  simp only [dS,dZ,dN]
  refine L0 (Es [_,_] rfl rfl rfl rfl (by simp) ?_)
  try simp only [splice,lC,lN,dS,cA,tS,tZ,dZ,nA,aN]
  refine Ld ?_
  refine T.ret ?_
  exact ⟨.inl rfl,_,_,res [_,_] rfl ⟨rvT rfl,rvA [_,_] rfl ⟨rfl,rfl,trivial⟩,trivial⟩,(by unfold TokPost lexR;rw [if_neg (by omega),htk];exact ⟨rfl,rfl⟩),Sa⟩
 have hq:s[b]'(by omega)≠39:=λ e=>hq (by rw [e];rfl)
 have hone:oneC (s.drop b) s[b] (s.drop (b+1))=(sgnL.find? (hasP (s.drop b))).map λ g=>(4,g,0,g.length):=by unfold oneC;rw [if_neg (by simp [hl]),if_neg (by simp [hd]),if_neg hq]
 rw [hone] at htk
 refine Ts ?_
 refine Ts ?_
 refine TR ?_
 refine Le (Ec (Lx.signs B) Tryz.func77 rfl rfl rfl ?_)
 rintro _ _ ⟨gs,rfl,rfl⟩
 try simp only [cA,nA]
 refine Lq (yI (e:=9) (sz:=1) rfl) ?_
 refine Lm rfl ?_
 refine Ld ?_
 refine yH ?_
 refine zG (λ mz fz lz => ∃ (f0:Fr) (j:Nat),(j<=14/\(sgnL.drop j).find? (hasP (s.drop b))=sgnL.find? (hasP (s.drop b)))/\mz=14-j/\fz=(upd (upd (upd (upd (upd (upd (upd (upd (upd f0 0 (tV s)) 3 (pV g3)) 4 (pV g17)) 5 (.slice po n co)) 6 (pV g6)) 7 (.bool true)) 40 (.slice (some ⟨gs,0,none⟩) 14 14)) 41 (iV 14)) 42 (iV j))/\lz=row (.slice (some ⟨gs,0,none⟩) 14 14) 9 1 14 (sgnL.map tV)::blk g6 [iV 0,.string .empty,iV 0,iV b] 171::tkR po n co out::scA g17 s b::blk g3 [iV 0,iV 0] 70::F) ?_ ?_
 . refine ⟨_,_,⟨_,0,⟨Nat.zero_le _,rfl⟩,rfl,(Za rfl (Za rfl (Za rfl (Za rfl (Za rfl (Za rfl (Za rfl (Za rfl (Za rfl rfl))))))))),rfl⟩,Sa⟩
 rintro mz fz lz ⟨f0,j,⟨hj,hjf⟩,hmz,rfl,rfl⟩
 subst mz
 refine Ts ?_
 refine TR ?_
 refine Lq (yM rfl rfl) ?_
 refine Ld ?_
 refine Ts ?_
 refine yN rfl (λ hlt=>?_) (λ hlt=>?_)
 .
  obtain ⟨g,hg⟩ : ∃ g,sgnL[j]? = some g:=⟨_,List.getElem?_eq_getElem (by show j<14;omega)⟩
  obtain ⟨hgl,hge⟩:=List.getElem?_eq_some_iff.1 hg
  rw [List.drop_eq_getElem_cons hgl,hge,List.find?_cons] at hjf
  refine Tk ?_
  refine Ts ?_
  refine yH ?_
  refine Ts ?_
  refine TR ?_
  refine Lq (Qi _ (e:=9) (sz:=1) rfl rfl rfl) ?_
  refine Lq (Ql (v:=tV g) rfl (by rw [<-hge];exact map_at _ _ _ hgl)) ?_
  refine La rfl ?_
  refine Ld ?_
  refine Ts ?_
  refine TR ?_
  refine Lm rfl ?_
  refine Lm rfl ?_
  refine Lq (Qn rfl) ?_
  refine Lq (Qf (off:=1) rfl) ?_
  refine Lq (Ql rfl rfl) ?_
  refine Lq (Qt.sliceS_sn b (by kernel_rfl) rfl rfl rfl (by omega)) ?_
  refine Lm rfl ?_
  refine Le (Ec (Lx.hasPre B (s.drop b) g) Tryz.func78 rfl rfl rfl ?_)
  rintro _ _ ⟨rfl,rfl⟩
  try simp only [cA,nA]
  refine Ld ?_
  refine Y9 rfl (λ hpre=>?_) (λ hpre=>?_)
  .
   rw [hpre] at hjf
   rw [<-hjf] at htk
   simp only [hasP,decide_eq_true_eq,List.length_drop] at hpre
   have hg1:1<=g.length:=(one_len (s:=s.drop b) (k:=4) (t:=g) (n:=0) (w:=g.length) ((one_at hbs).trans (by rw [hone,<-hjf];rfl))).1
   refine Ts ?_
   refine TR ?_
   refine Lm rfl ?_
   refine Lq (Qn rfl) ?_
   refine Lq (Qf (off:=1) rfl) ?_
   refine Lq (Ql rfl rfl) ?_
   refine Lm rfl ?_
   refine Lq (YU rfl) ?_
   refine Lq (Qd (r:=((b+g.length:Nat):Int)) rfl rfl (by rw [Ze];omega)) ?_
   refine Lq (Qn rfl) ?_
   refine Lq (Qf (off:=1) rfl) ?_
   refine L0 (E1 rfl rfl rfl (by first | (simp;done) | (simp;omega)) ?_)
   try simp only [List.set_cons_zero,List.set_cons_succ]
   refine Ld ?_
   refine Ts ?_
   refine TR ?_
   refine Lm rfl ?_
   refine Lm rfl ?_
   refine Lq (Qf (off:=3) rfl) ?_
   refine Lq (Ql rfl rfl) ?_
   refine Lq (z8 [(0,1),(1,1),(2,1),(3,1)] [.int .i64 0,.string .empty,.int .i64 0,.int .i64 0] [_,_,_,_] [(0,_),(1,_),(3,_)] (by unfold Zf;kernel_rfl) rfl rfl) ?_
   refine Le (zK [_,_,_,_] (e:=171) (sz:=4) ⟨.agg #[.int .i64 0,.string .empty,.int .i64 0,.int .i64 0],by kernel_rfl,rfl⟩ rfl rfl rfl ?_)
   intro g68
   refine Le (Ea Lx.elemT rfl rfl (SrcOf.blk (by kernel_rfl) rfl (by simp [Value.oneCell'])) (by unfold maxLen;omega) ?_)
   rintro p4 c4 hp4
   try simp only [cA,nA]
   rw [tk_snoc out ⟨4,g,0,b⟩ rfl]
   refine La rfl ?_
   refine Ld ?_
   refine zB ?_
   refine ⟨_,?_,_,⟨_,fu,b+g.length,n+1,out++[⟨4,g,0,b⟩],p4,c4,⟨by omega,by omega,by rw [htk];exact map_app,by omega,by simp [hon]⟩,rfl,(Za rfl (Za rfl (Za rfl (Za rfl rfl)))),rfl⟩,Sa⟩
   omega
  rw [hpre] at hjf
  refine Tk ?_
  refine TR ?_
  refine Lq (Qd rfl rfl (Ze)) ?_
  refine Lm rfl ?_
  refine Ld ?_
  refine ⟨_,?_,_,⟨_,j+1,⟨by omega,hjf⟩,rfl,(Za rfl (Za rfl (Za rfl (Za rfl (Za rfl (Za rfl (Za rfl (Za rfl (Za rfl rfl))))))))),rfl⟩,Sa⟩
  omega
 obtain rfl:j=14:=by omega
 have hjf:none=sgnL.find? (hasP (s.drop b)):=hjf
 rw [<-hjf] at htk
 have htk:toksR (s.length+1) s 0 = .error b:=htk
 refine zB ?_
 refine TR ?_
 refine La rfl ?_
 refine Ld ?_
 refine Ts ?_
 refine Ts ?_
 refine TR ?_
 refine Lm rfl ?_
 refine Lq (Y2 rfl) ?_
 refine Ld ?_
 refine zF rfl ?_
 refine Ts ?_
 refine zU 4 (nB rfl) ?_
 refine Rq 0 rfl (Sr _) (Qf (off:=3) rfl) ?_
 refine Rq 1 rfl (Sr _) (Ql rfl rfl) ?_
 refine Rq 2 rfl (Sr _) (z8 [(0,1),(1,1)] [.int .i64 0,.int .i64 0] [_,_] [(0,_),(1,_)] (by unfold Zf;kernel_rfl) rfl rfl) ?_
 refine Rq 3 rfl (Sr _) (Qa rfl) ?_
 refine Rd0 (by rfl) ?_
 simp only [dS,dZ,dN]
 refine L0 (Es [_,_] rfl rfl rfl rfl (by simp) ?_)
 try simp only [splice,lC,lN,dS,cA,tS,tZ,dZ,nA,aN]
 refine Ld ?_
 refine T.ret ?_
 exact ⟨.inl rfl,_,_,res [_,_] rfl ⟨rvT rfl,rvA [_,_] rfl ⟨rfl,rfl,trivial⟩,trivial⟩,(by unfold TokPost lexR;rw [if_neg (by omega),htk];exact ⟨rfl,rfl⟩),Sa⟩
open Go.RowKit
instance (priority := low) (m l:List Wp):Tail (m++l) l:=⟨λ _ H=>H.app_tail⟩
structure FnE (P:Program) (B:Wn) (g:FuncId) (args:Array Value) (pre:List Wp) (R:Value->List Wp->Prop) (X:Value->Prop):Prop where
  run : ∀ w F,Own B w (pre++F)->Calls P g args w λ e w'=>(∃ v l',e = .returned v/\R v l'/\Own B w' (l'++F))\/(∃ pv,e = .panicked (chainOf pv)/\X pv/\Own B w' F)
def FnEPost (P:Program) (B:Wn) (n:Nat) (fn:Func) (R:Value->List Wp->Prop) (X:Value->Prop) (F:List Wp):Post
  | .panic ch,_,l => ∃ pv,ch=chainOf pv/\X pv/\Sub l F
  | e,f,l=>FnPost P B n fn R F e f l
abbrev brk (k a:Int):Value := .iface 129 (.agg #[iV k,iV a])
def Xm {α:Type} (m:Except (Int×Int) α) (pv:Value):Prop := ∃ e,m = .error e/\pv=brk e.1 e.2
theorem FnEPost.dead {X:Value->Prop} {F l:List Wp} {pv:Value} (hx:X pv) (hs:Sub l F) : ∃ pv',chainOf pv=chainOf pv'/\X pv'/\Sub l F:=⟨pv,rfl,hx,hs⟩
theorem FnE.mono {P:Program} {B:Wn} {g:FuncId} {args:Array Value} {pre:List Wp} {R R':Value->List Wp->Prop} {X X':Value->Prop} (h:FnE P B g args pre R X) (hr : ∀ v l,R v l->R' v l) (hx : ∀ v,X v->X' v):FnE P B g args pre R' X':=⟨λ w F ho=>(h.run w F ho).mono λ _ _ k=>k.imp (λ ⟨v,l,a,b,c⟩=>⟨v,l,a,hr _ _ b,c⟩) (λ ⟨v,a,b,c⟩=>⟨v,a,hx _ b,c⟩)⟩
theorem Fn.e {P:Program} {B:Wn} {g:FuncId} {args:Array Value} {pre:List Wp} {R:Value->List Wp->Prop} {X:Value->Prop} (h:Fn P B g args pre R):FnE P B g args pre R X:=⟨λ w F ho=>(h.run w F ho).mono λ _ _ k => .inl k⟩
section
variable {P : Program} {B:Wn} {n:Nat} {ops:Array Oper} {rest:List Oper} {Φ:Post} {f:Fr} {l:List Wp}
theorem FnE.enter {g:FuncId} {fn:Func} {c:Code} {args:List Value} {pre:List Wp} {R:Value->List Wp->Prop} {X:Value->Prop} (hfn:P.funcs[g]? = some fn) (hc:fn.body=some c) (hn:fn.ntmps=n) (hl:args.length<=n)
    (h : ∀ F,T P B n c (FnEPost P B n fn R X F) (U (λ _=>none) ((List.range args.length).zip args)) (pre++F)):FnE P B g args.toArray pre R X:=⟨λ w F ho=>by
  refine calls_of_wp hfn hc ?_
  rw [hn,enter_eq args n hl]
  refine (h F).run _ w ⟨λ e f w' l hk ho'=>?_,λ c a d v w' k=>(by cases d <;> exact k)⟩ ho
  cases e with
  | panic ch =>
    obtain ⟨pv,rfl,hx,hs⟩:=hk
    exact ⟨rfl,.inr ⟨pv,rfl,hx,ho'.map hs⟩⟩
  | ret =>
    obtain ⟨he,v,l',hr,hR,hs⟩:=hk
    exact ⟨rfl,v,hr w' ho',.inl ⟨v,l',rfl,hR,ho'.map hs⟩⟩
  | normal =>
    obtain ⟨he,v,l',hr,hR,hs⟩:=hk
    exact ⟨rfl,v,hr w' ho',.inl ⟨v,l',rfl,hR,ho'.map hs⟩⟩
  | _=>obtain ⟨he,_⟩:=hk;rcases he with he | he <;> cases he⟩
theorem FnE.enter1 {g:FuncId} {fn:Func} {c:Code} {a0:Value} {pre:List Wp} {R:Value->List Wp->Prop} {X:Value->Prop} (n:Nat) (hfn:P.funcs[g]? = some fn) (hc:fn.body=some c) (hn:fn.ntmps=n) (hl:1<=n)
    (h : ∀ F,T P B n c (FnEPost P B n fn R X F) (upd (λ _=>none) 0 a0) (pre++F)):FnE P B g #[a0] pre R X:=FnE.enter (args:=[a0]) hfn hc hn hl h
theorem FnE.enter2 {g:FuncId} {fn:Func} {c:Code} {a0 a1:Value} {pre:List Wp} {R:Value->List Wp->Prop} {X:Value->Prop} (n:Nat) (hfn:P.funcs[g]? = some fn) (hc:fn.body=some c) (hn:fn.ntmps=n) (hl:2<=n)
    (h : ∀ F,T P B n c (FnEPost P B n fn R X F) (upd (upd (λ _=>none) 1 a1) 0 a0) (pre++F)):FnE P B g #[a0,a1] pre R X:=FnE.enter (args:=[a0,a1]) hfn hc hn hl h
theorem FnE.enter3 {g:FuncId} {fn:Func} {c:Code} {a0 a1 a2:Value} {pre:List Wp} {R:Value->List Wp->Prop} {X:Value->Prop} (n:Nat) (hfn:P.funcs[g]? = some fn) (hc:fn.body=some c) (hn:fn.ntmps=n) (hl:3<=n)
    (h : ∀ F,T P B n c (FnEPost P B n fn R X F) (upd (upd (upd (λ _=>none) 2 a2) 1 a1) 0 a0) (pre++F)):FnE P B g #[a0,a1,a2] pre R X:=FnE.enter (args:=[a0,a1,a2]) hfn hc hn hl h
structure Ee (P:Program) (B:Wn) (n:Nat) (o:Oper) (f:Fr) (l:List Wp) (K:Value->List Wp->Prop) (X:Value->List Wp->Prop):Prop where
  run : ∀ w (next:Act->World->Prop) Q,Own B w l->(∀ v w' l',K v l'->Own B w' l'->next ((act n f).put o.dst v) w')->(∀ pv w' l',X pv l'->Own B w' l'->Q (.panic (chainOf pv)) (act n f) w')->o.wp P (act n f) w next Q
section named
variable {t : Option Tmp} {ty:TypeId} {pos:String} {af:Array Edge} {gd:Option (Nat×Bool)} {K:Value->List Wp->Prop} {Y:Value->List Wp->Prop}
theorem Ee.call {g:FuncId} {fn:Func} {args:Array Operand} {ats:Array TypeId} {vs:List Value} {pre F:List Wp} {R:Value->List Wp->Prop} {X:Value->Prop} (hc:FnE P B g vs.toArray pre R X) (hf:P.funcs[g]? = some fn) (hn:(fn.name == "runtime.NumGoroutine")=false) (hb:fn.body.isNone=false)
    (ha:args.toList.map (ev n f)=vs.map some) [k:TakeL pre l F] (hx : ∀ pv,X pv->Y pv F) (h : ∀ v l',R v l'->K v (l'++F)):Ee P B n ⟨t,.call ⟨.value (.func g),args,ats⟩,ty,pos,af,gd⟩ f l K Y:=⟨λ w next Q ho hk hp=>by
  have hav:args.map (evu n f)=vs.toArray:=by
    have:args.toList.map (evu n f)=vs:=by
      have e:=congrArg (List.map (λ o:Option Value=>o.getD undef)) ha
      have e2:(λ x=>evu n f x)=evu n f:=rfl
      simp only [List.map_map,Function.comp_def,Option.getD_some,List.map_id'] at e
      exact e
    rw [<-Array.toList_inj,Array.toList_map]
    simpa using this
  have h0:=hc.run w F ho.takeL
  unfold Oper.wp execOp
  rw [Wk]
  have he:((do let c <-resolve (evu n f) ⟨.value (.func g),args,ats⟩ ty;invoke c.target c.args):Sem Next).run P w = .ok (.enter g vs.toArray) w:=by
    simp only [resolve,hav]
    have hg:evu n f (.func g) = .func (.func g) #[] #[]:=rfl
    have hn' : ¬ fn.name = "runtime.NumGoroutine" := by simpa using hn
    have hb' : ¬ fn.body=none:=λ e=>by rw [e] at hb;cases hb
    simp [hg,Deferred.ofValue,invoke,callFunc,hf,hn',hb']
  rw [he]
  show Calls P g vs.toArray w _
  refine Calls.mono h0 ?_
  rintro e w' (⟨v,l',rfl,hR,ho'⟩ | ⟨pv,rfl,hX,ho'⟩)
  . exact hk v w' _ (h v l' hR) ho'
  . exact hp pv w' _ (hx pv hX) ho'⟩
end named
theorem LW.ee {o:Oper} (hw:want n ops f o=true) (he:Ee P B n o f l (λ v l'=>LW P B n ops rest Φ (putd f o.dst v) l') (λ pv l'=>Φ (.panic (chainOf pv)) f l')):LW P B n ops (o::rest) Φ f l:=⟨λ Q w hf ho=>by
  unfold wpList
  rw [want_eq,if_pos hw]
  refine .inl (he.run w _ _ ho (λ v w' l' k ho'=>?_) (λ pv w' l' k ho'=>hf.go _ _ w' _ k ho'))
  rw [put_act]
  exact k.run Q w' hf ho'⟩
variable {m k i:Nat} {S:List Wp} {listed:Array Bool} {rest':List Oper}
theorem RO.ee {o:Oper} (hi:ops.toList.drop i=o::rest') (hw:want n ops f o=true) (he:Ee P B n o f l (λ v l'=>Sub l' S/\RW P B n ops m Φ k l' (listed.setIfInBounds i true) (putd f o.dst v) l') (λ pv l'=>Φ (.panic (chainOf pv)) f l')):RO P B n ops m Φ k S listed f l i:=⟨λ Q w hc hf ho=>by
  have hi':=getElem?_of_drop hi
  unfold wpOp
  simp only [hi']
  rw [want_eq,if_pos hw]
  refine .inl (he.run w _ _ ho (λ v w' l' hK ho'=>?_) (λ pv w' l' k ho'=>hf.go _ _ w' _ k ho'))
  rw [put_act]
  exact ⟨λ u=>Own B u l',.inl (λ u hu=>hu.map hK.1),ho',hK.2.run Q w' hc hf ho'⟩⟩
theorem RO.eeS {o:Oper} (hi:ops.toList.drop i=o::rest') (hw:want n ops f o=true) (he:Ee P B n o f l (λ v l'=>Sub l' S/\RW P B n ops m Φ k S (listed.setIfInBounds i true) (putd f o.dst v) l') (λ pv l'=>Φ (.panic (chainOf pv)) f l')):RO P B n ops m Φ k S listed f l i:=⟨λ Q w hc hf ho=>by
  have hi':=getElem?_of_drop hi
  unfold wpOp
  simp only [hi']
  rw [want_eq,if_pos hw]
  refine .inl (he.run w _ _ ho (λ v w' l' hK ho'=>?_) (λ pv w' l' k ho'=>hf.go _ _ w' _ k ho'))
  rw [put_act]
  exact ⟨λ u=>Own B u S,.inl (λ u hu=>hu),ho'.map hK.1,hK.2.run Q w' hc hf ho'⟩⟩
section named
variable {t : Tmp} {op:Op} {ty:TypeId} {pos:String} {af:Array Edge} {gd:Option (Nat×Bool)}
theorem LW.p (hw:want n ops f ⟨some t,op,ty,pos,af,gd⟩=true) (he:Ee P B n ⟨some t,op,ty,pos,af,gd⟩ f l (λ v l'=>LW P B n ops rest Φ (upd f t v) l') (λ pv l'=>Φ (.panic (chainOf pv)) f l')):LW P B n ops (⟨some t,op,ty,pos,af,gd⟩::rest) Φ f l:=LW.ee hw he
theorem LW.p0 (hw:want n ops f ⟨none,op,ty,pos,af,gd⟩=true) (he:Ee P B n ⟨none,op,ty,pos,af,gd⟩ f l (λ _ l'=>LW P B n ops rest Φ f l') (λ pv l'=>Φ (.panic (chainOf pv)) f l')):LW P B n ops (⟨none,op,ty,pos,af,gd⟩::rest) Φ f l:=LW.ee hw he
theorem RO.p (hi:ops.toList.drop i=⟨some t,op,ty,pos,af,gd⟩::rest') (hw:want n ops f ⟨some t,op,ty,pos,af,gd⟩=true) (he:Ee P B n ⟨some t,op,ty,pos,af,gd⟩ f l (λ v l'=>Sub l' S/\RW P B n ops m Φ k l' (listed.setIfInBounds i true) (upd f t v) l') (λ pv l'=>Φ (.panic (chainOf pv)) f l')):RO P B n ops m Φ k S listed f l i:=RO.ee hi hw he
theorem RO.pS (hi:ops.toList.drop i=⟨some t,op,ty,pos,af,gd⟩::rest') (hw:want n ops f ⟨some t,op,ty,pos,af,gd⟩=true) (he:Ee P B n ⟨some t,op,ty,pos,af,gd⟩ f l (λ v l'=>Sub l' S/\RW P B n ops m Φ k S (listed.setIfInBounds i true) (upd f t v) l') (λ pv l'=>Φ (.panic (chainOf pv)) f l')):RO P B n ops m Φ k S listed f l i:=RO.eeS hi hw he
end named
end
open Go.RowKit
structure Sq where
  p:Option Addr
  c:Nat
  en:Int
  L:List Tok
abbrev srB (gs:Nat) (q:Sq) (a d:Nat):Wp:=blk gs [.slice q.p q.L.length q.c,iV a,iV q.en,iV d] 133
abbrev srT (q:Sq):Wp:=tkR q.p q.L.length q.c q.L
def placeR (en:Int) (L:List Tok) (a:Nat):Int:=match L[a]? with | some x=>x.at_ | none=>en
theorem tk_cell {L:List Tok} {k:Nat} {y:Tok} (hy:L[k]? = some y) (f:Nat) {v:Value} (hv:(tokC y)[f]? = some v):(L.flatMap tokC)[0+k*4+f]? = some v:=by
  obtain ⟨h1,h2⟩:=List.getElem?_eq_some_iff.1 hy
  exact flat_cell tokC 4 L (λ _ _=>rfl) k f h1 (by rw [h2];exact hv)
theorem Ps.place (B:Wn) (gs:Nat) (q:Sq) (a d:Nat) (hq:q.L.length<2^30) (ha:a<2^30):Fn Tryz.prog B 93 #[pV gs] [srB gs q a d,srT q] (λ u l=>u=iV (placeR q.en q.L a)/\l=[srB gs q a d,srT q]):=by
 obtain ⟨p,c,en,L⟩:=q
 dsimp only at hq
 dsimp only [srB,srT]
 refine Wq 28 Tryz.func93 rfl rfl (nB rfl) (λ F=>?_)
 try simp only [cA,nA]
 refine Ts ?_
 refine TR ?_
 refine La rfl ?_
 refine Ld ?_
 refine Ts ?_
 refine Ts ?_
 refine zU 10 (nB rfl) ?_
 refine Rq 0 rfl (Sr _) (Qm rfl) ?_
 refine Rq 1 rfl (Sr _) (Qn rfl) ?_
 refine Rq 2 rfl (Sr _) (Qf (off:=1) rfl) ?_
 refine Rq 3 rfl (Sr _) (Ql rfl rfl) ?_
 refine Rq 4 rfl (Sr _) (Qm rfl) ?_
 refine Rq 5 rfl (Sr _) (Qn rfl) ?_
 refine Rq 6 rfl (Sr _) (Q0 rfl) ?_
 refine Rq 7 rfl (Sr _) (Ql rfl rfl) ?_
 refine Rq 8 rfl (Sr _) (yI (e:=171) (sz:=4) rfl) ?_
 refine Rq 9 rfl (Sr _) (yM rfl rfl) ?_
 refine Rd0 (by rfl) ?_
 simp only [dS,dZ,dN]
 refine Ld ?_
 refine yN rfl (λ hlt=>?_) (λ hlt=>?_)
 .
  refine T.own λ w ho=>?_
  obtain ⟨g,rfl⟩:=((ho.map Sa:Own B w [tkR p L.length c L]).slice_at (p:=p) (m:=L.length) (c:=c)).2.1 (by omega)
  clear ho
  obtain ⟨y,hy⟩ : ∃ y,L[a]? = some y:=⟨_,List.getElem?_eq_getElem (by omega)⟩
  refine Ts ?_
  refine zU 11 (nB rfl) ?_
  refine Rq 0 rfl (Sr _) (Qm rfl) ?_
  refine Rq 1 rfl (Sr _) (Qn rfl) ?_
  refine Rq 2 rfl (Sr _) (Q0 rfl) ?_
  refine Rq 3 rfl (Sr _) (Ql rfl rfl) ?_
  refine Rq 4 rfl (Sr _) (Qm rfl) ?_
  refine Rq 5 rfl (Sr _) (Qn rfl) ?_
  refine Rq 6 rfl (Sr _) (Qf (off:=1) rfl) ?_
  refine Rq 7 rfl (Sr _) (Ql rfl rfl) ?_
  refine Rq 8 rfl (Sr _) (Qi _ (e:=171) (sz:=4) rfl rfl rfl) ?_
  refine Rq 9 rfl (Sr _) (Qf (off:=3) rfl) ?_
  refine Rq 10 rfl (Sr _) (Ql (v:=iV y.at_) rfl (tk_cell hy 3 rfl)) ?_
  refine Rd0 (by rfl) ?_
  simp only [dS,dZ,dN]
  refine La rfl ?_
  refine Ld ?_
  refine T.ret ?_
  exact ⟨.inl rfl,_,_,res [_] rfl ⟨rvT rfl,trivial⟩,⟨by unfold placeR;rw [hy];rfl,rfl⟩,Sa⟩
 refine Tk ?_
 refine Ts ?_
 refine TR ?_
 refine Lm rfl ?_
 refine Lq (Qn rfl) ?_
 refine Lq (Qf (off:=2) rfl) ?_
 refine Lq (Ql rfl rfl) ?_
 refine La rfl ?_
 refine Ld ?_
 refine T.ret ?_
 exact ⟨.inl rfl,_,_,res [_] rfl ⟨rvT rfl,trivial⟩,⟨by unfold placeR;rw [List.getElem?_eq_none (by omega)];rfl,rfl⟩,Sa⟩
theorem Ps.fail (B:Wn) (gs:Nat) (q:Sq) (a d:Nat) (hq:q.L.length<2^30) (k:Int) (ha:a<2^30:=by omega):FnE Tryz.prog B 48 #[pV gs,iV k] [srB gs q a d,srT q] (λ _ _=>False) (Xm (α:=Unit) (.error (k,placeR q.en q.L a))):=by
  refine FnE.enter2 10 Tryz.func48 rfl rfl (nB rfl) (λ F=>?_)
  try simp only [cA,nA]
  refine TR ?_
  refine Lm rfl ?_
  refine Lm rfl ?_
  refine Le (Ec (Ps.place B gs q a d hq ha) Tryz.func93 rfl rfl rfl ?_)
  rintro _ _ ⟨rfl,rfl⟩
  try simp only [cA,nA]
  refine Lq (z8 [(0,1),(1,1)] [.int .i64 0,.int .i64 0] [_,_] [(0,_),(1,_)] (by unfold Zf;kernel_rfl) rfl rfl) ?_
  refine Lq (z8 [(0,2)] [.int .i64 0,.int .i64 0] [_,_] [(0,_)] (by unfold Zf;kernel_rfl) rfl rfl) ?_
  refine Lq (ZF rfl) ?_
  refine LW.dies (Dx.pan rfl) ?_
  exact FnEPost.dead ⟨_,rfl,rfl⟩ Sa
def isT (L:List Tok) (a:Nat) (k:Int) (ts:List Str):Bool:=match L[a]? with | none=>false | some x=>decide (x.kind=k) && (ts.isEmpty || ts.contains x.text)
abbrev sC (t:Str):List Value:=[tV t]
theorem Ps.is (B:Wn) (S:List Wp) (gs:Nat) (q:Sq) (a d:Nat) (hq:q.L.length<2^30) (k:Int) (tp:Option Addr) (m tc:Nat) (ts:List Str) (hm:ts.length=m) (ht:FlV B S sC (.slice tp m tc) ts) (ha:a<2^30:=by omega) (hmb:m<2^30:=by omega) :
  Fn Tryz.prog B 91 #[pV gs,iV k,.slice tp m tc] (srB gs q a d::srT q::S) (λ u l=>u = .bool (isT q.L a k ts)/\l=srB gs q a d::srT q::S):=by
 obtain ⟨p,c,en,L⟩:=q
 dsimp only at hq
 dsimp only [srB,srT]
 refine Ws 57 Tryz.func91 rfl rfl (nB rfl) (λ F=>?_)
 try simp only [cA,nA]
 refine Ts ?_
 refine TR ?_
 refine La rfl ?_
 refine Ld ?_
 refine Ts ?_
 refine Ts ?_
 refine zU 25 (nB rfl) ?_
 refine Rq 0 rfl (Sr _) (Qm rfl) ?_
 refine Rq 1 rfl (Sr _) (Qn rfl) ?_
 refine Rq 2 rfl (Sr _) (Qf (off:=1) rfl) ?_
 refine Rq 3 rfl (Sr _) (Ql rfl rfl) ?_
 refine Rq 4 rfl (Sr _) (Qm rfl) ?_
 refine Rq 5 rfl (Sr _) (Qn rfl) ?_
 refine Rq 6 rfl (Sr _) (Q0 rfl) ?_
 refine Rq 7 rfl (Sr _) (Ql rfl rfl) ?_
 refine Rq 8 rfl (Sr _) (yI (e:=171) (sz:=4) rfl) ?_
 refine Rq 9 rfl (Sr _) (zX rfl rfl) ?_
 refine Rq 10 rfl (Sr _) (Qm rfl) ?_
 refine YE (t:=19) rfl (λ hge=>?_) (λ hge=>?_)
 .
  try replace hge:=of_decide_eq_true hge
  have hn:isT L a k ts=false:=by unfold isT;rw [List.getElem?_eq_none (by omega)]
  refine yY 11 rfl (Sr _) ?_
  refine yY 12 rfl (Sr _) ?_
  refine yY 13 rfl (Sr _) ?_
  refine yY 14 rfl (Sr _) ?_
  refine yY 15 rfl (Sr _) ?_
  refine yY 16 rfl (Sr _) ?_
  refine yY 17 rfl (Sr _) ?_
  refine yY 18 rfl (Sr _) ?_
  refine yY 19 rfl (Sr _) ?_
  refine yY 20 rfl (Sr _) ?_
  refine yY 21 rfl (Sr _) ?_
  refine yY 22 rfl (Sr _) ?_
  refine yY 23 rfl (Sr _) ?_
  refine Rq 24 rfl (Sr _) (Qp rfl rfl) ?_
  refine Rd0 (by rfl) ?_
  simp only [dS,dZ,dN]
  refine Ld ?_
  refine zF rfl ?_
  refine Ts ?_
  refine TR ?_
  refine La rfl ?_
  refine Ld ?_
  refine T.ret ?_
  exact ⟨.inl rfl,_,_,res [_] rfl ⟨rvT rfl,trivial⟩,⟨by rw [hn];rfl,rfl⟩,Sa⟩
 try replace hge:=of_decide_eq_false hge
 refine RW.own λ w ho=>?_
 obtain ⟨g,rfl⟩:=((ho.map Sa:Own B w [tkR p L.length c L]).slice_at (p:=p) (m:=L.length) (c:=c)).2.1 (by omega)
 clear ho
 obtain ⟨y,hy⟩ : ∃ y,L[a]? = some y:=⟨_,List.getElem?_eq_getElem (by omega)⟩
 refine Rq 11 rfl (Sr _) (Qm rfl) ?_
 refine Rq 12 rfl (Sr _) (Qn rfl) ?_
 refine Rq 13 rfl (Sr _) (Q0 rfl) ?_
 refine Rq 14 rfl (Sr _) (Ql rfl rfl) ?_
 refine Rq 15 rfl (Sr _) (Qm rfl) ?_
 refine Rq 16 rfl (Sr _) (Qn rfl) ?_
 refine Rq 17 rfl (Sr _) (Qf (off:=1) rfl) ?_
 refine Rq 18 rfl (Sr _) (Ql rfl rfl) ?_
 refine Rq 19 rfl (Sr _) (Qi _ (e:=171) (sz:=4) rfl rfl rfl) ?_
 refine Rq 20 rfl (Sr _) (Q0 rfl) ?_
 refine Rq 21 rfl (Sr _) (Ql (v:=iV y.kind) rfl (tk_cell hy 0 rfl)) ?_
 refine Rq 22 rfl (Sr _) (Qm rfl) ?_
 refine Rq 23 rfl (Sr _) (yW rfl rfl) ?_
 refine Rq 24 rfl (Sr _) (Qp rfl rfl) ?_
 refine Rd0 (by rfl) ?_
 simp only [dS,dZ,dN]
 refine Ld ?_
 refine yN rfl (λ hk=>?_) (λ hk=>?_)
 .
  have hn:isT L a k ts=false:=by unfold isT;rw [hy];simp [hk]
  refine Ts ?_
  refine TR ?_
  refine La rfl ?_
  refine Ld ?_
  refine T.ret ?_
  exact ⟨.inl rfl,_,_,res [_] rfl ⟨rvT rfl,trivial⟩,⟨by rw [hn];rfl,rfl⟩,Sa⟩
 have hi:isT L a k ts=(ts.isEmpty || ts.contains y.text):=by unfold isT;rw [hy];simp at hk;simp [hk]
 refine Tk ?_
 refine Ts ?_
 refine Ts ?_
 refine TR ?_
 refine Lm rfl ?_
 refine Lq (yI (e:=9) (sz:=1) rfl) ?_
 refine Lm rfl ?_
 refine Ld ?_
 refine yH ?_
 refine zG (λ mz fz lz => ∃ (f0:Fr) (j:Nat),(j<=m/\ts.contains y.text=(ts.drop j).contains y.text)/\mz=m-j/\fz=(upd (upd (upd (upd (upd f0 0 (pV gs)) 2 (.slice tp m tc)) 34 (.slice tp m tc)) 35 (iV m)) 36 (iV j))/\lz=blk gs [.slice (some ⟨g,0,none⟩) L.length c,iV a,iV en,iV d] 133::tkR (some ⟨g,0,none⟩) L.length c L::(S++F)) ?_ ?_
 . refine ⟨_,_,⟨_,0,⟨Nat.zero_le _,rfl⟩,rfl,(Za rfl (Za rfl (Za rfl (Za rfl (Za rfl rfl))))),rfl⟩,Sa⟩
 rintro mz fz lz ⟨f0,j,⟨hj,hcn⟩,hmz,rfl,rfl⟩
 subst mz
 refine Ts ?_
 refine TR ?_
 refine Lq (yM rfl rfl) ?_
 refine Ld ?_
 refine Ts ?_
 refine yN rfl (λ hlt=>?_) (λ hlt=>?_)
 .
  obtain ⟨bt,ot,rfl,hrd⟩:=ht.at (sz:=1) (λ _=>rfl) (by omega)
  obtain ⟨t,hT⟩ : ∃ t,ts[j]? = some t:=⟨_,List.getElem?_eq_getElem (by omega)⟩
  obtain ⟨hTl,hTe⟩:=List.getElem?_eq_some_iff.1 hT
  rw [List.drop_eq_getElem_cons hTl,hTe] at hcn
  refine Tk ?_
  refine Ts ?_
  refine yH ?_
  refine Ts ?_
  refine TR ?_
  refine Lq (Qi _ (e:=9) (sz:=1) rfl rfl rfl) ?_
  refine Lq (zN (v:=tV t) rfl (λ w ho=>hrd j t hT w (ho.map Sa) 0 (tV t) rfl)) ?_
  refine La rfl ?_
  refine Ld ?_
  refine Ts ?_
  refine zU 13 (nB rfl) ?_
  refine Rq 0 rfl (Sr _) (Qm rfl) ?_
  refine Rq 1 rfl (Sr _) (Qn rfl) ?_
  refine Rq 2 rfl (Sr _) (Q0 rfl) ?_
  refine Rq 3 rfl (Sr _) (Ql rfl rfl) ?_
  refine Rq 4 rfl (Sr _) (Qm rfl) ?_
  refine Rq 5 rfl (Sr _) (Qn rfl) ?_
  refine Rq 6 rfl (Sr _) (Qf (off:=1) rfl) ?_
  refine Rq 7 rfl (Sr _) (Ql rfl rfl) ?_
  refine Rq 8 rfl (Sr _) (Qi _ (e:=171) (sz:=4) rfl rfl rfl) ?_
  refine Rq 9 rfl (Sr _) (Qf (off:=1) rfl) ?_
  refine Rq 10 rfl (Sr _) (Ql (v:=tV y.text) rfl (tk_cell hy 1 rfl)) ?_
  refine Rq 11 rfl (Sr _) (Qm rfl) ?_
  refine Rq 12 rfl (Sr _) (Z3 rfl rfl) ?_
  refine Rd0 (by rfl) ?_
  simp only [dS,dZ,dN]
  refine Ld ?_
  refine yN rfl (λ he=>?_) (λ he=>?_)
  .
   have hn:isT L a k ts=true:=by rw [hi,hcn,he];simp
   refine Ts ?_
   refine TR ?_
   refine La rfl ?_
   refine Ld ?_
   refine T.ret ?_
   exact ⟨.inl rfl,_,_,res [_] rfl ⟨rvT rfl,trivial⟩,⟨by rw [hn];rfl,rfl⟩,Sa⟩
  refine Tk ?_
  refine TR ?_
  refine Lq (Qd rfl rfl (Ze)) ?_
  refine Lm rfl ?_
  refine Ld ?_
  refine ⟨_,?_,_,⟨_,j+1,⟨by omega,by rw [hcn];simp [he]⟩,rfl,(Za rfl (Za rfl (Za rfl (Za rfl (Za rfl rfl))))),rfl⟩,Sa⟩
  omega
 rw [List.drop_of_length_le (by omega)] at hcn
 refine zB ?_
 refine Ts ?_
 refine TR ?_
 refine Lm rfl ?_
 refine Lq (yI (e:=9) (sz:=1) rfl) ?_
 refine Lq (yU rfl rfl) ?_
 refine La rfl ?_
 refine Ld ?_
 refine T.ret ?_
 exact ⟨.inl rfl,_,_,res [_] rfl ⟨rvT rfl,trivial⟩,⟨congrArg Value.bool (by rw [hi,hcn];subst hm;cases ts <;> simp <;> omega),rfl⟩,Sa⟩
abbrev oneT (L:List Tok) (a:Nat) (t:Str):Bool:=isT L a 1 [t] || isT L a 4 [t]
def mayA (L:List Tok):Nat->List Str->Option Nat
  | a,[]=>some a
  | a,t::ts=>if oneT L a t=true then mayA L (a+1) ts else none
theorem isT_lt {L:List Tok} {a:Nat} {k:Int} {ts:List Str} (h:isT L a k ts=true):a<L.length:=by
  rcases Nat.lt_or_ge a L.length with q | q
  . exact q
  . unfold isT at h;rw [List.getElem?_eq_none q] at h;cases h
theorem oneT_lt {L:List Tok} {a:Nat} {t:Str} (h:oneT L a t=true):a<L.length:=by
  rcases Bool.or_eq_true _ _ ▸ h with q | q
  . exact isT_lt q
  . exact isT_lt q
theorem mayA_cons {L:List Tok} {a:Nat} {t:Str} {ts:List Str}:mayA L a (t::ts)=if oneT L a t=true then mayA L (a+1) ts else none:=rfl
theorem Ps.may (B:Wn) (S:List Wp) (gs:Nat) (q:Sq) (a d:Nat) (tp:Option Addr) (m tc:Nat) (ts:List Str) (hm:ts.length=m) (ht:FlV B S sC (.slice tp m tc) ts) (hq:q.L.length<2^30:=by omega) (ha:a<2^29:=by omega) (hmb:m<2^20:=by omega) :
  Fn Tryz.prog B 47 #[pV gs,.slice tp m tc] (srB gs q a d::srT q::S) (λ u l=>u = .bool (mayA q.L a ts).isSome/\l=srB gs q ((mayA q.L a ts).getD a) d::srT q::S):=by
 refine Wr 42 Tryz.func47 rfl rfl (nB rfl) (λ F=>?_)
 try simp only [cA,nA]
 refine Ts ?_
 refine TR ?_
 refine La rfl ?_
 refine Ld ?_
 refine Ts ?_
 refine TR ?_
 refine Lm rfl ?_
 refine Lq (Qn rfl) ?_
 refine Lq (Qf (off:=1) rfl) ?_
 refine Lq (Ql rfl rfl) ?_
 refine La rfl ?_
 refine Ld ?_
 refine Ts ?_
 refine Ts ?_
 refine TR ?_
 refine Lm rfl ?_
 refine Lq (yI (e:=9) (sz:=1) rfl) ?_
 refine Lm rfl ?_
 refine Ld ?_
 refine yH ?_
 refine zG (λ mz fz lz => ∃ (f0:Fr) (j b:Nat),(j<=m/\b=a+j/\mayA q.L a ts=mayA q.L b (ts.drop j))/\mz=m-j/\fz=(upd (upd (upd (upd (upd f0 0 (pV gs)) 5 (iV a)) 12 (.slice tp m tc)) 13 (iV m)) 14 (iV j))/\lz=srB gs q b d::srT q::(S++F)) ?_ ?_
 . refine ⟨_,_,⟨_,0,a,⟨Nat.zero_le _,rfl,rfl⟩,rfl,(Za rfl (Za rfl (Za rfl (Za rfl (Za rfl rfl))))),rfl⟩,Sa⟩
 rintro mz fz lz ⟨f0,j,b,⟨hj,hb,hmy⟩,hmz,rfl,rfl⟩
 subst mz
 refine Ts ?_
 refine TR ?_
 refine Lq (yM rfl rfl) ?_
 refine Ld ?_
 refine Ts ?_
 refine yN rfl (λ hlt=>?_) (λ hlt=>?_)
 .
  obtain ⟨bt,ot,rfl,hrd⟩:=ht.at (sz:=1) (λ _=>rfl) (by omega)
  obtain ⟨t,hT⟩ : ∃ t,ts[j]? = some t:=⟨_,List.getElem?_eq_getElem (by omega)⟩
  obtain ⟨hTl,hTe⟩:=List.getElem?_eq_some_iff.1 hT
  rw [List.drop_eq_getElem_cons hTl,hTe,mayA_cons] at hmy
  refine Tk ?_
  refine Ts ?_
  refine yH ?_
  refine Ts ?_
  refine TR ?_
  refine Lq (Qi _ (e:=9) (sz:=1) rfl rfl rfl) ?_
  refine Lq (zN (v:=tV t) rfl (λ w ho=>hrd j t hT w (ho.map Sa) 0 (tV t) rfl)) ?_
  refine La rfl ?_
  refine Ld ?_
  refine Ts ?_
  refine Ts ?_
  refine TR ?_
  refine Lm rfl ?_
  refine Lm rfl ?_
  refine Le (zK [_] (e:=9) (sz:=1) ⟨.string .empty,by kernel_rfl,rfl⟩ rfl rfl rfl ?_)
  intro g20
  refine Le (Ec (Ps.is B [blk g20 [tV t] 9] gs q b d hq 1 (some ⟨g20,0,none⟩) 1 1 [t] rfl (FlV.blk (x:=[t]) (g:=sC) rfl)) Tryz.func91 rfl rfl rfl ?_)
  rintro _ _ ⟨rfl,rfl⟩
  try simp only [cA,nA]
  by_cases h1:isT q.L b 1 [t]=true
  .
   have ho1:oneT q.L b t=true:=by unfold oneT;rw [h1];rfl
   have hlt2:=oneT_lt ho1
   rw [if_pos ho1] at hmy
   rw [h1]
   refine Lq (Y2 rfl) ?_
   refine Lm rfl ?_
   refine yT (t:=23) rfl rfl ?_
   refine Ls rfl ?_
   refine Ls rfl ?_
   refine Ls rfl ?_
   refine Ls rfl ?_
   refine Ls rfl ?_
   refine Lq (Qp rfl rfl) ?_
   refine Ld ?_
   refine yQ rfl ?_
   refine Tk ?_
   refine TR ?_
   refine Lm rfl ?_
   refine Lq (Qn rfl) ?_
   refine Lq (Qf (off:=1) rfl) ?_
   refine Lq (Ql rfl rfl) ?_
   refine Lq (Qd (r:=((b+1:Nat):Int)) rfl rfl (by rw [Ze];omega)) ?_
   refine Lq (Qn rfl) ?_
   refine Lq (Qf (off:=1) rfl) ?_
   refine L0 (E1 rfl rfl rfl (by first | (simp;done) | (simp;omega)) ?_)
   try simp only [List.set_cons_zero,List.set_cons_succ]
   refine Ld ?_
   refine TR ?_
   refine Lq (Qd rfl rfl (Ze)) ?_
   refine Lm rfl ?_
   refine Ld ?_
   refine ⟨_,?_,_,⟨_,j+1,b+1,⟨by omega,by omega,hmy⟩,rfl,(Za rfl (Za rfl (Za rfl (Za rfl (Za rfl rfl))))),rfl⟩,Sa⟩
   omega
  rw [Bool.not_eq_true] at h1
  rw [h1]
  refine Lq (Y2 rfl) ?_
  refine Lm rfl ?_
  refine zQ (t:=23) rfl rfl ?_
  refine Lm rfl ?_
  refine Lm rfl ?_
  refine Le (zK [_] (e:=9) (sz:=1) ⟨.string .empty,by kernel_rfl,rfl⟩ rfl rfl rfl ?_)
  intro g26
  refine Le (Ec (Ps.is B [blk g26 [tV t] 9] gs q b d hq 4 (some ⟨g26,0,none⟩) 1 1 [t] rfl (FlV.blk (x:=[t]) (g:=sC) rfl)) Tryz.func91 rfl rfl rfl ?_)
  rintro _ _ ⟨rfl,rfl⟩
  try simp only [cA,nA]
  by_cases h2:isT q.L b 4 [t]=true
  .
   have ho1:oneT q.L b t=true:=by unfold oneT;rw [h2,Bool.or_true]
   have hlt2:=oneT_lt ho1
   rw [if_pos ho1] at hmy
   rw [h2]
   refine Lq (Y2 rfl) ?_
   refine Lq (Qp rfl rfl) ?_
   refine Ld ?_
   refine yQ rfl ?_
   refine Tk ?_
   refine TR ?_
   refine Lm rfl ?_
   refine Lq (Qn rfl) ?_
   refine Lq (Qf (off:=1) rfl) ?_
   refine Lq (Ql rfl rfl) ?_
   refine Lq (Qd (r:=((b+1:Nat):Int)) rfl rfl (by rw [Ze];omega)) ?_
   refine Lq (Qn rfl) ?_
   refine Lq (Qf (off:=1) rfl) ?_
   refine L0 (E1 rfl rfl rfl (by first | (simp;done) | (simp;omega)) ?_)
   try simp only [List.set_cons_zero,List.set_cons_succ]
   refine Ld ?_
   refine TR ?_
   refine Lq (Qd rfl rfl (Ze)) ?_
   refine Lm rfl ?_
   refine Ld ?_
   refine ⟨_,?_,_,⟨_,j+1,b+1,⟨by omega,by omega,hmy⟩,rfl,(Za rfl (Za rfl (Za rfl (Za rfl (Za rfl rfl))))),rfl⟩,Sa⟩
   omega
  rw [Bool.not_eq_true] at h2
  rw [if_neg (by unfold oneT;rw [h1,h2];decide)] at hmy
  rw [h2]
  rw [hmy]
  dsimp only [Option.isSome,Option.getD]
  refine Lq (Y2 rfl) ?_
  refine Lq (Qp rfl rfl) ?_
  refine Ld ?_
  refine zF rfl ?_
  refine Ts ?_
  refine TR ?_
  refine Lm rfl ?_
  refine Lm rfl ?_
  refine Lq (Qn rfl) ?_
  refine Lq (Qf (off:=1) rfl) ?_
  refine L0 (E1 rfl rfl rfl (by first | (simp;done) | (simp;omega)) ?_)
  try simp only [List.set_cons_zero,List.set_cons_succ]
  refine Ld ?_
  refine Ts ?_
  refine TR ?_
  refine La rfl ?_
  refine Ld ?_
  refine T.ret ?_
  exact ⟨.inl rfl,_,_,res [_] rfl ⟨rvT rfl,trivial⟩,⟨rfl,rfl⟩,Sa⟩
 rw [List.drop_of_length_le (by omega)] at hmy
 have hmy:mayA q.L a ts=some b:=hmy
 rw [hmy]
 dsimp only [Option.isSome,Option.getD]
 refine zB ?_
 refine Ts ?_
 refine TR ?_
 refine La rfl ?_
 refine Ld ?_
 refine T.ret ?_
 exact ⟨.inl rfl,_,_,res [_] rfl ⟨rvT rfl,trivial⟩,⟨rfl,rfl⟩,Sa⟩
end Go.Proofs.YtnnfjemaeefbiaaGreatDoor
