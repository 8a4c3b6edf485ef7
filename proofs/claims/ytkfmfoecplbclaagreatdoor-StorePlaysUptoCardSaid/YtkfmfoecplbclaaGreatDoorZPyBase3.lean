/- The texts SlZ DkZ, one behind the other: what the law leans on. Conditions: as each theorem says. -/
import Derived.Test.YtkfmfoecplbclaaGreatDoorZPyBase2
set_option linter.unusedSimpArgs false
set_option linter.unusedVariables false
set_option maxRecDepth 100000
set_option maxHeartbeats 16000000
namespace Go.Proofs.YtkfmfoecplbclaaGreatDoor
open Go.RowKit
section
variable {P : Program} {B:Wn} {n:Nat} {S l:List Wp} {f:Fr} {Φ:Post} {ops:Array Oper} {rest:List Oper}
variable {t : Tmp} {op:Op} {ty:TypeId} {pos:String} {af:Array Edge} {gd:Option (Nat×Bool)} {v:Value}
def slZ (P:Program) (t sz:Nat):Bool:=match P.underlying t with | some (.slice e)=>decide (szOf P e=some sz) | _=>false
def slL (P:Program) (t:Nat):Bool:=match P.underlying t with | some (.slice e)=>(szOf P e).isSome | _=>false
theorem slZ_spec {t sz:Nat} (h:slZ P t sz=true) : ∃ e,sliceB P t e sz=true:=by
  unfold slZ at h
  split at h
  . rename_i e he
    exact ⟨e,by unfold sliceB;rw [he];simpa using h⟩
  . cases h
theorem slL_spec {t:Nat} (h:slL P t=true) : ∃ e sz,sliceB P t e sz=true:=by
  unfold slL at h
  split at h
  . rename_i e he
    obtain ⟨sz,hs⟩:=Option.isSome_iff_exists.1 h
    exact ⟨e,sz,by unfold sliceB;rw [he];simp [hs]⟩
  . cases h
theorem Qt.lenZ {d:Option Tmp} {t:TypeId} {x:Operand} {p:Option Addr} {len cap:Nat} {ty2:TypeId} (ht:slL P t=true) (hx:ev n f x=some (.slice p len cap)):Qt P B n S ⟨d,.call ⟨.builtin .len,#[x],#[t]⟩,ty2,pos,af,gd⟩ f (.int .i64 len):=by
  obtain ⟨e,sz,h⟩:=slL_spec ht
  exact yI h hx
theorem Qt.indexZ {d:Option Tmp} {t:Nat} {x y:Operand} {g o len cap:Nat} {k:IntKind} {i:Int} {j:Nat} (sz:Nat) (ht:slZ P t sz=true) (hx:ev n f x=some (.slice (some ⟨g,o,none⟩) len cap)) (hy:ev n f y=some (.int k i)) (hj:i=(j:Int)) (hl:j<len:=by omega) :
    Qt P B n S ⟨d,.indexAddr t x y,ty,pos,af,gd⟩ f (.pointer (some ⟨g,o+j*sz,none⟩)):=by
  obtain ⟨e,h⟩:=slZ_spec ht
  exact Qi j (ht:=h) hx hy hj (hl:=hl)
theorem Qt.loadAggZ {d:Option Tmp} {t g o:Nat} {C:List Value} {x:Operand} (k:Nat) (vs:List Value) (h1:aggB P t k=true) (hk:vs.length=k) (hx:ev n f x=some (.pointer (some ⟨g,o,none⟩))) [r:Rd B g S C] (hv:rdl C o vs):Qt P B n S ⟨d,.load t x,ty,pos,af,gd⟩ f (.agg vs.toArray):=by
  subst hk
  exact QL vs (h1:=h1) hx hv
def Zqt (P:Program) (B:Wn) (n:Nat) (ops:Array Oper) (S:List Wp) (f:Fr) (o:Oper) (v:Value):Prop:=(want n ops f o=true/\Qt P B n S o f v)\/(want n ops f o=false/\v=undef)
theorem Lz (h:LW P B n ops rest Φ (upd f t v) l) (z:Zqt P B n ops l f ⟨some t,op,ty,pos,af,gd⟩ v:=by
    first
      | exact .inl ⟨rfl,Qm rfl⟩
      | exact .inl ⟨rfl,Qa rfl⟩
      | exact .inr ⟨rfl,rfl⟩
      | exact .inl ⟨rfl,Qn rfl⟩
      | exact .inl ⟨rfl,Qp rfl rfl⟩
      | exact .inl ⟨rfl,Qx rfl rfl⟩
      | exact .inl ⟨rfl,Ql (h1:=(by decide +kernel)) rfl rfl⟩
      | exact .inl ⟨rfl,Q0 (by decide +kernel) rfl⟩
      | exact .inl ⟨rfl,Qf (off:=1) (hf:=(by decide +kernel)) rfl⟩
      | exact .inl ⟨rfl,Qf (off:=2) (hf:=(by decide +kernel)) rfl⟩
      | exact .inl ⟨rfl,Qf (off:=3) (hf:=(by decide +kernel)) rfl⟩
      | exact .inl ⟨rfl,Qf (off:=4) (hf:=(by decide +kernel)) rfl⟩
      | exact .inl ⟨rfl,Qf (off:=5) (hf:=(by decide +kernel)) rfl⟩
      | exact .inl ⟨rfl,Qf (off:=6) (hf:=(by decide +kernel)) rfl⟩
      | exact .inl ⟨rfl,Qf (off:=7) (hf:=(by decide +kernel)) rfl⟩
      | exact .inl ⟨rfl,Qf (off:=8) (hf:=(by decide +kernel)) rfl⟩
      | exact .inl ⟨rfl,Qt.lenZ (by decide +kernel) rfl⟩
      | exact .inl ⟨rfl,YU (by decide +kernel) rfl⟩
      | exact .inl ⟨rfl,yM rfl rfl⟩
      | exact .inl ⟨rfl,yU rfl rfl⟩
      | exact .inl ⟨rfl,yW rfl rfl⟩
      | exact .inl ⟨rfl,yZ rfl rfl⟩
      | exact .inl ⟨rfl,zX rfl rfl⟩
      | exact .inl ⟨rfl,YF rfl rfl⟩
      | exact .inl ⟨rfl,Qd rfl rfl (Ze)⟩
      | exact .inl ⟨rfl,Qt.sub rfl rfl (Ze)⟩
      | exact .inl ⟨rfl,YG rfl rfl (Ze)⟩
      | exact .inl ⟨rfl,YS rfl⟩
      | exact .inl ⟨rfl,Y2 rfl⟩
      | exact .inl ⟨rfl,Qt.indexZ 1 (by decide +kernel) rfl rfl rfl⟩
      | exact .inl ⟨rfl,Qt.indexZ 2 (by decide +kernel) rfl rfl rfl⟩
      | exact .inl ⟨rfl,Qt.indexZ 3 (by decide +kernel) rfl rfl rfl⟩
      | exact .inl ⟨rfl,Qt.indexZ 4 (by decide +kernel) rfl rfl rfl⟩
      | exact .inl ⟨rfl,Qt.indexZ 5 (by decide +kernel) rfl rfl rfl⟩
      | exact .inl ⟨rfl,Qt.indexZ 6 (by decide +kernel) rfl rfl rfl⟩
      | exact .inl ⟨rfl,Qt.indexZ 7 (by decide +kernel) rfl rfl rfl⟩
      | exact .inl ⟨rfl,Qt.indexZ 8 (by decide +kernel) rfl rfl rfl⟩
      | exact .inl ⟨rfl,Qt.loadAggZ 2 [_,_] (by decide +kernel) rfl rfl ⟨rfl,rfl,trivial⟩⟩
      | exact .inl ⟨rfl,Qt.loadAggZ 3 [_,_,_] (by decide +kernel) rfl rfl ⟨rfl,rfl,rfl,trivial⟩⟩
      | exact .inl ⟨rfl,Qt.loadAggZ 4 [_,_,_,_] (by decide +kernel) rfl rfl ⟨rfl,rfl,rfl,rfl,trivial⟩⟩
      | exact .inl ⟨rfl,Qt.loadAggZ 5 [_,_,_,_,_] (by decide +kernel) rfl rfl ⟨rfl,rfl,rfl,rfl,rfl,trivial⟩⟩
      | exact .inl ⟨rfl,Qt.loadAggZ 6 [_,_,_,_,_,_] (by decide +kernel) rfl rfl ⟨rfl,rfl,rfl,rfl,rfl,rfl,trivial⟩⟩
      | exact .inl ⟨rfl,Qt.loadAggZ 7 [_,_,_,_,_,_,_] (by decide +kernel) rfl rfl ⟨rfl,rfl,rfl,rfl,rfl,rfl,rfl,trivial⟩⟩
      | exact .inl ⟨rfl,Qt.loadAggZ 8 [_,_,_,_,_,_,_,_] (by decide +kernel) rfl rfl ⟨rfl,rfl,rfl,rfl,rfl,rfl,rfl,rfl,trivial⟩⟩
      | exact .inl ⟨rfl,yX (hs:=(by decide +kernel)) (ht:=(by decide +kernel)) rfl (Ze)⟩
      | exact .inl ⟨rfl,Y1 (by decide +kernel) rfl rfl⟩
      | exact .inl ⟨rfl,Y5 (by decide +kernel) rfl rfl⟩):LW P B n ops (⟨some t,op,ty,pos,af,gd⟩::rest) Φ f l:=by
  rcases z with ⟨hw,hq⟩ | ⟨hw,rfl⟩
  . exact Lq (hw:=hw) hq h
  . exact Ls hw h
variable {m k:Nat} {listed:Array Bool} {rest':List Oper}
theorem Rz (i:Nat) (h:RW P B n ops m Φ k S (listed.setIfInBounds i true) (upd f t v) l) (hi:ops.toList.drop i=⟨some t,op,ty,pos,af,gd⟩::rest':=by exact rfl) (hb:takeB .any ops m i listed=true:=by kernel_rfl) (hs:Sub l S:=by first | exact Sr _ | exact Sa) (z:Zqt P B n ops S f ⟨some t,op,ty,pos,af,gd⟩ v:=by
    first
      | exact .inl ⟨rfl,Qm rfl⟩
      | exact .inl ⟨rfl,Qa rfl⟩
      | exact .inr ⟨rfl,rfl⟩
      | exact .inl ⟨rfl,Qn rfl⟩
      | exact .inl ⟨rfl,Qp rfl rfl⟩
      | exact .inl ⟨rfl,Qx rfl rfl⟩
      | exact .inl ⟨rfl,Ql (h1:=(by decide +kernel)) rfl rfl⟩
      | exact .inl ⟨rfl,Q0 (by decide +kernel) rfl⟩
      | exact .inl ⟨rfl,Qf (off:=1) (hf:=(by decide +kernel)) rfl⟩
      | exact .inl ⟨rfl,Qf (off:=2) (hf:=(by decide +kernel)) rfl⟩
      | exact .inl ⟨rfl,Qf (off:=3) (hf:=(by decide +kernel)) rfl⟩
      | exact .inl ⟨rfl,Qf (off:=4) (hf:=(by decide +kernel)) rfl⟩
      | exact .inl ⟨rfl,Qf (off:=5) (hf:=(by decide +kernel)) rfl⟩
      | exact .inl ⟨rfl,Qf (off:=6) (hf:=(by decide +kernel)) rfl⟩
      | exact .inl ⟨rfl,Qf (off:=7) (hf:=(by decide +kernel)) rfl⟩
      | exact .inl ⟨rfl,Qf (off:=8) (hf:=(by decide +kernel)) rfl⟩
      | exact .inl ⟨rfl,Qt.lenZ (by decide +kernel) rfl⟩
      | exact .inl ⟨rfl,YU (by decide +kernel) rfl⟩
      | exact .inl ⟨rfl,yM rfl rfl⟩
      | exact .inl ⟨rfl,yU rfl rfl⟩
      | exact .inl ⟨rfl,yW rfl rfl⟩
      | exact .inl ⟨rfl,yZ rfl rfl⟩
      | exact .inl ⟨rfl,zX rfl rfl⟩
      | exact .inl ⟨rfl,YF rfl rfl⟩
      | exact .inl ⟨rfl,Qd rfl rfl (Ze)⟩
      | exact .inl ⟨rfl,Qt.sub rfl rfl (Ze)⟩
      | exact .inl ⟨rfl,YG rfl rfl (Ze)⟩
      | exact .inl ⟨rfl,YS rfl⟩
      | exact .inl ⟨rfl,Y2 rfl⟩
      | exact .inl ⟨rfl,Qt.indexZ 1 (by decide +kernel) rfl rfl rfl⟩
      | exact .inl ⟨rfl,Qt.indexZ 2 (by decide +kernel) rfl rfl rfl⟩
      | exact .inl ⟨rfl,Qt.indexZ 3 (by decide +kernel) rfl rfl rfl⟩
      | exact .inl ⟨rfl,Qt.indexZ 4 (by decide +kernel) rfl rfl rfl⟩
      | exact .inl ⟨rfl,Qt.indexZ 5 (by decide +kernel) rfl rfl rfl⟩
      | exact .inl ⟨rfl,Qt.indexZ 6 (by decide +kernel) rfl rfl rfl⟩
      | exact .inl ⟨rfl,Qt.indexZ 7 (by decide +kernel) rfl rfl rfl⟩
      | exact .inl ⟨rfl,Qt.indexZ 8 (by decide +kernel) rfl rfl rfl⟩
      | exact .inl ⟨rfl,Qt.loadAggZ 2 [_,_] (by decide +kernel) rfl rfl ⟨rfl,rfl,trivial⟩⟩
      | exact .inl ⟨rfl,Qt.loadAggZ 3 [_,_,_] (by decide +kernel) rfl rfl ⟨rfl,rfl,rfl,trivial⟩⟩
      | exact .inl ⟨rfl,Qt.loadAggZ 4 [_,_,_,_] (by decide +kernel) rfl rfl ⟨rfl,rfl,rfl,rfl,trivial⟩⟩
      | exact .inl ⟨rfl,Qt.loadAggZ 5 [_,_,_,_,_] (by decide +kernel) rfl rfl ⟨rfl,rfl,rfl,rfl,rfl,trivial⟩⟩
      | exact .inl ⟨rfl,Qt.loadAggZ 6 [_,_,_,_,_,_] (by decide +kernel) rfl rfl ⟨rfl,rfl,rfl,rfl,rfl,rfl,trivial⟩⟩
      | exact .inl ⟨rfl,Qt.loadAggZ 7 [_,_,_,_,_,_,_] (by decide +kernel) rfl rfl ⟨rfl,rfl,rfl,rfl,rfl,rfl,rfl,trivial⟩⟩
      | exact .inl ⟨rfl,Qt.loadAggZ 8 [_,_,_,_,_,_,_,_] (by decide +kernel) rfl rfl ⟨rfl,rfl,rfl,rfl,rfl,rfl,rfl,rfl,trivial⟩⟩
      | exact .inl ⟨rfl,yX (hs:=(by decide +kernel)) (ht:=(by decide +kernel)) rfl (Ze)⟩
      | exact .inl ⟨rfl,Y1 (by decide +kernel) rfl rfl⟩
      | exact .inl ⟨rfl,Y5 (by decide +kernel) rfl rfl⟩):RW P B n ops m Φ (k+1) S listed f l:=by
  rcases z with ⟨hw,hq⟩ | ⟨hw,rfl⟩
  . exact Rq i hi (hw:=hw) (hb:=hb) hs hq h
  . exact yY i hi hw hb hs h
end
theorem U2 {f:Fr} {d0:Nat} {v0:Value} {d1:Nat} {v1:Value} (h0:f d0=some v0:=by exact rfl) (h1:f d1=some v1:=by exact rfl):f=upd (upd f d0 v0) d1 v1:=Za h1 (Za h0 (rfl))
theorem U3 {f:Fr} {d0:Nat} {v0:Value} {d1:Nat} {v1:Value} {d2:Nat} {v2:Value} (h0:f d0=some v0:=by exact rfl) (h1:f d1=some v1:=by exact rfl) (h2:f d2=some v2:=by exact rfl):f=upd (upd (upd f d0 v0) d1 v1) d2 v2:=Za h2 (Za h1 (Za h0 (rfl)))
theorem U4 {f:Fr} {d0:Nat} {v0:Value} {d1:Nat} {v1:Value} {d2:Nat} {v2:Value} {d3:Nat} {v3:Value} (h0:f d0=some v0:=by exact rfl) (h1:f d1=some v1:=by exact rfl) (h2:f d2=some v2:=by exact rfl) (h3:f d3=some v3:=by exact rfl):f=upd (upd (upd (upd f d0 v0) d1 v1) d2 v2) d3 v3:=Za h3 (Za h2 (Za h1 (Za h0 (rfl))))
theorem U5 {f:Fr} {d0:Nat} {v0:Value} {d1:Nat} {v1:Value} {d2:Nat} {v2:Value} {d3:Nat} {v3:Value} {d4:Nat} {v4:Value} (h0:f d0=some v0:=by exact rfl) (h1:f d1=some v1:=by exact rfl) (h2:f d2=some v2:=by exact rfl) (h3:f d3=some v3:=by exact rfl) (h4:f d4=some v4:=by exact rfl):f=upd (upd (upd (upd (upd f d0 v0) d1 v1) d2 v2) d3 v3) d4 v4:=Za h4 (Za h3 (Za h2 (Za h1 (Za h0 (rfl)))))
theorem U6 {f:Fr} {d0:Nat} {v0:Value} {d1:Nat} {v1:Value} {d2:Nat} {v2:Value} {d3:Nat} {v3:Value} {d4:Nat} {v4:Value} {d5:Nat} {v5:Value} (h0:f d0=some v0:=by exact rfl) (h1:f d1=some v1:=by exact rfl) (h2:f d2=some v2:=by exact rfl) (h3:f d3=some v3:=by exact rfl) (h4:f d4=some v4:=by exact rfl) (h5:f d5=some v5:=by exact rfl):f=upd (upd (upd (upd (upd (upd f d0 v0) d1 v1) d2 v2) d3 v3) d4 v4) d5 v5:=Za h5 (Za h4 (Za h3 (Za h2 (Za h1 (Za h0 (rfl))))))
theorem U7 {f:Fr} {d0:Nat} {v0:Value} {d1:Nat} {v1:Value} {d2:Nat} {v2:Value} {d3:Nat} {v3:Value} {d4:Nat} {v4:Value} {d5:Nat} {v5:Value} {d6:Nat} {v6:Value} (h0:f d0=some v0:=by exact rfl) (h1:f d1=some v1:=by exact rfl) (h2:f d2=some v2:=by exact rfl) (h3:f d3=some v3:=by exact rfl) (h4:f d4=some v4:=by exact rfl) (h5:f d5=some v5:=by exact rfl) (h6:f d6=some v6:=by exact rfl):f=upd (upd (upd (upd (upd (upd (upd f d0 v0) d1 v1) d2 v2) d3 v3) d4 v4) d5 v5) d6 v6:=Za h6 (Za h5 (Za h4 (Za h3 (Za h2 (Za h1 (Za h0 (rfl)))))))
theorem U8 {f:Fr} {d0:Nat} {v0:Value} {d1:Nat} {v1:Value} {d2:Nat} {v2:Value} {d3:Nat} {v3:Value} {d4:Nat} {v4:Value} {d5:Nat} {v5:Value} {d6:Nat} {v6:Value} {d7:Nat} {v7:Value} (h0:f d0=some v0:=by exact rfl) (h1:f d1=some v1:=by exact rfl) (h2:f d2=some v2:=by exact rfl) (h3:f d3=some v3:=by exact rfl) (h4:f d4=some v4:=by exact rfl) (h5:f d5=some v5:=by exact rfl) (h6:f d6=some v6:=by exact rfl) (h7:f d7=some v7:=by exact rfl):f=upd (upd (upd (upd (upd (upd (upd (upd f d0 v0) d1 v1) d2 v2) d3 v3) d4 v4) d5 v5) d6 v6) d7 v7:=Za h7 (Za h6 (Za h5 (Za h4 (Za h3 (Za h2 (Za h1 (Za h0 (rfl))))))))
theorem U9 {f:Fr} {d0:Nat} {v0:Value} {d1:Nat} {v1:Value} {d2:Nat} {v2:Value} {d3:Nat} {v3:Value} {d4:Nat} {v4:Value} {d5:Nat} {v5:Value} {d6:Nat} {v6:Value} {d7:Nat} {v7:Value} {d8:Nat} {v8:Value} (h0:f d0=some v0:=by exact rfl) (h1:f d1=some v1:=by exact rfl) (h2:f d2=some v2:=by exact rfl) (h3:f d3=some v3:=by exact rfl) (h4:f d4=some v4:=by exact rfl) (h5:f d5=some v5:=by exact rfl) (h6:f d6=some v6:=by exact rfl) (h7:f d7=some v7:=by exact rfl) (h8:f d8=some v8:=by exact rfl):f=upd (upd (upd (upd (upd (upd (upd (upd (upd f d0 v0) d1 v1) d2 v2) d3 v3) d4 v4) d5 v5) d6 v6) d7 v7) d8 v8:=Za h8 (Za h7 (Za h6 (Za h5 (Za h4 (Za h3 (Za h2 (Za h1 (Za h0 (rfl)))))))))
theorem U10 {f:Fr} {d0:Nat} {v0:Value} {d1:Nat} {v1:Value} {d2:Nat} {v2:Value} {d3:Nat} {v3:Value} {d4:Nat} {v4:Value} {d5:Nat} {v5:Value} {d6:Nat} {v6:Value} {d7:Nat} {v7:Value} {d8:Nat} {v8:Value} {d9:Nat} {v9:Value} (h0:f d0=some v0:=by exact rfl) (h1:f d1=some v1:=by exact rfl) (h2:f d2=some v2:=by exact rfl) (h3:f d3=some v3:=by exact rfl) (h4:f d4=some v4:=by exact rfl) (h5:f d5=some v5:=by exact rfl) (h6:f d6=some v6:=by exact rfl) (h7:f d7=some v7:=by exact rfl) (h8:f d8=some v8:=by exact rfl) (h9:f d9=some v9:=by exact rfl):f=upd (upd (upd (upd (upd (upd (upd (upd (upd (upd f d0 v0) d1 v1) d2 v2) d3 v3) d4 v4) d5 v5) d6 v6) d7 v7) d8 v8) d9 v9:=Za h9 (Za h8 (Za h7 (Za h6 (Za h5 (Za h4 (Za h3 (Za h2 (Za h1 (Za h0 (rfl))))))))))
open Go.RowKit
theorem Dk.u64 : Tryz.prog.underlying 79=some (.array 256 5):=by kernel_rfl
theorem Dk.i64 {n:Nat} (h:n=256):(Tryz.prog.info? 79).map (·.size)=some n:=by rw [h];kernel_rfl
theorem Dk.i5 : (Tryz.prog.info? 5).map (·.size)=some 1:=by kernel_rfl
def hasB (n:Int) (len:Nat):Bool:=decide (0<=n) && decide (n<(len:Int))
theorem hasB_yes {n:Int} {len:Nat} (h0:0<=n) (h1:n<(len:Int)):hasB n len=true:=by simp [hasB,h0,h1]
theorem Dk.has (b o:Nat) (n:Int) (p:Option Addr) (len cap:Nat) (w:World) (h:w.cell? ⟨b,o,none⟩=some (.slice p len cap)) :
    Calls Tryz.prog 130 #[.pointer (some ⟨b,o,none⟩),.int .i64 n] w λ e w'=>e = .returned (.bool (hasB n len))/\w=w':=by
  by_cases h0:0<=n
  . go_enter Tryz.func130,Tryz.ntmps130
    go_wp2
    go_ret
    exact ⟨by simp [hasB,h0],rfl⟩
  . have h0':decide (0<=n)=false:=by simpa using h0
    clear h0
    go_enter Tryz.func130,Tryz.ntmps130
    go_wp2
    go_ret
    exact ⟨by simp [hasB,h0'],rfl⟩
theorem Dk.sectors (b o:Nat) (p:Option Addr) (len cap:Nat) (w:World) (h:w.cell? ⟨b,o,none⟩=some (.slice p len cap)) :
    Calls Tryz.prog 40 #[.pointer (some ⟨b,o,none⟩)] w λ e w'=>e = .returned (.int .i64 len)/\w=w':=by
  go_enter Tryz.func40,Tryz.ntmps40
  go_wp2
  go_ret
  exact ⟨rfl,rfl⟩
theorem Dk.put (b o bs n cx at_ k:Nat) (S D:List Value) (w:World) (hsp:w.cell? ⟨b,o,none⟩=some (.slice (some ⟨bs,0,none⟩) n cx))
    (hs:w.heap[bs]? = some (.cells S.toArray 79 (0,0))) (hS:256*n<=S.length)
    (hne:b≠bs) (ha:at_<n) (hk:k<=256) (hD:D.length=256) (h1 : ∀ v∈D,v.oneCell'=true) :
    Calls Tryz.prog 20 #[.pointer (some ⟨b,o,none⟩),.agg (.int .i64 at_::D).toArray,.int .i64 k] w λ e w' =>
      e = .returned (.tuple #[])/\w'.heap[bs]? = some (.cells (splice S (at_*256) (D.take k)).toArray 79 (0,0))/\Kept [bs] w w':=by
  have a0:(0:Int)<=(at_:Int):=by omega
  have a1:(at_:Int)<(n:Int):=by omega
  have k0:(0:Int)<=(k:Int):=by omega
  have k1:(k:Int)<=256:=by omega
  have lb:=Zk hs
  have lb0:=World.block_lt_of_cell? w _ hsp
  simp only at lb0
  go_enter Tryz.func20,Tryz.ntmps20
  go_wp2
  go_region_held3 (λ w'=>w'.cell? ⟨b,o,none⟩=some (.slice (some ⟨bs,0,none⟩) n cx)/\w'.cell? ⟨w.heap.size,0,none⟩=some (.int .i64 at_))
    (first | go_keep | (refine ⟨?_,?_⟩ <;> (rw [hk1.cell (by simp;try omega) (by simp;try omega)];simp [*])))
    ((refine step_copy_kept (by rfl) _ _ _ _ (by rfl) 5 Tryz.underlying97 Dk.i5 _ _ _ _ _ _ (by rfl) (by rfl) bs (at_*256) S 79 ((Below.heap_alloc _ _ _ lb).trans hs) (D.take k) (by rw [List.length_take,hD];exact Nat.min_comm _ _)
        (λ _=>⟨rfl,_,rfl,cells_from (heap_alloc_new w _) 1 _ (by simpa using List.take_prefix k D)⟩) (by simp [hD];omega) (λ v hv=>h1 v (List.mem_of_mem_take hv)) ?_;intro w1 hg1 hk1))
  go_wp2
  go_end0
  exact ⟨rfl,hg1,(((Kept.refl _ _).alloc _).drew).trans hk1 (by simp)⟩
open Go.RowKit
structure DD where
  secs:List (List UInt8)
  pend:List (Nat×List UInt8)
structure DD.Ok (D:DD):Prop where
  pos:0<D.secs.length
  max:D.secs.length<=4096
  secs : ∀ s∈D.secs,s.length=256
  at_ : ∀ p∈D.pend,p.1<D.secs.length
  data : ∀ p∈D.pend,p.2.length=256
def pendV (p:Nat×List UInt8):List Value := .int .i64 p.1::Zb p.2
def secsV (l:List (List UInt8)):List Value:=l.flatMap Zb
def pendsV (l:List (Nat×List UInt8)):List Value:=l.flatMap pendV
theorem one_pendV {p:Nat×List UInt8} : ∀ v∈pendV p,v.oneCell'=true:=by
  intro v hv;simp only [pendV,List.mem_cons] at hv
  rcases hv with rfl | hv
  . rfl
  . exact Zu v hv
theorem DD.Ok.lenPend {D:DD} (h:D.Ok):(pendsV D.pend).length=D.pend.length*257:=flat_length _ _ _ (λ x hx=>by simp [pendV,h.data x hx])
structure DiskAt (w:World) (b:Nat) (D:DD) (bs cx:Nat) (X:List Value) (pv:Value):Prop where
  ok:D.Ok
  hb:w.heap[b]? = some (.cells #[.slice (some ⟨bs,0,none⟩) D.secs.length cx,pv] 77 (0,0))
  hs:w.heap[bs]? = some (.cells (secsV D.secs++X).toArray 79 (0,0))
  hp:w.ownsRow 0 81 257 pv D.pend.length (pendsV D.pend)
  n1:b≠bs
  n2 : ∀ g,pv.ownBlock=some g->g≠b/\g≠bs
def dfp (b bs:Nat) (pv:Value):List Nat:=b::bs::pv.ownBlock.toList
def Disk (w:World) (b:Nat) (D:DD) (fp:List Nat):Prop := ∃ bs cx X pv,DiskAt w b D bs cx X pv/\fp=dfp b bs pv
theorem DiskAt.kept {w w':World} {b bs cx:Nat} {X:List Value} {D:DD} {pv:Value} {fp:List Nat} (h:DiskAt w b D bs cx X pv) (hk:Kept fp w w') (hd : ∀ x∈dfp b bs pv,x∉fp):DiskAt w' b D bs cx X pv :=
  ⟨h.ok,(hk.block _ (Zk h.hb) (hd _ (by simp [dfp]))).trans h.hb,(hk.block _ (Zk h.hs) (hd _ (by simp [dfp]))).trans h.hs,
    owns_kept h.hp hk (λ g hg=>hd g (by simp [dfp,hg])),h.n1,h.n2⟩
theorem Disk.kept {w w':World} {b:Nat} {D:DD} {fp fp':List Nat} (h:Disk w b D fp) (hk:Kept fp' w w') (hd : ∀ x∈fp,x∉fp'):Disk w' b D fp:=by
  obtain ⟨bs,cx,X,pv,h,rfl⟩:=h
  exact ⟨bs,cx,X,pv,h.kept hk hd,rfl⟩
theorem DiskAt.lt {w:World} {b bs cx:Nat} {X:List Value} {D:DD} {pv:Value} (h:DiskAt w b D bs cx X pv) : ∀ x∈dfp b bs pv,x<w.heap.size:=by
  intro x hx
  simp only [dfp,List.mem_cons,Option.mem_toList] at hx
  rcases hx with rfl | rfl | hx
  . exact Zk h.hb
  . exact Zk h.hs
  . exact (h.hp.lt x hx).2
theorem Disk.lt {w:World} {b:Nat} {D:DD} {fp:List Nat} (h:Disk w b D fp) : ∀ x∈fp,x<w.heap.size:=by
  obtain ⟨bs,cx,X,pv,h,rfl⟩:=h
  exact h.lt
theorem owns_slice {w:World} {base:Nat} {e:TypeId} {size:Nat} {v:Value} {n:Nat} {xs:List Value} (h:w.ownsRow base e size v n xs) : ∃ p cap,v = .slice p n cap:=by
  rcases h.2 with ⟨rfl,rfl⟩ | ⟨g,cap,cur,rfl,_⟩
  . exact ⟨_,_,rfl⟩
  . exact ⟨_,_,rfl⟩
theorem DiskAt.c0 {w:World} {b bs cx:Nat} {X:List Value} {D:DD} {pv:Value} (h:DiskAt w b D bs cx X pv):w.cell? ⟨b,0,none⟩=some (.slice (some ⟨bs,0,none⟩) D.secs.length cx):=by
  rw [cell_of_row w b 0 _ _ _ h.hb];rfl
theorem DiskAt.c1 {w:World} {b bs cx:Nat} {X:List Value} {D:DD} {pv:Value} (h:DiskAt w b D bs cx X pv):w.cell? ⟨b,1,none⟩=some pv:=by
  rw [cell_of_row w b 1 _ _ _ h.hb];rfl
theorem DiskAt.f1 {w:World} {b bs cx:Nat} {X:List Value} {D:DD} {pv:Value} (h:DiskAt w b D bs cx X pv):w.frozen? ⟨b,1,none⟩=false:=frozen_of_row w b 1 _ _ h.hb
def zsec : Value := .agg (List.replicate 256 (.int .u8 0)).toArray
theorem Dk.info64 : (Tryz.prog.info? 79).map (λ i=>(i.zero,i.size,i.bytes))=some (some zsec,256,256):=by kernel_rfl
theorem bytesV_zeros (n:Nat):Zb (List.replicate n 0)=List.replicate n (.int .u8 0):=by simp [Zb]
theorem secsV_zeros (n m:Nat):secsV (List.replicate n (List.replicate m 0))=List.replicate (n*m) (.int .u8 0):=by
  induction n with
  | zero=>simp [secsV]
  | succ n ih =>
    rw [List.replicate_succ]
    show Zb _++secsV _=_
    rw [ih,bytesV_zeros,List.replicate_append_replicate]
    congr 1
    rw [Nat.add_mul,Nat.one_mul,Nat.add_comm]
def zs : List UInt8:=List.replicate 256 0
theorem length_zs : zs.length=256:=List.length_replicate
def DD.zero (n:Nat):DD:=⟨List.replicate n zs,[]⟩
def NewPost (n:Nat) (w:World) (e:Ending) (w':World):Prop :=
  ∃ b fp,e = .returned (.tuple #[.pointer (some ⟨b,0,none⟩),.int .i64 0])/\Disk w' b (DD.zero n) fp/\(∀ x∈fp,w.heap.size<=x)/\Kept [] w w'
theorem Dk.new (n:Nat) (w:World) (h1:1<=n) (h2:n<=4096):Calls Tryz.prog 19 #[.int .i64 n] w (NewPost n w):=by
  have h1':decide ((n:Int)<1)=false:=by simp;omega
  have h2':decide (4096<(n:Int))=false:=by simp;omega
  obtain ⟨i0,hi,hz0,hz1,hz2⟩:=info_parts Dk.info64
  go_enter Tryz.func19,Tryz.ntmps19
  go_wp2_with (at_make;refine wpList_make_full _ rfl _ _ _ rfl w.heap.size 79 i0 zsec 256 Tryz.underlying72 hi hz0 hz1 .i64 .i64 n n n rfl rfl rfl rfl (by rw [hz2];omega) (by unfold maxLen;omega) (Nat.le_refl _) ?_;intro w1 ho1 hg1)
  go_ret2
  obtain ⟨hb1,_⟩:=owns_exact ho1
  have hz:(madeCells zsec.cells (n*256)).toList=secsV (DD.zero n).secs:=by
    rw [show zsec.cells=(List.replicate 256 (Value.int .u8 0)).toArray from rfl,made_replicate _ _ _]
    exact (secsV_zeros n 256).symm
  rw [hz] at hb1
  have hlt:=Zk hb1
  have hs1:w.heap.size<=w1.heap.size:=hg1.size
  refine ⟨w1.heap.size,dfp w1.heap.size w.heap.size (.slice none 0 0),rfl,⟨w.heap.size,n,[],.slice none 0 0,⟨⟨?_,?_,?_,?_,?_⟩,?_,(Below.heap_alloc _ _ _ hlt).trans (by rw [List.append_nil];exact hb1),World.ownsRow_nil _ _ _ _,?_,?_⟩,rfl⟩,?_,?_⟩
  . simp [DD.zero];omega
  . simp [DD.zero];omega
  . intro s hs;simp only [DD.zero,List.mem_replicate] at hs;rw [hs.2];exact length_zs
  . intro p hp;simp [DD.zero] at hp
  . intro p hp;simp [DD.zero] at hp
  . rw [heap_alloc_new];simp [DD.zero]
  . omega
  . intro g hg;simp [Value.ownBlock] at hg
  . intro x hx;simp [dfp,Value.ownBlock] at hx;omega
  . exact ((Kept.refl _ _).grown hg1 (by simp)).alloc _
open Go.RowKit
def DD.write (D:DD) (n:Nat) (d:List UInt8):DD:=⟨D.secs,D.pend++[(n,d)]⟩
def zwrite : Value := .agg (.int .i64 0::List.replicate 256 (.int .u8 0)).toArray
theorem Dk.info66 : (Tryz.prog.info? 81).map (λ i=>(i.zero,i.size,i.bytes))=some (some zwrite,257,264):=by kernel_rfl
theorem Dk.arrayAt (b o c:Nat) (w:World):(Instr.arrayAt 79 (.slice (some ⟨b,o,none⟩) 256 c)).run Tryz.prog w = .ok (.pointer (some ⟨b,o,none⟩)) w:=by
  simp [Instr.arrayAt,run_underlying Dk.u64]
theorem size_zwrite : zwrite.cells.size=257:=by kernel_rfl
theorem Dk.build (n:Int) (d:List UInt8) (w:World) (h:d.length=256) :
    (Instr.build 81 #[(0,.int .i64 n),(1,.agg (Zb d).toArray)]).run Tryz.prog w = .ok (.agg (.int .i64 n::Zb d).toArray) w:=by
  obtain ⟨i,hi,hz,_,_⟩:=info_parts Dk.info66
  obtain ⟨i1,hi1,_,hs1,_⟩:=info_parts Dk.info64
  have hint:(Tryz.prog.info? 3).map (·.size)=some 1:=by kernel_rfl
  obtain ⟨i0,hi0,hs0⟩:=Option.map_eq_some_iff.1 hint
  have:=run_build_two (P:=Tryz.prog) w 81 i zwrite _ _ _ i0 i1 (.int .i64 n) (.agg (Zb d).toArray) hi hz Tryz.underlying81 rfl hi0 hi1 rfl rfl hs0 (by rw [hs1];simp [Value.cells,h]) (by rw [size_zwrite];simp [Value.cells,h])
  rw [this];simp [Value.cells]
def Dk.buildS (ps:Array (Nat×Value)):Sem Value:=Instr.build 81 ps
theorem Dk.build_eq (ps:Array (Nat×Value)):Instr.build 81 ps=Dk.buildS ps:=rfl
theorem Dk.build_run (n:Int) (d:List UInt8) (w:World) (h:d.length=256):(Dk.buildS #[(0,.int .i64 n),(1,.agg (Zb d).toArray)]).run Tryz.prog w = .ok (.agg (.int .i64 n::Zb d).toArray) w:=Dk.build n d w h
def Dk.bsS (ps:Array (Nat×Value)):Sem Value:=Instr.buildSlice 75 1 ps
theorem Dk.bs_eq (ps:Array (Nat×Value)):Instr.buildSlice 75 1 ps=Dk.bsS ps:=rfl
theorem Dk.bs_run (n:Int) (d:List UInt8) (w:World) (h:d.length=256):(Dk.bsS #[(0,.agg (.int .i64 n::Zb d).toArray)]).run Tryz.prog w =
    .ok (.slice (some ⟨w.heap.size,0,none⟩) 1 1) (w.alloc (.cells (.int .i64 n::Zb d).toArray 81)):=by
  obtain ⟨i,hi,hz,hs,_⟩:=info_parts Dk.info66
  have hv:((Value.agg (.int .i64 n::Zb d).toArray).cells).size=257:=by simp [Value.cells,h]
  generalize hg:Value.agg (.int .i64 n::Zb d).toArray=v at hv
  have hc:(.int .i64 n::Zb d).toArray=v.cells:=by rw [<-hg];rfl
  rw [hc]
  exact run_buildSlice_one w _ _ i zwrite v Tryz.underlying75 hi hz (by rw [hs,hv]) (by rw [size_zwrite,hv]) (by omega) (by omega)
attribute [local go_sem ↓] Dk.build_eq Dk.bs_eq
attribute [local go_sem] Dk.build_run Dk.bs_run
def WritePost (w:World) (b bs cx:Nat) (X:List Value) (D:DD) (pv:Value) (n:Nat) (d:List UInt8) (e:Ending) (w':World):Prop :=
  ∃ pv',e = .returned (.int .i64 0)/\DiskAt w' b (D.write n d) bs cx X pv'/\(∀ g,pv'.ownBlock=some g->pv.ownBlock=some g\/w.heap.size<=g)/\Kept (dfp b bs pv) w w'
theorem Dk.elemW : ElemOk Tryz.prog 75 81 257 264 := .mk' zwrite Tryz.underlying75 Dk.info66 size_zwrite (by omega)
theorem Dk.write (b bs n bb ob c cx:Nat) (X:List Value) (D:DD) (pv:Value) (d:List UInt8) (w:World) (h:DiskAt w b D bs cx X pv) (hn:n<D.secs.length) (hr:w.rangeAt bb ob (Zb d)) (hd:d.length=256)
    (hbb:bb∉dfp b bs pv) (hroom:D.pend.length<2^32) :
    Calls Tryz.prog 120 #[.pointer (some ⟨b,0,none⟩),.int .i64 n,.slice (some ⟨bb,ob,none⟩) 256 c] w (WritePost w b bs cx X D pv n d):=by
  have h0:=h.c0
  have h1:=h.c1
  have h2:=h.f1
  have hh:=hasB_yes (n:=(n:Int)) (by omega) (show (n:Int)<(D.secs.length:Int) by omega)
  have hap:=Dk.arrayAt bb ob c
  have hu:=Lib.hid Dk.u64
  have hi:=Lib.hid (Dk.i64 (n:=(Zb d).length) (by simpa using hd))
  have lb:=Zk h.hb
  have hl:(pendV (n,d)).length=257:=by simp [pendV,hd]
  have H:=Lib.hid h
  clear h
  go_enter Tryz.func120,Tryz.ntmps120
  go_wp2_with (go_at_call 130;refine (Dk.has _ _ _ _ _ _ _ (by assumption)).mono ?_;rintro e w' ⟨rfl,rfl⟩)
  have hS0:w.drew.cell? ⟨b,1,none⟩=some pv/\w.drew.rangeAt bb ob (Zb d):=⟨h1,hr⟩
  refine wp_region_T 12 (λ w'=>w'.cell? ⟨b,1,none⟩=some pv/\w'.rangeAt bb ob (Zb d)) (by simp) ?_
  refine Wu (i:=0) (v := ?_) rfl (λ _ _ _ h=>h) (by assumption) (.inl ⟨rfl,?_⟩) ?_
  rotate_left
  . intro w' hS;obtain ⟨hS1,hS2⟩:=hS;go_simp;try with_reducible rfl
  simp only [Act.put,List.setIfInBounds_toArray,List.set_cons_zero,List.set_cons_succ]
  refine Wu (i:=1) (v := ?_) rfl (λ _ _ _ h=>h) (by assumption) (.inl ⟨rfl,?_⟩) ?_
  rotate_left
  . intro w' hS;obtain ⟨hS1,hS2⟩:=hS;go_simp;try with_reducible rfl
  simp only [Act.put,List.setIfInBounds_toArray,List.set_cons_zero,List.set_cons_succ]
  refine Wu (i:=2) (v := ?_) rfl (λ _ _ _ h=>h) (by assumption) (.inl ⟨rfl,?_⟩) ?_
  rotate_left
  . intro w' hS;obtain ⟨hS1,hS2⟩:=hS;go_simp;try with_reducible rfl
  simp only [Act.put,List.setIfInBounds_toArray,List.set_cons_zero,List.set_cons_succ]
  refine Wu (i:=3) (v := ?_) rfl (λ _ _ _ h=>h) (by assumption) (.inl ⟨rfl,?_⟩) ?_
  rotate_left
  . intro w' hS;obtain ⟨hS1,hS2⟩:=hS;go_simp;try with_reducible rfl
  simp only [Act.put,List.setIfInBounds_toArray,List.set_cons_zero,List.set_cons_succ]
  refine Wu (i:=4) (v := ?_) rfl (λ _ _ _ h=>h) (by assumption) (.inl ⟨rfl,?_⟩) ?_
  rotate_left
  . intro w' hS;obtain ⟨hS1,hS2⟩:=hS;go_simp;try with_reducible rfl
  simp only [Act.put,List.setIfInBounds_toArray,List.set_cons_zero,List.set_cons_succ]
  refine Wu (i:=5) (v := ?_) rfl (λ _ _ _ h=>h) (by assumption) (.inl ⟨rfl,?_⟩) ?_
  rotate_left
  . intro w' hS;obtain ⟨hS1,hS2⟩:=hS;go_simp;try with_reducible rfl
  simp only [Act.put,List.setIfInBounds_toArray,List.set_cons_zero,List.set_cons_succ]
  refine Wu (i:=6) (v := ?_) rfl (λ _ _ _ h=>h) (by assumption) (.inl ⟨rfl,?_⟩) ?_
  rotate_left
  . intro w' hS;obtain ⟨hS1,hS2⟩:=hS;go_simp;try with_reducible rfl
  simp only [Act.put,List.setIfInBounds_toArray,List.set_cons_zero,List.set_cons_succ]
  refine Wu (i:=7) (v := ?_) rfl (λ _ _ _ h=>h) (by assumption) (.inl ⟨rfl,?_⟩) ?_
  rotate_left
  . intro w' hS;obtain ⟨hS1,hS2⟩:=hS;go_simp;try with_reducible rfl
  simp only [Act.put,List.setIfInBounds_toArray,List.set_cons_zero,List.set_cons_succ]
  refine Wu (i:=8) (v := .agg (Zb d).toArray) rfl (λ _ _ _ h=>h) (by assumption) ?_ ?_
  . refine yieldsIf_load_mid ?_ 79 (.tmp 25) ?_ bb ob ?_ (Zb d) _ (λ w' hS=>hS.2) hu.out ?_ hi.out <;> rfl
  simp only [Act.put,List.setIfInBounds_toArray,List.set_cons_zero,List.set_cons_succ]
  refine Wu (i:=9) (v := ?_) rfl (λ _ _ _ h=>h) (by assumption) (.inl ⟨rfl,?_⟩) ?_
  rotate_left
  . intro w' hS;go_simp;try with_reducible rfl
  simp only [Act.put,List.setIfInBounds_toArray,List.set_cons_zero,List.set_cons_succ]
  have hr1:(w.alloc (.cells (.int .i64 n::Zb d).toArray 81)).drew.rangeAt bb ob (Zb d):=(World.rangeAt_drew _ _ _ _).2 (World.rangeAt_alloc hr _)
  have hc1:(w.alloc (.cells (.int .i64 n::Zb d).toArray 81)).drew.cell? ⟨b,1,none⟩=some pv:=(World.cell?_alloc_lt w _ _ lb).trans h1
  have e1:(w.alloc (.cells (.int .i64 n::Zb d).toArray 81)).drew.ownsRow 0 81 257 pv D.pend.length (pendsV D.pend):=(H.out.hp.alloc _).drew
  have e2:Src Tryz.prog 257 75 (.slice (some ⟨w.heap.size,0,none⟩) 1 1) 1 (pendV (n,d)) (w.alloc (.cells (.int .i64 n::Zb d).toArray 81)).drew:=Src.ofBlock Tryz.underlying75 (by exact heap_alloc_new w _) 1 1 hl one_pendV
  refine wpT_one (i:=10) rfl rfl (λ K hK=>?_)
  go_simp
  refine hK _ _ _ (λ _ h=>h) ⟨hc1,hr1⟩ ?_
  clear hK K
  refine wpT_one (i:=11) rfl rfl (λ K hK=>?_)
  refine wp_append_k (v:=pv) (x := .slice (some ⟨w.heap.size,0,none⟩) 1 1) (.tmp 22) (.tmp 28) _ _ rfl Dk.elemW rfl e1 rfl e2 (by unfold maxLen;omega) (by omega) (by simp) ?_
  intro v1 w1 hA
  obtain ⟨p1,c1,rfl⟩:=owns_slice hA.own
  have hkw:Kept (dfp b bs pv) w w1:=(((Kept.refl _ _).alloc _).drew).trans hA.kept (by intro x hx;left;simp only [dfp,List.mem_cons];exact .inr (.inr hx))
  have hblk:=hA.blk
  have hnb:b∉pv.ownBlock.toList:=λ hm=>(H.out.n2 b (by simpa using hm)).1 rfl
  have hnb2:bb∉pv.ownBlock.toList:=λ hm=>hbb (by simp only [dfp,List.mem_cons];exact .inr (.inr hm))
  have hc2:w1.cell? ⟨b,1,none⟩=some pv:=(hA.kept.cell (by simp;omega) hnb).trans hc1
  have hf2:w1.frozen? ⟨b,1,none⟩=false:=(hA.kept.frozen (p:=⟨b,1,none⟩) (by simp;omega) hnb).trans ((World.frozen?_alloc_past _ _ _ lb).trans h2)
  refine hK _ _ _ (λ _ h=>h) ⟨hc2,rangeAt_kept hr1 hA.kept hnb2⟩ ?_
  have HA:=Lib.hid hA
  have HB:=Lib.hid hblk
  clear hK K e1 e2 hS0 hc1 hr1 hA hblk
  refine wpT_done ?_
  simp only [Act.put,List.setIfInBounds_toArray,List.set_cons_zero,List.set_cons_succ,List.drop_succ_cons,List.drop_zero]
  go_wp2
  go_ret
  have hA:=HA.out
  have hD:=H.out
  have hk2:Kept [b] w1 (w1.setCell ⟨b,1,none⟩ (.slice p1 (D.pend.length+1) c1)):=(Kept.refl _ _).setCell (by simp) _
  have hb1:w1.heap[b]? = some (.cells #[.slice (some ⟨bs,0,none⟩) D.secs.length cx,pv] 77 (0,0)) :=
    (hA.kept.block b (by simp;omega) hnb).trans ((Below.heap_alloc _ _ _ lb).trans hD.hb)
  have hbs1:w1.heap[bs]? = some (.cells (secsV D.secs++X).toArray 79 (0,0)) :=
    (hA.kept.block bs (by have:=Zk hD.hs;simp;omega) (λ hm=>(hD.n2 bs (by simpa using hm)).2 rfl)).trans ((Below.heap_alloc _ _ _ (Zk hD.hs)).trans hD.hs)
  have hnew : ∀ g,some g=(Value.slice p1 (D.pend.length+1) c1).ownBlock->g≠b/\g≠bs:=λ g hg=>by
    rcases hA.blk g hg.symm with h | h
    . exact hD.n2 g h
    . have h3:=Zk hD.hs;simp at h;omega
  refine ⟨.slice p1 (D.pend.length+1) c1,rfl,⟨⟨hD.ok.pos,hD.ok.max,hD.ok.secs,?_,?_⟩,?_,?_,?_,hD.n1,λ g hg=>hnew g hg.symm⟩,?_,?_⟩
  . intro p hp
    simp only [DD.write,List.mem_append,List.mem_singleton] at hp
    rcases hp with hp | rfl
    . exact hD.ok.at_ p hp
    . exact hn
  . intro p hp
    simp only [DD.write,List.mem_append,List.mem_singleton] at hp
    rcases hp with hp | rfl
    . exact hD.ok.data p hp
    . exact hd
  . rw [heap_setCell_same w1 b 1 _ _ _ hb1];rfl
  . exact (hk2.block bs (Zk hbs1) (by simp;exact λ e=>hD.n1 e.symm)).trans hbs1
  . have:=owns_kept hA.own hk2 (λ g hg hm=>(hnew g hg.symm).1 (by simpa using hm))
    simpa [DD.write,pendsV] using this
  . intro g hg
    rcases hA.blk g hg with h | h
    . exact .inl h
    . right;simp at h;omega
  . exact hkw.trans hk2 (by intro x hx;left;simp only [List.mem_singleton] at hx;subst hx;simp [dfp])
open Go.RowKit
def Dk.ld (t:TypeId) (p:Value):Sem Value:=Instr.loadAt t p
def Dk.st (t:TypeId) (p v:Value):Sem Unit:=Instr.storeAt t p v
def Dk.al (t:TypeId) (b:Bool) (o:Value):Sem Value:=Instr.alloc t b o
theorem Dk.ld64 (p:Value):Instr.loadAt 79 p=Dk.ld 79 p:=rfl
theorem Dk.ld66 (p:Value):Instr.loadAt 81 p=Dk.ld 81 p:=rfl
theorem Dk.st64 (p v:Value):Instr.storeAt 79 p v=Dk.st 79 p v:=rfl
theorem Dk.st66 (p v:Value):Instr.storeAt 81 p v=Dk.st 81 p v:=rfl
theorem Dk.al64 (b:Bool) (o:Value):Instr.alloc 79 b o=Dk.al 79 b o:=rfl
theorem Dk.al66 (b:Bool) (o:Value):Instr.alloc 81 b o=Dk.al 81 b o:=rfl
def zsecC : Array Value:=zsec.cells
def zwriteC : Array Value:=zwrite.cells
theorem size_zsecC : zsecC.size=256:=by kernel_rfl
theorem size_zwriteC : zwriteC.size=257:=by kernel_rfl
theorem run_alloc_z {P:Program} (w:World) (t:TypeId) (i:TypeInfo) (z:Value) (hi:P.info? t=some i) (hz:i.zero=some z) :
    (Instr.alloc t true (.tuple #[])).run P w = .ok (.pointer (some ⟨w.heap.size,0,none⟩)) (w.alloc (.cells z.cells t)):=by
  simp [Instr.alloc,zeroValue,typeInfo,hi,hz,newVar,newRow]
theorem Dk.al_run64 (w:World):(Dk.al 79 true (.tuple #[])).run Tryz.prog w = .ok (.pointer (some ⟨w.heap.size,0,none⟩)) (w.alloc (.cells zsecC 79)):=by
  obtain ⟨i,hi,hz,_,_⟩:=info_parts Dk.info64
  exact run_alloc_z w _ i zsec hi hz
theorem Dk.al_run66 (w:World):(Dk.al 81 true (.tuple #[])).run Tryz.prog w = .ok (.pointer (some ⟨w.heap.size,0,none⟩)) (w.alloc (.cells zwriteC 81)):=by
  obtain ⟨i,hi,hz,_,_⟩:=info_parts Dk.info66
  exact run_alloc_z w _ i zwrite hi hz
theorem Dk.u66 : ∃ fs,Tryz.prog.underlying 81=some (.struct fs):=⟨_,Tryz.underlying81⟩
theorem Dk.i66 {n:Nat} (h:n=257):(Tryz.prog.info? 81).map (·.size)=some n:=by rw [h];kernel_rfl
theorem Dk.ld_run64 (w:World) (b o:Nat) (d:List UInt8) (hc:w.rangeAt b o (Zb d)) (hd:d.length=256) :
    (Dk.ld 79 (.pointer (some ⟨b,o,none⟩))).run Tryz.prog w = .ok (.agg (Zb d).toArray) w :=
  run_loadAt_mid w b o _ _ _ hc Dk.u64 rfl (Dk.i64 (by simpa using hd))
theorem Dk.ld_run66 (w:World) (b o:Nat) (p:Nat×List UInt8) (hc:w.rangeAt b o (pendV p)) (hd:p.2.length=256) :
    (Dk.ld 81 (.pointer (some ⟨b,o,none⟩))).run Tryz.prog w = .ok (.agg (.int .i64 p.1::Zb p.2).toArray) w:=by
  obtain ⟨fs,hfs⟩:=Dk.u66
  exact run_loadAt_mid w b o _ _ _ hc hfs rfl (Dk.i66 (by simp [pendV,hd]))
theorem Dk.ld_data (w:World) (n:Int) (d:List UInt8) (hd:d.length=256) :
    (Dk.ld 79 (.pointer (some ⟨w.heap.size,1,none⟩))).run Tryz.prog (w.alloc (.cells (.int .i64 n::Zb d).toArray 81)) = .ok (.agg (Zb d).toArray) (w.alloc (.cells (.int .i64 n::Zb d).toArray 81)) :=
  Dk.ld_run64 _ _ _ d (λ j v hv=>by have:=cells_from (heap_alloc_new w (.cells (.int .i64 n::Zb d).toArray 81)) 1 (Zb d) (by simp) j v hv;rwa [Addr.add_mid] at this) hd
theorem run_storeAt_row {P:Program} (w:World) (g:Nat) (ty t:TypeId) (cells old:Array Value) (hg:w.heap[g]? = some (.cells old t (0,0))) (hi:(P.info? ty).map (·.size)=some cells.size)
    (hold:old.size=cells.size) (h1:cells.all (·.oneCell')=true) :
    (Instr.storeAt ty (.pointer (some ⟨g,0,none⟩)) (.agg cells)).run P w = .ok () (w.setRow g cells):=by
  have:=run_storeAt_mid (P:=P) w g 0 ty cells (λ j hj=>⟨by rw [cell_of_row w g _ old t (0,0) hg];simp;omega,frozen_of_row w g _ old t hg⟩) hi h1
  rw [this,setCells_row P w g t cells.toList 0 old hg (by simp;omega) (λ u hu=>(Array.all_eq_true_iff_forall_mem.1 h1) u (by simpa using hu))]
  unfold splice
  rw [List.drop_of_length_le (by simp;omega)]
  simp
theorem setRow_new (w:World) (C D:Array Value) (t:TypeId):(w.alloc (.cells C t)).setRow w.heap.size D=w.alloc (.cells D t):=by
  rw [World.alloc,World.setRow]
  congr 1
  apply Array.ext_getElem?
  intro i
  rw [Array.getElem?_modify,Array.getElem?_push,Array.getElem?_push]
  by_cases h:w.heap.size=i
  . subst h;simp
  . rw [if_neg h,if_neg (λ e=>h e.symm),if_neg (λ e=>h e.symm)]
theorem Dk.st_new64 (w:World) (d:List UInt8) (hd:d.length=256) :
    (Dk.st 79 (.pointer (some ⟨w.heap.size,0,none⟩)) (.agg (Zb d).toArray)).run Tryz.prog (w.alloc (.cells zsecC 79)) = .ok () (w.alloc (.cells (Zb d).toArray 79)):=by
  rw [<-setRow_new w zsecC (Zb d).toArray]
  exact run_storeAt_row _ _ _ _ _ zsecC (heap_alloc_new w _) (Dk.i64 (by simpa using hd)) (by rw [size_zsecC];simp [hd]) (all_oneCell_toArray Zu)
theorem Dk.st_new66 (w:World) (n:Nat) (d:List UInt8) (hd:d.length=256) :
    (Dk.st 81 (.pointer (some ⟨w.heap.size,0,none⟩)) (.agg (.int .i64 n::Zb d).toArray)).run Tryz.prog (w.alloc (.cells zwriteC 81)) = .ok () (w.alloc (.cells (.int .i64 n::Zb d).toArray 81)):=by
  rw [<-setRow_new w zwriteC (.int .i64 n::Zb d).toArray]
  exact run_storeAt_row _ _ _ _ _ zwriteC (heap_alloc_new w _) (Dk.i66 (by simp [hd])) (by rw [size_zwriteC];simp [hd]) (all_oneCell_toArray (λ v hv=>one_pendV (p:=(n,d)) v hv))
theorem Dk.st_run64 (w:World) (g:Nat) (d:List UInt8) (old:Array Value) (t:TypeId) (hg:w.heap[g]? = some (.cells old t (0,0))) (ho:old.size=256) (hd:d.length=256) :
    (Dk.st 79 (.pointer (some ⟨g,0,none⟩)) (.agg (Zb d).toArray)).run Tryz.prog w = .ok () (w.setRow g (Zb d).toArray) :=
  run_storeAt_row _ _ _ _ _ old hg (Dk.i64 (by simpa using hd)) (by simp [ho,hd]) (all_oneCell_toArray Zu)
theorem DiskAt.pend {w:World} {b bs cx:Nat} {X:List Value} {D:DD} {pv:Value} (h:DiskAt w b D bs cx X pv) (hp:0<D.pend.length) :
    ∃ gp cap,pv = .slice (some ⟨gp,0,none⟩) D.pend.length cap/\(∀ i (hi:i<D.pend.length),w.rangeAt gp (i*257) (pendV D.pend[i]))/\gp≠b/\gp≠bs/\gp<w.heap.size:=by
  have hl:=h.ok.lenPend
  rcases h.hp.2 with ⟨_,h0⟩ | ⟨g,cap,cur,rfl,_,hg,_,_,hcs,ht⟩
  . omega
  . refine ⟨g,cap,rfl,λ i hi j v hv=>?_,(h.n2 g rfl).1,(h.n2 g rfl).2,Zk hg⟩
    rw [cell_of_row w g _ cur _ _ hg]
    have hj:j<257:=by
      have:=(List.getElem?_eq_some_iff.1 hv).1
      simp [pendV,h.ok.data _ (List.getElem_mem hi)] at this
      omega
    have hd:=flat_drop pendV 257 D.pend (λ x hx=>by simp [pendV,h.ok.data x hx]) i hi
    have h2:(pendsV D.pend)[i*257+j]? = some v:=by
      rw [<-List.getElem?_drop]
      unfold pendsV
      rw [hd,List.getElem?_append_left (List.getElem?_eq_some_iff.1 hv).1]
      exact hv
    rw [<-ht,List.getElem?_take] at h2
    split at h2
    . simpa using h2
    . cases h2
theorem DiskAt.sec {w:World} {b bs cx:Nat} {X:List Value} {D:DD} {pv:Value} (h:DiskAt w b D bs cx X pv) (i:Nat) (hi:i<D.secs.length):w.rangeAt bs (i*256) (Zb D.secs[i]):=λ j v hv=>by
  rw [cell_of_row w bs _ _ _ _ h.hs]
  have hd:=flat_drop Zb 256 D.secs (λ x hx=>by simpa using h.ok.secs x hx) i hi
  have h2:(secsV D.secs)[i*256+j]? = some v:=by
    rw [<-List.getElem?_drop]
    unfold secsV
    rw [hd,List.getElem?_append_left (List.getElem?_eq_some_iff.1 hv).1]
    exact hv
  have h3:(secsV D.secs++X)[i*256+j]? = some v:=by rw [List.getElem?_append_left (List.getElem?_eq_some_iff.1 h2).1];exact h2
  simpa using h3
open Go.RowKit
attribute [local go_sem ↓] Dk.ld64 Dk.ld66 Dk.st64 Dk.st66 Dk.al64 Dk.al66
attribute [local go_sem] Dk.al_run64 Dk.al_run66 Dk.ld_data Dk.st_new64 Dk.st_new66
def DD.readK (D:DD) (n i:Nat):List UInt8:=(D.pend.take i).foldl (λ acc p=>if p.1=n then p.2 else acc) (D.secs.getD n [])
def DD.read (D:DD) (n:Nat):List UInt8:=D.readK n D.pend.length
theorem DD.readK_zero (D:DD) (n:Nat):D.readK n 0=D.secs.getD n []:=by unfold DD.readK;rfl
theorem DD.readK_succ (D:DD) (n i:Nat) (h:i<D.pend.length):D.readK n (i+1)=if D.pend[i].1=n then D.pend[i].2 else D.readK n i:=by
  unfold DD.readK;rw [List.take_succ_eq_append_getElem h,List.foldl_append];rfl
theorem DD.Ok.readK {D:DD} (h:D.Ok) (n:Nat) (hn:n<D.secs.length) : ∀ i,i<=D.pend.length->(D.readK n i).length=256
  | 0,_=>by rw [DD.readK_zero];simp only [List.getD_eq_getElem?_getD,List.getElem?_eq_getElem hn,Option.getD_some];exact h.secs _ (List.getElem_mem hn)
  | i+1,hi=>by
    rw [DD.readK_succ D n i (by omega)]
    split
    . exact h.data _ (List.getElem_mem _)
    . exact DD.Ok.readK h n hn i (by omega)
theorem Dk.elemB : ElemOk Tryz.prog 97 5 1 1 := .mk' (.int .u8 0) Tryz.underlying97 (by kernel_rfl) rfl (by omega)
def NewBytes (d:List UInt8) (code:Int) (w:World) (e:Ending) (w':World):Prop :=
  ∃ g cap,e = .returned (.tuple #[.slice (some ⟨g,0,none⟩) d.length cap,.int .i64 code])/\w'.ownsRow 0 5 1 (.slice (some ⟨g,0,none⟩) d.length cap) d.length (Zb d)/\w.heap.size<=g/\Kept [] w w'
theorem Dk.read (b bs n cx:Nat) (X:List Value) (D:DD) (pv:Value) (w:World) (h:DiskAt w b D bs cx X pv) (hn:n<D.secs.length) (hroom:D.pend.length<2^32) :
    Calls Tryz.prog 86 #[.pointer (some ⟨b,0,none⟩),.int .i64 n] w (NewBytes (D.read n) 0 w):=by
  have h0:=h.c0
  have h1:=h.c1
  have hh:=hasB_yes (n:=(n:Int)) (by omega) (show (n:Int)<(D.secs.length:Int) by omega)
  have hr0:=h.ok.readK n hn 0 (by omega)
  have hsec:w.rangeAt bs (n*256) (Zb (D.readK n 0)):=by
    rw [DD.readK_zero];simp only [List.getD_eq_getElem?_getD,List.getElem?_eq_getElem hn,Option.getD_some];exact h.sec n hn
  have hl1:=Dk.ld_run64 w bs (n*256) _ hsec hr0
  obtain ⟨p1,c1,hpv⟩:=owns_slice h.hp
  have n0:(0:Int)<=(n:Int):=by omega
  have n1:(n:Int)<(D.secs.length:Int):=by omega
  have lb:=Zk h.hb
  have H:=Lib.hid h
  have HP:=Lib.hid hpv
  subst hpv
  clear h hsec HP
  generalize hrd:D.readK n 0=r0 at *
  have Hrd:=Lib.hid hrd
  clear hrd
  go_enter Tryz.func86,Tryz.ntmps86
  go_wp2_with (go_at_call 130;refine (Dk.has _ _ _ _ _ _ _ (by assumption)).mono ?_;rintro e w' ⟨rfl,rfl⟩)
  go_loopw [28] (λ i wr => ∃ k:Nat,k<=D.pend.length/\i = .int .i64 k/\Hid (wr.heap[w.heap.size]? = some (.cells (Zb (D.readK n k)).toArray 79 (0,0)))/\Kept [] w wr) (λ i _=>D.pend.length-(intOf i).toNat)
  case atStart =>
    refine ⟨0,by omega,rfl,?_,(Kept.refl _ _).alloc _⟩
    rw [Hrd.out];exact heap_alloc_new _ _
  case round =>
    obtain ⟨k,hk,rfl,hrow,hkp⟩:=hrel
    by_cases hlt:k<D.pend.length
    . obtain ⟨gp,cap,he,hrange,hgb,hgs,hgl⟩:=H.out.pend (by omega)
      injection he with he1 _ he2
      subst he1 he2
      have hdat:=H.out.ok.data _ (List.getElem_mem hlt)
      have hs:=DD.readK_succ D n k hlt
      have hrk:=H.out.ok.readK n hn k (by omega)
      have hl66:=Dk.ld_run66 wr gp (k*257) _ (rangeAt_kept (hrange k hlt) hkp (by simp)) hdat
      generalize hp:D.pend[k]=p at *
      have hlw:=Zk hrow.out
      have hst:=Dk.st_run64 (wr.alloc (.cells (.int .i64 p.1::Zb p.2).toArray 81)) w.heap.size p.2 _ _ ((Below.heap_alloc _ _ _ hlw).trans hrow.out) (by simpa using hrk) hdat
      have Hs:=Lib.hid hs
      clear hrange hp hs hrk
      have k0:(0:Int)<=(k:Int):=by omega
      have k1:(k:Int)<(D.pend.length:Int):=by omega
      by_cases hq:p.1=n
      . have hb:((p.1:Int) == (n:Int))=true:=by simp [hq]
        have Hq:=Lib.hid hq
        clear hq
        go_wp2
        go_roundw
        case rel =>
          refine ⟨k+1,by omega,by go_num,?_,((hkp.alloc _).setRow (.inr (Nat.le_refl _)) _)⟩
          rw [Hs.out,if_pos Hq.out]
          exact setRow_heap _ _ _ _ _ _ ((Below.heap_alloc _ _ _ hlw).trans hrow.out)
        case measure=>simp [intOf];omega
      . have hb:((p.1:Int) == (n:Int))=false:=by simp;omega
        have Hq:=Lib.hid hq
        clear hq
        go_wp2
        go_roundw
        case rel =>
          refine ⟨k+1,by omega,by go_num,?_,hkp.alloc _⟩
          rw [Hs.out,if_neg Hq.out]
          exact (Below.heap_alloc _ _ _ hlw).trans hrow.out
        case measure=>simp [intOf];omega
    . have:k=D.pend.length:=by omega
      subst this
      have hrk:=H.out.ok.readK n hn D.pend.length (Nat.le_refl _)
      have hlw:=Zk hrow.out
      have e1:(wr.alloc (.cells #[] 5)).ownsRow 0 5 1 (.slice (some ⟨wr.heap.size,0,none⟩) 0 0) 0 []:=World.ownsRow_made wr #[] 0 (Nat.zero_le _) (by unfold maxLen;omega) rfl
      have e2:Src Tryz.prog 1 97 (.slice (some ⟨w.heap.size,0,none⟩) 256 256) 256 (Zb (D.readK n D.pend.length)) (wr.alloc (.cells #[] 5)) :=
        Src.ofBlock Tryz.underlying97 ((Below.heap_alloc _ _ _ hlw).trans hrow.out) 256 256 (by simpa using hrk) Zu
      have E1:=Lib.hid e1
      have E2:=Lib.hid e2
      have Hrk:=Lib.hid hrk
      clear e1 e2 hrk
      go_wp2_with (at_builtin;refine wpList_append_k (v := .slice (some ⟨wr.heap.size,0,none⟩) 0 0) (x := .slice (some ⟨w.heap.size,0,none⟩) 256 256) rfl (.tmp 39) (.tmp 40) _ _ rfl Dk.elemB rfl E1.out rfl E2.out (by unfold maxLen;omega) (by omega) (Nat.zero_le _) ?_;intro v1 w1 hA;have HA:=Lib.hid hA;clear hA)
      go_ret2
      have hA:=HA.out
      obtain ⟨g,cap,rfl,hg,_⟩:=hA.slice (by omega)
      have hlen:(D.read n).length=256:=Hrk.out
      have hge:w.heap.size<=g:=by
        have:=hkp.size
        rcases hg with hg | hg
        . simp [Value.ownBlock] at hg;omega
        . simp at hg;omega
      refine ⟨g,cap,?_,?_,hge,(hkp.alloc _).trans hA.kept (by have:=hkp.size;simp [Value.ownBlock];omega)⟩
      . rw [hlen];rfl
      . rw [hlen];have h5:=hA.own;simp only [Nat.zero_add,List.nil_append] at h5;exact h5
open Go.RowKit
attribute [local go_sem ↓] Dk.ld64 Dk.ld66 Dk.st64 Dk.st66 Dk.al64 Dk.al66
attribute [local go_sem] Dk.al_run64 Dk.al_run66 Dk.ld_data Dk.st_new64 Dk.st_new66
def layW (S:List (List UInt8)) (n k:Nat) (d:List UInt8):List (List UInt8):=S.set n (d.take k++(S.getD n []).drop k)
theorem length_layW (S:List (List UInt8)) (n k:Nat) (d:List UInt8):(layW S n k d).length=S.length:=by simp [layW]
theorem layW_ok (S:List (List UInt8)) (n k:Nat) (d:List UInt8) (hS : ∀ s∈S,s.length=256) (hn:n<S.length) (hk:k<=256) (hd:d.length=256) : ∀ s∈layW S n k d,s.length=256:=by
  intro s hs
  unfold layW at hs
  rcases List.mem_or_eq_of_mem_set hs with h | rfl
  . exact hS s h
  . have:=hS _ (List.getElem_mem hn)
    simp [List.getElem?_eq_getElem hn];omega
theorem layW_splice (S:List (List UInt8)) (n k:Nat) (d:List UInt8) (hS : ∀ s∈S,s.length=256) (hn:n<S.length) (hk:k<=256) (hd:d.length=256) :
    splice (secsV S) (n*256) ((Zb d).take k)=secsV (layW S n k d):=by
  have hl:((Zb d).take k).length=k:=by simp;omega
  have h1:=flat_splice Zb 256 S (λ x hx=>by simpa using hS x hx) n hn 0 ((Zb d).take k) (by omega) (d.take k++S[n].drop k) (by
    unfold splice
    rw [hl]
    simp [Zb])
  have e:layW S n k d=S.set n (d.take k++S[n].drop k):=by simp [layW,List.getElem?_eq_getElem hn]
  rw [e]
  rw [Nat.add_zero] at h1
  exact h1
theorem splice_appD {α:Type} (A Y:List α) (off:Nat) (cs:List α) (h:off+cs.length<=A.length):splice (A++Y) off cs=splice A off cs++Y:=by
  unfold splice
  rw [List.take_append_of_le_length (by omega),List.drop_append_of_le_length (by omega)]
  simp
theorem laySX (S:List (List UInt8)) (X:List Value) (n k:Nat) (d:List UInt8) (hS : ∀ s∈S,s.length=256) (hn:n<S.length) (hk:k<=256) (hd:d.length=256) :
    splice (secsV S++X) (n*256) ((Zb d).take k)=secsV (layW S n k d)++X:=by
  have h:=flat_length Zb 256 S (λ x hx=>by simpa using hS x hx)
  rw [splice_appD _ _ _ _ (by unfold secsV;rw [h,List.length_take,Wd];omega),layW_splice S n k d hS hn hk hd]
def clampN (x:Int):Nat:=(min (max x 0) 256).toNat
theorem clampN_le (x:Int):clampN x<=256:=by unfold clampN;omega
def amount (keep:List Bool) (tear at_:Int) (i:Nat):Option Nat:=if (i:Int)=tear then some (clampN at_) else if keep.getD i false then some 256 else none
def DD.lays (D:DD) (f:Nat->Option Nat):Nat->List (List UInt8)
  | 0=>D.secs
  | i+1=>match D.pend[i]? with
    | none=>D.lays f i
    | some p=>match f i with
      | some k=>layW (D.lays f i) p.1 k p.2
      | none=>D.lays f i
theorem DD.lays_ok {D:DD} (h:D.Ok) (f:Nat->Option Nat) (hf : ∀ i k,f i=some k->k<=256) : ∀ i,(∀ s∈D.lays f i,s.length=256)/\(D.lays f i).length=D.secs.length
  | 0=>⟨h.secs,rfl⟩
  | i+1=>by
    have ih:=DD.lays_ok h f hf i
    unfold DD.lays
    cases hp:D.pend[i]? with
    | none=>exact ih
    | some p =>
      have hm:=List.mem_of_getElem? hp
      cases hk:f i with
      | none=>exact ih
      | some k=>exact ⟨layW_ok _ _ _ _ ih.1 (by rw [ih.2];exact h.at_ p hm) (hf i k hk) (h.data p hm),by simp only [length_layW];exact ih.2⟩
theorem DD.lays_some (D:DD) (f:Nat->Option Nat) (i k:Nat) (hi:i<D.pend.length) (hk:f i=some k):D.lays f (i+1)=layW (D.lays f i) D.pend[i].1 k D.pend[i].2:=by
  simp [DD.lays,List.getElem?_eq_getElem hi,hk]
theorem DD.lays_none (D:DD) (f:Nat->Option Nat) (i:Nat) (hi:i<D.pend.length) (hk:f i=none):D.lays f (i+1)=D.lays f i:=by
  simp [DD.lays,List.getElem?_eq_getElem hi,hk]
def DD.sync (D:DD):DD:=⟨D.lays (λ _=>some 256) D.pend.length,[]⟩
def DD.crash (D:DD) (keep:List Bool) (tear at_:Int):DD:=⟨D.lays (amount keep tear at_) D.pend.length,[]⟩
theorem DiskAt.laid {w w1:World} {b bs cx:Nat} {X:List Value} {D:DD} {pv:Value} (h:DiskAt w b D bs cx X pv) (S:List (List UInt8)) (hl:S.length=D.secs.length) (hS : ∀ s∈S,s.length=256)
    (hs:w1.heap[bs]? = some (.cells (secsV S++X).toArray 79 (0,0))) (hk:Kept [bs] w w1) :
    DiskAt (w1.setCell ⟨b,1,none⟩ (.slice none 0 0)) b ⟨S,[]⟩ bs cx X (.slice none 0 0)/\Kept [b,bs] w (w1.setCell ⟨b,1,none⟩ (.slice none 0 0)):=by
  have hb1:=(hk.block b (Zk h.hb) (by simp;exact h.n1)).trans h.hb
  refine ⟨⟨⟨by simp only;rw [hl];exact h.ok.pos,by simp only;rw [hl];exact h.ok.max,hS,by simp,by simp⟩,?_,?_,World.ownsRow_nil _ _ _ _,h.n1,by simp [Value.ownBlock]⟩,?_⟩
  . rw [heap_setCell_same w1 b 1 _ _ _ hb1];simp only [hl];rfl
  . rw [heap_setCell_other _ _ _ _ (by simp;exact λ e=>h.n1 e.symm)];exact hs
  . exact (hk.mono (by simp)).setCell (by simp) _
def LaidPost (w:World) (b bs cx:Nat) (X:List Value) (D':DD) (v:Value) (e:Ending) (w':World):Prop:=e = .returned v/\DiskAt w' b D' bs cx X (.slice none 0 0)/\Kept [b,bs] w w'
theorem Dk.sync (b bs cx:Nat) (X:List Value) (D:DD) (pv:Value) (w:World) (h:DiskAt w b D bs cx X pv) (hroom:D.pend.length<2^32) :
    Calls Tryz.prog 121 #[.pointer (some ⟨b,0,none⟩)] w (LaidPost w b bs cx X D.sync (.int .i64 D.pend.length)):=by
  have h1:=h.c1
  obtain ⟨p1,c1,hpv⟩:=owns_slice h.hp
  have lb:=Zk h.hb
  have H:=Lib.hid h
  subst hpv
  clear h
  go_enter Tryz.func121,Tryz.ntmps121
  go_wp2
  go_loopw [16] (λ i wr => ∃ k:Nat,k<=D.pend.length/\i = .int .i64 k/\Hid (wr.heap[bs]? = some (.cells (secsV (D.lays (λ _=>some 256) k)++X).toArray 79 (0,0)))/\Kept [bs] w wr) (λ i _=>D.pend.length-(intOf i).toNat)
  case atStart=>exact ⟨0,by omega,rfl,H.out.hs,Kept.refl _ _⟩
  case round =>
    obtain ⟨k,hk,rfl,hrow,hkp⟩:=hrel
    by_cases hlt:k<D.pend.length
    . obtain ⟨gp,cap,he,hrange,hgb,hgs,hgl⟩:=H.out.pend (by omega)
      injection he with he1 _ he2
      subst he1 he2
      have hdat:=H.out.ok.data _ (List.getElem_mem hlt)
      have hat:=H.out.ok.at_ _ (List.getElem_mem hlt)
      have hs:=DD.lays_some D (λ _=>some 256) k 256 hlt rfl
      obtain ⟨hS,hSl⟩:=DD.lays_ok H.out.ok (λ _=>some 256) (by simp) k
      have hl66:=Dk.ld_run66 wr gp (k*257) _ (rangeAt_kept (hrange k hlt) hkp (by simp;exact hgs)) hdat
      generalize hp:D.pend[k]=p at *
      have hlw:=Zk hrow.out
      have hls:=laySX _ X p.1 256 p.2 hS (by omega) (by omega) hdat
      have hc0:wr.cell? ⟨b,0,none⟩=some (.slice (some ⟨bs,0,none⟩) D.secs.length cx):=(hkp.cell (p:=⟨b,0,none⟩) lb (by simp;exact H.out.n1)).trans H.out.c0
      have hlwb:b<wr.heap.size:=Nat.lt_of_lt_of_le lb hkp.size
      have hne:=H.out.n1
      have Hs:=Lib.hid hs
      have Hls:=Lib.hid hls
      have HS:=Lib.hid hSl
      clear hrange hp hs hls hS hSl
      have k0:(0:Int)<=(k:Int):=by omega
      have k1:(k:Int)<(D.pend.length:Int):=by omega
      go_wp2
      have hS0:(wr.alloc (.cells (.int .i64 p.1::Zb p.2).toArray 81)).drew.rangeAt wr.heap.size 0 (pendV p):=λ j v hv=>by
        have:=cells_from (heap_alloc_new wr (.cells (pendV p).toArray 81)) 0 (pendV p) (by simp) j v hv
        rwa [Addr.add_mid] at this
      refine wp_region_T 5 (λ w'=>w'.rangeAt wr.heap.size 0 (pendV p)) (by simp) ?_
      refine Wu (i:=0) (v := ?_) rfl (λ _ _ _ h=>h) (by assumption) (.inl ⟨rfl,?_⟩) ?_
      rotate_left
      . intro w' hS;go_simp;try with_reducible rfl
      simp only [Act.put,List.setIfInBounds_toArray,List.set_cons_zero,List.set_cons_succ]
      refine Wu (i:=1) (v := ?_) rfl (λ _ _ _ h=>h) (by assumption) (.inl ⟨rfl,?_⟩) ?_
      rotate_left
      . intro w' hS;go_simp;try with_reducible rfl
      simp only [Act.put,List.setIfInBounds_toArray,List.set_cons_zero,List.set_cons_succ]
      refine Wu (i:=2) (v := ?_) rfl (λ _ _ _ h=>h) (by assumption) (.inl ⟨rfl,?_⟩) ?_
      rotate_left
      . intro w' hS;go_simp;try with_reducible rfl
      simp only [Act.put,List.setIfInBounds_toArray,List.set_cons_zero,List.set_cons_succ]
      refine Wu (i:=3) (v := ?_) rfl (λ _ _ _ h=>h) (by assumption) (.inl ⟨rfl,?_⟩) ?_
      rotate_left
      . intro w' hS;have h66:=Dk.ld_run66 w' _ 0 p hS hdat;go_simp;try with_reducible rfl
      simp only [Act.put,List.setIfInBounds_toArray,List.set_cons_zero,List.set_cons_succ]
      refine wpT_one (i:=4) rfl rfl (λ K hK=>?_)
      go_simp
      refine (Dk.put b 0 bs D.secs.length cx p.1 256 (secsV (D.lays (λ _=>some 256) k)++X) (Zb p.2) _ ?_ ?_ ?_ hne hat (by omega) (by simpa using hdat) Zu).mono ?_
      . exact (World.cell?_alloc_lt _ _ _ hlwb).trans hc0
      . exact (Below.heap_alloc _ _ _ hlw).trans hrow.out
      . have:=flat_length Zb 256 (D.lays (λ _=>some 256) k) (λ x hx=>by simpa using (DD.lays_ok H.out.ok (λ _=>some 256) (by simp) k).1 x hx)
        rw [List.length_append];unfold secsV;rw [this,HS.out];omega
      rintro e w2 ⟨rfl,hg2,hk2⟩
      refine hK _ _ _ (λ _ h=>h) (rangeAt_kept hS0 hk2 (by simp;omega)) ?_
      clear hK K
      refine wpT_done ?_
      simp only [Act.put,List.setIfInBounds_toArray,List.set_cons_zero,List.set_cons_succ,List.drop_succ_cons,List.drop_zero,List.drop_nil]
      have HG:=Lib.hid hg2
      clear hS0 hg2 hl66
      go_wp2
      go_roundw
      case rel =>
        refine ⟨k+1,by omega,by go_num,?_,((hkp.alloc _).drew).trans hk2 (by simp)⟩
        rw [Hs.out,<-Hls.out];exact HG.out
      case measure=>simp [intOf];omega
    . have:k=D.pend.length:=by omega
      subst this
      have hc1:wr.cell? ⟨b,1,none⟩=some (.slice p1 D.pend.length c1):=(hkp.cell (p:=⟨b,1,none⟩) lb (by simp;exact H.out.n1)).trans h1
      have hf1:wr.frozen? ⟨b,1,none⟩=false:=(hkp.frozen (p:=⟨b,1,none⟩) lb (by simp;exact H.out.n1)).trans H.out.f1
      go_wp2
      go_ret
      obtain ⟨hS,hSl⟩:=DD.lays_ok H.out.ok (λ _=>some 256) (by simp) D.pend.length
      obtain ⟨r1,r2⟩:=H.out.laid _ hSl hS hrow.out hkp
      exact ⟨rfl,r1,r2⟩
open Go.RowKit
attribute [local go_sem ↓] Dk.ld64 Dk.ld66 Dk.st64 Dk.st66 Dk.al64 Dk.al66
attribute [local go_sem] Dk.al_run64 Dk.al_run66 Dk.ld_data Dk.st_new64 Dk.st_new66
theorem amount_le (keep:List Bool) (tear at_:Int) : ∀ i k,amount keep tear at_ i=some k->k<=256:=by
  intro i k h
  unfold amount at h
  split at h
  . injection h with h;have:=clampN_le at_;omega
  . split at h
    . injection h with h;omega
    . cases h
def boolsV (l:List Bool):List Value:=l.map .bool
theorem reads_bool {w:World} {v:Value} {l:List Bool} {fp:List Nat} (h:Reads w v (boolsV l) fp) : ∃ a cap,v = .slice a l.length cap/\(l=[] \/ ∃ kb ko,a=some ⟨kb,ko,none⟩/\kb∈fp /\ ∀ i (hi:i<l.length),w.cell? ⟨kb,ko+i,none⟩=some (.bool l[i])):=by
  obtain ⟨a,cap,rfl,h | ⟨b,o,rfl,hr,hb⟩⟩:=h
  . exact ⟨a,cap,by simp [boolsV],.inl (by simpa [boolsV] using h)⟩
  . refine ⟨_,cap,by simp [boolsV],.inr ⟨b,o,rfl,hb,λ i hi=>hr i _ (by simp [boolsV,hi])⟩⟩
theorem Dk.crash (b bs cx:Nat) (X:List Value) (D:DD) (pv vk:Value) (keep:List Bool) (fk:List Nat) (tear at_:Int) (w:World) (h:DiskAt w b D bs cx X pv) (hroom:D.pend.length<2^32)
    (hkeep:Reads w vk (boolsV keep) fk) (hfk : ∀ x∈fk,x≠bs) :
    Calls Tryz.prog 7 #[.pointer (some ⟨b,0,none⟩),vk,.int .i64 tear,.int .i64 at_] w (LaidPost w b bs cx X (D.crash keep tear at_) (.tuple #[])):=by
  have h1:=h.c1
  obtain ⟨p1,c1,hpv⟩:=owns_slice h.hp
  have lb:=Zk h.hb
  obtain ⟨ka,kc,rfl,hkd⟩:=reads_bool hkeep
  have H:=Lib.hid h
  have HK:=Lib.hid hkd
  subst hpv
  clear h hkeep hkd
  obtain ⟨F,hFd⟩ : ∃ F,F=amount keep tear at_:=⟨_,rfl⟩
  have hF : ∀ i k,F i=some k->k<=256:=by rw [hFd];exact amount_le keep tear at_
  have HFd:=Lib.hid hFd
  clear hFd
  go_enter Tryz.func7,Tryz.ntmps7
  go_wp2
  go_loopw [15] (λ i wr => ∃ k:Nat,k<=D.pend.length/\i = .int .i64 k/\Hid (wr.heap[bs]? = some (.cells (secsV (D.lays F k)++X).toArray 79 (0,0)))/\Kept [bs] w wr) (λ i _=>D.pend.length-(intOf i).toNat)
  case atStart=>exact ⟨0,by omega,rfl,H.out.hs,Kept.refl _ _⟩
  case round =>
    obtain ⟨k,hk,rfl,hrow,hkp⟩:=hrel
    by_cases hlt:k<D.pend.length
    . obtain ⟨gp,cap,he,hrange,hgb,hgs,hgl⟩:=H.out.pend (by omega)
      injection he with he1 _ he2
      subst he1 he2
      have hdat:=H.out.ok.data _ (List.getElem_mem hlt)
      have hat:=H.out.ok.at_ _ (List.getElem_mem hlt)
      obtain ⟨hS,hSl⟩:=DD.lays_ok H.out.ok F hF k
      have hl66:=Dk.ld_run66 wr gp (k*257) _ (rangeAt_kept (hrange k hlt) hkp (by simp;exact hgs)) hdat
      have hs1:=λ q (hq:F k=some q)=>DD.lays_some D F k q hlt hq
      have hs2:=λ (hq:F k=none)=>DD.lays_none D F k hlt hq
      generalize hp:D.pend[k]=p at *
      have hlw:=Zk hrow.out
      have hls:=λ q (hq:q<=256)=>laySX _ X p.1 q p.2 hS (by omega) hq hdat
      have hc0:wr.cell? ⟨b,0,none⟩=some (.slice (some ⟨bs,0,none⟩) D.secs.length cx):=(hkp.cell (p:=⟨b,0,none⟩) lb (by simp;exact H.out.n1)).trans H.out.c0
      have hlwb:b<wr.heap.size:=Nat.lt_of_lt_of_le lb hkp.size
      have hne:=H.out.n1
      have HS:=Lib.hid hSl
      clear hrange hp hS hSl
      have k0:(0:Int)<=(k:Int):=by omega
      have k1:(k:Int)<(D.pend.length:Int):=by omega
      by_cases ht:(k:Int)=tear
      . have hb1:((k:Int) == tear)=true:=by simp [ht]
        have hFk:F k=some (clampN at_):=by rw [HFd.out];unfold amount;rw [if_pos ht]
        have Hs:=Lib.hid (hs1 _ hFk)
        have Hls:=Lib.hid (hls _ (clampN_le at_))
        have hcl:(if 256<(if at_<0 then 0 else at_) then 256 else if at_<0 then 0 else at_)=((clampN at_:Nat):Int):=by unfold clampN;(repeat' split) <;> omega
        have hkk:=clampN_le at_
        clear hs1 hs2 hls ht
        go_wp2
        have hS0:(wr.alloc (.cells (.int .i64 p.1::Zb p.2).toArray 81)).drew.rangeAt wr.heap.size 0 (pendV p):=λ j v hv=>by
          have:=cells_from (heap_alloc_new wr (.cells (pendV p).toArray 81)) 0 (pendV p) (by simp) j v hv
          rwa [Addr.add_mid] at this
        refine wp_region_T 8 (λ w'=>w'.rangeAt wr.heap.size 0 (pendV p)) (by simp) ?_
        refine Wu (i:=0) (v := ?_) rfl (λ _ _ _ h=>h) (by assumption) (.inl ⟨rfl,?_⟩) ?_
        rotate_left
        . intro w' hS;go_simp;try with_reducible rfl
        simp only [Act.put,List.setIfInBounds_toArray,List.set_cons_zero,List.set_cons_succ]
        refine Wu (i:=1) (v := ?_) rfl (λ _ _ _ h=>h) (by assumption) (.inl ⟨rfl,?_⟩) ?_
        rotate_left
        . intro w' hS;go_simp;try with_reducible rfl
        simp only [Act.put,List.setIfInBounds_toArray,List.set_cons_zero,List.set_cons_succ]
        refine Wu (i:=2) (v := ?_) rfl (λ _ _ _ h=>h) (by assumption) (.inl ⟨rfl,?_⟩) ?_
        rotate_left
        . intro w' hS;go_simp;try with_reducible rfl
        simp only [Act.put,List.setIfInBounds_toArray,List.set_cons_zero,List.set_cons_succ]
        refine Wu (i:=3) (v := ?_) rfl (λ _ _ _ h=>h) (by assumption) (.inl ⟨rfl,?_⟩) ?_
        rotate_left
        . intro w' hS;have h66:=Dk.ld_run66 w' _ 0 p hS hdat;go_simp;try with_reducible rfl
        simp only [Act.put,List.setIfInBounds_toArray,List.set_cons_zero,List.set_cons_succ]
        refine Wu (i:=4) (v := ?_) rfl (λ _ _ _ h=>h) (by assumption) (.inl ⟨rfl,?_⟩) ?_
        rotate_left
        . intro w' hS;go_simp;try with_reducible rfl
        simp only [Act.put,List.setIfInBounds_toArray,List.set_cons_zero,List.set_cons_succ]
        refine Wu (i:=5) (v := ?_) rfl (λ _ _ _ h=>h) (by assumption) (.inl ⟨rfl,?_⟩) ?_
        rotate_left
        . intro w' hS;go_simp;try with_reducible rfl
        simp only [Act.put,List.setIfInBounds_toArray,List.set_cons_zero,List.set_cons_succ]
        refine Wu (i:=6) (v := ?_) rfl (λ _ _ _ h=>h) (by assumption) (.inl ⟨rfl,?_⟩) ?_
        rotate_left
        . intro w' hS;go_simp;try with_reducible rfl
        simp only [Act.put,List.setIfInBounds_toArray,List.set_cons_zero,List.set_cons_succ]
        refine wpT_one (i:=7) rfl rfl (λ K hK=>?_)
        go_simp
        refine (Dk.put b 0 bs D.secs.length cx p.1 (clampN at_) (secsV (D.lays F k)++X) (Zb p.2) _ ?_ ?_ ?_ hne hat (hkk) (by simpa using hdat) Zu).mono ?_
        . exact (World.cell?_alloc_lt _ _ _ hlwb).trans hc0
        . exact (Below.heap_alloc _ _ _ hlw).trans hrow.out
        . have:=flat_length Zb 256 (D.lays F k) (λ x hx=>by simpa using (DD.lays_ok H.out.ok F hF k).1 x hx)
          rw [List.length_append];unfold secsV;rw [this,HS.out];omega
        rintro e w2 ⟨rfl,hg2,hk2⟩
        refine hK _ _ _ (λ _ h=>h) (rangeAt_kept hS0 hk2 (by simp;omega)) ?_
        clear hK K
        refine wpT_done ?_
        simp only [Act.put,List.setIfInBounds_toArray,List.set_cons_zero,List.set_cons_succ,List.drop_succ_cons,List.drop_zero,List.drop_nil]
        have HG:=Lib.hid hg2
        clear hS0 hg2 hl66
        go_wp2
        go_roundw
        case rel =>
          refine ⟨k+1,by omega,by go_num,?_,((hkp.alloc _).drew).trans hk2 (by simp)⟩
          rw [Hs.out,<-Hls.out];exact HG.out
        case measure=>simp [intOf];omega
      . have hb1:((k:Int) == tear)=false:=by simpa using ht
        by_cases hlk:k<keep.length
        . obtain rfl | ⟨kb,ko,rfl,hkb,hcell⟩:=HK.out
          . simp at hlk
          have hck:=(hkp.cell (p:=⟨kb,ko+k,none⟩) (World.block_lt_of_cell? w _ (hcell k hlk)) (by simp;exact hfk _ hkb)).trans (hcell k hlk)
          have hlwk:kb<wr.heap.size:=World.block_lt_of_cell? wr _ hck
          have hlk0:(k:Int)<(keep.length:Int):=by omega
          cases hkv:keep[k] with
          | true =>
            have hFk:F k=some 256:=by rw [HFd.out];unfold amount;rw [if_neg ht,if_pos (by simp [hlk,hkv])]
            have Hs:=Lib.hid (hs1 _ hFk)
            have Hls:=Lib.hid (hls 256 (by omega))
            rw [hkv] at hck
            clear hs1 hs2 hls ht hcell hkv
            go_wp2
            have hS0:(wr.alloc (.cells (.int .i64 p.1::Zb p.2).toArray 81)).drew.rangeAt wr.heap.size 0 (pendV p):=λ j v hv=>by
              have:=cells_from (heap_alloc_new wr (.cells (pendV p).toArray 81)) 0 (pendV p) (by simp) j v hv
              rwa [Addr.add_mid] at this
            refine wp_region_T 5 (λ w'=>w'.rangeAt wr.heap.size 0 (pendV p)) (by simp) ?_
            refine Wu (i:=0) (v := ?_) rfl (λ _ _ _ h=>h) (by assumption) (.inl ⟨rfl,?_⟩) ?_
            rotate_left
            . intro w' hS;go_simp;try with_reducible rfl
            simp only [Act.put,List.setIfInBounds_toArray,List.set_cons_zero,List.set_cons_succ]
            refine Wu (i:=1) (v := ?_) rfl (λ _ _ _ h=>h) (by assumption) (.inl ⟨rfl,?_⟩) ?_
            rotate_left
            . intro w' hS;go_simp;try with_reducible rfl
            simp only [Act.put,List.setIfInBounds_toArray,List.set_cons_zero,List.set_cons_succ]
            refine Wu (i:=2) (v := ?_) rfl (λ _ _ _ h=>h) (by assumption) (.inl ⟨rfl,?_⟩) ?_
            rotate_left
            . intro w' hS;go_simp;try with_reducible rfl
            simp only [Act.put,List.setIfInBounds_toArray,List.set_cons_zero,List.set_cons_succ]
            refine Wu (i:=3) (v := ?_) rfl (λ _ _ _ h=>h) (by assumption) (.inl ⟨rfl,?_⟩) ?_
            rotate_left
            . intro w' hS;have h66:=Dk.ld_run66 w' _ 0 p hS hdat;go_simp;try with_reducible rfl
            simp only [Act.put,List.setIfInBounds_toArray,List.set_cons_zero,List.set_cons_succ]
            refine wpT_one (i:=4) rfl rfl (λ K hK=>?_)
            go_simp
            refine (Dk.put b 0 bs D.secs.length cx p.1 256 (secsV (D.lays F k)++X) (Zb p.2) _ ?_ ?_ ?_ hne hat (by omega) (by simpa using hdat) Zu).mono ?_
            . exact (World.cell?_alloc_lt _ _ _ hlwb).trans hc0
            . exact (Below.heap_alloc _ _ _ hlw).trans hrow.out
            . have:=flat_length Zb 256 (D.lays F k) (λ x hx=>by simpa using (DD.lays_ok H.out.ok F hF k).1 x hx)
              rw [List.length_append];unfold secsV;rw [this,HS.out];omega
            rintro e w2 ⟨rfl,hg2,hk2⟩
            refine hK _ _ _ (λ _ h=>h) (rangeAt_kept hS0 hk2 (by simp;omega)) ?_
            clear hK K
            refine wpT_done ?_
            simp only [Act.put,List.setIfInBounds_toArray,List.set_cons_zero,List.set_cons_succ,List.drop_succ_cons,List.drop_zero,List.drop_nil]
            have HG:=Lib.hid hg2
            clear hS0 hg2 hl66
            go_wp2
            go_roundw
            case rel =>
              refine ⟨k+1,by omega,by go_num,?_,((hkp.alloc _).drew).trans hk2 (by simp)⟩
              rw [Hs.out,<-Hls.out];exact HG.out
            case measure=>simp [intOf];omega
          | false =>
            have hFk:F k=none:=by rw [HFd.out];unfold amount;rw [if_neg ht,if_neg (by simp [hlk,hkv])]
            have Hs:=Lib.hid (hs2 hFk)
            rw [hkv] at hck
            clear hs1 hs2 hls ht hcell hkv
            go_wp2
            go_roundw
            case rel =>
              refine ⟨k+1,by omega,by go_num,?_,hkp.alloc _⟩
              rw [Hs.out];exact (Below.heap_alloc _ _ _ hlw).trans hrow.out
            case measure=>simp [intOf];omega
        . have hlk0:decide (k<keep.length)=false:=by simp;omega
          have hFk:F k=none:=by rw [HFd.out];unfold amount;rw [if_neg ht,if_neg (by simp [List.getElem?_eq_none (Nat.not_lt.1 hlk)])]
          have Hs:=Lib.hid (hs2 hFk)
          clear hs1 hs2 hls ht hlk
          go_wp2
          go_roundw
          case rel =>
            refine ⟨k+1,by omega,by go_num,?_,hkp.alloc _⟩
            rw [Hs.out];exact (Below.heap_alloc _ _ _ hlw).trans hrow.out
          case measure=>simp [intOf];omega
    . have:k=D.pend.length:=by omega
      subst this
      have hc1:wr.cell? ⟨b,1,none⟩=some (.slice p1 D.pend.length c1):=(hkp.cell (p:=⟨b,1,none⟩) lb (by simp;exact H.out.n1)).trans h1
      have hf1:wr.frozen? ⟨b,1,none⟩=false:=(hkp.frozen (p:=⟨b,1,none⟩) lb (by simp;exact H.out.n1)).trans H.out.f1
      go_wp2
      go_end0
      obtain ⟨hS,hSl⟩:=DD.lays_ok H.out.ok F hF D.pend.length
      obtain ⟨r1,r2⟩:=H.out.laid _ hSl hS hrow.out hkp
      rw [HFd.out] at r1
      exact ⟨rfl,r1,r2⟩
open Go.RowKit
open Go.RowKit
open Go.RowKit
def ReadP (d:List UInt8) (w:World) (e:Ending) (w':World):Prop :=
  ∃ g cap,e = .returned (.tuple #[.slice (some ⟨g,0,none⟩) 256 cap,.int .i64 0])/\w'.ownsRow 0 5 1 (.slice (some ⟨g,0,none⟩) 256 cap) 256 (Zb d)/\d.length=256/\w.heap.size<=g/\Kept [] w w'
theorem Dk.readI (b bs n cx:Nat) (i:Int) (X:List Value) (D:DD) (pv:Value) (w:World) (hi:i=n) (h:DiskAt w b D bs cx X pv) (hn:n<D.secs.length) (hroom:D.pend.length<2^32) :
    Calls Tryz.prog 86 #[.pointer (some ⟨b,0,none⟩),.int .i64 i] w (ReadP (D.read n) w):=by
  subst hi
  have hl:(D.read n).length=256:=h.ok.readK n hn _ (Nat.le_refl _)
  refine (Dk.read b bs n cx X D pv w h hn hroom).mono ?_
  rintro e w' ⟨g,cap,rfl,h1,h2,h3⟩
  rw [hl] at h1 ⊢
  exact ⟨g,cap,rfl,h1,hl,h2,h3⟩
open Go.RowKit
def dskB (b:Nat) (D:DD) (bs cx:Nat) (X:List Value) (pv:Value):Wp:=λ h =>
  D.Ok/\h b=some (.cells #[.slice (some ⟨bs,0,none⟩) D.secs.length cx,pv] 77 (0,0))/\h bs=some (.cells (secsV D.secs++X).toArray 79 (0,0)) /\
    row pv 81 257 D.pend.length (pendsV D.pend) h/\b≠bs /\ ∀ g,pv.ownBlock=some g->g≠b/\g≠bs
def Zn (b:Nat) (D:DD):Wp:=λ h => ∃ bs cx X pv,dskB b D bs cx X pv h
section
variable {B : Wn} {w w':World} {l:List Wp}
theorem row_dom {pv:Value} {e sz n:Nat} {xs:List Value} {h:Piece} (H:row pv e sz n xs h) : ∀ g∈pv.ownBlock.toList,∃ o,h g=some o:=by
  intro g hg
  rcases H.2 with ⟨rfl,_⟩ | ⟨g',cap,cur,rfl,h2,_⟩
  . simp [Value.ownBlock] at hg
  . simp [Value.ownBlock] at hg;subst hg;exact ⟨_,h2⟩
theorem dskB_dom {b bs cx:Nat} {D:DD} {X:List Value} {pv:Value} {h:Piece} (H:dskB b D bs cx X pv h) : ∀ g∈dfp b bs pv,∃ o,h g=some o:=by
  obtain ⟨_,h1,h2,h3,_⟩:=H
  intro g hg
  simp only [dfp,List.mem_cons] at hg
  rcases hg with rfl | rfl | hg
  . exact ⟨_,h1⟩
  . exact ⟨_,h2⟩
  . exact row_dom h3 g hg
theorem Own.disk {b:Nat} {D:DD} (H:Own B w (Zn b D::l)) : ∃ bs cx X pv,Own B w (dskB b D bs cx X pv::l)/\DiskAt w b D bs cx X pv:=by
  obtain ⟨h,hd,hl,h1,h2,d,a1,a2,⟨bs,cx,X,pv,hA⟩,H2⟩:=H.has
  have H':Own B w (dskB b D bs cx X pv::l):=⟨H.os,H.tape,H.output,H.ro,h,hd,hl,h1,h2,d,a1,a2,hA,H2⟩
  obtain ⟨k1,k2,k3,k4,k5,k6⟩:=hA
  have le : ∀ g o,h1 g=some o->w.heap[g]? = some o:=λ g o e=>hl.p _ _ (a1.p _ _ e)
  refine ⟨bs,cx,X,pv,H',k1,le _ _ k2,le _ _ k3,?_,k5,k6⟩
  exact ⟨k4.1,k4.2.imp id λ ⟨g,cap,cur,e1,e2,e3⟩=>⟨g,cap,cur,e1,Nat.zero_le _,le _ _ e2,e3⟩⟩
theorem DiskAt.to {b bs cx:Nat} {D:DD} {X:List Value} {pv:Value} {h:Piece} (H:DiskAt w b D bs cx X pv) (hh : ∀ g∈dfp b bs pv,h g=w.heap[g]?):dskB b D bs cx X pv h:=by
  refine ⟨H.ok,by rw [hh _ (by simp [dfp])];exact H.hb,by rw [hh _ (by simp [dfp])];exact H.hs,⟨H.hp.1,H.hp.2.imp id ?_⟩,H.n1,H.n2⟩
  rintro ⟨g,cap,cur,rfl,_,e2,e3⟩
  exact ⟨g,cap,cur,rfl,by rw [hh _ (by simp [dfp,Value.ownBlock])];exact e2,e3⟩
theorem Own.disk_kept {b bs cx:Nat} {D D':DD} {X:List Value} {pv:Value} (H:Own B w (dskB b D bs cx X pv::l)) (hk:Kept (dfp b bs pv) w w') {bs' cx':Nat} {X':List Value} {pv':Value} (hD:DiskAt w' b D' bs' cx' X' pv') (hn : ∀ x∈dfp b bs' pv',x∈dfp b bs pv\/w.heap.size<=x):Own B w' (Zn b D'::l) :=
  Own.kept H hk (λ _=>dskB_dom) λ h1 h _ _ e _=>⟨bs',cx',X',pv',hD.to λ g hg=>e g (hn g hg)⟩
theorem Own.disk_new {b bs cx:Nat} {D:DD} {X:List Value} {pv:Value} (H:Own B w l) (hk:Kept [] w w') (hD:DiskAt w' b D bs cx X pv) (hn : ∀ x∈dfp b bs pv,w.heap.size<=x):Own B w' (Zn b D::l) :=
  Own.fresh H hk λ h e=>⟨bs,cx,X,pv,hD.to λ g hg=>e g (hn g hg)⟩
theorem Own.apart {A1 A2:Wp} {x y:Nat} (H:Own B w (A1::A2::l)) (h1 : ∀ h,A1 h -> ∃ o,h x=some o) (h2 : ∀ h,A2 h -> ∃ o,h y=some o):x≠y:=by
  rintro rfl
  obtain ⟨h,_,_,k1,k2,d,_,_,hA,m1,m2,_,b1,_,hB,_⟩:=H.has
  obtain ⟨o1,e1⟩:=h1 _ hA
  obtain ⟨o2,e2⟩:=h2 _ hB
  rcases d.p x with e | e
  . rw [e1] at e;cases e
  . rw [b1.p _ _ e2] at e;cases e
theorem Own.apart_ro {A1:Wp} {x y:Nat} {o:Obj} (H:Own B w (A1::l)) (h1 : ∀ h,A1 h -> ∃ o,h x=some o) (h2:B.ro y=some o):x≠y:=by
  rintro rfl
  obtain ⟨h,hd,_,k1,k2,_,a1,_,hA,_⟩:=H.has
  obtain ⟨o1,e1⟩:=h1 _ hA
  rcases hd.p x with e | e
  . rw [a1.p _ _ e1] at e;cases e
  . rw [h2] at e;cases e
theorem RoS.reads {v:Value} {cs:List Value} (H:RoS B v cs) (ho:Own B w l) : ∃ fp,Reads w v cs fp /\ ∀ x∈fp,∃ o,B.ro x=some o:=by
  obtain ⟨a,cap,rfl,h | ⟨b,o,C,rfl,hro,hC⟩⟩:=H
  . exact ⟨[],⟨a,cap,rfl,.inl h⟩,by simp⟩
  . obtain ⟨X,t,fr,hb⟩:=hro.rd
    refine ⟨[b],⟨_,cap,rfl,.inr ⟨b,o,rfl,λ j u hu=>?_,by simp⟩⟩,by simp [hb]⟩
    rw [cell_of_row w b _ _ _ _ (ho.ro.p _ _ hb)]
    have:=hC j u hu
    rw [Nat.mul_one] at this
    have hl:=(List.getElem?_eq_some_iff.1 this).1
    simp [List.getElem?_append_left hl,this]
end
theorem Dk.newF (B:Wn) (n:Nat) (i:Int) (hi:i=n) (h1:1<=n) (h2:n<=4096):Fn Tryz.prog B 19 #[.int .i64 i] [] (λ v l => ∃ b,v = .tuple #[.pointer (some ⟨b,0,none⟩),.int .i64 0]/\l=[Zn b ⟨List.replicate n zs,[]⟩]):=⟨λ w F ho=>by
  subst hi
  refine (Dk.new n w h1 h2).mono ?_
  rintro e w' ⟨b,fp,rfl,⟨bs,cx,X,pv,hd,rfl⟩,h3,h4⟩
  exact ⟨_,_,rfl,⟨b,rfl,rfl⟩,Own.disk_new ho h4 hd h3⟩⟩
theorem Dk.write_core (B:Wn) (b:Nat) (D:DD) (bb ob c n:Nat) (i:Int) (hi:i=n) (d:List UInt8) (w:World) (F:List Wp) (ho:Own B w (Zn b D::F)) (hn:n<D.secs.length) (hr:w.rangeAt bb ob (Zb d)) (hd:d.length=256) (hbb : ∀ bs cx X pv,Own B w (dskB b D bs cx X pv::F)->bb∉dfp b bs pv) (hroom:D.pend.length<2^32) :
    Calls Tryz.prog 120 #[.pointer (some ⟨b,0,none⟩),.int .i64 i,.slice (some ⟨bb,ob,none⟩) 256 c] w λ e w'=>e = .returned (.int .i64 0)/\Own B w' (Zn b (D.write n d)::F):=by
  subst hi
  obtain ⟨bs,cx,X,pv,h1,h2⟩:=ho.disk
  refine (Dk.write b bs n bb ob c cx X D pv d w h2 hn hr hd (hbb _ _ _ _ h1) hroom).mono ?_
  rintro e w' ⟨pv',rfl,h3,h4,h5⟩
  refine ⟨rfl,h1.disk_kept h5 h3 λ x hx=>?_⟩
  simp only [dfp,List.mem_cons,Option.mem_toList] at hx ⊢
  rcases hx with rfl | rfl | hx
  . simp
  . simp
  . rcases h4 x hx with h | h
    . exact .inl (.inr (.inr h))
    . exact .inr h
theorem Dk.writeF (B:Wn) (b:Nat) (D:DD) (A:Wp) (bb ob c n:Nat) (i:Int) (d:List UInt8) (hA : ∀ h,A h -> ∃ C t fr,h bb=some (.cells C t fr) /\ ∀ j v,(Zb d)[j]? = some v->C[ob+j]? = some v) (hd:d.length=256) (hroom:D.pend.length<2^32) (hi:i=n:=by omega) (hn:n<D.secs.length:=by omega) :
    Fn Tryz.prog B 120 #[.pointer (some ⟨b,0,none⟩),.int .i64 i,.slice (some ⟨bb,ob,none⟩) 256 c] [Zn b D,A] (λ u l=>u = .int .i64 0/\l=[Zn b (D.write n d),A]):=⟨λ w F ho=>by
  have hr:w.rangeAt bb ob (Zb d):=by
    obtain ⟨h,_,hl,k1,k2,_,_,a2,_,m1,m2,_,b1,_,hB,_⟩:=ho.has
    obtain ⟨C,t,fr,e1,e2⟩:=hA _ hB
    intro j v hv
    rw [cell_of_row w bb _ _ _ _ (hl.p _ _ (a2.p _ _ (b1.p _ _ e1)))]
    exact e2 j v hv
  refine (Dk.write_core B b D bb ob c n i hi d w (A::F) ho hn hr hd (λ bs cx X pv H hm=>?_) hroom).mono ?_
  . exact H.apart (x:=bb) (y:=bb) (λ h k=>dskB_dom k _ hm) (λ h k=>by obtain ⟨C,t,fr,e1,_⟩:=hA h k;exact ⟨_,e1⟩) rfl
  . rintro e w' ⟨rfl,h⟩
    exact ⟨_,_,rfl,⟨rfl,rfl⟩,h⟩⟩
theorem Dk.readF (B:Wn) (b:Nat) (D:DD) (n:Nat) (i:Int) (hroom:D.pend.length<2^32) (hi:i=n:=by omega) (hn:n<D.secs.length:=by omega) :
    Fn Tryz.prog B 86 #[.pointer (some ⟨b,0,none⟩),.int .i64 i] [Zn b D] (λ u l => ∃ g cap,u = .tuple #[.slice (some ⟨g,0,none⟩) 256 cap,.int .i64 0]/\l=[Zn b D,row (.slice (some ⟨g,0,none⟩) 256 cap) 5 1 256 (Zb (D.read n))]):=⟨λ w F ho=>by
  obtain ⟨bs,cx,X,pv,h1,h2⟩:=ho.disk
  refine (Dk.readI b bs n cx i X D pv w hi h2 hn hroom).mono ?_
  rintro e w' ⟨g,cap,rfl,h3,h4,h5,h6⟩
  refine ⟨_,_,rfl,⟨g,cap,rfl,rfl⟩,?_⟩
  have:=(ho.row_new h6 h3 (λ x hx=>by simp [Value.ownBlock] at hx;omega))
  exact this.map λ _ k=>Has.swap k⟩
theorem Dk.sectorsF (B:Wn) (b:Nat) (D:DD):Fn Tryz.prog B 40 #[.pointer (some ⟨b,0,none⟩)] [Zn b D] (λ u l=>u = .int .i64 D.secs.length/\l=[Zn b D]):=⟨λ w F ho=>by
  obtain ⟨bs,cx,X,pv,h1,h2⟩:=ho.disk
  refine (Dk.sectors b 0 _ _ _ w h2.c0).mono ?_
  rintro e w' ⟨rfl,rfl⟩
  exact ⟨_,_,rfl,⟨rfl,rfl⟩,ho⟩⟩
theorem Dk.laidF {B:Wn} {b bs cx:Nat} {X:List Value} {D D':DD} {pv v:Value} {w w':World} {F:List Wp} {e:Ending} (h1:Own B w (dskB b D bs cx X pv::F)) (h:LaidPost w b bs cx X D' v e w') : ∃ u l,e = .returned u/\(u=v/\l=[Zn b D'])/\Own B w' (l++F):=by
  obtain ⟨rfl,h3,h4⟩:=h
  refine ⟨_,_,rfl,⟨rfl,rfl⟩,h1.disk_kept (h4.mono (by simp [dfp])) h3 λ x hx=>?_⟩
  simp [dfp,Value.ownBlock] at hx ⊢
  rcases hx with rfl | rfl <;> simp
theorem Dk.syncF (B:Wn) (b:Nat) (D:DD) (hroom:D.pend.length<2^32:=by omega):Fn Tryz.prog B 121 #[.pointer (some ⟨b,0,none⟩)] [Zn b D] (λ u l=>u = .int .i64 D.pend.length/\l=[Zn b D.sync]):=⟨λ w F ho=>by
  obtain ⟨bs,cx,X,pv,h1,h2⟩:=ho.disk
  exact (Dk.sync b bs cx X D pv w h2 hroom).mono λ e w' h=>Dk.laidF h1 h⟩
theorem Dk.crashF (B:Wn) (b:Nat) (D:DD) (vk:Value) (keep:List Bool) (tear at_:Int) (hk:RoS B vk (boolsV keep)) (hroom:D.pend.length<2^32) :
    Fn Tryz.prog B 7 #[.pointer (some ⟨b,0,none⟩),vk,.int .i64 tear,.int .i64 at_] [Zn b D] (λ u l=>u = .tuple #[]/\l=[Zn b (D.crash keep tear at_)]):=⟨λ w F ho=>by
  obtain ⟨bs,cx,X,pv,h1,h2⟩:=ho.disk
  obtain ⟨fp,hr,hfp⟩:=hk.reads ho
  refine (Dk.crash b bs cx X D pv vk keep fp tear at_ w h2 hroom hr (λ x hx e=>?_)).mono λ e w' h=>Dk.laidF h1 h
  obtain ⟨o,e'⟩:=hfp x hx
  exact h1.apart_ro (x:=x) (λ h k=>dskB_dom k _ (by rw [e];simp [dfp])) e' rfl⟩
end Go.Proofs.YtkfmfoecplbclaaGreatDoor
