/- The texts SpE, one behind the other: what the law leans on. Conditions: as each theorem says. -/
import Derived.Test.YtfjjgdnepfgnhaaGreatDoorZWlBase13
import Derived.Laws.StructEq
set_option linter.unusedSimpArgs false
set_option linter.unusedVariables false
set_option maxRecDepth 100000
set_option maxHeartbeats 16000000
namespace Go.Proofs.YtfjjgdnepfgnhaaGreatDoor
open Go.RowKit
section
variable {P : Program} {B:Base} {n:Nat} {S:List Assn} {f:Fr} {d:Option Tmp} {ty:TypeId} {pos:String} {af:Array Edge} {gd:Option (Nat×Bool)}
def EqSt (P:Program) (t:TypeId) (xs ys:Array Value) (r:Bool):Prop:=(P.eqGuardType P.depth t=false) ∧ ∀ w,(Op.equalIn 10000 t (.agg xs) (.agg ys)).run P w = .ok r w
theorem YV {t t2:TypeId} {x y:Operand} {xs ys:Array Value} {r:Bool} (h:EqSt P t xs ys r) (hx:ev n f x=some (.agg xs)) (hy:ev n f y=some (.agg ys)):Qt P B n S ⟨d,.binOp .neq t x y t2,ty,pos,af,gd⟩ f (.bool (!r)):=⟨fun w _=>by
 simp [execOp,evu_eq hx,evu_eq hy,run_eqGuard_agg w _ t x y xs ys h.1,run_neq_struct,h.2 w]⟩
theorem part_int {t:TypeId} {k:IntKind} (hu:P.underlying t=some (.int k)) {cs:Array Value} {off:Nat} {v:Value} (h:cs[off]? = some v) (w:World):(part t cs off).run P w = .ok v w:=by
 simp [part,isAgg,run_underlying hu,h]
theorem eqF_int {d:Nat} {g:Field} {fs:List Field} {k:IntKind} {xs ys:Array Value} {a b:Int} (w:World) (hn:(decide (g.name ≠ "_"))=true) (hu:P.underlying g.type=some (.int k)) (hx:xs[g.offset]? = some (.int k a)) (hy:ys[g.offset]? = some (.int k b)) :
  (Op.eqFields (d+1) xs ys (g::fs)).run P w=if a=b then (Op.eqFields (d+1) xs ys fs).run P w else .ok false w:=by
 rw [Op.eqFields,if_pos (of_decide_eq_true hn)]
 simp only [Sem.run_bind,part_int hu hx,part_int hu hy,Result.andThen_ok,run_equalIn_int w d _ k k a b hu,Sem.run_ite]
 by_cases e:a=b
 · subst e;simp
 · simp [e]
theorem eqF_nil {d:Nat} {xs ys:Array Value} (w:World):(Op.eqFields d xs ys []).run P w = .ok true w:=by simp [Op.eqFields]
theorem fieldsOf_eq {t:TypeId} {fs:Array Field} (h:P.underlying t=some (.struct fs)):P.fieldsOf t=fs:=by unfold Program.fieldsOf;rw [h]
end
theorem EqSt.mk' {P:Program} {t:TypeId} {fs:List Field} {xs ys:Array Value} {r:Bool} (hg:(P.eqGuardType P.depth t=false)) (hu:P.underlying t=some (.struct fs.toArray)) (hp:P.stoodInHeld t=false) (h : ∀ d w,(Op.eqFields (d+1) xs ys fs).run P w = .ok r w):EqSt P t xs ys r:=by
 refine ⟨hg,fun w=>?_⟩
 have hf:=fieldsOf_eq hu
 obtain ⟨d,hd⟩ : ∃ d:Nat,10000=d+1+1:=⟨9998,rfl⟩
 rw [hd,run_equalIn_struct w (d+1) t xs ys (by rw [hf];exact hu) hp,hf]
 exact h d w
end Go.Proofs.YtfjjgdnepfgnhaaGreatDoor
