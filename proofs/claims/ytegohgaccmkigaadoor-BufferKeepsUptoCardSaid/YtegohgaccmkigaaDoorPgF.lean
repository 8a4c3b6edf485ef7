/- The statements of the package page: awake. Conditions: none. -/
import Derived.Test.YtegohgaccmkigaaDoorPgZ
import Derived.Test.YtegohgaccmkigaaDoorSlH
set_option linter.unusedSimpArgs false
set_option linter.unusedVariables false
namespace Go.Proofs.YtegohgaccmkigaaDoor
open Go.RowKit

theorem rdv_blk {B : Base} {L : List Assn} {g n c : Nat} {C : List Value} {b : List UInt8} [k : Rd B g L C] (hC : C = bytesV b) (hn : b.length = n) : RdV B L (.slice (some ⟨g, 0, none⟩) n c) (bytesV b) := by
  subst hC
  exact ⟨_, c, by simp [hn], .inr ⟨g, 0, rfl, fun w ho => ho.range (g := g) (C := bytesV b) (fun j u hj => by rw [Nat.zero_add]; exact hj)⟩⟩
theorem RdV.str {B : Base} {S : List Assn} {v : Value} {b : List UInt8} (h : RdV B S v (bytesV b)) : ∀ w, Own B w S → ∃ fp, Reads w v (bytesV b) fp := fun w ho => h.reads w ho
theorem OpenPost.of_ok {S : List Assn} {b : List UInt8} {recs : List (List UInt8)} {mark : Int} {v : Value} {l : List Assn} (h : openR b = .ok (recs, mark)) (hp : OpenPost S b v l) : ∃ g, v = .tuple #[.pointer (some ⟨g, 0, none⟩), .int .i64 0] ∧ l = pgA g recs mark :: S := by
  unfold OpenPost at hp; rw [h] at hp; exact hp
theorem OpenPost.of_err {S : List Assn} {b : List UInt8} {e : Int} {v : Value} {l : List Assn} (h : openR b = .error e) (hp : OpenPost S b v l) : v = .tuple #[.pointer none, .int .i64 e] ∧ l = S := by
  unfold OpenPost at hp; rw [h] at hp; exact hp
theorem Pg.open_ok {P : Program} {B : Base} {f : FuncId} {args : Array Value} {S : List Assn} {b : List UInt8} {recs : List (List UInt8)} {mark : Int} (h : openR b = .ok (recs, mark)) (H : Fn P B f args S (OpenPost S b)) : Fn P B f args S (fun v l => ∃ g, v = .tuple #[.pointer (some ⟨g, 0, none⟩), .int .i64 0] ∧ l = pgA g recs mark :: S) := by
  have e : OpenPost S b = fun v l => ∃ g, v = .tuple #[.pointer (some ⟨g, 0, none⟩), .int .i64 0] ∧ l = pgA g recs mark :: S := by
    funext v l; unfold OpenPost; rw [h]
  rwa [e] at H

abbrev abcR : List (List UInt8) := [[97, 98, 99]]
end Go.Proofs.YtegohgaccmkigaaDoor
