/- A sector of one byte: the statements' own maker of test data. -/
import Derived.Test.YtjjhbpjbngdlnaaDoorDiskH
namespace Go.Proofs.YtjjhbpjbngdlnaaDoor
open Go.RowKit

def sect (x : UInt8) : List UInt8 := List.replicate 256 x
theorem length_sect (x : UInt8) : (sect x).length = 256 := List.length_replicate
def fillL (x : UInt8) (k : Nat) : List Value := List.replicate k (.int .u8 x.toNat) ++ List.replicate (256 - k) (.int .u8 0)
theorem length_fillL (x : UInt8) (k : Nat) (h : k ≤ 256) : (fillL x k).length = 256 := by
  unfold fillL; rw [List.length_append, List.length_replicate, List.length_replicate]; omega
theorem fillL_succ (x : UInt8) (k : Nat) (h : k < 256) : (fillL x k).set k (.int .u8 x.toNat) = fillL x (k + 1) := by
  unfold fillL
  rw [List.set_append_right _ _ (by rw [List.length_replicate]; exact Nat.le_refl _), List.length_replicate, Nat.sub_self]
  have h1 : 256 - k = (256 - (k + 1)) + 1 := by omega
  rw [h1, List.replicate_succ, List.set_cons_zero, List.replicate_succ', List.append_assoc]
  rfl
theorem fillL_zero (x : UInt8) : (madeCells (Value.int .u8 0).cells (256 * 1)).toList = fillL x 0 := by
  rw [show (Value.int .u8 0).cells = (List.replicate 1 (Value.int .u8 0)).toArray from rfl, made_replicate _ _ _ (by omega)]
  unfold fillL; rfl
theorem fillL_all (x : UInt8) (k : Nat) (h : k = 256) : fillL x k = bytesV (sect x) := by
  subst h
  unfold fillL sect bytesV
  rw [List.map_replicate]
  exact List.append_nil _

def FullPost (x : UInt8) (w : World) (e : Ending) (w' : World) : Prop :=
  ∃ g, e = .returned (.slice (some ⟨g, 0, none⟩) 256 256) ∧ w'.heap[g]? = some (.cells (bytesV (sect x)).toArray 5 (0, 0)) ∧ w.heap.size ≤ g ∧ Kept [] w w'

end Go.Proofs.YtjjhbpjbngdlnaaDoor
