/- A sector of one byte: the statements' own maker of test data. -/
import Derived.Test.YtdjfibkpmmcefaaDiskH
namespace Go.Proofs.Ytdjfibkpmmcefaa
open Go.RowKit

def sect (x : UInt8) : List UInt8 := List.replicate 256 x
theorem length_sect (x : UInt8) : (sect x).length = 256 := List.length_replicate
def fillL (x : UInt8) (k : Nat) : List Value := List.replicate k (.int .u8 x.toNat) ++ List.replicate (256 - k) (.int .u8 0)
theorem length_fillL (x : UInt8) (k : Nat) (h : k ≤ 256) : (fillL x k).length = 256 := by
  unfold fillL; rw [List.length_append, List.length_replicate, List.length_replicate]; omega
theorem fillL_succ (x : UInt8) (k : Nat) (h : k < 256) : (fillL x k).set k (.int .u8 x.toNat) = fillL x (k + 1) := by
  unfold fillL
  rw [List.set_append_right _ _ (by rw [List.length_replicate]; exact Nat.le_refl _), List.length_replicate, Nat.sub_self]
  have h1 : 256 - k = (256 - (k + 1)) + 1 := by omega
  rw [h1, List.replicate_succ, List.set_cons_zero, List.replicate_succ', List.append_assoc]
  rfl
theorem fillL_zero (x : UInt8) : (madeCells (Value.int .u8 0).cells (256 * 1)).toList = fillL x 0 := by
  rw [show (Value.int .u8 0).cells = (List.replicate 1 (Value.int .u8 0)).toArray from rfl, made_replicate _ _ _ (by omega)]
  unfold fillL; rfl
theorem fillL_all (x : UInt8) (k : Nat) (h : k = 256) : fillL x k = bytesV (sect x) := by
  subst h
  unfold fillL sect bytesV
  rw [List.map_replicate]
  exact List.append_nil _

def FullPost (x : UInt8) (w : World) (e : Ending) (w' : World) : Prop :=
  ∃ g, e = .returned (.slice (some ⟨g, 0, none⟩) 256 256) ∧ w'.heap[g]? = some (.cells (bytesV (sect x)).toArray 5 (0, 0)) ∧ w.heap.size ≤ g ∧ Kept [] w w'

set_option maxHeartbeats 1000000 in
theorem Dk.full (x : UInt8) (w : World) : Calls Try.prog 15 #[.int .u8 x.toNat] w (FullPost x w) := by
  obtain ⟨i0, hi, hz0, hz1, hz2⟩ := info_parts (show (Try.prog.info? 5).map (fun i => (i.zero, i.size, i.bytes)) = some (some (.int .u8 0), 1, 1) by kernel_rfl)
  go_enter Try.func15, Try.ntmps15
  go_wp2_with (at_make; refine wpList_make_full _ rfl _ _ _ rfl w.heap.size 5 i0 (.int .u8 0) 1 Try.underlying23 hi hz0 hz1 .i64 .i64 256 256 256 rfl rfl rfl rfl (by rw [hz2]; omega) (by unfold maxLen; omega) (Nat.le_refl _) ?_; intro w1 ho1 hg1; rw [fillL_zero x] at ho1; have HO := Lib.hid ho1; clear ho1)
  go_loopw [8] (fun i wr => ∃ k : Nat, k ≤ 256 ∧ i = .int .i64 k ∧ Hid (wr.heap[w.heap.size]? = some (.cells (fillL x k).toArray 5 (0, 0))) ∧ Kept [] w wr) (fun i _ => 256 - (intOf i).toNat)
  case atStart => exact ⟨0, by omega, rfl, (owns_exact HO.out).1, (Kept.refl _ _).grown hg1 (by simp)⟩
  case round =>
    obtain ⟨k, hk, rfl, hrow, hkp⟩ := hrel
    by_cases hlt : k < 256
    · have hl := length_fillL x k hk
      have hc : wr.cell? ⟨w.heap.size, k, none⟩ = some ((fillL x k)[k]) := by rw [cell_of_row wr _ _ _ _ _ hrow.out]; simp
      have hf : wr.frozen? ⟨w.heap.size, k, none⟩ = false := frozen_of_row wr _ _ _ _ hrow.out
      generalize (fillL x k)[k] = v0 at hc
      have HL := Lib.hid hl
      clear hl hi hz0 hz1 hz2 hg1
      have k0 : (0 : Int) ≤ (k : Int) := by omega
      have k1 : (k : Int) < 256 := by omega
      go_wp2
      go_roundw
      case rel =>
        refine ⟨k + 1, by omega, by go_num, ?_, hkp.setCell (.inr (Nat.le_refl _)) _⟩
        show _ = _
        rw [heap_setCell_same wr _ k _ _ _ hrow.out, ← fillL_succ x k hlt]
        simp
      case measure => simp [intOf]; omega
    · have hk' : k = 256 := by omega
      have hr := hrow.out
      rw [fillL_all x k hk'] at hr
      have HRR := Lib.hid hr
      clear hr
      go_wp2
      go_ret
      exact ⟨_, rfl, HRR.out, Nat.le_refl _, hkp⟩
end Go.Proofs.Ytdjfibkpmmcefaa
