/- Contracts of the package disk, first part: has, Sectors, Pending, put. -/
import Derived.Test.YtjjhbpjbngdlnaaDoorLib
namespace Go.Proofs.YtjjhbpjbngdlnaaDoor
open Go.RowKit

theorem Dk.u64 : Tryd.prog.underlying 128 = some (.array 256 5) := by kernel_rfl
theorem Dk.i64 {n : Nat} (h : n = 256) : (Tryd.prog.info? 128).map (·.size) = some n := by rw [h]; kernel_rfl
theorem Dk.i5 : (Tryd.prog.info? 5).map (·.size) = some 1 := by kernel_rfl

def hasB (n : Int) (len : Nat) : Bool := decide (0 ≤ n) && decide (n < (len : Int))
theorem hasB_yes {n : Int} {len : Nat} (h0 : 0 ≤ n) (h1 : n < (len : Int)) : hasB n len = true := by simp [hasB, h0, h1]
theorem hasB_no {n : Int} {len : Nat} (h : n < 0 ∨ (len : Int) ≤ n) : hasB n len = false := by simp [hasB]; omega

set_option maxHeartbeats 400000 in
set_option maxRecDepth 100000 in
theorem Dk.has (b o : Nat) (n : Int) (p : Option Addr) (len cap : Nat) (w : World) (h : w.cell? ⟨b, o, none⟩ = some (.slice p len cap)) :
    Calls Tryd.prog 70 #[.pointer (some ⟨b, o, none⟩), .int .i64 n] w fun e w' => e = .returned (.bool (hasB n len)) ∧ w = w' := by
  by_cases h0 : 0 ≤ n
  · go_enter Tryd.func70, Tryd.ntmps70
    go_wp2
    go_ret
    exact ⟨by simp [hasB, h0], rfl⟩
  · have h0' : decide (0 ≤ n) = false := by simpa using h0
    clear h0
    go_enter Tryd.func70, Tryd.ntmps70
    go_wp2
    go_ret
    exact ⟨by simp [hasB, h0'], rfl⟩

set_option maxRecDepth 100000 in
theorem Dk.sectors (b o : Nat) (p : Option Addr) (len cap : Nat) (w : World) (h : w.cell? ⟨b, o, none⟩ = some (.slice p len cap)) :
    Calls Tryd.prog 58 #[.pointer (some ⟨b, o, none⟩)] w fun e w' => e = .returned (.int .i64 len) ∧ w = w' := by
  go_enter Tryd.func58, Tryd.ntmps58
  go_wp2
  go_ret
  exact ⟨rfl, rfl⟩

set_option maxRecDepth 100000 in
theorem Dk.pending (b : Nat) (p : Option Addr) (len cap : Nat) (w : World) (h : w.cell? ⟨b, 1, none⟩ = some (.slice p len cap)) :
    Calls Tryd.prog 44 #[.pointer (some ⟨b, 0, none⟩)] w fun e w' => e = .returned (.int .i64 len) ∧ w = w' := by
  go_enter Tryd.func44, Tryd.ntmps44
  go_wp2
  go_ret
  exact ⟨rfl, rfl⟩

set_option maxHeartbeats 1000000 in
set_option maxRecDepth 100000 in
theorem Dk.put (b o bs n cx at_ k : Nat) (S D : List Value) (w : World) (hsp : w.cell? ⟨b, o, none⟩ = some (.slice (some ⟨bs, 0, none⟩) n cx))
    (hs : w.heap[bs]? = some (.cells S.toArray 128 (0, 0))) (hS : 256 * n ≤ S.length)
    (hne : b ≠ bs) (ha : at_ < n) (hk : k ≤ 256) (hD : D.length = 256) (h1 : ∀ v ∈ D, v.oneCell' = true) :
    Calls Tryd.prog 72 #[.pointer (some ⟨b, o, none⟩), .agg (.int .i64 at_ :: D).toArray, .int .i64 k] w fun e w' =>
      e = .returned (.tuple #[]) ∧ w'.heap[bs]? = some (.cells (splice S (at_ * 256) (D.take k)).toArray 128 (0, 0)) ∧ Kept [bs] w w' := by
  have a0 : (0 : Int) ≤ (at_ : Int) := by omega
  have a1 : (at_ : Int) < (n : Int) := by omega
  have k0 : (0 : Int) ≤ (k : Int) := by omega
  have k1 : (k : Int) ≤ 256 := by omega
  have lb := lt_of_block hs
  have lb0 := World.block_lt_of_cell? w _ hsp
  simp only at lb0
  go_enter Tryd.func72, Tryd.ntmps72
  go_wp2
  go_region_held3 (fun w' => w'.cell? ⟨b, o, none⟩ = some (.slice (some ⟨bs, 0, none⟩) n cx) ∧ w'.cell? ⟨w.heap.size, 0, none⟩ = some (.int .i64 at_))
    (first | go_keep | (refine ⟨?_, ?_⟩ <;> (rw [hk1.cell (by simp; try omega) (by simp; try omega)]; simp [*])))
    ((refine step_copy_kept (by rfl) _ _ _ _ (by rfl) 5 Tryd.underlying22 Dk.i5 _ _ _ _ _ _ (by rfl) (by rfl) bs (at_ * 256) S 128 ((Below.heap_alloc _ _ _ lb).trans hs) (D.take k) (by rw [List.length_take, hD]; exact Nat.min_comm _ _)
        (fun _ => ⟨rfl, _, rfl, cells_from (heap_alloc_new w _) 1 _ (by simpa using List.take_prefix k D)⟩) (by simp [hD]; omega) (fun v hv => h1 v (List.mem_of_mem_take hv)) ?_; intro w1 hg1 hk1))
  go_wp2
  go_end0
  exact ⟨rfl, hg1, (((Kept.refl _ _).alloc _).drew).trans hk1 (by simp)⟩
end Go.Proofs.YtjjhbpjbngdlnaaDoor
