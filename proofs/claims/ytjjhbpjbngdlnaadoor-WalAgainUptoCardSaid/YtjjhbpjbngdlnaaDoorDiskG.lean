/- Sectors and writes are arrays of 256 bytes: their loads, stores and allocations as whole steps of a walk. -/
import Derived.Test.YtjjhbpjbngdlnaaDoorDiskC
namespace Go.Proofs.YtjjhbpjbngdlnaaDoor
open Go.RowKit

def Dk.ld (t : TypeId) (p : Value) : Sem Value := Instr.loadAt t p
def Dk.st (t : TypeId) (p v : Value) : Sem Unit := Instr.storeAt t p v
def Dk.al (t : TypeId) (b : Bool) (o : Value) : Sem Value := Instr.alloc t b o
theorem Dk.ld64 (p : Value) : Instr.loadAt 128 p = Dk.ld 128 p := rfl
theorem Dk.ld66 (p : Value) : Instr.loadAt 130 p = Dk.ld 130 p := rfl
theorem Dk.st64 (p v : Value) : Instr.storeAt 128 p v = Dk.st 128 p v := rfl
theorem Dk.st66 (p v : Value) : Instr.storeAt 130 p v = Dk.st 130 p v := rfl
theorem Dk.al64 (b : Bool) (o : Value) : Instr.alloc 128 b o = Dk.al 128 b o := rfl
theorem Dk.al66 (b : Bool) (o : Value) : Instr.alloc 130 b o = Dk.al 130 b o := rfl

def zsecC : Array Value := zsec.cells
def zwriteC : Array Value := zwrite.cells
theorem size_zsecC : zsecC.size = 256 := by kernel_rfl
theorem size_zwriteC : zwriteC.size = 257 := by kernel_rfl

theorem run_alloc_z {P : Program} (w : World) (t : TypeId) (i : TypeInfo) (z : Value) (hi : P.info? t = some i) (hz : i.zero = some z) :
    (Instr.alloc t true (.tuple #[])).run P w = .ok (.pointer (some ⟨w.heap.size, 0, none⟩)) (w.alloc (.cells z.cells t)) := by
  simp [Instr.alloc, zeroValue, typeInfo, hi, hz, newVar, newRow]

theorem Dk.al_run64 (w : World) : (Dk.al 128 true (.tuple #[])).run Tryd.prog w = .ok (.pointer (some ⟨w.heap.size, 0, none⟩)) (w.alloc (.cells zsecC 128)) := by
  obtain ⟨i, hi, hz, _, _⟩ := info_parts Dk.info64
  exact run_alloc_z w _ i zsec hi hz
theorem Dk.al_run66 (w : World) : (Dk.al 130 true (.tuple #[])).run Tryd.prog w = .ok (.pointer (some ⟨w.heap.size, 0, none⟩)) (w.alloc (.cells zwriteC 130)) := by
  obtain ⟨i, hi, hz, _, _⟩ := info_parts Dk.info66
  exact run_alloc_z w _ i zwrite hi hz

theorem Dk.u66 : ∃ fs, Tryd.prog.underlying 130 = some (.struct fs) := ⟨_, Tryd.underlying130⟩
theorem Dk.i66 {n : Nat} (h : n = 257) : (Tryd.prog.info? 130).map (·.size) = some n := by rw [h]; kernel_rfl

theorem Dk.ld_run64 (w : World) (b o : Nat) (d : List UInt8) (hc : w.rangeAt b o (bytesV d)) (hd : d.length = 256) :
    (Dk.ld 128 (.pointer (some ⟨b, o, none⟩))).run Tryd.prog w = .ok (.agg (bytesV d).toArray) w :=
  run_loadAt_mid w b o _ _ _ hc Dk.u64 rfl (Dk.i64 (by simpa using hd))
theorem Dk.ld_run66 (w : World) (b o : Nat) (p : Nat × List UInt8) (hc : w.rangeAt b o (pendV p)) (hd : p.2.length = 256) :
    (Dk.ld 130 (.pointer (some ⟨b, o, none⟩))).run Tryd.prog w = .ok (.agg (.int .i64 p.1 :: bytesV p.2).toArray) w := by
  obtain ⟨fs, hfs⟩ := Dk.u66
  exact run_loadAt_mid w b o _ _ _ hc hfs rfl (Dk.i66 (by simp [pendV, hd]))

theorem Dk.ld_data (w : World) (n : Int) (d : List UInt8) (hd : d.length = 256) :
    (Dk.ld 128 (.pointer (some ⟨w.heap.size, 1, none⟩))).run Tryd.prog (w.alloc (.cells (.int .i64 n :: bytesV d).toArray 130)) = .ok (.agg (bytesV d).toArray) (w.alloc (.cells (.int .i64 n :: bytesV d).toArray 130)) :=
  Dk.ld_run64 _ _ _ d (fun j v hv => by have := cells_from (heap_alloc_new w (.cells (.int .i64 n :: bytesV d).toArray 130)) 1 (bytesV d) (by simp) j v hv; rwa [Addr.add_mid] at this) hd

theorem run_storeAt_row {P : Program} (w : World) (g : Nat) (ty t : TypeId) (cells old : Array Value) (hg : w.heap[g]? = some (.cells old t (0, 0))) (hi : (P.info? ty).map (·.size) = some cells.size)
    (hold : old.size = cells.size) (h1 : cells.all (·.oneCell') = true) :
    (Instr.storeAt ty (.pointer (some ⟨g, 0, none⟩)) (.agg cells)).run P w = .ok () (w.setRow g cells) := by
  have := run_storeAt_mid (P := P) w g 0 ty cells (fun j hj => ⟨by rw [cell_of_row w g _ old t (0, 0) hg]; simp; omega, frozen_of_row w g _ old t hg⟩) hi h1
  rw [this, setCells_row P w g t cells.toList 0 old hg (by simp; omega) (fun u hu => (Array.all_eq_true_iff_forall_mem.1 h1) u (by simpa using hu))]
  unfold splice
  rw [List.drop_of_length_le (by simp; omega)]
  simp

theorem setRow_new (w : World) (C D : Array Value) (t : TypeId) : (w.alloc (.cells C t)).setRow w.heap.size D = w.alloc (.cells D t) := by
  rw [World.alloc, World.setRow]
  congr 1
  apply Array.ext_getElem?
  intro i
  rw [Array.getElem?_modify, Array.getElem?_push, Array.getElem?_push]
  by_cases h : w.heap.size = i
  · subst h; simp
  · rw [if_neg h, if_neg (fun e => h e.symm), if_neg (fun e => h e.symm)]

theorem Dk.st_new64 (w : World) (d : List UInt8) (hd : d.length = 256) :
    (Dk.st 128 (.pointer (some ⟨w.heap.size, 0, none⟩)) (.agg (bytesV d).toArray)).run Tryd.prog (w.alloc (.cells zsecC 128)) = .ok () (w.alloc (.cells (bytesV d).toArray 128)) := by
  rw [← setRow_new w zsecC (bytesV d).toArray]
  exact run_storeAt_row _ _ _ _ _ zsecC (heap_alloc_new w _) (Dk.i64 (by simpa using hd)) (by rw [size_zsecC]; simp [hd]) (all_oneCell_toArray one_bytesV)
theorem Dk.st_new66 (w : World) (n : Nat) (d : List UInt8) (hd : d.length = 256) :
    (Dk.st 130 (.pointer (some ⟨w.heap.size, 0, none⟩)) (.agg (.int .i64 n :: bytesV d).toArray)).run Tryd.prog (w.alloc (.cells zwriteC 130)) = .ok () (w.alloc (.cells (.int .i64 n :: bytesV d).toArray 130)) := by
  rw [← setRow_new w zwriteC (.int .i64 n :: bytesV d).toArray]
  exact run_storeAt_row _ _ _ _ _ zwriteC (heap_alloc_new w _) (Dk.i66 (by simp [hd])) (by rw [size_zwriteC]; simp [hd]) (all_oneCell_toArray (fun v hv => one_pendV (p := (n, d)) v hv))
theorem Dk.st_run64 (w : World) (g : Nat) (d : List UInt8) (old : Array Value) (t : TypeId) (hg : w.heap[g]? = some (.cells old t (0, 0))) (ho : old.size = 256) (hd : d.length = 256) :
    (Dk.st 128 (.pointer (some ⟨g, 0, none⟩)) (.agg (bytesV d).toArray)).run Tryd.prog w = .ok () (w.setRow g (bytesV d).toArray) :=
  run_storeAt_row _ _ _ _ _ old hg (Dk.i64 (by simpa using hd)) (by simp [ho, hd]) (all_oneCell_toArray one_bytesV)

/-- Where a disk's writes lie. -/
theorem DiskAt.pend {w : World} {b bs cx : Nat} {X : List Value} {D : DD} {pv : Value} (h : DiskAt w b D bs cx X pv) (hp : 0 < D.pend.length) :
    ∃ gp cap, pv = .slice (some ⟨gp, 0, none⟩) D.pend.length cap ∧ (∀ i (hi : i < D.pend.length), w.rangeAt gp (i * 257) (pendV D.pend[i])) ∧ gp ≠ b ∧ gp ≠ bs ∧ gp < w.heap.size := by
  have hl := h.ok.lenPend
  rcases h.hp.2 with ⟨_, h0⟩ | ⟨g, cap, cur, rfl, _, hg, _, _, hcs, ht⟩
  · omega
  · refine ⟨g, cap, rfl, fun i hi j v hv => ?_, (h.n2 g rfl).1, (h.n2 g rfl).2, lt_of_block hg⟩
    rw [cell_of_row w g _ cur _ _ hg]
    have hj : j < 257 := by
      have := (List.getElem?_eq_some_iff.1 hv).1
      simp [pendV, h.ok.data _ (List.getElem_mem hi)] at this
      omega
    have hd := flat_drop pendV 257 D.pend (fun x hx => by simp [pendV, h.ok.data x hx]) i hi
    have h2 : (pendsV D.pend)[i * 257 + j]? = some v := by
      rw [← List.getElem?_drop]
      unfold pendsV
      rw [hd, List.getElem?_append_left (List.getElem?_eq_some_iff.1 hv).1]
      exact hv
    rw [← ht, List.getElem?_take] at h2
    split at h2
    · simpa using h2
    · cases h2
theorem DiskAt.sec {w : World} {b bs cx : Nat} {X : List Value} {D : DD} {pv : Value} (h : DiskAt w b D bs cx X pv) (i : Nat) (hi : i < D.secs.length) : w.rangeAt bs (i * 256) (bytesV D.secs[i]) := fun j v hv => by
  rw [cell_of_row w bs _ _ _ _ h.hs]
  have hd := flat_drop bytesV 256 D.secs (fun x hx => by simpa using h.ok.secs x hx) i hi
  have h2 : (secsV D.secs)[i * 256 + j]? = some v := by
    rw [← List.getElem?_drop]
    unfold secsV
    rw [hd, List.getElem?_append_left (List.getElem?_eq_some_iff.1 hv).1]
    exact hv
  have h3 : (secsV D.secs ++ X)[i * 256 + j]? = some v := by rw [List.getElem?_append_left (List.getElem?_eq_some_iff.1 h2).1]; exact h2
  simpa using h3
end Go.Proofs.YtjjhbpjbngdlnaaDoor
