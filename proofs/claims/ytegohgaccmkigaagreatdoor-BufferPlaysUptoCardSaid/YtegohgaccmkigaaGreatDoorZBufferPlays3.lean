/- The texts DkZ WlA WlB WlC WlD WlE WlF, one behind the other: what the law leans on. Conditions: as each theorem says. -/
import Derived.Test.YtegohgaccmkigaaGreatDoorZBufferPlays2
/- The texts DiskA DiskB DiskC DiskG DiskD DiskE DiskF DiskH DiskI DiskJ DkF, one behind the other. Conditions: as each theorem says. -/
set_option linter.unusedSimpArgs false
set_option linter.unusedVariables false
/- Contracts of the package disk, first part: has, Sectors, Pending, put. -/
namespace Go.Proofs.YtegohgaccmkigaaGreatDoor
open Go.RowKit

theorem Dk.u64 : Tryz.prog.underlying 113 = some (.array 256 5) := by kernel_rfl
theorem Dk.i64 {n : Nat} (h : n = 256) : (Tryz.prog.info? 113).map (·.size) = some n := by rw [h]; kernel_rfl
theorem Dk.i5 : (Tryz.prog.info? 5).map (·.size) = some 1 := by kernel_rfl

def hasB (n : Int) (len : Nat) : Bool := decide (0 ≤ n) && decide (n < (len : Int))
theorem hasB_yes {n : Int} {len : Nat} (h0 : 0 ≤ n) (h1 : n < (len : Int)) : hasB n len = true := by simp [hasB, h0, h1]
set_option maxHeartbeats 400000 in
set_option maxRecDepth 100000 in
theorem Dk.has (b o : Nat) (n : Int) (p : Option Addr) (len cap : Nat) (w : World) (h : w.cell? ⟨b, o, none⟩ = some (.slice p len cap)) :
    Calls Tryz.prog 43 #[.pointer (some ⟨b, o, none⟩), .int .i64 n] w fun e w' => e = .returned (.bool (hasB n len)) ∧ w = w' := by
  by_cases h0 : 0 ≤ n
  · go_enter Tryz.func43, Tryz.ntmps43
    go_wp2
    go_ret
    exact ⟨by simp [hasB, h0], rfl⟩
  · have h0' : decide (0 ≤ n) = false := by simpa using h0
    clear h0
    go_enter Tryz.func43, Tryz.ntmps43
    go_wp2
    go_ret
    exact ⟨by simp [hasB, h0'], rfl⟩

set_option maxRecDepth 100000 in
theorem Dk.sectors (b o : Nat) (p : Option Addr) (len cap : Nat) (w : World) (h : w.cell? ⟨b, o, none⟩ = some (.slice p len cap)) :
    Calls Tryz.prog 44 #[.pointer (some ⟨b, o, none⟩)] w fun e w' => e = .returned (.int .i64 len) ∧ w = w' := by
  go_enter Tryz.func44, Tryz.ntmps44
  go_wp2
  go_ret
  exact ⟨rfl, rfl⟩

set_option maxRecDepth 100000 in
theorem Dk.pending (b : Nat) (p : Option Addr) (len cap : Nat) (w : World) (h : w.cell? ⟨b, 1, none⟩ = some (.slice p len cap)) :
    Calls Tryz.prog 37 #[.pointer (some ⟨b, 0, none⟩)] w fun e w' => e = .returned (.int .i64 len) ∧ w = w' := by
  go_enter Tryz.func37, Tryz.ntmps37
  go_wp2
  go_ret
  exact ⟨rfl, rfl⟩

set_option maxHeartbeats 1000000 in
set_option maxRecDepth 100000 in
theorem Dk.put (b o bs n cx at_ k : Nat) (S D : List Value) (w : World) (hsp : w.cell? ⟨b, o, none⟩ = some (.slice (some ⟨bs, 0, none⟩) n cx))
    (hs : w.heap[bs]? = some (.cells S.toArray 113 (0, 0))) (hS : 256 * n ≤ S.length)
    (hne : b ≠ bs) (ha : at_ < n) (hk : k ≤ 256) (hD : D.length = 256) (h1 : ∀ v ∈ D, v.oneCell' = true) :
    Calls Tryz.prog 71 #[.pointer (some ⟨b, o, none⟩), .agg (.int .i64 at_ :: D).toArray, .int .i64 k] w fun e w' =>
      e = .returned (.tuple #[]) ∧ w'.heap[bs]? = some (.cells (splice S (at_ * 256) (D.take k)).toArray 113 (0, 0)) ∧ Kept [bs] w w' := by
  have a0 : (0 : Int) ≤ (at_ : Int) := by omega
  have a1 : (at_ : Int) < (n : Int) := by omega
  have k0 : (0 : Int) ≤ (k : Int) := by omega
  have k1 : (k : Int) ≤ 256 := by omega
  have lb := lt_of_block hs
  have lb0 := World.block_lt_of_cell? w _ hsp
  simp only at lb0
  go_enter Tryz.func71, Tryz.ntmps71
  go_wp2
  go_region_held3 (fun w' => w'.cell? ⟨b, o, none⟩ = some (.slice (some ⟨bs, 0, none⟩) n cx) ∧ w'.cell? ⟨w.heap.size, 0, none⟩ = some (.int .i64 at_))
    (first | go_keep | (refine ⟨?_, ?_⟩ <;> (rw [hk1.cell (by simp; try omega) (by simp; try omega)]; simp [*])))
    ((refine step_copy_kept (by rfl) _ _ _ _ (by rfl) 5 Tryz.underlying43 Dk.i5 _ _ _ _ _ _ (by rfl) (by rfl) bs (at_ * 256) S 113 ((Below.heap_alloc _ _ _ lb).trans hs) (D.take k) (by rw [List.length_take, hD]; exact Nat.min_comm _ _)
        (fun _ => ⟨rfl, _, rfl, cells_from (heap_alloc_new w _) 1 _ (by simpa using List.take_prefix k D)⟩) (by simp [hD]; omega) (fun v hv => h1 v (List.mem_of_mem_take hv)) ?_; intro w1 hg1 hk1))
  go_wp2
  go_end0
  exact ⟨rfl, hg1, (((Kept.refl _ _).alloc _).drew).trans hk1 (by simp)⟩
end Go.Proofs.YtegohgaccmkigaaGreatDoor

/- Contracts of the package disk, second part: what a disk is in memory; New, Write. -/
namespace Go.Proofs.YtegohgaccmkigaaGreatDoor
open Go.RowKit

/-- A disk's sectors, and the writes that aren't durable yet. -/
structure DD where
  secs : List (List UInt8)
  pend : List (Nat × List UInt8)

structure DD.Ok (D : DD) : Prop where
  pos : 0 < D.secs.length
  max : D.secs.length ≤ 4096
  secs : ∀ s ∈ D.secs, s.length = 256
  at_ : ∀ p ∈ D.pend, p.1 < D.secs.length
  data : ∀ p ∈ D.pend, p.2.length = 256

def pendV (p : Nat × List UInt8) : List Value := .int .i64 p.1 :: bytesV p.2
def secsV (l : List (List UInt8)) : List Value := l.flatMap bytesV
def pendsV (l : List (Nat × List UInt8)) : List Value := l.flatMap pendV

theorem one_pendV {p : Nat × List UInt8} : ∀ v ∈ pendV p, v.oneCell' = true := by
  intro v hv; simp only [pendV, List.mem_cons] at hv
  rcases hv with rfl | hv
  · rfl
  · exact one_bytesV v hv
theorem DD.Ok.lenPend {D : DD} (h : D.Ok) : (pendsV D.pend).length = D.pend.length * 257 := flat_length _ _ _ (fun x hx => by simp [pendV, h.data x hx])

/-- The disk at block b of a world: its header, its sectors in block bs, its writes behind the slice pv. -/
structure DiskAt (w : World) (b : Nat) (D : DD) (bs cx : Nat) (X : List Value) (pv : Value) : Prop where
  ok : D.Ok
  hb : w.heap[b]? = some (.cells #[.slice (some ⟨bs, 0, none⟩) D.secs.length cx, pv] 111 (0, 0))
  hs : w.heap[bs]? = some (.cells (secsV D.secs ++ X).toArray 113 (0, 0))
  hp : w.ownsRow 0 115 257 pv D.pend.length (pendsV D.pend)
  n1 : b ≠ bs
  n2 : ∀ g, pv.ownBlock = some g → g ≠ b ∧ g ≠ bs

def dfp (b bs : Nat) (pv : Value) : List Nat := b :: bs :: pv.ownBlock.toList

/-- The disk at block b, with the blocks that it lies in. -/
def Disk (w : World) (b : Nat) (D : DD) (fp : List Nat) : Prop := ∃ bs cx X pv, DiskAt w b D bs cx X pv ∧ fp = dfp b bs pv

theorem DiskAt.kept {w w' : World} {b bs cx : Nat} {X : List Value} {D : DD} {pv : Value} {fp : List Nat} (h : DiskAt w b D bs cx X pv) (hk : Kept fp w w') (hd : ∀ x ∈ dfp b bs pv, x ∉ fp) : DiskAt w' b D bs cx X pv :=
  ⟨h.ok, (hk.block _ (lt_of_block h.hb) (hd _ (by simp [dfp]))).trans h.hb, (hk.block _ (lt_of_block h.hs) (hd _ (by simp [dfp]))).trans h.hs,
    owns_kept h.hp hk (fun g hg => hd g (by simp [dfp, hg])), h.n1, h.n2⟩
theorem Disk.kept {w w' : World} {b : Nat} {D : DD} {fp fp' : List Nat} (h : Disk w b D fp) (hk : Kept fp' w w') (hd : ∀ x ∈ fp, x ∉ fp') : Disk w' b D fp := by
  obtain ⟨bs, cx, X, pv, h, rfl⟩ := h
  exact ⟨bs, cx, X, pv, h.kept hk hd, rfl⟩
/-- The slice that New and Write's pending have: its outer form. -/
theorem owns_slice {w : World} {base : Nat} {e : TypeId} {size : Nat} {v : Value} {n : Nat} {xs : List Value} (h : w.ownsRow base e size v n xs) : ∃ p cap, v = .slice p n cap := by
  rcases h.2 with ⟨rfl, rfl⟩ | ⟨g, cap, cur, rfl, _⟩
  · exact ⟨_, _, rfl⟩
  · exact ⟨_, _, rfl⟩

theorem DiskAt.c0 {w : World} {b bs cx : Nat} {X : List Value} {D : DD} {pv : Value} (h : DiskAt w b D bs cx X pv) : w.cell? ⟨b, 0, none⟩ = some (.slice (some ⟨bs, 0, none⟩) D.secs.length cx) := by
  rw [cell_of_row w b 0 _ _ _ h.hb]; rfl
theorem DiskAt.c1 {w : World} {b bs cx : Nat} {X : List Value} {D : DD} {pv : Value} (h : DiskAt w b D bs cx X pv) : w.cell? ⟨b, 1, none⟩ = some pv := by
  rw [cell_of_row w b 1 _ _ _ h.hb]; rfl
theorem DiskAt.f1 {w : World} {b bs cx : Nat} {X : List Value} {D : DD} {pv : Value} (h : DiskAt w b D bs cx X pv) : w.frozen? ⟨b, 1, none⟩ = false := frozen_of_row w b 1 _ _ h.hb

def zsec : Value := .agg (List.replicate 256 (.int .u8 0)).toArray
theorem Dk.info64 : (Tryz.prog.info? 113).map (fun i => (i.zero, i.size, i.bytes)) = some (some zsec, 256, 256) := by kernel_rfl
theorem bytesV_zeros (n : Nat) : bytesV (List.replicate n 0) = List.replicate n (.int .u8 0) := by simp [bytesV]
theorem secsV_zeros (n m : Nat) : secsV (List.replicate n (List.replicate m 0)) = List.replicate (n * m) (.int .u8 0) := by
  induction n with
  | zero => simp [secsV]
  | succ n ih =>
    rw [List.replicate_succ]
    show bytesV _ ++ secsV _ = _
    rw [ih, bytesV_zeros, List.replicate_append_replicate]
    congr 1
    rw [Nat.add_mul, Nat.one_mul, Nat.add_comm]

/-- A sector of noughts. -/
def zs : List UInt8 := List.replicate 256 0
theorem length_zs : zs.length = 256 := List.length_replicate
def DD.zero (n : Nat) : DD := ⟨List.replicate n zs, []⟩

set_option maxHeartbeats 400000 in
set_option maxRecDepth 100000 in
theorem Dk.new_no (n : Int) (w : World) (h : n < 1 ∨ 4096 < n) :
    Calls Tryz.prog 19 #[.int .i64 n] w fun e w' => e = .returned (.tuple #[.pointer none, .int .i64 1]) ∧ w = w' := by
  rcases h with h | h
  · go_enter Tryz.func19, Tryz.ntmps19
    go_wp2
    go_ret2
    exact ⟨rfl, rfl⟩
  · have h' : decide (n < 1) = false := by simp; omega
    go_enter Tryz.func19, Tryz.ntmps19
    go_wp2
    go_ret2
    exact ⟨rfl, rfl⟩

def NewPost (n : Nat) (w : World) (e : Ending) (w' : World) : Prop :=
  ∃ b fp, e = .returned (.tuple #[.pointer (some ⟨b, 0, none⟩), .int .i64 0]) ∧ Disk w' b (DD.zero n) fp ∧ (∀ x ∈ fp, w.heap.size ≤ x) ∧ Kept [] w w'

set_option maxHeartbeats 400000 in
set_option maxRecDepth 100000 in
theorem Dk.new (n : Nat) (w : World) (h1 : 1 ≤ n) (h2 : n ≤ 4096) : Calls Tryz.prog 19 #[.int .i64 n] w (NewPost n w) := by
  have h1' : decide ((n : Int) < 1) = false := by simp; omega
  have h2' : decide (4096 < (n : Int)) = false := by simp; omega
  obtain ⟨i0, hi, hz0, hz1, hz2⟩ := info_parts Dk.info64
  go_enter Tryz.func19, Tryz.ntmps19
  go_wp2_with (at_make; refine wpList_make_full _ rfl _ _ _ rfl w.heap.size 113 i0 zsec 256 Tryz.underlying106 hi hz0 hz1 .i64 .i64 n n n rfl rfl rfl rfl (by rw [hz2]; omega) (by unfold maxLen; omega) (Nat.le_refl _) ?_; intro w1 ho1 hg1)
  go_ret2
  obtain ⟨hb1, _⟩ := owns_exact ho1
  have hz : (madeCells zsec.cells (n * 256)).toList = secsV (DD.zero n).secs := by
    rw [show zsec.cells = (List.replicate 256 (Value.int .u8 0)).toArray from rfl, made_replicate _ _ _ (by omega)]
    exact (secsV_zeros n 256).symm
  rw [hz] at hb1
  have hlt := lt_of_block hb1
  have hs1 : w.heap.size ≤ w1.heap.size := hg1.size
  refine ⟨w1.heap.size, dfp w1.heap.size w.heap.size (.slice none 0 0), rfl, ⟨w.heap.size, n, [], .slice none 0 0, ⟨⟨?_, ?_, ?_, ?_, ?_⟩, ?_, (Below.heap_alloc _ _ _ hlt).trans (by rw [List.append_nil]; exact hb1), World.ownsRow_nil _ _ _ _, ?_, ?_⟩, rfl⟩, ?_, ?_⟩
  · simp [DD.zero]; omega
  · simp [DD.zero]; omega
  · intro s hs; simp only [DD.zero, List.mem_replicate] at hs; rw [hs.2]; exact length_zs
  · intro p hp; simp [DD.zero] at hp
  · intro p hp; simp [DD.zero] at hp
  · rw [heap_alloc_new]; simp [DD.zero]
  · omega
  · intro g hg; simp [Value.ownBlock] at hg
  · intro x hx; simp [dfp, Value.ownBlock] at hx; omega
  · exact ((Kept.refl _ _).grown hg1 (by simp)).alloc _

end Go.Proofs.YtegohgaccmkigaaGreatDoor

/- Contracts of the package disk, third part: Write. -/
namespace Go.Proofs.YtegohgaccmkigaaGreatDoor
open Go.RowKit

def DD.write (D : DD) (n : Nat) (d : List UInt8) : DD := ⟨D.secs, D.pend ++ [(n, d)]⟩

def zwrite : Value := .agg (.int .i64 0 :: List.replicate 256 (.int .u8 0)).toArray
theorem Dk.info66 : (Tryz.prog.info? 115).map (fun i => (i.zero, i.size, i.bytes)) = some (some zwrite, 257, 264) := by kernel_rfl
theorem Dk.arrayAt (b o c : Nat) (w : World) : (Instr.arrayAt 113 (.slice (some ⟨b, o, none⟩) 256 c)).run Tryz.prog w = .ok (.pointer (some ⟨b, o, none⟩)) w := by
  simp [Instr.arrayAt, run_underlying Dk.u64]
theorem size_zwrite : zwrite.cells.size = 257 := by kernel_rfl
theorem Dk.build (n : Int) (d : List UInt8) (w : World) (h : d.length = 256) :
    (Instr.build 115 #[(0, .int .i64 n), (1, .agg (bytesV d).toArray)]).run Tryz.prog w = .ok (.agg (.int .i64 n :: bytesV d).toArray) w := by
  obtain ⟨i, hi, hz, _, _⟩ := info_parts Dk.info66
  obtain ⟨i1, hi1, _, hs1, _⟩ := info_parts Dk.info64
  have hint : (Tryz.prog.info? 3).map (·.size) = some 1 := by kernel_rfl
  obtain ⟨i0, hi0, hs0⟩ := Option.map_eq_some_iff.1 hint
  have := run_build_two (P := Tryz.prog) w 115 i zwrite _ _ _ i0 i1 (.int .i64 n) (.agg (bytesV d).toArray) hi hz Tryz.underlying115 rfl hi0 hi1 rfl rfl hs0 (by rw [hs1]; simp [Value.cells, h]) (by rw [size_zwrite]; simp [Value.cells, h])
  rw [this]; simp [Value.cells]
def Dk.buildS (ps : Array (Nat × Value)) : Sem Value := Instr.build 115 ps
theorem Dk.build_eq (ps : Array (Nat × Value)) : Instr.build 115 ps = Dk.buildS ps := rfl
theorem Dk.build_run (n : Int) (d : List UInt8) (w : World) (h : d.length = 256) : (Dk.buildS #[(0, .int .i64 n), (1, .agg (bytesV d).toArray)]).run Tryz.prog w = .ok (.agg (.int .i64 n :: bytesV d).toArray) w := Dk.build n d w h
def Dk.bsS (ps : Array (Nat × Value)) : Sem Value := Instr.buildSlice 109 1 ps
theorem Dk.bs_eq (ps : Array (Nat × Value)) : Instr.buildSlice 109 1 ps = Dk.bsS ps := rfl
theorem Dk.bs_run (n : Int) (d : List UInt8) (w : World) (h : d.length = 256) : (Dk.bsS #[(0, .agg (.int .i64 n :: bytesV d).toArray)]).run Tryz.prog w =
    .ok (.slice (some ⟨w.heap.size, 0, none⟩) 1 1) (w.alloc (.cells (.int .i64 n :: bytesV d).toArray 115)) := by
  obtain ⟨i, hi, hz, hs, _⟩ := info_parts Dk.info66
  have hv : ((Value.agg (.int .i64 n :: bytesV d).toArray).cells).size = 257 := by simp [Value.cells, h]
  generalize hg : Value.agg (.int .i64 n :: bytesV d).toArray = v at hv
  have hc : (.int .i64 n :: bytesV d).toArray = v.cells := by rw [← hg]; rfl
  rw [hc]
  exact run_buildSlice_one w _ _ i zwrite v Tryz.underlying109 hi hz (by rw [hs, hv]) (by rw [size_zwrite, hv]) (by omega) (by omega)
attribute [local go_sem ↓] Dk.build_eq Dk.bs_eq
attribute [local go_sem] Dk.build_run Dk.bs_run

def WritePost (w : World) (b bs cx : Nat) (X : List Value) (D : DD) (pv : Value) (n : Nat) (d : List UInt8) (e : Ending) (w' : World) : Prop :=
  ∃ pv', e = .returned (.int .i64 0) ∧ DiskAt w' b (D.write n d) bs cx X pv' ∧ (∀ g, pv'.ownBlock = some g → pv.ownBlock = some g ∨ w.heap.size ≤ g) ∧ Kept (dfp b bs pv) w w'

theorem Dk.elemW : ElemOk Tryz.prog 109 115 257 264 := .mk' zwrite Tryz.underlying109 Dk.info66 size_zwrite (by omega)

set_option maxHeartbeats 1000000 in
set_option maxRecDepth 100000 in
theorem Dk.write (b bs n bb ob c cx : Nat) (X : List Value) (D : DD) (pv : Value) (d : List UInt8) (w : World) (h : DiskAt w b D bs cx X pv) (hn : n < D.secs.length) (hr : w.rangeAt bb ob (bytesV d)) (hd : d.length = 256)
    (hbb : bb ∉ dfp b bs pv) (hroom : D.pend.length < 2 ^ 32) :
    Calls Tryz.prog 58 #[.pointer (some ⟨b, 0, none⟩), .int .i64 n, .slice (some ⟨bb, ob, none⟩) 256 c] w (WritePost w b bs cx X D pv n d) := by
  have h0 := h.c0
  have h1 := h.c1
  have h2 := h.f1
  have hh := hasB_yes (n := (n : Int)) (by omega) (show (n : Int) < (D.secs.length : Int) by omega)
  have hap := Dk.arrayAt bb ob c
  have hu := Lib.hid Dk.u64
  have hi := Lib.hid (Dk.i64 (n := (bytesV d).length) (by simpa using hd))
  have lb := lt_of_block h.hb
  have hl : (pendV (n, d)).length = 257 := by simp [pendV, hd]
  have H := Lib.hid h
  clear h
  go_enter Tryz.func58, Tryz.ntmps58
  go_wp2_with (go_at_call 43; refine (Dk.has _ _ _ _ _ _ _ (by assumption)).mono ?_; rintro e w' ⟨rfl, rfl⟩)
  have hS0 : w.drew.cell? ⟨b, 1, none⟩ = some pv ∧ w.drew.rangeAt bb ob (bytesV d) := ⟨h1, hr⟩
  refine wp_region_T 12 (fun w' => w'.cell? ⟨b, 1, none⟩ = some pv ∧ w'.rangeAt bb ob (bytesV d)) (by kernel_rfl) (by simp) (by kernel_rfl) ?_
  refine wpT_take (i := 0) (v := ?_) rfl (by kernel_rfl) (fun _ _ _ h => h) (by assumption) (.inl ⟨rfl, ?_⟩) ?_
  rotate_left
  · intro w' hS; obtain ⟨hS1, hS2⟩ := hS; go_simp; try with_reducible rfl
  simp only [Act.put, List.setIfInBounds_toArray, List.set_cons_zero, List.set_cons_succ]
  refine wpT_take (i := 1) (v := ?_) rfl (by kernel_rfl) (fun _ _ _ h => h) (by assumption) (.inl ⟨rfl, ?_⟩) ?_
  rotate_left
  · intro w' hS; obtain ⟨hS1, hS2⟩ := hS; go_simp; try with_reducible rfl
  simp only [Act.put, List.setIfInBounds_toArray, List.set_cons_zero, List.set_cons_succ]
  refine wpT_take (i := 2) (v := ?_) rfl (by kernel_rfl) (fun _ _ _ h => h) (by assumption) (.inl ⟨rfl, ?_⟩) ?_
  rotate_left
  · intro w' hS; obtain ⟨hS1, hS2⟩ := hS; go_simp; try with_reducible rfl
  simp only [Act.put, List.setIfInBounds_toArray, List.set_cons_zero, List.set_cons_succ]
  refine wpT_take (i := 3) (v := ?_) rfl (by kernel_rfl) (fun _ _ _ h => h) (by assumption) (.inl ⟨rfl, ?_⟩) ?_
  rotate_left
  · intro w' hS; obtain ⟨hS1, hS2⟩ := hS; go_simp; try with_reducible rfl
  simp only [Act.put, List.setIfInBounds_toArray, List.set_cons_zero, List.set_cons_succ]
  refine wpT_take (i := 4) (v := ?_) rfl (by kernel_rfl) (fun _ _ _ h => h) (by assumption) (.inl ⟨rfl, ?_⟩) ?_
  rotate_left
  · intro w' hS; obtain ⟨hS1, hS2⟩ := hS; go_simp; try with_reducible rfl
  simp only [Act.put, List.setIfInBounds_toArray, List.set_cons_zero, List.set_cons_succ]
  refine wpT_take (i := 5) (v := ?_) rfl (by kernel_rfl) (fun _ _ _ h => h) (by assumption) (.inl ⟨rfl, ?_⟩) ?_
  rotate_left
  · intro w' hS; obtain ⟨hS1, hS2⟩ := hS; go_simp; try with_reducible rfl
  simp only [Act.put, List.setIfInBounds_toArray, List.set_cons_zero, List.set_cons_succ]
  refine wpT_take (i := 6) (v := ?_) rfl (by kernel_rfl) (fun _ _ _ h => h) (by assumption) (.inl ⟨rfl, ?_⟩) ?_
  rotate_left
  · intro w' hS; obtain ⟨hS1, hS2⟩ := hS; go_simp; try with_reducible rfl
  simp only [Act.put, List.setIfInBounds_toArray, List.set_cons_zero, List.set_cons_succ]
  refine wpT_take (i := 7) (v := ?_) rfl (by kernel_rfl) (fun _ _ _ h => h) (by assumption) (.inl ⟨rfl, ?_⟩) ?_
  rotate_left
  · intro w' hS; obtain ⟨hS1, hS2⟩ := hS; go_simp; try with_reducible rfl
  simp only [Act.put, List.setIfInBounds_toArray, List.set_cons_zero, List.set_cons_succ]
  refine wpT_take (i := 8) (v := .agg (bytesV d).toArray) rfl (by kernel_rfl) (fun _ _ _ h => h) (by assumption) ?_ ?_
  · refine yieldsIf_load_mid ?_ 113 (.tmp 25) ?_ bb ob ?_ (bytesV d) _ (fun w' hS => hS.2) hu.out ?_ hi.out <;> rfl
  simp only [Act.put, List.setIfInBounds_toArray, List.set_cons_zero, List.set_cons_succ]
  refine wpT_take (i := 9) (v := ?_) rfl (by kernel_rfl) (fun _ _ _ h => h) (by assumption) (.inl ⟨rfl, ?_⟩) ?_
  rotate_left
  · intro w' hS; go_simp; try with_reducible rfl
  simp only [Act.put, List.setIfInBounds_toArray, List.set_cons_zero, List.set_cons_succ]
  have hr1 : (w.alloc (.cells (.int .i64 n :: bytesV d).toArray 115)).drew.rangeAt bb ob (bytesV d) := (World.rangeAt_drew _ _ _ _).2 (World.rangeAt_alloc hr _)
  have hc1 : (w.alloc (.cells (.int .i64 n :: bytesV d).toArray 115)).drew.cell? ⟨b, 1, none⟩ = some pv := (World.cell?_alloc_lt w _ _ lb).trans h1
  have e1 : (w.alloc (.cells (.int .i64 n :: bytesV d).toArray 115)).drew.ownsRow 0 115 257 pv D.pend.length (pendsV D.pend) := (H.out.hp.alloc _).drew
  have e2 : Src Tryz.prog 257 109 (.slice (some ⟨w.heap.size, 0, none⟩) 1 1) 1 (pendV (n, d)) (w.alloc (.cells (.int .i64 n :: bytesV d).toArray 115)).drew := Src.ofBlock Tryz.underlying109 (by exact heap_alloc_new w _) 1 1 hl one_pendV
  refine wpT_one (i := 10) rfl rfl (by kernel_rfl) (fun K hK => ?_)
  go_simp
  refine hK _ _ _ (fun _ h => h) ⟨hc1, hr1⟩ ?_
  clear hK K
  refine wpT_one (i := 11) rfl rfl (by kernel_rfl) (fun K hK => ?_)
  refine wp_append_k (v := pv) (x := .slice (some ⟨w.heap.size, 0, none⟩) 1 1) (.tmp 22) (.tmp 28) _ _ rfl Dk.elemW rfl e1 rfl e2 (by unfold maxLen; omega) (by omega) (by simp) ?_
  intro v1 w1 hA
  obtain ⟨p1, c1, rfl⟩ := owns_slice hA.own
  have hkw : Kept (dfp b bs pv) w w1 := (((Kept.refl _ _).alloc _).drew).trans hA.kept (by intro x hx; left; simp only [dfp, List.mem_cons]; exact .inr (.inr hx))
  have hblk := hA.blk
  have hnb : b ∉ pv.ownBlock.toList := fun hm => (H.out.n2 b (by simpa using hm)).1 rfl
  have hnb2 : bb ∉ pv.ownBlock.toList := fun hm => hbb (by simp only [dfp, List.mem_cons]; exact .inr (.inr hm))
  have hc2 : w1.cell? ⟨b, 1, none⟩ = some pv := (hA.kept.cell (by simp; omega) hnb).trans hc1
  have hf2 : w1.frozen? ⟨b, 1, none⟩ = false := (hA.kept.frozen (p := ⟨b, 1, none⟩) (by simp; omega) hnb).trans ((World.frozen?_alloc_past _ _ _ lb).trans h2)
  refine hK _ _ _ (fun _ h => h) ⟨hc2, rangeAt_kept hr1 hA.kept hnb2⟩ ?_
  have HA := Lib.hid hA
  have HB := Lib.hid hblk
  clear hK K e1 e2 hS0 hc1 hr1 hA hblk
  refine wpT_done (by kernel_rfl) ?_
  simp only [Act.put, List.setIfInBounds_toArray, List.set_cons_zero, List.set_cons_succ, List.drop_succ_cons, List.drop_zero]
  go_wp2
  go_ret
  have hA := HA.out
  have hD := H.out
  have hk2 : Kept [b] w1 (w1.setCell ⟨b, 1, none⟩ (.slice p1 (D.pend.length + 1) c1)) := (Kept.refl _ _).setCell (by simp) _
  have hb1 : w1.heap[b]? = some (.cells #[.slice (some ⟨bs, 0, none⟩) D.secs.length cx, pv] 111 (0, 0)) :=
    (hA.kept.block b (by simp; omega) hnb).trans ((Below.heap_alloc _ _ _ lb).trans hD.hb)
  have hbs1 : w1.heap[bs]? = some (.cells (secsV D.secs ++ X).toArray 113 (0, 0)) :=
    (hA.kept.block bs (by have := lt_of_block hD.hs; simp; omega) (fun hm => (hD.n2 bs (by simpa using hm)).2 rfl)).trans ((Below.heap_alloc _ _ _ (lt_of_block hD.hs)).trans hD.hs)
  have hnew : ∀ g, some g = (Value.slice p1 (D.pend.length + 1) c1).ownBlock → g ≠ b ∧ g ≠ bs := fun g hg => by
    rcases hA.blk g hg.symm with h | h
    · exact hD.n2 g h
    · have h3 := lt_of_block hD.hs; simp at h; omega
  refine ⟨.slice p1 (D.pend.length + 1) c1, rfl, ⟨⟨hD.ok.pos, hD.ok.max, hD.ok.secs, ?_, ?_⟩, ?_, ?_, ?_, hD.n1, fun g hg => hnew g hg.symm⟩, ?_, ?_⟩
  · intro p hp
    simp only [DD.write, List.mem_append, List.mem_singleton] at hp
    rcases hp with hp | rfl
    · exact hD.ok.at_ p hp
    · exact hn
  · intro p hp
    simp only [DD.write, List.mem_append, List.mem_singleton] at hp
    rcases hp with hp | rfl
    · exact hD.ok.data p hp
    · exact hd
  · rw [heap_setCell_same w1 b 1 _ _ _ hb1]; rfl
  · exact (hk2.block bs (lt_of_block hbs1) (by simp; exact fun e => hD.n1 e.symm)).trans hbs1
  · have := owns_kept hA.own hk2 (fun g hg hm => (hnew g hg.symm).1 (by simpa using hm))
    simpa [DD.write, pendsV] using this
  · intro g hg
    rcases hA.blk g hg with h | h
    · exact .inl h
    · right; simp at h; omega
  · exact hkw.trans hk2 (by intro x hx; left; simp only [List.mem_singleton] at hx; subst hx; simp [dfp])

end Go.Proofs.YtegohgaccmkigaaGreatDoor

/- Sectors and writes are arrays of 256 bytes: their loads, stores and allocations as whole steps of a walk. -/
namespace Go.Proofs.YtegohgaccmkigaaGreatDoor
open Go.RowKit

def Dk.ld (t : TypeId) (p : Value) : Sem Value := Instr.loadAt t p
def Dk.st (t : TypeId) (p v : Value) : Sem Unit := Instr.storeAt t p v
def Dk.al (t : TypeId) (b : Bool) (o : Value) : Sem Value := Instr.alloc t b o
theorem Dk.ld64 (p : Value) : Instr.loadAt 113 p = Dk.ld 113 p := rfl
theorem Dk.ld66 (p : Value) : Instr.loadAt 115 p = Dk.ld 115 p := rfl
theorem Dk.st64 (p v : Value) : Instr.storeAt 113 p v = Dk.st 113 p v := rfl
theorem Dk.st66 (p v : Value) : Instr.storeAt 115 p v = Dk.st 115 p v := rfl
theorem Dk.al64 (b : Bool) (o : Value) : Instr.alloc 113 b o = Dk.al 113 b o := rfl
theorem Dk.al66 (b : Bool) (o : Value) : Instr.alloc 115 b o = Dk.al 115 b o := rfl

def zsecC : Array Value := zsec.cells
def zwriteC : Array Value := zwrite.cells
theorem size_zsecC : zsecC.size = 256 := by kernel_rfl
theorem size_zwriteC : zwriteC.size = 257 := by kernel_rfl

theorem run_alloc_z {P : Program} (w : World) (t : TypeId) (i : TypeInfo) (z : Value) (hi : P.info? t = some i) (hz : i.zero = some z) :
    (Instr.alloc t true (.tuple #[])).run P w = .ok (.pointer (some ⟨w.heap.size, 0, none⟩)) (w.alloc (.cells z.cells t)) := by
  simp [Instr.alloc, zeroValue, typeInfo, hi, hz, newVar, newRow]

theorem Dk.al_run64 (w : World) : (Dk.al 113 true (.tuple #[])).run Tryz.prog w = .ok (.pointer (some ⟨w.heap.size, 0, none⟩)) (w.alloc (.cells zsecC 113)) := by
  obtain ⟨i, hi, hz, _, _⟩ := info_parts Dk.info64
  exact run_alloc_z w _ i zsec hi hz
theorem Dk.al_run66 (w : World) : (Dk.al 115 true (.tuple #[])).run Tryz.prog w = .ok (.pointer (some ⟨w.heap.size, 0, none⟩)) (w.alloc (.cells zwriteC 115)) := by
  obtain ⟨i, hi, hz, _, _⟩ := info_parts Dk.info66
  exact run_alloc_z w _ i zwrite hi hz

theorem Dk.u66 : ∃ fs, Tryz.prog.underlying 115 = some (.struct fs) := ⟨_, Tryz.underlying115⟩
theorem Dk.i66 {n : Nat} (h : n = 257) : (Tryz.prog.info? 115).map (·.size) = some n := by rw [h]; kernel_rfl

theorem Dk.ld_run64 (w : World) (b o : Nat) (d : List UInt8) (hc : w.rangeAt b o (bytesV d)) (hd : d.length = 256) :
    (Dk.ld 113 (.pointer (some ⟨b, o, none⟩))).run Tryz.prog w = .ok (.agg (bytesV d).toArray) w :=
  run_loadAt_mid w b o _ _ _ hc Dk.u64 rfl (Dk.i64 (by simpa using hd))
theorem Dk.ld_run66 (w : World) (b o : Nat) (p : Nat × List UInt8) (hc : w.rangeAt b o (pendV p)) (hd : p.2.length = 256) :
    (Dk.ld 115 (.pointer (some ⟨b, o, none⟩))).run Tryz.prog w = .ok (.agg (.int .i64 p.1 :: bytesV p.2).toArray) w := by
  obtain ⟨fs, hfs⟩ := Dk.u66
  exact run_loadAt_mid w b o _ _ _ hc hfs rfl (Dk.i66 (by simp [pendV, hd]))

theorem Dk.ld_data (w : World) (n : Int) (d : List UInt8) (hd : d.length = 256) :
    (Dk.ld 113 (.pointer (some ⟨w.heap.size, 1, none⟩))).run Tryz.prog (w.alloc (.cells (.int .i64 n :: bytesV d).toArray 115)) = .ok (.agg (bytesV d).toArray) (w.alloc (.cells (.int .i64 n :: bytesV d).toArray 115)) :=
  Dk.ld_run64 _ _ _ d (fun j v hv => by have := cells_from (heap_alloc_new w (.cells (.int .i64 n :: bytesV d).toArray 115)) 1 (bytesV d) (by simp) j v hv; rwa [Addr.add_mid] at this) hd

theorem run_storeAt_row {P : Program} (w : World) (g : Nat) (ty t : TypeId) (cells old : Array Value) (hg : w.heap[g]? = some (.cells old t (0, 0))) (hi : (P.info? ty).map (·.size) = some cells.size)
    (hold : old.size = cells.size) (h1 : cells.all (·.oneCell') = true) :
    (Instr.storeAt ty (.pointer (some ⟨g, 0, none⟩)) (.agg cells)).run P w = .ok () (w.setRow g cells) := by
  have := run_storeAt_mid (P := P) w g 0 ty cells (fun j hj => ⟨by rw [cell_of_row w g _ old t (0, 0) hg]; simp; omega, frozen_of_row w g _ old t hg⟩) hi h1
  rw [this, setCells_row P w g t cells.toList 0 old hg (by simp; omega) (fun u hu => (Array.all_eq_true_iff_forall_mem.1 h1) u (by simpa using hu))]
  unfold splice
  rw [List.drop_of_length_le (by simp; omega)]
  simp

theorem setRow_new (w : World) (C D : Array Value) (t : TypeId) : (w.alloc (.cells C t)).setRow w.heap.size D = w.alloc (.cells D t) := by
  rw [World.alloc, World.setRow]
  congr 1
  apply Array.ext_getElem?
  intro i
  rw [Array.getElem?_modify, Array.getElem?_push, Array.getElem?_push]
  by_cases h : w.heap.size = i
  · subst h; simp
  · rw [if_neg h, if_neg (fun e => h e.symm), if_neg (fun e => h e.symm)]

theorem Dk.st_new64 (w : World) (d : List UInt8) (hd : d.length = 256) :
    (Dk.st 113 (.pointer (some ⟨w.heap.size, 0, none⟩)) (.agg (bytesV d).toArray)).run Tryz.prog (w.alloc (.cells zsecC 113)) = .ok () (w.alloc (.cells (bytesV d).toArray 113)) := by
  rw [← setRow_new w zsecC (bytesV d).toArray]
  exact run_storeAt_row _ _ _ _ _ zsecC (heap_alloc_new w _) (Dk.i64 (by simpa using hd)) (by rw [size_zsecC]; simp [hd]) (all_oneCell_toArray one_bytesV)
theorem Dk.st_new66 (w : World) (n : Nat) (d : List UInt8) (hd : d.length = 256) :
    (Dk.st 115 (.pointer (some ⟨w.heap.size, 0, none⟩)) (.agg (.int .i64 n :: bytesV d).toArray)).run Tryz.prog (w.alloc (.cells zwriteC 115)) = .ok () (w.alloc (.cells (.int .i64 n :: bytesV d).toArray 115)) := by
  rw [← setRow_new w zwriteC (.int .i64 n :: bytesV d).toArray]
  exact run_storeAt_row _ _ _ _ _ zwriteC (heap_alloc_new w _) (Dk.i66 (by simp [hd])) (by rw [size_zwriteC]; simp [hd]) (all_oneCell_toArray (fun v hv => one_pendV (p := (n, d)) v hv))
theorem Dk.st_run64 (w : World) (g : Nat) (d : List UInt8) (old : Array Value) (t : TypeId) (hg : w.heap[g]? = some (.cells old t (0, 0))) (ho : old.size = 256) (hd : d.length = 256) :
    (Dk.st 113 (.pointer (some ⟨g, 0, none⟩)) (.agg (bytesV d).toArray)).run Tryz.prog w = .ok () (w.setRow g (bytesV d).toArray) :=
  run_storeAt_row _ _ _ _ _ old hg (Dk.i64 (by simpa using hd)) (by simp [ho, hd]) (all_oneCell_toArray one_bytesV)

/-- Where a disk's writes lie. -/
theorem DiskAt.pend {w : World} {b bs cx : Nat} {X : List Value} {D : DD} {pv : Value} (h : DiskAt w b D bs cx X pv) (hp : 0 < D.pend.length) :
    ∃ gp cap, pv = .slice (some ⟨gp, 0, none⟩) D.pend.length cap ∧ (∀ i (hi : i < D.pend.length), w.rangeAt gp (i * 257) (pendV D.pend[i])) ∧ gp ≠ b ∧ gp ≠ bs ∧ gp < w.heap.size := by
  have hl := h.ok.lenPend
  rcases h.hp.2 with ⟨_, h0⟩ | ⟨g, cap, cur, rfl, _, hg, _, _, hcs, ht⟩
  · omega
  · refine ⟨g, cap, rfl, fun i hi j v hv => ?_, (h.n2 g rfl).1, (h.n2 g rfl).2, lt_of_block hg⟩
    rw [cell_of_row w g _ cur _ _ hg]
    have hj : j < 257 := by
      have := (List.getElem?_eq_some_iff.1 hv).1
      simp [pendV, h.ok.data _ (List.getElem_mem hi)] at this
      omega
    have hd := flat_drop pendV 257 D.pend (fun x hx => by simp [pendV, h.ok.data x hx]) i hi
    have h2 : (pendsV D.pend)[i * 257 + j]? = some v := by
      rw [← List.getElem?_drop]
      unfold pendsV
      rw [hd, List.getElem?_append_left (List.getElem?_eq_some_iff.1 hv).1]
      exact hv
    rw [← ht, List.getElem?_take] at h2
    split at h2
    · simpa using h2
    · cases h2
theorem DiskAt.sec {w : World} {b bs cx : Nat} {X : List Value} {D : DD} {pv : Value} (h : DiskAt w b D bs cx X pv) (i : Nat) (hi : i < D.secs.length) : w.rangeAt bs (i * 256) (bytesV D.secs[i]) := fun j v hv => by
  rw [cell_of_row w bs _ _ _ _ h.hs]
  have hd := flat_drop bytesV 256 D.secs (fun x hx => by simpa using h.ok.secs x hx) i hi
  have h2 : (secsV D.secs)[i * 256 + j]? = some v := by
    rw [← List.getElem?_drop]
    unfold secsV
    rw [hd, List.getElem?_append_left (List.getElem?_eq_some_iff.1 hv).1]
    exact hv
  have h3 : (secsV D.secs ++ X)[i * 256 + j]? = some v := by rw [List.getElem?_append_left (List.getElem?_eq_some_iff.1 h2).1]; exact h2
  simpa using h3
end Go.Proofs.YtegohgaccmkigaaGreatDoor

/- Contracts of the package disk, fourth part: Read. -/
namespace Go.Proofs.YtegohgaccmkigaaGreatDoor
open Go.RowKit

attribute [local go_sem ↓] Dk.ld64 Dk.ld66 Dk.st64 Dk.st66 Dk.al64 Dk.al66
attribute [local go_sem] Dk.al_run64 Dk.al_run66 Dk.ld_data Dk.st_new64 Dk.st_new66

/-- A sector's bytes as the first i writes leave them. -/
def DD.readK (D : DD) (n i : Nat) : List UInt8 := (D.pend.take i).foldl (fun acc p => if p.1 = n then p.2 else acc) (D.secs.getD n [])
def DD.read (D : DD) (n : Nat) : List UInt8 := D.readK n D.pend.length
theorem DD.readK_zero (D : DD) (n : Nat) : D.readK n 0 = D.secs.getD n [] := by unfold DD.readK; rfl
theorem DD.readK_succ (D : DD) (n i : Nat) (h : i < D.pend.length) : D.readK n (i + 1) = if D.pend[i].1 = n then D.pend[i].2 else D.readK n i := by
  unfold DD.readK; rw [List.take_succ_eq_append_getElem h, List.foldl_append]; rfl
theorem DD.Ok.readK {D : DD} (h : D.Ok) (n : Nat) (hn : n < D.secs.length) : ∀ i, i ≤ D.pend.length → (D.readK n i).length = 256
  | 0, _ => by rw [DD.readK_zero]; simp only [List.getD_eq_getElem?_getD, List.getElem?_eq_getElem hn, Option.getD_some]; exact h.secs _ (List.getElem_mem hn)
  | i + 1, hi => by
    rw [DD.readK_succ D n i (by omega)]
    split
    · exact h.data _ (List.getElem_mem _)
    · exact DD.Ok.readK h n hn i (by omega)

theorem Dk.elemB : ElemOk Tryz.prog 43 5 1 1 := .mk' (.int .u8 0) Tryz.underlying43 (by kernel_rfl) rfl (by omega)

/-- New memory that holds just these bytes, and the world but for that kept. -/
def NewBytes (d : List UInt8) (code : Int) (w : World) (e : Ending) (w' : World) : Prop :=
  ∃ g cap, e = .returned (.tuple #[.slice (some ⟨g, 0, none⟩) d.length cap, .int .i64 code]) ∧ w'.ownsRow 0 5 1 (.slice (some ⟨g, 0, none⟩) d.length cap) d.length (bytesV d) ∧ w.heap.size ≤ g ∧ Kept [] w w'

set_option maxHeartbeats 1000000 in
set_option maxRecDepth 100000 in
theorem Dk.read (b bs n cx : Nat) (X : List Value) (D : DD) (pv : Value) (w : World) (h : DiskAt w b D bs cx X pv) (hn : n < D.secs.length) (hroom : D.pend.length < 2 ^ 32) :
    Calls Tryz.prog 16 #[.pointer (some ⟨b, 0, none⟩), .int .i64 n] w (NewBytes (D.read n) 0 w) := by
  have h0 := h.c0
  have h1 := h.c1
  have hh := hasB_yes (n := (n : Int)) (by omega) (show (n : Int) < (D.secs.length : Int) by omega)
  have hr0 := h.ok.readK n hn 0 (by omega)
  have hsec : w.rangeAt bs (n * 256) (bytesV (D.readK n 0)) := by
    rw [DD.readK_zero]; simp only [List.getD_eq_getElem?_getD, List.getElem?_eq_getElem hn, Option.getD_some]; exact h.sec n hn
  have hl1 := Dk.ld_run64 w bs (n * 256) _ hsec hr0
  obtain ⟨p1, c1, hpv⟩ := owns_slice h.hp
  have n0 : (0 : Int) ≤ (n : Int) := by omega
  have n1 : (n : Int) < (D.secs.length : Int) := by omega
  have lb := lt_of_block h.hb
  have H := Lib.hid h
  have HP := Lib.hid hpv
  subst hpv
  clear h hsec HP
  generalize hrd : D.readK n 0 = r0 at *
  have Hrd := Lib.hid hrd
  clear hrd
  go_enter Tryz.func16, Tryz.ntmps16
  go_wp2_with (go_at_call 43; refine (Dk.has _ _ _ _ _ _ _ (by assumption)).mono ?_; rintro e w' ⟨rfl, rfl⟩)
  go_loopw [28] (fun i wr => ∃ k : Nat, k ≤ D.pend.length ∧ i = .int .i64 k ∧ Hid (wr.heap[w.heap.size]? = some (.cells (bytesV (D.readK n k)).toArray 113 (0, 0))) ∧ Kept [] w wr) (fun i _ => D.pend.length - (intOf i).toNat)
  case atStart =>
    refine ⟨0, by omega, rfl, ?_, (Kept.refl _ _).alloc _⟩
    rw [Hrd.out]; exact heap_alloc_new _ _
  case round =>
    obtain ⟨k, hk, rfl, hrow, hkp⟩ := hrel
    by_cases hlt : k < D.pend.length
    · obtain ⟨gp, cap, he, hrange, hgb, hgs, hgl⟩ := H.out.pend (by omega)
      injection he with he1 _ he2
      subst he1 he2
      have hdat := H.out.ok.data _ (List.getElem_mem hlt)
      have hs := DD.readK_succ D n k hlt
      have hrk := H.out.ok.readK n hn k (by omega)
      have hl66 := Dk.ld_run66 wr gp (k * 257) _ (rangeAt_kept (hrange k hlt) hkp (by simp)) hdat
      generalize hp : D.pend[k] = p at *
      have hlw := lt_of_block hrow.out
      have hst := Dk.st_run64 (wr.alloc (.cells (.int .i64 p.1 :: bytesV p.2).toArray 115)) w.heap.size p.2 _ _ ((Below.heap_alloc _ _ _ hlw).trans hrow.out) (by simpa using hrk) hdat
      have Hs := Lib.hid hs
      clear hrange hp hs hrk
      have k0 : (0 : Int) ≤ (k : Int) := by omega
      have k1 : (k : Int) < (D.pend.length : Int) := by omega
      by_cases hq : p.1 = n
      · have hb : ((p.1 : Int) == (n : Int)) = true := by simp [hq]
        have Hq := Lib.hid hq
        clear hq
        go_wp2
        go_roundw
        case rel =>
          refine ⟨k + 1, by omega, by go_num, ?_, ((hkp.alloc _).setRow (.inr (Nat.le_refl _)) _)⟩
          rw [Hs.out, if_pos Hq.out]
          exact setRow_heap _ _ _ _ _ _ ((Below.heap_alloc _ _ _ hlw).trans hrow.out)
        case measure => simp [intOf]; omega
      · have hb : ((p.1 : Int) == (n : Int)) = false := by simp; omega
        have Hq := Lib.hid hq
        clear hq
        go_wp2
        go_roundw
        case rel =>
          refine ⟨k + 1, by omega, by go_num, ?_, hkp.alloc _⟩
          rw [Hs.out, if_neg Hq.out]
          exact (Below.heap_alloc _ _ _ hlw).trans hrow.out
        case measure => simp [intOf]; omega
    · have : k = D.pend.length := by omega
      subst this
      have hrk := H.out.ok.readK n hn D.pend.length (Nat.le_refl _)
      have hlw := lt_of_block hrow.out
      have e1 : (wr.alloc (.cells #[] 5)).ownsRow 0 5 1 (.slice (some ⟨wr.heap.size, 0, none⟩) 0 0) 0 [] := World.ownsRow_made wr #[] 0 (Nat.zero_le _) (by unfold maxLen; omega) rfl
      have e2 : Src Tryz.prog 1 43 (.slice (some ⟨w.heap.size, 0, none⟩) 256 256) 256 (bytesV (D.readK n D.pend.length)) (wr.alloc (.cells #[] 5)) :=
        Src.ofBlock Tryz.underlying43 ((Below.heap_alloc _ _ _ hlw).trans hrow.out) 256 256 (by simpa using hrk) one_bytesV
      have E1 := Lib.hid e1
      have E2 := Lib.hid e2
      have Hrk := Lib.hid hrk
      clear e1 e2 hrk
      go_wp2_with (at_builtin; refine wpList_append_k (v := .slice (some ⟨wr.heap.size, 0, none⟩) 0 0) (x := .slice (some ⟨w.heap.size, 0, none⟩) 256 256) rfl (.tmp 39) (.tmp 40) _ _ rfl Dk.elemB rfl E1.out rfl E2.out (by unfold maxLen; omega) (by omega) (Nat.zero_le _) ?_; intro v1 w1 hA; have HA := Lib.hid hA; clear hA)
      go_ret2
      have hA := HA.out
      obtain ⟨g, cap, rfl, hg, _⟩ := hA.slice (by omega)
      have hlen : (D.read n).length = 256 := Hrk.out
      have hge : w.heap.size ≤ g := by
        have := hkp.size
        rcases hg with hg | hg
        · simp [Value.ownBlock] at hg; omega
        · simp at hg; omega
      refine ⟨g, cap, ?_, ?_, hge, (hkp.alloc _).trans hA.kept (by have := hkp.size; simp [Value.ownBlock]; omega)⟩
      · rw [hlen]; rfl
      · rw [hlen]; have h5 := hA.own; simp only [Nat.zero_add, List.nil_append] at h5; exact h5
end Go.Proofs.YtegohgaccmkigaaGreatDoor

/- Contracts of the package disk, fifth part: Sync and Crash. -/
namespace Go.Proofs.YtegohgaccmkigaaGreatDoor
open Go.RowKit

attribute [local go_sem ↓] Dk.ld64 Dk.ld66 Dk.st64 Dk.st66 Dk.al64 Dk.al66
attribute [local go_sem] Dk.al_run64 Dk.al_run66 Dk.ld_data Dk.st_new64 Dk.st_new66

/-- The sectors when the first k bytes of a write are laid on the platter. -/
def layW (S : List (List UInt8)) (n k : Nat) (d : List UInt8) : List (List UInt8) := S.set n (d.take k ++ (S.getD n []).drop k)
theorem length_layW (S : List (List UInt8)) (n k : Nat) (d : List UInt8) : (layW S n k d).length = S.length := by simp [layW]
theorem layW_ok (S : List (List UInt8)) (n k : Nat) (d : List UInt8) (hS : ∀ s ∈ S, s.length = 256) (hn : n < S.length) (hk : k ≤ 256) (hd : d.length = 256) : ∀ s ∈ layW S n k d, s.length = 256 := by
  intro s hs
  unfold layW at hs
  rcases List.mem_or_eq_of_mem_set hs with h | rfl
  · exact hS s h
  · have := hS _ (List.getElem_mem hn)
    simp [List.getElem?_eq_getElem hn]; omega
theorem layW_splice (S : List (List UInt8)) (n k : Nat) (d : List UInt8) (hS : ∀ s ∈ S, s.length = 256) (hn : n < S.length) (hk : k ≤ 256) (hd : d.length = 256) :
    splice (secsV S) (n * 256) ((bytesV d).take k) = secsV (layW S n k d) := by
  have hl : ((bytesV d).take k).length = k := by simp; omega
  have h1 := flat_splice bytesV 256 S (fun x hx => by simpa using hS x hx) n hn 0 ((bytesV d).take k) (by omega) (d.take k ++ S[n].drop k) (by
    unfold splice
    rw [hl]
    simp [bytesV])
  have e : layW S n k d = S.set n (d.take k ++ S[n].drop k) := by simp [layW, List.getElem?_eq_getElem hn]
  rw [e]
  rw [Nat.add_zero] at h1
  exact h1
theorem splice_appD {α : Type} (A Y : List α) (off : Nat) (cs : List α) (h : off + cs.length ≤ A.length) : splice (A ++ Y) off cs = splice A off cs ++ Y := by
  unfold splice
  rw [List.take_append_of_le_length (by omega), List.drop_append_of_le_length (by omega)]
  simp

theorem laySX (S : List (List UInt8)) (X : List Value) (n k : Nat) (d : List UInt8) (hS : ∀ s ∈ S, s.length = 256) (hn : n < S.length) (hk : k ≤ 256) (hd : d.length = 256) :
    splice (secsV S ++ X) (n * 256) ((bytesV d).take k) = secsV (layW S n k d) ++ X := by
  have h := flat_length bytesV 256 S (fun x hx => by simpa using hS x hx)
  rw [splice_appD _ _ _ _ (by unfold secsV; rw [h, List.length_take, length_bytesV]; omega), layW_splice S n k d hS hn hk hd]

/-- How many bytes of write number i are kept in a crash. -/
def clampN (x : Int) : Nat := (min (max x 0) 256).toNat
theorem clampN_le (x : Int) : clampN x ≤ 256 := by unfold clampN; omega
def amount (keep : List Bool) (tear at_ : Int) (i : Nat) : Option Nat := if (i : Int) = tear then some (clampN at_) else if keep.getD i false then some 256 else none
def DD.lays (D : DD) (f : Nat → Option Nat) : Nat → List (List UInt8)
  | 0 => D.secs
  | i + 1 => match D.pend[i]? with
    | none => D.lays f i
    | some p => match f i with
      | some k => layW (D.lays f i) p.1 k p.2
      | none => D.lays f i
theorem DD.lays_ok {D : DD} (h : D.Ok) (f : Nat → Option Nat) (hf : ∀ i k, f i = some k → k ≤ 256) : ∀ i, (∀ s ∈ D.lays f i, s.length = 256) ∧ (D.lays f i).length = D.secs.length
  | 0 => ⟨h.secs, rfl⟩
  | i + 1 => by
    have ih := DD.lays_ok h f hf i
    unfold DD.lays
    cases hp : D.pend[i]? with
    | none => exact ih
    | some p =>
      have hm := List.mem_of_getElem? hp
      cases hk : f i with
      | none => exact ih
      | some k => exact ⟨layW_ok _ _ _ _ ih.1 (by rw [ih.2]; exact h.at_ p hm) (hf i k hk) (h.data p hm), by simp only [length_layW]; exact ih.2⟩
theorem DD.lays_some (D : DD) (f : Nat → Option Nat) (i k : Nat) (hi : i < D.pend.length) (hk : f i = some k) : D.lays f (i + 1) = layW (D.lays f i) D.pend[i].1 k D.pend[i].2 := by
  simp [DD.lays, List.getElem?_eq_getElem hi, hk]
def DD.sync (D : DD) : DD := ⟨D.lays (fun _ => some 256) D.pend.length, []⟩
def DD.crash (D : DD) (keep : List Bool) (tear at_ : Int) : DD := ⟨D.lays (amount keep tear at_) D.pend.length, []⟩

/-- A disk's sectors are laid anew, and its writes are none: the end of Sync and Crash. -/
theorem DiskAt.laid {w w1 : World} {b bs cx : Nat} {X : List Value} {D : DD} {pv : Value} (h : DiskAt w b D bs cx X pv) (S : List (List UInt8)) (hl : S.length = D.secs.length) (hS : ∀ s ∈ S, s.length = 256)
    (hs : w1.heap[bs]? = some (.cells (secsV S ++ X).toArray 113 (0, 0))) (hk : Kept [bs] w w1) :
    DiskAt (w1.setCell ⟨b, 1, none⟩ (.slice none 0 0)) b ⟨S, []⟩ bs cx X (.slice none 0 0) ∧ Kept [b, bs] w (w1.setCell ⟨b, 1, none⟩ (.slice none 0 0)) := by
  have hb1 := (hk.block b (lt_of_block h.hb) (by simp; exact h.n1)).trans h.hb
  refine ⟨⟨⟨by simp only; rw [hl]; exact h.ok.pos, by simp only; rw [hl]; exact h.ok.max, hS, by simp, by simp⟩, ?_, ?_, World.ownsRow_nil _ _ _ _, h.n1, by simp [Value.ownBlock]⟩, ?_⟩
  · rw [heap_setCell_same w1 b 1 _ _ _ hb1]; simp only [hl]; rfl
  · rw [heap_setCell_other _ _ _ _ (by simp; exact fun e => h.n1 e.symm)]; exact hs
  · exact (hk.mono (by simp)).setCell (by simp) _

def LaidPost (w : World) (b bs cx : Nat) (X : List Value) (D' : DD) (v : Value) (e : Ending) (w' : World) : Prop := e = .returned v ∧ DiskAt w' b D' bs cx X (.slice none 0 0) ∧ Kept [b, bs] w w'

set_option maxHeartbeats 1000000 in
set_option maxRecDepth 100000 in
theorem Dk.sync (b bs cx : Nat) (X : List Value) (D : DD) (pv : Value) (w : World) (h : DiskAt w b D bs cx X pv) (hroom : D.pend.length < 2 ^ 32) :
    Calls Tryz.prog 59 #[.pointer (some ⟨b, 0, none⟩)] w (LaidPost w b bs cx X D.sync (.int .i64 D.pend.length)) := by
  have h1 := h.c1
  obtain ⟨p1, c1, hpv⟩ := owns_slice h.hp
  have lb := lt_of_block h.hb
  have H := Lib.hid h
  subst hpv
  clear h
  go_enter Tryz.func59, Tryz.ntmps59
  go_wp2
  go_loopw [16] (fun i wr => ∃ k : Nat, k ≤ D.pend.length ∧ i = .int .i64 k ∧ Hid (wr.heap[bs]? = some (.cells (secsV (D.lays (fun _ => some 256) k) ++ X).toArray 113 (0, 0))) ∧ Kept [bs] w wr) (fun i _ => D.pend.length - (intOf i).toNat)
  case atStart => exact ⟨0, by omega, rfl, H.out.hs, Kept.refl _ _⟩
  case round =>
    obtain ⟨k, hk, rfl, hrow, hkp⟩ := hrel
    by_cases hlt : k < D.pend.length
    · obtain ⟨gp, cap, he, hrange, hgb, hgs, hgl⟩ := H.out.pend (by omega)
      injection he with he1 _ he2
      subst he1 he2
      have hdat := H.out.ok.data _ (List.getElem_mem hlt)
      have hat := H.out.ok.at_ _ (List.getElem_mem hlt)
      have hs := DD.lays_some D (fun _ => some 256) k 256 hlt rfl
      obtain ⟨hS, hSl⟩ := DD.lays_ok H.out.ok (fun _ => some 256) (by simp) k
      have hl66 := Dk.ld_run66 wr gp (k * 257) _ (rangeAt_kept (hrange k hlt) hkp (by simp; exact hgs)) hdat
      generalize hp : D.pend[k] = p at *
      have hlw := lt_of_block hrow.out
      have hls := laySX _ X p.1 256 p.2 hS (by omega) (by omega) hdat
      have hc0 : wr.cell? ⟨b, 0, none⟩ = some (.slice (some ⟨bs, 0, none⟩) D.secs.length cx) := (hkp.cell (p := ⟨b, 0, none⟩) lb (by simp; exact H.out.n1)).trans H.out.c0
      have hlwb : b < wr.heap.size := Nat.lt_of_lt_of_le lb hkp.size
      have hne := H.out.n1
      have Hs := Lib.hid hs
      have Hls := Lib.hid hls
      have HS := Lib.hid hSl
      clear hrange hp hs hls hS hSl
      have k0 : (0 : Int) ≤ (k : Int) := by omega
      have k1 : (k : Int) < (D.pend.length : Int) := by omega
      go_wp2
      have hS0 : (wr.alloc (.cells (.int .i64 p.1 :: bytesV p.2).toArray 115)).drew.rangeAt wr.heap.size 0 (pendV p) := fun j v hv => by
        have := cells_from (heap_alloc_new wr (.cells (pendV p).toArray 115)) 0 (pendV p) (by simp) j v hv
        rwa [Addr.add_mid] at this
      refine wp_region_T 5 (fun w' => w'.rangeAt wr.heap.size 0 (pendV p)) (by kernel_rfl) (by simp) (by kernel_rfl) ?_
      refine wpT_take (i := 0) (v := ?_) rfl (by kernel_rfl) (fun _ _ _ h => h) (by assumption) (.inl ⟨rfl, ?_⟩) ?_
      rotate_left
      · intro w' hS; go_simp; try with_reducible rfl
      simp only [Act.put, List.setIfInBounds_toArray, List.set_cons_zero, List.set_cons_succ]
      refine wpT_take (i := 1) (v := ?_) rfl (by kernel_rfl) (fun _ _ _ h => h) (by assumption) (.inl ⟨rfl, ?_⟩) ?_
      rotate_left
      · intro w' hS; go_simp; try with_reducible rfl
      simp only [Act.put, List.setIfInBounds_toArray, List.set_cons_zero, List.set_cons_succ]
      refine wpT_take (i := 2) (v := ?_) rfl (by kernel_rfl) (fun _ _ _ h => h) (by assumption) (.inl ⟨rfl, ?_⟩) ?_
      rotate_left
      · intro w' hS; go_simp; try with_reducible rfl
      simp only [Act.put, List.setIfInBounds_toArray, List.set_cons_zero, List.set_cons_succ]
      refine wpT_take (i := 3) (v := ?_) rfl (by kernel_rfl) (fun _ _ _ h => h) (by assumption) (.inl ⟨rfl, ?_⟩) ?_
      rotate_left
      · intro w' hS; have h66 := Dk.ld_run66 w' _ 0 p hS hdat; go_simp; try with_reducible rfl
      simp only [Act.put, List.setIfInBounds_toArray, List.set_cons_zero, List.set_cons_succ]
      refine wpT_one (i := 4) rfl rfl (by kernel_rfl) (fun K hK => ?_)
      go_simp
      refine (Dk.put b 0 bs D.secs.length cx p.1 256 (secsV (D.lays (fun _ => some 256) k) ++ X) (bytesV p.2) _ ?_ ?_ ?_ hne hat (by omega) (by simpa using hdat) one_bytesV).mono ?_
      · exact (World.cell?_alloc_lt _ _ _ hlwb).trans hc0
      · exact (Below.heap_alloc _ _ _ hlw).trans hrow.out
      · have := flat_length bytesV 256 (D.lays (fun _ => some 256) k) (fun x hx => by simpa using (DD.lays_ok H.out.ok (fun _ => some 256) (by simp) k).1 x hx)
        rw [List.length_append]; unfold secsV; rw [this, HS.out]; omega
      rintro e w2 ⟨rfl, hg2, hk2⟩
      refine hK _ _ _ (fun _ h => h) (rangeAt_kept hS0 hk2 (by simp; omega)) ?_
      clear hK K
      refine wpT_done (by kernel_rfl) ?_
      simp only [Act.put, List.setIfInBounds_toArray, List.set_cons_zero, List.set_cons_succ, List.drop_succ_cons, List.drop_zero, List.drop_nil]
      have HG := Lib.hid hg2
      clear hS0 hg2 hl66
      go_wp2
      go_roundw
      case rel =>
        refine ⟨k + 1, by omega, by go_num, ?_, ((hkp.alloc _).drew).trans hk2 (by simp)⟩
        rw [Hs.out, ← Hls.out]; exact HG.out
      case measure => simp [intOf]; omega
    · have : k = D.pend.length := by omega
      subst this
      have hc1 : wr.cell? ⟨b, 1, none⟩ = some (.slice p1 D.pend.length c1) := (hkp.cell (p := ⟨b, 1, none⟩) lb (by simp; exact H.out.n1)).trans h1
      have hf1 : wr.frozen? ⟨b, 1, none⟩ = false := (hkp.frozen (p := ⟨b, 1, none⟩) lb (by simp; exact H.out.n1)).trans H.out.f1
      go_wp2
      go_ret
      obtain ⟨hS, hSl⟩ := DD.lays_ok H.out.ok (fun _ => some 256) (by simp) D.pend.length
      obtain ⟨r1, r2⟩ := H.out.laid _ hSl hS hrow.out hkp
      exact ⟨rfl, r1, r2⟩
end Go.Proofs.YtegohgaccmkigaaGreatDoor

/- Contracts of the package disk, sixth part: Crash. -/
namespace Go.Proofs.YtegohgaccmkigaaGreatDoor
open Go.RowKit

attribute [local go_sem ↓] Dk.ld64 Dk.ld66 Dk.st64 Dk.st66 Dk.al64 Dk.al66
attribute [local go_sem] Dk.al_run64 Dk.al_run66 Dk.ld_data Dk.st_new64 Dk.st_new66

theorem amount_le (keep : List Bool) (tear at_ : Int) : ∀ i k, amount keep tear at_ i = some k → k ≤ 256 := by
  intro i k h
  unfold amount at h
  split at h
  · injection h with h; have := clampN_le at_; omega
  · split at h
    · injection h with h; omega
    · cases h
def boolsV (l : List Bool) : List Value := l.map .bool
end Go.Proofs.YtegohgaccmkigaaGreatDoor

/- Contracts of the package disk, seventh part: Fork; a sector of one byte. -/
namespace Go.Proofs.YtegohgaccmkigaaGreatDoor
open Go.RowKit

theorem Dk.elemS : ElemOk Tryz.prog 106 113 256 256 := .mk' zsec Tryz.underlying106 Dk.info64 (by kernel_rfl) (by omega)

end Go.Proofs.YtegohgaccmkigaaGreatDoor

/- A sector of one byte: the statements' own maker of test data. -/
namespace Go.Proofs.YtegohgaccmkigaaGreatDoor
open Go.RowKit

end Go.Proofs.YtegohgaccmkigaaGreatDoor

/- The disk's contracts in the form in which the statements call them; the statements' guard 'awake' is true. -/
namespace Go.Proofs.YtegohgaccmkigaaGreatDoor
open Go.RowKit

def ReadP (d : List UInt8) (w : World) (e : Ending) (w' : World) : Prop :=
  ∃ g cap, e = .returned (.tuple #[.slice (some ⟨g, 0, none⟩) 256 cap, .int .i64 0]) ∧ w'.ownsRow 0 5 1 (.slice (some ⟨g, 0, none⟩) 256 cap) 256 (bytesV d) ∧ d.length = 256 ∧ w.heap.size ≤ g ∧ Kept [] w w'
theorem Dk.readI (b bs n cx : Nat) (i : Int) (X : List Value) (D : DD) (pv : Value) (w : World) (hi : i = n) (h : DiskAt w b D bs cx X pv) (hn : n < D.secs.length) (hroom : D.pend.length < 2 ^ 32) :
    Calls Tryz.prog 16 #[.pointer (some ⟨b, 0, none⟩), .int .i64 i] w (ReadP (D.read n) w) := by
  subst hi
  have hl : (D.read n).length = 256 := h.ok.readK n hn _ (Nat.le_refl _)
  refine (Dk.read b bs n cx X D pv w h hn hroom).mono ?_
  rintro e w' ⟨g, cap, rfl, h1, h2, h3⟩
  rw [hl] at h1 ⊢
  exact ⟨g, cap, rfl, h1, hl, h2, h3⟩

theorem Dk.pendingI (b bs cx : Nat) (X : List Value) (D : DD) (pv : Value) (w : World) (h : DiskAt w b D bs cx X pv) :
    Calls Tryz.prog 37 #[.pointer (some ⟨b, 0, none⟩)] w fun e w' => e = .returned (.int .i64 D.pend.length) ∧ w = w' := by
  obtain ⟨p, c, hp⟩ := owns_slice h.hp
  have h1 := h.c1
  rw [hp] at h1
  exact Dk.pending b p _ c w h1

end Go.Proofs.YtegohgaccmkigaaGreatDoor

/- The disk's contracts (New, Write, Read, Pending, Sectors, Sync, Crash, Fork, full, awake) as contracts over assertions. Conditions: sizes. -/
namespace Go.Proofs.YtegohgaccmkigaaGreatDoor
open Go.RowKit

def dskB (b : Nat) (D : DD) (bs cx : Nat) (X : List Value) (pv : Value) : Assn := fun h =>
  D.Ok ∧ h b = some (.cells #[.slice (some ⟨bs, 0, none⟩) D.secs.length cx, pv] 111 (0, 0)) ∧ h bs = some (.cells (secsV D.secs ++ X).toArray 113 (0, 0)) ∧
    row pv 115 257 D.pend.length (pendsV D.pend) h ∧ b ≠ bs ∧ ∀ g, pv.ownBlock = some g → g ≠ b ∧ g ≠ bs
/-- The disk D at block b. -/
def dskA (b : Nat) (D : DD) : Assn := fun h => ∃ bs cx X pv, dskB b D bs cx X pv h

section
variable {B : Base} {w w' : World} {l : List Assn}
theorem row_dom {pv : Value} {e sz n : Nat} {xs : List Value} {h : Piece} (H : row pv e sz n xs h) : ∀ g ∈ pv.ownBlock.toList, ∃ o, h g = some o := by
  intro g hg
  rcases H.2 with ⟨rfl, _⟩ | ⟨g', cap, cur, rfl, h2, _⟩
  · simp [Value.ownBlock] at hg
  · simp [Value.ownBlock] at hg; subst hg; exact ⟨_, h2⟩
theorem dskB_dom {b bs cx : Nat} {D : DD} {X : List Value} {pv : Value} {h : Piece} (H : dskB b D bs cx X pv h) : ∀ g ∈ dfp b bs pv, ∃ o, h g = some o := by
  obtain ⟨_, h1, h2, h3, _⟩ := H
  intro g hg
  simp only [dfp, List.mem_cons] at hg
  rcases hg with rfl | rfl | hg
  · exact ⟨_, h1⟩
  · exact ⟨_, h2⟩
  · exact row_dom h3 g hg
theorem Own.disk {b : Nat} {D : DD} (H : Own B w (dskA b D :: l)) : ∃ bs cx X pv, Own B w (dskB b D bs cx X pv :: l) ∧ DiskAt w b D bs cx X pv := by
  obtain ⟨h, hd, hl, h1, h2, d, a1, a2, ⟨bs, cx, X, pv, hA⟩, H2⟩ := H.has
  have H' : Own B w (dskB b D bs cx X pv :: l) := ⟨H.os, H.tape, H.output, H.ro, h, hd, hl, h1, h2, d, a1, a2, hA, H2⟩
  obtain ⟨k1, k2, k3, k4, k5, k6⟩ := hA
  have le : ∀ g o, h1 g = some o → w.heap[g]? = some o := fun g o e => hl.p _ _ (a1.p _ _ e)
  refine ⟨bs, cx, X, pv, H', k1, le _ _ k2, le _ _ k3, ?_, k5, k6⟩
  exact ⟨k4.1, k4.2.imp id fun ⟨g, cap, cur, e1, e2, e3⟩ => ⟨g, cap, cur, e1, Nat.zero_le _, le _ _ e2, e3⟩⟩
theorem DiskAt.to {b bs cx : Nat} {D : DD} {X : List Value} {pv : Value} {h : Piece} (H : DiskAt w b D bs cx X pv) (hh : ∀ g ∈ dfp b bs pv, h g = w.heap[g]?) : dskB b D bs cx X pv h := by
  refine ⟨H.ok, by rw [hh _ (by simp [dfp])]; exact H.hb, by rw [hh _ (by simp [dfp])]; exact H.hs, ⟨H.hp.1, H.hp.2.imp id ?_⟩, H.n1, H.n2⟩
  rintro ⟨g, cap, cur, rfl, _, e2, e3⟩
  exact ⟨g, cap, cur, rfl, by rw [hh _ (by simp [dfp, Value.ownBlock])]; exact e2, e3⟩
theorem Own.disk_kept {b bs cx : Nat} {D D' : DD} {X : List Value} {pv : Value} (H : Own B w (dskB b D bs cx X pv :: l)) (hk : Kept (dfp b bs pv) w w') {bs' cx' : Nat} {X' : List Value} {pv' : Value} (hD : DiskAt w' b D' bs' cx' X' pv') (hn : ∀ x ∈ dfp b bs' pv', x ∈ dfp b bs pv ∨ w.heap.size ≤ x) : Own B w' (dskA b D' :: l) :=
  Own.kept H hk (fun _ => dskB_dom) fun h1 h _ _ e _ => ⟨bs', cx', X', pv', hD.to fun g hg => e g (hn g hg)⟩
theorem Own.disk_new {b bs cx : Nat} {D : DD} {X : List Value} {pv : Value} (H : Own B w l) (hk : Kept [] w w') (hD : DiskAt w' b D bs cx X pv) (hn : ∀ x ∈ dfp b bs pv, w.heap.size ≤ x) : Own B w' (dskA b D :: l) :=
  Own.fresh H hk fun h e => ⟨bs, cx, X, pv, hD.to fun g hg => e g (hn g hg)⟩
theorem Own.apart {A1 A2 : Assn} {x y : Nat} (H : Own B w (A1 :: A2 :: l)) (h1 : ∀ h, A1 h → ∃ o, h x = some o) (h2 : ∀ h, A2 h → ∃ o, h y = some o) : x ≠ y := by
  rintro rfl
  obtain ⟨h, _, _, k1, k2, d, _, _, hA, m1, m2, _, b1, _, hB, _⟩ := H.has
  obtain ⟨o1, e1⟩ := h1 _ hA
  obtain ⟨o2, e2⟩ := h2 _ hB
  rcases d.p x with e | e
  · rw [e1] at e; cases e
  · rw [b1.p _ _ e2] at e; cases e
theorem RoS.reads {v : Value} {cs : List Value} (H : RoS B v cs) (ho : Own B w l) : ∃ fp, Reads w v cs fp ∧ ∀ x ∈ fp, ∃ o, B.ro x = some o := by
  obtain ⟨a, cap, rfl, h | ⟨b, o, C, rfl, hro, hC⟩⟩ := H
  · exact ⟨[], ⟨a, cap, rfl, .inl h⟩, by simp⟩
  · obtain ⟨X, t, fr, hb⟩ := hro.rd
    refine ⟨[b], ⟨_, cap, rfl, .inr ⟨b, o, rfl, fun j u hu => ?_, by simp⟩⟩, by simp [hb]⟩
    rw [cell_of_row w b _ _ _ _ (ho.ro.p _ _ hb)]
    have := hC j u hu
    rw [Nat.mul_one] at this
    have hl := (List.getElem?_eq_some_iff.1 this).1
    simp [List.getElem?_append_left hl, this]
end

theorem Dk.newF (B : Base) (n : Nat) (i : Int) (hi : i = n) (h1 : 1 ≤ n) (h2 : n ≤ 4096) : Fn Tryz.prog B 19 #[.int .i64 i] [] (fun v l => ∃ b, v = .tuple #[.pointer (some ⟨b, 0, none⟩), .int .i64 0] ∧ l = [dskA b ⟨List.replicate n zs, []⟩]) := ⟨fun w F ho => by
  subst hi
  refine (Dk.new n w h1 h2).mono ?_
  rintro e w' ⟨b, fp, rfl, ⟨bs, cx, X, pv, hd, rfl⟩, h3, h4⟩
  exact ⟨_, _, rfl, ⟨b, rfl, rfl⟩, Own.disk_new ho h4 hd h3⟩⟩
theorem Dk.write_core (B : Base) (b : Nat) (D : DD) (bb ob c n : Nat) (i : Int) (hi : i = n) (d : List UInt8) (w : World) (F : List Assn) (ho : Own B w (dskA b D :: F)) (hn : n < D.secs.length) (hr : w.rangeAt bb ob (bytesV d)) (hd : d.length = 256) (hbb : ∀ bs cx X pv, Own B w (dskB b D bs cx X pv :: F) → bb ∉ dfp b bs pv) (hroom : D.pend.length < 2 ^ 32) :
    Calls Tryz.prog 58 #[.pointer (some ⟨b, 0, none⟩), .int .i64 i, .slice (some ⟨bb, ob, none⟩) 256 c] w fun e w' => e = .returned (.int .i64 0) ∧ Own B w' (dskA b (D.write n d) :: F) := by
  subst hi
  obtain ⟨bs, cx, X, pv, h1, h2⟩ := ho.disk
  refine (Dk.write b bs n bb ob c cx X D pv d w h2 hn hr hd (hbb _ _ _ _ h1) hroom).mono ?_
  rintro e w' ⟨pv', rfl, h3, h4, h5⟩
  refine ⟨rfl, h1.disk_kept h5 h3 fun x hx => ?_⟩
  simp only [dfp, List.mem_cons, Option.mem_toList] at hx ⊢
  rcases hx with rfl | rfl | hx
  · simp
  · simp
  · rcases h4 x hx with h | h
    · exact .inl (.inr (.inr h))
    · exact .inr h
/-- Write of 256 bytes that lie in block bb, of which A tells. -/
theorem Dk.writeF (B : Base) (b : Nat) (D : DD) (A : Assn) (bb ob c n : Nat) (i : Int) (hi : i = n) (d : List UInt8) (hA : ∀ h, A h → ∃ C t fr, h bb = some (.cells C t fr) ∧ ∀ j v, (bytesV d)[j]? = some v → C[ob + j]? = some v) (hn : n < D.secs.length) (hd : d.length = 256) (hroom : D.pend.length < 2 ^ 32) :
    Fn Tryz.prog B 58 #[.pointer (some ⟨b, 0, none⟩), .int .i64 i, .slice (some ⟨bb, ob, none⟩) 256 c] [dskA b D, A] (fun u l => u = .int .i64 0 ∧ l = [dskA b (D.write n d), A]) := ⟨fun w F ho => by
  have hr : w.rangeAt bb ob (bytesV d) := by
    obtain ⟨h, _, hl, k1, k2, _, _, a2, _, m1, m2, _, b1, _, hB, _⟩ := ho.has
    obtain ⟨C, t, fr, e1, e2⟩ := hA _ hB
    intro j v hv
    rw [cell_of_row w bb _ _ _ _ (hl.p _ _ (a2.p _ _ (b1.p _ _ e1)))]
    exact e2 j v hv
  refine (Dk.write_core B b D bb ob c n i hi d w (A :: F) ho hn hr hd (fun bs cx X pv H hm => ?_) hroom).mono ?_
  · exact H.apart (x := bb) (y := bb) (fun h k => dskB_dom k _ hm) (fun h k => by obtain ⟨C, t, fr, e1, _⟩ := hA h k; exact ⟨_, e1⟩) rfl
  · rintro e w' ⟨rfl, h⟩
    exact ⟨_, _, rfl, ⟨rfl, rfl⟩, h⟩⟩
theorem Dk.readF (B : Base) (b : Nat) (D : DD) (n : Nat) (i : Int) (hi : i = n) (hn : n < D.secs.length) (hroom : D.pend.length < 2 ^ 32) :
    Fn Tryz.prog B 16 #[.pointer (some ⟨b, 0, none⟩), .int .i64 i] [dskA b D] (fun u l => ∃ g cap, u = .tuple #[.slice (some ⟨g, 0, none⟩) 256 cap, .int .i64 0] ∧ l = [dskA b D, row (.slice (some ⟨g, 0, none⟩) 256 cap) 5 1 256 (bytesV (D.read n))]) := ⟨fun w F ho => by
  obtain ⟨bs, cx, X, pv, h1, h2⟩ := ho.disk
  refine (Dk.readI b bs n cx i X D pv w hi h2 hn hroom).mono ?_
  rintro e w' ⟨g, cap, rfl, h3, h4, h5, h6⟩
  refine ⟨_, _, rfl, ⟨g, cap, rfl, rfl⟩, ?_⟩
  have := (ho.row_new h6 h3 (fun x hx => by simp [Value.ownBlock] at hx; omega))
  exact this.map fun _ k => Has.swap k⟩
theorem Dk.pendingF (B : Base) (b : Nat) (D : DD) : Fn Tryz.prog B 37 #[.pointer (some ⟨b, 0, none⟩)] [dskA b D] (fun u l => u = .int .i64 D.pend.length ∧ l = [dskA b D]) := ⟨fun w F ho => by
  obtain ⟨bs, cx, X, pv, h1, h2⟩ := ho.disk
  refine (Dk.pendingI b bs cx X D pv w h2).mono ?_
  rintro e w' ⟨rfl, rfl⟩
  exact ⟨_, _, rfl, ⟨rfl, rfl⟩, ho⟩⟩
theorem Dk.sectorsF (B : Base) (b : Nat) (D : DD) : Fn Tryz.prog B 44 #[.pointer (some ⟨b, 0, none⟩)] [dskA b D] (fun u l => u = .int .i64 D.secs.length ∧ l = [dskA b D]) := ⟨fun w F ho => by
  obtain ⟨bs, cx, X, pv, h1, h2⟩ := ho.disk
  refine (Dk.sectors b 0 _ _ _ w h2.c0).mono ?_
  rintro e w' ⟨rfl, rfl⟩
  exact ⟨_, _, rfl, ⟨rfl, rfl⟩, ho⟩⟩
theorem Dk.laidF {B : Base} {b bs cx : Nat} {X : List Value} {D D' : DD} {pv v : Value} {w w' : World} {F : List Assn} {e : Ending} (h1 : Own B w (dskB b D bs cx X pv :: F)) (h : LaidPost w b bs cx X D' v e w') : ∃ u l, e = .returned u ∧ (u = v ∧ l = [dskA b D']) ∧ Own B w' (l ++ F) := by
  obtain ⟨rfl, h3, h4⟩ := h
  refine ⟨_, _, rfl, ⟨rfl, rfl⟩, h1.disk_kept (h4.mono (by simp [dfp])) h3 fun x hx => ?_⟩
  simp [dfp, Value.ownBlock] at hx ⊢
  rcases hx with rfl | rfl <;> simp
theorem Dk.syncF (B : Base) (b : Nat) (D : DD) (hroom : D.pend.length < 2 ^ 32) : Fn Tryz.prog B 59 #[.pointer (some ⟨b, 0, none⟩)] [dskA b D] (fun u l => u = .int .i64 D.pend.length ∧ l = [dskA b D.sync]) := ⟨fun w F ho => by
  obtain ⟨bs, cx, X, pv, h1, h2⟩ := ho.disk
  exact (Dk.sync b bs cx X D pv w h2 hroom).mono fun e w' h => Dk.laidF h1 h⟩
end Go.Proofs.YtegohgaccmkigaaGreatDoor

/- The package wal: what a log is in memory; seal, size, End, Durable, Left. Conditions: sizes; that what is handed in can be read. -/
set_option linter.unusedSimpArgs false
set_option linter.unusedVariables false
namespace Go.Proofs.YtegohgaccmkigaaGreatDoor
open Go.RowKit

/-! what lies behind assertions that are not known -/
instance (priority := low) (g : Nat) (S l : List Assn) (C : List Value) [k : CellsAt g l C] : CellsAt g (S ++ l) C := ⟨fun _ H => by
  obtain ⟨_, _, _, _, a, _, e⟩ := Has.split H
  obtain ⟨X, t, fr, hx⟩ := k.find _ e
  exact ⟨X, t, fr, a.p _ _ hx⟩⟩
instance (priority := low) (v : Value) (S l r : List Assn) (e sz n : Nat) (xs : List Value) [k : TakeR v l e sz n xs r] : TakeR v (S ++ l) e sz n xs (S ++ r) := ⟨fun _ H => Has.over (Has.app_imp k.take H)⟩
instance (priority := low) (g : Nat) (S l r : List Assn) (C D : List Value) [k : StoreAt g l C D r] : StoreAt g (S ++ l) C D (S ++ r) := ⟨fun hd h H => by
  obtain ⟨h1, h2, d, a, b, e1, e2⟩ := Has.split H
  obtain ⟨X, t, m, k1, k2⟩ := k.cut hd h2 e2
  exact ⟨X, t, S ++ m, Has.over (Has.join d a b e1 k1), fun h' H' => Has.app_imp k2 (Has.under H')⟩⟩
/-- A log: where it lies, its text, the last record's sum, how much is durable. -/
structure Wl where
  first : Nat
  count : Nat
  st : List UInt8
  sum : UInt32
  dur : Nat
abbrev wlB (g b : Nat) (W : Wl) (p : Option Addr) (c : Nat) : Assn := blk g [.pointer (some ⟨b, 0, none⟩), .int .i64 W.first, .int .i64 W.count, .slice p W.st.length c, .int .u32 W.sum.toNat, .int .i64 W.dur] 120
/-- The log at block g, over the disk at block b. -/
def wlA (g b : Nat) (W : Wl) : Assn := fun h => ∃ p c, Has [wlB g b W p c, rB (.slice p W.st.length c) W.st.length W.st] h

section
variable {P : Program} {B : Base} {n : Nat} {l r F : List Assn} {f : Fr} {Φ : Post} {c : Code} {w : World}
theorem Own.openWl {g b : Nat} {W : Wl} (H : Own B w (wlA g b W :: l)) : ∃ p c, Own B w (wlB g b W p c :: rB (.slice p W.st.length c) W.st.length W.st :: l) := by
  obtain ⟨h, hd, hl, h1, h2, d, a1, a2, ⟨p, c, e⟩, H2⟩ := H.has
  exact ⟨p, c, H.os, H.tape, H.output, H.ro, h, hd, hl, Has.join d a1 a2 e H2⟩
theorem T.openWl (g b : Nat) (W : Wl) [k : TakeA (wlA g b W) l r] (h : ∀ p cc, (0 < W.st.length → ∃ g, p = some ⟨g, 0, none⟩) → W.st.length ≤ cc → T P B n c Φ f (wlB g b W p cc :: rB (.slice p W.st.length cc) W.st.length W.st :: r)) : T P B n c Φ f l := ⟨fun Q w hf ho => by
  obtain ⟨p, cc, e⟩ := (ho.take (k := k)).openWl
  exact (h p cc (e.tl.slice_at (p := p) (m := W.st.length) (c := cc)).2.1 (e.tl.cap_at (p := p) (m := W.st.length) (c := cc))).run Q w hf e⟩
theorem Sub.wl (g b : Nat) (W : Wl) (p : Option Addr) (cc : Nat) {m : List Assn} [k : TakeL [wlB g b W p cc, rB (.slice p W.st.length cc) W.st.length W.st] l r] [t : SubC (wlA g b W :: r) m] : Sub l m := fun h H => by
  obtain ⟨h1, h2, d, a1, a2, k1, k2⟩ := Has.split (k.take h H)
  exact t.sub h ⟨h1, h2, d, a1, a2, ⟨p, cc, k1⟩, k2⟩
end

theorem PartsV.blk3 {B : Base} {L : List Assn} {g : Nat} {v1 v2 v3 : Value} {b1 b2 b3 : List UInt8} (h1 : RdV B L v1 (bytesV b1)) (h2 : RdV B L v2 (bytesV b2)) (h3 : RdV B L v3 (bytesV b3)) [k : Rd B g L [v1, v2, v3]] : PartsV B L (.slice (some ⟨g, 0, none⟩) 3 3) [b1, b2, b3] := by
  refine ⟨[v1, v2, v3], ⟨_, 3, rfl, .inr ⟨g, 0, rfl, fun w ho => ho.range (g := g) (C := [v1, v2, v3]) (fun j u hj => by rw [Nat.zero_add]; exact hj)⟩⟩, rfl, fun i i1 i2 => ?_⟩
  match i, i1 with
  | 0, _ => exact h1
  | 1, _ => exact h2
  | 2, _ => exact h3
theorem wru64_u32 (x : UInt32) : IntKind.u64.wrap (x.toNat : Int) = (x.toUInt64.toNat : Int) := by
  rw [wru64 (by omega) (by have := x.toNat_lt; omega), UInt32.toNat_toUInt64]
/-- The sum of a record, by the one ahead of it. -/
def sealW (last : UInt32) (at_ : Int) (data : List UInt8) : UInt32 := crc (be last.toUInt64 4 ++ be (UInt64.ofInt at_) 8 ++ data)

set_option maxHeartbeats 1000000 in
set_option maxRecDepth 100000 in
theorem Wl.shut (B : Base) (S : List Assn) (last : UInt32) (at_ : Int) (a : Option Addr) (m c : Nat) (data : List UInt8) (hv : RdV B S (.slice a m c) (bytesV data)) (hm : data.length = m) (hl : m < 2 ^ 40) : Fn Tryz.prog B 46 #[.int .u32 last.toNat, .int .i64 at_, .slice a m c] S (fun u l => u = .int .u32 (sealW last at_ data).toNat ∧ l = S) := by
  refine Fn.enter3 16 Tryz.func46 rfl rfl (Nat.le_of_ble_eq_true rfl) (fun F => ?_)
  try simp only [List.cons_append, List.nil_append]
  refine T.seq ?_
  refine T.region ?_
  refine LW.q rfl (Qt.assign rfl) ?_
  refine LW.done ?_
  refine T.seq ?_
  refine T.region ?_
  refine LW.q rfl (Qt.move rfl) ?_
  refine LW.q rfl (Qt.convI (by kernel_rfl) (by kernel_rfl) rfl (wru64_u32 last)) ?_
  refine LW.e rfl (Ef.call (Cd.put B [] (.slice none 0 0) [] 0 rfl last.toUInt64 4 4 rfl (by omega) (RdV.nil [] 0) (by omega)) Tryz.func63 rfl rfl rfl ?_)
  rintro _ _ ⟨p1, c1, rfl, rfl⟩
  try simp only [List.cons_append, List.nil_append]
  simp only [Nat.zero_add, List.nil_append]
  refine LW.q rfl (Qt.move rfl) ?_
  refine LW.q rfl (Qt.convI (by kernel_rfl) (by kernel_rfl) rfl (wru64_i64 _)) ?_
  refine LW.e rfl (Ef.call (Cd.put B [] (.slice none 0 0) [] 0 rfl (UInt64.ofInt at_) 8 8 rfl (by omega) (RdV.nil [] 0) (by omega)) Tryz.func63 rfl rfl rfl ?_)
  rintro _ _ ⟨p2, c2, rfl, rfl⟩
  try simp only [List.cons_append, List.nil_append]
  simp only [Nat.zero_add, List.nil_append]
  refine LW.own (fun w ho => ?_)
  have hp1 := (ho.slice_at (p := p1) (m := 4) (c := c1)).2.1
  have hp2 := (ho.slice_at (p := p2) (m := 8) (c := c2)).2.1
  clear ho
  refine LW.q rfl (Qt.move rfl) ?_
  refine LW.e rfl (Ef.lit [_, _, _] (e := 43) (by kernel_rfl) (by kernel_rfl) rfl (by simp [Value.cells]) rfl (by omega) (by omega) ?_)
  intro g14
  refine LW.e rfl (Ef.callL (Cd.sum B _ _ [be last.toUInt64 4, be (UInt64.ofInt at_) 8, data] (PartsV.blk3 ((RdV.rB (length_be _ _) hp1).mono (fun w ho => ho.map Sub.any)) ((RdV.rB (length_be _ _) hp2).mono (fun w ho => ho.map Sub.any)) (hv.mono (fun w ho => ho.map Sub.any))) (by simp) (by intro b hb; simp at hb; rcases hb with rfl | rfl | rfl <;> simp [length_be]; omega)) Tryz.func65 rfl rfl rfl ?_)
  rintro _ _ ⟨rfl, rfl⟩
  try simp only [List.cons_append, List.nil_append]
  refine LW.q rfl (Qt.assign rfl) ?_
  refine LW.done ?_
  refine T.ret ?_
  exact ⟨.inl rfl, _, _, res [_] rfl ⟨rvT rfl, trivial⟩, ⟨by simp [sealW, outV], rfl⟩, Sub.any⟩

set_option maxRecDepth 100000 in
theorem Wl.size (B : Base) (v : Value) (first : Int) (count : Nat) (h : count ≤ 4096) : Fn Tryz.prog B 62 #[.agg #[v, .int .i64 first, .int .i64 count]] [] (fun u l => u = .int .i64 ((count : Int) * 256) ∧ l = []) := by
  refine Fn.enter1 6 Tryz.func62 rfl rfl (Nat.le_of_ble_eq_true rfl) (fun F => ?_)
  try simp only [List.cons_append, List.nil_append]
  refine T.seq ?_
  refine T.region ?_
  refine LW.e rfl (Ef.box [_, _, _] rfl rfl ?_)
  intro g1
  refine LW.q rfl (Qt.assign rfl) ?_
  refine LW.done ?_
  refine T.seq ?_
  refine T.region ?_
  refine LW.q rfl (Qt.fieldAddr (off := 2) (by kernel_rfl) rfl) ?_
  first | refine LW.q rfl (Qt.load (by kernel_rfl) rfl rfl) ?_ | refine LW.q rfl (Qt.load (by kernel_rfl) rfl (map_at _ _ _ (by omega))) ?_ | refine LW.q rfl (Qt.load (by kernel_rfl) rfl (flat_cell0 _ _ _ (by intros; rfl) _ (by omega) (by rfl))) ?_ | refine LW.q rfl (Qt.load (by kernel_rfl) rfl (flat_cell _ _ _ (by intros; rfl) _ _ (by omega) (by rfl))) ?_ | refine LW.q rfl (Qt.load (by kernel_rfl) rfl (bytes_at _ _ (by omega))) ?_
  refine LW.q rfl (Qt.mul rfl rfl (wr64 (by omega) (by omega))) ?_
  refine LW.q rfl (Qt.assign rfl) ?_
  refine LW.done ?_
  refine T.ret ?_
  exact ⟨.inl rfl, _, _, res [_] rfl ⟨rvT rfl, trivial⟩, ⟨rfl, rfl⟩, Sub.any⟩
set_option maxRecDepth 100000 in
theorem Wl.durable (B : Base) (g b : Nat) (W : Wl) (h : W.dur < 2 ^ 40) : Fn Tryz.prog B 38 #[.pointer (some ⟨g, 0, none⟩)] [wlA g b W] (fun u l => u = .int .i64 W.dur ∧ l = [wlA g b W]) := by
  refine Fn.enter1 7 Tryz.func38 rfl rfl (Nat.le_of_ble_eq_true rfl) (fun F => ?_)
  try simp only [List.cons_append, List.nil_append]
  refine T.openWl g b W (fun p c hp hc => ?_)
  refine T.seq ?_
  refine T.region ?_
  refine LW.q rfl (Qt.assign rfl) ?_
  refine LW.done ?_
  refine T.seq ?_
  refine T.region ?_
  refine LW.q rfl (Qt.move rfl) ?_
  refine LW.q rfl (Qt.nilCheck rfl) ?_
  refine LW.q rfl (Qt.fieldAddr (off := 5) (by kernel_rfl) rfl) ?_
  first | refine LW.q rfl (Qt.load (by kernel_rfl) rfl rfl) ?_ | refine LW.q rfl (Qt.load (by kernel_rfl) rfl (map_at _ _ _ (by omega))) ?_ | refine LW.q rfl (Qt.load (by kernel_rfl) rfl (flat_cell0 _ _ _ (by intros; rfl) _ (by omega) (by rfl))) ?_ | refine LW.q rfl (Qt.load (by kernel_rfl) rfl (flat_cell _ _ _ (by intros; rfl) _ _ (by omega) (by rfl))) ?_ | refine LW.q rfl (Qt.load (by kernel_rfl) rfl (bytes_at _ _ (by omega))) ?_
  refine LW.q rfl (Qt.assign rfl) ?_
  refine LW.done ?_
  refine T.ret ?_
  exact ⟨.inl rfl, _, _, res [_] rfl ⟨rvT rfl, trivial⟩, ⟨rfl, rfl⟩, Sub.wl g b W p c⟩
end Go.Proofs.YtegohgaccmkigaaGreatDoor

/- The package wal: lay. Conditions: sizes. -/
set_option linter.unusedSimpArgs false
set_option linter.unusedVariables false
namespace Go.Proofs.YtegohgaccmkigaaGreatDoor
open Go.RowKit

/-- A sector as it is by the text. -/
def secW (st : List UInt8) (n : Nat) : List UInt8 := (st.drop (n * 256)).take 256 ++ List.replicate (256 - ((st.drop (n * 256)).take 256).length) 0
theorem length_secW (st : List UInt8) (n : Nat) : (secW st n).length = 256 := by simp [secW]; omega
theorem secW_none {st : List UInt8} {n : Nat} (h : st.length ≤ n * 256) : secW st n = List.replicate 256 0 := by
  unfold secW; rw [List.drop_of_length_le h]; rfl
theorem splice_sec (st : List UInt8) (n : Nat) : splice (bytesV (List.replicate 256 0)) 0 ((bytesV (st.drop (n * 256))).take (Nat.min (st.length - n * 256) 256)) = bytesV (secW st n) := by
  have e : (bytesV (st.drop (n * 256))).take (Nat.min (st.length - n * 256) 256) = bytesV ((st.drop (n * 256)).take 256) := by
    rw [show Nat.min (st.length - n * 256) 256 = Min.min (st.drop (n * 256)).length 256 by rw [List.length_drop]]
    unfold bytesV
    rw [← List.map_take, Nat.min_comm, ← List.take_take, List.take_length]
  rw [e]
  unfold splice secW
  rw [Nat.zero_add, List.take_zero, List.nil_append, length_bytesV, bytesV_append]
  congr 1
  unfold bytesV
  rw [← List.map_drop, List.drop_replicate]
theorem row_bytes {p : Option Addr} {g m c : Nat} {b : List UInt8} (h : Piece) (k : rB (.slice (some ⟨g, 0, none⟩) m c) m b h) : ∃ C t fr, h g = some (.cells C t fr) ∧ ∀ j v, (bytesV b)[j]? = some v → C[0 + j]? = some v := by
  obtain ⟨hl, ⟨e, _⟩ | ⟨g', cap, cur, e1, e2, _, _, _, e3⟩⟩ := k
  · cases e
  · injection e1 with e1 _ _
    injection e1 with e1
    injection e1 with e1
    subst e1
    refine ⟨cur, _, _, e2, fun j v hv => ?_⟩
    rw [← e3, List.getElem?_take] at hv
    split at hv
    · rw [Nat.zero_add]; simpa using hv
    · cases hv

set_option maxHeartbeats 2000000 in
set_option maxRecDepth 100000 in
theorem Wl.lay (B : Base) (g b : Nat) (W : Wl) (p : Option Addr) (c : Nat) (hp : 0 < W.st.length → ∃ g, p = some ⟨g, 0, none⟩) (hc : W.st.length ≤ c) (D : DD) (n : Nat) (hn : n < W.count) (hD : W.first + W.count ≤ D.secs.length) (hs : D.secs.length ≤ 4096) (hst : W.st.length < 2 ^ 40) (hroom : D.pend.length < 2 ^ 32) : Fn Tryz.prog B 67 #[.pointer (some ⟨g, 0, none⟩), .int .i64 n] [wlB g b W p c, rB (.slice p W.st.length c) W.st.length W.st, dskA b D] (fun u l => u = .tuple #[] ∧ l = [wlB g b W p c, rB (.slice p W.st.length c) W.st.length W.st, dskA b (D.write (W.first + n) (secW W.st n))]) := by
 refine Fn.enter2 38 Tryz.func67 rfl rfl (Nat.le_of_ble_eq_true rfl) (fun F => ?_)
 try simp only [List.cons_append, List.nil_append]
 refine T.seq ?_
 refine T.region ?_
 refine LW.e rfl (Ef.make 256 (.int .u8 0) 1 Cd.elemB (by kernel_rfl) rfl rfl rfl rfl (by omega) (by unfold maxLen; omega) ?_)
 rintro g6
 try simp only [List.cons_append, List.nil_append]
 rw [made_bytes]
 refine LW.q rfl (Qt.assign rfl) ?_
 refine LW.done ?_
 refine T.seq ?_
 refine T.seq ?_
 refine T.region ?_
 refine LW.q rfl (Qt.move rfl) ?_
 refine LW.q rfl (Qt.mul rfl rfl (wr64 (by omega) (by omega))) ?_
 refine LW.q rfl (Qt.assign rfl) ?_
 refine LW.done ?_
 refine T.seq ?_
 refine T.region ?_
 refine LW.q rfl (Qt.move rfl) ?_
 refine LW.q rfl (Qt.move rfl) ?_
 refine LW.q rfl (Qt.nilCheck rfl) ?_
 refine LW.q rfl (Qt.fieldAddr (off := 3) (by kernel_rfl) rfl) ?_
 first | refine LW.q rfl (Qt.load (by kernel_rfl) rfl rfl) ?_ | refine LW.q rfl (Qt.load (by kernel_rfl) rfl (map_at _ _ _ (by omega))) ?_ | refine LW.q rfl (Qt.load (by kernel_rfl) rfl (flat_cell0 _ _ _ (by intros; rfl) _ (by omega) (by rfl))) ?_ | refine LW.q rfl (Qt.load (by kernel_rfl) rfl (flat_cell _ _ _ (by intros; rfl) _ _ (by omega) (by rfl))) ?_ | refine LW.q rfl (Qt.load (by kernel_rfl) rfl (bytes_at _ _ (by omega))) ?_
 refine LW.q rfl (Qt.len (e := 5) (sz := 1) (by kernel_rfl) rfl) ?_
 refine LW.q rfl (Qt.lss rfl rfl) ?_
 refine LW.done ?_
 refine T.condP rfl (fun hlt => ?_) (fun hlt => ?_)
 ·
  obtain ⟨gs, rfl⟩ := hp (by omega)
  have hsrc : RdV B [rB (.slice (some ⟨gs, 0, none⟩) W.st.length c) W.st.length W.st] (.slice (some ⟨gs, 0 + n * 256, none⟩) (W.st.length - n * 256) (c - n * 256)) (bytesV (W.st.drop (n * 256))) := by have := (RdV.rB (B := B) (p := some ⟨gs, 0, none⟩) (c := c) (b := W.st) rfl (fun _ => ⟨_, rfl⟩)).sub (n * 256) W.st.length (c - n * 256) (by omega) (by simp) (some ⟨gs, 0 + n * 256, none⟩) (fun _ b' o' e => by cases e; rfl); rwa [List.take_of_length_le (by simp), show (bytesV W.st).drop (n * 256) = bytesV (W.st.drop (n * 256)) by simp [bytesV]] at this
  refine T.region ?_
  refine LW.q rfl (Qt.move rfl) ?_
  refine LW.q rfl (Qt.move rfl) ?_
  refine LW.q rfl (Qt.nilCheck rfl) ?_
  refine LW.q rfl (Qt.fieldAddr (off := 3) (by kernel_rfl) rfl) ?_
  first | refine LW.q rfl (Qt.load (by kernel_rfl) rfl rfl) ?_ | refine LW.q rfl (Qt.load (by kernel_rfl) rfl (map_at _ _ _ (by omega))) ?_ | refine LW.q rfl (Qt.load (by kernel_rfl) rfl (flat_cell0 _ _ _ (by intros; rfl) _ (by omega) (by rfl))) ?_ | refine LW.q rfl (Qt.load (by kernel_rfl) rfl (flat_cell _ _ _ (by intros; rfl) _ _ (by omega) (by rfl))) ?_ | refine LW.q rfl (Qt.load (by kernel_rfl) rfl (bytes_at _ _ (by omega))) ?_
  refine LW.q rfl (Qt.move rfl) ?_
  refine LW.q rfl (Qt.slice_sn1 (n * 256) (some ⟨gs, 0 + n * 256, none⟩) (W.st.length - n * 256) (c - n * 256) (e := 5) (sz := 1) (by kernel_rfl) rfl rfl (by omega) (by omega) (by rw [offA_some (by omega), Nat.mul_one]) rfl rfl) ?_
  refine LW.e rfl (Ef.copy (e := 5) (C := bytesV (List.replicate 256 0)) (cs := (bytesV (W.st.drop (n * 256))).take (Nat.min (W.st.length - n * 256) 256)) (src := bytesV (W.st.drop (n * 256))) (by kernel_rfl) rfl rfl (hsrc.mono (fun w ho => ho.map Sub.any)) (Nat.min (W.st.length - n * 256) 256) rfl (by show 0 < Min.min _ _; omega) rfl (by simp) one_bytesV (by rw [length_bytesV, List.length_replicate]; show 0 + Min.min _ _ ≤ _; omega) ?_)
  try simp only [List.cons_append, List.nil_append]
  rw [splice_sec]
  refine LW.done ?_
  refine T.drawBl 14 none (by kernel_rfl) (Nat.le_of_ble_eq_true rfl) (by kernel_rfl) ?_
  refine RW.q 0 rfl rfl (by kernel_rfl) Sub.any (Qt.move rfl) ?_
  refine RW.q 1 rfl rfl (by kernel_rfl) Sub.any (Qt.nilCheck rfl) ?_
  refine RW.q 2 rfl rfl (by kernel_rfl) Sub.any (Qt.fieldAddr0 (by kernel_rfl) rfl) ?_
  refine RW.q 3 rfl rfl (by kernel_rfl) Sub.any (Qt.fieldAddr0 (by kernel_rfl) rfl) ?_
  first | refine RW.q 4 rfl rfl (by kernel_rfl) Sub.any (Qt.load (by kernel_rfl) rfl rfl) ?_ | refine RW.q 4 rfl rfl (by kernel_rfl) Sub.any (Qt.load (by kernel_rfl) rfl (map_at _ _ _ (by omega))) ?_ | refine RW.q 4 rfl rfl (by kernel_rfl) Sub.any (Qt.load (by kernel_rfl) rfl (flat_cell0 _ _ _ (by intros; rfl) _ (by omega) (by rfl))) ?_ | refine RW.q 4 rfl rfl (by kernel_rfl) Sub.any (Qt.load (by kernel_rfl) rfl (flat_cell _ _ _ (by intros; rfl) _ _ (by omega) (by rfl))) ?_ | refine RW.q 4 rfl rfl (by kernel_rfl) Sub.any (Qt.load (by kernel_rfl) rfl (bytes_at _ _ (by omega))) ?_
  refine RW.q 5 rfl rfl (by kernel_rfl) Sub.any (Qt.move rfl) ?_
  refine RW.q 6 rfl rfl (by kernel_rfl) Sub.any (Qt.nilCheck rfl) ?_
  refine RW.q 7 rfl rfl (by kernel_rfl) Sub.any (Qt.fieldAddr0 (by kernel_rfl) rfl) ?_
  refine RW.q 8 rfl rfl (by kernel_rfl) Sub.any (Qt.fieldAddr (off := 1) (by kernel_rfl) rfl) ?_
  first | refine RW.q 9 rfl rfl (by kernel_rfl) Sub.any (Qt.load (by kernel_rfl) rfl rfl) ?_ | refine RW.q 9 rfl rfl (by kernel_rfl) Sub.any (Qt.load (by kernel_rfl) rfl (map_at _ _ _ (by omega))) ?_ | refine RW.q 9 rfl rfl (by kernel_rfl) Sub.any (Qt.load (by kernel_rfl) rfl (flat_cell0 _ _ _ (by intros; rfl) _ (by omega) (by rfl))) ?_ | refine RW.q 9 rfl rfl (by kernel_rfl) Sub.any (Qt.load (by kernel_rfl) rfl (flat_cell _ _ _ (by intros; rfl) _ _ (by omega) (by rfl))) ?_ | refine RW.q 9 rfl rfl (by kernel_rfl) Sub.any (Qt.load (by kernel_rfl) rfl (bytes_at _ _ (by omega))) ?_
  refine RW.q 10 rfl rfl (by kernel_rfl) Sub.any (Qt.move rfl) ?_
  refine RW.q 11 rfl rfl (by kernel_rfl) Sub.any (Qt.add rfl rfl (wr64 (by omega) (by omega))) ?_
  refine RW.q 12 rfl rfl (by kernel_rfl) Sub.any (Qt.move rfl) ?_
  refine RW.one 13 (by kernel_rfl) ?_
  refine RO.eS rfl rfl (Ef.call (Dk.writeF B b D (rB (.slice (some ⟨g6, 0, none⟩) 256 256) 256 (secW W.st n)) g6 0 256 (W.first + n) _ (by omega) (secW W.st n) (row_bytes (p := none)) (by omega) (length_secW _ _) hroom) Tryz.func58 rfl rfl rfl ?_)
  rintro _ _ ⟨rfl, rfl⟩
  try simp only [List.cons_append, List.nil_append]
  refine ⟨Sub.any, ?_⟩
  refine RW.done (by rfl) ?_
  simp only [List.drop_succ_cons, List.drop_zero, List.drop_nil]
  refine LW.done ?_
  exact ⟨.inr rfl, _, _, res [] rfl trivial, ⟨rfl, rfl⟩, Sub.any⟩
 ·
  rw [← secW_none (st := W.st) (n := n) (by omega)]
  refine T.skip ?_
  refine T.drawBl 14 none (by kernel_rfl) (Nat.le_of_ble_eq_true rfl) (by kernel_rfl) ?_
  refine RW.q 0 rfl rfl (by kernel_rfl) Sub.any (Qt.move rfl) ?_
  refine RW.q 1 rfl rfl (by kernel_rfl) Sub.any (Qt.nilCheck rfl) ?_
  refine RW.q 2 rfl rfl (by kernel_rfl) Sub.any (Qt.fieldAddr0 (by kernel_rfl) rfl) ?_
  refine RW.q 3 rfl rfl (by kernel_rfl) Sub.any (Qt.fieldAddr0 (by kernel_rfl) rfl) ?_
  first | refine RW.q 4 rfl rfl (by kernel_rfl) Sub.any (Qt.load (by kernel_rfl) rfl rfl) ?_ | refine RW.q 4 rfl rfl (by kernel_rfl) Sub.any (Qt.load (by kernel_rfl) rfl (map_at _ _ _ (by omega))) ?_ | refine RW.q 4 rfl rfl (by kernel_rfl) Sub.any (Qt.load (by kernel_rfl) rfl (flat_cell0 _ _ _ (by intros; rfl) _ (by omega) (by rfl))) ?_ | refine RW.q 4 rfl rfl (by kernel_rfl) Sub.any (Qt.load (by kernel_rfl) rfl (flat_cell _ _ _ (by intros; rfl) _ _ (by omega) (by rfl))) ?_ | refine RW.q 4 rfl rfl (by kernel_rfl) Sub.any (Qt.load (by kernel_rfl) rfl (bytes_at _ _ (by omega))) ?_
  refine RW.q 5 rfl rfl (by kernel_rfl) Sub.any (Qt.move rfl) ?_
  refine RW.q 6 rfl rfl (by kernel_rfl) Sub.any (Qt.nilCheck rfl) ?_
  refine RW.q 7 rfl rfl (by kernel_rfl) Sub.any (Qt.fieldAddr0 (by kernel_rfl) rfl) ?_
  refine RW.q 8 rfl rfl (by kernel_rfl) Sub.any (Qt.fieldAddr (off := 1) (by kernel_rfl) rfl) ?_
  first | refine RW.q 9 rfl rfl (by kernel_rfl) Sub.any (Qt.load (by kernel_rfl) rfl rfl) ?_ | refine RW.q 9 rfl rfl (by kernel_rfl) Sub.any (Qt.load (by kernel_rfl) rfl (map_at _ _ _ (by omega))) ?_ | refine RW.q 9 rfl rfl (by kernel_rfl) Sub.any (Qt.load (by kernel_rfl) rfl (flat_cell0 _ _ _ (by intros; rfl) _ (by omega) (by rfl))) ?_ | refine RW.q 9 rfl rfl (by kernel_rfl) Sub.any (Qt.load (by kernel_rfl) rfl (flat_cell _ _ _ (by intros; rfl) _ _ (by omega) (by rfl))) ?_ | refine RW.q 9 rfl rfl (by kernel_rfl) Sub.any (Qt.load (by kernel_rfl) rfl (bytes_at _ _ (by omega))) ?_
  refine RW.q 10 rfl rfl (by kernel_rfl) Sub.any (Qt.move rfl) ?_
  refine RW.q 11 rfl rfl (by kernel_rfl) Sub.any (Qt.add rfl rfl (wr64 (by omega) (by omega))) ?_
  refine RW.q 12 rfl rfl (by kernel_rfl) Sub.any (Qt.move rfl) ?_
  refine RW.one 13 (by kernel_rfl) ?_
  refine RO.eS rfl rfl (Ef.call (Dk.writeF B b D (rB (.slice (some ⟨g6, 0, none⟩) 256 256) 256 (secW W.st n)) g6 0 256 (W.first + n) _ (by omega) (secW W.st n) (row_bytes (p := none)) (by omega) (length_secW _ _) hroom) Tryz.func58 rfl rfl rfl ?_)
  rintro _ _ ⟨rfl, rfl⟩
  try simp only [List.cons_append, List.nil_append]
  refine ⟨Sub.any, ?_⟩
  refine RW.done (by rfl) ?_
  simp only [List.drop_succ_cons, List.drop_zero, List.drop_nil]
  refine LW.done ?_
  exact ⟨.inr rfl, _, _, res [] rfl trivial, ⟨rfl, rfl⟩, Sub.any⟩
/-- A disk behind the writes of k sectors by the text, from n on. -/
def laysW (W : Wl) : DD → Nat → Nat → DD
  | D, _, 0 => D
  | D, n, k + 1 => laysW W (D.write (W.first + n) (secW W.st n)) (n + 1) k
/-- How many sectors a flush writes. -/
def flushN (W : Wl) : Nat := (W.st.length + 255) / 256 - W.dur / 256
abbrev flushD (W : Wl) (D : DD) : DD := (laysW W D (W.dur / 256) (flushN W)).sync
abbrev Wl.flushed (W : Wl) : Wl := { W with dur := W.st.length }
theorem quo256i (m : Nat) (h : m < 2 ^ 62) : IntKind.i64.wrap ((m : Int).tdiv 256) = ((m / 256 : Nat) : Int) := by
  have : (m : Int).tdiv 256 = ((m / 256 : Nat) : Int) := rfl
  rw [this]; exact wr64 (by omega) (by omega)

set_option maxRecDepth 100000 in
theorem Wl.durableB (B : Base) (g b : Nat) (W : Wl) (p : Option Addr) (c : Nat) (h : W.dur < 2 ^ 40) : Fn Tryz.prog B 38 #[.pointer (some ⟨g, 0, none⟩)] [wlB g b W p c] (fun u l => u = .int .i64 W.dur ∧ l = [wlB g b W p c]) := by
  refine Fn.enter1 7 Tryz.func38 rfl rfl (Nat.le_of_ble_eq_true rfl) (fun F => ?_)
  try simp only [List.cons_append, List.nil_append]
  refine T.seq ?_
  refine T.region ?_
  refine LW.q rfl (Qt.assign rfl) ?_
  refine LW.done ?_
  refine T.seq ?_
  refine T.region ?_
  refine LW.q rfl (Qt.move rfl) ?_
  refine LW.q rfl (Qt.nilCheck rfl) ?_
  refine LW.q rfl (Qt.fieldAddr (off := 5) (by kernel_rfl) rfl) ?_
  first | refine LW.q rfl (Qt.load (by kernel_rfl) rfl rfl) ?_ | refine LW.q rfl (Qt.load (by kernel_rfl) rfl (map_at _ _ _ (by omega))) ?_ | refine LW.q rfl (Qt.load (by kernel_rfl) rfl (flat_cell0 _ _ _ (by intros; rfl) _ (by omega) (by rfl))) ?_ | refine LW.q rfl (Qt.load (by kernel_rfl) rfl (flat_cell _ _ _ (by intros; rfl) _ _ (by omega) (by rfl))) ?_ | refine LW.q rfl (Qt.load (by kernel_rfl) rfl (bytes_at _ _ (by omega))) ?_
  refine LW.q rfl (Qt.assign rfl) ?_
  refine LW.done ?_
  refine T.ret ?_
  exact ⟨.inl rfl, _, _, res [_] rfl ⟨rvT rfl, trivial⟩, ⟨rfl, rfl⟩, Sub.any⟩
set_option maxRecDepth 100000 in
theorem Wl.endB (B : Base) (g b : Nat) (W : Wl) (p : Option Addr) (c : Nat) (h : W.st.length < 2 ^ 40) : Fn Tryz.prog B 64 #[.pointer (some ⟨g, 0, none⟩)] [wlB g b W p c] (fun u l => u = .int .i64 W.st.length ∧ l = [wlB g b W p c]) := by
  refine Fn.enter1 8 Tryz.func64 rfl rfl (Nat.le_of_ble_eq_true rfl) (fun F => ?_)
  try simp only [List.cons_append, List.nil_append]
  refine T.seq ?_
  refine T.region ?_
  refine LW.q rfl (Qt.assign rfl) ?_
  refine LW.done ?_
  refine T.seq ?_
  refine T.region ?_
  refine LW.q rfl (Qt.move rfl) ?_
  refine LW.q rfl (Qt.nilCheck rfl) ?_
  refine LW.q rfl (Qt.fieldAddr (off := 3) (by kernel_rfl) rfl) ?_
  first | refine LW.q rfl (Qt.load (by kernel_rfl) rfl rfl) ?_ | refine LW.q rfl (Qt.load (by kernel_rfl) rfl (map_at _ _ _ (by omega))) ?_ | refine LW.q rfl (Qt.load (by kernel_rfl) rfl (flat_cell0 _ _ _ (by intros; rfl) _ (by omega) (by rfl))) ?_ | refine LW.q rfl (Qt.load (by kernel_rfl) rfl (flat_cell _ _ _ (by intros; rfl) _ _ (by omega) (by rfl))) ?_ | refine LW.q rfl (Qt.load (by kernel_rfl) rfl (bytes_at _ _ (by omega))) ?_
  refine LW.q rfl (Qt.len (e := 5) (sz := 1) (by kernel_rfl) rfl) ?_
  refine LW.q rfl (Qt.assign rfl) ?_
  refine LW.done ?_
  refine T.ret ?_
  exact ⟨.inl rfl, _, _, res [_] rfl ⟨rvT rfl, trivial⟩, ⟨rfl, rfl⟩, Sub.any⟩
set_option maxHeartbeats 2000000 in
set_option maxRecDepth 100000 in
theorem Wl.force_no (B : Base) (g b : Nat) (W : Wl) (p : Option Addr) (c : Nat) (mark : Int) (hd : W.dur < 2 ^ 40) (h : mark ≤ W.dur ∨ W.dur = W.st.length) : Fn Tryz.prog B 121 #[.pointer (some ⟨g, 0, none⟩), .int .i64 mark] [wlB g b W p c] (fun u l => u = .tuple #[] ∧ l = [wlB g b W p c]) := by
 refine Fn.enter2 53 Tryz.func121 rfl rfl (Nat.le_of_ble_eq_true rfl) (fun F => ?_)
 try simp only [List.cons_append, List.nil_append]
 refine T.seq ?_
 refine T.seq ?_
 refine T.drawAll 16 (by kernel_rfl) (Nat.le_of_ble_eq_true rfl) (by kernel_rfl) ?_
 refine RW.q 0 rfl rfl (by kernel_rfl) (Sub.refl _) (Qt.move rfl) ?_
 refine RW.q 1 rfl rfl (by kernel_rfl) (Sub.refl _) (Qt.move rfl) ?_
 refine RW.one 2 (by kernel_rfl) ?_
 refine RO.e rfl rfl (Ef.call (Wl.durableB B g b W p c hd) Tryz.func38 rfl rfl rfl ?_)
 rintro _ _ ⟨rfl, rfl⟩
 try simp only [List.cons_append, List.nil_append]
 refine ⟨Sub.any, ?_⟩
 refine RW.q 3 rfl rfl (by kernel_rfl) (Sub.refl _) (Qt.leq rfl rfl) ?_
 refine RW.q 4 rfl rfl (by kernel_rfl) (Sub.refl _) (Qt.move rfl) ?_
 refine RW.split (t := 9) rfl (fun h1 => ?_) (fun h1 => ?_)
 ·
  try replace h1 := of_decide_eq_true h1
  refine RW.s 5 rfl rfl (by kernel_rfl) (Sub.refl _) ?_
  refine RW.s 6 rfl rfl (by kernel_rfl) (Sub.refl _) ?_
  refine RW.s 7 rfl rfl (by kernel_rfl) (Sub.refl _) ?_
  refine RW.s 8 rfl rfl (by kernel_rfl) (Sub.refl _) ?_
  refine RW.s 9 rfl rfl (by kernel_rfl) (Sub.refl _) ?_
  refine RW.s 10 rfl rfl (by kernel_rfl) (Sub.refl _) ?_
  refine RW.s 11 rfl rfl (by kernel_rfl) (Sub.refl _) ?_
  refine RW.s 12 rfl rfl (by kernel_rfl) (Sub.refl _) ?_
  refine RW.s 13 rfl rfl (by kernel_rfl) (Sub.refl _) ?_
  refine RW.s 14 rfl rfl (by kernel_rfl) (Sub.refl _) ?_
  refine RW.q 15 rfl rfl (by kernel_rfl) (Sub.refl _) (Qt.pick rfl rfl) ?_
  refine RW.done (by rfl) ?_
  simp only [List.drop_succ_cons, List.drop_zero, List.drop_nil]
  refine LW.done ?_
  first | refine T.condT rfl ?_ | refine T.condPT rfl (by omega) ?_ | refine T.condBT rfl (by omega) ?_
  refine T.ret ?_
  exact ⟨.inl rfl, _, _, res [] rfl trivial, ⟨rfl, rfl⟩, Sub.any⟩
 ·
  try replace h1 := of_decide_eq_false h1
  refine RW.q 5 rfl rfl (by kernel_rfl) (Sub.refl _) (Qt.move rfl) ?_
  refine RW.q 6 rfl rfl (by kernel_rfl) (Sub.refl _) (Qt.nilCheck rfl) ?_
  refine RW.q 7 rfl rfl (by kernel_rfl) (Sub.refl _) (Qt.fieldAddr (off := 5) (by kernel_rfl) rfl) ?_
  first | refine RW.q 8 rfl rfl (by kernel_rfl) (Sub.refl _) (Qt.load (by kernel_rfl) rfl rfl) ?_ | refine RW.q 8 rfl rfl (by kernel_rfl) (Sub.refl _) (Qt.load (by kernel_rfl) rfl (map_at _ _ _ (by omega))) ?_ | refine RW.q 8 rfl rfl (by kernel_rfl) (Sub.refl _) (Qt.load (by kernel_rfl) rfl (flat_cell0 _ _ _ (by intros; rfl) _ (by omega) (by rfl))) ?_ | refine RW.q 8 rfl rfl (by kernel_rfl) (Sub.refl _) (Qt.load (by kernel_rfl) rfl (flat_cell _ _ _ (by intros; rfl) _ _ (by omega) (by rfl))) ?_ | refine RW.q 8 rfl rfl (by kernel_rfl) (Sub.refl _) (Qt.load (by kernel_rfl) rfl (bytes_at _ _ (by omega))) ?_
  refine RW.q 9 rfl rfl (by kernel_rfl) (Sub.refl _) (Qt.move rfl) ?_
  refine RW.q 10 rfl rfl (by kernel_rfl) (Sub.refl _) (Qt.nilCheck rfl) ?_
  refine RW.q 11 rfl rfl (by kernel_rfl) (Sub.refl _) (Qt.fieldAddr (off := 3) (by kernel_rfl) rfl) ?_
  first | refine RW.q 12 rfl rfl (by kernel_rfl) (Sub.refl _) (Qt.load (by kernel_rfl) rfl rfl) ?_ | refine RW.q 12 rfl rfl (by kernel_rfl) (Sub.refl _) (Qt.load (by kernel_rfl) rfl (map_at _ _ _ (by omega))) ?_ | refine RW.q 12 rfl rfl (by kernel_rfl) (Sub.refl _) (Qt.load (by kernel_rfl) rfl (flat_cell0 _ _ _ (by intros; rfl) _ (by omega) (by rfl))) ?_ | refine RW.q 12 rfl rfl (by kernel_rfl) (Sub.refl _) (Qt.load (by kernel_rfl) rfl (flat_cell _ _ _ (by intros; rfl) _ _ (by omega) (by rfl))) ?_ | refine RW.q 12 rfl rfl (by kernel_rfl) (Sub.refl _) (Qt.load (by kernel_rfl) rfl (bytes_at _ _ (by omega))) ?_
  refine RW.q 13 rfl rfl (by kernel_rfl) (Sub.refl _) (Qt.len (e := 5) (sz := 1) (by kernel_rfl) rfl) ?_
  refine RW.q 14 rfl rfl (by kernel_rfl) (Sub.refl _) (Qt.eql rfl rfl) ?_
  refine RW.q 15 rfl rfl (by kernel_rfl) (Sub.refl _) (Qt.pick rfl rfl) ?_
  refine RW.done (by rfl) ?_
  simp only [List.drop_succ_cons, List.drop_zero, List.drop_nil]
  refine LW.done ?_
  first | refine T.condT rfl ?_ | refine T.condPT rfl (by omega) ?_ | refine T.condBT rfl (by omega) ?_
  refine T.ret ?_
  exact ⟨.inl rfl, _, _, res [] rfl trivial, ⟨rfl, rfl⟩, Sub.any⟩
set_option maxHeartbeats 2000000 in
set_option maxRecDepth 100000 in
theorem Wl.force (B : Base) (g b : Nat) (W : Wl) (p : Option Addr) (c : Nat) (hp : 0 < W.st.length → ∃ g, p = some ⟨g, 0, none⟩) (hc : W.st.length ≤ c) (D : DD) (mark : Int) (hD : W.first + W.count ≤ D.secs.length) (hs : D.secs.length ≤ 4096) (hst : W.st.length ≤ W.count * 256) (hdur : W.dur ≤ W.st.length) (hroom : D.pend.length + 4096 < 2 ^ 32) (h1 : W.dur < mark) (h2 : W.dur ≠ W.st.length) :
  Fn Tryz.prog B 121 #[.pointer (some ⟨g, 0, none⟩), .int .i64 mark] [wlB g b W p c, rB (.slice p W.st.length c) W.st.length W.st, dskA b D] (fun u l => u = .tuple #[] ∧ l = [wlB g b W.flushed p c, rB (.slice p W.st.length c) W.st.length W.st, dskA b (flushD W D)]) := by
 refine Fn.enter2 53 Tryz.func121 rfl rfl (Nat.le_of_ble_eq_true rfl) (fun F => ?_)
 try simp only [List.cons_append, List.nil_append]
 refine T.seq ?_
 refine T.seq ?_
 refine T.drawAll 16 (by kernel_rfl) (Nat.le_of_ble_eq_true rfl) (by kernel_rfl) ?_
 refine RW.q 0 rfl rfl (by kernel_rfl) (Sub.refl _) (Qt.move rfl) ?_
 refine RW.q 1 rfl rfl (by kernel_rfl) (Sub.refl _) (Qt.move rfl) ?_
 refine RW.one 2 (by kernel_rfl) ?_
 refine RO.e rfl rfl (Ef.call (Wl.durableB B g b W p c (by omega)) Tryz.func38 rfl rfl rfl ?_)
 rintro _ _ ⟨rfl, rfl⟩
 try simp only [List.cons_append, List.nil_append]
 refine ⟨Sub.any, ?_⟩
 refine RW.q 3 rfl rfl (by kernel_rfl) (Sub.refl _) (Qt.leq rfl rfl) ?_
 refine RW.q 4 rfl rfl (by kernel_rfl) (Sub.refl _) (Qt.move rfl) ?_
 first | refine RW.gF (t := 9) rfl rfl ?_ | refine RW.gF (t := 9) rfl (decide_eq_false (by omega)) ?_ | refine RW.gF (t := 9) rfl (by omega) ?_
 refine RW.q 5 rfl rfl (by kernel_rfl) (Sub.refl _) (Qt.move rfl) ?_
 refine RW.q 6 rfl rfl (by kernel_rfl) (Sub.refl _) (Qt.nilCheck rfl) ?_
 refine RW.q 7 rfl rfl (by kernel_rfl) (Sub.refl _) (Qt.fieldAddr (off := 5) (by kernel_rfl) rfl) ?_
 first | refine RW.q 8 rfl rfl (by kernel_rfl) (Sub.refl _) (Qt.load (by kernel_rfl) rfl rfl) ?_ | refine RW.q 8 rfl rfl (by kernel_rfl) (Sub.refl _) (Qt.load (by kernel_rfl) rfl (map_at _ _ _ (by omega))) ?_ | refine RW.q 8 rfl rfl (by kernel_rfl) (Sub.refl _) (Qt.load (by kernel_rfl) rfl (flat_cell0 _ _ _ (by intros; rfl) _ (by omega) (by rfl))) ?_ | refine RW.q 8 rfl rfl (by kernel_rfl) (Sub.refl _) (Qt.load (by kernel_rfl) rfl (flat_cell _ _ _ (by intros; rfl) _ _ (by omega) (by rfl))) ?_ | refine RW.q 8 rfl rfl (by kernel_rfl) (Sub.refl _) (Qt.load (by kernel_rfl) rfl (bytes_at _ _ (by omega))) ?_
 refine RW.q 9 rfl rfl (by kernel_rfl) (Sub.refl _) (Qt.move rfl) ?_
 refine RW.q 10 rfl rfl (by kernel_rfl) (Sub.refl _) (Qt.nilCheck rfl) ?_
 refine RW.q 11 rfl rfl (by kernel_rfl) (Sub.refl _) (Qt.fieldAddr (off := 3) (by kernel_rfl) rfl) ?_
 first | refine RW.q 12 rfl rfl (by kernel_rfl) (Sub.refl _) (Qt.load (by kernel_rfl) rfl rfl) ?_ | refine RW.q 12 rfl rfl (by kernel_rfl) (Sub.refl _) (Qt.load (by kernel_rfl) rfl (map_at _ _ _ (by omega))) ?_ | refine RW.q 12 rfl rfl (by kernel_rfl) (Sub.refl _) (Qt.load (by kernel_rfl) rfl (flat_cell0 _ _ _ (by intros; rfl) _ (by omega) (by rfl))) ?_ | refine RW.q 12 rfl rfl (by kernel_rfl) (Sub.refl _) (Qt.load (by kernel_rfl) rfl (flat_cell _ _ _ (by intros; rfl) _ _ (by omega) (by rfl))) ?_ | refine RW.q 12 rfl rfl (by kernel_rfl) (Sub.refl _) (Qt.load (by kernel_rfl) rfl (bytes_at _ _ (by omega))) ?_
 refine RW.q 13 rfl rfl (by kernel_rfl) (Sub.refl _) (Qt.len (e := 5) (sz := 1) (by kernel_rfl) rfl) ?_
 refine RW.q 14 rfl rfl (by kernel_rfl) (Sub.refl _) (Qt.eql rfl rfl) ?_
 refine RW.q 15 rfl rfl (by kernel_rfl) (Sub.refl _) (Qt.pick rfl rfl) ?_
 refine RW.done (by rfl) ?_
 simp only [List.drop_succ_cons, List.drop_zero, List.drop_nil]
 refine LW.done ?_
 first | refine T.condF rfl ?_ | refine T.condPF rfl (by omega) ?_ | refine T.condBF rfl (by omega) ?_
 refine T.skip ?_
 refine T.seq ?_
 refine T.seq ?_
 refine T.region ?_
 refine LW.q rfl (Qt.move rfl) ?_
 refine LW.q rfl (Qt.nilCheck rfl) ?_
 refine LW.q rfl (Qt.fieldAddr (off := 5) (by kernel_rfl) rfl) ?_
 first | refine LW.q rfl (Qt.load (by kernel_rfl) rfl rfl) ?_ | refine LW.q rfl (Qt.load (by kernel_rfl) rfl (map_at _ _ _ (by omega))) ?_ | refine LW.q rfl (Qt.load (by kernel_rfl) rfl (flat_cell0 _ _ _ (by intros; rfl) _ (by omega) (by rfl))) ?_ | refine LW.q rfl (Qt.load (by kernel_rfl) rfl (flat_cell _ _ _ (by intros; rfl) _ _ (by omega) (by rfl))) ?_ | refine LW.q rfl (Qt.load (by kernel_rfl) rfl (bytes_at _ _ (by omega))) ?_
 refine LW.q rfl (Qt.quo rfl rfl (by omega) (quo256i W.dur (by omega))) ?_
 refine LW.q rfl (Qt.assign rfl) ?_
 refine LW.done ?_
 refine T.block ?_
 refine T.loop (fun mz fz lz => ∃ (f0 : Fr) (n : Nat) (D' : DD), (W.dur / 256 ≤ n ∧ n ≤ (W.st.length + 255) / 256 ∧ D'.secs.length = D.secs.length ∧ D'.pend.length + W.dur / 256 = D.pend.length + n ∧ laysW W D' n ((W.st.length + 255) / 256 - n) = laysW W D (W.dur / 256) (flushN W)) ∧ mz = (W.st.length + 255) / 256 - n ∧ fz = (upd (upd f0 0 (.pointer (some ⟨g, 0, none⟩))) 4 (.int .i64 n)) ∧ lz = wlB g b W p c :: rB (.slice p W.st.length c) W.st.length W.st :: dskA b D' :: F) ?_ ?_
 · refine ⟨_, _, ⟨_, W.dur / 256, D, ⟨Nat.le_refl _, by omega, rfl, rfl, rfl⟩, rfl, (updS rfl (updS rfl rfl)), rfl⟩, Sub.any⟩
 ·
  rintro mz fz lz ⟨f0, n, D', ⟨hn1, hn2, hs', hpend, hlay⟩, hmz, rfl, rfl⟩
  subst mz
  try simp only [List.cons_append, List.nil_append]
  refine T.seq ?_
  refine T.seq ?_
  refine T.region ?_
  refine LW.q rfl (Qt.move rfl) ?_
  refine LW.q rfl (Qt.mul rfl rfl (wr64 (by omega) (by omega))) ?_
  refine LW.q rfl (Qt.move rfl) ?_
  refine LW.q rfl (Qt.nilCheck rfl) ?_
  refine LW.q rfl (Qt.fieldAddr (off := 3) (by kernel_rfl) rfl) ?_
  first | refine LW.q rfl (Qt.load (by kernel_rfl) rfl rfl) ?_ | refine LW.q rfl (Qt.load (by kernel_rfl) rfl (map_at _ _ _ (by omega))) ?_ | refine LW.q rfl (Qt.load (by kernel_rfl) rfl (flat_cell0 _ _ _ (by intros; rfl) _ (by omega) (by rfl))) ?_ | refine LW.q rfl (Qt.load (by kernel_rfl) rfl (flat_cell _ _ _ (by intros; rfl) _ _ (by omega) (by rfl))) ?_ | refine LW.q rfl (Qt.load (by kernel_rfl) rfl (bytes_at _ _ (by omega))) ?_
  refine LW.q rfl (Qt.len (e := 5) (sz := 1) (by kernel_rfl) rfl) ?_
  refine LW.q rfl (Qt.lss rfl rfl) ?_
  refine LW.done ?_
  refine T.condP rfl (fun hlt => ?_) (fun hlt => ?_)
  ·
   refine T.skip ?_
   refine T.seq ?_
   refine T.block ?_
   refine T.region ?_
   refine LW.q rfl (Qt.move rfl) ?_
   refine LW.q rfl (Qt.move rfl) ?_
   refine LW.e rfl (Ef.call (Wl.lay B g b W p c hp hc D' n (by omega) (by omega) (by omega) (by omega) (by omega)) Tryz.func67 rfl rfl rfl ?_)
   rintro _ _ ⟨rfl, rfl⟩
   try simp only [List.cons_append, List.nil_append]
   refine LW.done ?_
   refine T.region ?_
   refine LW.q rfl (Qt.move rfl) ?_
   refine LW.q rfl (Qt.add rfl rfl (wr64 (by omega) (by omega))) ?_
   refine LW.q rfl (Qt.assign rfl) ?_
   refine LW.done ?_
   refine ⟨_, ?_, _, ⟨_, n + 1, D'.write (W.first + n) (secW W.st n), ⟨by omega, by omega, hs', by simp [DD.write]; omega, by rw [← hlay, show (W.st.length + 255) / 256 - n = ((W.st.length + 255) / 256 - (n + 1)) + 1 by omega]; rfl⟩, rfl, (updS rfl (updS rfl rfl)), rfl⟩, Sub.any⟩
   first | omega | (simp; omega)
  ·
   obtain rfl : n = (W.st.length + 255) / 256 := by omega
   rw [Nat.sub_self] at hlay
   obtain rfl : D' = laysW W D (W.dur / 256) (flushN W) := hlay
   refine T.exit ?_
   refine T.seq ?_
   refine T.region ?_
   refine LW.q rfl (Qt.move rfl) ?_
   refine LW.q rfl (Qt.nilCheck rfl) ?_
   refine LW.q rfl (Qt.fieldAddr0 (by kernel_rfl) rfl) ?_
   refine LW.q rfl (Qt.fieldAddr0 (by kernel_rfl) rfl) ?_
   first | refine LW.q rfl (Qt.load (by kernel_rfl) rfl rfl) ?_ | refine LW.q rfl (Qt.load (by kernel_rfl) rfl (map_at _ _ _ (by omega))) ?_ | refine LW.q rfl (Qt.load (by kernel_rfl) rfl (flat_cell0 _ _ _ (by intros; rfl) _ (by omega) (by rfl))) ?_ | refine LW.q rfl (Qt.load (by kernel_rfl) rfl (flat_cell _ _ _ (by intros; rfl) _ _ (by omega) (by rfl))) ?_ | refine LW.q rfl (Qt.load (by kernel_rfl) rfl (bytes_at _ _ (by omega))) ?_
   refine LW.e rfl (Ef.call (Dk.syncF B b (laysW W D (W.dur / 256) (flushN W)) (by omega)) Tryz.func59 rfl rfl rfl ?_)
   rintro _ _ ⟨rfl, rfl⟩
   try simp only [List.cons_append, List.nil_append]
   refine LW.done ?_
   refine T.region ?_
   refine LW.q rfl (Qt.move rfl) ?_
   refine LW.q rfl (Qt.move rfl) ?_
   refine LW.q rfl (Qt.nilCheck rfl) ?_
   refine LW.q rfl (Qt.fieldAddr (off := 3) (by kernel_rfl) rfl) ?_
   first | refine LW.q rfl (Qt.load (by kernel_rfl) rfl rfl) ?_ | refine LW.q rfl (Qt.load (by kernel_rfl) rfl (map_at _ _ _ (by omega))) ?_ | refine LW.q rfl (Qt.load (by kernel_rfl) rfl (flat_cell0 _ _ _ (by intros; rfl) _ (by omega) (by rfl))) ?_ | refine LW.q rfl (Qt.load (by kernel_rfl) rfl (flat_cell _ _ _ (by intros; rfl) _ _ (by omega) (by rfl))) ?_ | refine LW.q rfl (Qt.load (by kernel_rfl) rfl (bytes_at _ _ (by omega))) ?_
   refine LW.q rfl (Qt.len (e := 5) (sz := 1) (by kernel_rfl) rfl) ?_
   refine LW.q rfl (Qt.nilCheck rfl) ?_
   refine LW.q rfl (Qt.fieldAddr (off := 5) (by kernel_rfl) rfl) ?_
   refine LW.e0 rfl (Ef.store1 (by kernel_rfl) rfl rfl rfl (by first | (simp; done) | (simp; omega)) ?_)
   try simp only [List.set_cons_zero, List.set_cons_succ]
   refine LW.done ?_
   exact ⟨.inr rfl, _, _, res [] rfl trivial, ⟨rfl, rfl⟩, Sub.any⟩
end Go.Proofs.YtegohgaccmkigaaGreatDoor

/- The package wal: Append. Conditions: sizes; that what is handed in can be read. -/
set_option linter.unusedSimpArgs false
set_option linter.unusedVariables false
namespace Go.Proofs.YtegohgaccmkigaaGreatDoor
open Go.RowKit

theorem RdV.takeAll {B : Base} {S : List Assn} {a : Option Addr} {m c : Nat} {cs : List Value} (h : RdV B S (.slice a m c) cs) (c' : Nat) : RdV B S (.slice a m c') cs := by
  obtain ⟨a2, c2, e, h⟩ := h
  injection e with e1 e2 _
  subst e1; subst e2
  exact ⟨a, c', rfl, h⟩
instance (priority := low) (S l r m : List Assn) [k : TakeL S l r] [t : SubC r m] : SubC l (S ++ m) := ⟨fun _ H => by
  obtain ⟨h1, h2, d, a, b, e1, e2⟩ := Has.split (k.take _ H)
  exact Has.join d a b e1 (t.sub _ e2)⟩
theorem Fn.own {P : Program} {B : Base} {g : FuncId} {args : Array Value} {pre : List Assn} {R : Value → List Assn → Prop} (h : Fn P B g args pre R) : Fn P B g args pre (fun v l => R v l ∧ ∃ w F, Own B w (l ++ F)) := ⟨fun w F ho => (h.run w F ho).mono fun _ w' ⟨v, l, a, b, c⟩ => ⟨v, l, a, ⟨b, w', F, c⟩, c⟩⟩
theorem Cd.putP (B : Base) (S : List Assn) (v : Value) (b : List UInt8) (m : Nat) (hm : b.length = m) (n : UInt64) (i : Int) (k : Nat) (hi : i = k) (hk : k ≤ 8) (hv : RdV B S v (bytesV b)) (hb : m < 2 ^ 40) : Fn Tryz.prog B 63 #[v, .int .u64 n.toNat, .int .i64 i] S (fun u l => ∃ p c, u = .slice p (m + k) c ∧ (0 < m + k → ∃ g, p = some ⟨g, 0, none⟩) ∧ l = rB (.slice p (m + k) c) (m + k) (b ++ be n k) :: S) := (Cd.put B S v b m hm n i k hi hk hv hb).own.mono fun v l ⟨⟨p, c, e1, e2⟩, w, F, ho⟩ => by
  subst e2
  rw [List.cons_append] at ho
  exact ⟨p, c, e1, (ho.slice_at (p := p) (m := m + k) (c := c)).2.1, rfl⟩
/-- Append: the log then, what it answers. -/
def addW (W : Wl) (data : List UInt8) : Wl × Int × Int :=
  if data.length = 0 then (W, 0, 5)
  else if 1024 < data.length then (W, 0, 2)
  else if W.count * 256 < W.st.length + 8 + data.length then (W, 0, 3)
  else ({ W with st := W.st ++ be (UInt64.ofInt data.length) 4 ++ be (sealW W.sum W.st.length data).toUInt64 4 ++ data, sum := sealW W.sum W.st.length data }, (W.st.length : Int) + 8 + data.length, 0)

set_option maxHeartbeats 4000000 in
set_option maxRecDepth 100000 in
theorem Wl.append_no (B : Base) (S : List Assn) (g b : Nat) (W : Wl) (p : Option Addr) (cc : Nat) (a : Option Addr) (c : Nat) (bs : List (List UInt8)) (hv : PartsV B S (.slice a bs.length c) bs) (hc : bs.length ≤ c) (hn : bs.length < 2 ^ 32) (hN2 : bs.flatten.length ≤ 2 ^ 40) (hcnt : W.count ≤ 4096) (hst : W.st.length ≤ W.count * 256) (code : Int)
  (h : (bs.flatten.length = 0 ∧ code = 5) ∨ (bs.flatten.length ≠ 0 ∧ 1024 < bs.flatten.length ∧ code = 2) ∨ (bs.flatten.length ≠ 0 ∧ bs.flatten.length ≤ 1024 ∧ W.count * 256 < W.st.length + 8 + bs.flatten.length ∧ code = 3)) :
  Fn Tryz.prog B 36 #[.pointer (some ⟨g, 0, none⟩), .slice a bs.length c] (wlB g b W p cc :: S) (fun u l => u = .tuple #[.int .i64 0, .int .i64 code] ∧ l = wlB g b W p cc :: S) := by
 obtain ⟨N, hN⟩ : ∃ N, bs.flatten.length = N := ⟨_, rfl⟩
 rw [hN] at h hN2
 refine Fn.enter2 75 Tryz.func36 rfl rfl (Nat.le_of_ble_eq_true rfl) (fun F => ?_)
 try simp only [List.cons_append, List.nil_append]
 refine T.seq ?_
 refine T.region ?_
 refine LW.q rfl (Qt.assign rfl) ?_
 refine LW.q rfl (Qt.assign rfl) ?_
 refine LW.done ?_
 refine T.seq ?_
 refine T.region ?_
 refine LW.q rfl (Qt.move rfl) ?_
 refine LW.e rfl (Ef.call (Jn.join B S a c bs hv hc hn N hN hN2) Tryz.func61 rfl rfl rfl ?_)
 rintro _ _ ⟨p8, c8, c9, rfl, hp8, rfl⟩
 try simp only [List.cons_append, List.nil_append]
 refine LW.q rfl (Qt.assign rfl) ?_
 refine LW.done ?_
 refine T.seq ?_
 refine T.block ?_
 refine T.seq ?_
 refine T.region ?_
 refine LW.q rfl (Qt.move rfl) ?_
 refine LW.q rfl (Qt.len (e := 5) (sz := 1) (by kernel_rfl) rfl) ?_
 refine LW.q rfl (Qt.eql rfl rfl) ?_
 refine LW.q rfl (Qt.assign rfl) ?_
 refine LW.done ?_
 refine T.condP rfl (fun h0 => ?_) (fun h0 => ?_)
 ·
  obtain rfl : code = 5 := by omega
  refine T.seq ?_
  refine T.region ?_
  refine LW.q rfl (Qt.assign rfl) ?_
  refine LW.q rfl (Qt.assign rfl) ?_
  refine LW.done ?_
  refine T.ret ?_
  exact ⟨.inl rfl, _, _, res [_, _] rfl ⟨rvT rfl, rvT rfl, trivial⟩, ⟨rfl, rfl⟩, Sub.any⟩
 ·
  refine T.seq ?_
  refine T.region ?_
  refine LW.q rfl (Qt.move rfl) ?_
  refine LW.q rfl (Qt.len (e := 5) (sz := 1) (by kernel_rfl) rfl) ?_
  refine LW.q rfl (Qt.gtr rfl rfl) ?_
  refine LW.q rfl (Qt.assign rfl) ?_
  refine LW.done ?_
  refine T.condP rfl (fun h1 => ?_) (fun h1 => ?_)
  ·
   obtain rfl : code = 2 := by omega
   refine T.seq ?_
   refine T.region ?_
   refine LW.q rfl (Qt.assign rfl) ?_
   refine LW.q rfl (Qt.assign rfl) ?_
   refine LW.done ?_
   refine T.ret ?_
   exact ⟨.inl rfl, _, _, res [_, _] rfl ⟨rvT rfl, rvT rfl, trivial⟩, ⟨rfl, rfl⟩, Sub.any⟩
  ·
   obtain ⟨hbig, rfl⟩ : W.count * 256 < W.st.length + 8 + N ∧ code = 3 := by omega
   refine T.seq ?_
   refine T.drawAll 16 (by kernel_rfl) (Nat.le_of_ble_eq_true rfl) (by kernel_rfl) ?_
   refine RW.q 0 rfl rfl (by kernel_rfl) (Sub.refl _) (Qt.move rfl) ?_
   refine RW.q 1 rfl rfl (by kernel_rfl) (Sub.refl _) (Qt.nilCheck rfl) ?_
   refine RW.q 2 rfl rfl (by kernel_rfl) (Sub.refl _) (Qt.fieldAddr (off := 3) (by kernel_rfl) rfl) ?_
   first | refine RW.q 3 rfl rfl (by kernel_rfl) (Sub.refl _) (Qt.load (by kernel_rfl) rfl rfl) ?_ | refine RW.q 3 rfl rfl (by kernel_rfl) (Sub.refl _) (Qt.load (by kernel_rfl) rfl (map_at _ _ _ (by omega))) ?_ | refine RW.q 3 rfl rfl (by kernel_rfl) (Sub.refl _) (Qt.load (by kernel_rfl) rfl (flat_cell0 _ _ _ (by intros; rfl) _ (by omega) (by rfl))) ?_ | refine RW.q 3 rfl rfl (by kernel_rfl) (Sub.refl _) (Qt.load (by kernel_rfl) rfl (flat_cell _ _ _ (by intros; rfl) _ _ (by omega) (by rfl))) ?_ | refine RW.q 3 rfl rfl (by kernel_rfl) (Sub.refl _) (Qt.load (by kernel_rfl) rfl (bytes_at _ _ (by omega))) ?_
   refine RW.q 4 rfl rfl (by kernel_rfl) (Sub.refl _) (Qt.len (e := 5) (sz := 1) (by kernel_rfl) rfl) ?_
   refine RW.q 5 rfl rfl (by kernel_rfl) (Sub.refl _) (Qt.add rfl rfl (wr64 (by omega) (by omega))) ?_
   refine RW.q 6 rfl rfl (by kernel_rfl) (Sub.refl _) (Qt.move rfl) ?_
   refine RW.q 7 rfl rfl (by kernel_rfl) (Sub.refl _) (Qt.len (e := 5) (sz := 1) (by kernel_rfl) rfl) ?_
   refine RW.q 8 rfl rfl (by kernel_rfl) (Sub.refl _) (Qt.add rfl rfl (wr64 (by omega) (by omega))) ?_
   refine RW.q 9 rfl rfl (by kernel_rfl) (Sub.refl _) (Qt.move rfl) ?_
   refine RW.q 10 rfl rfl (by kernel_rfl) (Sub.refl _) (Qt.nilCheck rfl) ?_
   refine RW.q 11 rfl rfl (by kernel_rfl) (Sub.refl _) (Qt.fieldAddr0 (by kernel_rfl) rfl) ?_
   first | refine RW.q 12 rfl rfl (by kernel_rfl) (Sub.refl _) (Qt.loadAgg [_, _, _] (by kernel_rfl) rfl ⟨rfl, rfl, rfl, trivial⟩) ?_ | refine RW.q 12 rfl rfl (by kernel_rfl) (Sub.refl _) (Qt.loadAgg [_, _, _] (by kernel_rfl) rfl (by exact rdl_flat _ _ _ (by intros; rfl) _ (by omega))) ?_
   refine RW.one 13 (by kernel_rfl) ?_
   refine RO.e rfl rfl (Ef.call (Wl.size B (.pointer (some ⟨b, 0, none⟩)) W.first W.count hcnt) Tryz.func62 rfl rfl rfl ?_)
   rintro _ _ ⟨rfl, rfl⟩
   try simp only [List.cons_append, List.nil_append]
   refine ⟨Sub.any, ?_⟩
   refine RW.q 14 rfl rfl (by kernel_rfl) (Sub.refl _) (Qt.gtr rfl rfl) ?_
   refine RW.q 15 rfl rfl (by kernel_rfl) (Sub.refl _) (Qt.assign rfl) ?_
   refine RW.done (by rfl) ?_
   simp only [List.drop_succ_cons, List.drop_zero, List.drop_nil]
   refine LW.done ?_
   first | refine T.condT rfl ?_ | refine T.condPT rfl (by omega) ?_ | refine T.condBT rfl (by omega) ?_
   refine T.seq ?_
   refine T.region ?_
   refine LW.q rfl (Qt.assign rfl) ?_
   refine LW.q rfl (Qt.assign rfl) ?_
   refine LW.done ?_
   refine T.ret ?_
   exact ⟨.inl rfl, _, _, res [_, _] rfl ⟨rvT rfl, rvT rfl, trivial⟩, ⟨rfl, rfl⟩, Sub.any⟩
set_option maxHeartbeats 4000000 in
set_option maxRecDepth 100000 in
theorem Wl.append (B : Base) (S : List Assn) (g b : Nat) (W : Wl) (p : Option Addr) (cc : Nat) (hp : 0 < W.st.length → ∃ g, p = some ⟨g, 0, none⟩) (a : Option Addr) (c : Nat) (bs : List (List UInt8)) (hv : PartsV B S (.slice a bs.length c) bs) (hc : bs.length ≤ c) (hn : bs.length < 2 ^ 32) (hcnt : W.count ≤ 4096) (data : List UInt8) (hdata : bs.flatten = data) (h0 : data.length ≠ 0) (h1 : data.length ≤ 1024) (h2 : W.st.length + 8 + data.length ≤ W.count * 256) :
    Fn Tryz.prog B 36 #[.pointer (some ⟨g, 0, none⟩), .slice a bs.length c] (wlB g b W p cc :: rB (.slice p W.st.length cc) W.st.length W.st :: S) (fun u l => ∃ p' c', u = .tuple #[.int .i64 (addW W data).2.1, .int .i64 0] ∧ (0 < (addW W data).1.st.length → ∃ g, p' = some ⟨g, 0, none⟩) ∧ l = wlB g b (addW W data).1 p' c' :: rB (.slice p' (addW W data).1.st.length c') (addW W data).1.st.length (addW W data).1.st :: S) := by
  have hadd : addW W data = ({ W with st := W.st ++ be (UInt64.ofInt data.length) 4 ++ be (sealW W.sum W.st.length data).toUInt64 4 ++ data, sum := sealW W.sum W.st.length data }, (W.st.length : Int) + 8 + data.length, 0) := by
    unfold addW; rw [if_neg h0, if_neg (by omega), if_neg (by omega)]
  rw [hadd]
  obtain ⟨N, hN⟩ : ∃ N, data.length = N := ⟨_, rfl⟩
  obtain ⟨s, hs⟩ : ∃ s, sealW W.sum W.st.length data = s := ⟨_, rfl⟩
  rw [hN, hs]
  rw [hN] at h0 h1 h2
  refine Fn.enter2 75 Tryz.func36 rfl rfl (Nat.le_of_ble_eq_true rfl) (fun F => ?_)
  try simp only [List.cons_append, List.nil_append]
  refine T.seq ?_
  refine T.region ?_
  refine LW.q rfl (Qt.assign rfl) ?_
  refine LW.q rfl (Qt.assign rfl) ?_
  refine LW.done ?_
  refine T.seq ?_
  refine T.region ?_
  refine LW.q rfl (Qt.move rfl) ?_
  refine LW.e rfl (Ef.call (Jn.join B S a c bs hv hc hn N (by rw [hdata, hN]) (by omega)) Tryz.func61 rfl rfl rfl ?_)
  rintro _ _ ⟨p8, c8, c9, rfl, hp8, rfl⟩
  try simp only [List.cons_append, List.nil_append]
  rw [hdata]
  refine LW.q rfl (Qt.assign rfl) ?_
  refine LW.done ?_
  refine T.seq ?_
  refine T.block ?_
  refine T.seq ?_
  refine T.region ?_
  refine LW.q rfl (Qt.move rfl) ?_
  refine LW.q rfl (Qt.len (e := 5) (sz := 1) (by kernel_rfl) rfl) ?_
  refine LW.q rfl (Qt.eql rfl rfl) ?_
  refine LW.q rfl (Qt.assign rfl) ?_
  refine LW.done ?_
  have rdat : RdV B [rB (.slice p8 N c8) N data] (.slice p8 N c9) (bytesV data) := (RdV.rB (c := c8) hN hp8).takeAll c9
  first | refine T.condF rfl ?_ | refine T.condPF rfl (by omega) ?_ | refine T.condBF rfl (by omega) ?_
  refine T.seq ?_
  refine T.region ?_
  refine LW.q rfl (Qt.move rfl) ?_
  refine LW.q rfl (Qt.len (e := 5) (sz := 1) (by kernel_rfl) rfl) ?_
  refine LW.q rfl (Qt.gtr rfl rfl) ?_
  refine LW.q rfl (Qt.assign rfl) ?_
  refine LW.done ?_
  first | refine T.condF rfl ?_ | refine T.condPF rfl (by omega) ?_ | refine T.condBF rfl (by omega) ?_
  refine T.seq ?_
  refine T.drawAll 16 (by kernel_rfl) (Nat.le_of_ble_eq_true rfl) (by kernel_rfl) ?_
  refine RW.q 0 rfl rfl (by kernel_rfl) (Sub.refl _) (Qt.move rfl) ?_
  refine RW.q 1 rfl rfl (by kernel_rfl) (Sub.refl _) (Qt.nilCheck rfl) ?_
  refine RW.q 2 rfl rfl (by kernel_rfl) (Sub.refl _) (Qt.fieldAddr (off := 3) (by kernel_rfl) rfl) ?_
  first | refine RW.q 3 rfl rfl (by kernel_rfl) (Sub.refl _) (Qt.load (by kernel_rfl) rfl rfl) ?_ | refine RW.q 3 rfl rfl (by kernel_rfl) (Sub.refl _) (Qt.load (by kernel_rfl) rfl (map_at _ _ _ (by omega))) ?_ | refine RW.q 3 rfl rfl (by kernel_rfl) (Sub.refl _) (Qt.load (by kernel_rfl) rfl (flat_cell0 _ _ _ (by intros; rfl) _ (by omega) (by rfl))) ?_ | refine RW.q 3 rfl rfl (by kernel_rfl) (Sub.refl _) (Qt.load (by kernel_rfl) rfl (flat_cell _ _ _ (by intros; rfl) _ _ (by omega) (by rfl))) ?_ | refine RW.q 3 rfl rfl (by kernel_rfl) (Sub.refl _) (Qt.load (by kernel_rfl) rfl (bytes_at _ _ (by omega))) ?_
  refine RW.q 4 rfl rfl (by kernel_rfl) (Sub.refl _) (Qt.len (e := 5) (sz := 1) (by kernel_rfl) rfl) ?_
  refine RW.q 5 rfl rfl (by kernel_rfl) (Sub.refl _) (Qt.add rfl rfl (wr64 (by omega) (by omega))) ?_
  refine RW.q 6 rfl rfl (by kernel_rfl) (Sub.refl _) (Qt.move rfl) ?_
  refine RW.q 7 rfl rfl (by kernel_rfl) (Sub.refl _) (Qt.len (e := 5) (sz := 1) (by kernel_rfl) rfl) ?_
  refine RW.q 8 rfl rfl (by kernel_rfl) (Sub.refl _) (Qt.add rfl rfl (wr64 (by omega) (by omega))) ?_
  refine RW.q 9 rfl rfl (by kernel_rfl) (Sub.refl _) (Qt.move rfl) ?_
  refine RW.q 10 rfl rfl (by kernel_rfl) (Sub.refl _) (Qt.nilCheck rfl) ?_
  refine RW.q 11 rfl rfl (by kernel_rfl) (Sub.refl _) (Qt.fieldAddr0 (by kernel_rfl) rfl) ?_
  first | refine RW.q 12 rfl rfl (by kernel_rfl) (Sub.refl _) (Qt.loadAgg [_, _, _] (by kernel_rfl) rfl ⟨rfl, rfl, rfl, trivial⟩) ?_ | refine RW.q 12 rfl rfl (by kernel_rfl) (Sub.refl _) (Qt.loadAgg [_, _, _] (by kernel_rfl) rfl (by exact rdl_flat _ _ _ (by intros; rfl) _ (by omega))) ?_
  refine RW.one 13 (by kernel_rfl) ?_
  refine RO.e rfl rfl (Ef.call (Wl.size B (.pointer (some ⟨b, 0, none⟩)) W.first W.count hcnt) Tryz.func62 rfl rfl rfl ?_)
  rintro _ _ ⟨rfl, rfl⟩
  try simp only [List.cons_append, List.nil_append]
  refine ⟨Sub.any, ?_⟩
  refine RW.q 14 rfl rfl (by kernel_rfl) (Sub.refl _) (Qt.gtr rfl rfl) ?_
  refine RW.q 15 rfl rfl (by kernel_rfl) (Sub.refl _) (Qt.assign rfl) ?_
  refine RW.done (by rfl) ?_
  simp only [List.drop_succ_cons, List.drop_zero, List.drop_nil]
  refine LW.done ?_
  first | refine T.condF rfl ?_ | refine T.condPF rfl (by omega) ?_ | refine T.condBF rfl (by omega) ?_
  refine T.skip ?_
  refine T.seq ?_
  refine T.drawAll 12 (by kernel_rfl) (Nat.le_of_ble_eq_true rfl) (by kernel_rfl) ?_
  refine RW.q 0 rfl rfl (by kernel_rfl) (Sub.refl _) (Qt.move rfl) ?_
  refine RW.q 1 rfl rfl (by kernel_rfl) (Sub.refl _) (Qt.move rfl) ?_
  refine RW.q 2 rfl rfl (by kernel_rfl) (Sub.refl _) (Qt.nilCheck rfl) ?_
  refine RW.q 3 rfl rfl (by kernel_rfl) (Sub.refl _) (Qt.fieldAddr (off := 4) (by kernel_rfl) rfl) ?_
  first | refine RW.q 4 rfl rfl (by kernel_rfl) (Sub.refl _) (Qt.load (by kernel_rfl) rfl rfl) ?_ | refine RW.q 4 rfl rfl (by kernel_rfl) (Sub.refl _) (Qt.load (by kernel_rfl) rfl (map_at _ _ _ (by omega))) ?_ | refine RW.q 4 rfl rfl (by kernel_rfl) (Sub.refl _) (Qt.load (by kernel_rfl) rfl (flat_cell0 _ _ _ (by intros; rfl) _ (by omega) (by rfl))) ?_ | refine RW.q 4 rfl rfl (by kernel_rfl) (Sub.refl _) (Qt.load (by kernel_rfl) rfl (flat_cell _ _ _ (by intros; rfl) _ _ (by omega) (by rfl))) ?_ | refine RW.q 4 rfl rfl (by kernel_rfl) (Sub.refl _) (Qt.load (by kernel_rfl) rfl (bytes_at _ _ (by omega))) ?_
  refine RW.q 5 rfl rfl (by kernel_rfl) (Sub.refl _) (Qt.move rfl) ?_
  refine RW.q 6 rfl rfl (by kernel_rfl) (Sub.refl _) (Qt.nilCheck rfl) ?_
  refine RW.q 7 rfl rfl (by kernel_rfl) (Sub.refl _) (Qt.fieldAddr (off := 3) (by kernel_rfl) rfl) ?_
  first | refine RW.q 8 rfl rfl (by kernel_rfl) (Sub.refl _) (Qt.load (by kernel_rfl) rfl rfl) ?_ | refine RW.q 8 rfl rfl (by kernel_rfl) (Sub.refl _) (Qt.load (by kernel_rfl) rfl (map_at _ _ _ (by omega))) ?_ | refine RW.q 8 rfl rfl (by kernel_rfl) (Sub.refl _) (Qt.load (by kernel_rfl) rfl (flat_cell0 _ _ _ (by intros; rfl) _ (by omega) (by rfl))) ?_ | refine RW.q 8 rfl rfl (by kernel_rfl) (Sub.refl _) (Qt.load (by kernel_rfl) rfl (flat_cell _ _ _ (by intros; rfl) _ _ (by omega) (by rfl))) ?_ | refine RW.q 8 rfl rfl (by kernel_rfl) (Sub.refl _) (Qt.load (by kernel_rfl) rfl (bytes_at _ _ (by omega))) ?_
  refine RW.q 9 rfl rfl (by kernel_rfl) (Sub.refl _) (Qt.len (e := 5) (sz := 1) (by kernel_rfl) rfl) ?_
  refine RW.q 10 rfl rfl (by kernel_rfl) (Sub.refl _) (Qt.move rfl) ?_
  refine RW.one 11 (by kernel_rfl) ?_
  refine RO.e rfl rfl (Ef.call (Wl.shut B [rB (.slice p8 N c8) N data] W.sum W.st.length p8 N c9 data rdat hN (by omega)) Tryz.func46 rfl rfl rfl ?_)
  rintro _ _ ⟨rfl, rfl⟩
  try simp only [List.cons_append, List.nil_append]
  rw [hs]
  refine ⟨Sub.any, ?_⟩
  refine RW.done (by rfl) ?_
  simp only [List.drop_succ_cons, List.drop_zero, List.drop_nil]
  refine LW.q rfl (Qt.nilCheck rfl) ?_
  refine LW.q rfl (Qt.fieldAddr (off := 4) (by kernel_rfl) rfl) ?_
  refine LW.e0 rfl (Ef.store1 (by kernel_rfl) rfl rfl rfl (by first | (simp; done) | (simp; omega)) ?_)
  try simp only [List.set_cons_zero, List.set_cons_succ]
  refine LW.done ?_
  refine T.seq ?_
  refine T.drawAll 15 (by kernel_rfl) (Nat.le_of_ble_eq_true rfl) (by kernel_rfl) ?_
  refine RW.q 0 rfl rfl (by kernel_rfl) (Sub.refl _) (Qt.move rfl) ?_
  refine RW.q 1 rfl rfl (by kernel_rfl) (Sub.refl _) (Qt.move rfl) ?_
  refine RW.q 2 rfl rfl (by kernel_rfl) (Sub.refl _) (Qt.nilCheck rfl) ?_
  refine RW.q 3 rfl rfl (by kernel_rfl) (Sub.refl _) (Qt.fieldAddr (off := 3) (by kernel_rfl) rfl) ?_
  first | refine RW.q 4 rfl rfl (by kernel_rfl) (Sub.refl _) (Qt.load (by kernel_rfl) rfl rfl) ?_ | refine RW.q 4 rfl rfl (by kernel_rfl) (Sub.refl _) (Qt.load (by kernel_rfl) rfl (map_at _ _ _ (by omega))) ?_ | refine RW.q 4 rfl rfl (by kernel_rfl) (Sub.refl _) (Qt.load (by kernel_rfl) rfl (flat_cell0 _ _ _ (by intros; rfl) _ (by omega) (by rfl))) ?_ | refine RW.q 4 rfl rfl (by kernel_rfl) (Sub.refl _) (Qt.load (by kernel_rfl) rfl (flat_cell _ _ _ (by intros; rfl) _ _ (by omega) (by rfl))) ?_ | refine RW.q 4 rfl rfl (by kernel_rfl) (Sub.refl _) (Qt.load (by kernel_rfl) rfl (bytes_at _ _ (by omega))) ?_
  refine RW.q 5 rfl rfl (by kernel_rfl) (Sub.refl _) (Qt.move rfl) ?_
  refine RW.q 6 rfl rfl (by kernel_rfl) (Sub.refl _) (Qt.len (e := 5) (sz := 1) (by kernel_rfl) rfl) ?_
  refine RW.q 7 rfl rfl (by kernel_rfl) (Sub.refl _) (Qt.convI (by kernel_rfl) (by kernel_rfl) rfl (wru64_i64 _)) ?_
  refine RW.q 9 rfl rfl (by kernel_rfl) (Sub.refl _) (Qt.move rfl) ?_
  refine RW.q 10 rfl rfl (by kernel_rfl) (Sub.refl _) (Qt.nilCheck rfl) ?_
  refine RW.q 11 rfl rfl (by kernel_rfl) (Sub.refl _) (Qt.fieldAddr (off := 4) (by kernel_rfl) rfl) ?_
  first | refine RW.q 12 rfl rfl (by kernel_rfl) (Sub.refl _) (Qt.load (by kernel_rfl) rfl rfl) ?_ | refine RW.q 12 rfl rfl (by kernel_rfl) (Sub.refl _) (Qt.load (by kernel_rfl) rfl (map_at _ _ _ (by omega))) ?_ | refine RW.q 12 rfl rfl (by kernel_rfl) (Sub.refl _) (Qt.load (by kernel_rfl) rfl (flat_cell0 _ _ _ (by intros; rfl) _ (by omega) (by rfl))) ?_ | refine RW.q 12 rfl rfl (by kernel_rfl) (Sub.refl _) (Qt.load (by kernel_rfl) rfl (flat_cell _ _ _ (by intros; rfl) _ _ (by omega) (by rfl))) ?_ | refine RW.q 12 rfl rfl (by kernel_rfl) (Sub.refl _) (Qt.load (by kernel_rfl) rfl (bytes_at _ _ (by omega))) ?_
  refine RW.q 13 rfl rfl (by kernel_rfl) (Sub.refl _) (Qt.convI (by kernel_rfl) (by kernel_rfl) rfl (wru64_u32 s)) ?_
  refine RW.one 8 (by kernel_rfl) ?_
  refine RO.e rfl rfl (Ef.call (Cd.putP B [rB (.slice p W.st.length cc) W.st.length W.st] (.slice p W.st.length cc) W.st W.st.length rfl (UInt64.ofInt N) 4 4 rfl (by omega) (RdV.rB rfl hp) (by omega)) Tryz.func63 rfl rfl rfl ?_)
  rintro _ _ ⟨p1, c1, rfl, hp1, rfl⟩
  try simp only [List.cons_append, List.nil_append]
  refine ⟨Sub.any, ?_⟩
  refine RW.one 14 (by kernel_rfl) ?_
  refine RO.e rfl rfl (Ef.call (Cd.putP B [rB (.slice p1 (W.st.length + 4) c1) (W.st.length + 4) (W.st ++ be (UInt64.ofInt N) 4)] (.slice p1 (W.st.length + 4) c1) (W.st ++ be (UInt64.ofInt N) 4) (W.st.length + 4) (by simp [length_be]) s.toUInt64 4 4 rfl (by omega) (RdV.rB (by simp [length_be]) hp1) (by omega)) Tryz.func63 rfl rfl rfl ?_)
  rintro _ _ ⟨p2, c2, rfl, hp2, rfl⟩
  try simp only [List.cons_append, List.nil_append]
  refine ⟨Sub.any, ?_⟩
  refine RW.done (by rfl) ?_
  simp only [List.drop_succ_cons, List.drop_zero, List.drop_nil]
  refine LW.q rfl (Qt.nilCheck rfl) ?_
  refine LW.q rfl (Qt.fieldAddr (off := 3) (by kernel_rfl) rfl) ?_
  refine LW.e0 rfl (Ef.store1 (by kernel_rfl) rfl rfl rfl (by first | (simp; done) | (simp; omega)) ?_)
  try simp only [List.set_cons_zero, List.set_cons_succ]
  refine LW.done ?_
  refine T.seq ?_
  refine T.region ?_
  refine LW.q rfl (Qt.move rfl) ?_
  refine LW.q rfl (Qt.move rfl) ?_
  refine LW.q rfl (Qt.nilCheck rfl) ?_
  refine LW.q rfl (Qt.fieldAddr (off := 3) (by kernel_rfl) rfl) ?_
  first | refine LW.q rfl (Qt.load (by kernel_rfl) rfl rfl) ?_ | refine LW.q rfl (Qt.load (by kernel_rfl) rfl (map_at _ _ _ (by omega))) ?_ | refine LW.q rfl (Qt.load (by kernel_rfl) rfl (flat_cell0 _ _ _ (by intros; rfl) _ (by omega) (by rfl))) ?_ | refine LW.q rfl (Qt.load (by kernel_rfl) rfl (flat_cell _ _ _ (by intros; rfl) _ _ (by omega) (by rfl))) ?_ | refine LW.q rfl (Qt.load (by kernel_rfl) rfl (bytes_at _ _ (by omega))) ?_
  refine LW.q rfl (Qt.move rfl) ?_
  refine LW.e rfl (Ef.append Cd.elemB rfl rfl (SrcOf.rd (m := N) (rdat.mono (fun w ho => ho.map Sub.any)) (by kernel_rfl) (by simp [hN]) one_bytesV) (by unfold maxLen; omega) (by omega) ?_)
  rintro p4 c4 hp4
  try simp only [List.cons_append, List.nil_append]
  rw [← bytesV_append]
  obtain ⟨st2, hst2, hlen⟩ : ∃ st2, W.st ++ be (UInt64.ofInt N) 4 ++ be s.toUInt64 4 ++ data = st2 ∧ W.st.length + 4 + 4 + N = st2.length := ⟨_, rfl, by simp [length_be, hN]; omega⟩
  rw [hst2, hlen]
  rw [hlen] at hp4
  refine LW.q rfl (Qt.nilCheck rfl) ?_
  refine LW.q rfl (Qt.fieldAddr (off := 3) (by kernel_rfl) rfl) ?_
  refine LW.e0 rfl (Ef.store1 (by kernel_rfl) rfl rfl rfl (by first | (simp; done) | (simp; omega)) ?_)
  try simp only [List.set_cons_zero, List.set_cons_succ]
  refine LW.done ?_
  refine T.seq ?_
  refine T.region ?_
  refine LW.q rfl (Qt.move rfl) ?_
  refine LW.e rfl (Ef.call (Wl.endB B g b ⟨W.first, W.count, st2, s, W.dur⟩ p4 c4 (by show st2.length < _; omega)) Tryz.func64 rfl rfl rfl ?_)
  rintro _ _ ⟨rfl, rfl⟩
  try simp only [List.cons_append, List.nil_append]
  refine LW.q rfl (Qt.assign rfl) ?_
  refine LW.q rfl (Qt.assign rfl) ?_
  refine LW.done ?_
  refine T.ret ?_
  exact ⟨.inl rfl, _, _, res [_, _] rfl ⟨rvT rfl, rvT rfl, trivial⟩, ⟨p4, c4, by rw [show ((W.st.length : Int) + 8 + N) = ((st2.length : Nat) : Int) by omega]; rfl, hp4, rfl⟩, Sub.any⟩
end Go.Proofs.YtegohgaccmkigaaGreatDoor

/- The package wal: wipe. Conditions: sizes; that what is handed in can be read. -/
set_option linter.unusedSimpArgs false
set_option linter.unusedVariables false
namespace Go.Proofs.YtegohgaccmkigaaGreatDoor
open Go.RowKit

/-- A disk behind the wiping of k sectors from n on. -/
def wipeD (W : Wl) (al : List UInt8) : DD → Nat → Nat → DD
  | D, _, 0 => D
  | D, n, k + 1 => wipeD W al (if ((al.take ((n + 1) * 256)).drop (max (n * 256) W.dur)).all (· == 0) then D else D.write (W.first + n) (secW W.st n)) (n + 1) k

set_option maxHeartbeats 2000000 in
set_option maxRecDepth 100000 in
theorem Wl.wipe (B : Base) (S : List Assn) (g b : Nat) (W : Wl) (p : Option Addr) (c : Nat) (hp : 0 < W.st.length → ∃ g, p = some ⟨g, 0, none⟩) (hc : W.st.length ≤ c) (D : DD) (a : Option Addr) (m ca : Nat) (al : List UInt8) (hv : RdV B S (.slice a m ca) (bytesV al)) (hm : al.length = m) (hmc : m ≤ ca) (hmw : m = W.count * 256)
  (hD : W.first + W.count ≤ D.secs.length) (hs : D.secs.length ≤ 4096) (hst : W.st.length ≤ W.count * 256) (hdur : W.dur ≤ W.st.length) (hroom : D.pend.length + 4096 < 2 ^ 32) :
  Fn Tryz.prog B 47 #[.pointer (some ⟨g, 0, none⟩), .slice a m ca] (wlB g b W p c :: rB (.slice p W.st.length c) W.st.length W.st :: dskA b D :: S) (fun u l => u = .tuple #[] ∧ l = wlB g b W p c :: rB (.slice p W.st.length c) W.st.length W.st :: dskA b (wipeD W al D (W.dur / 256) (W.count - W.dur / 256)).sync :: S) := by
 refine Fn.enter2 49 Tryz.func47 rfl rfl (Nat.le_of_ble_eq_true rfl) (fun F => ?_)
 try simp only [List.cons_append, List.nil_append]
 refine T.seq ?_
 refine T.seq ?_
 refine T.region ?_
 refine LW.q rfl (Qt.move rfl) ?_
 refine LW.q rfl (Qt.nilCheck rfl) ?_
 refine LW.q rfl (Qt.fieldAddr (off := 5) (by kernel_rfl) rfl) ?_
 first | refine LW.q rfl (Qt.load (by kernel_rfl) rfl rfl) ?_ | refine LW.q rfl (Qt.load (by kernel_rfl) rfl (map_at _ _ _ (by omega))) ?_ | refine LW.q rfl (Qt.load (by kernel_rfl) rfl (flat_cell0 _ _ _ (by intros; rfl) _ (by omega) (by rfl))) ?_ | refine LW.q rfl (Qt.load (by kernel_rfl) rfl (flat_cell _ _ _ (by intros; rfl) _ _ (by omega) (by rfl))) ?_ | refine LW.q rfl (Qt.load (by kernel_rfl) rfl (bytes_at _ _ (by omega))) ?_
 refine LW.q rfl (Qt.quo rfl rfl (by omega) (quo256i W.dur (by omega))) ?_
 refine LW.q rfl (Qt.assign rfl) ?_
 refine LW.done ?_
 refine T.block ?_
 refine T.loop (fun mz fz lz => ∃ (f0 : Fr) (n : Nat) (D' : DD), (W.dur / 256 ≤ n ∧ n ≤ W.count ∧ D'.secs.length = D.secs.length ∧ D'.pend.length ≤ D.pend.length + n ∧ wipeD W al D' n (W.count - n) = wipeD W al D (W.dur / 256) (W.count - W.dur / 256)) ∧ mz = W.count - n ∧ fz = (upd (upd (upd f0 0 (.pointer (some ⟨g, 0, none⟩))) 1 (.slice a m ca)) 4 (.int .i64 n)) ∧ lz = wlB g b W p c :: rB (.slice p W.st.length c) W.st.length W.st :: dskA b D' :: (S ++ F)) ?_ ?_
 · refine ⟨_, _, ⟨_, W.dur / 256, D, ⟨Nat.le_refl _, by omega, rfl, by omega, rfl⟩, rfl, (updS rfl (updS rfl (updS rfl rfl))), rfl⟩, Sub.any⟩
 ·
  rintro mz fz lz ⟨f0, n, D', ⟨hn1, hn2, hs', hpend, hlay⟩, hmz, rfl, rfl⟩
  subst mz
  try simp only [List.cons_append, List.nil_append]
  refine T.seq ?_
  refine T.seq ?_
  refine T.region ?_
  refine LW.q rfl (Qt.move rfl) ?_
  refine LW.q rfl (Qt.move rfl) ?_
  refine LW.q rfl (Qt.nilCheck rfl) ?_
  refine LW.q rfl (Qt.fieldAddr0 (by kernel_rfl) rfl) ?_
  refine LW.q rfl (Qt.fieldAddr (off := 2) (by kernel_rfl) rfl) ?_
  first | refine LW.q rfl (Qt.load (by kernel_rfl) rfl rfl) ?_ | refine LW.q rfl (Qt.load (by kernel_rfl) rfl (map_at _ _ _ (by omega))) ?_ | refine LW.q rfl (Qt.load (by kernel_rfl) rfl (flat_cell0 _ _ _ (by intros; rfl) _ (by omega) (by rfl))) ?_ | refine LW.q rfl (Qt.load (by kernel_rfl) rfl (flat_cell _ _ _ (by intros; rfl) _ _ (by omega) (by rfl))) ?_ | refine LW.q rfl (Qt.load (by kernel_rfl) rfl (bytes_at _ _ (by omega))) ?_
  refine LW.q rfl (Qt.lss rfl rfl) ?_
  refine LW.done ?_
  refine T.condP rfl (fun hlt => ?_) (fun hlt => ?_)
  ·
   obtain ⟨lo, hlo⟩ : ∃ lo, max (n * 256) W.dur = lo := ⟨_, rfl⟩
   refine T.skip ?_
   refine T.seq ?_
   refine T.block ?_
   refine T.seq ?_
   refine T.region ?_
   refine LW.q rfl (Qt.move rfl) ?_
   refine LW.q rfl (Qt.mul rfl rfl (wr64 (by omega) (by omega))) ?_
   refine LW.q rfl (Qt.move rfl) ?_
   refine LW.q rfl (Qt.add rfl rfl (wr64 (by omega) (by omega))) ?_
   refine LW.q rfl (Qt.mul rfl rfl (wr64 (by omega) (by omega))) ?_
   refine LW.q rfl (Qt.assign rfl) ?_
   refine LW.q rfl (Qt.assign rfl) ?_
   refine LW.done ?_
   refine T.seq ?_
   refine T.region ?_
   refine LW.q rfl (Qt.move rfl) ?_
   refine LW.q rfl (Qt.move rfl) ?_
   refine LW.q rfl (Qt.move rfl) ?_
   refine LW.q rfl (Qt.nilCheck rfl) ?_
   refine LW.q rfl (Qt.fieldAddr (off := 5) (by kernel_rfl) rfl) ?_
   first | refine LW.q rfl (Qt.load (by kernel_rfl) rfl rfl) ?_ | refine LW.q rfl (Qt.load (by kernel_rfl) rfl (map_at _ _ _ (by omega))) ?_ | refine LW.q rfl (Qt.load (by kernel_rfl) rfl (flat_cell0 _ _ _ (by intros; rfl) _ (by omega) (by rfl))) ?_ | refine LW.q rfl (Qt.load (by kernel_rfl) rfl (flat_cell _ _ _ (by intros; rfl) _ _ (by omega) (by rfl))) ?_ | refine LW.q rfl (Qt.load (by kernel_rfl) rfl (bytes_at _ _ (by omega))) ?_
   refine LW.q rfl (Qt.max rfl rfl) ?_
   refine LW.q rfl (Qt.move rfl) ?_
   refine LW.q rfl (Qt.slice_ssn lo ((n + 1) * 256) (e := 5) (sz := 1) (by kernel_rfl) rfl rfl rfl (by omega) (by omega) (by omega) (by omega)) ?_
   refine LW.q rfl (Qt.assign rfl) ?_
   refine LW.done ?_
   refine T.seq ?_
   refine T.region ?_
   refine LW.q rfl (Qt.move rfl) ?_
   refine LW.e rfl (Ef.call (Tr.trim B S (offA a ca lo 1) ((n + 1) * 256 - lo) (ca - lo) ((al.take ((n + 1) * 256)).drop lo) (hv.part lo ((n + 1) * 256) (by omega) hm (by omega) (by omega) rfl) (by simp; omega) (by omega) (by omega)) Tryz.func66 rfl rfl rfl ?_)
   rintro _ S ⟨p3, m3, c3, rfl, hz, rfl⟩
   try simp only [List.cons_append, List.nil_append]
   refine LW.q rfl (Qt.len (e := 5) (sz := 1) (by kernel_rfl) rfl) ?_
   refine LW.q rfl (Qt.gtr rfl rfl) ?_
   refine LW.done ?_
   have hstep : wipeD W al D' n (W.count - n) = wipeD W al (if ((al.take ((n + 1) * 256)).drop lo).all (· == 0) then D' else D'.write (W.first + n) (secW W.st n)) (n + 1) (W.count - (n + 1)) := by rw [show W.count - n = (W.count - (n + 1)) + 1 by omega, wipeD, hlo]
   refine T.condP rfl (fun hpos => ?_) (fun hpos => ?_)
   ·
    rw [if_neg (by intro h; have := hz.2 (by simpa using h); omega)] at hstep
    refine T.region ?_
    refine LW.q rfl (Qt.move rfl) ?_
    refine LW.q rfl (Qt.move rfl) ?_
    refine LW.e rfl (Ef.call (Wl.lay B g b W p c hp hc D' n (by omega) (by omega) (by omega) (by omega) (by omega)) Tryz.func67 rfl rfl rfl ?_)
    rintro _ _ ⟨rfl, rfl⟩
    try simp only [List.cons_append, List.nil_append]
    refine LW.done ?_
    refine T.region ?_
    refine LW.q rfl (Qt.move rfl) ?_
    refine LW.q rfl (Qt.add rfl rfl (wr64 (by omega) (by omega))) ?_
    refine LW.q rfl (Qt.assign rfl) ?_
    refine LW.done ?_
    refine ⟨_, ?_, _, ⟨_, n + 1, D'.write (W.first + n) (secW W.st n), ⟨by omega, by omega, hs', by simp [DD.write]; omega, by rw [← hstep]; exact hlay⟩, rfl, (updS rfl (updS rfl (updS rfl rfl))), rfl⟩, Sub.any⟩
    first | omega | (simp; omega)
   ·
    rw [if_pos (by simpa using hz.1 (by omega))] at hstep
    refine T.skip ?_
    refine T.region ?_
    refine LW.q rfl (Qt.move rfl) ?_
    refine LW.q rfl (Qt.add rfl rfl (wr64 (by omega) (by omega))) ?_
    refine LW.q rfl (Qt.assign rfl) ?_
    refine LW.done ?_
    refine ⟨_, ?_, _, ⟨_, n + 1, D', ⟨by omega, by omega, hs', by omega, by rw [← hstep]; exact hlay⟩, rfl, (updS rfl (updS rfl (updS rfl rfl))), rfl⟩, Sub.any⟩
    first | omega | (simp; omega)
  ·
   obtain rfl : n = W.count := by omega
   rw [Nat.sub_self] at hlay
   obtain rfl : D' = wipeD W al D (W.dur / 256) (W.count - W.dur / 256) := hlay
   refine T.exit ?_
   refine T.region ?_
   refine LW.q rfl (Qt.move rfl) ?_
   refine LW.q rfl (Qt.nilCheck rfl) ?_
   refine LW.q rfl (Qt.fieldAddr0 (by kernel_rfl) rfl) ?_
   refine LW.q rfl (Qt.fieldAddr0 (by kernel_rfl) rfl) ?_
   first | refine LW.q rfl (Qt.load (by kernel_rfl) rfl rfl) ?_ | refine LW.q rfl (Qt.load (by kernel_rfl) rfl (map_at _ _ _ (by omega))) ?_ | refine LW.q rfl (Qt.load (by kernel_rfl) rfl (flat_cell0 _ _ _ (by intros; rfl) _ (by omega) (by rfl))) ?_ | refine LW.q rfl (Qt.load (by kernel_rfl) rfl (flat_cell _ _ _ (by intros; rfl) _ _ (by omega) (by rfl))) ?_ | refine LW.q rfl (Qt.load (by kernel_rfl) rfl (bytes_at _ _ (by omega))) ?_
   refine LW.e rfl (Ef.call (Dk.syncF B b (wipeD W al D (W.dur / 256) (W.count - W.dur / 256)) (by omega)) Tryz.func59 rfl rfl rfl ?_)
   rintro _ _ ⟨rfl, rfl⟩
   try simp only [List.cons_append, List.nil_append]
   refine LW.done ?_
   exact ⟨.inr rfl, _, _, res [] rfl trivial, ⟨rfl, rfl⟩, Sub.any⟩
end Go.Proofs.YtegohgaccmkigaaGreatDoor

/- bytes.Clone. Conditions: that what is handed in can be read. -/
set_option linter.unusedSimpArgs false
set_option linter.unusedVariables false
namespace Go.Proofs.YtegohgaccmkigaaGreatDoor
open Go.RowKit

set_option maxHeartbeats 1000000 in
set_option maxRecDepth 100000 in
theorem Bc.clone (B : Base) (S : List Assn) (v : Value) (b : List UInt8) (m : Nat) (hm : b.length = m) (hv : RdV B S v (bytesV b)) (hb : m < 2 ^ 40) : Fn Tryz.prog B 42 #[v] S (fun u l => ∃ p c, u = .slice p m c ∧ (0 < m → ∃ g, p = some ⟨g, 0, none⟩) ∧ l = rB (.slice p m c) m b :: S) := by
 subst hm
 obtain ⟨a, c, rfl⟩ := hv.form (m := b.length) (by simp)
 refine Fn.enter1 8 Tryz.func42 rfl rfl (Nat.le_of_ble_eq_true rfl) (fun F => ?_)
 try simp only [List.cons_append, List.nil_append]
 refine T.seq ?_
 refine T.region ?_
 refine LW.q rfl (Qt.assign rfl) ?_
 refine LW.done ?_
 refine T.seq ?_
 refine T.seq ?_
 refine T.region ?_
 refine LW.q rfl (Qt.move rfl) ?_
 refine LW.q rfl (Qt.eqlSl (by kernel_rfl) rfl rfl) ?_
 refine LW.done ?_
 refine T.cond rfl (fun h => ?_) (fun h => ?_)
 ·
  have hb0 : b = [] := by rcases Nat.eq_zero_or_pos b.length with h0 | h0; exact List.eq_nil_of_length_eq_zero h0; obtain ⟨g, o, rfl, _⟩ := hv.at h0; cases h
  subst hb0
  refine T.conv (l' := rB (.slice none ([] : List UInt8).length 0) ([] : List UInt8).length [] :: (S ++ F)) (fun w ho => ho.row_nil _ _) ?_
  refine T.seq ?_
  refine T.region ?_
  refine LW.q rfl (Qt.assign rfl) ?_
  refine LW.done ?_
  refine T.ret ?_
  exact ⟨.inl rfl, _, _, res [_] rfl ⟨rvT rfl, trivial⟩, ⟨none, 0, rfl, fun h => by simp at h, rfl⟩, Sub.any⟩
 ·
  refine T.skip ?_
  refine T.seq ?_
  refine T.region ?_
  refine LW.e rfl (Ef.empty Cd.elemB ?_)
  rintro g5
  try simp only [List.cons_append, List.nil_append]
  refine LW.q rfl (Qt.move rfl) ?_
  refine LW.e rfl (Ef.append Cd.elemB rfl rfl (SrcOf.rd (m := b.length) (hv.mono (fun w ho => ho.tl.drop)) (by kernel_rfl) (by simp) one_bytesV) (by unfold maxLen; omega) (by omega) ?_)
  rintro p1 c1 hp1
  try simp only [List.cons_append, List.nil_append]
  simp only [Nat.zero_add, List.nil_append]
  refine LW.q rfl (Qt.assign rfl) ?_
  refine LW.done ?_
  refine T.ret ?_
  exact ⟨.inl rfl, _, _, res [_] rfl ⟨rvT rfl, trivial⟩, ⟨_, _, rfl, fun h => hp1 (by omega), rfl⟩, Sub.any⟩
end Go.Proofs.YtegohgaccmkigaaGreatDoor

/- The package wal: what Open finds; Open refused. Conditions: none. -/
set_option linter.unusedSimpArgs false
set_option linter.unusedVariables false
namespace Go.Proofs.YtegohgaccmkigaaGreatDoor
open Go.RowKit

/-- The record that begins at k, by the sum ahead of it: its length, its sum. -/
def takeRec (al : List UInt8) (k : Nat) (s : UInt32) : Option (Nat × UInt32) :=
  if (al.drop k).length < 8 then none
  else if (get64 ((al.drop k).take 4)).toNat = 0 ∨ 1024 < (get64 ((al.drop k).take 4)).toNat ∨ (al.drop k).length - 8 < (get64 ((al.drop k).take 4)).toNat ∨ sealW s k (((al.drop k).take (8 + (get64 ((al.drop k).take 4)).toNat)).drop 8) ≠ (get64 (((al.drop k).take 8).drop 4)).toUInt32 then none
  else some ((get64 ((al.drop k).take 4)).toNat, (get64 (((al.drop k).take 8).drop 4)).toUInt32)
/-- The records from k on: where they end, the last one's sum, each one's end and bytes. -/
def scanW (al : List UInt8) : Nat → Nat → UInt32 → Nat × UInt32 × List (Nat × List UInt8)
  | 0, k, s => (k, s, [])
  | f + 1, k, s => match takeRec al k s with
    | none => (k, s, [])
    | some (n, s') => ((scanW al f (k + (8 + n)) s').1, (scanW al f (k + (8 + n)) s').2.1, (k + (8 + n), ((al.drop k).take (8 + n)).drop 8) :: (scanW al f (k + (8 + n)) s').2.2)
theorem wru32_u64 (x : UInt64) : IntKind.u32.wrap (x.toNat : Int) = (x.toUInt32.toNat : Int) := by
  simp [IntKind.wrap, IntKind.bits, IntKind.signed]

end Go.Proofs.YtegohgaccmkigaaGreatDoor
