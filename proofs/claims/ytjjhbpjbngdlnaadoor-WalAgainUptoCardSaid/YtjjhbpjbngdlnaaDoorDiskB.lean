/- Contracts of the package disk, second part: what a disk is in memory; New, Write. -/
import Derived.Test.YtjjhbpjbngdlnaaDoorDiskA
import Derived.Test.YtjjhbpjbngdlnaaDoorApp
namespace Go.Proofs.YtjjhbpjbngdlnaaDoor
open Go.RowKit

/-- A disk's sectors, and the writes that aren't durable yet. -/
structure DD where
  secs : List (List UInt8)
  pend : List (Nat × List UInt8)

structure DD.Ok (D : DD) : Prop where
  pos : 0 < D.secs.length
  max : D.secs.length ≤ 4096
  secs : ∀ s ∈ D.secs, s.length = 256
  at_ : ∀ p ∈ D.pend, p.1 < D.secs.length
  data : ∀ p ∈ D.pend, p.2.length = 256

def pendV (p : Nat × List UInt8) : List Value := .int .i64 p.1 :: bytesV p.2
def secsV (l : List (List UInt8)) : List Value := l.flatMap bytesV
def pendsV (l : List (Nat × List UInt8)) : List Value := l.flatMap pendV

theorem one_secsV {l : List (List UInt8)} : ∀ v ∈ secsV l, v.oneCell' = true := by
  intro v hv; simp only [secsV, List.mem_flatMap] at hv; obtain ⟨b, _, hb⟩ := hv; exact one_bytesV v hb
theorem one_pendV {p : Nat × List UInt8} : ∀ v ∈ pendV p, v.oneCell' = true := by
  intro v hv; simp only [pendV, List.mem_cons] at hv
  rcases hv with rfl | hv
  · rfl
  · exact one_bytesV v hv
theorem one_pendsV {l : List (Nat × List UInt8)} : ∀ v ∈ pendsV l, v.oneCell' = true := by
  intro v hv; simp only [pendsV, List.mem_flatMap] at hv; obtain ⟨b, _, hb⟩ := hv; exact one_pendV v hb
theorem DD.Ok.lenSecs {D : DD} (h : D.Ok) : (secsV D.secs).length = D.secs.length * 256 := flat_length _ _ _ (fun x hx => by simpa using h.secs x hx)
theorem DD.Ok.lenPend {D : DD} (h : D.Ok) : (pendsV D.pend).length = D.pend.length * 257 := flat_length _ _ _ (fun x hx => by simp [pendV, h.data x hx])

/-- The disk at block b of a world: its header, its sectors in block bs, its writes behind the slice pv. -/
structure DiskAt (w : World) (b : Nat) (D : DD) (bs cx : Nat) (X : List Value) (pv : Value) : Prop where
  ok : D.Ok
  hb : w.heap[b]? = some (.cells #[.slice (some ⟨bs, 0, none⟩) D.secs.length cx, pv] 111 (0, 0))
  hs : w.heap[bs]? = some (.cells (secsV D.secs ++ X).toArray 128 (0, 0))
  hp : w.ownsRow 0 130 257 pv D.pend.length (pendsV D.pend)
  n1 : b ≠ bs
  n2 : ∀ g, pv.ownBlock = some g → g ≠ b ∧ g ≠ bs

def dfp (b bs : Nat) (pv : Value) : List Nat := b :: bs :: pv.ownBlock.toList

/-- The disk at block b, with the blocks that it lies in. -/
def Disk (w : World) (b : Nat) (D : DD) (fp : List Nat) : Prop := ∃ bs cx X pv, DiskAt w b D bs cx X pv ∧ fp = dfp b bs pv

theorem DiskAt.kept {w w' : World} {b bs cx : Nat} {X : List Value} {D : DD} {pv : Value} {fp : List Nat} (h : DiskAt w b D bs cx X pv) (hk : Kept fp w w') (hd : ∀ x ∈ dfp b bs pv, x ∉ fp) : DiskAt w' b D bs cx X pv :=
  ⟨h.ok, (hk.block _ (lt_of_block h.hb) (hd _ (by simp [dfp]))).trans h.hb, (hk.block _ (lt_of_block h.hs) (hd _ (by simp [dfp]))).trans h.hs,
    owns_kept h.hp hk (fun g hg => hd g (by simp [dfp, hg])), h.n1, h.n2⟩
theorem Disk.kept {w w' : World} {b : Nat} {D : DD} {fp fp' : List Nat} (h : Disk w b D fp) (hk : Kept fp' w w') (hd : ∀ x ∈ fp, x ∉ fp') : Disk w' b D fp := by
  obtain ⟨bs, cx, X, pv, h, rfl⟩ := h
  exact ⟨bs, cx, X, pv, h.kept hk hd, rfl⟩
theorem DiskAt.lt {w : World} {b bs cx : Nat} {X : List Value} {D : DD} {pv : Value} (h : DiskAt w b D bs cx X pv) : ∀ x ∈ dfp b bs pv, x < w.heap.size := by
  intro x hx
  simp only [dfp, List.mem_cons, Option.mem_toList] at hx
  rcases hx with rfl | rfl | hx
  · exact lt_of_block h.hb
  · exact lt_of_block h.hs
  · exact (h.hp.lt x hx).2
theorem Disk.lt {w : World} {b : Nat} {D : DD} {fp : List Nat} (h : Disk w b D fp) : ∀ x ∈ fp, x < w.heap.size := by
  obtain ⟨bs, cx, X, pv, h, rfl⟩ := h
  exact h.lt

/-- The slice that New and Write's pending have: its outer form. -/
theorem owns_slice {w : World} {base : Nat} {e : TypeId} {size : Nat} {v : Value} {n : Nat} {xs : List Value} (h : w.ownsRow base e size v n xs) : ∃ p cap, v = .slice p n cap := by
  rcases h.2 with ⟨rfl, rfl⟩ | ⟨g, cap, cur, rfl, _⟩
  · exact ⟨_, _, rfl⟩
  · exact ⟨_, _, rfl⟩

theorem DiskAt.c0 {w : World} {b bs cx : Nat} {X : List Value} {D : DD} {pv : Value} (h : DiskAt w b D bs cx X pv) : w.cell? ⟨b, 0, none⟩ = some (.slice (some ⟨bs, 0, none⟩) D.secs.length cx) := by
  rw [cell_of_row w b 0 _ _ _ h.hb]; rfl
theorem DiskAt.c1 {w : World} {b bs cx : Nat} {X : List Value} {D : DD} {pv : Value} (h : DiskAt w b D bs cx X pv) : w.cell? ⟨b, 1, none⟩ = some pv := by
  rw [cell_of_row w b 1 _ _ _ h.hb]; rfl
theorem DiskAt.f1 {w : World} {b bs cx : Nat} {X : List Value} {D : DD} {pv : Value} (h : DiskAt w b D bs cx X pv) : w.frozen? ⟨b, 1, none⟩ = false := frozen_of_row w b 1 _ _ h.hb

def zsec : Value := .agg (List.replicate 256 (.int .u8 0)).toArray
theorem Dk.info64 : (Tryd.prog.info? 128).map (fun i => (i.zero, i.size, i.bytes)) = some (some zsec, 256, 256) := by kernel_rfl
theorem bytesV_zeros (n : Nat) : bytesV (List.replicate n 0) = List.replicate n (.int .u8 0) := by simp [bytesV]
theorem secsV_zeros (n m : Nat) : secsV (List.replicate n (List.replicate m 0)) = List.replicate (n * m) (.int .u8 0) := by
  induction n with
  | zero => simp [secsV]
  | succ n ih =>
    rw [List.replicate_succ]
    show bytesV _ ++ secsV _ = _
    rw [ih, bytesV_zeros, List.replicate_append_replicate]
    congr 1
    rw [Nat.add_mul, Nat.one_mul, Nat.add_comm]

/-- A sector of noughts. -/
def zs : List UInt8 := List.replicate 256 0
theorem length_zs : zs.length = 256 := List.length_replicate
def DD.zero (n : Nat) : DD := ⟨List.replicate n zs, []⟩

set_option maxHeartbeats 400000 in
set_option maxRecDepth 100000 in
theorem Dk.new_no (n : Int) (w : World) (h : n < 1 ∨ 4096 < n) :
    Calls Tryd.prog 24 #[.int .i64 n] w fun e w' => e = .returned (.tuple #[.pointer none, .int .i64 1]) ∧ w = w' := by
  rcases h with h | h
  · go_enter Tryd.func24, Tryd.ntmps24
    go_wp2
    go_ret2
    exact ⟨rfl, rfl⟩
  · have h' : decide (n < 1) = false := by simp; omega
    go_enter Tryd.func24, Tryd.ntmps24
    go_wp2
    go_ret2
    exact ⟨rfl, rfl⟩

def NewPost (n : Nat) (w : World) (e : Ending) (w' : World) : Prop :=
  ∃ b fp, e = .returned (.tuple #[.pointer (some ⟨b, 0, none⟩), .int .i64 0]) ∧ Disk w' b (DD.zero n) fp ∧ (∀ x ∈ fp, w.heap.size ≤ x) ∧ Kept [] w w'

set_option maxHeartbeats 400000 in
set_option maxRecDepth 100000 in
theorem Dk.new (n : Nat) (w : World) (h1 : 1 ≤ n) (h2 : n ≤ 4096) : Calls Tryd.prog 24 #[.int .i64 n] w (NewPost n w) := by
  have h1' : decide ((n : Int) < 1) = false := by simp; omega
  have h2' : decide (4096 < (n : Int)) = false := by simp; omega
  obtain ⟨i0, hi, hz0, hz1, hz2⟩ := info_parts Dk.info64
  go_enter Tryd.func24, Tryd.ntmps24
  go_wp2_with (at_make; refine wpList_make_full _ rfl _ _ _ rfl w.heap.size 128 i0 zsec 256 Tryd.underlying106 hi hz0 hz1 .i64 .i64 n n n rfl rfl rfl rfl (by rw [hz2]; omega) (by unfold maxLen; omega) (Nat.le_refl _) ?_; intro w1 ho1 hg1)
  go_ret2
  obtain ⟨hb1, _⟩ := owns_exact ho1
  have hz : (madeCells zsec.cells (n * 256)).toList = secsV (DD.zero n).secs := by
    rw [show zsec.cells = (List.replicate 256 (Value.int .u8 0)).toArray from rfl, made_replicate _ _ _ (by omega)]
    exact (secsV_zeros n 256).symm
  rw [hz] at hb1
  have hlt := lt_of_block hb1
  have hs1 : w.heap.size ≤ w1.heap.size := hg1.size
  refine ⟨w1.heap.size, dfp w1.heap.size w.heap.size (.slice none 0 0), rfl, ⟨w.heap.size, n, [], .slice none 0 0, ⟨⟨?_, ?_, ?_, ?_, ?_⟩, ?_, (Below.heap_alloc _ _ _ hlt).trans (by rw [List.append_nil]; exact hb1), World.ownsRow_nil _ _ _ _, ?_, ?_⟩, rfl⟩, ?_, ?_⟩
  · simp [DD.zero]; omega
  · simp [DD.zero]; omega
  · intro s hs; simp only [DD.zero, List.mem_replicate] at hs; rw [hs.2]; exact length_zs
  · intro p hp; simp [DD.zero] at hp
  · intro p hp; simp [DD.zero] at hp
  · rw [heap_alloc_new]; simp [DD.zero]
  · omega
  · intro g hg; simp [Value.ownBlock] at hg
  · intro x hx; simp [dfp, Value.ownBlock] at hx; omega
  · exact ((Kept.refl _ _).grown hg1 (by simp)).alloc _

end Go.Proofs.YtjjhbpjbngdlnaaDoor
