/- The disk's contracts in the form in which the statements call them; the statements' guard 'awake' is true. -/
import Derived.Test.YtjjhbpjbngdlnaaDoorDiskI
namespace Go.Proofs.YtjjhbpjbngdlnaaDoor
open Go.RowKit

def NewP (n : Nat) (w : World) (e : Ending) (w' : World) : Prop :=
  ∃ b bs cx X pv, e = .returned (.tuple #[.pointer (some ⟨b, 0, none⟩), .int .i64 0]) ∧ DiskAt w' b (DD.zero n) bs cx X pv ∧ (∀ x ∈ dfp b bs pv, w.heap.size ≤ x) ∧ Kept [] w w'
theorem Dk.newI (n : Nat) (i : Int) (w : World) (hi : i = n) (h1 : 1 ≤ n) (h2 : n ≤ 4096) : Calls Tryd.prog 24 #[.int .i64 i] w (NewP n w) := by
  subst hi
  refine (Dk.new n w h1 h2).mono ?_
  rintro e w' ⟨b, fp, rfl, ⟨bs, cx, X, pv, hd, rfl⟩, h3, h4⟩
  exact ⟨b, bs, cx, X, pv, rfl, hd, h3, h4⟩

theorem block_range {w : World} {g : Nat} {C : List Value} {t : TypeId} {fr : Nat × Nat} (h : w.heap[g]? = some (.cells C.toArray t fr)) : w.rangeAt g 0 C := fun j v hv => by
  have := cells_from h 0 C (by simp) j v hv
  rwa [Addr.add_mid] at this

/-- Write with 256 bytes that lie somewhere else. -/
theorem Dk.writeI (b bs bb ob c cx n : Nat) (i : Int) (X : List Value) (D : DD) (pv : Value) (d : List UInt8) (w : World) (hi : i = n) (h : DiskAt w b D bs cx X pv) (hn : n < D.secs.length) (hr : w.rangeAt bb ob (bytesV d)) (hd : d.length = 256)
    (hbb : bb ∉ dfp b bs pv) (hroom : D.pend.length < 2 ^ 32) :
    Calls Tryd.prog 34 #[.pointer (some ⟨b, 0, none⟩), .int .i64 i, .slice (some ⟨bb, ob, none⟩) 256 c] w (WritePost w b bs cx X D pv n d) := by
  subst hi; exact Dk.write b bs n bb ob c cx X D pv d w h hn hr hd hbb hroom

def ReadP (d : List UInt8) (w : World) (e : Ending) (w' : World) : Prop :=
  ∃ g cap, e = .returned (.tuple #[.slice (some ⟨g, 0, none⟩) 256 cap, .int .i64 0]) ∧ w'.ownsRow 0 5 1 (.slice (some ⟨g, 0, none⟩) 256 cap) 256 (bytesV d) ∧ d.length = 256 ∧ w.heap.size ≤ g ∧ Kept [] w w'
theorem Dk.readI (b bs n cx : Nat) (i : Int) (X : List Value) (D : DD) (pv : Value) (w : World) (hi : i = n) (h : DiskAt w b D bs cx X pv) (hn : n < D.secs.length) (hroom : D.pend.length < 2 ^ 32) :
    Calls Tryd.prog 43 #[.pointer (some ⟨b, 0, none⟩), .int .i64 i] w (ReadP (D.read n) w) := by
  subst hi
  have hl : (D.read n).length = 256 := h.ok.readK n hn _ (Nat.le_refl _)
  refine (Dk.read b bs n cx X D pv w h hn hroom).mono ?_
  rintro e w' ⟨g, cap, rfl, h1, h2, h3⟩
  rw [hl] at h1 ⊢
  exact ⟨g, cap, rfl, h1, hl, h2, h3⟩

theorem Dk.pendingI (b bs cx : Nat) (X : List Value) (D : DD) (pv : Value) (w : World) (h : DiskAt w b D bs cx X pv) :
    Calls Tryd.prog 44 #[.pointer (some ⟨b, 0, none⟩)] w fun e w' => e = .returned (.int .i64 D.pend.length) ∧ w = w' := by
  obtain ⟨p, c, hp⟩ := owns_slice h.hp
  have h1 := h.c1
  rw [hp] at h1
  exact Dk.pending b p _ c w h1

theorem owns_cell {w : World} {base : Nat} {e : TypeId} {g n cap : Nat} {d : List UInt8} (h : w.ownsRow base e 1 (.slice (some ⟨g, 0, none⟩) n cap) n (bytesV d)) (i : Nat) (hi : i < d.length) : w.cell? ⟨g, i, none⟩ = some (.int .u8 (d[i]).toNat) := by
  have hl := h.1
  rw [length_bytesV] at hl
  rw [h.cellAt i (by omega)]
  simp [bytesV, hi]

end Go.Proofs.YtjjhbpjbngdlnaaDoor
