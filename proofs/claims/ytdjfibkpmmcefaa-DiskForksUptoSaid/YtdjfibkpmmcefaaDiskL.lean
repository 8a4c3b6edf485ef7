/- A disk that is written on in a loop: what stands of it at each round; plain facts on its writes. -/
import Derived.Test.YtdjfibkpmmcefaaDiskJ
import Derived.Test.YtdjfibkpmmcefaaLaw
namespace Go.Proofs.Ytdjfibkpmmcefaa
open Go.RowKit

/-- Since the world ws the disk at b has come to D'. -/
def Evo (ws : World) (b bs cx : Nat) (X : List Value) (pv0 : Value) (wr : World) (D' : DD) : Prop :=
  ∃ pv', DiskAt wr b D' bs cx X pv' ∧ (∀ g, pv'.ownBlock = some g → pv0.ownBlock = some g ∨ ws.heap.size ≤ g) ∧ Kept (dfp b bs pv0) ws wr

theorem Evo.start {ws : World} {b bs cx : Nat} {X : List Value} {pv0 : Value} {D : DD} (h : DiskAt ws b D bs cx X pv0) : Evo ws b bs cx X pv0 ws D := ⟨pv0, h, fun _ h => .inl h, Kept.refl _ _⟩

theorem dfp_evo {ws : World} {b bs : Nat} {pv0 pv' : Value} (hb : ∀ g, pv'.ownBlock = some g → pv0.ownBlock = some g ∨ ws.heap.size ≤ g) : ∀ x ∈ dfp b bs pv', x ∈ dfp b bs pv0 ∨ ws.heap.size ≤ x := by
  intro x hx
  simp only [dfp, List.mem_cons, Option.mem_toList] at hx ⊢
  rcases hx with rfl | rfl | hx
  · exact .inl (.inl rfl)
  · exact .inl (.inr (.inl rfl))
  · rcases hb x hx with h | h
    · exact .inl (.inr (.inr h))
    · exact .inr h

theorem Evo.write {ws wr w1 w2 : World} {b bs cx : Nat} {X : List Value} {pv0 pvk pvn : Value} {D' : DD} (hb : ∀ g, pvk.ownBlock = some g → pv0.ownBlock = some g ∨ ws.heap.size ≤ g) (hk : Kept (dfp b bs pv0) ws wr) (h1 : Kept [] wr w1)
    (h2 : DiskAt w2 b D' bs cx X pvn) (hn : ∀ g, pvn.ownBlock = some g → pvk.ownBlock = some g ∨ w1.heap.size ≤ g) (h3 : Kept (dfp b bs pvk) w1 w2) : Evo ws b bs cx X pv0 w2 D' := by
  have hs := hk.size
  have hs1 := h1.size
  refine ⟨pvn, h2, fun g hg => ?_, (hk.trans h1 (by simp)).trans h3 (dfp_evo hb)⟩
  rcases hn g hg with h | h
  · exact hb g h
  · right; omega

def DD.puts (m : Nat) (D : DD) (xs : List UInt8) : DD := ⟨D.secs, D.pend ++ xs.zipIdx.map fun p => (p.2 % m, sect p.1)⟩
theorem DD.puts_nil (m : Nat) (D : DD) : D.puts m [] = D := by simp [DD.puts]
theorem DD.puts_len (m : Nat) (D : DD) (xs : List UInt8) : (D.puts m xs).pend.length = D.pend.length + xs.length := by simp [DD.puts]
theorem DD.puts_succ (m : Nat) (D : DD) (xs : List UInt8) (k : Nat) (h : k < xs.length) : D.puts m (xs.take (k + 1)) = (D.puts m (xs.take k)).write (k % m) (sect xs[k]) := by
  simp only [DD.puts, DD.write, DD.mk.injEq, true_and]
  rw [List.take_succ_eq_append_getElem h, List.zipIdx_append, List.map_append, List.append_assoc]
  have hm : min k xs.length = k := by omega
  simp [hm]

theorem Reads.bytes_at {w : World} {va : Option Addr} {n vc : Nat} {l : List UInt8} {fp : List Nat} (h : Reads w (.slice va n vc) (bytesV l) fp) (k : Nat) (hk : k < l.length) :
    ∃ vb vo, va = some ⟨vb, vo, none⟩ ∧ vb ∈ fp ∧ ∀ j (hj : j < l.length), w.cell? ⟨vb, vo + j, none⟩ = some (.int .u8 (l[j]).toNat) := by
  obtain ⟨a, cap, hv, h | ⟨b, o, rfl, hr, hb⟩⟩ := h
  · simp [bytesV] at h; subst h; simp at hk
  · injection hv with hv
    exact ⟨b, o, hv, hb, fun j hj => hr j _ (by simp [bytesV, hj])⟩
end Go.Proofs.Ytdjfibkpmmcefaa
