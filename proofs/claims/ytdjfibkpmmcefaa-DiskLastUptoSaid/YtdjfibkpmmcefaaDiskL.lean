/- A disk that is written on in a loop: what stands of it at each round; plain facts on its writes. -/
import Derived.Test.YtdjfibkpmmcefaaDiskJ
import Derived.Test.YtdjfibkpmmcefaaLaw
namespace Go.Proofs.Ytdjfibkpmmcefaa
open Go.RowKit

/-- Since the world ws the disk at b has come to D'. -/
def Evo (ws : World) (b bs cx : Nat) (X : List Value) (pv0 : Value) (wr : World) (D' : DD) : Prop :=
  ∃ pv', DiskAt wr b D' bs cx X pv' ∧ (∀ g, pv'.ownBlock = some g → pv0.ownBlock = some g ∨ ws.heap.size ≤ g) ∧ Kept (dfp b bs pv0) ws wr

theorem Evo.start {ws : World} {b bs cx : Nat} {X : List Value} {pv0 : Value} {D : DD} (h : DiskAt ws b D bs cx X pv0) : Evo ws b bs cx X pv0 ws D := ⟨pv0, h, fun _ h => .inl h, Kept.refl _ _⟩

theorem dfp_evo {ws : World} {b bs : Nat} {pv0 pv' : Value} (hb : ∀ g, pv'.ownBlock = some g → pv0.ownBlock = some g ∨ ws.heap.size ≤ g) : ∀ x ∈ dfp b bs pv', x ∈ dfp b bs pv0 ∨ ws.heap.size ≤ x := by
  intro x hx
  simp only [dfp, List.mem_cons, Option.mem_toList] at hx ⊢
  rcases hx with rfl | rfl | hx
  · exact .inl (.inl rfl)
  · exact .inl (.inr (.inl rfl))
  · rcases hb x hx with h | h
    · exact .inl (.inr (.inr h))
    · exact .inr h

theorem Evo.write {ws wr w1 w2 : World} {b bs cx : Nat} {X : List Value} {pv0 pvk pvn : Value} {D' : DD} (hb : ∀ g, pvk.ownBlock = some g → pv0.ownBlock = some g ∨ ws.heap.size ≤ g) (hk : Kept (dfp b bs pv0) ws wr) (h1 : Kept [] wr w1)
    (h2 : DiskAt w2 b D' bs cx X pvn) (hn : ∀ g, pvn.ownBlock = some g → pvk.ownBlock = some g ∨ w1.heap.size ≤ g) (h3 : Kept (dfp b bs pvk) w1 w2) : Evo ws b bs cx X pv0 w2 D' := by
  have hs := hk.size
  have hs1 := h1.size
  refine ⟨pvn, h2, fun g hg => ?_, (hk.trans h1 (by simp)).trans h3 (dfp_evo hb)⟩
  rcases hn g hg with h | h
  · exact hb g h
  · right; omega

def DD.puts (m : Nat) (D : DD) (xs : List UInt8) : DD := ⟨D.secs, D.pend ++ xs.zipIdx.map fun p => (p.2 % m, sect p.1)⟩
theorem DD.puts_nil (m : Nat) (D : DD) : D.puts m [] = D := by simp [DD.puts]
theorem DD.puts_len (m : Nat) (D : DD) (xs : List UInt8) : (D.puts m xs).pend.length = D.pend.length + xs.length := by simp [DD.puts]
theorem DD.puts_succ (m : Nat) (D : DD) (xs : List UInt8) (k : Nat) (h : k < xs.length) : D.puts m (xs.take (k + 1)) = (D.puts m (xs.take k)).write (k % m) (sect xs[k]) := by
  simp only [DD.puts, DD.write, DD.mk.injEq, true_and]
  rw [List.take_succ_eq_append_getElem h, List.zipIdx_append, List.map_append, List.append_assoc]
  have hm : min k xs.length = k := by omega
  simp [hm]

theorem Reads.bytes_at {w : World} {va : Option Addr} {n vc : Nat} {l : List UInt8} {fp : List Nat} (h : Reads w (.slice va n vc) (bytesV l) fp) (k : Nat) (hk : k < l.length) :
    ∃ vb vo, va = some ⟨vb, vo, none⟩ ∧ vb ∈ fp ∧ ∀ j (hj : j < l.length), w.cell? ⟨vb, vo + j, none⟩ = some (.int .u8 (l[j]).toNat) := by
  obtain ⟨a, cap, hv, h | ⟨b, o, rfl, hr, hb⟩⟩ := h
  · simp [bytesV] at h; subst h; simp at hk
  · injection hv with hv
    exact ⟨b, o, hv, hb, fun j hj => hr j _ (by simp [bytesV, hj])⟩

theorem wrap_u8_succ (x : UInt8) : IntKind.u8.wrap ((x.toNat : Int) + 1) = (((x + 1 : UInt8).toNat : Nat) : Int) := by
  have h := x.toNat_lt
  rw [UInt8.toNat_add]
  simp [IntKind.wrap, IntKind.bits, IntKind.signed]

def DD.puts2 (D : DD) (xs : List UInt8) : DD := ⟨D.secs, D.pend ++ xs.zipIdx.map fun p => (p.2, sect (p.1 + 1))⟩
theorem DD.puts2_nil (D : DD) : D.puts2 [] = D := by simp [DD.puts2]
theorem DD.puts2_len (D : DD) (xs : List UInt8) : (D.puts2 xs).pend.length = D.pend.length + xs.length := by simp [DD.puts2]
theorem DD.puts2_succ (D : DD) (xs : List UInt8) (k : Nat) (h : k < xs.length) : D.puts2 (xs.take (k + 1)) = (D.puts2 (xs.take k)).write k (sect (xs[k] + 1)) := by
  simp only [DD.puts2, DD.write, DD.mk.injEq, true_and]
  rw [List.take_succ_eq_append_getElem h, List.zipIdx_append, List.map_append, List.append_assoc]
  have hm : min k xs.length = k := by omega
  simp [hm]

/-- What a crash leaves of a sector where write number i goes to sector i. -/
theorem DD.lays_at (D : DD) (xs : List UInt8) (hp : D.pend = []) (hx : xs.length ≤ D.secs.length) (f : Nat → Option Nat) (n : Nat) (hn : n < D.secs.length) :
    ∀ k, k ≤ xs.length → ((D.puts2 xs).lays f k).length = D.secs.length ∧ ((D.puts2 xs).lays f k).getD n [] =
      if n < k then (match f n with | some q => (sect ((xs.getD n 0) + 1)).take q ++ (D.secs.getD n []).drop q | none => D.secs.getD n []) else D.secs.getD n []
  | 0, _ => ⟨rfl, by rw [if_neg (by omega)]; rfl⟩
  | k + 1, hk => by
    obtain ⟨ihl, ih⟩ := DD.lays_at D xs hp hx f n hn k (by omega)
    have hlt : k < (D.puts2 xs).pend.length := by rw [DD.puts2_len, hp]; simp; omega
    have hg : (D.puts2 xs).pend[k] = (k, sect (xs[k] + 1)) := by
      simp [DD.puts2, hp]
    cases hf : f k with
    | none =>
      rw [DD.lays_none _ f k hlt hf]
      refine ⟨ihl, ?_⟩
      rw [ih]
      by_cases h1 : n < k
      · rw [if_pos h1, if_pos (by omega)]
      · rw [if_neg h1]
        by_cases h2 : n = k
        · subst h2; rw [if_pos (by omega), hf]
        · rw [if_neg (by omega)]
    | some q =>
      rw [DD.lays_some _ f k q hlt hf, hg]
      refine ⟨by rw [length_layW]; exact ihl, ?_⟩
      unfold layW
      by_cases h2 : n = k
      · subst h2
        have hnl : n < ((D.puts2 xs).lays f n).length := by rw [ihl]; exact hn
        rw [if_neg (by omega)] at ih
        rw [if_pos (by omega), hf]
        simp only [ih]
        rw [List.getD_eq_getElem?_getD, List.getElem?_set_self hnl]
        simp [List.getD_eq_getElem?_getD, List.getElem?_eq_getElem (show n < xs.length by omega)]
      · rw [List.getD_eq_getElem?_getD, List.getElem?_set_ne (fun e => h2 e.symm), ← List.getD_eq_getElem?_getD, ih]
        by_cases h1 : n < k
        · rw [if_pos h1, if_pos (by omega)]
        · rw [if_neg h1, if_neg (by omega)]

theorem DD.read_nil (D : DD) (hp : D.pend = []) (n : Nat) : D.read n = D.secs.getD n [] := by
  unfold DD.read; rw [hp]; exact DD.readK_zero D n

/-- The three ways in which a sector comes out of the crash. -/
theorem DD.crash_kept (D : DD) (xs : List UInt8) (hp : D.pend = []) (hx : xs.length ≤ D.secs.length) (keep : List Bool) (t0 t1 : Int) (n : Nat) (hn : n < xs.length) (ht : (n : Int) ≠ t0) (hk : keep.getD n false = true) (hs : (D.secs.getD n []).length = 256) :
    ((D.puts2 xs).crash keep t0 t1).read n = sect (xs[n] + 1) := by
  rw [DD.read_nil _ rfl]
  have hl : (D.puts2 xs).pend.length = xs.length := by rw [DD.puts2_len, hp]; simp
  have := (DD.lays_at D xs hp hx (amount keep t0 t1) n (by omega) xs.length (Nat.le_refl _)).2
  simp only [DD.crash, hl]
  rw [this, if_pos hn]
  have ha : amount keep t0 t1 n = some 256 := by unfold amount; rw [if_neg ht, if_pos hk]
  rw [ha]
  simp only
  generalize h256 : (256 : Nat) = q at *
  rw [List.take_of_length_le (by rw [length_sect]; omega), List.drop_of_length_le (by omega), List.append_nil]
  simp [List.getElem?_eq_getElem hn]
theorem DD.crash_old (D : DD) (xs : List UInt8) (hp : D.pend = []) (hx : xs.length ≤ D.secs.length) (keep : List Bool) (t0 t1 : Int) (n : Nat) (hn : n < D.secs.length) (h : n < xs.length → (n : Int) ≠ t0 ∧ keep.getD n false = false) :
    ((D.puts2 xs).crash keep t0 t1).read n = D.read n := by
  rw [DD.read_nil _ rfl, DD.read_nil _ hp]
  have hl : (D.puts2 xs).pend.length = xs.length := by rw [DD.puts2_len, hp]; simp
  have := (DD.lays_at D xs hp hx (amount keep t0 t1) n hn xs.length (Nat.le_refl _)).2
  simp only [DD.crash, hl]
  rw [this]
  split
  · rename_i h1
    obtain ⟨h2, h3⟩ := h h1
    have ha : amount keep t0 t1 n = none := by unfold amount; rw [if_neg h2, if_neg (by rw [h3]; simp)]
    rw [ha]
  · rfl
end Go.Proofs.Ytdjfibkpmmcefaa
