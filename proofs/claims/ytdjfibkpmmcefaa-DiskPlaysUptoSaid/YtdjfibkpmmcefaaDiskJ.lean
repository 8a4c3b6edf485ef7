/- The disk's contracts in the form in which the statements call them; the statements' guard 'awake' is true. -/
import Derived.Test.YtdjfibkpmmcefaaDiskI
namespace Go.Proofs.Ytdjfibkpmmcefaa
open Go.RowKit

def NewP (n : Nat) (w : World) (e : Ending) (w' : World) : Prop :=
  ∃ b bs cx X pv, e = .returned (.tuple #[.pointer (some ⟨b, 0, none⟩), .int .i64 0]) ∧ DiskAt w' b (DD.zero n) bs cx X pv ∧ (∀ x ∈ dfp b bs pv, w.heap.size ≤ x) ∧ Kept [] w w'
theorem Dk.newI (n : Nat) (i : Int) (w : World) (hi : i = n) (h1 : 1 ≤ n) (h2 : n ≤ 4096) : Calls Try.prog 11 #[.int .i64 i] w (NewP n w) := by
  subst hi
  refine (Dk.new n w h1 h2).mono ?_
  rintro e w' ⟨b, fp, rfl, ⟨bs, cx, X, pv, hd, rfl⟩, h3, h4⟩
  exact ⟨b, bs, cx, X, pv, rfl, hd, h3, h4⟩

theorem Dk.fullI (x : UInt8) (i : Int) (w : World) (hi : i = x.toNat) : Calls Try.prog 15 #[.int .u8 i] w (FullPost x w) := by subst hi; exact Dk.full x w

theorem block_range {w : World} {g : Nat} {C : List Value} {t : TypeId} {fr : Nat × Nat} (h : w.heap[g]? = some (.cells C.toArray t fr)) : w.rangeAt g 0 C := fun j v hv => by
  have := cells_from h 0 C (by simp) j v hv
  rwa [Addr.add_mid] at this

/-- Write with 256 bytes that lie somewhere else. -/
theorem Dk.writeI (b bs bb ob c cx n : Nat) (i : Int) (X : List Value) (D : DD) (pv : Value) (d : List UInt8) (w : World) (hi : i = n) (h : DiskAt w b D bs cx X pv) (hn : n < D.secs.length) (hr : w.rangeAt bb ob (bytesV d)) (hd : d.length = 256)
    (hbb : bb ∉ dfp b bs pv) (hroom : D.pend.length < 2 ^ 32) :
    Calls Try.prog 12 #[.pointer (some ⟨b, 0, none⟩), .int .i64 i, .slice (some ⟨bb, ob, none⟩) 256 c] w (WritePost w b bs cx X D pv n d) := by
  subst hi; exact Dk.write b bs n bb ob c cx X D pv d w h hn hr hd hbb hroom

def ReadP (d : List UInt8) (w : World) (e : Ending) (w' : World) : Prop :=
  ∃ g cap, e = .returned (.tuple #[.slice (some ⟨g, 0, none⟩) 256 cap, .int .i64 0]) ∧ w'.ownsRow 0 5 1 (.slice (some ⟨g, 0, none⟩) 256 cap) 256 (bytesV d) ∧ d.length = 256 ∧ w.heap.size ≤ g ∧ Kept [] w w'
theorem Dk.readI (b bs n cx : Nat) (i : Int) (X : List Value) (D : DD) (pv : Value) (w : World) (hi : i = n) (h : DiskAt w b D bs cx X pv) (hn : n < D.secs.length) (hroom : D.pend.length < 2 ^ 32) :
    Calls Try.prog 13 #[.pointer (some ⟨b, 0, none⟩), .int .i64 i] w (ReadP (D.read n) w) := by
  subst hi
  have hl : (D.read n).length = 256 := h.ok.readK n hn _ (Nat.le_refl _)
  refine (Dk.read b bs n cx X D pv w h hn hroom).mono ?_
  rintro e w' ⟨g, cap, rfl, h1, h2, h3⟩
  rw [hl] at h1 ⊢
  exact ⟨g, cap, rfl, h1, hl, h2, h3⟩

theorem Dk.pendingI (b bs cx : Nat) (X : List Value) (D : DD) (pv : Value) (w : World) (h : DiskAt w b D bs cx X pv) :
    Calls Try.prog 14 #[.pointer (some ⟨b, 0, none⟩)] w fun e w' => e = .returned (.int .i64 D.pend.length) ∧ w = w' := by
  obtain ⟨p, c, hp⟩ := owns_slice h.hp
  have h1 := h.c1
  rw [hp] at h1
  exact Dk.pending b p _ c w h1

theorem owns_cell {w : World} {base : Nat} {e : TypeId} {g n cap : Nat} {d : List UInt8} (h : w.ownsRow base e 1 (.slice (some ⟨g, 0, none⟩) n cap) n (bytesV d)) (i : Nat) (hi : i < d.length) : w.cell? ⟨g, i, none⟩ = some (.int .u8 (d[i]).toNat) := by
  have hl := h.1
  rw [length_bytesV] at hl
  rw [h.cellAt i (by omega)]
  simp [bytesV, hi]

set_option maxHeartbeats 1000000 in
theorem Dk.awake (w : World) : Calls Try.prog 10 #[] w fun e w' => e = .returned (.bool true) ∧ Kept [] w w' := by
  go_enter Try.func10, Try.ntmps10
  go_wp2_with fail
  refine (Dk.newI 2 _ _ rfl (by omega) (by omega)).mono ?_
  rintro e w1 ⟨b, bs, cx, X, pv, rfl, hD, hge, hk1⟩
  go_wp2_with fail
  refine (Dk.fullI 7 _ _ rfl).mono ?_
  rintro e w2 ⟨g, rfl, hg, hgl, hk2⟩
  have hD2 := hD.kept hk2 (by simp)
  go_wp2_with fail
  refine (Dk.writeI b bs g 0 256 cx 1 _ X _ pv (sect 7) _ rfl hD2 (by simp [DD.zero]) (block_range hg) (length_sect 7) (fun hm => by have := hD.lt g hm; omega) (by simp [DD.zero])).mono ?_
  rintro e w3 ⟨pv3, rfl, hD3, hb3, hk3⟩
  go_wp2_with fail
  refine (Dk.pendingI b bs cx X _ pv3 _ hD3).mono ?_
  rintro e w4 ⟨rfl, rfl⟩
  have hpl : ((DD.zero 2).write 1 (sect 7)).pend.length = 1 := rfl
  rw [hpl]
  go_wp2_with fail
  refine (Dk.readI b bs 1 cx _ X _ pv3 _ rfl hD3 (by simp [DD.write, DD.zero]) (by rw [hpl]; omega)).mono ?_
  rintro e w5 ⟨g5, c5, rfl, ho5, hl5, hg5, hk5⟩
  have hD5 := hD3.kept hk5 (by simp)
  have hr5 : ((DD.zero 2).write 1 (sect 7)).read 1 = sect 7 := rfl
  rw [hr5] at ho5
  go_wp2_with fail
  refine (Dk.crash b bs cx X _ pv3 _ [] [] (-1) 0 _ hD5 (by rw [hpl]; omega) (Reads.nil _) (by simp)).mono ?_
  rintro e w6 ⟨rfl, hD6, hk6⟩
  go_wp2_with fail
  refine (Dk.readI b bs 1 cx _ X _ _ _ rfl hD6 (by simp [DD.crash, DD.write, DD.zero, DD.lays, amount]) (by simp [DD.crash])).mono ?_
  rintro e w7 ⟨g7, c7, rfl, ho7, hl7, hg7, hk7⟩
  have hD7 := hD6.kept hk7 (by simp)
  have hr7 : (((DD.zero 2).write 1 (sect 7)).crash [] (-1) 0).read 1 = zs := rfl
  rw [hr7] at ho7
  have hlt5 : g5 < w5.heap.size := (ho5.lt g5 rfl).2
  have hkk : Kept [b, bs] w5 w7 := hk6.trans hk7 (by simp)
  have hb3 := hD3.lt
  have hc5 : w7.cell? ⟨g5, 9, none⟩ = some (.int .u8 7) := by
    rw [hkk.cell hlt5 (by have := lt_of_block hD3.hb; have := lt_of_block hD3.hs; simp; omega), owns_cell ho5 9 (by rw [length_sect]; omega)]
    rfl
  have hc7 : w7.cell? ⟨g7, 9, none⟩ = some (.int .u8 0) := by
    rw [owns_cell ho7 9 (by rw [length_zs]; omega)]
    rfl
  have hc0 := hD7.c0
  have hsl : (((DD.zero 2).write 1 (sect 7)).crash [] (-1) 0).secs.length = 2 := by simp [DD.crash, DD.write, DD.zero, DD.lays, amount]
  rw [hsl] at hc0
  have HK := Lib.hid ((((hk1.trans hk2 (by simp)).trans hk3 (fun x hx => .inr (hge x hx))).trans hk5 (by simp)).trans hkk (fun x hx => .inr (by have := hge b (by simp [dfp]); have := hge bs (by simp [dfp]); simp at hx; omega)))
  clear hk1 hk2 hk3 hk5 hk6 hk7 hkk hl5 hl7 hr5 hr7 hsl hpl hD hD2 hD3 hD5 hD6 hD7 ho5 ho7 hb3 hg5 hg7 hlt5
  go_wp2_with (go_at_call 22; refine (Dk.sectors _ _ _ _ _ _ (by assumption)).mono ?_; rintro e w' ⟨rfl, rfl⟩)
  go_ret
  exact ⟨rfl, HK.out⟩
end Go.Proofs.Ytdjfibkpmmcefaa
