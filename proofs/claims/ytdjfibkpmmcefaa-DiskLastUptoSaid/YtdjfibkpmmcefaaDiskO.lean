/- Plain facts for the law DiskLast: what a sector reads behind a write and behind Sync. -/
import Derived.Test.YtdjfibkpmmcefaaDiskL
namespace Go.Proofs.Ytdjfibkpmmcefaa
open Go.RowKit

theorem DD.read_write (D : DD) (s : Nat) (d : List UInt8) (n : Nat) : (D.write s d).read n = if s = n then d else D.read n := by
  unfold DD.read DD.readK DD.write
  simp only [List.take_length, List.foldl_append, List.foldl_cons, List.foldl_nil]

theorem DD.sync_lays {D : DD} (h : D.Ok) (n : Nat) (hn : n < D.secs.length) : ∀ k, k ≤ D.pend.length → (D.lays (fun _ => some 256) k).getD n [] = D.readK n k
  | 0, _ => by rw [DD.readK_zero]; rfl
  | k + 1, hk => by
    have hlt : k < D.pend.length := by omega
    obtain ⟨hS, hSl⟩ := DD.lays_ok h (fun _ => some 256) (by simp) k
    have ih := DD.sync_lays h n hn k (by omega)
    have hd := h.data _ (List.getElem_mem hlt)
    have ha := h.at_ _ (List.getElem_mem hlt)
    rw [DD.lays_some D _ k 256 hlt rfl, DD.readK_succ D n k hlt]
    generalize D.pend[k] = p at *
    generalize hq : (256 : Nat) = q at *
    rw [layW_big _ _ _ _ (by omega) (getD_le _ _ _ hq.symm (by rw [hq]; exact hS) (by omega))]
    by_cases h1 : p.1 = n
    · subst h1
      rw [if_pos rfl, List.getD_eq_getElem?_getD, List.getElem?_set_self (by omega)]
      rfl
    · rw [if_neg h1, List.getD_eq_getElem?_getD, List.getElem?_set_ne h1, ← List.getD_eq_getElem?_getD, ih]

theorem DD.sync_read {D : DD} (h : D.Ok) (n : Nat) (hn : n < D.secs.length) : D.sync.read n = D.read n := by
  rw [DD.read_nil _ rfl]
  exact DD.sync_lays h n hn _ (Nat.le_refl _)

/-- The disk reads, sector by sector, as the bytes that were last written say. -/
structure LastInv (D : DD) (last : List UInt8) : Prop where
  len : last.length = 4
  secs : D.secs.length = 4
  read : ∀ s, s < 4 → D.read s = sect (last.getD s 0)

theorem zs_sect : zs = sect 0 := rfl
theorem LastInv.start : LastInv (DD.zero 4) [0, 0, 0, 0] := by
  refine ⟨rfl, by simp [DD.zero], fun s hs => ?_⟩
  rw [DD.read_nil _ rfl]
  have : (DD.zero 4).secs.getD s [] = zs := by
    match s, hs with
    | 0, _ => rfl
    | 1, _ => rfl
    | 2, _ => rfl
    | 3, _ => rfl
  rw [this, zs_sect]
  congr 1
  match s, hs with
  | 0, _ => rfl
  | 1, _ => rfl
  | 2, _ => rfl
  | 3, _ => rfl
theorem LastInv.write {D : DD} {last : List UInt8} (h : LastInv D last) (s : Nat) (hs : s < 4) (x : UInt8) : LastInv (D.write s (sect x)) (last.set s x) := by
  refine ⟨by rw [List.length_set]; exact h.len, h.secs, fun n hn => ?_⟩
  rw [DD.read_write]
  by_cases e : s = n
  · subst e
    rw [if_pos rfl, List.getD_eq_getElem?_getD, List.getElem?_set_self (by rw [h.len]; exact hs)]; rfl
  · rw [if_neg e, h.read n hn, List.getD_eq_getElem?_getD, List.getD_eq_getElem?_getD, List.getElem?_set_ne e]
theorem LastInv.sync {D : DD} {last : List UInt8} (h : LastInv D last) (ok : D.Ok) : LastInv D.sync last := by
  refine ⟨h.len, ?_, fun n hn => ?_⟩
  · have := (DD.lays_ok ok (fun _ => some 256) (by simp) D.pend.length).2
    simp only [DD.sync]; rw [this]; exact h.secs
  · rw [DD.sync_read ok n (by rw [h.secs]; exact hn)]; exact h.read n hn

theorem Reads.at {α : Type} (f : α → Value) {w : World} {va : Option Addr} {n vc : Nat} {l : List α} {fp : List Nat} (h : Reads w (.slice va n vc) (l.map f) fp) (k : Nat) (hk : k < l.length) :
    ∃ vb vo, va = some ⟨vb, vo, none⟩ ∧ vb ∈ fp ∧ ∀ j (hj : j < l.length), w.cell? ⟨vb, vo + j, none⟩ = some (f l[j]) := by
  obtain ⟨a, cap, hv, h | ⟨b, o, rfl, hr, hb⟩⟩ := h
  · simp at h; subst h; simp at hk
  · injection hv with hv
    exact ⟨b, o, hv, hb, fun j hj => hr j _ (by simp [hj])⟩

theorem wrap_u8_nat (k : Nat) : IntKind.u8.wrap ((k : Int) + 1) = (((UInt8.ofNat (k + 1)).toNat : Nat) : Int) := by
  rw [UInt8.toNat_ofNat']
  simp [IntKind.wrap, IntKind.bits, IntKind.signed]
end Go.Proofs.Ytdjfibkpmmcefaa
