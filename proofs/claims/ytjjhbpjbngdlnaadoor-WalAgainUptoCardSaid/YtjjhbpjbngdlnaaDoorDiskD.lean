/- Contracts of the package disk, fourth part: Read. -/
import Derived.Test.YtjjhbpjbngdlnaaDoorDiskG
namespace Go.Proofs.YtjjhbpjbngdlnaaDoor
open Go.RowKit

attribute [local go_sem ↓] Dk.ld64 Dk.ld66 Dk.st64 Dk.st66 Dk.al64 Dk.al66
attribute [local go_sem] Dk.al_run64 Dk.al_run66 Dk.ld_data Dk.st_new64 Dk.st_new66

/-- A sector's bytes as the first i writes leave them. -/
def DD.readK (D : DD) (n i : Nat) : List UInt8 := (D.pend.take i).foldl (fun acc p => if p.1 = n then p.2 else acc) (D.secs.getD n [])
def DD.read (D : DD) (n : Nat) : List UInt8 := D.readK n D.pend.length
theorem DD.readK_zero (D : DD) (n : Nat) : D.readK n 0 = D.secs.getD n [] := by unfold DD.readK; rfl
theorem DD.readK_succ (D : DD) (n i : Nat) (h : i < D.pend.length) : D.readK n (i + 1) = if D.pend[i].1 = n then D.pend[i].2 else D.readK n i := by
  unfold DD.readK; rw [List.take_succ_eq_append_getElem h, List.foldl_append]; rfl
theorem DD.Ok.readK {D : DD} (h : D.Ok) (n : Nat) (hn : n < D.secs.length) : ∀ i, i ≤ D.pend.length → (D.readK n i).length = 256
  | 0, _ => by rw [DD.readK_zero]; simp only [List.getD_eq_getElem?_getD, List.getElem?_eq_getElem hn, Option.getD_some]; exact h.secs _ (List.getElem_mem hn)
  | i + 1, hi => by
    rw [DD.readK_succ D n i (by omega)]
    split
    · exact h.data _ (List.getElem_mem _)
    · exact DD.Ok.readK h n hn i (by omega)

set_option maxRecDepth 100000 in
theorem Dk.read_no (b bs cx : Nat) (X : List Value) (D : DD) (pv : Value) (n : Int) (w : World) (h : DiskAt w b D bs cx X pv) (hn : n < 0 ∨ (D.secs.length : Int) ≤ n) :
    Calls Tryd.prog 43 #[.pointer (some ⟨b, 0, none⟩), .int .i64 n] w fun e w' => e = .returned (.tuple #[.slice none 0 0, .int .i64 1]) ∧ w = w' := by
  have h0 := h.c0
  have hh := hasB_no hn
  clear h
  go_enter Tryd.func43, Tryd.ntmps43
  go_wp2_with (go_at_call 70; refine (Dk.has _ _ _ _ _ _ _ (by assumption)).mono ?_; rintro e w' ⟨rfl, rfl⟩)
  go_ret2
  exact ⟨rfl, rfl⟩

theorem Dk.elemB : ElemOk Tryd.prog 22 5 1 1 := .mk' (.int .u8 0) Tryd.underlying22 (by kernel_rfl) rfl (by omega)

/-- New memory that holds just these bytes, and the world but for that kept. -/
def NewBytes (d : List UInt8) (code : Int) (w : World) (e : Ending) (w' : World) : Prop :=
  ∃ g cap, e = .returned (.tuple #[.slice (some ⟨g, 0, none⟩) d.length cap, .int .i64 code]) ∧ w'.ownsRow 0 5 1 (.slice (some ⟨g, 0, none⟩) d.length cap) d.length (bytesV d) ∧ w.heap.size ≤ g ∧ Kept [] w w'

set_option maxHeartbeats 1000000 in
set_option maxRecDepth 100000 in
theorem Dk.read (b bs n cx : Nat) (X : List Value) (D : DD) (pv : Value) (w : World) (h : DiskAt w b D bs cx X pv) (hn : n < D.secs.length) (hroom : D.pend.length < 2 ^ 32) :
    Calls Tryd.prog 43 #[.pointer (some ⟨b, 0, none⟩), .int .i64 n] w (NewBytes (D.read n) 0 w) := by
  have h0 := h.c0
  have h1 := h.c1
  have hh := hasB_yes (n := (n : Int)) (by omega) (show (n : Int) < (D.secs.length : Int) by omega)
  have hr0 := h.ok.readK n hn 0 (by omega)
  have hsec : w.rangeAt bs (n * 256) (bytesV (D.readK n 0)) := by
    rw [DD.readK_zero]; simp only [List.getD_eq_getElem?_getD, List.getElem?_eq_getElem hn, Option.getD_some]; exact h.sec n hn
  have hl1 := Dk.ld_run64 w bs (n * 256) _ hsec hr0
  obtain ⟨p1, c1, hpv⟩ := owns_slice h.hp
  have n0 : (0 : Int) ≤ (n : Int) := by omega
  have n1 : (n : Int) < (D.secs.length : Int) := by omega
  have lb := lt_of_block h.hb
  have H := Lib.hid h
  have HP := Lib.hid hpv
  subst hpv
  clear h hsec HP
  generalize hrd : D.readK n 0 = r0 at *
  have Hrd := Lib.hid hrd
  clear hrd
  go_enter Tryd.func43, Tryd.ntmps43
  go_wp2_with (go_at_call 70; refine (Dk.has _ _ _ _ _ _ _ (by assumption)).mono ?_; rintro e w' ⟨rfl, rfl⟩)
  go_loopw [28] (fun i wr => ∃ k : Nat, k ≤ D.pend.length ∧ i = .int .i64 k ∧ Hid (wr.heap[w.heap.size]? = some (.cells (bytesV (D.readK n k)).toArray 128 (0, 0))) ∧ Kept [] w wr) (fun i _ => D.pend.length - (intOf i).toNat)
  case atStart =>
    refine ⟨0, by omega, rfl, ?_, (Kept.refl _ _).alloc _⟩
    rw [Hrd.out]; exact heap_alloc_new _ _
  case round =>
    obtain ⟨k, hk, rfl, hrow, hkp⟩ := hrel
    by_cases hlt : k < D.pend.length
    · obtain ⟨gp, cap, he, hrange, hgb, hgs, hgl⟩ := H.out.pend (by omega)
      injection he with he1 _ he2
      subst he1 he2
      have hdat := H.out.ok.data _ (List.getElem_mem hlt)
      have hs := DD.readK_succ D n k hlt
      have hrk := H.out.ok.readK n hn k (by omega)
      have hl66 := Dk.ld_run66 wr gp (k * 257) _ (rangeAt_kept (hrange k hlt) hkp (by simp)) hdat
      generalize hp : D.pend[k] = p at *
      have hlw := lt_of_block hrow.out
      have hst := Dk.st_run64 (wr.alloc (.cells (.int .i64 p.1 :: bytesV p.2).toArray 130)) w.heap.size p.2 _ _ ((Below.heap_alloc _ _ _ hlw).trans hrow.out) (by simpa using hrk) hdat
      have Hs := Lib.hid hs
      clear hrange hp hs hrk
      have k0 : (0 : Int) ≤ (k : Int) := by omega
      have k1 : (k : Int) < (D.pend.length : Int) := by omega
      by_cases hq : p.1 = n
      · have hb : ((p.1 : Int) == (n : Int)) = true := by simp [hq]
        have Hq := Lib.hid hq
        clear hq
        go_wp2
        go_roundw
        case rel =>
          refine ⟨k + 1, by omega, by go_num, ?_, ((hkp.alloc _).setRow (.inr (Nat.le_refl _)) _)⟩
          rw [Hs.out, if_pos Hq.out]
          exact setRow_heap _ _ _ _ _ _ ((Below.heap_alloc _ _ _ hlw).trans hrow.out)
        case measure => simp [intOf]; omega
      · have hb : ((p.1 : Int) == (n : Int)) = false := by simp; omega
        have Hq := Lib.hid hq
        clear hq
        go_wp2
        go_roundw
        case rel =>
          refine ⟨k + 1, by omega, by go_num, ?_, hkp.alloc _⟩
          rw [Hs.out, if_neg Hq.out]
          exact (Below.heap_alloc _ _ _ hlw).trans hrow.out
        case measure => simp [intOf]; omega
    · have : k = D.pend.length := by omega
      subst this
      have hrk := H.out.ok.readK n hn D.pend.length (Nat.le_refl _)
      have hlw := lt_of_block hrow.out
      have e1 : (wr.alloc (.cells #[] 5)).ownsRow 0 5 1 (.slice (some ⟨wr.heap.size, 0, none⟩) 0 0) 0 [] := World.ownsRow_made wr #[] 0 (Nat.zero_le _) (by unfold maxLen; omega) rfl
      have e2 : Src Tryd.prog 1 22 (.slice (some ⟨w.heap.size, 0, none⟩) 256 256) 256 (bytesV (D.readK n D.pend.length)) (wr.alloc (.cells #[] 5)) :=
        Src.ofBlock Tryd.underlying22 ((Below.heap_alloc _ _ _ hlw).trans hrow.out) 256 256 (by simpa using hrk) one_bytesV
      have E1 := Lib.hid e1
      have E2 := Lib.hid e2
      have Hrk := Lib.hid hrk
      clear e1 e2 hrk
      go_wp2_with (at_builtin; refine wpList_append_k (v := .slice (some ⟨wr.heap.size, 0, none⟩) 0 0) (x := .slice (some ⟨w.heap.size, 0, none⟩) 256 256) rfl (.tmp 39) (.tmp 40) _ _ rfl Dk.elemB rfl E1.out rfl E2.out (by unfold maxLen; omega) (by omega) (Nat.zero_le _) ?_; intro v1 w1 hA; have HA := Lib.hid hA; clear hA)
      go_ret2
      have hA := HA.out
      obtain ⟨g, cap, rfl, hg, _⟩ := hA.slice (by omega)
      have hlen : (D.read n).length = 256 := Hrk.out
      have hge : w.heap.size ≤ g := by
        have := hkp.size
        rcases hg with hg | hg
        · simp [Value.ownBlock] at hg; omega
        · simp at hg; omega
      refine ⟨g, cap, ?_, ?_, hge, (hkp.alloc _).trans hA.kept (by have := hkp.size; simp [Value.ownBlock]; omega)⟩
      · rw [hlen]; rfl
      · rw [hlen]; have h5 := hA.own; simp only [Nat.zero_add, List.nil_append] at h5; exact h5
end Go.Proofs.YtjjhbpjbngdlnaaDoor
