/- Contracts of the package disk, fifth part: Sync and Crash. -/
import Derived.Test.YtjjhbpjbngdlnaaDoorDiskD
namespace Go.Proofs.YtjjhbpjbngdlnaaDoor
open Go.RowKit

attribute [local go_sem ↓] Dk.ld64 Dk.ld66 Dk.st64 Dk.st66 Dk.al64 Dk.al66
attribute [local go_sem] Dk.al_run64 Dk.al_run66 Dk.ld_data Dk.st_new64 Dk.st_new66

/-- The sectors when the first k bytes of a write are laid on the platter. -/
def layW (S : List (List UInt8)) (n k : Nat) (d : List UInt8) : List (List UInt8) := S.set n (d.take k ++ (S.getD n []).drop k)
theorem length_layW (S : List (List UInt8)) (n k : Nat) (d : List UInt8) : (layW S n k d).length = S.length := by simp [layW]
theorem bytesV_take (d : List UInt8) (k : Nat) : bytesV (d.take k) = (bytesV d).take k := by simp [bytesV]
theorem layW_ok (S : List (List UInt8)) (n k : Nat) (d : List UInt8) (hS : ∀ s ∈ S, s.length = 256) (hn : n < S.length) (hk : k ≤ 256) (hd : d.length = 256) : ∀ s ∈ layW S n k d, s.length = 256 := by
  intro s hs
  unfold layW at hs
  rcases List.mem_or_eq_of_mem_set hs with h | rfl
  · exact hS s h
  · have := hS _ (List.getElem_mem hn)
    simp [List.getElem?_eq_getElem hn]; omega
theorem layW_splice (S : List (List UInt8)) (n k : Nat) (d : List UInt8) (hS : ∀ s ∈ S, s.length = 256) (hn : n < S.length) (hk : k ≤ 256) (hd : d.length = 256) :
    splice (secsV S) (n * 256) ((bytesV d).take k) = secsV (layW S n k d) := by
  have hl : ((bytesV d).take k).length = k := by simp; omega
  have h1 := flat_splice bytesV 256 S (fun x hx => by simpa using hS x hx) n hn 0 ((bytesV d).take k) (by omega) (d.take k ++ S[n].drop k) (by
    unfold splice
    rw [hl]
    simp [bytesV])
  have e : layW S n k d = S.set n (d.take k ++ S[n].drop k) := by simp [layW, List.getElem?_eq_getElem hn]
  rw [e]
  rw [Nat.add_zero] at h1
  exact h1
theorem layW_big (S : List (List UInt8)) (n k : Nat) (d : List UInt8) (h3 : d.length ≤ k) (h2 : (S.getD n []).length ≤ k) : layW S n k d = S.set n d := by
  unfold layW
  rw [List.take_of_length_le h3, List.drop_of_length_le h2, List.append_nil]
theorem getD_le (S : List (List UInt8)) (n k : Nat) (hk : k = 256) (hS : ∀ s ∈ S, s.length = 256) (hn : n < S.length) : (S.getD n []).length ≤ k := by
  have h1 := hS _ (List.getElem_mem hn)
  rw [List.getD_eq_getElem?_getD, List.getElem?_eq_getElem hn, Option.getD_some, h1, hk]; exact Nat.le_refl _

theorem splice_append {α : Type} (A Y : List α) (off : Nat) (cs : List α) (h : off + cs.length ≤ A.length) : splice (A ++ Y) off cs = splice A off cs ++ Y := by
  unfold splice
  rw [List.take_append_of_le_length (by omega), List.drop_append_of_le_length (by omega)]
  simp

theorem laySX (S : List (List UInt8)) (X : List Value) (n k : Nat) (d : List UInt8) (hS : ∀ s ∈ S, s.length = 256) (hn : n < S.length) (hk : k ≤ 256) (hd : d.length = 256) :
    splice (secsV S ++ X) (n * 256) ((bytesV d).take k) = secsV (layW S n k d) ++ X := by
  have h := flat_length bytesV 256 S (fun x hx => by simpa using hS x hx)
  rw [splice_append _ _ _ _ (by unfold secsV; rw [h, List.length_take, length_bytesV]; omega), layW_splice S n k d hS hn hk hd]

/-- How many bytes of write number i are kept in a crash. -/
def clampN (x : Int) : Nat := (min (max x 0) 256).toNat
theorem clampN_le (x : Int) : clampN x ≤ 256 := by unfold clampN; omega
def amount (keep : List Bool) (tear at_ : Int) (i : Nat) : Option Nat := if (i : Int) = tear then some (clampN at_) else if keep.getD i false then some 256 else none
def DD.lays (D : DD) (f : Nat → Option Nat) : Nat → List (List UInt8)
  | 0 => D.secs
  | i + 1 => match D.pend[i]? with
    | none => D.lays f i
    | some p => match f i with
      | some k => layW (D.lays f i) p.1 k p.2
      | none => D.lays f i
theorem DD.lays_ok {D : DD} (h : D.Ok) (f : Nat → Option Nat) (hf : ∀ i k, f i = some k → k ≤ 256) : ∀ i, (∀ s ∈ D.lays f i, s.length = 256) ∧ (D.lays f i).length = D.secs.length
  | 0 => ⟨h.secs, rfl⟩
  | i + 1 => by
    have ih := DD.lays_ok h f hf i
    unfold DD.lays
    cases hp : D.pend[i]? with
    | none => exact ih
    | some p =>
      have hm := List.mem_of_getElem? hp
      cases hk : f i with
      | none => exact ih
      | some k => exact ⟨layW_ok _ _ _ _ ih.1 (by rw [ih.2]; exact h.at_ p hm) (hf i k hk) (h.data p hm), by simp only [length_layW]; exact ih.2⟩
theorem DD.lays_some (D : DD) (f : Nat → Option Nat) (i k : Nat) (hi : i < D.pend.length) (hk : f i = some k) : D.lays f (i + 1) = layW (D.lays f i) D.pend[i].1 k D.pend[i].2 := by
  simp [DD.lays, List.getElem?_eq_getElem hi, hk]
theorem DD.lays_none (D : DD) (f : Nat → Option Nat) (i : Nat) (hi : i < D.pend.length) (hk : f i = none) : D.lays f (i + 1) = D.lays f i := by
  simp [DD.lays, List.getElem?_eq_getElem hi, hk]
def DD.sync (D : DD) : DD := ⟨D.lays (fun _ => some 256) D.pend.length, []⟩
def DD.crash (D : DD) (keep : List Bool) (tear at_ : Int) : DD := ⟨D.lays (amount keep tear at_) D.pend.length, []⟩

/-- A disk's sectors are laid anew, and its writes are none: the end of Sync and Crash. -/
theorem DiskAt.laid {w w1 : World} {b bs cx : Nat} {X : List Value} {D : DD} {pv : Value} (h : DiskAt w b D bs cx X pv) (S : List (List UInt8)) (hl : S.length = D.secs.length) (hS : ∀ s ∈ S, s.length = 256)
    (hs : w1.heap[bs]? = some (.cells (secsV S ++ X).toArray 128 (0, 0))) (hk : Kept [bs] w w1) :
    DiskAt (w1.setCell ⟨b, 1, none⟩ (.slice none 0 0)) b ⟨S, []⟩ bs cx X (.slice none 0 0) ∧ Kept [b, bs] w (w1.setCell ⟨b, 1, none⟩ (.slice none 0 0)) := by
  have hb1 := (hk.block b (lt_of_block h.hb) (by simp; exact h.n1)).trans h.hb
  refine ⟨⟨⟨by simp only; rw [hl]; exact h.ok.pos, by simp only; rw [hl]; exact h.ok.max, hS, by simp, by simp⟩, ?_, ?_, World.ownsRow_nil _ _ _ _, h.n1, by simp [Value.ownBlock]⟩, ?_⟩
  · rw [heap_setCell_same w1 b 1 _ _ _ hb1]; simp only [hl]; rfl
  · rw [heap_setCell_other _ _ _ _ (by simp; exact fun e => h.n1 e.symm)]; exact hs
  · exact (hk.mono (by simp)).setCell (by simp) _

def LaidPost (w : World) (b bs cx : Nat) (X : List Value) (D' : DD) (v : Value) (e : Ending) (w' : World) : Prop := e = .returned v ∧ DiskAt w' b D' bs cx X (.slice none 0 0) ∧ Kept [b, bs] w w'

set_option maxHeartbeats 1000000 in
set_option maxRecDepth 100000 in
theorem Dk.sync (b bs cx : Nat) (X : List Value) (D : DD) (pv : Value) (w : World) (h : DiskAt w b D bs cx X pv) (hroom : D.pend.length < 2 ^ 32) :
    Calls Tryd.prog 69 #[.pointer (some ⟨b, 0, none⟩)] w (LaidPost w b bs cx X D.sync (.int .i64 D.pend.length)) := by
  have h1 := h.c1
  obtain ⟨p1, c1, hpv⟩ := owns_slice h.hp
  have lb := lt_of_block h.hb
  have H := Lib.hid h
  subst hpv
  clear h
  go_enter Tryd.func69, Tryd.ntmps69
  go_wp2
  go_loopw [16] (fun i wr => ∃ k : Nat, k ≤ D.pend.length ∧ i = .int .i64 k ∧ Hid (wr.heap[bs]? = some (.cells (secsV (D.lays (fun _ => some 256) k) ++ X).toArray 128 (0, 0))) ∧ Kept [bs] w wr) (fun i _ => D.pend.length - (intOf i).toNat)
  case atStart => exact ⟨0, by omega, rfl, H.out.hs, Kept.refl _ _⟩
  case round =>
    obtain ⟨k, hk, rfl, hrow, hkp⟩ := hrel
    by_cases hlt : k < D.pend.length
    · obtain ⟨gp, cap, he, hrange, hgb, hgs, hgl⟩ := H.out.pend (by omega)
      injection he with he1 _ he2
      subst he1 he2
      have hdat := H.out.ok.data _ (List.getElem_mem hlt)
      have hat := H.out.ok.at_ _ (List.getElem_mem hlt)
      have hs := DD.lays_some D (fun _ => some 256) k 256 hlt rfl
      obtain ⟨hS, hSl⟩ := DD.lays_ok H.out.ok (fun _ => some 256) (by simp) k
      have hl66 := Dk.ld_run66 wr gp (k * 257) _ (rangeAt_kept (hrange k hlt) hkp (by simp; exact hgs)) hdat
      generalize hp : D.pend[k] = p at *
      have hlw := lt_of_block hrow.out
      have hls := laySX _ X p.1 256 p.2 hS (by omega) (by omega) hdat
      have hc0 : wr.cell? ⟨b, 0, none⟩ = some (.slice (some ⟨bs, 0, none⟩) D.secs.length cx) := (hkp.cell (p := ⟨b, 0, none⟩) lb (by simp; exact H.out.n1)).trans H.out.c0
      have hlwb : b < wr.heap.size := Nat.lt_of_lt_of_le lb hkp.size
      have hne := H.out.n1
      have Hs := Lib.hid hs
      have Hls := Lib.hid hls
      have HS := Lib.hid hSl
      clear hrange hp hs hls hS hSl
      have k0 : (0 : Int) ≤ (k : Int) := by omega
      have k1 : (k : Int) < (D.pend.length : Int) := by omega
      go_wp2
      have hS0 : (wr.alloc (.cells (.int .i64 p.1 :: bytesV p.2).toArray 130)).drew.rangeAt wr.heap.size 0 (pendV p) := fun j v hv => by
        have := cells_from (heap_alloc_new wr (.cells (pendV p).toArray 130)) 0 (pendV p) (by simp) j v hv
        rwa [Addr.add_mid] at this
      refine wp_region_T 5 (fun w' => w'.rangeAt wr.heap.size 0 (pendV p)) (by kernel_rfl) (by simp) (by kernel_rfl) ?_
      refine wpT_take (i := 0) (v := ?_) rfl (by kernel_rfl) (fun _ _ _ h => h) (by assumption) (.inl ⟨rfl, ?_⟩) ?_
      rotate_left
      · intro w' hS; go_simp; try with_reducible rfl
      simp only [Act.put, List.setIfInBounds_toArray, List.set_cons_zero, List.set_cons_succ]
      refine wpT_take (i := 1) (v := ?_) rfl (by kernel_rfl) (fun _ _ _ h => h) (by assumption) (.inl ⟨rfl, ?_⟩) ?_
      rotate_left
      · intro w' hS; go_simp; try with_reducible rfl
      simp only [Act.put, List.setIfInBounds_toArray, List.set_cons_zero, List.set_cons_succ]
      refine wpT_take (i := 2) (v := ?_) rfl (by kernel_rfl) (fun _ _ _ h => h) (by assumption) (.inl ⟨rfl, ?_⟩) ?_
      rotate_left
      · intro w' hS; go_simp; try with_reducible rfl
      simp only [Act.put, List.setIfInBounds_toArray, List.set_cons_zero, List.set_cons_succ]
      refine wpT_take (i := 3) (v := ?_) rfl (by kernel_rfl) (fun _ _ _ h => h) (by assumption) (.inl ⟨rfl, ?_⟩) ?_
      rotate_left
      · intro w' hS; have h66 := Dk.ld_run66 w' _ 0 p hS hdat; go_simp; try with_reducible rfl
      simp only [Act.put, List.setIfInBounds_toArray, List.set_cons_zero, List.set_cons_succ]
      refine wpT_one (i := 4) rfl rfl (by kernel_rfl) (fun K hK => ?_)
      go_simp
      refine (Dk.put b 0 bs D.secs.length cx p.1 256 (secsV (D.lays (fun _ => some 256) k) ++ X) (bytesV p.2) _ ?_ ?_ ?_ hne hat (by omega) (by simpa using hdat) one_bytesV).mono ?_
      · exact (World.cell?_alloc_lt _ _ _ hlwb).trans hc0
      · exact (Below.heap_alloc _ _ _ hlw).trans hrow.out
      · have := flat_length bytesV 256 (D.lays (fun _ => some 256) k) (fun x hx => by simpa using (DD.lays_ok H.out.ok (fun _ => some 256) (by simp) k).1 x hx)
        rw [List.length_append]; unfold secsV; rw [this, HS.out]; omega
      rintro e w2 ⟨rfl, hg2, hk2⟩
      refine hK _ _ _ (fun _ h => h) (rangeAt_kept hS0 hk2 (by simp; omega)) ?_
      clear hK K
      refine wpT_done (by kernel_rfl) ?_
      simp only [Act.put, List.setIfInBounds_toArray, List.set_cons_zero, List.set_cons_succ, List.drop_succ_cons, List.drop_zero, List.drop_nil]
      have HG := Lib.hid hg2
      clear hS0 hg2 hl66
      go_wp2
      go_roundw
      case rel =>
        refine ⟨k + 1, by omega, by go_num, ?_, ((hkp.alloc _).drew).trans hk2 (by simp)⟩
        rw [Hs.out, ← Hls.out]; exact HG.out
      case measure => simp [intOf]; omega
    · have : k = D.pend.length := by omega
      subst this
      have hc1 : wr.cell? ⟨b, 1, none⟩ = some (.slice p1 D.pend.length c1) := (hkp.cell (p := ⟨b, 1, none⟩) lb (by simp; exact H.out.n1)).trans h1
      have hf1 : wr.frozen? ⟨b, 1, none⟩ = false := (hkp.frozen (p := ⟨b, 1, none⟩) lb (by simp; exact H.out.n1)).trans H.out.f1
      go_wp2
      go_ret
      obtain ⟨hS, hSl⟩ := DD.lays_ok H.out.ok (fun _ => some 256) (by simp) D.pend.length
      obtain ⟨r1, r2⟩ := H.out.laid _ hSl hS hrow.out hkp
      exact ⟨rfl, r1, r2⟩
end Go.Proofs.YtjjhbpjbngdlnaaDoor
