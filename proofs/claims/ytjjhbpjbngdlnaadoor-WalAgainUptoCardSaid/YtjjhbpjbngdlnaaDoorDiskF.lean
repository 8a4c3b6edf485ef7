/- Contracts of the package disk, sixth part: Crash. -/
import Derived.Test.YtjjhbpjbngdlnaaDoorDiskE
namespace Go.Proofs.YtjjhbpjbngdlnaaDoor
open Go.RowKit

attribute [local go_sem ↓] Dk.ld64 Dk.ld66 Dk.st64 Dk.st66 Dk.al64 Dk.al66
attribute [local go_sem] Dk.al_run64 Dk.al_run66 Dk.ld_data Dk.st_new64 Dk.st_new66

theorem amount_le (keep : List Bool) (tear at_ : Int) : ∀ i k, amount keep tear at_ i = some k → k ≤ 256 := by
  intro i k h
  unfold amount at h
  split at h
  · injection h with h; have := clampN_le at_; omega
  · split at h
    · injection h with h; omega
    · cases h
def boolsV (l : List Bool) : List Value := l.map .bool
theorem reads_bool {w : World} {v : Value} {l : List Bool} {fp : List Nat} (h : Reads w v (boolsV l) fp) : ∃ a cap, v = .slice a l.length cap ∧ (l = [] ∨ ∃ kb ko, a = some ⟨kb, ko, none⟩ ∧ kb ∈ fp ∧ ∀ i (hi : i < l.length), w.cell? ⟨kb, ko + i, none⟩ = some (.bool l[i])) := by
  obtain ⟨a, cap, rfl, h | ⟨b, o, rfl, hr, hb⟩⟩ := h
  · exact ⟨a, cap, by simp [boolsV], .inl (by simpa [boolsV] using h)⟩
  · refine ⟨_, cap, by simp [boolsV], .inr ⟨b, o, rfl, hb, fun i hi => hr i _ (by simp [boolsV, hi])⟩⟩

set_option maxHeartbeats 2000000 in
set_option maxRecDepth 100000 in
theorem Dk.crash (b bs cx : Nat) (X : List Value) (D : DD) (pv vk : Value) (keep : List Bool) (fk : List Nat) (tear at_ : Int) (w : World) (h : DiskAt w b D bs cx X pv) (hroom : D.pend.length < 2 ^ 32)
    (hkeep : Reads w vk (boolsV keep) fk) (hfk : ∀ x ∈ fk, x ≠ bs) :
    Calls Tryd.prog 37 #[.pointer (some ⟨b, 0, none⟩), vk, .int .i64 tear, .int .i64 at_] w (LaidPost w b bs cx X (D.crash keep tear at_) (.tuple #[])) := by
  have h1 := h.c1
  obtain ⟨p1, c1, hpv⟩ := owns_slice h.hp
  have lb := lt_of_block h.hb
  obtain ⟨ka, kc, rfl, hkd⟩ := reads_bool hkeep
  have H := Lib.hid h
  have HK := Lib.hid hkd
  subst hpv
  clear h hkeep hkd
  obtain ⟨F, hFd⟩ : ∃ F, F = amount keep tear at_ := ⟨_, rfl⟩
  have hF : ∀ i k, F i = some k → k ≤ 256 := by rw [hFd]; exact amount_le keep tear at_
  have HFd := Lib.hid hFd
  clear hFd
  go_enter Tryd.func37, Tryd.ntmps37
  go_wp2
  go_loopw [15] (fun i wr => ∃ k : Nat, k ≤ D.pend.length ∧ i = .int .i64 k ∧ Hid (wr.heap[bs]? = some (.cells (secsV (D.lays F k) ++ X).toArray 128 (0, 0))) ∧ Kept [bs] w wr) (fun i _ => D.pend.length - (intOf i).toNat)
  case atStart => exact ⟨0, by omega, rfl, H.out.hs, Kept.refl _ _⟩
  case round =>
    obtain ⟨k, hk, rfl, hrow, hkp⟩ := hrel
    by_cases hlt : k < D.pend.length
    · obtain ⟨gp, cap, he, hrange, hgb, hgs, hgl⟩ := H.out.pend (by omega)
      injection he with he1 _ he2
      subst he1 he2
      have hdat := H.out.ok.data _ (List.getElem_mem hlt)
      have hat := H.out.ok.at_ _ (List.getElem_mem hlt)
      obtain ⟨hS, hSl⟩ := DD.lays_ok H.out.ok F hF k
      have hl66 := Dk.ld_run66 wr gp (k * 257) _ (rangeAt_kept (hrange k hlt) hkp (by simp; exact hgs)) hdat
      have hs1 := fun q (hq : F k = some q) => DD.lays_some D F k q hlt hq
      have hs2 := fun (hq : F k = none) => DD.lays_none D F k hlt hq
      generalize hp : D.pend[k] = p at *
      have hlw := lt_of_block hrow.out
      have hls := fun q (hq : q ≤ 256) => laySX _ X p.1 q p.2 hS (by omega) hq hdat
      have hc0 : wr.cell? ⟨b, 0, none⟩ = some (.slice (some ⟨bs, 0, none⟩) D.secs.length cx) := (hkp.cell (p := ⟨b, 0, none⟩) lb (by simp; exact H.out.n1)).trans H.out.c0
      have hlwb : b < wr.heap.size := Nat.lt_of_lt_of_le lb hkp.size
      have hne := H.out.n1
      have HS := Lib.hid hSl
      clear hrange hp hS hSl
      have k0 : (0 : Int) ≤ (k : Int) := by omega
      have k1 : (k : Int) < (D.pend.length : Int) := by omega
      by_cases ht : (k : Int) = tear
      · have hb1 : ((k : Int) == tear) = true := by simp [ht]
        have hFk : F k = some (clampN at_) := by rw [HFd.out]; unfold amount; rw [if_pos ht]
        have Hs := Lib.hid (hs1 _ hFk)
        have Hls := Lib.hid (hls _ (clampN_le at_))
        have hcl : (if 256 < (if at_ < 0 then 0 else at_) then 256 else if at_ < 0 then 0 else at_) = ((clampN at_ : Nat) : Int) := by unfold clampN; (repeat' split) <;> omega
        have hkk := clampN_le at_
        clear hs1 hs2 hls ht
        go_wp2
        have hS0 : (wr.alloc (.cells (.int .i64 p.1 :: bytesV p.2).toArray 130)).drew.rangeAt wr.heap.size 0 (pendV p) := fun j v hv => by
          have := cells_from (heap_alloc_new wr (.cells (pendV p).toArray 130)) 0 (pendV p) (by simp) j v hv
          rwa [Addr.add_mid] at this
        refine wp_region_T 8 (fun w' => w'.rangeAt wr.heap.size 0 (pendV p)) (by kernel_rfl) (by simp) (by kernel_rfl) ?_
        refine wpT_take (i := 0) (v := ?_) rfl (by kernel_rfl) (fun _ _ _ h => h) (by assumption) (.inl ⟨rfl, ?_⟩) ?_
        rotate_left
        · intro w' hS; go_simp; try with_reducible rfl
        simp only [Act.put, List.setIfInBounds_toArray, List.set_cons_zero, List.set_cons_succ]
        refine wpT_take (i := 1) (v := ?_) rfl (by kernel_rfl) (fun _ _ _ h => h) (by assumption) (.inl ⟨rfl, ?_⟩) ?_
        rotate_left
        · intro w' hS; go_simp; try with_reducible rfl
        simp only [Act.put, List.setIfInBounds_toArray, List.set_cons_zero, List.set_cons_succ]
        refine wpT_take (i := 2) (v := ?_) rfl (by kernel_rfl) (fun _ _ _ h => h) (by assumption) (.inl ⟨rfl, ?_⟩) ?_
        rotate_left
        · intro w' hS; go_simp; try with_reducible rfl
        simp only [Act.put, List.setIfInBounds_toArray, List.set_cons_zero, List.set_cons_succ]
        refine wpT_take (i := 3) (v := ?_) rfl (by kernel_rfl) (fun _ _ _ h => h) (by assumption) (.inl ⟨rfl, ?_⟩) ?_
        rotate_left
        · intro w' hS; have h66 := Dk.ld_run66 w' _ 0 p hS hdat; go_simp; try with_reducible rfl
        simp only [Act.put, List.setIfInBounds_toArray, List.set_cons_zero, List.set_cons_succ]
        refine wpT_take (i := 4) (v := ?_) rfl (by kernel_rfl) (fun _ _ _ h => h) (by assumption) (.inl ⟨rfl, ?_⟩) ?_
        rotate_left
        · intro w' hS; go_simp; try with_reducible rfl
        simp only [Act.put, List.setIfInBounds_toArray, List.set_cons_zero, List.set_cons_succ]
        refine wpT_take (i := 5) (v := ?_) rfl (by kernel_rfl) (fun _ _ _ h => h) (by assumption) (.inl ⟨rfl, ?_⟩) ?_
        rotate_left
        · intro w' hS; go_simp; try with_reducible rfl
        simp only [Act.put, List.setIfInBounds_toArray, List.set_cons_zero, List.set_cons_succ]
        refine wpT_take (i := 6) (v := ?_) rfl (by kernel_rfl) (fun _ _ _ h => h) (by assumption) (.inl ⟨rfl, ?_⟩) ?_
        rotate_left
        · intro w' hS; go_simp; try with_reducible rfl
        simp only [Act.put, List.setIfInBounds_toArray, List.set_cons_zero, List.set_cons_succ]
        refine wpT_one (i := 7) rfl rfl (by kernel_rfl) (fun K hK => ?_)
        go_simp
        refine (Dk.put b 0 bs D.secs.length cx p.1 (clampN at_) (secsV (D.lays F k) ++ X) (bytesV p.2) _ ?_ ?_ ?_ hne hat (hkk) (by simpa using hdat) one_bytesV).mono ?_
        · exact (World.cell?_alloc_lt _ _ _ hlwb).trans hc0
        · exact (Below.heap_alloc _ _ _ hlw).trans hrow.out
        · have := flat_length bytesV 256 (D.lays F k) (fun x hx => by simpa using (DD.lays_ok H.out.ok F hF k).1 x hx)
          rw [List.length_append]; unfold secsV; rw [this, HS.out]; omega
        rintro e w2 ⟨rfl, hg2, hk2⟩
        refine hK _ _ _ (fun _ h => h) (rangeAt_kept hS0 hk2 (by simp; omega)) ?_
        clear hK K
        refine wpT_done (by kernel_rfl) ?_
        simp only [Act.put, List.setIfInBounds_toArray, List.set_cons_zero, List.set_cons_succ, List.drop_succ_cons, List.drop_zero, List.drop_nil]
        have HG := Lib.hid hg2
        clear hS0 hg2 hl66
        go_wp2
        go_roundw
        case rel =>
          refine ⟨k + 1, by omega, by go_num, ?_, ((hkp.alloc _).drew).trans hk2 (by simp)⟩
          rw [Hs.out, ← Hls.out]; exact HG.out
        case measure => simp [intOf]; omega
      · have hb1 : ((k : Int) == tear) = false := by simpa using ht
        by_cases hlk : k < keep.length
        · obtain rfl | ⟨kb, ko, rfl, hkb, hcell⟩ := HK.out
          · simp at hlk
          have hck := (hkp.cell (p := ⟨kb, ko + k, none⟩) (World.block_lt_of_cell? w _ (hcell k hlk)) (by simp; exact hfk _ hkb)).trans (hcell k hlk)
          have hlwk : kb < wr.heap.size := World.block_lt_of_cell? wr _ hck
          have hlk0 : (k : Int) < (keep.length : Int) := by omega
          cases hkv : keep[k] with
          | true =>
            have hFk : F k = some 256 := by rw [HFd.out]; unfold amount; rw [if_neg ht, if_pos (by simp [hlk, hkv])]
            have Hs := Lib.hid (hs1 _ hFk)
            have Hls := Lib.hid (hls 256 (by omega))
            rw [hkv] at hck
            clear hs1 hs2 hls ht hcell hkv
            go_wp2
            have hS0 : (wr.alloc (.cells (.int .i64 p.1 :: bytesV p.2).toArray 130)).drew.rangeAt wr.heap.size 0 (pendV p) := fun j v hv => by
              have := cells_from (heap_alloc_new wr (.cells (pendV p).toArray 130)) 0 (pendV p) (by simp) j v hv
              rwa [Addr.add_mid] at this
            refine wp_region_T 5 (fun w' => w'.rangeAt wr.heap.size 0 (pendV p)) (by kernel_rfl) (by simp) (by kernel_rfl) ?_
            refine wpT_take (i := 0) (v := ?_) rfl (by kernel_rfl) (fun _ _ _ h => h) (by assumption) (.inl ⟨rfl, ?_⟩) ?_
            rotate_left
            · intro w' hS; go_simp; try with_reducible rfl
            simp only [Act.put, List.setIfInBounds_toArray, List.set_cons_zero, List.set_cons_succ]
            refine wpT_take (i := 1) (v := ?_) rfl (by kernel_rfl) (fun _ _ _ h => h) (by assumption) (.inl ⟨rfl, ?_⟩) ?_
            rotate_left
            · intro w' hS; go_simp; try with_reducible rfl
            simp only [Act.put, List.setIfInBounds_toArray, List.set_cons_zero, List.set_cons_succ]
            refine wpT_take (i := 2) (v := ?_) rfl (by kernel_rfl) (fun _ _ _ h => h) (by assumption) (.inl ⟨rfl, ?_⟩) ?_
            rotate_left
            · intro w' hS; go_simp; try with_reducible rfl
            simp only [Act.put, List.setIfInBounds_toArray, List.set_cons_zero, List.set_cons_succ]
            refine wpT_take (i := 3) (v := ?_) rfl (by kernel_rfl) (fun _ _ _ h => h) (by assumption) (.inl ⟨rfl, ?_⟩) ?_
            rotate_left
            · intro w' hS; have h66 := Dk.ld_run66 w' _ 0 p hS hdat; go_simp; try with_reducible rfl
            simp only [Act.put, List.setIfInBounds_toArray, List.set_cons_zero, List.set_cons_succ]
            refine wpT_one (i := 4) rfl rfl (by kernel_rfl) (fun K hK => ?_)
            go_simp
            refine (Dk.put b 0 bs D.secs.length cx p.1 256 (secsV (D.lays F k) ++ X) (bytesV p.2) _ ?_ ?_ ?_ hne hat (by omega) (by simpa using hdat) one_bytesV).mono ?_
            · exact (World.cell?_alloc_lt _ _ _ hlwb).trans hc0
            · exact (Below.heap_alloc _ _ _ hlw).trans hrow.out
            · have := flat_length bytesV 256 (D.lays F k) (fun x hx => by simpa using (DD.lays_ok H.out.ok F hF k).1 x hx)
              rw [List.length_append]; unfold secsV; rw [this, HS.out]; omega
            rintro e w2 ⟨rfl, hg2, hk2⟩
            refine hK _ _ _ (fun _ h => h) (rangeAt_kept hS0 hk2 (by simp; omega)) ?_
            clear hK K
            refine wpT_done (by kernel_rfl) ?_
            simp only [Act.put, List.setIfInBounds_toArray, List.set_cons_zero, List.set_cons_succ, List.drop_succ_cons, List.drop_zero, List.drop_nil]
            have HG := Lib.hid hg2
            clear hS0 hg2 hl66
            go_wp2
            go_roundw
            case rel =>
              refine ⟨k + 1, by omega, by go_num, ?_, ((hkp.alloc _).drew).trans hk2 (by simp)⟩
              rw [Hs.out, ← Hls.out]; exact HG.out
            case measure => simp [intOf]; omega
          | false =>
            have hFk : F k = none := by rw [HFd.out]; unfold amount; rw [if_neg ht, if_neg (by simp [hlk, hkv])]
            have Hs := Lib.hid (hs2 hFk)
            rw [hkv] at hck
            clear hs1 hs2 hls ht hcell hkv
            go_wp2
            go_roundw
            case rel =>
              refine ⟨k + 1, by omega, by go_num, ?_, hkp.alloc _⟩
              rw [Hs.out]; exact (Below.heap_alloc _ _ _ hlw).trans hrow.out
            case measure => simp [intOf]; omega
        · have hlk0 : decide (k < keep.length) = false := by simp; omega
          have hFk : F k = none := by rw [HFd.out]; unfold amount; rw [if_neg ht, if_neg (by simp [List.getElem?_eq_none (Nat.not_lt.1 hlk)])]
          have Hs := Lib.hid (hs2 hFk)
          clear hs1 hs2 hls ht hlk
          go_wp2
          go_roundw
          case rel =>
            refine ⟨k + 1, by omega, by go_num, ?_, hkp.alloc _⟩
            rw [Hs.out]; exact (Below.heap_alloc _ _ _ hlw).trans hrow.out
          case measure => simp [intOf]; omega
    · have : k = D.pend.length := by omega
      subst this
      have hc1 : wr.cell? ⟨b, 1, none⟩ = some (.slice p1 D.pend.length c1) := (hkp.cell (p := ⟨b, 1, none⟩) lb (by simp; exact H.out.n1)).trans h1
      have hf1 : wr.frozen? ⟨b, 1, none⟩ = false := (hkp.frozen (p := ⟨b, 1, none⟩) lb (by simp; exact H.out.n1)).trans H.out.f1
      go_wp2
      go_end0
      obtain ⟨hS, hSl⟩ := DD.lays_ok H.out.ok F hF D.pend.length
      obtain ⟨r1, r2⟩ := H.out.laid _ hSl hS hrow.out hkp
      rw [HFd.out] at r1
      exact ⟨rfl, r1, r2⟩
end Go.Proofs.YtjjhbpjbngdlnaaDoor
