/- Contracts of the package disk, third part: Write. -/
import Derived.Test.YtjjhbpjbngdlnaaDoorDiskB
namespace Go.Proofs.YtjjhbpjbngdlnaaDoor
open Go.RowKit

def DD.write (D : DD) (n : Nat) (d : List UInt8) : DD := ⟨D.secs, D.pend ++ [(n, d)]⟩

set_option maxRecDepth 100000 in
theorem Dk.write_no (b bs cx : Nat) (X : List Value) (D : DD) (pv v : Value) (n : Int) (w : World) (h : DiskAt w b D bs cx X pv) (hn : n < 0 ∨ (D.secs.length : Int) ≤ n) :
    Calls Tryd.prog 34 #[.pointer (some ⟨b, 0, none⟩), .int .i64 n, v] w fun e w' => e = .returned (.int .i64 1) ∧ w = w' := by
  have h0 := h.c0
  have hh := hasB_no hn
  clear h
  go_enter Tryd.func34, Tryd.ntmps34
  go_wp2_with (go_at_call 70; refine (Dk.has _ _ _ _ _ _ _ (by assumption)).mono ?_; rintro e w' ⟨rfl, rfl⟩)
  go_ret
  exact ⟨rfl, rfl⟩

set_option maxRecDepth 100000 in
theorem Dk.write_length (b bs cx : Nat) (X : List Value) (D : DD) (pv : Value) (p : Option Addr) (m c : Nat) (n : Int) (w : World) (h : DiskAt w b D bs cx X pv) (hn : 0 ≤ n) (hn' : n < (D.secs.length : Int)) (hm : m ≠ 256) :
    Calls Tryd.prog 34 #[.pointer (some ⟨b, 0, none⟩), .int .i64 n, .slice p m c] w fun e w' => e = .returned (.int .i64 10) ∧ w = w' := by
  have h0 := h.c0
  have hh := hasB_yes hn hn'
  have h1 : ((m : Int) == 256) = false := by simp; omega
  have h2 : ((m : Int) != 256) = true := by simp; omega
  clear h hm hn hn'
  go_enter Tryd.func34, Tryd.ntmps34
  go_wp2_with (go_at_call 70; refine (Dk.has _ _ _ _ _ _ _ (by assumption)).mono ?_; rintro e w' ⟨rfl, rfl⟩)
  go_ret
  exact ⟨rfl, rfl⟩

def zwrite : Value := .agg (.int .i64 0 :: List.replicate 256 (.int .u8 0)).toArray
theorem Dk.info66 : (Tryd.prog.info? 130).map (fun i => (i.zero, i.size, i.bytes)) = some (some zwrite, 257, 264) := by kernel_rfl
theorem Dk.arrayAt (b o c : Nat) (w : World) : (Instr.arrayAt 128 (.slice (some ⟨b, o, none⟩) 256 c)).run Tryd.prog w = .ok (.pointer (some ⟨b, o, none⟩)) w := by
  simp [Instr.arrayAt, run_underlying Dk.u64]
theorem size_zwrite : zwrite.cells.size = 257 := by kernel_rfl
theorem Dk.build (n : Int) (d : List UInt8) (w : World) (h : d.length = 256) :
    (Instr.build 130 #[(0, .int .i64 n), (1, .agg (bytesV d).toArray)]).run Tryd.prog w = .ok (.agg (.int .i64 n :: bytesV d).toArray) w := by
  obtain ⟨i, hi, hz, _, _⟩ := info_parts Dk.info66
  obtain ⟨i1, hi1, _, hs1, _⟩ := info_parts Dk.info64
  have hint : (Tryd.prog.info? 3).map (·.size) = some 1 := by kernel_rfl
  obtain ⟨i0, hi0, hs0⟩ := Option.map_eq_some_iff.1 hint
  have := run_build_two (P := Tryd.prog) w 130 i zwrite _ _ _ i0 i1 (.int .i64 n) (.agg (bytesV d).toArray) hi hz Tryd.underlying130 rfl hi0 hi1 rfl rfl hs0 (by rw [hs1]; simp [Value.cells, h]) (by rw [size_zwrite]; simp [Value.cells, h])
  rw [this]; simp [Value.cells]
def Dk.buildS (ps : Array (Nat × Value)) : Sem Value := Instr.build 130 ps
theorem Dk.build_eq (ps : Array (Nat × Value)) : Instr.build 130 ps = Dk.buildS ps := rfl
theorem Dk.build_run (n : Int) (d : List UInt8) (w : World) (h : d.length = 256) : (Dk.buildS #[(0, .int .i64 n), (1, .agg (bytesV d).toArray)]).run Tryd.prog w = .ok (.agg (.int .i64 n :: bytesV d).toArray) w := Dk.build n d w h
def Dk.bsS (ps : Array (Nat × Value)) : Sem Value := Instr.buildSlice 109 1 ps
theorem Dk.bs_eq (ps : Array (Nat × Value)) : Instr.buildSlice 109 1 ps = Dk.bsS ps := rfl
theorem Dk.bs_run (n : Int) (d : List UInt8) (w : World) (h : d.length = 256) : (Dk.bsS #[(0, .agg (.int .i64 n :: bytesV d).toArray)]).run Tryd.prog w =
    .ok (.slice (some ⟨w.heap.size, 0, none⟩) 1 1) (w.alloc (.cells (.int .i64 n :: bytesV d).toArray 130)) := by
  obtain ⟨i, hi, hz, hs, _⟩ := info_parts Dk.info66
  have hv : ((Value.agg (.int .i64 n :: bytesV d).toArray).cells).size = 257 := by simp [Value.cells, h]
  generalize hg : Value.agg (.int .i64 n :: bytesV d).toArray = v at hv
  have hc : (.int .i64 n :: bytesV d).toArray = v.cells := by rw [← hg]; rfl
  rw [hc]
  exact run_buildSlice_one w _ _ i zwrite v Tryd.underlying109 hi hz (by rw [hs, hv]) (by rw [size_zwrite, hv]) (by omega) (by omega)
attribute [local go_sem ↓] Dk.build_eq Dk.bs_eq
attribute [local go_sem] Dk.build_run Dk.bs_run

def WritePost (w : World) (b bs cx : Nat) (X : List Value) (D : DD) (pv : Value) (n : Nat) (d : List UInt8) (e : Ending) (w' : World) : Prop :=
  ∃ pv', e = .returned (.int .i64 0) ∧ DiskAt w' b (D.write n d) bs cx X pv' ∧ (∀ g, pv'.ownBlock = some g → pv.ownBlock = some g ∨ w.heap.size ≤ g) ∧ Kept (dfp b bs pv) w w'

theorem Dk.elemW : ElemOk Tryd.prog 109 130 257 264 := .mk' zwrite Tryd.underlying109 Dk.info66 size_zwrite (by omega)

set_option maxHeartbeats 1000000 in
set_option maxRecDepth 100000 in
theorem Dk.write (b bs n bb ob c cx : Nat) (X : List Value) (D : DD) (pv : Value) (d : List UInt8) (w : World) (h : DiskAt w b D bs cx X pv) (hn : n < D.secs.length) (hr : w.rangeAt bb ob (bytesV d)) (hd : d.length = 256)
    (hbb : bb ∉ dfp b bs pv) (hroom : D.pend.length < 2 ^ 32) :
    Calls Tryd.prog 34 #[.pointer (some ⟨b, 0, none⟩), .int .i64 n, .slice (some ⟨bb, ob, none⟩) 256 c] w (WritePost w b bs cx X D pv n d) := by
  have h0 := h.c0
  have h1 := h.c1
  have h2 := h.f1
  have hh := hasB_yes (n := (n : Int)) (by omega) (show (n : Int) < (D.secs.length : Int) by omega)
  have hap := Dk.arrayAt bb ob c
  have hu := Lib.hid Dk.u64
  have hi := Lib.hid (Dk.i64 (n := (bytesV d).length) (by simpa using hd))
  have lb := lt_of_block h.hb
  have hl : (pendV (n, d)).length = 257 := by simp [pendV, hd]
  have H := Lib.hid h
  clear h
  go_enter Tryd.func34, Tryd.ntmps34
  go_wp2_with (go_at_call 70; refine (Dk.has _ _ _ _ _ _ _ (by assumption)).mono ?_; rintro e w' ⟨rfl, rfl⟩)
  have hS0 : w.drew.cell? ⟨b, 1, none⟩ = some pv ∧ w.drew.rangeAt bb ob (bytesV d) := ⟨h1, hr⟩
  refine wp_region_T 12 (fun w' => w'.cell? ⟨b, 1, none⟩ = some pv ∧ w'.rangeAt bb ob (bytesV d)) (by kernel_rfl) (by simp) (by kernel_rfl) ?_
  refine wpT_take (i := 0) (v := ?_) rfl (by kernel_rfl) (fun _ _ _ h => h) (by assumption) (.inl ⟨rfl, ?_⟩) ?_
  rotate_left
  · intro w' hS; obtain ⟨hS1, hS2⟩ := hS; go_simp; try with_reducible rfl
  simp only [Act.put, List.setIfInBounds_toArray, List.set_cons_zero, List.set_cons_succ]
  refine wpT_take (i := 1) (v := ?_) rfl (by kernel_rfl) (fun _ _ _ h => h) (by assumption) (.inl ⟨rfl, ?_⟩) ?_
  rotate_left
  · intro w' hS; obtain ⟨hS1, hS2⟩ := hS; go_simp; try with_reducible rfl
  simp only [Act.put, List.setIfInBounds_toArray, List.set_cons_zero, List.set_cons_succ]
  refine wpT_take (i := 2) (v := ?_) rfl (by kernel_rfl) (fun _ _ _ h => h) (by assumption) (.inl ⟨rfl, ?_⟩) ?_
  rotate_left
  · intro w' hS; obtain ⟨hS1, hS2⟩ := hS; go_simp; try with_reducible rfl
  simp only [Act.put, List.setIfInBounds_toArray, List.set_cons_zero, List.set_cons_succ]
  refine wpT_take (i := 3) (v := ?_) rfl (by kernel_rfl) (fun _ _ _ h => h) (by assumption) (.inl ⟨rfl, ?_⟩) ?_
  rotate_left
  · intro w' hS; obtain ⟨hS1, hS2⟩ := hS; go_simp; try with_reducible rfl
  simp only [Act.put, List.setIfInBounds_toArray, List.set_cons_zero, List.set_cons_succ]
  refine wpT_take (i := 4) (v := ?_) rfl (by kernel_rfl) (fun _ _ _ h => h) (by assumption) (.inl ⟨rfl, ?_⟩) ?_
  rotate_left
  · intro w' hS; obtain ⟨hS1, hS2⟩ := hS; go_simp; try with_reducible rfl
  simp only [Act.put, List.setIfInBounds_toArray, List.set_cons_zero, List.set_cons_succ]
  refine wpT_take (i := 5) (v := ?_) rfl (by kernel_rfl) (fun _ _ _ h => h) (by assumption) (.inl ⟨rfl, ?_⟩) ?_
  rotate_left
  · intro w' hS; obtain ⟨hS1, hS2⟩ := hS; go_simp; try with_reducible rfl
  simp only [Act.put, List.setIfInBounds_toArray, List.set_cons_zero, List.set_cons_succ]
  refine wpT_take (i := 6) (v := ?_) rfl (by kernel_rfl) (fun _ _ _ h => h) (by assumption) (.inl ⟨rfl, ?_⟩) ?_
  rotate_left
  · intro w' hS; obtain ⟨hS1, hS2⟩ := hS; go_simp; try with_reducible rfl
  simp only [Act.put, List.setIfInBounds_toArray, List.set_cons_zero, List.set_cons_succ]
  refine wpT_take (i := 7) (v := ?_) rfl (by kernel_rfl) (fun _ _ _ h => h) (by assumption) (.inl ⟨rfl, ?_⟩) ?_
  rotate_left
  · intro w' hS; obtain ⟨hS1, hS2⟩ := hS; go_simp; try with_reducible rfl
  simp only [Act.put, List.setIfInBounds_toArray, List.set_cons_zero, List.set_cons_succ]
  refine wpT_take (i := 8) (v := .agg (bytesV d).toArray) rfl (by kernel_rfl) (fun _ _ _ h => h) (by assumption) ?_ ?_
  · refine yieldsIf_load_mid ?_ 128 (.tmp 25) ?_ bb ob ?_ (bytesV d) _ (fun w' hS => hS.2) hu.out ?_ hi.out <;> rfl
  simp only [Act.put, List.setIfInBounds_toArray, List.set_cons_zero, List.set_cons_succ]
  refine wpT_take (i := 9) (v := ?_) rfl (by kernel_rfl) (fun _ _ _ h => h) (by assumption) (.inl ⟨rfl, ?_⟩) ?_
  rotate_left
  · intro w' hS; go_simp; try with_reducible rfl
  simp only [Act.put, List.setIfInBounds_toArray, List.set_cons_zero, List.set_cons_succ]
  have hr1 : (w.alloc (.cells (.int .i64 n :: bytesV d).toArray 130)).drew.rangeAt bb ob (bytesV d) := (World.rangeAt_drew _ _ _ _).2 (World.rangeAt_alloc hr _)
  have hc1 : (w.alloc (.cells (.int .i64 n :: bytesV d).toArray 130)).drew.cell? ⟨b, 1, none⟩ = some pv := (World.cell?_alloc_lt w _ _ lb).trans h1
  have e1 : (w.alloc (.cells (.int .i64 n :: bytesV d).toArray 130)).drew.ownsRow 0 130 257 pv D.pend.length (pendsV D.pend) := (H.out.hp.alloc _).drew
  have e2 : Src Tryd.prog 257 109 (.slice (some ⟨w.heap.size, 0, none⟩) 1 1) 1 (pendV (n, d)) (w.alloc (.cells (.int .i64 n :: bytesV d).toArray 130)).drew := Src.ofBlock Tryd.underlying109 (by exact heap_alloc_new w _) 1 1 hl one_pendV
  refine wpT_one (i := 10) rfl rfl (by kernel_rfl) (fun K hK => ?_)
  go_simp
  refine hK _ _ _ (fun _ h => h) ⟨hc1, hr1⟩ ?_
  clear hK K
  refine wpT_one (i := 11) rfl rfl (by kernel_rfl) (fun K hK => ?_)
  refine wp_append_k (v := pv) (x := .slice (some ⟨w.heap.size, 0, none⟩) 1 1) (.tmp 22) (.tmp 28) _ _ rfl Dk.elemW rfl e1 rfl e2 (by unfold maxLen; omega) (by omega) (by simp) ?_
  intro v1 w1 hA
  obtain ⟨p1, c1, rfl⟩ := owns_slice hA.own
  have hkw : Kept (dfp b bs pv) w w1 := (((Kept.refl _ _).alloc _).drew).trans hA.kept (by intro x hx; left; simp only [dfp, List.mem_cons]; exact .inr (.inr hx))
  have hblk := hA.blk
  have hnb : b ∉ pv.ownBlock.toList := fun hm => (H.out.n2 b (by simpa using hm)).1 rfl
  have hnb2 : bb ∉ pv.ownBlock.toList := fun hm => hbb (by simp only [dfp, List.mem_cons]; exact .inr (.inr hm))
  have hc2 : w1.cell? ⟨b, 1, none⟩ = some pv := (hA.kept.cell (by simp; omega) hnb).trans hc1
  have hf2 : w1.frozen? ⟨b, 1, none⟩ = false := (hA.kept.frozen (p := ⟨b, 1, none⟩) (by simp; omega) hnb).trans ((World.frozen?_alloc_past _ _ _ lb).trans h2)
  refine hK _ _ _ (fun _ h => h) ⟨hc2, rangeAt_kept hr1 hA.kept hnb2⟩ ?_
  have HA := Lib.hid hA
  have HB := Lib.hid hblk
  clear hK K e1 e2 hS0 hc1 hr1 hA hblk
  refine wpT_done (by kernel_rfl) ?_
  simp only [Act.put, List.setIfInBounds_toArray, List.set_cons_zero, List.set_cons_succ, List.drop_succ_cons, List.drop_zero]
  go_wp2
  go_ret
  have hA := HA.out
  have hD := H.out
  have hk2 : Kept [b] w1 (w1.setCell ⟨b, 1, none⟩ (.slice p1 (D.pend.length + 1) c1)) := (Kept.refl _ _).setCell (by simp) _
  have hb1 : w1.heap[b]? = some (.cells #[.slice (some ⟨bs, 0, none⟩) D.secs.length cx, pv] 111 (0, 0)) :=
    (hA.kept.block b (by simp; omega) hnb).trans ((Below.heap_alloc _ _ _ lb).trans hD.hb)
  have hbs1 : w1.heap[bs]? = some (.cells (secsV D.secs ++ X).toArray 128 (0, 0)) :=
    (hA.kept.block bs (by have := lt_of_block hD.hs; simp; omega) (fun hm => (hD.n2 bs (by simpa using hm)).2 rfl)).trans ((Below.heap_alloc _ _ _ (lt_of_block hD.hs)).trans hD.hs)
  have hnew : ∀ g, some g = (Value.slice p1 (D.pend.length + 1) c1).ownBlock → g ≠ b ∧ g ≠ bs := fun g hg => by
    rcases hA.blk g hg.symm with h | h
    · exact hD.n2 g h
    · have h3 := lt_of_block hD.hs; simp at h; omega
  refine ⟨.slice p1 (D.pend.length + 1) c1, rfl, ⟨⟨hD.ok.pos, hD.ok.max, hD.ok.secs, ?_, ?_⟩, ?_, ?_, ?_, hD.n1, fun g hg => hnew g hg.symm⟩, ?_, ?_⟩
  · intro p hp
    simp only [DD.write, List.mem_append, List.mem_singleton] at hp
    rcases hp with hp | rfl
    · exact hD.ok.at_ p hp
    · exact hn
  · intro p hp
    simp only [DD.write, List.mem_append, List.mem_singleton] at hp
    rcases hp with hp | rfl
    · exact hD.ok.data p hp
    · exact hd
  · rw [heap_setCell_same w1 b 1 _ _ _ hb1]; rfl
  · exact (hk2.block bs (lt_of_block hbs1) (by simp; exact fun e => hD.n1 e.symm)).trans hbs1
  · have := owns_kept hA.own hk2 (fun g hg hm => (hnew g hg.symm).1 (by simpa using hm))
    simpa [DD.write, pendsV] using this
  · intro g hg
    rcases hA.blk g hg with h | h
    · exact .inl h
    · right; simp at h; omega
  · exact hkw.trans hk2 (by intro x hx; left; simp only [List.mem_singleton] at hx; subst hx; simp [dfp])

end Go.Proofs.YtjjhbpjbngdlnaaDoor
