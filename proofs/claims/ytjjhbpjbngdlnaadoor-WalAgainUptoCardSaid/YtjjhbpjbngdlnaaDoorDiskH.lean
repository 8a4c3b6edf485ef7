/- Contracts of the package disk, seventh part: Fork; a sector of one byte. -/
import Derived.Test.YtjjhbpjbngdlnaaDoorDiskF
namespace Go.Proofs.YtjjhbpjbngdlnaaDoor
open Go.RowKit

theorem Dk.elemS : ElemOk Tryd.prog 106 128 256 256 := .mk' zsec Tryd.underlying106 Dk.info64 (by kernel_rfl) (by omega)

def ForkPost (w : World) (D : DD) (e : Ending) (w' : World) : Prop :=
  ∃ b bs cx X pv, e = .returned (.pointer (some ⟨b, 0, none⟩)) ∧ DiskAt w' b D bs cx X pv ∧ (∀ x ∈ dfp b bs pv, w.heap.size ≤ x) ∧ Kept [] w w'

theorem empty_row (w : World) (e : TypeId) (size : Nat) : (w.alloc (.cells #[] e)).ownsRow 0 e size (.slice (some ⟨w.heap.size, 0, none⟩) 0 0) 0 [] :=
  World.ownsRow_made w #[] 0 (Nat.zero_le _) (by unfold maxLen; omega) (by simp)

theorem fork_end (w Y Z : World) (gb g1 cap1 : Nat) (D : DD) (v2 : Value) (ok : D.Ok) (e1 : Y.ownsRow 0 128 256 (.slice (some ⟨g1, 0, none⟩) D.secs.length cap1) D.secs.length (secsV D.secs))
    (e2 : Y.ownsRow 0 130 257 v2 D.pend.length (pendsV D.pend)) (hb2 : ∀ g, v2.ownBlock = some g → g ≠ g1 ∧ w.heap.size ≤ g)
    (hbz : Z.heap[gb]? = some (.cells (Value.agg #[.slice (some ⟨g1, 0, none⟩) D.secs.length cap1, v2]).cells 111 (0, 0))) (kZ : Kept [] Y Z) (hgb : gb = Y.heap.size) (kY : Kept [] w Y) (hge : w.heap.size ≤ g1) (hl : g1 < Y.heap.size) :
    ForkPost w D (.returned (.pointer (some ⟨gb, 0, none⟩))) Z := by
  obtain ⟨X, hX⟩ := owns_block e1
  refine ⟨gb, g1, cap1, X, v2, rfl, ⟨ok, hbz, (kZ.block g1 hl (by simp)).trans hX, owns_kept e2 kZ (by simp), by omega, fun g hg => ⟨?_, (hb2 g hg).1⟩⟩, ?_, kY.trans kZ (by simp)⟩
  · have := (e2.lt g hg).2
    omega
  · have hz := kY.size
    intro x hx
    simp only [dfp, List.mem_cons, Option.mem_toList] at hx
    rcases hx with rfl | rfl | hx
    · omega
    · exact hge
    · exact (hb2 x hx).2

set_option maxHeartbeats 2000000 in
set_option maxRecDepth 100000 in
theorem Dk.fork (b bs cx : Nat) (X : List Value) (D : DD) (pv : Value) (w : World) (h : DiskAt w b D bs cx X pv) (hroom : D.pend.length < 2 ^ 32) :
    Calls Tryd.prog 45 #[.pointer (some ⟨b, 0, none⟩)] w (ForkPost w D) := by
  have h0 := h.c0
  have h1 := h.c1
  have lb := lt_of_block h.hb
  have H := Lib.hid h
  clear h
  have hrow : ∀ w', Kept [] w w' → Src Tryd.prog 256 106 (.slice (some ⟨bs, 0, none⟩) D.secs.length cx) D.secs.length (secsV D.secs) w' ∧ Src Tryd.prog 257 109 pv D.pend.length (pendsV D.pend) w' ∧
      w'.cell? ⟨b, 0, none⟩ = some (.slice (some ⟨bs, 0, none⟩) D.secs.length cx) ∧ w'.cell? ⟨b, 1, none⟩ = some pv := fun w' hk => by
    have hd := H.out.kept hk (by simp)
    exact ⟨Src.ofSlice w' Tryd.underlying106 ⟨bs, 0, none⟩ _ cx _ hd.ok.lenSecs (cells_from hd.hs 0 _ (by simp)) one_secsV, Src.ofOwns Tryd.underlying109 hd.hp one_pendsV, hd.c0, hd.c1⟩
  have HR := Lib.hid hrow
  clear hrow
  go_enter Tryd.func45, Tryd.ntmps45
  go_wp2
  have hS0 : w.drew.cell? ⟨b, 0, none⟩ = some (.slice (some ⟨bs, 0, none⟩) D.secs.length cx) ∧ w.drew.cell? ⟨b, 1, none⟩ = some pv := ⟨h0, h1⟩
  refine wp_region_T 17 (fun w' => w'.cell? ⟨b, 0, none⟩ = some (.slice (some ⟨bs, 0, none⟩) D.secs.length cx) ∧ w'.cell? ⟨b, 1, none⟩ = some pv) (by kernel_rfl) (by simp) (by kernel_rfl) ?_
  refine wpT_take (i := 1) (v := ?_) rfl (by kernel_rfl) (fun _ _ _ h => h) (by assumption) (.inl ⟨rfl, ?_⟩) ?_
  rotate_left
  · intro w' hS; obtain ⟨hS1, hS2⟩ := hS; go_simp; try with_reducible rfl
  simp only [Act.put, List.setIfInBounds_toArray, List.set_cons_zero, List.set_cons_succ]
  refine wpT_take (i := 2) (v := ?_) rfl (by kernel_rfl) (fun _ _ _ h => h) (by assumption) (.inl ⟨rfl, ?_⟩) ?_
  rotate_left
  · intro w' hS; obtain ⟨hS1, hS2⟩ := hS; go_simp; try with_reducible rfl
  simp only [Act.put, List.setIfInBounds_toArray, List.set_cons_zero, List.set_cons_succ]
  refine wpT_take (i := 3) (v := ?_) rfl (by kernel_rfl) (fun _ _ _ h => h) (by assumption) (.inl ⟨rfl, ?_⟩) ?_
  rotate_left
  · intro w' hS; obtain ⟨hS1, hS2⟩ := hS; go_simp; try with_reducible rfl
  simp only [Act.put, List.setIfInBounds_toArray, List.set_cons_zero, List.set_cons_succ]
  refine wpT_take (i := 4) (v := ?_) rfl (by kernel_rfl) (fun _ _ _ h => h) (by assumption) (.inl ⟨rfl, ?_⟩) ?_
  rotate_left
  · intro w' hS; obtain ⟨hS1, hS2⟩ := hS; go_simp; try with_reducible rfl
  simp only [Act.put, List.setIfInBounds_toArray, List.set_cons_zero, List.set_cons_succ]
  refine wpT_take (i := 5) (v := ?_) rfl (by kernel_rfl) (fun _ _ _ h => h) (by assumption) (.inl ⟨rfl, ?_⟩) ?_
  rotate_left
  · intro w' hS; obtain ⟨hS1, hS2⟩ := hS; go_simp; try with_reducible rfl
  simp only [Act.put, List.setIfInBounds_toArray, List.set_cons_zero, List.set_cons_succ]
  refine wpT_take (i := 9) (v := ?_) rfl (by kernel_rfl) (fun _ _ _ h => h) (by assumption) (.inl ⟨rfl, ?_⟩) ?_
  rotate_left
  · intro w' hS; obtain ⟨hS1, hS2⟩ := hS; go_simp; try with_reducible rfl
  simp only [Act.put, List.setIfInBounds_toArray, List.set_cons_zero, List.set_cons_succ]
  refine wpT_take (i := 10) (v := ?_) rfl (by kernel_rfl) (fun _ _ _ h => h) (by assumption) (.inl ⟨rfl, ?_⟩) ?_
  rotate_left
  · intro w' hS; obtain ⟨hS1, hS2⟩ := hS; go_simp; try with_reducible rfl
  simp only [Act.put, List.setIfInBounds_toArray, List.set_cons_zero, List.set_cons_succ]
  refine wpT_take (i := 11) (v := ?_) rfl (by kernel_rfl) (fun _ _ _ h => h) (by assumption) (.inl ⟨rfl, ?_⟩) ?_
  rotate_left
  · intro w' hS; obtain ⟨hS1, hS2⟩ := hS; go_simp; try with_reducible rfl
  simp only [Act.put, List.setIfInBounds_toArray, List.set_cons_zero, List.set_cons_succ]
  refine wpT_take (i := 12) (v := ?_) rfl (by kernel_rfl) (fun _ _ _ h => h) (by assumption) (.inl ⟨rfl, ?_⟩) ?_
  rotate_left
  · intro w' hS; obtain ⟨hS1, hS2⟩ := hS; go_simp; try with_reducible rfl
  simp only [Act.put, List.setIfInBounds_toArray, List.set_cons_zero, List.set_cons_succ]
  have k0 : Kept [] w w.drew := (Kept.refl _ _).drew
  refine wpT_two (i := 0) (j := 8) rfl rfl rfl rfl (by kernel_rfl) (fun K hK => ?_) (fun K hK => ?_)
  · skip
    refine wp_empty_k _ rfl Dk.elemS ?_
    intro g3 W1 e3 qW1 hg3 hl3
    try simp only [heap_drew] at hg3
    have k1 := k0.trans qW1 (by simp)
    have hSn := (HR.out _ k1).2.2
    refine hK _ _ _ (fun _ h => h) hSn ?_
    clear hK K
    simp only [Act.put, List.setIfInBounds_toArray, List.set_cons_zero, List.set_cons_succ]
    refine wpT_two (i := 6) (j := 8) rfl rfl rfl rfl (by kernel_rfl) (fun K hK => ?_) (fun K hK => ?_)
    · skip
      refine wp_append_k (v := .slice (some ⟨g3, 0, none⟩) 0 0) (x := .slice (some ⟨bs, 0, none⟩) D.secs.length cx) (.tmp 3) (.tmp 8) _ _ rfl Dk.elemS rfl e3 rfl (HR.out _ k1).1 (by have := H.out.ok.max; unfold maxLen; omega) (by have := H.out.ok.max; omega) (Nat.zero_le _) ?_
      intro v1 W2 hA
      have hp := H.out.ok.pos
      obtain ⟨g1, cap1, rfl, hg1, hl1⟩ := hA.slice (by omega)
      have e1 := hA.own
      simp only [Nat.zero_add, List.nil_append] at e1
      have hz1 := k1.size
      simp only [Value.ownBlock, Option.some.injEq] at hg1
      have hge1 : w.heap.size ≤ g1 := by rcases hg1 with h | h <;> omega
      have k2 : Kept [] w W2 := k1.trans hA.kept (by simp [Value.ownBlock]; omega)
      have hSn := (HR.out _ k2).2.2
      refine hK _ _ _ (fun _ h => h) hSn ?_
      clear hK K hA
      simp only [Act.put, List.setIfInBounds_toArray, List.set_cons_zero, List.set_cons_succ]
      refine wpT_take (i := 7) (v := ?_) rfl (by kernel_rfl) (fun _ _ _ h => h) (by assumption) (.inl ⟨rfl, ?_⟩) ?_
      rotate_left
      · intro w' hS; go_simp; try with_reducible rfl
      simp only [Act.put, List.setIfInBounds_toArray, List.set_cons_zero, List.set_cons_succ]
      refine wpT_one (i := 8) rfl rfl (by kernel_rfl) (fun K hK => ?_)
      refine wp_empty_k _ rfl Dk.elemW ?_
      intro g8 W3 e8 qW3 hg8 hl8
      try simp only [heap_drew] at hg8
      have k3 := k2.trans qW3 (by simp)
      replace e1 := owns_kept e1 qW3 (by simp)
      have hSn := (HR.out _ k3).2.2
      refine hK _ _ _ (fun _ h => h) hSn ?_
      clear hK K
      simp only [Act.put, List.setIfInBounds_toArray, List.set_cons_zero, List.set_cons_succ]
      have hne : g8 ≠ g1 := by omega
      replace hl1 := Nat.lt_of_lt_of_le hl1 qW3.size
      have hzz := k2.size
      refine wpT_one (i := 13) rfl rfl (by kernel_rfl) (fun K hK => ?_)
      refine wp_append_k (v := .slice (some ⟨g8, 0, none⟩) 0 0) (x := pv) (.tmp 11) (.tmp 15) _ _ rfl Dk.elemW rfl e8 rfl (HR.out _ k3).2.1 (by unfold maxLen; omega) (by omega) (Nat.zero_le _) ?_
      intro v2 Y hB
      have e2 := hB.own
      simp only [Nat.zero_add, List.nil_append] at e2
      obtain ⟨p2, c2, rfl⟩ := owns_slice e2
      have hb2 : ∀ g, (Value.slice p2 D.pend.length c2).ownBlock = some g → g ≠ g1 ∧ w.heap.size ≤ g := fun g hg => by
        have hz := k3.size
        rcases hB.blk g hg with h | h
        · simp only [Value.ownBlock, Option.some.injEq] at h; omega
        · omega
      have kY : Kept [] w Y := k3.trans hB.kept (by have hz := k3.size; simp [Value.ownBlock]; omega)
      replace e1 := owns_kept e1 hB.kept (by intro g hg; simp only [Value.ownBlock, Option.some.injEq, Option.toList_some, List.mem_singleton] at hg ⊢; omega)
      have hlY := Nat.lt_of_lt_of_le hl1 hB.kept.size
      have hSn := (HR.out _ kY).2.2
      refine hK _ _ _ (fun _ h => h) hSn ?_
      clear hK K hB
      simp only [Act.put, List.setIfInBounds_toArray, List.set_cons_zero, List.set_cons_succ]
      refine wpT_take (i := 14) (v := ?_) rfl (by kernel_rfl) (fun _ _ _ h => h) (by assumption) (.inl ⟨rfl, ?_⟩) ?_
      rotate_left
      · intro w' hS; go_simp; try with_reducible rfl
      simp only [Act.put, List.setIfInBounds_toArray, List.set_cons_zero, List.set_cons_succ]
      refine wpT_one (i := 15) rfl rfl (by kernel_rfl) (fun K hK => ?_)
      refine wp_box_k _ (.tmp 17) rfl (.agg #[.slice (some ⟨g1, 0, none⟩) D.secs.length cap1, .slice p2 D.pend.length c2]) rfl ?_
      intro gb Z hbz kZ hgb; have HGB := Lib.hid hgb; clear hgb
      have hSn := (HR.out _ (kY.trans kZ (by simp))).2.2
      refine hK _ _ _ (fun _ h => h) hSn ?_
      clear hK K
      simp only [Act.put, List.setIfInBounds_toArray, List.set_cons_zero, List.set_cons_succ]
      refine wpT_take (i := 16) (v := ?_) rfl (by kernel_rfl) (fun _ _ _ h => h) (by assumption) (.inl ⟨rfl, ?_⟩) ?_
      rotate_left
      · intro w' hS; go_simp; try with_reducible rfl
      simp only [Act.put, List.setIfInBounds_toArray, List.set_cons_zero, List.set_cons_succ]
      refine wpT_done (by kernel_rfl) ?_
      simp only [List.drop_succ_cons, List.drop_zero, List.drop_nil]
      have E1 := Lib.hid e1
      have E2 := Lib.hid e2
      have HB := Lib.hid hb2
      have HZ := Lib.hid hbz
      clear hb2 hbz e1 e2
      go_wp2
      go_ret
      exact fork_end w Y Z gb g1 cap1 D (.slice p2 D.pend.length c2) H.out.ok E1.out E2.out HB.out HZ.out kZ HGB.out kY hge1 hlY
    · skip
      refine wp_empty_k _ rfl Dk.elemW ?_
      intro g8 W2 e8 qW2 hg8 hl8
      try simp only [heap_drew] at hg8
      have k2 := k1.trans qW2 (by simp)
      replace e3 := owns_kept e3 qW2 (by simp)
      have hSn := (HR.out _ k2).2.2
      refine hK _ _ _ (fun _ h => h) hSn ?_
      clear hK K
      simp only [Act.put, List.setIfInBounds_toArray, List.set_cons_zero, List.set_cons_succ]
      refine wpT_one (i := 6) rfl rfl (by kernel_rfl) (fun K hK => ?_)
      have hz2 := qW2.size
      have hz1' := k1.size
      refine wp_append_k (v := .slice (some ⟨g3, 0, none⟩) 0 0) (x := .slice (some ⟨bs, 0, none⟩) D.secs.length cx) (.tmp 3) (.tmp 8) _ _ rfl Dk.elemS rfl e3 rfl (HR.out _ k2).1 (by have := H.out.ok.max; unfold maxLen; omega) (by have := H.out.ok.max; omega) (Nat.zero_le _) ?_
      intro v1 W3 hA
      have hp := H.out.ok.pos
      obtain ⟨g1, cap1, rfl, hg1, hl1⟩ := hA.slice (by omega)
      have e1 := hA.own
      simp only [Nat.zero_add, List.nil_append] at e1
      have hz1 := k2.size
      simp only [Value.ownBlock, Option.some.injEq] at hg1
      have hge1 : w.heap.size ≤ g1 := by rcases hg1 with h | h <;> omega
      have k3 : Kept [] w W3 := k2.trans hA.kept (by simp [Value.ownBlock]; omega)
      replace e8 := owns_kept e8 hA.kept (by intro g hg; simp only [Value.ownBlock, Option.some.injEq, Option.toList_some, List.mem_singleton] at hg ⊢; omega)
      have hne : g8 ≠ g1 := by omega
      replace hl8 := Nat.lt_of_lt_of_le hl8 hA.kept.size
      have hSn := (HR.out _ k3).2.2
      refine hK _ _ _ (fun _ h => h) hSn ?_
      clear hK K hA
      simp only [Act.put, List.setIfInBounds_toArray, List.set_cons_zero, List.set_cons_succ]
      refine wpT_take (i := 7) (v := ?_) rfl (by kernel_rfl) (fun _ _ _ h => h) (by assumption) (.inl ⟨rfl, ?_⟩) ?_
      rotate_left
      · intro w' hS; go_simp; try with_reducible rfl
      simp only [Act.put, List.setIfInBounds_toArray, List.set_cons_zero, List.set_cons_succ]
      refine wpT_one (i := 13) rfl rfl (by kernel_rfl) (fun K hK => ?_)
      refine wp_append_k (v := .slice (some ⟨g8, 0, none⟩) 0 0) (x := pv) (.tmp 11) (.tmp 15) _ _ rfl Dk.elemW rfl e8 rfl (HR.out _ k3).2.1 (by unfold maxLen; omega) (by omega) (Nat.zero_le _) ?_
      intro v2 Y hB
      have e2 := hB.own
      simp only [Nat.zero_add, List.nil_append] at e2
      obtain ⟨p2, c2, rfl⟩ := owns_slice e2
      have hb2 : ∀ g, (Value.slice p2 D.pend.length c2).ownBlock = some g → g ≠ g1 ∧ w.heap.size ≤ g := fun g hg => by
        have hz := k3.size
        rcases hB.blk g hg with h | h
        · simp only [Value.ownBlock, Option.some.injEq] at h; omega
        · omega
      have kY : Kept [] w Y := k3.trans hB.kept (by have hz := k3.size; simp [Value.ownBlock]; omega)
      replace e1 := owns_kept e1 hB.kept (by intro g hg; simp only [Value.ownBlock, Option.some.injEq, Option.toList_some, List.mem_singleton] at hg ⊢; omega)
      have hlY := Nat.lt_of_lt_of_le hl1 hB.kept.size
      have hSn := (HR.out _ kY).2.2
      refine hK _ _ _ (fun _ h => h) hSn ?_
      clear hK K hB
      simp only [Act.put, List.setIfInBounds_toArray, List.set_cons_zero, List.set_cons_succ]
      refine wpT_take (i := 14) (v := ?_) rfl (by kernel_rfl) (fun _ _ _ h => h) (by assumption) (.inl ⟨rfl, ?_⟩) ?_
      rotate_left
      · intro w' hS; go_simp; try with_reducible rfl
      simp only [Act.put, List.setIfInBounds_toArray, List.set_cons_zero, List.set_cons_succ]
      refine wpT_one (i := 15) rfl rfl (by kernel_rfl) (fun K hK => ?_)
      refine wp_box_k _ (.tmp 17) rfl (.agg #[.slice (some ⟨g1, 0, none⟩) D.secs.length cap1, .slice p2 D.pend.length c2]) rfl ?_
      intro gb Z hbz kZ hgb; have HGB := Lib.hid hgb; clear hgb
      have hSn := (HR.out _ (kY.trans kZ (by simp))).2.2
      refine hK _ _ _ (fun _ h => h) hSn ?_
      clear hK K
      simp only [Act.put, List.setIfInBounds_toArray, List.set_cons_zero, List.set_cons_succ]
      refine wpT_take (i := 16) (v := ?_) rfl (by kernel_rfl) (fun _ _ _ h => h) (by assumption) (.inl ⟨rfl, ?_⟩) ?_
      rotate_left
      · intro w' hS; go_simp; try with_reducible rfl
      simp only [Act.put, List.setIfInBounds_toArray, List.set_cons_zero, List.set_cons_succ]
      refine wpT_done (by kernel_rfl) ?_
      simp only [List.drop_succ_cons, List.drop_zero, List.drop_nil]
      have E1 := Lib.hid e1
      have E2 := Lib.hid e2
      have HB := Lib.hid hb2
      have HZ := Lib.hid hbz
      clear hb2 hbz e1 e2
      go_wp2
      go_ret
      exact fork_end w Y Z gb g1 cap1 D (.slice p2 D.pend.length c2) H.out.ok E1.out E2.out HB.out HZ.out kZ HGB.out kY hge1 hlY
  · skip
    refine wp_empty_k _ rfl Dk.elemW ?_
    intro g8 W1 e8 qW1 hg8 hl8
    try simp only [heap_drew] at hg8
    have k1 := k0.trans qW1 (by simp)
    have hSn := (HR.out _ k1).2.2
    refine hK _ _ _ (fun _ h => h) hSn ?_
    clear hK K
    simp only [Act.put, List.setIfInBounds_toArray, List.set_cons_zero, List.set_cons_succ]
    refine wpT_one (i := 0) rfl rfl (by kernel_rfl) (fun K hK => ?_)
    refine wp_empty_k _ rfl Dk.elemS ?_
    intro g3 W2 e3 qW2 hg3 hl3
    try simp only [heap_drew] at hg3
    have k2 := k1.trans qW2 (by simp)
    replace e8 := owns_kept e8 qW2 (by simp)
    have hSn := (HR.out _ k2).2.2
    refine hK _ _ _ (fun _ h => h) hSn ?_
    clear hK K
    simp only [Act.put, List.setIfInBounds_toArray, List.set_cons_zero, List.set_cons_succ]
    have hl80 := hl8
    replace hl8 := Nat.lt_of_lt_of_le hl8 qW2.size
    have hz2 := qW2.size
    have hz1' := k1.size
    refine wpT_one (i := 6) rfl rfl (by kernel_rfl) (fun K hK => ?_)
    refine wp_append_k (v := .slice (some ⟨g3, 0, none⟩) 0 0) (x := .slice (some ⟨bs, 0, none⟩) D.secs.length cx) (.tmp 3) (.tmp 8) _ _ rfl Dk.elemS rfl e3 rfl (HR.out _ k2).1 (by have := H.out.ok.max; unfold maxLen; omega) (by have := H.out.ok.max; omega) (Nat.zero_le _) ?_
    intro v1 W3 hA
    have hp := H.out.ok.pos
    obtain ⟨g1, cap1, rfl, hg1, hl1⟩ := hA.slice (by omega)
    have e1 := hA.own
    simp only [Nat.zero_add, List.nil_append] at e1
    have hz1 := k2.size
    simp only [Value.ownBlock, Option.some.injEq] at hg1
    have hge1 : w.heap.size ≤ g1 := by rcases hg1 with h | h <;> omega
    have k3 : Kept [] w W3 := k2.trans hA.kept (by simp [Value.ownBlock]; omega)
    replace e8 := owns_kept e8 hA.kept (by intro g hg; simp only [Value.ownBlock, Option.some.injEq, Option.toList_some, List.mem_singleton] at hg ⊢; omega)
    have hne : g8 ≠ g1 := by omega
    replace hl8 := Nat.lt_of_lt_of_le hl8 hA.kept.size
    have hSn := (HR.out _ k3).2.2
    refine hK _ _ _ (fun _ h => h) hSn ?_
    clear hK K hA
    simp only [Act.put, List.setIfInBounds_toArray, List.set_cons_zero, List.set_cons_succ]
    refine wpT_take (i := 7) (v := ?_) rfl (by kernel_rfl) (fun _ _ _ h => h) (by assumption) (.inl ⟨rfl, ?_⟩) ?_
    rotate_left
    · intro w' hS; go_simp; try with_reducible rfl
    simp only [Act.put, List.setIfInBounds_toArray, List.set_cons_zero, List.set_cons_succ]
    refine wpT_one (i := 13) rfl rfl (by kernel_rfl) (fun K hK => ?_)
    refine wp_append_k (v := .slice (some ⟨g8, 0, none⟩) 0 0) (x := pv) (.tmp 11) (.tmp 15) _ _ rfl Dk.elemW rfl e8 rfl (HR.out _ k3).2.1 (by unfold maxLen; omega) (by omega) (Nat.zero_le _) ?_
    intro v2 Y hB
    have e2 := hB.own
    simp only [Nat.zero_add, List.nil_append] at e2
    obtain ⟨p2, c2, rfl⟩ := owns_slice e2
    have hb2 : ∀ g, (Value.slice p2 D.pend.length c2).ownBlock = some g → g ≠ g1 ∧ w.heap.size ≤ g := fun g hg => by
      have hz := k3.size
      rcases hB.blk g hg with h | h
      · simp only [Value.ownBlock, Option.some.injEq] at h; omega
      · omega
    have kY : Kept [] w Y := k3.trans hB.kept (by have hz := k3.size; simp [Value.ownBlock]; omega)
    replace e1 := owns_kept e1 hB.kept (by intro g hg; simp only [Value.ownBlock, Option.some.injEq, Option.toList_some, List.mem_singleton] at hg ⊢; omega)
    have hlY := Nat.lt_of_lt_of_le hl1 hB.kept.size
    have hSn := (HR.out _ kY).2.2
    refine hK _ _ _ (fun _ h => h) hSn ?_
    clear hK K hB
    simp only [Act.put, List.setIfInBounds_toArray, List.set_cons_zero, List.set_cons_succ]
    refine wpT_take (i := 14) (v := ?_) rfl (by kernel_rfl) (fun _ _ _ h => h) (by assumption) (.inl ⟨rfl, ?_⟩) ?_
    rotate_left
    · intro w' hS; go_simp; try with_reducible rfl
    simp only [Act.put, List.setIfInBounds_toArray, List.set_cons_zero, List.set_cons_succ]
    refine wpT_one (i := 15) rfl rfl (by kernel_rfl) (fun K hK => ?_)
    refine wp_box_k _ (.tmp 17) rfl (.agg #[.slice (some ⟨g1, 0, none⟩) D.secs.length cap1, .slice p2 D.pend.length c2]) rfl ?_
    intro gb Z hbz kZ hgb; have HGB := Lib.hid hgb; clear hgb
    have hSn := (HR.out _ (kY.trans kZ (by simp))).2.2
    refine hK _ _ _ (fun _ h => h) hSn ?_
    clear hK K
    simp only [Act.put, List.setIfInBounds_toArray, List.set_cons_zero, List.set_cons_succ]
    refine wpT_take (i := 16) (v := ?_) rfl (by kernel_rfl) (fun _ _ _ h => h) (by assumption) (.inl ⟨rfl, ?_⟩) ?_
    rotate_left
    · intro w' hS; go_simp; try with_reducible rfl
    simp only [Act.put, List.setIfInBounds_toArray, List.set_cons_zero, List.set_cons_succ]
    refine wpT_done (by kernel_rfl) ?_
    simp only [List.drop_succ_cons, List.drop_zero, List.drop_nil]
    have E1 := Lib.hid e1
    have E2 := Lib.hid e2
    have HB := Lib.hid hb2
    have HZ := Lib.hid hbz
    clear hb2 hbz e1 e2
    go_wp2
    go_ret
    exact fork_end w Y Z gb g1 cap1 D (.slice p2 D.pend.length c2) H.out.ok E1.out E2.out HB.out HZ.out kZ HGB.out kY hge1 hlY
end Go.Proofs.YtjjhbpjbngdlnaaDoor
