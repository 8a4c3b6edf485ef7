/- The statements' own page (annalsref03): Bytes. Conditions: sizes. -/
import Derived.Test.YtjjhbpjbngdlnaaDoorRcB
import Derived.Test.YtjjhbpjbngdlnaaDoorPgH
namespace Go.Proofs.YtjjhbpjbngdlnaaDoor
open Go.RowKit

set_option maxHeartbeats 4000000 in
set_option maxRecDepth 100000 in
theorem Rc.bytes (B : Base) (q : Option Addr) (n c : Nat) (recs : List (List UInt8)) (mark : Int) (hn : n = recs.length) (hu : usedR recs ≤ 243) (hle : ∀ b ∈ recs, b.length ≤ 200) : Fn Tryd.prog B 57 #[.agg #[.slice q n c, .int .i64 mark]] [strR q n c recs] (fun v l => v = .string (strOf (pgBytes recs mark)) ∧ l = [strR q n c recs]) := by
  have hlu := len_used recs
  refine Fn.enter1 51 Tryd.func57 rfl rfl (Nat.le_of_ble_eq_true rfl) (fun F => ?_)
  try simp only [List.cons_append, List.nil_append]
  refine T.own (fun w ho => ?_)
  have hq : 0 < n → ∃ g, q = some ⟨g, 0, none⟩ := (ho.slice_at (p := q) (m := n) (c := c)).2.1
  clear ho
  refine T.seq ?_
  refine T.region ?_
  refine LW.e rfl (Ef.box [_, _] rfl rfl ?_)
  intro g1
  refine LW.q rfl (Qt.assign rfl) ?_
  refine LW.done ?_
  refine T.seq ?_
  refine T.drawAll 11 (by kernel_rfl) (Nat.le_of_ble_eq_true rfl) (by kernel_rfl) ?_
  refine RW.q 0 rfl rfl (by kernel_rfl) (Sub.refl _) (Qt.fieldAddr (off := 1) (by kernel_rfl) rfl) ?_
  first | refine RW.q 1 rfl rfl (by kernel_rfl) (Sub.refl _) (Qt.load (by kernel_rfl) rfl rfl) ?_ | refine RW.q 1 rfl rfl (by kernel_rfl) (Sub.refl _) (Qt.load (by kernel_rfl) rfl (map_at _ _ _ (by omega))) ?_ | refine RW.q 1 rfl rfl (by kernel_rfl) (Sub.refl _) (Qt.load (by kernel_rfl) rfl (flat_cell0 _ _ _ (by intros; rfl) _ (by omega) (by rfl))) ?_ | refine RW.q 1 rfl rfl (by kernel_rfl) (Sub.refl _) (Qt.load (by kernel_rfl) rfl (flat_cell _ _ _ (by intros; rfl) _ _ (by omega) (by rfl))) ?_ | refine RW.q 1 rfl rfl (by kernel_rfl) (Sub.refl _) (Qt.load (by kernel_rfl) rfl (bytes_at _ _ (by omega))) ?_
  refine RW.q 2 rfl rfl (by kernel_rfl) (Sub.refl _) (Qt.convI (by kernel_rfl) (by kernel_rfl) rfl (wru64_i64 _)) ?_
  refine RW.q 4 rfl rfl (by kernel_rfl) (Sub.refl _) (Qt.fieldAddr0 (by kernel_rfl) rfl) ?_
  first | refine RW.q 5 rfl rfl (by kernel_rfl) (Sub.refl _) (Qt.load (by kernel_rfl) rfl rfl) ?_ | refine RW.q 5 rfl rfl (by kernel_rfl) (Sub.refl _) (Qt.load (by kernel_rfl) rfl (map_at _ _ _ (by omega))) ?_ | refine RW.q 5 rfl rfl (by kernel_rfl) (Sub.refl _) (Qt.load (by kernel_rfl) rfl (flat_cell0 _ _ _ (by intros; rfl) _ (by omega) (by rfl))) ?_ | refine RW.q 5 rfl rfl (by kernel_rfl) (Sub.refl _) (Qt.load (by kernel_rfl) rfl (flat_cell _ _ _ (by intros; rfl) _ _ (by omega) (by rfl))) ?_ | refine RW.q 5 rfl rfl (by kernel_rfl) (Sub.refl _) (Qt.load (by kernel_rfl) rfl (bytes_at _ _ (by omega))) ?_
  refine RW.q 6 rfl rfl (by kernel_rfl) (Sub.refl _) (Qt.len (e := 9) (sz := 1) (by kernel_rfl) rfl) ?_
  refine RW.q 7 rfl rfl (by kernel_rfl) (Sub.refl _) (Qt.convI (by kernel_rfl) (by kernel_rfl) rfl (wr8_nat _)) ?_
  refine RW.all [3, 8] (by kernel_rfl) (List.forall_mem_cons.2 ⟨?_, List.forall_mem_cons.2 ⟨?_, List.forall_mem_nil _⟩⟩)
  · skip
    refine RO.e rfl rfl (Ef.call (Rc.number B (UInt64.ofInt mark) 8 8 rfl (by omega)) Tryd.func54 rfl rfl rfl ?_)
    rintro _ _ ⟨rfl, rfl⟩
    try simp only [List.cons_append, List.nil_append]
    refine ⟨Sub.any, ?_⟩
    refine RW.one 8 (by kernel_rfl) ?_
    refine RO.e rfl rfl (Ef.one [_] (e := 5) (sz := 1) (by kernel_rfl) ⟨.int .u8 0, by kernel_rfl, rfl⟩ rfl rfl rfl (by omega) (by omega) ?_)
    intro g13
    refine ⟨Sub.any, ?_⟩
    refine RW.q 9 rfl rfl (by kernel_rfl) (Sub.refl _) (Qt.str [UInt8.ofNat n] (by kernel_rfl) (by kernel_rfl) rfl (fun w ho => (rdv_blk (g := g13) (n := 1) (c := 1) rfl rfl).reads w ho)) ?_
    refine RW.q 10 rfl rfl (by kernel_rfl) (Sub.refl _) (Qt.addS rfl rfl (by simp [length_be])) ?_
    refine RW.done (by rfl) ?_
    simp only [List.drop_succ_cons, List.drop_zero, List.drop_nil]
    refine LW.q rfl (Qt.assign rfl) ?_
    refine LW.done ?_
    refine T.seq ?_
    refine T.seq ?_
    refine T.region ?_
    refine LW.q rfl (Qt.assign rfl) ?_
    refine LW.done ?_
    refine T.block ?_
    refine T.loop (fun mz fz lz => ∃ (f0 : Fr) (k : Nat) (acc : List UInt8), (k ≤ n ∧ acc = pgHead n mark ++ recBytes (recs.take k)) ∧ mz = n - k ∧ fz = (upd (upd (upd f0 1 (.pointer (some ⟨g1, 0, none⟩))) 3 (.string (strOf acc))) 4 (.int .i64 k)) ∧ lz = blk g1 [.slice q n c, .int .i64 mark] 38 :: strR q n c recs :: F) ?_ ?_
    · refine ⟨_, _, ⟨_, 0, pgHead n mark, ⟨Nat.zero_le _, by simp [recBytes]⟩, rfl, (updS rfl (updS rfl (updS rfl rfl))), rfl⟩, Sub.any⟩
    · skip
      rintro mz fz lz ⟨f0, k, acc, ⟨hk, hacc⟩, hmz, rfl, rfl⟩
      subst mz
      try simp only [List.cons_append, List.nil_append]
      have hal : acc.length = 9 + usedR (recs.take k) := by rw [hacc]; simp [length_pgHead, length_recBytes]
      have hut := usedR_take recs k
      refine T.seq ?_
      refine T.seq ?_
      refine T.region ?_
      refine LW.q rfl (Qt.move rfl) ?_
      refine LW.q rfl (Qt.fieldAddr0 (by kernel_rfl) rfl) ?_
      first | refine LW.q rfl (Qt.load (by kernel_rfl) rfl rfl) ?_ | refine LW.q rfl (Qt.load (by kernel_rfl) rfl (map_at _ _ _ (by omega))) ?_ | refine LW.q rfl (Qt.load (by kernel_rfl) rfl (flat_cell0 _ _ _ (by intros; rfl) _ (by omega) (by rfl))) ?_ | refine LW.q rfl (Qt.load (by kernel_rfl) rfl (flat_cell _ _ _ (by intros; rfl) _ _ (by omega) (by rfl))) ?_ | refine LW.q rfl (Qt.load (by kernel_rfl) rfl (bytes_at _ _ (by omega))) ?_
      refine LW.q rfl (Qt.len (e := 9) (sz := 1) (by kernel_rfl) rfl) ?_
      refine LW.q rfl (Qt.lss rfl rfl) ?_
      refine LW.done ?_
      refine T.condP rfl (fun hlt => ?_) (fun hlt => ?_)
      · skip
        obtain ⟨gq, rfl⟩ := hq (by omega)
        obtain ⟨b, hb⟩ : ∃ b, recs[k]? = some b := ⟨_, List.getElem?_eq_getElem (by omega)⟩
        have hb2 : recs[k]'(by omega) = b := by have := List.getElem?_eq_getElem (l := recs) (i := k) (by omega); rw [hb] at this; exact (Option.some.inj this).symm
        have hbl := hle b (List.mem_of_getElem? hb)
        refine T.skip ?_
        refine T.seq ?_
        refine T.block ?_
        refine T.drawAll 17 (by kernel_rfl) (Nat.le_of_ble_eq_true rfl) (by kernel_rfl) ?_
        refine RW.q 0 rfl rfl (by kernel_rfl) (Sub.refl _) (Qt.move rfl) ?_
        refine RW.q 1 rfl rfl (by kernel_rfl) (Sub.refl _) (Qt.fieldAddr0 (by kernel_rfl) rfl) ?_
        first | refine RW.q 2 rfl rfl (by kernel_rfl) (Sub.refl _) (Qt.load (by kernel_rfl) rfl rfl) ?_ | refine RW.q 2 rfl rfl (by kernel_rfl) (Sub.refl _) (Qt.load (by kernel_rfl) rfl (map_at _ _ _ (by omega))) ?_ | refine RW.q 2 rfl rfl (by kernel_rfl) (Sub.refl _) (Qt.load (by kernel_rfl) rfl (flat_cell0 _ _ _ (by intros; rfl) _ (by omega) (by rfl))) ?_ | refine RW.q 2 rfl rfl (by kernel_rfl) (Sub.refl _) (Qt.load (by kernel_rfl) rfl (flat_cell _ _ _ (by intros; rfl) _ _ (by omega) (by rfl))) ?_ | refine RW.q 2 rfl rfl (by kernel_rfl) (Sub.refl _) (Qt.load (by kernel_rfl) rfl (bytes_at _ _ (by omega))) ?_
        refine RW.q 3 rfl rfl (by kernel_rfl) (Sub.refl _) (Qt.move rfl) ?_
        refine RW.q 4 rfl rfl (by kernel_rfl) (Sub.refl _) (Qt.index _ (e := 9) (sz := 1) (by kernel_rfl) rfl rfl rfl (by omega)) ?_
        refine RW.q 5 rfl rfl (by kernel_rfl) (Sub.refl _) (Qt.load (v := strV b) (by kernel_rfl) rfl (by simp [hb])) ?_
        first | refine RW.q 6 rfl rfl (by kernel_rfl) (Sub.refl _) (Qt.lenSt (by kernel_rfl) rfl) ?_ | refine RW.q 6 rfl rfl (by kernel_rfl) (Sub.refl _) (Qt.lenS (by kernel_rfl) rfl) ?_
        refine RW.q 7 rfl rfl (by kernel_rfl) (Sub.refl _) (Qt.convI (by kernel_rfl) (by kernel_rfl) rfl (wr8_nat _)) ?_
        refine RW.q 10 rfl rfl (by kernel_rfl) (Sub.refl _) (Qt.fieldAddr0 (by kernel_rfl) rfl) ?_
        first | refine RW.q 11 rfl rfl (by kernel_rfl) (Sub.refl _) (Qt.load (by kernel_rfl) rfl rfl) ?_ | refine RW.q 11 rfl rfl (by kernel_rfl) (Sub.refl _) (Qt.load (by kernel_rfl) rfl (map_at _ _ _ (by omega))) ?_ | refine RW.q 11 rfl rfl (by kernel_rfl) (Sub.refl _) (Qt.load (by kernel_rfl) rfl (flat_cell0 _ _ _ (by intros; rfl) _ (by omega) (by rfl))) ?_ | refine RW.q 11 rfl rfl (by kernel_rfl) (Sub.refl _) (Qt.load (by kernel_rfl) rfl (flat_cell _ _ _ (by intros; rfl) _ _ (by omega) (by rfl))) ?_ | refine RW.q 11 rfl rfl (by kernel_rfl) (Sub.refl _) (Qt.load (by kernel_rfl) rfl (bytes_at _ _ (by omega))) ?_
        refine RW.q 12 rfl rfl (by kernel_rfl) (Sub.refl _) (Qt.move rfl) ?_
        refine RW.q 13 rfl rfl (by kernel_rfl) (Sub.refl _) (Qt.index _ (e := 9) (sz := 1) (by kernel_rfl) rfl rfl rfl (by omega)) ?_
        refine RW.q 14 rfl rfl (by kernel_rfl) (Sub.refl _) (Qt.load (v := strV b) (by kernel_rfl) rfl (by simp [hb])) ?_
        refine RW.one 8 (by kernel_rfl) ?_
        refine RO.e rfl rfl (Ef.one [_] (e := 5) (sz := 1) (by kernel_rfl) ⟨.int .u8 0, by kernel_rfl, rfl⟩ rfl rfl rfl (by omega) (by omega) ?_)
        intro g31
        refine ⟨Sub.any, ?_⟩
        refine RW.q 9 rfl rfl (by kernel_rfl) (Sub.refl _) (Qt.str [UInt8.ofNat b.length] (by kernel_rfl) (by kernel_rfl) rfl (fun w ho => (rdv_blk (g := g31) (n := 1) (c := 1) rfl rfl).reads w ho)) ?_
        refine RW.q 15 rfl rfl (by kernel_rfl) (Sub.refl _) (Qt.addS rfl rfl (by simp; omega)) ?_
        refine RW.q 16 rfl rfl (by kernel_rfl) (Sub.refl _) (Qt.addS rfl rfl (by simp; omega)) ?_
        refine RW.done (by rfl) ?_
        simp only [List.drop_succ_cons, List.drop_zero, List.drop_nil]
        refine LW.q rfl (Qt.assign rfl) ?_
        refine LW.done ?_
        refine T.region ?_
        refine LW.q rfl (Qt.move rfl) ?_
        refine LW.q rfl (Qt.add rfl rfl (wr64 (by omega) (by omega))) ?_
        refine LW.q rfl (Qt.assign rfl) ?_
        refine LW.done ?_
        refine ⟨_, ?_, _, ⟨_, k + 1, acc ++ (UInt8.ofNat b.length :: b), ⟨by omega, by rw [hacc, List.take_succ_eq_append_getElem (by omega), recBytes_snoc, hb2]; simp⟩, rfl, (updS rfl (updS rfl (updS rfl rfl))), rfl⟩, Sub.any⟩
        first | omega | (simp; omega)
      · skip
        obtain rfl : k = n := by omega
        rw [hn, List.take_length] at hal hacc
        refine T.exit ?_
        refine T.seq ?_
        refine T.block ?_
        refine T.loop (fun mz fz lz => ∃ (f0 : Fr) (z : Nat) (acc : List UInt8), (9 + usedR recs + z ≤ 252 ∧ acc = pgHead recs.length mark ++ recBytes recs ++ List.replicate z 0) ∧ mz = 252 - z ∧ fz = (upd f0 3 (.string (strOf acc))) ∧ lz = strR q k c recs :: F) ?_ ?_
        · refine ⟨_, _, ⟨_, 0, acc, ⟨by omega, by rw [hacc]; simp⟩, rfl, (updS rfl rfl), rfl⟩, Sub.any⟩
        · skip
          rintro mz fz lz ⟨f0, z, acc, ⟨hz, hacc2⟩, hmz, rfl, rfl⟩
          subst mz
          try simp only [List.cons_append, List.nil_append]
          have hal2 : acc.length = 9 + usedR recs + z := by rw [hacc2]; simp [length_pgHead, length_recBytes]; omega
          refine T.seq ?_
          refine T.seq ?_
          refine T.region ?_
          refine LW.q rfl (Qt.move rfl) ?_
          first | refine LW.q rfl (Qt.lenSt (by kernel_rfl) rfl) ?_ | refine LW.q rfl (Qt.lenS (by kernel_rfl) rfl) ?_
          refine LW.q rfl (Qt.lss rfl rfl) ?_
          refine LW.done ?_
          refine T.condP rfl (fun hzl => ?_) (fun hzl => ?_)
          · skip
            refine T.skip ?_
            refine T.block ?_
            refine T.region ?_
            refine LW.q rfl (Qt.move rfl) ?_
            refine LW.q rfl (Qt.addS (b := [0]) rfl rfl (by simp; omega)) ?_
            refine LW.q rfl (Qt.assign rfl) ?_
            refine LW.done ?_
            refine ⟨_, ?_, _, ⟨_, z + 1, acc ++ [0], ⟨by omega, by rw [hacc2, List.append_assoc, ← List.replicate_succ']⟩, rfl, (updS rfl rfl), rfl⟩, Sub.any⟩
            first | omega | (simp; omega)
          · skip
            obtain rfl : acc = pgBody recs mark := by rw [hacc2, pgBody, show z = 243 - usedR recs by omega]
            refine T.exit ?_
            refine T.seq ?_
            refine T.region ?_
            refine LW.q rfl (Qt.move rfl) ?_
            refine LW.e rfl (Ef.call (Rc.sum B (pgBody recs mark) (by omega)) Tryd.func55 rfl rfl rfl ?_)
            rintro _ _ ⟨rfl, rfl⟩
            try simp only [List.cons_append, List.nil_append]
            refine LW.q rfl (Qt.convI (by kernel_rfl) (by kernel_rfl) rfl (sumN_nat _)) ?_
            refine LW.e rfl (Ef.call (Rc.number B (sumN (pgBody recs mark)) 4 4 rfl (by omega)) Tryd.func54 rfl rfl rfl ?_)
            rintro _ _ ⟨rfl, rfl⟩
            try simp only [List.cons_append, List.nil_append]
            refine LW.q rfl (Qt.move rfl) ?_
            refine LW.q rfl (Qt.addS rfl rfl (by simp [length_be]; omega)) ?_
            refine LW.q rfl (Qt.assign rfl) ?_
            refine LW.done ?_
            refine T.ret ?_
            exact ⟨.inl rfl, _, _, res [_] rfl ⟨rvT rfl, trivial⟩, ⟨rfl, rfl⟩, Sub.any⟩
  · skip
    refine RO.e rfl rfl (Ef.one [_] (e := 5) (sz := 1) (by kernel_rfl) ⟨.int .u8 0, by kernel_rfl, rfl⟩ rfl rfl rfl (by omega) (by omega) ?_)
    intro g13
    refine ⟨Sub.any, ?_⟩
    refine RW.q 9 rfl rfl (by kernel_rfl) (Sub.refl _) (Qt.str [UInt8.ofNat n] (by kernel_rfl) (by kernel_rfl) rfl (fun w ho => (rdv_blk (g := g13) (n := 1) (c := 1) rfl rfl).reads w ho)) ?_
    refine RW.one 3 (by kernel_rfl) ?_
    refine RO.e rfl rfl (Ef.call (Rc.number B (UInt64.ofInt mark) 8 8 rfl (by omega)) Tryd.func54 rfl rfl rfl ?_)
    rintro _ _ ⟨rfl, rfl⟩
    try simp only [List.cons_append, List.nil_append]
    refine ⟨Sub.any, ?_⟩
    refine RW.q 10 rfl rfl (by kernel_rfl) (Sub.refl _) (Qt.addS rfl rfl (by simp [length_be])) ?_
    refine RW.done (by rfl) ?_
    simp only [List.drop_succ_cons, List.drop_zero, List.drop_nil]
    refine LW.q rfl (Qt.assign rfl) ?_
    refine LW.done ?_
    refine T.seq ?_
    refine T.seq ?_
    refine T.region ?_
    refine LW.q rfl (Qt.assign rfl) ?_
    refine LW.done ?_
    refine T.block ?_
    refine T.loop (fun mz fz lz => ∃ (f0 : Fr) (k : Nat) (acc : List UInt8), (k ≤ n ∧ acc = pgHead n mark ++ recBytes (recs.take k)) ∧ mz = n - k ∧ fz = (upd (upd (upd f0 1 (.pointer (some ⟨g1, 0, none⟩))) 3 (.string (strOf acc))) 4 (.int .i64 k)) ∧ lz = blk g1 [.slice q n c, .int .i64 mark] 38 :: strR q n c recs :: F) ?_ ?_
    · refine ⟨_, _, ⟨_, 0, pgHead n mark, ⟨Nat.zero_le _, by simp [recBytes]⟩, rfl, (updS rfl (updS rfl (updS rfl rfl))), rfl⟩, Sub.any⟩
    · skip
      rintro mz fz lz ⟨f0, k, acc, ⟨hk, hacc⟩, hmz, rfl, rfl⟩
      subst mz
      try simp only [List.cons_append, List.nil_append]
      have hal : acc.length = 9 + usedR (recs.take k) := by rw [hacc]; simp [length_pgHead, length_recBytes]
      have hut := usedR_take recs k
      refine T.seq ?_
      refine T.seq ?_
      refine T.region ?_
      refine LW.q rfl (Qt.move rfl) ?_
      refine LW.q rfl (Qt.fieldAddr0 (by kernel_rfl) rfl) ?_
      first | refine LW.q rfl (Qt.load (by kernel_rfl) rfl rfl) ?_ | refine LW.q rfl (Qt.load (by kernel_rfl) rfl (map_at _ _ _ (by omega))) ?_ | refine LW.q rfl (Qt.load (by kernel_rfl) rfl (flat_cell0 _ _ _ (by intros; rfl) _ (by omega) (by rfl))) ?_ | refine LW.q rfl (Qt.load (by kernel_rfl) rfl (flat_cell _ _ _ (by intros; rfl) _ _ (by omega) (by rfl))) ?_ | refine LW.q rfl (Qt.load (by kernel_rfl) rfl (bytes_at _ _ (by omega))) ?_
      refine LW.q rfl (Qt.len (e := 9) (sz := 1) (by kernel_rfl) rfl) ?_
      refine LW.q rfl (Qt.lss rfl rfl) ?_
      refine LW.done ?_
      refine T.condP rfl (fun hlt => ?_) (fun hlt => ?_)
      · skip
        obtain ⟨gq, rfl⟩ := hq (by omega)
        obtain ⟨b, hb⟩ : ∃ b, recs[k]? = some b := ⟨_, List.getElem?_eq_getElem (by omega)⟩
        have hb2 : recs[k]'(by omega) = b := by have := List.getElem?_eq_getElem (l := recs) (i := k) (by omega); rw [hb] at this; exact (Option.some.inj this).symm
        have hbl := hle b (List.mem_of_getElem? hb)
        refine T.skip ?_
        refine T.seq ?_
        refine T.block ?_
        refine T.drawAll 17 (by kernel_rfl) (Nat.le_of_ble_eq_true rfl) (by kernel_rfl) ?_
        refine RW.q 0 rfl rfl (by kernel_rfl) (Sub.refl _) (Qt.move rfl) ?_
        refine RW.q 1 rfl rfl (by kernel_rfl) (Sub.refl _) (Qt.fieldAddr0 (by kernel_rfl) rfl) ?_
        first | refine RW.q 2 rfl rfl (by kernel_rfl) (Sub.refl _) (Qt.load (by kernel_rfl) rfl rfl) ?_ | refine RW.q 2 rfl rfl (by kernel_rfl) (Sub.refl _) (Qt.load (by kernel_rfl) rfl (map_at _ _ _ (by omega))) ?_ | refine RW.q 2 rfl rfl (by kernel_rfl) (Sub.refl _) (Qt.load (by kernel_rfl) rfl (flat_cell0 _ _ _ (by intros; rfl) _ (by omega) (by rfl))) ?_ | refine RW.q 2 rfl rfl (by kernel_rfl) (Sub.refl _) (Qt.load (by kernel_rfl) rfl (flat_cell _ _ _ (by intros; rfl) _ _ (by omega) (by rfl))) ?_ | refine RW.q 2 rfl rfl (by kernel_rfl) (Sub.refl _) (Qt.load (by kernel_rfl) rfl (bytes_at _ _ (by omega))) ?_
        refine RW.q 3 rfl rfl (by kernel_rfl) (Sub.refl _) (Qt.move rfl) ?_
        refine RW.q 4 rfl rfl (by kernel_rfl) (Sub.refl _) (Qt.index _ (e := 9) (sz := 1) (by kernel_rfl) rfl rfl rfl (by omega)) ?_
        refine RW.q 5 rfl rfl (by kernel_rfl) (Sub.refl _) (Qt.load (v := strV b) (by kernel_rfl) rfl (by simp [hb])) ?_
        first | refine RW.q 6 rfl rfl (by kernel_rfl) (Sub.refl _) (Qt.lenSt (by kernel_rfl) rfl) ?_ | refine RW.q 6 rfl rfl (by kernel_rfl) (Sub.refl _) (Qt.lenS (by kernel_rfl) rfl) ?_
        refine RW.q 7 rfl rfl (by kernel_rfl) (Sub.refl _) (Qt.convI (by kernel_rfl) (by kernel_rfl) rfl (wr8_nat _)) ?_
        refine RW.q 10 rfl rfl (by kernel_rfl) (Sub.refl _) (Qt.fieldAddr0 (by kernel_rfl) rfl) ?_
        first | refine RW.q 11 rfl rfl (by kernel_rfl) (Sub.refl _) (Qt.load (by kernel_rfl) rfl rfl) ?_ | refine RW.q 11 rfl rfl (by kernel_rfl) (Sub.refl _) (Qt.load (by kernel_rfl) rfl (map_at _ _ _ (by omega))) ?_ | refine RW.q 11 rfl rfl (by kernel_rfl) (Sub.refl _) (Qt.load (by kernel_rfl) rfl (flat_cell0 _ _ _ (by intros; rfl) _ (by omega) (by rfl))) ?_ | refine RW.q 11 rfl rfl (by kernel_rfl) (Sub.refl _) (Qt.load (by kernel_rfl) rfl (flat_cell _ _ _ (by intros; rfl) _ _ (by omega) (by rfl))) ?_ | refine RW.q 11 rfl rfl (by kernel_rfl) (Sub.refl _) (Qt.load (by kernel_rfl) rfl (bytes_at _ _ (by omega))) ?_
        refine RW.q 12 rfl rfl (by kernel_rfl) (Sub.refl _) (Qt.move rfl) ?_
        refine RW.q 13 rfl rfl (by kernel_rfl) (Sub.refl _) (Qt.index _ (e := 9) (sz := 1) (by kernel_rfl) rfl rfl rfl (by omega)) ?_
        refine RW.q 14 rfl rfl (by kernel_rfl) (Sub.refl _) (Qt.load (v := strV b) (by kernel_rfl) rfl (by simp [hb])) ?_
        refine RW.one 8 (by kernel_rfl) ?_
        refine RO.e rfl rfl (Ef.one [_] (e := 5) (sz := 1) (by kernel_rfl) ⟨.int .u8 0, by kernel_rfl, rfl⟩ rfl rfl rfl (by omega) (by omega) ?_)
        intro g31
        refine ⟨Sub.any, ?_⟩
        refine RW.q 9 rfl rfl (by kernel_rfl) (Sub.refl _) (Qt.str [UInt8.ofNat b.length] (by kernel_rfl) (by kernel_rfl) rfl (fun w ho => (rdv_blk (g := g31) (n := 1) (c := 1) rfl rfl).reads w ho)) ?_
        refine RW.q 15 rfl rfl (by kernel_rfl) (Sub.refl _) (Qt.addS rfl rfl (by simp; omega)) ?_
        refine RW.q 16 rfl rfl (by kernel_rfl) (Sub.refl _) (Qt.addS rfl rfl (by simp; omega)) ?_
        refine RW.done (by rfl) ?_
        simp only [List.drop_succ_cons, List.drop_zero, List.drop_nil]
        refine LW.q rfl (Qt.assign rfl) ?_
        refine LW.done ?_
        refine T.region ?_
        refine LW.q rfl (Qt.move rfl) ?_
        refine LW.q rfl (Qt.add rfl rfl (wr64 (by omega) (by omega))) ?_
        refine LW.q rfl (Qt.assign rfl) ?_
        refine LW.done ?_
        refine ⟨_, ?_, _, ⟨_, k + 1, acc ++ (UInt8.ofNat b.length :: b), ⟨by omega, by rw [hacc, List.take_succ_eq_append_getElem (by omega), recBytes_snoc, hb2]; simp⟩, rfl, (updS rfl (updS rfl (updS rfl rfl))), rfl⟩, Sub.any⟩
        first | omega | (simp; omega)
      · skip
        obtain rfl : k = n := by omega
        rw [hn, List.take_length] at hal hacc
        refine T.exit ?_
        refine T.seq ?_
        refine T.block ?_
        refine T.loop (fun mz fz lz => ∃ (f0 : Fr) (z : Nat) (acc : List UInt8), (9 + usedR recs + z ≤ 252 ∧ acc = pgHead recs.length mark ++ recBytes recs ++ List.replicate z 0) ∧ mz = 252 - z ∧ fz = (upd f0 3 (.string (strOf acc))) ∧ lz = strR q k c recs :: F) ?_ ?_
        · refine ⟨_, _, ⟨_, 0, acc, ⟨by omega, by rw [hacc]; simp⟩, rfl, (updS rfl rfl), rfl⟩, Sub.any⟩
        · skip
          rintro mz fz lz ⟨f0, z, acc, ⟨hz, hacc2⟩, hmz, rfl, rfl⟩
          subst mz
          try simp only [List.cons_append, List.nil_append]
          have hal2 : acc.length = 9 + usedR recs + z := by rw [hacc2]; simp [length_pgHead, length_recBytes]; omega
          refine T.seq ?_
          refine T.seq ?_
          refine T.region ?_
          refine LW.q rfl (Qt.move rfl) ?_
          first | refine LW.q rfl (Qt.lenSt (by kernel_rfl) rfl) ?_ | refine LW.q rfl (Qt.lenS (by kernel_rfl) rfl) ?_
          refine LW.q rfl (Qt.lss rfl rfl) ?_
          refine LW.done ?_
          refine T.condP rfl (fun hzl => ?_) (fun hzl => ?_)
          · skip
            refine T.skip ?_
            refine T.block ?_
            refine T.region ?_
            refine LW.q rfl (Qt.move rfl) ?_
            refine LW.q rfl (Qt.addS (b := [0]) rfl rfl (by simp; omega)) ?_
            refine LW.q rfl (Qt.assign rfl) ?_
            refine LW.done ?_
            refine ⟨_, ?_, _, ⟨_, z + 1, acc ++ [0], ⟨by omega, by rw [hacc2, List.append_assoc, ← List.replicate_succ']⟩, rfl, (updS rfl rfl), rfl⟩, Sub.any⟩
            first | omega | (simp; omega)
          · skip
            obtain rfl : acc = pgBody recs mark := by rw [hacc2, pgBody, show z = 243 - usedR recs by omega]
            refine T.exit ?_
            refine T.seq ?_
            refine T.region ?_
            refine LW.q rfl (Qt.move rfl) ?_
            refine LW.e rfl (Ef.call (Rc.sum B (pgBody recs mark) (by omega)) Tryd.func55 rfl rfl rfl ?_)
            rintro _ _ ⟨rfl, rfl⟩
            try simp only [List.cons_append, List.nil_append]
            refine LW.q rfl (Qt.convI (by kernel_rfl) (by kernel_rfl) rfl (sumN_nat _)) ?_
            refine LW.e rfl (Ef.call (Rc.number B (sumN (pgBody recs mark)) 4 4 rfl (by omega)) Tryd.func54 rfl rfl rfl ?_)
            rintro _ _ ⟨rfl, rfl⟩
            try simp only [List.cons_append, List.nil_append]
            refine LW.q rfl (Qt.move rfl) ?_
            refine LW.q rfl (Qt.addS rfl rfl (by simp [length_be]; omega)) ?_
            refine LW.q rfl (Qt.assign rfl) ?_
            refine LW.done ?_
            refine T.ret ?_
            exact ⟨.inl rfl, _, _, res [_] rfl ⟨rvT rfl, trivial⟩, ⟨rfl, rfl⟩, Sub.any⟩
end Go.Proofs.YtjjhbpjbngdlnaaDoor
